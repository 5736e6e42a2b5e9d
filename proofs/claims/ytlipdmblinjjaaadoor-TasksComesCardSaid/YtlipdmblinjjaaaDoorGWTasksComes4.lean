/- Walks of single functions, written by a program of this work. -/
import Derived.Test.YtlipdmblinjjaaaDoorGWTasksComes3
namespace Go.Proofs.YtlipdmblinjjaaaDoor.GV
open Go Go.RowKit
set_option linter.unusedVariables false
set_option linter.unusedSimpArgs false
set_option maxRecDepth 100000

/-! punctual/tasks.Legal -/
abbrev tasks_Legal.Post (w0 : World) (r : SFault) (e : Ending) (w : World) : Prop := e = .returned (.agg #[.int .i64 r.Code, .int .i64 r.At]) ∧ St w0 w []
def tasks_Legal.p1 (l0 : List STask) (l1 : List SCome) (i1 : Nat) (m1 : List Int) (e1 : SCome) : Option (Unit ⊕ SFault) :=
    if e1.Task < 0 then
      some (.inr (⟨4, (i1 : Int)⟩ : SFault))
    else
      if e1.Task ≥ (l0.length : Int) then
        some (.inr (⟨4, (i1 : Int)⟩ : SFault))
      else
        if e1.At < 0 then
          some (.inr (⟨3, (i1 : Int)⟩ : SFault))
        else
          if e1.At > 20000 then
            some (.inr (⟨3, (i1 : Int)⟩ : SFault))
          else
            if (i1 : Int) > 0 then
              if 0 ≤ (IntKind.i64.wrap ((i1 : Int) - 1)) then
                match l1[(IntKind.i64.wrap ((i1 : Int) - 1)).toNat]? with
                | none => none
                | some e2 =>
                  if e1.At < e2.At then
                    some (.inr (⟨12, (i1 : Int)⟩ : SFault))
                  else
                    if 0 ≤ e1.Task then
                      match m1[(e1.Task).toNat]? with
                      | none => none
                      | some e3 =>
                        if e1.At < e3 then
                          some (.inr (⟨12, (i1 : Int)⟩ : SFault))
                        else
                          some (.inl ())
                    else
                      none
              else
                none
            else
              if 0 ≤ e1.Task then
                match m1[(e1.Task).toNat]? with
                | none => none
                | some e4 =>
                  if e1.At < e4 then
                    some (.inr (⟨12, (i1 : Int)⟩ : SFault))
                  else
                    some (.inl ())
              else
                none
def tasks_Legal.r0 (l0 : List STask) (l1 : List SCome) : Nat × (List Int) → Option ((Nat × (List Int)) ⊕ (Unit ⊕ SFault))
  | (i1, m1) =>
    if (i1 : Int) < (l1.length : Int) then
      match l1[i1]? with
      | none => none
      | some e1 =>
        match tasks_Legal.p1 l0 l1 i1 m1 e1 with
        | none => none
        | some (.inl _) =>
          if 0 ≤ e1.Task then
            match l0[(e1.Task).toNat]? with
            | none => none
            | some e5 =>
              match m1[(e1.Task).toNat]? with
              | none => none
              | some e6 =>
                some (.inl ((i1 + 1), (m1.set ((e1.Task).toNat) (IntKind.i64.wrap (e1.At + e5.T)))))
          else
            none
        | some (.inr rr1) =>
          some (.inr (.inr rr1))
    else
      some (.inr (.inl ()))
def tasks_Legal.f (K : Nat) (l0 : List STask) (l1 : List SCome) : Option SFault :=
  match tasks_Check.f K l0 with
  | none => none
  | some r1 =>
    if r1.Code = 0 then
      if (l1.length : Int) > 4000 then
        some (⟨2, 0⟩ : SFault)
      else
        if l0.length ≤ 17592186044416 then
          match iter (tasks_Legal.r0 l0 l1) K (0, (List.replicate l0.length (0 : Int))) with
          | none => none
          | some (.inl _) =>
            some (⟨0, 0⟩ : SFault)
          | some (.inr rr2) =>
            some rr2
        else
          none
    else
      some r1
abbrev tasks_Legal.A1 (K : Nat) (w0 : World) (l0 : List STask) (A0 : Option Addr) (c0 : Nat) (l1 : List SCome) (A1 : Option Addr) (c1 : Nat) (hR0 : RdL w0 A0 l0) (hL0 : l0.length ≤ c0) (hR1 : RdL w0 A1 l1) (hL1 : l1.length ≤ c1) (b1 : Nat) (r1 : SFault) (b2 : Nat) (hc1 : r1.Code = 0) (hc2 : ¬ ((l1.length : Int) > 4000)) (hc3 : l0.length ≤ 17592186044416) (Z1 : Option Addr) (cz1 : Nat) (i1 : Nat) (m1 : List Int) (hc4 : (i1 : Int) < (l1.length : Int)) (e1 : SCome) (hx3 : l1[i1]? = some e1) (b3 : Nat) : Unit → Act → World → Prop := fun (s : Unit) a w => St w0 w [Own.blk b3 (.cells #[.int .i64 e1.Task, .int .i64 e1.At] 53 (0, 0)), Own.blk b1 (.cells #[.int .i64 0, .int .i64 0] 26 (0, 0)), Own.of (.slice Z1 m1.length cz1) 3 m1] ∧ Frm 94 a [(0, .slice A0 l0.length c0), (1, .slice A1 l1.length c1), (4, .pointer (some ⟨b1, 0, none⟩)), (6, (.slice Z1 m1.length cz1)), (8, .pointer (some ⟨b3, 0, none⟩)), (22, .slice A1 l1.length c1), (23, .int .i64 (l1.length : Int)), (24, .int .i64 (i1 : Int))]
abbrev tasks_Legal.B1 (K : Nat) (w0 : World) (l0 : List STask) (A0 : Option Addr) (c0 : Nat) (l1 : List SCome) (A1 : Option Addr) (c1 : Nat) (hR0 : RdL w0 A0 l0) (hL0 : l0.length ≤ c0) (hR1 : RdL w0 A1 l1) (hL1 : l1.length ≤ c1) (b1 : Nat) (r1 : SFault) (b2 : Nat) (hc1 : r1.Code = 0) (hc2 : ¬ ((l1.length : Int) > 4000)) (hc3 : l0.length ≤ 17592186044416) (Z1 : Option Addr) (cz1 : Nat) (i1 : Nat) (m1 : List Int) (hc4 : (i1 : Int) < (l1.length : Int)) (e1 : SCome) (hx3 : l1[i1]? = some e1) (b3 : Nat) : SFault → Exit → Act → World → Prop := Rets Tryd.prog Tryd.f48 (tasks_Legal.Post w0)
theorem tasks_Legal_p1 (K : Nat) (w0 : World) (l0 : List STask) (A0 : Option Addr) (c0 : Nat) (l1 : List SCome) (A1 : Option Addr) (c1 : Nat) (hR0 : RdL w0 A0 l0) (hL0 : l0.length ≤ c0) (hR1 : RdL w0 A1 l1) (hL1 : l1.length ≤ c1) (b1 : Nat) (r1 : SFault) (b2 : Nat) (hc1 : r1.Code = 0) (hc2 : ¬ ((l1.length : Int) > 4000)) (hc3 : l0.length ≤ 17592186044416) (Z1 : Option Addr) (cz1 : Nat) (i1 : Nat) (m1 : List Int) (hc4 : (i1 : Int) < (l1.length : Int)) (e1 : SCome) (hx3 : l1[i1]? = some e1) (b3 : Nat) (o : Unit ⊕ SFault) (h : tasks_Legal.p1 l0 l1 i1 m1 e1 = some o) (w : World) (hS : St w0 w [Own.blk b3 (.cells #[.int .i64 e1.Task, .int .i64 e1.At] 53 (0, 0)), Own.blk b1 (.cells #[.int .i64 0, .int .i64 0] 26 (0, 0)), Own.of (.slice Z1 m1.length cz1) 3 m1]) (Q : Exit → Act → World → Prop) (hQ : ∀ x a w, Outs (tasks_Legal.A1 K w0 l0 A0 c0 l1 A1 c1 hR0 hL0 hR1 hL1 b1 r1 b2 hc1 hc2 hc3 Z1 cz1 i1 m1 hc4 e1 hx3 b3) (tasks_Legal.B1 K w0 l0 A0 c0 l1 A1 c1 hR0 hL0 hR1 hL1 b1 r1 b2 hc1 hc2 hc3 Z1 cz1 i1 m1 hc4 e1 hx3 b3) o x a w → Q x a w) : WE Tryd.prog 94 (subF Tryd.f48 [1, 1, 1, 1, 0, 1, 0, 0, 1, 1, 0, 0, 1, 0]) Q [(0, .slice A0 l0.length c0), (1, .slice A1 l1.length c1), (4, .pointer (some ⟨b1, 0, none⟩)), (6, (.slice Z1 m1.length cz1)), (7, .int .i64 (i1 : Int)), (8, .pointer (some ⟨b3, 0, none⟩)), (22, .slice A1 l1.length c1), (23, .int .i64 (l1.length : Int)), (24, .int .i64 (i1 : Int)), (25, .bool true), (26, .int .i64 (i1 : Int)), (27, .pointer (some ⟨blkOf A1, offOf A1 + i1 * 2, none⟩)), (28, .agg #[.int .i64 e1.Task, .int .i64 e1.At])] w := by
  simp only [tasks_Legal.p1] at h
  refine we_block ?_
  refine we_seq fun K16 hK16 => ?_
  refine we_region [(0, 0), (1, 0), (2, 0), (3, 0), (4, 0), (5, 0), (6, 0), (7, 0), (8, 0), (9, 0), (10, 0)] rfl ?_
  refine ge_batch [0, 1, 2, 3] (ans := [.val (.int .i64 e1.Task)]) (vs := [(33, .bool (decide (e1.Task < 0))), (32, .bool (decide (e1.Task < 0))), (31, .int .i64 e1.Task), (30, .pointer (some ⟨b3, 0, none⟩))]) (l := [.loaded ⟨b3, 0, none⟩ (.int .i64 e1.Task)]) (by kernel_rfl) ⟨hS.cell 0 rfl rfl, trivial⟩ ?_
  by_cases hc5 : e1.Task < 0
  · rw [if_pos hc5] at h
    refine ge_known (t := 33) (b := decide (e1.Task < 0)) (c := true) (by kernel_rfl) (decide_eq_true hc5) ?_
    refine ge_batch [4, 5, 6, 7, 8, 9, 10] (ans := []) (vs := [(29, .bool true), (39, .bool true), (38, undef), (37, undef), (36, undef), (35, undef), (34, undef)]) (l := []) (by kernel_rfl) trivial ?_
    refine ge_nil fun a hF => hK16 _ _ ?_ a hF
    refine we_true (by kernel_rfl) ?_
    refine we_seq fun K17 hK17 => ?_
    refine we_region [(0, 0), (1, 0), (2, 2)] rfl ?_
    refine ge_batch [0, 1] (ans := []) (vs := [(41, .agg #[.int .i64 4, .int .i64 (i1 : Int)]), (40, .int .i64 (i1 : Int))]) (l := []) (by kernel_rfl) trivial ?_
    have hS17 := hS.bring 1 rfl
    refine ge_set (b := b1) (j := 0) (cs := #[.int .i64 0, .int .i64 0]) (t := 26) (vs := [.int .i64 4, .int .i64 (i1 : Int)]) hS17 (by kernel_rfl) rfl rfl fun w9 hS18 => ?_
    have hS19 : St w0 w9 [Own.blk b1 (.cells #[.int .i64 4, .int .i64 (i1 : Int)] 26 (0, 0)), Own.blk b3 (.cells #[.int .i64 e1.Task, .int .i64 e1.At] 53 (0, 0)), Own.of (.slice Z1 m1.length cz1) 3 m1] := hS18
    refine ge_nil fun a hF => hK17 _ _ ?_ a hF
    have hS20 := hS19.takeN 0
    obtain rfl := Option.some.inj h
    exact we_ret fun a hF => hQ _ _ _ (Outs.out nofun ⟨rfl, (post_ret (rs := [.cell 4 26]) (ans := [.val (.int .i64 4), .val (.int .i64 (i1 : Int))]) (vs := [.agg #[.int .i64 4, .int .i64 (i1 : Int)]]) (l := [.loaded ⟨b1, 0, none⟩ (.int .i64 4), .loaded ⟨b1, 1, none⟩ (.int .i64 (i1 : Int))]) rfl (by kernel_rfl) ⟨hS19.cell 0 rfl rfl, hS19.cell 0 rfl rfl, trivial⟩ ⟨rfl, hS20⟩) a hF⟩)
  · rw [if_neg hc5] at h
    refine ge_known (t := 33) (b := decide (e1.Task < 0)) (c := false) (by kernel_rfl) (decide_eq_false hc5) ?_
    refine ge_batch [4, 5, 6, 7, 8, 9, 10] (ans := [.val (.int .i64 e1.Task)]) (vs := [(29, .bool (decide (e1.Task ≥ (l0.length : Int)))), (39, .bool (decide (e1.Task ≥ (l0.length : Int)))), (38, .bool (decide (e1.Task ≥ (l0.length : Int)))), (37, .int .i64 (l0.length : Int)), (36, .slice A0 l0.length c0), (35, .int .i64 e1.Task), (34, .pointer (some ⟨b3, 0, none⟩))]) (l := [.loaded ⟨b3, 0, none⟩ (.int .i64 e1.Task)]) (by kernel_rfl) ⟨hS.cell 0 rfl rfl, trivial⟩ ?_
    refine ge_nil fun a hF => hK16 _ _ ?_ a hF
    by_cases hc6 : e1.Task ≥ (l0.length : Int)
    · rw [if_pos hc6] at h
      refine we_known (t := 29) (b := decide (e1.Task ≥ (l0.length : Int))) (v := true) (by kernel_rfl) (decide_eq_true hc6) ?_
      refine we_true (by kernel_rfl) ?_
      refine we_seq fun K18 hK18 => ?_
      refine we_region [(0, 0), (1, 0), (2, 2)] rfl ?_
      refine ge_batch [0, 1] (ans := []) (vs := [(41, .agg #[.int .i64 4, .int .i64 (i1 : Int)]), (40, .int .i64 (i1 : Int))]) (l := []) (by kernel_rfl) trivial ?_
      have hS21 := hS.bring 1 rfl
      refine ge_set (b := b1) (j := 0) (cs := #[.int .i64 0, .int .i64 0]) (t := 26) (vs := [.int .i64 4, .int .i64 (i1 : Int)]) hS21 (by kernel_rfl) rfl rfl fun w10 hS22 => ?_
      have hS23 : St w0 w10 [Own.blk b1 (.cells #[.int .i64 4, .int .i64 (i1 : Int)] 26 (0, 0)), Own.blk b3 (.cells #[.int .i64 e1.Task, .int .i64 e1.At] 53 (0, 0)), Own.of (.slice Z1 m1.length cz1) 3 m1] := hS22
      refine ge_nil fun a hF => hK18 _ _ ?_ a hF
      have hS24 := hS23.takeN 0
      obtain rfl := Option.some.inj h
      exact we_ret fun a hF => hQ _ _ _ (Outs.out nofun ⟨rfl, (post_ret (rs := [.cell 4 26]) (ans := [.val (.int .i64 4), .val (.int .i64 (i1 : Int))]) (vs := [.agg #[.int .i64 4, .int .i64 (i1 : Int)]]) (l := [.loaded ⟨b1, 0, none⟩ (.int .i64 4), .loaded ⟨b1, 1, none⟩ (.int .i64 (i1 : Int))]) rfl (by kernel_rfl) ⟨hS23.cell 0 rfl rfl, hS23.cell 0 rfl rfl, trivial⟩ ⟨rfl, hS24⟩) a hF⟩)
    · rw [if_neg hc6] at h
      refine we_known (t := 29) (b := decide (e1.Task ≥ (l0.length : Int))) (v := false) (by kernel_rfl) (decide_eq_false hc6) ?_
      refine we_false (by kernel_rfl) ?_
      refine we_seq fun K19 hK19 => ?_
      refine we_region [(0, 0), (1, 0), (2, 0), (3, 0), (4, 0), (5, 0), (6, 0), (7, 0), (8, 0)] rfl ?_
      refine ge_batch [0, 1, 2, 3] (ans := [.val (.int .i64 e1.At)]) (vs := [(46, .bool (decide (e1.At < 0))), (45, .bool (decide (e1.At < 0))), (44, .int .i64 e1.At), (43, .pointer (some ⟨b3, 1, none⟩))]) (l := [.loaded ⟨b3, 1, none⟩ (.int .i64 e1.At)]) (by kernel_rfl) ⟨hS.cell 0 rfl rfl, trivial⟩ ?_
      by_cases hc7 : e1.At < 0
      · rw [if_pos hc7] at h
        refine ge_known (t := 46) (b := decide (e1.At < 0)) (c := true) (by kernel_rfl) (decide_eq_true hc7) ?_
        refine ge_batch [4, 5, 6, 7, 8] (ans := []) (vs := [(42, .bool true), (50, .bool true), (49, undef), (48, undef), (47, undef)]) (l := []) (by kernel_rfl) trivial ?_
        refine ge_nil fun a hF => hK19 _ _ ?_ a hF
        refine we_true (by kernel_rfl) ?_
        refine we_seq fun K20 hK20 => ?_
        refine we_region [(0, 0), (1, 0), (2, 2)] rfl ?_
        refine ge_batch [0, 1] (ans := []) (vs := [(52, .agg #[.int .i64 3, .int .i64 (i1 : Int)]), (51, .int .i64 (i1 : Int))]) (l := []) (by kernel_rfl) trivial ?_
        have hS25 := hS.bring 1 rfl
        refine ge_set (b := b1) (j := 0) (cs := #[.int .i64 0, .int .i64 0]) (t := 26) (vs := [.int .i64 3, .int .i64 (i1 : Int)]) hS25 (by kernel_rfl) rfl rfl fun w11 hS26 => ?_
        have hS27 : St w0 w11 [Own.blk b1 (.cells #[.int .i64 3, .int .i64 (i1 : Int)] 26 (0, 0)), Own.blk b3 (.cells #[.int .i64 e1.Task, .int .i64 e1.At] 53 (0, 0)), Own.of (.slice Z1 m1.length cz1) 3 m1] := hS26
        refine ge_nil fun a hF => hK20 _ _ ?_ a hF
        have hS28 := hS27.takeN 0
        obtain rfl := Option.some.inj h
        exact we_ret fun a hF => hQ _ _ _ (Outs.out nofun ⟨rfl, (post_ret (rs := [.cell 4 26]) (ans := [.val (.int .i64 3), .val (.int .i64 (i1 : Int))]) (vs := [.agg #[.int .i64 3, .int .i64 (i1 : Int)]]) (l := [.loaded ⟨b1, 0, none⟩ (.int .i64 3), .loaded ⟨b1, 1, none⟩ (.int .i64 (i1 : Int))]) rfl (by kernel_rfl) ⟨hS27.cell 0 rfl rfl, hS27.cell 0 rfl rfl, trivial⟩ ⟨rfl, hS28⟩) a hF⟩)
      · rw [if_neg hc7] at h
        refine ge_known (t := 46) (b := decide (e1.At < 0)) (c := false) (by kernel_rfl) (decide_eq_false hc7) ?_
        refine ge_batch [4, 5, 6, 7, 8] (ans := [.val (.int .i64 e1.At)]) (vs := [(42, .bool (decide (e1.At > 20000))), (50, .bool (decide (e1.At > 20000))), (49, .bool (decide (e1.At > 20000))), (48, .int .i64 e1.At), (47, .pointer (some ⟨b3, 1, none⟩))]) (l := [.loaded ⟨b3, 1, none⟩ (.int .i64 e1.At)]) (by kernel_rfl) ⟨hS.cell 0 rfl rfl, trivial⟩ ?_
        refine ge_nil fun a hF => hK19 _ _ ?_ a hF
        by_cases hc8 : e1.At > 20000
        · rw [if_pos hc8] at h
          refine we_known (t := 42) (b := decide (e1.At > 20000)) (v := true) (by kernel_rfl) (decide_eq_true hc8) ?_
          refine we_true (by kernel_rfl) ?_
          refine we_seq fun K21 hK21 => ?_
          refine we_region [(0, 0), (1, 0), (2, 2)] rfl ?_
          refine ge_batch [0, 1] (ans := []) (vs := [(52, .agg #[.int .i64 3, .int .i64 (i1 : Int)]), (51, .int .i64 (i1 : Int))]) (l := []) (by kernel_rfl) trivial ?_
          have hS29 := hS.bring 1 rfl
          refine ge_set (b := b1) (j := 0) (cs := #[.int .i64 0, .int .i64 0]) (t := 26) (vs := [.int .i64 3, .int .i64 (i1 : Int)]) hS29 (by kernel_rfl) rfl rfl fun w12 hS30 => ?_
          have hS31 : St w0 w12 [Own.blk b1 (.cells #[.int .i64 3, .int .i64 (i1 : Int)] 26 (0, 0)), Own.blk b3 (.cells #[.int .i64 e1.Task, .int .i64 e1.At] 53 (0, 0)), Own.of (.slice Z1 m1.length cz1) 3 m1] := hS30
          refine ge_nil fun a hF => hK21 _ _ ?_ a hF
          have hS32 := hS31.takeN 0
          obtain rfl := Option.some.inj h
          exact we_ret fun a hF => hQ _ _ _ (Outs.out nofun ⟨rfl, (post_ret (rs := [.cell 4 26]) (ans := [.val (.int .i64 3), .val (.int .i64 (i1 : Int))]) (vs := [.agg #[.int .i64 3, .int .i64 (i1 : Int)]]) (l := [.loaded ⟨b1, 0, none⟩ (.int .i64 3), .loaded ⟨b1, 1, none⟩ (.int .i64 (i1 : Int))]) rfl (by kernel_rfl) ⟨hS31.cell 0 rfl rfl, hS31.cell 0 rfl rfl, trivial⟩ ⟨rfl, hS32⟩) a hF⟩)
        · rw [if_neg hc8] at h
          refine we_known (t := 42) (b := decide (e1.At > 20000)) (v := false) (by kernel_rfl) (decide_eq_false hc8) ?_
          refine we_false (by kernel_rfl) ?_
          refine we_seq fun K22 hK22 => ?_
          refine we_draws (by kernel_rfl) [(0, 0), (1, 0), (2, 0), (3, 0), (4, 0), (5, 0), (6, 0), (7, 0), (8, 0), (9, 0), (10, 0), (11, 0), (12, 0), (13, 0), (14, 0), (15, 0), (16, 0), (17, 0), (18, 0), (19, 0), (20, 0), (21, 0), (22, 0), (23, 0)] (by kernel_rfl) ?_
          have hS33 := hS.drew
          refine ge_batch [0, 1, 2] (ans := []) (vs := [(56, .bool (decide ((i1 : Int) > 0))), (55, .bool (decide ((i1 : Int) > 0))), (54, .int .i64 (i1 : Int))]) (l := []) (by kernel_rfl) trivial ?_
          by_cases hc9 : (i1 : Int) > 0
          · rw [if_pos hc9] at h
            refine ge_known (t := 56) (b := decide ((i1 : Int) > 0)) (c := true) (by kernel_rfl) (decide_eq_true hc9) ?_
            refine ge_batch [3, 4, 5, 6, 7] (ans := [.val (.int .i64 e1.At)]) (vs := [(61, .int .i64 (IntKind.i64.wrap ((i1 : Int) - 1))), (60, .int .i64 (i1 : Int)), (59, .slice A1 l1.length c1), (58, .int .i64 e1.At), (57, .pointer (some ⟨b3, 1, none⟩))]) (l := [.loaded ⟨b3, 1, none⟩ (.int .i64 e1.At)]) (by kernel_rfl) ⟨hS33.cell 0 rfl rfl, trivial⟩ ?_
            by_cases hc10 : 0 ≤ (IntKind.i64.wrap ((i1 : Int) - 1))
            · rw [if_pos hc10] at h
              rcases hx5 : l1[(IntKind.i64.wrap ((i1 : Int) - 1)).toNat]? with _ | e2
              · rw [hx5] at h; cases h
              rw [hx5] at h
              simp only [] at h
              refine ge_index (d := 62) (ty := 0) (t := 49) (el := 53) (sz := 2) (m := l1.length) (c := c1) (x := (.tmp 59)) (y := (.tmp 61)) (A := A1) (k' := .i64) (j := (IntKind.i64.wrap ((i1 : Int) - 1))) (jn := ((IntKind.i64.wrap ((i1 : Int) - 1)).toNat)) (b0 := blkOf A1) (o0 := offOf A1) (by kernel_rfl) (by kernel_rfl) (by kernel_rfl) (by kernel_rfl) (by kernel_rfl) ((hS33.rd hR1).eqSome (pos_of_get hx5)) (Int.toNat_of_nonneg hc10).symm (lt_of_get hx5) ?_
              refine ge_batch [9, 10, 11, 12, 13] (ans := [.val (.int .i64 e2.At)]) (vs := [(67, .bool (decide (e1.At < e2.At))), (66, .bool (decide (e1.At < e2.At))), (65, .bool (decide (e1.At < e2.At))), (64, .int .i64 e2.At), (63, .pointer (some ⟨blkOf A1, offOf A1 + (IntKind.i64.wrap ((i1 : Int) - 1)).toNat * 2 + 1, none⟩))]) (l := [.loaded ⟨blkOf A1, offOf A1 + ((IntKind.i64.wrap ((i1 : Int) - 1)).toNat) * 2 + 1, none⟩ (.int .i64 e2.At)]) (by kernel_rfl) ⟨RdL.cell (j := 1) (hS33.rd hR1) hx5 rfl, trivial⟩ ?_
              by_cases hc11 : e1.At < e2.At
              · rw [if_pos hc11] at h
                refine ge_known (t := 67) (b := decide (e1.At < e2.At)) (c := true) (by kernel_rfl) (decide_eq_true hc11) ?_
                refine ge_batch [14, 15, 16, 17, 18, 19, 20, 21, 22, 23] (ans := []) (vs := [(53, .bool true), (76, .bool true), (75, undef), (74, undef), (73, undef), (72, undef), (71, undef), (70, undef), (69, undef), (68, undef)]) (l := []) (by kernel_rfl) trivial ?_
                refine ge_nil fun a hF => hK22 _ _ ?_ a hF
                refine we_true (by kernel_rfl) ?_
                refine we_seq fun K23 hK23 => ?_
                refine we_region [(0, 0), (1, 0), (2, 2)] rfl ?_
                refine ge_batch [0, 1] (ans := []) (vs := [(78, .agg #[.int .i64 12, .int .i64 (i1 : Int)]), (77, .int .i64 (i1 : Int))]) (l := []) (by kernel_rfl) trivial ?_
                have hS34 := hS33.bring 1 rfl
                refine ge_set (b := b1) (j := 0) (cs := #[.int .i64 0, .int .i64 0]) (t := 26) (vs := [.int .i64 12, .int .i64 (i1 : Int)]) hS34 (by kernel_rfl) rfl rfl fun w13 hS35 => ?_
                have hS36 : St w0 w13 [Own.blk b1 (.cells #[.int .i64 12, .int .i64 (i1 : Int)] 26 (0, 0)), Own.blk b3 (.cells #[.int .i64 e1.Task, .int .i64 e1.At] 53 (0, 0)), Own.of (.slice Z1 m1.length cz1) 3 m1] := hS35
                refine ge_nil fun a hF => hK23 _ _ ?_ a hF
                have hS37 := hS36.takeN 0
                obtain rfl := Option.some.inj h
                exact we_ret fun a hF => hQ _ _ _ (Outs.out nofun ⟨rfl, (post_ret (rs := [.cell 4 26]) (ans := [.val (.int .i64 12), .val (.int .i64 (i1 : Int))]) (vs := [.agg #[.int .i64 12, .int .i64 (i1 : Int)]]) (l := [.loaded ⟨b1, 0, none⟩ (.int .i64 12), .loaded ⟨b1, 1, none⟩ (.int .i64 (i1 : Int))]) rfl (by kernel_rfl) ⟨hS36.cell 0 rfl rfl, hS36.cell 0 rfl rfl, trivial⟩ ⟨rfl, hS37⟩) a hF⟩)
              · rw [if_neg hc11] at h
                refine ge_known (t := 67) (b := decide (e1.At < e2.At)) (c := false) (by kernel_rfl) (decide_eq_false hc11) ?_
                refine ge_batch [14, 15, 16, 17, 18] (ans := [.val (.int .i64 e1.At), .val (.int .i64 e1.Task)]) (vs := [(72, .int .i64 e1.Task), (71, .pointer (some ⟨b3, 0, none⟩)), (70, (.slice Z1 m1.length cz1)), (69, .int .i64 e1.At), (68, .pointer (some ⟨b3, 1, none⟩))]) (l := [.loaded ⟨b3, 1, none⟩ (.int .i64 e1.At), .loaded ⟨b3, 0, none⟩ (.int .i64 e1.Task)]) (by kernel_rfl) ⟨hS33.cell 0 rfl rfl, hS33.cell 0 rfl rfl, trivial⟩ ?_
                by_cases hc12 : 0 ≤ e1.Task
                · rw [if_pos hc12] at h
                  rcases hx6 : m1[(e1.Task).toNat]? with _ | e3
                  · rw [hx6] at h; cases h
                  rw [hx6] at h
                  simp only [] at h
                  refine ge_index (d := 73) (ty := 0) (t := 23) (el := 3) (sz := 1) (m := m1.length) (c := cz1) (x := (.tmp 70)) (y := (.tmp 72)) (A := Z1) (k' := .i64) (j := e1.Task) (jn := ((e1.Task).toNat)) (b0 := blkOf Z1) (o0 := offOf Z1) (by kernel_rfl) (by kernel_rfl) (by kernel_rfl) (by kernel_rfl) (by kernel_rfl) ((hS33.rdAt 2 rfl).eqSome (pos_of_get hx6)) (Int.toNat_of_nonneg hc12).symm (lt_of_get hx6) ?_
                  refine ge_batch [20, 21, 22, 23] (ans := [.val (.int .i64 e3)]) (vs := [(53, .bool (decide (e1.At < e3))), (76, .bool (decide (e1.At < e3))), (75, .bool (decide (e1.At < e3))), (74, .int .i64 e3)]) (l := [.loaded ⟨blkOf Z1, offOf Z1 + ((e1.Task).toNat) * 1, none⟩ (.int .i64 e3)]) (by kernel_rfl) ⟨RdL.cell (j := 0) (hS33.rdAt 2 rfl) hx6 rfl, trivial⟩ ?_
                  refine ge_nil fun a hF => hK22 _ _ ?_ a hF
                  by_cases hc13 : e1.At < e3
                  · rw [if_pos hc13] at h
                    refine we_known (t := 53) (b := decide (e1.At < e3)) (v := true) (by kernel_rfl) (decide_eq_true hc13) ?_
                    refine we_true (by kernel_rfl) ?_
                    refine we_seq fun K24 hK24 => ?_
                    refine we_region [(0, 0), (1, 0), (2, 2)] rfl ?_
                    refine ge_batch [0, 1] (ans := []) (vs := [(78, .agg #[.int .i64 12, .int .i64 (i1 : Int)]), (77, .int .i64 (i1 : Int))]) (l := []) (by kernel_rfl) trivial ?_
                    have hS38 := hS33.bring 1 rfl
                    refine ge_set (b := b1) (j := 0) (cs := #[.int .i64 0, .int .i64 0]) (t := 26) (vs := [.int .i64 12, .int .i64 (i1 : Int)]) hS38 (by kernel_rfl) rfl rfl fun w14 hS39 => ?_
                    have hS40 : St w0 w14 [Own.blk b1 (.cells #[.int .i64 12, .int .i64 (i1 : Int)] 26 (0, 0)), Own.blk b3 (.cells #[.int .i64 e1.Task, .int .i64 e1.At] 53 (0, 0)), Own.of (.slice Z1 m1.length cz1) 3 m1] := hS39
                    refine ge_nil fun a hF => hK24 _ _ ?_ a hF
                    have hS41 := hS40.takeN 0
                    obtain rfl := Option.some.inj h
                    exact we_ret fun a hF => hQ _ _ _ (Outs.out nofun ⟨rfl, (post_ret (rs := [.cell 4 26]) (ans := [.val (.int .i64 12), .val (.int .i64 (i1 : Int))]) (vs := [.agg #[.int .i64 12, .int .i64 (i1 : Int)]]) (l := [.loaded ⟨b1, 0, none⟩ (.int .i64 12), .loaded ⟨b1, 1, none⟩ (.int .i64 (i1 : Int))]) rfl (by kernel_rfl) ⟨hS40.cell 0 rfl rfl, hS40.cell 0 rfl rfl, trivial⟩ ⟨rfl, hS41⟩) a hF⟩)
                  · rw [if_neg hc13] at h
                    refine we_known (t := 53) (b := decide (e1.At < e3)) (v := false) (by kernel_rfl) (decide_eq_false hc13) ?_
                    refine we_false (by kernel_rfl) ?_
                    have hS42 := hS33.bring 2 rfl
                    have hS43 := hS42.bring 2 rfl
                    have hS44 := hS43.bring 2 rfl
                    obtain rfl := Option.some.inj h
                    exact we_skip fun a hF => hQ _ _ _ (Outs.again ⟨hS44, hF.weaken ⟨by kernel_rfl, by kernel_rfl, by kernel_rfl, by kernel_rfl, by kernel_rfl, by kernel_rfl, by kernel_rfl, by kernel_rfl, trivial⟩⟩)
                · rw [if_neg hc12] at h
                  cases h
            · rw [if_neg hc10] at h
              cases h
          · rw [if_neg hc9] at h
            refine ge_known (t := 56) (b := decide ((i1 : Int) > 0)) (c := false) (by kernel_rfl) (decide_eq_false hc9) ?_
            refine ge_batch [3, 4, 5, 6, 7, 8, 9, 10, 11, 12, 13, 14, 15, 16, 17, 18] (ans := [.val (.int .i64 e1.At), .val (.int .i64 e1.Task)]) (vs := [(72, .int .i64 e1.Task), (71, .pointer (some ⟨b3, 0, none⟩)), (70, (.slice Z1 m1.length cz1)), (69, .int .i64 e1.At), (68, .pointer (some ⟨b3, 1, none⟩)), (67, .bool false), (66, .bool false), (65, undef), (64, undef), (63, undef), (62, undef), (61, undef), (60, undef), (59, undef), (58, undef), (57, undef)]) (l := [.loaded ⟨b3, 1, none⟩ (.int .i64 e1.At), .loaded ⟨b3, 0, none⟩ (.int .i64 e1.Task)]) (by kernel_rfl) ⟨hS33.cell 0 rfl rfl, hS33.cell 0 rfl rfl, trivial⟩ ?_
            by_cases hc14 : 0 ≤ e1.Task
            · rw [if_pos hc14] at h
              rcases hx7 : m1[(e1.Task).toNat]? with _ | e4
              · rw [hx7] at h; cases h
              rw [hx7] at h
              simp only [] at h
              refine ge_index (d := 73) (ty := 0) (t := 23) (el := 3) (sz := 1) (m := m1.length) (c := cz1) (x := (.tmp 70)) (y := (.tmp 72)) (A := Z1) (k' := .i64) (j := e1.Task) (jn := ((e1.Task).toNat)) (b0 := blkOf Z1) (o0 := offOf Z1) (by kernel_rfl) (by kernel_rfl) (by kernel_rfl) (by kernel_rfl) (by kernel_rfl) ((hS33.rdAt 2 rfl).eqSome (pos_of_get hx7)) (Int.toNat_of_nonneg hc14).symm (lt_of_get hx7) ?_
              refine ge_batch [20, 21, 22, 23] (ans := [.val (.int .i64 e4)]) (vs := [(53, .bool (decide (e1.At < e4))), (76, .bool (decide (e1.At < e4))), (75, .bool (decide (e1.At < e4))), (74, .int .i64 e4)]) (l := [.loaded ⟨blkOf Z1, offOf Z1 + ((e1.Task).toNat) * 1, none⟩ (.int .i64 e4)]) (by kernel_rfl) ⟨RdL.cell (j := 0) (hS33.rdAt 2 rfl) hx7 rfl, trivial⟩ ?_
              refine ge_nil fun a hF => hK22 _ _ ?_ a hF
              by_cases hc15 : e1.At < e4
              · rw [if_pos hc15] at h
                refine we_known (t := 53) (b := decide (e1.At < e4)) (v := true) (by kernel_rfl) (decide_eq_true hc15) ?_
                refine we_true (by kernel_rfl) ?_
                refine we_seq fun K25 hK25 => ?_
                refine we_region [(0, 0), (1, 0), (2, 2)] rfl ?_
                refine ge_batch [0, 1] (ans := []) (vs := [(78, .agg #[.int .i64 12, .int .i64 (i1 : Int)]), (77, .int .i64 (i1 : Int))]) (l := []) (by kernel_rfl) trivial ?_
                have hS45 := hS33.bring 1 rfl
                refine ge_set (b := b1) (j := 0) (cs := #[.int .i64 0, .int .i64 0]) (t := 26) (vs := [.int .i64 12, .int .i64 (i1 : Int)]) hS45 (by kernel_rfl) rfl rfl fun w15 hS46 => ?_
                have hS47 : St w0 w15 [Own.blk b1 (.cells #[.int .i64 12, .int .i64 (i1 : Int)] 26 (0, 0)), Own.blk b3 (.cells #[.int .i64 e1.Task, .int .i64 e1.At] 53 (0, 0)), Own.of (.slice Z1 m1.length cz1) 3 m1] := hS46
                refine ge_nil fun a hF => hK25 _ _ ?_ a hF
                have hS48 := hS47.takeN 0
                obtain rfl := Option.some.inj h
                exact we_ret fun a hF => hQ _ _ _ (Outs.out nofun ⟨rfl, (post_ret (rs := [.cell 4 26]) (ans := [.val (.int .i64 12), .val (.int .i64 (i1 : Int))]) (vs := [.agg #[.int .i64 12, .int .i64 (i1 : Int)]]) (l := [.loaded ⟨b1, 0, none⟩ (.int .i64 12), .loaded ⟨b1, 1, none⟩ (.int .i64 (i1 : Int))]) rfl (by kernel_rfl) ⟨hS47.cell 0 rfl rfl, hS47.cell 0 rfl rfl, trivial⟩ ⟨rfl, hS48⟩) a hF⟩)
              · rw [if_neg hc15] at h
                refine we_known (t := 53) (b := decide (e1.At < e4)) (v := false) (by kernel_rfl) (decide_eq_false hc15) ?_
                refine we_false (by kernel_rfl) ?_
                have hS49 := hS33.bring 2 rfl
                have hS50 := hS49.bring 2 rfl
                have hS51 := hS50.bring 2 rfl
                obtain rfl := Option.some.inj h
                exact we_skip fun a hF => hQ _ _ _ (Outs.again ⟨hS51, hF.weaken ⟨by kernel_rfl, by kernel_rfl, by kernel_rfl, by kernel_rfl, by kernel_rfl, by kernel_rfl, by kernel_rfl, by kernel_rfl, trivial⟩⟩)
            · rw [if_neg hc14] at h
              cases h
abbrev tasks_Legal.A0 (K : Nat) (w0 : World) (l0 : List STask) (A0 : Option Addr) (c0 : Nat) (l1 : List SCome) (A1 : Option Addr) (c1 : Nat) (hR0 : RdL w0 A0 l0) (hL0 : l0.length ≤ c0) (hR1 : RdL w0 A1 l1) (hL1 : l1.length ≤ c1) (b1 : Nat) (r1 : SFault) (b2 : Nat) (hc1 : r1.Code = 0) (hc2 : ¬ ((l1.length : Int) > 4000)) (hc3 : l0.length ≤ 17592186044416) (Z1 : Option Addr) (cz1 : Nat) : (Nat × (List Int)) → Act → World → Prop := fun (s : Nat × (List Int)) a w => St w0 w [Own.blk b1 (.cells #[.int .i64 0, .int .i64 0] 26 (0, 0)), Own.of (.slice Z1 s.2.length cz1) 3 s.2] ∧ Frm 94 a [(0, .slice A0 l0.length c0), (1, .slice A1 l1.length c1), (4, .pointer (some ⟨b1, 0, none⟩)), (6, (.slice Z1 s.2.length cz1)), (22, .slice A1 l1.length c1), (23, .int .i64 (l1.length : Int)), (24, .int .i64 (s.1 : Int))]
abbrev tasks_Legal.B0 (K : Nat) (w0 : World) (l0 : List STask) (A0 : Option Addr) (c0 : Nat) (l1 : List SCome) (A1 : Option Addr) (c1 : Nat) (hR0 : RdL w0 A0 l0) (hL0 : l0.length ≤ c0) (hR1 : RdL w0 A1 l1) (hL1 : l1.length ≤ c1) (b1 : Nat) (r1 : SFault) (b2 : Nat) (hc1 : r1.Code = 0) (hc2 : ¬ ((l1.length : Int) > 4000)) (hc3 : l0.length ≤ 17592186044416) (Z1 : Option Addr) (cz1 : Nat) : (Unit ⊕ SFault) → Exit → Act → World → Prop := Exits 0 (fun (s : Unit) a w => St w0 w [Own.blk b1 (.cells #[.int .i64 0, .int .i64 0] 26 (0, 0))] ∧ Frm 94 a [(4, .pointer (some ⟨b1, 0, none⟩))]) (Rets Tryd.prog Tryd.f48 (tasks_Legal.Post w0))
theorem tasks_Legal_r0 (K : Nat) (w0 : World) (l0 : List STask) (A0 : Option Addr) (c0 : Nat) (l1 : List SCome) (A1 : Option Addr) (c1 : Nat) (hR0 : RdL w0 A0 l0) (hL0 : l0.length ≤ c0) (hR1 : RdL w0 A1 l1) (hL1 : l1.length ≤ c1) (b1 : Nat) (r1 : SFault) (b2 : Nat) (hc1 : r1.Code = 0) (hc2 : ¬ ((l1.length : Int) > 4000)) (hc3 : l0.length ≤ 17592186044416) (Z1 : Option Addr) (cz1 : Nat) (s : Nat × (List Int)) (o : (Nat × (List Int)) ⊕ (Unit ⊕ SFault)) (h : tasks_Legal.r0 l0 l1 s = some o) (a : Act) (w : World) (hA : tasks_Legal.A0 K w0 l0 A0 c0 l1 A1 c1 hR0 hL0 hR1 hL1 b1 r1 b2 hc1 hc2 hc3 Z1 cz1 s a w) (Q : Exit → Act → World → Prop) (hQ : ∀ x a w, Outs (tasks_Legal.A0 K w0 l0 A0 c0 l1 A1 c1 hR0 hL0 hR1 hL1 b1 r1 b2 hc1 hc2 hc3 Z1 cz1) (tasks_Legal.B0 K w0 l0 A0 c0 l1 A1 c1 hR0 hL0 hR1 hL1 b1 r1 b2 hc1 hc2 hc3 Z1 cz1) o x a w → Q x a w) : (subF Tryd.f48 [1, 1, 1, 1, 0, 1, 0, 0]).wp Tryd.prog Q a w := by
  obtain ⟨i1, m1⟩ := s
  obtain ⟨hS, hF⟩ := hA
  replace hS : St w0 w [Own.blk b1 (.cells #[.int .i64 0, .int .i64 0] 26 (0, 0)), Own.of (.slice Z1 m1.length cz1) 3 m1] := hS
  simp only [tasks_Legal.r0] at h
  refine (?_ : WE Tryd.prog 94 (subF Tryd.f48 [1, 1, 1, 1, 0, 1, 0, 0]) Q [(0, .slice A0 l0.length c0), (1, .slice A1 l1.length c1), (4, .pointer (some ⟨b1, 0, none⟩)), (6, (.slice Z1 m1.length cz1)), (22, .slice A1 l1.length c1), (23, .int .i64 (l1.length : Int)), (24, .int .i64 (i1 : Int))] w) a hF
  clear hF a
  refine we_seq fun K11 hK11 => ?_
  refine we_region [(0, 0)] rfl ?_
  refine ge_batch [0] (ans := []) (vs := [(25, .bool (decide ((i1 : Int) < (l1.length : Int))))]) (l := []) (by kernel_rfl) trivial ?_
  refine ge_nil fun a hF => hK11 _ _ ?_ a hF
  refine we_seq fun K12 hK12 => ?_
  by_cases hc4 : (i1 : Int) < (l1.length : Int)
  · rw [if_pos hc4] at h
    refine we_known (t := 25) (b := decide ((i1 : Int) < (l1.length : Int))) (v := true) (by kernel_rfl) (decide_eq_true hc4) ?_
    refine we_true (by kernel_rfl) ?_
    refine we_skip fun a hF => hK12 _ _ ?_ a hF
    refine we_seq fun K13 hK13 => ?_
    refine we_block ?_
    refine we_seq fun K14 hK14 => ?_
    refine we_region [(0, 0), (1, 0), (2, 0), (3, 1), (4, 0), (5, 2)] rfl ?_
    refine ge_batch [0] (ans := []) (vs := [(26, .int .i64 (i1 : Int))]) (l := []) (by kernel_rfl) trivial ?_
    rcases hx3 : l1[i1]? with _ | e1
    · rw [hx3] at h; cases h
    rw [hx3] at h
    simp only [] at h
    refine ge_index (d := 27) (ty := 0) (t := 49) (el := 53) (sz := 2) (m := l1.length) (c := c1) (x := (.tmp 22)) (y := (.tmp 24)) (A := A1) (k' := .i64) (j := (i1 : Int)) (jn := i1) (b0 := blkOf A1) (o0 := offOf A1) (by kernel_rfl) (by kernel_rfl) (by kernel_rfl) (by kernel_rfl) (by kernel_rfl) ((hS.rd hR1).eqSome (pos_of_get hx3)) rfl (lt_of_get hx3) ?_
    refine ge_batch [2] (ans := [.val (.int .i64 e1.Task), .val (.int .i64 e1.At)]) (vs := [(28, .agg #[.int .i64 e1.Task, .int .i64 e1.At])]) (l := [.loaded ⟨blkOf A1, offOf A1 + i1 * 2, none⟩ (.int .i64 e1.Task), .loaded ⟨blkOf A1, offOf A1 + i1 * 2 + 1, none⟩ (.int .i64 e1.At)]) (by kernel_rfl) ⟨RdL.cell (j := 0) (hS.rd hR1) hx3 rfl, RdL.cell (j := 1) (hS.rd hR1) hx3 rfl, trivial⟩ ?_
    refine ge_new (d := some 8) (o := .cells #[.int .i64 0, .int .i64 0] 53) (v := fun b => .pointer (some ⟨b, 0, none⟩)) hS (fun b => by kernel_rfl) fun b3 w7 hx4 hS14 => ?_
    refine ge_batch [4] (ans := []) (vs := [(7, .int .i64 (i1 : Int))]) (l := []) (by kernel_rfl) trivial ?_
    refine ge_set (b := b3) (j := 0) (cs := #[.int .i64 0, .int .i64 0]) (t := 53) (vs := [.int .i64 e1.Task, .int .i64 e1.At]) hS14 (by kernel_rfl) rfl rfl fun w8 hS15 => ?_
    have hS16 : St w0 w8 [Own.blk b3 (.cells #[.int .i64 e1.Task, .int .i64 e1.At] 53 (0, 0)), Own.blk b1 (.cells #[.int .i64 0, .int .i64 0] 26 (0, 0)), Own.of (.slice Z1 m1.length cz1) 3 m1] := hS15
    refine ge_nil fun a hF => hK14 _ _ ?_ a hF
    refine we_seq fun K15 hK15 => ?_
    rcases hq2 : tasks_Legal.p1 l0 l1 i1 m1 e1 with _ | (_ | rr1)
    · rw [hq2] at h; cases h
    · rw [hq2] at h
      simp only [] at h
      refine we_keep (e' := [(0, .slice A0 l0.length c0), (1, .slice A1 l1.length c1), (4, .pointer (some ⟨b1, 0, none⟩)), (6, (.slice Z1 m1.length cz1)), (7, .int .i64 (i1 : Int)), (8, .pointer (some ⟨b3, 0, none⟩)), (22, .slice A1 l1.length c1), (23, .int .i64 (l1.length : Int)), (24, .int .i64 (i1 : Int)), (25, .bool true), (26, .int .i64 (i1 : Int)), (27, .pointer (some ⟨blkOf A1, offOf A1 + i1 * 2, none⟩)), (28, .agg #[.int .i64 e1.Task, .int .i64 e1.At])]) ⟨by kernel_rfl, by kernel_rfl, by kernel_rfl, by kernel_rfl, by kernel_rfl, by kernel_rfl, by kernel_rfl, by kernel_rfl, by kernel_rfl, by kernel_rfl, by kernel_rfl, by kernel_rfl, by kernel_rfl, trivial⟩ (tasks_Legal_p1 K w0 l0 A0 c0 l1 A1 c1 hR0 hL0 hR1 hL1 b1 r1 b2 hc1 hc2 hc3 Z1 cz1 i1 m1 hc4 e1 hx3 b3 _ hq2 _ hS16 _ ?_)
      rintro _ a w16 ⟨rfl, hS52, hF⟩
      replace hS52 : St w0 w16 [Own.blk b3 (.cells #[.int .i64 e1.Task, .int .i64 e1.At] 53 (0, 0)), Own.blk b1 (.cells #[.int .i64 0, .int .i64 0] 26 (0, 0)), Own.of (.slice Z1 m1.length cz1) 3 m1] := hS52
      refine hK15 [(0, .slice A0 l0.length c0), (1, .slice A1 l1.length c1), (4, .pointer (some ⟨b1, 0, none⟩)), (6, (.slice Z1 m1.length cz1)), (8, .pointer (some ⟨b3, 0, none⟩)), (22, .slice A1 l1.length c1), (23, .int .i64 (l1.length : Int)), (24, .int .i64 (i1 : Int))] w16 ?_ a hF
      refine we_draws (by kernel_rfl) [(0, 0), (1, 0), (2, 0), (3, 0), (4, 0), (5, 0), (6, 0), (7, 0), (8, 0), (9, 0), (10, 0), (11, 0), (12, 0), (13, 2)] (by kernel_rfl) ?_
      have hS53 := hS52.drew
      refine ge_batch [0, 1, 2, 3, 4, 5, 6, 7] (ans := [.val (.int .i64 e1.Task), .val (.int .i64 e1.At), .val (.int .i64 e1.Task)]) (vs := [(86, .int .i64 e1.Task), (85, .pointer (some ⟨b3, 0, none⟩)), (84, .slice A0 l0.length c0), (83, .int .i64 e1.At), (82, .pointer (some ⟨b3, 1, none⟩)), (81, .int .i64 e1.Task), (80, .pointer (some ⟨b3, 0, none⟩)), (79, (.slice Z1 m1.length cz1))]) (l := [.loaded ⟨b3, 0, none⟩ (.int .i64 e1.Task), .loaded ⟨b3, 1, none⟩ (.int .i64 e1.At), .loaded ⟨b3, 0, none⟩ (.int .i64 e1.Task)]) (by kernel_rfl) ⟨hS53.cell 0 rfl rfl, hS53.cell 0 rfl rfl, hS53.cell 0 rfl rfl, trivial⟩ ?_
      by_cases hc16 : 0 ≤ e1.Task
      · rw [if_pos hc16] at h
        rcases hx8 : l0[(e1.Task).toNat]? with _ | e5
        · rw [hx8] at h; cases h
        rw [hx8] at h
        simp only [] at h
        refine ge_index (d := 87) (ty := 0) (t := 40) (el := 46) (sz := 7) (m := l0.length) (c := c0) (x := (.tmp 84)) (y := (.tmp 86)) (A := A0) (k' := .i64) (j := e1.Task) (jn := ((e1.Task).toNat)) (b0 := blkOf A0) (o0 := offOf A0) (by kernel_rfl) (by kernel_rfl) (by kernel_rfl) (by kernel_rfl) (by kernel_rfl) ((hS53.rd hR0).eqSome (pos_of_get hx8)) (Int.toNat_of_nonneg hc16).symm (lt_of_get hx8) ?_
        refine ge_batch [9, 10, 11] (ans := [.val (.int .i64 e5.T)]) (vs := [(90, .int .i64 (IntKind.i64.wrap (e1.At + e5.T))), (89, .int .i64 e5.T), (88, .pointer (some ⟨blkOf A0, offOf A0 + (e1.Task).toNat * 7 + 2, none⟩))]) (l := [.loaded ⟨blkOf A0, offOf A0 + ((e1.Task).toNat) * 7 + 2, none⟩ (.int .i64 e5.T)]) (by kernel_rfl) ⟨RdL.cell (j := 2) (hS53.rd hR0) hx8 rfl, trivial⟩ ?_
        rcases hx9 : m1[(e1.Task).toNat]? with _ | e6
        · rw [hx9] at h; cases h
        rw [hx9] at h
        simp only [] at h
        refine ge_index (d := 91) (ty := 0) (t := 23) (el := 3) (sz := 1) (m := m1.length) (c := cz1) (x := (.tmp 79)) (y := (.tmp 81)) (A := Z1) (k' := .i64) (j := e1.Task) (jn := ((e1.Task).toNat)) (b0 := blkOf Z1) (o0 := offOf Z1) (by kernel_rfl) (by kernel_rfl) (by kernel_rfl) (by kernel_rfl) (by kernel_rfl) ((hS53.rdAt 2 rfl).eqSome (pos_of_get hx9)) (Int.toNat_of_nonneg hc16).symm (lt_of_get hx9) ?_
        have hS54 := hS53.bring 2 rfl
        refine ge_seti (α := Int) (A := Z1) (nn := m1.length) (c := cz1) (t := 3) (l := m1) (x := e6) (x' := (IntKind.i64.wrap (e1.At + e5.T))) (jn := ((e1.Task).toNat)) (j := 0) (vs := [.int .i64 (IntKind.i64.wrap (e1.At + e5.T))]) (l' := [.stored ⟨blkOf Z1, offOf Z1 + ((e1.Task).toNat) * 1, none⟩ (.int .i64 (IntKind.i64.wrap (e1.At + e5.T)))]) hS54 (by kernel_rfl) (by kernel_rfl) hx9 rfl rfl rfl fun w17 hS55 => ?_
        have hS56 : St w0 w17 [Own.of (.slice Z1 m1.length cz1) 3 (m1.set ((e1.Task).toNat) (IntKind.i64.wrap (e1.At + e5.T))), Own.blk b3 (.cells #[.int .i64 e1.Task, .int .i64 e1.At] 53 (0, 0)), Own.blk b1 (.cells #[.int .i64 0, .int .i64 0] 26 (0, 0))] := hS55
        have hE1 : m1.length = (m1.set ((e1.Task).toNat) (IntKind.i64.wrap (e1.At + e5.T))).length := hS56.lenAt 0 rfl
        have hS57 : St w0 w17 [Own.of (.slice Z1 (m1.set ((e1.Task).toNat) (IntKind.i64.wrap (e1.At + e5.T))).length cz1) 3 (m1.set ((e1.Task).toNat) (IntKind.i64.wrap (e1.At + e5.T))), Own.blk b3 (.cells #[.int .i64 e1.Task, .int .i64 e1.At] 53 (0, 0)), Own.blk b1 (.cells #[.int .i64 0, .int .i64 0] 26 (0, 0))] := by rw [← hE1]; exact hS56
        refine ge_same (t := 6) (v := (.slice Z1 m1.length cz1)) (v' := (.slice Z1 (m1.set ((e1.Task).toNat) (IntKind.i64.wrap (e1.At + e5.T))).length cz1)) (by kernel_rfl) (by rw [hE1]) ?_
        refine ge_same (t := 79) (v := (.slice Z1 m1.length cz1)) (v' := (.slice Z1 (m1.set ((e1.Task).toNat) (IntKind.i64.wrap (e1.At + e5.T))).length cz1)) (by kernel_rfl) (by rw [hE1]) ?_
        refine ge_nil fun a hF => hK13 _ _ ?_ a hF
        refine we_region [(0, 0), (1, 0)] rfl ?_
        refine ge_addn (d := 92) (ty := 3) (x := (.tmp 24)) (y := (.const (.int .i64 1))) (t := 3) (t2 := 3) (k := .i64) (m := i1) (by kernel_rfl) (by kernel_rfl) (by kernel_rfl) (by have h0 := hR1.small; omega) ?_
        refine ge_batch [1] (ans := []) (vs := [(24, .int .i64 ((i1 + 1 : Nat) : Int))]) (l := []) (by kernel_rfl) trivial ?_
        have hS58 := hS57.bring 2 rfl
        have hS59 := hS58.takeN 2
        obtain rfl := Option.some.inj h
        exact ge_nil fun a hF => hQ _ _ _ (Outs.again ⟨hS59, hF.weaken ⟨by kernel_rfl, by kernel_rfl, by kernel_rfl, by kernel_rfl, by kernel_rfl, by kernel_rfl, by kernel_rfl, trivial⟩⟩)
      · rw [if_neg hc16] at h
        cases h
    · rw [hq2] at h
      simp only [] at h
      refine we_keep (e' := [(0, .slice A0 l0.length c0), (1, .slice A1 l1.length c1), (4, .pointer (some ⟨b1, 0, none⟩)), (6, (.slice Z1 m1.length cz1)), (7, .int .i64 (i1 : Int)), (8, .pointer (some ⟨b3, 0, none⟩)), (22, .slice A1 l1.length c1), (23, .int .i64 (l1.length : Int)), (24, .int .i64 (i1 : Int)), (25, .bool true), (26, .int .i64 (i1 : Int)), (27, .pointer (some ⟨blkOf A1, offOf A1 + i1 * 2, none⟩)), (28, .agg #[.int .i64 e1.Task, .int .i64 e1.At])]) ⟨by kernel_rfl, by kernel_rfl, by kernel_rfl, by kernel_rfl, by kernel_rfl, by kernel_rfl, by kernel_rfl, by kernel_rfl, by kernel_rfl, by kernel_rfl, by kernel_rfl, by kernel_rfl, by kernel_rfl, trivial⟩ (tasks_Legal_p1 K w0 l0 A0 c0 l1 A1 c1 hR0 hL0 hR1 hL1 b1 r1 b2 hc1 hc2 hc3 Z1 cz1 i1 m1 hc4 e1 hx3 b3 _ hq2 _ hS16 _ ?_)
      rintro _ a w1 ⟨_, rfl, hb⟩
      obtain rfl := Option.some.inj h
      exact hQ _ _ _ (Outs.out nofun (Exits.on ⟨rfl, hb⟩))
  · rw [if_neg hc4] at h
    refine we_known (t := 25) (b := decide ((i1 : Int) < (l1.length : Int))) (v := false) (by kernel_rfl) (decide_eq_false hc4) ?_
    refine we_false (by kernel_rfl) ?_
    have hS60 := hS.takeN 1
    obtain rfl := Option.some.inj h
    exact we_exit fun a hF => hQ _ _ _ (Outs.out nofun (Exits.here ⟨hS60, hF.weaken ⟨by kernel_rfl, trivial⟩⟩))
theorem tasks_Legal_ok (K : Nat) (l0 : List STask) (A0 : Option Addr) (c0 : Nat) (l1 : List SCome) (A1 : Option Addr) (c1 : Nat) (w0 : World) (hR0 : RdL w0 A0 l0) (hL0 : l0.length ≤ c0) (hR1 : RdL w0 A1 l1) (hL1 : l1.length ≤ c1) (r : SFault) (h : tasks_Legal.f K l0 l1 = some r) :
    Calls Tryd.prog 48 #[.slice A0 l0.length c0, .slice A1 l1.length c1] w0 (tasks_Legal.Post w0 r) := by
  have hS := St.start w0
  unfold tasks_Legal.f at h
  refine calls_enter (n := 94) (args := [.slice A0 l0.length c0, .slice A1 l1.length c1]) (fn := Tryd.f48) rfl rfl rfl rfl ?_
  show WE _ _ _ _ [(0, .slice A0 l0.length c0), (1, .slice A1 l1.length c1)] _
  refine we_seq fun K1 hK1 => ?_
  refine we_region [(0, 1)] rfl ?_
  refine ge_new (d := some 4) (o := .cells #[.int .i64 0, .int .i64 0] 26) (v := fun b => .pointer (some ⟨b, 0, none⟩)) hS (fun b => by kernel_rfl) fun b1 w1 hx1 hS1 => ?_
  refine ge_nil fun a hF => hK1 _ _ ?_ a hF
  refine we_seq fun K2 hK2 => ?_
  refine we_seq fun K3 hK3 => ?_
  refine we_region [(0, 0), (1, 1), (2, 1), (3, 2)] rfl ?_
  rcases hq1 : tasks_Check.f K l0 with _ | r1
  · rw [hq1] at h; cases h
  rw [hq1] at h
  simp only [] at h
  refine ge_batch [0] (ans := []) (vs := [(9, .slice A0 l0.length c0)]) (l := []) (by kernel_rfl) trivial ?_
  refine ge_call (d := some 10) (f := 19) (args := #[.slice A0 l0.length c0]) (by kernel_rfl) (tasks_Check_ok K l0 A0 c0 _ (hS1.rd hR0) hL0 _ hq1) ?_
  rintro _ w2 ⟨rfl, hS2⟩
  refine ⟨_, rfl, hS2.below, ?_⟩
  have hS3 := hS1.call hS2
  refine ge_new (d := some 5) (o := .cells #[.int .i64 0, .int .i64 0] 26) (v := fun b => .pointer (some ⟨b, 0, none⟩)) hS3 (fun b => by kernel_rfl) fun b2 w3 hx2 hS4 => ?_
  refine ge_set (b := b2) (j := 0) (cs := #[.int .i64 0, .int .i64 0]) (t := 26) (vs := [.int .i64 r1.Code, .int .i64 r1.At]) hS4 (by kernel_rfl) rfl rfl fun w4 hS5 => ?_
  have hS6 : St w0 w4 [Own.blk b2 (.cells #[.int .i64 r1.Code, .int .i64 r1.At] 26 (0, 0)), Own.blk b1 (.cells #[.int .i64 0, .int .i64 0] 26 (0, 0))] := hS5
  refine ge_nil fun a hF => hK3 _ _ ?_ a hF
  refine we_seq fun K4 hK4 => ?_
  refine we_region [(0, 0), (1, 0), (2, 0)] rfl ?_
  refine ge_batch [0, 1, 2] (ans := [.val (.int .i64 r1.Code)]) (vs := [(13, .bool (r1.Code != 0)), (12, .int .i64 r1.Code), (11, .pointer (some ⟨b2, 0, none⟩))]) (l := [.loaded ⟨b2, 0, none⟩ (.int .i64 r1.Code)]) (by kernel_rfl) ⟨hS6.cell 0 rfl rfl, trivial⟩ ?_
  refine ge_nil fun a hF => hK4 _ _ ?_ a hF
  by_cases hc1 : r1.Code = 0
  · rw [if_pos hc1] at h
    refine we_known (t := 13) (b := (r1.Code != 0)) (v := false) (by kernel_rfl) (bne_eq_false_iff_eq.2 hc1) ?_
    refine we_false (by kernel_rfl) ?_
    refine we_skip fun a hF => hK2 _ _ ?_ a hF
    refine we_seq fun K5 hK5 => ?_
    refine we_seq fun K6 hK6 => ?_
    refine we_region [(0, 0), (1, 0), (2, 0)] rfl ?_
    refine ge_batch [0, 1, 2] (ans := []) (vs := [(17, .bool (decide ((l1.length : Int) > 4000))), (16, .int .i64 (l1.length : Int)), (15, .slice A1 l1.length c1)]) (l := []) (by kernel_rfl) trivial ?_
    refine ge_nil fun a hF => hK6 _ _ ?_ a hF
    by_cases hc2 : (l1.length : Int) > 4000
    · rw [if_pos hc2] at h
      refine we_known (t := 17) (b := decide ((l1.length : Int) > 4000)) (v := true) (by kernel_rfl) (decide_eq_true hc2) ?_
      refine we_true (by kernel_rfl) ?_
      refine we_seq fun K7 hK7 => ?_
      refine we_region [(0, 0), (1, 2)] rfl ?_
      refine ge_batch [0] (ans := []) (vs := [(18, .agg #[.int .i64 2, .int .i64 0])]) (l := []) (by kernel_rfl) trivial ?_
      have hS7 := hS6.bring 1 rfl
      refine ge_set (b := b1) (j := 0) (cs := #[.int .i64 0, .int .i64 0]) (t := 26) (vs := [.int .i64 2, .int .i64 0]) hS7 (by kernel_rfl) rfl rfl fun w5 hS8 => ?_
      have hS9 : St w0 w5 [Own.blk b1 (.cells #[.int .i64 2, .int .i64 0] 26 (0, 0)), Own.blk b2 (.cells #[.int .i64 r1.Code, .int .i64 r1.At] 26 (0, 0))] := hS8
      refine ge_nil fun a hF => hK7 _ _ ?_ a hF
      have hS10 := hS9.takeN 0
      obtain rfl := Option.some.inj h
      exact we_ret (post_ret (rs := [.cell 4 26]) (ans := [.val (.int .i64 2), .val (.int .i64 0)]) (vs := [.agg #[.int .i64 2, .int .i64 0]]) (l := [.loaded ⟨b1, 0, none⟩ (.int .i64 2), .loaded ⟨b1, 1, none⟩ (.int .i64 0)]) rfl (by kernel_rfl) ⟨hS9.cell 0 rfl rfl, hS9.cell 0 rfl rfl, trivial⟩ ⟨rfl, hS10⟩)
    · rw [if_neg hc2] at h
      refine we_known (t := 17) (b := decide ((l1.length : Int) > 4000)) (v := false) (by kernel_rfl) (decide_eq_false hc2) ?_
      refine we_false (by kernel_rfl) ?_
      refine we_skip fun a hF => hK5 _ _ ?_ a hF
      refine we_seq fun K8 hK8 => ?_
      refine we_region [(0, 0), (1, 0), (2, 1), (3, 0)] rfl ?_
      refine ge_batch [0, 1] (ans := []) (vs := [(20, .int .i64 (l0.length : Int)), (19, .slice A0 l0.length c0)]) (l := []) (by kernel_rfl) trivial ?_
      by_cases hc3 : l0.length ≤ 17592186044416
      · rw [if_pos hc3] at h
        refine ge_make (α := Int) (d := 21) (t := 23) (el := 3) (bytes := 8) (l := l0.length) (c := l0.length) (x := (.tmp 20)) (y := (.tmp 20)) (ty := 23) (k1 := .i64) (k2 := .i64) (li := (l0.length : Int)) (ci := (l0.length : Int)) (z := .int .i64 0) (z' := (0 : Int)) (by kernel_rfl) (by kernel_rfl) (by kernel_rfl) rfl rfl (by kernel_rfl) (by kernel_rfl) rfl hS6 (Nat.le_refl _) rfl (by omega) fun v1 w6 _ hS11 => ?_
        refine ge_batch [3] (ans := []) (vs := [(6, v1)]) (l := []) (by kernel_rfl) trivial ?_
        refine ge_nil fun a hF => hK8 _ _ ?_ a hF
        refine we_seq fun K9 hK9 => ?_
        refine we_seq fun K10 hK10 => ?_
        refine we_region [(0, 0), (1, 0), (2, 0)] rfl ?_
        refine ge_batch [0, 1, 2] (ans := []) (vs := [(24, .int .i64 0), (23, .int .i64 (l1.length : Int)), (22, .slice A1 l1.length c1)]) (l := []) (by kernel_rfl) trivial ?_
        refine ge_nil fun a hF => hK10 _ _ ?_ a hF
        refine we_block ?_
        obtain ⟨Z1, cz1, rfl⟩ := hS11.open 0 rfl
        have hS12 := hS11.bring 2 rfl
        have hS13 := hS12.takeN 2
        rcases hq3 : iter (tasks_Legal.r0 l0 l1) K (0, (List.replicate l0.length (0 : Int))) with _ | (_ | rr2)
        · rw [hq3] at h; cases h
        · rw [hq3] at h
          simp only [] at h
          refine we_iter (A := tasks_Legal.A0 K w0 l0 A0 c0 l1 A1 c1 hR0 hL0 hR1 hL1 b1 r1 b2 hc1 hc2 hc3 Z1 cz1) (B := tasks_Legal.B0 K w0 l0 A0 c0 l1 A1 c1 hR0 hL0 hR1 hL1 b1 r1 b2 hc1 hc2 hc3 Z1 cz1) hq3 (fun a hF => ⟨hS13, hF.weaken ⟨by kernel_rfl, by kernel_rfl, by kernel_rfl, by kernel_rfl, by kernel_rfl, by kernel_rfl, by kernel_rfl, trivial⟩⟩) (fun s o hf a w hA Q hQ => tasks_Legal_r0 K w0 l0 A0 c0 l1 A1 c1 hR0 hL0 hR1 hL1 b1 r1 b2 hc1 hc2 hc3 Z1 cz1 s o hf a w hA Q hQ) ?_
          rintro _ a w18 _ ⟨rfl, hS61, hF⟩
          replace hS61 : St w0 w18 [Own.blk b1 (.cells #[.int .i64 0, .int .i64 0] 26 (0, 0))] := hS61
          refine hK9 [(4, .pointer (some ⟨b1, 0, none⟩))] w18 ?_ a hF
          refine we_seq fun K26 hK26 => ?_
          refine we_region [(0, 0), (1, 2)] rfl ?_
          refine ge_batch [0] (ans := []) (vs := [(93, .agg #[.int .i64 0, .int .i64 0])]) (l := []) (by kernel_rfl) trivial ?_
          refine ge_set (b := b1) (j := 0) (cs := #[.int .i64 0, .int .i64 0]) (t := 26) (vs := [.int .i64 0, .int .i64 0]) hS61 (by kernel_rfl) rfl rfl fun w19 hS62 => ?_
          have hS63 : St w0 w19 [Own.blk b1 (.cells #[.int .i64 0, .int .i64 0] 26 (0, 0))] := hS62
          refine ge_nil fun a hF => hK26 _ _ ?_ a hF
          have hS64 := hS63.takeN 0
          obtain rfl := Option.some.inj h
          exact we_ret (post_ret (rs := [.cell 4 26]) (ans := [.val (.int .i64 0), .val (.int .i64 0)]) (vs := [.agg #[.int .i64 0, .int .i64 0]]) (l := [.loaded ⟨b1, 0, none⟩ (.int .i64 0), .loaded ⟨b1, 1, none⟩ (.int .i64 0)]) rfl (by kernel_rfl) ⟨hS63.cell 0 rfl rfl, hS63.cell 0 rfl rfl, trivial⟩ ⟨rfl, hS64⟩)
        · rw [hq3] at h
          simp only [] at h
          refine we_iter (A := tasks_Legal.A0 K w0 l0 A0 c0 l1 A1 c1 hR0 hL0 hR1 hL1 b1 r1 b2 hc1 hc2 hc3 Z1 cz1) (B := tasks_Legal.B0 K w0 l0 A0 c0 l1 A1 c1 hR0 hL0 hR1 hL1 b1 r1 b2 hc1 hc2 hc3 Z1 cz1) hq3 (fun a hF => ⟨hS13, hF.weaken ⟨by kernel_rfl, by kernel_rfl, by kernel_rfl, by kernel_rfl, by kernel_rfl, by kernel_rfl, by kernel_rfl, trivial⟩⟩) (fun s o hf a w hA Q hQ => tasks_Legal_r0 K w0 l0 A0 c0 l1 A1 c1 hR0 hL0 hR1 hL1 b1 r1 b2 hc1 hc2 hc3 Z1 cz1 s o hf a w hA Q hQ) ?_
          rintro _ a w1 _ ⟨rfl, hb⟩
          obtain rfl := Option.some.inj h
          exact hb
      · rw [if_neg hc3] at h
        cases h
  · rw [if_neg hc1] at h
    refine we_known (t := 13) (b := (r1.Code != 0)) (v := true) (by kernel_rfl) (bne_iff_ne.2 hc1) ?_
    refine we_true (by kernel_rfl) ?_
    refine we_seq fun K27 hK27 => ?_
    refine we_region [(0, 0), (1, 2)] rfl ?_
    refine ge_batch [0] (ans := [.val (.int .i64 r1.Code), .val (.int .i64 r1.At)]) (vs := [(14, .agg #[.int .i64 r1.Code, .int .i64 r1.At])]) (l := [.loaded ⟨b2, 0, none⟩ (.int .i64 r1.Code), .loaded ⟨b2, 1, none⟩ (.int .i64 r1.At)]) (by kernel_rfl) ⟨hS6.cell 0 rfl rfl, hS6.cell 0 rfl rfl, trivial⟩ ?_
    have hS65 := hS6.bring 1 rfl
    refine ge_set (b := b1) (j := 0) (cs := #[.int .i64 0, .int .i64 0]) (t := 26) (vs := [.int .i64 r1.Code, .int .i64 r1.At]) hS65 (by kernel_rfl) rfl rfl fun w20 hS66 => ?_
    have hS67 : St w0 w20 [Own.blk b1 (.cells #[.int .i64 r1.Code, .int .i64 r1.At] 26 (0, 0)), Own.blk b2 (.cells #[.int .i64 r1.Code, .int .i64 r1.At] 26 (0, 0))] := hS66
    refine ge_nil fun a hF => hK27 _ _ ?_ a hF
    have hS68 := hS67.takeN 0
    obtain rfl := Option.some.inj h
    exact we_ret (post_ret (rs := [.cell 4 26]) (ans := [.val (.int .i64 r1.Code), .val (.int .i64 r1.At)]) (vs := [.agg #[.int .i64 r1.Code, .int .i64 r1.At]]) (l := [.loaded ⟨b1, 0, none⟩ (.int .i64 r1.Code), .loaded ⟨b1, 1, none⟩ (.int .i64 r1.At)]) rfl (by kernel_rfl) ⟨hS67.cell 0 rfl rfl, hS67.cell 0 rfl rfl, trivial⟩ ⟨rfl, hS68⟩)

/-! punctual/punctualref.Lawful -/
abbrev punctualref_Lawful.Post (w0 : World) (r : SFault) (e : Ending) (w : World) : Prop := e = .returned (.agg #[.int .i64 r.Code, .int .i64 r.At]) ∧ St w0 w []
def punctualref_Lawful.p1 (l0 : List STask) (i1 : Nat) (e1 : SCome) : Option (Unit ⊕ SFault) :=
    if e1.Task < 0 then
      some (.inr (punctualref_F.f 4 (i1 : Int)))
    else
      if e1.Task ≥ (l0.length : Int) then
        some (.inr (punctualref_F.f 4 (i1 : Int)))
      else
        some (.inl ())
def punctualref_Lawful.p2 (i1 : Nat) (e1 : SCome) : Option (Unit ⊕ SFault) :=
    if e1.At < 0 then
      some (.inr (punctualref_F.f 3 (i1 : Int)))
    else
      if e1.At > 20000 then
        some (.inr (punctualref_F.f 3 (i1 : Int)))
      else
        some (.inl ())
def punctualref_Lawful.p3 (l1 : List SCome) (i1 : Nat) (e1 : SCome) : Option (Unit ⊕ SFault) :=
    if (i1 : Int) > 0 then
      if 0 ≤ (IntKind.i64.wrap ((i1 : Int) - 1)) then
        match l1[(IntKind.i64.wrap ((i1 : Int) - 1)).toNat]? with
        | none => none
        | some e2 =>
          if e2.At > e1.At then
            some (.inr (punctualref_F.f 12 (i1 : Int)))
          else
            some (.inl ())
      else
        none
    else
      some (.inl ())
def punctualref_Lawful.r4 (l0 : List STask) (l1 : List SCome) (i1 : Nat) (e1 : SCome) : Int → Option (Int ⊕ (Unit ⊕ SFault))
  | z1 =>
    if z1 ≥ 0 then
      if 0 ≤ z1 then
        match l1[(z1).toNat]? with
        | none => none
        | some e3 =>
          if e3.Task = e1.Task then
            if 0 ≤ e1.Task then
              match l0[(e1.Task).toNat]? with
              | none => none
              | some e4 =>
                if (IntKind.i64.wrap (e1.At - e3.At)) < e4.T then
                  some (.inr (.inr (punctualref_F.f 12 (i1 : Int))))
                else
                  some (.inr (.inl ()))
            else
              none
          else
            some (.inl (IntKind.i64.wrap (z1 - 1)))
      else
        none
    else
      some (.inr (.inl ()))
def punctualref_Lawful.r0 (K : Nat) (l0 : List STask) (l1 : List SCome) : Nat → Option (Nat ⊕ (Unit ⊕ SFault))
  | i1 =>
    if (i1 : Int) < (l1.length : Int) then
      match l1[i1]? with
      | none => none
      | some e1 =>
        match punctualref_Lawful.p1 l0 i1 e1 with
        | none => none
        | some (.inl _) =>
          match punctualref_Lawful.p2 i1 e1 with
          | none => none
          | some (.inl _) =>
            match punctualref_Lawful.p3 l1 i1 e1 with
            | none => none
            | some (.inl _) =>
              match iter (punctualref_Lawful.r4 l0 l1 i1 e1) K (IntKind.i64.wrap ((i1 : Int) - 1)) with
              | none => none
              | some (.inl _) =>
                some (.inl (i1 + 1))
              | some (.inr rr1) =>
                some (.inr (.inr rr1))
            | some (.inr rr2) =>
              some (.inr (.inr rr2))
          | some (.inr rr3) =>
            some (.inr (.inr rr3))
        | some (.inr rr4) =>
          some (.inr (.inr rr4))
    else
      some (.inr (.inl ()))
def punctualref_Lawful.f (K : Nat) (l0 : List STask) (l1 : List SCome) : Option SFault :=
  match punctualref_CheckSet.f K l0 with
  | none => none
  | some r1 =>
    if r1.Code = 0 then
      if (l1.length : Int) > 4000 then
        some (punctualref_F.f 2 0)
      else
        match iter (punctualref_Lawful.r0 K l0 l1) K 0 with
        | none => none
        | some (.inl _) =>
          some (⟨0, 0⟩ : SFault)
        | some (.inr rr5) =>
          some rr5
    else
      some r1
abbrev punctualref_Lawful.A1 (K : Nat) (w0 : World) (l0 : List STask) (A0 : Option Addr) (c0 : Nat) (l1 : List SCome) (A1 : Option Addr) (c1 : Nat) (hR0 : RdL w0 A0 l0) (hL0 : l0.length ≤ c0) (hR1 : RdL w0 A1 l1) (hL1 : l1.length ≤ c1) (b1 : Nat) (r1 : SFault) (b2 : Nat) (hc1 : r1.Code = 0) (hc2 : ¬ ((l1.length : Int) > 4000)) (i1 : Nat) (hc3 : (i1 : Int) < (l1.length : Int)) (e1 : SCome) (hx3 : l1[i1]? = some e1) (b3 : Nat) : Unit → Act → World → Prop := fun (s : Unit) a w => St w0 w [Own.blk b3 (.cells #[.int .i64 e1.Task, .int .i64 e1.At] 53 (0, 0)), Own.blk b1 (.cells #[.int .i64 0, .int .i64 0] 26 (0, 0))] ∧ Frm 96 a [(0, .slice A0 l0.length c0), (1, .slice A1 l1.length c1), (4, .pointer (some ⟨b1, 0, none⟩)), (6, .int .i64 (i1 : Int)), (7, .pointer (some ⟨b3, 0, none⟩)), (19, .slice A1 l1.length c1), (20, .int .i64 (l1.length : Int)), (21, .int .i64 (i1 : Int))]
abbrev punctualref_Lawful.B1 (K : Nat) (w0 : World) (l0 : List STask) (A0 : Option Addr) (c0 : Nat) (l1 : List SCome) (A1 : Option Addr) (c1 : Nat) (hR0 : RdL w0 A0 l0) (hL0 : l0.length ≤ c0) (hR1 : RdL w0 A1 l1) (hL1 : l1.length ≤ c1) (b1 : Nat) (r1 : SFault) (b2 : Nat) (hc1 : r1.Code = 0) (hc2 : ¬ ((l1.length : Int) > 4000)) (i1 : Nat) (hc3 : (i1 : Int) < (l1.length : Int)) (e1 : SCome) (hx3 : l1[i1]? = some e1) (b3 : Nat) : SFault → Exit → Act → World → Prop := Rets Tryd.prog Tryd.f49 (punctualref_Lawful.Post w0)
theorem punctualref_Lawful_p1 (K : Nat) (w0 : World) (l0 : List STask) (A0 : Option Addr) (c0 : Nat) (l1 : List SCome) (A1 : Option Addr) (c1 : Nat) (hR0 : RdL w0 A0 l0) (hL0 : l0.length ≤ c0) (hR1 : RdL w0 A1 l1) (hL1 : l1.length ≤ c1) (b1 : Nat) (r1 : SFault) (b2 : Nat) (hc1 : r1.Code = 0) (hc2 : ¬ ((l1.length : Int) > 4000)) (i1 : Nat) (hc3 : (i1 : Int) < (l1.length : Int)) (e1 : SCome) (hx3 : l1[i1]? = some e1) (b3 : Nat) (o : Unit ⊕ SFault) (h : punctualref_Lawful.p1 l0 i1 e1 = some o) (w : World) (hS : St w0 w [Own.blk b3 (.cells #[.int .i64 e1.Task, .int .i64 e1.At] 53 (0, 0)), Own.blk b1 (.cells #[.int .i64 0, .int .i64 0] 26 (0, 0))]) (Q : Exit → Act → World → Prop) (hQ : ∀ x a w, Outs (punctualref_Lawful.A1 K w0 l0 A0 c0 l1 A1 c1 hR0 hL0 hR1 hL1 b1 r1 b2 hc1 hc2 i1 hc3 e1 hx3 b3) (punctualref_Lawful.B1 K w0 l0 A0 c0 l1 A1 c1 hR0 hL0 hR1 hL1 b1 r1 b2 hc1 hc2 i1 hc3 e1 hx3 b3) o x a w → Q x a w) : WE Tryd.prog 96 (subF Tryd.f49 [1, 1, 1, 0, 1, 0, 0, 1, 1, 0, 0, 1, 0]) Q [(0, .slice A0 l0.length c0), (1, .slice A1 l1.length c1), (4, .pointer (some ⟨b1, 0, none⟩)), (6, .int .i64 (i1 : Int)), (7, .pointer (some ⟨b3, 0, none⟩)), (19, .slice A1 l1.length c1), (20, .int .i64 (l1.length : Int)), (21, .int .i64 (i1 : Int)), (22, .bool true), (23, .int .i64 (i1 : Int)), (24, .pointer (some ⟨blkOf A1, offOf A1 + i1 * 2, none⟩)), (25, .agg #[.int .i64 e1.Task, .int .i64 e1.At])] w := by
  simp only [punctualref_Lawful.p1] at h
  refine we_seq fun K15 hK15 => ?_
  refine we_region [(0, 0), (1, 0), (2, 0), (3, 0), (4, 0), (5, 0), (6, 0), (7, 0), (8, 0), (9, 0)] rfl ?_
  refine ge_batch [0, 1, 2, 3] (ans := [.val (.int .i64 e1.Task)]) (vs := [(29, .bool (decide (e1.Task < 0))), (28, .bool (decide (e1.Task < 0))), (27, .int .i64 e1.Task), (26, .pointer (some ⟨b3, 0, none⟩))]) (l := [.loaded ⟨b3, 0, none⟩ (.int .i64 e1.Task)]) (by kernel_rfl) ⟨hS.cell 0 rfl rfl, trivial⟩ ?_
  by_cases hc4 : e1.Task < 0
  · rw [if_pos hc4] at h
    refine ge_known (t := 29) (b := decide (e1.Task < 0)) (c := true) (by kernel_rfl) (decide_eq_true hc4) ?_
    refine ge_batch [4, 5, 6, 7, 8, 9] (ans := []) (vs := [(35, .bool true), (34, undef), (33, undef), (32, undef), (31, undef), (30, undef)]) (l := []) (by kernel_rfl) trivial ?_
    refine ge_nil fun a hF => hK15 _ _ ?_ a hF
    refine we_true (by kernel_rfl) ?_
    refine we_seq fun K16 hK16 => ?_
    refine we_region [(0, 0), (1, 1), (2, 2)] rfl ?_
    refine ge_batch [0] (ans := []) (vs := [(36, .int .i64 (i1 : Int))]) (l := []) (by kernel_rfl) trivial ?_
    refine ge_call (d := some 37) (f := 21) (args := #[.int .i64 4, .int .i64 (i1 : Int)]) (by kernel_rfl) (punctualref_F_ok 4 (i1 : Int) _ _ rfl) ?_
    rintro _ w9 ⟨rfl, hS18⟩
    refine ⟨_, rfl, hS18.below, ?_⟩
    have hS19 := hS.call hS18
    have hS20 := hS19.bring 1 rfl
    refine ge_set (b := b1) (j := 0) (cs := #[.int .i64 0, .int .i64 0]) (t := 26) (vs := [.int .i64 ((punctualref_F.f 4 (i1 : Int)).Code), .int .i64 ((punctualref_F.f 4 (i1 : Int)).At)]) hS20 (by kernel_rfl) rfl rfl fun w10 hS21 => ?_
    have hS22 : St w0 w10 [Own.blk b1 (.cells #[.int .i64 ((punctualref_F.f 4 (i1 : Int)).Code), .int .i64 ((punctualref_F.f 4 (i1 : Int)).At)] 26 (0, 0)), Own.blk b3 (.cells #[.int .i64 e1.Task, .int .i64 e1.At] 53 (0, 0))] := hS21
    refine ge_nil fun a hF => hK16 _ _ ?_ a hF
    have hS23 := hS22.takeN 0
    obtain rfl := Option.some.inj h
    exact we_ret fun a hF => hQ _ _ _ (Outs.out nofun ⟨rfl, (post_ret (rs := [.cell 4 26]) (ans := [.val (.int .i64 ((punctualref_F.f 4 (i1 : Int)).Code)), .val (.int .i64 ((punctualref_F.f 4 (i1 : Int)).At))]) (vs := [.agg #[.int .i64 ((punctualref_F.f 4 (i1 : Int)).Code), .int .i64 ((punctualref_F.f 4 (i1 : Int)).At)]]) (l := [.loaded ⟨b1, 0, none⟩ (.int .i64 ((punctualref_F.f 4 (i1 : Int)).Code)), .loaded ⟨b1, 1, none⟩ (.int .i64 ((punctualref_F.f 4 (i1 : Int)).At))]) rfl (by kernel_rfl) ⟨hS22.cell 0 rfl rfl, hS22.cell 0 rfl rfl, trivial⟩ ⟨rfl, hS23⟩) a hF⟩)
  · rw [if_neg hc4] at h
    refine ge_known (t := 29) (b := decide (e1.Task < 0)) (c := false) (by kernel_rfl) (decide_eq_false hc4) ?_
    refine ge_batch [4, 5, 6, 7, 8, 9] (ans := [.val (.int .i64 e1.Task)]) (vs := [(35, .bool (decide (e1.Task ≥ (l0.length : Int)))), (34, .bool (decide (e1.Task ≥ (l0.length : Int)))), (33, .int .i64 (l0.length : Int)), (32, .slice A0 l0.length c0), (31, .int .i64 e1.Task), (30, .pointer (some ⟨b3, 0, none⟩))]) (l := [.loaded ⟨b3, 0, none⟩ (.int .i64 e1.Task)]) (by kernel_rfl) ⟨hS.cell 0 rfl rfl, trivial⟩ ?_
    refine ge_nil fun a hF => hK15 _ _ ?_ a hF
    by_cases hc5 : e1.Task ≥ (l0.length : Int)
    · rw [if_pos hc5] at h
      refine we_known (t := 35) (b := decide (e1.Task ≥ (l0.length : Int))) (v := true) (by kernel_rfl) (decide_eq_true hc5) ?_
      refine we_true (by kernel_rfl) ?_
      refine we_seq fun K17 hK17 => ?_
      refine we_region [(0, 0), (1, 1), (2, 2)] rfl ?_
      refine ge_batch [0] (ans := []) (vs := [(36, .int .i64 (i1 : Int))]) (l := []) (by kernel_rfl) trivial ?_
      refine ge_call (d := some 37) (f := 21) (args := #[.int .i64 4, .int .i64 (i1 : Int)]) (by kernel_rfl) (punctualref_F_ok 4 (i1 : Int) _ _ rfl) ?_
      rintro _ w11 ⟨rfl, hS24⟩
      refine ⟨_, rfl, hS24.below, ?_⟩
      have hS25 := hS.call hS24
      have hS26 := hS25.bring 1 rfl
      refine ge_set (b := b1) (j := 0) (cs := #[.int .i64 0, .int .i64 0]) (t := 26) (vs := [.int .i64 ((punctualref_F.f 4 (i1 : Int)).Code), .int .i64 ((punctualref_F.f 4 (i1 : Int)).At)]) hS26 (by kernel_rfl) rfl rfl fun w12 hS27 => ?_
      have hS28 : St w0 w12 [Own.blk b1 (.cells #[.int .i64 ((punctualref_F.f 4 (i1 : Int)).Code), .int .i64 ((punctualref_F.f 4 (i1 : Int)).At)] 26 (0, 0)), Own.blk b3 (.cells #[.int .i64 e1.Task, .int .i64 e1.At] 53 (0, 0))] := hS27
      refine ge_nil fun a hF => hK17 _ _ ?_ a hF
      have hS29 := hS28.takeN 0
      obtain rfl := Option.some.inj h
      exact we_ret fun a hF => hQ _ _ _ (Outs.out nofun ⟨rfl, (post_ret (rs := [.cell 4 26]) (ans := [.val (.int .i64 ((punctualref_F.f 4 (i1 : Int)).Code)), .val (.int .i64 ((punctualref_F.f 4 (i1 : Int)).At))]) (vs := [.agg #[.int .i64 ((punctualref_F.f 4 (i1 : Int)).Code), .int .i64 ((punctualref_F.f 4 (i1 : Int)).At)]]) (l := [.loaded ⟨b1, 0, none⟩ (.int .i64 ((punctualref_F.f 4 (i1 : Int)).Code)), .loaded ⟨b1, 1, none⟩ (.int .i64 ((punctualref_F.f 4 (i1 : Int)).At))]) rfl (by kernel_rfl) ⟨hS28.cell 0 rfl rfl, hS28.cell 0 rfl rfl, trivial⟩ ⟨rfl, hS29⟩) a hF⟩)
    · rw [if_neg hc5] at h
      refine we_known (t := 35) (b := decide (e1.Task ≥ (l0.length : Int))) (v := false) (by kernel_rfl) (decide_eq_false hc5) ?_
      refine we_false (by kernel_rfl) ?_
      have hS30 := hS.bring 1 rfl
      have hS31 := hS30.bring 1 rfl
      obtain rfl := Option.some.inj h
      exact we_skip fun a hF => hQ _ _ _ (Outs.again ⟨hS31, hF.weaken ⟨by kernel_rfl, by kernel_rfl, by kernel_rfl, by kernel_rfl, by kernel_rfl, by kernel_rfl, by kernel_rfl, by kernel_rfl, trivial⟩⟩)
abbrev punctualref_Lawful.A2 (K : Nat) (w0 : World) (l0 : List STask) (A0 : Option Addr) (c0 : Nat) (l1 : List SCome) (A1 : Option Addr) (c1 : Nat) (hR0 : RdL w0 A0 l0) (hL0 : l0.length ≤ c0) (hR1 : RdL w0 A1 l1) (hL1 : l1.length ≤ c1) (b1 : Nat) (r1 : SFault) (b2 : Nat) (hc1 : r1.Code = 0) (hc2 : ¬ ((l1.length : Int) > 4000)) (i1 : Nat) (hc3 : (i1 : Int) < (l1.length : Int)) (e1 : SCome) (hx3 : l1[i1]? = some e1) (b3 : Nat) : Unit → Act → World → Prop := fun (s : Unit) a w => St w0 w [Own.blk b3 (.cells #[.int .i64 e1.Task, .int .i64 e1.At] 53 (0, 0)), Own.blk b1 (.cells #[.int .i64 0, .int .i64 0] 26 (0, 0))] ∧ Frm 96 a [(0, .slice A0 l0.length c0), (1, .slice A1 l1.length c1), (4, .pointer (some ⟨b1, 0, none⟩)), (6, .int .i64 (i1 : Int)), (7, .pointer (some ⟨b3, 0, none⟩)), (19, .slice A1 l1.length c1), (20, .int .i64 (l1.length : Int)), (21, .int .i64 (i1 : Int))]
abbrev punctualref_Lawful.B2 (K : Nat) (w0 : World) (l0 : List STask) (A0 : Option Addr) (c0 : Nat) (l1 : List SCome) (A1 : Option Addr) (c1 : Nat) (hR0 : RdL w0 A0 l0) (hL0 : l0.length ≤ c0) (hR1 : RdL w0 A1 l1) (hL1 : l1.length ≤ c1) (b1 : Nat) (r1 : SFault) (b2 : Nat) (hc1 : r1.Code = 0) (hc2 : ¬ ((l1.length : Int) > 4000)) (i1 : Nat) (hc3 : (i1 : Int) < (l1.length : Int)) (e1 : SCome) (hx3 : l1[i1]? = some e1) (b3 : Nat) : SFault → Exit → Act → World → Prop := Rets Tryd.prog Tryd.f49 (punctualref_Lawful.Post w0)
theorem punctualref_Lawful_p2 (K : Nat) (w0 : World) (l0 : List STask) (A0 : Option Addr) (c0 : Nat) (l1 : List SCome) (A1 : Option Addr) (c1 : Nat) (hR0 : RdL w0 A0 l0) (hL0 : l0.length ≤ c0) (hR1 : RdL w0 A1 l1) (hL1 : l1.length ≤ c1) (b1 : Nat) (r1 : SFault) (b2 : Nat) (hc1 : r1.Code = 0) (hc2 : ¬ ((l1.length : Int) > 4000)) (i1 : Nat) (hc3 : (i1 : Int) < (l1.length : Int)) (e1 : SCome) (hx3 : l1[i1]? = some e1) (b3 : Nat) (o : Unit ⊕ SFault) (h : punctualref_Lawful.p2 i1 e1 = some o) (w : World) (hS : St w0 w [Own.blk b3 (.cells #[.int .i64 e1.Task, .int .i64 e1.At] 53 (0, 0)), Own.blk b1 (.cells #[.int .i64 0, .int .i64 0] 26 (0, 0))]) (Q : Exit → Act → World → Prop) (hQ : ∀ x a w, Outs (punctualref_Lawful.A2 K w0 l0 A0 c0 l1 A1 c1 hR0 hL0 hR1 hL1 b1 r1 b2 hc1 hc2 i1 hc3 e1 hx3 b3) (punctualref_Lawful.B2 K w0 l0 A0 c0 l1 A1 c1 hR0 hL0 hR1 hL1 b1 r1 b2 hc1 hc2 i1 hc3 e1 hx3 b3) o x a w → Q x a w) : WE Tryd.prog 96 (subF Tryd.f49 [1, 1, 1, 0, 1, 0, 0, 1, 1, 0, 0, 1, 1, 0]) Q [(0, .slice A0 l0.length c0), (1, .slice A1 l1.length c1), (4, .pointer (some ⟨b1, 0, none⟩)), (6, .int .i64 (i1 : Int)), (7, .pointer (some ⟨b3, 0, none⟩)), (19, .slice A1 l1.length c1), (20, .int .i64 (l1.length : Int)), (21, .int .i64 (i1 : Int))] w := by
  simp only [punctualref_Lawful.p2] at h
  refine we_seq fun K19 hK19 => ?_
  refine we_region [(0, 0), (1, 0), (2, 0), (3, 0), (4, 0), (5, 0), (6, 0), (7, 0)] rfl ?_
  refine ge_batch [0, 1, 2, 3] (ans := [.val (.int .i64 e1.At)]) (vs := [(41, .bool (decide (e1.At < 0))), (40, .bool (decide (e1.At < 0))), (39, .int .i64 e1.At), (38, .pointer (some ⟨b3, 1, none⟩))]) (l := [.loaded ⟨b3, 1, none⟩ (.int .i64 e1.At)]) (by kernel_rfl) ⟨hS.cell 0 rfl rfl, trivial⟩ ?_
  by_cases hc6 : e1.At < 0
  · rw [if_pos hc6] at h
    refine ge_known (t := 41) (b := decide (e1.At < 0)) (c := true) (by kernel_rfl) (decide_eq_true hc6) ?_
    refine ge_batch [4, 5, 6, 7] (ans := []) (vs := [(45, .bool true), (44, undef), (43, undef), (42, undef)]) (l := []) (by kernel_rfl) trivial ?_
    refine ge_nil fun a hF => hK19 _ _ ?_ a hF
    refine we_true (by kernel_rfl) ?_
    refine we_seq fun K20 hK20 => ?_
    refine we_region [(0, 0), (1, 1), (2, 2)] rfl ?_
    refine ge_batch [0] (ans := []) (vs := [(46, .int .i64 (i1 : Int))]) (l := []) (by kernel_rfl) trivial ?_
    refine ge_call (d := some 47) (f := 21) (args := #[.int .i64 3, .int .i64 (i1 : Int)]) (by kernel_rfl) (punctualref_F_ok 3 (i1 : Int) _ _ rfl) ?_
    rintro _ w14 ⟨rfl, hS33⟩
    refine ⟨_, rfl, hS33.below, ?_⟩
    have hS34 := hS.call hS33
    have hS35 := hS34.bring 1 rfl
    refine ge_set (b := b1) (j := 0) (cs := #[.int .i64 0, .int .i64 0]) (t := 26) (vs := [.int .i64 ((punctualref_F.f 3 (i1 : Int)).Code), .int .i64 ((punctualref_F.f 3 (i1 : Int)).At)]) hS35 (by kernel_rfl) rfl rfl fun w15 hS36 => ?_
    have hS37 : St w0 w15 [Own.blk b1 (.cells #[.int .i64 ((punctualref_F.f 3 (i1 : Int)).Code), .int .i64 ((punctualref_F.f 3 (i1 : Int)).At)] 26 (0, 0)), Own.blk b3 (.cells #[.int .i64 e1.Task, .int .i64 e1.At] 53 (0, 0))] := hS36
    refine ge_nil fun a hF => hK20 _ _ ?_ a hF
    have hS38 := hS37.takeN 0
    obtain rfl := Option.some.inj h
    exact we_ret fun a hF => hQ _ _ _ (Outs.out nofun ⟨rfl, (post_ret (rs := [.cell 4 26]) (ans := [.val (.int .i64 ((punctualref_F.f 3 (i1 : Int)).Code)), .val (.int .i64 ((punctualref_F.f 3 (i1 : Int)).At))]) (vs := [.agg #[.int .i64 ((punctualref_F.f 3 (i1 : Int)).Code), .int .i64 ((punctualref_F.f 3 (i1 : Int)).At)]]) (l := [.loaded ⟨b1, 0, none⟩ (.int .i64 ((punctualref_F.f 3 (i1 : Int)).Code)), .loaded ⟨b1, 1, none⟩ (.int .i64 ((punctualref_F.f 3 (i1 : Int)).At))]) rfl (by kernel_rfl) ⟨hS37.cell 0 rfl rfl, hS37.cell 0 rfl rfl, trivial⟩ ⟨rfl, hS38⟩) a hF⟩)
  · rw [if_neg hc6] at h
    refine ge_known (t := 41) (b := decide (e1.At < 0)) (c := false) (by kernel_rfl) (decide_eq_false hc6) ?_
    refine ge_batch [4, 5, 6, 7] (ans := [.val (.int .i64 e1.At)]) (vs := [(45, .bool (decide (e1.At > 20000))), (44, .bool (decide (e1.At > 20000))), (43, .int .i64 e1.At), (42, .pointer (some ⟨b3, 1, none⟩))]) (l := [.loaded ⟨b3, 1, none⟩ (.int .i64 e1.At)]) (by kernel_rfl) ⟨hS.cell 0 rfl rfl, trivial⟩ ?_
    refine ge_nil fun a hF => hK19 _ _ ?_ a hF
    by_cases hc7 : e1.At > 20000
    · rw [if_pos hc7] at h
      refine we_known (t := 45) (b := decide (e1.At > 20000)) (v := true) (by kernel_rfl) (decide_eq_true hc7) ?_
      refine we_true (by kernel_rfl) ?_
      refine we_seq fun K21 hK21 => ?_
      refine we_region [(0, 0), (1, 1), (2, 2)] rfl ?_
      refine ge_batch [0] (ans := []) (vs := [(46, .int .i64 (i1 : Int))]) (l := []) (by kernel_rfl) trivial ?_
      refine ge_call (d := some 47) (f := 21) (args := #[.int .i64 3, .int .i64 (i1 : Int)]) (by kernel_rfl) (punctualref_F_ok 3 (i1 : Int) _ _ rfl) ?_
      rintro _ w16 ⟨rfl, hS39⟩
      refine ⟨_, rfl, hS39.below, ?_⟩
      have hS40 := hS.call hS39
      have hS41 := hS40.bring 1 rfl
      refine ge_set (b := b1) (j := 0) (cs := #[.int .i64 0, .int .i64 0]) (t := 26) (vs := [.int .i64 ((punctualref_F.f 3 (i1 : Int)).Code), .int .i64 ((punctualref_F.f 3 (i1 : Int)).At)]) hS41 (by kernel_rfl) rfl rfl fun w17 hS42 => ?_
      have hS43 : St w0 w17 [Own.blk b1 (.cells #[.int .i64 ((punctualref_F.f 3 (i1 : Int)).Code), .int .i64 ((punctualref_F.f 3 (i1 : Int)).At)] 26 (0, 0)), Own.blk b3 (.cells #[.int .i64 e1.Task, .int .i64 e1.At] 53 (0, 0))] := hS42
      refine ge_nil fun a hF => hK21 _ _ ?_ a hF
      have hS44 := hS43.takeN 0
      obtain rfl := Option.some.inj h
      exact we_ret fun a hF => hQ _ _ _ (Outs.out nofun ⟨rfl, (post_ret (rs := [.cell 4 26]) (ans := [.val (.int .i64 ((punctualref_F.f 3 (i1 : Int)).Code)), .val (.int .i64 ((punctualref_F.f 3 (i1 : Int)).At))]) (vs := [.agg #[.int .i64 ((punctualref_F.f 3 (i1 : Int)).Code), .int .i64 ((punctualref_F.f 3 (i1 : Int)).At)]]) (l := [.loaded ⟨b1, 0, none⟩ (.int .i64 ((punctualref_F.f 3 (i1 : Int)).Code)), .loaded ⟨b1, 1, none⟩ (.int .i64 ((punctualref_F.f 3 (i1 : Int)).At))]) rfl (by kernel_rfl) ⟨hS43.cell 0 rfl rfl, hS43.cell 0 rfl rfl, trivial⟩ ⟨rfl, hS44⟩) a hF⟩)
    · rw [if_neg hc7] at h
      refine we_known (t := 45) (b := decide (e1.At > 20000)) (v := false) (by kernel_rfl) (decide_eq_false hc7) ?_
      refine we_false (by kernel_rfl) ?_
      have hS45 := hS.bring 1 rfl
      have hS46 := hS45.bring 1 rfl
      obtain rfl := Option.some.inj h
      exact we_skip fun a hF => hQ _ _ _ (Outs.again ⟨hS46, hF.weaken ⟨by kernel_rfl, by kernel_rfl, by kernel_rfl, by kernel_rfl, by kernel_rfl, by kernel_rfl, by kernel_rfl, by kernel_rfl, trivial⟩⟩)
abbrev punctualref_Lawful.A3 (K : Nat) (w0 : World) (l0 : List STask) (A0 : Option Addr) (c0 : Nat) (l1 : List SCome) (A1 : Option Addr) (c1 : Nat) (hR0 : RdL w0 A0 l0) (hL0 : l0.length ≤ c0) (hR1 : RdL w0 A1 l1) (hL1 : l1.length ≤ c1) (b1 : Nat) (r1 : SFault) (b2 : Nat) (hc1 : r1.Code = 0) (hc2 : ¬ ((l1.length : Int) > 4000)) (i1 : Nat) (hc3 : (i1 : Int) < (l1.length : Int)) (e1 : SCome) (hx3 : l1[i1]? = some e1) (b3 : Nat) : Unit → Act → World → Prop := fun (s : Unit) a w => St w0 w [Own.blk b3 (.cells #[.int .i64 e1.Task, .int .i64 e1.At] 53 (0, 0)), Own.blk b1 (.cells #[.int .i64 0, .int .i64 0] 26 (0, 0))] ∧ Frm 96 a [(0, .slice A0 l0.length c0), (1, .slice A1 l1.length c1), (4, .pointer (some ⟨b1, 0, none⟩)), (6, .int .i64 (i1 : Int)), (7, .pointer (some ⟨b3, 0, none⟩)), (19, .slice A1 l1.length c1), (20, .int .i64 (l1.length : Int)), (21, .int .i64 (i1 : Int))]
abbrev punctualref_Lawful.B3 (K : Nat) (w0 : World) (l0 : List STask) (A0 : Option Addr) (c0 : Nat) (l1 : List SCome) (A1 : Option Addr) (c1 : Nat) (hR0 : RdL w0 A0 l0) (hL0 : l0.length ≤ c0) (hR1 : RdL w0 A1 l1) (hL1 : l1.length ≤ c1) (b1 : Nat) (r1 : SFault) (b2 : Nat) (hc1 : r1.Code = 0) (hc2 : ¬ ((l1.length : Int) > 4000)) (i1 : Nat) (hc3 : (i1 : Int) < (l1.length : Int)) (e1 : SCome) (hx3 : l1[i1]? = some e1) (b3 : Nat) : SFault → Exit → Act → World → Prop := Rets Tryd.prog Tryd.f49 (punctualref_Lawful.Post w0)
theorem punctualref_Lawful_p3 (K : Nat) (w0 : World) (l0 : List STask) (A0 : Option Addr) (c0 : Nat) (l1 : List SCome) (A1 : Option Addr) (c1 : Nat) (hR0 : RdL w0 A0 l0) (hL0 : l0.length ≤ c0) (hR1 : RdL w0 A1 l1) (hL1 : l1.length ≤ c1) (b1 : Nat) (r1 : SFault) (b2 : Nat) (hc1 : r1.Code = 0) (hc2 : ¬ ((l1.length : Int) > 4000)) (i1 : Nat) (hc3 : (i1 : Int) < (l1.length : Int)) (e1 : SCome) (hx3 : l1[i1]? = some e1) (b3 : Nat) (o : Unit ⊕ SFault) (h : punctualref_Lawful.p3 l1 i1 e1 = some o) (w : World) (hS : St w0 w [Own.blk b3 (.cells #[.int .i64 e1.Task, .int .i64 e1.At] 53 (0, 0)), Own.blk b1 (.cells #[.int .i64 0, .int .i64 0] 26 (0, 0))]) (Q : Exit → Act → World → Prop) (hQ : ∀ x a w, Outs (punctualref_Lawful.A3 K w0 l0 A0 c0 l1 A1 c1 hR0 hL0 hR1 hL1 b1 r1 b2 hc1 hc2 i1 hc3 e1 hx3 b3) (punctualref_Lawful.B3 K w0 l0 A0 c0 l1 A1 c1 hR0 hL0 hR1 hL1 b1 r1 b2 hc1 hc2 i1 hc3 e1 hx3 b3) o x a w → Q x a w) : WE Tryd.prog 96 (subF Tryd.f49 [1, 1, 1, 0, 1, 0, 0, 1, 1, 0, 0, 1, 1, 1, 0]) Q [(0, .slice A0 l0.length c0), (1, .slice A1 l1.length c1), (4, .pointer (some ⟨b1, 0, none⟩)), (6, .int .i64 (i1 : Int)), (7, .pointer (some ⟨b3, 0, none⟩)), (19, .slice A1 l1.length c1), (20, .int .i64 (l1.length : Int)), (21, .int .i64 (i1 : Int))] w := by
  simp only [punctualref_Lawful.p3] at h
  refine we_seq fun K23 hK23 => ?_
  refine we_draws (by kernel_rfl) [(0, 0), (1, 0), (2, 0), (3, 0), (4, 0), (5, 0), (6, 0), (7, 0), (8, 0), (9, 0), (10, 0), (11, 0), (12, 0)] (by kernel_rfl) ?_
  have hS48 := hS.drew
  refine ge_batch [0, 1, 2] (ans := []) (vs := [(50, .bool (decide ((i1 : Int) > 0))), (49, .bool (decide ((i1 : Int) > 0))), (48, .int .i64 (i1 : Int))]) (l := []) (by kernel_rfl) trivial ?_
  by_cases hc8 : (i1 : Int) > 0
  · rw [if_pos hc8] at h
    refine ge_known (t := 50) (b := decide ((i1 : Int) > 0)) (c := true) (by kernel_rfl) (decide_eq_true hc8) ?_
    refine ge_batch [3, 4, 5] (ans := []) (vs := [(53, .int .i64 (IntKind.i64.wrap ((i1 : Int) - 1))), (52, .int .i64 (i1 : Int)), (51, .slice A1 l1.length c1)]) (l := []) (by kernel_rfl) trivial ?_
    by_cases hc9 : 0 ≤ (IntKind.i64.wrap ((i1 : Int) - 1))
    · rw [if_pos hc9] at h
      rcases hx5 : l1[(IntKind.i64.wrap ((i1 : Int) - 1)).toNat]? with _ | e2
      · rw [hx5] at h; cases h
      rw [hx5] at h
      simp only [] at h
      refine ge_index (d := 54) (ty := 0) (t := 49) (el := 53) (sz := 2) (m := l1.length) (c := c1) (x := (.tmp 51)) (y := (.tmp 53)) (A := A1) (k' := .i64) (j := (IntKind.i64.wrap ((i1 : Int) - 1))) (jn := ((IntKind.i64.wrap ((i1 : Int) - 1)).toNat)) (b0 := blkOf A1) (o0 := offOf A1) (by kernel_rfl) (by kernel_rfl) (by kernel_rfl) (by kernel_rfl) (by kernel_rfl) ((hS48.rd hR1).eqSome (pos_of_get hx5)) (Int.toNat_of_nonneg hc9).symm (lt_of_get hx5) ?_
      refine ge_batch [7, 8, 9, 10, 11, 12] (ans := [.val (.int .i64 e2.At), .val (.int .i64 e1.At)]) (vs := [(60, .bool (decide (e2.At > e1.At))), (59, .bool (decide (e2.At > e1.At))), (58, .int .i64 e1.At), (57, .pointer (some ⟨b3, 1, none⟩)), (56, .int .i64 e2.At), (55, .pointer (some ⟨blkOf A1, offOf A1 + (IntKind.i64.wrap ((i1 : Int) - 1)).toNat * 2 + 1, none⟩))]) (l := [.loaded ⟨blkOf A1, offOf A1 + ((IntKind.i64.wrap ((i1 : Int) - 1)).toNat) * 2 + 1, none⟩ (.int .i64 e2.At), .loaded ⟨b3, 1, none⟩ (.int .i64 e1.At)]) (by kernel_rfl) ⟨RdL.cell (j := 1) (hS48.rd hR1) hx5 rfl, hS48.cell 0 rfl rfl, trivial⟩ ?_
      refine ge_nil fun a hF => hK23 _ _ ?_ a hF
      by_cases hc10 : e2.At > e1.At
      · rw [if_pos hc10] at h
        refine we_known (t := 60) (b := decide (e2.At > e1.At)) (v := true) (by kernel_rfl) (decide_eq_true hc10) ?_
        refine we_true (by kernel_rfl) ?_
        refine we_seq fun K24 hK24 => ?_
        refine we_region [(0, 0), (1, 1), (2, 2)] rfl ?_
        refine ge_batch [0] (ans := []) (vs := [(61, .int .i64 (i1 : Int))]) (l := []) (by kernel_rfl) trivial ?_
        refine ge_call (d := some 62) (f := 21) (args := #[.int .i64 12, .int .i64 (i1 : Int)]) (by kernel_rfl) (punctualref_F_ok 12 (i1 : Int) _ _ rfl) ?_
        rintro _ w19 ⟨rfl, hS49⟩
        refine ⟨_, rfl, hS49.below, ?_⟩
        have hS50 := hS48.call hS49
        have hS51 := hS50.bring 1 rfl
        refine ge_set (b := b1) (j := 0) (cs := #[.int .i64 0, .int .i64 0]) (t := 26) (vs := [.int .i64 ((punctualref_F.f 12 (i1 : Int)).Code), .int .i64 ((punctualref_F.f 12 (i1 : Int)).At)]) hS51 (by kernel_rfl) rfl rfl fun w20 hS52 => ?_
        have hS53 : St w0 w20 [Own.blk b1 (.cells #[.int .i64 ((punctualref_F.f 12 (i1 : Int)).Code), .int .i64 ((punctualref_F.f 12 (i1 : Int)).At)] 26 (0, 0)), Own.blk b3 (.cells #[.int .i64 e1.Task, .int .i64 e1.At] 53 (0, 0))] := hS52
        refine ge_nil fun a hF => hK24 _ _ ?_ a hF
        have hS54 := hS53.takeN 0
        obtain rfl := Option.some.inj h
        exact we_ret fun a hF => hQ _ _ _ (Outs.out nofun ⟨rfl, (post_ret (rs := [.cell 4 26]) (ans := [.val (.int .i64 ((punctualref_F.f 12 (i1 : Int)).Code)), .val (.int .i64 ((punctualref_F.f 12 (i1 : Int)).At))]) (vs := [.agg #[.int .i64 ((punctualref_F.f 12 (i1 : Int)).Code), .int .i64 ((punctualref_F.f 12 (i1 : Int)).At)]]) (l := [.loaded ⟨b1, 0, none⟩ (.int .i64 ((punctualref_F.f 12 (i1 : Int)).Code)), .loaded ⟨b1, 1, none⟩ (.int .i64 ((punctualref_F.f 12 (i1 : Int)).At))]) rfl (by kernel_rfl) ⟨hS53.cell 0 rfl rfl, hS53.cell 0 rfl rfl, trivial⟩ ⟨rfl, hS54⟩) a hF⟩)
      · rw [if_neg hc10] at h
        refine we_known (t := 60) (b := decide (e2.At > e1.At)) (v := false) (by kernel_rfl) (decide_eq_false hc10) ?_
        refine we_false (by kernel_rfl) ?_
        have hS55 := hS48.bring 1 rfl
        have hS56 := hS55.bring 1 rfl
        obtain rfl := Option.some.inj h
        exact we_skip fun a hF => hQ _ _ _ (Outs.again ⟨hS56, hF.weaken ⟨by kernel_rfl, by kernel_rfl, by kernel_rfl, by kernel_rfl, by kernel_rfl, by kernel_rfl, by kernel_rfl, by kernel_rfl, trivial⟩⟩)
    · rw [if_neg hc9] at h
      cases h
  · rw [if_neg hc8] at h
    refine ge_known (t := 50) (b := decide ((i1 : Int) > 0)) (c := false) (by kernel_rfl) (decide_eq_false hc8) ?_
    refine ge_batch [3, 4, 5, 6, 7, 8, 9, 10, 11, 12] (ans := []) (vs := [(60, .bool false), (59, undef), (58, undef), (57, undef), (56, undef), (55, undef), (54, undef), (53, undef), (52, undef), (51, undef)]) (l := []) (by kernel_rfl) trivial ?_
    refine ge_nil fun a hF => hK23 _ _ ?_ a hF
    refine we_false (by kernel_rfl) ?_
    have hS57 := hS48.bring 1 rfl
    have hS58 := hS57.bring 1 rfl
    obtain rfl := Option.some.inj h
    exact we_skip fun a hF => hQ _ _ _ (Outs.again ⟨hS58, hF.weaken ⟨by kernel_rfl, by kernel_rfl, by kernel_rfl, by kernel_rfl, by kernel_rfl, by kernel_rfl, by kernel_rfl, by kernel_rfl, trivial⟩⟩)
abbrev punctualref_Lawful.A4 (K : Nat) (w0 : World) (l0 : List STask) (A0 : Option Addr) (c0 : Nat) (l1 : List SCome) (A1 : Option Addr) (c1 : Nat) (hR0 : RdL w0 A0 l0) (hL0 : l0.length ≤ c0) (hR1 : RdL w0 A1 l1) (hL1 : l1.length ≤ c1) (b1 : Nat) (r1 : SFault) (b2 : Nat) (hc1 : r1.Code = 0) (hc2 : ¬ ((l1.length : Int) > 4000)) (i1 : Nat) (hc3 : (i1 : Int) < (l1.length : Int)) (e1 : SCome) (hx3 : l1[i1]? = some e1) (b3 : Nat) : Int → Act → World → Prop := fun (s : Int) a w => St w0 w [Own.blk b3 (.cells #[.int .i64 e1.Task, .int .i64 e1.At] 53 (0, 0)), Own.blk b1 (.cells #[.int .i64 0, .int .i64 0] 26 (0, 0))] ∧ Frm 96 a [(0, .slice A0 l0.length c0), (1, .slice A1 l1.length c1), (4, .pointer (some ⟨b1, 0, none⟩)), (6, .int .i64 (i1 : Int)), (7, .pointer (some ⟨b3, 0, none⟩)), (8, .int .i64 s), (19, .slice A1 l1.length c1), (20, .int .i64 (l1.length : Int)), (21, .int .i64 (i1 : Int))]
abbrev punctualref_Lawful.B4 (K : Nat) (w0 : World) (l0 : List STask) (A0 : Option Addr) (c0 : Nat) (l1 : List SCome) (A1 : Option Addr) (c1 : Nat) (hR0 : RdL w0 A0 l0) (hL0 : l0.length ≤ c0) (hR1 : RdL w0 A1 l1) (hL1 : l1.length ≤ c1) (b1 : Nat) (r1 : SFault) (b2 : Nat) (hc1 : r1.Code = 0) (hc2 : ¬ ((l1.length : Int) > 4000)) (i1 : Nat) (hc3 : (i1 : Int) < (l1.length : Int)) (e1 : SCome) (hx3 : l1[i1]? = some e1) (b3 : Nat) : (Unit ⊕ SFault) → Exit → Act → World → Prop := Exits 2 (fun (s : Unit) a w => St w0 w [Own.blk b1 (.cells #[.int .i64 0, .int .i64 0] 26 (0, 0))] ∧ Frm 96 a [(0, .slice A0 l0.length c0), (1, .slice A1 l1.length c1), (4, .pointer (some ⟨b1, 0, none⟩)), (19, .slice A1 l1.length c1), (20, .int .i64 (l1.length : Int)), (21, .int .i64 (i1 : Int))]) (Rets Tryd.prog Tryd.f49 (punctualref_Lawful.Post w0))
theorem punctualref_Lawful_r4 (K : Nat) (w0 : World) (l0 : List STask) (A0 : Option Addr) (c0 : Nat) (l1 : List SCome) (A1 : Option Addr) (c1 : Nat) (hR0 : RdL w0 A0 l0) (hL0 : l0.length ≤ c0) (hR1 : RdL w0 A1 l1) (hL1 : l1.length ≤ c1) (b1 : Nat) (r1 : SFault) (b2 : Nat) (hc1 : r1.Code = 0) (hc2 : ¬ ((l1.length : Int) > 4000)) (i1 : Nat) (hc3 : (i1 : Int) < (l1.length : Int)) (e1 : SCome) (hx3 : l1[i1]? = some e1) (b3 : Nat) (s : Int) (o : Int ⊕ (Unit ⊕ SFault)) (h : punctualref_Lawful.r4 l0 l1 i1 e1 s = some o) (a : Act) (w : World) (hA : punctualref_Lawful.A4 K w0 l0 A0 c0 l1 A1 c1 hR0 hL0 hR1 hL1 b1 r1 b2 hc1 hc2 i1 hc3 e1 hx3 b3 s a w) (Q : Exit → Act → World → Prop) (hQ : ∀ x a w, Outs (punctualref_Lawful.A4 K w0 l0 A0 c0 l1 A1 c1 hR0 hL0 hR1 hL1 b1 r1 b2 hc1 hc2 i1 hc3 e1 hx3 b3) (punctualref_Lawful.B4 K w0 l0 A0 c0 l1 A1 c1 hR0 hL0 hR1 hL1 b1 r1 b2 hc1 hc2 i1 hc3 e1 hx3 b3) o x a w → Q x a w) : (subF Tryd.f49 [1, 1, 1, 0, 1, 0, 0, 1, 1, 0, 0, 1, 1, 1, 1, 1, 0, 0]).wp Tryd.prog Q a w := by
  obtain ⟨z1, hs⟩ : ∃ z, z = s := ⟨s, rfl⟩
  subst hs
  obtain ⟨hS, hF⟩ := hA
  replace hS : St w0 w [Own.blk b3 (.cells #[.int .i64 e1.Task, .int .i64 e1.At] 53 (0, 0)), Own.blk b1 (.cells #[.int .i64 0, .int .i64 0] 26 (0, 0))] := hS
  simp only [punctualref_Lawful.r4] at h
  refine (?_ : WE Tryd.prog 96 (subF Tryd.f49 [1, 1, 1, 0, 1, 0, 0, 1, 1, 0, 0, 1, 1, 1, 1, 1, 0, 0]) Q [(0, .slice A0 l0.length c0), (1, .slice A1 l1.length c1), (4, .pointer (some ⟨b1, 0, none⟩)), (6, .int .i64 (i1 : Int)), (7, .pointer (some ⟨b3, 0, none⟩)), (8, .int .i64 z1), (19, .slice A1 l1.length c1), (20, .int .i64 (l1.length : Int)), (21, .int .i64 (i1 : Int))] w) a hF
  clear hF a
  refine we_seq fun K26 hK26 => ?_
  refine we_seq fun K27 hK27 => ?_
  refine we_region [(0, 0), (1, 0)] rfl ?_
  refine ge_batch [0, 1] (ans := []) (vs := [(66, .bool (decide (z1 ≥ 0))), (65, .int .i64 z1)]) (l := []) (by kernel_rfl) trivial ?_
  refine ge_nil fun a hF => hK27 _ _ ?_ a hF
  by_cases hc11 : z1 ≥ 0
  · rw [if_pos hc11] at h
    refine we_known (t := 66) (b := decide (z1 ≥ 0)) (v := true) (by kernel_rfl) (decide_eq_true hc11) ?_
    refine we_true (by kernel_rfl) ?_
    refine we_skip fun a hF => hK26 _ _ ?_ a hF
    refine we_seq fun K28 hK28 => ?_
    refine we_block ?_
    refine we_seq fun K29 hK29 => ?_
    refine we_draws (by kernel_rfl) [(0, 0), (1, 0), (2, 0), (3, 0), (4, 0), (5, 0), (6, 0), (7, 0)] (by kernel_rfl) ?_
    have hS62 := hS.drew
    refine ge_batch [0, 1] (ans := []) (vs := [(70, .int .i64 z1), (69, .slice A1 l1.length c1)]) (l := []) (by kernel_rfl) trivial ?_
    by_cases hc12 : 0 ≤ z1
    · rw [if_pos hc12] at h
      rcases hx6 : l1[(z1).toNat]? with _ | e3
      · rw [hx6] at h; cases h
      rw [hx6] at h
      simp only [] at h
      refine ge_index (d := 71) (ty := 0) (t := 49) (el := 53) (sz := 2) (m := l1.length) (c := c1) (x := (.tmp 69)) (y := (.tmp 70)) (A := A1) (k' := .i64) (j := z1) (jn := ((z1).toNat)) (b0 := blkOf A1) (o0 := offOf A1) (by kernel_rfl) (by kernel_rfl) (by kernel_rfl) (by kernel_rfl) (by kernel_rfl) ((hS62.rd hR1).eqSome (pos_of_get hx6)) (Int.toNat_of_nonneg hc12).symm (lt_of_get hx6) ?_
      refine ge_batch [3, 4, 5, 6, 7] (ans := [.val (.int .i64 e3.Task), .val (.int .i64 e1.Task)]) (vs := [(76, .bool (e3.Task == e1.Task)), (75, .int .i64 e1.Task), (74, .pointer (some ⟨b3, 0, none⟩)), (73, .int .i64 e3.Task), (72, .pointer (some ⟨blkOf A1, offOf A1 + (z1).toNat * 2, none⟩))]) (l := [.loaded ⟨blkOf A1, offOf A1 + ((z1).toNat) * 2, none⟩ (.int .i64 e3.Task), .loaded ⟨b3, 0, none⟩ (.int .i64 e1.Task)]) (by kernel_rfl) ⟨RdL.cell (j := 0) (hS62.rd hR1) hx6 rfl, hS62.cell 0 rfl rfl, trivial⟩ ?_
      refine ge_nil fun a hF => hK29 _ _ ?_ a hF
      by_cases hc13 : e3.Task = e1.Task
      · rw [if_pos hc13] at h
        refine we_known (t := 76) (b := (e3.Task == e1.Task)) (v := true) (by kernel_rfl) (beq_iff_eq.2 hc13) ?_
        refine we_true (by kernel_rfl) ?_
        refine we_seq fun K30 hK30 => ?_
        refine we_seq fun K31 hK31 => ?_
        refine we_draws (by kernel_rfl) [(0, 0), (1, 0), (2, 0), (3, 0), (4, 0), (5, 0), (6, 0), (7, 0), (8, 0), (9, 0), (10, 0), (11, 0), (12, 0), (13, 0), (14, 0)] (by kernel_rfl) ?_
        have hS63 := hS62.drew
        refine ge_batch [0, 1, 2, 3] (ans := [.val (.int .i64 e1.At)]) (vs := [(80, .int .i64 z1), (79, .slice A1 l1.length c1), (78, .int .i64 e1.At), (77, .pointer (some ⟨b3, 1, none⟩))]) (l := [.loaded ⟨b3, 1, none⟩ (.int .i64 e1.At)]) (by kernel_rfl) ⟨hS63.cell 0 rfl rfl, trivial⟩ ?_
        refine ge_index (d := 81) (ty := 0) (t := 49) (el := 53) (sz := 2) (m := l1.length) (c := c1) (x := (.tmp 79)) (y := (.tmp 80)) (A := A1) (k' := .i64) (j := z1) (jn := ((z1).toNat)) (b0 := blkOf A1) (o0 := offOf A1) (by kernel_rfl) (by kernel_rfl) (by kernel_rfl) (by kernel_rfl) (by kernel_rfl) ((hS63.rd hR1).eqSome (pos_of_get hx6)) (Int.toNat_of_nonneg hc12).symm (lt_of_get hx6) ?_
        refine ge_batch [5, 6, 7, 8, 9, 10] (ans := [.val (.int .i64 e3.At), .val (.int .i64 e1.Task)]) (vs := [(87, .int .i64 e1.Task), (86, .pointer (some ⟨b3, 0, none⟩)), (85, .slice A0 l0.length c0), (84, .int .i64 (IntKind.i64.wrap (e1.At - e3.At))), (83, .int .i64 e3.At), (82, .pointer (some ⟨blkOf A1, offOf A1 + (z1).toNat * 2 + 1, none⟩))]) (l := [.loaded ⟨blkOf A1, offOf A1 + ((z1).toNat) * 2 + 1, none⟩ (.int .i64 e3.At), .loaded ⟨b3, 0, none⟩ (.int .i64 e1.Task)]) (by kernel_rfl) ⟨RdL.cell (j := 1) (hS63.rd hR1) hx6 rfl, hS63.cell 0 rfl rfl, trivial⟩ ?_
        by_cases hc14 : 0 ≤ e1.Task
        · rw [if_pos hc14] at h
          rcases hx7 : l0[(e1.Task).toNat]? with _ | e4
          · rw [hx7] at h; cases h
          rw [hx7] at h
          simp only [] at h
          refine ge_index (d := 88) (ty := 0) (t := 40) (el := 46) (sz := 7) (m := l0.length) (c := c0) (x := (.tmp 85)) (y := (.tmp 87)) (A := A0) (k' := .i64) (j := e1.Task) (jn := ((e1.Task).toNat)) (b0 := blkOf A0) (o0 := offOf A0) (by kernel_rfl) (by kernel_rfl) (by kernel_rfl) (by kernel_rfl) (by kernel_rfl) ((hS63.rd hR0).eqSome (pos_of_get hx7)) (Int.toNat_of_nonneg hc14).symm (lt_of_get hx7) ?_
          refine ge_batch [12, 13, 14] (ans := [.val (.int .i64 e4.T)]) (vs := [(91, .bool (decide ((IntKind.i64.wrap (e1.At - e3.At)) < e4.T))), (90, .int .i64 e4.T), (89, .pointer (some ⟨blkOf A0, offOf A0 + (e1.Task).toNat * 7 + 2, none⟩))]) (l := [.loaded ⟨blkOf A0, offOf A0 + ((e1.Task).toNat) * 7 + 2, none⟩ (.int .i64 e4.T)]) (by kernel_rfl) ⟨RdL.cell (j := 2) (hS63.rd hR0) hx7 rfl, trivial⟩ ?_
          refine ge_nil fun a hF => hK31 _ _ ?_ a hF
          by_cases hc15 : (IntKind.i64.wrap (e1.At - e3.At)) < e4.T
          · rw [if_pos hc15] at h
            refine we_known (t := 91) (b := decide ((IntKind.i64.wrap (e1.At - e3.At)) < e4.T)) (v := true) (by kernel_rfl) (decide_eq_true hc15) ?_
            refine we_true (by kernel_rfl) ?_
            refine we_seq fun K32 hK32 => ?_
            refine we_region [(0, 0), (1, 1), (2, 2)] rfl ?_
            refine ge_batch [0] (ans := []) (vs := [(92, .int .i64 (i1 : Int))]) (l := []) (by kernel_rfl) trivial ?_
            refine ge_call (d := some 93) (f := 21) (args := #[.int .i64 12, .int .i64 (i1 : Int)]) (by kernel_rfl) (punctualref_F_ok 12 (i1 : Int) _ _ rfl) ?_
            rintro _ w22 ⟨rfl, hS64⟩
            refine ⟨_, rfl, hS64.below, ?_⟩
            have hS65 := hS63.call hS64
            have hS66 := hS65.bring 1 rfl
            refine ge_set (b := b1) (j := 0) (cs := #[.int .i64 0, .int .i64 0]) (t := 26) (vs := [.int .i64 ((punctualref_F.f 12 (i1 : Int)).Code), .int .i64 ((punctualref_F.f 12 (i1 : Int)).At)]) hS66 (by kernel_rfl) rfl rfl fun w23 hS67 => ?_
            have hS68 : St w0 w23 [Own.blk b1 (.cells #[.int .i64 ((punctualref_F.f 12 (i1 : Int)).Code), .int .i64 ((punctualref_F.f 12 (i1 : Int)).At)] 26 (0, 0)), Own.blk b3 (.cells #[.int .i64 e1.Task, .int .i64 e1.At] 53 (0, 0))] := hS67
            refine ge_nil fun a hF => hK32 _ _ ?_ a hF
            have hS69 := hS68.takeN 0
            obtain rfl := Option.some.inj h
            exact we_ret fun a hF => hQ _ _ _ (Outs.out nofun (Exits.on ⟨rfl, (post_ret (rs := [.cell 4 26]) (ans := [.val (.int .i64 ((punctualref_F.f 12 (i1 : Int)).Code)), .val (.int .i64 ((punctualref_F.f 12 (i1 : Int)).At))]) (vs := [.agg #[.int .i64 ((punctualref_F.f 12 (i1 : Int)).Code), .int .i64 ((punctualref_F.f 12 (i1 : Int)).At)]]) (l := [.loaded ⟨b1, 0, none⟩ (.int .i64 ((punctualref_F.f 12 (i1 : Int)).Code)), .loaded ⟨b1, 1, none⟩ (.int .i64 ((punctualref_F.f 12 (i1 : Int)).At))]) rfl (by kernel_rfl) ⟨hS68.cell 0 rfl rfl, hS68.cell 0 rfl rfl, trivial⟩ ⟨rfl, hS69⟩) a hF⟩))
          · rw [if_neg hc15] at h
            refine we_known (t := 91) (b := decide ((IntKind.i64.wrap (e1.At - e3.At)) < e4.T)) (v := false) (by kernel_rfl) (decide_eq_false hc15) ?_
            refine we_false (by kernel_rfl) ?_
            refine we_skip fun a hF => hK30 _ _ ?_ a hF
            have hS70 := hS63.bring 1 rfl
            have hS71 := hS70.takeN 1
            obtain rfl := Option.some.inj h
            exact we_exit fun a hF => hQ _ _ _ (Outs.out nofun (Exits.here ⟨hS71, hF.weaken ⟨by kernel_rfl, by kernel_rfl, by kernel_rfl, by kernel_rfl, by kernel_rfl, by kernel_rfl, trivial⟩⟩))
        · rw [if_neg hc14] at h
          cases h
      · rw [if_neg hc13] at h
        refine we_known (t := 76) (b := (e3.Task == e1.Task)) (v := false) (by kernel_rfl) (beq_eq_false_iff_ne.2 hc13) ?_
        refine we_false (by kernel_rfl) ?_
        refine we_skip fun a hF => hK28 _ _ ?_ a hF
        refine we_region [(0, 0), (1, 0), (2, 0)] rfl ?_
        refine ge_batch [0, 1, 2] (ans := []) (vs := [(8, .int .i64 (IntKind.i64.wrap (z1 - 1))), (68, .int .i64 (IntKind.i64.wrap (z1 - 1))), (67, .int .i64 z1)]) (l := []) (by kernel_rfl) trivial ?_
        have hS72 := hS62.bring 1 rfl
        have hS73 := hS72.bring 1 rfl
        obtain rfl := Option.some.inj h
        exact ge_nil fun a hF => hQ _ _ _ (Outs.again ⟨hS73, hF.weaken ⟨by kernel_rfl, by kernel_rfl, by kernel_rfl, by kernel_rfl, by kernel_rfl, by kernel_rfl, by kernel_rfl, by kernel_rfl, by kernel_rfl, trivial⟩⟩)
    · rw [if_neg hc12] at h
      cases h
  · rw [if_neg hc11] at h
    refine we_known (t := 66) (b := decide (z1 ≥ 0)) (v := false) (by kernel_rfl) (decide_eq_false hc11) ?_
    refine we_false (by kernel_rfl) ?_
    have hS74 := hS.bring 1 rfl
    have hS75 := hS74.takeN 1
    obtain rfl := Option.some.inj h
    exact we_exit fun a hF => hQ _ _ _ (Outs.out nofun (Exits.here ⟨hS75, hF.weaken ⟨by kernel_rfl, by kernel_rfl, by kernel_rfl, by kernel_rfl, by kernel_rfl, by kernel_rfl, trivial⟩⟩))
abbrev punctualref_Lawful.A0 (K : Nat) (w0 : World) (l0 : List STask) (A0 : Option Addr) (c0 : Nat) (l1 : List SCome) (A1 : Option Addr) (c1 : Nat) (hR0 : RdL w0 A0 l0) (hL0 : l0.length ≤ c0) (hR1 : RdL w0 A1 l1) (hL1 : l1.length ≤ c1) (b1 : Nat) (r1 : SFault) (b2 : Nat) (hc1 : r1.Code = 0) (hc2 : ¬ ((l1.length : Int) > 4000)) : Nat → Act → World → Prop := fun (s : Nat) a w => St w0 w [Own.blk b1 (.cells #[.int .i64 0, .int .i64 0] 26 (0, 0))] ∧ Frm 96 a [(0, .slice A0 l0.length c0), (1, .slice A1 l1.length c1), (4, .pointer (some ⟨b1, 0, none⟩)), (19, .slice A1 l1.length c1), (20, .int .i64 (l1.length : Int)), (21, .int .i64 (s : Int))]
abbrev punctualref_Lawful.B0 (K : Nat) (w0 : World) (l0 : List STask) (A0 : Option Addr) (c0 : Nat) (l1 : List SCome) (A1 : Option Addr) (c1 : Nat) (hR0 : RdL w0 A0 l0) (hL0 : l0.length ≤ c0) (hR1 : RdL w0 A1 l1) (hL1 : l1.length ≤ c1) (b1 : Nat) (r1 : SFault) (b2 : Nat) (hc1 : r1.Code = 0) (hc2 : ¬ ((l1.length : Int) > 4000)) : (Unit ⊕ SFault) → Exit → Act → World → Prop := Exits 0 (fun (s : Unit) a w => St w0 w [Own.blk b1 (.cells #[.int .i64 0, .int .i64 0] 26 (0, 0))] ∧ Frm 96 a [(4, .pointer (some ⟨b1, 0, none⟩))]) (Rets Tryd.prog Tryd.f49 (punctualref_Lawful.Post w0))
theorem punctualref_Lawful_r0 (K : Nat) (w0 : World) (l0 : List STask) (A0 : Option Addr) (c0 : Nat) (l1 : List SCome) (A1 : Option Addr) (c1 : Nat) (hR0 : RdL w0 A0 l0) (hL0 : l0.length ≤ c0) (hR1 : RdL w0 A1 l1) (hL1 : l1.length ≤ c1) (b1 : Nat) (r1 : SFault) (b2 : Nat) (hc1 : r1.Code = 0) (hc2 : ¬ ((l1.length : Int) > 4000)) (s : Nat) (o : Nat ⊕ (Unit ⊕ SFault)) (h : punctualref_Lawful.r0 K l0 l1 s = some o) (a : Act) (w : World) (hA : punctualref_Lawful.A0 K w0 l0 A0 c0 l1 A1 c1 hR0 hL0 hR1 hL1 b1 r1 b2 hc1 hc2 s a w) (Q : Exit → Act → World → Prop) (hQ : ∀ x a w, Outs (punctualref_Lawful.A0 K w0 l0 A0 c0 l1 A1 c1 hR0 hL0 hR1 hL1 b1 r1 b2 hc1 hc2) (punctualref_Lawful.B0 K w0 l0 A0 c0 l1 A1 c1 hR0 hL0 hR1 hL1 b1 r1 b2 hc1 hc2) o x a w → Q x a w) : (subF Tryd.f49 [1, 1, 1, 0, 1, 0, 0]).wp Tryd.prog Q a w := by
  obtain ⟨i1, hs⟩ : ∃ z, z = s := ⟨s, rfl⟩
  subst hs
  obtain ⟨hS, hF⟩ := hA
  replace hS : St w0 w [Own.blk b1 (.cells #[.int .i64 0, .int .i64 0] 26 (0, 0))] := hS
  simp only [punctualref_Lawful.r0] at h
  refine (?_ : WE Tryd.prog 96 (subF Tryd.f49 [1, 1, 1, 0, 1, 0, 0]) Q [(0, .slice A0 l0.length c0), (1, .slice A1 l1.length c1), (4, .pointer (some ⟨b1, 0, none⟩)), (19, .slice A1 l1.length c1), (20, .int .i64 (l1.length : Int)), (21, .int .i64 (i1 : Int))] w) a hF
  clear hF a
  refine we_seq fun K10 hK10 => ?_
  refine we_region [(0, 0)] rfl ?_
  refine ge_batch [0] (ans := []) (vs := [(22, .bool (decide ((i1 : Int) < (l1.length : Int))))]) (l := []) (by kernel_rfl) trivial ?_
  refine ge_nil fun a hF => hK10 _ _ ?_ a hF
  refine we_seq fun K11 hK11 => ?_
  by_cases hc3 : (i1 : Int) < (l1.length : Int)
  · rw [if_pos hc3] at h
    refine we_known (t := 22) (b := decide ((i1 : Int) < (l1.length : Int))) (v := true) (by kernel_rfl) (decide_eq_true hc3) ?_
    refine we_true (by kernel_rfl) ?_
    refine we_skip fun a hF => hK11 _ _ ?_ a hF
    refine we_seq fun K12 hK12 => ?_
    refine we_block ?_
    refine we_seq fun K13 hK13 => ?_
    refine we_region [(0, 0), (1, 0), (2, 0), (3, 1), (4, 0), (5, 2)] rfl ?_
    refine ge_batch [0] (ans := []) (vs := [(23, .int .i64 (i1 : Int))]) (l := []) (by kernel_rfl) trivial ?_
    rcases hx3 : l1[i1]? with _ | e1
    · rw [hx3] at h; cases h
    rw [hx3] at h
    simp only [] at h
    refine ge_index (d := 24) (ty := 0) (t := 49) (el := 53) (sz := 2) (m := l1.length) (c := c1) (x := (.tmp 19)) (y := (.tmp 21)) (A := A1) (k' := .i64) (j := (i1 : Int)) (jn := i1) (b0 := blkOf A1) (o0 := offOf A1) (by kernel_rfl) (by kernel_rfl) (by kernel_rfl) (by kernel_rfl) (by kernel_rfl) ((hS.rd hR1).eqSome (pos_of_get hx3)) rfl (lt_of_get hx3) ?_
    refine ge_batch [2] (ans := [.val (.int .i64 e1.Task), .val (.int .i64 e1.At)]) (vs := [(25, .agg #[.int .i64 e1.Task, .int .i64 e1.At])]) (l := [.loaded ⟨blkOf A1, offOf A1 + i1 * 2, none⟩ (.int .i64 e1.Task), .loaded ⟨blkOf A1, offOf A1 + i1 * 2 + 1, none⟩ (.int .i64 e1.At)]) (by kernel_rfl) ⟨RdL.cell (j := 0) (hS.rd hR1) hx3 rfl, RdL.cell (j := 1) (hS.rd hR1) hx3 rfl, trivial⟩ ?_
    refine ge_new (d := some 7) (o := .cells #[.int .i64 0, .int .i64 0] 53) (v := fun b => .pointer (some ⟨b, 0, none⟩)) hS (fun b => by kernel_rfl) fun b3 w7 hx4 hS15 => ?_
    refine ge_batch [4] (ans := []) (vs := [(6, .int .i64 (i1 : Int))]) (l := []) (by kernel_rfl) trivial ?_
    refine ge_set (b := b3) (j := 0) (cs := #[.int .i64 0, .int .i64 0]) (t := 53) (vs := [.int .i64 e1.Task, .int .i64 e1.At]) hS15 (by kernel_rfl) rfl rfl fun w8 hS16 => ?_
    have hS17 : St w0 w8 [Own.blk b3 (.cells #[.int .i64 e1.Task, .int .i64 e1.At] 53 (0, 0)), Own.blk b1 (.cells #[.int .i64 0, .int .i64 0] 26 (0, 0))] := hS16
    refine ge_nil fun a hF => hK13 _ _ ?_ a hF
    refine we_seq fun K14 hK14 => ?_
    rcases hq5 : punctualref_Lawful.p1 l0 i1 e1 with _ | (_ | rr4)
    · rw [hq5] at h; cases h
    · rw [hq5] at h
      simp only [] at h
      refine we_keep (e' := [(0, .slice A0 l0.length c0), (1, .slice A1 l1.length c1), (4, .pointer (some ⟨b1, 0, none⟩)), (6, .int .i64 (i1 : Int)), (7, .pointer (some ⟨b3, 0, none⟩)), (19, .slice A1 l1.length c1), (20, .int .i64 (l1.length : Int)), (21, .int .i64 (i1 : Int)), (22, .bool true), (23, .int .i64 (i1 : Int)), (24, .pointer (some ⟨blkOf A1, offOf A1 + i1 * 2, none⟩)), (25, .agg #[.int .i64 e1.Task, .int .i64 e1.At])]) ⟨by kernel_rfl, by kernel_rfl, by kernel_rfl, by kernel_rfl, by kernel_rfl, by kernel_rfl, by kernel_rfl, by kernel_rfl, by kernel_rfl, by kernel_rfl, by kernel_rfl, by kernel_rfl, trivial⟩ (punctualref_Lawful_p1 K w0 l0 A0 c0 l1 A1 c1 hR0 hL0 hR1 hL1 b1 r1 b2 hc1 hc2 i1 hc3 e1 hx3 b3 _ hq5 _ hS17 _ ?_)
      rintro _ a w13 ⟨rfl, hS32, hF⟩
      replace hS32 : St w0 w13 [Own.blk b3 (.cells #[.int .i64 e1.Task, .int .i64 e1.At] 53 (0, 0)), Own.blk b1 (.cells #[.int .i64 0, .int .i64 0] 26 (0, 0))] := hS32
      refine hK14 [(0, .slice A0 l0.length c0), (1, .slice A1 l1.length c1), (4, .pointer (some ⟨b1, 0, none⟩)), (6, .int .i64 (i1 : Int)), (7, .pointer (some ⟨b3, 0, none⟩)), (19, .slice A1 l1.length c1), (20, .int .i64 (l1.length : Int)), (21, .int .i64 (i1 : Int))] w13 ?_ a hF
      refine we_seq fun K18 hK18 => ?_
      rcases hq8 : punctualref_Lawful.p2 i1 e1 with _ | (_ | rr3)
      · rw [hq8] at h; cases h
      · rw [hq8] at h
        simp only [] at h
        refine we_keep (e' := [(0, .slice A0 l0.length c0), (1, .slice A1 l1.length c1), (4, .pointer (some ⟨b1, 0, none⟩)), (6, .int .i64 (i1 : Int)), (7, .pointer (some ⟨b3, 0, none⟩)), (19, .slice A1 l1.length c1), (20, .int .i64 (l1.length : Int)), (21, .int .i64 (i1 : Int))]) ⟨by kernel_rfl, by kernel_rfl, by kernel_rfl, by kernel_rfl, by kernel_rfl, by kernel_rfl, by kernel_rfl, by kernel_rfl, trivial⟩ (punctualref_Lawful_p2 K w0 l0 A0 c0 l1 A1 c1 hR0 hL0 hR1 hL1 b1 r1 b2 hc1 hc2 i1 hc3 e1 hx3 b3 _ hq8 _ hS32 _ ?_)
        rintro _ a w18 ⟨rfl, hS47, hF⟩
        replace hS47 : St w0 w18 [Own.blk b3 (.cells #[.int .i64 e1.Task, .int .i64 e1.At] 53 (0, 0)), Own.blk b1 (.cells #[.int .i64 0, .int .i64 0] 26 (0, 0))] := hS47
        refine hK18 [(0, .slice A0 l0.length c0), (1, .slice A1 l1.length c1), (4, .pointer (some ⟨b1, 0, none⟩)), (6, .int .i64 (i1 : Int)), (7, .pointer (some ⟨b3, 0, none⟩)), (19, .slice A1 l1.length c1), (20, .int .i64 (l1.length : Int)), (21, .int .i64 (i1 : Int))] w18 ?_ a hF
        refine we_seq fun K22 hK22 => ?_
        rcases hq10 : punctualref_Lawful.p3 l1 i1 e1 with _ | (_ | rr2)
        · rw [hq10] at h; cases h
        · rw [hq10] at h
          simp only [] at h
          refine we_keep (e' := [(0, .slice A0 l0.length c0), (1, .slice A1 l1.length c1), (4, .pointer (some ⟨b1, 0, none⟩)), (6, .int .i64 (i1 : Int)), (7, .pointer (some ⟨b3, 0, none⟩)), (19, .slice A1 l1.length c1), (20, .int .i64 (l1.length : Int)), (21, .int .i64 (i1 : Int))]) ⟨by kernel_rfl, by kernel_rfl, by kernel_rfl, by kernel_rfl, by kernel_rfl, by kernel_rfl, by kernel_rfl, by kernel_rfl, trivial⟩ (punctualref_Lawful_p3 K w0 l0 A0 c0 l1 A1 c1 hR0 hL0 hR1 hL1 b1 r1 b2 hc1 hc2 i1 hc3 e1 hx3 b3 _ hq10 _ hS47 _ ?_)
          rintro _ a w21 ⟨rfl, hS59, hF⟩
          replace hS59 : St w0 w21 [Own.blk b3 (.cells #[.int .i64 e1.Task, .int .i64 e1.At] 53 (0, 0)), Own.blk b1 (.cells #[.int .i64 0, .int .i64 0] 26 (0, 0))] := hS59
          refine hK22 [(0, .slice A0 l0.length c0), (1, .slice A1 l1.length c1), (4, .pointer (some ⟨b1, 0, none⟩)), (6, .int .i64 (i1 : Int)), (7, .pointer (some ⟨b3, 0, none⟩)), (19, .slice A1 l1.length c1), (20, .int .i64 (l1.length : Int)), (21, .int .i64 (i1 : Int))] w21 ?_ a hF
          refine we_seq fun K25 hK25 => ?_
          refine we_region [(0, 0), (1, 0), (2, 0)] rfl ?_
          refine ge_batch [0, 1, 2] (ans := []) (vs := [(8, .int .i64 (IntKind.i64.wrap ((i1 : Int) - 1))), (64, .int .i64 (IntKind.i64.wrap ((i1 : Int) - 1))), (63, .int .i64 (i1 : Int))]) (l := []) (by kernel_rfl) trivial ?_
          refine ge_nil fun a hF => hK25 _ _ ?_ a hF
          refine we_block ?_
          have hS60 := hS59.bring 1 rfl
          have hS61 := hS60.bring 1 rfl
          rcases hq12 : iter (punctualref_Lawful.r4 l0 l1 i1 e1) K (IntKind.i64.wrap ((i1 : Int) - 1)) with _ | (_ | rr1)
          · rw [hq12] at h; cases h
          · rw [hq12] at h
            simp only [] at h
            refine we_iter (A := punctualref_Lawful.A4 K w0 l0 A0 c0 l1 A1 c1 hR0 hL0 hR1 hL1 b1 r1 b2 hc1 hc2 i1 hc3 e1 hx3 b3) (B := punctualref_Lawful.B4 K w0 l0 A0 c0 l1 A1 c1 hR0 hL0 hR1 hL1 b1 r1 b2 hc1 hc2 i1 hc3 e1 hx3 b3) hq12 (fun a hF => ⟨hS61, hF.weaken ⟨by kernel_rfl, by kernel_rfl, by kernel_rfl, by kernel_rfl, by kernel_rfl, by kernel_rfl, by kernel_rfl, by kernel_rfl, by kernel_rfl, trivial⟩⟩) (fun s o hf a w hA Q hQ => punctualref_Lawful_r4 K w0 l0 A0 c0 l1 A1 c1 hR0 hL0 hR1 hL1 b1 r1 b2 hc1 hc2 i1 hc3 e1 hx3 b3 s o hf a w hA Q hQ) ?_
            rintro _ a w24 _ ⟨rfl, hS76, hF⟩
            replace hS76 : St w0 w24 [Own.blk b1 (.cells #[.int .i64 0, .int .i64 0] 26 (0, 0))] := hS76
            refine hK12 [(0, .slice A0 l0.length c0), (1, .slice A1 l1.length c1), (4, .pointer (some ⟨b1, 0, none⟩)), (19, .slice A1 l1.length c1), (20, .int .i64 (l1.length : Int)), (21, .int .i64 (i1 : Int))] w24 ?_ a hF
            refine we_region [(0, 0), (1, 0)] rfl ?_
            refine ge_addn (d := 94) (ty := 3) (x := (.tmp 21)) (y := (.const (.int .i64 1))) (t := 3) (t2 := 3) (k := .i64) (m := i1) (by kernel_rfl) (by kernel_rfl) (by kernel_rfl) (by have h0 := hR1.small; omega) ?_
            refine ge_batch [1] (ans := []) (vs := [(21, .int .i64 ((i1 + 1 : Nat) : Int))]) (l := []) (by kernel_rfl) trivial ?_
            obtain rfl := Option.some.inj h
            exact ge_nil fun a hF => hQ _ _ _ (Outs.again ⟨hS76, hF.weaken ⟨by kernel_rfl, by kernel_rfl, by kernel_rfl, by kernel_rfl, by kernel_rfl, by kernel_rfl, trivial⟩⟩)
          · rw [hq12] at h
            simp only [] at h
            refine we_iter (A := punctualref_Lawful.A4 K w0 l0 A0 c0 l1 A1 c1 hR0 hL0 hR1 hL1 b1 r1 b2 hc1 hc2 i1 hc3 e1 hx3 b3) (B := punctualref_Lawful.B4 K w0 l0 A0 c0 l1 A1 c1 hR0 hL0 hR1 hL1 b1 r1 b2 hc1 hc2 i1 hc3 e1 hx3 b3) hq12 (fun a hF => ⟨hS61, hF.weaken ⟨by kernel_rfl, by kernel_rfl, by kernel_rfl, by kernel_rfl, by kernel_rfl, by kernel_rfl, by kernel_rfl, by kernel_rfl, by kernel_rfl, trivial⟩⟩) (fun s o hf a w hA Q hQ => punctualref_Lawful_r4 K w0 l0 A0 c0 l1 A1 c1 hR0 hL0 hR1 hL1 b1 r1 b2 hc1 hc2 i1 hc3 e1 hx3 b3 s o hf a w hA Q hQ) ?_
            rintro _ a w1 _ ⟨rfl, hb⟩
            obtain rfl := Option.some.inj h
            exact hQ _ _ _ (Outs.out nofun (Exits.on ⟨rfl, hb⟩))
        · rw [hq10] at h
          simp only [] at h
          refine we_keep (e' := [(0, .slice A0 l0.length c0), (1, .slice A1 l1.length c1), (4, .pointer (some ⟨b1, 0, none⟩)), (6, .int .i64 (i1 : Int)), (7, .pointer (some ⟨b3, 0, none⟩)), (19, .slice A1 l1.length c1), (20, .int .i64 (l1.length : Int)), (21, .int .i64 (i1 : Int))]) ⟨by kernel_rfl, by kernel_rfl, by kernel_rfl, by kernel_rfl, by kernel_rfl, by kernel_rfl, by kernel_rfl, by kernel_rfl, trivial⟩ (punctualref_Lawful_p3 K w0 l0 A0 c0 l1 A1 c1 hR0 hL0 hR1 hL1 b1 r1 b2 hc1 hc2 i1 hc3 e1 hx3 b3 _ hq10 _ hS47 _ ?_)
          rintro _ a w1 ⟨_, rfl, hb⟩
          obtain rfl := Option.some.inj h
          exact hQ _ _ _ (Outs.out nofun (Exits.on ⟨rfl, hb⟩))
      · rw [hq8] at h
        simp only [] at h
        refine we_keep (e' := [(0, .slice A0 l0.length c0), (1, .slice A1 l1.length c1), (4, .pointer (some ⟨b1, 0, none⟩)), (6, .int .i64 (i1 : Int)), (7, .pointer (some ⟨b3, 0, none⟩)), (19, .slice A1 l1.length c1), (20, .int .i64 (l1.length : Int)), (21, .int .i64 (i1 : Int))]) ⟨by kernel_rfl, by kernel_rfl, by kernel_rfl, by kernel_rfl, by kernel_rfl, by kernel_rfl, by kernel_rfl, by kernel_rfl, trivial⟩ (punctualref_Lawful_p2 K w0 l0 A0 c0 l1 A1 c1 hR0 hL0 hR1 hL1 b1 r1 b2 hc1 hc2 i1 hc3 e1 hx3 b3 _ hq8 _ hS32 _ ?_)
        rintro _ a w1 ⟨_, rfl, hb⟩
        obtain rfl := Option.some.inj h
        exact hQ _ _ _ (Outs.out nofun (Exits.on ⟨rfl, hb⟩))
    · rw [hq5] at h
      simp only [] at h
      refine we_keep (e' := [(0, .slice A0 l0.length c0), (1, .slice A1 l1.length c1), (4, .pointer (some ⟨b1, 0, none⟩)), (6, .int .i64 (i1 : Int)), (7, .pointer (some ⟨b3, 0, none⟩)), (19, .slice A1 l1.length c1), (20, .int .i64 (l1.length : Int)), (21, .int .i64 (i1 : Int)), (22, .bool true), (23, .int .i64 (i1 : Int)), (24, .pointer (some ⟨blkOf A1, offOf A1 + i1 * 2, none⟩)), (25, .agg #[.int .i64 e1.Task, .int .i64 e1.At])]) ⟨by kernel_rfl, by kernel_rfl, by kernel_rfl, by kernel_rfl, by kernel_rfl, by kernel_rfl, by kernel_rfl, by kernel_rfl, by kernel_rfl, by kernel_rfl, by kernel_rfl, by kernel_rfl, trivial⟩ (punctualref_Lawful_p1 K w0 l0 A0 c0 l1 A1 c1 hR0 hL0 hR1 hL1 b1 r1 b2 hc1 hc2 i1 hc3 e1 hx3 b3 _ hq5 _ hS17 _ ?_)
      rintro _ a w1 ⟨_, rfl, hb⟩
      obtain rfl := Option.some.inj h
      exact hQ _ _ _ (Outs.out nofun (Exits.on ⟨rfl, hb⟩))
  · rw [if_neg hc3] at h
    refine we_known (t := 22) (b := decide ((i1 : Int) < (l1.length : Int))) (v := false) (by kernel_rfl) (decide_eq_false hc3) ?_
    refine we_false (by kernel_rfl) ?_
    obtain rfl := Option.some.inj h
    exact we_exit fun a hF => hQ _ _ _ (Outs.out nofun (Exits.here ⟨hS, hF.weaken ⟨by kernel_rfl, trivial⟩⟩))
theorem punctualref_Lawful_ok (K : Nat) (l0 : List STask) (A0 : Option Addr) (c0 : Nat) (l1 : List SCome) (A1 : Option Addr) (c1 : Nat) (w0 : World) (hR0 : RdL w0 A0 l0) (hL0 : l0.length ≤ c0) (hR1 : RdL w0 A1 l1) (hL1 : l1.length ≤ c1) (r : SFault) (h : punctualref_Lawful.f K l0 l1 = some r) :
    Calls Tryd.prog 49 #[.slice A0 l0.length c0, .slice A1 l1.length c1] w0 (punctualref_Lawful.Post w0 r) := by
  have hS := St.start w0
  unfold punctualref_Lawful.f at h
  refine calls_enter (n := 96) (args := [.slice A0 l0.length c0, .slice A1 l1.length c1]) (fn := Tryd.f49) rfl rfl rfl rfl ?_
  show WE _ _ _ _ [(0, .slice A0 l0.length c0), (1, .slice A1 l1.length c1)] _
  refine we_seq fun K1 hK1 => ?_
  refine we_region [(0, 1)] rfl ?_
  refine ge_new (d := some 4) (o := .cells #[.int .i64 0, .int .i64 0] 26) (v := fun b => .pointer (some ⟨b, 0, none⟩)) hS (fun b => by kernel_rfl) fun b1 w1 hx1 hS1 => ?_
  refine ge_nil fun a hF => hK1 _ _ ?_ a hF
  refine we_seq fun K2 hK2 => ?_
  refine we_seq fun K3 hK3 => ?_
  refine we_region [(0, 0), (1, 1), (2, 1), (3, 2)] rfl ?_
  rcases hq1 : punctualref_CheckSet.f K l0 with _ | r1
  · rw [hq1] at h; cases h
  rw [hq1] at h
  simp only [] at h
  refine ge_batch [0] (ans := []) (vs := [(9, .slice A0 l0.length c0)]) (l := []) (by kernel_rfl) trivial ?_
  refine ge_call (d := some 10) (f := 23) (args := #[.slice A0 l0.length c0]) (by kernel_rfl) (punctualref_CheckSet_ok K l0 A0 c0 _ (hS1.rd hR0) hL0 _ hq1) ?_
  rintro _ w2 ⟨rfl, hS2⟩
  refine ⟨_, rfl, hS2.below, ?_⟩
  have hS3 := hS1.call hS2
  refine ge_new (d := some 5) (o := .cells #[.int .i64 0, .int .i64 0] 26) (v := fun b => .pointer (some ⟨b, 0, none⟩)) hS3 (fun b => by kernel_rfl) fun b2 w3 hx2 hS4 => ?_
  refine ge_set (b := b2) (j := 0) (cs := #[.int .i64 0, .int .i64 0]) (t := 26) (vs := [.int .i64 r1.Code, .int .i64 r1.At]) hS4 (by kernel_rfl) rfl rfl fun w4 hS5 => ?_
  have hS6 : St w0 w4 [Own.blk b2 (.cells #[.int .i64 r1.Code, .int .i64 r1.At] 26 (0, 0)), Own.blk b1 (.cells #[.int .i64 0, .int .i64 0] 26 (0, 0))] := hS5
  refine ge_nil fun a hF => hK3 _ _ ?_ a hF
  refine we_seq fun K4 hK4 => ?_
  refine we_region [(0, 0), (1, 0), (2, 0)] rfl ?_
  refine ge_batch [0, 1, 2] (ans := [.val (.int .i64 r1.Code)]) (vs := [(13, .bool (r1.Code != 0)), (12, .int .i64 r1.Code), (11, .pointer (some ⟨b2, 0, none⟩))]) (l := [.loaded ⟨b2, 0, none⟩ (.int .i64 r1.Code)]) (by kernel_rfl) ⟨hS6.cell 0 rfl rfl, trivial⟩ ?_
  refine ge_nil fun a hF => hK4 _ _ ?_ a hF
  by_cases hc1 : r1.Code = 0
  · rw [if_pos hc1] at h
    refine we_known (t := 13) (b := (r1.Code != 0)) (v := false) (by kernel_rfl) (bne_eq_false_iff_eq.2 hc1) ?_
    refine we_false (by kernel_rfl) ?_
    refine we_skip fun a hF => hK2 _ _ ?_ a hF
    refine we_seq fun K5 hK5 => ?_
    refine we_seq fun K6 hK6 => ?_
    refine we_region [(0, 0), (1, 0), (2, 0)] rfl ?_
    refine ge_batch [0, 1, 2] (ans := []) (vs := [(17, .bool (decide ((l1.length : Int) > 4000))), (16, .int .i64 (l1.length : Int)), (15, .slice A1 l1.length c1)]) (l := []) (by kernel_rfl) trivial ?_
    refine ge_nil fun a hF => hK6 _ _ ?_ a hF
    by_cases hc2 : (l1.length : Int) > 4000
    · rw [if_pos hc2] at h
      refine we_known (t := 17) (b := decide ((l1.length : Int) > 4000)) (v := true) (by kernel_rfl) (decide_eq_true hc2) ?_
      refine we_true (by kernel_rfl) ?_
      refine we_seq fun K7 hK7 => ?_
      refine we_region [(0, 1), (1, 2)] rfl ?_
      refine ge_call (d := some 18) (f := 21) (args := #[.int .i64 2, .int .i64 0]) (by kernel_rfl) (punctualref_F_ok 2 0 _ _ rfl) ?_
      rintro _ w5 ⟨rfl, hS7⟩
      refine ⟨_, rfl, hS7.below, ?_⟩
      have hS8 := hS6.call hS7
      have hS9 := hS8.bring 1 rfl
      refine ge_set (b := b1) (j := 0) (cs := #[.int .i64 0, .int .i64 0]) (t := 26) (vs := [.int .i64 ((punctualref_F.f 2 0).Code), .int .i64 ((punctualref_F.f 2 0).At)]) hS9 (by kernel_rfl) rfl rfl fun w6 hS10 => ?_
      have hS11 : St w0 w6 [Own.blk b1 (.cells #[.int .i64 ((punctualref_F.f 2 0).Code), .int .i64 ((punctualref_F.f 2 0).At)] 26 (0, 0)), Own.blk b2 (.cells #[.int .i64 r1.Code, .int .i64 r1.At] 26 (0, 0))] := hS10
      refine ge_nil fun a hF => hK7 _ _ ?_ a hF
      have hS12 := hS11.takeN 0
      obtain rfl := Option.some.inj h
      exact we_ret (post_ret (rs := [.cell 4 26]) (ans := [.val (.int .i64 ((punctualref_F.f 2 0).Code)), .val (.int .i64 ((punctualref_F.f 2 0).At))]) (vs := [.agg #[.int .i64 ((punctualref_F.f 2 0).Code), .int .i64 ((punctualref_F.f 2 0).At)]]) (l := [.loaded ⟨b1, 0, none⟩ (.int .i64 ((punctualref_F.f 2 0).Code)), .loaded ⟨b1, 1, none⟩ (.int .i64 ((punctualref_F.f 2 0).At))]) rfl (by kernel_rfl) ⟨hS11.cell 0 rfl rfl, hS11.cell 0 rfl rfl, trivial⟩ ⟨rfl, hS12⟩)
    · rw [if_neg hc2] at h
      refine we_known (t := 17) (b := decide ((l1.length : Int) > 4000)) (v := false) (by kernel_rfl) (decide_eq_false hc2) ?_
      refine we_false (by kernel_rfl) ?_
      refine we_skip fun a hF => hK5 _ _ ?_ a hF
      refine we_seq fun K8 hK8 => ?_
      refine we_seq fun K9 hK9 => ?_
      refine we_region [(0, 0), (1, 0), (2, 0)] rfl ?_
      refine ge_batch [0, 1, 2] (ans := []) (vs := [(21, .int .i64 0), (20, .int .i64 (l1.length : Int)), (19, .slice A1 l1.length c1)]) (l := []) (by kernel_rfl) trivial ?_
      refine ge_nil fun a hF => hK9 _ _ ?_ a hF
      refine we_block ?_
      have hS13 := hS6.bring 1 rfl
      have hS14 := hS13.takeN 1
      rcases hq13 : iter (punctualref_Lawful.r0 K l0 l1) K 0 with _ | (_ | rr5)
      · rw [hq13] at h; cases h
      · rw [hq13] at h
        simp only [] at h
        refine we_iter (A := punctualref_Lawful.A0 K w0 l0 A0 c0 l1 A1 c1 hR0 hL0 hR1 hL1 b1 r1 b2 hc1 hc2) (B := punctualref_Lawful.B0 K w0 l0 A0 c0 l1 A1 c1 hR0 hL0 hR1 hL1 b1 r1 b2 hc1 hc2) hq13 (fun a hF => ⟨hS14, hF.weaken ⟨by kernel_rfl, by kernel_rfl, by kernel_rfl, by kernel_rfl, by kernel_rfl, by kernel_rfl, trivial⟩⟩) (fun s o hf a w hA Q hQ => punctualref_Lawful_r0 K w0 l0 A0 c0 l1 A1 c1 hR0 hL0 hR1 hL1 b1 r1 b2 hc1 hc2 s o hf a w hA Q hQ) ?_
        rintro _ a w25 _ ⟨rfl, hS77, hF⟩
        replace hS77 : St w0 w25 [Own.blk b1 (.cells #[.int .i64 0, .int .i64 0] 26 (0, 0))] := hS77
        refine hK8 [(4, .pointer (some ⟨b1, 0, none⟩))] w25 ?_ a hF
        refine we_seq fun K33 hK33 => ?_
        refine we_region [(0, 0), (1, 2)] rfl ?_
        refine ge_batch [0] (ans := []) (vs := [(95, .agg #[.int .i64 0, .int .i64 0])]) (l := []) (by kernel_rfl) trivial ?_
        refine ge_set (b := b1) (j := 0) (cs := #[.int .i64 0, .int .i64 0]) (t := 26) (vs := [.int .i64 0, .int .i64 0]) hS77 (by kernel_rfl) rfl rfl fun w26 hS78 => ?_
        have hS79 : St w0 w26 [Own.blk b1 (.cells #[.int .i64 0, .int .i64 0] 26 (0, 0))] := hS78
        refine ge_nil fun a hF => hK33 _ _ ?_ a hF
        have hS80 := hS79.takeN 0
        obtain rfl := Option.some.inj h
        exact we_ret (post_ret (rs := [.cell 4 26]) (ans := [.val (.int .i64 0), .val (.int .i64 0)]) (vs := [.agg #[.int .i64 0, .int .i64 0]]) (l := [.loaded ⟨b1, 0, none⟩ (.int .i64 0), .loaded ⟨b1, 1, none⟩ (.int .i64 0)]) rfl (by kernel_rfl) ⟨hS79.cell 0 rfl rfl, hS79.cell 0 rfl rfl, trivial⟩ ⟨rfl, hS80⟩)
      · rw [hq13] at h
        simp only [] at h
        refine we_iter (A := punctualref_Lawful.A0 K w0 l0 A0 c0 l1 A1 c1 hR0 hL0 hR1 hL1 b1 r1 b2 hc1 hc2) (B := punctualref_Lawful.B0 K w0 l0 A0 c0 l1 A1 c1 hR0 hL0 hR1 hL1 b1 r1 b2 hc1 hc2) hq13 (fun a hF => ⟨hS14, hF.weaken ⟨by kernel_rfl, by kernel_rfl, by kernel_rfl, by kernel_rfl, by kernel_rfl, by kernel_rfl, trivial⟩⟩) (fun s o hf a w hA Q hQ => punctualref_Lawful_r0 K w0 l0 A0 c0 l1 A1 c1 hR0 hL0 hR1 hL1 b1 r1 b2 hc1 hc2 s o hf a w hA Q hQ) ?_
        rintro _ a w1 _ ⟨rfl, hb⟩
        obtain rfl := Option.some.inj h
        exact hb
  · rw [if_neg hc1] at h
    refine we_known (t := 13) (b := (r1.Code != 0)) (v := true) (by kernel_rfl) (bne_iff_ne.2 hc1) ?_
    refine we_true (by kernel_rfl) ?_
    refine we_seq fun K34 hK34 => ?_
    refine we_region [(0, 0), (1, 2)] rfl ?_
    refine ge_batch [0] (ans := [.val (.int .i64 r1.Code), .val (.int .i64 r1.At)]) (vs := [(14, .agg #[.int .i64 r1.Code, .int .i64 r1.At])]) (l := [.loaded ⟨b2, 0, none⟩ (.int .i64 r1.Code), .loaded ⟨b2, 1, none⟩ (.int .i64 r1.At)]) (by kernel_rfl) ⟨hS6.cell 0 rfl rfl, hS6.cell 0 rfl rfl, trivial⟩ ?_
    have hS81 := hS6.bring 1 rfl
    refine ge_set (b := b1) (j := 0) (cs := #[.int .i64 0, .int .i64 0]) (t := 26) (vs := [.int .i64 r1.Code, .int .i64 r1.At]) hS81 (by kernel_rfl) rfl rfl fun w27 hS82 => ?_
    have hS83 : St w0 w27 [Own.blk b1 (.cells #[.int .i64 r1.Code, .int .i64 r1.At] 26 (0, 0)), Own.blk b2 (.cells #[.int .i64 r1.Code, .int .i64 r1.At] 26 (0, 0))] := hS82
    refine ge_nil fun a hF => hK34 _ _ ?_ a hF
    have hS84 := hS83.takeN 0
    obtain rfl := Option.some.inj h
    exact we_ret (post_ret (rs := [.cell 4 26]) (ans := [.val (.int .i64 r1.Code), .val (.int .i64 r1.At)]) (vs := [.agg #[.int .i64 r1.Code, .int .i64 r1.At]]) (l := [.loaded ⟨b1, 0, none⟩ (.int .i64 r1.Code), .loaded ⟨b1, 1, none⟩ (.int .i64 r1.At)]) rfl (by kernel_rfl) ⟨hS83.cell 0 rfl rfl, hS83.cell 0 rfl rfl, trivial⟩ ⟨rfl, hS84⟩)

/-! punctual/punctualsame.Still[punctual/api.Task] -/
abbrev punctualsame_Still_api_Task.Post (w0 : World) (r : Bool) (e : Ending) (w : World) : Prop := e = .returned (.bool r) ∧ St w0 w []
def punctualsame_Still_api_Task.r0 (f0 : List STask) (l1 : List STask) (x2 : STask) : Nat → Option (Nat ⊕ (Unit ⊕ Bool))
  | i1 =>
    if (i1 : Int) < (f0.length : Int) then
      match f0[i1]? with
      | none => none
      | some e1 =>
        if (i1 : Int) < (l1.length : Int) then
          match l1[i1]? with
          | none => none
          | some e2 =>
            if (STask.eqb e1 e2) = true then
              if (i1 : Int) ≥ (l1.length : Int) then
                if (STask.eqb e1 x2) = true then
                  some (.inl (i1 + 1))
                else
                  some (.inr (.inr false))
              else
                some (.inl (i1 + 1))
            else
              some (.inr (.inr false))
        else
          if (i1 : Int) ≥ (l1.length : Int) then
            if (STask.eqb e1 x2) = true then
              some (.inl (i1 + 1))
            else
              some (.inr (.inr false))
          else
            some (.inl (i1 + 1))
    else
      some (.inr (.inl ()))
def punctualsame_Still_api_Task.f (K : Nat) (f0 : List STask) (l1 : List STask) (x2 : STask) : Option Bool :=
  if (IntKind.i64.wrap ((l1.length : Int) + 3)) = (f0.length : Int) then
    match iter (punctualsame_Still_api_Task.r0 f0 l1 x2) K 0 with
    | none => none
    | some (.inl _) =>
      some true
    | some (.inr rr1) =>
      some rr1
  else
    none
abbrev punctualsame_Still_api_Task.A0 (K : Nat) (w0 : World) (f0 : List STask) (A0 : Option Addr) (n0 : Nat) (c0 : Nat) (l1 : List STask) (A1 : Option Addr) (c1 : Nat) (x2 : STask) (hR0 : RdL w0 A0 f0) (hc0 : f0.length ≤ c0) (hR1 : RdL w0 A1 l1) (hL1 : l1.length ≤ c1) (b1 : Nat) (hc1 : (IntKind.i64.wrap ((l1.length : Int) + 3)) = (f0.length : Int)) : Nat → Act → World → Prop := fun (s : Nat) a w => St w0 w [Own.blk b1 (.cells #[.string x2.Name, .int .i64 x2.C, .int .i64 x2.T, .int .i64 x2.D, .int .i64 x2.J, .int .i64 x2.O, .int .i64 x2.P] 46 (0, 0))] ∧ Frm 46 a [(1, .slice A1 l1.length c1), (5, .pointer (some ⟨b1, 0, none⟩)), (15, .slice A0 f0.length c0), (16, .int .i64 (f0.length : Int)), (17, .int .i64 (s : Int))]
abbrev punctualsame_Still_api_Task.B0 (K : Nat) (w0 : World) (f0 : List STask) (A0 : Option Addr) (n0 : Nat) (c0 : Nat) (l1 : List STask) (A1 : Option Addr) (c1 : Nat) (x2 : STask) (hR0 : RdL w0 A0 f0) (hc0 : f0.length ≤ c0) (hR1 : RdL w0 A1 l1) (hL1 : l1.length ≤ c1) (b1 : Nat) (hc1 : (IntKind.i64.wrap ((l1.length : Int) + 3)) = (f0.length : Int)) : (Unit ⊕ Bool) → Exit → Act → World → Prop := Exits 0 (fun (s : Unit) a w => St w0 w [] ∧ Frm 46 a []) (Rets Tryd.prog Tryd.f24 (punctualsame_Still_api_Task.Post w0))
theorem punctualsame_Still_api_Task_r0 (K : Nat) (w0 : World) (f0 : List STask) (A0 : Option Addr) (n0 : Nat) (c0 : Nat) (l1 : List STask) (A1 : Option Addr) (c1 : Nat) (x2 : STask) (hR0 : RdL w0 A0 f0) (hc0 : f0.length ≤ c0) (hR1 : RdL w0 A1 l1) (hL1 : l1.length ≤ c1) (b1 : Nat) (hc1 : (IntKind.i64.wrap ((l1.length : Int) + 3)) = (f0.length : Int)) (s : Nat) (o : Nat ⊕ (Unit ⊕ Bool)) (h : punctualsame_Still_api_Task.r0 f0 l1 x2 s = some o) (a : Act) (w : World) (hA : punctualsame_Still_api_Task.A0 K w0 f0 A0 n0 c0 l1 A1 c1 x2 hR0 hc0 hR1 hL1 b1 hc1 s a w) (Q : Exit → Act → World → Prop) (hQ : ∀ x a w, Outs (punctualsame_Still_api_Task.A0 K w0 f0 A0 n0 c0 l1 A1 c1 x2 hR0 hc0 hR1 hL1 b1 hc1) (punctualsame_Still_api_Task.B0 K w0 f0 A0 n0 c0 l1 A1 c1 x2 hR0 hc0 hR1 hL1 b1 hc1) o x a w → Q x a w) : (subF Tryd.f24 [1, 1, 0, 1, 0, 0]).wp Tryd.prog Q a w := by
  obtain ⟨i1, hs⟩ : ∃ z, z = s := ⟨s, rfl⟩
  subst hs
  obtain ⟨hS, hF⟩ := hA
  replace hS : St w0 w [Own.blk b1 (.cells #[.string x2.Name, .int .i64 x2.C, .int .i64 x2.T, .int .i64 x2.D, .int .i64 x2.J, .int .i64 x2.O, .int .i64 x2.P] 46 (0, 0))] := hS
  simp only [punctualsame_Still_api_Task.r0] at h
  refine (?_ : WE Tryd.prog 46 (subF Tryd.f24 [1, 1, 0, 1, 0, 0]) Q [(1, .slice A1 l1.length c1), (5, .pointer (some ⟨b1, 0, none⟩)), (15, .slice A0 f0.length c0), (16, .int .i64 (f0.length : Int)), (17, .int .i64 (i1 : Int))] w) a hF
  clear hF a
  refine we_seq fun K5 hK5 => ?_
  refine we_region [(0, 0)] rfl ?_
  refine ge_batch [0] (ans := []) (vs := [(18, .bool (decide ((i1 : Int) < (f0.length : Int))))]) (l := []) (by kernel_rfl) trivial ?_
  refine ge_nil fun a hF => hK5 _ _ ?_ a hF
  refine we_seq fun K6 hK6 => ?_
  by_cases hc2 : (i1 : Int) < (f0.length : Int)
  · rw [if_pos hc2] at h
    refine we_known (t := 18) (b := decide ((i1 : Int) < (f0.length : Int))) (v := true) (by kernel_rfl) (decide_eq_true hc2) ?_
    refine we_true (by kernel_rfl) ?_
    refine we_skip fun a hF => hK6 _ _ ?_ a hF
    refine we_seq fun K7 hK7 => ?_
    refine we_block ?_
    refine we_seq fun K8 hK8 => ?_
    refine we_region [(0, 0), (1, 0), (2, 0), (3, 1), (4, 0), (5, 2)] rfl ?_
    refine ge_batch [0] (ans := []) (vs := [(19, .int .i64 (i1 : Int))]) (l := []) (by kernel_rfl) trivial ?_
    rcases hx2 : f0[i1]? with _ | e1
    · rw [hx2] at h; cases h
    rw [hx2] at h
    simp only [] at h
    refine ge_index (d := 20) (ty := 0) (t := 40) (el := 46) (sz := 7) (m := f0.length) (c := c0) (x := (.tmp 15)) (y := (.tmp 17)) (A := A0) (k' := .i64) (j := (i1 : Int)) (jn := i1) (b0 := blkOf A0) (o0 := offOf A0) (by kernel_rfl) (by kernel_rfl) (by kernel_rfl) (by kernel_rfl) (by kernel_rfl) ((hS.rd hR0).eqSome (pos_of_get hx2)) rfl (lt_of_get hx2) ?_
    refine ge_batch [2] (ans := [.val (.string e1.Name), .val (.int .i64 e1.C), .val (.int .i64 e1.T), .val (.int .i64 e1.D), .val (.int .i64 e1.J), .val (.int .i64 e1.O), .val (.int .i64 e1.P)]) (vs := [(21, .agg #[.string e1.Name, .int .i64 e1.C, .int .i64 e1.T, .int .i64 e1.D, .int .i64 e1.J, .int .i64 e1.O, .int .i64 e1.P])]) (l := [.loaded ⟨blkOf A0, offOf A0 + i1 * 7, none⟩ (.string e1.Name), .loaded ⟨blkOf A0, offOf A0 + i1 * 7 + 1, none⟩ (.int .i64 e1.C), .loaded ⟨blkOf A0, offOf A0 + i1 * 7 + 2, none⟩ (.int .i64 e1.T), .loaded ⟨blkOf A0, offOf A0 + i1 * 7 + 3, none⟩ (.int .i64 e1.D), .loaded ⟨blkOf A0, offOf A0 + i1 * 7 + 4, none⟩ (.int .i64 e1.J), .loaded ⟨blkOf A0, offOf A0 + i1 * 7 + 5, none⟩ (.int .i64 e1.O), .loaded ⟨blkOf A0, offOf A0 + i1 * 7 + 6, none⟩ (.int .i64 e1.P)]) (by kernel_rfl) ⟨RdL.cell (j := 0) (hS.rd hR0) hx2 rfl, RdL.cell (j := 1) (hS.rd hR0) hx2 rfl, RdL.cell (j := 2) (hS.rd hR0) hx2 rfl, RdL.cell (j := 3) (hS.rd hR0) hx2 rfl, RdL.cell (j := 4) (hS.rd hR0) hx2 rfl, RdL.cell (j := 5) (hS.rd hR0) hx2 rfl, RdL.cell (j := 6) (hS.rd hR0) hx2 rfl, trivial⟩ ?_
    refine ge_new (d := some 9) (o := .cells #[.string (⟨#[]⟩), .int .i64 0, .int .i64 0, .int .i64 0, .int .i64 0, .int .i64 0, .int .i64 0] 46) (v := fun b => .pointer (some ⟨b, 0, none⟩)) hS (fun b => by kernel_rfl) fun b2 w2 hx3 hS2 => ?_
    refine ge_batch [4] (ans := []) (vs := [(8, .int .i64 (i1 : Int))]) (l := []) (by kernel_rfl) trivial ?_
    refine ge_set (b := b2) (j := 0) (cs := #[.string (⟨#[]⟩), .int .i64 0, .int .i64 0, .int .i64 0, .int .i64 0, .int .i64 0, .int .i64 0]) (t := 46) (vs := [.string e1.Name, .int .i64 e1.C, .int .i64 e1.T, .int .i64 e1.D, .int .i64 e1.J, .int .i64 e1.O, .int .i64 e1.P]) hS2 (by kernel_rfl) rfl rfl fun w3 hS3 => ?_
    have hS4 : St w0 w3 [Own.blk b2 (.cells #[.string e1.Name, .int .i64 e1.C, .int .i64 e1.T, .int .i64 e1.D, .int .i64 e1.J, .int .i64 e1.O, .int .i64 e1.P] 46 (0, 0)), Own.blk b1 (.cells #[.string x2.Name, .int .i64 x2.C, .int .i64 x2.T, .int .i64 x2.D, .int .i64 x2.J, .int .i64 x2.O, .int .i64 x2.P] 46 (0, 0))] := hS3
    refine ge_nil fun a hF => hK8 _ _ ?_ a hF
    refine we_seq fun K9 hK9 => ?_
    refine we_draws (by kernel_rfl) [(0, 0), (1, 0), (2, 0), (3, 0), (4, 0), (5, 0), (6, 0), (7, 0), (8, 0), (9, 0), (10, 0), (11, 0), (12, 0), (13, 0), (14, 0), (15, 0), (16, 0), (17, 0), (18, 0), (19, 0), (20, 0), (21, 0), (22, 0)] (by kernel_rfl) ?_
    have hS5 := hS4.drew
    refine ge_batch [0, 1, 2, 3, 4] (ans := []) (vs := [(26, .bool (decide ((i1 : Int) < (l1.length : Int)))), (25, .bool (decide ((i1 : Int) < (l1.length : Int)))), (24, .int .i64 (l1.length : Int)), (23, .slice A1 l1.length c1), (22, .int .i64 (i1 : Int))]) (l := []) (by kernel_rfl) trivial ?_
    by_cases hc3 : (i1 : Int) < (l1.length : Int)
    · rw [if_pos hc3] at h
      refine ge_known (t := 26) (b := decide ((i1 : Int) < (l1.length : Int))) (c := true) (by kernel_rfl) (decide_eq_true hc3) ?_
      refine ge_batch [5, 6, 7] (ans := [.val (.string e1.Name), .val (.int .i64 e1.C), .val (.int .i64 e1.T), .val (.int .i64 e1.D), .val (.int .i64 e1.J), .val (.int .i64 e1.O), .val (.int .i64 e1.P)]) (vs := [(29, .int .i64 (i1 : Int)), (28, .slice A1 l1.length c1), (27, .agg #[.string e1.Name, .int .i64 e1.C, .int .i64 e1.T, .int .i64 e1.D, .int .i64 e1.J, .int .i64 e1.O, .int .i64 e1.P])]) (l := [.loaded ⟨b2, 0, none⟩ (.string e1.Name), .loaded ⟨b2, 1, none⟩ (.int .i64 e1.C), .loaded ⟨b2, 2, none⟩ (.int .i64 e1.T), .loaded ⟨b2, 3, none⟩ (.int .i64 e1.D), .loaded ⟨b2, 4, none⟩ (.int .i64 e1.J), .loaded ⟨b2, 5, none⟩ (.int .i64 e1.O), .loaded ⟨b2, 6, none⟩ (.int .i64 e1.P)]) (by kernel_rfl) ⟨hS5.cell 0 rfl rfl, hS5.cell 0 rfl rfl, hS5.cell 0 rfl rfl, hS5.cell 0 rfl rfl, hS5.cell 0 rfl rfl, hS5.cell 0 rfl rfl, hS5.cell 0 rfl rfl, trivial⟩ ?_
      rcases hx4 : l1[i1]? with _ | e2
      · rw [hx4] at h; cases h
      rw [hx4] at h
      simp only [] at h
      refine ge_index (d := 30) (ty := 0) (t := 40) (el := 46) (sz := 7) (m := l1.length) (c := c1) (x := (.tmp 28)) (y := (.tmp 29)) (A := A1) (k' := .i64) (j := (i1 : Int)) (jn := i1) (b0 := blkOf A1) (o0 := offOf A1) (by kernel_rfl) (by kernel_rfl) (by kernel_rfl) (by kernel_rfl) (by kernel_rfl) ((hS5.rd hR1).eqSome (pos_of_get hx4)) rfl (lt_of_get hx4) ?_
      refine ge_batch [9] (ans := [.val (.string e2.Name), .val (.int .i64 e2.C), .val (.int .i64 e2.T), .val (.int .i64 e2.D), .val (.int .i64 e2.J), .val (.int .i64 e2.O), .val (.int .i64 e2.P)]) (vs := [(31, .agg #[.string e2.Name, .int .i64 e2.C, .int .i64 e2.T, .int .i64 e2.D, .int .i64 e2.J, .int .i64 e2.O, .int .i64 e2.P])]) (l := [.loaded ⟨blkOf A1, offOf A1 + i1 * 7, none⟩ (.string e2.Name), .loaded ⟨blkOf A1, offOf A1 + i1 * 7 + 1, none⟩ (.int .i64 e2.C), .loaded ⟨blkOf A1, offOf A1 + i1 * 7 + 2, none⟩ (.int .i64 e2.T), .loaded ⟨blkOf A1, offOf A1 + i1 * 7 + 3, none⟩ (.int .i64 e2.D), .loaded ⟨blkOf A1, offOf A1 + i1 * 7 + 4, none⟩ (.int .i64 e2.J), .loaded ⟨blkOf A1, offOf A1 + i1 * 7 + 5, none⟩ (.int .i64 e2.O), .loaded ⟨blkOf A1, offOf A1 + i1 * 7 + 6, none⟩ (.int .i64 e2.P)]) (by kernel_rfl) ⟨RdL.cell (j := 0) (hS5.rd hR1) hx4 rfl, RdL.cell (j := 1) (hS5.rd hR1) hx4 rfl, RdL.cell (j := 2) (hS5.rd hR1) hx4 rfl, RdL.cell (j := 3) (hS5.rd hR1) hx4 rfl, RdL.cell (j := 4) (hS5.rd hR1) hx4 rfl, RdL.cell (j := 5) (hS5.rd hR1) hx4 rfl, RdL.cell (j := 6) (hS5.rd hR1) hx4 rfl, trivial⟩ ?_
      refine ge_eqs (d := 32) (ty := 4) (op := .neq) (x := (.tmp 27)) (y := (.tmp 31)) (t := 46) (t2 := 46) (xs := #[.string e1.Name, .int .i64 e1.C, .int .i64 e1.T, .int .i64 e1.D, .int .i64 e1.J, .int .i64 e1.O, .int .i64 e1.P]) (ys := #[.string e2.Name, .int .i64 e2.C, .int .i64 e2.T, .int .i64 e2.D, .int .i64 e2.J, .int .i64 e2.O, .int .i64 e2.P]) (r := (STask.eqb e1 e2)) (v := !(STask.eqb e1 e2)) (by kernel_rfl) (by kernel_rfl) (by kernel_rfl) (by kernel_rfl) (by kernel_rfl) rfl ?_
      refine ge_batch [11, 12] (ans := []) (vs := [(34, .bool (!(STask.eqb e1 e2))), (33, .bool (!(STask.eqb e1 e2)))]) (l := []) (by kernel_rfl) trivial ?_
      by_cases hc4 : (STask.eqb e1 e2) = true
      · rw [if_pos hc4] at h
        refine ge_known (t := 34) (b := !(STask.eqb e1 e2)) (c := false) (by kernel_rfl) (congrArg (fun z => !z) hc4) ?_
        refine ge_batch [13, 14, 15, 16, 17] (ans := []) (vs := [(39, .bool (decide ((i1 : Int) ≥ (l1.length : Int)))), (38, .bool (decide ((i1 : Int) ≥ (l1.length : Int)))), (37, .int .i64 (l1.length : Int)), (36, .slice A1 l1.length c1), (35, .int .i64 (i1 : Int))]) (l := []) (by kernel_rfl) trivial ?_
        by_cases hc5 : (i1 : Int) ≥ (l1.length : Int)
        · rw [if_pos hc5] at h
          refine ge_known (t := 39) (b := decide ((i1 : Int) ≥ (l1.length : Int))) (c := true) (by kernel_rfl) (decide_eq_true hc5) ?_
          refine ge_batch [18, 19] (ans := [.val (.string e1.Name), .val (.int .i64 e1.C), .val (.int .i64 e1.T), .val (.int .i64 e1.D), .val (.int .i64 e1.J), .val (.int .i64 e1.O), .val (.int .i64 e1.P), .val (.string x2.Name), .val (.int .i64 x2.C), .val (.int .i64 x2.T), .val (.int .i64 x2.D), .val (.int .i64 x2.J), .val (.int .i64 x2.O), .val (.int .i64 x2.P)]) (vs := [(41, .agg #[.string x2.Name, .int .i64 x2.C, .int .i64 x2.T, .int .i64 x2.D, .int .i64 x2.J, .int .i64 x2.O, .int .i64 x2.P]), (40, .agg #[.string e1.Name, .int .i64 e1.C, .int .i64 e1.T, .int .i64 e1.D, .int .i64 e1.J, .int .i64 e1.O, .int .i64 e1.P])]) (l := [.loaded ⟨b2, 0, none⟩ (.string e1.Name), .loaded ⟨b2, 1, none⟩ (.int .i64 e1.C), .loaded ⟨b2, 2, none⟩ (.int .i64 e1.T), .loaded ⟨b2, 3, none⟩ (.int .i64 e1.D), .loaded ⟨b2, 4, none⟩ (.int .i64 e1.J), .loaded ⟨b2, 5, none⟩ (.int .i64 e1.O), .loaded ⟨b2, 6, none⟩ (.int .i64 e1.P), .loaded ⟨b1, 0, none⟩ (.string x2.Name), .loaded ⟨b1, 1, none⟩ (.int .i64 x2.C), .loaded ⟨b1, 2, none⟩ (.int .i64 x2.T), .loaded ⟨b1, 3, none⟩ (.int .i64 x2.D), .loaded ⟨b1, 4, none⟩ (.int .i64 x2.J), .loaded ⟨b1, 5, none⟩ (.int .i64 x2.O), .loaded ⟨b1, 6, none⟩ (.int .i64 x2.P)]) (by kernel_rfl) ⟨hS5.cell 0 rfl rfl, hS5.cell 0 rfl rfl, hS5.cell 0 rfl rfl, hS5.cell 0 rfl rfl, hS5.cell 0 rfl rfl, hS5.cell 0 rfl rfl, hS5.cell 0 rfl rfl, hS5.cell 1 rfl rfl, hS5.cell 1 rfl rfl, hS5.cell 1 rfl rfl, hS5.cell 1 rfl rfl, hS5.cell 1 rfl rfl, hS5.cell 1 rfl rfl, hS5.cell 1 rfl rfl, trivial⟩ ?_
          refine ge_eqs (d := 42) (ty := 4) (op := .neq) (x := (.tmp 40)) (y := (.tmp 41)) (t := 46) (t2 := 46) (xs := #[.string e1.Name, .int .i64 e1.C, .int .i64 e1.T, .int .i64 e1.D, .int .i64 e1.J, .int .i64 e1.O, .int .i64 e1.P]) (ys := #[.string x2.Name, .int .i64 x2.C, .int .i64 x2.T, .int .i64 x2.D, .int .i64 x2.J, .int .i64 x2.O, .int .i64 x2.P]) (r := (STask.eqb e1 x2)) (v := !(STask.eqb e1 x2)) (by kernel_rfl) (by kernel_rfl) (by kernel_rfl) (by kernel_rfl) (by kernel_rfl) rfl ?_
          refine ge_batch [21, 22] (ans := []) (vs := [(44, .bool (!(STask.eqb e1 x2))), (43, .bool (!(STask.eqb e1 x2)))]) (l := []) (by kernel_rfl) trivial ?_
          refine ge_nil fun a hF => hK9 _ _ ?_ a hF
          by_cases hc6 : (STask.eqb e1 x2) = true
          · rw [if_pos hc6] at h
            refine we_known (t := 44) (b := !(STask.eqb e1 x2)) (v := false) (by kernel_rfl) (congrArg (fun z => !z) hc6) ?_
            refine we_false (by kernel_rfl) ?_
            refine we_skip fun a hF => hK7 _ _ ?_ a hF
            refine we_region [(0, 0), (1, 0)] rfl ?_
            refine ge_addn (d := 45) (ty := 3) (x := (.tmp 17)) (y := (.const (.int .i64 1))) (t := 3) (t2 := 3) (k := .i64) (m := i1) (by kernel_rfl) (by kernel_rfl) (by kernel_rfl) (by have h0 := hR0.small; omega) ?_
            refine ge_batch [1] (ans := []) (vs := [(17, .int .i64 ((i1 + 1 : Nat) : Int))]) (l := []) (by kernel_rfl) trivial ?_
            have hS6 := hS5.bring 1 rfl
            have hS7 := hS6.takeN 1
            obtain rfl := Option.some.inj h
            exact ge_nil fun a hF => hQ _ _ _ (Outs.again ⟨hS7, hF.weaken ⟨by kernel_rfl, by kernel_rfl, by kernel_rfl, by kernel_rfl, by kernel_rfl, trivial⟩⟩)
          · rw [if_neg hc6] at h
            refine we_known (t := 44) (b := !(STask.eqb e1 x2)) (v := true) (by kernel_rfl) (congrArg (fun z => !z) (Bool.eq_false_iff.2 hc6)) ?_
            refine we_true (by kernel_rfl) ?_
            refine we_seq fun K10 hK10 => ?_
            refine we_region [(0, 0)] rfl ?_
            refine ge_batch [0] (ans := []) (vs := [(6, .bool false)]) (l := []) (by kernel_rfl) trivial ?_
            refine ge_nil fun a hF => hK10 _ _ ?_ a hF
            have hS8 := hS5.takeN 0
            obtain rfl := Option.some.inj h
            exact we_ret fun a hF => hQ _ _ _ (Outs.out nofun (Exits.on ⟨rfl, (post_ret (rs := [.tmp 6]) (ans := []) (vs := [.bool false]) (l := []) rfl (by kernel_rfl) trivial ⟨rfl, hS8⟩) a hF⟩))
        · rw [if_neg hc5] at h
          refine ge_known (t := 39) (b := decide ((i1 : Int) ≥ (l1.length : Int))) (c := false) (by kernel_rfl) (decide_eq_false hc5) ?_
          refine ge_batch [18, 19, 20, 21, 22] (ans := []) (vs := [(44, .bool false), (43, .bool false), (42, undef), (41, undef), (40, undef)]) (l := []) (by kernel_rfl) trivial ?_
          refine ge_nil fun a hF => hK9 _ _ ?_ a hF
          refine we_false (by kernel_rfl) ?_
          refine we_skip fun a hF => hK7 _ _ ?_ a hF
          refine we_region [(0, 0), (1, 0)] rfl ?_
          refine ge_addn (d := 45) (ty := 3) (x := (.tmp 17)) (y := (.const (.int .i64 1))) (t := 3) (t2 := 3) (k := .i64) (m := i1) (by kernel_rfl) (by kernel_rfl) (by kernel_rfl) (by have h0 := hR0.small; omega) ?_
          refine ge_batch [1] (ans := []) (vs := [(17, .int .i64 ((i1 + 1 : Nat) : Int))]) (l := []) (by kernel_rfl) trivial ?_
          have hS9 := hS5.bring 1 rfl
          have hS10 := hS9.takeN 1
          obtain rfl := Option.some.inj h
          exact ge_nil fun a hF => hQ _ _ _ (Outs.again ⟨hS10, hF.weaken ⟨by kernel_rfl, by kernel_rfl, by kernel_rfl, by kernel_rfl, by kernel_rfl, trivial⟩⟩)
      · rw [if_neg hc4] at h
        refine ge_known (t := 34) (b := !(STask.eqb e1 e2)) (c := true) (by kernel_rfl) (congrArg (fun z => !z) (Bool.eq_false_iff.2 hc4)) ?_
        refine ge_batch [13, 14, 15, 16, 17, 18, 19, 20, 21, 22] (ans := []) (vs := [(44, .bool true), (43, undef), (42, undef), (41, undef), (40, undef), (39, undef), (38, undef), (37, undef), (36, undef), (35, undef)]) (l := []) (by kernel_rfl) trivial ?_
        refine ge_nil fun a hF => hK9 _ _ ?_ a hF
        refine we_true (by kernel_rfl) ?_
        refine we_seq fun K11 hK11 => ?_
        refine we_region [(0, 0)] rfl ?_
        refine ge_batch [0] (ans := []) (vs := [(6, .bool false)]) (l := []) (by kernel_rfl) trivial ?_
        refine ge_nil fun a hF => hK11 _ _ ?_ a hF
        have hS11 := hS5.takeN 0
        obtain rfl := Option.some.inj h
        exact we_ret fun a hF => hQ _ _ _ (Outs.out nofun (Exits.on ⟨rfl, (post_ret (rs := [.tmp 6]) (ans := []) (vs := [.bool false]) (l := []) rfl (by kernel_rfl) trivial ⟨rfl, hS11⟩) a hF⟩))
    · rw [if_neg hc3] at h
      refine ge_known (t := 26) (b := decide ((i1 : Int) < (l1.length : Int))) (c := false) (by kernel_rfl) (decide_eq_false hc3) ?_
      refine ge_batch [5, 6, 7, 8, 9, 10, 11, 12, 13, 14, 15, 16, 17] (ans := []) (vs := [(39, .bool (decide ((i1 : Int) ≥ (l1.length : Int)))), (38, .bool (decide ((i1 : Int) ≥ (l1.length : Int)))), (37, .int .i64 (l1.length : Int)), (36, .slice A1 l1.length c1), (35, .int .i64 (i1 : Int)), (34, .bool false), (33, .bool false), (32, undef), (31, undef), (30, undef), (29, undef), (28, undef), (27, undef)]) (l := []) (by kernel_rfl) trivial ?_
      by_cases hc7 : (i1 : Int) ≥ (l1.length : Int)
      · rw [if_pos hc7] at h
        refine ge_known (t := 39) (b := decide ((i1 : Int) ≥ (l1.length : Int))) (c := true) (by kernel_rfl) (decide_eq_true hc7) ?_
        refine ge_batch [18, 19] (ans := [.val (.string e1.Name), .val (.int .i64 e1.C), .val (.int .i64 e1.T), .val (.int .i64 e1.D), .val (.int .i64 e1.J), .val (.int .i64 e1.O), .val (.int .i64 e1.P), .val (.string x2.Name), .val (.int .i64 x2.C), .val (.int .i64 x2.T), .val (.int .i64 x2.D), .val (.int .i64 x2.J), .val (.int .i64 x2.O), .val (.int .i64 x2.P)]) (vs := [(41, .agg #[.string x2.Name, .int .i64 x2.C, .int .i64 x2.T, .int .i64 x2.D, .int .i64 x2.J, .int .i64 x2.O, .int .i64 x2.P]), (40, .agg #[.string e1.Name, .int .i64 e1.C, .int .i64 e1.T, .int .i64 e1.D, .int .i64 e1.J, .int .i64 e1.O, .int .i64 e1.P])]) (l := [.loaded ⟨b2, 0, none⟩ (.string e1.Name), .loaded ⟨b2, 1, none⟩ (.int .i64 e1.C), .loaded ⟨b2, 2, none⟩ (.int .i64 e1.T), .loaded ⟨b2, 3, none⟩ (.int .i64 e1.D), .loaded ⟨b2, 4, none⟩ (.int .i64 e1.J), .loaded ⟨b2, 5, none⟩ (.int .i64 e1.O), .loaded ⟨b2, 6, none⟩ (.int .i64 e1.P), .loaded ⟨b1, 0, none⟩ (.string x2.Name), .loaded ⟨b1, 1, none⟩ (.int .i64 x2.C), .loaded ⟨b1, 2, none⟩ (.int .i64 x2.T), .loaded ⟨b1, 3, none⟩ (.int .i64 x2.D), .loaded ⟨b1, 4, none⟩ (.int .i64 x2.J), .loaded ⟨b1, 5, none⟩ (.int .i64 x2.O), .loaded ⟨b1, 6, none⟩ (.int .i64 x2.P)]) (by kernel_rfl) ⟨hS5.cell 0 rfl rfl, hS5.cell 0 rfl rfl, hS5.cell 0 rfl rfl, hS5.cell 0 rfl rfl, hS5.cell 0 rfl rfl, hS5.cell 0 rfl rfl, hS5.cell 0 rfl rfl, hS5.cell 1 rfl rfl, hS5.cell 1 rfl rfl, hS5.cell 1 rfl rfl, hS5.cell 1 rfl rfl, hS5.cell 1 rfl rfl, hS5.cell 1 rfl rfl, hS5.cell 1 rfl rfl, trivial⟩ ?_
        refine ge_eqs (d := 42) (ty := 4) (op := .neq) (x := (.tmp 40)) (y := (.tmp 41)) (t := 46) (t2 := 46) (xs := #[.string e1.Name, .int .i64 e1.C, .int .i64 e1.T, .int .i64 e1.D, .int .i64 e1.J, .int .i64 e1.O, .int .i64 e1.P]) (ys := #[.string x2.Name, .int .i64 x2.C, .int .i64 x2.T, .int .i64 x2.D, .int .i64 x2.J, .int .i64 x2.O, .int .i64 x2.P]) (r := (STask.eqb e1 x2)) (v := !(STask.eqb e1 x2)) (by kernel_rfl) (by kernel_rfl) (by kernel_rfl) (by kernel_rfl) (by kernel_rfl) rfl ?_
        refine ge_batch [21, 22] (ans := []) (vs := [(44, .bool (!(STask.eqb e1 x2))), (43, .bool (!(STask.eqb e1 x2)))]) (l := []) (by kernel_rfl) trivial ?_
        refine ge_nil fun a hF => hK9 _ _ ?_ a hF
        by_cases hc8 : (STask.eqb e1 x2) = true
        · rw [if_pos hc8] at h
          refine we_known (t := 44) (b := !(STask.eqb e1 x2)) (v := false) (by kernel_rfl) (congrArg (fun z => !z) hc8) ?_
          refine we_false (by kernel_rfl) ?_
          refine we_skip fun a hF => hK7 _ _ ?_ a hF
          refine we_region [(0, 0), (1, 0)] rfl ?_
          refine ge_addn (d := 45) (ty := 3) (x := (.tmp 17)) (y := (.const (.int .i64 1))) (t := 3) (t2 := 3) (k := .i64) (m := i1) (by kernel_rfl) (by kernel_rfl) (by kernel_rfl) (by have h0 := hR0.small; omega) ?_
          refine ge_batch [1] (ans := []) (vs := [(17, .int .i64 ((i1 + 1 : Nat) : Int))]) (l := []) (by kernel_rfl) trivial ?_
          have hS12 := hS5.bring 1 rfl
          have hS13 := hS12.takeN 1
          obtain rfl := Option.some.inj h
          exact ge_nil fun a hF => hQ _ _ _ (Outs.again ⟨hS13, hF.weaken ⟨by kernel_rfl, by kernel_rfl, by kernel_rfl, by kernel_rfl, by kernel_rfl, trivial⟩⟩)
        · rw [if_neg hc8] at h
          refine we_known (t := 44) (b := !(STask.eqb e1 x2)) (v := true) (by kernel_rfl) (congrArg (fun z => !z) (Bool.eq_false_iff.2 hc8)) ?_
          refine we_true (by kernel_rfl) ?_
          refine we_seq fun K12 hK12 => ?_
          refine we_region [(0, 0)] rfl ?_
          refine ge_batch [0] (ans := []) (vs := [(6, .bool false)]) (l := []) (by kernel_rfl) trivial ?_
          refine ge_nil fun a hF => hK12 _ _ ?_ a hF
          have hS14 := hS5.takeN 0
          obtain rfl := Option.some.inj h
          exact we_ret fun a hF => hQ _ _ _ (Outs.out nofun (Exits.on ⟨rfl, (post_ret (rs := [.tmp 6]) (ans := []) (vs := [.bool false]) (l := []) rfl (by kernel_rfl) trivial ⟨rfl, hS14⟩) a hF⟩))
      · rw [if_neg hc7] at h
        refine ge_known (t := 39) (b := decide ((i1 : Int) ≥ (l1.length : Int))) (c := false) (by kernel_rfl) (decide_eq_false hc7) ?_
        refine ge_batch [18, 19, 20, 21, 22] (ans := []) (vs := [(44, .bool false), (43, .bool false), (42, undef), (41, undef), (40, undef)]) (l := []) (by kernel_rfl) trivial ?_
        refine ge_nil fun a hF => hK9 _ _ ?_ a hF
        refine we_false (by kernel_rfl) ?_
        refine we_skip fun a hF => hK7 _ _ ?_ a hF
        refine we_region [(0, 0), (1, 0)] rfl ?_
        refine ge_addn (d := 45) (ty := 3) (x := (.tmp 17)) (y := (.const (.int .i64 1))) (t := 3) (t2 := 3) (k := .i64) (m := i1) (by kernel_rfl) (by kernel_rfl) (by kernel_rfl) (by have h0 := hR0.small; omega) ?_
        refine ge_batch [1] (ans := []) (vs := [(17, .int .i64 ((i1 + 1 : Nat) : Int))]) (l := []) (by kernel_rfl) trivial ?_
        have hS15 := hS5.bring 1 rfl
        have hS16 := hS15.takeN 1
        obtain rfl := Option.some.inj h
        exact ge_nil fun a hF => hQ _ _ _ (Outs.again ⟨hS16, hF.weaken ⟨by kernel_rfl, by kernel_rfl, by kernel_rfl, by kernel_rfl, by kernel_rfl, trivial⟩⟩)
  · rw [if_neg hc2] at h
    refine we_known (t := 18) (b := decide ((i1 : Int) < (f0.length : Int))) (v := false) (by kernel_rfl) (decide_eq_false hc2) ?_
    refine we_false (by kernel_rfl) ?_
    have hS17 := hS.takeN 0
    obtain rfl := Option.some.inj h
    exact we_exit fun a hF => hQ _ _ _ (Outs.out nofun (Exits.here ⟨hS17, hF.weaken trivial⟩))
theorem punctualsame_Still_api_Task_ok (K : Nat) (f0 : List STask) (A0 : Option Addr) (n0 : Nat) (c0 : Nat) (l1 : List STask) (A1 : Option Addr) (c1 : Nat) (x2 : STask) (w0 : World) (hR0 : RdL w0 A0 f0) (hc0 : f0.length ≤ c0) (hR1 : RdL w0 A1 l1) (hL1 : l1.length ≤ c1) (r : Bool) (h : punctualsame_Still_api_Task.f K f0 l1 x2 = some r) :
    Calls Tryd.prog 24 #[.slice A0 n0 c0, .slice A1 l1.length c1, .agg #[.string x2.Name, .int .i64 x2.C, .int .i64 x2.T, .int .i64 x2.D, .int .i64 x2.J, .int .i64 x2.O, .int .i64 x2.P]] w0 (punctualsame_Still_api_Task.Post w0 r) := by
  have hS := St.start w0
  unfold punctualsame_Still_api_Task.f at h
  refine calls_enter (n := 46) (args := [.slice A0 n0 c0, .slice A1 l1.length c1, .agg #[.string x2.Name, .int .i64 x2.C, .int .i64 x2.T, .int .i64 x2.D, .int .i64 x2.J, .int .i64 x2.O, .int .i64 x2.P]]) (fn := Tryd.f24) rfl rfl rfl rfl ?_
  show WE _ _ _ _ [(0, .slice A0 n0 c0), (1, .slice A1 l1.length c1), (2, .agg #[.string x2.Name, .int .i64 x2.C, .int .i64 x2.T, .int .i64 x2.D, .int .i64 x2.J, .int .i64 x2.O, .int .i64 x2.P])] _
  refine we_seq fun K1 hK1 => ?_
  refine we_region [(0, 1), (1, 0)] rfl ?_
  refine ge_new (d := some 5) (o := .cells #[.string x2.Name, .int .i64 x2.C, .int .i64 x2.T, .int .i64 x2.D, .int .i64 x2.J, .int .i64 x2.O, .int .i64 x2.P] 46) (v := fun b => .pointer (some ⟨b, 0, none⟩)) hS (fun b => by kernel_rfl) fun b1 w1 hx1 hS1 => ?_
  refine ge_batch [1] (ans := []) (vs := [(6, .bool false)]) (l := []) (by kernel_rfl) trivial ?_
  refine ge_nil fun a hF => hK1 _ _ ?_ a hF
  refine we_seq fun K2 hK2 => ?_
  refine we_region [(0, 0), (1, 0), (2, 0), (3, 0), (4, 0), (5, 0)] rfl ?_
  refine ge_batch [0, 1, 2, 3] (ans := []) (vs := [(13, .int .i64 (IntKind.i64.wrap ((l1.length : Int) + 3))), (12, .int .i64 (l1.length : Int)), (11, .slice A1 l1.length c1), (10, .slice A0 n0 c0)]) (l := []) (by kernel_rfl) trivial ?_
  by_cases hc1 : (IntKind.i64.wrap ((l1.length : Int) + 3)) = (f0.length : Int)
  · rw [if_pos hc1] at h
    refine ge_sliceHi (d := 14) (ty := 40) (t := 40) (el := 46) (sz := 7) (m := n0) (c := c0) (hn := f0.length) (x := (.tmp 10)) (y := (.tmp 13)) (A := A0) (k' := .i64) (hi := (IntKind.i64.wrap ((l1.length : Int) + 3))) (by kernel_rfl) (by kernel_rfl) (by kernel_rfl) hc1 (by kernel_rfl) (by kernel_rfl) hc0 ?_
    refine ge_batch [5] (ans := []) (vs := [(7, .slice A0 f0.length c0)]) (l := []) (by kernel_rfl) trivial ?_
    refine ge_nil fun a hF => hK2 _ _ ?_ a hF
    refine we_seq fun K3 hK3 => ?_
    refine we_seq fun K4 hK4 => ?_
    refine we_region [(0, 0), (1, 0), (2, 0)] rfl ?_
    refine ge_batch [0, 1, 2] (ans := []) (vs := [(17, .int .i64 0), (16, .int .i64 (f0.length : Int)), (15, .slice A0 f0.length c0)]) (l := []) (by kernel_rfl) trivial ?_
    refine ge_nil fun a hF => hK4 _ _ ?_ a hF
    refine we_block ?_
    rcases hq1 : iter (punctualsame_Still_api_Task.r0 f0 l1 x2) K 0 with _ | (_ | rr1)
    · rw [hq1] at h; cases h
    · rw [hq1] at h
      simp only [] at h
      refine we_iter (A := punctualsame_Still_api_Task.A0 K w0 f0 A0 n0 c0 l1 A1 c1 x2 hR0 hc0 hR1 hL1 b1 hc1) (B := punctualsame_Still_api_Task.B0 K w0 f0 A0 n0 c0 l1 A1 c1 x2 hR0 hc0 hR1 hL1 b1 hc1) hq1 (fun a hF => ⟨hS1, hF.weaken ⟨by kernel_rfl, by kernel_rfl, by kernel_rfl, by kernel_rfl, by kernel_rfl, trivial⟩⟩) (fun s o hf a w hA Q hQ => punctualsame_Still_api_Task_r0 K w0 f0 A0 n0 c0 l1 A1 c1 x2 hR0 hc0 hR1 hL1 b1 hc1 s o hf a w hA Q hQ) ?_
      rintro _ a w4 _ ⟨rfl, hS18, hF⟩
      replace hS18 : St w0 w4 [] := hS18
      refine hK3 [] w4 ?_ a hF
      refine we_seq fun K13 hK13 => ?_
      refine we_region [(0, 0)] rfl ?_
      refine ge_batch [0] (ans := []) (vs := [(6, .bool true)]) (l := []) (by kernel_rfl) trivial ?_
      refine ge_nil fun a hF => hK13 _ _ ?_ a hF
      obtain rfl := Option.some.inj h
      exact we_ret (post_ret (rs := [.tmp 6]) (ans := []) (vs := [.bool true]) (l := []) rfl (by kernel_rfl) trivial ⟨rfl, hS18⟩)
    · rw [hq1] at h
      simp only [] at h
      refine we_iter (A := punctualsame_Still_api_Task.A0 K w0 f0 A0 n0 c0 l1 A1 c1 x2 hR0 hc0 hR1 hL1 b1 hc1) (B := punctualsame_Still_api_Task.B0 K w0 f0 A0 n0 c0 l1 A1 c1 x2 hR0 hc0 hR1 hL1 b1 hc1) hq1 (fun a hF => ⟨hS1, hF.weaken ⟨by kernel_rfl, by kernel_rfl, by kernel_rfl, by kernel_rfl, by kernel_rfl, trivial⟩⟩) (fun s o hf a w hA Q hQ => punctualsame_Still_api_Task_r0 K w0 f0 A0 n0 c0 l1 A1 c1 x2 hR0 hc0 hR1 hL1 b1 hc1 s o hf a w hA Q hQ) ?_
      rintro _ a w1 _ ⟨rfl, hb⟩
      obtain rfl := Option.some.inj h
      exact hb
  · rw [if_neg hc1] at h
    cases h

/-! punctual/punctualsame.Still[punctual/api.Come] -/
abbrev punctualsame_Still_api_Come.Post (w0 : World) (r : Bool) (e : Ending) (w : World) : Prop := e = .returned (.bool r) ∧ St w0 w []
def punctualsame_Still_api_Come.r0 (f0 : List SCome) (l1 : List SCome) (x2 : SCome) : Nat → Option (Nat ⊕ (Unit ⊕ Bool))
  | i1 =>
    if (i1 : Int) < (f0.length : Int) then
      match f0[i1]? with
      | none => none
      | some e1 =>
        if (i1 : Int) < (l1.length : Int) then
          match l1[i1]? with
          | none => none
          | some e2 =>
            if (SCome.eqb e1 e2) = true then
              if (i1 : Int) ≥ (l1.length : Int) then
                if (SCome.eqb e1 x2) = true then
                  some (.inl (i1 + 1))
                else
                  some (.inr (.inr false))
              else
                some (.inl (i1 + 1))
            else
              some (.inr (.inr false))
        else
          if (i1 : Int) ≥ (l1.length : Int) then
            if (SCome.eqb e1 x2) = true then
              some (.inl (i1 + 1))
            else
              some (.inr (.inr false))
          else
            some (.inl (i1 + 1))
    else
      some (.inr (.inl ()))
def punctualsame_Still_api_Come.f (K : Nat) (f0 : List SCome) (l1 : List SCome) (x2 : SCome) : Option Bool :=
  if (IntKind.i64.wrap ((l1.length : Int) + 3)) = (f0.length : Int) then
    match iter (punctualsame_Still_api_Come.r0 f0 l1 x2) K 0 with
    | none => none
    | some (.inl _) =>
      some true
    | some (.inr rr1) =>
      some rr1
  else
    none
abbrev punctualsame_Still_api_Come.A0 (K : Nat) (w0 : World) (f0 : List SCome) (A0 : Option Addr) (n0 : Nat) (c0 : Nat) (l1 : List SCome) (A1 : Option Addr) (c1 : Nat) (x2 : SCome) (hR0 : RdL w0 A0 f0) (hc0 : f0.length ≤ c0) (hR1 : RdL w0 A1 l1) (hL1 : l1.length ≤ c1) (b1 : Nat) (hc1 : (IntKind.i64.wrap ((l1.length : Int) + 3)) = (f0.length : Int)) : Nat → Act → World → Prop := fun (s : Nat) a w => St w0 w [Own.blk b1 (.cells #[.int .i64 x2.Task, .int .i64 x2.At] 53 (0, 0))] ∧ Frm 46 a [(1, .slice A1 l1.length c1), (5, .pointer (some ⟨b1, 0, none⟩)), (15, .slice A0 f0.length c0), (16, .int .i64 (f0.length : Int)), (17, .int .i64 (s : Int))]
abbrev punctualsame_Still_api_Come.B0 (K : Nat) (w0 : World) (f0 : List SCome) (A0 : Option Addr) (n0 : Nat) (c0 : Nat) (l1 : List SCome) (A1 : Option Addr) (c1 : Nat) (x2 : SCome) (hR0 : RdL w0 A0 f0) (hc0 : f0.length ≤ c0) (hR1 : RdL w0 A1 l1) (hL1 : l1.length ≤ c1) (b1 : Nat) (hc1 : (IntKind.i64.wrap ((l1.length : Int) + 3)) = (f0.length : Int)) : (Unit ⊕ Bool) → Exit → Act → World → Prop := Exits 0 (fun (s : Unit) a w => St w0 w [] ∧ Frm 46 a []) (Rets Tryd.prog Tryd.f30 (punctualsame_Still_api_Come.Post w0))
theorem punctualsame_Still_api_Come_r0 (K : Nat) (w0 : World) (f0 : List SCome) (A0 : Option Addr) (n0 : Nat) (c0 : Nat) (l1 : List SCome) (A1 : Option Addr) (c1 : Nat) (x2 : SCome) (hR0 : RdL w0 A0 f0) (hc0 : f0.length ≤ c0) (hR1 : RdL w0 A1 l1) (hL1 : l1.length ≤ c1) (b1 : Nat) (hc1 : (IntKind.i64.wrap ((l1.length : Int) + 3)) = (f0.length : Int)) (s : Nat) (o : Nat ⊕ (Unit ⊕ Bool)) (h : punctualsame_Still_api_Come.r0 f0 l1 x2 s = some o) (a : Act) (w : World) (hA : punctualsame_Still_api_Come.A0 K w0 f0 A0 n0 c0 l1 A1 c1 x2 hR0 hc0 hR1 hL1 b1 hc1 s a w) (Q : Exit → Act → World → Prop) (hQ : ∀ x a w, Outs (punctualsame_Still_api_Come.A0 K w0 f0 A0 n0 c0 l1 A1 c1 x2 hR0 hc0 hR1 hL1 b1 hc1) (punctualsame_Still_api_Come.B0 K w0 f0 A0 n0 c0 l1 A1 c1 x2 hR0 hc0 hR1 hL1 b1 hc1) o x a w → Q x a w) : (subF Tryd.f30 [1, 1, 0, 1, 0, 0]).wp Tryd.prog Q a w := by
  obtain ⟨i1, hs⟩ : ∃ z, z = s := ⟨s, rfl⟩
  subst hs
  obtain ⟨hS, hF⟩ := hA
  replace hS : St w0 w [Own.blk b1 (.cells #[.int .i64 x2.Task, .int .i64 x2.At] 53 (0, 0))] := hS
  simp only [punctualsame_Still_api_Come.r0] at h
  refine (?_ : WE Tryd.prog 46 (subF Tryd.f30 [1, 1, 0, 1, 0, 0]) Q [(1, .slice A1 l1.length c1), (5, .pointer (some ⟨b1, 0, none⟩)), (15, .slice A0 f0.length c0), (16, .int .i64 (f0.length : Int)), (17, .int .i64 (i1 : Int))] w) a hF
  clear hF a
  refine we_seq fun K5 hK5 => ?_
  refine we_region [(0, 0)] rfl ?_
  refine ge_batch [0] (ans := []) (vs := [(18, .bool (decide ((i1 : Int) < (f0.length : Int))))]) (l := []) (by kernel_rfl) trivial ?_
  refine ge_nil fun a hF => hK5 _ _ ?_ a hF
  refine we_seq fun K6 hK6 => ?_
  by_cases hc2 : (i1 : Int) < (f0.length : Int)
  · rw [if_pos hc2] at h
    refine we_known (t := 18) (b := decide ((i1 : Int) < (f0.length : Int))) (v := true) (by kernel_rfl) (decide_eq_true hc2) ?_
    refine we_true (by kernel_rfl) ?_
    refine we_skip fun a hF => hK6 _ _ ?_ a hF
    refine we_seq fun K7 hK7 => ?_
    refine we_block ?_
    refine we_seq fun K8 hK8 => ?_
    refine we_region [(0, 0), (1, 0), (2, 0), (3, 1), (4, 0), (5, 2)] rfl ?_
    refine ge_batch [0] (ans := []) (vs := [(19, .int .i64 (i1 : Int))]) (l := []) (by kernel_rfl) trivial ?_
    rcases hx2 : f0[i1]? with _ | e1
    · rw [hx2] at h; cases h
    rw [hx2] at h
    simp only [] at h
    refine ge_index (d := 20) (ty := 0) (t := 49) (el := 53) (sz := 2) (m := f0.length) (c := c0) (x := (.tmp 15)) (y := (.tmp 17)) (A := A0) (k' := .i64) (j := (i1 : Int)) (jn := i1) (b0 := blkOf A0) (o0 := offOf A0) (by kernel_rfl) (by kernel_rfl) (by kernel_rfl) (by kernel_rfl) (by kernel_rfl) ((hS.rd hR0).eqSome (pos_of_get hx2)) rfl (lt_of_get hx2) ?_
    refine ge_batch [2] (ans := [.val (.int .i64 e1.Task), .val (.int .i64 e1.At)]) (vs := [(21, .agg #[.int .i64 e1.Task, .int .i64 e1.At])]) (l := [.loaded ⟨blkOf A0, offOf A0 + i1 * 2, none⟩ (.int .i64 e1.Task), .loaded ⟨blkOf A0, offOf A0 + i1 * 2 + 1, none⟩ (.int .i64 e1.At)]) (by kernel_rfl) ⟨RdL.cell (j := 0) (hS.rd hR0) hx2 rfl, RdL.cell (j := 1) (hS.rd hR0) hx2 rfl, trivial⟩ ?_
    refine ge_new (d := some 9) (o := .cells #[.int .i64 0, .int .i64 0] 53) (v := fun b => .pointer (some ⟨b, 0, none⟩)) hS (fun b => by kernel_rfl) fun b2 w2 hx3 hS2 => ?_
    refine ge_batch [4] (ans := []) (vs := [(8, .int .i64 (i1 : Int))]) (l := []) (by kernel_rfl) trivial ?_
    refine ge_set (b := b2) (j := 0) (cs := #[.int .i64 0, .int .i64 0]) (t := 53) (vs := [.int .i64 e1.Task, .int .i64 e1.At]) hS2 (by kernel_rfl) rfl rfl fun w3 hS3 => ?_
    have hS4 : St w0 w3 [Own.blk b2 (.cells #[.int .i64 e1.Task, .int .i64 e1.At] 53 (0, 0)), Own.blk b1 (.cells #[.int .i64 x2.Task, .int .i64 x2.At] 53 (0, 0))] := hS3
    refine ge_nil fun a hF => hK8 _ _ ?_ a hF
    refine we_seq fun K9 hK9 => ?_
    refine we_draws (by kernel_rfl) [(0, 0), (1, 0), (2, 0), (3, 0), (4, 0), (5, 0), (6, 0), (7, 0), (8, 0), (9, 0), (10, 0), (11, 0), (12, 0), (13, 0), (14, 0), (15, 0), (16, 0), (17, 0), (18, 0), (19, 0), (20, 0), (21, 0), (22, 0)] (by kernel_rfl) ?_
    have hS5 := hS4.drew
    refine ge_batch [0, 1, 2, 3, 4] (ans := []) (vs := [(26, .bool (decide ((i1 : Int) < (l1.length : Int)))), (25, .bool (decide ((i1 : Int) < (l1.length : Int)))), (24, .int .i64 (l1.length : Int)), (23, .slice A1 l1.length c1), (22, .int .i64 (i1 : Int))]) (l := []) (by kernel_rfl) trivial ?_
    by_cases hc3 : (i1 : Int) < (l1.length : Int)
    · rw [if_pos hc3] at h
      refine ge_known (t := 26) (b := decide ((i1 : Int) < (l1.length : Int))) (c := true) (by kernel_rfl) (decide_eq_true hc3) ?_
      refine ge_batch [5, 6, 7] (ans := [.val (.int .i64 e1.Task), .val (.int .i64 e1.At)]) (vs := [(29, .int .i64 (i1 : Int)), (28, .slice A1 l1.length c1), (27, .agg #[.int .i64 e1.Task, .int .i64 e1.At])]) (l := [.loaded ⟨b2, 0, none⟩ (.int .i64 e1.Task), .loaded ⟨b2, 1, none⟩ (.int .i64 e1.At)]) (by kernel_rfl) ⟨hS5.cell 0 rfl rfl, hS5.cell 0 rfl rfl, trivial⟩ ?_
      rcases hx4 : l1[i1]? with _ | e2
      · rw [hx4] at h; cases h
      rw [hx4] at h
      simp only [] at h
      refine ge_index (d := 30) (ty := 0) (t := 49) (el := 53) (sz := 2) (m := l1.length) (c := c1) (x := (.tmp 28)) (y := (.tmp 29)) (A := A1) (k' := .i64) (j := (i1 : Int)) (jn := i1) (b0 := blkOf A1) (o0 := offOf A1) (by kernel_rfl) (by kernel_rfl) (by kernel_rfl) (by kernel_rfl) (by kernel_rfl) ((hS5.rd hR1).eqSome (pos_of_get hx4)) rfl (lt_of_get hx4) ?_
      refine ge_batch [9] (ans := [.val (.int .i64 e2.Task), .val (.int .i64 e2.At)]) (vs := [(31, .agg #[.int .i64 e2.Task, .int .i64 e2.At])]) (l := [.loaded ⟨blkOf A1, offOf A1 + i1 * 2, none⟩ (.int .i64 e2.Task), .loaded ⟨blkOf A1, offOf A1 + i1 * 2 + 1, none⟩ (.int .i64 e2.At)]) (by kernel_rfl) ⟨RdL.cell (j := 0) (hS5.rd hR1) hx4 rfl, RdL.cell (j := 1) (hS5.rd hR1) hx4 rfl, trivial⟩ ?_
      refine ge_eqs (d := 32) (ty := 4) (op := .neq) (x := (.tmp 27)) (y := (.tmp 31)) (t := 53) (t2 := 53) (xs := #[.int .i64 e1.Task, .int .i64 e1.At]) (ys := #[.int .i64 e2.Task, .int .i64 e2.At]) (r := (SCome.eqb e1 e2)) (v := !(SCome.eqb e1 e2)) (by kernel_rfl) (by kernel_rfl) (by kernel_rfl) (by kernel_rfl) (by kernel_rfl) rfl ?_
      refine ge_batch [11, 12] (ans := []) (vs := [(34, .bool (!(SCome.eqb e1 e2))), (33, .bool (!(SCome.eqb e1 e2)))]) (l := []) (by kernel_rfl) trivial ?_
      by_cases hc4 : (SCome.eqb e1 e2) = true
      · rw [if_pos hc4] at h
        refine ge_known (t := 34) (b := !(SCome.eqb e1 e2)) (c := false) (by kernel_rfl) (congrArg (fun z => !z) hc4) ?_
        refine ge_batch [13, 14, 15, 16, 17] (ans := []) (vs := [(39, .bool (decide ((i1 : Int) ≥ (l1.length : Int)))), (38, .bool (decide ((i1 : Int) ≥ (l1.length : Int)))), (37, .int .i64 (l1.length : Int)), (36, .slice A1 l1.length c1), (35, .int .i64 (i1 : Int))]) (l := []) (by kernel_rfl) trivial ?_
        by_cases hc5 : (i1 : Int) ≥ (l1.length : Int)
        · rw [if_pos hc5] at h
          refine ge_known (t := 39) (b := decide ((i1 : Int) ≥ (l1.length : Int))) (c := true) (by kernel_rfl) (decide_eq_true hc5) ?_
          refine ge_batch [18, 19] (ans := [.val (.int .i64 e1.Task), .val (.int .i64 e1.At), .val (.int .i64 x2.Task), .val (.int .i64 x2.At)]) (vs := [(41, .agg #[.int .i64 x2.Task, .int .i64 x2.At]), (40, .agg #[.int .i64 e1.Task, .int .i64 e1.At])]) (l := [.loaded ⟨b2, 0, none⟩ (.int .i64 e1.Task), .loaded ⟨b2, 1, none⟩ (.int .i64 e1.At), .loaded ⟨b1, 0, none⟩ (.int .i64 x2.Task), .loaded ⟨b1, 1, none⟩ (.int .i64 x2.At)]) (by kernel_rfl) ⟨hS5.cell 0 rfl rfl, hS5.cell 0 rfl rfl, hS5.cell 1 rfl rfl, hS5.cell 1 rfl rfl, trivial⟩ ?_
          refine ge_eqs (d := 42) (ty := 4) (op := .neq) (x := (.tmp 40)) (y := (.tmp 41)) (t := 53) (t2 := 53) (xs := #[.int .i64 e1.Task, .int .i64 e1.At]) (ys := #[.int .i64 x2.Task, .int .i64 x2.At]) (r := (SCome.eqb e1 x2)) (v := !(SCome.eqb e1 x2)) (by kernel_rfl) (by kernel_rfl) (by kernel_rfl) (by kernel_rfl) (by kernel_rfl) rfl ?_
          refine ge_batch [21, 22] (ans := []) (vs := [(44, .bool (!(SCome.eqb e1 x2))), (43, .bool (!(SCome.eqb e1 x2)))]) (l := []) (by kernel_rfl) trivial ?_
          refine ge_nil fun a hF => hK9 _ _ ?_ a hF
          by_cases hc6 : (SCome.eqb e1 x2) = true
          · rw [if_pos hc6] at h
            refine we_known (t := 44) (b := !(SCome.eqb e1 x2)) (v := false) (by kernel_rfl) (congrArg (fun z => !z) hc6) ?_
            refine we_false (by kernel_rfl) ?_
            refine we_skip fun a hF => hK7 _ _ ?_ a hF
            refine we_region [(0, 0), (1, 0)] rfl ?_
            refine ge_addn (d := 45) (ty := 3) (x := (.tmp 17)) (y := (.const (.int .i64 1))) (t := 3) (t2 := 3) (k := .i64) (m := i1) (by kernel_rfl) (by kernel_rfl) (by kernel_rfl) (by have h0 := hR0.small; omega) ?_
            refine ge_batch [1] (ans := []) (vs := [(17, .int .i64 ((i1 + 1 : Nat) : Int))]) (l := []) (by kernel_rfl) trivial ?_
            have hS6 := hS5.bring 1 rfl
            have hS7 := hS6.takeN 1
            obtain rfl := Option.some.inj h
            exact ge_nil fun a hF => hQ _ _ _ (Outs.again ⟨hS7, hF.weaken ⟨by kernel_rfl, by kernel_rfl, by kernel_rfl, by kernel_rfl, by kernel_rfl, trivial⟩⟩)
          · rw [if_neg hc6] at h
            refine we_known (t := 44) (b := !(SCome.eqb e1 x2)) (v := true) (by kernel_rfl) (congrArg (fun z => !z) (Bool.eq_false_iff.2 hc6)) ?_
            refine we_true (by kernel_rfl) ?_
            refine we_seq fun K10 hK10 => ?_
            refine we_region [(0, 0)] rfl ?_
            refine ge_batch [0] (ans := []) (vs := [(6, .bool false)]) (l := []) (by kernel_rfl) trivial ?_
            refine ge_nil fun a hF => hK10 _ _ ?_ a hF
            have hS8 := hS5.takeN 0
            obtain rfl := Option.some.inj h
            exact we_ret fun a hF => hQ _ _ _ (Outs.out nofun (Exits.on ⟨rfl, (post_ret (rs := [.tmp 6]) (ans := []) (vs := [.bool false]) (l := []) rfl (by kernel_rfl) trivial ⟨rfl, hS8⟩) a hF⟩))
        · rw [if_neg hc5] at h
          refine ge_known (t := 39) (b := decide ((i1 : Int) ≥ (l1.length : Int))) (c := false) (by kernel_rfl) (decide_eq_false hc5) ?_
          refine ge_batch [18, 19, 20, 21, 22] (ans := []) (vs := [(44, .bool false), (43, .bool false), (42, undef), (41, undef), (40, undef)]) (l := []) (by kernel_rfl) trivial ?_
          refine ge_nil fun a hF => hK9 _ _ ?_ a hF
          refine we_false (by kernel_rfl) ?_
          refine we_skip fun a hF => hK7 _ _ ?_ a hF
          refine we_region [(0, 0), (1, 0)] rfl ?_
          refine ge_addn (d := 45) (ty := 3) (x := (.tmp 17)) (y := (.const (.int .i64 1))) (t := 3) (t2 := 3) (k := .i64) (m := i1) (by kernel_rfl) (by kernel_rfl) (by kernel_rfl) (by have h0 := hR0.small; omega) ?_
          refine ge_batch [1] (ans := []) (vs := [(17, .int .i64 ((i1 + 1 : Nat) : Int))]) (l := []) (by kernel_rfl) trivial ?_
          have hS9 := hS5.bring 1 rfl
          have hS10 := hS9.takeN 1
          obtain rfl := Option.some.inj h
          exact ge_nil fun a hF => hQ _ _ _ (Outs.again ⟨hS10, hF.weaken ⟨by kernel_rfl, by kernel_rfl, by kernel_rfl, by kernel_rfl, by kernel_rfl, trivial⟩⟩)
      · rw [if_neg hc4] at h
        refine ge_known (t := 34) (b := !(SCome.eqb e1 e2)) (c := true) (by kernel_rfl) (congrArg (fun z => !z) (Bool.eq_false_iff.2 hc4)) ?_
        refine ge_batch [13, 14, 15, 16, 17, 18, 19, 20, 21, 22] (ans := []) (vs := [(44, .bool true), (43, undef), (42, undef), (41, undef), (40, undef), (39, undef), (38, undef), (37, undef), (36, undef), (35, undef)]) (l := []) (by kernel_rfl) trivial ?_
        refine ge_nil fun a hF => hK9 _ _ ?_ a hF
        refine we_true (by kernel_rfl) ?_
        refine we_seq fun K11 hK11 => ?_
        refine we_region [(0, 0)] rfl ?_
        refine ge_batch [0] (ans := []) (vs := [(6, .bool false)]) (l := []) (by kernel_rfl) trivial ?_
        refine ge_nil fun a hF => hK11 _ _ ?_ a hF
        have hS11 := hS5.takeN 0
        obtain rfl := Option.some.inj h
        exact we_ret fun a hF => hQ _ _ _ (Outs.out nofun (Exits.on ⟨rfl, (post_ret (rs := [.tmp 6]) (ans := []) (vs := [.bool false]) (l := []) rfl (by kernel_rfl) trivial ⟨rfl, hS11⟩) a hF⟩))
    · rw [if_neg hc3] at h
      refine ge_known (t := 26) (b := decide ((i1 : Int) < (l1.length : Int))) (c := false) (by kernel_rfl) (decide_eq_false hc3) ?_
      refine ge_batch [5, 6, 7, 8, 9, 10, 11, 12, 13, 14, 15, 16, 17] (ans := []) (vs := [(39, .bool (decide ((i1 : Int) ≥ (l1.length : Int)))), (38, .bool (decide ((i1 : Int) ≥ (l1.length : Int)))), (37, .int .i64 (l1.length : Int)), (36, .slice A1 l1.length c1), (35, .int .i64 (i1 : Int)), (34, .bool false), (33, .bool false), (32, undef), (31, undef), (30, undef), (29, undef), (28, undef), (27, undef)]) (l := []) (by kernel_rfl) trivial ?_
      by_cases hc7 : (i1 : Int) ≥ (l1.length : Int)
      · rw [if_pos hc7] at h
        refine ge_known (t := 39) (b := decide ((i1 : Int) ≥ (l1.length : Int))) (c := true) (by kernel_rfl) (decide_eq_true hc7) ?_
        refine ge_batch [18, 19] (ans := [.val (.int .i64 e1.Task), .val (.int .i64 e1.At), .val (.int .i64 x2.Task), .val (.int .i64 x2.At)]) (vs := [(41, .agg #[.int .i64 x2.Task, .int .i64 x2.At]), (40, .agg #[.int .i64 e1.Task, .int .i64 e1.At])]) (l := [.loaded ⟨b2, 0, none⟩ (.int .i64 e1.Task), .loaded ⟨b2, 1, none⟩ (.int .i64 e1.At), .loaded ⟨b1, 0, none⟩ (.int .i64 x2.Task), .loaded ⟨b1, 1, none⟩ (.int .i64 x2.At)]) (by kernel_rfl) ⟨hS5.cell 0 rfl rfl, hS5.cell 0 rfl rfl, hS5.cell 1 rfl rfl, hS5.cell 1 rfl rfl, trivial⟩ ?_
        refine ge_eqs (d := 42) (ty := 4) (op := .neq) (x := (.tmp 40)) (y := (.tmp 41)) (t := 53) (t2 := 53) (xs := #[.int .i64 e1.Task, .int .i64 e1.At]) (ys := #[.int .i64 x2.Task, .int .i64 x2.At]) (r := (SCome.eqb e1 x2)) (v := !(SCome.eqb e1 x2)) (by kernel_rfl) (by kernel_rfl) (by kernel_rfl) (by kernel_rfl) (by kernel_rfl) rfl ?_
        refine ge_batch [21, 22] (ans := []) (vs := [(44, .bool (!(SCome.eqb e1 x2))), (43, .bool (!(SCome.eqb e1 x2)))]) (l := []) (by kernel_rfl) trivial ?_
        refine ge_nil fun a hF => hK9 _ _ ?_ a hF
        by_cases hc8 : (SCome.eqb e1 x2) = true
        · rw [if_pos hc8] at h
          refine we_known (t := 44) (b := !(SCome.eqb e1 x2)) (v := false) (by kernel_rfl) (congrArg (fun z => !z) hc8) ?_
          refine we_false (by kernel_rfl) ?_
          refine we_skip fun a hF => hK7 _ _ ?_ a hF
          refine we_region [(0, 0), (1, 0)] rfl ?_
          refine ge_addn (d := 45) (ty := 3) (x := (.tmp 17)) (y := (.const (.int .i64 1))) (t := 3) (t2 := 3) (k := .i64) (m := i1) (by kernel_rfl) (by kernel_rfl) (by kernel_rfl) (by have h0 := hR0.small; omega) ?_
          refine ge_batch [1] (ans := []) (vs := [(17, .int .i64 ((i1 + 1 : Nat) : Int))]) (l := []) (by kernel_rfl) trivial ?_
          have hS12 := hS5.bring 1 rfl
          have hS13 := hS12.takeN 1
          obtain rfl := Option.some.inj h
          exact ge_nil fun a hF => hQ _ _ _ (Outs.again ⟨hS13, hF.weaken ⟨by kernel_rfl, by kernel_rfl, by kernel_rfl, by kernel_rfl, by kernel_rfl, trivial⟩⟩)
        · rw [if_neg hc8] at h
          refine we_known (t := 44) (b := !(SCome.eqb e1 x2)) (v := true) (by kernel_rfl) (congrArg (fun z => !z) (Bool.eq_false_iff.2 hc8)) ?_
          refine we_true (by kernel_rfl) ?_
          refine we_seq fun K12 hK12 => ?_
          refine we_region [(0, 0)] rfl ?_
          refine ge_batch [0] (ans := []) (vs := [(6, .bool false)]) (l := []) (by kernel_rfl) trivial ?_
          refine ge_nil fun a hF => hK12 _ _ ?_ a hF
          have hS14 := hS5.takeN 0
          obtain rfl := Option.some.inj h
          exact we_ret fun a hF => hQ _ _ _ (Outs.out nofun (Exits.on ⟨rfl, (post_ret (rs := [.tmp 6]) (ans := []) (vs := [.bool false]) (l := []) rfl (by kernel_rfl) trivial ⟨rfl, hS14⟩) a hF⟩))
      · rw [if_neg hc7] at h
        refine ge_known (t := 39) (b := decide ((i1 : Int) ≥ (l1.length : Int))) (c := false) (by kernel_rfl) (decide_eq_false hc7) ?_
        refine ge_batch [18, 19, 20, 21, 22] (ans := []) (vs := [(44, .bool false), (43, .bool false), (42, undef), (41, undef), (40, undef)]) (l := []) (by kernel_rfl) trivial ?_
        refine ge_nil fun a hF => hK9 _ _ ?_ a hF
        refine we_false (by kernel_rfl) ?_
        refine we_skip fun a hF => hK7 _ _ ?_ a hF
        refine we_region [(0, 0), (1, 0)] rfl ?_
        refine ge_addn (d := 45) (ty := 3) (x := (.tmp 17)) (y := (.const (.int .i64 1))) (t := 3) (t2 := 3) (k := .i64) (m := i1) (by kernel_rfl) (by kernel_rfl) (by kernel_rfl) (by have h0 := hR0.small; omega) ?_
        refine ge_batch [1] (ans := []) (vs := [(17, .int .i64 ((i1 + 1 : Nat) : Int))]) (l := []) (by kernel_rfl) trivial ?_
        have hS15 := hS5.bring 1 rfl
        have hS16 := hS15.takeN 1
        obtain rfl := Option.some.inj h
        exact ge_nil fun a hF => hQ _ _ _ (Outs.again ⟨hS16, hF.weaken ⟨by kernel_rfl, by kernel_rfl, by kernel_rfl, by kernel_rfl, by kernel_rfl, trivial⟩⟩)
  · rw [if_neg hc2] at h
    refine we_known (t := 18) (b := decide ((i1 : Int) < (f0.length : Int))) (v := false) (by kernel_rfl) (decide_eq_false hc2) ?_
    refine we_false (by kernel_rfl) ?_
    have hS17 := hS.takeN 0
    obtain rfl := Option.some.inj h
    exact we_exit fun a hF => hQ _ _ _ (Outs.out nofun (Exits.here ⟨hS17, hF.weaken trivial⟩))
theorem punctualsame_Still_api_Come_ok (K : Nat) (f0 : List SCome) (A0 : Option Addr) (n0 : Nat) (c0 : Nat) (l1 : List SCome) (A1 : Option Addr) (c1 : Nat) (x2 : SCome) (w0 : World) (hR0 : RdL w0 A0 f0) (hc0 : f0.length ≤ c0) (hR1 : RdL w0 A1 l1) (hL1 : l1.length ≤ c1) (r : Bool) (h : punctualsame_Still_api_Come.f K f0 l1 x2 = some r) :
    Calls Tryd.prog 30 #[.slice A0 n0 c0, .slice A1 l1.length c1, .agg #[.int .i64 x2.Task, .int .i64 x2.At]] w0 (punctualsame_Still_api_Come.Post w0 r) := by
  have hS := St.start w0
  unfold punctualsame_Still_api_Come.f at h
  refine calls_enter (n := 46) (args := [.slice A0 n0 c0, .slice A1 l1.length c1, .agg #[.int .i64 x2.Task, .int .i64 x2.At]]) (fn := Tryd.f30) rfl rfl rfl rfl ?_
  show WE _ _ _ _ [(0, .slice A0 n0 c0), (1, .slice A1 l1.length c1), (2, .agg #[.int .i64 x2.Task, .int .i64 x2.At])] _
  refine we_seq fun K1 hK1 => ?_
  refine we_region [(0, 1), (1, 0)] rfl ?_
  refine ge_new (d := some 5) (o := .cells #[.int .i64 x2.Task, .int .i64 x2.At] 53) (v := fun b => .pointer (some ⟨b, 0, none⟩)) hS (fun b => by kernel_rfl) fun b1 w1 hx1 hS1 => ?_
  refine ge_batch [1] (ans := []) (vs := [(6, .bool false)]) (l := []) (by kernel_rfl) trivial ?_
  refine ge_nil fun a hF => hK1 _ _ ?_ a hF
  refine we_seq fun K2 hK2 => ?_
  refine we_region [(0, 0), (1, 0), (2, 0), (3, 0), (4, 0), (5, 0)] rfl ?_
  refine ge_batch [0, 1, 2, 3] (ans := []) (vs := [(13, .int .i64 (IntKind.i64.wrap ((l1.length : Int) + 3))), (12, .int .i64 (l1.length : Int)), (11, .slice A1 l1.length c1), (10, .slice A0 n0 c0)]) (l := []) (by kernel_rfl) trivial ?_
  by_cases hc1 : (IntKind.i64.wrap ((l1.length : Int) + 3)) = (f0.length : Int)
  · rw [if_pos hc1] at h
    refine ge_sliceHi (d := 14) (ty := 49) (t := 49) (el := 53) (sz := 2) (m := n0) (c := c0) (hn := f0.length) (x := (.tmp 10)) (y := (.tmp 13)) (A := A0) (k' := .i64) (hi := (IntKind.i64.wrap ((l1.length : Int) + 3))) (by kernel_rfl) (by kernel_rfl) (by kernel_rfl) hc1 (by kernel_rfl) (by kernel_rfl) hc0 ?_
    refine ge_batch [5] (ans := []) (vs := [(7, .slice A0 f0.length c0)]) (l := []) (by kernel_rfl) trivial ?_
    refine ge_nil fun a hF => hK2 _ _ ?_ a hF
    refine we_seq fun K3 hK3 => ?_
    refine we_seq fun K4 hK4 => ?_
    refine we_region [(0, 0), (1, 0), (2, 0)] rfl ?_
    refine ge_batch [0, 1, 2] (ans := []) (vs := [(17, .int .i64 0), (16, .int .i64 (f0.length : Int)), (15, .slice A0 f0.length c0)]) (l := []) (by kernel_rfl) trivial ?_
    refine ge_nil fun a hF => hK4 _ _ ?_ a hF
    refine we_block ?_
    rcases hq1 : iter (punctualsame_Still_api_Come.r0 f0 l1 x2) K 0 with _ | (_ | rr1)
    · rw [hq1] at h; cases h
    · rw [hq1] at h
      simp only [] at h
      refine we_iter (A := punctualsame_Still_api_Come.A0 K w0 f0 A0 n0 c0 l1 A1 c1 x2 hR0 hc0 hR1 hL1 b1 hc1) (B := punctualsame_Still_api_Come.B0 K w0 f0 A0 n0 c0 l1 A1 c1 x2 hR0 hc0 hR1 hL1 b1 hc1) hq1 (fun a hF => ⟨hS1, hF.weaken ⟨by kernel_rfl, by kernel_rfl, by kernel_rfl, by kernel_rfl, by kernel_rfl, trivial⟩⟩) (fun s o hf a w hA Q hQ => punctualsame_Still_api_Come_r0 K w0 f0 A0 n0 c0 l1 A1 c1 x2 hR0 hc0 hR1 hL1 b1 hc1 s o hf a w hA Q hQ) ?_
      rintro _ a w4 _ ⟨rfl, hS18, hF⟩
      replace hS18 : St w0 w4 [] := hS18
      refine hK3 [] w4 ?_ a hF
      refine we_seq fun K13 hK13 => ?_
      refine we_region [(0, 0)] rfl ?_
      refine ge_batch [0] (ans := []) (vs := [(6, .bool true)]) (l := []) (by kernel_rfl) trivial ?_
      refine ge_nil fun a hF => hK13 _ _ ?_ a hF
      obtain rfl := Option.some.inj h
      exact we_ret (post_ret (rs := [.tmp 6]) (ans := []) (vs := [.bool true]) (l := []) rfl (by kernel_rfl) trivial ⟨rfl, hS18⟩)
    · rw [hq1] at h
      simp only [] at h
      refine we_iter (A := punctualsame_Still_api_Come.A0 K w0 f0 A0 n0 c0 l1 A1 c1 x2 hR0 hc0 hR1 hL1 b1 hc1) (B := punctualsame_Still_api_Come.B0 K w0 f0 A0 n0 c0 l1 A1 c1 x2 hR0 hc0 hR1 hL1 b1 hc1) hq1 (fun a hF => ⟨hS1, hF.weaken ⟨by kernel_rfl, by kernel_rfl, by kernel_rfl, by kernel_rfl, by kernel_rfl, trivial⟩⟩) (fun s o hf a w hA Q hQ => punctualsame_Still_api_Come_r0 K w0 f0 A0 n0 c0 l1 A1 c1 x2 hR0 hc0 hR1 hL1 b1 hc1 s o hf a w hA Q hQ) ?_
      rintro _ a w1 _ ⟨rfl, hb⟩
      obtain rfl := Option.some.inj h
      exact hb
  · rw [if_neg hc1] at h
    cases h

/-! punctual/punctuallaw.TasksComes -/
abbrev TasksComes.Post (w0 : World) (r : Bool) (e : Ending) (w : World) : Prop := e = .returned (.bool r) ∧ St w0 w []
def TasksComes.p0 (K : Nat) (r1 : (List SCome) × SFault) : Option (Unit ⊕ Bool) :=
    if r1.2.Code = 0 then
      match punctualsame_Same_api_Come.f K r1.1 ([(⟨0, 0⟩ : SCome), (⟨1, 0⟩ : SCome), (⟨2, 0⟩ : SCome), (⟨0, 4⟩ : SCome), (⟨1, 6⟩ : SCome)] : List SCome) with
      | none => none
      | some r2 =>
        if r2 = true then
          some (.inl ())
        else
          some (.inr false)
    else
      some (.inr false)
def TasksComes.p1 (l0 : List STask) (l2 : List SCome) : Option (Unit ⊕ Bool) :=
    if (few.f (l0.length : Int)) = true then
      if (few.f (l2.length : Int)) = true then
        some (.inl ())
      else
        some (.inr true)
    else
      some (.inr true)
def TasksComes.r2 (K : Nat) (l0 : List STask) (x1 : Int) (r5 : (List SCome) × SFault) : Nat → Option (Nat ⊕ (Unit ⊕ Bool))
  | i1 =>
    if (i1 : Int) < 2 then
      match tasks_Comes.f K l0 x1 with
      | none => none
      | some r6 =>
        if (SFault.eqb r6.2 r5.2) = true then
          match punctualsame_Same_api_Come.f K r6.1 r5.1 with
          | none => none
          | some r7 =>
            if r7 = true then
              some (.inl (i1 + 1))
            else
              some (.inr (.inr false))
        else
          some (.inr (.inr false))
    else
      some (.inr (.inl ()))
def TasksComes.f (K : Nat) (l0 : List STask) (x1 : Int) (l2 : List SCome) : Option Bool :=
  match tasks_Comes.f K three.f 7 with
  | none => none
  | some r1 =>
    match TasksComes.p0 K r1 with
    | none => none
    | some (.inl _) =>
      match TasksComes.p1 l0 l2 with
      | none => none
      | some (.inl _) =>
        match punctualsame_Lend_api_Task.f l0 (⟨⟨#[63]⟩, (-9), 0, 0, 0, 0, 0⟩ : STask) with
        | none => none
        | some _ =>
          match punctualsame_Lend_api_Come.f l2 (⟨(-9), 0⟩ : SCome) with
          | none => none
          | some _ =>
            match punctualref_Soon.f K l0 x1 with
            | none => none
            | some r5 =>
              match iter (TasksComes.r2 K l0 x1 r5) K 0 with
              | none => none
              | some (.inl _) =>
                if r5.2.Code = 0 then
                  match tasks_Legal.f K l0 r5.1 with
                  | none => none
                  | some r8 =>
                    if r8.Code = 0 then
                      match tasks_Legal.f K l0 l2 with
                      | none => none
                      | some r9 =>
                        match punctualref_Lawful.f K l0 l2 with
                        | none => none
                        | some r10 =>
                          if (SFault.eqb r9 r10) = true then
                            match punctualsame_Still_api_Task.f K (l0 ++ [(⟨⟨#[63]⟩, (-9), 0, 0, 0, 0, 0⟩ : STask), (⟨⟨#[63]⟩, (-9), 0, 0, 0, 0, 0⟩ : STask), (⟨⟨#[63]⟩, (-9), 0, 0, 0, 0, 0⟩ : STask)]) l0 (⟨⟨#[63]⟩, (-9), 0, 0, 0, 0, 0⟩ : STask) with
                            | none => none
                            | some r11 =>
                              if r11 = true then
                                match punctualsame_Still_api_Come.f K (l2 ++ [(⟨(-9), 0⟩ : SCome), (⟨(-9), 0⟩ : SCome), (⟨(-9), 0⟩ : SCome)]) l2 (⟨(-9), 0⟩ : SCome) with
                                | none => none
                                | some r12 =>
                                  some r12
                              else
                                some false
                          else
                            some false
                    else
                      some false
                else
                  match tasks_Legal.f K l0 l2 with
                  | none => none
                  | some r13 =>
                    match punctualref_Lawful.f K l0 l2 with
                    | none => none
                    | some r14 =>
                      if (SFault.eqb r13 r14) = true then
                        match punctualsame_Still_api_Task.f K (l0 ++ [(⟨⟨#[63]⟩, (-9), 0, 0, 0, 0, 0⟩ : STask), (⟨⟨#[63]⟩, (-9), 0, 0, 0, 0, 0⟩ : STask), (⟨⟨#[63]⟩, (-9), 0, 0, 0, 0, 0⟩ : STask)]) l0 (⟨⟨#[63]⟩, (-9), 0, 0, 0, 0, 0⟩ : STask) with
                        | none => none
                        | some r15 =>
                          if r15 = true then
                            match punctualsame_Still_api_Come.f K (l2 ++ [(⟨(-9), 0⟩ : SCome), (⟨(-9), 0⟩ : SCome), (⟨(-9), 0⟩ : SCome)]) l2 (⟨(-9), 0⟩ : SCome) with
                            | none => none
                            | some r16 =>
                              some r16
                          else
                            some false
                      else
                        some false
              | some (.inr rr1) =>
                some rr1
      | some (.inr rr2) =>
        some rr2
    | some (.inr rr3) =>
      some rr3
abbrev TasksComes.A0 (K : Nat) (w0 : World) (l0 : List STask) (A0 : Option Addr) (c0 : Nat) (x1 : Int) (l2 : List SCome) (A2 : Option Addr) (c2 : Nat) (hR0 : RdL w0 A0 l0) (hL0 : l0.length ≤ c0) (hR2 : RdL w0 A2 l2) (hL2 : l2.length ≤ c2) (hG1 : Glob w0 1 [.string (⟨#[63]⟩), .int .i64 (-9), .int .i64 0, .int .i64 0, .int .i64 0, .int .i64 0, .int .i64 0]) (hG2 : Glob w0 2 [.int .i64 (-9), .int .i64 0]) (Z1 : Option Addr) (cz1 : Nat) (r1 : (List SCome) × SFault) (b1 : Nat) (Z2 : Option Addr) (cz2 : Nat) : Unit → Act → World → Prop := fun (s : Unit) a w => St w0 w [] ∧ Frm 105 a [(0, .slice A0 l0.length c0), (1, .int .i64 x1), (2, .slice A2 l2.length c2)]
abbrev TasksComes.B0 (K : Nat) (w0 : World) (l0 : List STask) (A0 : Option Addr) (c0 : Nat) (x1 : Int) (l2 : List SCome) (A2 : Option Addr) (c2 : Nat) (hR0 : RdL w0 A0 l0) (hL0 : l0.length ≤ c0) (hR2 : RdL w0 A2 l2) (hL2 : l2.length ≤ c2) (hG1 : Glob w0 1 [.string (⟨#[63]⟩), .int .i64 (-9), .int .i64 0, .int .i64 0, .int .i64 0, .int .i64 0, .int .i64 0]) (hG2 : Glob w0 2 [.int .i64 (-9), .int .i64 0]) (Z1 : Option Addr) (cz1 : Nat) (r1 : (List SCome) × SFault) (b1 : Nat) (Z2 : Option Addr) (cz2 : Nat) : Bool → Exit → Act → World → Prop := Rets Tryd.prog Tryd.f8 (TasksComes.Post w0)
theorem TasksComes_p0 (K : Nat) (w0 : World) (l0 : List STask) (A0 : Option Addr) (c0 : Nat) (x1 : Int) (l2 : List SCome) (A2 : Option Addr) (c2 : Nat) (hR0 : RdL w0 A0 l0) (hL0 : l0.length ≤ c0) (hR2 : RdL w0 A2 l2) (hL2 : l2.length ≤ c2) (hG1 : Glob w0 1 [.string (⟨#[63]⟩), .int .i64 (-9), .int .i64 0, .int .i64 0, .int .i64 0, .int .i64 0, .int .i64 0]) (hG2 : Glob w0 2 [.int .i64 (-9), .int .i64 0]) (Z1 : Option Addr) (cz1 : Nat) (r1 : (List SCome) × SFault) (b1 : Nat) (Z2 : Option Addr) (cz2 : Nat) (o : Unit ⊕ Bool) (h : TasksComes.p0 K r1 = some o) (w : World) (hS : St w0 w [Own.blk b1 (.cells #[.int .i64 r1.2.Code, .int .i64 r1.2.At] 26 (0, 0)), Own.of (.slice Z2 r1.1.length cz2) 53 r1.1, Own.of (.slice Z1 three.f.length cz1) 46 three.f]) (Q : Exit → Act → World → Prop) (hQ : ∀ x a w, Outs (TasksComes.A0 K w0 l0 A0 c0 x1 l2 A2 c2 hR0 hL0 hR2 hL2 hG1 hG2 Z1 cz1 r1 b1 Z2 cz2) (TasksComes.B0 K w0 l0 A0 c0 x1 l2 A2 c2 hR0 hL0 hR2 hL2 hG1 hG2 Z1 cz1 r1 b1 Z2 cz2) o x a w → Q x a w) : WE Tryd.prog 105 (subF Tryd.f8 [1, 1, 0]) Q [(0, .slice A0 l0.length c0), (1, .int .i64 x1), (2, .slice A2 l2.length c2), (6, .bool false), (7, (.slice Z2 r1.1.length cz2)), (8, .pointer (some ⟨b1, 0, none⟩)), (15, .tuple #[(.slice Z2 r1.1.length cz2), .agg #[.int .i64 r1.2.Code, .int .i64 r1.2.At]]), (16, (.slice Z1 three.f.length cz1)), (17, .tuple #[(.slice Z2 r1.1.length cz2), .agg #[.int .i64 r1.2.Code, .int .i64 r1.2.At]]), (18, (.slice Z2 r1.1.length cz2)), (19, .agg #[.int .i64 r1.2.Code, .int .i64 r1.2.At])] w := by
  simp only [TasksComes.p0] at h
  refine we_seq fun K4 hK4 => ?_
  refine we_region [(0, 0), (1, 0), (2, 0), (3, 0), (4, 0), (5, 0), (6, 0), (7, 0), (8, 0), (9, 0), (10, 1), (11, 1), (12, 0), (13, 0)] rfl ?_
  refine ge_batch [0, 1, 2, 3] (ans := [.val (.int .i64 r1.2.Code)]) (vs := [(23, .bool (r1.2.Code != 0)), (22, .bool (r1.2.Code != 0)), (21, .int .i64 r1.2.Code), (20, .pointer (some ⟨b1, 0, none⟩))]) (l := [.loaded ⟨b1, 0, none⟩ (.int .i64 r1.2.Code)]) (by kernel_rfl) ⟨hS.cell 0 rfl rfl, trivial⟩ ?_
  by_cases hc1 : r1.2.Code = 0
  · rw [if_pos hc1] at h
    refine ge_known (t := 23) (b := (r1.2.Code != 0)) (c := false) (by kernel_rfl) (bne_eq_false_iff_eq.2 hc1) ?_
    refine ge_batch [4, 5, 6, 7, 8, 9] (ans := []) (vs := [(29, .agg #[.int .i64 1, .int .i64 6]), (28, .agg #[.int .i64 0, .int .i64 4]), (27, .agg #[.int .i64 2, .int .i64 0]), (26, .agg #[.int .i64 1, .int .i64 0]), (25, .agg #[.int .i64 0, .int .i64 0]), (24, (.slice Z2 r1.1.length cz2))]) (l := []) (by kernel_rfl) trivial ?_
    refine ge_new (d := some 30) (o := .cells #[.int .i64 0, .int .i64 0, .int .i64 1, .int .i64 0, .int .i64 2, .int .i64 0, .int .i64 0, .int .i64 4, .int .i64 1, .int .i64 6] 53) (v := fun b => .slice (some ⟨b, 0, none⟩) 5 5) hS (fun b => by kernel_rfl) fun b2 w5 hx2 hS8 => ?_
    rcases hq3 : punctualsame_Same_api_Come.f K r1.1 ([(⟨0, 0⟩ : SCome), (⟨1, 0⟩ : SCome), (⟨2, 0⟩ : SCome), (⟨0, 4⟩ : SCome), (⟨1, 6⟩ : SCome)] : List SCome) with _ | r2
    · rw [hq3] at h; cases h
    rw [hq3] at h
    simp only [] at h
    refine ge_call (d := some 31) (f := 45) (args := #[(.slice Z2 r1.1.length cz2), .slice (some ⟨b2, 0, none⟩) 5 5]) (by kernel_rfl) (punctualsame_Same_api_Come_ok K r1.1 Z2 cz2 ([(⟨0, 0⟩ : SCome), (⟨1, 0⟩ : SCome), (⟨2, 0⟩ : SCome), (⟨0, 4⟩ : SCome), (⟨1, 6⟩ : SCome)] : List SCome) (some ⟨b2, 0, none⟩) 5 _ (hS8.rdAt 2 rfl) (hS8.capAt 2 rfl) (hS8.rdBlk 0 ([(⟨0, 0⟩ : SCome), (⟨1, 0⟩ : SCome), (⟨2, 0⟩ : SCome), (⟨0, 4⟩ : SCome), (⟨1, 6⟩ : SCome)] : List SCome) rfl rfl rfl) (Nat.le_refl _) _ hq3) ?_
    rintro _ w6 ⟨rfl, hS9⟩
    refine ⟨_, rfl, hS9.below, ?_⟩
    have hS10 := hS8.call hS9
    refine ge_batch [12, 13] (ans := []) (vs := [(33, .bool (!r2)), (32, .bool (!r2))]) (l := []) (by kernel_rfl) trivial ?_
    refine ge_nil fun a hF => hK4 _ _ ?_ a hF
    by_cases hc2 : r2 = true
    · rw [if_pos hc2] at h
      refine we_known (t := 33) (b := !r2) (v := false) (by kernel_rfl) (congrArg (fun z => !z) hc2) ?_
      refine we_false (by kernel_rfl) ?_
      have hS11 := hS10.takeN 0
      obtain rfl := Option.some.inj h
      exact we_skip fun a hF => hQ _ _ _ (Outs.again ⟨hS11, hF.weaken ⟨by kernel_rfl, by kernel_rfl, by kernel_rfl, trivial⟩⟩)
    · rw [if_neg hc2] at h
      refine we_known (t := 33) (b := !r2) (v := true) (by kernel_rfl) (congrArg (fun z => !z) (Bool.eq_false_iff.2 hc2)) ?_
      refine we_true (by kernel_rfl) ?_
      refine we_seq fun K5 hK5 => ?_
      refine we_region [(0, 0)] rfl ?_
      refine ge_batch [0] (ans := []) (vs := [(6, .bool false)]) (l := []) (by kernel_rfl) trivial ?_
      refine ge_nil fun a hF => hK5 _ _ ?_ a hF
      have hS12 := hS10.takeN 0
      obtain rfl := Option.some.inj h
      exact we_ret fun a hF => hQ _ _ _ (Outs.out nofun ⟨rfl, (post_ret (rs := [.tmp 6]) (ans := []) (vs := [.bool false]) (l := []) rfl (by kernel_rfl) trivial ⟨rfl, hS12⟩) a hF⟩)
  · rw [if_neg hc1] at h
    refine ge_known (t := 23) (b := (r1.2.Code != 0)) (c := true) (by kernel_rfl) (bne_iff_ne.2 hc1) ?_
    refine ge_batch [4, 5, 6, 7, 8, 9] (ans := []) (vs := [(29, undef), (28, undef), (27, undef), (26, undef), (25, undef), (24, undef)]) (l := []) (by kernel_rfl) trivial ?_
    refine ge_off rfl rfl rfl (by kernel_rfl) ?_
    refine ge_off rfl rfl rfl (by kernel_rfl) ?_
    refine ge_batch [12, 13] (ans := []) (vs := [(33, .bool true), (32, undef)]) (l := []) (by kernel_rfl) trivial ?_
    refine ge_nil fun a hF => hK4 _ _ ?_ a hF
    refine we_true (by kernel_rfl) ?_
    refine we_seq fun K6 hK6 => ?_
    refine we_region [(0, 0)] rfl ?_
    refine ge_batch [0] (ans := []) (vs := [(6, .bool false)]) (l := []) (by kernel_rfl) trivial ?_
    refine ge_nil fun a hF => hK6 _ _ ?_ a hF
    have hS13 := hS.takeN 0
    obtain rfl := Option.some.inj h
    exact we_ret fun a hF => hQ _ _ _ (Outs.out nofun ⟨rfl, (post_ret (rs := [.tmp 6]) (ans := []) (vs := [.bool false]) (l := []) rfl (by kernel_rfl) trivial ⟨rfl, hS13⟩) a hF⟩)
abbrev TasksComes.A1 (K : Nat) (w0 : World) (l0 : List STask) (A0 : Option Addr) (c0 : Nat) (x1 : Int) (l2 : List SCome) (A2 : Option Addr) (c2 : Nat) (hR0 : RdL w0 A0 l0) (hL0 : l0.length ≤ c0) (hR2 : RdL w0 A2 l2) (hL2 : l2.length ≤ c2) (hG1 : Glob w0 1 [.string (⟨#[63]⟩), .int .i64 (-9), .int .i64 0, .int .i64 0, .int .i64 0, .int .i64 0, .int .i64 0]) (hG2 : Glob w0 2 [.int .i64 (-9), .int .i64 0]) (Z1 : Option Addr) (cz1 : Nat) (r1 : (List SCome) × SFault) (b1 : Nat) (Z2 : Option Addr) (cz2 : Nat) : Unit → Act → World → Prop := fun (s : Unit) a w => St w0 w [] ∧ Frm 105 a [(0, .slice A0 l0.length c0), (1, .int .i64 x1), (2, .slice A2 l2.length c2)]
abbrev TasksComes.B1 (K : Nat) (w0 : World) (l0 : List STask) (A0 : Option Addr) (c0 : Nat) (x1 : Int) (l2 : List SCome) (A2 : Option Addr) (c2 : Nat) (hR0 : RdL w0 A0 l0) (hL0 : l0.length ≤ c0) (hR2 : RdL w0 A2 l2) (hL2 : l2.length ≤ c2) (hG1 : Glob w0 1 [.string (⟨#[63]⟩), .int .i64 (-9), .int .i64 0, .int .i64 0, .int .i64 0, .int .i64 0, .int .i64 0]) (hG2 : Glob w0 2 [.int .i64 (-9), .int .i64 0]) (Z1 : Option Addr) (cz1 : Nat) (r1 : (List SCome) × SFault) (b1 : Nat) (Z2 : Option Addr) (cz2 : Nat) : Bool → Exit → Act → World → Prop := Rets Tryd.prog Tryd.f8 (TasksComes.Post w0)
theorem TasksComes_p1 (K : Nat) (w0 : World) (l0 : List STask) (A0 : Option Addr) (c0 : Nat) (x1 : Int) (l2 : List SCome) (A2 : Option Addr) (c2 : Nat) (hR0 : RdL w0 A0 l0) (hL0 : l0.length ≤ c0) (hR2 : RdL w0 A2 l2) (hL2 : l2.length ≤ c2) (hG1 : Glob w0 1 [.string (⟨#[63]⟩), .int .i64 (-9), .int .i64 0, .int .i64 0, .int .i64 0, .int .i64 0, .int .i64 0]) (hG2 : Glob w0 2 [.int .i64 (-9), .int .i64 0]) (Z1 : Option Addr) (cz1 : Nat) (r1 : (List SCome) × SFault) (b1 : Nat) (Z2 : Option Addr) (cz2 : Nat) (o : Unit ⊕ Bool) (h : TasksComes.p1 l0 l2 = some o) (w : World) (hS : St w0 w []) (Q : Exit → Act → World → Prop) (hQ : ∀ x a w, Outs (TasksComes.A1 K w0 l0 A0 c0 x1 l2 A2 c2 hR0 hL0 hR2 hL2 hG1 hG2 Z1 cz1 r1 b1 Z2 cz2) (TasksComes.B1 K w0 l0 A0 c0 x1 l2 A2 c2 hR0 hL0 hR2 hL2 hG1 hG2 Z1 cz1 r1 b1 Z2 cz2) o x a w → Q x a w) : WE Tryd.prog 105 (subF Tryd.f8 [1, 1, 1, 0]) Q [(0, .slice A0 l0.length c0), (1, .int .i64 x1), (2, .slice A2 l2.length c2)] w := by
  simp only [TasksComes.p1] at h
  refine we_seq fun K8 hK8 => ?_
  refine we_region [(0, 0), (1, 0), (2, 1), (3, 0), (4, 0), (5, 0), (6, 0), (7, 1), (8, 0), (9, 0)] rfl ?_
  refine ge_batch [0, 1] (ans := []) (vs := [(35, .int .i64 (l0.length : Int)), (34, .slice A0 l0.length c0)]) (l := []) (by kernel_rfl) trivial ?_
  refine ge_call (d := some 36) (f := 13) (args := #[.int .i64 (l0.length : Int)]) (by kernel_rfl) (few_ok (l0.length : Int) _ _ rfl) ?_
  rintro _ w8 ⟨rfl, hS15⟩
  refine ⟨_, rfl, hS15.below, ?_⟩
  have hS16 := hS.call hS15
  refine ge_batch [3, 4] (ans := []) (vs := [(38, .bool (!(few.f (l0.length : Int)))), (37, .bool (!(few.f (l0.length : Int))))]) (l := []) (by kernel_rfl) trivial ?_
  by_cases hc3 : (few.f (l0.length : Int)) = true
  · rw [if_pos hc3] at h
    refine ge_known (t := 38) (b := !(few.f (l0.length : Int))) (c := false) (by kernel_rfl) (congrArg (fun z => !z) hc3) ?_
    refine ge_batch [5, 6] (ans := []) (vs := [(40, .int .i64 (l2.length : Int)), (39, .slice A2 l2.length c2)]) (l := []) (by kernel_rfl) trivial ?_
    refine ge_call (d := some 41) (f := 13) (args := #[.int .i64 (l2.length : Int)]) (by kernel_rfl) (few_ok (l2.length : Int) _ _ rfl) ?_
    rintro _ w9 ⟨rfl, hS17⟩
    refine ⟨_, rfl, hS17.below, ?_⟩
    have hS18 := hS16.call hS17
    refine ge_batch [8, 9] (ans := []) (vs := [(43, .bool (!(few.f (l2.length : Int)))), (42, .bool (!(few.f (l2.length : Int))))]) (l := []) (by kernel_rfl) trivial ?_
    refine ge_nil fun a hF => hK8 _ _ ?_ a hF
    by_cases hc4 : (few.f (l2.length : Int)) = true
    · rw [if_pos hc4] at h
      refine we_known (t := 43) (b := !(few.f (l2.length : Int))) (v := false) (by kernel_rfl) (congrArg (fun z => !z) hc4) ?_
      refine we_false (by kernel_rfl) ?_
      obtain rfl := Option.some.inj h
      exact we_skip fun a hF => hQ _ _ _ (Outs.again ⟨hS18, hF.weaken ⟨by kernel_rfl, by kernel_rfl, by kernel_rfl, trivial⟩⟩)
    · rw [if_neg hc4] at h
      refine we_known (t := 43) (b := !(few.f (l2.length : Int))) (v := true) (by kernel_rfl) (congrArg (fun z => !z) (Bool.eq_false_iff.2 hc4)) ?_
      refine we_true (by kernel_rfl) ?_
      refine we_seq fun K9 hK9 => ?_
      refine we_region [(0, 0)] rfl ?_
      refine ge_batch [0] (ans := []) (vs := [(6, .bool true)]) (l := []) (by kernel_rfl) trivial ?_
      refine ge_nil fun a hF => hK9 _ _ ?_ a hF
      obtain rfl := Option.some.inj h
      exact we_ret fun a hF => hQ _ _ _ (Outs.out nofun ⟨rfl, (post_ret (rs := [.tmp 6]) (ans := []) (vs := [.bool true]) (l := []) rfl (by kernel_rfl) trivial ⟨rfl, hS18⟩) a hF⟩)
  · rw [if_neg hc3] at h
    refine ge_known (t := 38) (b := !(few.f (l0.length : Int))) (c := true) (by kernel_rfl) (congrArg (fun z => !z) (Bool.eq_false_iff.2 hc3)) ?_
    refine ge_batch [5, 6] (ans := []) (vs := [(40, undef), (39, undef)]) (l := []) (by kernel_rfl) trivial ?_
    refine ge_off rfl rfl rfl (by kernel_rfl) ?_
    refine ge_batch [8, 9] (ans := []) (vs := [(43, .bool true), (42, undef)]) (l := []) (by kernel_rfl) trivial ?_
    refine ge_nil fun a hF => hK8 _ _ ?_ a hF
    refine we_true (by kernel_rfl) ?_
    refine we_seq fun K10 hK10 => ?_
    refine we_region [(0, 0)] rfl ?_
    refine ge_batch [0] (ans := []) (vs := [(6, .bool true)]) (l := []) (by kernel_rfl) trivial ?_
    refine ge_nil fun a hF => hK10 _ _ ?_ a hF
    obtain rfl := Option.some.inj h
    exact we_ret fun a hF => hQ _ _ _ (Outs.out nofun ⟨rfl, (post_ret (rs := [.tmp 6]) (ans := []) (vs := [.bool true]) (l := []) rfl (by kernel_rfl) trivial ⟨rfl, hS16⟩) a hF⟩)
abbrev TasksComes.A2 (K : Nat) (w0 : World) (l0 : List STask) (A0 : Option Addr) (c0 : Nat) (x1 : Int) (l2 : List SCome) (A2 : Option Addr) (c2 : Nat) (hR0 : RdL w0 A0 l0) (hL0 : l0.length ≤ c0) (hR2 : RdL w0 A2 l2) (hL2 : l2.length ≤ c2) (hG1 : Glob w0 1 [.string (⟨#[63]⟩), .int .i64 (-9), .int .i64 0, .int .i64 0, .int .i64 0, .int .i64 0, .int .i64 0]) (hG2 : Glob w0 2 [.int .i64 (-9), .int .i64 0]) (Z1 : Option Addr) (cz1 : Nat) (r1 : (List SCome) × SFault) (b1 : Nat) (Z2 : Option Addr) (cz2 : Nat) (Z3 : Option Addr) (cz3 : Nat) (hcp1 : (l0 ++ [(⟨⟨#[63]⟩, (-9), 0, 0, 0, 0, 0⟩ : STask), (⟨⟨#[63]⟩, (-9), 0, 0, 0, 0, 0⟩ : STask), (⟨⟨#[63]⟩, (-9), 0, 0, 0, 0, 0⟩ : STask)]).length ≤ cz3) (Z4 : Option Addr) (cz4 : Nat) (hcp2 : (l2 ++ [(⟨(-9), 0⟩ : SCome), (⟨(-9), 0⟩ : SCome), (⟨(-9), 0⟩ : SCome)]).length ≤ cz4) (r5 : (List SCome) × SFault) (b3 : Nat) (Z5 : Option Addr) (cz5 : Nat) : Nat → Act → World → Prop := fun (s : Nat) a w => St w0 w [Own.blk b3 (.cells #[.int .i64 r5.2.Code, .int .i64 r5.2.At] 26 (0, 0)), Own.of (.slice Z3 (l0 ++ [(⟨⟨#[63]⟩, (-9), 0, 0, 0, 0, 0⟩ : STask), (⟨⟨#[63]⟩, (-9), 0, 0, 0, 0, 0⟩ : STask), (⟨⟨#[63]⟩, (-9), 0, 0, 0, 0, 0⟩ : STask)]).length cz3) 46 (l0 ++ [(⟨⟨#[63]⟩, (-9), 0, 0, 0, 0, 0⟩ : STask), (⟨⟨#[63]⟩, (-9), 0, 0, 0, 0, 0⟩ : STask), (⟨⟨#[63]⟩, (-9), 0, 0, 0, 0, 0⟩ : STask)]), Own.of (.slice Z4 (l2 ++ [(⟨(-9), 0⟩ : SCome), (⟨(-9), 0⟩ : SCome), (⟨(-9), 0⟩ : SCome)]).length cz4) 53 (l2 ++ [(⟨(-9), 0⟩ : SCome), (⟨(-9), 0⟩ : SCome), (⟨(-9), 0⟩ : SCome)]), Own.of (.slice Z5 r5.1.length cz5) 53 r5.1] ∧ Frm 105 a [(0, .slice A0 l0.length c0), (1, .int .i64 x1), (2, .slice A2 l2.length c2), (9, .slice Z3 l0.length cz3), (10, .slice Z4 l2.length cz4), (11, (.slice Z5 r5.1.length cz5)), (12, .pointer (some ⟨b3, 0, none⟩)), (56, .int .i64 (s : Int))]
abbrev TasksComes.B2 (K : Nat) (w0 : World) (l0 : List STask) (A0 : Option Addr) (c0 : Nat) (x1 : Int) (l2 : List SCome) (A2 : Option Addr) (c2 : Nat) (hR0 : RdL w0 A0 l0) (hL0 : l0.length ≤ c0) (hR2 : RdL w0 A2 l2) (hL2 : l2.length ≤ c2) (hG1 : Glob w0 1 [.string (⟨#[63]⟩), .int .i64 (-9), .int .i64 0, .int .i64 0, .int .i64 0, .int .i64 0, .int .i64 0]) (hG2 : Glob w0 2 [.int .i64 (-9), .int .i64 0]) (Z1 : Option Addr) (cz1 : Nat) (r1 : (List SCome) × SFault) (b1 : Nat) (Z2 : Option Addr) (cz2 : Nat) (Z3 : Option Addr) (cz3 : Nat) (hcp1 : (l0 ++ [(⟨⟨#[63]⟩, (-9), 0, 0, 0, 0, 0⟩ : STask), (⟨⟨#[63]⟩, (-9), 0, 0, 0, 0, 0⟩ : STask), (⟨⟨#[63]⟩, (-9), 0, 0, 0, 0, 0⟩ : STask)]).length ≤ cz3) (Z4 : Option Addr) (cz4 : Nat) (hcp2 : (l2 ++ [(⟨(-9), 0⟩ : SCome), (⟨(-9), 0⟩ : SCome), (⟨(-9), 0⟩ : SCome)]).length ≤ cz4) (r5 : (List SCome) × SFault) (b3 : Nat) (Z5 : Option Addr) (cz5 : Nat) : (Unit ⊕ Bool) → Exit → Act → World → Prop := Exits 0 (fun (s : Unit) a w => St w0 w [Own.blk b3 (.cells #[.int .i64 r5.2.Code, .int .i64 r5.2.At] 26 (0, 0)), Own.of (.slice Z3 (l0 ++ [(⟨⟨#[63]⟩, (-9), 0, 0, 0, 0, 0⟩ : STask), (⟨⟨#[63]⟩, (-9), 0, 0, 0, 0, 0⟩ : STask), (⟨⟨#[63]⟩, (-9), 0, 0, 0, 0, 0⟩ : STask)]).length cz3) 46 (l0 ++ [(⟨⟨#[63]⟩, (-9), 0, 0, 0, 0, 0⟩ : STask), (⟨⟨#[63]⟩, (-9), 0, 0, 0, 0, 0⟩ : STask), (⟨⟨#[63]⟩, (-9), 0, 0, 0, 0, 0⟩ : STask)]), Own.of (.slice Z4 (l2 ++ [(⟨(-9), 0⟩ : SCome), (⟨(-9), 0⟩ : SCome), (⟨(-9), 0⟩ : SCome)]).length cz4) 53 (l2 ++ [(⟨(-9), 0⟩ : SCome), (⟨(-9), 0⟩ : SCome), (⟨(-9), 0⟩ : SCome)]), Own.of (.slice Z5 r5.1.length cz5) 53 r5.1] ∧ Frm 105 a [(0, .slice A0 l0.length c0), (2, .slice A2 l2.length c2), (9, .slice Z3 l0.length cz3), (10, .slice Z4 l2.length cz4), (11, (.slice Z5 r5.1.length cz5)), (12, .pointer (some ⟨b3, 0, none⟩))]) (Rets Tryd.prog Tryd.f8 (TasksComes.Post w0))
theorem TasksComes_r2 (K : Nat) (w0 : World) (l0 : List STask) (A0 : Option Addr) (c0 : Nat) (x1 : Int) (l2 : List SCome) (A2 : Option Addr) (c2 : Nat) (hR0 : RdL w0 A0 l0) (hL0 : l0.length ≤ c0) (hR2 : RdL w0 A2 l2) (hL2 : l2.length ≤ c2) (hG1 : Glob w0 1 [.string (⟨#[63]⟩), .int .i64 (-9), .int .i64 0, .int .i64 0, .int .i64 0, .int .i64 0, .int .i64 0]) (hG2 : Glob w0 2 [.int .i64 (-9), .int .i64 0]) (Z1 : Option Addr) (cz1 : Nat) (r1 : (List SCome) × SFault) (b1 : Nat) (Z2 : Option Addr) (cz2 : Nat) (Z3 : Option Addr) (cz3 : Nat) (hcp1 : (l0 ++ [(⟨⟨#[63]⟩, (-9), 0, 0, 0, 0, 0⟩ : STask), (⟨⟨#[63]⟩, (-9), 0, 0, 0, 0, 0⟩ : STask), (⟨⟨#[63]⟩, (-9), 0, 0, 0, 0, 0⟩ : STask)]).length ≤ cz3) (Z4 : Option Addr) (cz4 : Nat) (hcp2 : (l2 ++ [(⟨(-9), 0⟩ : SCome), (⟨(-9), 0⟩ : SCome), (⟨(-9), 0⟩ : SCome)]).length ≤ cz4) (r5 : (List SCome) × SFault) (b3 : Nat) (Z5 : Option Addr) (cz5 : Nat) (s : Nat) (o : Nat ⊕ (Unit ⊕ Bool)) (h : TasksComes.r2 K l0 x1 r5 s = some o) (a : Act) (w : World) (hA : TasksComes.A2 K w0 l0 A0 c0 x1 l2 A2 c2 hR0 hL0 hR2 hL2 hG1 hG2 Z1 cz1 r1 b1 Z2 cz2 Z3 cz3 hcp1 Z4 cz4 hcp2 r5 b3 Z5 cz5 s a w) (Q : Exit → Act → World → Prop) (hQ : ∀ x a w, Outs (TasksComes.A2 K w0 l0 A0 c0 x1 l2 A2 c2 hR0 hL0 hR2 hL2 hG1 hG2 Z1 cz1 r1 b1 Z2 cz2 Z3 cz3 hcp1 Z4 cz4 hcp2 r5 b3 Z5 cz5) (TasksComes.B2 K w0 l0 A0 c0 x1 l2 A2 c2 hR0 hL0 hR2 hL2 hG1 hG2 Z1 cz1 r1 b1 Z2 cz2 Z3 cz3 hcp1 Z4 cz4 hcp2 r5 b3 Z5 cz5) o x a w → Q x a w) : (subF Tryd.f8 [1, 1, 1, 1, 1, 1, 0, 1, 0, 0]).wp Tryd.prog Q a w := by
  obtain ⟨i1, hs⟩ : ∃ z, z = s := ⟨s, rfl⟩
  subst hs
  obtain ⟨hS, hF⟩ := hA
  replace hS : St w0 w [Own.blk b3 (.cells #[.int .i64 r5.2.Code, .int .i64 r5.2.At] 26 (0, 0)), Own.of (.slice Z3 (l0 ++ [(⟨⟨#[63]⟩, (-9), 0, 0, 0, 0, 0⟩ : STask), (⟨⟨#[63]⟩, (-9), 0, 0, 0, 0, 0⟩ : STask), (⟨⟨#[63]⟩, (-9), 0, 0, 0, 0, 0⟩ : STask)]).length cz3) 46 (l0 ++ [(⟨⟨#[63]⟩, (-9), 0, 0, 0, 0, 0⟩ : STask), (⟨⟨#[63]⟩, (-9), 0, 0, 0, 0, 0⟩ : STask), (⟨⟨#[63]⟩, (-9), 0, 0, 0, 0, 0⟩ : STask)]), Own.of (.slice Z4 (l2 ++ [(⟨(-9), 0⟩ : SCome), (⟨(-9), 0⟩ : SCome), (⟨(-9), 0⟩ : SCome)]).length cz4) 53 (l2 ++ [(⟨(-9), 0⟩ : SCome), (⟨(-9), 0⟩ : SCome), (⟨(-9), 0⟩ : SCome)]), Own.of (.slice Z5 r5.1.length cz5) 53 r5.1] := hS
  simp only [TasksComes.r2] at h
  refine (?_ : WE Tryd.prog 105 (subF Tryd.f8 [1, 1, 1, 1, 1, 1, 0, 1, 0, 0]) Q [(0, .slice A0 l0.length c0), (1, .int .i64 x1), (2, .slice A2 l2.length c2), (9, .slice Z3 l0.length cz3), (10, .slice Z4 l2.length cz4), (11, (.slice Z5 r5.1.length cz5)), (12, .pointer (some ⟨b3, 0, none⟩)), (56, .int .i64 (i1 : Int))] w) a hF
  clear hF a
  refine we_seq fun K15 hK15 => ?_
  refine we_region [(0, 0)] rfl ?_
  refine ge_batch [0] (ans := []) (vs := [(57, .bool (decide ((i1 : Int) < 2)))]) (l := []) (by kernel_rfl) trivial ?_
  refine ge_nil fun a hF => hK15 _ _ ?_ a hF
  refine we_seq fun K16 hK16 => ?_
  by_cases hc5 : (i1 : Int) < 2
  · rw [if_pos hc5] at h
    refine we_known (t := 57) (b := decide ((i1 : Int) < 2)) (v := true) (by kernel_rfl) (decide_eq_true hc5) ?_
    refine we_true (by kernel_rfl) ?_
    refine we_skip fun a hF => hK16 _ _ ?_ a hF
    refine we_seq fun K17 hK17 => ?_
    refine we_block ?_
    refine we_seq fun K18 hK18 => ?_
    refine we_region [(0, 0), (1, 0), (2, 1), (3, 0), (4, 0), (5, 0), (6, 1), (7, 0), (8, 2)] rfl ?_
    rcases hq11 : tasks_Comes.f K l0 x1 with _ | r6
    · rw [hq11] at h; cases h
    rw [hq11] at h
    simp only [] at h
    refine ge_batch [0, 1] (ans := []) (vs := [(60, .int .i64 x1), (59, .slice Z3 l0.length cz3)]) (l := []) (by kernel_rfl) trivial ?_
    refine ge_call (d := some 61) (f := 44) (args := #[.slice Z3 l0.length cz3, .int .i64 x1]) (by kernel_rfl) (tasks_Comes_ok K l0 Z3 cz3 x1 _ ((hS.rdAt 1 rfl).pre) (by have h0 := hcp1; simp only [List.length_append, List.length_cons, List.length_nil] at h0; omega) _ hq11) ?_
    rintro _ w16 ⟨v4, rfl, hS34⟩
    refine ⟨_, rfl, hS34.below, ?_⟩
    have hS35 := hS.call hS34
    refine ge_batch [3, 4, 5] (ans := []) (vs := [(63, .agg #[.int .i64 r6.2.Code, .int .i64 r6.2.At]), (62, v4), (58, .tuple #[v4, .agg #[.int .i64 r6.2.Code, .int .i64 r6.2.At]])]) (l := []) (by kernel_rfl) trivial ?_
    refine ge_new (d := some 14) (o := .cells #[.int .i64 0, .int .i64 0] 26) (v := fun b => .pointer (some ⟨b, 0, none⟩)) hS35 (fun b => by kernel_rfl) fun b4 w17 hx4 hS36 => ?_
    refine ge_batch [7] (ans := []) (vs := [(13, v4)]) (l := []) (by kernel_rfl) trivial ?_
    refine ge_set (b := b4) (j := 0) (cs := #[.int .i64 0, .int .i64 0]) (t := 26) (vs := [.int .i64 r6.2.Code, .int .i64 r6.2.At]) hS36 (by kernel_rfl) rfl rfl fun w18 hS37 => ?_
    have hS38 : St w0 w18 [Own.blk b4 (.cells #[.int .i64 r6.2.Code, .int .i64 r6.2.At] 26 (0, 0)), Own.of v4 53 r6.1, Own.blk b3 (.cells #[.int .i64 r5.2.Code, .int .i64 r5.2.At] 26 (0, 0)), Own.of (.slice Z3 (l0 ++ [(⟨⟨#[63]⟩, (-9), 0, 0, 0, 0, 0⟩ : STask), (⟨⟨#[63]⟩, (-9), 0, 0, 0, 0, 0⟩ : STask), (⟨⟨#[63]⟩, (-9), 0, 0, 0, 0, 0⟩ : STask)]).length cz3) 46 (l0 ++ [(⟨⟨#[63]⟩, (-9), 0, 0, 0, 0, 0⟩ : STask), (⟨⟨#[63]⟩, (-9), 0, 0, 0, 0, 0⟩ : STask), (⟨⟨#[63]⟩, (-9), 0, 0, 0, 0, 0⟩ : STask)]), Own.of (.slice Z4 (l2 ++ [(⟨(-9), 0⟩ : SCome), (⟨(-9), 0⟩ : SCome), (⟨(-9), 0⟩ : SCome)]).length cz4) 53 (l2 ++ [(⟨(-9), 0⟩ : SCome), (⟨(-9), 0⟩ : SCome), (⟨(-9), 0⟩ : SCome)]), Own.of (.slice Z5 r5.1.length cz5) 53 r5.1] := hS37
    refine ge_nil fun a hF => hK18 _ _ ?_ a hF
    refine we_seq fun K19 hK19 => ?_
    refine we_seq fun K20 hK20 => ?_
    refine we_region [(0, 0), (1, 0), (2, 0), (3, 0), (4, 0), (5, 0), (6, 1), (7, 0), (8, 0)] rfl ?_
    refine ge_batch [0, 1] (ans := [.val (.int .i64 r6.2.Code), .val (.int .i64 r6.2.At), .val (.int .i64 r5.2.Code), .val (.int .i64 r5.2.At)]) (vs := [(65, .agg #[.int .i64 r5.2.Code, .int .i64 r5.2.At]), (64, .agg #[.int .i64 r6.2.Code, .int .i64 r6.2.At])]) (l := [.loaded ⟨b4, 0, none⟩ (.int .i64 r6.2.Code), .loaded ⟨b4, 1, none⟩ (.int .i64 r6.2.At), .loaded ⟨b3, 0, none⟩ (.int .i64 r5.2.Code), .loaded ⟨b3, 1, none⟩ (.int .i64 r5.2.At)]) (by kernel_rfl) ⟨hS38.cell 0 rfl rfl, hS38.cell 0 rfl rfl, hS38.cell 2 rfl rfl, hS38.cell 2 rfl rfl, trivial⟩ ?_
    refine ge_eqs (d := 66) (ty := 4) (op := .neq) (x := (.tmp 64)) (y := (.tmp 65)) (t := 26) (t2 := 26) (xs := #[.int .i64 r6.2.Code, .int .i64 r6.2.At]) (ys := #[.int .i64 r5.2.Code, .int .i64 r5.2.At]) (r := (SFault.eqb r6.2 r5.2)) (v := !(SFault.eqb r6.2 r5.2)) (by kernel_rfl) (by kernel_rfl) (by kernel_rfl) (by kernel_rfl) (by kernel_rfl) rfl ?_
    refine ge_batch [3] (ans := []) (vs := [(67, .bool (!(SFault.eqb r6.2 r5.2)))]) (l := []) (by kernel_rfl) trivial ?_
    by_cases hc6 : (SFault.eqb r6.2 r5.2) = true
    · rw [if_pos hc6] at h
      refine ge_known (t := 67) (b := !(SFault.eqb r6.2 r5.2)) (c := false) (by kernel_rfl) (congrArg (fun z => !z) hc6) ?_
      refine ge_batch [4, 5] (ans := []) (vs := [(69, (.slice Z5 r5.1.length cz5)), (68, v4)]) (l := []) (by kernel_rfl) trivial ?_
      obtain ⟨Z6, cz6, rfl⟩ := hS38.open 1 rfl
      rcases hq12 : punctualsame_Same_api_Come.f K r6.1 r5.1 with _ | r7
      · rw [hq12] at h; cases h
      rw [hq12] at h
      simp only [] at h
      refine ge_call (d := some 70) (f := 45) (args := #[(.slice Z6 r6.1.length cz6), (.slice Z5 r5.1.length cz5)]) (by kernel_rfl) (punctualsame_Same_api_Come_ok K r6.1 Z6 cz6 r5.1 Z5 cz5 _ (hS38.rdAt 1 rfl) (hS38.capAt 1 rfl) (hS38.rdAt 5 rfl) (hS38.capAt 5 rfl) _ hq12) ?_
      rintro _ w19 ⟨rfl, hS39⟩
      refine ⟨_, rfl, hS39.below, ?_⟩
      have hS40 := hS38.call hS39
      refine ge_batch [7, 8] (ans := []) (vs := [(72, .bool (!r7)), (71, .bool (!r7))]) (l := []) (by kernel_rfl) trivial ?_
      refine ge_nil fun a hF => hK20 _ _ ?_ a hF
      by_cases hc7 : r7 = true
      · rw [if_pos hc7] at h
        refine we_known (t := 72) (b := !r7) (v := false) (by kernel_rfl) (congrArg (fun z => !z) hc7) ?_
        refine we_false (by kernel_rfl) ?_
        refine we_skip fun a hF => hK19 _ _ ?_ a hF
        refine we_region [(0, 0), (1, 2)] rfl ?_
        refine ge_batch [0] (ans := []) (vs := [(73, (.slice Z6 r6.1.length cz6))]) (l := []) (by kernel_rfl) trivial ?_
        have hS41 := hS40.bring 1 rfl
        refine ge_call2 (m := 0) (d := some 74) (f := 47) (args := #[.slice Z6 r6.1.length cz6]) (by kernel_rfl) (punctualsame_Spoil_api_Come_ok _ _ Z6 r6.1.length cz6 _ hS41) ?_
        rintro _ w20 ⟨rfl, hS42⟩
        refine ⟨_, rfl, ?_⟩
        refine ge_nil fun a hF => hK17 _ _ ?_ a hF
        refine we_region [(0, 0), (1, 0)] rfl ?_
        refine ge_addn (d := 75) (ty := 3) (x := (.tmp 56)) (y := (.const (.int .i64 1))) (t := 3) (t2 := 3) (k := .i64) (m := i1) (by kernel_rfl) (by kernel_rfl) (by kernel_rfl) (by omega) ?_
        refine ge_batch [1] (ans := []) (vs := [(56, .int .i64 ((i1 + 1 : Nat) : Int))]) (l := []) (by kernel_rfl) trivial ?_
        have hS43 := hS42.bring 4 rfl
        have hS44 := hS43.bring 4 rfl
        have hS45 := hS44.bring 4 rfl
        have hS46 := hS45.bring 4 rfl
        have hS47 := hS46.takeN 4
        obtain rfl := Option.some.inj h
        exact ge_nil fun a hF => hQ _ _ _ (Outs.again ⟨hS47, hF.weaken ⟨by kernel_rfl, by kernel_rfl, by kernel_rfl, by kernel_rfl, by kernel_rfl, by kernel_rfl, by kernel_rfl, by kernel_rfl, trivial⟩⟩)
      · rw [if_neg hc7] at h
        refine we_known (t := 72) (b := !r7) (v := true) (by kernel_rfl) (congrArg (fun z => !z) (Bool.eq_false_iff.2 hc7)) ?_
        refine we_true (by kernel_rfl) ?_
        refine we_seq fun K21 hK21 => ?_
        refine we_region [(0, 0)] rfl ?_
        refine ge_batch [0] (ans := []) (vs := [(6, .bool false)]) (l := []) (by kernel_rfl) trivial ?_
        refine ge_nil fun a hF => hK21 _ _ ?_ a hF
        have hS48 := hS40.takeN 0
        obtain rfl := Option.some.inj h
        exact we_ret fun a hF => hQ _ _ _ (Outs.out nofun (Exits.on ⟨rfl, (post_ret (rs := [.tmp 6]) (ans := []) (vs := [.bool false]) (l := []) rfl (by kernel_rfl) trivial ⟨rfl, hS48⟩) a hF⟩))
    · rw [if_neg hc6] at h
      refine ge_known (t := 67) (b := !(SFault.eqb r6.2 r5.2)) (c := true) (by kernel_rfl) (congrArg (fun z => !z) (Bool.eq_false_iff.2 hc6)) ?_
      refine ge_batch [4, 5] (ans := []) (vs := [(69, undef), (68, undef)]) (l := []) (by kernel_rfl) trivial ?_
      refine ge_off rfl rfl rfl (by kernel_rfl) ?_
      refine ge_batch [7, 8] (ans := []) (vs := [(72, .bool true), (71, undef)]) (l := []) (by kernel_rfl) trivial ?_
      refine ge_nil fun a hF => hK20 _ _ ?_ a hF
      refine we_true (by kernel_rfl) ?_
      refine we_seq fun K22 hK22 => ?_
      refine we_region [(0, 0)] rfl ?_
      refine ge_batch [0] (ans := []) (vs := [(6, .bool false)]) (l := []) (by kernel_rfl) trivial ?_
      refine ge_nil fun a hF => hK22 _ _ ?_ a hF
      have hS49 := hS38.takeN 0
      obtain rfl := Option.some.inj h
      exact we_ret fun a hF => hQ _ _ _ (Outs.out nofun (Exits.on ⟨rfl, (post_ret (rs := [.tmp 6]) (ans := []) (vs := [.bool false]) (l := []) rfl (by kernel_rfl) trivial ⟨rfl, hS49⟩) a hF⟩))
  · rw [if_neg hc5] at h
    refine we_known (t := 57) (b := decide ((i1 : Int) < 2)) (v := false) (by kernel_rfl) (decide_eq_false hc5) ?_
    refine we_false (by kernel_rfl) ?_
    have hS50 := hS.bring 3 rfl
    have hS51 := hS50.bring 3 rfl
    have hS52 := hS51.bring 3 rfl
    have hS53 := hS52.bring 3 rfl
    obtain rfl := Option.some.inj h
    exact we_exit fun a hF => hQ _ _ _ (Outs.out nofun (Exits.here ⟨hS53, hF.weaken ⟨by kernel_rfl, by kernel_rfl, by kernel_rfl, by kernel_rfl, by kernel_rfl, by kernel_rfl, trivial⟩⟩))
theorem TasksComes_ok (K : Nat) (l0 : List STask) (A0 : Option Addr) (c0 : Nat) (x1 : Int) (l2 : List SCome) (A2 : Option Addr) (c2 : Nat) (w0 : World) (hR0 : RdL w0 A0 l0) (hL0 : l0.length ≤ c0) (hR2 : RdL w0 A2 l2) (hL2 : l2.length ≤ c2) (hG1 : Glob w0 1 [.string (⟨#[63]⟩), .int .i64 (-9), .int .i64 0, .int .i64 0, .int .i64 0, .int .i64 0, .int .i64 0]) (hG2 : Glob w0 2 [.int .i64 (-9), .int .i64 0]) (r : Bool) (h : TasksComes.f K l0 x1 l2 = some r) :
    Calls Tryd.prog 8 #[.slice A0 l0.length c0, .int .i64 x1, .slice A2 l2.length c2] w0 (TasksComes.Post w0 r) := by
  have hS := St.start w0
  unfold TasksComes.f at h
  refine calls_enter (n := 105) (args := [.slice A0 l0.length c0, .int .i64 x1, .slice A2 l2.length c2]) (fn := Tryd.f8) rfl rfl rfl rfl ?_
  show WE _ _ _ _ [(0, .slice A0 l0.length c0), (1, .int .i64 x1), (2, .slice A2 l2.length c2)] _
  refine we_seq fun K1 hK1 => ?_
  refine we_region [(0, 0)] rfl ?_
  refine ge_batch [0] (ans := []) (vs := [(6, .bool false)]) (l := []) (by kernel_rfl) trivial ?_
  refine ge_nil fun a hF => hK1 _ _ ?_ a hF
  refine we_seq fun K2 hK2 => ?_
  refine we_region [(0, 1), (1, 1), (2, 0), (3, 0), (4, 0), (5, 1), (6, 0), (7, 2)] rfl ?_
  refine ge_call (d := some 16) (f := 20) (args := #[]) (by kernel_rfl) (three_ok _ _ rfl) ?_
  rintro _ w1 ⟨v1, rfl, hS1⟩
  refine ⟨_, rfl, hS1.below, ?_⟩
  have hS2 := hS.call hS1
  obtain ⟨Z1, cz1, rfl⟩ := hS2.open 0 rfl
  rcases hq2 : tasks_Comes.f K three.f 7 with _ | r1
  · rw [hq2] at h; cases h
  rw [hq2] at h
  simp only [] at h
  refine ge_call (d := some 17) (f := 44) (args := #[(.slice Z1 three.f.length cz1), .int .i64 7]) (by kernel_rfl) (tasks_Comes_ok K three.f Z1 cz1 7 _ (hS2.rdAt 0 rfl) (hS2.capAt 0 rfl) _ hq2) ?_
  rintro _ w2 ⟨v2, rfl, hS3⟩
  refine ⟨_, rfl, hS3.below, ?_⟩
  have hS4 := hS2.call hS3
  refine ge_batch [2, 3, 4] (ans := []) (vs := [(19, .agg #[.int .i64 r1.2.Code, .int .i64 r1.2.At]), (18, v2), (15, .tuple #[v2, .agg #[.int .i64 r1.2.Code, .int .i64 r1.2.At]])]) (l := []) (by kernel_rfl) trivial ?_
  refine ge_new (d := some 8) (o := .cells #[.int .i64 0, .int .i64 0] 26) (v := fun b => .pointer (some ⟨b, 0, none⟩)) hS4 (fun b => by kernel_rfl) fun b1 w3 hx1 hS5 => ?_
  refine ge_batch [6] (ans := []) (vs := [(7, v2)]) (l := []) (by kernel_rfl) trivial ?_
  refine ge_set (b := b1) (j := 0) (cs := #[.int .i64 0, .int .i64 0]) (t := 26) (vs := [.int .i64 r1.2.Code, .int .i64 r1.2.At]) hS5 (by kernel_rfl) rfl rfl fun w4 hS6 => ?_
  have hS7 : St w0 w4 [Own.blk b1 (.cells #[.int .i64 r1.2.Code, .int .i64 r1.2.At] 26 (0, 0)), Own.of v2 53 r1.1, Own.of (.slice Z1 three.f.length cz1) 46 three.f] := hS6
  refine ge_nil fun a hF => hK2 _ _ ?_ a hF
  refine we_seq fun K3 hK3 => ?_
  obtain ⟨Z2, cz2, rfl⟩ := hS7.open 1 rfl
  rcases hq4 : TasksComes.p0 K r1 with _ | (_ | rr3)
  · rw [hq4] at h; cases h
  · rw [hq4] at h
    simp only [] at h
    refine we_keep (e' := [(0, .slice A0 l0.length c0), (1, .int .i64 x1), (2, .slice A2 l2.length c2), (6, .bool false), (7, (.slice Z2 r1.1.length cz2)), (8, .pointer (some ⟨b1, 0, none⟩)), (15, .tuple #[(.slice Z2 r1.1.length cz2), .agg #[.int .i64 r1.2.Code, .int .i64 r1.2.At]]), (16, (.slice Z1 three.f.length cz1)), (17, .tuple #[(.slice Z2 r1.1.length cz2), .agg #[.int .i64 r1.2.Code, .int .i64 r1.2.At]]), (18, (.slice Z2 r1.1.length cz2)), (19, .agg #[.int .i64 r1.2.Code, .int .i64 r1.2.At])]) ⟨by kernel_rfl, by kernel_rfl, by kernel_rfl, by kernel_rfl, by kernel_rfl, by kernel_rfl, by kernel_rfl, by kernel_rfl, by kernel_rfl, by kernel_rfl, by kernel_rfl, trivial⟩ (TasksComes_p0 K w0 l0 A0 c0 x1 l2 A2 c2 hR0 hL0 hR2 hL2 hG1 hG2 Z1 cz1 r1 b1 Z2 cz2 _ hq4 _ hS7 _ ?_)
    rintro _ a w7 ⟨rfl, hS14, hF⟩
    replace hS14 : St w0 w7 [] := hS14
    refine hK3 [(0, .slice A0 l0.length c0), (1, .int .i64 x1), (2, .slice A2 l2.length c2)] w7 ?_ a hF
    refine we_seq fun K7 hK7 => ?_
    rcases hq7 : TasksComes.p1 l0 l2 with _ | (_ | rr2)
    · rw [hq7] at h; cases h
    · rw [hq7] at h
      simp only [] at h
      refine we_keep (e' := [(0, .slice A0 l0.length c0), (1, .int .i64 x1), (2, .slice A2 l2.length c2)]) ⟨by kernel_rfl, by kernel_rfl, by kernel_rfl, trivial⟩ (TasksComes_p1 K w0 l0 A0 c0 x1 l2 A2 c2 hR0 hL0 hR2 hL2 hG1 hG2 Z1 cz1 r1 b1 Z2 cz2 _ hq7 _ hS14 _ ?_)
      rintro _ a w10 ⟨rfl, hS19, hF⟩
      replace hS19 : St w0 w10 [] := hS19
      refine hK7 [(0, .slice A0 l0.length c0), (1, .int .i64 x1), (2, .slice A2 l2.length c2)] w10 ?_ a hF
      refine we_seq fun K11 hK11 => ?_
      refine we_draws (by kernel_rfl) [(0, 0), (1, 0), (3, 0), (4, 0), (2, 1), (5, 1), (6, 0), (7, 0)] (by kernel_rfl) ?_
      have hS20 := hS19.drew
      refine ge_batch [0, 1, 3, 4] (ans := [.val (.string (⟨#[63]⟩)), .val (.int .i64 (-9)), .val (.int .i64 0), .val (.int .i64 0), .val (.int .i64 0), .val (.int .i64 0), .val (.int .i64 0), .val (.int .i64 (-9)), .val (.int .i64 0)]) (vs := [(48, .agg #[.int .i64 (-9), .int .i64 0]), (47, .slice A2 l2.length c2), (45, .agg #[.string (⟨#[63]⟩), .int .i64 (-9), .int .i64 0, .int .i64 0, .int .i64 0, .int .i64 0, .int .i64 0]), (44, .slice A0 l0.length c0)]) (l := [.loaded ⟨1, 0, none⟩ (.string (⟨#[63]⟩)), .loaded ⟨1, 1, none⟩ (.int .i64 (-9)), .loaded ⟨1, 2, none⟩ (.int .i64 0), .loaded ⟨1, 3, none⟩ (.int .i64 0), .loaded ⟨1, 4, none⟩ (.int .i64 0), .loaded ⟨1, 5, none⟩ (.int .i64 0), .loaded ⟨1, 6, none⟩ (.int .i64 0), .loaded ⟨2, 0, none⟩ (.int .i64 (-9)), .loaded ⟨2, 1, none⟩ (.int .i64 0)]) (by kernel_rfl) ⟨hS20.glob hG1 rfl, hS20.glob hG1 rfl, hS20.glob hG1 rfl, hS20.glob hG1 rfl, hS20.glob hG1 rfl, hS20.glob hG1 rfl, hS20.glob hG1 rfl, hS20.glob hG2 rfl, hS20.glob hG2 rfl, trivial⟩ ?_
      rcases hq8 : punctualsame_Lend_api_Task.f l0 (⟨⟨#[63]⟩, (-9), 0, 0, 0, 0, 0⟩ : STask) with _ | r3
      · rw [hq8] at h; cases h
      rw [hq8] at h
      simp only [] at h
      obtain rfl := punctualsame_Lend_api_Task_full _ _ hq8
      refine ge_call (d := some 46) (f := 22) (args := #[.slice A0 l0.length c0, .agg #[.string (⟨#[63]⟩), .int .i64 (-9), .int .i64 0, .int .i64 0, .int .i64 0, .int .i64 0, .int .i64 0]]) (by kernel_rfl) (punctualsame_Lend_api_Task_ok l0 A0 c0 (⟨⟨#[63]⟩, (-9), 0, 0, 0, 0, 0⟩ : STask) _ (hS20.rd hR0) hL0 _ hq8) ?_
      rintro _ w11 ⟨Z3, cz3, rfl, hcp1, hS21⟩
      refine ⟨_, rfl, hS21.below, ?_⟩
      have hS22 := hS20.call hS21
      rcases hq9 : punctualsame_Lend_api_Come.f l2 (⟨(-9), 0⟩ : SCome) with _ | r4
      · rw [hq9] at h; cases h
      rw [hq9] at h
      simp only [] at h
      obtain rfl := punctualsame_Lend_api_Come_full _ _ hq9
      refine ge_call (d := some 49) (f := 28) (args := #[.slice A2 l2.length c2, .agg #[.int .i64 (-9), .int .i64 0]]) (by kernel_rfl) (punctualsame_Lend_api_Come_ok l2 A2 c2 (⟨(-9), 0⟩ : SCome) _ (hS22.rd hR2) hL2 _ hq9) ?_
      rintro _ w12 ⟨Z4, cz4, rfl, hcp2, hS23⟩
      refine ⟨_, rfl, hS23.below, ?_⟩
      have hS24 := hS22.call hS23
      refine ge_batch [6, 7] (ans := []) (vs := [(10, .slice Z4 l2.length cz4), (9, .slice Z3 l0.length cz3)]) (l := []) (by kernel_rfl) trivial ?_
      refine ge_nil fun a hF => hK11 _ _ ?_ a hF
      refine we_seq fun K12 hK12 => ?_
      refine we_region [(0, 0), (1, 0), (2, 1), (3, 0), (4, 0), (5, 0), (6, 1), (7, 0), (8, 2)] rfl ?_
      rcases hq10 : punctualref_Soon.f K l0 x1 with _ | r5
      · rw [hq10] at h; cases h
      rw [hq10] at h
      simp only [] at h
      refine ge_batch [0, 1] (ans := []) (vs := [(52, .int .i64 x1), (51, .slice A0 l0.length c0)]) (l := []) (by kernel_rfl) trivial ?_
      refine ge_call (d := some 53) (f := 46) (args := #[.slice A0 l0.length c0, .int .i64 x1]) (by kernel_rfl) (punctualref_Soon_ok K l0 A0 c0 x1 _ (hS24.rd hR0) hL0 _ hq10) ?_
      rintro _ w13 ⟨v3, rfl, hS25⟩
      refine ⟨_, rfl, hS25.below, ?_⟩
      have hS26 := hS24.call hS25
      refine ge_batch [3, 4, 5] (ans := []) (vs := [(55, .agg #[.int .i64 r5.2.Code, .int .i64 r5.2.At]), (54, v3), (50, .tuple #[v3, .agg #[.int .i64 r5.2.Code, .int .i64 r5.2.At]])]) (l := []) (by kernel_rfl) trivial ?_
      refine ge_new (d := some 12) (o := .cells #[.int .i64 0, .int .i64 0] 26) (v := fun b => .pointer (some ⟨b, 0, none⟩)) hS26 (fun b => by kernel_rfl) fun b3 w14 hx3 hS27 => ?_
      refine ge_batch [7] (ans := []) (vs := [(11, v3)]) (l := []) (by kernel_rfl) trivial ?_
      refine ge_set (b := b3) (j := 0) (cs := #[.int .i64 0, .int .i64 0]) (t := 26) (vs := [.int .i64 r5.2.Code, .int .i64 r5.2.At]) hS27 (by kernel_rfl) rfl rfl fun w15 hS28 => ?_
      have hS29 : St w0 w15 [Own.blk b3 (.cells #[.int .i64 r5.2.Code, .int .i64 r5.2.At] 26 (0, 0)), Own.of v3 53 r5.1, Own.of (.slice Z4 (l2 ++ [(⟨(-9), 0⟩ : SCome), (⟨(-9), 0⟩ : SCome), (⟨(-9), 0⟩ : SCome)]).length cz4) 53 (l2 ++ [(⟨(-9), 0⟩ : SCome), (⟨(-9), 0⟩ : SCome), (⟨(-9), 0⟩ : SCome)]), Own.of (.slice Z3 (l0 ++ [(⟨⟨#[63]⟩, (-9), 0, 0, 0, 0, 0⟩ : STask), (⟨⟨#[63]⟩, (-9), 0, 0, 0, 0, 0⟩ : STask), (⟨⟨#[63]⟩, (-9), 0, 0, 0, 0, 0⟩ : STask)]).length cz3) 46 (l0 ++ [(⟨⟨#[63]⟩, (-9), 0, 0, 0, 0, 0⟩ : STask), (⟨⟨#[63]⟩, (-9), 0, 0, 0, 0, 0⟩ : STask), (⟨⟨#[63]⟩, (-9), 0, 0, 0, 0, 0⟩ : STask)])] := hS28
      refine ge_nil fun a hF => hK12 _ _ ?_ a hF
      refine we_seq fun K13 hK13 => ?_
      refine we_seq fun K14 hK14 => ?_
      refine we_region [(0, 0)] rfl ?_
      refine ge_batch [0] (ans := []) (vs := [(56, .int .i64 0)]) (l := []) (by kernel_rfl) trivial ?_
      refine ge_nil fun a hF => hK14 _ _ ?_ a hF
      refine we_block ?_
      obtain ⟨Z5, cz5, rfl⟩ := hS29.open 1 rfl
      have hS30 := hS29.bring 1 rfl
      have hS31 := hS30.bring 2 rfl
      have hS32 := hS31.bring 3 rfl
      have hS33 := hS32.bring 3 rfl
      rcases hq13 : iter (TasksComes.r2 K l0 x1 r5) K 0 with _ | (_ | rr1)
      · rw [hq13] at h; cases h
      · rw [hq13] at h
        simp only [] at h
        refine we_iter (A := TasksComes.A2 K w0 l0 A0 c0 x1 l2 A2 c2 hR0 hL0 hR2 hL2 hG1 hG2 Z1 cz1 r1 b1 Z2 cz2 Z3 cz3 hcp1 Z4 cz4 hcp2 r5 b3 Z5 cz5) (B := TasksComes.B2 K w0 l0 A0 c0 x1 l2 A2 c2 hR0 hL0 hR2 hL2 hG1 hG2 Z1 cz1 r1 b1 Z2 cz2 Z3 cz3 hcp1 Z4 cz4 hcp2 r5 b3 Z5 cz5) hq13 (fun a hF => ⟨hS33, hF.weaken ⟨by kernel_rfl, by kernel_rfl, by kernel_rfl, by kernel_rfl, by kernel_rfl, by kernel_rfl, by kernel_rfl, by kernel_rfl, trivial⟩⟩) (fun s o hf a w hA Q hQ => TasksComes_r2 K w0 l0 A0 c0 x1 l2 A2 c2 hR0 hL0 hR2 hL2 hG1 hG2 Z1 cz1 r1 b1 Z2 cz2 Z3 cz3 hcp1 Z4 cz4 hcp2 r5 b3 Z5 cz5 s o hf a w hA Q hQ) ?_
        rintro _ a w21 _ ⟨rfl, hS54, hF⟩
        replace hS54 : St w0 w21 [Own.blk b3 (.cells #[.int .i64 r5.2.Code, .int .i64 r5.2.At] 26 (0, 0)), Own.of (.slice Z3 (l0 ++ [(⟨⟨#[63]⟩, (-9), 0, 0, 0, 0, 0⟩ : STask), (⟨⟨#[63]⟩, (-9), 0, 0, 0, 0, 0⟩ : STask), (⟨⟨#[63]⟩, (-9), 0, 0, 0, 0, 0⟩ : STask)]).length cz3) 46 (l0 ++ [(⟨⟨#[63]⟩, (-9), 0, 0, 0, 0, 0⟩ : STask), (⟨⟨#[63]⟩, (-9), 0, 0, 0, 0, 0⟩ : STask), (⟨⟨#[63]⟩, (-9), 0, 0, 0, 0, 0⟩ : STask)]), Own.of (.slice Z4 (l2 ++ [(⟨(-9), 0⟩ : SCome), (⟨(-9), 0⟩ : SCome), (⟨(-9), 0⟩ : SCome)]).length cz4) 53 (l2 ++ [(⟨(-9), 0⟩ : SCome), (⟨(-9), 0⟩ : SCome), (⟨(-9), 0⟩ : SCome)]), Own.of (.slice Z5 r5.1.length cz5) 53 r5.1] := hS54
        refine hK13 [(0, .slice A0 l0.length c0), (2, .slice A2 l2.length c2), (9, .slice Z3 l0.length cz3), (10, .slice Z4 l2.length cz4), (11, (.slice Z5 r5.1.length cz5)), (12, .pointer (some ⟨b3, 0, none⟩))] w21 ?_ a hF
        refine we_seq fun K23 hK23 => ?_
        refine we_seq fun K24 hK24 => ?_
        refine we_region [(0, 0), (1, 0), (2, 0), (3, 0), (4, 0), (5, 0), (6, 1), (7, 0), (8, 0), (9, 0)] rfl ?_
        refine ge_batch [0, 1, 2, 3] (ans := [.val (.int .i64 r5.2.Code)]) (vs := [(79, .bool (r5.2.Code == 0)), (78, .bool (r5.2.Code == 0)), (77, .int .i64 r5.2.Code), (76, .pointer (some ⟨b3, 0, none⟩))]) (l := [.loaded ⟨b3, 0, none⟩ (.int .i64 r5.2.Code)]) (by kernel_rfl) ⟨hS54.cell 0 rfl rfl, trivial⟩ ?_
        by_cases hc8 : r5.2.Code = 0
        · rw [if_pos hc8] at h
          refine ge_known (t := 79) (b := (r5.2.Code == 0)) (c := true) (by kernel_rfl) (beq_iff_eq.2 hc8) ?_
          rcases hq14 : tasks_Legal.f K l0 r5.1 with _ | r8
          · rw [hq14] at h; cases h
          rw [hq14] at h
          simp only [] at h
          refine ge_batch [4, 5] (ans := []) (vs := [(81, (.slice Z5 r5.1.length cz5)), (80, .slice Z3 l0.length cz3)]) (l := []) (by kernel_rfl) trivial ?_
          refine ge_call (d := some 82) (f := 48) (args := #[.slice Z3 l0.length cz3, (.slice Z5 r5.1.length cz5)]) (by kernel_rfl) (tasks_Legal_ok K l0 Z3 cz3 r5.1 Z5 cz5 _ ((hS54.rdAt 1 rfl).pre) (by have h0 := hcp1; simp only [List.length_append, List.length_cons, List.length_nil] at h0; omega) (hS54.rdAt 3 rfl) (hS54.capAt 3 rfl) _ hq14) ?_
          rintro _ w22 ⟨rfl, hS55⟩
          refine ⟨_, rfl, hS55.below, ?_⟩
          have hS56 := hS54.call hS55
          refine ge_batch [7, 8, 9] (ans := []) (vs := [(85, .bool (r8.Code != 0)), (84, .bool (r8.Code != 0)), (83, .int .i64 r8.Code)]) (l := []) (by kernel_rfl) trivial ?_
          refine ge_nil fun a hF => hK24 _ _ ?_ a hF
          by_cases hc9 : r8.Code = 0
          · rw [if_pos hc9] at h
            refine we_known (t := 85) (b := (r8.Code != 0)) (v := false) (by kernel_rfl) (bne_eq_false_iff_eq.2 hc9) ?_
            refine we_false (by kernel_rfl) ?_
            refine we_skip fun a hF => hK23 _ _ ?_ a hF
            refine we_seq fun K25 hK25 => ?_
            refine we_region [(0, 0), (1, 0), (2, 1), (3, 0), (4, 0), (5, 1), (6, 0), (7, 0), (8, 0), (9, 0), (10, 0), (11, 1), (12, 0), (13, 0), (14, 0), (15, 0), (16, 0), (17, 1), (18, 0), (19, 0)] rfl ?_
            rcases hq15 : tasks_Legal.f K l0 l2 with _ | r9
            · rw [hq15] at h; cases h
            rw [hq15] at h
            simp only [] at h
            refine ge_batch [0, 1] (ans := []) (vs := [(87, .slice Z4 l2.length cz4), (86, .slice Z3 l0.length cz3)]) (l := []) (by kernel_rfl) trivial ?_
            refine ge_call (d := some 88) (f := 48) (args := #[.slice Z3 l0.length cz3, .slice Z4 l2.length cz4]) (by kernel_rfl) (tasks_Legal_ok K l0 Z3 cz3 l2 Z4 cz4 _ ((hS56.rdAt 1 rfl).pre) (by have h0 := hcp1; simp only [List.length_append, List.length_cons, List.length_nil] at h0; omega) ((hS56.rdAt 2 rfl).pre) (by have h0 := hcp2; simp only [List.length_append, List.length_cons, List.length_nil] at h0; omega) _ hq15) ?_
            rintro _ w23 ⟨rfl, hS57⟩
            refine ⟨_, rfl, hS57.below, ?_⟩
            have hS58 := hS56.call hS57
            rcases hq16 : punctualref_Lawful.f K l0 l2 with _ | r10
            · rw [hq16] at h; cases h
            rw [hq16] at h
            simp only [] at h
            refine ge_batch [3, 4] (ans := []) (vs := [(90, .slice A2 l2.length c2), (89, .slice A0 l0.length c0)]) (l := []) (by kernel_rfl) trivial ?_
            refine ge_call (d := some 91) (f := 49) (args := #[.slice A0 l0.length c0, .slice A2 l2.length c2]) (by kernel_rfl) (punctualref_Lawful_ok K l0 A0 c0 l2 A2 c2 _ (hS58.rd hR0) hL0 (hS58.rd hR2) hL2 _ hq16) ?_
            rintro _ w24 ⟨rfl, hS59⟩
            refine ⟨_, rfl, hS59.below, ?_⟩
            have hS60 := hS58.call hS59
            refine ge_eqs (d := 92) (ty := 4) (op := .eql) (x := (.tmp 88)) (y := (.tmp 91)) (t := 26) (t2 := 26) (xs := #[.int .i64 r9.Code, .int .i64 r9.At]) (ys := #[.int .i64 r10.Code, .int .i64 r10.At]) (r := (SFault.eqb r9 r10)) (v := (SFault.eqb r9 r10)) (by kernel_rfl) (by kernel_rfl) (by kernel_rfl) (by kernel_rfl) (by kernel_rfl) rfl ?_
            refine ge_batch [7] (ans := []) (vs := [(93, .bool (SFault.eqb r9 r10))]) (l := []) (by kernel_rfl) trivial ?_
            by_cases hc10 : (SFault.eqb r9 r10) = true
            · rw [if_pos hc10] at h
              refine ge_known (t := 93) (b := (SFault.eqb r9 r10)) (c := true) (by kernel_rfl) hc10 ?_
              refine ge_batch [8, 9, 10] (ans := [.val (.string (⟨#[63]⟩)), .val (.int .i64 (-9)), .val (.int .i64 0), .val (.int .i64 0), .val (.int .i64 0), .val (.int .i64 0), .val (.int .i64 0)]) (vs := [(96, .agg #[.string (⟨#[63]⟩), .int .i64 (-9), .int .i64 0, .int .i64 0, .int .i64 0, .int .i64 0, .int .i64 0]), (95, .slice A0 l0.length c0), (94, .slice Z3 l0.length cz3)]) (l := [.loaded ⟨1, 0, none⟩ (.string (⟨#[63]⟩)), .loaded ⟨1, 1, none⟩ (.int .i64 (-9)), .loaded ⟨1, 2, none⟩ (.int .i64 0), .loaded ⟨1, 3, none⟩ (.int .i64 0), .loaded ⟨1, 4, none⟩ (.int .i64 0), .loaded ⟨1, 5, none⟩ (.int .i64 0), .loaded ⟨1, 6, none⟩ (.int .i64 0)]) (by kernel_rfl) ⟨hS60.glob hG1 rfl, hS60.glob hG1 rfl, hS60.glob hG1 rfl, hS60.glob hG1 rfl, hS60.glob hG1 rfl, hS60.glob hG1 rfl, hS60.glob hG1 rfl, trivial⟩ ?_
              rcases hq17 : punctualsame_Still_api_Task.f K (l0 ++ [(⟨⟨#[63]⟩, (-9), 0, 0, 0, 0, 0⟩ : STask), (⟨⟨#[63]⟩, (-9), 0, 0, 0, 0, 0⟩ : STask), (⟨⟨#[63]⟩, (-9), 0, 0, 0, 0, 0⟩ : STask)]) l0 (⟨⟨#[63]⟩, (-9), 0, 0, 0, 0, 0⟩ : STask) with _ | r11
              · rw [hq17] at h; cases h
              rw [hq17] at h
              simp only [] at h
              refine ge_call (d := some 97) (f := 24) (args := #[.slice Z3 l0.length cz3, .slice A0 l0.length c0, .agg #[.string (⟨#[63]⟩), .int .i64 (-9), .int .i64 0, .int .i64 0, .int .i64 0, .int .i64 0, .int .i64 0]]) (by kernel_rfl) (punctualsame_Still_api_Task_ok K (l0 ++ [(⟨⟨#[63]⟩, (-9), 0, 0, 0, 0, 0⟩ : STask), (⟨⟨#[63]⟩, (-9), 0, 0, 0, 0, 0⟩ : STask), (⟨⟨#[63]⟩, (-9), 0, 0, 0, 0, 0⟩ : STask)]) Z3 l0.length cz3 l0 A0 c0 (⟨⟨#[63]⟩, (-9), 0, 0, 0, 0, 0⟩ : STask) _ (hS60.rdAt 1 rfl) hcp1 (hS60.rd hR0) hL0 _ hq17) ?_
              rintro _ w25 ⟨rfl, hS61⟩
              refine ⟨_, rfl, hS61.below, ?_⟩
              have hS62 := hS60.call hS61
              refine ge_batch [12, 13] (ans := []) (vs := [(99, .bool r11), (98, .bool r11)]) (l := []) (by kernel_rfl) trivial ?_
              by_cases hc11 : r11 = true
              · rw [if_pos hc11] at h
                refine ge_known (t := 99) (b := r11) (c := true) (by kernel_rfl) hc11 ?_
                refine ge_batch [14, 15, 16] (ans := [.val (.int .i64 (-9)), .val (.int .i64 0)]) (vs := [(102, .agg #[.int .i64 (-9), .int .i64 0]), (101, .slice A2 l2.length c2), (100, .slice Z4 l2.length cz4)]) (l := [.loaded ⟨2, 0, none⟩ (.int .i64 (-9)), .loaded ⟨2, 1, none⟩ (.int .i64 0)]) (by kernel_rfl) ⟨hS62.glob hG2 rfl, hS62.glob hG2 rfl, trivial⟩ ?_
                rcases hq18 : punctualsame_Still_api_Come.f K (l2 ++ [(⟨(-9), 0⟩ : SCome), (⟨(-9), 0⟩ : SCome), (⟨(-9), 0⟩ : SCome)]) l2 (⟨(-9), 0⟩ : SCome) with _ | r12
                · rw [hq18] at h; cases h
                rw [hq18] at h
                simp only [] at h
                refine ge_call (d := some 103) (f := 30) (args := #[.slice Z4 l2.length cz4, .slice A2 l2.length c2, .agg #[.int .i64 (-9), .int .i64 0]]) (by kernel_rfl) (punctualsame_Still_api_Come_ok K (l2 ++ [(⟨(-9), 0⟩ : SCome), (⟨(-9), 0⟩ : SCome), (⟨(-9), 0⟩ : SCome)]) Z4 l2.length cz4 l2 A2 c2 (⟨(-9), 0⟩ : SCome) _ (hS62.rdAt 2 rfl) hcp2 (hS62.rd hR2) hL2 _ hq18) ?_
                rintro _ w26 ⟨rfl, hS63⟩
                refine ⟨_, rfl, hS63.below, ?_⟩
                have hS64 := hS62.call hS63
                refine ge_batch [18, 19] (ans := []) (vs := [(6, .bool r12), (104, .bool r12)]) (l := []) (by kernel_rfl) trivial ?_
                refine ge_nil fun a hF => hK25 _ _ ?_ a hF
                have hS65 := hS64.takeN 0
                obtain rfl := Option.some.inj h
                exact we_ret (post_ret (rs := [.tmp 6]) (ans := []) (vs := [.bool r12]) (l := []) rfl (by kernel_rfl) trivial ⟨rfl, hS65⟩)
              · rw [if_neg hc11] at h
                refine ge_known (t := 99) (b := r11) (c := false) (by kernel_rfl) (Bool.eq_false_iff.2 hc11) ?_
                refine ge_batch [14, 15, 16] (ans := []) (vs := [(102, undef), (101, undef), (100, undef)]) (l := []) (by kernel_rfl) trivial ?_
                refine ge_off rfl rfl rfl (by kernel_rfl) ?_
                refine ge_batch [18, 19] (ans := []) (vs := [(6, .bool false), (104, .bool false)]) (l := []) (by kernel_rfl) trivial ?_
                refine ge_nil fun a hF => hK25 _ _ ?_ a hF
                have hS66 := hS62.takeN 0
                obtain rfl := Option.some.inj h
                exact we_ret (post_ret (rs := [.tmp 6]) (ans := []) (vs := [.bool false]) (l := []) rfl (by kernel_rfl) trivial ⟨rfl, hS66⟩)
            · rw [if_neg hc10] at h
              refine ge_known (t := 93) (b := (SFault.eqb r9 r10)) (c := false) (by kernel_rfl) (Bool.eq_false_iff.2 hc10) ?_
              refine ge_batch [8, 9, 10] (ans := []) (vs := [(96, undef), (95, undef), (94, undef)]) (l := []) (by kernel_rfl) trivial ?_
              refine ge_off rfl rfl rfl (by kernel_rfl) ?_
              refine ge_batch [12, 13, 14, 15, 16] (ans := []) (vs := [(102, undef), (101, undef), (100, undef), (99, .bool false), (98, .bool false)]) (l := []) (by kernel_rfl) trivial ?_
              refine ge_off rfl rfl rfl (by kernel_rfl) ?_
              refine ge_batch [18, 19] (ans := []) (vs := [(6, .bool false), (104, .bool false)]) (l := []) (by kernel_rfl) trivial ?_
              refine ge_nil fun a hF => hK25 _ _ ?_ a hF
              have hS67 := hS60.takeN 0
              obtain rfl := Option.some.inj h
              exact we_ret (post_ret (rs := [.tmp 6]) (ans := []) (vs := [.bool false]) (l := []) rfl (by kernel_rfl) trivial ⟨rfl, hS67⟩)
          · rw [if_neg hc9] at h
            refine we_known (t := 85) (b := (r8.Code != 0)) (v := true) (by kernel_rfl) (bne_iff_ne.2 hc9) ?_
            refine we_true (by kernel_rfl) ?_
            refine we_seq fun K26 hK26 => ?_
            refine we_region [(0, 0)] rfl ?_
            refine ge_batch [0] (ans := []) (vs := [(6, .bool false)]) (l := []) (by kernel_rfl) trivial ?_
            refine ge_nil fun a hF => hK26 _ _ ?_ a hF
            have hS68 := hS56.takeN 0
            obtain rfl := Option.some.inj h
            exact we_ret (post_ret (rs := [.tmp 6]) (ans := []) (vs := [.bool false]) (l := []) rfl (by kernel_rfl) trivial ⟨rfl, hS68⟩)
        · rw [if_neg hc8] at h
          refine ge_known (t := 79) (b := (r5.2.Code == 0)) (c := false) (by kernel_rfl) (beq_eq_false_iff_ne.2 hc8) ?_
          refine ge_batch [4, 5] (ans := []) (vs := [(81, undef), (80, undef)]) (l := []) (by kernel_rfl) trivial ?_
          refine ge_off rfl rfl rfl (by kernel_rfl) ?_
          refine ge_batch [7, 8, 9] (ans := []) (vs := [(85, .bool false), (84, undef), (83, undef)]) (l := []) (by kernel_rfl) trivial ?_
          refine ge_nil fun a hF => hK24 _ _ ?_ a hF
          refine we_false (by kernel_rfl) ?_
          refine we_skip fun a hF => hK23 _ _ ?_ a hF
          refine we_seq fun K27 hK27 => ?_
          refine we_region [(0, 0), (1, 0), (2, 1), (3, 0), (4, 0), (5, 1), (6, 0), (7, 0), (8, 0), (9, 0), (10, 0), (11, 1), (12, 0), (13, 0), (14, 0), (15, 0), (16, 0), (17, 1), (18, 0), (19, 0)] rfl ?_
          rcases hq19 : tasks_Legal.f K l0 l2 with _ | r13
          · rw [hq19] at h; cases h
          rw [hq19] at h
          simp only [] at h
          refine ge_batch [0, 1] (ans := []) (vs := [(87, .slice Z4 l2.length cz4), (86, .slice Z3 l0.length cz3)]) (l := []) (by kernel_rfl) trivial ?_
          refine ge_call (d := some 88) (f := 48) (args := #[.slice Z3 l0.length cz3, .slice Z4 l2.length cz4]) (by kernel_rfl) (tasks_Legal_ok K l0 Z3 cz3 l2 Z4 cz4 _ ((hS54.rdAt 1 rfl).pre) (by have h0 := hcp1; simp only [List.length_append, List.length_cons, List.length_nil] at h0; omega) ((hS54.rdAt 2 rfl).pre) (by have h0 := hcp2; simp only [List.length_append, List.length_cons, List.length_nil] at h0; omega) _ hq19) ?_
          rintro _ w27 ⟨rfl, hS69⟩
          refine ⟨_, rfl, hS69.below, ?_⟩
          have hS70 := hS54.call hS69
          rcases hq20 : punctualref_Lawful.f K l0 l2 with _ | r14
          · rw [hq20] at h; cases h
          rw [hq20] at h
          simp only [] at h
          refine ge_batch [3, 4] (ans := []) (vs := [(90, .slice A2 l2.length c2), (89, .slice A0 l0.length c0)]) (l := []) (by kernel_rfl) trivial ?_
          refine ge_call (d := some 91) (f := 49) (args := #[.slice A0 l0.length c0, .slice A2 l2.length c2]) (by kernel_rfl) (punctualref_Lawful_ok K l0 A0 c0 l2 A2 c2 _ (hS70.rd hR0) hL0 (hS70.rd hR2) hL2 _ hq20) ?_
          rintro _ w28 ⟨rfl, hS71⟩
          refine ⟨_, rfl, hS71.below, ?_⟩
          have hS72 := hS70.call hS71
          refine ge_eqs (d := 92) (ty := 4) (op := .eql) (x := (.tmp 88)) (y := (.tmp 91)) (t := 26) (t2 := 26) (xs := #[.int .i64 r13.Code, .int .i64 r13.At]) (ys := #[.int .i64 r14.Code, .int .i64 r14.At]) (r := (SFault.eqb r13 r14)) (v := (SFault.eqb r13 r14)) (by kernel_rfl) (by kernel_rfl) (by kernel_rfl) (by kernel_rfl) (by kernel_rfl) rfl ?_
          refine ge_batch [7] (ans := []) (vs := [(93, .bool (SFault.eqb r13 r14))]) (l := []) (by kernel_rfl) trivial ?_
          by_cases hc12 : (SFault.eqb r13 r14) = true
          · rw [if_pos hc12] at h
            refine ge_known (t := 93) (b := (SFault.eqb r13 r14)) (c := true) (by kernel_rfl) hc12 ?_
            refine ge_batch [8, 9, 10] (ans := [.val (.string (⟨#[63]⟩)), .val (.int .i64 (-9)), .val (.int .i64 0), .val (.int .i64 0), .val (.int .i64 0), .val (.int .i64 0), .val (.int .i64 0)]) (vs := [(96, .agg #[.string (⟨#[63]⟩), .int .i64 (-9), .int .i64 0, .int .i64 0, .int .i64 0, .int .i64 0, .int .i64 0]), (95, .slice A0 l0.length c0), (94, .slice Z3 l0.length cz3)]) (l := [.loaded ⟨1, 0, none⟩ (.string (⟨#[63]⟩)), .loaded ⟨1, 1, none⟩ (.int .i64 (-9)), .loaded ⟨1, 2, none⟩ (.int .i64 0), .loaded ⟨1, 3, none⟩ (.int .i64 0), .loaded ⟨1, 4, none⟩ (.int .i64 0), .loaded ⟨1, 5, none⟩ (.int .i64 0), .loaded ⟨1, 6, none⟩ (.int .i64 0)]) (by kernel_rfl) ⟨hS72.glob hG1 rfl, hS72.glob hG1 rfl, hS72.glob hG1 rfl, hS72.glob hG1 rfl, hS72.glob hG1 rfl, hS72.glob hG1 rfl, hS72.glob hG1 rfl, trivial⟩ ?_
            rcases hq21 : punctualsame_Still_api_Task.f K (l0 ++ [(⟨⟨#[63]⟩, (-9), 0, 0, 0, 0, 0⟩ : STask), (⟨⟨#[63]⟩, (-9), 0, 0, 0, 0, 0⟩ : STask), (⟨⟨#[63]⟩, (-9), 0, 0, 0, 0, 0⟩ : STask)]) l0 (⟨⟨#[63]⟩, (-9), 0, 0, 0, 0, 0⟩ : STask) with _ | r15
            · rw [hq21] at h; cases h
            rw [hq21] at h
            simp only [] at h
            refine ge_call (d := some 97) (f := 24) (args := #[.slice Z3 l0.length cz3, .slice A0 l0.length c0, .agg #[.string (⟨#[63]⟩), .int .i64 (-9), .int .i64 0, .int .i64 0, .int .i64 0, .int .i64 0, .int .i64 0]]) (by kernel_rfl) (punctualsame_Still_api_Task_ok K (l0 ++ [(⟨⟨#[63]⟩, (-9), 0, 0, 0, 0, 0⟩ : STask), (⟨⟨#[63]⟩, (-9), 0, 0, 0, 0, 0⟩ : STask), (⟨⟨#[63]⟩, (-9), 0, 0, 0, 0, 0⟩ : STask)]) Z3 l0.length cz3 l0 A0 c0 (⟨⟨#[63]⟩, (-9), 0, 0, 0, 0, 0⟩ : STask) _ (hS72.rdAt 1 rfl) hcp1 (hS72.rd hR0) hL0 _ hq21) ?_
            rintro _ w29 ⟨rfl, hS73⟩
            refine ⟨_, rfl, hS73.below, ?_⟩
            have hS74 := hS72.call hS73
            refine ge_batch [12, 13] (ans := []) (vs := [(99, .bool r15), (98, .bool r15)]) (l := []) (by kernel_rfl) trivial ?_
            by_cases hc13 : r15 = true
            · rw [if_pos hc13] at h
              refine ge_known (t := 99) (b := r15) (c := true) (by kernel_rfl) hc13 ?_
              refine ge_batch [14, 15, 16] (ans := [.val (.int .i64 (-9)), .val (.int .i64 0)]) (vs := [(102, .agg #[.int .i64 (-9), .int .i64 0]), (101, .slice A2 l2.length c2), (100, .slice Z4 l2.length cz4)]) (l := [.loaded ⟨2, 0, none⟩ (.int .i64 (-9)), .loaded ⟨2, 1, none⟩ (.int .i64 0)]) (by kernel_rfl) ⟨hS74.glob hG2 rfl, hS74.glob hG2 rfl, trivial⟩ ?_
              rcases hq22 : punctualsame_Still_api_Come.f K (l2 ++ [(⟨(-9), 0⟩ : SCome), (⟨(-9), 0⟩ : SCome), (⟨(-9), 0⟩ : SCome)]) l2 (⟨(-9), 0⟩ : SCome) with _ | r16
              · rw [hq22] at h; cases h
              rw [hq22] at h
              simp only [] at h
              refine ge_call (d := some 103) (f := 30) (args := #[.slice Z4 l2.length cz4, .slice A2 l2.length c2, .agg #[.int .i64 (-9), .int .i64 0]]) (by kernel_rfl) (punctualsame_Still_api_Come_ok K (l2 ++ [(⟨(-9), 0⟩ : SCome), (⟨(-9), 0⟩ : SCome), (⟨(-9), 0⟩ : SCome)]) Z4 l2.length cz4 l2 A2 c2 (⟨(-9), 0⟩ : SCome) _ (hS74.rdAt 2 rfl) hcp2 (hS74.rd hR2) hL2 _ hq22) ?_
              rintro _ w30 ⟨rfl, hS75⟩
              refine ⟨_, rfl, hS75.below, ?_⟩
              have hS76 := hS74.call hS75
              refine ge_batch [18, 19] (ans := []) (vs := [(6, .bool r16), (104, .bool r16)]) (l := []) (by kernel_rfl) trivial ?_
              refine ge_nil fun a hF => hK27 _ _ ?_ a hF
              have hS77 := hS76.takeN 0
              obtain rfl := Option.some.inj h
              exact we_ret (post_ret (rs := [.tmp 6]) (ans := []) (vs := [.bool r16]) (l := []) rfl (by kernel_rfl) trivial ⟨rfl, hS77⟩)
            · rw [if_neg hc13] at h
              refine ge_known (t := 99) (b := r15) (c := false) (by kernel_rfl) (Bool.eq_false_iff.2 hc13) ?_
              refine ge_batch [14, 15, 16] (ans := []) (vs := [(102, undef), (101, undef), (100, undef)]) (l := []) (by kernel_rfl) trivial ?_
              refine ge_off rfl rfl rfl (by kernel_rfl) ?_
              refine ge_batch [18, 19] (ans := []) (vs := [(6, .bool false), (104, .bool false)]) (l := []) (by kernel_rfl) trivial ?_
              refine ge_nil fun a hF => hK27 _ _ ?_ a hF
              have hS78 := hS74.takeN 0
              obtain rfl := Option.some.inj h
              exact we_ret (post_ret (rs := [.tmp 6]) (ans := []) (vs := [.bool false]) (l := []) rfl (by kernel_rfl) trivial ⟨rfl, hS78⟩)
          · rw [if_neg hc12] at h
            refine ge_known (t := 93) (b := (SFault.eqb r13 r14)) (c := false) (by kernel_rfl) (Bool.eq_false_iff.2 hc12) ?_
            refine ge_batch [8, 9, 10] (ans := []) (vs := [(96, undef), (95, undef), (94, undef)]) (l := []) (by kernel_rfl) trivial ?_
            refine ge_off rfl rfl rfl (by kernel_rfl) ?_
            refine ge_batch [12, 13, 14, 15, 16] (ans := []) (vs := [(102, undef), (101, undef), (100, undef), (99, .bool false), (98, .bool false)]) (l := []) (by kernel_rfl) trivial ?_
            refine ge_off rfl rfl rfl (by kernel_rfl) ?_
            refine ge_batch [18, 19] (ans := []) (vs := [(6, .bool false), (104, .bool false)]) (l := []) (by kernel_rfl) trivial ?_
            refine ge_nil fun a hF => hK27 _ _ ?_ a hF
            have hS79 := hS72.takeN 0
            obtain rfl := Option.some.inj h
            exact we_ret (post_ret (rs := [.tmp 6]) (ans := []) (vs := [.bool false]) (l := []) rfl (by kernel_rfl) trivial ⟨rfl, hS79⟩)
      · rw [hq13] at h
        simp only [] at h
        refine we_iter (A := TasksComes.A2 K w0 l0 A0 c0 x1 l2 A2 c2 hR0 hL0 hR2 hL2 hG1 hG2 Z1 cz1 r1 b1 Z2 cz2 Z3 cz3 hcp1 Z4 cz4 hcp2 r5 b3 Z5 cz5) (B := TasksComes.B2 K w0 l0 A0 c0 x1 l2 A2 c2 hR0 hL0 hR2 hL2 hG1 hG2 Z1 cz1 r1 b1 Z2 cz2 Z3 cz3 hcp1 Z4 cz4 hcp2 r5 b3 Z5 cz5) hq13 (fun a hF => ⟨hS33, hF.weaken ⟨by kernel_rfl, by kernel_rfl, by kernel_rfl, by kernel_rfl, by kernel_rfl, by kernel_rfl, by kernel_rfl, by kernel_rfl, trivial⟩⟩) (fun s o hf a w hA Q hQ => TasksComes_r2 K w0 l0 A0 c0 x1 l2 A2 c2 hR0 hL0 hR2 hL2 hG1 hG2 Z1 cz1 r1 b1 Z2 cz2 Z3 cz3 hcp1 Z4 cz4 hcp2 r5 b3 Z5 cz5 s o hf a w hA Q hQ) ?_
        rintro _ a w1 _ ⟨rfl, hb⟩
        obtain rfl := Option.some.inj h
        exact hb
    · rw [hq7] at h
      simp only [] at h
      refine we_keep (e' := [(0, .slice A0 l0.length c0), (1, .int .i64 x1), (2, .slice A2 l2.length c2)]) ⟨by kernel_rfl, by kernel_rfl, by kernel_rfl, trivial⟩ (TasksComes_p1 K w0 l0 A0 c0 x1 l2 A2 c2 hR0 hL0 hR2 hL2 hG1 hG2 Z1 cz1 r1 b1 Z2 cz2 _ hq7 _ hS14 _ ?_)
      rintro _ a w1 ⟨_, rfl, hb⟩
      obtain rfl := Option.some.inj h
      exact hb
  · rw [hq4] at h
    simp only [] at h
    refine we_keep (e' := [(0, .slice A0 l0.length c0), (1, .int .i64 x1), (2, .slice A2 l2.length c2), (6, .bool false), (7, (.slice Z2 r1.1.length cz2)), (8, .pointer (some ⟨b1, 0, none⟩)), (15, .tuple #[(.slice Z2 r1.1.length cz2), .agg #[.int .i64 r1.2.Code, .int .i64 r1.2.At]]), (16, (.slice Z1 three.f.length cz1)), (17, .tuple #[(.slice Z2 r1.1.length cz2), .agg #[.int .i64 r1.2.Code, .int .i64 r1.2.At]]), (18, (.slice Z2 r1.1.length cz2)), (19, .agg #[.int .i64 r1.2.Code, .int .i64 r1.2.At])]) ⟨by kernel_rfl, by kernel_rfl, by kernel_rfl, by kernel_rfl, by kernel_rfl, by kernel_rfl, by kernel_rfl, by kernel_rfl, by kernel_rfl, by kernel_rfl, by kernel_rfl, trivial⟩ (TasksComes_p0 K w0 l0 A0 c0 x1 l2 A2 c2 hR0 hL0 hR2 hL2 hG1 hG2 Z1 cz1 r1 b1 Z2 cz2 _ hq4 _ hS7 _ ?_)
    rintro _ a w1 ⟨_, rfl, hb⟩
    obtain rfl := Option.some.inj h
    exact hb
end Go.Proofs.YtlipdmblinjjaaaDoor.GV
