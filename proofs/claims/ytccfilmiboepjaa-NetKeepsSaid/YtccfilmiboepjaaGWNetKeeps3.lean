/- Walks of single functions, written by a program of this work. -/
import Derived.Test.YtccfilmiboepjaaGWNetKeeps2
namespace Go.Proofs.Ytccfilmiboepjaa.GV
open Go Go.RowKit
set_option linter.unusedVariables false
set_option linter.unusedSimpArgs false
set_option maxRecDepth 100000

/-! punctual/net.Send -/
abbrev net_Send.Post (w0 : World) (r : SPlayed × SFault) (e : Ending) (w : World) : Prop := ∃ (v0 : Value) (v1 : Value), e = .returned (.tuple #[.agg #[v0, v1], .agg #[.int .i64 r.2.Code, .int .i64 r.2.At]]) ∧ St w0 w [Own.of v0 3 r.1.Runs, Own.of v1 3 r.1.Ends]
def net_Send.p0 (l1 : List SCome) (l2 : List Int) : Option (Unit ⊕ (SPlayed × SFault)) :=
    if (l1.length : Int) > 4000 then
      some (.inr ((⟨([] : List Int), ([] : List Int)⟩ : SPlayed), (⟨2, 0⟩ : SFault)))
    else
      if (l2.length : Int) = (l1.length : Int) then
        some (.inl ())
      else
        some (.inr ((⟨([] : List Int), ([] : List Int)⟩ : SPlayed), (⟨2, 0⟩ : SFault)))
def net_Send.p2 (l0 : List SFrame) (i1 : Nat) (e1 : SCome) : Option (Unit ⊕ (SPlayed × SFault)) :=
    if e1.Task < 0 then
      some (.inr ((⟨([] : List Int), ([] : List Int)⟩ : SPlayed), (⟨4, (i1 : Int)⟩ : SFault)))
    else
      if e1.Task ≥ (l0.length : Int) then
        some (.inr ((⟨([] : List Int), ([] : List Int)⟩ : SPlayed), (⟨4, (i1 : Int)⟩ : SFault)))
      else
        some (.inl ())
def net_Send.p3 (l2 : List Int) (i1 : Nat) (e1 : SCome) (e2 : SFrame) : Option (Unit ⊕ (SPlayed × SFault)) :=
    if e1.At < 0 then
      some (.inr ((⟨([] : List Int), ([] : List Int)⟩ : SPlayed), (⟨3, (i1 : Int)⟩ : SFault)))
    else
      if e1.At > 20000 then
        some (.inr ((⟨([] : List Int), ([] : List Int)⟩ : SPlayed), (⟨3, (i1 : Int)⟩ : SFault)))
      else
        match l2[i1]? with
        | none => none
        | some e3 =>
          if e3 < 0 then
            some (.inr ((⟨([] : List Int), ([] : List Int)⟩ : SPlayed), (⟨3, (i1 : Int)⟩ : SFault)))
          else
            if e3 > e2.J then
              some (.inr ((⟨([] : List Int), ([] : List Int)⟩ : SPlayed), (⟨3, (i1 : Int)⟩ : SFault)))
            else
              some (.inl ())
def net_Send.r1 (l0 : List SFrame) (l1 : List SCome) (l2 : List Int) : (List SJob) × Nat → Option (((List SJob) × Nat) ⊕ ((List SJob) ⊕ (SPlayed × SFault)))
  | (m1, i1) =>
    if (i1 : Int) < (l1.length : Int) then
      match l1[i1]? with
      | none => none
      | some e1 =>
        match net_Send.p2 l0 i1 e1 with
        | none => none
        | some (.inl _) =>
          if 0 ≤ e1.Task then
            match l0[(e1.Task).toNat]? with
            | none => none
            | some e2 =>
              match net_Send.p3 l2 i1 e1 e2 with
              | none => none
              | some (.inl _) =>
                match l2[i1]? with
                | none => none
                | some e4 =>
                  if m1.length < 3518437208883 then
                    some (.inl ((m1 ++ [(⟨e1.Task, IntKind.i64.wrap (e1.At + e4), e2.C, IntKind.i64.wrap (e1.At + e2.D), IntKind.i64.wrap ((l0.length : Int) - e1.Task)⟩ : SJob)]), (i1 + 1)))
                  else
                    none
              | some (.inr rr1) =>
                some (.inr (.inr rr1))
          else
            none
        | some (.inr rr2) =>
          some (.inr (.inr rr2))
    else
      some (.inr (.inl m1))
def net_Send.p4 (r1 : SFault) : Option ((Int × Int × (List Int) × (List Int)) ⊕ (SPlayed × SFault)) :=
    some (.inl (r1.Code, r1.At, ([] : List Int), ([] : List Int)))
def net_Send.f (K : Nat) (l0 : List SFrame) (l1 : List SCome) (l2 : List Int) (x3 : Int) : Option (SPlayed × SFault) :=
  match net_Check.f K l0 with
  | none => none
  | some r1 =>
    if r1.Code = 0 then
      match net_Send.p0 l1 l2 with
      | none => none
      | some (.inl _) =>
        match iter (net_Send.r1 l0 l1 l2) K (([] : List SJob), 0) with
        | none => none
        | some (.inl m3) =>
          match sched_Play.f K m3 1 false x3 with
          | none => none
          | some r2 =>
            some (r2.1, r2.2)
        | some (.inr rr3) =>
          some rr3
      | some (.inr rr4) =>
        some rr4
    else
      match net_Send.p4 r1 with
      | none => none
      | some (.inl (z3, z4, m6, m7)) =>
        some ((⟨m6, m7⟩ : SPlayed), (⟨z3, z4⟩ : SFault))
      | some (.inr rr5) =>
        some rr5
abbrev net_Send.A0 (K : Nat) (w0 : World) (l0 : List SFrame) (A0 : Option Addr) (c0 : Nat) (l1 : List SCome) (A1 : Option Addr) (c1 : Nat) (l2 : List Int) (A2 : Option Addr) (c2 : Nat) (x3 : Int) (hR0 : RdL w0 A0 l0) (hL0 : l0.length ≤ c0) (hR1 : RdL w0 A1 l1) (hL1 : l1.length ≤ c1) (hR2 : RdL w0 A2 l2) (hL2 : l2.length ≤ c2) (b1 : Nat) (b2 : Nat) (r1 : SFault) (b3 : Nat) (hc1 : r1.Code = 0) : Unit → Act → World → Prop := fun (s : Unit) a w => St w0 w [Own.blk b2 (.cells #[.int .i64 0, .int .i64 0] 29 (0, 0)), Own.blk b1 (.cells #[.slice none 0 0, .slice none 0 0] 37 (0, 0))] ∧ Frm 117 a [(0, .slice A0 l0.length c0), (1, .slice A1 l1.length c1), (2, .slice A2 l2.length c2), (3, .int .i64 x3), (8, .pointer (some ⟨b1, 0, none⟩)), (9, .pointer (some ⟨b2, 0, none⟩))]
abbrev net_Send.B0 (K : Nat) (w0 : World) (l0 : List SFrame) (A0 : Option Addr) (c0 : Nat) (l1 : List SCome) (A1 : Option Addr) (c1 : Nat) (l2 : List Int) (A2 : Option Addr) (c2 : Nat) (x3 : Int) (hR0 : RdL w0 A0 l0) (hL0 : l0.length ≤ c0) (hR1 : RdL w0 A1 l1) (hL1 : l1.length ≤ c1) (hR2 : RdL w0 A2 l2) (hL2 : l2.length ≤ c2) (b1 : Nat) (b2 : Nat) (r1 : SFault) (b3 : Nat) (hc1 : r1.Code = 0) : (SPlayed × SFault) → Exit → Act → World → Prop := Rets Try.prog Try.f15 (net_Send.Post w0)
theorem net_Send_p0 (K : Nat) (w0 : World) (l0 : List SFrame) (A0 : Option Addr) (c0 : Nat) (l1 : List SCome) (A1 : Option Addr) (c1 : Nat) (l2 : List Int) (A2 : Option Addr) (c2 : Nat) (x3 : Int) (hR0 : RdL w0 A0 l0) (hL0 : l0.length ≤ c0) (hR1 : RdL w0 A1 l1) (hL1 : l1.length ≤ c1) (hR2 : RdL w0 A2 l2) (hL2 : l2.length ≤ c2) (b1 : Nat) (b2 : Nat) (r1 : SFault) (b3 : Nat) (hc1 : r1.Code = 0) (o : Unit ⊕ (SPlayed × SFault)) (h : net_Send.p0 l1 l2 = some o) (w : World) (hS : St w0 w [Own.blk b3 (.cells #[.int .i64 r1.Code, .int .i64 r1.At] 29 (0, 0)), Own.blk b2 (.cells #[.int .i64 0, .int .i64 0] 29 (0, 0)), Own.blk b1 (.cells #[.slice none 0 0, .slice none 0 0] 37 (0, 0))]) (Q : Exit → Act → World → Prop) (hQ : ∀ x a w, Outs (net_Send.A0 K w0 l0 A0 c0 l1 A1 c1 l2 A2 c2 x3 hR0 hL0 hR1 hL1 hR2 hL2 b1 b2 r1 b3 hc1) (net_Send.B0 K w0 l0 A0 c0 l1 A1 c1 l2 A2 c2 x3 hR0 hL0 hR1 hL1 hR2 hL2 b1 b2 r1 b3 hc1) o x a w → Q x a w) : WE Try.prog 117 (subF Try.f15 [1, 1, 0]) Q [(0, .slice A0 l0.length c0), (1, .slice A1 l1.length c1), (2, .slice A2 l2.length c2), (3, .int .i64 x3), (8, .pointer (some ⟨b1, 0, none⟩)), (9, .pointer (some ⟨b2, 0, none⟩)), (10, .pointer (some ⟨b3, 0, none⟩)), (15, .slice A0 l0.length c0), (16, .agg #[.int .i64 r1.Code, .int .i64 r1.At]), (17, .pointer (some ⟨b3, 0, none⟩)), (18, .int .i64 r1.Code), (19, .bool false)] w := by
  simp only [net_Send.p0] at h
  refine we_seq fun K6 hK6 => ?_
  refine we_region [(0, 0), (1, 0), (2, 0), (3, 0), (4, 0), (5, 0), (6, 0), (7, 0), (8, 0), (9, 0)] rfl ?_
  refine ge_batch [0, 1, 2, 3] (ans := []) (vs := [(25, .bool (decide ((l1.length : Int) > 4000))), (24, .bool (decide ((l1.length : Int) > 4000))), (23, .int .i64 (l1.length : Int)), (22, .slice A1 l1.length c1)]) (l := []) (by kernel_rfl) trivial ?_
  by_cases hc2 : (l1.length : Int) > 4000
  · rw [if_pos hc2] at h
    refine ge_known (t := 25) (b := decide ((l1.length : Int) > 4000)) (c := true) (by kernel_rfl) (decide_eq_true hc2) ?_
    refine ge_batch [4, 5, 6, 7, 8, 9] (ans := []) (vs := [(31, .bool true), (30, undef), (29, undef), (28, undef), (27, undef), (26, undef)]) (l := []) (by kernel_rfl) trivial ?_
    refine ge_nil fun a hF => hK6 _ _ ?_ a hF
    refine we_true (by kernel_rfl) ?_
    refine we_seq fun K7 hK7 => ?_
    refine we_region [(0, 0), (1, 0), (2, 2), (3, 2)] rfl ?_
    refine ge_batch [0, 1] (ans := []) (vs := [(33, .agg #[.int .i64 2, .int .i64 0]), (32, .agg #[.slice none 0 0, .slice none 0 0])]) (l := []) (by kernel_rfl) trivial ?_
    have hS8 := hS.bring 2 rfl
    refine ge_set (b := b1) (j := 0) (cs := #[.slice none 0 0, .slice none 0 0]) (t := 37) (vs := [.slice none 0 0, .slice none 0 0]) hS8 (by kernel_rfl) rfl rfl fun w6 hS9 => ?_
    have hS10 : St w0 w6 [Own.blk b1 (.cells #[.slice none 0 0, .slice none 0 0] 37 (0, 0)), Own.blk b3 (.cells #[.int .i64 r1.Code, .int .i64 r1.At] 29 (0, 0)), Own.blk b2 (.cells #[.int .i64 0, .int .i64 0] 29 (0, 0))] := hS9
    have hS11 := hS10.bring 2 rfl
    refine ge_set (b := b2) (j := 0) (cs := #[.int .i64 0, .int .i64 0]) (t := 29) (vs := [.int .i64 2, .int .i64 0]) hS11 (by kernel_rfl) rfl rfl fun w7 hS12 => ?_
    have hS13 : St w0 w7 [Own.blk b2 (.cells #[.int .i64 2, .int .i64 0] 29 (0, 0)), Own.blk b1 (.cells #[.slice none 0 0, .slice none 0 0] 37 (0, 0)), Own.blk b3 (.cells #[.int .i64 r1.Code, .int .i64 r1.At] 29 (0, 0))] := hS12
    refine ge_nil fun a hF => hK7 _ _ ?_ a hF
    have hS14 := hS13.nil (α := Int) 3
    have hS15 := hS14.nil (α := Int) 3
    have hS16 := hS15.bring 1 rfl
    have hS17 := hS16.bring 1 rfl
    have hS18 := hS17.takeN 2
    obtain rfl := Option.some.inj h
    exact we_ret fun a hF => hQ _ _ _ (Outs.out nofun ⟨rfl, (post_ret (rs := [.cell 8 37, .cell 9 29]) (ans := [.val ((.slice none 0 0)), .val ((.slice none 0 0)), .val (.int .i64 2), .val (.int .i64 0)]) (vs := [.agg #[(.slice none 0 0), (.slice none 0 0)], .agg #[.int .i64 2, .int .i64 0]]) (l := [.loaded ⟨b1, 0, none⟩ ((.slice none 0 0)), .loaded ⟨b1, 1, none⟩ ((.slice none 0 0)), .loaded ⟨b2, 0, none⟩ (.int .i64 2), .loaded ⟨b2, 1, none⟩ (.int .i64 0)]) rfl (by kernel_rfl) ⟨hS15.cell 3 rfl rfl, hS15.cell 3 rfl rfl, hS15.cell 2 rfl rfl, hS15.cell 2 rfl rfl, trivial⟩ ⟨(.slice none 0 0), (.slice none 0 0), rfl, hS18⟩) a hF⟩)
  · rw [if_neg hc2] at h
    refine ge_known (t := 25) (b := decide ((l1.length : Int) > 4000)) (c := false) (by kernel_rfl) (decide_eq_false hc2) ?_
    refine ge_batch [4, 5, 6, 7, 8, 9] (ans := []) (vs := [(31, .bool ((l2.length : Int) != (l1.length : Int))), (30, .bool ((l2.length : Int) != (l1.length : Int))), (29, .int .i64 (l1.length : Int)), (28, .slice A1 l1.length c1), (27, .int .i64 (l2.length : Int)), (26, .slice A2 l2.length c2)]) (l := []) (by kernel_rfl) trivial ?_
    refine ge_nil fun a hF => hK6 _ _ ?_ a hF
    by_cases hc3 : (l2.length : Int) = (l1.length : Int)
    · rw [if_pos hc3] at h
      refine we_known (t := 31) (b := ((l2.length : Int) != (l1.length : Int))) (v := false) (by kernel_rfl) (bne_eq_false_iff_eq.2 hc3) ?_
      refine we_false (by kernel_rfl) ?_
      have hS19 := hS.bring 2 rfl
      have hS20 := hS19.bring 2 rfl
      have hS21 := hS20.takeN 2
      obtain rfl := Option.some.inj h
      exact we_skip fun a hF => hQ _ _ _ (Outs.again ⟨hS21, hF.weaken ⟨by kernel_rfl, by kernel_rfl, by kernel_rfl, by kernel_rfl, by kernel_rfl, by kernel_rfl, trivial⟩⟩)
    · rw [if_neg hc3] at h
      refine we_known (t := 31) (b := ((l2.length : Int) != (l1.length : Int))) (v := true) (by kernel_rfl) (bne_iff_ne.2 hc3) ?_
      refine we_true (by kernel_rfl) ?_
      refine we_seq fun K8 hK8 => ?_
      refine we_region [(0, 0), (1, 0), (2, 2), (3, 2)] rfl ?_
      refine ge_batch [0, 1] (ans := []) (vs := [(33, .agg #[.int .i64 2, .int .i64 0]), (32, .agg #[.slice none 0 0, .slice none 0 0])]) (l := []) (by kernel_rfl) trivial ?_
      have hS22 := hS.bring 2 rfl
      refine ge_set (b := b1) (j := 0) (cs := #[.slice none 0 0, .slice none 0 0]) (t := 37) (vs := [.slice none 0 0, .slice none 0 0]) hS22 (by kernel_rfl) rfl rfl fun w8 hS23 => ?_
      have hS24 : St w0 w8 [Own.blk b1 (.cells #[.slice none 0 0, .slice none 0 0] 37 (0, 0)), Own.blk b3 (.cells #[.int .i64 r1.Code, .int .i64 r1.At] 29 (0, 0)), Own.blk b2 (.cells #[.int .i64 0, .int .i64 0] 29 (0, 0))] := hS23
      have hS25 := hS24.bring 2 rfl
      refine ge_set (b := b2) (j := 0) (cs := #[.int .i64 0, .int .i64 0]) (t := 29) (vs := [.int .i64 2, .int .i64 0]) hS25 (by kernel_rfl) rfl rfl fun w9 hS26 => ?_
      have hS27 : St w0 w9 [Own.blk b2 (.cells #[.int .i64 2, .int .i64 0] 29 (0, 0)), Own.blk b1 (.cells #[.slice none 0 0, .slice none 0 0] 37 (0, 0)), Own.blk b3 (.cells #[.int .i64 r1.Code, .int .i64 r1.At] 29 (0, 0))] := hS26
      refine ge_nil fun a hF => hK8 _ _ ?_ a hF
      have hS28 := hS27.nil (α := Int) 3
      have hS29 := hS28.nil (α := Int) 3
      have hS30 := hS29.bring 1 rfl
      have hS31 := hS30.bring 1 rfl
      have hS32 := hS31.takeN 2
      obtain rfl := Option.some.inj h
      exact we_ret fun a hF => hQ _ _ _ (Outs.out nofun ⟨rfl, (post_ret (rs := [.cell 8 37, .cell 9 29]) (ans := [.val ((.slice none 0 0)), .val ((.slice none 0 0)), .val (.int .i64 2), .val (.int .i64 0)]) (vs := [.agg #[(.slice none 0 0), (.slice none 0 0)], .agg #[.int .i64 2, .int .i64 0]]) (l := [.loaded ⟨b1, 0, none⟩ ((.slice none 0 0)), .loaded ⟨b1, 1, none⟩ ((.slice none 0 0)), .loaded ⟨b2, 0, none⟩ (.int .i64 2), .loaded ⟨b2, 1, none⟩ (.int .i64 0)]) rfl (by kernel_rfl) ⟨hS29.cell 3 rfl rfl, hS29.cell 3 rfl rfl, hS29.cell 2 rfl rfl, hS29.cell 2 rfl rfl, trivial⟩ ⟨(.slice none 0 0), (.slice none 0 0), rfl, hS32⟩) a hF⟩)
abbrev net_Send.A2 (K : Nat) (w0 : World) (l0 : List SFrame) (A0 : Option Addr) (c0 : Nat) (l1 : List SCome) (A1 : Option Addr) (c1 : Nat) (l2 : List Int) (A2 : Option Addr) (c2 : Nat) (x3 : Int) (hR0 : RdL w0 A0 l0) (hL0 : l0.length ≤ c0) (hR1 : RdL w0 A1 l1) (hL1 : l1.length ≤ c1) (hR2 : RdL w0 A2 l2) (hL2 : l2.length ≤ c2) (b1 : Nat) (b2 : Nat) (r1 : SFault) (b3 : Nat) (hc1 : r1.Code = 0) (m1 : List SJob) (i1 : Nat) (hc4 : (i1 : Int) < (l1.length : Int)) (e1 : SCome) (hx4 : l1[i1]? = some e1) (b4 : Nat) (Z1 : Option Addr) (cz1 : Nat) : Unit → Act → World → Prop := fun (s : Unit) a w => St w0 w [Own.blk b4 (.cells #[.int .i64 e1.Task, .int .i64 e1.At] 33 (0, 0)), Own.blk b2 (.cells #[.int .i64 0, .int .i64 0] 29 (0, 0)), Own.blk b1 (.cells #[.slice none 0 0, .slice none 0 0] 37 (0, 0)), Own.of (.slice Z1 m1.length cz1) 88 m1] ∧ Frm 117 a [(0, .slice A0 l0.length c0), (2, .slice A2 l2.length c2), (3, .int .i64 x3), (8, .pointer (some ⟨b1, 0, none⟩)), (9, .pointer (some ⟨b2, 0, none⟩)), (11, (.slice Z1 m1.length cz1)), (12, .int .i64 (i1 : Int)), (13, .pointer (some ⟨b4, 0, none⟩)), (34, .slice A1 l1.length c1), (35, .int .i64 (l1.length : Int)), (36, .int .i64 (i1 : Int))]
abbrev net_Send.B2 (K : Nat) (w0 : World) (l0 : List SFrame) (A0 : Option Addr) (c0 : Nat) (l1 : List SCome) (A1 : Option Addr) (c1 : Nat) (l2 : List Int) (A2 : Option Addr) (c2 : Nat) (x3 : Int) (hR0 : RdL w0 A0 l0) (hL0 : l0.length ≤ c0) (hR1 : RdL w0 A1 l1) (hL1 : l1.length ≤ c1) (hR2 : RdL w0 A2 l2) (hL2 : l2.length ≤ c2) (b1 : Nat) (b2 : Nat) (r1 : SFault) (b3 : Nat) (hc1 : r1.Code = 0) (m1 : List SJob) (i1 : Nat) (hc4 : (i1 : Int) < (l1.length : Int)) (e1 : SCome) (hx4 : l1[i1]? = some e1) (b4 : Nat) (Z1 : Option Addr) (cz1 : Nat) : (SPlayed × SFault) → Exit → Act → World → Prop := Rets Try.prog Try.f15 (net_Send.Post w0)
theorem net_Send_p2 (K : Nat) (w0 : World) (l0 : List SFrame) (A0 : Option Addr) (c0 : Nat) (l1 : List SCome) (A1 : Option Addr) (c1 : Nat) (l2 : List Int) (A2 : Option Addr) (c2 : Nat) (x3 : Int) (hR0 : RdL w0 A0 l0) (hL0 : l0.length ≤ c0) (hR1 : RdL w0 A1 l1) (hL1 : l1.length ≤ c1) (hR2 : RdL w0 A2 l2) (hL2 : l2.length ≤ c2) (b1 : Nat) (b2 : Nat) (r1 : SFault) (b3 : Nat) (hc1 : r1.Code = 0) (m1 : List SJob) (i1 : Nat) (hc4 : (i1 : Int) < (l1.length : Int)) (e1 : SCome) (hx4 : l1[i1]? = some e1) (b4 : Nat) (Z1 : Option Addr) (cz1 : Nat) (o : Unit ⊕ (SPlayed × SFault)) (h : net_Send.p2 l0 i1 e1 = some o) (w : World) (hS : St w0 w [Own.blk b4 (.cells #[.int .i64 e1.Task, .int .i64 e1.At] 33 (0, 0)), Own.blk b2 (.cells #[.int .i64 0, .int .i64 0] 29 (0, 0)), Own.blk b1 (.cells #[.slice none 0 0, .slice none 0 0] 37 (0, 0)), Own.of (.slice Z1 m1.length cz1) 88 m1]) (Q : Exit → Act → World → Prop) (hQ : ∀ x a w, Outs (net_Send.A2 K w0 l0 A0 c0 l1 A1 c1 l2 A2 c2 x3 hR0 hL0 hR1 hL1 hR2 hL2 b1 b2 r1 b3 hc1 m1 i1 hc4 e1 hx4 b4 Z1 cz1) (net_Send.B2 K w0 l0 A0 c0 l1 A1 c1 l2 A2 c2 x3 hR0 hL0 hR1 hL1 hR2 hL2 b1 b2 r1 b3 hc1 m1 i1 hc4 e1 hx4 b4 Z1 cz1) o x a w → Q x a w) : WE Try.prog 117 (subF Try.f15 [1, 1, 1, 1, 0, 1, 0, 0, 1, 1, 0, 0, 1, 0]) Q [(0, .slice A0 l0.length c0), (2, .slice A2 l2.length c2), (3, .int .i64 x3), (8, .pointer (some ⟨b1, 0, none⟩)), (9, .pointer (some ⟨b2, 0, none⟩)), (11, (.slice Z1 m1.length cz1)), (12, .int .i64 (i1 : Int)), (13, .pointer (some ⟨b4, 0, none⟩)), (34, .slice A1 l1.length c1), (35, .int .i64 (l1.length : Int)), (36, .int .i64 (i1 : Int)), (37, .bool true), (38, .int .i64 (i1 : Int)), (39, .pointer (some ⟨blkOf A1, offOf A1 + i1 * 2, none⟩)), (40, .agg #[.int .i64 e1.Task, .int .i64 e1.At])] w := by
  simp only [net_Send.p2] at h
  refine we_seq fun K17 hK17 => ?_
  refine we_region [(0, 0), (1, 0), (2, 0), (3, 0), (4, 0), (5, 0), (6, 0), (7, 0), (8, 0), (9, 0)] rfl ?_
  refine ge_batch [0, 1, 2, 3] (ans := [.val (.int .i64 e1.Task)]) (vs := [(44, .bool (decide (e1.Task < 0))), (43, .bool (decide (e1.Task < 0))), (42, .int .i64 e1.Task), (41, .pointer (some ⟨b4, 0, none⟩))]) (l := [.loaded ⟨b4, 0, none⟩ (.int .i64 e1.Task)]) (by kernel_rfl) ⟨hS.cell 0 rfl rfl, trivial⟩ ?_
  by_cases hc5 : e1.Task < 0
  · rw [if_pos hc5] at h
    refine ge_known (t := 44) (b := decide (e1.Task < 0)) (c := true) (by kernel_rfl) (decide_eq_true hc5) ?_
    refine ge_batch [4, 5, 6, 7, 8, 9] (ans := []) (vs := [(50, .bool true), (49, undef), (48, undef), (47, undef), (46, undef), (45, undef)]) (l := []) (by kernel_rfl) trivial ?_
    refine ge_nil fun a hF => hK17 _ _ ?_ a hF
    refine we_true (by kernel_rfl) ?_
    refine we_seq fun K18 hK18 => ?_
    refine we_region [(0, 0), (1, 0), (2, 0), (3, 2), (4, 2)] rfl ?_
    refine ge_batch [0, 1, 2] (ans := []) (vs := [(53, .agg #[.int .i64 4, .int .i64 (i1 : Int)]), (52, .int .i64 (i1 : Int)), (51, .agg #[.slice none 0 0, .slice none 0 0])]) (l := []) (by kernel_rfl) trivial ?_
    have hS40 := hS.bring 2 rfl
    refine ge_set (b := b1) (j := 0) (cs := #[.slice none 0 0, .slice none 0 0]) (t := 37) (vs := [.slice none 0 0, .slice none 0 0]) hS40 (by kernel_rfl) rfl rfl fun w13 hS41 => ?_
    have hS42 : St w0 w13 [Own.blk b1 (.cells #[.slice none 0 0, .slice none 0 0] 37 (0, 0)), Own.blk b4 (.cells #[.int .i64 e1.Task, .int .i64 e1.At] 33 (0, 0)), Own.blk b2 (.cells #[.int .i64 0, .int .i64 0] 29 (0, 0)), Own.of (.slice Z1 m1.length cz1) 88 m1] := hS41
    have hS43 := hS42.bring 2 rfl
    refine ge_set (b := b2) (j := 0) (cs := #[.int .i64 0, .int .i64 0]) (t := 29) (vs := [.int .i64 4, .int .i64 (i1 : Int)]) hS43 (by kernel_rfl) rfl rfl fun w14 hS44 => ?_
    have hS45 : St w0 w14 [Own.blk b2 (.cells #[.int .i64 4, .int .i64 (i1 : Int)] 29 (0, 0)), Own.blk b1 (.cells #[.slice none 0 0, .slice none 0 0] 37 (0, 0)), Own.blk b4 (.cells #[.int .i64 e1.Task, .int .i64 e1.At] 33 (0, 0)), Own.of (.slice Z1 m1.length cz1) 88 m1] := hS44
    refine ge_nil fun a hF => hK18 _ _ ?_ a hF
    have hS46 := hS45.nil (α := Int) 3
    have hS47 := hS46.nil (α := Int) 3
    have hS48 := hS47.bring 1 rfl
    have hS49 := hS48.bring 1 rfl
    have hS50 := hS49.takeN 2
    obtain rfl := Option.some.inj h
    exact we_ret fun a hF => hQ _ _ _ (Outs.out nofun ⟨rfl, (post_ret (rs := [.cell 8 37, .cell 9 29]) (ans := [.val ((.slice none 0 0)), .val ((.slice none 0 0)), .val (.int .i64 4), .val (.int .i64 (i1 : Int))]) (vs := [.agg #[(.slice none 0 0), (.slice none 0 0)], .agg #[.int .i64 4, .int .i64 (i1 : Int)]]) (l := [.loaded ⟨b1, 0, none⟩ ((.slice none 0 0)), .loaded ⟨b1, 1, none⟩ ((.slice none 0 0)), .loaded ⟨b2, 0, none⟩ (.int .i64 4), .loaded ⟨b2, 1, none⟩ (.int .i64 (i1 : Int))]) rfl (by kernel_rfl) ⟨hS47.cell 3 rfl rfl, hS47.cell 3 rfl rfl, hS47.cell 2 rfl rfl, hS47.cell 2 rfl rfl, trivial⟩ ⟨(.slice none 0 0), (.slice none 0 0), rfl, hS50⟩) a hF⟩)
  · rw [if_neg hc5] at h
    refine ge_known (t := 44) (b := decide (e1.Task < 0)) (c := false) (by kernel_rfl) (decide_eq_false hc5) ?_
    refine ge_batch [4, 5, 6, 7, 8, 9] (ans := [.val (.int .i64 e1.Task)]) (vs := [(50, .bool (decide (e1.Task ≥ (l0.length : Int)))), (49, .bool (decide (e1.Task ≥ (l0.length : Int)))), (48, .int .i64 (l0.length : Int)), (47, .slice A0 l0.length c0), (46, .int .i64 e1.Task), (45, .pointer (some ⟨b4, 0, none⟩))]) (l := [.loaded ⟨b4, 0, none⟩ (.int .i64 e1.Task)]) (by kernel_rfl) ⟨hS.cell 0 rfl rfl, trivial⟩ ?_
    refine ge_nil fun a hF => hK17 _ _ ?_ a hF
    by_cases hc6 : e1.Task ≥ (l0.length : Int)
    · rw [if_pos hc6] at h
      refine we_known (t := 50) (b := decide (e1.Task ≥ (l0.length : Int))) (v := true) (by kernel_rfl) (decide_eq_true hc6) ?_
      refine we_true (by kernel_rfl) ?_
      refine we_seq fun K19 hK19 => ?_
      refine we_region [(0, 0), (1, 0), (2, 0), (3, 2), (4, 2)] rfl ?_
      refine ge_batch [0, 1, 2] (ans := []) (vs := [(53, .agg #[.int .i64 4, .int .i64 (i1 : Int)]), (52, .int .i64 (i1 : Int)), (51, .agg #[.slice none 0 0, .slice none 0 0])]) (l := []) (by kernel_rfl) trivial ?_
      have hS51 := hS.bring 2 rfl
      refine ge_set (b := b1) (j := 0) (cs := #[.slice none 0 0, .slice none 0 0]) (t := 37) (vs := [.slice none 0 0, .slice none 0 0]) hS51 (by kernel_rfl) rfl rfl fun w15 hS52 => ?_
      have hS53 : St w0 w15 [Own.blk b1 (.cells #[.slice none 0 0, .slice none 0 0] 37 (0, 0)), Own.blk b4 (.cells #[.int .i64 e1.Task, .int .i64 e1.At] 33 (0, 0)), Own.blk b2 (.cells #[.int .i64 0, .int .i64 0] 29 (0, 0)), Own.of (.slice Z1 m1.length cz1) 88 m1] := hS52
      have hS54 := hS53.bring 2 rfl
      refine ge_set (b := b2) (j := 0) (cs := #[.int .i64 0, .int .i64 0]) (t := 29) (vs := [.int .i64 4, .int .i64 (i1 : Int)]) hS54 (by kernel_rfl) rfl rfl fun w16 hS55 => ?_
      have hS56 : St w0 w16 [Own.blk b2 (.cells #[.int .i64 4, .int .i64 (i1 : Int)] 29 (0, 0)), Own.blk b1 (.cells #[.slice none 0 0, .slice none 0 0] 37 (0, 0)), Own.blk b4 (.cells #[.int .i64 e1.Task, .int .i64 e1.At] 33 (0, 0)), Own.of (.slice Z1 m1.length cz1) 88 m1] := hS55
      refine ge_nil fun a hF => hK19 _ _ ?_ a hF
      have hS57 := hS56.nil (α := Int) 3
      have hS58 := hS57.nil (α := Int) 3
      have hS59 := hS58.bring 1 rfl
      have hS60 := hS59.bring 1 rfl
      have hS61 := hS60.takeN 2
      obtain rfl := Option.some.inj h
      exact we_ret fun a hF => hQ _ _ _ (Outs.out nofun ⟨rfl, (post_ret (rs := [.cell 8 37, .cell 9 29]) (ans := [.val ((.slice none 0 0)), .val ((.slice none 0 0)), .val (.int .i64 4), .val (.int .i64 (i1 : Int))]) (vs := [.agg #[(.slice none 0 0), (.slice none 0 0)], .agg #[.int .i64 4, .int .i64 (i1 : Int)]]) (l := [.loaded ⟨b1, 0, none⟩ ((.slice none 0 0)), .loaded ⟨b1, 1, none⟩ ((.slice none 0 0)), .loaded ⟨b2, 0, none⟩ (.int .i64 4), .loaded ⟨b2, 1, none⟩ (.int .i64 (i1 : Int))]) rfl (by kernel_rfl) ⟨hS58.cell 3 rfl rfl, hS58.cell 3 rfl rfl, hS58.cell 2 rfl rfl, hS58.cell 2 rfl rfl, trivial⟩ ⟨(.slice none 0 0), (.slice none 0 0), rfl, hS61⟩) a hF⟩)
    · rw [if_neg hc6] at h
      refine we_known (t := 50) (b := decide (e1.Task ≥ (l0.length : Int))) (v := false) (by kernel_rfl) (decide_eq_false hc6) ?_
      refine we_false (by kernel_rfl) ?_
      have hS62 := hS.bring 3 rfl
      have hS63 := hS62.bring 3 rfl
      have hS64 := hS63.bring 3 rfl
      have hS65 := hS64.bring 3 rfl
      obtain rfl := Option.some.inj h
      exact we_skip fun a hF => hQ _ _ _ (Outs.again ⟨hS65, hF.weaken ⟨by kernel_rfl, by kernel_rfl, by kernel_rfl, by kernel_rfl, by kernel_rfl, by kernel_rfl, by kernel_rfl, by kernel_rfl, by kernel_rfl, by kernel_rfl, by kernel_rfl, trivial⟩⟩)
abbrev net_Send.A3 (K : Nat) (w0 : World) (l0 : List SFrame) (A0 : Option Addr) (c0 : Nat) (l1 : List SCome) (A1 : Option Addr) (c1 : Nat) (l2 : List Int) (A2 : Option Addr) (c2 : Nat) (x3 : Int) (hR0 : RdL w0 A0 l0) (hL0 : l0.length ≤ c0) (hR1 : RdL w0 A1 l1) (hL1 : l1.length ≤ c1) (hR2 : RdL w0 A2 l2) (hL2 : l2.length ≤ c2) (b1 : Nat) (b2 : Nat) (r1 : SFault) (b3 : Nat) (hc1 : r1.Code = 0) (m1 : List SJob) (i1 : Nat) (hc4 : (i1 : Int) < (l1.length : Int)) (e1 : SCome) (hx4 : l1[i1]? = some e1) (b4 : Nat) (Z1 : Option Addr) (cz1 : Nat) (hc7 : 0 ≤ e1.Task) (e2 : SFrame) (hx6 : l0[(e1.Task).toNat]? = some e2) (b5 : Nat) : Unit → Act → World → Prop := fun (s : Unit) a w => St w0 w [Own.blk b5 (.cells #[.int .i64 e2.C, .int .i64 e2.T, .int .i64 e2.D, .int .i64 e2.J] 47 (0, 0)), Own.blk b4 (.cells #[.int .i64 e1.Task, .int .i64 e1.At] 33 (0, 0)), Own.blk b2 (.cells #[.int .i64 0, .int .i64 0] 29 (0, 0)), Own.blk b1 (.cells #[.slice none 0 0, .slice none 0 0] 37 (0, 0)), Own.of (.slice Z1 m1.length cz1) 88 m1] ∧ Frm 117 a [(0, .slice A0 l0.length c0), (2, .slice A2 l2.length c2), (3, .int .i64 x3), (8, .pointer (some ⟨b1, 0, none⟩)), (9, .pointer (some ⟨b2, 0, none⟩)), (11, (.slice Z1 m1.length cz1)), (12, .int .i64 (i1 : Int)), (13, .pointer (some ⟨b4, 0, none⟩)), (14, .pointer (some ⟨b5, 0, none⟩)), (34, .slice A1 l1.length c1), (35, .int .i64 (l1.length : Int)), (36, .int .i64 (i1 : Int))]
abbrev net_Send.B3 (K : Nat) (w0 : World) (l0 : List SFrame) (A0 : Option Addr) (c0 : Nat) (l1 : List SCome) (A1 : Option Addr) (c1 : Nat) (l2 : List Int) (A2 : Option Addr) (c2 : Nat) (x3 : Int) (hR0 : RdL w0 A0 l0) (hL0 : l0.length ≤ c0) (hR1 : RdL w0 A1 l1) (hL1 : l1.length ≤ c1) (hR2 : RdL w0 A2 l2) (hL2 : l2.length ≤ c2) (b1 : Nat) (b2 : Nat) (r1 : SFault) (b3 : Nat) (hc1 : r1.Code = 0) (m1 : List SJob) (i1 : Nat) (hc4 : (i1 : Int) < (l1.length : Int)) (e1 : SCome) (hx4 : l1[i1]? = some e1) (b4 : Nat) (Z1 : Option Addr) (cz1 : Nat) (hc7 : 0 ≤ e1.Task) (e2 : SFrame) (hx6 : l0[(e1.Task).toNat]? = some e2) (b5 : Nat) : (SPlayed × SFault) → Exit → Act → World → Prop := Rets Try.prog Try.f15 (net_Send.Post w0)
theorem net_Send_p3 (K : Nat) (w0 : World) (l0 : List SFrame) (A0 : Option Addr) (c0 : Nat) (l1 : List SCome) (A1 : Option Addr) (c1 : Nat) (l2 : List Int) (A2 : Option Addr) (c2 : Nat) (x3 : Int) (hR0 : RdL w0 A0 l0) (hL0 : l0.length ≤ c0) (hR1 : RdL w0 A1 l1) (hL1 : l1.length ≤ c1) (hR2 : RdL w0 A2 l2) (hL2 : l2.length ≤ c2) (b1 : Nat) (b2 : Nat) (r1 : SFault) (b3 : Nat) (hc1 : r1.Code = 0) (m1 : List SJob) (i1 : Nat) (hc4 : (i1 : Int) < (l1.length : Int)) (e1 : SCome) (hx4 : l1[i1]? = some e1) (b4 : Nat) (Z1 : Option Addr) (cz1 : Nat) (hc7 : 0 ≤ e1.Task) (e2 : SFrame) (hx6 : l0[(e1.Task).toNat]? = some e2) (b5 : Nat) (o : Unit ⊕ (SPlayed × SFault)) (h : net_Send.p3 l2 i1 e1 e2 = some o) (w : World) (hS : St w0 w [Own.blk b5 (.cells #[.int .i64 e2.C, .int .i64 e2.T, .int .i64 e2.D, .int .i64 e2.J] 47 (0, 0)), Own.blk b4 (.cells #[.int .i64 e1.Task, .int .i64 e1.At] 33 (0, 0)), Own.blk b2 (.cells #[.int .i64 0, .int .i64 0] 29 (0, 0)), Own.blk b1 (.cells #[.slice none 0 0, .slice none 0 0] 37 (0, 0)), Own.of (.slice Z1 m1.length cz1) 88 m1]) (Q : Exit → Act → World → Prop) (hQ : ∀ x a w, Outs (net_Send.A3 K w0 l0 A0 c0 l1 A1 c1 l2 A2 c2 x3 hR0 hL0 hR1 hL1 hR2 hL2 b1 b2 r1 b3 hc1 m1 i1 hc4 e1 hx4 b4 Z1 cz1 hc7 e2 hx6 b5) (net_Send.B3 K w0 l0 A0 c0 l1 A1 c1 l2 A2 c2 x3 hR0 hL0 hR1 hL1 hR2 hL2 b1 b2 r1 b3 hc1 m1 i1 hc4 e1 hx4 b4 Z1 cz1 hc7 e2 hx6 b5) o x a w → Q x a w) : WE Try.prog 117 (subF Try.f15 [1, 1, 1, 1, 0, 1, 0, 0, 1, 1, 0, 0, 1, 1, 1, 0]) Q [(0, .slice A0 l0.length c0), (2, .slice A2 l2.length c2), (3, .int .i64 x3), (8, .pointer (some ⟨b1, 0, none⟩)), (9, .pointer (some ⟨b2, 0, none⟩)), (11, (.slice Z1 m1.length cz1)), (12, .int .i64 (i1 : Int)), (13, .pointer (some ⟨b4, 0, none⟩)), (14, .pointer (some ⟨b5, 0, none⟩)), (34, .slice A1 l1.length c1), (35, .int .i64 (l1.length : Int)), (36, .int .i64 (i1 : Int)), (54, .slice A0 l0.length c0), (55, .pointer (some ⟨b4, 0, none⟩)), (56, .int .i64 e1.Task), (57, .pointer (some ⟨blkOf A0, offOf A0 + (e1.Task).toNat * 4, none⟩)), (58, .agg #[.int .i64 e2.C, .int .i64 e2.T, .int .i64 e2.D, .int .i64 e2.J])] w := by
  simp only [net_Send.p3] at h
  refine we_seq fun K22 hK22 => ?_
  refine we_draws (by kernel_rfl) [(0, 0), (1, 0), (2, 0), (3, 0), (4, 0), (5, 0), (6, 0), (7, 0), (8, 0), (9, 0), (10, 0), (11, 0), (12, 0), (13, 0), (14, 0), (15, 0), (16, 0), (17, 0), (18, 0), (19, 0), (20, 0), (21, 0), (22, 0), (23, 0)] (by kernel_rfl) ?_
  have hS70 := hS.drew
  refine ge_batch [0, 1, 2, 3] (ans := [.val (.int .i64 e1.At)]) (vs := [(62, .bool (decide (e1.At < 0))), (61, .bool (decide (e1.At < 0))), (60, .int .i64 e1.At), (59, .pointer (some ⟨b4, 1, none⟩))]) (l := [.loaded ⟨b4, 1, none⟩ (.int .i64 e1.At)]) (by kernel_rfl) ⟨hS70.cell 1 rfl rfl, trivial⟩ ?_
  by_cases hc8 : e1.At < 0
  · rw [if_pos hc8] at h
    refine ge_known (t := 62) (b := decide (e1.At < 0)) (c := true) (by kernel_rfl) (decide_eq_true hc8) ?_
    refine ge_batch [4, 5, 6, 7, 8, 9, 10, 11, 12, 13, 14, 15, 16, 17, 18, 19, 20, 21, 22, 23] (ans := []) (vs := [(82, .bool true), (81, undef), (80, undef), (79, undef), (78, undef), (77, undef), (76, undef), (75, undef), (74, .bool true), (73, .bool true), (72, undef), (71, undef), (70, undef), (69, undef), (68, undef), (67, .bool true), (66, .bool true), (65, undef), (64, undef), (63, undef)]) (l := []) (by kernel_rfl) trivial ?_
    refine ge_nil fun a hF => hK22 _ _ ?_ a hF
    refine we_true (by kernel_rfl) ?_
    refine we_seq fun K23 hK23 => ?_
    refine we_region [(0, 0), (1, 0), (2, 0), (3, 2), (4, 2)] rfl ?_
    refine ge_batch [0, 1, 2] (ans := []) (vs := [(85, .agg #[.int .i64 3, .int .i64 (i1 : Int)]), (84, .int .i64 (i1 : Int)), (83, .agg #[.slice none 0 0, .slice none 0 0])]) (l := []) (by kernel_rfl) trivial ?_
    have hS71 := hS70.bring 3 rfl
    refine ge_set (b := b1) (j := 0) (cs := #[.slice none 0 0, .slice none 0 0]) (t := 37) (vs := [.slice none 0 0, .slice none 0 0]) hS71 (by kernel_rfl) rfl rfl fun w20 hS72 => ?_
    have hS73 : St w0 w20 [Own.blk b1 (.cells #[.slice none 0 0, .slice none 0 0] 37 (0, 0)), Own.blk b5 (.cells #[.int .i64 e2.C, .int .i64 e2.T, .int .i64 e2.D, .int .i64 e2.J] 47 (0, 0)), Own.blk b4 (.cells #[.int .i64 e1.Task, .int .i64 e1.At] 33 (0, 0)), Own.blk b2 (.cells #[.int .i64 0, .int .i64 0] 29 (0, 0)), Own.of (.slice Z1 m1.length cz1) 88 m1] := hS72
    have hS74 := hS73.bring 3 rfl
    refine ge_set (b := b2) (j := 0) (cs := #[.int .i64 0, .int .i64 0]) (t := 29) (vs := [.int .i64 3, .int .i64 (i1 : Int)]) hS74 (by kernel_rfl) rfl rfl fun w21 hS75 => ?_
    have hS76 : St w0 w21 [Own.blk b2 (.cells #[.int .i64 3, .int .i64 (i1 : Int)] 29 (0, 0)), Own.blk b1 (.cells #[.slice none 0 0, .slice none 0 0] 37 (0, 0)), Own.blk b5 (.cells #[.int .i64 e2.C, .int .i64 e2.T, .int .i64 e2.D, .int .i64 e2.J] 47 (0, 0)), Own.blk b4 (.cells #[.int .i64 e1.Task, .int .i64 e1.At] 33 (0, 0)), Own.of (.slice Z1 m1.length cz1) 88 m1] := hS75
    refine ge_nil fun a hF => hK23 _ _ ?_ a hF
    have hS77 := hS76.nil (α := Int) 3
    have hS78 := hS77.nil (α := Int) 3
    have hS79 := hS78.bring 1 rfl
    have hS80 := hS79.bring 1 rfl
    have hS81 := hS80.takeN 2
    obtain rfl := Option.some.inj h
    exact we_ret fun a hF => hQ _ _ _ (Outs.out nofun ⟨rfl, (post_ret (rs := [.cell 8 37, .cell 9 29]) (ans := [.val ((.slice none 0 0)), .val ((.slice none 0 0)), .val (.int .i64 3), .val (.int .i64 (i1 : Int))]) (vs := [.agg #[(.slice none 0 0), (.slice none 0 0)], .agg #[.int .i64 3, .int .i64 (i1 : Int)]]) (l := [.loaded ⟨b1, 0, none⟩ ((.slice none 0 0)), .loaded ⟨b1, 1, none⟩ ((.slice none 0 0)), .loaded ⟨b2, 0, none⟩ (.int .i64 3), .loaded ⟨b2, 1, none⟩ (.int .i64 (i1 : Int))]) rfl (by kernel_rfl) ⟨hS78.cell 3 rfl rfl, hS78.cell 3 rfl rfl, hS78.cell 2 rfl rfl, hS78.cell 2 rfl rfl, trivial⟩ ⟨(.slice none 0 0), (.slice none 0 0), rfl, hS81⟩) a hF⟩)
  · rw [if_neg hc8] at h
    refine ge_known (t := 62) (b := decide (e1.At < 0)) (c := false) (by kernel_rfl) (decide_eq_false hc8) ?_
    refine ge_batch [4, 5, 6, 7, 8] (ans := [.val (.int .i64 e1.At)]) (vs := [(67, .bool (decide (e1.At > 20000))), (66, .bool (decide (e1.At > 20000))), (65, .bool (decide (e1.At > 20000))), (64, .int .i64 e1.At), (63, .pointer (some ⟨b4, 1, none⟩))]) (l := [.loaded ⟨b4, 1, none⟩ (.int .i64 e1.At)]) (by kernel_rfl) ⟨hS70.cell 1 rfl rfl, trivial⟩ ?_
    by_cases hc9 : e1.At > 20000
    · rw [if_pos hc9] at h
      refine ge_known (t := 67) (b := decide (e1.At > 20000)) (c := true) (by kernel_rfl) (decide_eq_true hc9) ?_
      refine ge_batch [9, 10, 11, 12, 13, 14, 15, 16, 17, 18, 19, 20, 21, 22, 23] (ans := []) (vs := [(82, .bool true), (81, undef), (80, undef), (79, undef), (78, undef), (77, undef), (76, undef), (75, undef), (74, .bool true), (73, .bool true), (72, undef), (71, undef), (70, undef), (69, undef), (68, undef)]) (l := []) (by kernel_rfl) trivial ?_
      refine ge_nil fun a hF => hK22 _ _ ?_ a hF
      refine we_true (by kernel_rfl) ?_
      refine we_seq fun K24 hK24 => ?_
      refine we_region [(0, 0), (1, 0), (2, 0), (3, 2), (4, 2)] rfl ?_
      refine ge_batch [0, 1, 2] (ans := []) (vs := [(85, .agg #[.int .i64 3, .int .i64 (i1 : Int)]), (84, .int .i64 (i1 : Int)), (83, .agg #[.slice none 0 0, .slice none 0 0])]) (l := []) (by kernel_rfl) trivial ?_
      have hS82 := hS70.bring 3 rfl
      refine ge_set (b := b1) (j := 0) (cs := #[.slice none 0 0, .slice none 0 0]) (t := 37) (vs := [.slice none 0 0, .slice none 0 0]) hS82 (by kernel_rfl) rfl rfl fun w22 hS83 => ?_
      have hS84 : St w0 w22 [Own.blk b1 (.cells #[.slice none 0 0, .slice none 0 0] 37 (0, 0)), Own.blk b5 (.cells #[.int .i64 e2.C, .int .i64 e2.T, .int .i64 e2.D, .int .i64 e2.J] 47 (0, 0)), Own.blk b4 (.cells #[.int .i64 e1.Task, .int .i64 e1.At] 33 (0, 0)), Own.blk b2 (.cells #[.int .i64 0, .int .i64 0] 29 (0, 0)), Own.of (.slice Z1 m1.length cz1) 88 m1] := hS83
      have hS85 := hS84.bring 3 rfl
      refine ge_set (b := b2) (j := 0) (cs := #[.int .i64 0, .int .i64 0]) (t := 29) (vs := [.int .i64 3, .int .i64 (i1 : Int)]) hS85 (by kernel_rfl) rfl rfl fun w23 hS86 => ?_
      have hS87 : St w0 w23 [Own.blk b2 (.cells #[.int .i64 3, .int .i64 (i1 : Int)] 29 (0, 0)), Own.blk b1 (.cells #[.slice none 0 0, .slice none 0 0] 37 (0, 0)), Own.blk b5 (.cells #[.int .i64 e2.C, .int .i64 e2.T, .int .i64 e2.D, .int .i64 e2.J] 47 (0, 0)), Own.blk b4 (.cells #[.int .i64 e1.Task, .int .i64 e1.At] 33 (0, 0)), Own.of (.slice Z1 m1.length cz1) 88 m1] := hS86
      refine ge_nil fun a hF => hK24 _ _ ?_ a hF
      have hS88 := hS87.nil (α := Int) 3
      have hS89 := hS88.nil (α := Int) 3
      have hS90 := hS89.bring 1 rfl
      have hS91 := hS90.bring 1 rfl
      have hS92 := hS91.takeN 2
      obtain rfl := Option.some.inj h
      exact we_ret fun a hF => hQ _ _ _ (Outs.out nofun ⟨rfl, (post_ret (rs := [.cell 8 37, .cell 9 29]) (ans := [.val ((.slice none 0 0)), .val ((.slice none 0 0)), .val (.int .i64 3), .val (.int .i64 (i1 : Int))]) (vs := [.agg #[(.slice none 0 0), (.slice none 0 0)], .agg #[.int .i64 3, .int .i64 (i1 : Int)]]) (l := [.loaded ⟨b1, 0, none⟩ ((.slice none 0 0)), .loaded ⟨b1, 1, none⟩ ((.slice none 0 0)), .loaded ⟨b2, 0, none⟩ (.int .i64 3), .loaded ⟨b2, 1, none⟩ (.int .i64 (i1 : Int))]) rfl (by kernel_rfl) ⟨hS89.cell 3 rfl rfl, hS89.cell 3 rfl rfl, hS89.cell 2 rfl rfl, hS89.cell 2 rfl rfl, trivial⟩ ⟨(.slice none 0 0), (.slice none 0 0), rfl, hS92⟩) a hF⟩)
    · rw [if_neg hc9] at h
      refine ge_known (t := 67) (b := decide (e1.At > 20000)) (c := false) (by kernel_rfl) (decide_eq_false hc9) ?_
      refine ge_batch [9, 10] (ans := []) (vs := [(69, .int .i64 (i1 : Int)), (68, .slice A2 l2.length c2)]) (l := []) (by kernel_rfl) trivial ?_
      rcases hx8 : l2[i1]? with _ | e3
      · rw [hx8] at h; cases h
      rw [hx8] at h
      simp only [] at h
      refine ge_index (d := 70) (ty := 0) (t := 24) (el := 3) (sz := 1) (m := l2.length) (c := c2) (x := (.tmp 68)) (y := (.tmp 69)) (A := A2) (k' := .i64) (j := (i1 : Int)) (jn := i1) (b0 := blkOf A2) (o0 := offOf A2) (by kernel_rfl) (by kernel_rfl) (by kernel_rfl) (by kernel_rfl) (by kernel_rfl) ((hS70.rd hR2).eqSome (pos_of_get hx8)) rfl (lt_of_get hx8) ?_
      refine ge_batch [12, 13, 14, 15] (ans := [.val (.int .i64 e3)]) (vs := [(74, .bool (decide (e3 < 0))), (73, .bool (decide (e3 < 0))), (72, .bool (decide (e3 < 0))), (71, .int .i64 e3)]) (l := [.loaded ⟨blkOf A2, offOf A2 + i1 * 1, none⟩ (.int .i64 e3)]) (by kernel_rfl) ⟨RdL.cell (j := 0) (hS70.rd hR2) hx8 rfl, trivial⟩ ?_
      by_cases hc10 : e3 < 0
      · rw [if_pos hc10] at h
        refine ge_known (t := 74) (b := decide (e3 < 0)) (c := true) (by kernel_rfl) (decide_eq_true hc10) ?_
        refine ge_batch [16, 17, 18, 19, 20, 21, 22, 23] (ans := []) (vs := [(82, .bool true), (81, undef), (80, undef), (79, undef), (78, undef), (77, undef), (76, undef), (75, undef)]) (l := []) (by kernel_rfl) trivial ?_
        refine ge_nil fun a hF => hK22 _ _ ?_ a hF
        refine we_true (by kernel_rfl) ?_
        refine we_seq fun K25 hK25 => ?_
        refine we_region [(0, 0), (1, 0), (2, 0), (3, 2), (4, 2)] rfl ?_
        refine ge_batch [0, 1, 2] (ans := []) (vs := [(85, .agg #[.int .i64 3, .int .i64 (i1 : Int)]), (84, .int .i64 (i1 : Int)), (83, .agg #[.slice none 0 0, .slice none 0 0])]) (l := []) (by kernel_rfl) trivial ?_
        have hS93 := hS70.bring 3 rfl
        refine ge_set (b := b1) (j := 0) (cs := #[.slice none 0 0, .slice none 0 0]) (t := 37) (vs := [.slice none 0 0, .slice none 0 0]) hS93 (by kernel_rfl) rfl rfl fun w24 hS94 => ?_
        have hS95 : St w0 w24 [Own.blk b1 (.cells #[.slice none 0 0, .slice none 0 0] 37 (0, 0)), Own.blk b5 (.cells #[.int .i64 e2.C, .int .i64 e2.T, .int .i64 e2.D, .int .i64 e2.J] 47 (0, 0)), Own.blk b4 (.cells #[.int .i64 e1.Task, .int .i64 e1.At] 33 (0, 0)), Own.blk b2 (.cells #[.int .i64 0, .int .i64 0] 29 (0, 0)), Own.of (.slice Z1 m1.length cz1) 88 m1] := hS94
        have hS96 := hS95.bring 3 rfl
        refine ge_set (b := b2) (j := 0) (cs := #[.int .i64 0, .int .i64 0]) (t := 29) (vs := [.int .i64 3, .int .i64 (i1 : Int)]) hS96 (by kernel_rfl) rfl rfl fun w25 hS97 => ?_
        have hS98 : St w0 w25 [Own.blk b2 (.cells #[.int .i64 3, .int .i64 (i1 : Int)] 29 (0, 0)), Own.blk b1 (.cells #[.slice none 0 0, .slice none 0 0] 37 (0, 0)), Own.blk b5 (.cells #[.int .i64 e2.C, .int .i64 e2.T, .int .i64 e2.D, .int .i64 e2.J] 47 (0, 0)), Own.blk b4 (.cells #[.int .i64 e1.Task, .int .i64 e1.At] 33 (0, 0)), Own.of (.slice Z1 m1.length cz1) 88 m1] := hS97
        refine ge_nil fun a hF => hK25 _ _ ?_ a hF
        have hS99 := hS98.nil (α := Int) 3
        have hS100 := hS99.nil (α := Int) 3
        have hS101 := hS100.bring 1 rfl
        have hS102 := hS101.bring 1 rfl
        have hS103 := hS102.takeN 2
        obtain rfl := Option.some.inj h
        exact we_ret fun a hF => hQ _ _ _ (Outs.out nofun ⟨rfl, (post_ret (rs := [.cell 8 37, .cell 9 29]) (ans := [.val ((.slice none 0 0)), .val ((.slice none 0 0)), .val (.int .i64 3), .val (.int .i64 (i1 : Int))]) (vs := [.agg #[(.slice none 0 0), (.slice none 0 0)], .agg #[.int .i64 3, .int .i64 (i1 : Int)]]) (l := [.loaded ⟨b1, 0, none⟩ ((.slice none 0 0)), .loaded ⟨b1, 1, none⟩ ((.slice none 0 0)), .loaded ⟨b2, 0, none⟩ (.int .i64 3), .loaded ⟨b2, 1, none⟩ (.int .i64 (i1 : Int))]) rfl (by kernel_rfl) ⟨hS100.cell 3 rfl rfl, hS100.cell 3 rfl rfl, hS100.cell 2 rfl rfl, hS100.cell 2 rfl rfl, trivial⟩ ⟨(.slice none 0 0), (.slice none 0 0), rfl, hS103⟩) a hF⟩)
      · rw [if_neg hc10] at h
        refine ge_known (t := 74) (b := decide (e3 < 0)) (c := false) (by kernel_rfl) (decide_eq_false hc10) ?_
        refine ge_batch [16, 17] (ans := []) (vs := [(76, .int .i64 (i1 : Int)), (75, .slice A2 l2.length c2)]) (l := []) (by kernel_rfl) trivial ?_
        refine ge_index (d := 77) (ty := 0) (t := 24) (el := 3) (sz := 1) (m := l2.length) (c := c2) (x := (.tmp 75)) (y := (.tmp 76)) (A := A2) (k' := .i64) (j := (i1 : Int)) (jn := i1) (b0 := blkOf A2) (o0 := offOf A2) (by kernel_rfl) (by kernel_rfl) (by kernel_rfl) (by kernel_rfl) (by kernel_rfl) ((hS70.rd hR2).eqSome (pos_of_get hx8)) rfl (lt_of_get hx8) ?_
        refine ge_batch [19, 20, 21, 22, 23] (ans := [.val (.int .i64 e3), .val (.int .i64 e2.J)]) (vs := [(82, .bool (decide (e3 > e2.J))), (81, .bool (decide (e3 > e2.J))), (80, .int .i64 e2.J), (79, .pointer (some ⟨b5, 3, none⟩)), (78, .int .i64 e3)]) (l := [.loaded ⟨blkOf A2, offOf A2 + i1 * 1, none⟩ (.int .i64 e3), .loaded ⟨b5, 3, none⟩ (.int .i64 e2.J)]) (by kernel_rfl) ⟨RdL.cell (j := 0) (hS70.rd hR2) hx8 rfl, hS70.cell 0 rfl rfl, trivial⟩ ?_
        refine ge_nil fun a hF => hK22 _ _ ?_ a hF
        by_cases hc11 : e3 > e2.J
        · rw [if_pos hc11] at h
          refine we_known (t := 82) (b := decide (e3 > e2.J)) (v := true) (by kernel_rfl) (decide_eq_true hc11) ?_
          refine we_true (by kernel_rfl) ?_
          refine we_seq fun K26 hK26 => ?_
          refine we_region [(0, 0), (1, 0), (2, 0), (3, 2), (4, 2)] rfl ?_
          refine ge_batch [0, 1, 2] (ans := []) (vs := [(85, .agg #[.int .i64 3, .int .i64 (i1 : Int)]), (84, .int .i64 (i1 : Int)), (83, .agg #[.slice none 0 0, .slice none 0 0])]) (l := []) (by kernel_rfl) trivial ?_
          have hS104 := hS70.bring 3 rfl
          refine ge_set (b := b1) (j := 0) (cs := #[.slice none 0 0, .slice none 0 0]) (t := 37) (vs := [.slice none 0 0, .slice none 0 0]) hS104 (by kernel_rfl) rfl rfl fun w26 hS105 => ?_
          have hS106 : St w0 w26 [Own.blk b1 (.cells #[.slice none 0 0, .slice none 0 0] 37 (0, 0)), Own.blk b5 (.cells #[.int .i64 e2.C, .int .i64 e2.T, .int .i64 e2.D, .int .i64 e2.J] 47 (0, 0)), Own.blk b4 (.cells #[.int .i64 e1.Task, .int .i64 e1.At] 33 (0, 0)), Own.blk b2 (.cells #[.int .i64 0, .int .i64 0] 29 (0, 0)), Own.of (.slice Z1 m1.length cz1) 88 m1] := hS105
          have hS107 := hS106.bring 3 rfl
          refine ge_set (b := b2) (j := 0) (cs := #[.int .i64 0, .int .i64 0]) (t := 29) (vs := [.int .i64 3, .int .i64 (i1 : Int)]) hS107 (by kernel_rfl) rfl rfl fun w27 hS108 => ?_
          have hS109 : St w0 w27 [Own.blk b2 (.cells #[.int .i64 3, .int .i64 (i1 : Int)] 29 (0, 0)), Own.blk b1 (.cells #[.slice none 0 0, .slice none 0 0] 37 (0, 0)), Own.blk b5 (.cells #[.int .i64 e2.C, .int .i64 e2.T, .int .i64 e2.D, .int .i64 e2.J] 47 (0, 0)), Own.blk b4 (.cells #[.int .i64 e1.Task, .int .i64 e1.At] 33 (0, 0)), Own.of (.slice Z1 m1.length cz1) 88 m1] := hS108
          refine ge_nil fun a hF => hK26 _ _ ?_ a hF
          have hS110 := hS109.nil (α := Int) 3
          have hS111 := hS110.nil (α := Int) 3
          have hS112 := hS111.bring 1 rfl
          have hS113 := hS112.bring 1 rfl
          have hS114 := hS113.takeN 2
          obtain rfl := Option.some.inj h
          exact we_ret fun a hF => hQ _ _ _ (Outs.out nofun ⟨rfl, (post_ret (rs := [.cell 8 37, .cell 9 29]) (ans := [.val ((.slice none 0 0)), .val ((.slice none 0 0)), .val (.int .i64 3), .val (.int .i64 (i1 : Int))]) (vs := [.agg #[(.slice none 0 0), (.slice none 0 0)], .agg #[.int .i64 3, .int .i64 (i1 : Int)]]) (l := [.loaded ⟨b1, 0, none⟩ ((.slice none 0 0)), .loaded ⟨b1, 1, none⟩ ((.slice none 0 0)), .loaded ⟨b2, 0, none⟩ (.int .i64 3), .loaded ⟨b2, 1, none⟩ (.int .i64 (i1 : Int))]) rfl (by kernel_rfl) ⟨hS111.cell 3 rfl rfl, hS111.cell 3 rfl rfl, hS111.cell 2 rfl rfl, hS111.cell 2 rfl rfl, trivial⟩ ⟨(.slice none 0 0), (.slice none 0 0), rfl, hS114⟩) a hF⟩)
        · rw [if_neg hc11] at h
          refine we_known (t := 82) (b := decide (e3 > e2.J)) (v := false) (by kernel_rfl) (decide_eq_false hc11) ?_
          refine we_false (by kernel_rfl) ?_
          have hS115 := hS70.bring 4 rfl
          have hS116 := hS115.bring 4 rfl
          have hS117 := hS116.bring 4 rfl
          have hS118 := hS117.bring 4 rfl
          have hS119 := hS118.bring 4 rfl
          obtain rfl := Option.some.inj h
          exact we_skip fun a hF => hQ _ _ _ (Outs.again ⟨hS119, hF.weaken ⟨by kernel_rfl, by kernel_rfl, by kernel_rfl, by kernel_rfl, by kernel_rfl, by kernel_rfl, by kernel_rfl, by kernel_rfl, by kernel_rfl, by kernel_rfl, by kernel_rfl, by kernel_rfl, trivial⟩⟩)
abbrev net_Send.A1 (K : Nat) (w0 : World) (l0 : List SFrame) (A0 : Option Addr) (c0 : Nat) (l1 : List SCome) (A1 : Option Addr) (c1 : Nat) (l2 : List Int) (A2 : Option Addr) (c2 : Nat) (x3 : Int) (hR0 : RdL w0 A0 l0) (hL0 : l0.length ≤ c0) (hR1 : RdL w0 A1 l1) (hL1 : l1.length ≤ c1) (hR2 : RdL w0 A2 l2) (hL2 : l2.length ≤ c2) (b1 : Nat) (b2 : Nat) (r1 : SFault) (b3 : Nat) (hc1 : r1.Code = 0) : ((List SJob) × Nat) → Act → World → Prop := fun (s : (List SJob) × Nat) a w => ∃ (v1 : Value), St w0 w [Own.blk b2 (.cells #[.int .i64 0, .int .i64 0] 29 (0, 0)), Own.blk b1 (.cells #[.slice none 0 0, .slice none 0 0] 37 (0, 0)), Own.of v1 88 s.1] ∧ Frm 117 a [(0, .slice A0 l0.length c0), (2, .slice A2 l2.length c2), (3, .int .i64 x3), (8, .pointer (some ⟨b1, 0, none⟩)), (9, .pointer (some ⟨b2, 0, none⟩)), (11, v1), (34, .slice A1 l1.length c1), (35, .int .i64 (l1.length : Int)), (36, .int .i64 (s.2 : Int))]
abbrev net_Send.B1 (K : Nat) (w0 : World) (l0 : List SFrame) (A0 : Option Addr) (c0 : Nat) (l1 : List SCome) (A1 : Option Addr) (c1 : Nat) (l2 : List Int) (A2 : Option Addr) (c2 : Nat) (x3 : Int) (hR0 : RdL w0 A0 l0) (hL0 : l0.length ≤ c0) (hR1 : RdL w0 A1 l1) (hL1 : l1.length ≤ c1) (hR2 : RdL w0 A2 l2) (hL2 : l2.length ≤ c2) (b1 : Nat) (b2 : Nat) (r1 : SFault) (b3 : Nat) (hc1 : r1.Code = 0) : ((List SJob) ⊕ (SPlayed × SFault)) → Exit → Act → World → Prop := Exits 0 (fun (s : (List SJob)) a w => ∃ (v2 : Value), St w0 w [Own.blk b2 (.cells #[.int .i64 0, .int .i64 0] 29 (0, 0)), Own.blk b1 (.cells #[.slice none 0 0, .slice none 0 0] 37 (0, 0)), Own.of v2 88 s] ∧ Frm 117 a [(3, .int .i64 x3), (8, .pointer (some ⟨b1, 0, none⟩)), (9, .pointer (some ⟨b2, 0, none⟩)), (11, v2)]) (Rets Try.prog Try.f15 (net_Send.Post w0))
theorem net_Send_r1 (K : Nat) (w0 : World) (l0 : List SFrame) (A0 : Option Addr) (c0 : Nat) (l1 : List SCome) (A1 : Option Addr) (c1 : Nat) (l2 : List Int) (A2 : Option Addr) (c2 : Nat) (x3 : Int) (hR0 : RdL w0 A0 l0) (hL0 : l0.length ≤ c0) (hR1 : RdL w0 A1 l1) (hL1 : l1.length ≤ c1) (hR2 : RdL w0 A2 l2) (hL2 : l2.length ≤ c2) (b1 : Nat) (b2 : Nat) (r1 : SFault) (b3 : Nat) (hc1 : r1.Code = 0) (s : (List SJob) × Nat) (o : ((List SJob) × Nat) ⊕ ((List SJob) ⊕ (SPlayed × SFault))) (h : net_Send.r1 l0 l1 l2 s = some o) (a : Act) (w : World) (hA : net_Send.A1 K w0 l0 A0 c0 l1 A1 c1 l2 A2 c2 x3 hR0 hL0 hR1 hL1 hR2 hL2 b1 b2 r1 b3 hc1 s a w) (Q : Exit → Act → World → Prop) (hQ : ∀ x a w, Outs (net_Send.A1 K w0 l0 A0 c0 l1 A1 c1 l2 A2 c2 x3 hR0 hL0 hR1 hL1 hR2 hL2 b1 b2 r1 b3 hc1) (net_Send.B1 K w0 l0 A0 c0 l1 A1 c1 l2 A2 c2 x3 hR0 hL0 hR1 hL1 hR2 hL2 b1 b2 r1 b3 hc1) o x a w → Q x a w) : (subF Try.f15 [1, 1, 1, 1, 0, 1, 0, 0]).wp Try.prog Q a w := by
  obtain ⟨m1, i1⟩ := s
  obtain ⟨v1, hS, hF⟩ := hA
  replace hS : St w0 w [Own.blk b2 (.cells #[.int .i64 0, .int .i64 0] 29 (0, 0)), Own.blk b1 (.cells #[.slice none 0 0, .slice none 0 0] 37 (0, 0)), Own.of v1 88 m1] := hS
  simp only [net_Send.r1] at h
  refine (?_ : WE Try.prog 117 (subF Try.f15 [1, 1, 1, 1, 0, 1, 0, 0]) Q [(0, .slice A0 l0.length c0), (2, .slice A2 l2.length c2), (3, .int .i64 x3), (8, .pointer (some ⟨b1, 0, none⟩)), (9, .pointer (some ⟨b2, 0, none⟩)), (11, v1), (34, .slice A1 l1.length c1), (35, .int .i64 (l1.length : Int)), (36, .int .i64 (i1 : Int))] w) a hF
  clear hF a
  refine we_seq fun K12 hK12 => ?_
  refine we_region [(0, 0)] rfl ?_
  refine ge_batch [0] (ans := []) (vs := [(37, .bool (decide ((i1 : Int) < (l1.length : Int))))]) (l := []) (by kernel_rfl) trivial ?_
  refine ge_nil fun a hF => hK12 _ _ ?_ a hF
  refine we_seq fun K13 hK13 => ?_
  by_cases hc4 : (i1 : Int) < (l1.length : Int)
  · rw [if_pos hc4] at h
    refine we_known (t := 37) (b := decide ((i1 : Int) < (l1.length : Int))) (v := true) (by kernel_rfl) (decide_eq_true hc4) ?_
    refine we_true (by kernel_rfl) ?_
    refine we_skip fun a hF => hK13 _ _ ?_ a hF
    refine we_seq fun K14 hK14 => ?_
    refine we_block ?_
    refine we_seq fun K15 hK15 => ?_
    refine we_region [(0, 0), (1, 0), (2, 0), (3, 1), (4, 0), (5, 2)] rfl ?_
    refine ge_batch [0] (ans := []) (vs := [(38, .int .i64 (i1 : Int))]) (l := []) (by kernel_rfl) trivial ?_
    rcases hx4 : l1[i1]? with _ | e1
    · rw [hx4] at h; cases h
    rw [hx4] at h
    simp only [] at h
    refine ge_index (d := 39) (ty := 0) (t := 23) (el := 33) (sz := 2) (m := l1.length) (c := c1) (x := (.tmp 34)) (y := (.tmp 36)) (A := A1) (k' := .i64) (j := (i1 : Int)) (jn := i1) (b0 := blkOf A1) (o0 := offOf A1) (by kernel_rfl) (by kernel_rfl) (by kernel_rfl) (by kernel_rfl) (by kernel_rfl) ((hS.rd hR1).eqSome (pos_of_get hx4)) rfl (lt_of_get hx4) ?_
    refine ge_batch [2] (ans := [.val (.int .i64 e1.Task), .val (.int .i64 e1.At)]) (vs := [(40, .agg #[.int .i64 e1.Task, .int .i64 e1.At])]) (l := [.loaded ⟨blkOf A1, offOf A1 + i1 * 2, none⟩ (.int .i64 e1.Task), .loaded ⟨blkOf A1, offOf A1 + i1 * 2 + 1, none⟩ (.int .i64 e1.At)]) (by kernel_rfl) ⟨RdL.cell (j := 0) (hS.rd hR1) hx4 rfl, RdL.cell (j := 1) (hS.rd hR1) hx4 rfl, trivial⟩ ?_
    refine ge_new (d := some 13) (o := .cells #[.int .i64 0, .int .i64 0] 33) (v := fun b => .pointer (some ⟨b, 0, none⟩)) hS (fun b => by kernel_rfl) fun b4 w11 hx5 hS37 => ?_
    refine ge_batch [4] (ans := []) (vs := [(12, .int .i64 (i1 : Int))]) (l := []) (by kernel_rfl) trivial ?_
    refine ge_set (b := b4) (j := 0) (cs := #[.int .i64 0, .int .i64 0]) (t := 33) (vs := [.int .i64 e1.Task, .int .i64 e1.At]) hS37 (by kernel_rfl) rfl rfl fun w12 hS38 => ?_
    have hS39 : St w0 w12 [Own.blk b4 (.cells #[.int .i64 e1.Task, .int .i64 e1.At] 33 (0, 0)), Own.blk b2 (.cells #[.int .i64 0, .int .i64 0] 29 (0, 0)), Own.blk b1 (.cells #[.slice none 0 0, .slice none 0 0] 37 (0, 0)), Own.of v1 88 m1] := hS38
    refine ge_nil fun a hF => hK15 _ _ ?_ a hF
    refine we_seq fun K16 hK16 => ?_
    obtain ⟨Z1, cz1, rfl⟩ := hS39.open 3 rfl
    rcases hq3 : net_Send.p2 l0 i1 e1 with _ | (_ | rr2)
    · rw [hq3] at h; cases h
    · rw [hq3] at h
      simp only [] at h
      refine we_keep (e' := [(0, .slice A0 l0.length c0), (2, .slice A2 l2.length c2), (3, .int .i64 x3), (8, .pointer (some ⟨b1, 0, none⟩)), (9, .pointer (some ⟨b2, 0, none⟩)), (11, (.slice Z1 m1.length cz1)), (12, .int .i64 (i1 : Int)), (13, .pointer (some ⟨b4, 0, none⟩)), (34, .slice A1 l1.length c1), (35, .int .i64 (l1.length : Int)), (36, .int .i64 (i1 : Int)), (37, .bool true), (38, .int .i64 (i1 : Int)), (39, .pointer (some ⟨blkOf A1, offOf A1 + i1 * 2, none⟩)), (40, .agg #[.int .i64 e1.Task, .int .i64 e1.At])]) ⟨by kernel_rfl, by kernel_rfl, by kernel_rfl, by kernel_rfl, by kernel_rfl, by kernel_rfl, by kernel_rfl, by kernel_rfl, by kernel_rfl, by kernel_rfl, by kernel_rfl, by kernel_rfl, by kernel_rfl, by kernel_rfl, by kernel_rfl, trivial⟩ (net_Send_p2 K w0 l0 A0 c0 l1 A1 c1 l2 A2 c2 x3 hR0 hL0 hR1 hL1 hR2 hL2 b1 b2 r1 b3 hc1 m1 i1 hc4 e1 hx4 b4 Z1 cz1 _ hq3 _ hS39 _ ?_)
      rintro _ a w17 ⟨rfl, hS66, hF⟩
      replace hS66 : St w0 w17 [Own.blk b4 (.cells #[.int .i64 e1.Task, .int .i64 e1.At] 33 (0, 0)), Own.blk b2 (.cells #[.int .i64 0, .int .i64 0] 29 (0, 0)), Own.blk b1 (.cells #[.slice none 0 0, .slice none 0 0] 37 (0, 0)), Own.of (.slice Z1 m1.length cz1) 88 m1] := hS66
      refine hK16 [(0, .slice A0 l0.length c0), (2, .slice A2 l2.length c2), (3, .int .i64 x3), (8, .pointer (some ⟨b1, 0, none⟩)), (9, .pointer (some ⟨b2, 0, none⟩)), (11, (.slice Z1 m1.length cz1)), (12, .int .i64 (i1 : Int)), (13, .pointer (some ⟨b4, 0, none⟩)), (34, .slice A1 l1.length c1), (35, .int .i64 (l1.length : Int)), (36, .int .i64 (i1 : Int))] w17 ?_ a hF
      refine we_seq fun K20 hK20 => ?_
      refine we_region [(0, 0), (1, 0), (2, 0), (3, 0), (4, 0), (5, 1), (6, 2)] rfl ?_
      refine ge_batch [0, 1, 2] (ans := [.val (.int .i64 e1.Task)]) (vs := [(56, .int .i64 e1.Task), (55, .pointer (some ⟨b4, 0, none⟩)), (54, .slice A0 l0.length c0)]) (l := [.loaded ⟨b4, 0, none⟩ (.int .i64 e1.Task)]) (by kernel_rfl) ⟨hS66.cell 0 rfl rfl, trivial⟩ ?_
      by_cases hc7 : 0 ≤ e1.Task
      · rw [if_pos hc7] at h
        rcases hx6 : l0[(e1.Task).toNat]? with _ | e2
        · rw [hx6] at h; cases h
        rw [hx6] at h
        simp only [] at h
        refine ge_index (d := 57) (ty := 0) (t := 43) (el := 47) (sz := 4) (m := l0.length) (c := c0) (x := (.tmp 54)) (y := (.tmp 56)) (A := A0) (k' := .i64) (j := e1.Task) (jn := ((e1.Task).toNat)) (b0 := blkOf A0) (o0 := offOf A0) (by kernel_rfl) (by kernel_rfl) (by kernel_rfl) (by kernel_rfl) (by kernel_rfl) ((hS66.rd hR0).eqSome (pos_of_get hx6)) (Int.toNat_of_nonneg hc7).symm (lt_of_get hx6) ?_
        refine ge_batch [4] (ans := [.val (.int .i64 e2.C), .val (.int .i64 e2.T), .val (.int .i64 e2.D), .val (.int .i64 e2.J)]) (vs := [(58, .agg #[.int .i64 e2.C, .int .i64 e2.T, .int .i64 e2.D, .int .i64 e2.J])]) (l := [.loaded ⟨blkOf A0, offOf A0 + ((e1.Task).toNat) * 4, none⟩ (.int .i64 e2.C), .loaded ⟨blkOf A0, offOf A0 + ((e1.Task).toNat) * 4 + 1, none⟩ (.int .i64 e2.T), .loaded ⟨blkOf A0, offOf A0 + ((e1.Task).toNat) * 4 + 2, none⟩ (.int .i64 e2.D), .loaded ⟨blkOf A0, offOf A0 + ((e1.Task).toNat) * 4 + 3, none⟩ (.int .i64 e2.J)]) (by kernel_rfl) ⟨RdL.cell (j := 0) (hS66.rd hR0) hx6 rfl, RdL.cell (j := 1) (hS66.rd hR0) hx6 rfl, RdL.cell (j := 2) (hS66.rd hR0) hx6 rfl, RdL.cell (j := 3) (hS66.rd hR0) hx6 rfl, trivial⟩ ?_
        refine ge_new (d := some 14) (o := .cells #[.int .i64 0, .int .i64 0, .int .i64 0, .int .i64 0] 47) (v := fun b => .pointer (some ⟨b, 0, none⟩)) hS66 (fun b => by kernel_rfl) fun b5 w18 hx7 hS67 => ?_
        refine ge_set (b := b5) (j := 0) (cs := #[.int .i64 0, .int .i64 0, .int .i64 0, .int .i64 0]) (t := 47) (vs := [.int .i64 e2.C, .int .i64 e2.T, .int .i64 e2.D, .int .i64 e2.J]) hS67 (by kernel_rfl) rfl rfl fun w19 hS68 => ?_
        have hS69 : St w0 w19 [Own.blk b5 (.cells #[.int .i64 e2.C, .int .i64 e2.T, .int .i64 e2.D, .int .i64 e2.J] 47 (0, 0)), Own.blk b4 (.cells #[.int .i64 e1.Task, .int .i64 e1.At] 33 (0, 0)), Own.blk b2 (.cells #[.int .i64 0, .int .i64 0] 29 (0, 0)), Own.blk b1 (.cells #[.slice none 0 0, .slice none 0 0] 37 (0, 0)), Own.of (.slice Z1 m1.length cz1) 88 m1] := hS68
        refine ge_nil fun a hF => hK20 _ _ ?_ a hF
        refine we_seq fun K21 hK21 => ?_
        rcases hq4 : net_Send.p3 l2 i1 e1 e2 with _ | (_ | rr1)
        · rw [hq4] at h; cases h
        · rw [hq4] at h
          simp only [] at h
          refine we_keep (e' := [(0, .slice A0 l0.length c0), (2, .slice A2 l2.length c2), (3, .int .i64 x3), (8, .pointer (some ⟨b1, 0, none⟩)), (9, .pointer (some ⟨b2, 0, none⟩)), (11, (.slice Z1 m1.length cz1)), (12, .int .i64 (i1 : Int)), (13, .pointer (some ⟨b4, 0, none⟩)), (14, .pointer (some ⟨b5, 0, none⟩)), (34, .slice A1 l1.length c1), (35, .int .i64 (l1.length : Int)), (36, .int .i64 (i1 : Int)), (54, .slice A0 l0.length c0), (55, .pointer (some ⟨b4, 0, none⟩)), (56, .int .i64 e1.Task), (57, .pointer (some ⟨blkOf A0, offOf A0 + (e1.Task).toNat * 4, none⟩)), (58, .agg #[.int .i64 e2.C, .int .i64 e2.T, .int .i64 e2.D, .int .i64 e2.J])]) ⟨by kernel_rfl, by kernel_rfl, by kernel_rfl, by kernel_rfl, by kernel_rfl, by kernel_rfl, by kernel_rfl, by kernel_rfl, by kernel_rfl, by kernel_rfl, by kernel_rfl, by kernel_rfl, by kernel_rfl, by kernel_rfl, by kernel_rfl, by kernel_rfl, by kernel_rfl, trivial⟩ (net_Send_p3 K w0 l0 A0 c0 l1 A1 c1 l2 A2 c2 x3 hR0 hL0 hR1 hL1 hR2 hL2 b1 b2 r1 b3 hc1 m1 i1 hc4 e1 hx4 b4 Z1 cz1 hc7 e2 hx6 b5 _ hq4 _ hS69 _ ?_)
          rintro _ a w28 ⟨rfl, hS120, hF⟩
          replace hS120 : St w0 w28 [Own.blk b5 (.cells #[.int .i64 e2.C, .int .i64 e2.T, .int .i64 e2.D, .int .i64 e2.J] 47 (0, 0)), Own.blk b4 (.cells #[.int .i64 e1.Task, .int .i64 e1.At] 33 (0, 0)), Own.blk b2 (.cells #[.int .i64 0, .int .i64 0] 29 (0, 0)), Own.blk b1 (.cells #[.slice none 0 0, .slice none 0 0] 37 (0, 0)), Own.of (.slice Z1 m1.length cz1) 88 m1] := hS120
          refine hK21 [(0, .slice A0 l0.length c0), (2, .slice A2 l2.length c2), (3, .int .i64 x3), (8, .pointer (some ⟨b1, 0, none⟩)), (9, .pointer (some ⟨b2, 0, none⟩)), (11, (.slice Z1 m1.length cz1)), (12, .int .i64 (i1 : Int)), (13, .pointer (some ⟨b4, 0, none⟩)), (14, .pointer (some ⟨b5, 0, none⟩)), (34, .slice A1 l1.length c1), (35, .int .i64 (l1.length : Int)), (36, .int .i64 (i1 : Int))] w28 ?_ a hF
          refine we_orders2 (by kernel_rfl) [(2, [⟨b4, 0, none⟩]), (4, [⟨b4, 1, none⟩]), (8, [⟨blkOf A2, offOf A2 + i1 * 1, none⟩]), (11, [⟨b5, 0, none⟩]), (13, [⟨b4, 1, none⟩]), (15, [⟨b5, 2, none⟩]), (20, [⟨b4, 0, none⟩])] (.vals [0] (.vals [1] (.vals [2] (.vals [3] (.vals [4] (.vals [5] (.vals [6] (.vals [7] (.vals [8] (.vals [9] (.vals [10] (.vals [11] (.vals [12] (.vals [13] (.vals [14] (.vals [15] (.vals [16] (.vals [17] (.vals [18] (.vals [19] (.vals [20] (.vals [21] (.vals [22] (.alt 23 1 (.alt 24 2 (.vals [25] .fin) .nomore) .nomore)))))))))))))))))))))))) (by kernel_rfl) ?_
          have hS121 := hS120.drew
          refine go2_batch [0, 1] (ans := []) (vs := [(87, .pointer (some ⟨b4, 0, none⟩)), (86, (.slice Z1 m1.length cz1))]) (l := []) (by kernel_rfl) trivial mem_nil ?_
          refine go2_batch [2] (ans := [.val (.int .i64 e1.Task)]) (vs := [(88, .int .i64 e1.Task)]) (l := [.loaded ⟨b4, 0, none⟩ (.int .i64 e1.Task)]) (by kernel_rfl) ⟨hS121.cell 1 rfl rfl, trivial⟩ (mem_one (by kernel_rfl)) ?_
          refine go2_batch [3] (ans := []) (vs := [(89, .pointer (some ⟨b4, 1, none⟩))]) (l := []) (by kernel_rfl) trivial mem_nil ?_
          refine go2_batch [4] (ans := [.val (.int .i64 e1.At)]) (vs := [(90, .int .i64 e1.At)]) (l := [.loaded ⟨b4, 1, none⟩ (.int .i64 e1.At)]) (by kernel_rfl) ⟨hS121.cell 1 rfl rfl, trivial⟩ (mem_one (by kernel_rfl)) ?_
          refine go2_batch [5, 6] (ans := []) (vs := [(92, .int .i64 (i1 : Int)), (91, .slice A2 l2.length c2)]) (l := []) (by kernel_rfl) trivial mem_nil ?_
          rcases hx9 : l2[i1]? with _ | e4
          · rw [hx9] at h; cases h
          rw [hx9] at h
          simp only [] at h
          refine go2_index (d := 93) (ty := 0) (t := 24) (el := 3) (sz := 1) (m := l2.length) (c := c2) (x := (.tmp 91)) (y := (.tmp 92)) (A := A2) (k' := .i64) (j := (i1 : Int)) (jn := i1) (b0 := blkOf A2) (o0 := offOf A2) (by kernel_rfl) (by kernel_rfl) (by kernel_rfl) (by kernel_rfl) (by kernel_rfl) ((hS121.rd hR2).eqSome (pos_of_get hx9)) rfl (lt_of_get hx9) ?_
          refine go2_batch [8] (ans := [.val (.int .i64 e4)]) (vs := [(94, .int .i64 e4)]) (l := [.loaded ⟨blkOf A2, offOf A2 + i1 * 1, none⟩ (.int .i64 e4)]) (by kernel_rfl) ⟨RdL.cell (j := 0) (hS121.rd hR2) hx9 rfl, trivial⟩ (mem_one (by kernel_rfl)) ?_
          refine go2_batch [9, 10] (ans := []) (vs := [(96, .pointer (some ⟨b5, 0, none⟩)), (95, .int .i64 (IntKind.i64.wrap (e1.At + e4)))]) (l := []) (by kernel_rfl) trivial mem_nil ?_
          refine go2_batch [11] (ans := [.val (.int .i64 e2.C)]) (vs := [(97, .int .i64 e2.C)]) (l := [.loaded ⟨b5, 0, none⟩ (.int .i64 e2.C)]) (by kernel_rfl) ⟨hS121.cell 0 rfl rfl, trivial⟩ (mem_one (by kernel_rfl)) ?_
          refine go2_batch [12] (ans := []) (vs := [(98, .pointer (some ⟨b4, 1, none⟩))]) (l := []) (by kernel_rfl) trivial mem_nil ?_
          refine go2_batch [13] (ans := [.val (.int .i64 e1.At)]) (vs := [(99, .int .i64 e1.At)]) (l := [.loaded ⟨b4, 1, none⟩ (.int .i64 e1.At)]) (by kernel_rfl) ⟨hS121.cell 1 rfl rfl, trivial⟩ (mem_one (by kernel_rfl)) ?_
          refine go2_batch [14] (ans := []) (vs := [(100, .pointer (some ⟨b5, 2, none⟩))]) (l := []) (by kernel_rfl) trivial mem_nil ?_
          refine go2_batch [15] (ans := [.val (.int .i64 e2.D)]) (vs := [(101, .int .i64 e2.D)]) (l := [.loaded ⟨b5, 2, none⟩ (.int .i64 e2.D)]) (by kernel_rfl) ⟨hS121.cell 0 rfl rfl, trivial⟩ (mem_one (by kernel_rfl)) ?_
          refine go2_batch [16, 17, 18, 19] (ans := []) (vs := [(105, .pointer (some ⟨b4, 0, none⟩)), (104, .int .i64 (l0.length : Int)), (103, .slice A0 l0.length c0), (102, .int .i64 (IntKind.i64.wrap (e1.At + e2.D)))]) (l := []) (by kernel_rfl) trivial mem_nil ?_
          refine go2_batch [20] (ans := [.val (.int .i64 e1.Task)]) (vs := [(106, .int .i64 e1.Task)]) (l := [.loaded ⟨b4, 0, none⟩ (.int .i64 e1.Task)]) (by kernel_rfl) ⟨hS121.cell 1 rfl rfl, trivial⟩ (mem_one (by kernel_rfl)) ?_
          refine go2_batch [21, 22] (ans := []) (vs := [(108, .agg #[.int .i64 e1.Task, .int .i64 (IntKind.i64.wrap (e1.At + e4)), .int .i64 e2.C, .int .i64 (IntKind.i64.wrap (e1.At + e2.D)), .int .i64 (IntKind.i64.wrap ((l0.length : Int) - e1.Task))]), (107, .int .i64 (IntKind.i64.wrap ((l0.length : Int) - e1.Task)))]) (l := []) (by kernel_rfl) trivial mem_nil ?_
          refine go_alt2 (fun KK hKK => ?_) ?_
          · refine ge_one2 ?_
            refine ge_new (d := some 109) (o := .cells #[.int .i64 e1.Task, .int .i64 (IntKind.i64.wrap (e1.At + e4)), .int .i64 e2.C, .int .i64 (IntKind.i64.wrap (e1.At + e2.D)), .int .i64 (IntKind.i64.wrap ((l0.length : Int) - e1.Task))] 88) (v := fun b => .slice (some ⟨b, 0, none⟩) 1 1) hS121 (fun b => by kernel_rfl) fun b6 w29 hx10 hS122 => ?_
            refine ge_nil fun a hF => hKK _ _ (RS.of2 (l := [.loaded ⟨b4, 0, none⟩ (.int .i64 e1.Task), .loaded ⟨b4, 1, none⟩ (.int .i64 e1.At), .loaded ⟨blkOf A2, offOf A2 + i1 * 1, none⟩ (.int .i64 e4), .loaded ⟨b5, 0, none⟩ (.int .i64 e2.C), .loaded ⟨b4, 1, none⟩ (.int .i64 e1.At), .loaded ⟨b5, 2, none⟩ (.int .i64 e2.D), .loaded ⟨b4, 0, none⟩ (.int .i64 e1.Task)]) (by kernel_rfl) ⟨hS121.cell 1 rfl rfl, hS121.cell 1 rfl rfl, RdL.cell (j := 0) (hS121.rd hR2) hx9 rfl, hS121.cell 0 rfl rfl, hS121.cell 1 rfl rfl, hS121.cell 0 rfl rfl, hS121.cell 1 rfl rfl, trivial⟩ ⟨hS122.cell 2 rfl rfl, hS122.cell 2 rfl rfl, RdL.cell (j := 0) (hS122.rd hR2) hx9 rfl, hS122.cell 1 rfl rfl, hS122.cell 2 rfl rfl, hS122.cell 1 rfl rfl, hS122.cell 2 rfl rfl, trivial⟩) ?_ a hF
            refine go_alt2 (fun KK hKK => ?_) ?_
            · have hS123 := hS122.bring 5 rfl
              by_cases hc12 : m1.length < 3518437208883
              · rw [if_pos hc12] at h
                refine ge_append (α := SJob) (m := 0) (d := 110) (t := 74) (el := 88) (bytes := 40) (c1 := 1) (b1 := b6) (x := (.tmp 86)) (y := (.tmp 109)) (ty := 74) (v := (.slice Z1 m1.length cz1)) (z := .agg #[.int .i64 0, .int .i64 0, .int .i64 0, .int .i64 0, .int .i64 0]) (l := m1) (u := (⟨e1.Task, IntKind.i64.wrap (e1.At + e4), e2.C, IntKind.i64.wrap (e1.At + e2.D), IntKind.i64.wrap ((l0.length : Int) - e1.Task)⟩ : SJob)) (by kernel_rfl) (by kernel_rfl) (by kernel_rfl) (by kernel_rfl) (by kernel_rfl) rfl hS123 rfl (by omega) fun v3 w30 hS124 => ?_
                refine ge_nil fun a hF => hKK _ _ (RS.of2 (l := [.loaded ⟨b4, 0, none⟩ (.int .i64 e1.Task), .loaded ⟨b4, 1, none⟩ (.int .i64 e1.At), .loaded ⟨blkOf A2, offOf A2 + i1 * 1, none⟩ (.int .i64 e4), .loaded ⟨b5, 0, none⟩ (.int .i64 e2.C), .loaded ⟨b4, 1, none⟩ (.int .i64 e1.At), .loaded ⟨b5, 2, none⟩ (.int .i64 e2.D), .loaded ⟨b4, 0, none⟩ (.int .i64 e1.Task)]) (by kernel_rfl) ⟨hS122.cell 2 rfl rfl, hS122.cell 2 rfl rfl, RdL.cell (j := 0) (hS122.rd hR2) hx9 rfl, hS122.cell 1 rfl rfl, hS122.cell 2 rfl rfl, hS122.cell 1 rfl rfl, hS122.cell 2 rfl rfl, trivial⟩ ⟨hS124.cell 2 rfl rfl, hS124.cell 2 rfl rfl, RdL.cell (j := 0) (hS124.rd hR2) hx9 rfl, hS124.cell 1 rfl rfl, hS124.cell 2 rfl rfl, hS124.cell 1 rfl rfl, hS124.cell 2 rfl rfl, trivial⟩) ?_ a hF
                refine go2_batch [25] (ans := []) (vs := [(11, v3)]) (l := []) (by kernel_rfl) trivial mem_nil ?_
                refine go_fin2 fun a hF => hK14 _ _ ?_ a hF
                refine we_region [(0, 0), (1, 0)] rfl ?_
                refine ge_addn (d := 111) (ty := 3) (x := (.tmp 36)) (y := (.const (.int .i64 1))) (t := 3) (t2 := 3) (k := .i64) (m := i1) (by kernel_rfl) (by kernel_rfl) (by kernel_rfl) (by have h0 := hR1.small; omega) ?_
                refine ge_batch [1] (ans := []) (vs := [(36, .int .i64 ((i1 + 1 : Nat) : Int))]) (l := []) (by kernel_rfl) trivial ?_
                have hS125 := hS124.bring 4 rfl
                have hS126 := hS125.bring 4 rfl
                have hS127 := hS126.takeN 3
                obtain rfl := Option.some.inj h
                exact ge_nil fun a hF => hQ _ _ _ (Outs.again ⟨v3, hS127, hF.weaken ⟨by kernel_rfl, by kernel_rfl, by kernel_rfl, by kernel_rfl, by kernel_rfl, by kernel_rfl, by kernel_rfl, by kernel_rfl, by kernel_rfl, trivial⟩⟩)
              · rw [if_neg hc12] at h
                cases h
            exact go_nomore2
          exact go_nomore2
        · rw [hq4] at h
          simp only [] at h
          refine we_keep (e' := [(0, .slice A0 l0.length c0), (2, .slice A2 l2.length c2), (3, .int .i64 x3), (8, .pointer (some ⟨b1, 0, none⟩)), (9, .pointer (some ⟨b2, 0, none⟩)), (11, (.slice Z1 m1.length cz1)), (12, .int .i64 (i1 : Int)), (13, .pointer (some ⟨b4, 0, none⟩)), (14, .pointer (some ⟨b5, 0, none⟩)), (34, .slice A1 l1.length c1), (35, .int .i64 (l1.length : Int)), (36, .int .i64 (i1 : Int)), (54, .slice A0 l0.length c0), (55, .pointer (some ⟨b4, 0, none⟩)), (56, .int .i64 e1.Task), (57, .pointer (some ⟨blkOf A0, offOf A0 + (e1.Task).toNat * 4, none⟩)), (58, .agg #[.int .i64 e2.C, .int .i64 e2.T, .int .i64 e2.D, .int .i64 e2.J])]) ⟨by kernel_rfl, by kernel_rfl, by kernel_rfl, by kernel_rfl, by kernel_rfl, by kernel_rfl, by kernel_rfl, by kernel_rfl, by kernel_rfl, by kernel_rfl, by kernel_rfl, by kernel_rfl, by kernel_rfl, by kernel_rfl, by kernel_rfl, by kernel_rfl, by kernel_rfl, trivial⟩ (net_Send_p3 K w0 l0 A0 c0 l1 A1 c1 l2 A2 c2 x3 hR0 hL0 hR1 hL1 hR2 hL2 b1 b2 r1 b3 hc1 m1 i1 hc4 e1 hx4 b4 Z1 cz1 hc7 e2 hx6 b5 _ hq4 _ hS69 _ ?_)
          rintro _ a w1 ⟨_, rfl, hb⟩
          obtain rfl := Option.some.inj h
          exact hQ _ _ _ (Outs.out nofun (Exits.on ⟨rfl, hb⟩))
      · rw [if_neg hc7] at h
        cases h
    · rw [hq3] at h
      simp only [] at h
      refine we_keep (e' := [(0, .slice A0 l0.length c0), (2, .slice A2 l2.length c2), (3, .int .i64 x3), (8, .pointer (some ⟨b1, 0, none⟩)), (9, .pointer (some ⟨b2, 0, none⟩)), (11, (.slice Z1 m1.length cz1)), (12, .int .i64 (i1 : Int)), (13, .pointer (some ⟨b4, 0, none⟩)), (34, .slice A1 l1.length c1), (35, .int .i64 (l1.length : Int)), (36, .int .i64 (i1 : Int)), (37, .bool true), (38, .int .i64 (i1 : Int)), (39, .pointer (some ⟨blkOf A1, offOf A1 + i1 * 2, none⟩)), (40, .agg #[.int .i64 e1.Task, .int .i64 e1.At])]) ⟨by kernel_rfl, by kernel_rfl, by kernel_rfl, by kernel_rfl, by kernel_rfl, by kernel_rfl, by kernel_rfl, by kernel_rfl, by kernel_rfl, by kernel_rfl, by kernel_rfl, by kernel_rfl, by kernel_rfl, by kernel_rfl, by kernel_rfl, trivial⟩ (net_Send_p2 K w0 l0 A0 c0 l1 A1 c1 l2 A2 c2 x3 hR0 hL0 hR1 hL1 hR2 hL2 b1 b2 r1 b3 hc1 m1 i1 hc4 e1 hx4 b4 Z1 cz1 _ hq3 _ hS39 _ ?_)
      rintro _ a w1 ⟨_, rfl, hb⟩
      obtain rfl := Option.some.inj h
      exact hQ _ _ _ (Outs.out nofun (Exits.on ⟨rfl, hb⟩))
  · rw [if_neg hc4] at h
    refine we_known (t := 37) (b := decide ((i1 : Int) < (l1.length : Int))) (v := false) (by kernel_rfl) (decide_eq_false hc4) ?_
    refine we_false (by kernel_rfl) ?_
    have hS128 := hS.bring 2 rfl
    have hS129 := hS128.bring 2 rfl
    have hS130 := hS129.bring 2 rfl
    obtain rfl := Option.some.inj h
    exact we_exit fun a hF => hQ _ _ _ (Outs.out nofun (Exits.here ⟨v1, hS130, hF.weaken ⟨by kernel_rfl, by kernel_rfl, by kernel_rfl, by kernel_rfl, trivial⟩⟩))
abbrev net_Send.A4 (K : Nat) (w0 : World) (l0 : List SFrame) (A0 : Option Addr) (c0 : Nat) (l1 : List SCome) (A1 : Option Addr) (c1 : Nat) (l2 : List Int) (A2 : Option Addr) (c2 : Nat) (x3 : Int) (hR0 : RdL w0 A0 l0) (hL0 : l0.length ≤ c0) (hR1 : RdL w0 A1 l1) (hL1 : l1.length ≤ c1) (hR2 : RdL w0 A2 l2) (hL2 : l2.length ≤ c2) (b1 : Nat) (b2 : Nat) (r1 : SFault) (b3 : Nat) (hc1 : ¬ (r1.Code = 0)) : (Int × Int × (List Int) × (List Int)) → Act → World → Prop := fun (s : Int × Int × (List Int) × (List Int)) a w => ∃ (v7 : Value) (v8 : Value), St w0 w [Own.blk b2 (.cells #[.int .i64 s.1, .int .i64 s.2.1] 29 (0, 0)), Own.blk b1 (.cells #[v7, v8] 37 (0, 0)), Own.of v7 3 s.2.2.1, Own.of v8 3 s.2.2.2] ∧ Frm 117 a [(8, .pointer (some ⟨b1, 0, none⟩)), (9, .pointer (some ⟨b2, 0, none⟩))]
abbrev net_Send.B4 (K : Nat) (w0 : World) (l0 : List SFrame) (A0 : Option Addr) (c0 : Nat) (l1 : List SCome) (A1 : Option Addr) (c1 : Nat) (l2 : List Int) (A2 : Option Addr) (c2 : Nat) (x3 : Int) (hR0 : RdL w0 A0 l0) (hL0 : l0.length ≤ c0) (hR1 : RdL w0 A1 l1) (hL1 : l1.length ≤ c1) (hR2 : RdL w0 A2 l2) (hL2 : l2.length ≤ c2) (b1 : Nat) (b2 : Nat) (r1 : SFault) (b3 : Nat) (hc1 : ¬ (r1.Code = 0)) : (SPlayed × SFault) → Exit → Act → World → Prop := Rets Try.prog Try.f15 (net_Send.Post w0)
theorem net_Send_p4 (K : Nat) (w0 : World) (l0 : List SFrame) (A0 : Option Addr) (c0 : Nat) (l1 : List SCome) (A1 : Option Addr) (c1 : Nat) (l2 : List Int) (A2 : Option Addr) (c2 : Nat) (x3 : Int) (hR0 : RdL w0 A0 l0) (hL0 : l0.length ≤ c0) (hR1 : RdL w0 A1 l1) (hL1 : l1.length ≤ c1) (hR2 : RdL w0 A2 l2) (hL2 : l2.length ≤ c2) (b1 : Nat) (b2 : Nat) (r1 : SFault) (b3 : Nat) (hc1 : ¬ (r1.Code = 0)) (o : (Int × Int × (List Int) × (List Int)) ⊕ (SPlayed × SFault)) (h : net_Send.p4 r1 = some o) (w : World) (hS : St w0 w [Own.blk b3 (.cells #[.int .i64 r1.Code, .int .i64 r1.At] 29 (0, 0)), Own.blk b2 (.cells #[.int .i64 0, .int .i64 0] 29 (0, 0)), Own.blk b1 (.cells #[.slice none 0 0, .slice none 0 0] 37 (0, 0))]) (Q : Exit → Act → World → Prop) (hQ : ∀ x a w, Outs (net_Send.A4 K w0 l0 A0 c0 l1 A1 c1 l2 A2 c2 x3 hR0 hL0 hR1 hL1 hR2 hL2 b1 b2 r1 b3 hc1) (net_Send.B4 K w0 l0 A0 c0 l1 A1 c1 l2 A2 c2 x3 hR0 hL0 hR1 hL1 hR2 hL2 b1 b2 r1 b3 hc1) o x a w → Q x a w) : WE Try.prog 117 (subF Try.f15 [1, 0, 1, 1, 0, 0]) Q [(0, .slice A0 l0.length c0), (1, .slice A1 l1.length c1), (2, .slice A2 l2.length c2), (3, .int .i64 x3), (8, .pointer (some ⟨b1, 0, none⟩)), (9, .pointer (some ⟨b2, 0, none⟩)), (10, .pointer (some ⟨b3, 0, none⟩)), (15, .slice A0 l0.length c0), (16, .agg #[.int .i64 r1.Code, .int .i64 r1.At]), (17, .pointer (some ⟨b3, 0, none⟩)), (18, .int .i64 r1.Code), (19, .bool true)] w := by
  simp only [net_Send.p4] at h
  refine we_orders2 (by kernel_rfl) [(1, [⟨b3, 0, none⟩, ⟨b3, 1, none⟩])] (.vals [0] (.vals [1] (.alt 2 2 (.alt 3 2 .fin .nomore) .nomore))) (by kernel_rfl) ?_
  have hS143 := hS.drew
  refine go2_batch [0] (ans := []) (vs := [(20, .agg #[.slice none 0 0, .slice none 0 0])]) (l := []) (by kernel_rfl) trivial mem_nil ?_
  refine go2_batch [1] (ans := [.val (.int .i64 r1.Code), .val (.int .i64 r1.At)]) (vs := [(21, .agg #[.int .i64 r1.Code, .int .i64 r1.At])]) (l := [.loaded ⟨b3, 0, none⟩ (.int .i64 r1.Code), .loaded ⟨b3, 1, none⟩ (.int .i64 r1.At)]) (by kernel_rfl) ⟨hS143.cell 0 rfl rfl, hS143.cell 0 rfl rfl, trivial⟩ (mem_one (by kernel_rfl)) ?_
  refine go_alt2 (fun KK hKK => ?_) ?_
  · have hS144 := hS143.bring 2 rfl
    refine ge_set (b := b1) (j := 0) (cs := #[.slice none 0 0, .slice none 0 0]) (t := 37) (vs := [.slice none 0 0, .slice none 0 0]) hS144 (by kernel_rfl) rfl rfl fun w35 hS145 => ?_
    have hS146 : St w0 w35 [Own.blk b1 (.cells #[.slice none 0 0, .slice none 0 0] 37 (0, 0)), Own.blk b3 (.cells #[.int .i64 r1.Code, .int .i64 r1.At] 29 (0, 0)), Own.blk b2 (.cells #[.int .i64 0, .int .i64 0] 29 (0, 0))] := hS145
    refine ge_nil fun a hF => hKK _ _ (RS.of2 (l := [.loaded ⟨b3, 0, none⟩ (.int .i64 r1.Code), .loaded ⟨b3, 1, none⟩ (.int .i64 r1.At)]) (by kernel_rfl) ⟨hS143.cell 0 rfl rfl, hS143.cell 0 rfl rfl, trivial⟩ ⟨hS146.cell 1 rfl rfl, hS146.cell 1 rfl rfl, trivial⟩) ?_ a hF
    refine go_alt2 (fun KK hKK => ?_) ?_
    · have hS147 := hS146.bring 2 rfl
      refine ge_set (b := b2) (j := 0) (cs := #[.int .i64 0, .int .i64 0]) (t := 29) (vs := [.int .i64 r1.Code, .int .i64 r1.At]) hS147 (by kernel_rfl) rfl rfl fun w36 hS148 => ?_
      have hS149 : St w0 w36 [Own.blk b2 (.cells #[.int .i64 r1.Code, .int .i64 r1.At] 29 (0, 0)), Own.blk b1 (.cells #[.slice none 0 0, .slice none 0 0] 37 (0, 0)), Own.blk b3 (.cells #[.int .i64 r1.Code, .int .i64 r1.At] 29 (0, 0))] := hS148
      refine ge_nil fun a hF => hKK _ _ (RS.of2 (l := []) (by kernel_rfl) trivial trivial) ?_ a hF
      have hS150 := hS149.nil (α := Int) 3
      have hS151 := hS150.nil (α := Int) 3
      have hS152 := hS151.bring 1 rfl
      have hS153 := hS152.bring 1 rfl
      have hS154 := hS153.bring 3 rfl
      have hS155 := hS154.bring 3 rfl
      have hS156 := hS155.takeN 4
      obtain rfl := Option.some.inj h
      exact go_fin2 fun a hF => hQ _ _ _ (Outs.again ⟨(.slice none 0 0), (.slice none 0 0), hS156, hF.weaken ⟨by kernel_rfl, by kernel_rfl, trivial⟩⟩)
    exact go_nomore2
  exact go_nomore2
theorem net_Send_ok (K : Nat) (l0 : List SFrame) (A0 : Option Addr) (c0 : Nat) (l1 : List SCome) (A1 : Option Addr) (c1 : Nat) (l2 : List Int) (A2 : Option Addr) (c2 : Nat) (x3 : Int) (w0 : World) (hR0 : RdL w0 A0 l0) (hL0 : l0.length ≤ c0) (hR1 : RdL w0 A1 l1) (hL1 : l1.length ≤ c1) (hR2 : RdL w0 A2 l2) (hL2 : l2.length ≤ c2) (r : SPlayed × SFault) (h : net_Send.f K l0 l1 l2 x3 = some r) :
    Calls Try.prog 15 #[.slice A0 l0.length c0, .slice A1 l1.length c1, .slice A2 l2.length c2, .int .i64 x3] w0 (net_Send.Post w0 r) := by
  have hS := St.start w0
  unfold net_Send.f at h
  refine calls_enter (n := 117) (args := [.slice A0 l0.length c0, .slice A1 l1.length c1, .slice A2 l2.length c2, .int .i64 x3]) (fn := Try.f15) rfl rfl rfl rfl ?_
  show WE _ _ _ _ [(0, .slice A0 l0.length c0), (1, .slice A1 l1.length c1), (2, .slice A2 l2.length c2), (3, .int .i64 x3)] _
  refine we_seq fun K1 hK1 => ?_
  refine we_region [(0, 1), (1, 1)] rfl ?_
  refine ge_new (d := some 8) (o := .cells #[.slice none 0 0, .slice none 0 0] 37) (v := fun b => .pointer (some ⟨b, 0, none⟩)) hS (fun b => by kernel_rfl) fun b1 w1 hx1 hS1 => ?_
  refine ge_new (d := some 9) (o := .cells #[.int .i64 0, .int .i64 0] 29) (v := fun b => .pointer (some ⟨b, 0, none⟩)) hS1 (fun b => by kernel_rfl) fun b2 w2 hx2 hS2 => ?_
  refine ge_nil fun a hF => hK1 _ _ ?_ a hF
  refine we_seq fun K2 hK2 => ?_
  refine we_seq fun K3 hK3 => ?_
  refine we_region [(0, 0), (1, 1), (2, 1), (3, 2)] rfl ?_
  rcases hq1 : net_Check.f K l0 with _ | r1
  · rw [hq1] at h; cases h
  rw [hq1] at h
  simp only [] at h
  refine ge_batch [0] (ans := []) (vs := [(15, .slice A0 l0.length c0)]) (l := []) (by kernel_rfl) trivial ?_
  refine ge_call (d := some 16) (f := 35) (args := #[.slice A0 l0.length c0]) (by kernel_rfl) (net_Check_ok K l0 A0 c0 _ (hS2.rd hR0) hL0 _ hq1) ?_
  rintro _ w3 ⟨rfl, hS3⟩
  refine ⟨_, rfl, hS3.below, ?_⟩
  have hS4 := hS2.call hS3
  refine ge_new (d := some 10) (o := .cells #[.int .i64 0, .int .i64 0] 29) (v := fun b => .pointer (some ⟨b, 0, none⟩)) hS4 (fun b => by kernel_rfl) fun b3 w4 hx3 hS5 => ?_
  refine ge_set (b := b3) (j := 0) (cs := #[.int .i64 0, .int .i64 0]) (t := 29) (vs := [.int .i64 r1.Code, .int .i64 r1.At]) hS5 (by kernel_rfl) rfl rfl fun w5 hS6 => ?_
  have hS7 : St w0 w5 [Own.blk b3 (.cells #[.int .i64 r1.Code, .int .i64 r1.At] 29 (0, 0)), Own.blk b2 (.cells #[.int .i64 0, .int .i64 0] 29 (0, 0)), Own.blk b1 (.cells #[.slice none 0 0, .slice none 0 0] 37 (0, 0))] := hS6
  refine ge_nil fun a hF => hK3 _ _ ?_ a hF
  refine we_seq fun K4 hK4 => ?_
  refine we_region [(0, 0), (1, 0), (2, 0)] rfl ?_
  refine ge_batch [0, 1, 2] (ans := [.val (.int .i64 r1.Code)]) (vs := [(19, .bool (r1.Code != 0)), (18, .int .i64 r1.Code), (17, .pointer (some ⟨b3, 0, none⟩))]) (l := [.loaded ⟨b3, 0, none⟩ (.int .i64 r1.Code)]) (by kernel_rfl) ⟨hS7.cell 0 rfl rfl, trivial⟩ ?_
  refine ge_nil fun a hF => hK4 _ _ ?_ a hF
  by_cases hc1 : r1.Code = 0
  · rw [if_pos hc1] at h
    refine we_known (t := 19) (b := (r1.Code != 0)) (v := false) (by kernel_rfl) (bne_eq_false_iff_eq.2 hc1) ?_
    refine we_false (by kernel_rfl) ?_
    refine we_skip fun a hF => hK2 _ _ ?_ a hF
    refine we_seq fun K5 hK5 => ?_
    rcases hq2 : net_Send.p0 l1 l2 with _ | (_ | rr4)
    · rw [hq2] at h; cases h
    · rw [hq2] at h
      simp only [] at h
      refine we_keep (e' := [(0, .slice A0 l0.length c0), (1, .slice A1 l1.length c1), (2, .slice A2 l2.length c2), (3, .int .i64 x3), (8, .pointer (some ⟨b1, 0, none⟩)), (9, .pointer (some ⟨b2, 0, none⟩)), (10, .pointer (some ⟨b3, 0, none⟩)), (15, .slice A0 l0.length c0), (16, .agg #[.int .i64 r1.Code, .int .i64 r1.At]), (17, .pointer (some ⟨b3, 0, none⟩)), (18, .int .i64 r1.Code), (19, .bool false)]) ⟨by kernel_rfl, by kernel_rfl, by kernel_rfl, by kernel_rfl, by kernel_rfl, by kernel_rfl, by kernel_rfl, by kernel_rfl, by kernel_rfl, by kernel_rfl, by kernel_rfl, by kernel_rfl, trivial⟩ (net_Send_p0 K w0 l0 A0 c0 l1 A1 c1 l2 A2 c2 x3 hR0 hL0 hR1 hL1 hR2 hL2 b1 b2 r1 b3 hc1 _ hq2 _ hS7 _ ?_)
      rintro _ a w10 ⟨rfl, hS33, hF⟩
      replace hS33 : St w0 w10 [Own.blk b2 (.cells #[.int .i64 0, .int .i64 0] 29 (0, 0)), Own.blk b1 (.cells #[.slice none 0 0, .slice none 0 0] 37 (0, 0))] := hS33
      refine hK5 [(0, .slice A0 l0.length c0), (1, .slice A1 l1.length c1), (2, .slice A2 l2.length c2), (3, .int .i64 x3), (8, .pointer (some ⟨b1, 0, none⟩)), (9, .pointer (some ⟨b2, 0, none⟩))] w10 ?_ a hF
      refine we_seq fun K9 hK9 => ?_
      refine we_region [(0, 0)] rfl ?_
      refine ge_batch [0] (ans := []) (vs := [(11, .slice none 0 0)]) (l := []) (by kernel_rfl) trivial ?_
      refine ge_nil fun a hF => hK9 _ _ ?_ a hF
      refine we_seq fun K10 hK10 => ?_
      refine we_seq fun K11 hK11 => ?_
      refine we_region [(0, 0), (1, 0), (2, 0)] rfl ?_
      refine ge_batch [0, 1, 2] (ans := []) (vs := [(36, .int .i64 0), (35, .int .i64 (l1.length : Int)), (34, .slice A1 l1.length c1)]) (l := []) (by kernel_rfl) trivial ?_
      refine ge_nil fun a hF => hK11 _ _ ?_ a hF
      refine we_block ?_
      have hS34 := hS33.nil (α := SJob) 88
      have hS35 := hS34.bring 2 rfl
      have hS36 := hS35.bring 2 rfl
      rcases hq5 : iter (net_Send.r1 l0 l1 l2) K (([] : List SJob), 0) with _ | (m3 | rr3)
      · rw [hq5] at h; cases h
      · rw [hq5] at h
        simp only [] at h
        refine we_iter (A := net_Send.A1 K w0 l0 A0 c0 l1 A1 c1 l2 A2 c2 x3 hR0 hL0 hR1 hL1 hR2 hL2 b1 b2 r1 b3 hc1) (B := net_Send.B1 K w0 l0 A0 c0 l1 A1 c1 l2 A2 c2 x3 hR0 hL0 hR1 hL1 hR2 hL2 b1 b2 r1 b3 hc1) hq5 (fun a hF => ⟨(.slice none 0 0), hS36, hF.weaken ⟨by kernel_rfl, by kernel_rfl, by kernel_rfl, by kernel_rfl, by kernel_rfl, by kernel_rfl, by kernel_rfl, by kernel_rfl, by kernel_rfl, trivial⟩⟩) (fun s o hf a w hA Q hQ => net_Send_r1 K w0 l0 A0 c0 l1 A1 c1 l2 A2 c2 x3 hR0 hL0 hR1 hL1 hR2 hL2 b1 b2 r1 b3 hc1 s o hf a w hA Q hQ) ?_
        rintro _ a w31 _ ⟨rfl, v4, hS131, hF⟩
        replace hS131 : St w0 w31 [Own.blk b2 (.cells #[.int .i64 0, .int .i64 0] 29 (0, 0)), Own.blk b1 (.cells #[.slice none 0 0, .slice none 0 0] 37 (0, 0)), Own.of v4 88 m3] := hS131
        refine hK10 [(3, .int .i64 x3), (8, .pointer (some ⟨b1, 0, none⟩)), (9, .pointer (some ⟨b2, 0, none⟩)), (11, v4)] w31 ?_ a hF
        refine we_seq fun K27 hK27 => ?_
        refine we_region [(0, 0), (1, 0), (2, 1), (3, 0), (4, 0), (5, 2), (6, 2)] rfl ?_
        refine ge_batch [0, 1] (ans := []) (vs := [(113, .int .i64 x3), (112, v4)]) (l := []) (by kernel_rfl) trivial ?_
        obtain ⟨Z2, cz2, rfl⟩ := hS131.open 2 rfl
        rcases hq6 : sched_Play.f K m3 1 false x3 with _ | r2
        · rw [hq6] at h; cases h
        rw [hq6] at h
        simp only [] at h
        refine ge_call (d := some 114) (f := 37) (args := #[(.slice Z2 m3.length cz2), .int .i64 1, .bool false, .int .i64 x3]) (by kernel_rfl) (sched_Play_ok K m3 Z2 cz2 1 false x3 _ (hS131.rdAt 2 rfl) (hS131.capAt 2 rfl) _ hq6) ?_
        rintro _ w32 ⟨v5, v6, rfl, hS132⟩
        refine ⟨_, rfl, hS132.below, ?_⟩
        have hS133 := hS131.call hS132
        refine ge_batch [3, 4] (ans := []) (vs := [(116, .agg #[.int .i64 r2.2.Code, .int .i64 r2.2.At]), (115, .agg #[v5, v6])]) (l := []) (by kernel_rfl) trivial ?_
        obtain ⟨Z3, cz3, rfl⟩ := hS133.open 0 rfl
        obtain ⟨Z4, cz4, rfl⟩ := hS133.open 1 rfl
        have hS134 := hS133.bring 3 rfl
        refine ge_set (b := b1) (j := 0) (cs := #[.slice none 0 0, .slice none 0 0]) (t := 37) (vs := [(.slice Z3 r2.1.Runs.length cz3), (.slice Z4 r2.1.Ends.length cz4)]) hS134 (by kernel_rfl) rfl rfl fun w33 hS135 => ?_
        have hS136 : St w0 w33 [Own.blk b1 (.cells #[(.slice Z3 r2.1.Runs.length cz3), (.slice Z4 r2.1.Ends.length cz4)] 37 (0, 0)), Own.of (.slice Z3 r2.1.Runs.length cz3) 3 r2.1.Runs, Own.of (.slice Z4 r2.1.Ends.length cz4) 3 r2.1.Ends, Own.blk b2 (.cells #[.int .i64 0, .int .i64 0] 29 (0, 0)), Own.of (.slice Z2 m3.length cz2) 88 m3] := hS135
        have hS137 := hS136.bring 3 rfl
        refine ge_set (b := b2) (j := 0) (cs := #[.int .i64 0, .int .i64 0]) (t := 29) (vs := [.int .i64 r2.2.Code, .int .i64 r2.2.At]) hS137 (by kernel_rfl) rfl rfl fun w34 hS138 => ?_
        have hS139 : St w0 w34 [Own.blk b2 (.cells #[.int .i64 r2.2.Code, .int .i64 r2.2.At] 29 (0, 0)), Own.blk b1 (.cells #[(.slice Z3 r2.1.Runs.length cz3), (.slice Z4 r2.1.Ends.length cz4)] 37 (0, 0)), Own.of (.slice Z3 r2.1.Runs.length cz3) 3 r2.1.Runs, Own.of (.slice Z4 r2.1.Ends.length cz4) 3 r2.1.Ends, Own.of (.slice Z2 m3.length cz2) 88 m3] := hS138
        refine ge_nil fun a hF => hK27 _ _ ?_ a hF
        have hS140 := hS139.bring 3 rfl
        have hS141 := hS140.bring 3 rfl
        have hS142 := hS141.takeN 2
        obtain rfl := Option.some.inj h
        exact we_ret (post_ret (rs := [.cell 8 37, .cell 9 29]) (ans := [.val ((.slice Z3 r2.1.Runs.length cz3)), .val ((.slice Z4 r2.1.Ends.length cz4)), .val (.int .i64 r2.2.Code), .val (.int .i64 r2.2.At)]) (vs := [.agg #[(.slice Z3 r2.1.Runs.length cz3), (.slice Z4 r2.1.Ends.length cz4)], .agg #[.int .i64 r2.2.Code, .int .i64 r2.2.At]]) (l := [.loaded ⟨b1, 0, none⟩ ((.slice Z3 r2.1.Runs.length cz3)), .loaded ⟨b1, 1, none⟩ ((.slice Z4 r2.1.Ends.length cz4)), .loaded ⟨b2, 0, none⟩ (.int .i64 r2.2.Code), .loaded ⟨b2, 1, none⟩ (.int .i64 r2.2.At)]) rfl (by kernel_rfl) ⟨hS139.cell 1 rfl rfl, hS139.cell 1 rfl rfl, hS139.cell 0 rfl rfl, hS139.cell 0 rfl rfl, trivial⟩ ⟨(.slice Z3 r2.1.Runs.length cz3), (.slice Z4 r2.1.Ends.length cz4), rfl, hS142⟩)
      · rw [hq5] at h
        simp only [] at h
        refine we_iter (A := net_Send.A1 K w0 l0 A0 c0 l1 A1 c1 l2 A2 c2 x3 hR0 hL0 hR1 hL1 hR2 hL2 b1 b2 r1 b3 hc1) (B := net_Send.B1 K w0 l0 A0 c0 l1 A1 c1 l2 A2 c2 x3 hR0 hL0 hR1 hL1 hR2 hL2 b1 b2 r1 b3 hc1) hq5 (fun a hF => ⟨(.slice none 0 0), hS36, hF.weaken ⟨by kernel_rfl, by kernel_rfl, by kernel_rfl, by kernel_rfl, by kernel_rfl, by kernel_rfl, by kernel_rfl, by kernel_rfl, by kernel_rfl, trivial⟩⟩) (fun s o hf a w hA Q hQ => net_Send_r1 K w0 l0 A0 c0 l1 A1 c1 l2 A2 c2 x3 hR0 hL0 hR1 hL1 hR2 hL2 b1 b2 r1 b3 hc1 s o hf a w hA Q hQ) ?_
        rintro _ a w1 _ ⟨rfl, hb⟩
        obtain rfl := Option.some.inj h
        exact hb
    · rw [hq2] at h
      simp only [] at h
      refine we_keep (e' := [(0, .slice A0 l0.length c0), (1, .slice A1 l1.length c1), (2, .slice A2 l2.length c2), (3, .int .i64 x3), (8, .pointer (some ⟨b1, 0, none⟩)), (9, .pointer (some ⟨b2, 0, none⟩)), (10, .pointer (some ⟨b3, 0, none⟩)), (15, .slice A0 l0.length c0), (16, .agg #[.int .i64 r1.Code, .int .i64 r1.At]), (17, .pointer (some ⟨b3, 0, none⟩)), (18, .int .i64 r1.Code), (19, .bool false)]) ⟨by kernel_rfl, by kernel_rfl, by kernel_rfl, by kernel_rfl, by kernel_rfl, by kernel_rfl, by kernel_rfl, by kernel_rfl, by kernel_rfl, by kernel_rfl, by kernel_rfl, by kernel_rfl, trivial⟩ (net_Send_p0 K w0 l0 A0 c0 l1 A1 c1 l2 A2 c2 x3 hR0 hL0 hR1 hL1 hR2 hL2 b1 b2 r1 b3 hc1 _ hq2 _ hS7 _ ?_)
      rintro _ a w1 ⟨_, rfl, hb⟩
      obtain rfl := Option.some.inj h
      exact hb
  · rw [if_neg hc1] at h
    refine we_known (t := 19) (b := (r1.Code != 0)) (v := true) (by kernel_rfl) (bne_iff_ne.2 hc1) ?_
    refine we_true (by kernel_rfl) ?_
    refine we_seq fun K28 hK28 => ?_
    rcases hq7 : net_Send.p4 r1 with _ | (⟨z3, z4, m6, m7⟩ | rr5)
    · rw [hq7] at h; cases h
    · rw [hq7] at h
      simp only [] at h
      refine we_keep (e' := [(0, .slice A0 l0.length c0), (1, .slice A1 l1.length c1), (2, .slice A2 l2.length c2), (3, .int .i64 x3), (8, .pointer (some ⟨b1, 0, none⟩)), (9, .pointer (some ⟨b2, 0, none⟩)), (10, .pointer (some ⟨b3, 0, none⟩)), (15, .slice A0 l0.length c0), (16, .agg #[.int .i64 r1.Code, .int .i64 r1.At]), (17, .pointer (some ⟨b3, 0, none⟩)), (18, .int .i64 r1.Code), (19, .bool true)]) ⟨by kernel_rfl, by kernel_rfl, by kernel_rfl, by kernel_rfl, by kernel_rfl, by kernel_rfl, by kernel_rfl, by kernel_rfl, by kernel_rfl, by kernel_rfl, by kernel_rfl, by kernel_rfl, trivial⟩ (net_Send_p4 K w0 l0 A0 c0 l1 A1 c1 l2 A2 c2 x3 hR0 hL0 hR1 hL1 hR2 hL2 b1 b2 r1 b3 hc1 _ hq7 _ hS7 _ ?_)
      rintro _ a w37 ⟨rfl, v9, v10, hS157, hF⟩
      replace hS157 : St w0 w37 [Own.blk b2 (.cells #[.int .i64 z3, .int .i64 z4] 29 (0, 0)), Own.blk b1 (.cells #[v9, v10] 37 (0, 0)), Own.of v9 3 m6, Own.of v10 3 m7] := hS157
      refine hK28 [(8, .pointer (some ⟨b1, 0, none⟩)), (9, .pointer (some ⟨b2, 0, none⟩))] w37 ?_ a hF
      have hS158 := hS157.bring 3 rfl
      have hS159 := hS158.bring 3 rfl
      have hS160 := hS159.takeN 2
      obtain rfl := Option.some.inj h
      exact we_ret (post_ret (rs := [.cell 8 37, .cell 9 29]) (ans := [.val (v9), .val (v10), .val (.int .i64 z3), .val (.int .i64 z4)]) (vs := [.agg #[v9, v10], .agg #[.int .i64 z3, .int .i64 z4]]) (l := [.loaded ⟨b1, 0, none⟩ (v9), .loaded ⟨b1, 1, none⟩ (v10), .loaded ⟨b2, 0, none⟩ (.int .i64 z3), .loaded ⟨b2, 1, none⟩ (.int .i64 z4)]) rfl (by kernel_rfl) ⟨hS157.cell 1 rfl rfl, hS157.cell 1 rfl rfl, hS157.cell 0 rfl rfl, hS157.cell 0 rfl rfl, trivial⟩ ⟨v9, v10, rfl, hS160⟩)
    · rw [hq7] at h
      simp only [] at h
      refine we_keep (e' := [(0, .slice A0 l0.length c0), (1, .slice A1 l1.length c1), (2, .slice A2 l2.length c2), (3, .int .i64 x3), (8, .pointer (some ⟨b1, 0, none⟩)), (9, .pointer (some ⟨b2, 0, none⟩)), (10, .pointer (some ⟨b3, 0, none⟩)), (15, .slice A0 l0.length c0), (16, .agg #[.int .i64 r1.Code, .int .i64 r1.At]), (17, .pointer (some ⟨b3, 0, none⟩)), (18, .int .i64 r1.Code), (19, .bool true)]) ⟨by kernel_rfl, by kernel_rfl, by kernel_rfl, by kernel_rfl, by kernel_rfl, by kernel_rfl, by kernel_rfl, by kernel_rfl, by kernel_rfl, by kernel_rfl, by kernel_rfl, by kernel_rfl, trivial⟩ (net_Send_p4 K w0 l0 A0 c0 l1 A1 c1 l2 A2 c2 x3 hR0 hL0 hR1 hL1 hR2 hL2 b1 b2 r1 b3 hc1 _ hq7 _ hS7 _ ?_)
      rintro _ a w1 ⟨_, rfl, hb⟩
      obtain rfl := Option.some.inj h
      exact hb

/-! punctual/punctualsame.Same[int] -/
abbrev punctualsame_Same_int.Post (w0 : World) (r : Bool) (e : Ending) (w : World) : Prop := e = .returned (.bool r) ∧ St w0 w []
def punctualsame_Same_int.r0 (l0 : List Int) (l1 : List Int) : Nat → Option (Nat ⊕ (Unit ⊕ Bool))
  | i1 =>
    if (i1 : Int) < (l0.length : Int) then
      match l0[i1]? with
      | none => none
      | some e1 =>
        match l1[i1]? with
        | none => none
        | some e2 =>
          if e1 = e2 then
            some (.inl (i1 + 1))
          else
            some (.inr (.inr false))
    else
      some (.inr (.inl ()))
def punctualsame_Same_int.f (K : Nat) (l0 : List Int) (l1 : List Int) : Option Bool :=
  if (l0.length : Int) = (l1.length : Int) then
    match iter (punctualsame_Same_int.r0 l0 l1) K 0 with
    | none => none
    | some (.inl _) =>
      some true
    | some (.inr rr1) =>
      some rr1
  else
    some false
abbrev punctualsame_Same_int.A0 (K : Nat) (w0 : World) (l0 : List Int) (A0 : Option Addr) (c0 : Nat) (l1 : List Int) (A1 : Option Addr) (c1 : Nat) (hR0 : RdL w0 A0 l0) (hL0 : l0.length ≤ c0) (hR1 : RdL w0 A1 l1) (hL1 : l1.length ≤ c1) (hc1 : (l0.length : Int) = (l1.length : Int)) : Nat → Act → World → Prop := fun (s : Nat) a w => St w0 w [] ∧ Frm 26 a [(0, .slice A0 l0.length c0), (1, .slice A1 l1.length c1), (12, .int .i64 (l0.length : Int)), (13, .int .i64 (s : Int))]
abbrev punctualsame_Same_int.B0 (K : Nat) (w0 : World) (l0 : List Int) (A0 : Option Addr) (c0 : Nat) (l1 : List Int) (A1 : Option Addr) (c1 : Nat) (hR0 : RdL w0 A0 l0) (hL0 : l0.length ≤ c0) (hR1 : RdL w0 A1 l1) (hL1 : l1.length ≤ c1) (hc1 : (l0.length : Int) = (l1.length : Int)) : (Unit ⊕ Bool) → Exit → Act → World → Prop := Exits 0 (fun (s : Unit) a w => St w0 w [] ∧ Frm 26 a []) (Rets Try.prog Try.f21 (punctualsame_Same_int.Post w0))
theorem punctualsame_Same_int_r0 (K : Nat) (w0 : World) (l0 : List Int) (A0 : Option Addr) (c0 : Nat) (l1 : List Int) (A1 : Option Addr) (c1 : Nat) (hR0 : RdL w0 A0 l0) (hL0 : l0.length ≤ c0) (hR1 : RdL w0 A1 l1) (hL1 : l1.length ≤ c1) (hc1 : (l0.length : Int) = (l1.length : Int)) (s : Nat) (o : Nat ⊕ (Unit ⊕ Bool)) (h : punctualsame_Same_int.r0 l0 l1 s = some o) (a : Act) (w : World) (hA : punctualsame_Same_int.A0 K w0 l0 A0 c0 l1 A1 c1 hR0 hL0 hR1 hL1 hc1 s a w) (Q : Exit → Act → World → Prop) (hQ : ∀ x a w, Outs (punctualsame_Same_int.A0 K w0 l0 A0 c0 l1 A1 c1 hR0 hL0 hR1 hL1 hc1) (punctualsame_Same_int.B0 K w0 l0 A0 c0 l1 A1 c1 hR0 hL0 hR1 hL1 hc1) o x a w → Q x a w) : (subF Try.f21 [1, 1, 0, 1, 0, 0]).wp Try.prog Q a w := by
  obtain ⟨i1, hs⟩ : ∃ z, z = s := ⟨s, rfl⟩
  subst hs
  obtain ⟨hS, hF⟩ := hA
  replace hS : St w0 w [] := hS
  simp only [punctualsame_Same_int.r0] at h
  refine (?_ : WE Try.prog 26 (subF Try.f21 [1, 1, 0, 1, 0, 0]) Q [(0, .slice A0 l0.length c0), (1, .slice A1 l1.length c1), (12, .int .i64 (l0.length : Int)), (13, .int .i64 (i1 : Int))] w) a hF
  clear hF a
  refine we_seq fun K6 hK6 => ?_
  refine we_region [(0, 0)] rfl ?_
  refine ge_batch [0] (ans := []) (vs := [(14, .bool (decide ((i1 : Int) < (l0.length : Int))))]) (l := []) (by kernel_rfl) trivial ?_
  refine ge_nil fun a hF => hK6 _ _ ?_ a hF
  refine we_seq fun K7 hK7 => ?_
  by_cases hc2 : (i1 : Int) < (l0.length : Int)
  · rw [if_pos hc2] at h
    refine we_known (t := 14) (b := decide ((i1 : Int) < (l0.length : Int))) (v := true) (by kernel_rfl) (decide_eq_true hc2) ?_
    refine we_true (by kernel_rfl) ?_
    refine we_skip fun a hF => hK7 _ _ ?_ a hF
    refine we_seq fun K8 hK8 => ?_
    refine we_block ?_
    refine we_seq fun K9 hK9 => ?_
    refine we_region [(0, 0), (1, 0)] rfl ?_
    refine ge_batch [0, 1] (ans := []) (vs := [(5, .int .i64 (i1 : Int)), (15, .int .i64 (i1 : Int))]) (l := []) (by kernel_rfl) trivial ?_
    refine ge_nil fun a hF => hK9 _ _ ?_ a hF
    refine we_seq fun K10 hK10 => ?_
    refine we_draws (by kernel_rfl) [(0, 0), (1, 0), (2, 0), (3, 0), (4, 0), (5, 0), (6, 0), (7, 0), (8, 0)] (by kernel_rfl) ?_
    have hS1 := hS.drew
    refine ge_batch [0, 1] (ans := []) (vs := [(17, .int .i64 (i1 : Int)), (16, .slice A0 l0.length c0)]) (l := []) (by kernel_rfl) trivial ?_
    rcases hx1 : l0[i1]? with _ | e1
    · rw [hx1] at h; cases h
    rw [hx1] at h
    simp only [] at h
    refine ge_index (d := 18) (ty := 0) (t := 24) (el := 3) (sz := 1) (m := l0.length) (c := c0) (x := (.tmp 16)) (y := (.tmp 17)) (A := A0) (k' := .i64) (j := (i1 : Int)) (jn := i1) (b0 := blkOf A0) (o0 := offOf A0) (by kernel_rfl) (by kernel_rfl) (by kernel_rfl) (by kernel_rfl) (by kernel_rfl) ((hS1.rd hR0).eqSome (pos_of_get hx1)) rfl (lt_of_get hx1) ?_
    refine ge_batch [3, 4, 5] (ans := [.val (.int .i64 e1)]) (vs := [(21, .int .i64 (i1 : Int)), (20, .slice A1 l1.length c1), (19, .int .i64 e1)]) (l := [.loaded ⟨blkOf A0, offOf A0 + i1 * 1, none⟩ (.int .i64 e1)]) (by kernel_rfl) ⟨RdL.cell (j := 0) (hS1.rd hR0) hx1 rfl, trivial⟩ ?_
    rcases hx2 : l1[i1]? with _ | e2
    · rw [hx2] at h; cases h
    rw [hx2] at h
    simp only [] at h
    refine ge_index (d := 22) (ty := 0) (t := 24) (el := 3) (sz := 1) (m := l1.length) (c := c1) (x := (.tmp 20)) (y := (.tmp 21)) (A := A1) (k' := .i64) (j := (i1 : Int)) (jn := i1) (b0 := blkOf A1) (o0 := offOf A1) (by kernel_rfl) (by kernel_rfl) (by kernel_rfl) (by kernel_rfl) (by kernel_rfl) ((hS1.rd hR1).eqSome (pos_of_get hx2)) rfl (lt_of_get hx2) ?_
    refine ge_batch [7, 8] (ans := [.val (.int .i64 e2)]) (vs := [(24, .bool (e1 != e2)), (23, .int .i64 e2)]) (l := [.loaded ⟨blkOf A1, offOf A1 + i1 * 1, none⟩ (.int .i64 e2)]) (by kernel_rfl) ⟨RdL.cell (j := 0) (hS1.rd hR1) hx2 rfl, trivial⟩ ?_
    refine ge_nil fun a hF => hK10 _ _ ?_ a hF
    by_cases hc3 : e1 = e2
    · rw [if_pos hc3] at h
      refine we_known (t := 24) (b := (e1 != e2)) (v := false) (by kernel_rfl) (bne_eq_false_iff_eq.2 hc3) ?_
      refine we_false (by kernel_rfl) ?_
      refine we_skip fun a hF => hK8 _ _ ?_ a hF
      refine we_region [(0, 0), (1, 0)] rfl ?_
      refine ge_addn (d := 25) (ty := 3) (x := (.tmp 13)) (y := (.const (.int .i64 1))) (t := 3) (t2 := 3) (k := .i64) (m := i1) (by kernel_rfl) (by kernel_rfl) (by kernel_rfl) (by have h0 := hR0.small; omega) ?_
      refine ge_batch [1] (ans := []) (vs := [(13, .int .i64 ((i1 + 1 : Nat) : Int))]) (l := []) (by kernel_rfl) trivial ?_
      obtain rfl := Option.some.inj h
      exact ge_nil fun a hF => hQ _ _ _ (Outs.again ⟨hS1, hF.weaken ⟨by kernel_rfl, by kernel_rfl, by kernel_rfl, by kernel_rfl, trivial⟩⟩)
    · rw [if_neg hc3] at h
      refine we_known (t := 24) (b := (e1 != e2)) (v := true) (by kernel_rfl) (bne_iff_ne.2 hc3) ?_
      refine we_true (by kernel_rfl) ?_
      refine we_seq fun K11 hK11 => ?_
      refine we_region [(0, 0)] rfl ?_
      refine ge_batch [0] (ans := []) (vs := [(4, .bool false)]) (l := []) (by kernel_rfl) trivial ?_
      refine ge_nil fun a hF => hK11 _ _ ?_ a hF
      obtain rfl := Option.some.inj h
      exact we_ret fun a hF => hQ _ _ _ (Outs.out nofun (Exits.on ⟨rfl, (post_ret (rs := [.tmp 4]) (ans := []) (vs := [.bool false]) (l := []) rfl (by kernel_rfl) trivial ⟨rfl, hS1⟩) a hF⟩))
  · rw [if_neg hc2] at h
    refine we_known (t := 14) (b := decide ((i1 : Int) < (l0.length : Int))) (v := false) (by kernel_rfl) (decide_eq_false hc2) ?_
    refine we_false (by kernel_rfl) ?_
    obtain rfl := Option.some.inj h
    exact we_exit fun a hF => hQ _ _ _ (Outs.out nofun (Exits.here ⟨hS, hF.weaken trivial⟩))
theorem punctualsame_Same_int_ok (K : Nat) (l0 : List Int) (A0 : Option Addr) (c0 : Nat) (l1 : List Int) (A1 : Option Addr) (c1 : Nat) (w0 : World) (hR0 : RdL w0 A0 l0) (hL0 : l0.length ≤ c0) (hR1 : RdL w0 A1 l1) (hL1 : l1.length ≤ c1) (r : Bool) (h : punctualsame_Same_int.f K l0 l1 = some r) :
    Calls Try.prog 21 #[.slice A0 l0.length c0, .slice A1 l1.length c1] w0 (punctualsame_Same_int.Post w0 r) := by
  have hS := St.start w0
  unfold punctualsame_Same_int.f at h
  refine calls_enter (n := 26) (args := [.slice A0 l0.length c0, .slice A1 l1.length c1]) (fn := Try.f21) rfl rfl rfl rfl ?_
  show WE _ _ _ _ [(0, .slice A0 l0.length c0), (1, .slice A1 l1.length c1)] _
  refine we_seq fun K1 hK1 => ?_
  refine we_region [(0, 0)] rfl ?_
  refine ge_batch [0] (ans := []) (vs := [(4, .bool false)]) (l := []) (by kernel_rfl) trivial ?_
  refine ge_nil fun a hF => hK1 _ _ ?_ a hF
  refine we_seq fun K2 hK2 => ?_
  refine we_seq fun K3 hK3 => ?_
  refine we_region [(0, 0), (1, 0), (2, 0), (3, 0), (4, 0)] rfl ?_
  refine ge_batch [0, 1, 2, 3, 4] (ans := []) (vs := [(10, .bool ((l0.length : Int) != (l1.length : Int))), (9, .int .i64 (l1.length : Int)), (8, .slice A1 l1.length c1), (7, .int .i64 (l0.length : Int)), (6, .slice A0 l0.length c0)]) (l := []) (by kernel_rfl) trivial ?_
  refine ge_nil fun a hF => hK3 _ _ ?_ a hF
  by_cases hc1 : (l0.length : Int) = (l1.length : Int)
  · rw [if_pos hc1] at h
    refine we_known (t := 10) (b := ((l0.length : Int) != (l1.length : Int))) (v := false) (by kernel_rfl) (bne_eq_false_iff_eq.2 hc1) ?_
    refine we_false (by kernel_rfl) ?_
    refine we_skip fun a hF => hK2 _ _ ?_ a hF
    refine we_seq fun K4 hK4 => ?_
    refine we_seq fun K5 hK5 => ?_
    refine we_region [(0, 0), (1, 0), (2, 0)] rfl ?_
    refine ge_batch [0, 1, 2] (ans := []) (vs := [(13, .int .i64 0), (12, .int .i64 (l0.length : Int)), (11, .slice A0 l0.length c0)]) (l := []) (by kernel_rfl) trivial ?_
    refine ge_nil fun a hF => hK5 _ _ ?_ a hF
    refine we_block ?_
    rcases hq1 : iter (punctualsame_Same_int.r0 l0 l1) K 0 with _ | (_ | rr1)
    · rw [hq1] at h; cases h
    · rw [hq1] at h
      simp only [] at h
      refine we_iter (A := punctualsame_Same_int.A0 K w0 l0 A0 c0 l1 A1 c1 hR0 hL0 hR1 hL1 hc1) (B := punctualsame_Same_int.B0 K w0 l0 A0 c0 l1 A1 c1 hR0 hL0 hR1 hL1 hc1) hq1 (fun a hF => ⟨hS, hF.weaken ⟨by kernel_rfl, by kernel_rfl, by kernel_rfl, by kernel_rfl, trivial⟩⟩) (fun s o hf a w hA Q hQ => punctualsame_Same_int_r0 K w0 l0 A0 c0 l1 A1 c1 hR0 hL0 hR1 hL1 hc1 s o hf a w hA Q hQ) ?_
      rintro _ a w1 _ ⟨rfl, hS2, hF⟩
      replace hS2 : St w0 w1 [] := hS2
      refine hK4 [] w1 ?_ a hF
      refine we_seq fun K12 hK12 => ?_
      refine we_region [(0, 0)] rfl ?_
      refine ge_batch [0] (ans := []) (vs := [(4, .bool true)]) (l := []) (by kernel_rfl) trivial ?_
      refine ge_nil fun a hF => hK12 _ _ ?_ a hF
      obtain rfl := Option.some.inj h
      exact we_ret (post_ret (rs := [.tmp 4]) (ans := []) (vs := [.bool true]) (l := []) rfl (by kernel_rfl) trivial ⟨rfl, hS2⟩)
    · rw [hq1] at h
      simp only [] at h
      refine we_iter (A := punctualsame_Same_int.A0 K w0 l0 A0 c0 l1 A1 c1 hR0 hL0 hR1 hL1 hc1) (B := punctualsame_Same_int.B0 K w0 l0 A0 c0 l1 A1 c1 hR0 hL0 hR1 hL1 hc1) hq1 (fun a hF => ⟨hS, hF.weaken ⟨by kernel_rfl, by kernel_rfl, by kernel_rfl, by kernel_rfl, trivial⟩⟩) (fun s o hf a w hA Q hQ => punctualsame_Same_int_r0 K w0 l0 A0 c0 l1 A1 c1 hR0 hL0 hR1 hL1 hc1 s o hf a w hA Q hQ) ?_
      rintro _ a w1 _ ⟨rfl, hb⟩
      obtain rfl := Option.some.inj h
      exact hb
  · rw [if_neg hc1] at h
    refine we_known (t := 10) (b := ((l0.length : Int) != (l1.length : Int))) (v := true) (by kernel_rfl) (bne_iff_ne.2 hc1) ?_
    refine we_true (by kernel_rfl) ?_
    refine we_seq fun K13 hK13 => ?_
    refine we_region [(0, 0)] rfl ?_
    refine ge_batch [0] (ans := []) (vs := [(4, .bool false)]) (l := []) (by kernel_rfl) trivial ?_
    refine ge_nil fun a hF => hK13 _ _ ?_ a hF
    obtain rfl := Option.some.inj h
    exact we_ret (post_ret (rs := [.tmp 4]) (ans := []) (vs := [.bool false]) (l := []) rfl (by kernel_rfl) trivial ⟨rfl, hS⟩)

/-! punctual/punctuallaw.bus -/
abbrev bus.Post (w0 : World) (r : Bool) (e : Ending) (w : World) : Prop := e = .returned (.bool r) ∧ St w0 w []
def bus.f (K : Nat) : Option Bool :=
  match net_Times.f K ([(⟨2, 10, 10, 0⟩ : SFrame), (⟨3, 10, 10, 0⟩ : SFrame), (⟨2, 20, 20, 0⟩ : SFrame)] : List SFrame) with
  | none => none
  | some r1 =>
    match net_Send.f K ([(⟨2, 10, 10, 0⟩ : SFrame), (⟨3, 10, 10, 0⟩ : SFrame), (⟨2, 20, 20, 0⟩ : SFrame)] : List SFrame) ([(⟨2, 0⟩ : SCome), (⟨0, 1⟩ : SCome)] : List SCome) ([0, 0] : List Int) 6 with
    | none => none
    | some r2 =>
      if r1.2.Code = 0 then
        match punctualsame_Same_int.f K r1.1 ([4, 6, 7] : List Int) with
        | none => none
        | some r3 =>
          if r3 = true then
            if r2.2.Code = 0 then
              match punctualsame_Same_int.f K r2.1.Runs ([0, 0, 1, 1, (-1), (-1)] : List Int) with
              | none => none
              | some r4 =>
                some r4
            else
              some false
          else
            some false
      else
        some false
theorem bus_ok (K : Nat)  (w0 : World) (r : Bool) (h : bus.f K = some r) :
    Calls Try.prog 13 #[] w0 (bus.Post w0 r) := by
  have hS := St.start w0
  unfold bus.f at h
  refine calls_enter (n := 43) (args := []) (fn := Try.f13) rfl rfl rfl rfl ?_
  show WE _ _ _ _ [] _
  refine we_seq fun K1 hK1 => ?_
  refine we_region [(0, 0)] rfl ?_
  refine ge_batch [0] (ans := []) (vs := [(0, .bool false)]) (l := []) (by kernel_rfl) trivial ?_
  refine ge_nil fun a hF => hK1 _ _ ?_ a hF
  refine we_seq fun K2 hK2 => ?_
  refine we_region [(0, 0), (1, 0), (2, 0), (3, 1), (4, 0)] rfl ?_
  refine ge_batch [0, 1, 2] (ans := []) (vs := [(8, .agg #[.int .i64 2, .int .i64 20, .int .i64 20, .int .i64 0]), (7, .agg #[.int .i64 3, .int .i64 10, .int .i64 10, .int .i64 0]), (6, .agg #[.int .i64 2, .int .i64 10, .int .i64 10, .int .i64 0])]) (l := []) (by kernel_rfl) trivial ?_
  refine ge_new (d := some 9) (o := .cells #[.int .i64 2, .int .i64 10, .int .i64 10, .int .i64 0, .int .i64 3, .int .i64 10, .int .i64 10, .int .i64 0, .int .i64 2, .int .i64 20, .int .i64 20, .int .i64 0] 47) (v := fun b => .slice (some ⟨b, 0, none⟩) 3 3) hS (fun b => by kernel_rfl) fun b1 w1 hx1 hS1 => ?_
  refine ge_batch [4] (ans := []) (vs := [(1, .slice (some ⟨b1, 0, none⟩) 3 3)]) (l := []) (by kernel_rfl) trivial ?_
  refine ge_nil fun a hF => hK2 _ _ ?_ a hF
  refine we_seq fun K3 hK3 => ?_
  refine we_region [(0, 0), (1, 1), (2, 0), (3, 0), (4, 0), (5, 1), (6, 0), (7, 2)] rfl ?_
  rcases hq1 : net_Times.f K ([(⟨2, 10, 10, 0⟩ : SFrame), (⟨3, 10, 10, 0⟩ : SFrame), (⟨2, 20, 20, 0⟩ : SFrame)] : List SFrame) with _ | r1
  · rw [hq1] at h; cases h
  rw [hq1] at h
  simp only [] at h
  refine ge_batch [0] (ans := []) (vs := [(11, .slice (some ⟨b1, 0, none⟩) 3 3)]) (l := []) (by kernel_rfl) trivial ?_
  refine ge_call (d := some 12) (f := 14) (args := #[.slice (some ⟨b1, 0, none⟩) 3 3]) (by kernel_rfl) (net_Times_ok K ([(⟨2, 10, 10, 0⟩ : SFrame), (⟨3, 10, 10, 0⟩ : SFrame), (⟨2, 20, 20, 0⟩ : SFrame)] : List SFrame) (some ⟨b1, 0, none⟩) 3 _ (hS1.rdBlk 0 ([(⟨2, 10, 10, 0⟩ : SFrame), (⟨3, 10, 10, 0⟩ : SFrame), (⟨2, 20, 20, 0⟩ : SFrame)] : List SFrame) rfl rfl rfl) (Nat.le_refl _) _ hq1) ?_
  rintro _ w2 ⟨v1, rfl, hS2⟩
  refine ⟨_, rfl, hS2.below, ?_⟩
  have hS3 := hS1.call hS2
  refine ge_batch [2, 3, 4] (ans := []) (vs := [(14, .agg #[.int .i64 r1.2.Code, .int .i64 r1.2.At]), (13, v1), (10, .tuple #[v1, .agg #[.int .i64 r1.2.Code, .int .i64 r1.2.At]])]) (l := []) (by kernel_rfl) trivial ?_
  refine ge_new (d := some 3) (o := .cells #[.int .i64 0, .int .i64 0] 29) (v := fun b => .pointer (some ⟨b, 0, none⟩)) hS3 (fun b => by kernel_rfl) fun b2 w3 hx2 hS4 => ?_
  refine ge_batch [6] (ans := []) (vs := [(2, v1)]) (l := []) (by kernel_rfl) trivial ?_
  refine ge_set (b := b2) (j := 0) (cs := #[.int .i64 0, .int .i64 0]) (t := 29) (vs := [.int .i64 r1.2.Code, .int .i64 r1.2.At]) hS4 (by kernel_rfl) rfl rfl fun w4 hS5 => ?_
  have hS6 : St w0 w4 [Own.blk b2 (.cells #[.int .i64 r1.2.Code, .int .i64 r1.2.At] 29 (0, 0)), Own.of v1 3 r1.1, Own.blk b1 (.cells #[.int .i64 2, .int .i64 10, .int .i64 10, .int .i64 0, .int .i64 3, .int .i64 10, .int .i64 10, .int .i64 0, .int .i64 2, .int .i64 20, .int .i64 20, .int .i64 0] 47 (0, 0))] := hS5
  refine ge_nil fun a hF => hK3 _ _ ?_ a hF
  refine we_seq fun K4 hK4 => ?_
  refine we_region [(0, 0), (1, 0), (2, 0), (3, 1), (4, 1), (5, 1), (6, 0), (7, 0), (8, 0), (9, 1), (10, 1), (11, 2), (12, 2)] rfl ?_
  refine ge_batch [0, 1, 2] (ans := []) (vs := [(18, .agg #[.int .i64 0, .int .i64 1]), (17, .agg #[.int .i64 2, .int .i64 0]), (16, .slice (some ⟨b1, 0, none⟩) 3 3)]) (l := []) (by kernel_rfl) trivial ?_
  refine ge_new (d := some 19) (o := .cells #[.int .i64 2, .int .i64 0, .int .i64 0, .int .i64 1] 33) (v := fun b => .slice (some ⟨b, 0, none⟩) 2 2) hS6 (fun b => by kernel_rfl) fun b3 w5 hx3 hS7 => ?_
  refine ge_new (d := some 20) (o := .cells #[.int .i64 0, .int .i64 0] 3) (v := fun b => .slice (some ⟨b, 0, none⟩) 2 2) hS7 (fun b => by kernel_rfl) fun b4 w6 hx4 hS8 => ?_
  rcases hq2 : net_Send.f K ([(⟨2, 10, 10, 0⟩ : SFrame), (⟨3, 10, 10, 0⟩ : SFrame), (⟨2, 20, 20, 0⟩ : SFrame)] : List SFrame) ([(⟨2, 0⟩ : SCome), (⟨0, 1⟩ : SCome)] : List SCome) ([0, 0] : List Int) 6 with _ | r2
  · rw [hq2] at h; cases h
  rw [hq2] at h
  simp only [] at h
  refine ge_call (d := some 21) (f := 15) (args := #[.slice (some ⟨b1, 0, none⟩) 3 3, .slice (some ⟨b3, 0, none⟩) 2 2, .slice (some ⟨b4, 0, none⟩) 2 2, .int .i64 6]) (by kernel_rfl) (net_Send_ok K ([(⟨2, 10, 10, 0⟩ : SFrame), (⟨3, 10, 10, 0⟩ : SFrame), (⟨2, 20, 20, 0⟩ : SFrame)] : List SFrame) (some ⟨b1, 0, none⟩) 3 ([(⟨2, 0⟩ : SCome), (⟨0, 1⟩ : SCome)] : List SCome) (some ⟨b3, 0, none⟩) 2 ([0, 0] : List Int) (some ⟨b4, 0, none⟩) 2 6 _ (hS8.rdBlk 4 ([(⟨2, 10, 10, 0⟩ : SFrame), (⟨3, 10, 10, 0⟩ : SFrame), (⟨2, 20, 20, 0⟩ : SFrame)] : List SFrame) rfl rfl rfl) (Nat.le_refl _) (hS8.rdBlk 1 ([(⟨2, 0⟩ : SCome), (⟨0, 1⟩ : SCome)] : List SCome) rfl rfl rfl) (Nat.le_refl _) (hS8.rdBlk 0 ([0, 0] : List Int) rfl rfl rfl) (Nat.le_refl _) _ hq2) ?_
  rintro _ w7 ⟨v2, v3, rfl, hS9⟩
  refine ⟨_, rfl, hS9.below, ?_⟩
  have hS10 := hS8.call hS9
  refine ge_batch [6, 7, 8] (ans := []) (vs := [(23, .agg #[.int .i64 r2.2.Code, .int .i64 r2.2.At]), (22, .agg #[v2, v3]), (15, .tuple #[.agg #[v2, v3], .agg #[.int .i64 r2.2.Code, .int .i64 r2.2.At]])]) (l := []) (by kernel_rfl) trivial ?_
  refine ge_new (d := some 4) (o := .cells #[.slice none 0 0, .slice none 0 0] 37) (v := fun b => .pointer (some ⟨b, 0, none⟩)) hS10 (fun b => by kernel_rfl) fun b5 w8 hx5 hS11 => ?_
  refine ge_new (d := some 5) (o := .cells #[.int .i64 0, .int .i64 0] 29) (v := fun b => .pointer (some ⟨b, 0, none⟩)) hS11 (fun b => by kernel_rfl) fun b6 w9 hx6 hS12 => ?_
  obtain ⟨Z1, cz1, rfl⟩ := hS12.open 2 rfl
  obtain ⟨Z2, cz2, rfl⟩ := hS12.open 3 rfl
  have hS13 := hS12.bring 1 rfl
  refine ge_set (b := b5) (j := 0) (cs := #[.slice none 0 0, .slice none 0 0]) (t := 37) (vs := [(.slice Z1 r2.1.Runs.length cz1), (.slice Z2 r2.1.Ends.length cz2)]) hS13 (by kernel_rfl) rfl rfl fun w10 hS14 => ?_
  have hS15 : St w0 w10 [Own.blk b5 (.cells #[(.slice Z1 r2.1.Runs.length cz1), (.slice Z2 r2.1.Ends.length cz2)] 37 (0, 0)), Own.blk b6 (.cells #[.int .i64 0, .int .i64 0] 29 (0, 0)), Own.of (.slice Z1 r2.1.Runs.length cz1) 3 r2.1.Runs, Own.of (.slice Z2 r2.1.Ends.length cz2) 3 r2.1.Ends, Own.blk b4 (.cells #[.int .i64 0, .int .i64 0] 3 (0, 0)), Own.blk b3 (.cells #[.int .i64 2, .int .i64 0, .int .i64 0, .int .i64 1] 33 (0, 0)), Own.blk b2 (.cells #[.int .i64 r1.2.Code, .int .i64 r1.2.At] 29 (0, 0)), Own.of v1 3 r1.1, Own.blk b1 (.cells #[.int .i64 2, .int .i64 10, .int .i64 10, .int .i64 0, .int .i64 3, .int .i64 10, .int .i64 10, .int .i64 0, .int .i64 2, .int .i64 20, .int .i64 20, .int .i64 0] 47 (0, 0))] := hS14
  have hS16 := hS15.bring 1 rfl
  refine ge_set (b := b6) (j := 0) (cs := #[.int .i64 0, .int .i64 0]) (t := 29) (vs := [.int .i64 r2.2.Code, .int .i64 r2.2.At]) hS16 (by kernel_rfl) rfl rfl fun w11 hS17 => ?_
  have hS18 : St w0 w11 [Own.blk b6 (.cells #[.int .i64 r2.2.Code, .int .i64 r2.2.At] 29 (0, 0)), Own.blk b5 (.cells #[(.slice Z1 r2.1.Runs.length cz1), (.slice Z2 r2.1.Ends.length cz2)] 37 (0, 0)), Own.of (.slice Z1 r2.1.Runs.length cz1) 3 r2.1.Runs, Own.of (.slice Z2 r2.1.Ends.length cz2) 3 r2.1.Ends, Own.blk b4 (.cells #[.int .i64 0, .int .i64 0] 3 (0, 0)), Own.blk b3 (.cells #[.int .i64 2, .int .i64 0, .int .i64 0, .int .i64 1] 33 (0, 0)), Own.blk b2 (.cells #[.int .i64 r1.2.Code, .int .i64 r1.2.At] 29 (0, 0)), Own.of v1 3 r1.1, Own.blk b1 (.cells #[.int .i64 2, .int .i64 10, .int .i64 10, .int .i64 0, .int .i64 3, .int .i64 10, .int .i64 10, .int .i64 0, .int .i64 2, .int .i64 20, .int .i64 20, .int .i64 0] 47 (0, 0))] := hS17
  refine ge_nil fun a hF => hK4 _ _ ?_ a hF
  refine we_seq fun K5 hK5 => ?_
  refine we_region [(0, 0), (1, 0), (2, 0), (3, 0), (4, 0), (5, 1), (6, 1), (7, 0), (8, 0), (9, 0), (10, 0), (11, 0), (12, 0), (13, 0), (14, 0), (15, 0), (16, 1), (17, 1), (18, 0), (19, 0)] rfl ?_
  refine ge_batch [0, 1, 2, 3] (ans := [.val (.int .i64 r1.2.Code)]) (vs := [(27, .bool (r1.2.Code == 0)), (26, .bool (r1.2.Code == 0)), (25, .int .i64 r1.2.Code), (24, .pointer (some ⟨b2, 0, none⟩))]) (l := [.loaded ⟨b2, 0, none⟩ (.int .i64 r1.2.Code)]) (by kernel_rfl) ⟨hS18.cell 6 rfl rfl, trivial⟩ ?_
  by_cases hc1 : r1.2.Code = 0
  · rw [if_pos hc1] at h
    refine ge_known (t := 27) (b := (r1.2.Code == 0)) (c := true) (by kernel_rfl) (beq_iff_eq.2 hc1) ?_
    refine ge_batch [4] (ans := []) (vs := [(28, v1)]) (l := []) (by kernel_rfl) trivial ?_
    refine ge_new (d := some 29) (o := .cells #[.int .i64 4, .int .i64 6, .int .i64 7] 3) (v := fun b => .slice (some ⟨b, 0, none⟩) 3 3) hS18 (fun b => by kernel_rfl) fun b7 w12 hx7 hS19 => ?_
    obtain ⟨Z3, cz3, rfl⟩ := hS19.open 8 rfl
    rcases hq3 : punctualsame_Same_int.f K r1.1 ([4, 6, 7] : List Int) with _ | r3
    · rw [hq3] at h; cases h
    rw [hq3] at h
    simp only [] at h
    refine ge_call (d := some 30) (f := 21) (args := #[(.slice Z3 r1.1.length cz3), .slice (some ⟨b7, 0, none⟩) 3 3]) (by kernel_rfl) (punctualsame_Same_int_ok K r1.1 Z3 cz3 ([4, 6, 7] : List Int) (some ⟨b7, 0, none⟩) 3 _ (hS19.rdAt 8 rfl) (hS19.capAt 8 rfl) (hS19.rdBlk 0 ([4, 6, 7] : List Int) rfl rfl rfl) (Nat.le_refl _) _ hq3) ?_
    rintro _ w13 ⟨rfl, hS20⟩
    refine ⟨_, rfl, hS20.below, ?_⟩
    have hS21 := hS19.call hS20
    refine ge_batch [7, 8] (ans := []) (vs := [(32, .bool r3), (31, .bool r3)]) (l := []) (by kernel_rfl) trivial ?_
    by_cases hc2 : r3 = true
    · rw [if_pos hc2] at h
      refine ge_known (t := 32) (b := r3) (c := true) (by kernel_rfl) hc2 ?_
      refine ge_batch [9, 10, 11, 12, 13] (ans := [.val (.int .i64 r2.2.Code)]) (vs := [(37, .bool (r2.2.Code == 0)), (36, .bool (r2.2.Code == 0)), (35, .bool (r2.2.Code == 0)), (34, .int .i64 r2.2.Code), (33, .pointer (some ⟨b6, 0, none⟩))]) (l := [.loaded ⟨b6, 0, none⟩ (.int .i64 r2.2.Code)]) (by kernel_rfl) ⟨hS21.cell 1 rfl rfl, trivial⟩ ?_
      by_cases hc3 : r2.2.Code = 0
      · rw [if_pos hc3] at h
        refine ge_known (t := 37) (b := (r2.2.Code == 0)) (c := true) (by kernel_rfl) (beq_iff_eq.2 hc3) ?_
        refine ge_batch [14, 15] (ans := [.val ((.slice Z1 r2.1.Runs.length cz1))]) (vs := [(39, (.slice Z1 r2.1.Runs.length cz1)), (38, .pointer (some ⟨b5, 0, none⟩))]) (l := [.loaded ⟨b5, 0, none⟩ ((.slice Z1 r2.1.Runs.length cz1))]) (by kernel_rfl) ⟨hS21.cell 2 rfl rfl, trivial⟩ ?_
        refine ge_new (d := some 40) (o := .cells #[.int .i64 0, .int .i64 0, .int .i64 1, .int .i64 1, .int .i64 (-1), .int .i64 (-1)] 3) (v := fun b => .slice (some ⟨b, 0, none⟩) 6 6) hS21 (fun b => by kernel_rfl) fun b8 w14 hx8 hS22 => ?_
        rcases hq4 : punctualsame_Same_int.f K r2.1.Runs ([0, 0, 1, 1, (-1), (-1)] : List Int) with _ | r4
        · rw [hq4] at h; cases h
        rw [hq4] at h
        simp only [] at h
        refine ge_call (d := some 41) (f := 21) (args := #[(.slice Z1 r2.1.Runs.length cz1), .slice (some ⟨b8, 0, none⟩) 6 6]) (by kernel_rfl) (punctualsame_Same_int_ok K r2.1.Runs Z1 cz1 ([0, 0, 1, 1, (-1), (-1)] : List Int) (some ⟨b8, 0, none⟩) 6 _ (hS22.rdAt 4 rfl) (hS22.capAt 4 rfl) (hS22.rdBlk 0 ([0, 0, 1, 1, (-1), (-1)] : List Int) rfl rfl rfl) (Nat.le_refl _) _ hq4) ?_
        rintro _ w15 ⟨rfl, hS23⟩
        refine ⟨_, rfl, hS23.below, ?_⟩
        have hS24 := hS22.call hS23
        refine ge_batch [18, 19] (ans := []) (vs := [(0, .bool r4), (42, .bool r4)]) (l := []) (by kernel_rfl) trivial ?_
        refine ge_nil fun a hF => hK5 _ _ ?_ a hF
        have hS25 := hS24.takeN 0
        obtain rfl := Option.some.inj h
        exact we_ret (post_ret (rs := [.tmp 0]) (ans := []) (vs := [.bool r4]) (l := []) rfl (by kernel_rfl) trivial ⟨rfl, hS25⟩)
      · rw [if_neg hc3] at h
        refine ge_known (t := 37) (b := (r2.2.Code == 0)) (c := false) (by kernel_rfl) (beq_eq_false_iff_ne.2 hc3) ?_
        refine ge_batch [14, 15] (ans := []) (vs := [(39, undef), (38, undef)]) (l := []) (by kernel_rfl) trivial ?_
        refine ge_off rfl rfl rfl (by kernel_rfl) ?_
        refine ge_off rfl rfl rfl (by kernel_rfl) ?_
        refine ge_batch [18, 19] (ans := []) (vs := [(0, .bool false), (42, .bool false)]) (l := []) (by kernel_rfl) trivial ?_
        refine ge_nil fun a hF => hK5 _ _ ?_ a hF
        have hS26 := hS21.takeN 0
        obtain rfl := Option.some.inj h
        exact we_ret (post_ret (rs := [.tmp 0]) (ans := []) (vs := [.bool false]) (l := []) rfl (by kernel_rfl) trivial ⟨rfl, hS26⟩)
    · rw [if_neg hc2] at h
      refine ge_known (t := 32) (b := r3) (c := false) (by kernel_rfl) (Bool.eq_false_iff.2 hc2) ?_
      refine ge_batch [9, 10, 11, 12, 13, 14, 15] (ans := []) (vs := [(39, undef), (38, undef), (37, .bool false), (36, .bool false), (35, undef), (34, undef), (33, undef)]) (l := []) (by kernel_rfl) trivial ?_
      refine ge_off rfl rfl rfl (by kernel_rfl) ?_
      refine ge_off rfl rfl rfl (by kernel_rfl) ?_
      refine ge_batch [18, 19] (ans := []) (vs := [(0, .bool false), (42, .bool false)]) (l := []) (by kernel_rfl) trivial ?_
      refine ge_nil fun a hF => hK5 _ _ ?_ a hF
      have hS27 := hS21.takeN 0
      obtain rfl := Option.some.inj h
      exact we_ret (post_ret (rs := [.tmp 0]) (ans := []) (vs := [.bool false]) (l := []) rfl (by kernel_rfl) trivial ⟨rfl, hS27⟩)
  · rw [if_neg hc1] at h
    refine ge_known (t := 27) (b := (r1.2.Code == 0)) (c := false) (by kernel_rfl) (beq_eq_false_iff_ne.2 hc1) ?_
    refine ge_batch [4] (ans := []) (vs := [(28, undef)]) (l := []) (by kernel_rfl) trivial ?_
    refine ge_off rfl rfl rfl (by kernel_rfl) ?_
    refine ge_off rfl rfl rfl (by kernel_rfl) ?_
    refine ge_batch [7, 8, 9, 10, 11, 12, 13, 14, 15] (ans := []) (vs := [(39, undef), (38, undef), (37, .bool false), (36, .bool false), (35, undef), (34, undef), (33, undef), (32, .bool false), (31, .bool false)]) (l := []) (by kernel_rfl) trivial ?_
    refine ge_off rfl rfl rfl (by kernel_rfl) ?_
    refine ge_off rfl rfl rfl (by kernel_rfl) ?_
    refine ge_batch [18, 19] (ans := []) (vs := [(0, .bool false), (42, .bool false)]) (l := []) (by kernel_rfl) trivial ?_
    refine ge_nil fun a hF => hK5 _ _ ?_ a hF
    have hS28 := hS18.takeN 0
    obtain rfl := Option.some.inj h
    exact we_ret (post_ret (rs := [.tmp 0]) (ans := []) (vs := [.bool false]) (l := []) rfl (by kernel_rfl) trivial ⟨rfl, hS28⟩)

/-! punctual/punctuallaw.few -/
abbrev few.Post (w0 : World) (r : Bool) (e : Ending) (w : World) : Prop := e = .returned (.bool r) ∧ St w0 w []
def few.f (x0 : Int) : Bool :=
  decide (x0 ≤ 5000)
theorem few_ok (x0 : Int) (w0 : World) (r : Bool) (h : few.f x0 = r) :
    Calls Try.prog 9 #[.int .i64 x0] w0 (few.Post w0 r) := by
  have hS := St.start w0
  unfold few.f at h
  refine calls_enter (n := 5) (args := [.int .i64 x0]) (fn := Try.f9) rfl rfl rfl rfl ?_
  show WE _ _ _ _ [(0, .int .i64 x0)] _
  refine we_seq fun K1 hK1 => ?_
  refine we_region [(0, 0)] rfl ?_
  refine ge_batch [0] (ans := []) (vs := [(2, .bool false)]) (l := []) (by kernel_rfl) trivial ?_
  refine ge_nil fun a hF => hK1 _ _ ?_ a hF
  refine we_seq fun K2 hK2 => ?_
  refine we_region [(0, 0), (1, 0), (2, 0)] rfl ?_
  refine ge_batch [0, 1, 2] (ans := []) (vs := [(2, .bool (decide (x0 ≤ 5000))), (4, .bool (decide (x0 ≤ 5000))), (3, .int .i64 x0)]) (l := []) (by kernel_rfl) trivial ?_
  refine ge_nil fun a hF => hK2 _ _ ?_ a hF
  subst h
  exact we_ret (post_ret (rs := [.tmp 2]) (ans := []) (vs := [.bool (decide (x0 ≤ 5000))]) (l := []) rfl (by kernel_rfl) trivial ⟨rfl, hS⟩)

/-! punctual/punctuallaw.soon -/
abbrev soon.Post (w0 : World) (r : Bool) (e : Ending) (w : World) : Prop := e = .returned (.bool r) ∧ St w0 w []
def soon.r0 (l0 : List SCome) (l1 : List Int) (l2 : List Int) : Nat → Option (Nat ⊕ (Unit ⊕ Bool))
  | i1 =>
    if (i1 : Int) < (l0.length : Int) then
      match l0[i1]? with
      | none => none
      | some e1 =>
        match l1[i1]? with
        | none => none
        | some e2 =>
          if e2 < 0 then
            some (.inr (.inr false))
          else
            if 0 ≤ e1.Task then
              match l2[(e1.Task).toNat]? with
              | none => none
              | some e3 =>
                if (IntKind.i64.wrap (e2 - e1.At)) > e3 then
                  some (.inr (.inr false))
                else
                  some (.inl (i1 + 1))
            else
              none
    else
      some (.inr (.inl ()))
def soon.f (K : Nat) (l0 : List SCome) (l1 : List Int) (l2 : List Int) : Option Bool :=
  if (l1.length : Int) = (l0.length : Int) then
    match iter (soon.r0 l0 l1 l2) K 0 with
    | none => none
    | some (.inl _) =>
      some true
    | some (.inr rr1) =>
      some rr1
  else
    some false
abbrev soon.A0 (K : Nat) (w0 : World) (l0 : List SCome) (A0 : Option Addr) (c0 : Nat) (l1 : List Int) (A1 : Option Addr) (c1 : Nat) (l2 : List Int) (A2 : Option Addr) (c2 : Nat) (hR0 : RdL w0 A0 l0) (hL0 : l0.length ≤ c0) (hR1 : RdL w0 A1 l1) (hL1 : l1.length ≤ c1) (hR2 : RdL w0 A2 l2) (hL2 : l2.length ≤ c2) (hc1 : (l1.length : Int) = (l0.length : Int)) : Nat → Act → World → Prop := fun (s : Nat) a w => St w0 w [] ∧ Frm 42 a [(1, .slice A1 l1.length c1), (2, .slice A2 l2.length c2), (14, .slice A0 l0.length c0), (15, .int .i64 (l0.length : Int)), (16, .int .i64 (s : Int))]
abbrev soon.B0 (K : Nat) (w0 : World) (l0 : List SCome) (A0 : Option Addr) (c0 : Nat) (l1 : List Int) (A1 : Option Addr) (c1 : Nat) (l2 : List Int) (A2 : Option Addr) (c2 : Nat) (hR0 : RdL w0 A0 l0) (hL0 : l0.length ≤ c0) (hR1 : RdL w0 A1 l1) (hL1 : l1.length ≤ c1) (hR2 : RdL w0 A2 l2) (hL2 : l2.length ≤ c2) (hc1 : (l1.length : Int) = (l0.length : Int)) : (Unit ⊕ Bool) → Exit → Act → World → Prop := Exits 0 (fun (s : Unit) a w => St w0 w [] ∧ Frm 42 a []) (Rets Try.prog Try.f16 (soon.Post w0))
theorem soon_r0 (K : Nat) (w0 : World) (l0 : List SCome) (A0 : Option Addr) (c0 : Nat) (l1 : List Int) (A1 : Option Addr) (c1 : Nat) (l2 : List Int) (A2 : Option Addr) (c2 : Nat) (hR0 : RdL w0 A0 l0) (hL0 : l0.length ≤ c0) (hR1 : RdL w0 A1 l1) (hL1 : l1.length ≤ c1) (hR2 : RdL w0 A2 l2) (hL2 : l2.length ≤ c2) (hc1 : (l1.length : Int) = (l0.length : Int)) (s : Nat) (o : Nat ⊕ (Unit ⊕ Bool)) (h : soon.r0 l0 l1 l2 s = some o) (a : Act) (w : World) (hA : soon.A0 K w0 l0 A0 c0 l1 A1 c1 l2 A2 c2 hR0 hL0 hR1 hL1 hR2 hL2 hc1 s a w) (Q : Exit → Act → World → Prop) (hQ : ∀ x a w, Outs (soon.A0 K w0 l0 A0 c0 l1 A1 c1 l2 A2 c2 hR0 hL0 hR1 hL1 hR2 hL2 hc1) (soon.B0 K w0 l0 A0 c0 l1 A1 c1 l2 A2 c2 hR0 hL0 hR1 hL1 hR2 hL2 hc1) o x a w → Q x a w) : (subF Try.f16 [1, 1, 0, 1, 0, 0]).wp Try.prog Q a w := by
  obtain ⟨i1, hs⟩ : ∃ z, z = s := ⟨s, rfl⟩
  subst hs
  obtain ⟨hS, hF⟩ := hA
  replace hS : St w0 w [] := hS
  simp only [soon.r0] at h
  refine (?_ : WE Try.prog 42 (subF Try.f16 [1, 1, 0, 1, 0, 0]) Q [(1, .slice A1 l1.length c1), (2, .slice A2 l2.length c2), (14, .slice A0 l0.length c0), (15, .int .i64 (l0.length : Int)), (16, .int .i64 (i1 : Int))] w) a hF
  clear hF a
  refine we_seq fun K6 hK6 => ?_
  refine we_region [(0, 0)] rfl ?_
  refine ge_batch [0] (ans := []) (vs := [(17, .bool (decide ((i1 : Int) < (l0.length : Int))))]) (l := []) (by kernel_rfl) trivial ?_
  refine ge_nil fun a hF => hK6 _ _ ?_ a hF
  refine we_seq fun K7 hK7 => ?_
  by_cases hc2 : (i1 : Int) < (l0.length : Int)
  · rw [if_pos hc2] at h
    refine we_known (t := 17) (b := decide ((i1 : Int) < (l0.length : Int))) (v := true) (by kernel_rfl) (decide_eq_true hc2) ?_
    refine we_true (by kernel_rfl) ?_
    refine we_skip fun a hF => hK7 _ _ ?_ a hF
    refine we_seq fun K8 hK8 => ?_
    refine we_block ?_
    refine we_seq fun K9 hK9 => ?_
    refine we_region [(0, 0), (1, 0), (2, 0), (3, 1), (4, 0), (5, 2)] rfl ?_
    refine ge_batch [0] (ans := []) (vs := [(18, .int .i64 (i1 : Int))]) (l := []) (by kernel_rfl) trivial ?_
    rcases hx1 : l0[i1]? with _ | e1
    · rw [hx1] at h; cases h
    rw [hx1] at h
    simp only [] at h
    refine ge_index (d := 19) (ty := 0) (t := 23) (el := 33) (sz := 2) (m := l0.length) (c := c0) (x := (.tmp 14)) (y := (.tmp 16)) (A := A0) (k' := .i64) (j := (i1 : Int)) (jn := i1) (b0 := blkOf A0) (o0 := offOf A0) (by kernel_rfl) (by kernel_rfl) (by kernel_rfl) (by kernel_rfl) (by kernel_rfl) ((hS.rd hR0).eqSome (pos_of_get hx1)) rfl (lt_of_get hx1) ?_
    refine ge_batch [2] (ans := [.val (.int .i64 e1.Task), .val (.int .i64 e1.At)]) (vs := [(20, .agg #[.int .i64 e1.Task, .int .i64 e1.At])]) (l := [.loaded ⟨blkOf A0, offOf A0 + i1 * 2, none⟩ (.int .i64 e1.Task), .loaded ⟨blkOf A0, offOf A0 + i1 * 2 + 1, none⟩ (.int .i64 e1.At)]) (by kernel_rfl) ⟨RdL.cell (j := 0) (hS.rd hR0) hx1 rfl, RdL.cell (j := 1) (hS.rd hR0) hx1 rfl, trivial⟩ ?_
    refine ge_new (d := some 8) (o := .cells #[.int .i64 0, .int .i64 0] 33) (v := fun b => .pointer (some ⟨b, 0, none⟩)) hS (fun b => by kernel_rfl) fun b1 w1 hx2 hS1 => ?_
    refine ge_batch [4] (ans := []) (vs := [(7, .int .i64 (i1 : Int))]) (l := []) (by kernel_rfl) trivial ?_
    refine ge_set (b := b1) (j := 0) (cs := #[.int .i64 0, .int .i64 0]) (t := 33) (vs := [.int .i64 e1.Task, .int .i64 e1.At]) hS1 (by kernel_rfl) rfl rfl fun w2 hS2 => ?_
    have hS3 : St w0 w2 [Own.blk b1 (.cells #[.int .i64 e1.Task, .int .i64 e1.At] 33 (0, 0))] := hS2
    refine ge_nil fun a hF => hK9 _ _ ?_ a hF
    refine we_seq fun K10 hK10 => ?_
    refine we_draws (by kernel_rfl) [(0, 0), (1, 0), (2, 0), (3, 0), (4, 0), (5, 0), (6, 0), (7, 0), (8, 0), (9, 0), (10, 0), (11, 0), (12, 0), (13, 0), (14, 0), (15, 0), (16, 0), (17, 0), (18, 0), (19, 0)] (by kernel_rfl) ?_
    have hS4 := hS3.drew
    refine ge_batch [0, 1] (ans := []) (vs := [(22, .int .i64 (i1 : Int)), (21, .slice A1 l1.length c1)]) (l := []) (by kernel_rfl) trivial ?_
    rcases hx3 : l1[i1]? with _ | e2
    · rw [hx3] at h; cases h
    rw [hx3] at h
    simp only [] at h
    refine ge_index (d := 23) (ty := 0) (t := 24) (el := 3) (sz := 1) (m := l1.length) (c := c1) (x := (.tmp 21)) (y := (.tmp 22)) (A := A1) (k' := .i64) (j := (i1 : Int)) (jn := i1) (b0 := blkOf A1) (o0 := offOf A1) (by kernel_rfl) (by kernel_rfl) (by kernel_rfl) (by kernel_rfl) (by kernel_rfl) ((hS4.rd hR1).eqSome (pos_of_get hx3)) rfl (lt_of_get hx3) ?_
    refine ge_batch [3, 4, 5] (ans := [.val (.int .i64 e2)]) (vs := [(26, .bool (decide (e2 < 0))), (25, .bool (decide (e2 < 0))), (24, .int .i64 e2)]) (l := [.loaded ⟨blkOf A1, offOf A1 + i1 * 1, none⟩ (.int .i64 e2)]) (by kernel_rfl) ⟨RdL.cell (j := 0) (hS4.rd hR1) hx3 rfl, trivial⟩ ?_
    by_cases hc3 : e2 < 0
    · rw [if_pos hc3] at h
      refine ge_known (t := 26) (b := decide (e2 < 0)) (c := true) (by kernel_rfl) (decide_eq_true hc3) ?_
      refine ge_batch [6, 7, 8, 9, 10, 11, 12, 13, 14, 15, 16, 17, 18, 19] (ans := []) (vs := [(40, .bool true), (39, undef), (38, undef), (37, undef), (36, undef), (35, undef), (34, undef), (33, undef), (32, undef), (31, undef), (30, undef), (29, undef), (28, undef), (27, undef)]) (l := []) (by kernel_rfl) trivial ?_
      refine ge_nil fun a hF => hK10 _ _ ?_ a hF
      refine we_true (by kernel_rfl) ?_
      refine we_seq fun K11 hK11 => ?_
      refine we_region [(0, 0)] rfl ?_
      refine ge_batch [0] (ans := []) (vs := [(6, .bool false)]) (l := []) (by kernel_rfl) trivial ?_
      refine ge_nil fun a hF => hK11 _ _ ?_ a hF
      have hS5 := hS4.takeN 0
      obtain rfl := Option.some.inj h
      exact we_ret fun a hF => hQ _ _ _ (Outs.out nofun (Exits.on ⟨rfl, (post_ret (rs := [.tmp 6]) (ans := []) (vs := [.bool false]) (l := []) rfl (by kernel_rfl) trivial ⟨rfl, hS5⟩) a hF⟩))
    · rw [if_neg hc3] at h
      refine ge_known (t := 26) (b := decide (e2 < 0)) (c := false) (by kernel_rfl) (decide_eq_false hc3) ?_
      refine ge_batch [6, 7] (ans := []) (vs := [(28, .int .i64 (i1 : Int)), (27, .slice A1 l1.length c1)]) (l := []) (by kernel_rfl) trivial ?_
      refine ge_index (d := 29) (ty := 0) (t := 24) (el := 3) (sz := 1) (m := l1.length) (c := c1) (x := (.tmp 27)) (y := (.tmp 28)) (A := A1) (k' := .i64) (j := (i1 : Int)) (jn := i1) (b0 := blkOf A1) (o0 := offOf A1) (by kernel_rfl) (by kernel_rfl) (by kernel_rfl) (by kernel_rfl) (by kernel_rfl) ((hS4.rd hR1).eqSome (pos_of_get hx3)) rfl (lt_of_get hx3) ?_
      refine ge_batch [9, 10, 11, 12, 13, 14, 15] (ans := [.val (.int .i64 e2), .val (.int .i64 e1.At), .val (.int .i64 e1.Task)]) (vs := [(36, .int .i64 e1.Task), (35, .pointer (some ⟨b1, 0, none⟩)), (34, .slice A2 l2.length c2), (33, .int .i64 (IntKind.i64.wrap (e2 - e1.At))), (32, .int .i64 e1.At), (31, .pointer (some ⟨b1, 1, none⟩)), (30, .int .i64 e2)]) (l := [.loaded ⟨blkOf A1, offOf A1 + i1 * 1, none⟩ (.int .i64 e2), .loaded ⟨b1, 1, none⟩ (.int .i64 e1.At), .loaded ⟨b1, 0, none⟩ (.int .i64 e1.Task)]) (by kernel_rfl) ⟨RdL.cell (j := 0) (hS4.rd hR1) hx3 rfl, hS4.cell 0 rfl rfl, hS4.cell 0 rfl rfl, trivial⟩ ?_
      by_cases hc4 : 0 ≤ e1.Task
      · rw [if_pos hc4] at h
        rcases hx4 : l2[(e1.Task).toNat]? with _ | e3
        · rw [hx4] at h; cases h
        rw [hx4] at h
        simp only [] at h
        refine ge_index (d := 37) (ty := 0) (t := 24) (el := 3) (sz := 1) (m := l2.length) (c := c2) (x := (.tmp 34)) (y := (.tmp 36)) (A := A2) (k' := .i64) (j := e1.Task) (jn := ((e1.Task).toNat)) (b0 := blkOf A2) (o0 := offOf A2) (by kernel_rfl) (by kernel_rfl) (by kernel_rfl) (by kernel_rfl) (by kernel_rfl) ((hS4.rd hR2).eqSome (pos_of_get hx4)) (Int.toNat_of_nonneg hc4).symm (lt_of_get hx4) ?_
        refine ge_batch [17, 18, 19] (ans := [.val (.int .i64 e3)]) (vs := [(40, .bool (decide ((IntKind.i64.wrap (e2 - e1.At)) > e3))), (39, .bool (decide ((IntKind.i64.wrap (e2 - e1.At)) > e3))), (38, .int .i64 e3)]) (l := [.loaded ⟨blkOf A2, offOf A2 + ((e1.Task).toNat) * 1, none⟩ (.int .i64 e3)]) (by kernel_rfl) ⟨RdL.cell (j := 0) (hS4.rd hR2) hx4 rfl, trivial⟩ ?_
        refine ge_nil fun a hF => hK10 _ _ ?_ a hF
        by_cases hc5 : (IntKind.i64.wrap (e2 - e1.At)) > e3
        · rw [if_pos hc5] at h
          refine we_known (t := 40) (b := decide ((IntKind.i64.wrap (e2 - e1.At)) > e3)) (v := true) (by kernel_rfl) (decide_eq_true hc5) ?_
          refine we_true (by kernel_rfl) ?_
          refine we_seq fun K12 hK12 => ?_
          refine we_region [(0, 0)] rfl ?_
          refine ge_batch [0] (ans := []) (vs := [(6, .bool false)]) (l := []) (by kernel_rfl) trivial ?_
          refine ge_nil fun a hF => hK12 _ _ ?_ a hF
          have hS6 := hS4.takeN 0
          obtain rfl := Option.some.inj h
          exact we_ret fun a hF => hQ _ _ _ (Outs.out nofun (Exits.on ⟨rfl, (post_ret (rs := [.tmp 6]) (ans := []) (vs := [.bool false]) (l := []) rfl (by kernel_rfl) trivial ⟨rfl, hS6⟩) a hF⟩))
        · rw [if_neg hc5] at h
          refine we_known (t := 40) (b := decide ((IntKind.i64.wrap (e2 - e1.At)) > e3)) (v := false) (by kernel_rfl) (decide_eq_false hc5) ?_
          refine we_false (by kernel_rfl) ?_
          refine we_skip fun a hF => hK8 _ _ ?_ a hF
          refine we_region [(0, 0), (1, 0)] rfl ?_
          refine ge_addn (d := 41) (ty := 3) (x := (.tmp 16)) (y := (.const (.int .i64 1))) (t := 3) (t2 := 3) (k := .i64) (m := i1) (by kernel_rfl) (by kernel_rfl) (by kernel_rfl) (by have h0 := hR0.small; omega) ?_
          refine ge_batch [1] (ans := []) (vs := [(16, .int .i64 ((i1 + 1 : Nat) : Int))]) (l := []) (by kernel_rfl) trivial ?_
          have hS7 := hS4.takeN 0
          obtain rfl := Option.some.inj h
          exact ge_nil fun a hF => hQ _ _ _ (Outs.again ⟨hS7, hF.weaken ⟨by kernel_rfl, by kernel_rfl, by kernel_rfl, by kernel_rfl, by kernel_rfl, trivial⟩⟩)
      · rw [if_neg hc4] at h
        cases h
  · rw [if_neg hc2] at h
    refine we_known (t := 17) (b := decide ((i1 : Int) < (l0.length : Int))) (v := false) (by kernel_rfl) (decide_eq_false hc2) ?_
    refine we_false (by kernel_rfl) ?_
    obtain rfl := Option.some.inj h
    exact we_exit fun a hF => hQ _ _ _ (Outs.out nofun (Exits.here ⟨hS, hF.weaken trivial⟩))
theorem soon_ok (K : Nat) (l0 : List SCome) (A0 : Option Addr) (c0 : Nat) (l1 : List Int) (A1 : Option Addr) (c1 : Nat) (l2 : List Int) (A2 : Option Addr) (c2 : Nat) (w0 : World) (hR0 : RdL w0 A0 l0) (hL0 : l0.length ≤ c0) (hR1 : RdL w0 A1 l1) (hL1 : l1.length ≤ c1) (hR2 : RdL w0 A2 l2) (hL2 : l2.length ≤ c2) (r : Bool) (h : soon.f K l0 l1 l2 = some r) :
    Calls Try.prog 16 #[.slice A0 l0.length c0, .slice A1 l1.length c1, .slice A2 l2.length c2] w0 (soon.Post w0 r) := by
  have hS := St.start w0
  unfold soon.f at h
  refine calls_enter (n := 42) (args := [.slice A0 l0.length c0, .slice A1 l1.length c1, .slice A2 l2.length c2]) (fn := Try.f16) rfl rfl rfl rfl ?_
  show WE _ _ _ _ [(0, .slice A0 l0.length c0), (1, .slice A1 l1.length c1), (2, .slice A2 l2.length c2)] _
  refine we_seq fun K1 hK1 => ?_
  refine we_region [(0, 0)] rfl ?_
  refine ge_batch [0] (ans := []) (vs := [(6, .bool false)]) (l := []) (by kernel_rfl) trivial ?_
  refine ge_nil fun a hF => hK1 _ _ ?_ a hF
  refine we_seq fun K2 hK2 => ?_
  refine we_seq fun K3 hK3 => ?_
  refine we_region [(0, 0), (1, 0), (2, 0), (3, 0), (4, 0)] rfl ?_
  refine ge_batch [0, 1, 2, 3, 4] (ans := []) (vs := [(13, .bool ((l1.length : Int) != (l0.length : Int))), (12, .int .i64 (l0.length : Int)), (11, .slice A0 l0.length c0), (10, .int .i64 (l1.length : Int)), (9, .slice A1 l1.length c1)]) (l := []) (by kernel_rfl) trivial ?_
  refine ge_nil fun a hF => hK3 _ _ ?_ a hF
  by_cases hc1 : (l1.length : Int) = (l0.length : Int)
  · rw [if_pos hc1] at h
    refine we_known (t := 13) (b := ((l1.length : Int) != (l0.length : Int))) (v := false) (by kernel_rfl) (bne_eq_false_iff_eq.2 hc1) ?_
    refine we_false (by kernel_rfl) ?_
    refine we_skip fun a hF => hK2 _ _ ?_ a hF
    refine we_seq fun K4 hK4 => ?_
    refine we_seq fun K5 hK5 => ?_
    refine we_region [(0, 0), (1, 0), (2, 0)] rfl ?_
    refine ge_batch [0, 1, 2] (ans := []) (vs := [(16, .int .i64 0), (15, .int .i64 (l0.length : Int)), (14, .slice A0 l0.length c0)]) (l := []) (by kernel_rfl) trivial ?_
    refine ge_nil fun a hF => hK5 _ _ ?_ a hF
    refine we_block ?_
    rcases hq1 : iter (soon.r0 l0 l1 l2) K 0 with _ | (_ | rr1)
    · rw [hq1] at h; cases h
    · rw [hq1] at h
      simp only [] at h
      refine we_iter (A := soon.A0 K w0 l0 A0 c0 l1 A1 c1 l2 A2 c2 hR0 hL0 hR1 hL1 hR2 hL2 hc1) (B := soon.B0 K w0 l0 A0 c0 l1 A1 c1 l2 A2 c2 hR0 hL0 hR1 hL1 hR2 hL2 hc1) hq1 (fun a hF => ⟨hS, hF.weaken ⟨by kernel_rfl, by kernel_rfl, by kernel_rfl, by kernel_rfl, by kernel_rfl, trivial⟩⟩) (fun s o hf a w hA Q hQ => soon_r0 K w0 l0 A0 c0 l1 A1 c1 l2 A2 c2 hR0 hL0 hR1 hL1 hR2 hL2 hc1 s o hf a w hA Q hQ) ?_
      rintro _ a w3 _ ⟨rfl, hS8, hF⟩
      replace hS8 : St w0 w3 [] := hS8
      refine hK4 [] w3 ?_ a hF
      refine we_seq fun K13 hK13 => ?_
      refine we_region [(0, 0)] rfl ?_
      refine ge_batch [0] (ans := []) (vs := [(6, .bool true)]) (l := []) (by kernel_rfl) trivial ?_
      refine ge_nil fun a hF => hK13 _ _ ?_ a hF
      obtain rfl := Option.some.inj h
      exact we_ret (post_ret (rs := [.tmp 6]) (ans := []) (vs := [.bool true]) (l := []) rfl (by kernel_rfl) trivial ⟨rfl, hS8⟩)
    · rw [hq1] at h
      simp only [] at h
      refine we_iter (A := soon.A0 K w0 l0 A0 c0 l1 A1 c1 l2 A2 c2 hR0 hL0 hR1 hL1 hR2 hL2 hc1) (B := soon.B0 K w0 l0 A0 c0 l1 A1 c1 l2 A2 c2 hR0 hL0 hR1 hL1 hR2 hL2 hc1) hq1 (fun a hF => ⟨hS, hF.weaken ⟨by kernel_rfl, by kernel_rfl, by kernel_rfl, by kernel_rfl, by kernel_rfl, trivial⟩⟩) (fun s o hf a w hA Q hQ => soon_r0 K w0 l0 A0 c0 l1 A1 c1 l2 A2 c2 hR0 hL0 hR1 hL1 hR2 hL2 hc1 s o hf a w hA Q hQ) ?_
      rintro _ a w1 _ ⟨rfl, hb⟩
      obtain rfl := Option.some.inj h
      exact hb
  · rw [if_neg hc1] at h
    refine we_known (t := 13) (b := ((l1.length : Int) != (l0.length : Int))) (v := true) (by kernel_rfl) (bne_iff_ne.2 hc1) ?_
    refine we_true (by kernel_rfl) ?_
    refine we_seq fun K14 hK14 => ?_
    refine we_region [(0, 0)] rfl ?_
    refine ge_batch [0] (ans := []) (vs := [(6, .bool false)]) (l := []) (by kernel_rfl) trivial ?_
    refine ge_nil fun a hF => hK14 _ _ ?_ a hF
    obtain rfl := Option.some.inj h
    exact we_ret (post_ret (rs := [.tmp 6]) (ans := []) (vs := [.bool false]) (l := []) rfl (by kernel_rfl) trivial ⟨rfl, hS⟩)

/-! punctual/punctuallaw.NetKeeps -/
abbrev NetKeeps.Post (w0 : World) (r : Bool) (e : Ending) (w : World) : Prop := e = .returned (.bool r) ∧ St w0 w []
def NetKeeps.p0 (l0 : List SFrame) (l1 : List SCome) : Option (Unit ⊕ Bool) :=
    if (few.f (l0.length : Int)) = true then
      if (l1.length : Int) > 300 then
        some (.inr true)
      else
        some (.inl ())
    else
      some (.inr true)
def NetKeeps.p2 (l0 : List SFrame) (l1 : List SCome) (i1 : Nat) (e1 : SCome) : Option (Unit ⊕ Bool) :=
    if e1.Task < 0 then
      some (.inr true)
    else
      if e1.Task ≥ (l0.length : Int) then
        some (.inr true)
      else
        if (i1 : Int) > 0 then
          if 0 ≤ (IntKind.i64.wrap ((i1 : Int) - 1)) then
            match l1[(IntKind.i64.wrap ((i1 : Int) - 1)).toNat]? with
            | none => none
            | some e2 =>
              if e1.At < e2.At then
                some (.inr true)
              else
                some (.inl ())
          else
            none
        else
          some (.inl ())
def NetKeeps.r3 (l0 : List SFrame) (l1 : List SCome) (i1 : Nat) (e1 : SCome) : Nat → Option (Nat ⊕ (Unit ⊕ Bool))
  | i2 =>
    if (i2 : Int) < (((l1.take i1).drop 0).length : Int) then
      match ((l1.take i1).drop 0)[i2]? with
      | none => none
      | some e3 =>
        if e3.Task = e1.Task then
          if 0 ≤ e1.Task then
            match l0[(e1.Task).toNat]? with
            | none => none
            | some e4 =>
              if (IntKind.i64.wrap (e1.At - e3.At)) < e4.T then
                some (.inr (.inr true))
              else
                some (.inl (i2 + 1))
          else
            none
        else
          some (.inl (i2 + 1))
    else
      some (.inr (.inl ()))
def NetKeeps.r1 (K : Nat) (l0 : List SFrame) (l1 : List SCome) (r2 : (List Int) × SFault) : Int × Nat → Option ((Int × Nat) ⊕ (Int ⊕ Bool))
  | (z1, i1) =>
    if (i1 : Int) < (l1.length : Int) then
      match l1[i1]? with
      | none => none
      | some e1 =>
        match NetKeeps.p2 l0 l1 i1 e1 with
        | none => none
        | some (.inl _) =>
          if i1 ≤ l1.length then
            match iter (NetKeeps.r3 l0 l1 i1 e1) K 0 with
            | none => none
            | some (.inl _) =>
              if 0 ≤ e1.Task then
                match r2.1[(e1.Task).toNat]? with
                | none => none
                | some e5 =>
                  some (.inl (gmax z1 (IntKind.i64.wrap (e1.At + e5)), (i1 + 1)))
              else
                none
            | some (.inr rr1) =>
              some (.inr (.inr rr1))
          else
            none
        | some (.inr rr2) =>
          some (.inr (.inr rr2))
    else
      some (.inr (.inl z1))
def NetKeeps.f (K : Nat) (l0 : List SFrame) (l1 : List SCome) (l2 : List Int) : Option Bool :=
  match bus.f K with
  | none => none
  | some r1 =>
    if r1 = true then
      match NetKeeps.p0 l0 l1 with
      | none => none
      | some (.inl _) =>
        match net_Times.f K l0 with
        | none => none
        | some r2 =>
          if r2.2.Code = 0 then
            match iter (NetKeeps.r1 K l0 l1 r2) K (0, 0) with
            | none => none
            | some (.inl z3) =>
              if z3 > 3000 then
                some true
              else
                match net_Send.f K l0 l1 l2 z3 with
                | none => none
                | some r3 =>
                  if r3.2.Code = 0 then
                    match soon.f K l1 r3.1.Ends r2.1 with
                    | none => none
                    | some r4 =>
                      some r4
                  else
                    if r3.2.Code = 2 then
                      some true
                    else
                      some (r3.2.Code == 3)
            | some (.inr rr3) =>
              some rr3
          else
            some ((r2.1.length : Int) == 0)
      | some (.inr rr4) =>
        some rr4
    else
      some false
abbrev NetKeeps.A0 (K : Nat) (w0 : World) (l0 : List SFrame) (A0 : Option Addr) (c0 : Nat) (l1 : List SCome) (A1 : Option Addr) (c1 : Nat) (l2 : List Int) (A2 : Option Addr) (c2 : Nat) (hR0 : RdL w0 A0 l0) (hL0 : l0.length ≤ c0) (hR1 : RdL w0 A1 l1) (hL1 : l1.length ≤ c1) (hR2 : RdL w0 A2 l2) (hL2 : l2.length ≤ c2) (r1 : Bool) (hc1 : r1 = true) : Unit → Act → World → Prop := fun (s : Unit) a w => St w0 w [] ∧ Frm 134 a [(0, .slice A0 l0.length c0), (1, .slice A1 l1.length c1), (2, .slice A2 l2.length c2)]
abbrev NetKeeps.B0 (K : Nat) (w0 : World) (l0 : List SFrame) (A0 : Option Addr) (c0 : Nat) (l1 : List SCome) (A1 : Option Addr) (c1 : Nat) (l2 : List Int) (A2 : Option Addr) (c2 : Nat) (hR0 : RdL w0 A0 l0) (hL0 : l0.length ≤ c0) (hR1 : RdL w0 A1 l1) (hL1 : l1.length ≤ c1) (hR2 : RdL w0 A2 l2) (hL2 : l2.length ≤ c2) (r1 : Bool) (hc1 : r1 = true) : Bool → Exit → Act → World → Prop := Rets Try.prog Try.f4 (NetKeeps.Post w0)
theorem NetKeeps_p0 (K : Nat) (w0 : World) (l0 : List SFrame) (A0 : Option Addr) (c0 : Nat) (l1 : List SCome) (A1 : Option Addr) (c1 : Nat) (l2 : List Int) (A2 : Option Addr) (c2 : Nat) (hR0 : RdL w0 A0 l0) (hL0 : l0.length ≤ c0) (hR1 : RdL w0 A1 l1) (hL1 : l1.length ≤ c1) (hR2 : RdL w0 A2 l2) (hL2 : l2.length ≤ c2) (r1 : Bool) (hc1 : r1 = true) (o : Unit ⊕ Bool) (h : NetKeeps.p0 l0 l1 = some o) (w : World) (hS : St w0 w []) (Q : Exit → Act → World → Prop) (hQ : ∀ x a w, Outs (NetKeeps.A0 K w0 l0 A0 c0 l1 A1 c1 l2 A2 c2 hR0 hL0 hR1 hL1 hR2 hL2 r1 hc1) (NetKeeps.B0 K w0 l0 A0 c0 l1 A1 c1 l2 A2 c2 hR0 hL0 hR1 hL1 hR2 hL2 r1 hc1) o x a w → Q x a w) : WE Try.prog 134 (subF Try.f4 [1, 1, 0]) Q [(0, .slice A0 l0.length c0), (1, .slice A1 l1.length c1), (2, .slice A2 l2.length c2), (6, .bool false), (15, .bool r1), (16, .bool false)] w := by
  simp only [NetKeeps.p0] at h
  refine we_seq fun K5 hK5 => ?_
  refine we_region [(0, 0), (1, 0), (2, 1), (3, 0), (4, 0), (5, 0), (6, 0), (7, 0), (8, 0)] rfl ?_
  refine ge_batch [0, 1] (ans := []) (vs := [(18, .int .i64 (l0.length : Int)), (17, .slice A0 l0.length c0)]) (l := []) (by kernel_rfl) trivial ?_
  refine ge_call (d := some 19) (f := 9) (args := #[.int .i64 (l0.length : Int)]) (by kernel_rfl) (few_ok (l0.length : Int) _ _ rfl) ?_
  rintro _ w2 ⟨rfl, hS3⟩
  refine ⟨_, rfl, hS3.below, ?_⟩
  have hS4 := hS.call hS3
  refine ge_batch [3, 4] (ans := []) (vs := [(21, .bool (!(few.f (l0.length : Int)))), (20, .bool (!(few.f (l0.length : Int))))]) (l := []) (by kernel_rfl) trivial ?_
  by_cases hc2 : (few.f (l0.length : Int)) = true
  · rw [if_pos hc2] at h
    refine ge_known (t := 21) (b := !(few.f (l0.length : Int))) (c := false) (by kernel_rfl) (congrArg (fun z => !z) hc2) ?_
    refine ge_batch [5, 6, 7, 8] (ans := []) (vs := [(25, .bool (decide ((l1.length : Int) > 300))), (24, .bool (decide ((l1.length : Int) > 300))), (23, .int .i64 (l1.length : Int)), (22, .slice A1 l1.length c1)]) (l := []) (by kernel_rfl) trivial ?_
    refine ge_nil fun a hF => hK5 _ _ ?_ a hF
    by_cases hc3 : (l1.length : Int) > 300
    · rw [if_pos hc3] at h
      refine we_known (t := 25) (b := decide ((l1.length : Int) > 300)) (v := true) (by kernel_rfl) (decide_eq_true hc3) ?_
      refine we_true (by kernel_rfl) ?_
      refine we_seq fun K6 hK6 => ?_
      refine we_region [(0, 0)] rfl ?_
      refine ge_batch [0] (ans := []) (vs := [(6, .bool true)]) (l := []) (by kernel_rfl) trivial ?_
      refine ge_nil fun a hF => hK6 _ _ ?_ a hF
      obtain rfl := Option.some.inj h
      exact we_ret fun a hF => hQ _ _ _ (Outs.out nofun ⟨rfl, (post_ret (rs := [.tmp 6]) (ans := []) (vs := [.bool true]) (l := []) rfl (by kernel_rfl) trivial ⟨rfl, hS4⟩) a hF⟩)
    · rw [if_neg hc3] at h
      refine we_known (t := 25) (b := decide ((l1.length : Int) > 300)) (v := false) (by kernel_rfl) (decide_eq_false hc3) ?_
      refine we_false (by kernel_rfl) ?_
      obtain rfl := Option.some.inj h
      exact we_skip fun a hF => hQ _ _ _ (Outs.again ⟨hS4, hF.weaken ⟨by kernel_rfl, by kernel_rfl, by kernel_rfl, trivial⟩⟩)
  · rw [if_neg hc2] at h
    refine ge_known (t := 21) (b := !(few.f (l0.length : Int))) (c := true) (by kernel_rfl) (congrArg (fun z => !z) (Bool.eq_false_iff.2 hc2)) ?_
    refine ge_batch [5, 6, 7, 8] (ans := []) (vs := [(25, .bool true), (24, undef), (23, undef), (22, undef)]) (l := []) (by kernel_rfl) trivial ?_
    refine ge_nil fun a hF => hK5 _ _ ?_ a hF
    refine we_true (by kernel_rfl) ?_
    refine we_seq fun K7 hK7 => ?_
    refine we_region [(0, 0)] rfl ?_
    refine ge_batch [0] (ans := []) (vs := [(6, .bool true)]) (l := []) (by kernel_rfl) trivial ?_
    refine ge_nil fun a hF => hK7 _ _ ?_ a hF
    obtain rfl := Option.some.inj h
    exact we_ret fun a hF => hQ _ _ _ (Outs.out nofun ⟨rfl, (post_ret (rs := [.tmp 6]) (ans := []) (vs := [.bool true]) (l := []) rfl (by kernel_rfl) trivial ⟨rfl, hS4⟩) a hF⟩)
abbrev NetKeeps.A2 (K : Nat) (w0 : World) (l0 : List SFrame) (A0 : Option Addr) (c0 : Nat) (l1 : List SCome) (A1 : Option Addr) (c1 : Nat) (l2 : List Int) (A2 : Option Addr) (c2 : Nat) (hR0 : RdL w0 A0 l0) (hL0 : l0.length ≤ c0) (hR1 : RdL w0 A1 l1) (hL1 : l1.length ≤ c1) (hR2 : RdL w0 A2 l2) (hL2 : l2.length ≤ c2) (r1 : Bool) (hc1 : r1 = true) (r2 : (List Int) × SFault) (b1 : Nat) (hc4 : r2.2.Code = 0) (Z1 : Option Addr) (cz1 : Nat) (z1 : Int) (i1 : Nat) (hc5 : (i1 : Int) < (l1.length : Int)) (e1 : SCome) (hx2 : l1[i1]? = some e1) (b2 : Nat) : Unit → Act → World → Prop := fun (s : Unit) a w => St w0 w [Own.blk b2 (.cells #[.int .i64 e1.Task, .int .i64 e1.At] 33 (0, 0)), Own.blk b1 (.cells #[.int .i64 r2.2.Code, .int .i64 r2.2.At] 29 (0, 0)), Own.of (.slice Z1 r2.1.length cz1) 3 r2.1] ∧ Frm 134 a [(0, .slice A0 l0.length c0), (1, .slice A1 l1.length c1), (2, .slice A2 l2.length c2), (7, (.slice Z1 r2.1.length cz1)), (8, .pointer (some ⟨b1, 0, none⟩)), (9, .int .i64 z1), (10, .int .i64 (i1 : Int)), (11, .pointer (some ⟨b2, 0, none⟩)), (37, .slice A1 l1.length c1), (38, .int .i64 (l1.length : Int)), (39, .int .i64 (i1 : Int))]
abbrev NetKeeps.B2 (K : Nat) (w0 : World) (l0 : List SFrame) (A0 : Option Addr) (c0 : Nat) (l1 : List SCome) (A1 : Option Addr) (c1 : Nat) (l2 : List Int) (A2 : Option Addr) (c2 : Nat) (hR0 : RdL w0 A0 l0) (hL0 : l0.length ≤ c0) (hR1 : RdL w0 A1 l1) (hL1 : l1.length ≤ c1) (hR2 : RdL w0 A2 l2) (hL2 : l2.length ≤ c2) (r1 : Bool) (hc1 : r1 = true) (r2 : (List Int) × SFault) (b1 : Nat) (hc4 : r2.2.Code = 0) (Z1 : Option Addr) (cz1 : Nat) (z1 : Int) (i1 : Nat) (hc5 : (i1 : Int) < (l1.length : Int)) (e1 : SCome) (hx2 : l1[i1]? = some e1) (b2 : Nat) : Bool → Exit → Act → World → Prop := Rets Try.prog Try.f4 (NetKeeps.Post w0)
theorem NetKeeps_p2 (K : Nat) (w0 : World) (l0 : List SFrame) (A0 : Option Addr) (c0 : Nat) (l1 : List SCome) (A1 : Option Addr) (c1 : Nat) (l2 : List Int) (A2 : Option Addr) (c2 : Nat) (hR0 : RdL w0 A0 l0) (hL0 : l0.length ≤ c0) (hR1 : RdL w0 A1 l1) (hL1 : l1.length ≤ c1) (hR2 : RdL w0 A2 l2) (hL2 : l2.length ≤ c2) (r1 : Bool) (hc1 : r1 = true) (r2 : (List Int) × SFault) (b1 : Nat) (hc4 : r2.2.Code = 0) (Z1 : Option Addr) (cz1 : Nat) (z1 : Int) (i1 : Nat) (hc5 : (i1 : Int) < (l1.length : Int)) (e1 : SCome) (hx2 : l1[i1]? = some e1) (b2 : Nat) (o : Unit ⊕ Bool) (h : NetKeeps.p2 l0 l1 i1 e1 = some o) (w : World) (hS : St w0 w [Own.blk b2 (.cells #[.int .i64 e1.Task, .int .i64 e1.At] 33 (0, 0)), Own.blk b1 (.cells #[.int .i64 r2.2.Code, .int .i64 r2.2.At] 29 (0, 0)), Own.of (.slice Z1 r2.1.length cz1) 3 r2.1]) (Q : Exit → Act → World → Prop) (hQ : ∀ x a w, Outs (NetKeeps.A2 K w0 l0 A0 c0 l1 A1 c1 l2 A2 c2 hR0 hL0 hR1 hL1 hR2 hL2 r1 hc1 r2 b1 hc4 Z1 cz1 z1 i1 hc5 e1 hx2 b2) (NetKeeps.B2 K w0 l0 A0 c0 l1 A1 c1 l2 A2 c2 hR0 hL0 hR1 hL1 hR2 hL2 r1 hc1 r2 b1 hc4 Z1 cz1 z1 i1 hc5 e1 hx2 b2) o x a w → Q x a w) : WE Try.prog 134 (subF Try.f4 [1, 1, 1, 1, 1, 1, 0, 1, 0, 0, 1, 1, 0, 0, 1, 0]) Q [(0, .slice A0 l0.length c0), (1, .slice A1 l1.length c1), (2, .slice A2 l2.length c2), (7, (.slice Z1 r2.1.length cz1)), (8, .pointer (some ⟨b1, 0, none⟩)), (9, .int .i64 z1), (10, .int .i64 (i1 : Int)), (11, .pointer (some ⟨b2, 0, none⟩)), (37, .slice A1 l1.length c1), (38, .int .i64 (l1.length : Int)), (39, .int .i64 (i1 : Int)), (40, .bool true), (41, .int .i64 (i1 : Int)), (42, .pointer (some ⟨blkOf A1, offOf A1 + i1 * 2, none⟩)), (43, .agg #[.int .i64 e1.Task, .int .i64 e1.At])] w := by
  simp only [NetKeeps.p2] at h
  refine we_seq fun K19 hK19 => ?_
  refine we_draws (by kernel_rfl) [(0, 0), (1, 0), (2, 0), (3, 0), (4, 0), (5, 0), (6, 0), (7, 0), (8, 0), (9, 0), (10, 0), (11, 0), (12, 0), (13, 0), (14, 0), (15, 0), (16, 0), (17, 0), (18, 0), (19, 0), (20, 0), (21, 0), (22, 0), (23, 0), (24, 0)] (by kernel_rfl) ?_
  have hS16 := hS.drew
  refine ge_batch [0, 1, 2, 3] (ans := [.val (.int .i64 e1.Task)]) (vs := [(47, .bool (decide (e1.Task < 0))), (46, .bool (decide (e1.Task < 0))), (45, .int .i64 e1.Task), (44, .pointer (some ⟨b2, 0, none⟩))]) (l := [.loaded ⟨b2, 0, none⟩ (.int .i64 e1.Task)]) (by kernel_rfl) ⟨hS16.cell 0 rfl rfl, trivial⟩ ?_
  by_cases hc6 : e1.Task < 0
  · rw [if_pos hc6] at h
    refine ge_known (t := 47) (b := decide (e1.Task < 0)) (c := true) (by kernel_rfl) (decide_eq_true hc6) ?_
    refine ge_batch [4, 5, 6, 7, 8, 9, 10, 11, 12, 13, 14, 15, 16, 17, 18, 19, 20, 21, 22, 23, 24] (ans := []) (vs := [(68, .bool true), (67, undef), (66, undef), (65, undef), (64, undef), (63, undef), (62, undef), (61, undef), (60, undef), (59, undef), (58, undef), (57, undef), (56, undef), (55, undef), (54, .bool true), (53, .bool true), (52, undef), (51, undef), (50, undef), (49, undef), (48, undef)]) (l := []) (by kernel_rfl) trivial ?_
    refine ge_nil fun a hF => hK19 _ _ ?_ a hF
    refine we_true (by kernel_rfl) ?_
    refine we_seq fun K20 hK20 => ?_
    refine we_region [(0, 0)] rfl ?_
    refine ge_batch [0] (ans := []) (vs := [(6, .bool true)]) (l := []) (by kernel_rfl) trivial ?_
    refine ge_nil fun a hF => hK20 _ _ ?_ a hF
    have hS17 := hS16.takeN 0
    obtain rfl := Option.some.inj h
    exact we_ret fun a hF => hQ _ _ _ (Outs.out nofun ⟨rfl, (post_ret (rs := [.tmp 6]) (ans := []) (vs := [.bool true]) (l := []) rfl (by kernel_rfl) trivial ⟨rfl, hS17⟩) a hF⟩)
  · rw [if_neg hc6] at h
    refine ge_known (t := 47) (b := decide (e1.Task < 0)) (c := false) (by kernel_rfl) (decide_eq_false hc6) ?_
    refine ge_batch [4, 5, 6, 7, 8, 9, 10] (ans := [.val (.int .i64 e1.Task)]) (vs := [(54, .bool (decide (e1.Task ≥ (l0.length : Int)))), (53, .bool (decide (e1.Task ≥ (l0.length : Int)))), (52, .bool (decide (e1.Task ≥ (l0.length : Int)))), (51, .int .i64 (l0.length : Int)), (50, .slice A0 l0.length c0), (49, .int .i64 e1.Task), (48, .pointer (some ⟨b2, 0, none⟩))]) (l := [.loaded ⟨b2, 0, none⟩ (.int .i64 e1.Task)]) (by kernel_rfl) ⟨hS16.cell 0 rfl rfl, trivial⟩ ?_
    by_cases hc7 : e1.Task ≥ (l0.length : Int)
    · rw [if_pos hc7] at h
      refine ge_known (t := 54) (b := decide (e1.Task ≥ (l0.length : Int))) (c := true) (by kernel_rfl) (decide_eq_true hc7) ?_
      refine ge_batch [11, 12, 13, 14, 15, 16, 17, 18, 19, 20, 21, 22, 23, 24] (ans := []) (vs := [(68, .bool true), (67, undef), (66, undef), (65, undef), (64, undef), (63, undef), (62, undef), (61, undef), (60, undef), (59, undef), (58, undef), (57, undef), (56, undef), (55, undef)]) (l := []) (by kernel_rfl) trivial ?_
      refine ge_nil fun a hF => hK19 _ _ ?_ a hF
      refine we_true (by kernel_rfl) ?_
      refine we_seq fun K21 hK21 => ?_
      refine we_region [(0, 0)] rfl ?_
      refine ge_batch [0] (ans := []) (vs := [(6, .bool true)]) (l := []) (by kernel_rfl) trivial ?_
      refine ge_nil fun a hF => hK21 _ _ ?_ a hF
      have hS18 := hS16.takeN 0
      obtain rfl := Option.some.inj h
      exact we_ret fun a hF => hQ _ _ _ (Outs.out nofun ⟨rfl, (post_ret (rs := [.tmp 6]) (ans := []) (vs := [.bool true]) (l := []) rfl (by kernel_rfl) trivial ⟨rfl, hS18⟩) a hF⟩)
    · rw [if_neg hc7] at h
      refine ge_known (t := 54) (b := decide (e1.Task ≥ (l0.length : Int))) (c := false) (by kernel_rfl) (decide_eq_false hc7) ?_
      refine ge_batch [11, 12, 13] (ans := []) (vs := [(57, .bool (decide ((i1 : Int) > 0))), (56, .bool (decide ((i1 : Int) > 0))), (55, .int .i64 (i1 : Int))]) (l := []) (by kernel_rfl) trivial ?_
      by_cases hc8 : (i1 : Int) > 0
      · rw [if_pos hc8] at h
        refine ge_known (t := 57) (b := decide ((i1 : Int) > 0)) (c := true) (by kernel_rfl) (decide_eq_true hc8) ?_
        refine ge_batch [14, 15, 16, 17, 18] (ans := [.val (.int .i64 e1.At)]) (vs := [(62, .int .i64 (IntKind.i64.wrap ((i1 : Int) - 1))), (61, .int .i64 (i1 : Int)), (60, .slice A1 l1.length c1), (59, .int .i64 e1.At), (58, .pointer (some ⟨b2, 1, none⟩))]) (l := [.loaded ⟨b2, 1, none⟩ (.int .i64 e1.At)]) (by kernel_rfl) ⟨hS16.cell 0 rfl rfl, trivial⟩ ?_
        by_cases hc9 : 0 ≤ (IntKind.i64.wrap ((i1 : Int) - 1))
        · rw [if_pos hc9] at h
          rcases hx4 : l1[(IntKind.i64.wrap ((i1 : Int) - 1)).toNat]? with _ | e2
          · rw [hx4] at h; cases h
          rw [hx4] at h
          simp only [] at h
          refine ge_index (d := 63) (ty := 0) (t := 23) (el := 33) (sz := 2) (m := l1.length) (c := c1) (x := (.tmp 60)) (y := (.tmp 62)) (A := A1) (k' := .i64) (j := (IntKind.i64.wrap ((i1 : Int) - 1))) (jn := ((IntKind.i64.wrap ((i1 : Int) - 1)).toNat)) (b0 := blkOf A1) (o0 := offOf A1) (by kernel_rfl) (by kernel_rfl) (by kernel_rfl) (by kernel_rfl) (by kernel_rfl) ((hS16.rd hR1).eqSome (pos_of_get hx4)) (Int.toNat_of_nonneg hc9).symm (lt_of_get hx4) ?_
          refine ge_batch [20, 21, 22, 23, 24] (ans := [.val (.int .i64 e2.At)]) (vs := [(68, .bool (decide (e1.At < e2.At))), (67, .bool (decide (e1.At < e2.At))), (66, .bool (decide (e1.At < e2.At))), (65, .int .i64 e2.At), (64, .pointer (some ⟨blkOf A1, offOf A1 + (IntKind.i64.wrap ((i1 : Int) - 1)).toNat * 2 + 1, none⟩))]) (l := [.loaded ⟨blkOf A1, offOf A1 + ((IntKind.i64.wrap ((i1 : Int) - 1)).toNat) * 2 + 1, none⟩ (.int .i64 e2.At)]) (by kernel_rfl) ⟨RdL.cell (j := 1) (hS16.rd hR1) hx4 rfl, trivial⟩ ?_
          refine ge_nil fun a hF => hK19 _ _ ?_ a hF
          by_cases hc10 : e1.At < e2.At
          · rw [if_pos hc10] at h
            refine we_known (t := 68) (b := decide (e1.At < e2.At)) (v := true) (by kernel_rfl) (decide_eq_true hc10) ?_
            refine we_true (by kernel_rfl) ?_
            refine we_seq fun K22 hK22 => ?_
            refine we_region [(0, 0)] rfl ?_
            refine ge_batch [0] (ans := []) (vs := [(6, .bool true)]) (l := []) (by kernel_rfl) trivial ?_
            refine ge_nil fun a hF => hK22 _ _ ?_ a hF
            have hS19 := hS16.takeN 0
            obtain rfl := Option.some.inj h
            exact we_ret fun a hF => hQ _ _ _ (Outs.out nofun ⟨rfl, (post_ret (rs := [.tmp 6]) (ans := []) (vs := [.bool true]) (l := []) rfl (by kernel_rfl) trivial ⟨rfl, hS19⟩) a hF⟩)
          · rw [if_neg hc10] at h
            refine we_known (t := 68) (b := decide (e1.At < e2.At)) (v := false) (by kernel_rfl) (decide_eq_false hc10) ?_
            refine we_false (by kernel_rfl) ?_
            have hS20 := hS16.bring 2 rfl
            have hS21 := hS20.bring 2 rfl
            have hS22 := hS21.bring 2 rfl
            obtain rfl := Option.some.inj h
            exact we_skip fun a hF => hQ _ _ _ (Outs.again ⟨hS22, hF.weaken ⟨by kernel_rfl, by kernel_rfl, by kernel_rfl, by kernel_rfl, by kernel_rfl, by kernel_rfl, by kernel_rfl, by kernel_rfl, by kernel_rfl, by kernel_rfl, by kernel_rfl, trivial⟩⟩)
        · rw [if_neg hc9] at h
          cases h
      · rw [if_neg hc8] at h
        refine ge_known (t := 57) (b := decide ((i1 : Int) > 0)) (c := false) (by kernel_rfl) (decide_eq_false hc8) ?_
        refine ge_batch [14, 15, 16, 17, 18, 19, 20, 21, 22, 23, 24] (ans := []) (vs := [(68, .bool false), (67, .bool false), (66, undef), (65, undef), (64, undef), (63, undef), (62, undef), (61, undef), (60, undef), (59, undef), (58, undef)]) (l := []) (by kernel_rfl) trivial ?_
        refine ge_nil fun a hF => hK19 _ _ ?_ a hF
        refine we_false (by kernel_rfl) ?_
        have hS23 := hS16.bring 2 rfl
        have hS24 := hS23.bring 2 rfl
        have hS25 := hS24.bring 2 rfl
        obtain rfl := Option.some.inj h
        exact we_skip fun a hF => hQ _ _ _ (Outs.again ⟨hS25, hF.weaken ⟨by kernel_rfl, by kernel_rfl, by kernel_rfl, by kernel_rfl, by kernel_rfl, by kernel_rfl, by kernel_rfl, by kernel_rfl, by kernel_rfl, by kernel_rfl, by kernel_rfl, trivial⟩⟩)
abbrev NetKeeps.A3 (K : Nat) (w0 : World) (l0 : List SFrame) (A0 : Option Addr) (c0 : Nat) (l1 : List SCome) (A1 : Option Addr) (c1 : Nat) (l2 : List Int) (A2 : Option Addr) (c2 : Nat) (hR0 : RdL w0 A0 l0) (hL0 : l0.length ≤ c0) (hR1 : RdL w0 A1 l1) (hL1 : l1.length ≤ c1) (hR2 : RdL w0 A2 l2) (hL2 : l2.length ≤ c2) (r1 : Bool) (hc1 : r1 = true) (r2 : (List Int) × SFault) (b1 : Nat) (hc4 : r2.2.Code = 0) (Z1 : Option Addr) (cz1 : Nat) (z1 : Int) (i1 : Nat) (hc5 : (i1 : Int) < (l1.length : Int)) (e1 : SCome) (hx2 : l1[i1]? = some e1) (b2 : Nat) (hc11 : i1 ≤ l1.length) : Nat → Act → World → Prop := fun (s : Nat) a w => St w0 w [Own.blk b2 (.cells #[.int .i64 e1.Task, .int .i64 e1.At] 33 (0, 0)), Own.blk b1 (.cells #[.int .i64 r2.2.Code, .int .i64 r2.2.At] 29 (0, 0)), Own.of (.slice Z1 r2.1.length cz1) 3 r2.1] ∧ Frm 134 a [(0, .slice A0 l0.length c0), (1, .slice A1 l1.length c1), (2, .slice A2 l2.length c2), (7, (.slice Z1 r2.1.length cz1)), (8, .pointer (some ⟨b1, 0, none⟩)), (9, .int .i64 z1), (11, .pointer (some ⟨b2, 0, none⟩)), (37, .slice A1 l1.length c1), (38, .int .i64 (l1.length : Int)), (39, .int .i64 (i1 : Int)), (71, .slice (subA A1 c1 0 2) (((l1.take i1).drop 0).length) (c1 - 0)), (72, .int .i64 (((l1.take i1).drop 0).length : Int)), (73, .int .i64 (s : Int))]
abbrev NetKeeps.B3 (K : Nat) (w0 : World) (l0 : List SFrame) (A0 : Option Addr) (c0 : Nat) (l1 : List SCome) (A1 : Option Addr) (c1 : Nat) (l2 : List Int) (A2 : Option Addr) (c2 : Nat) (hR0 : RdL w0 A0 l0) (hL0 : l0.length ≤ c0) (hR1 : RdL w0 A1 l1) (hL1 : l1.length ≤ c1) (hR2 : RdL w0 A2 l2) (hL2 : l2.length ≤ c2) (r1 : Bool) (hc1 : r1 = true) (r2 : (List Int) × SFault) (b1 : Nat) (hc4 : r2.2.Code = 0) (Z1 : Option Addr) (cz1 : Nat) (z1 : Int) (i1 : Nat) (hc5 : (i1 : Int) < (l1.length : Int)) (e1 : SCome) (hx2 : l1[i1]? = some e1) (b2 : Nat) (hc11 : i1 ≤ l1.length) : (Unit ⊕ Bool) → Exit → Act → World → Prop := Exits 2 (fun (s : Unit) a w => St w0 w [Own.blk b2 (.cells #[.int .i64 e1.Task, .int .i64 e1.At] 33 (0, 0)), Own.blk b1 (.cells #[.int .i64 r2.2.Code, .int .i64 r2.2.At] 29 (0, 0)), Own.of (.slice Z1 r2.1.length cz1) 3 r2.1] ∧ Frm 134 a [(0, .slice A0 l0.length c0), (1, .slice A1 l1.length c1), (2, .slice A2 l2.length c2), (7, (.slice Z1 r2.1.length cz1)), (8, .pointer (some ⟨b1, 0, none⟩)), (9, .int .i64 z1), (11, .pointer (some ⟨b2, 0, none⟩)), (37, .slice A1 l1.length c1), (38, .int .i64 (l1.length : Int)), (39, .int .i64 (i1 : Int))]) (Rets Try.prog Try.f4 (NetKeeps.Post w0))
theorem NetKeeps_r3 (K : Nat) (w0 : World) (l0 : List SFrame) (A0 : Option Addr) (c0 : Nat) (l1 : List SCome) (A1 : Option Addr) (c1 : Nat) (l2 : List Int) (A2 : Option Addr) (c2 : Nat) (hR0 : RdL w0 A0 l0) (hL0 : l0.length ≤ c0) (hR1 : RdL w0 A1 l1) (hL1 : l1.length ≤ c1) (hR2 : RdL w0 A2 l2) (hL2 : l2.length ≤ c2) (r1 : Bool) (hc1 : r1 = true) (r2 : (List Int) × SFault) (b1 : Nat) (hc4 : r2.2.Code = 0) (Z1 : Option Addr) (cz1 : Nat) (z1 : Int) (i1 : Nat) (hc5 : (i1 : Int) < (l1.length : Int)) (e1 : SCome) (hx2 : l1[i1]? = some e1) (b2 : Nat) (hc11 : i1 ≤ l1.length) (s : Nat) (o : Nat ⊕ (Unit ⊕ Bool)) (h : NetKeeps.r3 l0 l1 i1 e1 s = some o) (a : Act) (w : World) (hA : NetKeeps.A3 K w0 l0 A0 c0 l1 A1 c1 l2 A2 c2 hR0 hL0 hR1 hL1 hR2 hL2 r1 hc1 r2 b1 hc4 Z1 cz1 z1 i1 hc5 e1 hx2 b2 hc11 s a w) (Q : Exit → Act → World → Prop) (hQ : ∀ x a w, Outs (NetKeeps.A3 K w0 l0 A0 c0 l1 A1 c1 l2 A2 c2 hR0 hL0 hR1 hL1 hR2 hL2 r1 hc1 r2 b1 hc4 Z1 cz1 z1 i1 hc5 e1 hx2 b2 hc11) (NetKeeps.B3 K w0 l0 A0 c0 l1 A1 c1 l2 A2 c2 hR0 hL0 hR1 hL1 hR2 hL2 r1 hc1 r2 b1 hc4 Z1 cz1 z1 i1 hc5 e1 hx2 b2 hc11) o x a w → Q x a w) : (subF Try.f4 [1, 1, 1, 1, 1, 1, 0, 1, 0, 0, 1, 1, 0, 0, 1, 1, 0, 1, 0, 0]).wp Try.prog Q a w := by
  obtain ⟨i2, hs⟩ : ∃ z, z = s := ⟨s, rfl⟩
  subst hs
  obtain ⟨hS, hF⟩ := hA
  replace hS : St w0 w [Own.blk b2 (.cells #[.int .i64 e1.Task, .int .i64 e1.At] 33 (0, 0)), Own.blk b1 (.cells #[.int .i64 r2.2.Code, .int .i64 r2.2.At] 29 (0, 0)), Own.of (.slice Z1 r2.1.length cz1) 3 r2.1] := hS
  simp only [NetKeeps.r3] at h
  refine (?_ : WE Try.prog 134 (subF Try.f4 [1, 1, 1, 1, 1, 1, 0, 1, 0, 0, 1, 1, 0, 0, 1, 1, 0, 1, 0, 0]) Q [(0, .slice A0 l0.length c0), (1, .slice A1 l1.length c1), (2, .slice A2 l2.length c2), (7, (.slice Z1 r2.1.length cz1)), (8, .pointer (some ⟨b1, 0, none⟩)), (9, .int .i64 z1), (11, .pointer (some ⟨b2, 0, none⟩)), (37, .slice A1 l1.length c1), (38, .int .i64 (l1.length : Int)), (39, .int .i64 (i1 : Int)), (71, .slice (subA A1 c1 0 2) (((l1.take i1).drop 0).length) (c1 - 0)), (72, .int .i64 (((l1.take i1).drop 0).length : Int)), (73, .int .i64 (i2 : Int))] w) a hF
  clear hF a
  refine we_seq fun K25 hK25 => ?_
  refine we_region [(0, 0)] rfl ?_
  refine ge_batch [0] (ans := []) (vs := [(74, .bool (decide ((i2 : Int) < (((l1.take i1).drop 0).length : Int))))]) (l := []) (by kernel_rfl) trivial ?_
  refine ge_nil fun a hF => hK25 _ _ ?_ a hF
  refine we_seq fun K26 hK26 => ?_
  by_cases hc12 : (i2 : Int) < (((l1.take i1).drop 0).length : Int)
  · rw [if_pos hc12] at h
    refine we_known (t := 74) (b := decide ((i2 : Int) < (((l1.take i1).drop 0).length : Int))) (v := true) (by kernel_rfl) (decide_eq_true hc12) ?_
    refine we_true (by kernel_rfl) ?_
    refine we_skip fun a hF => hK26 _ _ ?_ a hF
    refine we_seq fun K27 hK27 => ?_
    refine we_block ?_
    refine we_seq fun K28 hK28 => ?_
    refine we_region [(0, 0), (1, 0), (2, 1), (3, 2)] rfl ?_
    rcases hx5 : ((l1.take i1).drop 0)[i2]? with _ | e3
    · rw [hx5] at h; cases h
    rw [hx5] at h
    simp only [] at h
    refine ge_index (d := 75) (ty := 0) (t := 23) (el := 33) (sz := 2) (m := ((l1.take i1).drop 0).length) (c := (c1 - 0)) (x := (.tmp 71)) (y := (.tmp 73)) (A := (subA A1 c1 0 2)) (k' := .i64) (j := (i2 : Int)) (jn := i2) (b0 := blkOf (subA A1 c1 0 2)) (o0 := offOf (subA A1 c1 0 2)) (by kernel_rfl) (by kernel_rfl) (by kernel_rfl) (by kernel_rfl) (by kernel_rfl) ((hS.rd (RdL.part hR1 hL1 0 i1)).eqSome (pos_of_get hx5)) rfl (lt_of_get hx5) ?_
    refine ge_batch [1] (ans := [.val (.int .i64 e3.Task), .val (.int .i64 e3.At)]) (vs := [(76, .agg #[.int .i64 e3.Task, .int .i64 e3.At])]) (l := [.loaded ⟨blkOf (subA A1 c1 0 2), offOf (subA A1 c1 0 2) + i2 * 2, none⟩ (.int .i64 e3.Task), .loaded ⟨blkOf (subA A1 c1 0 2), offOf (subA A1 c1 0 2) + i2 * 2 + 1, none⟩ (.int .i64 e3.At)]) (by kernel_rfl) ⟨RdL.cell (j := 0) (hS.rd (RdL.part hR1 hL1 0 i1)) hx5 rfl, RdL.cell (j := 1) (hS.rd (RdL.part hR1 hL1 0 i1)) hx5 rfl, trivial⟩ ?_
    refine ge_new (d := some 13) (o := .cells #[.int .i64 0, .int .i64 0] 33) (v := fun b => .pointer (some ⟨b, 0, none⟩)) hS (fun b => by kernel_rfl) fun b3 w10 hx6 hS30 => ?_
    refine ge_set (b := b3) (j := 0) (cs := #[.int .i64 0, .int .i64 0]) (t := 33) (vs := [.int .i64 e3.Task, .int .i64 e3.At]) hS30 (by kernel_rfl) rfl rfl fun w11 hS31 => ?_
    have hS32 : St w0 w11 [Own.blk b3 (.cells #[.int .i64 e3.Task, .int .i64 e3.At] 33 (0, 0)), Own.blk b2 (.cells #[.int .i64 e1.Task, .int .i64 e1.At] 33 (0, 0)), Own.blk b1 (.cells #[.int .i64 r2.2.Code, .int .i64 r2.2.At] 29 (0, 0)), Own.of (.slice Z1 r2.1.length cz1) 3 r2.1] := hS31
    refine ge_nil fun a hF => hK28 _ _ ?_ a hF
    refine we_seq fun K29 hK29 => ?_
    refine we_draws (by kernel_rfl) [(0, 0), (1, 0), (2, 0), (3, 0), (4, 0), (5, 0), (6, 0), (7, 0), (8, 0), (9, 0), (10, 0), (11, 0), (12, 0), (13, 0), (14, 0), (15, 0), (16, 0), (17, 0), (18, 0)] (by kernel_rfl) ?_
    have hS33 := hS32.drew
    refine ge_batch [0, 1, 2, 3, 4, 5] (ans := [.val (.int .i64 e3.Task), .val (.int .i64 e1.Task)]) (vs := [(82, .bool (e3.Task == e1.Task)), (81, .bool (e3.Task == e1.Task)), (80, .int .i64 e1.Task), (79, .pointer (some ⟨b2, 0, none⟩)), (78, .int .i64 e3.Task), (77, .pointer (some ⟨b3, 0, none⟩))]) (l := [.loaded ⟨b3, 0, none⟩ (.int .i64 e3.Task), .loaded ⟨b2, 0, none⟩ (.int .i64 e1.Task)]) (by kernel_rfl) ⟨hS33.cell 0 rfl rfl, hS33.cell 1 rfl rfl, trivial⟩ ?_
    by_cases hc13 : e3.Task = e1.Task
    · rw [if_pos hc13] at h
      refine ge_known (t := 82) (b := (e3.Task == e1.Task)) (c := true) (by kernel_rfl) (beq_iff_eq.2 hc13) ?_
      refine ge_batch [6, 7, 8, 9, 10, 11, 12, 13] (ans := [.val (.int .i64 e1.At), .val (.int .i64 e3.At), .val (.int .i64 e1.Task)]) (vs := [(90, .int .i64 e1.Task), (89, .pointer (some ⟨b2, 0, none⟩)), (88, .slice A0 l0.length c0), (87, .int .i64 (IntKind.i64.wrap (e1.At - e3.At))), (86, .int .i64 e3.At), (85, .pointer (some ⟨b3, 1, none⟩)), (84, .int .i64 e1.At), (83, .pointer (some ⟨b2, 1, none⟩))]) (l := [.loaded ⟨b2, 1, none⟩ (.int .i64 e1.At), .loaded ⟨b3, 1, none⟩ (.int .i64 e3.At), .loaded ⟨b2, 0, none⟩ (.int .i64 e1.Task)]) (by kernel_rfl) ⟨hS33.cell 1 rfl rfl, hS33.cell 0 rfl rfl, hS33.cell 1 rfl rfl, trivial⟩ ?_
      by_cases hc14 : 0 ≤ e1.Task
      · rw [if_pos hc14] at h
        rcases hx7 : l0[(e1.Task).toNat]? with _ | e4
        · rw [hx7] at h; cases h
        rw [hx7] at h
        simp only [] at h
        refine ge_index (d := 91) (ty := 0) (t := 43) (el := 47) (sz := 4) (m := l0.length) (c := c0) (x := (.tmp 88)) (y := (.tmp 90)) (A := A0) (k' := .i64) (j := e1.Task) (jn := ((e1.Task).toNat)) (b0 := blkOf A0) (o0 := offOf A0) (by kernel_rfl) (by kernel_rfl) (by kernel_rfl) (by kernel_rfl) (by kernel_rfl) ((hS33.rd hR0).eqSome (pos_of_get hx7)) (Int.toNat_of_nonneg hc14).symm (lt_of_get hx7) ?_
        refine ge_batch [15, 16, 17, 18] (ans := [.val (.int .i64 e4.T)]) (vs := [(95, .bool (decide ((IntKind.i64.wrap (e1.At - e3.At)) < e4.T))), (94, .bool (decide ((IntKind.i64.wrap (e1.At - e3.At)) < e4.T))), (93, .int .i64 e4.T), (92, .pointer (some ⟨blkOf A0, offOf A0 + (e1.Task).toNat * 4 + 1, none⟩))]) (l := [.loaded ⟨blkOf A0, offOf A0 + ((e1.Task).toNat) * 4 + 1, none⟩ (.int .i64 e4.T)]) (by kernel_rfl) ⟨RdL.cell (j := 1) (hS33.rd hR0) hx7 rfl, trivial⟩ ?_
        refine ge_nil fun a hF => hK29 _ _ ?_ a hF
        by_cases hc15 : (IntKind.i64.wrap (e1.At - e3.At)) < e4.T
        · rw [if_pos hc15] at h
          refine we_known (t := 95) (b := decide ((IntKind.i64.wrap (e1.At - e3.At)) < e4.T)) (v := true) (by kernel_rfl) (decide_eq_true hc15) ?_
          refine we_true (by kernel_rfl) ?_
          refine we_seq fun K30 hK30 => ?_
          refine we_region [(0, 0)] rfl ?_
          refine ge_batch [0] (ans := []) (vs := [(6, .bool true)]) (l := []) (by kernel_rfl) trivial ?_
          refine ge_nil fun a hF => hK30 _ _ ?_ a hF
          have hS34 := hS33.takeN 0
          obtain rfl := Option.some.inj h
          exact we_ret fun a hF => hQ _ _ _ (Outs.out nofun (Exits.on ⟨rfl, (post_ret (rs := [.tmp 6]) (ans := []) (vs := [.bool true]) (l := []) rfl (by kernel_rfl) trivial ⟨rfl, hS34⟩) a hF⟩))
        · rw [if_neg hc15] at h
          refine we_known (t := 95) (b := decide ((IntKind.i64.wrap (e1.At - e3.At)) < e4.T)) (v := false) (by kernel_rfl) (decide_eq_false hc15) ?_
          refine we_false (by kernel_rfl) ?_
          refine we_skip fun a hF => hK27 _ _ ?_ a hF
          refine we_region [(0, 0), (1, 0)] rfl ?_
          refine ge_addn (d := 96) (ty := 3) (x := (.tmp 73)) (y := (.const (.int .i64 1))) (t := 3) (t2 := 3) (k := .i64) (m := i2) (by kernel_rfl) (by kernel_rfl) (by kernel_rfl) (by have h0 := hR1.small; have h1 : ((l1.take i1).drop 0).length ≤ l1.length := (by simp only [List.length_drop, List.length_take]; omega); omega) ?_
          refine ge_batch [1] (ans := []) (vs := [(73, .int .i64 ((i2 + 1 : Nat) : Int))]) (l := []) (by kernel_rfl) trivial ?_
          have hS35 := hS33.bring 3 rfl
          have hS36 := hS35.bring 3 rfl
          have hS37 := hS36.bring 3 rfl
          have hS38 := hS37.takeN 3
          obtain rfl := Option.some.inj h
          exact ge_nil fun a hF => hQ _ _ _ (Outs.again ⟨hS38, hF.weaken ⟨by kernel_rfl, by kernel_rfl, by kernel_rfl, by kernel_rfl, by kernel_rfl, by kernel_rfl, by kernel_rfl, by kernel_rfl, by kernel_rfl, by kernel_rfl, by kernel_rfl, by kernel_rfl, by kernel_rfl, trivial⟩⟩)
      · rw [if_neg hc14] at h
        cases h
    · rw [if_neg hc13] at h
      refine ge_known (t := 82) (b := (e3.Task == e1.Task)) (c := false) (by kernel_rfl) (beq_eq_false_iff_ne.2 hc13) ?_
      refine ge_batch [6, 7, 8, 9, 10, 11, 12, 13, 14, 15, 16, 17, 18] (ans := []) (vs := [(95, .bool false), (94, undef), (93, undef), (92, undef), (91, undef), (90, undef), (89, undef), (88, undef), (87, undef), (86, undef), (85, undef), (84, undef), (83, undef)]) (l := []) (by kernel_rfl) trivial ?_
      refine ge_nil fun a hF => hK29 _ _ ?_ a hF
      refine we_false (by kernel_rfl) ?_
      refine we_skip fun a hF => hK27 _ _ ?_ a hF
      refine we_region [(0, 0), (1, 0)] rfl ?_
      refine ge_addn (d := 96) (ty := 3) (x := (.tmp 73)) (y := (.const (.int .i64 1))) (t := 3) (t2 := 3) (k := .i64) (m := i2) (by kernel_rfl) (by kernel_rfl) (by kernel_rfl) (by have h0 := hR1.small; have h1 : ((l1.take i1).drop 0).length ≤ l1.length := (by simp only [List.length_drop, List.length_take]; omega); omega) ?_
      refine ge_batch [1] (ans := []) (vs := [(73, .int .i64 ((i2 + 1 : Nat) : Int))]) (l := []) (by kernel_rfl) trivial ?_
      have hS39 := hS33.bring 3 rfl
      have hS40 := hS39.bring 3 rfl
      have hS41 := hS40.bring 3 rfl
      have hS42 := hS41.takeN 3
      obtain rfl := Option.some.inj h
      exact ge_nil fun a hF => hQ _ _ _ (Outs.again ⟨hS42, hF.weaken ⟨by kernel_rfl, by kernel_rfl, by kernel_rfl, by kernel_rfl, by kernel_rfl, by kernel_rfl, by kernel_rfl, by kernel_rfl, by kernel_rfl, by kernel_rfl, by kernel_rfl, by kernel_rfl, by kernel_rfl, trivial⟩⟩)
  · rw [if_neg hc12] at h
    refine we_known (t := 74) (b := decide ((i2 : Int) < (((l1.take i1).drop 0).length : Int))) (v := false) (by kernel_rfl) (decide_eq_false hc12) ?_
    refine we_false (by kernel_rfl) ?_
    have hS43 := hS.bring 2 rfl
    have hS44 := hS43.bring 2 rfl
    have hS45 := hS44.bring 2 rfl
    obtain rfl := Option.some.inj h
    exact we_exit fun a hF => hQ _ _ _ (Outs.out nofun (Exits.here ⟨hS45, hF.weaken ⟨by kernel_rfl, by kernel_rfl, by kernel_rfl, by kernel_rfl, by kernel_rfl, by kernel_rfl, by kernel_rfl, by kernel_rfl, by kernel_rfl, by kernel_rfl, trivial⟩⟩))
abbrev NetKeeps.A1 (K : Nat) (w0 : World) (l0 : List SFrame) (A0 : Option Addr) (c0 : Nat) (l1 : List SCome) (A1 : Option Addr) (c1 : Nat) (l2 : List Int) (A2 : Option Addr) (c2 : Nat) (hR0 : RdL w0 A0 l0) (hL0 : l0.length ≤ c0) (hR1 : RdL w0 A1 l1) (hL1 : l1.length ≤ c1) (hR2 : RdL w0 A2 l2) (hL2 : l2.length ≤ c2) (r1 : Bool) (hc1 : r1 = true) (r2 : (List Int) × SFault) (b1 : Nat) (hc4 : r2.2.Code = 0) (Z1 : Option Addr) (cz1 : Nat) : (Int × Nat) → Act → World → Prop := fun (s : Int × Nat) a w => St w0 w [Own.blk b1 (.cells #[.int .i64 r2.2.Code, .int .i64 r2.2.At] 29 (0, 0)), Own.of (.slice Z1 r2.1.length cz1) 3 r2.1] ∧ Frm 134 a [(0, .slice A0 l0.length c0), (1, .slice A1 l1.length c1), (2, .slice A2 l2.length c2), (7, (.slice Z1 r2.1.length cz1)), (8, .pointer (some ⟨b1, 0, none⟩)), (9, .int .i64 s.1), (37, .slice A1 l1.length c1), (38, .int .i64 (l1.length : Int)), (39, .int .i64 (s.2 : Int))]
abbrev NetKeeps.B1 (K : Nat) (w0 : World) (l0 : List SFrame) (A0 : Option Addr) (c0 : Nat) (l1 : List SCome) (A1 : Option Addr) (c1 : Nat) (l2 : List Int) (A2 : Option Addr) (c2 : Nat) (hR0 : RdL w0 A0 l0) (hL0 : l0.length ≤ c0) (hR1 : RdL w0 A1 l1) (hL1 : l1.length ≤ c1) (hR2 : RdL w0 A2 l2) (hL2 : l2.length ≤ c2) (r1 : Bool) (hc1 : r1 = true) (r2 : (List Int) × SFault) (b1 : Nat) (hc4 : r2.2.Code = 0) (Z1 : Option Addr) (cz1 : Nat) : (Int ⊕ Bool) → Exit → Act → World → Prop := Exits 0 (fun (s : Int) a w => St w0 w [Own.blk b1 (.cells #[.int .i64 r2.2.Code, .int .i64 r2.2.At] 29 (0, 0)), Own.of (.slice Z1 r2.1.length cz1) 3 r2.1] ∧ Frm 134 a [(0, .slice A0 l0.length c0), (1, .slice A1 l1.length c1), (2, .slice A2 l2.length c2), (7, (.slice Z1 r2.1.length cz1)), (8, .pointer (some ⟨b1, 0, none⟩)), (9, .int .i64 s)]) (Rets Try.prog Try.f4 (NetKeeps.Post w0))
theorem NetKeeps_r1 (K : Nat) (w0 : World) (l0 : List SFrame) (A0 : Option Addr) (c0 : Nat) (l1 : List SCome) (A1 : Option Addr) (c1 : Nat) (l2 : List Int) (A2 : Option Addr) (c2 : Nat) (hR0 : RdL w0 A0 l0) (hL0 : l0.length ≤ c0) (hR1 : RdL w0 A1 l1) (hL1 : l1.length ≤ c1) (hR2 : RdL w0 A2 l2) (hL2 : l2.length ≤ c2) (r1 : Bool) (hc1 : r1 = true) (r2 : (List Int) × SFault) (b1 : Nat) (hc4 : r2.2.Code = 0) (Z1 : Option Addr) (cz1 : Nat) (s : Int × Nat) (o : (Int × Nat) ⊕ (Int ⊕ Bool)) (h : NetKeeps.r1 K l0 l1 r2 s = some o) (a : Act) (w : World) (hA : NetKeeps.A1 K w0 l0 A0 c0 l1 A1 c1 l2 A2 c2 hR0 hL0 hR1 hL1 hR2 hL2 r1 hc1 r2 b1 hc4 Z1 cz1 s a w) (Q : Exit → Act → World → Prop) (hQ : ∀ x a w, Outs (NetKeeps.A1 K w0 l0 A0 c0 l1 A1 c1 l2 A2 c2 hR0 hL0 hR1 hL1 hR2 hL2 r1 hc1 r2 b1 hc4 Z1 cz1) (NetKeeps.B1 K w0 l0 A0 c0 l1 A1 c1 l2 A2 c2 hR0 hL0 hR1 hL1 hR2 hL2 r1 hc1 r2 b1 hc4 Z1 cz1) o x a w → Q x a w) : (subF Try.f4 [1, 1, 1, 1, 1, 1, 0, 1, 0, 0]).wp Try.prog Q a w := by
  obtain ⟨z1, i1⟩ := s
  obtain ⟨hS, hF⟩ := hA
  replace hS : St w0 w [Own.blk b1 (.cells #[.int .i64 r2.2.Code, .int .i64 r2.2.At] 29 (0, 0)), Own.of (.slice Z1 r2.1.length cz1) 3 r2.1] := hS
  simp only [NetKeeps.r1] at h
  refine (?_ : WE Try.prog 134 (subF Try.f4 [1, 1, 1, 1, 1, 1, 0, 1, 0, 0]) Q [(0, .slice A0 l0.length c0), (1, .slice A1 l1.length c1), (2, .slice A2 l2.length c2), (7, (.slice Z1 r2.1.length cz1)), (8, .pointer (some ⟨b1, 0, none⟩)), (9, .int .i64 z1), (37, .slice A1 l1.length c1), (38, .int .i64 (l1.length : Int)), (39, .int .i64 (i1 : Int))] w) a hF
  clear hF a
  refine we_seq fun K14 hK14 => ?_
  refine we_region [(0, 0)] rfl ?_
  refine ge_batch [0] (ans := []) (vs := [(40, .bool (decide ((i1 : Int) < (l1.length : Int))))]) (l := []) (by kernel_rfl) trivial ?_
  refine ge_nil fun a hF => hK14 _ _ ?_ a hF
  refine we_seq fun K15 hK15 => ?_
  by_cases hc5 : (i1 : Int) < (l1.length : Int)
  · rw [if_pos hc5] at h
    refine we_known (t := 40) (b := decide ((i1 : Int) < (l1.length : Int))) (v := true) (by kernel_rfl) (decide_eq_true hc5) ?_
    refine we_true (by kernel_rfl) ?_
    refine we_skip fun a hF => hK15 _ _ ?_ a hF
    refine we_seq fun K16 hK16 => ?_
    refine we_block ?_
    refine we_seq fun K17 hK17 => ?_
    refine we_region [(0, 0), (1, 0), (2, 0), (3, 1), (4, 0), (5, 2)] rfl ?_
    refine ge_batch [0] (ans := []) (vs := [(41, .int .i64 (i1 : Int))]) (l := []) (by kernel_rfl) trivial ?_
    rcases hx2 : l1[i1]? with _ | e1
    · rw [hx2] at h; cases h
    rw [hx2] at h
    simp only [] at h
    refine ge_index (d := 42) (ty := 0) (t := 23) (el := 33) (sz := 2) (m := l1.length) (c := c1) (x := (.tmp 37)) (y := (.tmp 39)) (A := A1) (k' := .i64) (j := (i1 : Int)) (jn := i1) (b0 := blkOf A1) (o0 := offOf A1) (by kernel_rfl) (by kernel_rfl) (by kernel_rfl) (by kernel_rfl) (by kernel_rfl) ((hS.rd hR1).eqSome (pos_of_get hx2)) rfl (lt_of_get hx2) ?_
    refine ge_batch [2] (ans := [.val (.int .i64 e1.Task), .val (.int .i64 e1.At)]) (vs := [(43, .agg #[.int .i64 e1.Task, .int .i64 e1.At])]) (l := [.loaded ⟨blkOf A1, offOf A1 + i1 * 2, none⟩ (.int .i64 e1.Task), .loaded ⟨blkOf A1, offOf A1 + i1 * 2 + 1, none⟩ (.int .i64 e1.At)]) (by kernel_rfl) ⟨RdL.cell (j := 0) (hS.rd hR1) hx2 rfl, RdL.cell (j := 1) (hS.rd hR1) hx2 rfl, trivial⟩ ?_
    refine ge_new (d := some 11) (o := .cells #[.int .i64 0, .int .i64 0] 33) (v := fun b => .pointer (some ⟨b, 0, none⟩)) hS (fun b => by kernel_rfl) fun b2 w7 hx3 hS13 => ?_
    refine ge_batch [4] (ans := []) (vs := [(10, .int .i64 (i1 : Int))]) (l := []) (by kernel_rfl) trivial ?_
    refine ge_set (b := b2) (j := 0) (cs := #[.int .i64 0, .int .i64 0]) (t := 33) (vs := [.int .i64 e1.Task, .int .i64 e1.At]) hS13 (by kernel_rfl) rfl rfl fun w8 hS14 => ?_
    have hS15 : St w0 w8 [Own.blk b2 (.cells #[.int .i64 e1.Task, .int .i64 e1.At] 33 (0, 0)), Own.blk b1 (.cells #[.int .i64 r2.2.Code, .int .i64 r2.2.At] 29 (0, 0)), Own.of (.slice Z1 r2.1.length cz1) 3 r2.1] := hS14
    refine ge_nil fun a hF => hK17 _ _ ?_ a hF
    refine we_seq fun K18 hK18 => ?_
    rcases hq5 : NetKeeps.p2 l0 l1 i1 e1 with _ | (_ | rr2)
    · rw [hq5] at h; cases h
    · rw [hq5] at h
      simp only [] at h
      refine we_keep (e' := [(0, .slice A0 l0.length c0), (1, .slice A1 l1.length c1), (2, .slice A2 l2.length c2), (7, (.slice Z1 r2.1.length cz1)), (8, .pointer (some ⟨b1, 0, none⟩)), (9, .int .i64 z1), (10, .int .i64 (i1 : Int)), (11, .pointer (some ⟨b2, 0, none⟩)), (37, .slice A1 l1.length c1), (38, .int .i64 (l1.length : Int)), (39, .int .i64 (i1 : Int)), (40, .bool true), (41, .int .i64 (i1 : Int)), (42, .pointer (some ⟨blkOf A1, offOf A1 + i1 * 2, none⟩)), (43, .agg #[.int .i64 e1.Task, .int .i64 e1.At])]) ⟨by kernel_rfl, by kernel_rfl, by kernel_rfl, by kernel_rfl, by kernel_rfl, by kernel_rfl, by kernel_rfl, by kernel_rfl, by kernel_rfl, by kernel_rfl, by kernel_rfl, by kernel_rfl, by kernel_rfl, by kernel_rfl, by kernel_rfl, trivial⟩ (NetKeeps_p2 K w0 l0 A0 c0 l1 A1 c1 l2 A2 c2 hR0 hL0 hR1 hL1 hR2 hL2 r1 hc1 r2 b1 hc4 Z1 cz1 z1 i1 hc5 e1 hx2 b2 _ hq5 _ hS15 _ ?_)
      rintro _ a w9 ⟨rfl, hS26, hF⟩
      replace hS26 : St w0 w9 [Own.blk b2 (.cells #[.int .i64 e1.Task, .int .i64 e1.At] 33 (0, 0)), Own.blk b1 (.cells #[.int .i64 r2.2.Code, .int .i64 r2.2.At] 29 (0, 0)), Own.of (.slice Z1 r2.1.length cz1) 3 r2.1] := hS26
      refine hK18 [(0, .slice A0 l0.length c0), (1, .slice A1 l1.length c1), (2, .slice A2 l2.length c2), (7, (.slice Z1 r2.1.length cz1)), (8, .pointer (some ⟨b1, 0, none⟩)), (9, .int .i64 z1), (10, .int .i64 (i1 : Int)), (11, .pointer (some ⟨b2, 0, none⟩)), (37, .slice A1 l1.length c1), (38, .int .i64 (l1.length : Int)), (39, .int .i64 (i1 : Int))] w9 ?_ a hF
      refine we_seq fun K23 hK23 => ?_
      refine we_seq fun K24 hK24 => ?_
      refine we_region [(0, 0), (1, 0), (2, 0), (3, 0), (4, 0)] rfl ?_
      refine ge_batch [0, 1] (ans := []) (vs := [(70, .int .i64 (i1 : Int)), (69, .slice A1 l1.length c1)]) (l := []) (by kernel_rfl) trivial ?_
      by_cases hc11 : i1 ≤ l1.length
      · rw [if_pos hc11] at h
        refine ge_part (d := 71) (ty := 23) (t := 23) (el := 33) (sz := 2) (m := l1.length) (c := c1) (lo := 0) (hi := i1) (x := (.tmp 69)) (xl := none) (xh := some (.tmp 70)) (A := A1) (by kernel_rfl) (by kernel_rfl) rfl ⟨.i64, (i1 : Int), by kernel_rfl, rfl⟩ (by kernel_rfl) (by kernel_rfl) (by have f0 := hc11; have f1 := hL1; omega) (by have f0 := hc11; have f1 := hL1; omega) ?_
        refine ge_same (t := 71) (v := .slice (subA A1 c1 0 2) (i1 - 0) (c1 - 0)) (v' := .slice (subA A1 c1 0 2) (((l1.take i1).drop 0).length) (c1 - 0)) (by kernel_rfl) (by have f0 := hc11; have f1 := hL1; rw [show i1 - 0 = ((l1.take i1).drop 0).length by simp only [List.length_drop, List.length_take]; omega]) ?_
        refine ge_batch [3, 4] (ans := []) (vs := [(73, .int .i64 0), (72, .int .i64 (((l1.take i1).drop 0).length : Int))]) (l := []) (by kernel_rfl) trivial ?_
        refine ge_nil fun a hF => hK24 _ _ ?_ a hF
        refine we_block ?_
        have hS27 := hS26.bring 2 rfl
        have hS28 := hS27.bring 2 rfl
        have hS29 := hS28.bring 2 rfl
        rcases hq6 : iter (NetKeeps.r3 l0 l1 i1 e1) K 0 with _ | (_ | rr1)
        · rw [hq6] at h; cases h
        · rw [hq6] at h
          simp only [] at h
          refine we_iter (A := NetKeeps.A3 K w0 l0 A0 c0 l1 A1 c1 l2 A2 c2 hR0 hL0 hR1 hL1 hR2 hL2 r1 hc1 r2 b1 hc4 Z1 cz1 z1 i1 hc5 e1 hx2 b2 hc11) (B := NetKeeps.B3 K w0 l0 A0 c0 l1 A1 c1 l2 A2 c2 hR0 hL0 hR1 hL1 hR2 hL2 r1 hc1 r2 b1 hc4 Z1 cz1 z1 i1 hc5 e1 hx2 b2 hc11) hq6 (fun a hF => ⟨hS29, hF.weaken ⟨by kernel_rfl, by kernel_rfl, by kernel_rfl, by kernel_rfl, by kernel_rfl, by kernel_rfl, by kernel_rfl, by kernel_rfl, by kernel_rfl, by kernel_rfl, by kernel_rfl, by kernel_rfl, by kernel_rfl, trivial⟩⟩) (fun s o hf a w hA Q hQ => NetKeeps_r3 K w0 l0 A0 c0 l1 A1 c1 l2 A2 c2 hR0 hL0 hR1 hL1 hR2 hL2 r1 hc1 r2 b1 hc4 Z1 cz1 z1 i1 hc5 e1 hx2 b2 hc11 s o hf a w hA Q hQ) ?_
          rintro _ a w12 _ ⟨rfl, hS46, hF⟩
          replace hS46 : St w0 w12 [Own.blk b2 (.cells #[.int .i64 e1.Task, .int .i64 e1.At] 33 (0, 0)), Own.blk b1 (.cells #[.int .i64 r2.2.Code, .int .i64 r2.2.At] 29 (0, 0)), Own.of (.slice Z1 r2.1.length cz1) 3 r2.1] := hS46
          refine hK23 [(0, .slice A0 l0.length c0), (1, .slice A1 l1.length c1), (2, .slice A2 l2.length c2), (7, (.slice Z1 r2.1.length cz1)), (8, .pointer (some ⟨b1, 0, none⟩)), (9, .int .i64 z1), (11, .pointer (some ⟨b2, 0, none⟩)), (37, .slice A1 l1.length c1), (38, .int .i64 (l1.length : Int)), (39, .int .i64 (i1 : Int))] w12 ?_ a hF
          refine we_draws (by kernel_rfl) [(0, 0), (1, 0), (2, 0), (3, 0), (4, 0), (5, 0), (6, 0), (7, 0), (8, 0), (9, 0), (10, 0)] (by kernel_rfl) ?_
          have hS47 := hS46.drew
          refine ge_batch [0, 1, 2, 3, 4, 5] (ans := [.val (.int .i64 e1.At), .val (.int .i64 e1.Task)]) (vs := [(102, .int .i64 e1.Task), (101, .pointer (some ⟨b2, 0, none⟩)), (100, (.slice Z1 r2.1.length cz1)), (99, .int .i64 e1.At), (98, .pointer (some ⟨b2, 1, none⟩)), (97, .int .i64 z1)]) (l := [.loaded ⟨b2, 1, none⟩ (.int .i64 e1.At), .loaded ⟨b2, 0, none⟩ (.int .i64 e1.Task)]) (by kernel_rfl) ⟨hS47.cell 0 rfl rfl, hS47.cell 0 rfl rfl, trivial⟩ ?_
          by_cases hc16 : 0 ≤ e1.Task
          · rw [if_pos hc16] at h
            rcases hx8 : r2.1[(e1.Task).toNat]? with _ | e5
            · rw [hx8] at h; cases h
            rw [hx8] at h
            simp only [] at h
            refine ge_index (d := 103) (ty := 0) (t := 24) (el := 3) (sz := 1) (m := r2.1.length) (c := cz1) (x := (.tmp 100)) (y := (.tmp 102)) (A := Z1) (k' := .i64) (j := e1.Task) (jn := ((e1.Task).toNat)) (b0 := blkOf Z1) (o0 := offOf Z1) (by kernel_rfl) (by kernel_rfl) (by kernel_rfl) (by kernel_rfl) (by kernel_rfl) ((hS47.rdAt 2 rfl).eqSome (pos_of_get hx8)) (Int.toNat_of_nonneg hc16).symm (lt_of_get hx8) ?_
            refine ge_batch [7, 8, 9, 10] (ans := [.val (.int .i64 e5)]) (vs := [(9, .int .i64 (gmax z1 (IntKind.i64.wrap (e1.At + e5)))), (106, .int .i64 (gmax z1 (IntKind.i64.wrap (e1.At + e5)))), (105, .int .i64 (IntKind.i64.wrap (e1.At + e5))), (104, .int .i64 e5)]) (l := [.loaded ⟨blkOf Z1, offOf Z1 + ((e1.Task).toNat) * 1, none⟩ (.int .i64 e5)]) (by kernel_rfl) ⟨RdL.cell (j := 0) (hS47.rdAt 2 rfl) hx8 rfl, trivial⟩ ?_
            refine ge_nil fun a hF => hK16 _ _ ?_ a hF
            refine we_region [(0, 0), (1, 0)] rfl ?_
            refine ge_addn (d := 107) (ty := 3) (x := (.tmp 39)) (y := (.const (.int .i64 1))) (t := 3) (t2 := 3) (k := .i64) (m := i1) (by kernel_rfl) (by kernel_rfl) (by kernel_rfl) (by have h0 := hR1.small; omega) ?_
            refine ge_batch [1] (ans := []) (vs := [(39, .int .i64 ((i1 + 1 : Nat) : Int))]) (l := []) (by kernel_rfl) trivial ?_
            have hS48 := hS47.bring 2 rfl
            have hS49 := hS48.bring 2 rfl
            have hS50 := hS49.takeN 2
            obtain rfl := Option.some.inj h
            exact ge_nil fun a hF => hQ _ _ _ (Outs.again ⟨hS50, hF.weaken ⟨by kernel_rfl, by kernel_rfl, by kernel_rfl, by kernel_rfl, by kernel_rfl, by kernel_rfl, by kernel_rfl, by kernel_rfl, by kernel_rfl, trivial⟩⟩)
          · rw [if_neg hc16] at h
            cases h
        · rw [hq6] at h
          simp only [] at h
          refine we_iter (A := NetKeeps.A3 K w0 l0 A0 c0 l1 A1 c1 l2 A2 c2 hR0 hL0 hR1 hL1 hR2 hL2 r1 hc1 r2 b1 hc4 Z1 cz1 z1 i1 hc5 e1 hx2 b2 hc11) (B := NetKeeps.B3 K w0 l0 A0 c0 l1 A1 c1 l2 A2 c2 hR0 hL0 hR1 hL1 hR2 hL2 r1 hc1 r2 b1 hc4 Z1 cz1 z1 i1 hc5 e1 hx2 b2 hc11) hq6 (fun a hF => ⟨hS29, hF.weaken ⟨by kernel_rfl, by kernel_rfl, by kernel_rfl, by kernel_rfl, by kernel_rfl, by kernel_rfl, by kernel_rfl, by kernel_rfl, by kernel_rfl, by kernel_rfl, by kernel_rfl, by kernel_rfl, by kernel_rfl, trivial⟩⟩) (fun s o hf a w hA Q hQ => NetKeeps_r3 K w0 l0 A0 c0 l1 A1 c1 l2 A2 c2 hR0 hL0 hR1 hL1 hR2 hL2 r1 hc1 r2 b1 hc4 Z1 cz1 z1 i1 hc5 e1 hx2 b2 hc11 s o hf a w hA Q hQ) ?_
          rintro _ a w1 _ ⟨rfl, hb⟩
          obtain rfl := Option.some.inj h
          exact hQ _ _ _ (Outs.out nofun (Exits.on ⟨rfl, hb⟩))
      · rw [if_neg hc11] at h
        cases h
    · rw [hq5] at h
      simp only [] at h
      refine we_keep (e' := [(0, .slice A0 l0.length c0), (1, .slice A1 l1.length c1), (2, .slice A2 l2.length c2), (7, (.slice Z1 r2.1.length cz1)), (8, .pointer (some ⟨b1, 0, none⟩)), (9, .int .i64 z1), (10, .int .i64 (i1 : Int)), (11, .pointer (some ⟨b2, 0, none⟩)), (37, .slice A1 l1.length c1), (38, .int .i64 (l1.length : Int)), (39, .int .i64 (i1 : Int)), (40, .bool true), (41, .int .i64 (i1 : Int)), (42, .pointer (some ⟨blkOf A1, offOf A1 + i1 * 2, none⟩)), (43, .agg #[.int .i64 e1.Task, .int .i64 e1.At])]) ⟨by kernel_rfl, by kernel_rfl, by kernel_rfl, by kernel_rfl, by kernel_rfl, by kernel_rfl, by kernel_rfl, by kernel_rfl, by kernel_rfl, by kernel_rfl, by kernel_rfl, by kernel_rfl, by kernel_rfl, by kernel_rfl, by kernel_rfl, trivial⟩ (NetKeeps_p2 K w0 l0 A0 c0 l1 A1 c1 l2 A2 c2 hR0 hL0 hR1 hL1 hR2 hL2 r1 hc1 r2 b1 hc4 Z1 cz1 z1 i1 hc5 e1 hx2 b2 _ hq5 _ hS15 _ ?_)
      rintro _ a w1 ⟨_, rfl, hb⟩
      obtain rfl := Option.some.inj h
      exact hQ _ _ _ (Outs.out nofun (Exits.on ⟨rfl, hb⟩))
  · rw [if_neg hc5] at h
    refine we_known (t := 40) (b := decide ((i1 : Int) < (l1.length : Int))) (v := false) (by kernel_rfl) (decide_eq_false hc5) ?_
    refine we_false (by kernel_rfl) ?_
    have hS51 := hS.bring 1 rfl
    have hS52 := hS51.bring 1 rfl
    obtain rfl := Option.some.inj h
    exact we_exit fun a hF => hQ _ _ _ (Outs.out nofun (Exits.here ⟨hS52, hF.weaken ⟨by kernel_rfl, by kernel_rfl, by kernel_rfl, by kernel_rfl, by kernel_rfl, by kernel_rfl, trivial⟩⟩))
theorem NetKeeps_ok (K : Nat) (l0 : List SFrame) (A0 : Option Addr) (c0 : Nat) (l1 : List SCome) (A1 : Option Addr) (c1 : Nat) (l2 : List Int) (A2 : Option Addr) (c2 : Nat) (w0 : World) (hR0 : RdL w0 A0 l0) (hL0 : l0.length ≤ c0) (hR1 : RdL w0 A1 l1) (hL1 : l1.length ≤ c1) (hR2 : RdL w0 A2 l2) (hL2 : l2.length ≤ c2) (r : Bool) (h : NetKeeps.f K l0 l1 l2 = some r) :
    Calls Try.prog 4 #[.slice A0 l0.length c0, .slice A1 l1.length c1, .slice A2 l2.length c2] w0 (NetKeeps.Post w0 r) := by
  have hS := St.start w0
  unfold NetKeeps.f at h
  refine calls_enter (n := 134) (args := [.slice A0 l0.length c0, .slice A1 l1.length c1, .slice A2 l2.length c2]) (fn := Try.f4) rfl rfl rfl rfl ?_
  show WE _ _ _ _ [(0, .slice A0 l0.length c0), (1, .slice A1 l1.length c1), (2, .slice A2 l2.length c2)] _
  refine we_seq fun K1 hK1 => ?_
  refine we_region [(0, 0)] rfl ?_
  refine ge_batch [0] (ans := []) (vs := [(6, .bool false)]) (l := []) (by kernel_rfl) trivial ?_
  refine ge_nil fun a hF => hK1 _ _ ?_ a hF
  refine we_seq fun K2 hK2 => ?_
  refine we_seq fun K3 hK3 => ?_
  refine we_region [(0, 1), (1, 0)] rfl ?_
  rcases hq1 : bus.f K with _ | r1
  · rw [hq1] at h; cases h
  rw [hq1] at h
  simp only [] at h
  refine ge_call (d := some 15) (f := 13) (args := #[]) (by kernel_rfl) (bus_ok K _ _ hq1) ?_
  rintro _ w1 ⟨rfl, hS1⟩
  refine ⟨_, rfl, hS1.below, ?_⟩
  have hS2 := hS.call hS1
  refine ge_batch [1] (ans := []) (vs := [(16, .bool (!r1))]) (l := []) (by kernel_rfl) trivial ?_
  refine ge_nil fun a hF => hK3 _ _ ?_ a hF
  by_cases hc1 : r1 = true
  · rw [if_pos hc1] at h
    refine we_known (t := 16) (b := !r1) (v := false) (by kernel_rfl) (congrArg (fun z => !z) hc1) ?_
    refine we_false (by kernel_rfl) ?_
    refine we_skip fun a hF => hK2 _ _ ?_ a hF
    refine we_seq fun K4 hK4 => ?_
    rcases hq3 : NetKeeps.p0 l0 l1 with _ | (_ | rr4)
    · rw [hq3] at h; cases h
    · rw [hq3] at h
      simp only [] at h
      refine we_keep (e' := [(0, .slice A0 l0.length c0), (1, .slice A1 l1.length c1), (2, .slice A2 l2.length c2), (6, .bool false), (15, .bool r1), (16, .bool false)]) ⟨by kernel_rfl, by kernel_rfl, by kernel_rfl, by kernel_rfl, by kernel_rfl, by kernel_rfl, trivial⟩ (NetKeeps_p0 K w0 l0 A0 c0 l1 A1 c1 l2 A2 c2 hR0 hL0 hR1 hL1 hR2 hL2 r1 hc1 _ hq3 _ hS2 _ ?_)
      rintro _ a w3 ⟨rfl, hS5, hF⟩
      replace hS5 : St w0 w3 [] := hS5
      refine hK4 [(0, .slice A0 l0.length c0), (1, .slice A1 l1.length c1), (2, .slice A2 l2.length c2)] w3 ?_ a hF
      refine we_seq fun K8 hK8 => ?_
      refine we_region [(0, 0), (1, 1), (2, 0), (3, 0), (4, 0), (5, 1), (6, 0), (7, 2)] rfl ?_
      rcases hq4 : net_Times.f K l0 with _ | r2
      · rw [hq4] at h; cases h
      rw [hq4] at h
      simp only [] at h
      refine ge_batch [0] (ans := []) (vs := [(27, .slice A0 l0.length c0)]) (l := []) (by kernel_rfl) trivial ?_
      refine ge_call (d := some 28) (f := 14) (args := #[.slice A0 l0.length c0]) (by kernel_rfl) (net_Times_ok K l0 A0 c0 _ (hS5.rd hR0) hL0 _ hq4) ?_
      rintro _ w4 ⟨v1, rfl, hS6⟩
      refine ⟨_, rfl, hS6.below, ?_⟩
      have hS7 := hS5.call hS6
      refine ge_batch [2, 3, 4] (ans := []) (vs := [(30, .agg #[.int .i64 r2.2.Code, .int .i64 r2.2.At]), (29, v1), (26, .tuple #[v1, .agg #[.int .i64 r2.2.Code, .int .i64 r2.2.At]])]) (l := []) (by kernel_rfl) trivial ?_
      refine ge_new (d := some 8) (o := .cells #[.int .i64 0, .int .i64 0] 29) (v := fun b => .pointer (some ⟨b, 0, none⟩)) hS7 (fun b => by kernel_rfl) fun b1 w5 hx1 hS8 => ?_
      refine ge_batch [6] (ans := []) (vs := [(7, v1)]) (l := []) (by kernel_rfl) trivial ?_
      refine ge_set (b := b1) (j := 0) (cs := #[.int .i64 0, .int .i64 0]) (t := 29) (vs := [.int .i64 r2.2.Code, .int .i64 r2.2.At]) hS8 (by kernel_rfl) rfl rfl fun w6 hS9 => ?_
      have hS10 : St w0 w6 [Own.blk b1 (.cells #[.int .i64 r2.2.Code, .int .i64 r2.2.At] 29 (0, 0)), Own.of v1 3 r2.1] := hS9
      refine ge_nil fun a hF => hK8 _ _ ?_ a hF
      refine we_seq fun K9 hK9 => ?_
      refine we_seq fun K10 hK10 => ?_
      refine we_region [(0, 0), (1, 0), (2, 0)] rfl ?_
      refine ge_batch [0, 1, 2] (ans := [.val (.int .i64 r2.2.Code)]) (vs := [(33, .bool (r2.2.Code != 0)), (32, .int .i64 r2.2.Code), (31, .pointer (some ⟨b1, 0, none⟩))]) (l := [.loaded ⟨b1, 0, none⟩ (.int .i64 r2.2.Code)]) (by kernel_rfl) ⟨hS10.cell 0 rfl rfl, trivial⟩ ?_
      refine ge_nil fun a hF => hK10 _ _ ?_ a hF
      by_cases hc4 : r2.2.Code = 0
      · rw [if_pos hc4] at h
        refine we_known (t := 33) (b := (r2.2.Code != 0)) (v := false) (by kernel_rfl) (bne_eq_false_iff_eq.2 hc4) ?_
        refine we_false (by kernel_rfl) ?_
        refine we_skip fun a hF => hK9 _ _ ?_ a hF
        refine we_seq fun K11 hK11 => ?_
        refine we_region [(0, 0)] rfl ?_
        refine ge_batch [0] (ans := []) (vs := [(9, .int .i64 0)]) (l := []) (by kernel_rfl) trivial ?_
        refine ge_nil fun a hF => hK11 _ _ ?_ a hF
        refine we_seq fun K12 hK12 => ?_
        refine we_seq fun K13 hK13 => ?_
        refine we_region [(0, 0), (1, 0), (2, 0)] rfl ?_
        refine ge_batch [0, 1, 2] (ans := []) (vs := [(39, .int .i64 0), (38, .int .i64 (l1.length : Int)), (37, .slice A1 l1.length c1)]) (l := []) (by kernel_rfl) trivial ?_
        refine ge_nil fun a hF => hK13 _ _ ?_ a hF
        refine we_block ?_
        obtain ⟨Z1, cz1, rfl⟩ := hS10.open 1 rfl
        have hS11 := hS10.bring 1 rfl
        have hS12 := hS11.bring 1 rfl
        rcases hq7 : iter (NetKeeps.r1 K l0 l1 r2) K (0, 0) with _ | (z3 | rr3)
        · rw [hq7] at h; cases h
        · rw [hq7] at h
          simp only [] at h
          refine we_iter (A := NetKeeps.A1 K w0 l0 A0 c0 l1 A1 c1 l2 A2 c2 hR0 hL0 hR1 hL1 hR2 hL2 r1 hc1 r2 b1 hc4 Z1 cz1) (B := NetKeeps.B1 K w0 l0 A0 c0 l1 A1 c1 l2 A2 c2 hR0 hL0 hR1 hL1 hR2 hL2 r1 hc1 r2 b1 hc4 Z1 cz1) hq7 (fun a hF => ⟨hS12, hF.weaken ⟨by kernel_rfl, by kernel_rfl, by kernel_rfl, by kernel_rfl, by kernel_rfl, by kernel_rfl, by kernel_rfl, by kernel_rfl, by kernel_rfl, trivial⟩⟩) (fun s o hf a w hA Q hQ => NetKeeps_r1 K w0 l0 A0 c0 l1 A1 c1 l2 A2 c2 hR0 hL0 hR1 hL1 hR2 hL2 r1 hc1 r2 b1 hc4 Z1 cz1 s o hf a w hA Q hQ) ?_
          rintro _ a w13 _ ⟨rfl, hS53, hF⟩
          replace hS53 : St w0 w13 [Own.blk b1 (.cells #[.int .i64 r2.2.Code, .int .i64 r2.2.At] 29 (0, 0)), Own.of (.slice Z1 r2.1.length cz1) 3 r2.1] := hS53
          refine hK12 [(0, .slice A0 l0.length c0), (1, .slice A1 l1.length c1), (2, .slice A2 l2.length c2), (7, (.slice Z1 r2.1.length cz1)), (8, .pointer (some ⟨b1, 0, none⟩)), (9, .int .i64 z3)] w13 ?_ a hF
          refine we_seq fun K31 hK31 => ?_
          refine we_seq fun K32 hK32 => ?_
          refine we_region [(0, 0), (1, 0)] rfl ?_
          refine ge_batch [0, 1] (ans := []) (vs := [(109, .bool (decide (z3 > 3000))), (108, .int .i64 z3)]) (l := []) (by kernel_rfl) trivial ?_
          refine ge_nil fun a hF => hK32 _ _ ?_ a hF
          by_cases hc17 : z3 > 3000
          · rw [if_pos hc17] at h
            refine we_known (t := 109) (b := decide (z3 > 3000)) (v := true) (by kernel_rfl) (decide_eq_true hc17) ?_
            refine we_true (by kernel_rfl) ?_
            refine we_seq fun K33 hK33 => ?_
            refine we_region [(0, 0)] rfl ?_
            refine ge_batch [0] (ans := []) (vs := [(6, .bool true)]) (l := []) (by kernel_rfl) trivial ?_
            refine ge_nil fun a hF => hK33 _ _ ?_ a hF
            have hS54 := hS53.takeN 0
            obtain rfl := Option.some.inj h
            exact we_ret (post_ret (rs := [.tmp 6]) (ans := []) (vs := [.bool true]) (l := []) rfl (by kernel_rfl) trivial ⟨rfl, hS54⟩)
          · rw [if_neg hc17] at h
            refine we_known (t := 109) (b := decide (z3 > 3000)) (v := false) (by kernel_rfl) (decide_eq_false hc17) ?_
            refine we_false (by kernel_rfl) ?_
            refine we_skip fun a hF => hK31 _ _ ?_ a hF
            refine we_seq fun K34 hK34 => ?_
            refine we_region [(0, 0), (1, 0), (2, 0), (3, 0), (4, 1), (5, 0), (6, 0), (7, 0), (8, 1), (9, 2), (10, 2)] rfl ?_
            rcases hq8 : net_Send.f K l0 l1 l2 z3 with _ | r3
            · rw [hq8] at h; cases h
            rw [hq8] at h
            simp only [] at h
            refine ge_batch [0, 1, 2, 3] (ans := []) (vs := [(114, .int .i64 z3), (113, .slice A2 l2.length c2), (112, .slice A1 l1.length c1), (111, .slice A0 l0.length c0)]) (l := []) (by kernel_rfl) trivial ?_
            refine ge_call (d := some 115) (f := 15) (args := #[.slice A0 l0.length c0, .slice A1 l1.length c1, .slice A2 l2.length c2, .int .i64 z3]) (by kernel_rfl) (net_Send_ok K l0 A0 c0 l1 A1 c1 l2 A2 c2 z3 _ (hS53.rd hR0) hL0 (hS53.rd hR1) hL1 (hS53.rd hR2) hL2 _ hq8) ?_
            rintro _ w14 ⟨v2, v3, rfl, hS55⟩
            refine ⟨_, rfl, hS55.below, ?_⟩
            have hS56 := hS53.call hS55
            refine ge_batch [5, 6, 7] (ans := []) (vs := [(117, .agg #[.int .i64 r3.2.Code, .int .i64 r3.2.At]), (116, .agg #[v2, v3]), (110, .tuple #[.agg #[v2, v3], .agg #[.int .i64 r3.2.Code, .int .i64 r3.2.At]])]) (l := []) (by kernel_rfl) trivial ?_
            refine ge_new (d := some 14) (o := .cells #[.slice none 0 0, .slice none 0 0] 37) (v := fun b => .pointer (some ⟨b, 0, none⟩)) hS56 (fun b => by kernel_rfl) fun b4 w15 hx9 hS57 => ?_
            obtain ⟨Z2, cz2, rfl⟩ := hS57.open 1 rfl
            obtain ⟨Z3, cz3, rfl⟩ := hS57.open 2 rfl
            refine ge_set (b := b4) (j := 0) (cs := #[.slice none 0 0, .slice none 0 0]) (t := 37) (vs := [(.slice Z2 r3.1.Runs.length cz2), (.slice Z3 r3.1.Ends.length cz3)]) hS57 (by kernel_rfl) rfl rfl fun w16 hS58 => ?_
            have hS59 : St w0 w16 [Own.blk b4 (.cells #[(.slice Z2 r3.1.Runs.length cz2), (.slice Z3 r3.1.Ends.length cz3)] 37 (0, 0)), Own.of (.slice Z2 r3.1.Runs.length cz2) 3 r3.1.Runs, Own.of (.slice Z3 r3.1.Ends.length cz3) 3 r3.1.Ends, Own.blk b1 (.cells #[.int .i64 r2.2.Code, .int .i64 r2.2.At] 29 (0, 0)), Own.of (.slice Z1 r2.1.length cz1) 3 r2.1] := hS58
            have hS60 := hS59.bring 3 rfl
            refine ge_set (b := b1) (j := 0) (cs := #[.int .i64 r2.2.Code, .int .i64 r2.2.At]) (t := 29) (vs := [.int .i64 r3.2.Code, .int .i64 r3.2.At]) hS60 (by kernel_rfl) rfl rfl fun w17 hS61 => ?_
            have hS62 : St w0 w17 [Own.blk b1 (.cells #[.int .i64 r3.2.Code, .int .i64 r3.2.At] 29 (0, 0)), Own.blk b4 (.cells #[(.slice Z2 r3.1.Runs.length cz2), (.slice Z3 r3.1.Ends.length cz3)] 37 (0, 0)), Own.of (.slice Z2 r3.1.Runs.length cz2) 3 r3.1.Runs, Own.of (.slice Z3 r3.1.Ends.length cz3) 3 r3.1.Ends, Own.of (.slice Z1 r2.1.length cz1) 3 r2.1] := hS61
            refine ge_nil fun a hF => hK34 _ _ ?_ a hF
            refine we_seq fun K35 hK35 => ?_
            refine we_seq fun K36 hK36 => ?_
            refine we_region [(0, 0), (1, 0), (2, 0)] rfl ?_
            refine ge_batch [0, 1, 2] (ans := [.val (.int .i64 r3.2.Code)]) (vs := [(120, .bool (r3.2.Code != 0)), (119, .int .i64 r3.2.Code), (118, .pointer (some ⟨b1, 0, none⟩))]) (l := [.loaded ⟨b1, 0, none⟩ (.int .i64 r3.2.Code)]) (by kernel_rfl) ⟨hS62.cell 0 rfl rfl, trivial⟩ ?_
            refine ge_nil fun a hF => hK36 _ _ ?_ a hF
            by_cases hc18 : r3.2.Code = 0
            · rw [if_pos hc18] at h
              refine we_known (t := 120) (b := (r3.2.Code != 0)) (v := false) (by kernel_rfl) (bne_eq_false_iff_eq.2 hc18) ?_
              refine we_false (by kernel_rfl) ?_
              refine we_skip fun a hF => hK35 _ _ ?_ a hF
              refine we_seq fun K37 hK37 => ?_
              refine we_region [(0, 0), (1, 0), (2, 0), (3, 0), (4, 1), (5, 0)] rfl ?_
              rcases hq9 : soon.f K l1 r3.1.Ends r2.1 with _ | r4
              · rw [hq9] at h; cases h
              rw [hq9] at h
              simp only [] at h
              refine ge_batch [0, 1, 2, 3] (ans := [.val ((.slice Z3 r3.1.Ends.length cz3))]) (vs := [(132, (.slice Z1 r2.1.length cz1)), (131, (.slice Z3 r3.1.Ends.length cz3)), (130, .pointer (some ⟨b4, 1, none⟩)), (129, .slice A1 l1.length c1)]) (l := [.loaded ⟨b4, 1, none⟩ ((.slice Z3 r3.1.Ends.length cz3))]) (by kernel_rfl) ⟨hS62.cell 1 rfl rfl, trivial⟩ ?_
              refine ge_call (d := some 133) (f := 16) (args := #[.slice A1 l1.length c1, (.slice Z3 r3.1.Ends.length cz3), (.slice Z1 r2.1.length cz1)]) (by kernel_rfl) (soon_ok K l1 A1 c1 r3.1.Ends Z3 cz3 r2.1 Z1 cz1 _ (hS62.rd hR1) hL1 (hS62.rdAt 3 rfl) (hS62.capAt 3 rfl) (hS62.rdAt 4 rfl) (hS62.capAt 4 rfl) _ hq9) ?_
              rintro _ w18 ⟨rfl, hS63⟩
              refine ⟨_, rfl, hS63.below, ?_⟩
              have hS64 := hS62.call hS63
              refine ge_batch [5] (ans := []) (vs := [(6, .bool r4)]) (l := []) (by kernel_rfl) trivial ?_
              refine ge_nil fun a hF => hK37 _ _ ?_ a hF
              have hS65 := hS64.takeN 0
              obtain rfl := Option.some.inj h
              exact we_ret (post_ret (rs := [.tmp 6]) (ans := []) (vs := [.bool r4]) (l := []) rfl (by kernel_rfl) trivial ⟨rfl, hS65⟩)
            · rw [if_neg hc18] at h
              refine we_known (t := 120) (b := (r3.2.Code != 0)) (v := true) (by kernel_rfl) (bne_iff_ne.2 hc18) ?_
              refine we_true (by kernel_rfl) ?_
              refine we_seq fun K38 hK38 => ?_
              refine we_region [(0, 0), (1, 0), (2, 0), (3, 0), (4, 0), (5, 0), (6, 0), (7, 0), (8, 0)] rfl ?_
              refine ge_batch [0, 1, 2, 3] (ans := [.val (.int .i64 r3.2.Code)]) (vs := [(124, .bool (r3.2.Code == 2)), (123, .bool (r3.2.Code == 2)), (122, .int .i64 r3.2.Code), (121, .pointer (some ⟨b1, 0, none⟩))]) (l := [.loaded ⟨b1, 0, none⟩ (.int .i64 r3.2.Code)]) (by kernel_rfl) ⟨hS62.cell 0 rfl rfl, trivial⟩ ?_
              by_cases hc19 : r3.2.Code = 2
              · rw [if_pos hc19] at h
                refine ge_known (t := 124) (b := (r3.2.Code == 2)) (c := true) (by kernel_rfl) (beq_iff_eq.2 hc19) ?_
                refine ge_batch [4, 5, 6, 7, 8] (ans := []) (vs := [(6, .bool true), (128, .bool true), (127, undef), (126, undef), (125, undef)]) (l := []) (by kernel_rfl) trivial ?_
                refine ge_nil fun a hF => hK38 _ _ ?_ a hF
                have hS66 := hS62.takeN 0
                obtain rfl := Option.some.inj h
                exact we_ret (post_ret (rs := [.tmp 6]) (ans := []) (vs := [.bool true]) (l := []) rfl (by kernel_rfl) trivial ⟨rfl, hS66⟩)
              · rw [if_neg hc19] at h
                refine ge_known (t := 124) (b := (r3.2.Code == 2)) (c := false) (by kernel_rfl) (beq_eq_false_iff_ne.2 hc19) ?_
                refine ge_batch [4, 5, 6, 7, 8] (ans := [.val (.int .i64 r3.2.Code)]) (vs := [(6, .bool (r3.2.Code == 3)), (128, .bool (r3.2.Code == 3)), (127, .bool (r3.2.Code == 3)), (126, .int .i64 r3.2.Code), (125, .pointer (some ⟨b1, 0, none⟩))]) (l := [.loaded ⟨b1, 0, none⟩ (.int .i64 r3.2.Code)]) (by kernel_rfl) ⟨hS62.cell 0 rfl rfl, trivial⟩ ?_
                refine ge_nil fun a hF => hK38 _ _ ?_ a hF
                have hS67 := hS62.takeN 0
                obtain rfl := Option.some.inj h
                exact we_ret (post_ret (rs := [.tmp 6]) (ans := []) (vs := [.bool (r3.2.Code == 3)]) (l := []) rfl (by kernel_rfl) trivial ⟨rfl, hS67⟩)
        · rw [hq7] at h
          simp only [] at h
          refine we_iter (A := NetKeeps.A1 K w0 l0 A0 c0 l1 A1 c1 l2 A2 c2 hR0 hL0 hR1 hL1 hR2 hL2 r1 hc1 r2 b1 hc4 Z1 cz1) (B := NetKeeps.B1 K w0 l0 A0 c0 l1 A1 c1 l2 A2 c2 hR0 hL0 hR1 hL1 hR2 hL2 r1 hc1 r2 b1 hc4 Z1 cz1) hq7 (fun a hF => ⟨hS12, hF.weaken ⟨by kernel_rfl, by kernel_rfl, by kernel_rfl, by kernel_rfl, by kernel_rfl, by kernel_rfl, by kernel_rfl, by kernel_rfl, by kernel_rfl, trivial⟩⟩) (fun s o hf a w hA Q hQ => NetKeeps_r1 K w0 l0 A0 c0 l1 A1 c1 l2 A2 c2 hR0 hL0 hR1 hL1 hR2 hL2 r1 hc1 r2 b1 hc4 Z1 cz1 s o hf a w hA Q hQ) ?_
          rintro _ a w1 _ ⟨rfl, hb⟩
          obtain rfl := Option.some.inj h
          exact hb
      · rw [if_neg hc4] at h
        refine we_known (t := 33) (b := (r2.2.Code != 0)) (v := true) (by kernel_rfl) (bne_iff_ne.2 hc4) ?_
        refine we_true (by kernel_rfl) ?_
        refine we_seq fun K39 hK39 => ?_
        refine we_region [(0, 0), (1, 0), (2, 0), (3, 0)] rfl ?_
        refine ge_batch [0] (ans := []) (vs := [(34, v1)]) (l := []) (by kernel_rfl) trivial ?_
        obtain ⟨Z4, cz4, rfl⟩ := hS10.open 1 rfl
        refine ge_batch [1, 2, 3] (ans := []) (vs := [(6, .bool ((r2.1.length : Int) == 0)), (36, .bool ((r2.1.length : Int) == 0)), (35, .int .i64 (r2.1.length : Int))]) (l := []) (by kernel_rfl) trivial ?_
        refine ge_nil fun a hF => hK39 _ _ ?_ a hF
        have hS68 := hS10.takeN 0
        obtain rfl := Option.some.inj h
        exact we_ret (post_ret (rs := [.tmp 6]) (ans := []) (vs := [.bool ((r2.1.length : Int) == 0)]) (l := []) rfl (by kernel_rfl) trivial ⟨rfl, hS68⟩)
    · rw [hq3] at h
      simp only [] at h
      refine we_keep (e' := [(0, .slice A0 l0.length c0), (1, .slice A1 l1.length c1), (2, .slice A2 l2.length c2), (6, .bool false), (15, .bool r1), (16, .bool false)]) ⟨by kernel_rfl, by kernel_rfl, by kernel_rfl, by kernel_rfl, by kernel_rfl, by kernel_rfl, trivial⟩ (NetKeeps_p0 K w0 l0 A0 c0 l1 A1 c1 l2 A2 c2 hR0 hL0 hR1 hL1 hR2 hL2 r1 hc1 _ hq3 _ hS2 _ ?_)
      rintro _ a w1 ⟨_, rfl, hb⟩
      obtain rfl := Option.some.inj h
      exact hb
  · rw [if_neg hc1] at h
    refine we_known (t := 16) (b := !r1) (v := true) (by kernel_rfl) (congrArg (fun z => !z) (Bool.eq_false_iff.2 hc1)) ?_
    refine we_true (by kernel_rfl) ?_
    refine we_seq fun K40 hK40 => ?_
    refine we_region [(0, 0)] rfl ?_
    refine ge_batch [0] (ans := []) (vs := [(6, .bool false)]) (l := []) (by kernel_rfl) trivial ?_
    refine ge_nil fun a hF => hK40 _ _ ?_ a hF
    obtain rfl := Option.some.inj h
    exact we_ret (post_ret (rs := [.tmp 6]) (ans := []) (vs := [.bool false]) (l := []) rfl (by kernel_rfl) trivial ⟨rfl, hS2⟩)
end Go.Proofs.Ytccfilmiboepjaa.GV
