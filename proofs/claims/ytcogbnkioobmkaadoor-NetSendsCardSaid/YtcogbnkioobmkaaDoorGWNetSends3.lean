/- Walks of single functions, written by a program of this work. -/
import Derived.Test.YtcogbnkioobmkaaDoorGWNetSends2
namespace Go.Proofs.YtcogbnkioobmkaaDoor.GV
open Go Go.RowKit
set_option linter.unusedVariables false
set_option linter.unusedSimpArgs false
set_option maxRecDepth 100000

/-! punctual/net.Send -/
abbrev net_Send.Post (w0 : World) (r : SPlayed × SFault) (e : Ending) (w : World) : Prop := ∃ (v0 : Value) (v1 : Value), e = .returned (.tuple #[.agg #[v0, v1], .agg #[.int .i64 r.2.Code, .int .i64 r.2.At]]) ∧ St w0 w [Own.of v0 3 r.1.Runs, Own.of v1 3 r.1.Ends]
def net_Send.p0 (l1 : List SCome) (l2 : List Int) : Option (Unit ⊕ (SPlayed × SFault)) :=
    if (l1.length : Int) > 4000 then
      some (.inr ((⟨([] : List Int), ([] : List Int)⟩ : SPlayed), (⟨2, 0⟩ : SFault)))
    else
      if (l2.length : Int) = (l1.length : Int) then
        some (.inl ())
      else
        some (.inr ((⟨([] : List Int), ([] : List Int)⟩ : SPlayed), (⟨2, 0⟩ : SFault)))
def net_Send.p2 (l0 : List SFrame) (i1 : Nat) (e1 : SCome) : Option (Unit ⊕ (SPlayed × SFault)) :=
    if e1.Task < 0 then
      some (.inr ((⟨([] : List Int), ([] : List Int)⟩ : SPlayed), (⟨4, (i1 : Int)⟩ : SFault)))
    else
      if e1.Task ≥ (l0.length : Int) then
        some (.inr ((⟨([] : List Int), ([] : List Int)⟩ : SPlayed), (⟨4, (i1 : Int)⟩ : SFault)))
      else
        some (.inl ())
def net_Send.p3 (l2 : List Int) (i1 : Nat) (e1 : SCome) (e2 : SFrame) : Option (Unit ⊕ (SPlayed × SFault)) :=
    if e1.At < 0 then
      some (.inr ((⟨([] : List Int), ([] : List Int)⟩ : SPlayed), (⟨3, (i1 : Int)⟩ : SFault)))
    else
      if e1.At > 20000 then
        some (.inr ((⟨([] : List Int), ([] : List Int)⟩ : SPlayed), (⟨3, (i1 : Int)⟩ : SFault)))
      else
        match l2[i1]? with
        | none => none
        | some e3 =>
          if e3 < 0 then
            some (.inr ((⟨([] : List Int), ([] : List Int)⟩ : SPlayed), (⟨3, (i1 : Int)⟩ : SFault)))
          else
            if e3 > e2.J then
              some (.inr ((⟨([] : List Int), ([] : List Int)⟩ : SPlayed), (⟨3, (i1 : Int)⟩ : SFault)))
            else
              some (.inl ())
def net_Send.r1 (l0 : List SFrame) (l1 : List SCome) (l2 : List Int) : (List SJob) × Nat → Option (((List SJob) × Nat) ⊕ ((List SJob) ⊕ (SPlayed × SFault)))
  | (m1, i1) =>
    if (i1 : Int) < (l1.length : Int) then
      match l1[i1]? with
      | none => none
      | some e1 =>
        match net_Send.p2 l0 i1 e1 with
        | none => none
        | some (.inl _) =>
          if 0 ≤ e1.Task then
            match l0[(e1.Task).toNat]? with
            | none => none
            | some e2 =>
              match net_Send.p3 l2 i1 e1 e2 with
              | none => none
              | some (.inl _) =>
                match l2[i1]? with
                | none => none
                | some e4 =>
                  if m1.length < 3518437208883 then
                    some (.inl ((m1 ++ [(⟨e1.Task, IntKind.i64.wrap (e1.At + e4), e2.C, IntKind.i64.wrap (e1.At + e2.D), IntKind.i64.wrap ((l0.length : Int) - e1.Task)⟩ : SJob)]), (i1 + 1)))
                  else
                    none
              | some (.inr rr1) =>
                some (.inr (.inr rr1))
          else
            none
        | some (.inr rr2) =>
          some (.inr (.inr rr2))
    else
      some (.inr (.inl m1))
def net_Send.p4 (r1 : SFault) : Option ((Int × Int × (List Int) × (List Int)) ⊕ (SPlayed × SFault)) :=
    some (.inl (r1.Code, r1.At, ([] : List Int), ([] : List Int)))
def net_Send.f (K : Nat) (l0 : List SFrame) (l1 : List SCome) (l2 : List Int) (x3 : Int) : Option (SPlayed × SFault) :=
  match net_Check.f K l0 with
  | none => none
  | some r1 =>
    if r1.Code = 0 then
      match net_Send.p0 l1 l2 with
      | none => none
      | some (.inl _) =>
        match iter (net_Send.r1 l0 l1 l2) K (([] : List SJob), 0) with
        | none => none
        | some (.inl m3) =>
          match sched_Play.f K m3 1 false x3 with
          | none => none
          | some r2 =>
            some (r2.1, r2.2)
        | some (.inr rr3) =>
          some rr3
      | some (.inr rr4) =>
        some rr4
    else
      match net_Send.p4 r1 with
      | none => none
      | some (.inl (z3, z4, m6, m7)) =>
        some ((⟨m6, m7⟩ : SPlayed), (⟨z3, z4⟩ : SFault))
      | some (.inr rr5) =>
        some rr5
abbrev net_Send.A0 (K : Nat) (w0 : World) (l0 : List SFrame) (A0 : Option Addr) (c0 : Nat) (l1 : List SCome) (A1 : Option Addr) (c1 : Nat) (l2 : List Int) (A2 : Option Addr) (c2 : Nat) (x3 : Int) (hR0 : RdL w0 A0 l0) (hL0 : l0.length ≤ c0) (hR1 : RdL w0 A1 l1) (hL1 : l1.length ≤ c1) (hR2 : RdL w0 A2 l2) (hL2 : l2.length ≤ c2) (b1 : Nat) (b2 : Nat) (r1 : SFault) (b3 : Nat) (hc1 : r1.Code = 0) : Unit → Act → World → Prop := fun (s : Unit) a w => St w0 w [Own.blk b2 (.cells #[.int .i64 0, .int .i64 0] 39 (0, 0)), Own.blk b1 (.cells #[.slice none 0 0, .slice none 0 0] 36 (0, 0))] ∧ Frm 117 a [(0, .slice A0 l0.length c0), (1, .slice A1 l1.length c1), (2, .slice A2 l2.length c2), (3, .int .i64 x3), (8, .pointer (some ⟨b1, 0, none⟩)), (9, .pointer (some ⟨b2, 0, none⟩))]
abbrev net_Send.B0 (K : Nat) (w0 : World) (l0 : List SFrame) (A0 : Option Addr) (c0 : Nat) (l1 : List SCome) (A1 : Option Addr) (c1 : Nat) (l2 : List Int) (A2 : Option Addr) (c2 : Nat) (x3 : Int) (hR0 : RdL w0 A0 l0) (hL0 : l0.length ≤ c0) (hR1 : RdL w0 A1 l1) (hL1 : l1.length ≤ c1) (hR2 : RdL w0 A2 l2) (hL2 : l2.length ≤ c2) (b1 : Nat) (b2 : Nat) (r1 : SFault) (b3 : Nat) (hc1 : r1.Code = 0) : (SPlayed × SFault) → Exit → Act → World → Prop := Rets Tryd.prog Tryd.f16 (net_Send.Post w0)
theorem net_Send_p0 (K : Nat) (w0 : World) (l0 : List SFrame) (A0 : Option Addr) (c0 : Nat) (l1 : List SCome) (A1 : Option Addr) (c1 : Nat) (l2 : List Int) (A2 : Option Addr) (c2 : Nat) (x3 : Int) (hR0 : RdL w0 A0 l0) (hL0 : l0.length ≤ c0) (hR1 : RdL w0 A1 l1) (hL1 : l1.length ≤ c1) (hR2 : RdL w0 A2 l2) (hL2 : l2.length ≤ c2) (b1 : Nat) (b2 : Nat) (r1 : SFault) (b3 : Nat) (hc1 : r1.Code = 0) (o : Unit ⊕ (SPlayed × SFault)) (h : net_Send.p0 l1 l2 = some o) (w : World) (hS : St w0 w [Own.blk b3 (.cells #[.int .i64 r1.Code, .int .i64 r1.At] 39 (0, 0)), Own.blk b2 (.cells #[.int .i64 0, .int .i64 0] 39 (0, 0)), Own.blk b1 (.cells #[.slice none 0 0, .slice none 0 0] 36 (0, 0))]) (Q : Exit → Act → World → Prop) (hQ : ∀ x a w, Outs (net_Send.A0 K w0 l0 A0 c0 l1 A1 c1 l2 A2 c2 x3 hR0 hL0 hR1 hL1 hR2 hL2 b1 b2 r1 b3 hc1) (net_Send.B0 K w0 l0 A0 c0 l1 A1 c1 l2 A2 c2 x3 hR0 hL0 hR1 hL1 hR2 hL2 b1 b2 r1 b3 hc1) o x a w → Q x a w) : WE Tryd.prog 117 (subF Tryd.f16 [1, 1, 0]) Q [(0, .slice A0 l0.length c0), (1, .slice A1 l1.length c1), (2, .slice A2 l2.length c2), (3, .int .i64 x3), (8, .pointer (some ⟨b1, 0, none⟩)), (9, .pointer (some ⟨b2, 0, none⟩)), (10, .pointer (some ⟨b3, 0, none⟩)), (15, .slice A0 l0.length c0), (16, .agg #[.int .i64 r1.Code, .int .i64 r1.At]), (17, .pointer (some ⟨b3, 0, none⟩)), (18, .int .i64 r1.Code), (19, .bool false)] w := by
  simp only [net_Send.p0] at h
  refine we_seq fun K6 hK6 => ?_
  refine we_region [(0, 0), (1, 0), (2, 0), (3, 0), (4, 0), (5, 0), (6, 0), (7, 0), (8, 0), (9, 0)] rfl ?_
  refine ge_batch [0, 1, 2, 3] (ans := []) (vs := [(25, .bool (decide ((l1.length : Int) > 4000))), (24, .bool (decide ((l1.length : Int) > 4000))), (23, .int .i64 (l1.length : Int)), (22, .slice A1 l1.length c1)]) (l := []) (by kernel_rfl) trivial ?_
  by_cases hc2 : (l1.length : Int) > 4000
  · rw [if_pos hc2] at h
    refine ge_known (t := 25) (b := decide ((l1.length : Int) > 4000)) (c := true) (by kernel_rfl) (decide_eq_true hc2) ?_
    refine ge_batch [4, 5, 6, 7, 8, 9] (ans := []) (vs := [(31, .bool true), (30, undef), (29, undef), (28, undef), (27, undef), (26, undef)]) (l := []) (by kernel_rfl) trivial ?_
    refine ge_nil fun a hF => hK6 _ _ ?_ a hF
    refine we_true (by kernel_rfl) ?_
    refine we_seq fun K7 hK7 => ?_
    refine we_region [(0, 0), (1, 0), (2, 2), (3, 2)] rfl ?_
    refine ge_batch [0, 1] (ans := []) (vs := [(33, .agg #[.int .i64 2, .int .i64 0]), (32, .agg #[.slice none 0 0, .slice none 0 0])]) (l := []) (by kernel_rfl) trivial ?_
    have hS8 := hS.bring 2 rfl
    refine ge_set (b := b1) (j := 0) (cs := #[.slice none 0 0, .slice none 0 0]) (t := 36) (vs := [.slice none 0 0, .slice none 0 0]) hS8 (by kernel_rfl) rfl rfl fun w6 hS9 => ?_
    have hS10 : St w0 w6 [Own.blk b1 (.cells #[.slice none 0 0, .slice none 0 0] 36 (0, 0)), Own.blk b3 (.cells #[.int .i64 r1.Code, .int .i64 r1.At] 39 (0, 0)), Own.blk b2 (.cells #[.int .i64 0, .int .i64 0] 39 (0, 0))] := hS9
    have hS11 := hS10.bring 2 rfl
    refine ge_set (b := b2) (j := 0) (cs := #[.int .i64 0, .int .i64 0]) (t := 39) (vs := [.int .i64 2, .int .i64 0]) hS11 (by kernel_rfl) rfl rfl fun w7 hS12 => ?_
    have hS13 : St w0 w7 [Own.blk b2 (.cells #[.int .i64 2, .int .i64 0] 39 (0, 0)), Own.blk b1 (.cells #[.slice none 0 0, .slice none 0 0] 36 (0, 0)), Own.blk b3 (.cells #[.int .i64 r1.Code, .int .i64 r1.At] 39 (0, 0))] := hS12
    refine ge_nil fun a hF => hK7 _ _ ?_ a hF
    have hS14 := hS13.nil (α := Int) 3
    have hS15 := hS14.nil (α := Int) 3
    have hS16 := hS15.bring 1 rfl
    have hS17 := hS16.bring 1 rfl
    have hS18 := hS17.takeN 2
    obtain rfl := Option.some.inj h
    exact we_ret fun a hF => hQ _ _ _ (Outs.out nofun ⟨rfl, (post_ret (rs := [.cell 8 36, .cell 9 39]) (ans := [.val ((.slice none 0 0)), .val ((.slice none 0 0)), .val (.int .i64 2), .val (.int .i64 0)]) (vs := [.agg #[(.slice none 0 0), (.slice none 0 0)], .agg #[.int .i64 2, .int .i64 0]]) (l := [.loaded ⟨b1, 0, none⟩ ((.slice none 0 0)), .loaded ⟨b1, 1, none⟩ ((.slice none 0 0)), .loaded ⟨b2, 0, none⟩ (.int .i64 2), .loaded ⟨b2, 1, none⟩ (.int .i64 0)]) rfl (by kernel_rfl) ⟨hS15.cell 3 rfl rfl, hS15.cell 3 rfl rfl, hS15.cell 2 rfl rfl, hS15.cell 2 rfl rfl, trivial⟩ ⟨(.slice none 0 0), (.slice none 0 0), rfl, hS18⟩) a hF⟩)
  · rw [if_neg hc2] at h
    refine ge_known (t := 25) (b := decide ((l1.length : Int) > 4000)) (c := false) (by kernel_rfl) (decide_eq_false hc2) ?_
    refine ge_batch [4, 5, 6, 7, 8, 9] (ans := []) (vs := [(31, .bool ((l2.length : Int) != (l1.length : Int))), (30, .bool ((l2.length : Int) != (l1.length : Int))), (29, .int .i64 (l1.length : Int)), (28, .slice A1 l1.length c1), (27, .int .i64 (l2.length : Int)), (26, .slice A2 l2.length c2)]) (l := []) (by kernel_rfl) trivial ?_
    refine ge_nil fun a hF => hK6 _ _ ?_ a hF
    by_cases hc3 : (l2.length : Int) = (l1.length : Int)
    · rw [if_pos hc3] at h
      refine we_known (t := 31) (b := ((l2.length : Int) != (l1.length : Int))) (v := false) (by kernel_rfl) (bne_eq_false_iff_eq.2 hc3) ?_
      refine we_false (by kernel_rfl) ?_
      have hS19 := hS.bring 2 rfl
      have hS20 := hS19.bring 2 rfl
      have hS21 := hS20.takeN 2
      obtain rfl := Option.some.inj h
      exact we_skip fun a hF => hQ _ _ _ (Outs.again ⟨hS21, hF.weaken ⟨by kernel_rfl, by kernel_rfl, by kernel_rfl, by kernel_rfl, by kernel_rfl, by kernel_rfl, trivial⟩⟩)
    · rw [if_neg hc3] at h
      refine we_known (t := 31) (b := ((l2.length : Int) != (l1.length : Int))) (v := true) (by kernel_rfl) (bne_iff_ne.2 hc3) ?_
      refine we_true (by kernel_rfl) ?_
      refine we_seq fun K8 hK8 => ?_
      refine we_region [(0, 0), (1, 0), (2, 2), (3, 2)] rfl ?_
      refine ge_batch [0, 1] (ans := []) (vs := [(33, .agg #[.int .i64 2, .int .i64 0]), (32, .agg #[.slice none 0 0, .slice none 0 0])]) (l := []) (by kernel_rfl) trivial ?_
      have hS22 := hS.bring 2 rfl
      refine ge_set (b := b1) (j := 0) (cs := #[.slice none 0 0, .slice none 0 0]) (t := 36) (vs := [.slice none 0 0, .slice none 0 0]) hS22 (by kernel_rfl) rfl rfl fun w8 hS23 => ?_
      have hS24 : St w0 w8 [Own.blk b1 (.cells #[.slice none 0 0, .slice none 0 0] 36 (0, 0)), Own.blk b3 (.cells #[.int .i64 r1.Code, .int .i64 r1.At] 39 (0, 0)), Own.blk b2 (.cells #[.int .i64 0, .int .i64 0] 39 (0, 0))] := hS23
      have hS25 := hS24.bring 2 rfl
      refine ge_set (b := b2) (j := 0) (cs := #[.int .i64 0, .int .i64 0]) (t := 39) (vs := [.int .i64 2, .int .i64 0]) hS25 (by kernel_rfl) rfl rfl fun w9 hS26 => ?_
      have hS27 : St w0 w9 [Own.blk b2 (.cells #[.int .i64 2, .int .i64 0] 39 (0, 0)), Own.blk b1 (.cells #[.slice none 0 0, .slice none 0 0] 36 (0, 0)), Own.blk b3 (.cells #[.int .i64 r1.Code, .int .i64 r1.At] 39 (0, 0))] := hS26
      refine ge_nil fun a hF => hK8 _ _ ?_ a hF
      have hS28 := hS27.nil (α := Int) 3
      have hS29 := hS28.nil (α := Int) 3
      have hS30 := hS29.bring 1 rfl
      have hS31 := hS30.bring 1 rfl
      have hS32 := hS31.takeN 2
      obtain rfl := Option.some.inj h
      exact we_ret fun a hF => hQ _ _ _ (Outs.out nofun ⟨rfl, (post_ret (rs := [.cell 8 36, .cell 9 39]) (ans := [.val ((.slice none 0 0)), .val ((.slice none 0 0)), .val (.int .i64 2), .val (.int .i64 0)]) (vs := [.agg #[(.slice none 0 0), (.slice none 0 0)], .agg #[.int .i64 2, .int .i64 0]]) (l := [.loaded ⟨b1, 0, none⟩ ((.slice none 0 0)), .loaded ⟨b1, 1, none⟩ ((.slice none 0 0)), .loaded ⟨b2, 0, none⟩ (.int .i64 2), .loaded ⟨b2, 1, none⟩ (.int .i64 0)]) rfl (by kernel_rfl) ⟨hS29.cell 3 rfl rfl, hS29.cell 3 rfl rfl, hS29.cell 2 rfl rfl, hS29.cell 2 rfl rfl, trivial⟩ ⟨(.slice none 0 0), (.slice none 0 0), rfl, hS32⟩) a hF⟩)
abbrev net_Send.A2 (K : Nat) (w0 : World) (l0 : List SFrame) (A0 : Option Addr) (c0 : Nat) (l1 : List SCome) (A1 : Option Addr) (c1 : Nat) (l2 : List Int) (A2 : Option Addr) (c2 : Nat) (x3 : Int) (hR0 : RdL w0 A0 l0) (hL0 : l0.length ≤ c0) (hR1 : RdL w0 A1 l1) (hL1 : l1.length ≤ c1) (hR2 : RdL w0 A2 l2) (hL2 : l2.length ≤ c2) (b1 : Nat) (b2 : Nat) (r1 : SFault) (b3 : Nat) (hc1 : r1.Code = 0) (m1 : List SJob) (i1 : Nat) (hc4 : (i1 : Int) < (l1.length : Int)) (e1 : SCome) (hx4 : l1[i1]? = some e1) (b4 : Nat) (Z1 : Option Addr) (cz1 : Nat) : Unit → Act → World → Prop := fun (s : Unit) a w => St w0 w [Own.blk b4 (.cells #[.int .i64 e1.Task, .int .i64 e1.At] 33 (0, 0)), Own.blk b2 (.cells #[.int .i64 0, .int .i64 0] 39 (0, 0)), Own.blk b1 (.cells #[.slice none 0 0, .slice none 0 0] 36 (0, 0)), Own.of (.slice Z1 m1.length cz1) 58 m1] ∧ Frm 117 a [(0, .slice A0 l0.length c0), (2, .slice A2 l2.length c2), (3, .int .i64 x3), (8, .pointer (some ⟨b1, 0, none⟩)), (9, .pointer (some ⟨b2, 0, none⟩)), (11, (.slice Z1 m1.length cz1)), (12, .int .i64 (i1 : Int)), (13, .pointer (some ⟨b4, 0, none⟩)), (34, .slice A1 l1.length c1), (35, .int .i64 (l1.length : Int)), (36, .int .i64 (i1 : Int))]
abbrev net_Send.B2 (K : Nat) (w0 : World) (l0 : List SFrame) (A0 : Option Addr) (c0 : Nat) (l1 : List SCome) (A1 : Option Addr) (c1 : Nat) (l2 : List Int) (A2 : Option Addr) (c2 : Nat) (x3 : Int) (hR0 : RdL w0 A0 l0) (hL0 : l0.length ≤ c0) (hR1 : RdL w0 A1 l1) (hL1 : l1.length ≤ c1) (hR2 : RdL w0 A2 l2) (hL2 : l2.length ≤ c2) (b1 : Nat) (b2 : Nat) (r1 : SFault) (b3 : Nat) (hc1 : r1.Code = 0) (m1 : List SJob) (i1 : Nat) (hc4 : (i1 : Int) < (l1.length : Int)) (e1 : SCome) (hx4 : l1[i1]? = some e1) (b4 : Nat) (Z1 : Option Addr) (cz1 : Nat) : (SPlayed × SFault) → Exit → Act → World → Prop := Rets Tryd.prog Tryd.f16 (net_Send.Post w0)
theorem net_Send_p2 (K : Nat) (w0 : World) (l0 : List SFrame) (A0 : Option Addr) (c0 : Nat) (l1 : List SCome) (A1 : Option Addr) (c1 : Nat) (l2 : List Int) (A2 : Option Addr) (c2 : Nat) (x3 : Int) (hR0 : RdL w0 A0 l0) (hL0 : l0.length ≤ c0) (hR1 : RdL w0 A1 l1) (hL1 : l1.length ≤ c1) (hR2 : RdL w0 A2 l2) (hL2 : l2.length ≤ c2) (b1 : Nat) (b2 : Nat) (r1 : SFault) (b3 : Nat) (hc1 : r1.Code = 0) (m1 : List SJob) (i1 : Nat) (hc4 : (i1 : Int) < (l1.length : Int)) (e1 : SCome) (hx4 : l1[i1]? = some e1) (b4 : Nat) (Z1 : Option Addr) (cz1 : Nat) (o : Unit ⊕ (SPlayed × SFault)) (h : net_Send.p2 l0 i1 e1 = some o) (w : World) (hS : St w0 w [Own.blk b4 (.cells #[.int .i64 e1.Task, .int .i64 e1.At] 33 (0, 0)), Own.blk b2 (.cells #[.int .i64 0, .int .i64 0] 39 (0, 0)), Own.blk b1 (.cells #[.slice none 0 0, .slice none 0 0] 36 (0, 0)), Own.of (.slice Z1 m1.length cz1) 58 m1]) (Q : Exit → Act → World → Prop) (hQ : ∀ x a w, Outs (net_Send.A2 K w0 l0 A0 c0 l1 A1 c1 l2 A2 c2 x3 hR0 hL0 hR1 hL1 hR2 hL2 b1 b2 r1 b3 hc1 m1 i1 hc4 e1 hx4 b4 Z1 cz1) (net_Send.B2 K w0 l0 A0 c0 l1 A1 c1 l2 A2 c2 x3 hR0 hL0 hR1 hL1 hR2 hL2 b1 b2 r1 b3 hc1 m1 i1 hc4 e1 hx4 b4 Z1 cz1) o x a w → Q x a w) : WE Tryd.prog 117 (subF Tryd.f16 [1, 1, 1, 1, 0, 1, 0, 0, 1, 1, 0, 0, 1, 0]) Q [(0, .slice A0 l0.length c0), (2, .slice A2 l2.length c2), (3, .int .i64 x3), (8, .pointer (some ⟨b1, 0, none⟩)), (9, .pointer (some ⟨b2, 0, none⟩)), (11, (.slice Z1 m1.length cz1)), (12, .int .i64 (i1 : Int)), (13, .pointer (some ⟨b4, 0, none⟩)), (34, .slice A1 l1.length c1), (35, .int .i64 (l1.length : Int)), (36, .int .i64 (i1 : Int)), (37, .bool true), (38, .int .i64 (i1 : Int)), (39, .pointer (some ⟨blkOf A1, offOf A1 + i1 * 2, none⟩)), (40, .agg #[.int .i64 e1.Task, .int .i64 e1.At])] w := by
  simp only [net_Send.p2] at h
  refine we_seq fun K17 hK17 => ?_
  refine we_region [(0, 0), (1, 0), (2, 0), (3, 0), (4, 0), (5, 0), (6, 0), (7, 0), (8, 0), (9, 0)] rfl ?_
  refine ge_batch [0, 1, 2, 3] (ans := [.val (.int .i64 e1.Task)]) (vs := [(44, .bool (decide (e1.Task < 0))), (43, .bool (decide (e1.Task < 0))), (42, .int .i64 e1.Task), (41, .pointer (some ⟨b4, 0, none⟩))]) (l := [.loaded ⟨b4, 0, none⟩ (.int .i64 e1.Task)]) (by kernel_rfl) ⟨hS.cell 0 rfl rfl, trivial⟩ ?_
  by_cases hc5 : e1.Task < 0
  · rw [if_pos hc5] at h
    refine ge_known (t := 44) (b := decide (e1.Task < 0)) (c := true) (by kernel_rfl) (decide_eq_true hc5) ?_
    refine ge_batch [4, 5, 6, 7, 8, 9] (ans := []) (vs := [(50, .bool true), (49, undef), (48, undef), (47, undef), (46, undef), (45, undef)]) (l := []) (by kernel_rfl) trivial ?_
    refine ge_nil fun a hF => hK17 _ _ ?_ a hF
    refine we_true (by kernel_rfl) ?_
    refine we_seq fun K18 hK18 => ?_
    refine we_region [(0, 0), (1, 0), (2, 0), (3, 2), (4, 2)] rfl ?_
    refine ge_batch [0, 1, 2] (ans := []) (vs := [(53, .agg #[.int .i64 4, .int .i64 (i1 : Int)]), (52, .int .i64 (i1 : Int)), (51, .agg #[.slice none 0 0, .slice none 0 0])]) (l := []) (by kernel_rfl) trivial ?_
    have hS40 := hS.bring 2 rfl
    refine ge_set (b := b1) (j := 0) (cs := #[.slice none 0 0, .slice none 0 0]) (t := 36) (vs := [.slice none 0 0, .slice none 0 0]) hS40 (by kernel_rfl) rfl rfl fun w13 hS41 => ?_
    have hS42 : St w0 w13 [Own.blk b1 (.cells #[.slice none 0 0, .slice none 0 0] 36 (0, 0)), Own.blk b4 (.cells #[.int .i64 e1.Task, .int .i64 e1.At] 33 (0, 0)), Own.blk b2 (.cells #[.int .i64 0, .int .i64 0] 39 (0, 0)), Own.of (.slice Z1 m1.length cz1) 58 m1] := hS41
    have hS43 := hS42.bring 2 rfl
    refine ge_set (b := b2) (j := 0) (cs := #[.int .i64 0, .int .i64 0]) (t := 39) (vs := [.int .i64 4, .int .i64 (i1 : Int)]) hS43 (by kernel_rfl) rfl rfl fun w14 hS44 => ?_
    have hS45 : St w0 w14 [Own.blk b2 (.cells #[.int .i64 4, .int .i64 (i1 : Int)] 39 (0, 0)), Own.blk b1 (.cells #[.slice none 0 0, .slice none 0 0] 36 (0, 0)), Own.blk b4 (.cells #[.int .i64 e1.Task, .int .i64 e1.At] 33 (0, 0)), Own.of (.slice Z1 m1.length cz1) 58 m1] := hS44
    refine ge_nil fun a hF => hK18 _ _ ?_ a hF
    have hS46 := hS45.nil (α := Int) 3
    have hS47 := hS46.nil (α := Int) 3
    have hS48 := hS47.bring 1 rfl
    have hS49 := hS48.bring 1 rfl
    have hS50 := hS49.takeN 2
    obtain rfl := Option.some.inj h
    exact we_ret fun a hF => hQ _ _ _ (Outs.out nofun ⟨rfl, (post_ret (rs := [.cell 8 36, .cell 9 39]) (ans := [.val ((.slice none 0 0)), .val ((.slice none 0 0)), .val (.int .i64 4), .val (.int .i64 (i1 : Int))]) (vs := [.agg #[(.slice none 0 0), (.slice none 0 0)], .agg #[.int .i64 4, .int .i64 (i1 : Int)]]) (l := [.loaded ⟨b1, 0, none⟩ ((.slice none 0 0)), .loaded ⟨b1, 1, none⟩ ((.slice none 0 0)), .loaded ⟨b2, 0, none⟩ (.int .i64 4), .loaded ⟨b2, 1, none⟩ (.int .i64 (i1 : Int))]) rfl (by kernel_rfl) ⟨hS47.cell 3 rfl rfl, hS47.cell 3 rfl rfl, hS47.cell 2 rfl rfl, hS47.cell 2 rfl rfl, trivial⟩ ⟨(.slice none 0 0), (.slice none 0 0), rfl, hS50⟩) a hF⟩)
  · rw [if_neg hc5] at h
    refine ge_known (t := 44) (b := decide (e1.Task < 0)) (c := false) (by kernel_rfl) (decide_eq_false hc5) ?_
    refine ge_batch [4, 5, 6, 7, 8, 9] (ans := [.val (.int .i64 e1.Task)]) (vs := [(50, .bool (decide (e1.Task ≥ (l0.length : Int)))), (49, .bool (decide (e1.Task ≥ (l0.length : Int)))), (48, .int .i64 (l0.length : Int)), (47, .slice A0 l0.length c0), (46, .int .i64 e1.Task), (45, .pointer (some ⟨b4, 0, none⟩))]) (l := [.loaded ⟨b4, 0, none⟩ (.int .i64 e1.Task)]) (by kernel_rfl) ⟨hS.cell 0 rfl rfl, trivial⟩ ?_
    refine ge_nil fun a hF => hK17 _ _ ?_ a hF
    by_cases hc6 : e1.Task ≥ (l0.length : Int)
    · rw [if_pos hc6] at h
      refine we_known (t := 50) (b := decide (e1.Task ≥ (l0.length : Int))) (v := true) (by kernel_rfl) (decide_eq_true hc6) ?_
      refine we_true (by kernel_rfl) ?_
      refine we_seq fun K19 hK19 => ?_
      refine we_region [(0, 0), (1, 0), (2, 0), (3, 2), (4, 2)] rfl ?_
      refine ge_batch [0, 1, 2] (ans := []) (vs := [(53, .agg #[.int .i64 4, .int .i64 (i1 : Int)]), (52, .int .i64 (i1 : Int)), (51, .agg #[.slice none 0 0, .slice none 0 0])]) (l := []) (by kernel_rfl) trivial ?_
      have hS51 := hS.bring 2 rfl
      refine ge_set (b := b1) (j := 0) (cs := #[.slice none 0 0, .slice none 0 0]) (t := 36) (vs := [.slice none 0 0, .slice none 0 0]) hS51 (by kernel_rfl) rfl rfl fun w15 hS52 => ?_
      have hS53 : St w0 w15 [Own.blk b1 (.cells #[.slice none 0 0, .slice none 0 0] 36 (0, 0)), Own.blk b4 (.cells #[.int .i64 e1.Task, .int .i64 e1.At] 33 (0, 0)), Own.blk b2 (.cells #[.int .i64 0, .int .i64 0] 39 (0, 0)), Own.of (.slice Z1 m1.length cz1) 58 m1] := hS52
      have hS54 := hS53.bring 2 rfl
      refine ge_set (b := b2) (j := 0) (cs := #[.int .i64 0, .int .i64 0]) (t := 39) (vs := [.int .i64 4, .int .i64 (i1 : Int)]) hS54 (by kernel_rfl) rfl rfl fun w16 hS55 => ?_
      have hS56 : St w0 w16 [Own.blk b2 (.cells #[.int .i64 4, .int .i64 (i1 : Int)] 39 (0, 0)), Own.blk b1 (.cells #[.slice none 0 0, .slice none 0 0] 36 (0, 0)), Own.blk b4 (.cells #[.int .i64 e1.Task, .int .i64 e1.At] 33 (0, 0)), Own.of (.slice Z1 m1.length cz1) 58 m1] := hS55
      refine ge_nil fun a hF => hK19 _ _ ?_ a hF
      have hS57 := hS56.nil (α := Int) 3
      have hS58 := hS57.nil (α := Int) 3
      have hS59 := hS58.bring 1 rfl
      have hS60 := hS59.bring 1 rfl
      have hS61 := hS60.takeN 2
      obtain rfl := Option.some.inj h
      exact we_ret fun a hF => hQ _ _ _ (Outs.out nofun ⟨rfl, (post_ret (rs := [.cell 8 36, .cell 9 39]) (ans := [.val ((.slice none 0 0)), .val ((.slice none 0 0)), .val (.int .i64 4), .val (.int .i64 (i1 : Int))]) (vs := [.agg #[(.slice none 0 0), (.slice none 0 0)], .agg #[.int .i64 4, .int .i64 (i1 : Int)]]) (l := [.loaded ⟨b1, 0, none⟩ ((.slice none 0 0)), .loaded ⟨b1, 1, none⟩ ((.slice none 0 0)), .loaded ⟨b2, 0, none⟩ (.int .i64 4), .loaded ⟨b2, 1, none⟩ (.int .i64 (i1 : Int))]) rfl (by kernel_rfl) ⟨hS58.cell 3 rfl rfl, hS58.cell 3 rfl rfl, hS58.cell 2 rfl rfl, hS58.cell 2 rfl rfl, trivial⟩ ⟨(.slice none 0 0), (.slice none 0 0), rfl, hS61⟩) a hF⟩)
    · rw [if_neg hc6] at h
      refine we_known (t := 50) (b := decide (e1.Task ≥ (l0.length : Int))) (v := false) (by kernel_rfl) (decide_eq_false hc6) ?_
      refine we_false (by kernel_rfl) ?_
      have hS62 := hS.bring 3 rfl
      have hS63 := hS62.bring 3 rfl
      have hS64 := hS63.bring 3 rfl
      have hS65 := hS64.bring 3 rfl
      obtain rfl := Option.some.inj h
      exact we_skip fun a hF => hQ _ _ _ (Outs.again ⟨hS65, hF.weaken ⟨by kernel_rfl, by kernel_rfl, by kernel_rfl, by kernel_rfl, by kernel_rfl, by kernel_rfl, by kernel_rfl, by kernel_rfl, by kernel_rfl, by kernel_rfl, by kernel_rfl, trivial⟩⟩)
abbrev net_Send.A3 (K : Nat) (w0 : World) (l0 : List SFrame) (A0 : Option Addr) (c0 : Nat) (l1 : List SCome) (A1 : Option Addr) (c1 : Nat) (l2 : List Int) (A2 : Option Addr) (c2 : Nat) (x3 : Int) (hR0 : RdL w0 A0 l0) (hL0 : l0.length ≤ c0) (hR1 : RdL w0 A1 l1) (hL1 : l1.length ≤ c1) (hR2 : RdL w0 A2 l2) (hL2 : l2.length ≤ c2) (b1 : Nat) (b2 : Nat) (r1 : SFault) (b3 : Nat) (hc1 : r1.Code = 0) (m1 : List SJob) (i1 : Nat) (hc4 : (i1 : Int) < (l1.length : Int)) (e1 : SCome) (hx4 : l1[i1]? = some e1) (b4 : Nat) (Z1 : Option Addr) (cz1 : Nat) (hc7 : 0 ≤ e1.Task) (e2 : SFrame) (hx6 : l0[(e1.Task).toNat]? = some e2) (b5 : Nat) : Unit → Act → World → Prop := fun (s : Unit) a w => St w0 w [Own.blk b5 (.cells #[.int .i64 e2.C, .int .i64 e2.T, .int .i64 e2.D, .int .i64 e2.J] 30 (0, 0)), Own.blk b4 (.cells #[.int .i64 e1.Task, .int .i64 e1.At] 33 (0, 0)), Own.blk b2 (.cells #[.int .i64 0, .int .i64 0] 39 (0, 0)), Own.blk b1 (.cells #[.slice none 0 0, .slice none 0 0] 36 (0, 0)), Own.of (.slice Z1 m1.length cz1) 58 m1] ∧ Frm 117 a [(0, .slice A0 l0.length c0), (2, .slice A2 l2.length c2), (3, .int .i64 x3), (8, .pointer (some ⟨b1, 0, none⟩)), (9, .pointer (some ⟨b2, 0, none⟩)), (11, (.slice Z1 m1.length cz1)), (12, .int .i64 (i1 : Int)), (13, .pointer (some ⟨b4, 0, none⟩)), (14, .pointer (some ⟨b5, 0, none⟩)), (34, .slice A1 l1.length c1), (35, .int .i64 (l1.length : Int)), (36, .int .i64 (i1 : Int))]
abbrev net_Send.B3 (K : Nat) (w0 : World) (l0 : List SFrame) (A0 : Option Addr) (c0 : Nat) (l1 : List SCome) (A1 : Option Addr) (c1 : Nat) (l2 : List Int) (A2 : Option Addr) (c2 : Nat) (x3 : Int) (hR0 : RdL w0 A0 l0) (hL0 : l0.length ≤ c0) (hR1 : RdL w0 A1 l1) (hL1 : l1.length ≤ c1) (hR2 : RdL w0 A2 l2) (hL2 : l2.length ≤ c2) (b1 : Nat) (b2 : Nat) (r1 : SFault) (b3 : Nat) (hc1 : r1.Code = 0) (m1 : List SJob) (i1 : Nat) (hc4 : (i1 : Int) < (l1.length : Int)) (e1 : SCome) (hx4 : l1[i1]? = some e1) (b4 : Nat) (Z1 : Option Addr) (cz1 : Nat) (hc7 : 0 ≤ e1.Task) (e2 : SFrame) (hx6 : l0[(e1.Task).toNat]? = some e2) (b5 : Nat) : (SPlayed × SFault) → Exit → Act → World → Prop := Rets Tryd.prog Tryd.f16 (net_Send.Post w0)
theorem net_Send_p3 (K : Nat) (w0 : World) (l0 : List SFrame) (A0 : Option Addr) (c0 : Nat) (l1 : List SCome) (A1 : Option Addr) (c1 : Nat) (l2 : List Int) (A2 : Option Addr) (c2 : Nat) (x3 : Int) (hR0 : RdL w0 A0 l0) (hL0 : l0.length ≤ c0) (hR1 : RdL w0 A1 l1) (hL1 : l1.length ≤ c1) (hR2 : RdL w0 A2 l2) (hL2 : l2.length ≤ c2) (b1 : Nat) (b2 : Nat) (r1 : SFault) (b3 : Nat) (hc1 : r1.Code = 0) (m1 : List SJob) (i1 : Nat) (hc4 : (i1 : Int) < (l1.length : Int)) (e1 : SCome) (hx4 : l1[i1]? = some e1) (b4 : Nat) (Z1 : Option Addr) (cz1 : Nat) (hc7 : 0 ≤ e1.Task) (e2 : SFrame) (hx6 : l0[(e1.Task).toNat]? = some e2) (b5 : Nat) (o : Unit ⊕ (SPlayed × SFault)) (h : net_Send.p3 l2 i1 e1 e2 = some o) (w : World) (hS : St w0 w [Own.blk b5 (.cells #[.int .i64 e2.C, .int .i64 e2.T, .int .i64 e2.D, .int .i64 e2.J] 30 (0, 0)), Own.blk b4 (.cells #[.int .i64 e1.Task, .int .i64 e1.At] 33 (0, 0)), Own.blk b2 (.cells #[.int .i64 0, .int .i64 0] 39 (0, 0)), Own.blk b1 (.cells #[.slice none 0 0, .slice none 0 0] 36 (0, 0)), Own.of (.slice Z1 m1.length cz1) 58 m1]) (Q : Exit → Act → World → Prop) (hQ : ∀ x a w, Outs (net_Send.A3 K w0 l0 A0 c0 l1 A1 c1 l2 A2 c2 x3 hR0 hL0 hR1 hL1 hR2 hL2 b1 b2 r1 b3 hc1 m1 i1 hc4 e1 hx4 b4 Z1 cz1 hc7 e2 hx6 b5) (net_Send.B3 K w0 l0 A0 c0 l1 A1 c1 l2 A2 c2 x3 hR0 hL0 hR1 hL1 hR2 hL2 b1 b2 r1 b3 hc1 m1 i1 hc4 e1 hx4 b4 Z1 cz1 hc7 e2 hx6 b5) o x a w → Q x a w) : WE Tryd.prog 117 (subF Tryd.f16 [1, 1, 1, 1, 0, 1, 0, 0, 1, 1, 0, 0, 1, 1, 1, 0]) Q [(0, .slice A0 l0.length c0), (2, .slice A2 l2.length c2), (3, .int .i64 x3), (8, .pointer (some ⟨b1, 0, none⟩)), (9, .pointer (some ⟨b2, 0, none⟩)), (11, (.slice Z1 m1.length cz1)), (12, .int .i64 (i1 : Int)), (13, .pointer (some ⟨b4, 0, none⟩)), (14, .pointer (some ⟨b5, 0, none⟩)), (34, .slice A1 l1.length c1), (35, .int .i64 (l1.length : Int)), (36, .int .i64 (i1 : Int)), (54, .slice A0 l0.length c0), (55, .pointer (some ⟨b4, 0, none⟩)), (56, .int .i64 e1.Task), (57, .pointer (some ⟨blkOf A0, offOf A0 + (e1.Task).toNat * 4, none⟩)), (58, .agg #[.int .i64 e2.C, .int .i64 e2.T, .int .i64 e2.D, .int .i64 e2.J])] w := by
  simp only [net_Send.p3] at h
  refine we_seq fun K22 hK22 => ?_
  refine we_draws (by kernel_rfl) [(0, 0), (1, 0), (2, 0), (3, 0), (4, 0), (5, 0), (6, 0), (7, 0), (8, 0), (9, 0), (10, 0), (11, 0), (12, 0), (13, 0), (14, 0), (15, 0), (16, 0), (17, 0), (18, 0), (19, 0), (20, 0), (21, 0), (22, 0), (23, 0)] (by kernel_rfl) ?_
  have hS70 := hS.drew
  refine ge_batch [0, 1, 2, 3] (ans := [.val (.int .i64 e1.At)]) (vs := [(62, .bool (decide (e1.At < 0))), (61, .bool (decide (e1.At < 0))), (60, .int .i64 e1.At), (59, .pointer (some ⟨b4, 1, none⟩))]) (l := [.loaded ⟨b4, 1, none⟩ (.int .i64 e1.At)]) (by kernel_rfl) ⟨hS70.cell 1 rfl rfl, trivial⟩ ?_
  by_cases hc8 : e1.At < 0
  · rw [if_pos hc8] at h
    refine ge_known (t := 62) (b := decide (e1.At < 0)) (c := true) (by kernel_rfl) (decide_eq_true hc8) ?_
    refine ge_batch [4, 5, 6, 7, 8, 9, 10, 11, 12, 13, 14, 15, 16, 17, 18, 19, 20, 21, 22, 23] (ans := []) (vs := [(82, .bool true), (81, undef), (80, undef), (79, undef), (78, undef), (77, undef), (76, undef), (75, undef), (74, .bool true), (73, .bool true), (72, undef), (71, undef), (70, undef), (69, undef), (68, undef), (67, .bool true), (66, .bool true), (65, undef), (64, undef), (63, undef)]) (l := []) (by kernel_rfl) trivial ?_
    refine ge_nil fun a hF => hK22 _ _ ?_ a hF
    refine we_true (by kernel_rfl) ?_
    refine we_seq fun K23 hK23 => ?_
    refine we_region [(0, 0), (1, 0), (2, 0), (3, 2), (4, 2)] rfl ?_
    refine ge_batch [0, 1, 2] (ans := []) (vs := [(85, .agg #[.int .i64 3, .int .i64 (i1 : Int)]), (84, .int .i64 (i1 : Int)), (83, .agg #[.slice none 0 0, .slice none 0 0])]) (l := []) (by kernel_rfl) trivial ?_
    have hS71 := hS70.bring 3 rfl
    refine ge_set (b := b1) (j := 0) (cs := #[.slice none 0 0, .slice none 0 0]) (t := 36) (vs := [.slice none 0 0, .slice none 0 0]) hS71 (by kernel_rfl) rfl rfl fun w20 hS72 => ?_
    have hS73 : St w0 w20 [Own.blk b1 (.cells #[.slice none 0 0, .slice none 0 0] 36 (0, 0)), Own.blk b5 (.cells #[.int .i64 e2.C, .int .i64 e2.T, .int .i64 e2.D, .int .i64 e2.J] 30 (0, 0)), Own.blk b4 (.cells #[.int .i64 e1.Task, .int .i64 e1.At] 33 (0, 0)), Own.blk b2 (.cells #[.int .i64 0, .int .i64 0] 39 (0, 0)), Own.of (.slice Z1 m1.length cz1) 58 m1] := hS72
    have hS74 := hS73.bring 3 rfl
    refine ge_set (b := b2) (j := 0) (cs := #[.int .i64 0, .int .i64 0]) (t := 39) (vs := [.int .i64 3, .int .i64 (i1 : Int)]) hS74 (by kernel_rfl) rfl rfl fun w21 hS75 => ?_
    have hS76 : St w0 w21 [Own.blk b2 (.cells #[.int .i64 3, .int .i64 (i1 : Int)] 39 (0, 0)), Own.blk b1 (.cells #[.slice none 0 0, .slice none 0 0] 36 (0, 0)), Own.blk b5 (.cells #[.int .i64 e2.C, .int .i64 e2.T, .int .i64 e2.D, .int .i64 e2.J] 30 (0, 0)), Own.blk b4 (.cells #[.int .i64 e1.Task, .int .i64 e1.At] 33 (0, 0)), Own.of (.slice Z1 m1.length cz1) 58 m1] := hS75
    refine ge_nil fun a hF => hK23 _ _ ?_ a hF
    have hS77 := hS76.nil (α := Int) 3
    have hS78 := hS77.nil (α := Int) 3
    have hS79 := hS78.bring 1 rfl
    have hS80 := hS79.bring 1 rfl
    have hS81 := hS80.takeN 2
    obtain rfl := Option.some.inj h
    exact we_ret fun a hF => hQ _ _ _ (Outs.out nofun ⟨rfl, (post_ret (rs := [.cell 8 36, .cell 9 39]) (ans := [.val ((.slice none 0 0)), .val ((.slice none 0 0)), .val (.int .i64 3), .val (.int .i64 (i1 : Int))]) (vs := [.agg #[(.slice none 0 0), (.slice none 0 0)], .agg #[.int .i64 3, .int .i64 (i1 : Int)]]) (l := [.loaded ⟨b1, 0, none⟩ ((.slice none 0 0)), .loaded ⟨b1, 1, none⟩ ((.slice none 0 0)), .loaded ⟨b2, 0, none⟩ (.int .i64 3), .loaded ⟨b2, 1, none⟩ (.int .i64 (i1 : Int))]) rfl (by kernel_rfl) ⟨hS78.cell 3 rfl rfl, hS78.cell 3 rfl rfl, hS78.cell 2 rfl rfl, hS78.cell 2 rfl rfl, trivial⟩ ⟨(.slice none 0 0), (.slice none 0 0), rfl, hS81⟩) a hF⟩)
  · rw [if_neg hc8] at h
    refine ge_known (t := 62) (b := decide (e1.At < 0)) (c := false) (by kernel_rfl) (decide_eq_false hc8) ?_
    refine ge_batch [4, 5, 6, 7, 8] (ans := [.val (.int .i64 e1.At)]) (vs := [(67, .bool (decide (e1.At > 20000))), (66, .bool (decide (e1.At > 20000))), (65, .bool (decide (e1.At > 20000))), (64, .int .i64 e1.At), (63, .pointer (some ⟨b4, 1, none⟩))]) (l := [.loaded ⟨b4, 1, none⟩ (.int .i64 e1.At)]) (by kernel_rfl) ⟨hS70.cell 1 rfl rfl, trivial⟩ ?_
    by_cases hc9 : e1.At > 20000
    · rw [if_pos hc9] at h
      refine ge_known (t := 67) (b := decide (e1.At > 20000)) (c := true) (by kernel_rfl) (decide_eq_true hc9) ?_
      refine ge_batch [9, 10, 11, 12, 13, 14, 15, 16, 17, 18, 19, 20, 21, 22, 23] (ans := []) (vs := [(82, .bool true), (81, undef), (80, undef), (79, undef), (78, undef), (77, undef), (76, undef), (75, undef), (74, .bool true), (73, .bool true), (72, undef), (71, undef), (70, undef), (69, undef), (68, undef)]) (l := []) (by kernel_rfl) trivial ?_
      refine ge_nil fun a hF => hK22 _ _ ?_ a hF
      refine we_true (by kernel_rfl) ?_
      refine we_seq fun K24 hK24 => ?_
      refine we_region [(0, 0), (1, 0), (2, 0), (3, 2), (4, 2)] rfl ?_
      refine ge_batch [0, 1, 2] (ans := []) (vs := [(85, .agg #[.int .i64 3, .int .i64 (i1 : Int)]), (84, .int .i64 (i1 : Int)), (83, .agg #[.slice none 0 0, .slice none 0 0])]) (l := []) (by kernel_rfl) trivial ?_
      have hS82 := hS70.bring 3 rfl
      refine ge_set (b := b1) (j := 0) (cs := #[.slice none 0 0, .slice none 0 0]) (t := 36) (vs := [.slice none 0 0, .slice none 0 0]) hS82 (by kernel_rfl) rfl rfl fun w22 hS83 => ?_
      have hS84 : St w0 w22 [Own.blk b1 (.cells #[.slice none 0 0, .slice none 0 0] 36 (0, 0)), Own.blk b5 (.cells #[.int .i64 e2.C, .int .i64 e2.T, .int .i64 e2.D, .int .i64 e2.J] 30 (0, 0)), Own.blk b4 (.cells #[.int .i64 e1.Task, .int .i64 e1.At] 33 (0, 0)), Own.blk b2 (.cells #[.int .i64 0, .int .i64 0] 39 (0, 0)), Own.of (.slice Z1 m1.length cz1) 58 m1] := hS83
      have hS85 := hS84.bring 3 rfl
      refine ge_set (b := b2) (j := 0) (cs := #[.int .i64 0, .int .i64 0]) (t := 39) (vs := [.int .i64 3, .int .i64 (i1 : Int)]) hS85 (by kernel_rfl) rfl rfl fun w23 hS86 => ?_
      have hS87 : St w0 w23 [Own.blk b2 (.cells #[.int .i64 3, .int .i64 (i1 : Int)] 39 (0, 0)), Own.blk b1 (.cells #[.slice none 0 0, .slice none 0 0] 36 (0, 0)), Own.blk b5 (.cells #[.int .i64 e2.C, .int .i64 e2.T, .int .i64 e2.D, .int .i64 e2.J] 30 (0, 0)), Own.blk b4 (.cells #[.int .i64 e1.Task, .int .i64 e1.At] 33 (0, 0)), Own.of (.slice Z1 m1.length cz1) 58 m1] := hS86
      refine ge_nil fun a hF => hK24 _ _ ?_ a hF
      have hS88 := hS87.nil (α := Int) 3
      have hS89 := hS88.nil (α := Int) 3
      have hS90 := hS89.bring 1 rfl
      have hS91 := hS90.bring 1 rfl
      have hS92 := hS91.takeN 2
      obtain rfl := Option.some.inj h
      exact we_ret fun a hF => hQ _ _ _ (Outs.out nofun ⟨rfl, (post_ret (rs := [.cell 8 36, .cell 9 39]) (ans := [.val ((.slice none 0 0)), .val ((.slice none 0 0)), .val (.int .i64 3), .val (.int .i64 (i1 : Int))]) (vs := [.agg #[(.slice none 0 0), (.slice none 0 0)], .agg #[.int .i64 3, .int .i64 (i1 : Int)]]) (l := [.loaded ⟨b1, 0, none⟩ ((.slice none 0 0)), .loaded ⟨b1, 1, none⟩ ((.slice none 0 0)), .loaded ⟨b2, 0, none⟩ (.int .i64 3), .loaded ⟨b2, 1, none⟩ (.int .i64 (i1 : Int))]) rfl (by kernel_rfl) ⟨hS89.cell 3 rfl rfl, hS89.cell 3 rfl rfl, hS89.cell 2 rfl rfl, hS89.cell 2 rfl rfl, trivial⟩ ⟨(.slice none 0 0), (.slice none 0 0), rfl, hS92⟩) a hF⟩)
    · rw [if_neg hc9] at h
      refine ge_known (t := 67) (b := decide (e1.At > 20000)) (c := false) (by kernel_rfl) (decide_eq_false hc9) ?_
      refine ge_batch [9, 10] (ans := []) (vs := [(69, .int .i64 (i1 : Int)), (68, .slice A2 l2.length c2)]) (l := []) (by kernel_rfl) trivial ?_
      rcases hx8 : l2[i1]? with _ | e3
      · rw [hx8] at h; cases h
      rw [hx8] at h
      simp only [] at h
      refine ge_index (d := 70) (ty := 0) (t := 24) (el := 3) (sz := 1) (m := l2.length) (c := c2) (x := (.tmp 68)) (y := (.tmp 69)) (A := A2) (k' := .i64) (j := (i1 : Int)) (jn := i1) (b0 := blkOf A2) (o0 := offOf A2) (by kernel_rfl) (by kernel_rfl) (by kernel_rfl) (by kernel_rfl) (by kernel_rfl) ((hS70.rd hR2).eqSome (pos_of_get hx8)) rfl (lt_of_get hx8) ?_
      refine ge_batch [12, 13, 14, 15] (ans := [.val (.int .i64 e3)]) (vs := [(74, .bool (decide (e3 < 0))), (73, .bool (decide (e3 < 0))), (72, .bool (decide (e3 < 0))), (71, .int .i64 e3)]) (l := [.loaded ⟨blkOf A2, offOf A2 + i1 * 1, none⟩ (.int .i64 e3)]) (by kernel_rfl) ⟨RdL.cell (j := 0) (hS70.rd hR2) hx8 rfl, trivial⟩ ?_
      by_cases hc10 : e3 < 0
      · rw [if_pos hc10] at h
        refine ge_known (t := 74) (b := decide (e3 < 0)) (c := true) (by kernel_rfl) (decide_eq_true hc10) ?_
        refine ge_batch [16, 17, 18, 19, 20, 21, 22, 23] (ans := []) (vs := [(82, .bool true), (81, undef), (80, undef), (79, undef), (78, undef), (77, undef), (76, undef), (75, undef)]) (l := []) (by kernel_rfl) trivial ?_
        refine ge_nil fun a hF => hK22 _ _ ?_ a hF
        refine we_true (by kernel_rfl) ?_
        refine we_seq fun K25 hK25 => ?_
        refine we_region [(0, 0), (1, 0), (2, 0), (3, 2), (4, 2)] rfl ?_
        refine ge_batch [0, 1, 2] (ans := []) (vs := [(85, .agg #[.int .i64 3, .int .i64 (i1 : Int)]), (84, .int .i64 (i1 : Int)), (83, .agg #[.slice none 0 0, .slice none 0 0])]) (l := []) (by kernel_rfl) trivial ?_
        have hS93 := hS70.bring 3 rfl
        refine ge_set (b := b1) (j := 0) (cs := #[.slice none 0 0, .slice none 0 0]) (t := 36) (vs := [.slice none 0 0, .slice none 0 0]) hS93 (by kernel_rfl) rfl rfl fun w24 hS94 => ?_
        have hS95 : St w0 w24 [Own.blk b1 (.cells #[.slice none 0 0, .slice none 0 0] 36 (0, 0)), Own.blk b5 (.cells #[.int .i64 e2.C, .int .i64 e2.T, .int .i64 e2.D, .int .i64 e2.J] 30 (0, 0)), Own.blk b4 (.cells #[.int .i64 e1.Task, .int .i64 e1.At] 33 (0, 0)), Own.blk b2 (.cells #[.int .i64 0, .int .i64 0] 39 (0, 0)), Own.of (.slice Z1 m1.length cz1) 58 m1] := hS94
        have hS96 := hS95.bring 3 rfl
        refine ge_set (b := b2) (j := 0) (cs := #[.int .i64 0, .int .i64 0]) (t := 39) (vs := [.int .i64 3, .int .i64 (i1 : Int)]) hS96 (by kernel_rfl) rfl rfl fun w25 hS97 => ?_
        have hS98 : St w0 w25 [Own.blk b2 (.cells #[.int .i64 3, .int .i64 (i1 : Int)] 39 (0, 0)), Own.blk b1 (.cells #[.slice none 0 0, .slice none 0 0] 36 (0, 0)), Own.blk b5 (.cells #[.int .i64 e2.C, .int .i64 e2.T, .int .i64 e2.D, .int .i64 e2.J] 30 (0, 0)), Own.blk b4 (.cells #[.int .i64 e1.Task, .int .i64 e1.At] 33 (0, 0)), Own.of (.slice Z1 m1.length cz1) 58 m1] := hS97
        refine ge_nil fun a hF => hK25 _ _ ?_ a hF
        have hS99 := hS98.nil (α := Int) 3
        have hS100 := hS99.nil (α := Int) 3
        have hS101 := hS100.bring 1 rfl
        have hS102 := hS101.bring 1 rfl
        have hS103 := hS102.takeN 2
        obtain rfl := Option.some.inj h
        exact we_ret fun a hF => hQ _ _ _ (Outs.out nofun ⟨rfl, (post_ret (rs := [.cell 8 36, .cell 9 39]) (ans := [.val ((.slice none 0 0)), .val ((.slice none 0 0)), .val (.int .i64 3), .val (.int .i64 (i1 : Int))]) (vs := [.agg #[(.slice none 0 0), (.slice none 0 0)], .agg #[.int .i64 3, .int .i64 (i1 : Int)]]) (l := [.loaded ⟨b1, 0, none⟩ ((.slice none 0 0)), .loaded ⟨b1, 1, none⟩ ((.slice none 0 0)), .loaded ⟨b2, 0, none⟩ (.int .i64 3), .loaded ⟨b2, 1, none⟩ (.int .i64 (i1 : Int))]) rfl (by kernel_rfl) ⟨hS100.cell 3 rfl rfl, hS100.cell 3 rfl rfl, hS100.cell 2 rfl rfl, hS100.cell 2 rfl rfl, trivial⟩ ⟨(.slice none 0 0), (.slice none 0 0), rfl, hS103⟩) a hF⟩)
      · rw [if_neg hc10] at h
        refine ge_known (t := 74) (b := decide (e3 < 0)) (c := false) (by kernel_rfl) (decide_eq_false hc10) ?_
        refine ge_batch [16, 17] (ans := []) (vs := [(76, .int .i64 (i1 : Int)), (75, .slice A2 l2.length c2)]) (l := []) (by kernel_rfl) trivial ?_
        refine ge_index (d := 77) (ty := 0) (t := 24) (el := 3) (sz := 1) (m := l2.length) (c := c2) (x := (.tmp 75)) (y := (.tmp 76)) (A := A2) (k' := .i64) (j := (i1 : Int)) (jn := i1) (b0 := blkOf A2) (o0 := offOf A2) (by kernel_rfl) (by kernel_rfl) (by kernel_rfl) (by kernel_rfl) (by kernel_rfl) ((hS70.rd hR2).eqSome (pos_of_get hx8)) rfl (lt_of_get hx8) ?_
        refine ge_batch [19, 20, 21, 22, 23] (ans := [.val (.int .i64 e3), .val (.int .i64 e2.J)]) (vs := [(82, .bool (decide (e3 > e2.J))), (81, .bool (decide (e3 > e2.J))), (80, .int .i64 e2.J), (79, .pointer (some ⟨b5, 3, none⟩)), (78, .int .i64 e3)]) (l := [.loaded ⟨blkOf A2, offOf A2 + i1 * 1, none⟩ (.int .i64 e3), .loaded ⟨b5, 3, none⟩ (.int .i64 e2.J)]) (by kernel_rfl) ⟨RdL.cell (j := 0) (hS70.rd hR2) hx8 rfl, hS70.cell 0 rfl rfl, trivial⟩ ?_
        refine ge_nil fun a hF => hK22 _ _ ?_ a hF
        by_cases hc11 : e3 > e2.J
        · rw [if_pos hc11] at h
          refine we_known (t := 82) (b := decide (e3 > e2.J)) (v := true) (by kernel_rfl) (decide_eq_true hc11) ?_
          refine we_true (by kernel_rfl) ?_
          refine we_seq fun K26 hK26 => ?_
          refine we_region [(0, 0), (1, 0), (2, 0), (3, 2), (4, 2)] rfl ?_
          refine ge_batch [0, 1, 2] (ans := []) (vs := [(85, .agg #[.int .i64 3, .int .i64 (i1 : Int)]), (84, .int .i64 (i1 : Int)), (83, .agg #[.slice none 0 0, .slice none 0 0])]) (l := []) (by kernel_rfl) trivial ?_
          have hS104 := hS70.bring 3 rfl
          refine ge_set (b := b1) (j := 0) (cs := #[.slice none 0 0, .slice none 0 0]) (t := 36) (vs := [.slice none 0 0, .slice none 0 0]) hS104 (by kernel_rfl) rfl rfl fun w26 hS105 => ?_
          have hS106 : St w0 w26 [Own.blk b1 (.cells #[.slice none 0 0, .slice none 0 0] 36 (0, 0)), Own.blk b5 (.cells #[.int .i64 e2.C, .int .i64 e2.T, .int .i64 e2.D, .int .i64 e2.J] 30 (0, 0)), Own.blk b4 (.cells #[.int .i64 e1.Task, .int .i64 e1.At] 33 (0, 0)), Own.blk b2 (.cells #[.int .i64 0, .int .i64 0] 39 (0, 0)), Own.of (.slice Z1 m1.length cz1) 58 m1] := hS105
          have hS107 := hS106.bring 3 rfl
          refine ge_set (b := b2) (j := 0) (cs := #[.int .i64 0, .int .i64 0]) (t := 39) (vs := [.int .i64 3, .int .i64 (i1 : Int)]) hS107 (by kernel_rfl) rfl rfl fun w27 hS108 => ?_
          have hS109 : St w0 w27 [Own.blk b2 (.cells #[.int .i64 3, .int .i64 (i1 : Int)] 39 (0, 0)), Own.blk b1 (.cells #[.slice none 0 0, .slice none 0 0] 36 (0, 0)), Own.blk b5 (.cells #[.int .i64 e2.C, .int .i64 e2.T, .int .i64 e2.D, .int .i64 e2.J] 30 (0, 0)), Own.blk b4 (.cells #[.int .i64 e1.Task, .int .i64 e1.At] 33 (0, 0)), Own.of (.slice Z1 m1.length cz1) 58 m1] := hS108
          refine ge_nil fun a hF => hK26 _ _ ?_ a hF
          have hS110 := hS109.nil (α := Int) 3
          have hS111 := hS110.nil (α := Int) 3
          have hS112 := hS111.bring 1 rfl
          have hS113 := hS112.bring 1 rfl
          have hS114 := hS113.takeN 2
          obtain rfl := Option.some.inj h
          exact we_ret fun a hF => hQ _ _ _ (Outs.out nofun ⟨rfl, (post_ret (rs := [.cell 8 36, .cell 9 39]) (ans := [.val ((.slice none 0 0)), .val ((.slice none 0 0)), .val (.int .i64 3), .val (.int .i64 (i1 : Int))]) (vs := [.agg #[(.slice none 0 0), (.slice none 0 0)], .agg #[.int .i64 3, .int .i64 (i1 : Int)]]) (l := [.loaded ⟨b1, 0, none⟩ ((.slice none 0 0)), .loaded ⟨b1, 1, none⟩ ((.slice none 0 0)), .loaded ⟨b2, 0, none⟩ (.int .i64 3), .loaded ⟨b2, 1, none⟩ (.int .i64 (i1 : Int))]) rfl (by kernel_rfl) ⟨hS111.cell 3 rfl rfl, hS111.cell 3 rfl rfl, hS111.cell 2 rfl rfl, hS111.cell 2 rfl rfl, trivial⟩ ⟨(.slice none 0 0), (.slice none 0 0), rfl, hS114⟩) a hF⟩)
        · rw [if_neg hc11] at h
          refine we_known (t := 82) (b := decide (e3 > e2.J)) (v := false) (by kernel_rfl) (decide_eq_false hc11) ?_
          refine we_false (by kernel_rfl) ?_
          have hS115 := hS70.bring 4 rfl
          have hS116 := hS115.bring 4 rfl
          have hS117 := hS116.bring 4 rfl
          have hS118 := hS117.bring 4 rfl
          have hS119 := hS118.bring 4 rfl
          obtain rfl := Option.some.inj h
          exact we_skip fun a hF => hQ _ _ _ (Outs.again ⟨hS119, hF.weaken ⟨by kernel_rfl, by kernel_rfl, by kernel_rfl, by kernel_rfl, by kernel_rfl, by kernel_rfl, by kernel_rfl, by kernel_rfl, by kernel_rfl, by kernel_rfl, by kernel_rfl, by kernel_rfl, trivial⟩⟩)
abbrev net_Send.A1 (K : Nat) (w0 : World) (l0 : List SFrame) (A0 : Option Addr) (c0 : Nat) (l1 : List SCome) (A1 : Option Addr) (c1 : Nat) (l2 : List Int) (A2 : Option Addr) (c2 : Nat) (x3 : Int) (hR0 : RdL w0 A0 l0) (hL0 : l0.length ≤ c0) (hR1 : RdL w0 A1 l1) (hL1 : l1.length ≤ c1) (hR2 : RdL w0 A2 l2) (hL2 : l2.length ≤ c2) (b1 : Nat) (b2 : Nat) (r1 : SFault) (b3 : Nat) (hc1 : r1.Code = 0) : ((List SJob) × Nat) → Act → World → Prop := fun (s : (List SJob) × Nat) a w => ∃ (v1 : Value), St w0 w [Own.blk b2 (.cells #[.int .i64 0, .int .i64 0] 39 (0, 0)), Own.blk b1 (.cells #[.slice none 0 0, .slice none 0 0] 36 (0, 0)), Own.of v1 58 s.1] ∧ Frm 117 a [(0, .slice A0 l0.length c0), (2, .slice A2 l2.length c2), (3, .int .i64 x3), (8, .pointer (some ⟨b1, 0, none⟩)), (9, .pointer (some ⟨b2, 0, none⟩)), (11, v1), (34, .slice A1 l1.length c1), (35, .int .i64 (l1.length : Int)), (36, .int .i64 (s.2 : Int))]
abbrev net_Send.B1 (K : Nat) (w0 : World) (l0 : List SFrame) (A0 : Option Addr) (c0 : Nat) (l1 : List SCome) (A1 : Option Addr) (c1 : Nat) (l2 : List Int) (A2 : Option Addr) (c2 : Nat) (x3 : Int) (hR0 : RdL w0 A0 l0) (hL0 : l0.length ≤ c0) (hR1 : RdL w0 A1 l1) (hL1 : l1.length ≤ c1) (hR2 : RdL w0 A2 l2) (hL2 : l2.length ≤ c2) (b1 : Nat) (b2 : Nat) (r1 : SFault) (b3 : Nat) (hc1 : r1.Code = 0) : ((List SJob) ⊕ (SPlayed × SFault)) → Exit → Act → World → Prop := Exits 0 (fun (s : (List SJob)) a w => ∃ (v2 : Value), St w0 w [Own.blk b2 (.cells #[.int .i64 0, .int .i64 0] 39 (0, 0)), Own.blk b1 (.cells #[.slice none 0 0, .slice none 0 0] 36 (0, 0)), Own.of v2 58 s] ∧ Frm 117 a [(3, .int .i64 x3), (8, .pointer (some ⟨b1, 0, none⟩)), (9, .pointer (some ⟨b2, 0, none⟩)), (11, v2)]) (Rets Tryd.prog Tryd.f16 (net_Send.Post w0))
theorem net_Send_r1 (K : Nat) (w0 : World) (l0 : List SFrame) (A0 : Option Addr) (c0 : Nat) (l1 : List SCome) (A1 : Option Addr) (c1 : Nat) (l2 : List Int) (A2 : Option Addr) (c2 : Nat) (x3 : Int) (hR0 : RdL w0 A0 l0) (hL0 : l0.length ≤ c0) (hR1 : RdL w0 A1 l1) (hL1 : l1.length ≤ c1) (hR2 : RdL w0 A2 l2) (hL2 : l2.length ≤ c2) (b1 : Nat) (b2 : Nat) (r1 : SFault) (b3 : Nat) (hc1 : r1.Code = 0) (s : (List SJob) × Nat) (o : ((List SJob) × Nat) ⊕ ((List SJob) ⊕ (SPlayed × SFault))) (h : net_Send.r1 l0 l1 l2 s = some o) (a : Act) (w : World) (hA : net_Send.A1 K w0 l0 A0 c0 l1 A1 c1 l2 A2 c2 x3 hR0 hL0 hR1 hL1 hR2 hL2 b1 b2 r1 b3 hc1 s a w) (Q : Exit → Act → World → Prop) (hQ : ∀ x a w, Outs (net_Send.A1 K w0 l0 A0 c0 l1 A1 c1 l2 A2 c2 x3 hR0 hL0 hR1 hL1 hR2 hL2 b1 b2 r1 b3 hc1) (net_Send.B1 K w0 l0 A0 c0 l1 A1 c1 l2 A2 c2 x3 hR0 hL0 hR1 hL1 hR2 hL2 b1 b2 r1 b3 hc1) o x a w → Q x a w) : (subF Tryd.f16 [1, 1, 1, 1, 0, 1, 0, 0]).wp Tryd.prog Q a w := by
  obtain ⟨m1, i1⟩ := s
  obtain ⟨v1, hS, hF⟩ := hA
  replace hS : St w0 w [Own.blk b2 (.cells #[.int .i64 0, .int .i64 0] 39 (0, 0)), Own.blk b1 (.cells #[.slice none 0 0, .slice none 0 0] 36 (0, 0)), Own.of v1 58 m1] := hS
  simp only [net_Send.r1] at h
  refine (?_ : WE Tryd.prog 117 (subF Tryd.f16 [1, 1, 1, 1, 0, 1, 0, 0]) Q [(0, .slice A0 l0.length c0), (2, .slice A2 l2.length c2), (3, .int .i64 x3), (8, .pointer (some ⟨b1, 0, none⟩)), (9, .pointer (some ⟨b2, 0, none⟩)), (11, v1), (34, .slice A1 l1.length c1), (35, .int .i64 (l1.length : Int)), (36, .int .i64 (i1 : Int))] w) a hF
  clear hF a
  refine we_seq fun K12 hK12 => ?_
  refine we_region [(0, 0)] rfl ?_
  refine ge_batch [0] (ans := []) (vs := [(37, .bool (decide ((i1 : Int) < (l1.length : Int))))]) (l := []) (by kernel_rfl) trivial ?_
  refine ge_nil fun a hF => hK12 _ _ ?_ a hF
  refine we_seq fun K13 hK13 => ?_
  by_cases hc4 : (i1 : Int) < (l1.length : Int)
  · rw [if_pos hc4] at h
    refine we_known (t := 37) (b := decide ((i1 : Int) < (l1.length : Int))) (v := true) (by kernel_rfl) (decide_eq_true hc4) ?_
    refine we_true (by kernel_rfl) ?_
    refine we_skip fun a hF => hK13 _ _ ?_ a hF
    refine we_seq fun K14 hK14 => ?_
    refine we_block ?_
    refine we_seq fun K15 hK15 => ?_
    refine we_region [(0, 0), (1, 0), (2, 0), (3, 1), (4, 0), (5, 2)] rfl ?_
    refine ge_batch [0] (ans := []) (vs := [(38, .int .i64 (i1 : Int))]) (l := []) (by kernel_rfl) trivial ?_
    rcases hx4 : l1[i1]? with _ | e1
    · rw [hx4] at h; cases h
    rw [hx4] at h
    simp only [] at h
    refine ge_index (d := 39) (ty := 0) (t := 23) (el := 33) (sz := 2) (m := l1.length) (c := c1) (x := (.tmp 34)) (y := (.tmp 36)) (A := A1) (k' := .i64) (j := (i1 : Int)) (jn := i1) (b0 := blkOf A1) (o0 := offOf A1) (by kernel_rfl) (by kernel_rfl) (by kernel_rfl) (by kernel_rfl) (by kernel_rfl) ((hS.rd hR1).eqSome (pos_of_get hx4)) rfl (lt_of_get hx4) ?_
    refine ge_batch [2] (ans := [.val (.int .i64 e1.Task), .val (.int .i64 e1.At)]) (vs := [(40, .agg #[.int .i64 e1.Task, .int .i64 e1.At])]) (l := [.loaded ⟨blkOf A1, offOf A1 + i1 * 2, none⟩ (.int .i64 e1.Task), .loaded ⟨blkOf A1, offOf A1 + i1 * 2 + 1, none⟩ (.int .i64 e1.At)]) (by kernel_rfl) ⟨RdL.cell (j := 0) (hS.rd hR1) hx4 rfl, RdL.cell (j := 1) (hS.rd hR1) hx4 rfl, trivial⟩ ?_
    refine ge_new (d := some 13) (o := .cells #[.int .i64 0, .int .i64 0] 33) (v := fun b => .pointer (some ⟨b, 0, none⟩)) hS (fun b => by kernel_rfl) fun b4 w11 hx5 hS37 => ?_
    refine ge_batch [4] (ans := []) (vs := [(12, .int .i64 (i1 : Int))]) (l := []) (by kernel_rfl) trivial ?_
    refine ge_set (b := b4) (j := 0) (cs := #[.int .i64 0, .int .i64 0]) (t := 33) (vs := [.int .i64 e1.Task, .int .i64 e1.At]) hS37 (by kernel_rfl) rfl rfl fun w12 hS38 => ?_
    have hS39 : St w0 w12 [Own.blk b4 (.cells #[.int .i64 e1.Task, .int .i64 e1.At] 33 (0, 0)), Own.blk b2 (.cells #[.int .i64 0, .int .i64 0] 39 (0, 0)), Own.blk b1 (.cells #[.slice none 0 0, .slice none 0 0] 36 (0, 0)), Own.of v1 58 m1] := hS38
    refine ge_nil fun a hF => hK15 _ _ ?_ a hF
    refine we_seq fun K16 hK16 => ?_
    obtain ⟨Z1, cz1, rfl⟩ := hS39.open 3 rfl
    rcases hq3 : net_Send.p2 l0 i1 e1 with _ | (_ | rr2)
    · rw [hq3] at h; cases h
    · rw [hq3] at h
      simp only [] at h
      refine we_keep (e' := [(0, .slice A0 l0.length c0), (2, .slice A2 l2.length c2), (3, .int .i64 x3), (8, .pointer (some ⟨b1, 0, none⟩)), (9, .pointer (some ⟨b2, 0, none⟩)), (11, (.slice Z1 m1.length cz1)), (12, .int .i64 (i1 : Int)), (13, .pointer (some ⟨b4, 0, none⟩)), (34, .slice A1 l1.length c1), (35, .int .i64 (l1.length : Int)), (36, .int .i64 (i1 : Int)), (37, .bool true), (38, .int .i64 (i1 : Int)), (39, .pointer (some ⟨blkOf A1, offOf A1 + i1 * 2, none⟩)), (40, .agg #[.int .i64 e1.Task, .int .i64 e1.At])]) ⟨by kernel_rfl, by kernel_rfl, by kernel_rfl, by kernel_rfl, by kernel_rfl, by kernel_rfl, by kernel_rfl, by kernel_rfl, by kernel_rfl, by kernel_rfl, by kernel_rfl, by kernel_rfl, by kernel_rfl, by kernel_rfl, by kernel_rfl, trivial⟩ (net_Send_p2 K w0 l0 A0 c0 l1 A1 c1 l2 A2 c2 x3 hR0 hL0 hR1 hL1 hR2 hL2 b1 b2 r1 b3 hc1 m1 i1 hc4 e1 hx4 b4 Z1 cz1 _ hq3 _ hS39 _ ?_)
      rintro _ a w17 ⟨rfl, hS66, hF⟩
      replace hS66 : St w0 w17 [Own.blk b4 (.cells #[.int .i64 e1.Task, .int .i64 e1.At] 33 (0, 0)), Own.blk b2 (.cells #[.int .i64 0, .int .i64 0] 39 (0, 0)), Own.blk b1 (.cells #[.slice none 0 0, .slice none 0 0] 36 (0, 0)), Own.of (.slice Z1 m1.length cz1) 58 m1] := hS66
      refine hK16 [(0, .slice A0 l0.length c0), (2, .slice A2 l2.length c2), (3, .int .i64 x3), (8, .pointer (some ⟨b1, 0, none⟩)), (9, .pointer (some ⟨b2, 0, none⟩)), (11, (.slice Z1 m1.length cz1)), (12, .int .i64 (i1 : Int)), (13, .pointer (some ⟨b4, 0, none⟩)), (34, .slice A1 l1.length c1), (35, .int .i64 (l1.length : Int)), (36, .int .i64 (i1 : Int))] w17 ?_ a hF
      refine we_seq fun K20 hK20 => ?_
      refine we_region [(0, 0), (1, 0), (2, 0), (3, 0), (4, 0), (5, 1), (6, 2)] rfl ?_
      refine ge_batch [0, 1, 2] (ans := [.val (.int .i64 e1.Task)]) (vs := [(56, .int .i64 e1.Task), (55, .pointer (some ⟨b4, 0, none⟩)), (54, .slice A0 l0.length c0)]) (l := [.loaded ⟨b4, 0, none⟩ (.int .i64 e1.Task)]) (by kernel_rfl) ⟨hS66.cell 0 rfl rfl, trivial⟩ ?_
      by_cases hc7 : 0 ≤ e1.Task
      · rw [if_pos hc7] at h
        rcases hx6 : l0[(e1.Task).toNat]? with _ | e2
        · rw [hx6] at h; cases h
        rw [hx6] at h
        simp only [] at h
        refine ge_index (d := 57) (ty := 0) (t := 22) (el := 30) (sz := 4) (m := l0.length) (c := c0) (x := (.tmp 54)) (y := (.tmp 56)) (A := A0) (k' := .i64) (j := e1.Task) (jn := ((e1.Task).toNat)) (b0 := blkOf A0) (o0 := offOf A0) (by kernel_rfl) (by kernel_rfl) (by kernel_rfl) (by kernel_rfl) (by kernel_rfl) ((hS66.rd hR0).eqSome (pos_of_get hx6)) (Int.toNat_of_nonneg hc7).symm (lt_of_get hx6) ?_
        refine ge_batch [4] (ans := [.val (.int .i64 e2.C), .val (.int .i64 e2.T), .val (.int .i64 e2.D), .val (.int .i64 e2.J)]) (vs := [(58, .agg #[.int .i64 e2.C, .int .i64 e2.T, .int .i64 e2.D, .int .i64 e2.J])]) (l := [.loaded ⟨blkOf A0, offOf A0 + ((e1.Task).toNat) * 4, none⟩ (.int .i64 e2.C), .loaded ⟨blkOf A0, offOf A0 + ((e1.Task).toNat) * 4 + 1, none⟩ (.int .i64 e2.T), .loaded ⟨blkOf A0, offOf A0 + ((e1.Task).toNat) * 4 + 2, none⟩ (.int .i64 e2.D), .loaded ⟨blkOf A0, offOf A0 + ((e1.Task).toNat) * 4 + 3, none⟩ (.int .i64 e2.J)]) (by kernel_rfl) ⟨RdL.cell (j := 0) (hS66.rd hR0) hx6 rfl, RdL.cell (j := 1) (hS66.rd hR0) hx6 rfl, RdL.cell (j := 2) (hS66.rd hR0) hx6 rfl, RdL.cell (j := 3) (hS66.rd hR0) hx6 rfl, trivial⟩ ?_
        refine ge_new (d := some 14) (o := .cells #[.int .i64 0, .int .i64 0, .int .i64 0, .int .i64 0] 30) (v := fun b => .pointer (some ⟨b, 0, none⟩)) hS66 (fun b => by kernel_rfl) fun b5 w18 hx7 hS67 => ?_
        refine ge_set (b := b5) (j := 0) (cs := #[.int .i64 0, .int .i64 0, .int .i64 0, .int .i64 0]) (t := 30) (vs := [.int .i64 e2.C, .int .i64 e2.T, .int .i64 e2.D, .int .i64 e2.J]) hS67 (by kernel_rfl) rfl rfl fun w19 hS68 => ?_
        have hS69 : St w0 w19 [Own.blk b5 (.cells #[.int .i64 e2.C, .int .i64 e2.T, .int .i64 e2.D, .int .i64 e2.J] 30 (0, 0)), Own.blk b4 (.cells #[.int .i64 e1.Task, .int .i64 e1.At] 33 (0, 0)), Own.blk b2 (.cells #[.int .i64 0, .int .i64 0] 39 (0, 0)), Own.blk b1 (.cells #[.slice none 0 0, .slice none 0 0] 36 (0, 0)), Own.of (.slice Z1 m1.length cz1) 58 m1] := hS68
        refine ge_nil fun a hF => hK20 _ _ ?_ a hF
        refine we_seq fun K21 hK21 => ?_
        rcases hq4 : net_Send.p3 l2 i1 e1 e2 with _ | (_ | rr1)
        · rw [hq4] at h; cases h
        · rw [hq4] at h
          simp only [] at h
          refine we_keep (e' := [(0, .slice A0 l0.length c0), (2, .slice A2 l2.length c2), (3, .int .i64 x3), (8, .pointer (some ⟨b1, 0, none⟩)), (9, .pointer (some ⟨b2, 0, none⟩)), (11, (.slice Z1 m1.length cz1)), (12, .int .i64 (i1 : Int)), (13, .pointer (some ⟨b4, 0, none⟩)), (14, .pointer (some ⟨b5, 0, none⟩)), (34, .slice A1 l1.length c1), (35, .int .i64 (l1.length : Int)), (36, .int .i64 (i1 : Int)), (54, .slice A0 l0.length c0), (55, .pointer (some ⟨b4, 0, none⟩)), (56, .int .i64 e1.Task), (57, .pointer (some ⟨blkOf A0, offOf A0 + (e1.Task).toNat * 4, none⟩)), (58, .agg #[.int .i64 e2.C, .int .i64 e2.T, .int .i64 e2.D, .int .i64 e2.J])]) ⟨by kernel_rfl, by kernel_rfl, by kernel_rfl, by kernel_rfl, by kernel_rfl, by kernel_rfl, by kernel_rfl, by kernel_rfl, by kernel_rfl, by kernel_rfl, by kernel_rfl, by kernel_rfl, by kernel_rfl, by kernel_rfl, by kernel_rfl, by kernel_rfl, by kernel_rfl, trivial⟩ (net_Send_p3 K w0 l0 A0 c0 l1 A1 c1 l2 A2 c2 x3 hR0 hL0 hR1 hL1 hR2 hL2 b1 b2 r1 b3 hc1 m1 i1 hc4 e1 hx4 b4 Z1 cz1 hc7 e2 hx6 b5 _ hq4 _ hS69 _ ?_)
          rintro _ a w28 ⟨rfl, hS120, hF⟩
          replace hS120 : St w0 w28 [Own.blk b5 (.cells #[.int .i64 e2.C, .int .i64 e2.T, .int .i64 e2.D, .int .i64 e2.J] 30 (0, 0)), Own.blk b4 (.cells #[.int .i64 e1.Task, .int .i64 e1.At] 33 (0, 0)), Own.blk b2 (.cells #[.int .i64 0, .int .i64 0] 39 (0, 0)), Own.blk b1 (.cells #[.slice none 0 0, .slice none 0 0] 36 (0, 0)), Own.of (.slice Z1 m1.length cz1) 58 m1] := hS120
          refine hK21 [(0, .slice A0 l0.length c0), (2, .slice A2 l2.length c2), (3, .int .i64 x3), (8, .pointer (some ⟨b1, 0, none⟩)), (9, .pointer (some ⟨b2, 0, none⟩)), (11, (.slice Z1 m1.length cz1)), (12, .int .i64 (i1 : Int)), (13, .pointer (some ⟨b4, 0, none⟩)), (14, .pointer (some ⟨b5, 0, none⟩)), (34, .slice A1 l1.length c1), (35, .int .i64 (l1.length : Int)), (36, .int .i64 (i1 : Int))] w28 ?_ a hF
          refine we_orders2 (by kernel_rfl) [(2, [⟨b4, 0, none⟩]), (4, [⟨b4, 1, none⟩]), (8, [⟨blkOf A2, offOf A2 + i1 * 1, none⟩]), (11, [⟨b5, 0, none⟩]), (13, [⟨b4, 1, none⟩]), (15, [⟨b5, 2, none⟩]), (20, [⟨b4, 0, none⟩])] (.vals [0] (.vals [1] (.vals [2] (.vals [3] (.vals [4] (.vals [5] (.vals [6] (.vals [7] (.vals [8] (.vals [9] (.vals [10] (.vals [11] (.vals [12] (.vals [13] (.vals [14] (.vals [15] (.vals [16] (.vals [17] (.vals [18] (.vals [19] (.vals [20] (.vals [21] (.vals [22] (.alt 23 1 (.alt 24 2 (.vals [25] .fin) .nomore) .nomore)))))))))))))))))))))))) (by kernel_rfl) ?_
          have hS121 := hS120.drew
          refine go2_batch [0, 1] (ans := []) (vs := [(87, .pointer (some ⟨b4, 0, none⟩)), (86, (.slice Z1 m1.length cz1))]) (l := []) (by kernel_rfl) trivial mem_nil ?_
          refine go2_batch [2] (ans := [.val (.int .i64 e1.Task)]) (vs := [(88, .int .i64 e1.Task)]) (l := [.loaded ⟨b4, 0, none⟩ (.int .i64 e1.Task)]) (by kernel_rfl) ⟨hS121.cell 1 rfl rfl, trivial⟩ (mem_one (by kernel_rfl)) ?_
          refine go2_batch [3] (ans := []) (vs := [(89, .pointer (some ⟨b4, 1, none⟩))]) (l := []) (by kernel_rfl) trivial mem_nil ?_
          refine go2_batch [4] (ans := [.val (.int .i64 e1.At)]) (vs := [(90, .int .i64 e1.At)]) (l := [.loaded ⟨b4, 1, none⟩ (.int .i64 e1.At)]) (by kernel_rfl) ⟨hS121.cell 1 rfl rfl, trivial⟩ (mem_one (by kernel_rfl)) ?_
          refine go2_batch [5, 6] (ans := []) (vs := [(92, .int .i64 (i1 : Int)), (91, .slice A2 l2.length c2)]) (l := []) (by kernel_rfl) trivial mem_nil ?_
          rcases hx9 : l2[i1]? with _ | e4
          · rw [hx9] at h; cases h
          rw [hx9] at h
          simp only [] at h
          refine go2_index (d := 93) (ty := 0) (t := 24) (el := 3) (sz := 1) (m := l2.length) (c := c2) (x := (.tmp 91)) (y := (.tmp 92)) (A := A2) (k' := .i64) (j := (i1 : Int)) (jn := i1) (b0 := blkOf A2) (o0 := offOf A2) (by kernel_rfl) (by kernel_rfl) (by kernel_rfl) (by kernel_rfl) (by kernel_rfl) ((hS121.rd hR2).eqSome (pos_of_get hx9)) rfl (lt_of_get hx9) ?_
          refine go2_batch [8] (ans := [.val (.int .i64 e4)]) (vs := [(94, .int .i64 e4)]) (l := [.loaded ⟨blkOf A2, offOf A2 + i1 * 1, none⟩ (.int .i64 e4)]) (by kernel_rfl) ⟨RdL.cell (j := 0) (hS121.rd hR2) hx9 rfl, trivial⟩ (mem_one (by kernel_rfl)) ?_
          refine go2_batch [9, 10] (ans := []) (vs := [(96, .pointer (some ⟨b5, 0, none⟩)), (95, .int .i64 (IntKind.i64.wrap (e1.At + e4)))]) (l := []) (by kernel_rfl) trivial mem_nil ?_
          refine go2_batch [11] (ans := [.val (.int .i64 e2.C)]) (vs := [(97, .int .i64 e2.C)]) (l := [.loaded ⟨b5, 0, none⟩ (.int .i64 e2.C)]) (by kernel_rfl) ⟨hS121.cell 0 rfl rfl, trivial⟩ (mem_one (by kernel_rfl)) ?_
          refine go2_batch [12] (ans := []) (vs := [(98, .pointer (some ⟨b4, 1, none⟩))]) (l := []) (by kernel_rfl) trivial mem_nil ?_
          refine go2_batch [13] (ans := [.val (.int .i64 e1.At)]) (vs := [(99, .int .i64 e1.At)]) (l := [.loaded ⟨b4, 1, none⟩ (.int .i64 e1.At)]) (by kernel_rfl) ⟨hS121.cell 1 rfl rfl, trivial⟩ (mem_one (by kernel_rfl)) ?_
          refine go2_batch [14] (ans := []) (vs := [(100, .pointer (some ⟨b5, 2, none⟩))]) (l := []) (by kernel_rfl) trivial mem_nil ?_
          refine go2_batch [15] (ans := [.val (.int .i64 e2.D)]) (vs := [(101, .int .i64 e2.D)]) (l := [.loaded ⟨b5, 2, none⟩ (.int .i64 e2.D)]) (by kernel_rfl) ⟨hS121.cell 0 rfl rfl, trivial⟩ (mem_one (by kernel_rfl)) ?_
          refine go2_batch [16, 17, 18, 19] (ans := []) (vs := [(105, .pointer (some ⟨b4, 0, none⟩)), (104, .int .i64 (l0.length : Int)), (103, .slice A0 l0.length c0), (102, .int .i64 (IntKind.i64.wrap (e1.At + e2.D)))]) (l := []) (by kernel_rfl) trivial mem_nil ?_
          refine go2_batch [20] (ans := [.val (.int .i64 e1.Task)]) (vs := [(106, .int .i64 e1.Task)]) (l := [.loaded ⟨b4, 0, none⟩ (.int .i64 e1.Task)]) (by kernel_rfl) ⟨hS121.cell 1 rfl rfl, trivial⟩ (mem_one (by kernel_rfl)) ?_
          refine go2_batch [21, 22] (ans := []) (vs := [(108, .agg #[.int .i64 e1.Task, .int .i64 (IntKind.i64.wrap (e1.At + e4)), .int .i64 e2.C, .int .i64 (IntKind.i64.wrap (e1.At + e2.D)), .int .i64 (IntKind.i64.wrap ((l0.length : Int) - e1.Task))]), (107, .int .i64 (IntKind.i64.wrap ((l0.length : Int) - e1.Task)))]) (l := []) (by kernel_rfl) trivial mem_nil ?_
          refine go_alt2 (fun KK hKK => ?_) ?_
          · refine ge_one2 ?_
            refine ge_new (d := some 109) (o := .cells #[.int .i64 e1.Task, .int .i64 (IntKind.i64.wrap (e1.At + e4)), .int .i64 e2.C, .int .i64 (IntKind.i64.wrap (e1.At + e2.D)), .int .i64 (IntKind.i64.wrap ((l0.length : Int) - e1.Task))] 58) (v := fun b => .slice (some ⟨b, 0, none⟩) 1 1) hS121 (fun b => by kernel_rfl) fun b6 w29 hx10 hS122 => ?_
            refine ge_nil fun a hF => hKK _ _ (RS.of2 (l := [.loaded ⟨b4, 0, none⟩ (.int .i64 e1.Task), .loaded ⟨b4, 1, none⟩ (.int .i64 e1.At), .loaded ⟨blkOf A2, offOf A2 + i1 * 1, none⟩ (.int .i64 e4), .loaded ⟨b5, 0, none⟩ (.int .i64 e2.C), .loaded ⟨b4, 1, none⟩ (.int .i64 e1.At), .loaded ⟨b5, 2, none⟩ (.int .i64 e2.D), .loaded ⟨b4, 0, none⟩ (.int .i64 e1.Task)]) (by kernel_rfl) ⟨hS121.cell 1 rfl rfl, hS121.cell 1 rfl rfl, RdL.cell (j := 0) (hS121.rd hR2) hx9 rfl, hS121.cell 0 rfl rfl, hS121.cell 1 rfl rfl, hS121.cell 0 rfl rfl, hS121.cell 1 rfl rfl, trivial⟩ ⟨hS122.cell 2 rfl rfl, hS122.cell 2 rfl rfl, RdL.cell (j := 0) (hS122.rd hR2) hx9 rfl, hS122.cell 1 rfl rfl, hS122.cell 2 rfl rfl, hS122.cell 1 rfl rfl, hS122.cell 2 rfl rfl, trivial⟩) ?_ a hF
            refine go_alt2 (fun KK hKK => ?_) ?_
            · have hS123 := hS122.bring 5 rfl
              by_cases hc12 : m1.length < 3518437208883
              · rw [if_pos hc12] at h
                refine ge_append (α := SJob) (m := 0) (d := 110) (t := 49) (el := 58) (bytes := 40) (c1 := 1) (b1 := b6) (x := (.tmp 86)) (y := (.tmp 109)) (ty := 49) (v := (.slice Z1 m1.length cz1)) (z := .agg #[.int .i64 0, .int .i64 0, .int .i64 0, .int .i64 0, .int .i64 0]) (l := m1) (u := (⟨e1.Task, IntKind.i64.wrap (e1.At + e4), e2.C, IntKind.i64.wrap (e1.At + e2.D), IntKind.i64.wrap ((l0.length : Int) - e1.Task)⟩ : SJob)) (by kernel_rfl) (by kernel_rfl) (by kernel_rfl) (by kernel_rfl) (by kernel_rfl) rfl hS123 rfl (by omega) fun v3 w30 hS124 => ?_
                refine ge_nil fun a hF => hKK _ _ (RS.of2 (l := [.loaded ⟨b4, 0, none⟩ (.int .i64 e1.Task), .loaded ⟨b4, 1, none⟩ (.int .i64 e1.At), .loaded ⟨blkOf A2, offOf A2 + i1 * 1, none⟩ (.int .i64 e4), .loaded ⟨b5, 0, none⟩ (.int .i64 e2.C), .loaded ⟨b4, 1, none⟩ (.int .i64 e1.At), .loaded ⟨b5, 2, none⟩ (.int .i64 e2.D), .loaded ⟨b4, 0, none⟩ (.int .i64 e1.Task)]) (by kernel_rfl) ⟨hS122.cell 2 rfl rfl, hS122.cell 2 rfl rfl, RdL.cell (j := 0) (hS122.rd hR2) hx9 rfl, hS122.cell 1 rfl rfl, hS122.cell 2 rfl rfl, hS122.cell 1 rfl rfl, hS122.cell 2 rfl rfl, trivial⟩ ⟨hS124.cell 2 rfl rfl, hS124.cell 2 rfl rfl, RdL.cell (j := 0) (hS124.rd hR2) hx9 rfl, hS124.cell 1 rfl rfl, hS124.cell 2 rfl rfl, hS124.cell 1 rfl rfl, hS124.cell 2 rfl rfl, trivial⟩) ?_ a hF
                refine go2_batch [25] (ans := []) (vs := [(11, v3)]) (l := []) (by kernel_rfl) trivial mem_nil ?_
                refine go_fin2 fun a hF => hK14 _ _ ?_ a hF
                refine we_region [(0, 0), (1, 0)] rfl ?_
                refine ge_addn (d := 111) (ty := 3) (x := (.tmp 36)) (y := (.const (.int .i64 1))) (t := 3) (t2 := 3) (k := .i64) (m := i1) (by kernel_rfl) (by kernel_rfl) (by kernel_rfl) (by have h0 := hR1.small; omega) ?_
                refine ge_batch [1] (ans := []) (vs := [(36, .int .i64 ((i1 + 1 : Nat) : Int))]) (l := []) (by kernel_rfl) trivial ?_
                have hS125 := hS124.bring 4 rfl
                have hS126 := hS125.bring 4 rfl
                have hS127 := hS126.takeN 3
                obtain rfl := Option.some.inj h
                exact ge_nil fun a hF => hQ _ _ _ (Outs.again ⟨v3, hS127, hF.weaken ⟨by kernel_rfl, by kernel_rfl, by kernel_rfl, by kernel_rfl, by kernel_rfl, by kernel_rfl, by kernel_rfl, by kernel_rfl, by kernel_rfl, trivial⟩⟩)
              · rw [if_neg hc12] at h
                cases h
            exact go_nomore2
          exact go_nomore2
        · rw [hq4] at h
          simp only [] at h
          refine we_keep (e' := [(0, .slice A0 l0.length c0), (2, .slice A2 l2.length c2), (3, .int .i64 x3), (8, .pointer (some ⟨b1, 0, none⟩)), (9, .pointer (some ⟨b2, 0, none⟩)), (11, (.slice Z1 m1.length cz1)), (12, .int .i64 (i1 : Int)), (13, .pointer (some ⟨b4, 0, none⟩)), (14, .pointer (some ⟨b5, 0, none⟩)), (34, .slice A1 l1.length c1), (35, .int .i64 (l1.length : Int)), (36, .int .i64 (i1 : Int)), (54, .slice A0 l0.length c0), (55, .pointer (some ⟨b4, 0, none⟩)), (56, .int .i64 e1.Task), (57, .pointer (some ⟨blkOf A0, offOf A0 + (e1.Task).toNat * 4, none⟩)), (58, .agg #[.int .i64 e2.C, .int .i64 e2.T, .int .i64 e2.D, .int .i64 e2.J])]) ⟨by kernel_rfl, by kernel_rfl, by kernel_rfl, by kernel_rfl, by kernel_rfl, by kernel_rfl, by kernel_rfl, by kernel_rfl, by kernel_rfl, by kernel_rfl, by kernel_rfl, by kernel_rfl, by kernel_rfl, by kernel_rfl, by kernel_rfl, by kernel_rfl, by kernel_rfl, trivial⟩ (net_Send_p3 K w0 l0 A0 c0 l1 A1 c1 l2 A2 c2 x3 hR0 hL0 hR1 hL1 hR2 hL2 b1 b2 r1 b3 hc1 m1 i1 hc4 e1 hx4 b4 Z1 cz1 hc7 e2 hx6 b5 _ hq4 _ hS69 _ ?_)
          rintro _ a w1 ⟨_, rfl, hb⟩
          obtain rfl := Option.some.inj h
          exact hQ _ _ _ (Outs.out nofun (Exits.on ⟨rfl, hb⟩))
      · rw [if_neg hc7] at h
        cases h
    · rw [hq3] at h
      simp only [] at h
      refine we_keep (e' := [(0, .slice A0 l0.length c0), (2, .slice A2 l2.length c2), (3, .int .i64 x3), (8, .pointer (some ⟨b1, 0, none⟩)), (9, .pointer (some ⟨b2, 0, none⟩)), (11, (.slice Z1 m1.length cz1)), (12, .int .i64 (i1 : Int)), (13, .pointer (some ⟨b4, 0, none⟩)), (34, .slice A1 l1.length c1), (35, .int .i64 (l1.length : Int)), (36, .int .i64 (i1 : Int)), (37, .bool true), (38, .int .i64 (i1 : Int)), (39, .pointer (some ⟨blkOf A1, offOf A1 + i1 * 2, none⟩)), (40, .agg #[.int .i64 e1.Task, .int .i64 e1.At])]) ⟨by kernel_rfl, by kernel_rfl, by kernel_rfl, by kernel_rfl, by kernel_rfl, by kernel_rfl, by kernel_rfl, by kernel_rfl, by kernel_rfl, by kernel_rfl, by kernel_rfl, by kernel_rfl, by kernel_rfl, by kernel_rfl, by kernel_rfl, trivial⟩ (net_Send_p2 K w0 l0 A0 c0 l1 A1 c1 l2 A2 c2 x3 hR0 hL0 hR1 hL1 hR2 hL2 b1 b2 r1 b3 hc1 m1 i1 hc4 e1 hx4 b4 Z1 cz1 _ hq3 _ hS39 _ ?_)
      rintro _ a w1 ⟨_, rfl, hb⟩
      obtain rfl := Option.some.inj h
      exact hQ _ _ _ (Outs.out nofun (Exits.on ⟨rfl, hb⟩))
  · rw [if_neg hc4] at h
    refine we_known (t := 37) (b := decide ((i1 : Int) < (l1.length : Int))) (v := false) (by kernel_rfl) (decide_eq_false hc4) ?_
    refine we_false (by kernel_rfl) ?_
    have hS128 := hS.bring 2 rfl
    have hS129 := hS128.bring 2 rfl
    have hS130 := hS129.bring 2 rfl
    obtain rfl := Option.some.inj h
    exact we_exit fun a hF => hQ _ _ _ (Outs.out nofun (Exits.here ⟨v1, hS130, hF.weaken ⟨by kernel_rfl, by kernel_rfl, by kernel_rfl, by kernel_rfl, trivial⟩⟩))
abbrev net_Send.A4 (K : Nat) (w0 : World) (l0 : List SFrame) (A0 : Option Addr) (c0 : Nat) (l1 : List SCome) (A1 : Option Addr) (c1 : Nat) (l2 : List Int) (A2 : Option Addr) (c2 : Nat) (x3 : Int) (hR0 : RdL w0 A0 l0) (hL0 : l0.length ≤ c0) (hR1 : RdL w0 A1 l1) (hL1 : l1.length ≤ c1) (hR2 : RdL w0 A2 l2) (hL2 : l2.length ≤ c2) (b1 : Nat) (b2 : Nat) (r1 : SFault) (b3 : Nat) (hc1 : ¬ (r1.Code = 0)) : (Int × Int × (List Int) × (List Int)) → Act → World → Prop := fun (s : Int × Int × (List Int) × (List Int)) a w => ∃ (v7 : Value) (v8 : Value), St w0 w [Own.blk b2 (.cells #[.int .i64 s.1, .int .i64 s.2.1] 39 (0, 0)), Own.blk b1 (.cells #[v7, v8] 36 (0, 0)), Own.of v7 3 s.2.2.1, Own.of v8 3 s.2.2.2] ∧ Frm 117 a [(8, .pointer (some ⟨b1, 0, none⟩)), (9, .pointer (some ⟨b2, 0, none⟩))]
abbrev net_Send.B4 (K : Nat) (w0 : World) (l0 : List SFrame) (A0 : Option Addr) (c0 : Nat) (l1 : List SCome) (A1 : Option Addr) (c1 : Nat) (l2 : List Int) (A2 : Option Addr) (c2 : Nat) (x3 : Int) (hR0 : RdL w0 A0 l0) (hL0 : l0.length ≤ c0) (hR1 : RdL w0 A1 l1) (hL1 : l1.length ≤ c1) (hR2 : RdL w0 A2 l2) (hL2 : l2.length ≤ c2) (b1 : Nat) (b2 : Nat) (r1 : SFault) (b3 : Nat) (hc1 : ¬ (r1.Code = 0)) : (SPlayed × SFault) → Exit → Act → World → Prop := Rets Tryd.prog Tryd.f16 (net_Send.Post w0)
theorem net_Send_p4 (K : Nat) (w0 : World) (l0 : List SFrame) (A0 : Option Addr) (c0 : Nat) (l1 : List SCome) (A1 : Option Addr) (c1 : Nat) (l2 : List Int) (A2 : Option Addr) (c2 : Nat) (x3 : Int) (hR0 : RdL w0 A0 l0) (hL0 : l0.length ≤ c0) (hR1 : RdL w0 A1 l1) (hL1 : l1.length ≤ c1) (hR2 : RdL w0 A2 l2) (hL2 : l2.length ≤ c2) (b1 : Nat) (b2 : Nat) (r1 : SFault) (b3 : Nat) (hc1 : ¬ (r1.Code = 0)) (o : (Int × Int × (List Int) × (List Int)) ⊕ (SPlayed × SFault)) (h : net_Send.p4 r1 = some o) (w : World) (hS : St w0 w [Own.blk b3 (.cells #[.int .i64 r1.Code, .int .i64 r1.At] 39 (0, 0)), Own.blk b2 (.cells #[.int .i64 0, .int .i64 0] 39 (0, 0)), Own.blk b1 (.cells #[.slice none 0 0, .slice none 0 0] 36 (0, 0))]) (Q : Exit → Act → World → Prop) (hQ : ∀ x a w, Outs (net_Send.A4 K w0 l0 A0 c0 l1 A1 c1 l2 A2 c2 x3 hR0 hL0 hR1 hL1 hR2 hL2 b1 b2 r1 b3 hc1) (net_Send.B4 K w0 l0 A0 c0 l1 A1 c1 l2 A2 c2 x3 hR0 hL0 hR1 hL1 hR2 hL2 b1 b2 r1 b3 hc1) o x a w → Q x a w) : WE Tryd.prog 117 (subF Tryd.f16 [1, 0, 1, 1, 0, 0]) Q [(0, .slice A0 l0.length c0), (1, .slice A1 l1.length c1), (2, .slice A2 l2.length c2), (3, .int .i64 x3), (8, .pointer (some ⟨b1, 0, none⟩)), (9, .pointer (some ⟨b2, 0, none⟩)), (10, .pointer (some ⟨b3, 0, none⟩)), (15, .slice A0 l0.length c0), (16, .agg #[.int .i64 r1.Code, .int .i64 r1.At]), (17, .pointer (some ⟨b3, 0, none⟩)), (18, .int .i64 r1.Code), (19, .bool true)] w := by
  simp only [net_Send.p4] at h
  refine we_orders2 (by kernel_rfl) [(1, [⟨b3, 0, none⟩, ⟨b3, 1, none⟩])] (.vals [0] (.vals [1] (.alt 2 2 (.alt 3 2 .fin .nomore) .nomore))) (by kernel_rfl) ?_
  have hS143 := hS.drew
  refine go2_batch [0] (ans := []) (vs := [(20, .agg #[.slice none 0 0, .slice none 0 0])]) (l := []) (by kernel_rfl) trivial mem_nil ?_
  refine go2_batch [1] (ans := [.val (.int .i64 r1.Code), .val (.int .i64 r1.At)]) (vs := [(21, .agg #[.int .i64 r1.Code, .int .i64 r1.At])]) (l := [.loaded ⟨b3, 0, none⟩ (.int .i64 r1.Code), .loaded ⟨b3, 1, none⟩ (.int .i64 r1.At)]) (by kernel_rfl) ⟨hS143.cell 0 rfl rfl, hS143.cell 0 rfl rfl, trivial⟩ (mem_one (by kernel_rfl)) ?_
  refine go_alt2 (fun KK hKK => ?_) ?_
  · have hS144 := hS143.bring 2 rfl
    refine ge_set (b := b1) (j := 0) (cs := #[.slice none 0 0, .slice none 0 0]) (t := 36) (vs := [.slice none 0 0, .slice none 0 0]) hS144 (by kernel_rfl) rfl rfl fun w35 hS145 => ?_
    have hS146 : St w0 w35 [Own.blk b1 (.cells #[.slice none 0 0, .slice none 0 0] 36 (0, 0)), Own.blk b3 (.cells #[.int .i64 r1.Code, .int .i64 r1.At] 39 (0, 0)), Own.blk b2 (.cells #[.int .i64 0, .int .i64 0] 39 (0, 0))] := hS145
    refine ge_nil fun a hF => hKK _ _ (RS.of2 (l := [.loaded ⟨b3, 0, none⟩ (.int .i64 r1.Code), .loaded ⟨b3, 1, none⟩ (.int .i64 r1.At)]) (by kernel_rfl) ⟨hS143.cell 0 rfl rfl, hS143.cell 0 rfl rfl, trivial⟩ ⟨hS146.cell 1 rfl rfl, hS146.cell 1 rfl rfl, trivial⟩) ?_ a hF
    refine go_alt2 (fun KK hKK => ?_) ?_
    · have hS147 := hS146.bring 2 rfl
      refine ge_set (b := b2) (j := 0) (cs := #[.int .i64 0, .int .i64 0]) (t := 39) (vs := [.int .i64 r1.Code, .int .i64 r1.At]) hS147 (by kernel_rfl) rfl rfl fun w36 hS148 => ?_
      have hS149 : St w0 w36 [Own.blk b2 (.cells #[.int .i64 r1.Code, .int .i64 r1.At] 39 (0, 0)), Own.blk b1 (.cells #[.slice none 0 0, .slice none 0 0] 36 (0, 0)), Own.blk b3 (.cells #[.int .i64 r1.Code, .int .i64 r1.At] 39 (0, 0))] := hS148
      refine ge_nil fun a hF => hKK _ _ (RS.of2 (l := []) (by kernel_rfl) trivial trivial) ?_ a hF
      have hS150 := hS149.nil (α := Int) 3
      have hS151 := hS150.nil (α := Int) 3
      have hS152 := hS151.bring 1 rfl
      have hS153 := hS152.bring 1 rfl
      have hS154 := hS153.bring 3 rfl
      have hS155 := hS154.bring 3 rfl
      have hS156 := hS155.takeN 4
      obtain rfl := Option.some.inj h
      exact go_fin2 fun a hF => hQ _ _ _ (Outs.again ⟨(.slice none 0 0), (.slice none 0 0), hS156, hF.weaken ⟨by kernel_rfl, by kernel_rfl, trivial⟩⟩)
    exact go_nomore2
  exact go_nomore2
theorem net_Send_ok (K : Nat) (l0 : List SFrame) (A0 : Option Addr) (c0 : Nat) (l1 : List SCome) (A1 : Option Addr) (c1 : Nat) (l2 : List Int) (A2 : Option Addr) (c2 : Nat) (x3 : Int) (w0 : World) (hR0 : RdL w0 A0 l0) (hL0 : l0.length ≤ c0) (hR1 : RdL w0 A1 l1) (hL1 : l1.length ≤ c1) (hR2 : RdL w0 A2 l2) (hL2 : l2.length ≤ c2) (r : SPlayed × SFault) (h : net_Send.f K l0 l1 l2 x3 = some r) :
    Calls Tryd.prog 16 #[.slice A0 l0.length c0, .slice A1 l1.length c1, .slice A2 l2.length c2, .int .i64 x3] w0 (net_Send.Post w0 r) := by
  have hS := St.start w0
  unfold net_Send.f at h
  refine calls_enter (n := 117) (args := [.slice A0 l0.length c0, .slice A1 l1.length c1, .slice A2 l2.length c2, .int .i64 x3]) (fn := Tryd.f16) rfl rfl rfl rfl ?_
  show WE _ _ _ _ [(0, .slice A0 l0.length c0), (1, .slice A1 l1.length c1), (2, .slice A2 l2.length c2), (3, .int .i64 x3)] _
  refine we_seq fun K1 hK1 => ?_
  refine we_region [(0, 1), (1, 1)] rfl ?_
  refine ge_new (d := some 8) (o := .cells #[.slice none 0 0, .slice none 0 0] 36) (v := fun b => .pointer (some ⟨b, 0, none⟩)) hS (fun b => by kernel_rfl) fun b1 w1 hx1 hS1 => ?_
  refine ge_new (d := some 9) (o := .cells #[.int .i64 0, .int .i64 0] 39) (v := fun b => .pointer (some ⟨b, 0, none⟩)) hS1 (fun b => by kernel_rfl) fun b2 w2 hx2 hS2 => ?_
  refine ge_nil fun a hF => hK1 _ _ ?_ a hF
  refine we_seq fun K2 hK2 => ?_
  refine we_seq fun K3 hK3 => ?_
  refine we_region [(0, 0), (1, 1), (2, 1), (3, 2)] rfl ?_
  rcases hq1 : net_Check.f K l0 with _ | r1
  · rw [hq1] at h; cases h
  rw [hq1] at h
  simp only [] at h
  refine ge_batch [0] (ans := []) (vs := [(15, .slice A0 l0.length c0)]) (l := []) (by kernel_rfl) trivial ?_
  refine ge_call (d := some 16) (f := 71) (args := #[.slice A0 l0.length c0]) (by kernel_rfl) (net_Check_ok K l0 A0 c0 _ (hS2.rd hR0) hL0 _ hq1) ?_
  rintro _ w3 ⟨rfl, hS3⟩
  refine ⟨_, rfl, hS3.below, ?_⟩
  have hS4 := hS2.call hS3
  refine ge_new (d := some 10) (o := .cells #[.int .i64 0, .int .i64 0] 39) (v := fun b => .pointer (some ⟨b, 0, none⟩)) hS4 (fun b => by kernel_rfl) fun b3 w4 hx3 hS5 => ?_
  refine ge_set (b := b3) (j := 0) (cs := #[.int .i64 0, .int .i64 0]) (t := 39) (vs := [.int .i64 r1.Code, .int .i64 r1.At]) hS5 (by kernel_rfl) rfl rfl fun w5 hS6 => ?_
  have hS7 : St w0 w5 [Own.blk b3 (.cells #[.int .i64 r1.Code, .int .i64 r1.At] 39 (0, 0)), Own.blk b2 (.cells #[.int .i64 0, .int .i64 0] 39 (0, 0)), Own.blk b1 (.cells #[.slice none 0 0, .slice none 0 0] 36 (0, 0))] := hS6
  refine ge_nil fun a hF => hK3 _ _ ?_ a hF
  refine we_seq fun K4 hK4 => ?_
  refine we_region [(0, 0), (1, 0), (2, 0)] rfl ?_
  refine ge_batch [0, 1, 2] (ans := [.val (.int .i64 r1.Code)]) (vs := [(19, .bool (r1.Code != 0)), (18, .int .i64 r1.Code), (17, .pointer (some ⟨b3, 0, none⟩))]) (l := [.loaded ⟨b3, 0, none⟩ (.int .i64 r1.Code)]) (by kernel_rfl) ⟨hS7.cell 0 rfl rfl, trivial⟩ ?_
  refine ge_nil fun a hF => hK4 _ _ ?_ a hF
  by_cases hc1 : r1.Code = 0
  · rw [if_pos hc1] at h
    refine we_known (t := 19) (b := (r1.Code != 0)) (v := false) (by kernel_rfl) (bne_eq_false_iff_eq.2 hc1) ?_
    refine we_false (by kernel_rfl) ?_
    refine we_skip fun a hF => hK2 _ _ ?_ a hF
    refine we_seq fun K5 hK5 => ?_
    rcases hq2 : net_Send.p0 l1 l2 with _ | (_ | rr4)
    · rw [hq2] at h; cases h
    · rw [hq2] at h
      simp only [] at h
      refine we_keep (e' := [(0, .slice A0 l0.length c0), (1, .slice A1 l1.length c1), (2, .slice A2 l2.length c2), (3, .int .i64 x3), (8, .pointer (some ⟨b1, 0, none⟩)), (9, .pointer (some ⟨b2, 0, none⟩)), (10, .pointer (some ⟨b3, 0, none⟩)), (15, .slice A0 l0.length c0), (16, .agg #[.int .i64 r1.Code, .int .i64 r1.At]), (17, .pointer (some ⟨b3, 0, none⟩)), (18, .int .i64 r1.Code), (19, .bool false)]) ⟨by kernel_rfl, by kernel_rfl, by kernel_rfl, by kernel_rfl, by kernel_rfl, by kernel_rfl, by kernel_rfl, by kernel_rfl, by kernel_rfl, by kernel_rfl, by kernel_rfl, by kernel_rfl, trivial⟩ (net_Send_p0 K w0 l0 A0 c0 l1 A1 c1 l2 A2 c2 x3 hR0 hL0 hR1 hL1 hR2 hL2 b1 b2 r1 b3 hc1 _ hq2 _ hS7 _ ?_)
      rintro _ a w10 ⟨rfl, hS33, hF⟩
      replace hS33 : St w0 w10 [Own.blk b2 (.cells #[.int .i64 0, .int .i64 0] 39 (0, 0)), Own.blk b1 (.cells #[.slice none 0 0, .slice none 0 0] 36 (0, 0))] := hS33
      refine hK5 [(0, .slice A0 l0.length c0), (1, .slice A1 l1.length c1), (2, .slice A2 l2.length c2), (3, .int .i64 x3), (8, .pointer (some ⟨b1, 0, none⟩)), (9, .pointer (some ⟨b2, 0, none⟩))] w10 ?_ a hF
      refine we_seq fun K9 hK9 => ?_
      refine we_region [(0, 0)] rfl ?_
      refine ge_batch [0] (ans := []) (vs := [(11, .slice none 0 0)]) (l := []) (by kernel_rfl) trivial ?_
      refine ge_nil fun a hF => hK9 _ _ ?_ a hF
      refine we_seq fun K10 hK10 => ?_
      refine we_seq fun K11 hK11 => ?_
      refine we_region [(0, 0), (1, 0), (2, 0)] rfl ?_
      refine ge_batch [0, 1, 2] (ans := []) (vs := [(36, .int .i64 0), (35, .int .i64 (l1.length : Int)), (34, .slice A1 l1.length c1)]) (l := []) (by kernel_rfl) trivial ?_
      refine ge_nil fun a hF => hK11 _ _ ?_ a hF
      refine we_block ?_
      have hS34 := hS33.nil (α := SJob) 58
      have hS35 := hS34.bring 2 rfl
      have hS36 := hS35.bring 2 rfl
      rcases hq5 : iter (net_Send.r1 l0 l1 l2) K (([] : List SJob), 0) with _ | (m3 | rr3)
      · rw [hq5] at h; cases h
      · rw [hq5] at h
        simp only [] at h
        refine we_iter (A := net_Send.A1 K w0 l0 A0 c0 l1 A1 c1 l2 A2 c2 x3 hR0 hL0 hR1 hL1 hR2 hL2 b1 b2 r1 b3 hc1) (B := net_Send.B1 K w0 l0 A0 c0 l1 A1 c1 l2 A2 c2 x3 hR0 hL0 hR1 hL1 hR2 hL2 b1 b2 r1 b3 hc1) hq5 (fun a hF => ⟨(.slice none 0 0), hS36, hF.weaken ⟨by kernel_rfl, by kernel_rfl, by kernel_rfl, by kernel_rfl, by kernel_rfl, by kernel_rfl, by kernel_rfl, by kernel_rfl, by kernel_rfl, trivial⟩⟩) (fun s o hf a w hA Q hQ => net_Send_r1 K w0 l0 A0 c0 l1 A1 c1 l2 A2 c2 x3 hR0 hL0 hR1 hL1 hR2 hL2 b1 b2 r1 b3 hc1 s o hf a w hA Q hQ) ?_
        rintro _ a w31 _ ⟨rfl, v4, hS131, hF⟩
        replace hS131 : St w0 w31 [Own.blk b2 (.cells #[.int .i64 0, .int .i64 0] 39 (0, 0)), Own.blk b1 (.cells #[.slice none 0 0, .slice none 0 0] 36 (0, 0)), Own.of v4 58 m3] := hS131
        refine hK10 [(3, .int .i64 x3), (8, .pointer (some ⟨b1, 0, none⟩)), (9, .pointer (some ⟨b2, 0, none⟩)), (11, v4)] w31 ?_ a hF
        refine we_seq fun K27 hK27 => ?_
        refine we_region [(0, 0), (1, 0), (2, 1), (3, 0), (4, 0), (5, 2), (6, 2)] rfl ?_
        refine ge_batch [0, 1] (ans := []) (vs := [(113, .int .i64 x3), (112, v4)]) (l := []) (by kernel_rfl) trivial ?_
        obtain ⟨Z2, cz2, rfl⟩ := hS131.open 2 rfl
        rcases hq6 : sched_Play.f K m3 1 false x3 with _ | r2
        · rw [hq6] at h; cases h
        rw [hq6] at h
        simp only [] at h
        refine ge_call (d := some 114) (f := 72) (args := #[(.slice Z2 m3.length cz2), .int .i64 1, .bool false, .int .i64 x3]) (by kernel_rfl) (sched_Play_ok K m3 Z2 cz2 1 false x3 _ (hS131.rdAt 2 rfl) (hS131.capAt 2 rfl) _ hq6) ?_
        rintro _ w32 ⟨v5, v6, rfl, hS132⟩
        refine ⟨_, rfl, hS132.below, ?_⟩
        have hS133 := hS131.call hS132
        refine ge_batch [3, 4] (ans := []) (vs := [(116, .agg #[.int .i64 r2.2.Code, .int .i64 r2.2.At]), (115, .agg #[v5, v6])]) (l := []) (by kernel_rfl) trivial ?_
        obtain ⟨Z3, cz3, rfl⟩ := hS133.open 0 rfl
        obtain ⟨Z4, cz4, rfl⟩ := hS133.open 1 rfl
        have hS134 := hS133.bring 3 rfl
        refine ge_set (b := b1) (j := 0) (cs := #[.slice none 0 0, .slice none 0 0]) (t := 36) (vs := [(.slice Z3 r2.1.Runs.length cz3), (.slice Z4 r2.1.Ends.length cz4)]) hS134 (by kernel_rfl) rfl rfl fun w33 hS135 => ?_
        have hS136 : St w0 w33 [Own.blk b1 (.cells #[(.slice Z3 r2.1.Runs.length cz3), (.slice Z4 r2.1.Ends.length cz4)] 36 (0, 0)), Own.of (.slice Z3 r2.1.Runs.length cz3) 3 r2.1.Runs, Own.of (.slice Z4 r2.1.Ends.length cz4) 3 r2.1.Ends, Own.blk b2 (.cells #[.int .i64 0, .int .i64 0] 39 (0, 0)), Own.of (.slice Z2 m3.length cz2) 58 m3] := hS135
        have hS137 := hS136.bring 3 rfl
        refine ge_set (b := b2) (j := 0) (cs := #[.int .i64 0, .int .i64 0]) (t := 39) (vs := [.int .i64 r2.2.Code, .int .i64 r2.2.At]) hS137 (by kernel_rfl) rfl rfl fun w34 hS138 => ?_
        have hS139 : St w0 w34 [Own.blk b2 (.cells #[.int .i64 r2.2.Code, .int .i64 r2.2.At] 39 (0, 0)), Own.blk b1 (.cells #[(.slice Z3 r2.1.Runs.length cz3), (.slice Z4 r2.1.Ends.length cz4)] 36 (0, 0)), Own.of (.slice Z3 r2.1.Runs.length cz3) 3 r2.1.Runs, Own.of (.slice Z4 r2.1.Ends.length cz4) 3 r2.1.Ends, Own.of (.slice Z2 m3.length cz2) 58 m3] := hS138
        refine ge_nil fun a hF => hK27 _ _ ?_ a hF
        have hS140 := hS139.bring 3 rfl
        have hS141 := hS140.bring 3 rfl
        have hS142 := hS141.takeN 2
        obtain rfl := Option.some.inj h
        exact we_ret (post_ret (rs := [.cell 8 36, .cell 9 39]) (ans := [.val ((.slice Z3 r2.1.Runs.length cz3)), .val ((.slice Z4 r2.1.Ends.length cz4)), .val (.int .i64 r2.2.Code), .val (.int .i64 r2.2.At)]) (vs := [.agg #[(.slice Z3 r2.1.Runs.length cz3), (.slice Z4 r2.1.Ends.length cz4)], .agg #[.int .i64 r2.2.Code, .int .i64 r2.2.At]]) (l := [.loaded ⟨b1, 0, none⟩ ((.slice Z3 r2.1.Runs.length cz3)), .loaded ⟨b1, 1, none⟩ ((.slice Z4 r2.1.Ends.length cz4)), .loaded ⟨b2, 0, none⟩ (.int .i64 r2.2.Code), .loaded ⟨b2, 1, none⟩ (.int .i64 r2.2.At)]) rfl (by kernel_rfl) ⟨hS139.cell 1 rfl rfl, hS139.cell 1 rfl rfl, hS139.cell 0 rfl rfl, hS139.cell 0 rfl rfl, trivial⟩ ⟨(.slice Z3 r2.1.Runs.length cz3), (.slice Z4 r2.1.Ends.length cz4), rfl, hS142⟩)
      · rw [hq5] at h
        simp only [] at h
        refine we_iter (A := net_Send.A1 K w0 l0 A0 c0 l1 A1 c1 l2 A2 c2 x3 hR0 hL0 hR1 hL1 hR2 hL2 b1 b2 r1 b3 hc1) (B := net_Send.B1 K w0 l0 A0 c0 l1 A1 c1 l2 A2 c2 x3 hR0 hL0 hR1 hL1 hR2 hL2 b1 b2 r1 b3 hc1) hq5 (fun a hF => ⟨(.slice none 0 0), hS36, hF.weaken ⟨by kernel_rfl, by kernel_rfl, by kernel_rfl, by kernel_rfl, by kernel_rfl, by kernel_rfl, by kernel_rfl, by kernel_rfl, by kernel_rfl, trivial⟩⟩) (fun s o hf a w hA Q hQ => net_Send_r1 K w0 l0 A0 c0 l1 A1 c1 l2 A2 c2 x3 hR0 hL0 hR1 hL1 hR2 hL2 b1 b2 r1 b3 hc1 s o hf a w hA Q hQ) ?_
        rintro _ a w1 _ ⟨rfl, hb⟩
        obtain rfl := Option.some.inj h
        exact hb
    · rw [hq2] at h
      simp only [] at h
      refine we_keep (e' := [(0, .slice A0 l0.length c0), (1, .slice A1 l1.length c1), (2, .slice A2 l2.length c2), (3, .int .i64 x3), (8, .pointer (some ⟨b1, 0, none⟩)), (9, .pointer (some ⟨b2, 0, none⟩)), (10, .pointer (some ⟨b3, 0, none⟩)), (15, .slice A0 l0.length c0), (16, .agg #[.int .i64 r1.Code, .int .i64 r1.At]), (17, .pointer (some ⟨b3, 0, none⟩)), (18, .int .i64 r1.Code), (19, .bool false)]) ⟨by kernel_rfl, by kernel_rfl, by kernel_rfl, by kernel_rfl, by kernel_rfl, by kernel_rfl, by kernel_rfl, by kernel_rfl, by kernel_rfl, by kernel_rfl, by kernel_rfl, by kernel_rfl, trivial⟩ (net_Send_p0 K w0 l0 A0 c0 l1 A1 c1 l2 A2 c2 x3 hR0 hL0 hR1 hL1 hR2 hL2 b1 b2 r1 b3 hc1 _ hq2 _ hS7 _ ?_)
      rintro _ a w1 ⟨_, rfl, hb⟩
      obtain rfl := Option.some.inj h
      exact hb
  · rw [if_neg hc1] at h
    refine we_known (t := 19) (b := (r1.Code != 0)) (v := true) (by kernel_rfl) (bne_iff_ne.2 hc1) ?_
    refine we_true (by kernel_rfl) ?_
    refine we_seq fun K28 hK28 => ?_
    rcases hq7 : net_Send.p4 r1 with _ | (⟨z3, z4, m6, m7⟩ | rr5)
    · rw [hq7] at h; cases h
    · rw [hq7] at h
      simp only [] at h
      refine we_keep (e' := [(0, .slice A0 l0.length c0), (1, .slice A1 l1.length c1), (2, .slice A2 l2.length c2), (3, .int .i64 x3), (8, .pointer (some ⟨b1, 0, none⟩)), (9, .pointer (some ⟨b2, 0, none⟩)), (10, .pointer (some ⟨b3, 0, none⟩)), (15, .slice A0 l0.length c0), (16, .agg #[.int .i64 r1.Code, .int .i64 r1.At]), (17, .pointer (some ⟨b3, 0, none⟩)), (18, .int .i64 r1.Code), (19, .bool true)]) ⟨by kernel_rfl, by kernel_rfl, by kernel_rfl, by kernel_rfl, by kernel_rfl, by kernel_rfl, by kernel_rfl, by kernel_rfl, by kernel_rfl, by kernel_rfl, by kernel_rfl, by kernel_rfl, trivial⟩ (net_Send_p4 K w0 l0 A0 c0 l1 A1 c1 l2 A2 c2 x3 hR0 hL0 hR1 hL1 hR2 hL2 b1 b2 r1 b3 hc1 _ hq7 _ hS7 _ ?_)
      rintro _ a w37 ⟨rfl, v9, v10, hS157, hF⟩
      replace hS157 : St w0 w37 [Own.blk b2 (.cells #[.int .i64 z3, .int .i64 z4] 39 (0, 0)), Own.blk b1 (.cells #[v9, v10] 36 (0, 0)), Own.of v9 3 m6, Own.of v10 3 m7] := hS157
      refine hK28 [(8, .pointer (some ⟨b1, 0, none⟩)), (9, .pointer (some ⟨b2, 0, none⟩))] w37 ?_ a hF
      have hS158 := hS157.bring 3 rfl
      have hS159 := hS158.bring 3 rfl
      have hS160 := hS159.takeN 2
      obtain rfl := Option.some.inj h
      exact we_ret (post_ret (rs := [.cell 8 36, .cell 9 39]) (ans := [.val (v9), .val (v10), .val (.int .i64 z3), .val (.int .i64 z4)]) (vs := [.agg #[v9, v10], .agg #[.int .i64 z3, .int .i64 z4]]) (l := [.loaded ⟨b1, 0, none⟩ (v9), .loaded ⟨b1, 1, none⟩ (v10), .loaded ⟨b2, 0, none⟩ (.int .i64 z3), .loaded ⟨b2, 1, none⟩ (.int .i64 z4)]) rfl (by kernel_rfl) ⟨hS157.cell 1 rfl rfl, hS157.cell 1 rfl rfl, hS157.cell 0 rfl rfl, hS157.cell 0 rfl rfl, trivial⟩ ⟨v9, v10, rfl, hS160⟩)
    · rw [hq7] at h
      simp only [] at h
      refine we_keep (e' := [(0, .slice A0 l0.length c0), (1, .slice A1 l1.length c1), (2, .slice A2 l2.length c2), (3, .int .i64 x3), (8, .pointer (some ⟨b1, 0, none⟩)), (9, .pointer (some ⟨b2, 0, none⟩)), (10, .pointer (some ⟨b3, 0, none⟩)), (15, .slice A0 l0.length c0), (16, .agg #[.int .i64 r1.Code, .int .i64 r1.At]), (17, .pointer (some ⟨b3, 0, none⟩)), (18, .int .i64 r1.Code), (19, .bool true)]) ⟨by kernel_rfl, by kernel_rfl, by kernel_rfl, by kernel_rfl, by kernel_rfl, by kernel_rfl, by kernel_rfl, by kernel_rfl, by kernel_rfl, by kernel_rfl, by kernel_rfl, by kernel_rfl, trivial⟩ (net_Send_p4 K w0 l0 A0 c0 l1 A1 c1 l2 A2 c2 x3 hR0 hL0 hR1 hL1 hR2 hL2 b1 b2 r1 b3 hc1 _ hq7 _ hS7 _ ?_)
      rintro _ a w1 ⟨_, rfl, hb⟩
      obtain rfl := Option.some.inj h
      exact hb

/-! punctual/punctualsame.Same[int] -/
abbrev punctualsame_Same_int.Post (w0 : World) (r : Bool) (e : Ending) (w : World) : Prop := e = .returned (.bool r) ∧ St w0 w []
def punctualsame_Same_int.r0 (l0 : List Int) (l1 : List Int) : Nat → Option (Nat ⊕ (Unit ⊕ Bool))
  | i1 =>
    if (i1 : Int) < (l0.length : Int) then
      match l0[i1]? with
      | none => none
      | some e1 =>
        match l1[i1]? with
        | none => none
        | some e2 =>
          if e1 = e2 then
            some (.inl (i1 + 1))
          else
            some (.inr (.inr false))
    else
      some (.inr (.inl ()))
def punctualsame_Same_int.f (K : Nat) (l0 : List Int) (l1 : List Int) : Option Bool :=
  if (l0.length : Int) = (l1.length : Int) then
    match iter (punctualsame_Same_int.r0 l0 l1) K 0 with
    | none => none
    | some (.inl _) =>
      some true
    | some (.inr rr1) =>
      some rr1
  else
    some false
abbrev punctualsame_Same_int.A0 (K : Nat) (w0 : World) (l0 : List Int) (A0 : Option Addr) (c0 : Nat) (l1 : List Int) (A1 : Option Addr) (c1 : Nat) (hR0 : RdL w0 A0 l0) (hL0 : l0.length ≤ c0) (hR1 : RdL w0 A1 l1) (hL1 : l1.length ≤ c1) (hc1 : (l0.length : Int) = (l1.length : Int)) : Nat → Act → World → Prop := fun (s : Nat) a w => St w0 w [] ∧ Frm 26 a [(0, .slice A0 l0.length c0), (1, .slice A1 l1.length c1), (12, .int .i64 (l0.length : Int)), (13, .int .i64 (s : Int))]
abbrev punctualsame_Same_int.B0 (K : Nat) (w0 : World) (l0 : List Int) (A0 : Option Addr) (c0 : Nat) (l1 : List Int) (A1 : Option Addr) (c1 : Nat) (hR0 : RdL w0 A0 l0) (hL0 : l0.length ≤ c0) (hR1 : RdL w0 A1 l1) (hL1 : l1.length ≤ c1) (hc1 : (l0.length : Int) = (l1.length : Int)) : (Unit ⊕ Bool) → Exit → Act → World → Prop := Exits 0 (fun (s : Unit) a w => St w0 w [] ∧ Frm 26 a []) (Rets Tryd.prog Tryd.f40 (punctualsame_Same_int.Post w0))
theorem punctualsame_Same_int_r0 (K : Nat) (w0 : World) (l0 : List Int) (A0 : Option Addr) (c0 : Nat) (l1 : List Int) (A1 : Option Addr) (c1 : Nat) (hR0 : RdL w0 A0 l0) (hL0 : l0.length ≤ c0) (hR1 : RdL w0 A1 l1) (hL1 : l1.length ≤ c1) (hc1 : (l0.length : Int) = (l1.length : Int)) (s : Nat) (o : Nat ⊕ (Unit ⊕ Bool)) (h : punctualsame_Same_int.r0 l0 l1 s = some o) (a : Act) (w : World) (hA : punctualsame_Same_int.A0 K w0 l0 A0 c0 l1 A1 c1 hR0 hL0 hR1 hL1 hc1 s a w) (Q : Exit → Act → World → Prop) (hQ : ∀ x a w, Outs (punctualsame_Same_int.A0 K w0 l0 A0 c0 l1 A1 c1 hR0 hL0 hR1 hL1 hc1) (punctualsame_Same_int.B0 K w0 l0 A0 c0 l1 A1 c1 hR0 hL0 hR1 hL1 hc1) o x a w → Q x a w) : (subF Tryd.f40 [1, 1, 0, 1, 0, 0]).wp Tryd.prog Q a w := by
  obtain ⟨i1, hs⟩ : ∃ z, z = s := ⟨s, rfl⟩
  subst hs
  obtain ⟨hS, hF⟩ := hA
  replace hS : St w0 w [] := hS
  simp only [punctualsame_Same_int.r0] at h
  refine (?_ : WE Tryd.prog 26 (subF Tryd.f40 [1, 1, 0, 1, 0, 0]) Q [(0, .slice A0 l0.length c0), (1, .slice A1 l1.length c1), (12, .int .i64 (l0.length : Int)), (13, .int .i64 (i1 : Int))] w) a hF
  clear hF a
  refine we_seq fun K6 hK6 => ?_
  refine we_region [(0, 0)] rfl ?_
  refine ge_batch [0] (ans := []) (vs := [(14, .bool (decide ((i1 : Int) < (l0.length : Int))))]) (l := []) (by kernel_rfl) trivial ?_
  refine ge_nil fun a hF => hK6 _ _ ?_ a hF
  refine we_seq fun K7 hK7 => ?_
  by_cases hc2 : (i1 : Int) < (l0.length : Int)
  · rw [if_pos hc2] at h
    refine we_known (t := 14) (b := decide ((i1 : Int) < (l0.length : Int))) (v := true) (by kernel_rfl) (decide_eq_true hc2) ?_
    refine we_true (by kernel_rfl) ?_
    refine we_skip fun a hF => hK7 _ _ ?_ a hF
    refine we_seq fun K8 hK8 => ?_
    refine we_block ?_
    refine we_seq fun K9 hK9 => ?_
    refine we_region [(0, 0), (1, 0)] rfl ?_
    refine ge_batch [0, 1] (ans := []) (vs := [(5, .int .i64 (i1 : Int)), (15, .int .i64 (i1 : Int))]) (l := []) (by kernel_rfl) trivial ?_
    refine ge_nil fun a hF => hK9 _ _ ?_ a hF
    refine we_seq fun K10 hK10 => ?_
    refine we_draws (by kernel_rfl) [(0, 0), (1, 0), (2, 0), (3, 0), (4, 0), (5, 0), (6, 0), (7, 0), (8, 0)] (by kernel_rfl) ?_
    have hS1 := hS.drew
    refine ge_batch [0, 1] (ans := []) (vs := [(17, .int .i64 (i1 : Int)), (16, .slice A0 l0.length c0)]) (l := []) (by kernel_rfl) trivial ?_
    rcases hx1 : l0[i1]? with _ | e1
    · rw [hx1] at h; cases h
    rw [hx1] at h
    simp only [] at h
    refine ge_index (d := 18) (ty := 0) (t := 24) (el := 3) (sz := 1) (m := l0.length) (c := c0) (x := (.tmp 16)) (y := (.tmp 17)) (A := A0) (k' := .i64) (j := (i1 : Int)) (jn := i1) (b0 := blkOf A0) (o0 := offOf A0) (by kernel_rfl) (by kernel_rfl) (by kernel_rfl) (by kernel_rfl) (by kernel_rfl) ((hS1.rd hR0).eqSome (pos_of_get hx1)) rfl (lt_of_get hx1) ?_
    refine ge_batch [3, 4, 5] (ans := [.val (.int .i64 e1)]) (vs := [(21, .int .i64 (i1 : Int)), (20, .slice A1 l1.length c1), (19, .int .i64 e1)]) (l := [.loaded ⟨blkOf A0, offOf A0 + i1 * 1, none⟩ (.int .i64 e1)]) (by kernel_rfl) ⟨RdL.cell (j := 0) (hS1.rd hR0) hx1 rfl, trivial⟩ ?_
    rcases hx2 : l1[i1]? with _ | e2
    · rw [hx2] at h; cases h
    rw [hx2] at h
    simp only [] at h
    refine ge_index (d := 22) (ty := 0) (t := 24) (el := 3) (sz := 1) (m := l1.length) (c := c1) (x := (.tmp 20)) (y := (.tmp 21)) (A := A1) (k' := .i64) (j := (i1 : Int)) (jn := i1) (b0 := blkOf A1) (o0 := offOf A1) (by kernel_rfl) (by kernel_rfl) (by kernel_rfl) (by kernel_rfl) (by kernel_rfl) ((hS1.rd hR1).eqSome (pos_of_get hx2)) rfl (lt_of_get hx2) ?_
    refine ge_batch [7, 8] (ans := [.val (.int .i64 e2)]) (vs := [(24, .bool (e1 != e2)), (23, .int .i64 e2)]) (l := [.loaded ⟨blkOf A1, offOf A1 + i1 * 1, none⟩ (.int .i64 e2)]) (by kernel_rfl) ⟨RdL.cell (j := 0) (hS1.rd hR1) hx2 rfl, trivial⟩ ?_
    refine ge_nil fun a hF => hK10 _ _ ?_ a hF
    by_cases hc3 : e1 = e2
    · rw [if_pos hc3] at h
      refine we_known (t := 24) (b := (e1 != e2)) (v := false) (by kernel_rfl) (bne_eq_false_iff_eq.2 hc3) ?_
      refine we_false (by kernel_rfl) ?_
      refine we_skip fun a hF => hK8 _ _ ?_ a hF
      refine we_region [(0, 0), (1, 0)] rfl ?_
      refine ge_addn (d := 25) (ty := 3) (x := (.tmp 13)) (y := (.const (.int .i64 1))) (t := 3) (t2 := 3) (k := .i64) (m := i1) (by kernel_rfl) (by kernel_rfl) (by kernel_rfl) (by have h0 := hR0.small; omega) ?_
      refine ge_batch [1] (ans := []) (vs := [(13, .int .i64 ((i1 + 1 : Nat) : Int))]) (l := []) (by kernel_rfl) trivial ?_
      obtain rfl := Option.some.inj h
      exact ge_nil fun a hF => hQ _ _ _ (Outs.again ⟨hS1, hF.weaken ⟨by kernel_rfl, by kernel_rfl, by kernel_rfl, by kernel_rfl, trivial⟩⟩)
    · rw [if_neg hc3] at h
      refine we_known (t := 24) (b := (e1 != e2)) (v := true) (by kernel_rfl) (bne_iff_ne.2 hc3) ?_
      refine we_true (by kernel_rfl) ?_
      refine we_seq fun K11 hK11 => ?_
      refine we_region [(0, 0)] rfl ?_
      refine ge_batch [0] (ans := []) (vs := [(4, .bool false)]) (l := []) (by kernel_rfl) trivial ?_
      refine ge_nil fun a hF => hK11 _ _ ?_ a hF
      obtain rfl := Option.some.inj h
      exact we_ret fun a hF => hQ _ _ _ (Outs.out nofun (Exits.on ⟨rfl, (post_ret (rs := [.tmp 4]) (ans := []) (vs := [.bool false]) (l := []) rfl (by kernel_rfl) trivial ⟨rfl, hS1⟩) a hF⟩))
  · rw [if_neg hc2] at h
    refine we_known (t := 14) (b := decide ((i1 : Int) < (l0.length : Int))) (v := false) (by kernel_rfl) (decide_eq_false hc2) ?_
    refine we_false (by kernel_rfl) ?_
    obtain rfl := Option.some.inj h
    exact we_exit fun a hF => hQ _ _ _ (Outs.out nofun (Exits.here ⟨hS, hF.weaken trivial⟩))
theorem punctualsame_Same_int_ok (K : Nat) (l0 : List Int) (A0 : Option Addr) (c0 : Nat) (l1 : List Int) (A1 : Option Addr) (c1 : Nat) (w0 : World) (hR0 : RdL w0 A0 l0) (hL0 : l0.length ≤ c0) (hR1 : RdL w0 A1 l1) (hL1 : l1.length ≤ c1) (r : Bool) (h : punctualsame_Same_int.f K l0 l1 = some r) :
    Calls Tryd.prog 40 #[.slice A0 l0.length c0, .slice A1 l1.length c1] w0 (punctualsame_Same_int.Post w0 r) := by
  have hS := St.start w0
  unfold punctualsame_Same_int.f at h
  refine calls_enter (n := 26) (args := [.slice A0 l0.length c0, .slice A1 l1.length c1]) (fn := Tryd.f40) rfl rfl rfl rfl ?_
  show WE _ _ _ _ [(0, .slice A0 l0.length c0), (1, .slice A1 l1.length c1)] _
  refine we_seq fun K1 hK1 => ?_
  refine we_region [(0, 0)] rfl ?_
  refine ge_batch [0] (ans := []) (vs := [(4, .bool false)]) (l := []) (by kernel_rfl) trivial ?_
  refine ge_nil fun a hF => hK1 _ _ ?_ a hF
  refine we_seq fun K2 hK2 => ?_
  refine we_seq fun K3 hK3 => ?_
  refine we_region [(0, 0), (1, 0), (2, 0), (3, 0), (4, 0)] rfl ?_
  refine ge_batch [0, 1, 2, 3, 4] (ans := []) (vs := [(10, .bool ((l0.length : Int) != (l1.length : Int))), (9, .int .i64 (l1.length : Int)), (8, .slice A1 l1.length c1), (7, .int .i64 (l0.length : Int)), (6, .slice A0 l0.length c0)]) (l := []) (by kernel_rfl) trivial ?_
  refine ge_nil fun a hF => hK3 _ _ ?_ a hF
  by_cases hc1 : (l0.length : Int) = (l1.length : Int)
  · rw [if_pos hc1] at h
    refine we_known (t := 10) (b := ((l0.length : Int) != (l1.length : Int))) (v := false) (by kernel_rfl) (bne_eq_false_iff_eq.2 hc1) ?_
    refine we_false (by kernel_rfl) ?_
    refine we_skip fun a hF => hK2 _ _ ?_ a hF
    refine we_seq fun K4 hK4 => ?_
    refine we_seq fun K5 hK5 => ?_
    refine we_region [(0, 0), (1, 0), (2, 0)] rfl ?_
    refine ge_batch [0, 1, 2] (ans := []) (vs := [(13, .int .i64 0), (12, .int .i64 (l0.length : Int)), (11, .slice A0 l0.length c0)]) (l := []) (by kernel_rfl) trivial ?_
    refine ge_nil fun a hF => hK5 _ _ ?_ a hF
    refine we_block ?_
    rcases hq1 : iter (punctualsame_Same_int.r0 l0 l1) K 0 with _ | (_ | rr1)
    · rw [hq1] at h; cases h
    · rw [hq1] at h
      simp only [] at h
      refine we_iter (A := punctualsame_Same_int.A0 K w0 l0 A0 c0 l1 A1 c1 hR0 hL0 hR1 hL1 hc1) (B := punctualsame_Same_int.B0 K w0 l0 A0 c0 l1 A1 c1 hR0 hL0 hR1 hL1 hc1) hq1 (fun a hF => ⟨hS, hF.weaken ⟨by kernel_rfl, by kernel_rfl, by kernel_rfl, by kernel_rfl, trivial⟩⟩) (fun s o hf a w hA Q hQ => punctualsame_Same_int_r0 K w0 l0 A0 c0 l1 A1 c1 hR0 hL0 hR1 hL1 hc1 s o hf a w hA Q hQ) ?_
      rintro _ a w1 _ ⟨rfl, hS2, hF⟩
      replace hS2 : St w0 w1 [] := hS2
      refine hK4 [] w1 ?_ a hF
      refine we_seq fun K12 hK12 => ?_
      refine we_region [(0, 0)] rfl ?_
      refine ge_batch [0] (ans := []) (vs := [(4, .bool true)]) (l := []) (by kernel_rfl) trivial ?_
      refine ge_nil fun a hF => hK12 _ _ ?_ a hF
      obtain rfl := Option.some.inj h
      exact we_ret (post_ret (rs := [.tmp 4]) (ans := []) (vs := [.bool true]) (l := []) rfl (by kernel_rfl) trivial ⟨rfl, hS2⟩)
    · rw [hq1] at h
      simp only [] at h
      refine we_iter (A := punctualsame_Same_int.A0 K w0 l0 A0 c0 l1 A1 c1 hR0 hL0 hR1 hL1 hc1) (B := punctualsame_Same_int.B0 K w0 l0 A0 c0 l1 A1 c1 hR0 hL0 hR1 hL1 hc1) hq1 (fun a hF => ⟨hS, hF.weaken ⟨by kernel_rfl, by kernel_rfl, by kernel_rfl, by kernel_rfl, trivial⟩⟩) (fun s o hf a w hA Q hQ => punctualsame_Same_int_r0 K w0 l0 A0 c0 l1 A1 c1 hR0 hL0 hR1 hL1 hc1 s o hf a w hA Q hQ) ?_
      rintro _ a w1 _ ⟨rfl, hb⟩
      obtain rfl := Option.some.inj h
      exact hb
  · rw [if_neg hc1] at h
    refine we_known (t := 10) (b := ((l0.length : Int) != (l1.length : Int))) (v := true) (by kernel_rfl) (bne_iff_ne.2 hc1) ?_
    refine we_true (by kernel_rfl) ?_
    refine we_seq fun K13 hK13 => ?_
    refine we_region [(0, 0)] rfl ?_
    refine ge_batch [0] (ans := []) (vs := [(4, .bool false)]) (l := []) (by kernel_rfl) trivial ?_
    refine ge_nil fun a hF => hK13 _ _ ?_ a hF
    obtain rfl := Option.some.inj h
    exact we_ret (post_ret (rs := [.tmp 4]) (ans := []) (vs := [.bool false]) (l := []) rfl (by kernel_rfl) trivial ⟨rfl, hS⟩)

/-! punctual/punctuallaw.bus -/
abbrev bus.Post (w0 : World) (r : Bool) (e : Ending) (w : World) : Prop := e = .returned (.bool r) ∧ St w0 w []
def bus.f (K : Nat) : Option Bool :=
  match net_Times.f K ([(⟨2, 10, 10, 0⟩ : SFrame), (⟨3, 10, 10, 0⟩ : SFrame), (⟨2, 20, 20, 0⟩ : SFrame)] : List SFrame) with
  | none => none
  | some r1 =>
    match net_Send.f K ([(⟨2, 10, 10, 0⟩ : SFrame), (⟨3, 10, 10, 0⟩ : SFrame), (⟨2, 20, 20, 0⟩ : SFrame)] : List SFrame) ([(⟨2, 0⟩ : SCome), (⟨0, 1⟩ : SCome)] : List SCome) ([0, 0] : List Int) 6 with
    | none => none
    | some r2 =>
      if r1.2.Code = 0 then
        match punctualsame_Same_int.f K r1.1 ([4, 6, 7] : List Int) with
        | none => none
        | some r3 =>
          if r3 = true then
            if r2.2.Code = 0 then
              match punctualsame_Same_int.f K r2.1.Runs ([0, 0, 1, 1, (-1), (-1)] : List Int) with
              | none => none
              | some r4 =>
                some r4
            else
              some false
          else
            some false
      else
        some false
theorem bus_ok (K : Nat)  (w0 : World) (r : Bool) (h : bus.f K = some r) :
    Calls Tryd.prog 10 #[] w0 (bus.Post w0 r) := by
  have hS := St.start w0
  unfold bus.f at h
  refine calls_enter (n := 43) (args := []) (fn := Tryd.f10) rfl rfl rfl rfl ?_
  show WE _ _ _ _ [] _
  refine we_seq fun K1 hK1 => ?_
  refine we_region [(0, 0)] rfl ?_
  refine ge_batch [0] (ans := []) (vs := [(0, .bool false)]) (l := []) (by kernel_rfl) trivial ?_
  refine ge_nil fun a hF => hK1 _ _ ?_ a hF
  refine we_seq fun K2 hK2 => ?_
  refine we_region [(0, 0), (1, 0), (2, 0), (3, 1), (4, 0)] rfl ?_
  refine ge_batch [0, 1, 2] (ans := []) (vs := [(8, .agg #[.int .i64 2, .int .i64 20, .int .i64 20, .int .i64 0]), (7, .agg #[.int .i64 3, .int .i64 10, .int .i64 10, .int .i64 0]), (6, .agg #[.int .i64 2, .int .i64 10, .int .i64 10, .int .i64 0])]) (l := []) (by kernel_rfl) trivial ?_
  refine ge_new (d := some 9) (o := .cells #[.int .i64 2, .int .i64 10, .int .i64 10, .int .i64 0, .int .i64 3, .int .i64 10, .int .i64 10, .int .i64 0, .int .i64 2, .int .i64 20, .int .i64 20, .int .i64 0] 30) (v := fun b => .slice (some ⟨b, 0, none⟩) 3 3) hS (fun b => by kernel_rfl) fun b1 w1 hx1 hS1 => ?_
  refine ge_batch [4] (ans := []) (vs := [(1, .slice (some ⟨b1, 0, none⟩) 3 3)]) (l := []) (by kernel_rfl) trivial ?_
  refine ge_nil fun a hF => hK2 _ _ ?_ a hF
  refine we_seq fun K3 hK3 => ?_
  refine we_region [(0, 0), (1, 1), (2, 0), (3, 0), (4, 0), (5, 1), (6, 0), (7, 2)] rfl ?_
  rcases hq1 : net_Times.f K ([(⟨2, 10, 10, 0⟩ : SFrame), (⟨3, 10, 10, 0⟩ : SFrame), (⟨2, 20, 20, 0⟩ : SFrame)] : List SFrame) with _ | r1
  · rw [hq1] at h; cases h
  rw [hq1] at h
  simp only [] at h
  refine ge_batch [0] (ans := []) (vs := [(11, .slice (some ⟨b1, 0, none⟩) 3 3)]) (l := []) (by kernel_rfl) trivial ?_
  refine ge_call (d := some 12) (f := 70) (args := #[.slice (some ⟨b1, 0, none⟩) 3 3]) (by kernel_rfl) (net_Times_ok K ([(⟨2, 10, 10, 0⟩ : SFrame), (⟨3, 10, 10, 0⟩ : SFrame), (⟨2, 20, 20, 0⟩ : SFrame)] : List SFrame) (some ⟨b1, 0, none⟩) 3 _ (hS1.rdBlk 0 ([(⟨2, 10, 10, 0⟩ : SFrame), (⟨3, 10, 10, 0⟩ : SFrame), (⟨2, 20, 20, 0⟩ : SFrame)] : List SFrame) rfl rfl rfl) (Nat.le_refl _) _ hq1) ?_
  rintro _ w2 ⟨v1, rfl, hS2⟩
  refine ⟨_, rfl, hS2.below, ?_⟩
  have hS3 := hS1.call hS2
  refine ge_batch [2, 3, 4] (ans := []) (vs := [(14, .agg #[.int .i64 r1.2.Code, .int .i64 r1.2.At]), (13, v1), (10, .tuple #[v1, .agg #[.int .i64 r1.2.Code, .int .i64 r1.2.At]])]) (l := []) (by kernel_rfl) trivial ?_
  refine ge_new (d := some 3) (o := .cells #[.int .i64 0, .int .i64 0] 39) (v := fun b => .pointer (some ⟨b, 0, none⟩)) hS3 (fun b => by kernel_rfl) fun b2 w3 hx2 hS4 => ?_
  refine ge_batch [6] (ans := []) (vs := [(2, v1)]) (l := []) (by kernel_rfl) trivial ?_
  refine ge_set (b := b2) (j := 0) (cs := #[.int .i64 0, .int .i64 0]) (t := 39) (vs := [.int .i64 r1.2.Code, .int .i64 r1.2.At]) hS4 (by kernel_rfl) rfl rfl fun w4 hS5 => ?_
  have hS6 : St w0 w4 [Own.blk b2 (.cells #[.int .i64 r1.2.Code, .int .i64 r1.2.At] 39 (0, 0)), Own.of v1 3 r1.1, Own.blk b1 (.cells #[.int .i64 2, .int .i64 10, .int .i64 10, .int .i64 0, .int .i64 3, .int .i64 10, .int .i64 10, .int .i64 0, .int .i64 2, .int .i64 20, .int .i64 20, .int .i64 0] 30 (0, 0))] := hS5
  refine ge_nil fun a hF => hK3 _ _ ?_ a hF
  refine we_seq fun K4 hK4 => ?_
  refine we_region [(0, 0), (1, 0), (2, 0), (3, 1), (4, 1), (5, 1), (6, 0), (7, 0), (8, 0), (9, 1), (10, 1), (11, 2), (12, 2)] rfl ?_
  refine ge_batch [0, 1, 2] (ans := []) (vs := [(18, .agg #[.int .i64 0, .int .i64 1]), (17, .agg #[.int .i64 2, .int .i64 0]), (16, .slice (some ⟨b1, 0, none⟩) 3 3)]) (l := []) (by kernel_rfl) trivial ?_
  refine ge_new (d := some 19) (o := .cells #[.int .i64 2, .int .i64 0, .int .i64 0, .int .i64 1] 33) (v := fun b => .slice (some ⟨b, 0, none⟩) 2 2) hS6 (fun b => by kernel_rfl) fun b3 w5 hx3 hS7 => ?_
  refine ge_new (d := some 20) (o := .cells #[.int .i64 0, .int .i64 0] 3) (v := fun b => .slice (some ⟨b, 0, none⟩) 2 2) hS7 (fun b => by kernel_rfl) fun b4 w6 hx4 hS8 => ?_
  rcases hq2 : net_Send.f K ([(⟨2, 10, 10, 0⟩ : SFrame), (⟨3, 10, 10, 0⟩ : SFrame), (⟨2, 20, 20, 0⟩ : SFrame)] : List SFrame) ([(⟨2, 0⟩ : SCome), (⟨0, 1⟩ : SCome)] : List SCome) ([0, 0] : List Int) 6 with _ | r2
  · rw [hq2] at h; cases h
  rw [hq2] at h
  simp only [] at h
  refine ge_call (d := some 21) (f := 16) (args := #[.slice (some ⟨b1, 0, none⟩) 3 3, .slice (some ⟨b3, 0, none⟩) 2 2, .slice (some ⟨b4, 0, none⟩) 2 2, .int .i64 6]) (by kernel_rfl) (net_Send_ok K ([(⟨2, 10, 10, 0⟩ : SFrame), (⟨3, 10, 10, 0⟩ : SFrame), (⟨2, 20, 20, 0⟩ : SFrame)] : List SFrame) (some ⟨b1, 0, none⟩) 3 ([(⟨2, 0⟩ : SCome), (⟨0, 1⟩ : SCome)] : List SCome) (some ⟨b3, 0, none⟩) 2 ([0, 0] : List Int) (some ⟨b4, 0, none⟩) 2 6 _ (hS8.rdBlk 4 ([(⟨2, 10, 10, 0⟩ : SFrame), (⟨3, 10, 10, 0⟩ : SFrame), (⟨2, 20, 20, 0⟩ : SFrame)] : List SFrame) rfl rfl rfl) (Nat.le_refl _) (hS8.rdBlk 1 ([(⟨2, 0⟩ : SCome), (⟨0, 1⟩ : SCome)] : List SCome) rfl rfl rfl) (Nat.le_refl _) (hS8.rdBlk 0 ([0, 0] : List Int) rfl rfl rfl) (Nat.le_refl _) _ hq2) ?_
  rintro _ w7 ⟨v2, v3, rfl, hS9⟩
  refine ⟨_, rfl, hS9.below, ?_⟩
  have hS10 := hS8.call hS9
  refine ge_batch [6, 7, 8] (ans := []) (vs := [(23, .agg #[.int .i64 r2.2.Code, .int .i64 r2.2.At]), (22, .agg #[v2, v3]), (15, .tuple #[.agg #[v2, v3], .agg #[.int .i64 r2.2.Code, .int .i64 r2.2.At]])]) (l := []) (by kernel_rfl) trivial ?_
  refine ge_new (d := some 4) (o := .cells #[.slice none 0 0, .slice none 0 0] 36) (v := fun b => .pointer (some ⟨b, 0, none⟩)) hS10 (fun b => by kernel_rfl) fun b5 w8 hx5 hS11 => ?_
  refine ge_new (d := some 5) (o := .cells #[.int .i64 0, .int .i64 0] 39) (v := fun b => .pointer (some ⟨b, 0, none⟩)) hS11 (fun b => by kernel_rfl) fun b6 w9 hx6 hS12 => ?_
  obtain ⟨Z1, cz1, rfl⟩ := hS12.open 2 rfl
  obtain ⟨Z2, cz2, rfl⟩ := hS12.open 3 rfl
  have hS13 := hS12.bring 1 rfl
  refine ge_set (b := b5) (j := 0) (cs := #[.slice none 0 0, .slice none 0 0]) (t := 36) (vs := [(.slice Z1 r2.1.Runs.length cz1), (.slice Z2 r2.1.Ends.length cz2)]) hS13 (by kernel_rfl) rfl rfl fun w10 hS14 => ?_
  have hS15 : St w0 w10 [Own.blk b5 (.cells #[(.slice Z1 r2.1.Runs.length cz1), (.slice Z2 r2.1.Ends.length cz2)] 36 (0, 0)), Own.blk b6 (.cells #[.int .i64 0, .int .i64 0] 39 (0, 0)), Own.of (.slice Z1 r2.1.Runs.length cz1) 3 r2.1.Runs, Own.of (.slice Z2 r2.1.Ends.length cz2) 3 r2.1.Ends, Own.blk b4 (.cells #[.int .i64 0, .int .i64 0] 3 (0, 0)), Own.blk b3 (.cells #[.int .i64 2, .int .i64 0, .int .i64 0, .int .i64 1] 33 (0, 0)), Own.blk b2 (.cells #[.int .i64 r1.2.Code, .int .i64 r1.2.At] 39 (0, 0)), Own.of v1 3 r1.1, Own.blk b1 (.cells #[.int .i64 2, .int .i64 10, .int .i64 10, .int .i64 0, .int .i64 3, .int .i64 10, .int .i64 10, .int .i64 0, .int .i64 2, .int .i64 20, .int .i64 20, .int .i64 0] 30 (0, 0))] := hS14
  have hS16 := hS15.bring 1 rfl
  refine ge_set (b := b6) (j := 0) (cs := #[.int .i64 0, .int .i64 0]) (t := 39) (vs := [.int .i64 r2.2.Code, .int .i64 r2.2.At]) hS16 (by kernel_rfl) rfl rfl fun w11 hS17 => ?_
  have hS18 : St w0 w11 [Own.blk b6 (.cells #[.int .i64 r2.2.Code, .int .i64 r2.2.At] 39 (0, 0)), Own.blk b5 (.cells #[(.slice Z1 r2.1.Runs.length cz1), (.slice Z2 r2.1.Ends.length cz2)] 36 (0, 0)), Own.of (.slice Z1 r2.1.Runs.length cz1) 3 r2.1.Runs, Own.of (.slice Z2 r2.1.Ends.length cz2) 3 r2.1.Ends, Own.blk b4 (.cells #[.int .i64 0, .int .i64 0] 3 (0, 0)), Own.blk b3 (.cells #[.int .i64 2, .int .i64 0, .int .i64 0, .int .i64 1] 33 (0, 0)), Own.blk b2 (.cells #[.int .i64 r1.2.Code, .int .i64 r1.2.At] 39 (0, 0)), Own.of v1 3 r1.1, Own.blk b1 (.cells #[.int .i64 2, .int .i64 10, .int .i64 10, .int .i64 0, .int .i64 3, .int .i64 10, .int .i64 10, .int .i64 0, .int .i64 2, .int .i64 20, .int .i64 20, .int .i64 0] 30 (0, 0))] := hS17
  refine ge_nil fun a hF => hK4 _ _ ?_ a hF
  refine we_seq fun K5 hK5 => ?_
  refine we_region [(0, 0), (1, 0), (2, 0), (3, 0), (4, 0), (5, 1), (6, 1), (7, 0), (8, 0), (9, 0), (10, 0), (11, 0), (12, 0), (13, 0), (14, 0), (15, 0), (16, 1), (17, 1), (18, 0), (19, 0)] rfl ?_
  refine ge_batch [0, 1, 2, 3] (ans := [.val (.int .i64 r1.2.Code)]) (vs := [(27, .bool (r1.2.Code == 0)), (26, .bool (r1.2.Code == 0)), (25, .int .i64 r1.2.Code), (24, .pointer (some ⟨b2, 0, none⟩))]) (l := [.loaded ⟨b2, 0, none⟩ (.int .i64 r1.2.Code)]) (by kernel_rfl) ⟨hS18.cell 6 rfl rfl, trivial⟩ ?_
  by_cases hc1 : r1.2.Code = 0
  · rw [if_pos hc1] at h
    refine ge_known (t := 27) (b := (r1.2.Code == 0)) (c := true) (by kernel_rfl) (beq_iff_eq.2 hc1) ?_
    refine ge_batch [4] (ans := []) (vs := [(28, v1)]) (l := []) (by kernel_rfl) trivial ?_
    refine ge_new (d := some 29) (o := .cells #[.int .i64 4, .int .i64 6, .int .i64 7] 3) (v := fun b => .slice (some ⟨b, 0, none⟩) 3 3) hS18 (fun b => by kernel_rfl) fun b7 w12 hx7 hS19 => ?_
    obtain ⟨Z3, cz3, rfl⟩ := hS19.open 8 rfl
    rcases hq3 : punctualsame_Same_int.f K r1.1 ([4, 6, 7] : List Int) with _ | r3
    · rw [hq3] at h; cases h
    rw [hq3] at h
    simp only [] at h
    refine ge_call (d := some 30) (f := 40) (args := #[(.slice Z3 r1.1.length cz3), .slice (some ⟨b7, 0, none⟩) 3 3]) (by kernel_rfl) (punctualsame_Same_int_ok K r1.1 Z3 cz3 ([4, 6, 7] : List Int) (some ⟨b7, 0, none⟩) 3 _ (hS19.rdAt 8 rfl) (hS19.capAt 8 rfl) (hS19.rdBlk 0 ([4, 6, 7] : List Int) rfl rfl rfl) (Nat.le_refl _) _ hq3) ?_
    rintro _ w13 ⟨rfl, hS20⟩
    refine ⟨_, rfl, hS20.below, ?_⟩
    have hS21 := hS19.call hS20
    refine ge_batch [7, 8] (ans := []) (vs := [(32, .bool r3), (31, .bool r3)]) (l := []) (by kernel_rfl) trivial ?_
    by_cases hc2 : r3 = true
    · rw [if_pos hc2] at h
      refine ge_known (t := 32) (b := r3) (c := true) (by kernel_rfl) hc2 ?_
      refine ge_batch [9, 10, 11, 12, 13] (ans := [.val (.int .i64 r2.2.Code)]) (vs := [(37, .bool (r2.2.Code == 0)), (36, .bool (r2.2.Code == 0)), (35, .bool (r2.2.Code == 0)), (34, .int .i64 r2.2.Code), (33, .pointer (some ⟨b6, 0, none⟩))]) (l := [.loaded ⟨b6, 0, none⟩ (.int .i64 r2.2.Code)]) (by kernel_rfl) ⟨hS21.cell 1 rfl rfl, trivial⟩ ?_
      by_cases hc3 : r2.2.Code = 0
      · rw [if_pos hc3] at h
        refine ge_known (t := 37) (b := (r2.2.Code == 0)) (c := true) (by kernel_rfl) (beq_iff_eq.2 hc3) ?_
        refine ge_batch [14, 15] (ans := [.val ((.slice Z1 r2.1.Runs.length cz1))]) (vs := [(39, (.slice Z1 r2.1.Runs.length cz1)), (38, .pointer (some ⟨b5, 0, none⟩))]) (l := [.loaded ⟨b5, 0, none⟩ ((.slice Z1 r2.1.Runs.length cz1))]) (by kernel_rfl) ⟨hS21.cell 2 rfl rfl, trivial⟩ ?_
        refine ge_new (d := some 40) (o := .cells #[.int .i64 0, .int .i64 0, .int .i64 1, .int .i64 1, .int .i64 (-1), .int .i64 (-1)] 3) (v := fun b => .slice (some ⟨b, 0, none⟩) 6 6) hS21 (fun b => by kernel_rfl) fun b8 w14 hx8 hS22 => ?_
        rcases hq4 : punctualsame_Same_int.f K r2.1.Runs ([0, 0, 1, 1, (-1), (-1)] : List Int) with _ | r4
        · rw [hq4] at h; cases h
        rw [hq4] at h
        simp only [] at h
        refine ge_call (d := some 41) (f := 40) (args := #[(.slice Z1 r2.1.Runs.length cz1), .slice (some ⟨b8, 0, none⟩) 6 6]) (by kernel_rfl) (punctualsame_Same_int_ok K r2.1.Runs Z1 cz1 ([0, 0, 1, 1, (-1), (-1)] : List Int) (some ⟨b8, 0, none⟩) 6 _ (hS22.rdAt 4 rfl) (hS22.capAt 4 rfl) (hS22.rdBlk 0 ([0, 0, 1, 1, (-1), (-1)] : List Int) rfl rfl rfl) (Nat.le_refl _) _ hq4) ?_
        rintro _ w15 ⟨rfl, hS23⟩
        refine ⟨_, rfl, hS23.below, ?_⟩
        have hS24 := hS22.call hS23
        refine ge_batch [18, 19] (ans := []) (vs := [(0, .bool r4), (42, .bool r4)]) (l := []) (by kernel_rfl) trivial ?_
        refine ge_nil fun a hF => hK5 _ _ ?_ a hF
        have hS25 := hS24.takeN 0
        obtain rfl := Option.some.inj h
        exact we_ret (post_ret (rs := [.tmp 0]) (ans := []) (vs := [.bool r4]) (l := []) rfl (by kernel_rfl) trivial ⟨rfl, hS25⟩)
      · rw [if_neg hc3] at h
        refine ge_known (t := 37) (b := (r2.2.Code == 0)) (c := false) (by kernel_rfl) (beq_eq_false_iff_ne.2 hc3) ?_
        refine ge_batch [14, 15] (ans := []) (vs := [(39, undef), (38, undef)]) (l := []) (by kernel_rfl) trivial ?_
        refine ge_off rfl rfl rfl (by kernel_rfl) ?_
        refine ge_off rfl rfl rfl (by kernel_rfl) ?_
        refine ge_batch [18, 19] (ans := []) (vs := [(0, .bool false), (42, .bool false)]) (l := []) (by kernel_rfl) trivial ?_
        refine ge_nil fun a hF => hK5 _ _ ?_ a hF
        have hS26 := hS21.takeN 0
        obtain rfl := Option.some.inj h
        exact we_ret (post_ret (rs := [.tmp 0]) (ans := []) (vs := [.bool false]) (l := []) rfl (by kernel_rfl) trivial ⟨rfl, hS26⟩)
    · rw [if_neg hc2] at h
      refine ge_known (t := 32) (b := r3) (c := false) (by kernel_rfl) (Bool.eq_false_iff.2 hc2) ?_
      refine ge_batch [9, 10, 11, 12, 13, 14, 15] (ans := []) (vs := [(39, undef), (38, undef), (37, .bool false), (36, .bool false), (35, undef), (34, undef), (33, undef)]) (l := []) (by kernel_rfl) trivial ?_
      refine ge_off rfl rfl rfl (by kernel_rfl) ?_
      refine ge_off rfl rfl rfl (by kernel_rfl) ?_
      refine ge_batch [18, 19] (ans := []) (vs := [(0, .bool false), (42, .bool false)]) (l := []) (by kernel_rfl) trivial ?_
      refine ge_nil fun a hF => hK5 _ _ ?_ a hF
      have hS27 := hS21.takeN 0
      obtain rfl := Option.some.inj h
      exact we_ret (post_ret (rs := [.tmp 0]) (ans := []) (vs := [.bool false]) (l := []) rfl (by kernel_rfl) trivial ⟨rfl, hS27⟩)
  · rw [if_neg hc1] at h
    refine ge_known (t := 27) (b := (r1.2.Code == 0)) (c := false) (by kernel_rfl) (beq_eq_false_iff_ne.2 hc1) ?_
    refine ge_batch [4] (ans := []) (vs := [(28, undef)]) (l := []) (by kernel_rfl) trivial ?_
    refine ge_off rfl rfl rfl (by kernel_rfl) ?_
    refine ge_off rfl rfl rfl (by kernel_rfl) ?_
    refine ge_batch [7, 8, 9, 10, 11, 12, 13, 14, 15] (ans := []) (vs := [(39, undef), (38, undef), (37, .bool false), (36, .bool false), (35, undef), (34, undef), (33, undef), (32, .bool false), (31, .bool false)]) (l := []) (by kernel_rfl) trivial ?_
    refine ge_off rfl rfl rfl (by kernel_rfl) ?_
    refine ge_off rfl rfl rfl (by kernel_rfl) ?_
    refine ge_batch [18, 19] (ans := []) (vs := [(0, .bool false), (42, .bool false)]) (l := []) (by kernel_rfl) trivial ?_
    refine ge_nil fun a hF => hK5 _ _ ?_ a hF
    have hS28 := hS18.takeN 0
    obtain rfl := Option.some.inj h
    exact we_ret (post_ret (rs := [.tmp 0]) (ans := []) (vs := [.bool false]) (l := []) rfl (by kernel_rfl) trivial ⟨rfl, hS28⟩)

/-! punctual/punctuallaw.few -/
abbrev few.Post (w0 : World) (r : Bool) (e : Ending) (w : World) : Prop := e = .returned (.bool r) ∧ St w0 w []
def few.f (x0 : Int) : Bool :=
  decide (x0 ≤ 5000)
theorem few_ok (x0 : Int) (w0 : World) (r : Bool) (h : few.f x0 = r) :
    Calls Tryd.prog 11 #[.int .i64 x0] w0 (few.Post w0 r) := by
  have hS := St.start w0
  unfold few.f at h
  refine calls_enter (n := 5) (args := [.int .i64 x0]) (fn := Tryd.f11) rfl rfl rfl rfl ?_
  show WE _ _ _ _ [(0, .int .i64 x0)] _
  refine we_seq fun K1 hK1 => ?_
  refine we_region [(0, 0)] rfl ?_
  refine ge_batch [0] (ans := []) (vs := [(2, .bool false)]) (l := []) (by kernel_rfl) trivial ?_
  refine ge_nil fun a hF => hK1 _ _ ?_ a hF
  refine we_seq fun K2 hK2 => ?_
  refine we_region [(0, 0), (1, 0), (2, 0)] rfl ?_
  refine ge_batch [0, 1, 2] (ans := []) (vs := [(2, .bool (decide (x0 ≤ 5000))), (4, .bool (decide (x0 ≤ 5000))), (3, .int .i64 x0)]) (l := []) (by kernel_rfl) trivial ?_
  refine ge_nil fun a hF => hK2 _ _ ?_ a hF
  subst h
  exact we_ret (post_ret (rs := [.tmp 2]) (ans := []) (vs := [.bool (decide (x0 ≤ 5000))]) (l := []) rfl (by kernel_rfl) trivial ⟨rfl, hS⟩)

/-! punctual/punctuallaw.small -/
abbrev small.Post (w0 : World) (r : Bool) (e : Ending) (w : World) : Prop := e = .returned (.bool r) ∧ St w0 w []
def small.f (x0 : Int) (x1 : Int) : Bool :=
  if x0 ≤ 300 then
    if x1 ≤ 3000 then
      true
    else
      if x0 > 4000 then
        true
      else
        decide (x1 > 20000)
  else
    if x0 > 4000 then
      true
    else
      decide (x1 > 20000)
theorem small_ok (x0 : Int) (x1 : Int) (w0 : World) (r : Bool) (h : small.f x0 x1 = r) :
    Calls Tryd.prog 12 #[.int .i64 x0, .int .i64 x1] w0 (small.Post w0 r) := by
  have hS := St.start w0
  unfold small.f at h
  refine calls_enter (n := 19) (args := [.int .i64 x0, .int .i64 x1]) (fn := Tryd.f12) rfl rfl rfl rfl ?_
  show WE _ _ _ _ [(0, .int .i64 x0), (1, .int .i64 x1)] _
  refine we_seq fun K1 hK1 => ?_
  refine we_region [(0, 0)] rfl ?_
  refine ge_batch [0] (ans := []) (vs := [(4, .bool false)]) (l := []) (by kernel_rfl) trivial ?_
  refine ge_nil fun a hF => hK1 _ _ ?_ a hF
  refine we_seq fun K2 hK2 => ?_
  refine we_region [(0, 0), (1, 0), (2, 0), (3, 0), (4, 0), (5, 0), (6, 0), (7, 0), (8, 0), (9, 0), (10, 0), (11, 0), (12, 0), (13, 0), (14, 0)] rfl ?_
  refine ge_batch [0, 1, 2] (ans := []) (vs := [(7, .bool (decide (x0 ≤ 300))), (6, .bool (decide (x0 ≤ 300))), (5, .int .i64 x0)]) (l := []) (by kernel_rfl) trivial ?_
  by_cases hc1 : x0 ≤ 300
  · rw [if_pos hc1] at h
    refine ge_known (t := 7) (b := decide (x0 ≤ 300)) (c := true) (by kernel_rfl) (decide_eq_true hc1) ?_
    refine ge_batch [3, 4, 5, 6] (ans := []) (vs := [(11, .bool (decide (x1 ≤ 3000))), (10, .bool (decide (x1 ≤ 3000))), (9, .bool (decide (x1 ≤ 3000))), (8, .int .i64 x1)]) (l := []) (by kernel_rfl) trivial ?_
    by_cases hc2 : x1 ≤ 3000
    · rw [if_pos hc2] at h
      refine ge_known (t := 11) (b := decide (x1 ≤ 3000)) (c := true) (by kernel_rfl) (decide_eq_true hc2) ?_
      refine ge_batch [7, 8, 9, 10, 11, 12, 13, 14] (ans := []) (vs := [(4, .bool true), (18, .bool true), (17, undef), (16, undef), (15, .bool true), (14, .bool true), (13, undef), (12, undef)]) (l := []) (by kernel_rfl) trivial ?_
      refine ge_nil fun a hF => hK2 _ _ ?_ a hF
      subst h
      exact we_ret (post_ret (rs := [.tmp 4]) (ans := []) (vs := [.bool true]) (l := []) rfl (by kernel_rfl) trivial ⟨rfl, hS⟩)
    · rw [if_neg hc2] at h
      refine ge_known (t := 11) (b := decide (x1 ≤ 3000)) (c := false) (by kernel_rfl) (decide_eq_false hc2) ?_
      refine ge_batch [7, 8, 9, 10] (ans := []) (vs := [(15, .bool (decide (x0 > 4000))), (14, .bool (decide (x0 > 4000))), (13, .bool (decide (x0 > 4000))), (12, .int .i64 x0)]) (l := []) (by kernel_rfl) trivial ?_
      by_cases hc3 : x0 > 4000
      · rw [if_pos hc3] at h
        refine ge_known (t := 15) (b := decide (x0 > 4000)) (c := true) (by kernel_rfl) (decide_eq_true hc3) ?_
        refine ge_batch [11, 12, 13, 14] (ans := []) (vs := [(4, .bool true), (18, .bool true), (17, undef), (16, undef)]) (l := []) (by kernel_rfl) trivial ?_
        refine ge_nil fun a hF => hK2 _ _ ?_ a hF
        subst h
        exact we_ret (post_ret (rs := [.tmp 4]) (ans := []) (vs := [.bool true]) (l := []) rfl (by kernel_rfl) trivial ⟨rfl, hS⟩)
      · rw [if_neg hc3] at h
        refine ge_known (t := 15) (b := decide (x0 > 4000)) (c := false) (by kernel_rfl) (decide_eq_false hc3) ?_
        refine ge_batch [11, 12, 13, 14] (ans := []) (vs := [(4, .bool (decide (x1 > 20000))), (18, .bool (decide (x1 > 20000))), (17, .bool (decide (x1 > 20000))), (16, .int .i64 x1)]) (l := []) (by kernel_rfl) trivial ?_
        refine ge_nil fun a hF => hK2 _ _ ?_ a hF
        subst h
        exact we_ret (post_ret (rs := [.tmp 4]) (ans := []) (vs := [.bool (decide (x1 > 20000))]) (l := []) rfl (by kernel_rfl) trivial ⟨rfl, hS⟩)
  · rw [if_neg hc1] at h
    refine ge_known (t := 7) (b := decide (x0 ≤ 300)) (c := false) (by kernel_rfl) (decide_eq_false hc1) ?_
    refine ge_batch [3, 4, 5, 6, 7, 8, 9, 10] (ans := []) (vs := [(15, .bool (decide (x0 > 4000))), (14, .bool (decide (x0 > 4000))), (13, .bool (decide (x0 > 4000))), (12, .int .i64 x0), (11, .bool false), (10, .bool false), (9, undef), (8, undef)]) (l := []) (by kernel_rfl) trivial ?_
    by_cases hc4 : x0 > 4000
    · rw [if_pos hc4] at h
      refine ge_known (t := 15) (b := decide (x0 > 4000)) (c := true) (by kernel_rfl) (decide_eq_true hc4) ?_
      refine ge_batch [11, 12, 13, 14] (ans := []) (vs := [(4, .bool true), (18, .bool true), (17, undef), (16, undef)]) (l := []) (by kernel_rfl) trivial ?_
      refine ge_nil fun a hF => hK2 _ _ ?_ a hF
      subst h
      exact we_ret (post_ret (rs := [.tmp 4]) (ans := []) (vs := [.bool true]) (l := []) rfl (by kernel_rfl) trivial ⟨rfl, hS⟩)
    · rw [if_neg hc4] at h
      refine ge_known (t := 15) (b := decide (x0 > 4000)) (c := false) (by kernel_rfl) (decide_eq_false hc4) ?_
      refine ge_batch [11, 12, 13, 14] (ans := []) (vs := [(4, .bool (decide (x1 > 20000))), (18, .bool (decide (x1 > 20000))), (17, .bool (decide (x1 > 20000))), (16, .int .i64 x1)]) (l := []) (by kernel_rfl) trivial ?_
      refine ge_nil fun a hF => hK2 _ _ ?_ a hF
      subst h
      exact we_ret (post_ret (rs := [.tmp 4]) (ans := []) (vs := [.bool (decide (x1 > 20000))]) (l := []) rfl (by kernel_rfl) trivial ⟨rfl, hS⟩)

/-! punctual/punctualsame.Lend[punctual/api.Frame] -/
abbrev punctualsame_Lend_api_Frame.Post (w0 : World) (n : Nat) (r : List SFrame) (e : Ending) (w : World) : Prop := ∃ (A : Option Addr) (c : Nat), e = .returned (.slice A n c) ∧ r.length ≤ c ∧ St w0 w [Own.of (.slice A r.length c) 30 r]
def punctualsame_Lend_api_Frame.f (l0 : List SFrame) (x1 : SFrame) : Option (List SFrame) :=
  if 0 ≤ (IntKind.i64.wrap ((l0.length : Int) + 3)) then
    if ((IntKind.i64.wrap ((l0.length : Int) + 3)).toNat) ≤ 4398046511104 then
      if (List.replicate 0 (⟨0, 0, 0, 0⟩ : SFrame)).length + l0.length ≤ 4398046511104 then
        if ((List.replicate 0 (⟨0, 0, 0, 0⟩ : SFrame)) ++ l0).length + 3 ≤ 4398046511104 then
          some (((List.replicate 0 (⟨0, 0, 0, 0⟩ : SFrame)) ++ l0) ++ ([x1, x1, x1] : List SFrame))
        else
          none
      else
        none
    else
      none
  else
    none
theorem punctualsame_Lend_api_Frame_ok (l0 : List SFrame) (A0 : Option Addr) (c0 : Nat) (x1 : SFrame) (w0 : World) (hR0 : RdL w0 A0 l0) (hL0 : l0.length ≤ c0) (r : List SFrame) (h : punctualsame_Lend_api_Frame.f l0 x1 = some r) :
    Calls Tryd.prog 13 #[.slice A0 l0.length c0, .agg #[.int .i64 x1.C, .int .i64 x1.T, .int .i64 x1.D, .int .i64 x1.J]] w0 (punctualsame_Lend_api_Frame.Post w0 l0.length r) := by
  have hS := St.start w0
  unfold punctualsame_Lend_api_Frame.f at h
  refine calls_enter (n := 21) (args := [.slice A0 l0.length c0, .agg #[.int .i64 x1.C, .int .i64 x1.T, .int .i64 x1.D, .int .i64 x1.J]]) (fn := Tryd.f13) rfl rfl rfl rfl ?_
  show WE _ _ _ _ [(0, .slice A0 l0.length c0), (1, .agg #[.int .i64 x1.C, .int .i64 x1.T, .int .i64 x1.D, .int .i64 x1.J])] _
  refine we_seq fun K1 hK1 => ?_
  refine we_region [(0, 1), (1, 0)] rfl ?_
  refine ge_new (d := some 3) (o := .cells #[.int .i64 x1.C, .int .i64 x1.T, .int .i64 x1.D, .int .i64 x1.J] 30) (v := fun b => .pointer (some ⟨b, 0, none⟩)) hS (fun b => by kernel_rfl) fun b1 w1 hx1 hS1 => ?_
  refine ge_batch [1] (ans := []) (vs := [(4, .slice none 0 0)]) (l := []) (by kernel_rfl) trivial ?_
  refine ge_nil fun a hF => hK1 _ _ ?_ a hF
  refine we_seq fun K2 hK2 => ?_
  refine we_orders2 (by kernel_rfl) [(6, [⟨b1, 0, none⟩, ⟨b1, 1, none⟩, ⟨b1, 2, none⟩, ⟨b1, 3, none⟩]), (7, [⟨b1, 0, none⟩, ⟨b1, 1, none⟩, ⟨b1, 2, none⟩, ⟨b1, 3, none⟩]), (8, [⟨b1, 0, none⟩, ⟨b1, 1, none⟩, ⟨b1, 2, none⟩, ⟨b1, 3, none⟩])] (.vals [0] (.vals [1] (.vals [2] (.vals [4] (.vals [6] (.vals [7] (.vals [8] (.alt 3 1 (.alt 5 2 (.alt 9 1 (.alt 10 2 (.vals [11] .fin) .nomore) .nomore) (.alt 9 1 (.alt 5 2 (.alt 10 2 (.vals [11] .fin) .nomore) .nomore) .nomore)) (.alt 9 1 (.alt 3 1 (.alt 5 2 (.alt 10 2 (.vals [11] .fin) .nomore) .nomore) .nomore) .nomore))))))))) (by kernel_rfl) ?_
  have hS2 := hS1.drew
  refine go2_batch [0, 1, 2, 4] (ans := []) (vs := [(10, .slice A0 l0.length c0), (8, .int .i64 (IntKind.i64.wrap ((l0.length : Int) + 3))), (7, .int .i64 (l0.length : Int)), (6, .slice A0 l0.length c0)]) (l := []) (by kernel_rfl) trivial mem_nil ?_
  refine go2_batch [6] (ans := [.val (.int .i64 x1.C), .val (.int .i64 x1.T), .val (.int .i64 x1.D), .val (.int .i64 x1.J)]) (vs := [(12, .agg #[.int .i64 x1.C, .int .i64 x1.T, .int .i64 x1.D, .int .i64 x1.J])]) (l := [.loaded ⟨b1, 0, none⟩ (.int .i64 x1.C), .loaded ⟨b1, 1, none⟩ (.int .i64 x1.T), .loaded ⟨b1, 2, none⟩ (.int .i64 x1.D), .loaded ⟨b1, 3, none⟩ (.int .i64 x1.J)]) (by kernel_rfl) ⟨hS2.cell 0 rfl rfl, hS2.cell 0 rfl rfl, hS2.cell 0 rfl rfl, hS2.cell 0 rfl rfl, trivial⟩ (mem_one (by kernel_rfl)) ?_
  refine go2_batch [7] (ans := [.val (.int .i64 x1.C), .val (.int .i64 x1.T), .val (.int .i64 x1.D), .val (.int .i64 x1.J)]) (vs := [(13, .agg #[.int .i64 x1.C, .int .i64 x1.T, .int .i64 x1.D, .int .i64 x1.J])]) (l := [.loaded ⟨b1, 0, none⟩ (.int .i64 x1.C), .loaded ⟨b1, 1, none⟩ (.int .i64 x1.T), .loaded ⟨b1, 2, none⟩ (.int .i64 x1.D), .loaded ⟨b1, 3, none⟩ (.int .i64 x1.J)]) (by kernel_rfl) ⟨hS2.cell 0 rfl rfl, hS2.cell 0 rfl rfl, hS2.cell 0 rfl rfl, hS2.cell 0 rfl rfl, trivial⟩ (mem_one (by kernel_rfl)) ?_
  refine go2_batch [8] (ans := [.val (.int .i64 x1.C), .val (.int .i64 x1.T), .val (.int .i64 x1.D), .val (.int .i64 x1.J)]) (vs := [(14, .agg #[.int .i64 x1.C, .int .i64 x1.T, .int .i64 x1.D, .int .i64 x1.J])]) (l := [.loaded ⟨b1, 0, none⟩ (.int .i64 x1.C), .loaded ⟨b1, 1, none⟩ (.int .i64 x1.T), .loaded ⟨b1, 2, none⟩ (.int .i64 x1.D), .loaded ⟨b1, 3, none⟩ (.int .i64 x1.J)]) (by kernel_rfl) ⟨hS2.cell 0 rfl rfl, hS2.cell 0 rfl rfl, hS2.cell 0 rfl rfl, hS2.cell 0 rfl rfl, trivial⟩ (mem_one (by kernel_rfl)) ?_
  by_cases hc1 : 0 ≤ (IntKind.i64.wrap ((l0.length : Int) + 3))
  · rw [if_pos hc1] at h
    by_cases hc2 : ((IntKind.i64.wrap ((l0.length : Int) + 3)).toNat) ≤ 4398046511104
    · rw [if_pos hc2] at h
      refine go_alt2 (fun KK hKK => ?_) ?_
      · refine ge_one2 ?_
        refine ge_make (α := SFrame) (d := 9) (t := 22) (el := 30) (bytes := 32) (l := 0) (c := ((IntKind.i64.wrap ((l0.length : Int) + 3)).toNat)) (x := (.const (.int .i64 0))) (y := (.tmp 8)) (ty := 22) (k1 := .i64) (k2 := .i64) (li := 0) (ci := (IntKind.i64.wrap ((l0.length : Int) + 3))) (z := .agg #[.int .i64 0, .int .i64 0, .int .i64 0, .int .i64 0]) (z' := (⟨0, 0, 0, 0⟩ : SFrame)) (by kernel_rfl) (by kernel_rfl) (by kernel_rfl) rfl (Int.toNat_of_nonneg hc1).symm (by kernel_rfl) (by kernel_rfl) rfl hS2 (Nat.zero_le _) rfl (by omega) fun v1 w2 _ hS3 => ?_
        refine ge_nil fun a hF => hKK _ _ (RS.of2 (l := [.loaded ⟨b1, 0, none⟩ (.int .i64 x1.C), .loaded ⟨b1, 1, none⟩ (.int .i64 x1.T), .loaded ⟨b1, 2, none⟩ (.int .i64 x1.D), .loaded ⟨b1, 3, none⟩ (.int .i64 x1.J), .loaded ⟨b1, 0, none⟩ (.int .i64 x1.C), .loaded ⟨b1, 1, none⟩ (.int .i64 x1.T), .loaded ⟨b1, 2, none⟩ (.int .i64 x1.D), .loaded ⟨b1, 3, none⟩ (.int .i64 x1.J), .loaded ⟨b1, 0, none⟩ (.int .i64 x1.C), .loaded ⟨b1, 1, none⟩ (.int .i64 x1.T), .loaded ⟨b1, 2, none⟩ (.int .i64 x1.D), .loaded ⟨b1, 3, none⟩ (.int .i64 x1.J)]) (by kernel_rfl) ⟨hS2.cell 0 rfl rfl, hS2.cell 0 rfl rfl, hS2.cell 0 rfl rfl, hS2.cell 0 rfl rfl, hS2.cell 0 rfl rfl, hS2.cell 0 rfl rfl, hS2.cell 0 rfl rfl, hS2.cell 0 rfl rfl, hS2.cell 0 rfl rfl, hS2.cell 0 rfl rfl, hS2.cell 0 rfl rfl, hS2.cell 0 rfl rfl, trivial⟩ ⟨hS3.cell 1 rfl rfl, hS3.cell 1 rfl rfl, hS3.cell 1 rfl rfl, hS3.cell 1 rfl rfl, hS3.cell 1 rfl rfl, hS3.cell 1 rfl rfl, hS3.cell 1 rfl rfl, hS3.cell 1 rfl rfl, hS3.cell 1 rfl rfl, hS3.cell 1 rfl rfl, hS3.cell 1 rfl rfl, hS3.cell 1 rfl rfl, trivial⟩) ?_ a hF
        refine go_alt2 (fun KK hKK => ?_) ?_
        · by_cases hc3 : (List.replicate 0 (⟨0, 0, 0, 0⟩ : SFrame)).length + l0.length ≤ 4398046511104
          · rw [if_pos hc3] at h
            refine ge_appendL (α := SFrame) (m := 0) (d := 11) (t := 22) (el := 30) (bytes := 32) (c1 := c0) (A1 := A0) (x := (.tmp 9)) (y := (.tmp 10)) (ty := 22) (v := v1) (z := .agg #[.int .i64 0, .int .i64 0, .int .i64 0, .int .i64 0]) (l := (List.replicate 0 (⟨0, 0, 0, 0⟩ : SFrame))) (us := l0) (by kernel_rfl) (by kernel_rfl) (by kernel_rfl) (by kernel_rfl) (by kernel_rfl) rfl hS3 (hS3.rd hR0) rfl (Nat.mul_le_of_le_div _ _ _ hc3) fun v2 w3 hS4 => ?_
            have hS5 : St w0 w3 [Own.of v2 30 ((List.replicate 0 (⟨0, 0, 0, 0⟩ : SFrame)) ++ l0), Own.blk b1 (.cells #[.int .i64 x1.C, .int .i64 x1.T, .int .i64 x1.D, .int .i64 x1.J] 30 (0, 0))] := hS4
            refine ge_nil fun a hF => hKK _ _ (RS.of2 (l := [.loaded ⟨b1, 0, none⟩ (.int .i64 x1.C), .loaded ⟨b1, 1, none⟩ (.int .i64 x1.T), .loaded ⟨b1, 2, none⟩ (.int .i64 x1.D), .loaded ⟨b1, 3, none⟩ (.int .i64 x1.J), .loaded ⟨b1, 0, none⟩ (.int .i64 x1.C), .loaded ⟨b1, 1, none⟩ (.int .i64 x1.T), .loaded ⟨b1, 2, none⟩ (.int .i64 x1.D), .loaded ⟨b1, 3, none⟩ (.int .i64 x1.J), .loaded ⟨b1, 0, none⟩ (.int .i64 x1.C), .loaded ⟨b1, 1, none⟩ (.int .i64 x1.T), .loaded ⟨b1, 2, none⟩ (.int .i64 x1.D), .loaded ⟨b1, 3, none⟩ (.int .i64 x1.J)]) (by kernel_rfl) ⟨hS3.cell 1 rfl rfl, hS3.cell 1 rfl rfl, hS3.cell 1 rfl rfl, hS3.cell 1 rfl rfl, hS3.cell 1 rfl rfl, hS3.cell 1 rfl rfl, hS3.cell 1 rfl rfl, hS3.cell 1 rfl rfl, hS3.cell 1 rfl rfl, hS3.cell 1 rfl rfl, hS3.cell 1 rfl rfl, hS3.cell 1 rfl rfl, trivial⟩ ⟨hS5.cell 1 rfl rfl, hS5.cell 1 rfl rfl, hS5.cell 1 rfl rfl, hS5.cell 1 rfl rfl, hS5.cell 1 rfl rfl, hS5.cell 1 rfl rfl, hS5.cell 1 rfl rfl, hS5.cell 1 rfl rfl, hS5.cell 1 rfl rfl, hS5.cell 1 rfl rfl, hS5.cell 1 rfl rfl, hS5.cell 1 rfl rfl, trivial⟩) ?_ a hF
            refine go_alt2 (fun KK hKK => ?_) ?_
            · refine ge_one2 ?_
              refine ge_new (d := some 15) (o := .cells #[.int .i64 x1.C, .int .i64 x1.T, .int .i64 x1.D, .int .i64 x1.J, .int .i64 x1.C, .int .i64 x1.T, .int .i64 x1.D, .int .i64 x1.J, .int .i64 x1.C, .int .i64 x1.T, .int .i64 x1.D, .int .i64 x1.J] 30) (v := fun b => .slice (some ⟨b, 0, none⟩) 3 3) hS5 (fun b => by kernel_rfl) fun b2 w4 hx2 hS6 => ?_
              refine ge_nil fun a hF => hKK _ _ (RS.of2 (l := []) (by kernel_rfl) trivial trivial) ?_ a hF
              refine go_alt2 (fun KK hKK => ?_) ?_
              · have hS7 := hS6.bring 1 rfl
                by_cases hc4 : ((List.replicate 0 (⟨0, 0, 0, 0⟩ : SFrame)) ++ l0).length + 3 ≤ 4398046511104
                · rw [if_pos hc4] at h
                  refine ge_appendL (α := SFrame) (m := 0) (d := 16) (t := 22) (el := 30) (bytes := 32) (c1 := 3) (A1 := (some ⟨b2, 0, none⟩)) (x := (.tmp 11)) (y := (.tmp 15)) (ty := 22) (v := v2) (z := .agg #[.int .i64 0, .int .i64 0, .int .i64 0, .int .i64 0]) (l := ((List.replicate 0 (⟨0, 0, 0, 0⟩ : SFrame)) ++ l0)) (us := ([x1, x1, x1] : List SFrame)) (by kernel_rfl) (by kernel_rfl) (by kernel_rfl) (by kernel_rfl) (by kernel_rfl) rfl hS7 (hS7.rdBlk 1 ([x1, x1, x1] : List SFrame) rfl rfl rfl) rfl (Nat.mul_le_of_le_div _ _ _ hc4) fun v3 w5 hS8 => ?_
                  have hS9 : St w0 w5 [Own.of v3 30 (((List.replicate 0 (⟨0, 0, 0, 0⟩ : SFrame)) ++ l0) ++ ([x1, x1, x1] : List SFrame)), Own.blk b2 (.cells #[.int .i64 x1.C, .int .i64 x1.T, .int .i64 x1.D, .int .i64 x1.J, .int .i64 x1.C, .int .i64 x1.T, .int .i64 x1.D, .int .i64 x1.J, .int .i64 x1.C, .int .i64 x1.T, .int .i64 x1.D, .int .i64 x1.J] 30 (0, 0)), Own.blk b1 (.cells #[.int .i64 x1.C, .int .i64 x1.T, .int .i64 x1.D, .int .i64 x1.J] 30 (0, 0))] := hS8
                  refine ge_nil fun a hF => hKK _ _ (RS.of2 (l := [.loaded ⟨b1, 0, none⟩ (.int .i64 x1.C), .loaded ⟨b1, 1, none⟩ (.int .i64 x1.T), .loaded ⟨b1, 2, none⟩ (.int .i64 x1.D), .loaded ⟨b1, 3, none⟩ (.int .i64 x1.J), .loaded ⟨b1, 0, none⟩ (.int .i64 x1.C), .loaded ⟨b1, 1, none⟩ (.int .i64 x1.T), .loaded ⟨b1, 2, none⟩ (.int .i64 x1.D), .loaded ⟨b1, 3, none⟩ (.int .i64 x1.J), .loaded ⟨b1, 0, none⟩ (.int .i64 x1.C), .loaded ⟨b1, 1, none⟩ (.int .i64 x1.T), .loaded ⟨b1, 2, none⟩ (.int .i64 x1.D), .loaded ⟨b1, 3, none⟩ (.int .i64 x1.J)]) (by kernel_rfl) ⟨hS6.cell 2 rfl rfl, hS6.cell 2 rfl rfl, hS6.cell 2 rfl rfl, hS6.cell 2 rfl rfl, hS6.cell 2 rfl rfl, hS6.cell 2 rfl rfl, hS6.cell 2 rfl rfl, hS6.cell 2 rfl rfl, hS6.cell 2 rfl rfl, hS6.cell 2 rfl rfl, hS6.cell 2 rfl rfl, hS6.cell 2 rfl rfl, trivial⟩ ⟨hS9.cell 2 rfl rfl, hS9.cell 2 rfl rfl, hS9.cell 2 rfl rfl, hS9.cell 2 rfl rfl, hS9.cell 2 rfl rfl, hS9.cell 2 rfl rfl, hS9.cell 2 rfl rfl, hS9.cell 2 rfl rfl, hS9.cell 2 rfl rfl, hS9.cell 2 rfl rfl, hS9.cell 2 rfl rfl, hS9.cell 2 rfl rfl, trivial⟩) ?_ a hF
                  refine go2_batch [11] (ans := []) (vs := [(5, v3)]) (l := []) (by kernel_rfl) trivial mem_nil ?_
                  refine go_fin2 fun a hF => hK2 _ _ ?_ a hF
                  refine we_seq fun K3 hK3 => ?_
                  refine we_region [(0, 0), (1, 0), (2, 0), (3, 0), (4, 0)] rfl ?_
                  refine ge_batch [0, 1, 2] (ans := []) (vs := [(19, .int .i64 (l0.length : Int)), (18, .slice A0 l0.length c0), (17, v3)]) (l := []) (by kernel_rfl) trivial ?_
                  obtain ⟨Z1, cz1, rfl, hcp1⟩ := hS9.open2 0 rfl
                  refine ge_sliceHi (d := 20) (ty := 22) (t := 22) (el := 30) (sz := 4) (m := ((((List.replicate 0 (⟨0, 0, 0, 0⟩ : SFrame)) ++ l0) ++ ([x1, x1, x1] : List SFrame)).length)) (c := cz1) (hn := l0.length) (x := (.tmp 17)) (y := (.tmp 19)) (A := Z1) (k' := .i64) (hi := (l0.length : Int)) (by kernel_rfl) (by kernel_rfl) (by kernel_rfl) rfl (by kernel_rfl) (by kernel_rfl) (by have h0 := hcp1; simp only [List.length_append, List.length_cons, List.length_nil] at h0; omega) ?_
                  refine ge_batch [4] (ans := []) (vs := [(4, .slice Z1 l0.length cz1)]) (l := []) (by kernel_rfl) trivial ?_
                  refine ge_nil fun a hF => hK3 _ _ ?_ a hF
                  have hS10 := hS9.takeN 1
                  obtain rfl := Option.some.inj h
                  exact we_ret (post_ret (rs := [.tmp 4]) (ans := []) (vs := [.slice Z1 l0.length cz1]) (l := []) rfl (by kernel_rfl) trivial ⟨Z1, cz1, rfl, hcp1, hS10⟩)
                · rw [if_neg hc4] at h
                  cases h
              exact go_nomore2
            exact go_nomore2
          · rw [if_neg hc3] at h
            cases h
        refine go_alt2 (fun KK hKK => ?_) ?_
        · refine ge_one2 ?_
          refine ge_new (d := some 15) (o := .cells #[.int .i64 x1.C, .int .i64 x1.T, .int .i64 x1.D, .int .i64 x1.J, .int .i64 x1.C, .int .i64 x1.T, .int .i64 x1.D, .int .i64 x1.J, .int .i64 x1.C, .int .i64 x1.T, .int .i64 x1.D, .int .i64 x1.J] 30) (v := fun b => .slice (some ⟨b, 0, none⟩) 3 3) hS3 (fun b => by kernel_rfl) fun b2 w3 hx2 hS4 => ?_
          refine ge_nil fun a hF => hKK _ _ (RS.of2 (l := []) (by kernel_rfl) trivial trivial) ?_ a hF
          refine go_alt2 (fun KK hKK => ?_) ?_
          · have hS5 := hS4.bring 1 rfl
            by_cases hc3 : (List.replicate 0 (⟨0, 0, 0, 0⟩ : SFrame)).length + l0.length ≤ 4398046511104
            · rw [if_pos hc3] at h
              refine ge_appendL (α := SFrame) (m := 0) (d := 11) (t := 22) (el := 30) (bytes := 32) (c1 := c0) (A1 := A0) (x := (.tmp 9)) (y := (.tmp 10)) (ty := 22) (v := v1) (z := .agg #[.int .i64 0, .int .i64 0, .int .i64 0, .int .i64 0]) (l := (List.replicate 0 (⟨0, 0, 0, 0⟩ : SFrame))) (us := l0) (by kernel_rfl) (by kernel_rfl) (by kernel_rfl) (by kernel_rfl) (by kernel_rfl) rfl hS5 (hS5.rd hR0) rfl (Nat.mul_le_of_le_div _ _ _ hc3) fun v2 w4 hS6 => ?_
              have hS7 : St w0 w4 [Own.of v2 30 ((List.replicate 0 (⟨0, 0, 0, 0⟩ : SFrame)) ++ l0), Own.blk b2 (.cells #[.int .i64 x1.C, .int .i64 x1.T, .int .i64 x1.D, .int .i64 x1.J, .int .i64 x1.C, .int .i64 x1.T, .int .i64 x1.D, .int .i64 x1.J, .int .i64 x1.C, .int .i64 x1.T, .int .i64 x1.D, .int .i64 x1.J] 30 (0, 0)), Own.blk b1 (.cells #[.int .i64 x1.C, .int .i64 x1.T, .int .i64 x1.D, .int .i64 x1.J] 30 (0, 0))] := hS6
              refine ge_nil fun a hF => hKK _ _ (RS.of2 (l := [.loaded ⟨b1, 0, none⟩ (.int .i64 x1.C), .loaded ⟨b1, 1, none⟩ (.int .i64 x1.T), .loaded ⟨b1, 2, none⟩ (.int .i64 x1.D), .loaded ⟨b1, 3, none⟩ (.int .i64 x1.J), .loaded ⟨b1, 0, none⟩ (.int .i64 x1.C), .loaded ⟨b1, 1, none⟩ (.int .i64 x1.T), .loaded ⟨b1, 2, none⟩ (.int .i64 x1.D), .loaded ⟨b1, 3, none⟩ (.int .i64 x1.J), .loaded ⟨b1, 0, none⟩ (.int .i64 x1.C), .loaded ⟨b1, 1, none⟩ (.int .i64 x1.T), .loaded ⟨b1, 2, none⟩ (.int .i64 x1.D), .loaded ⟨b1, 3, none⟩ (.int .i64 x1.J)]) (by kernel_rfl) ⟨hS4.cell 2 rfl rfl, hS4.cell 2 rfl rfl, hS4.cell 2 rfl rfl, hS4.cell 2 rfl rfl, hS4.cell 2 rfl rfl, hS4.cell 2 rfl rfl, hS4.cell 2 rfl rfl, hS4.cell 2 rfl rfl, hS4.cell 2 rfl rfl, hS4.cell 2 rfl rfl, hS4.cell 2 rfl rfl, hS4.cell 2 rfl rfl, trivial⟩ ⟨hS7.cell 2 rfl rfl, hS7.cell 2 rfl rfl, hS7.cell 2 rfl rfl, hS7.cell 2 rfl rfl, hS7.cell 2 rfl rfl, hS7.cell 2 rfl rfl, hS7.cell 2 rfl rfl, hS7.cell 2 rfl rfl, hS7.cell 2 rfl rfl, hS7.cell 2 rfl rfl, hS7.cell 2 rfl rfl, hS7.cell 2 rfl rfl, trivial⟩) ?_ a hF
              refine go_alt2 (fun KK hKK => ?_) ?_
              · by_cases hc4 : ((List.replicate 0 (⟨0, 0, 0, 0⟩ : SFrame)) ++ l0).length + 3 ≤ 4398046511104
                · rw [if_pos hc4] at h
                  refine ge_appendL (α := SFrame) (m := 0) (d := 16) (t := 22) (el := 30) (bytes := 32) (c1 := 3) (A1 := (some ⟨b2, 0, none⟩)) (x := (.tmp 11)) (y := (.tmp 15)) (ty := 22) (v := v2) (z := .agg #[.int .i64 0, .int .i64 0, .int .i64 0, .int .i64 0]) (l := ((List.replicate 0 (⟨0, 0, 0, 0⟩ : SFrame)) ++ l0)) (us := ([x1, x1, x1] : List SFrame)) (by kernel_rfl) (by kernel_rfl) (by kernel_rfl) (by kernel_rfl) (by kernel_rfl) rfl hS7 (hS7.rdBlk 1 ([x1, x1, x1] : List SFrame) rfl rfl rfl) rfl (Nat.mul_le_of_le_div _ _ _ hc4) fun v3 w5 hS8 => ?_
                  have hS9 : St w0 w5 [Own.of v3 30 (((List.replicate 0 (⟨0, 0, 0, 0⟩ : SFrame)) ++ l0) ++ ([x1, x1, x1] : List SFrame)), Own.blk b2 (.cells #[.int .i64 x1.C, .int .i64 x1.T, .int .i64 x1.D, .int .i64 x1.J, .int .i64 x1.C, .int .i64 x1.T, .int .i64 x1.D, .int .i64 x1.J, .int .i64 x1.C, .int .i64 x1.T, .int .i64 x1.D, .int .i64 x1.J] 30 (0, 0)), Own.blk b1 (.cells #[.int .i64 x1.C, .int .i64 x1.T, .int .i64 x1.D, .int .i64 x1.J] 30 (0, 0))] := hS8
                  refine ge_nil fun a hF => hKK _ _ (RS.of2 (l := [.loaded ⟨b1, 0, none⟩ (.int .i64 x1.C), .loaded ⟨b1, 1, none⟩ (.int .i64 x1.T), .loaded ⟨b1, 2, none⟩ (.int .i64 x1.D), .loaded ⟨b1, 3, none⟩ (.int .i64 x1.J), .loaded ⟨b1, 0, none⟩ (.int .i64 x1.C), .loaded ⟨b1, 1, none⟩ (.int .i64 x1.T), .loaded ⟨b1, 2, none⟩ (.int .i64 x1.D), .loaded ⟨b1, 3, none⟩ (.int .i64 x1.J), .loaded ⟨b1, 0, none⟩ (.int .i64 x1.C), .loaded ⟨b1, 1, none⟩ (.int .i64 x1.T), .loaded ⟨b1, 2, none⟩ (.int .i64 x1.D), .loaded ⟨b1, 3, none⟩ (.int .i64 x1.J)]) (by kernel_rfl) ⟨hS7.cell 2 rfl rfl, hS7.cell 2 rfl rfl, hS7.cell 2 rfl rfl, hS7.cell 2 rfl rfl, hS7.cell 2 rfl rfl, hS7.cell 2 rfl rfl, hS7.cell 2 rfl rfl, hS7.cell 2 rfl rfl, hS7.cell 2 rfl rfl, hS7.cell 2 rfl rfl, hS7.cell 2 rfl rfl, hS7.cell 2 rfl rfl, trivial⟩ ⟨hS9.cell 2 rfl rfl, hS9.cell 2 rfl rfl, hS9.cell 2 rfl rfl, hS9.cell 2 rfl rfl, hS9.cell 2 rfl rfl, hS9.cell 2 rfl rfl, hS9.cell 2 rfl rfl, hS9.cell 2 rfl rfl, hS9.cell 2 rfl rfl, hS9.cell 2 rfl rfl, hS9.cell 2 rfl rfl, hS9.cell 2 rfl rfl, trivial⟩) ?_ a hF
                  refine go2_batch [11] (ans := []) (vs := [(5, v3)]) (l := []) (by kernel_rfl) trivial mem_nil ?_
                  refine go_fin2 fun a hF => hK2 _ _ ?_ a hF
                  refine we_seq fun K3 hK3 => ?_
                  refine we_region [(0, 0), (1, 0), (2, 0), (3, 0), (4, 0)] rfl ?_
                  refine ge_batch [0, 1, 2] (ans := []) (vs := [(19, .int .i64 (l0.length : Int)), (18, .slice A0 l0.length c0), (17, v3)]) (l := []) (by kernel_rfl) trivial ?_
                  obtain ⟨Z1, cz1, rfl, hcp1⟩ := hS9.open2 0 rfl
                  refine ge_sliceHi (d := 20) (ty := 22) (t := 22) (el := 30) (sz := 4) (m := ((((List.replicate 0 (⟨0, 0, 0, 0⟩ : SFrame)) ++ l0) ++ ([x1, x1, x1] : List SFrame)).length)) (c := cz1) (hn := l0.length) (x := (.tmp 17)) (y := (.tmp 19)) (A := Z1) (k' := .i64) (hi := (l0.length : Int)) (by kernel_rfl) (by kernel_rfl) (by kernel_rfl) rfl (by kernel_rfl) (by kernel_rfl) (by have h0 := hcp1; simp only [List.length_append, List.length_cons, List.length_nil] at h0; omega) ?_
                  refine ge_batch [4] (ans := []) (vs := [(4, .slice Z1 l0.length cz1)]) (l := []) (by kernel_rfl) trivial ?_
                  refine ge_nil fun a hF => hK3 _ _ ?_ a hF
                  have hS10 := hS9.takeN 1
                  obtain rfl := Option.some.inj h
                  exact we_ret (post_ret (rs := [.tmp 4]) (ans := []) (vs := [.slice Z1 l0.length cz1]) (l := []) rfl (by kernel_rfl) trivial ⟨Z1, cz1, rfl, hcp1, hS10⟩)
                · rw [if_neg hc4] at h
                  cases h
              exact go_nomore2
            · rw [if_neg hc3] at h
              cases h
          exact go_nomore2
        exact go_nomore2
      refine go_alt2 (fun KK hKK => ?_) ?_
      · refine ge_one2 ?_
        refine ge_new (d := some 15) (o := .cells #[.int .i64 x1.C, .int .i64 x1.T, .int .i64 x1.D, .int .i64 x1.J, .int .i64 x1.C, .int .i64 x1.T, .int .i64 x1.D, .int .i64 x1.J, .int .i64 x1.C, .int .i64 x1.T, .int .i64 x1.D, .int .i64 x1.J] 30) (v := fun b => .slice (some ⟨b, 0, none⟩) 3 3) hS2 (fun b => by kernel_rfl) fun b2 w2 hx2 hS3 => ?_
        refine ge_nil fun a hF => hKK _ _ (RS.of2 (l := []) (by kernel_rfl) trivial trivial) ?_ a hF
        refine go_alt2 (fun KK hKK => ?_) ?_
        · refine ge_one2 ?_
          refine ge_make (α := SFrame) (d := 9) (t := 22) (el := 30) (bytes := 32) (l := 0) (c := ((IntKind.i64.wrap ((l0.length : Int) + 3)).toNat)) (x := (.const (.int .i64 0))) (y := (.tmp 8)) (ty := 22) (k1 := .i64) (k2 := .i64) (li := 0) (ci := (IntKind.i64.wrap ((l0.length : Int) + 3))) (z := .agg #[.int .i64 0, .int .i64 0, .int .i64 0, .int .i64 0]) (z' := (⟨0, 0, 0, 0⟩ : SFrame)) (by kernel_rfl) (by kernel_rfl) (by kernel_rfl) rfl (Int.toNat_of_nonneg hc1).symm (by kernel_rfl) (by kernel_rfl) rfl hS3 (Nat.zero_le _) rfl (by omega) fun v1 w3 _ hS4 => ?_
          refine ge_nil fun a hF => hKK _ _ (RS.of2 (l := [.loaded ⟨b1, 0, none⟩ (.int .i64 x1.C), .loaded ⟨b1, 1, none⟩ (.int .i64 x1.T), .loaded ⟨b1, 2, none⟩ (.int .i64 x1.D), .loaded ⟨b1, 3, none⟩ (.int .i64 x1.J), .loaded ⟨b1, 0, none⟩ (.int .i64 x1.C), .loaded ⟨b1, 1, none⟩ (.int .i64 x1.T), .loaded ⟨b1, 2, none⟩ (.int .i64 x1.D), .loaded ⟨b1, 3, none⟩ (.int .i64 x1.J), .loaded ⟨b1, 0, none⟩ (.int .i64 x1.C), .loaded ⟨b1, 1, none⟩ (.int .i64 x1.T), .loaded ⟨b1, 2, none⟩ (.int .i64 x1.D), .loaded ⟨b1, 3, none⟩ (.int .i64 x1.J)]) (by kernel_rfl) ⟨hS3.cell 1 rfl rfl, hS3.cell 1 rfl rfl, hS3.cell 1 rfl rfl, hS3.cell 1 rfl rfl, hS3.cell 1 rfl rfl, hS3.cell 1 rfl rfl, hS3.cell 1 rfl rfl, hS3.cell 1 rfl rfl, hS3.cell 1 rfl rfl, hS3.cell 1 rfl rfl, hS3.cell 1 rfl rfl, hS3.cell 1 rfl rfl, trivial⟩ ⟨hS4.cell 2 rfl rfl, hS4.cell 2 rfl rfl, hS4.cell 2 rfl rfl, hS4.cell 2 rfl rfl, hS4.cell 2 rfl rfl, hS4.cell 2 rfl rfl, hS4.cell 2 rfl rfl, hS4.cell 2 rfl rfl, hS4.cell 2 rfl rfl, hS4.cell 2 rfl rfl, hS4.cell 2 rfl rfl, hS4.cell 2 rfl rfl, trivial⟩) ?_ a hF
          refine go_alt2 (fun KK hKK => ?_) ?_
          · by_cases hc3 : (List.replicate 0 (⟨0, 0, 0, 0⟩ : SFrame)).length + l0.length ≤ 4398046511104
            · rw [if_pos hc3] at h
              refine ge_appendL (α := SFrame) (m := 0) (d := 11) (t := 22) (el := 30) (bytes := 32) (c1 := c0) (A1 := A0) (x := (.tmp 9)) (y := (.tmp 10)) (ty := 22) (v := v1) (z := .agg #[.int .i64 0, .int .i64 0, .int .i64 0, .int .i64 0]) (l := (List.replicate 0 (⟨0, 0, 0, 0⟩ : SFrame))) (us := l0) (by kernel_rfl) (by kernel_rfl) (by kernel_rfl) (by kernel_rfl) (by kernel_rfl) rfl hS4 (hS4.rd hR0) rfl (Nat.mul_le_of_le_div _ _ _ hc3) fun v2 w4 hS5 => ?_
              have hS6 : St w0 w4 [Own.of v2 30 ((List.replicate 0 (⟨0, 0, 0, 0⟩ : SFrame)) ++ l0), Own.blk b2 (.cells #[.int .i64 x1.C, .int .i64 x1.T, .int .i64 x1.D, .int .i64 x1.J, .int .i64 x1.C, .int .i64 x1.T, .int .i64 x1.D, .int .i64 x1.J, .int .i64 x1.C, .int .i64 x1.T, .int .i64 x1.D, .int .i64 x1.J] 30 (0, 0)), Own.blk b1 (.cells #[.int .i64 x1.C, .int .i64 x1.T, .int .i64 x1.D, .int .i64 x1.J] 30 (0, 0))] := hS5
              refine ge_nil fun a hF => hKK _ _ (RS.of2 (l := [.loaded ⟨b1, 0, none⟩ (.int .i64 x1.C), .loaded ⟨b1, 1, none⟩ (.int .i64 x1.T), .loaded ⟨b1, 2, none⟩ (.int .i64 x1.D), .loaded ⟨b1, 3, none⟩ (.int .i64 x1.J), .loaded ⟨b1, 0, none⟩ (.int .i64 x1.C), .loaded ⟨b1, 1, none⟩ (.int .i64 x1.T), .loaded ⟨b1, 2, none⟩ (.int .i64 x1.D), .loaded ⟨b1, 3, none⟩ (.int .i64 x1.J), .loaded ⟨b1, 0, none⟩ (.int .i64 x1.C), .loaded ⟨b1, 1, none⟩ (.int .i64 x1.T), .loaded ⟨b1, 2, none⟩ (.int .i64 x1.D), .loaded ⟨b1, 3, none⟩ (.int .i64 x1.J)]) (by kernel_rfl) ⟨hS4.cell 2 rfl rfl, hS4.cell 2 rfl rfl, hS4.cell 2 rfl rfl, hS4.cell 2 rfl rfl, hS4.cell 2 rfl rfl, hS4.cell 2 rfl rfl, hS4.cell 2 rfl rfl, hS4.cell 2 rfl rfl, hS4.cell 2 rfl rfl, hS4.cell 2 rfl rfl, hS4.cell 2 rfl rfl, hS4.cell 2 rfl rfl, trivial⟩ ⟨hS6.cell 2 rfl rfl, hS6.cell 2 rfl rfl, hS6.cell 2 rfl rfl, hS6.cell 2 rfl rfl, hS6.cell 2 rfl rfl, hS6.cell 2 rfl rfl, hS6.cell 2 rfl rfl, hS6.cell 2 rfl rfl, hS6.cell 2 rfl rfl, hS6.cell 2 rfl rfl, hS6.cell 2 rfl rfl, hS6.cell 2 rfl rfl, trivial⟩) ?_ a hF
              refine go_alt2 (fun KK hKK => ?_) ?_
              · by_cases hc4 : ((List.replicate 0 (⟨0, 0, 0, 0⟩ : SFrame)) ++ l0).length + 3 ≤ 4398046511104
                · rw [if_pos hc4] at h
                  refine ge_appendL (α := SFrame) (m := 0) (d := 16) (t := 22) (el := 30) (bytes := 32) (c1 := 3) (A1 := (some ⟨b2, 0, none⟩)) (x := (.tmp 11)) (y := (.tmp 15)) (ty := 22) (v := v2) (z := .agg #[.int .i64 0, .int .i64 0, .int .i64 0, .int .i64 0]) (l := ((List.replicate 0 (⟨0, 0, 0, 0⟩ : SFrame)) ++ l0)) (us := ([x1, x1, x1] : List SFrame)) (by kernel_rfl) (by kernel_rfl) (by kernel_rfl) (by kernel_rfl) (by kernel_rfl) rfl hS6 (hS6.rdBlk 1 ([x1, x1, x1] : List SFrame) rfl rfl rfl) rfl (Nat.mul_le_of_le_div _ _ _ hc4) fun v3 w5 hS7 => ?_
                  have hS8 : St w0 w5 [Own.of v3 30 (((List.replicate 0 (⟨0, 0, 0, 0⟩ : SFrame)) ++ l0) ++ ([x1, x1, x1] : List SFrame)), Own.blk b2 (.cells #[.int .i64 x1.C, .int .i64 x1.T, .int .i64 x1.D, .int .i64 x1.J, .int .i64 x1.C, .int .i64 x1.T, .int .i64 x1.D, .int .i64 x1.J, .int .i64 x1.C, .int .i64 x1.T, .int .i64 x1.D, .int .i64 x1.J] 30 (0, 0)), Own.blk b1 (.cells #[.int .i64 x1.C, .int .i64 x1.T, .int .i64 x1.D, .int .i64 x1.J] 30 (0, 0))] := hS7
                  refine ge_nil fun a hF => hKK _ _ (RS.of2 (l := [.loaded ⟨b1, 0, none⟩ (.int .i64 x1.C), .loaded ⟨b1, 1, none⟩ (.int .i64 x1.T), .loaded ⟨b1, 2, none⟩ (.int .i64 x1.D), .loaded ⟨b1, 3, none⟩ (.int .i64 x1.J), .loaded ⟨b1, 0, none⟩ (.int .i64 x1.C), .loaded ⟨b1, 1, none⟩ (.int .i64 x1.T), .loaded ⟨b1, 2, none⟩ (.int .i64 x1.D), .loaded ⟨b1, 3, none⟩ (.int .i64 x1.J), .loaded ⟨b1, 0, none⟩ (.int .i64 x1.C), .loaded ⟨b1, 1, none⟩ (.int .i64 x1.T), .loaded ⟨b1, 2, none⟩ (.int .i64 x1.D), .loaded ⟨b1, 3, none⟩ (.int .i64 x1.J)]) (by kernel_rfl) ⟨hS6.cell 2 rfl rfl, hS6.cell 2 rfl rfl, hS6.cell 2 rfl rfl, hS6.cell 2 rfl rfl, hS6.cell 2 rfl rfl, hS6.cell 2 rfl rfl, hS6.cell 2 rfl rfl, hS6.cell 2 rfl rfl, hS6.cell 2 rfl rfl, hS6.cell 2 rfl rfl, hS6.cell 2 rfl rfl, hS6.cell 2 rfl rfl, trivial⟩ ⟨hS8.cell 2 rfl rfl, hS8.cell 2 rfl rfl, hS8.cell 2 rfl rfl, hS8.cell 2 rfl rfl, hS8.cell 2 rfl rfl, hS8.cell 2 rfl rfl, hS8.cell 2 rfl rfl, hS8.cell 2 rfl rfl, hS8.cell 2 rfl rfl, hS8.cell 2 rfl rfl, hS8.cell 2 rfl rfl, hS8.cell 2 rfl rfl, trivial⟩) ?_ a hF
                  refine go2_batch [11] (ans := []) (vs := [(5, v3)]) (l := []) (by kernel_rfl) trivial mem_nil ?_
                  refine go_fin2 fun a hF => hK2 _ _ ?_ a hF
                  refine we_seq fun K3 hK3 => ?_
                  refine we_region [(0, 0), (1, 0), (2, 0), (3, 0), (4, 0)] rfl ?_
                  refine ge_batch [0, 1, 2] (ans := []) (vs := [(19, .int .i64 (l0.length : Int)), (18, .slice A0 l0.length c0), (17, v3)]) (l := []) (by kernel_rfl) trivial ?_
                  obtain ⟨Z1, cz1, rfl, hcp1⟩ := hS8.open2 0 rfl
                  refine ge_sliceHi (d := 20) (ty := 22) (t := 22) (el := 30) (sz := 4) (m := ((((List.replicate 0 (⟨0, 0, 0, 0⟩ : SFrame)) ++ l0) ++ ([x1, x1, x1] : List SFrame)).length)) (c := cz1) (hn := l0.length) (x := (.tmp 17)) (y := (.tmp 19)) (A := Z1) (k' := .i64) (hi := (l0.length : Int)) (by kernel_rfl) (by kernel_rfl) (by kernel_rfl) rfl (by kernel_rfl) (by kernel_rfl) (by have h0 := hcp1; simp only [List.length_append, List.length_cons, List.length_nil] at h0; omega) ?_
                  refine ge_batch [4] (ans := []) (vs := [(4, .slice Z1 l0.length cz1)]) (l := []) (by kernel_rfl) trivial ?_
                  refine ge_nil fun a hF => hK3 _ _ ?_ a hF
                  have hS9 := hS8.takeN 1
                  obtain rfl := Option.some.inj h
                  exact we_ret (post_ret (rs := [.tmp 4]) (ans := []) (vs := [.slice Z1 l0.length cz1]) (l := []) rfl (by kernel_rfl) trivial ⟨Z1, cz1, rfl, hcp1, hS9⟩)
                · rw [if_neg hc4] at h
                  cases h
              exact go_nomore2
            · rw [if_neg hc3] at h
              cases h
          exact go_nomore2
        exact go_nomore2
      exact go_nomore2
    · rw [if_neg hc2] at h
      cases h
  · rw [if_neg hc1] at h
    cases h
theorem punctualsame_Lend_api_Frame_full (l0 : List SFrame) (x1 : SFrame) {r : List SFrame} (h : punctualsame_Lend_api_Frame.f l0 x1 = some r) : r = l0 ++ [x1, x1, x1] := by
  unfold punctualsame_Lend_api_Frame.f at h
  repeat' split at h
  all_goals first | (exact (Option.some.inj h).symm) | cases h

/-! punctual/punctualsame.Lend[punctual/api.Come] -/
abbrev punctualsame_Lend_api_Come.Post (w0 : World) (n : Nat) (r : List SCome) (e : Ending) (w : World) : Prop := ∃ (A : Option Addr) (c : Nat), e = .returned (.slice A n c) ∧ r.length ≤ c ∧ St w0 w [Own.of (.slice A r.length c) 33 r]
def punctualsame_Lend_api_Come.f (l0 : List SCome) (x1 : SCome) : Option (List SCome) :=
  if 0 ≤ (IntKind.i64.wrap ((l0.length : Int) + 3)) then
    if ((IntKind.i64.wrap ((l0.length : Int) + 3)).toNat) ≤ 8796093022208 then
      if (List.replicate 0 (⟨0, 0⟩ : SCome)).length + l0.length ≤ 8796093022208 then
        if ((List.replicate 0 (⟨0, 0⟩ : SCome)) ++ l0).length + 3 ≤ 8796093022208 then
          some (((List.replicate 0 (⟨0, 0⟩ : SCome)) ++ l0) ++ ([x1, x1, x1] : List SCome))
        else
          none
      else
        none
    else
      none
  else
    none
theorem punctualsame_Lend_api_Come_ok (l0 : List SCome) (A0 : Option Addr) (c0 : Nat) (x1 : SCome) (w0 : World) (hR0 : RdL w0 A0 l0) (hL0 : l0.length ≤ c0) (r : List SCome) (h : punctualsame_Lend_api_Come.f l0 x1 = some r) :
    Calls Tryd.prog 14 #[.slice A0 l0.length c0, .agg #[.int .i64 x1.Task, .int .i64 x1.At]] w0 (punctualsame_Lend_api_Come.Post w0 l0.length r) := by
  have hS := St.start w0
  unfold punctualsame_Lend_api_Come.f at h
  refine calls_enter (n := 21) (args := [.slice A0 l0.length c0, .agg #[.int .i64 x1.Task, .int .i64 x1.At]]) (fn := Tryd.f14) rfl rfl rfl rfl ?_
  show WE _ _ _ _ [(0, .slice A0 l0.length c0), (1, .agg #[.int .i64 x1.Task, .int .i64 x1.At])] _
  refine we_seq fun K1 hK1 => ?_
  refine we_region [(0, 1), (1, 0)] rfl ?_
  refine ge_new (d := some 3) (o := .cells #[.int .i64 x1.Task, .int .i64 x1.At] 33) (v := fun b => .pointer (some ⟨b, 0, none⟩)) hS (fun b => by kernel_rfl) fun b1 w1 hx1 hS1 => ?_
  refine ge_batch [1] (ans := []) (vs := [(4, .slice none 0 0)]) (l := []) (by kernel_rfl) trivial ?_
  refine ge_nil fun a hF => hK1 _ _ ?_ a hF
  refine we_seq fun K2 hK2 => ?_
  refine we_orders2 (by kernel_rfl) [(6, [⟨b1, 0, none⟩, ⟨b1, 1, none⟩]), (7, [⟨b1, 0, none⟩, ⟨b1, 1, none⟩]), (8, [⟨b1, 0, none⟩, ⟨b1, 1, none⟩])] (.vals [0] (.vals [1] (.vals [2] (.vals [4] (.vals [6] (.vals [7] (.vals [8] (.alt 3 1 (.alt 5 2 (.alt 9 1 (.alt 10 2 (.vals [11] .fin) .nomore) .nomore) (.alt 9 1 (.alt 5 2 (.alt 10 2 (.vals [11] .fin) .nomore) .nomore) .nomore)) (.alt 9 1 (.alt 3 1 (.alt 5 2 (.alt 10 2 (.vals [11] .fin) .nomore) .nomore) .nomore) .nomore))))))))) (by kernel_rfl) ?_
  have hS2 := hS1.drew
  refine go2_batch [0, 1, 2, 4] (ans := []) (vs := [(10, .slice A0 l0.length c0), (8, .int .i64 (IntKind.i64.wrap ((l0.length : Int) + 3))), (7, .int .i64 (l0.length : Int)), (6, .slice A0 l0.length c0)]) (l := []) (by kernel_rfl) trivial mem_nil ?_
  refine go2_batch [6] (ans := [.val (.int .i64 x1.Task), .val (.int .i64 x1.At)]) (vs := [(12, .agg #[.int .i64 x1.Task, .int .i64 x1.At])]) (l := [.loaded ⟨b1, 0, none⟩ (.int .i64 x1.Task), .loaded ⟨b1, 1, none⟩ (.int .i64 x1.At)]) (by kernel_rfl) ⟨hS2.cell 0 rfl rfl, hS2.cell 0 rfl rfl, trivial⟩ (mem_one (by kernel_rfl)) ?_
  refine go2_batch [7] (ans := [.val (.int .i64 x1.Task), .val (.int .i64 x1.At)]) (vs := [(13, .agg #[.int .i64 x1.Task, .int .i64 x1.At])]) (l := [.loaded ⟨b1, 0, none⟩ (.int .i64 x1.Task), .loaded ⟨b1, 1, none⟩ (.int .i64 x1.At)]) (by kernel_rfl) ⟨hS2.cell 0 rfl rfl, hS2.cell 0 rfl rfl, trivial⟩ (mem_one (by kernel_rfl)) ?_
  refine go2_batch [8] (ans := [.val (.int .i64 x1.Task), .val (.int .i64 x1.At)]) (vs := [(14, .agg #[.int .i64 x1.Task, .int .i64 x1.At])]) (l := [.loaded ⟨b1, 0, none⟩ (.int .i64 x1.Task), .loaded ⟨b1, 1, none⟩ (.int .i64 x1.At)]) (by kernel_rfl) ⟨hS2.cell 0 rfl rfl, hS2.cell 0 rfl rfl, trivial⟩ (mem_one (by kernel_rfl)) ?_
  by_cases hc1 : 0 ≤ (IntKind.i64.wrap ((l0.length : Int) + 3))
  · rw [if_pos hc1] at h
    by_cases hc2 : ((IntKind.i64.wrap ((l0.length : Int) + 3)).toNat) ≤ 8796093022208
    · rw [if_pos hc2] at h
      refine go_alt2 (fun KK hKK => ?_) ?_
      · refine ge_one2 ?_
        refine ge_make (α := SCome) (d := 9) (t := 23) (el := 33) (bytes := 16) (l := 0) (c := ((IntKind.i64.wrap ((l0.length : Int) + 3)).toNat)) (x := (.const (.int .i64 0))) (y := (.tmp 8)) (ty := 23) (k1 := .i64) (k2 := .i64) (li := 0) (ci := (IntKind.i64.wrap ((l0.length : Int) + 3))) (z := .agg #[.int .i64 0, .int .i64 0]) (z' := (⟨0, 0⟩ : SCome)) (by kernel_rfl) (by kernel_rfl) (by kernel_rfl) rfl (Int.toNat_of_nonneg hc1).symm (by kernel_rfl) (by kernel_rfl) rfl hS2 (Nat.zero_le _) rfl (by omega) fun v1 w2 _ hS3 => ?_
        refine ge_nil fun a hF => hKK _ _ (RS.of2 (l := [.loaded ⟨b1, 0, none⟩ (.int .i64 x1.Task), .loaded ⟨b1, 1, none⟩ (.int .i64 x1.At), .loaded ⟨b1, 0, none⟩ (.int .i64 x1.Task), .loaded ⟨b1, 1, none⟩ (.int .i64 x1.At), .loaded ⟨b1, 0, none⟩ (.int .i64 x1.Task), .loaded ⟨b1, 1, none⟩ (.int .i64 x1.At)]) (by kernel_rfl) ⟨hS2.cell 0 rfl rfl, hS2.cell 0 rfl rfl, hS2.cell 0 rfl rfl, hS2.cell 0 rfl rfl, hS2.cell 0 rfl rfl, hS2.cell 0 rfl rfl, trivial⟩ ⟨hS3.cell 1 rfl rfl, hS3.cell 1 rfl rfl, hS3.cell 1 rfl rfl, hS3.cell 1 rfl rfl, hS3.cell 1 rfl rfl, hS3.cell 1 rfl rfl, trivial⟩) ?_ a hF
        refine go_alt2 (fun KK hKK => ?_) ?_
        · by_cases hc3 : (List.replicate 0 (⟨0, 0⟩ : SCome)).length + l0.length ≤ 8796093022208
          · rw [if_pos hc3] at h
            refine ge_appendL (α := SCome) (m := 0) (d := 11) (t := 23) (el := 33) (bytes := 16) (c1 := c0) (A1 := A0) (x := (.tmp 9)) (y := (.tmp 10)) (ty := 23) (v := v1) (z := .agg #[.int .i64 0, .int .i64 0]) (l := (List.replicate 0 (⟨0, 0⟩ : SCome))) (us := l0) (by kernel_rfl) (by kernel_rfl) (by kernel_rfl) (by kernel_rfl) (by kernel_rfl) rfl hS3 (hS3.rd hR0) rfl (Nat.mul_le_of_le_div _ _ _ hc3) fun v2 w3 hS4 => ?_
            have hS5 : St w0 w3 [Own.of v2 33 ((List.replicate 0 (⟨0, 0⟩ : SCome)) ++ l0), Own.blk b1 (.cells #[.int .i64 x1.Task, .int .i64 x1.At] 33 (0, 0))] := hS4
            refine ge_nil fun a hF => hKK _ _ (RS.of2 (l := [.loaded ⟨b1, 0, none⟩ (.int .i64 x1.Task), .loaded ⟨b1, 1, none⟩ (.int .i64 x1.At), .loaded ⟨b1, 0, none⟩ (.int .i64 x1.Task), .loaded ⟨b1, 1, none⟩ (.int .i64 x1.At), .loaded ⟨b1, 0, none⟩ (.int .i64 x1.Task), .loaded ⟨b1, 1, none⟩ (.int .i64 x1.At)]) (by kernel_rfl) ⟨hS3.cell 1 rfl rfl, hS3.cell 1 rfl rfl, hS3.cell 1 rfl rfl, hS3.cell 1 rfl rfl, hS3.cell 1 rfl rfl, hS3.cell 1 rfl rfl, trivial⟩ ⟨hS5.cell 1 rfl rfl, hS5.cell 1 rfl rfl, hS5.cell 1 rfl rfl, hS5.cell 1 rfl rfl, hS5.cell 1 rfl rfl, hS5.cell 1 rfl rfl, trivial⟩) ?_ a hF
            refine go_alt2 (fun KK hKK => ?_) ?_
            · refine ge_one2 ?_
              refine ge_new (d := some 15) (o := .cells #[.int .i64 x1.Task, .int .i64 x1.At, .int .i64 x1.Task, .int .i64 x1.At, .int .i64 x1.Task, .int .i64 x1.At] 33) (v := fun b => .slice (some ⟨b, 0, none⟩) 3 3) hS5 (fun b => by kernel_rfl) fun b2 w4 hx2 hS6 => ?_
              refine ge_nil fun a hF => hKK _ _ (RS.of2 (l := []) (by kernel_rfl) trivial trivial) ?_ a hF
              refine go_alt2 (fun KK hKK => ?_) ?_
              · have hS7 := hS6.bring 1 rfl
                by_cases hc4 : ((List.replicate 0 (⟨0, 0⟩ : SCome)) ++ l0).length + 3 ≤ 8796093022208
                · rw [if_pos hc4] at h
                  refine ge_appendL (α := SCome) (m := 0) (d := 16) (t := 23) (el := 33) (bytes := 16) (c1 := 3) (A1 := (some ⟨b2, 0, none⟩)) (x := (.tmp 11)) (y := (.tmp 15)) (ty := 23) (v := v2) (z := .agg #[.int .i64 0, .int .i64 0]) (l := ((List.replicate 0 (⟨0, 0⟩ : SCome)) ++ l0)) (us := ([x1, x1, x1] : List SCome)) (by kernel_rfl) (by kernel_rfl) (by kernel_rfl) (by kernel_rfl) (by kernel_rfl) rfl hS7 (hS7.rdBlk 1 ([x1, x1, x1] : List SCome) rfl rfl rfl) rfl (Nat.mul_le_of_le_div _ _ _ hc4) fun v3 w5 hS8 => ?_
                  have hS9 : St w0 w5 [Own.of v3 33 (((List.replicate 0 (⟨0, 0⟩ : SCome)) ++ l0) ++ ([x1, x1, x1] : List SCome)), Own.blk b2 (.cells #[.int .i64 x1.Task, .int .i64 x1.At, .int .i64 x1.Task, .int .i64 x1.At, .int .i64 x1.Task, .int .i64 x1.At] 33 (0, 0)), Own.blk b1 (.cells #[.int .i64 x1.Task, .int .i64 x1.At] 33 (0, 0))] := hS8
                  refine ge_nil fun a hF => hKK _ _ (RS.of2 (l := [.loaded ⟨b1, 0, none⟩ (.int .i64 x1.Task), .loaded ⟨b1, 1, none⟩ (.int .i64 x1.At), .loaded ⟨b1, 0, none⟩ (.int .i64 x1.Task), .loaded ⟨b1, 1, none⟩ (.int .i64 x1.At), .loaded ⟨b1, 0, none⟩ (.int .i64 x1.Task), .loaded ⟨b1, 1, none⟩ (.int .i64 x1.At)]) (by kernel_rfl) ⟨hS6.cell 2 rfl rfl, hS6.cell 2 rfl rfl, hS6.cell 2 rfl rfl, hS6.cell 2 rfl rfl, hS6.cell 2 rfl rfl, hS6.cell 2 rfl rfl, trivial⟩ ⟨hS9.cell 2 rfl rfl, hS9.cell 2 rfl rfl, hS9.cell 2 rfl rfl, hS9.cell 2 rfl rfl, hS9.cell 2 rfl rfl, hS9.cell 2 rfl rfl, trivial⟩) ?_ a hF
                  refine go2_batch [11] (ans := []) (vs := [(5, v3)]) (l := []) (by kernel_rfl) trivial mem_nil ?_
                  refine go_fin2 fun a hF => hK2 _ _ ?_ a hF
                  refine we_seq fun K3 hK3 => ?_
                  refine we_region [(0, 0), (1, 0), (2, 0), (3, 0), (4, 0)] rfl ?_
                  refine ge_batch [0, 1, 2] (ans := []) (vs := [(19, .int .i64 (l0.length : Int)), (18, .slice A0 l0.length c0), (17, v3)]) (l := []) (by kernel_rfl) trivial ?_
                  obtain ⟨Z1, cz1, rfl, hcp1⟩ := hS9.open2 0 rfl
                  refine ge_sliceHi (d := 20) (ty := 23) (t := 23) (el := 33) (sz := 2) (m := ((((List.replicate 0 (⟨0, 0⟩ : SCome)) ++ l0) ++ ([x1, x1, x1] : List SCome)).length)) (c := cz1) (hn := l0.length) (x := (.tmp 17)) (y := (.tmp 19)) (A := Z1) (k' := .i64) (hi := (l0.length : Int)) (by kernel_rfl) (by kernel_rfl) (by kernel_rfl) rfl (by kernel_rfl) (by kernel_rfl) (by have h0 := hcp1; simp only [List.length_append, List.length_cons, List.length_nil] at h0; omega) ?_
                  refine ge_batch [4] (ans := []) (vs := [(4, .slice Z1 l0.length cz1)]) (l := []) (by kernel_rfl) trivial ?_
                  refine ge_nil fun a hF => hK3 _ _ ?_ a hF
                  have hS10 := hS9.takeN 1
                  obtain rfl := Option.some.inj h
                  exact we_ret (post_ret (rs := [.tmp 4]) (ans := []) (vs := [.slice Z1 l0.length cz1]) (l := []) rfl (by kernel_rfl) trivial ⟨Z1, cz1, rfl, hcp1, hS10⟩)
                · rw [if_neg hc4] at h
                  cases h
              exact go_nomore2
            exact go_nomore2
          · rw [if_neg hc3] at h
            cases h
        refine go_alt2 (fun KK hKK => ?_) ?_
        · refine ge_one2 ?_
          refine ge_new (d := some 15) (o := .cells #[.int .i64 x1.Task, .int .i64 x1.At, .int .i64 x1.Task, .int .i64 x1.At, .int .i64 x1.Task, .int .i64 x1.At] 33) (v := fun b => .slice (some ⟨b, 0, none⟩) 3 3) hS3 (fun b => by kernel_rfl) fun b2 w3 hx2 hS4 => ?_
          refine ge_nil fun a hF => hKK _ _ (RS.of2 (l := []) (by kernel_rfl) trivial trivial) ?_ a hF
          refine go_alt2 (fun KK hKK => ?_) ?_
          · have hS5 := hS4.bring 1 rfl
            by_cases hc3 : (List.replicate 0 (⟨0, 0⟩ : SCome)).length + l0.length ≤ 8796093022208
            · rw [if_pos hc3] at h
              refine ge_appendL (α := SCome) (m := 0) (d := 11) (t := 23) (el := 33) (bytes := 16) (c1 := c0) (A1 := A0) (x := (.tmp 9)) (y := (.tmp 10)) (ty := 23) (v := v1) (z := .agg #[.int .i64 0, .int .i64 0]) (l := (List.replicate 0 (⟨0, 0⟩ : SCome))) (us := l0) (by kernel_rfl) (by kernel_rfl) (by kernel_rfl) (by kernel_rfl) (by kernel_rfl) rfl hS5 (hS5.rd hR0) rfl (Nat.mul_le_of_le_div _ _ _ hc3) fun v2 w4 hS6 => ?_
              have hS7 : St w0 w4 [Own.of v2 33 ((List.replicate 0 (⟨0, 0⟩ : SCome)) ++ l0), Own.blk b2 (.cells #[.int .i64 x1.Task, .int .i64 x1.At, .int .i64 x1.Task, .int .i64 x1.At, .int .i64 x1.Task, .int .i64 x1.At] 33 (0, 0)), Own.blk b1 (.cells #[.int .i64 x1.Task, .int .i64 x1.At] 33 (0, 0))] := hS6
              refine ge_nil fun a hF => hKK _ _ (RS.of2 (l := [.loaded ⟨b1, 0, none⟩ (.int .i64 x1.Task), .loaded ⟨b1, 1, none⟩ (.int .i64 x1.At), .loaded ⟨b1, 0, none⟩ (.int .i64 x1.Task), .loaded ⟨b1, 1, none⟩ (.int .i64 x1.At), .loaded ⟨b1, 0, none⟩ (.int .i64 x1.Task), .loaded ⟨b1, 1, none⟩ (.int .i64 x1.At)]) (by kernel_rfl) ⟨hS4.cell 2 rfl rfl, hS4.cell 2 rfl rfl, hS4.cell 2 rfl rfl, hS4.cell 2 rfl rfl, hS4.cell 2 rfl rfl, hS4.cell 2 rfl rfl, trivial⟩ ⟨hS7.cell 2 rfl rfl, hS7.cell 2 rfl rfl, hS7.cell 2 rfl rfl, hS7.cell 2 rfl rfl, hS7.cell 2 rfl rfl, hS7.cell 2 rfl rfl, trivial⟩) ?_ a hF
              refine go_alt2 (fun KK hKK => ?_) ?_
              · by_cases hc4 : ((List.replicate 0 (⟨0, 0⟩ : SCome)) ++ l0).length + 3 ≤ 8796093022208
                · rw [if_pos hc4] at h
                  refine ge_appendL (α := SCome) (m := 0) (d := 16) (t := 23) (el := 33) (bytes := 16) (c1 := 3) (A1 := (some ⟨b2, 0, none⟩)) (x := (.tmp 11)) (y := (.tmp 15)) (ty := 23) (v := v2) (z := .agg #[.int .i64 0, .int .i64 0]) (l := ((List.replicate 0 (⟨0, 0⟩ : SCome)) ++ l0)) (us := ([x1, x1, x1] : List SCome)) (by kernel_rfl) (by kernel_rfl) (by kernel_rfl) (by kernel_rfl) (by kernel_rfl) rfl hS7 (hS7.rdBlk 1 ([x1, x1, x1] : List SCome) rfl rfl rfl) rfl (Nat.mul_le_of_le_div _ _ _ hc4) fun v3 w5 hS8 => ?_
                  have hS9 : St w0 w5 [Own.of v3 33 (((List.replicate 0 (⟨0, 0⟩ : SCome)) ++ l0) ++ ([x1, x1, x1] : List SCome)), Own.blk b2 (.cells #[.int .i64 x1.Task, .int .i64 x1.At, .int .i64 x1.Task, .int .i64 x1.At, .int .i64 x1.Task, .int .i64 x1.At] 33 (0, 0)), Own.blk b1 (.cells #[.int .i64 x1.Task, .int .i64 x1.At] 33 (0, 0))] := hS8
                  refine ge_nil fun a hF => hKK _ _ (RS.of2 (l := [.loaded ⟨b1, 0, none⟩ (.int .i64 x1.Task), .loaded ⟨b1, 1, none⟩ (.int .i64 x1.At), .loaded ⟨b1, 0, none⟩ (.int .i64 x1.Task), .loaded ⟨b1, 1, none⟩ (.int .i64 x1.At), .loaded ⟨b1, 0, none⟩ (.int .i64 x1.Task), .loaded ⟨b1, 1, none⟩ (.int .i64 x1.At)]) (by kernel_rfl) ⟨hS7.cell 2 rfl rfl, hS7.cell 2 rfl rfl, hS7.cell 2 rfl rfl, hS7.cell 2 rfl rfl, hS7.cell 2 rfl rfl, hS7.cell 2 rfl rfl, trivial⟩ ⟨hS9.cell 2 rfl rfl, hS9.cell 2 rfl rfl, hS9.cell 2 rfl rfl, hS9.cell 2 rfl rfl, hS9.cell 2 rfl rfl, hS9.cell 2 rfl rfl, trivial⟩) ?_ a hF
                  refine go2_batch [11] (ans := []) (vs := [(5, v3)]) (l := []) (by kernel_rfl) trivial mem_nil ?_
                  refine go_fin2 fun a hF => hK2 _ _ ?_ a hF
                  refine we_seq fun K3 hK3 => ?_
                  refine we_region [(0, 0), (1, 0), (2, 0), (3, 0), (4, 0)] rfl ?_
                  refine ge_batch [0, 1, 2] (ans := []) (vs := [(19, .int .i64 (l0.length : Int)), (18, .slice A0 l0.length c0), (17, v3)]) (l := []) (by kernel_rfl) trivial ?_
                  obtain ⟨Z1, cz1, rfl, hcp1⟩ := hS9.open2 0 rfl
                  refine ge_sliceHi (d := 20) (ty := 23) (t := 23) (el := 33) (sz := 2) (m := ((((List.replicate 0 (⟨0, 0⟩ : SCome)) ++ l0) ++ ([x1, x1, x1] : List SCome)).length)) (c := cz1) (hn := l0.length) (x := (.tmp 17)) (y := (.tmp 19)) (A := Z1) (k' := .i64) (hi := (l0.length : Int)) (by kernel_rfl) (by kernel_rfl) (by kernel_rfl) rfl (by kernel_rfl) (by kernel_rfl) (by have h0 := hcp1; simp only [List.length_append, List.length_cons, List.length_nil] at h0; omega) ?_
                  refine ge_batch [4] (ans := []) (vs := [(4, .slice Z1 l0.length cz1)]) (l := []) (by kernel_rfl) trivial ?_
                  refine ge_nil fun a hF => hK3 _ _ ?_ a hF
                  have hS10 := hS9.takeN 1
                  obtain rfl := Option.some.inj h
                  exact we_ret (post_ret (rs := [.tmp 4]) (ans := []) (vs := [.slice Z1 l0.length cz1]) (l := []) rfl (by kernel_rfl) trivial ⟨Z1, cz1, rfl, hcp1, hS10⟩)
                · rw [if_neg hc4] at h
                  cases h
              exact go_nomore2
            · rw [if_neg hc3] at h
              cases h
          exact go_nomore2
        exact go_nomore2
      refine go_alt2 (fun KK hKK => ?_) ?_
      · refine ge_one2 ?_
        refine ge_new (d := some 15) (o := .cells #[.int .i64 x1.Task, .int .i64 x1.At, .int .i64 x1.Task, .int .i64 x1.At, .int .i64 x1.Task, .int .i64 x1.At] 33) (v := fun b => .slice (some ⟨b, 0, none⟩) 3 3) hS2 (fun b => by kernel_rfl) fun b2 w2 hx2 hS3 => ?_
        refine ge_nil fun a hF => hKK _ _ (RS.of2 (l := []) (by kernel_rfl) trivial trivial) ?_ a hF
        refine go_alt2 (fun KK hKK => ?_) ?_
        · refine ge_one2 ?_
          refine ge_make (α := SCome) (d := 9) (t := 23) (el := 33) (bytes := 16) (l := 0) (c := ((IntKind.i64.wrap ((l0.length : Int) + 3)).toNat)) (x := (.const (.int .i64 0))) (y := (.tmp 8)) (ty := 23) (k1 := .i64) (k2 := .i64) (li := 0) (ci := (IntKind.i64.wrap ((l0.length : Int) + 3))) (z := .agg #[.int .i64 0, .int .i64 0]) (z' := (⟨0, 0⟩ : SCome)) (by kernel_rfl) (by kernel_rfl) (by kernel_rfl) rfl (Int.toNat_of_nonneg hc1).symm (by kernel_rfl) (by kernel_rfl) rfl hS3 (Nat.zero_le _) rfl (by omega) fun v1 w3 _ hS4 => ?_
          refine ge_nil fun a hF => hKK _ _ (RS.of2 (l := [.loaded ⟨b1, 0, none⟩ (.int .i64 x1.Task), .loaded ⟨b1, 1, none⟩ (.int .i64 x1.At), .loaded ⟨b1, 0, none⟩ (.int .i64 x1.Task), .loaded ⟨b1, 1, none⟩ (.int .i64 x1.At), .loaded ⟨b1, 0, none⟩ (.int .i64 x1.Task), .loaded ⟨b1, 1, none⟩ (.int .i64 x1.At)]) (by kernel_rfl) ⟨hS3.cell 1 rfl rfl, hS3.cell 1 rfl rfl, hS3.cell 1 rfl rfl, hS3.cell 1 rfl rfl, hS3.cell 1 rfl rfl, hS3.cell 1 rfl rfl, trivial⟩ ⟨hS4.cell 2 rfl rfl, hS4.cell 2 rfl rfl, hS4.cell 2 rfl rfl, hS4.cell 2 rfl rfl, hS4.cell 2 rfl rfl, hS4.cell 2 rfl rfl, trivial⟩) ?_ a hF
          refine go_alt2 (fun KK hKK => ?_) ?_
          · by_cases hc3 : (List.replicate 0 (⟨0, 0⟩ : SCome)).length + l0.length ≤ 8796093022208
            · rw [if_pos hc3] at h
              refine ge_appendL (α := SCome) (m := 0) (d := 11) (t := 23) (el := 33) (bytes := 16) (c1 := c0) (A1 := A0) (x := (.tmp 9)) (y := (.tmp 10)) (ty := 23) (v := v1) (z := .agg #[.int .i64 0, .int .i64 0]) (l := (List.replicate 0 (⟨0, 0⟩ : SCome))) (us := l0) (by kernel_rfl) (by kernel_rfl) (by kernel_rfl) (by kernel_rfl) (by kernel_rfl) rfl hS4 (hS4.rd hR0) rfl (Nat.mul_le_of_le_div _ _ _ hc3) fun v2 w4 hS5 => ?_
              have hS6 : St w0 w4 [Own.of v2 33 ((List.replicate 0 (⟨0, 0⟩ : SCome)) ++ l0), Own.blk b2 (.cells #[.int .i64 x1.Task, .int .i64 x1.At, .int .i64 x1.Task, .int .i64 x1.At, .int .i64 x1.Task, .int .i64 x1.At] 33 (0, 0)), Own.blk b1 (.cells #[.int .i64 x1.Task, .int .i64 x1.At] 33 (0, 0))] := hS5
              refine ge_nil fun a hF => hKK _ _ (RS.of2 (l := [.loaded ⟨b1, 0, none⟩ (.int .i64 x1.Task), .loaded ⟨b1, 1, none⟩ (.int .i64 x1.At), .loaded ⟨b1, 0, none⟩ (.int .i64 x1.Task), .loaded ⟨b1, 1, none⟩ (.int .i64 x1.At), .loaded ⟨b1, 0, none⟩ (.int .i64 x1.Task), .loaded ⟨b1, 1, none⟩ (.int .i64 x1.At)]) (by kernel_rfl) ⟨hS4.cell 2 rfl rfl, hS4.cell 2 rfl rfl, hS4.cell 2 rfl rfl, hS4.cell 2 rfl rfl, hS4.cell 2 rfl rfl, hS4.cell 2 rfl rfl, trivial⟩ ⟨hS6.cell 2 rfl rfl, hS6.cell 2 rfl rfl, hS6.cell 2 rfl rfl, hS6.cell 2 rfl rfl, hS6.cell 2 rfl rfl, hS6.cell 2 rfl rfl, trivial⟩) ?_ a hF
              refine go_alt2 (fun KK hKK => ?_) ?_
              · by_cases hc4 : ((List.replicate 0 (⟨0, 0⟩ : SCome)) ++ l0).length + 3 ≤ 8796093022208
                · rw [if_pos hc4] at h
                  refine ge_appendL (α := SCome) (m := 0) (d := 16) (t := 23) (el := 33) (bytes := 16) (c1 := 3) (A1 := (some ⟨b2, 0, none⟩)) (x := (.tmp 11)) (y := (.tmp 15)) (ty := 23) (v := v2) (z := .agg #[.int .i64 0, .int .i64 0]) (l := ((List.replicate 0 (⟨0, 0⟩ : SCome)) ++ l0)) (us := ([x1, x1, x1] : List SCome)) (by kernel_rfl) (by kernel_rfl) (by kernel_rfl) (by kernel_rfl) (by kernel_rfl) rfl hS6 (hS6.rdBlk 1 ([x1, x1, x1] : List SCome) rfl rfl rfl) rfl (Nat.mul_le_of_le_div _ _ _ hc4) fun v3 w5 hS7 => ?_
                  have hS8 : St w0 w5 [Own.of v3 33 (((List.replicate 0 (⟨0, 0⟩ : SCome)) ++ l0) ++ ([x1, x1, x1] : List SCome)), Own.blk b2 (.cells #[.int .i64 x1.Task, .int .i64 x1.At, .int .i64 x1.Task, .int .i64 x1.At, .int .i64 x1.Task, .int .i64 x1.At] 33 (0, 0)), Own.blk b1 (.cells #[.int .i64 x1.Task, .int .i64 x1.At] 33 (0, 0))] := hS7
                  refine ge_nil fun a hF => hKK _ _ (RS.of2 (l := [.loaded ⟨b1, 0, none⟩ (.int .i64 x1.Task), .loaded ⟨b1, 1, none⟩ (.int .i64 x1.At), .loaded ⟨b1, 0, none⟩ (.int .i64 x1.Task), .loaded ⟨b1, 1, none⟩ (.int .i64 x1.At), .loaded ⟨b1, 0, none⟩ (.int .i64 x1.Task), .loaded ⟨b1, 1, none⟩ (.int .i64 x1.At)]) (by kernel_rfl) ⟨hS6.cell 2 rfl rfl, hS6.cell 2 rfl rfl, hS6.cell 2 rfl rfl, hS6.cell 2 rfl rfl, hS6.cell 2 rfl rfl, hS6.cell 2 rfl rfl, trivial⟩ ⟨hS8.cell 2 rfl rfl, hS8.cell 2 rfl rfl, hS8.cell 2 rfl rfl, hS8.cell 2 rfl rfl, hS8.cell 2 rfl rfl, hS8.cell 2 rfl rfl, trivial⟩) ?_ a hF
                  refine go2_batch [11] (ans := []) (vs := [(5, v3)]) (l := []) (by kernel_rfl) trivial mem_nil ?_
                  refine go_fin2 fun a hF => hK2 _ _ ?_ a hF
                  refine we_seq fun K3 hK3 => ?_
                  refine we_region [(0, 0), (1, 0), (2, 0), (3, 0), (4, 0)] rfl ?_
                  refine ge_batch [0, 1, 2] (ans := []) (vs := [(19, .int .i64 (l0.length : Int)), (18, .slice A0 l0.length c0), (17, v3)]) (l := []) (by kernel_rfl) trivial ?_
                  obtain ⟨Z1, cz1, rfl, hcp1⟩ := hS8.open2 0 rfl
                  refine ge_sliceHi (d := 20) (ty := 23) (t := 23) (el := 33) (sz := 2) (m := ((((List.replicate 0 (⟨0, 0⟩ : SCome)) ++ l0) ++ ([x1, x1, x1] : List SCome)).length)) (c := cz1) (hn := l0.length) (x := (.tmp 17)) (y := (.tmp 19)) (A := Z1) (k' := .i64) (hi := (l0.length : Int)) (by kernel_rfl) (by kernel_rfl) (by kernel_rfl) rfl (by kernel_rfl) (by kernel_rfl) (by have h0 := hcp1; simp only [List.length_append, List.length_cons, List.length_nil] at h0; omega) ?_
                  refine ge_batch [4] (ans := []) (vs := [(4, .slice Z1 l0.length cz1)]) (l := []) (by kernel_rfl) trivial ?_
                  refine ge_nil fun a hF => hK3 _ _ ?_ a hF
                  have hS9 := hS8.takeN 1
                  obtain rfl := Option.some.inj h
                  exact we_ret (post_ret (rs := [.tmp 4]) (ans := []) (vs := [.slice Z1 l0.length cz1]) (l := []) rfl (by kernel_rfl) trivial ⟨Z1, cz1, rfl, hcp1, hS9⟩)
                · rw [if_neg hc4] at h
                  cases h
              exact go_nomore2
            · rw [if_neg hc3] at h
              cases h
          exact go_nomore2
        exact go_nomore2
      exact go_nomore2
    · rw [if_neg hc2] at h
      cases h
  · rw [if_neg hc1] at h
    cases h
theorem punctualsame_Lend_api_Come_full (l0 : List SCome) (x1 : SCome) {r : List SCome} (h : punctualsame_Lend_api_Come.f l0 x1 = some r) : r = l0 ++ [x1, x1, x1] := by
  unfold punctualsame_Lend_api_Come.f at h
  repeat' split at h
  all_goals first | (exact (Option.some.inj h).symm) | cases h

/-! punctual/punctualsame.Lend[int] -/
abbrev punctualsame_Lend_int.Post (w0 : World) (n : Nat) (r : List Int) (e : Ending) (w : World) : Prop := ∃ (A : Option Addr) (c : Nat), e = .returned (.slice A n c) ∧ r.length ≤ c ∧ St w0 w [Own.of (.slice A r.length c) 3 r]
def punctualsame_Lend_int.f (l0 : List Int) (x1 : Int) : Option (List Int) :=
  if 0 ≤ (IntKind.i64.wrap ((l0.length : Int) + 3)) then
    if ((IntKind.i64.wrap ((l0.length : Int) + 3)).toNat) ≤ 17592186044416 then
      if (List.replicate 0 (0 : Int)).length + l0.length ≤ 17592186044416 then
        if ((List.replicate 0 (0 : Int)) ++ l0).length + 3 ≤ 17592186044416 then
          some (((List.replicate 0 (0 : Int)) ++ l0) ++ ([x1, x1, x1] : List Int))
        else
          none
      else
        none
    else
      none
  else
    none
theorem punctualsame_Lend_int_ok (l0 : List Int) (A0 : Option Addr) (c0 : Nat) (x1 : Int) (w0 : World) (hR0 : RdL w0 A0 l0) (hL0 : l0.length ≤ c0) (r : List Int) (h : punctualsame_Lend_int.f l0 x1 = some r) :
    Calls Tryd.prog 15 #[.slice A0 l0.length c0, .int .i64 x1] w0 (punctualsame_Lend_int.Post w0 l0.length r) := by
  have hS := St.start w0
  unfold punctualsame_Lend_int.f at h
  refine calls_enter (n := 21) (args := [.slice A0 l0.length c0, .int .i64 x1]) (fn := Tryd.f15) rfl rfl rfl rfl ?_
  show WE _ _ _ _ [(0, .slice A0 l0.length c0), (1, .int .i64 x1)] _
  refine we_seq fun K1 hK1 => ?_
  refine we_region [(0, 0)] rfl ?_
  refine ge_batch [0] (ans := []) (vs := [(4, .slice none 0 0)]) (l := []) (by kernel_rfl) trivial ?_
  refine ge_nil fun a hF => hK1 _ _ ?_ a hF
  refine we_seq fun K2 hK2 => ?_
  refine we_region [(0, 0), (1, 0), (2, 0), (3, 1), (4, 0), (5, 2), (6, 0), (7, 0), (8, 0), (9, 1), (10, 2), (11, 0)] rfl ?_
  refine ge_batch [0, 1, 2] (ans := []) (vs := [(8, .int .i64 (IntKind.i64.wrap ((l0.length : Int) + 3))), (7, .int .i64 (l0.length : Int)), (6, .slice A0 l0.length c0)]) (l := []) (by kernel_rfl) trivial ?_
  by_cases hc1 : 0 ≤ (IntKind.i64.wrap ((l0.length : Int) + 3))
  · rw [if_pos hc1] at h
    by_cases hc2 : ((IntKind.i64.wrap ((l0.length : Int) + 3)).toNat) ≤ 17592186044416
    · rw [if_pos hc2] at h
      refine ge_make (α := Int) (d := 9) (t := 24) (el := 3) (bytes := 8) (l := 0) (c := ((IntKind.i64.wrap ((l0.length : Int) + 3)).toNat)) (x := (.const (.int .i64 0))) (y := (.tmp 8)) (ty := 24) (k1 := .i64) (k2 := .i64) (li := 0) (ci := (IntKind.i64.wrap ((l0.length : Int) + 3))) (z := .int .i64 0) (z' := (0 : Int)) (by kernel_rfl) (by kernel_rfl) (by kernel_rfl) rfl (Int.toNat_of_nonneg hc1).symm (by kernel_rfl) (by kernel_rfl) rfl hS (Nat.zero_le _) rfl (by omega) fun v1 w1 _ hS1 => ?_
      refine ge_batch [4] (ans := []) (vs := [(10, .slice A0 l0.length c0)]) (l := []) (by kernel_rfl) trivial ?_
      by_cases hc3 : (List.replicate 0 (0 : Int)).length + l0.length ≤ 17592186044416
      · rw [if_pos hc3] at h
        refine ge_appendL (α := Int) (m := 0) (d := 11) (t := 24) (el := 3) (bytes := 8) (c1 := c0) (A1 := A0) (x := (.tmp 9)) (y := (.tmp 10)) (ty := 24) (v := v1) (z := .int .i64 0) (l := (List.replicate 0 (0 : Int))) (us := l0) (by kernel_rfl) (by kernel_rfl) (by kernel_rfl) (by kernel_rfl) (by kernel_rfl) rfl hS1 (hS1.rd hR0) rfl (Nat.mul_le_of_le_div _ _ _ hc3) fun v2 w2 hS2 => ?_
        have hS3 : St w0 w2 [Own.of v2 3 ((List.replicate 0 (0 : Int)) ++ l0)] := hS2
        refine ge_batch [6, 7, 8] (ans := []) (vs := [(14, .int .i64 x1), (13, .int .i64 x1), (12, .int .i64 x1)]) (l := []) (by kernel_rfl) trivial ?_
        refine ge_new (d := some 15) (o := .cells #[.int .i64 x1, .int .i64 x1, .int .i64 x1] 3) (v := fun b => .slice (some ⟨b, 0, none⟩) 3 3) hS3 (fun b => by kernel_rfl) fun b1 w3 hx1 hS4 => ?_
        have hS5 := hS4.bring 1 rfl
        by_cases hc4 : ((List.replicate 0 (0 : Int)) ++ l0).length + 3 ≤ 17592186044416
        · rw [if_pos hc4] at h
          refine ge_appendL (α := Int) (m := 0) (d := 16) (t := 24) (el := 3) (bytes := 8) (c1 := 3) (A1 := (some ⟨b1, 0, none⟩)) (x := (.tmp 11)) (y := (.tmp 15)) (ty := 24) (v := v2) (z := .int .i64 0) (l := ((List.replicate 0 (0 : Int)) ++ l0)) (us := ([x1, x1, x1] : List Int)) (by kernel_rfl) (by kernel_rfl) (by kernel_rfl) (by kernel_rfl) (by kernel_rfl) rfl hS5 (hS5.rdBlk 1 ([x1, x1, x1] : List Int) rfl rfl rfl) rfl (Nat.mul_le_of_le_div _ _ _ hc4) fun v3 w4 hS6 => ?_
          have hS7 : St w0 w4 [Own.of v3 3 (((List.replicate 0 (0 : Int)) ++ l0) ++ ([x1, x1, x1] : List Int)), Own.blk b1 (.cells #[.int .i64 x1, .int .i64 x1, .int .i64 x1] 3 (0, 0))] := hS6
          refine ge_batch [11] (ans := []) (vs := [(5, v3)]) (l := []) (by kernel_rfl) trivial ?_
          refine ge_nil fun a hF => hK2 _ _ ?_ a hF
          refine we_seq fun K3 hK3 => ?_
          refine we_region [(0, 0), (1, 0), (2, 0), (3, 0), (4, 0)] rfl ?_
          refine ge_batch [0, 1, 2] (ans := []) (vs := [(19, .int .i64 (l0.length : Int)), (18, .slice A0 l0.length c0), (17, v3)]) (l := []) (by kernel_rfl) trivial ?_
          obtain ⟨Z1, cz1, rfl, hcp1⟩ := hS7.open2 0 rfl
          refine ge_sliceHi (d := 20) (ty := 24) (t := 24) (el := 3) (sz := 1) (m := ((((List.replicate 0 (0 : Int)) ++ l0) ++ ([x1, x1, x1] : List Int)).length)) (c := cz1) (hn := l0.length) (x := (.tmp 17)) (y := (.tmp 19)) (A := Z1) (k' := .i64) (hi := (l0.length : Int)) (by kernel_rfl) (by kernel_rfl) (by kernel_rfl) rfl (by kernel_rfl) (by kernel_rfl) (by have h0 := hcp1; simp only [List.length_append, List.length_cons, List.length_nil] at h0; omega) ?_
          refine ge_batch [4] (ans := []) (vs := [(4, .slice Z1 l0.length cz1)]) (l := []) (by kernel_rfl) trivial ?_
          refine ge_nil fun a hF => hK3 _ _ ?_ a hF
          have hS8 := hS7.takeN 1
          obtain rfl := Option.some.inj h
          exact we_ret (post_ret (rs := [.tmp 4]) (ans := []) (vs := [.slice Z1 l0.length cz1]) (l := []) rfl (by kernel_rfl) trivial ⟨Z1, cz1, rfl, hcp1, hS8⟩)
        · rw [if_neg hc4] at h
          cases h
      · rw [if_neg hc3] at h
        cases h
    · rw [if_neg hc2] at h
      cases h
  · rw [if_neg hc1] at h
    cases h
theorem punctualsame_Lend_int_full (l0 : List Int) (x1 : Int) {r : List Int} (h : punctualsame_Lend_int.f l0 x1 = some r) : r = l0 ++ [x1, x1, x1] := by
  unfold punctualsame_Lend_int.f at h
  repeat' split at h
  all_goals first | (exact (Option.some.inj h).symm) | cases h

/-! punctual/punctualref.F -/
abbrev punctualref_F.Post (w0 : World) (r : SFault) (e : Ending) (w : World) : Prop := e = .returned (.agg #[.int .i64 r.Code, .int .i64 r.At]) ∧ St w0 w []
def punctualref_F.f (x0 : Int) (x1 : Int) : SFault :=
  (⟨x0, x1⟩ : SFault)
theorem punctualref_F_ok (x0 : Int) (x1 : Int) (w0 : World) (r : SFault) (h : punctualref_F.f x0 x1 = r) :
    Calls Tryd.prog 74 #[.int .i64 x0, .int .i64 x1] w0 (punctualref_F.Post w0 r) := by
  have hS := St.start w0
  unfold punctualref_F.f at h
  refine calls_enter (n := 8) (args := [.int .i64 x0, .int .i64 x1]) (fn := Tryd.f74) rfl rfl rfl rfl ?_
  show WE _ _ _ _ [(0, .int .i64 x0), (1, .int .i64 x1)] _
  refine we_seq fun K1 hK1 => ?_
  refine we_region [(0, 1)] rfl ?_
  refine ge_new (d := some 4) (o := .cells #[.int .i64 0, .int .i64 0] 39) (v := fun b => .pointer (some ⟨b, 0, none⟩)) hS (fun b => by kernel_rfl) fun b1 w1 hx1 hS1 => ?_
  refine ge_nil fun a hF => hK1 _ _ ?_ a hF
  refine we_seq fun K2 hK2 => ?_
  refine we_region [(0, 0), (1, 0), (2, 0), (3, 2)] rfl ?_
  refine ge_batch [0, 1, 2] (ans := []) (vs := [(7, .agg #[.int .i64 x0, .int .i64 x1]), (6, .int .i64 x1), (5, .int .i64 x0)]) (l := []) (by kernel_rfl) trivial ?_
  refine ge_set (b := b1) (j := 0) (cs := #[.int .i64 0, .int .i64 0]) (t := 39) (vs := [.int .i64 x0, .int .i64 x1]) hS1 (by kernel_rfl) rfl rfl fun w2 hS2 => ?_
  have hS3 : St w0 w2 [Own.blk b1 (.cells #[.int .i64 x0, .int .i64 x1] 39 (0, 0))] := hS2
  refine ge_nil fun a hF => hK2 _ _ ?_ a hF
  have hS4 := hS3.takeN 0
  subst h
  exact we_ret (post_ret (rs := [.cell 4 39]) (ans := [.val (.int .i64 x0), .val (.int .i64 x1)]) (vs := [.agg #[.int .i64 x0, .int .i64 x1]]) (l := [.loaded ⟨b1, 0, none⟩ (.int .i64 x0), .loaded ⟨b1, 1, none⟩ (.int .i64 x1)]) rfl (by kernel_rfl) ⟨hS3.cell 0 rfl rfl, hS3.cell 0 rfl rfl, trivial⟩ ⟨rfl, hS4⟩)

/-! punctual/punctualref.CheckBus -/
abbrev punctualref_CheckBus.Post (w0 : World) (r : SFault) (e : Ending) (w : World) : Prop := e = .returned (.agg #[.int .i64 r.Code, .int .i64 r.At]) ∧ St w0 w []
def punctualref_CheckBus.p0 (l0 : List SFrame) : Option (Unit ⊕ SFault) :=
    if (l0.length : Int) = 0 then
      some (.inr (punctualref_F.f 2 0))
    else
      if (l0.length : Int) > 8 then
        some (.inr (punctualref_F.f 2 0))
      else
        some (.inl ())
def punctualref_CheckBus.p2 (i1 : Nat) (e1 : SFrame) : Option (Unit ⊕ SFault) :=
    if e1.C < 1 then
      some (.inr (punctualref_F.f 3 (i1 : Int)))
    else
      if e1.C > 10000 then
        some (.inr (punctualref_F.f 3 (i1 : Int)))
      else
        if e1.T < 1 then
          some (.inr (punctualref_F.f 3 (i1 : Int)))
        else
          if e1.T > 10000 then
            some (.inr (punctualref_F.f 3 (i1 : Int)))
          else
            if e1.D < 1 then
              some (.inr (punctualref_F.f 3 (i1 : Int)))
            else
              if e1.D > 10000 then
                some (.inr (punctualref_F.f 3 (i1 : Int)))
              else
                if e1.J < 0 then
                  some (.inr (punctualref_F.f 3 (i1 : Int)))
                else
                  if e1.J > 10000 then
                    some (.inr (punctualref_F.f 3 (i1 : Int)))
                  else
                    some (.inl ())
def punctualref_CheckBus.r1 (l0 : List SFrame) : Nat → Option (Nat ⊕ (Unit ⊕ SFault))
  | i1 =>
    if (i1 : Int) < (l0.length : Int) then
      match l0[i1]? with
      | none => none
      | some e1 =>
        match punctualref_CheckBus.p2 i1 e1 with
        | none => none
        | some (.inl _) =>
          if e1.J > e1.T then
            some (.inr (.inr (punctualref_F.f 12 (i1 : Int))))
          else
            some (.inl (i1 + 1))
        | some (.inr rr1) =>
          some (.inr (.inr rr1))
    else
      some (.inr (.inl ()))
def punctualref_CheckBus.f (K : Nat) (l0 : List SFrame) : Option SFault :=
  match punctualref_CheckBus.p0 l0 with
  | none => none
  | some (.inl _) =>
    match iter (punctualref_CheckBus.r1 l0) K 0 with
    | none => none
    | some (.inl _) =>
      some (⟨0, 0⟩ : SFault)
    | some (.inr rr2) =>
      some rr2
  | some (.inr rr3) =>
    some rr3
abbrev punctualref_CheckBus.A0 (K : Nat) (w0 : World) (l0 : List SFrame) (A0 : Option Addr) (c0 : Nat) (hR0 : RdL w0 A0 l0) (hL0 : l0.length ≤ c0) (b1 : Nat) : Unit → Act → World → Prop := fun (s : Unit) a w => St w0 w [Own.blk b1 (.cells #[.int .i64 0, .int .i64 0] 39 (0, 0))] ∧ Frm 70 a [(0, .slice A0 l0.length c0), (2, .pointer (some ⟨b1, 0, none⟩))]
abbrev punctualref_CheckBus.B0 (K : Nat) (w0 : World) (l0 : List SFrame) (A0 : Option Addr) (c0 : Nat) (hR0 : RdL w0 A0 l0) (hL0 : l0.length ≤ c0) (b1 : Nat) : SFault → Exit → Act → World → Prop := Rets Tryd.prog Tryd.f73 (punctualref_CheckBus.Post w0)
theorem punctualref_CheckBus_p0 (K : Nat) (w0 : World) (l0 : List SFrame) (A0 : Option Addr) (c0 : Nat) (hR0 : RdL w0 A0 l0) (hL0 : l0.length ≤ c0) (b1 : Nat) (o : Unit ⊕ SFault) (h : punctualref_CheckBus.p0 l0 = some o) (w : World) (hS : St w0 w [Own.blk b1 (.cells #[.int .i64 0, .int .i64 0] 39 (0, 0))]) (Q : Exit → Act → World → Prop) (hQ : ∀ x a w, Outs (punctualref_CheckBus.A0 K w0 l0 A0 c0 hR0 hL0 b1) (punctualref_CheckBus.B0 K w0 l0 A0 c0 hR0 hL0 b1) o x a w → Q x a w) : WE Tryd.prog 70 (subF Tryd.f73 [1, 0]) Q [(0, .slice A0 l0.length c0), (2, .pointer (some ⟨b1, 0, none⟩))] w := by
  simp only [punctualref_CheckBus.p0] at h
  refine we_seq fun K3 hK3 => ?_
  refine we_region [(0, 0), (1, 0), (2, 0), (3, 0), (4, 0), (5, 0), (6, 0), (7, 0)] rfl ?_
  refine ge_batch [0, 1, 2, 3] (ans := []) (vs := [(8, .bool ((l0.length : Int) == 0)), (7, .bool ((l0.length : Int) == 0)), (6, .int .i64 (l0.length : Int)), (5, .slice A0 l0.length c0)]) (l := []) (by kernel_rfl) trivial ?_
  by_cases hc1 : (l0.length : Int) = 0
  · rw [if_pos hc1] at h
    refine ge_known (t := 8) (b := ((l0.length : Int) == 0)) (c := true) (by kernel_rfl) (beq_iff_eq.2 hc1) ?_
    refine ge_batch [4, 5, 6, 7] (ans := []) (vs := [(12, .bool true), (11, undef), (10, undef), (9, undef)]) (l := []) (by kernel_rfl) trivial ?_
    refine ge_nil fun a hF => hK3 _ _ ?_ a hF
    refine we_true (by kernel_rfl) ?_
    refine we_seq fun K4 hK4 => ?_
    refine we_region [(0, 1), (1, 2)] rfl ?_
    refine ge_call (d := some 13) (f := 74) (args := #[.int .i64 2, .int .i64 0]) (by kernel_rfl) (punctualref_F_ok 2 0 _ _ rfl) ?_
    rintro _ w2 ⟨rfl, hS2⟩
    refine ⟨_, rfl, hS2.below, ?_⟩
    have hS3 := hS.call hS2
    refine ge_set (b := b1) (j := 0) (cs := #[.int .i64 0, .int .i64 0]) (t := 39) (vs := [.int .i64 ((punctualref_F.f 2 0).Code), .int .i64 ((punctualref_F.f 2 0).At)]) hS3 (by kernel_rfl) rfl rfl fun w3 hS4 => ?_
    have hS5 : St w0 w3 [Own.blk b1 (.cells #[.int .i64 ((punctualref_F.f 2 0).Code), .int .i64 ((punctualref_F.f 2 0).At)] 39 (0, 0))] := hS4
    refine ge_nil fun a hF => hK4 _ _ ?_ a hF
    have hS6 := hS5.takeN 0
    obtain rfl := Option.some.inj h
    exact we_ret fun a hF => hQ _ _ _ (Outs.out nofun ⟨rfl, (post_ret (rs := [.cell 2 39]) (ans := [.val (.int .i64 ((punctualref_F.f 2 0).Code)), .val (.int .i64 ((punctualref_F.f 2 0).At))]) (vs := [.agg #[.int .i64 ((punctualref_F.f 2 0).Code), .int .i64 ((punctualref_F.f 2 0).At)]]) (l := [.loaded ⟨b1, 0, none⟩ (.int .i64 ((punctualref_F.f 2 0).Code)), .loaded ⟨b1, 1, none⟩ (.int .i64 ((punctualref_F.f 2 0).At))]) rfl (by kernel_rfl) ⟨hS5.cell 0 rfl rfl, hS5.cell 0 rfl rfl, trivial⟩ ⟨rfl, hS6⟩) a hF⟩)
  · rw [if_neg hc1] at h
    refine ge_known (t := 8) (b := ((l0.length : Int) == 0)) (c := false) (by kernel_rfl) (beq_eq_false_iff_ne.2 hc1) ?_
    refine ge_batch [4, 5, 6, 7] (ans := []) (vs := [(12, .bool (decide ((l0.length : Int) > 8))), (11, .bool (decide ((l0.length : Int) > 8))), (10, .int .i64 (l0.length : Int)), (9, .slice A0 l0.length c0)]) (l := []) (by kernel_rfl) trivial ?_
    refine ge_nil fun a hF => hK3 _ _ ?_ a hF
    by_cases hc2 : (l0.length : Int) > 8
    · rw [if_pos hc2] at h
      refine we_known (t := 12) (b := decide ((l0.length : Int) > 8)) (v := true) (by kernel_rfl) (decide_eq_true hc2) ?_
      refine we_true (by kernel_rfl) ?_
      refine we_seq fun K5 hK5 => ?_
      refine we_region [(0, 1), (1, 2)] rfl ?_
      refine ge_call (d := some 13) (f := 74) (args := #[.int .i64 2, .int .i64 0]) (by kernel_rfl) (punctualref_F_ok 2 0 _ _ rfl) ?_
      rintro _ w4 ⟨rfl, hS7⟩
      refine ⟨_, rfl, hS7.below, ?_⟩
      have hS8 := hS.call hS7
      refine ge_set (b := b1) (j := 0) (cs := #[.int .i64 0, .int .i64 0]) (t := 39) (vs := [.int .i64 ((punctualref_F.f 2 0).Code), .int .i64 ((punctualref_F.f 2 0).At)]) hS8 (by kernel_rfl) rfl rfl fun w5 hS9 => ?_
      have hS10 : St w0 w5 [Own.blk b1 (.cells #[.int .i64 ((punctualref_F.f 2 0).Code), .int .i64 ((punctualref_F.f 2 0).At)] 39 (0, 0))] := hS9
      refine ge_nil fun a hF => hK5 _ _ ?_ a hF
      have hS11 := hS10.takeN 0
      obtain rfl := Option.some.inj h
      exact we_ret fun a hF => hQ _ _ _ (Outs.out nofun ⟨rfl, (post_ret (rs := [.cell 2 39]) (ans := [.val (.int .i64 ((punctualref_F.f 2 0).Code)), .val (.int .i64 ((punctualref_F.f 2 0).At))]) (vs := [.agg #[.int .i64 ((punctualref_F.f 2 0).Code), .int .i64 ((punctualref_F.f 2 0).At)]]) (l := [.loaded ⟨b1, 0, none⟩ (.int .i64 ((punctualref_F.f 2 0).Code)), .loaded ⟨b1, 1, none⟩ (.int .i64 ((punctualref_F.f 2 0).At))]) rfl (by kernel_rfl) ⟨hS10.cell 0 rfl rfl, hS10.cell 0 rfl rfl, trivial⟩ ⟨rfl, hS11⟩) a hF⟩)
    · rw [if_neg hc2] at h
      refine we_known (t := 12) (b := decide ((l0.length : Int) > 8)) (v := false) (by kernel_rfl) (decide_eq_false hc2) ?_
      refine we_false (by kernel_rfl) ?_
      obtain rfl := Option.some.inj h
      exact we_skip fun a hF => hQ _ _ _ (Outs.again ⟨hS, hF.weaken ⟨by kernel_rfl, by kernel_rfl, trivial⟩⟩)
abbrev punctualref_CheckBus.A2 (K : Nat) (w0 : World) (l0 : List SFrame) (A0 : Option Addr) (c0 : Nat) (hR0 : RdL w0 A0 l0) (hL0 : l0.length ≤ c0) (b1 : Nat) (i1 : Nat) (hc3 : (i1 : Int) < (l0.length : Int)) (e1 : SFrame) (hx2 : l0[i1]? = some e1) (b2 : Nat) : Unit → Act → World → Prop := fun (s : Unit) a w => St w0 w [Own.blk b2 (.cells #[.int .i64 e1.C, .int .i64 e1.T, .int .i64 e1.D, .int .i64 e1.J] 30 (0, 0)), Own.blk b1 (.cells #[.int .i64 0, .int .i64 0] 39 (0, 0))] ∧ Frm 70 a [(2, .pointer (some ⟨b1, 0, none⟩)), (3, .int .i64 (i1 : Int)), (4, .pointer (some ⟨b2, 0, none⟩)), (14, .slice A0 l0.length c0), (15, .int .i64 (l0.length : Int)), (16, .int .i64 (i1 : Int))]
abbrev punctualref_CheckBus.B2 (K : Nat) (w0 : World) (l0 : List SFrame) (A0 : Option Addr) (c0 : Nat) (hR0 : RdL w0 A0 l0) (hL0 : l0.length ≤ c0) (b1 : Nat) (i1 : Nat) (hc3 : (i1 : Int) < (l0.length : Int)) (e1 : SFrame) (hx2 : l0[i1]? = some e1) (b2 : Nat) : SFault → Exit → Act → World → Prop := Rets Tryd.prog Tryd.f73 (punctualref_CheckBus.Post w0)
theorem punctualref_CheckBus_p2 (K : Nat) (w0 : World) (l0 : List SFrame) (A0 : Option Addr) (c0 : Nat) (hR0 : RdL w0 A0 l0) (hL0 : l0.length ≤ c0) (b1 : Nat) (i1 : Nat) (hc3 : (i1 : Int) < (l0.length : Int)) (e1 : SFrame) (hx2 : l0[i1]? = some e1) (b2 : Nat) (o : Unit ⊕ SFault) (h : punctualref_CheckBus.p2 i1 e1 = some o) (w : World) (hS : St w0 w [Own.blk b2 (.cells #[.int .i64 e1.C, .int .i64 e1.T, .int .i64 e1.D, .int .i64 e1.J] 30 (0, 0)), Own.blk b1 (.cells #[.int .i64 0, .int .i64 0] 39 (0, 0))]) (Q : Exit → Act → World → Prop) (hQ : ∀ x a w, Outs (punctualref_CheckBus.A2 K w0 l0 A0 c0 hR0 hL0 b1 i1 hc3 e1 hx2 b2) (punctualref_CheckBus.B2 K w0 l0 A0 c0 hR0 hL0 b1 i1 hc3 e1 hx2 b2) o x a w → Q x a w) : WE Tryd.prog 70 (subF Tryd.f73 [1, 1, 0, 1, 0, 0, 1, 1, 0, 0, 1, 0]) Q [(2, .pointer (some ⟨b1, 0, none⟩)), (3, .int .i64 (i1 : Int)), (4, .pointer (some ⟨b2, 0, none⟩)), (14, .slice A0 l0.length c0), (15, .int .i64 (l0.length : Int)), (16, .int .i64 (i1 : Int)), (17, .bool true), (18, .int .i64 (i1 : Int)), (19, .pointer (some ⟨blkOf A0, offOf A0 + i1 * 4, none⟩)), (20, .agg #[.int .i64 e1.C, .int .i64 e1.T, .int .i64 e1.D, .int .i64 e1.J])] w := by
  simp only [punctualref_CheckBus.p2] at h
  refine we_seq fun K13 hK13 => ?_
  refine we_region [(0, 0), (1, 0), (2, 0), (3, 0), (4, 0), (5, 0), (6, 0), (7, 0), (8, 0), (9, 0), (10, 0), (11, 0), (12, 0), (13, 0), (14, 0), (15, 0), (16, 0), (17, 0), (18, 0), (19, 0), (20, 0), (21, 0), (22, 0), (23, 0), (24, 0), (25, 0), (26, 0), (27, 0), (28, 0), (29, 0), (30, 0), (31, 0), (32, 0), (33, 0), (34, 0), (35, 0), (36, 0), (37, 0)] rfl ?_
  refine ge_batch [0, 1, 2, 3] (ans := [.val (.int .i64 e1.C)]) (vs := [(24, .bool (decide (e1.C < 1))), (23, .bool (decide (e1.C < 1))), (22, .int .i64 e1.C), (21, .pointer (some ⟨b2, 0, none⟩))]) (l := [.loaded ⟨b2, 0, none⟩ (.int .i64 e1.C)]) (by kernel_rfl) ⟨hS.cell 0 rfl rfl, trivial⟩ ?_
  by_cases hc4 : e1.C < 1
  · rw [if_pos hc4] at h
    refine ge_known (t := 24) (b := decide (e1.C < 1)) (c := true) (by kernel_rfl) (decide_eq_true hc4) ?_
    refine ge_batch [4, 5, 6, 7, 8, 9, 10, 11, 12, 13, 14, 15, 16, 17, 18, 19, 20, 21, 22, 23, 24, 25, 26, 27, 28, 29, 30, 31, 32, 33, 34, 35, 36, 37] (ans := []) (vs := [(58, .bool true), (57, undef), (56, undef), (55, undef), (54, .bool true), (53, .bool true), (52, undef), (51, undef), (50, undef), (49, .bool true), (48, .bool true), (47, undef), (46, undef), (45, undef), (44, .bool true), (43, .bool true), (42, undef), (41, undef), (40, undef), (39, .bool true), (38, .bool true), (37, undef), (36, undef), (35, undef), (34, .bool true), (33, .bool true), (32, undef), (31, undef), (30, undef), (29, .bool true), (28, .bool true), (27, undef), (26, undef), (25, undef)]) (l := []) (by kernel_rfl) trivial ?_
    refine ge_nil fun a hF => hK13 _ _ ?_ a hF
    refine we_true (by kernel_rfl) ?_
    refine we_seq fun K14 hK14 => ?_
    refine we_region [(0, 0), (1, 1), (2, 2)] rfl ?_
    refine ge_batch [0] (ans := []) (vs := [(59, .int .i64 (i1 : Int))]) (l := []) (by kernel_rfl) trivial ?_
    refine ge_call (d := some 60) (f := 74) (args := #[.int .i64 3, .int .i64 (i1 : Int)]) (by kernel_rfl) (punctualref_F_ok 3 (i1 : Int) _ _ rfl) ?_
    rintro _ w9 ⟨rfl, hS16⟩
    refine ⟨_, rfl, hS16.below, ?_⟩
    have hS17 := hS.call hS16
    have hS18 := hS17.bring 1 rfl
    refine ge_set (b := b1) (j := 0) (cs := #[.int .i64 0, .int .i64 0]) (t := 39) (vs := [.int .i64 ((punctualref_F.f 3 (i1 : Int)).Code), .int .i64 ((punctualref_F.f 3 (i1 : Int)).At)]) hS18 (by kernel_rfl) rfl rfl fun w10 hS19 => ?_
    have hS20 : St w0 w10 [Own.blk b1 (.cells #[.int .i64 ((punctualref_F.f 3 (i1 : Int)).Code), .int .i64 ((punctualref_F.f 3 (i1 : Int)).At)] 39 (0, 0)), Own.blk b2 (.cells #[.int .i64 e1.C, .int .i64 e1.T, .int .i64 e1.D, .int .i64 e1.J] 30 (0, 0))] := hS19
    refine ge_nil fun a hF => hK14 _ _ ?_ a hF
    have hS21 := hS20.takeN 0
    obtain rfl := Option.some.inj h
    exact we_ret fun a hF => hQ _ _ _ (Outs.out nofun ⟨rfl, (post_ret (rs := [.cell 2 39]) (ans := [.val (.int .i64 ((punctualref_F.f 3 (i1 : Int)).Code)), .val (.int .i64 ((punctualref_F.f 3 (i1 : Int)).At))]) (vs := [.agg #[.int .i64 ((punctualref_F.f 3 (i1 : Int)).Code), .int .i64 ((punctualref_F.f 3 (i1 : Int)).At)]]) (l := [.loaded ⟨b1, 0, none⟩ (.int .i64 ((punctualref_F.f 3 (i1 : Int)).Code)), .loaded ⟨b1, 1, none⟩ (.int .i64 ((punctualref_F.f 3 (i1 : Int)).At))]) rfl (by kernel_rfl) ⟨hS20.cell 0 rfl rfl, hS20.cell 0 rfl rfl, trivial⟩ ⟨rfl, hS21⟩) a hF⟩)
  · rw [if_neg hc4] at h
    refine ge_known (t := 24) (b := decide (e1.C < 1)) (c := false) (by kernel_rfl) (decide_eq_false hc4) ?_
    refine ge_batch [4, 5, 6, 7, 8] (ans := [.val (.int .i64 e1.C)]) (vs := [(29, .bool (decide (e1.C > 10000))), (28, .bool (decide (e1.C > 10000))), (27, .bool (decide (e1.C > 10000))), (26, .int .i64 e1.C), (25, .pointer (some ⟨b2, 0, none⟩))]) (l := [.loaded ⟨b2, 0, none⟩ (.int .i64 e1.C)]) (by kernel_rfl) ⟨hS.cell 0 rfl rfl, trivial⟩ ?_
    by_cases hc5 : e1.C > 10000
    · rw [if_pos hc5] at h
      refine ge_known (t := 29) (b := decide (e1.C > 10000)) (c := true) (by kernel_rfl) (decide_eq_true hc5) ?_
      refine ge_batch [9, 10, 11, 12, 13, 14, 15, 16, 17, 18, 19, 20, 21, 22, 23, 24, 25, 26, 27, 28, 29, 30, 31, 32, 33, 34, 35, 36, 37] (ans := []) (vs := [(58, .bool true), (57, undef), (56, undef), (55, undef), (54, .bool true), (53, .bool true), (52, undef), (51, undef), (50, undef), (49, .bool true), (48, .bool true), (47, undef), (46, undef), (45, undef), (44, .bool true), (43, .bool true), (42, undef), (41, undef), (40, undef), (39, .bool true), (38, .bool true), (37, undef), (36, undef), (35, undef), (34, .bool true), (33, .bool true), (32, undef), (31, undef), (30, undef)]) (l := []) (by kernel_rfl) trivial ?_
      refine ge_nil fun a hF => hK13 _ _ ?_ a hF
      refine we_true (by kernel_rfl) ?_
      refine we_seq fun K15 hK15 => ?_
      refine we_region [(0, 0), (1, 1), (2, 2)] rfl ?_
      refine ge_batch [0] (ans := []) (vs := [(59, .int .i64 (i1 : Int))]) (l := []) (by kernel_rfl) trivial ?_
      refine ge_call (d := some 60) (f := 74) (args := #[.int .i64 3, .int .i64 (i1 : Int)]) (by kernel_rfl) (punctualref_F_ok 3 (i1 : Int) _ _ rfl) ?_
      rintro _ w11 ⟨rfl, hS22⟩
      refine ⟨_, rfl, hS22.below, ?_⟩
      have hS23 := hS.call hS22
      have hS24 := hS23.bring 1 rfl
      refine ge_set (b := b1) (j := 0) (cs := #[.int .i64 0, .int .i64 0]) (t := 39) (vs := [.int .i64 ((punctualref_F.f 3 (i1 : Int)).Code), .int .i64 ((punctualref_F.f 3 (i1 : Int)).At)]) hS24 (by kernel_rfl) rfl rfl fun w12 hS25 => ?_
      have hS26 : St w0 w12 [Own.blk b1 (.cells #[.int .i64 ((punctualref_F.f 3 (i1 : Int)).Code), .int .i64 ((punctualref_F.f 3 (i1 : Int)).At)] 39 (0, 0)), Own.blk b2 (.cells #[.int .i64 e1.C, .int .i64 e1.T, .int .i64 e1.D, .int .i64 e1.J] 30 (0, 0))] := hS25
      refine ge_nil fun a hF => hK15 _ _ ?_ a hF
      have hS27 := hS26.takeN 0
      obtain rfl := Option.some.inj h
      exact we_ret fun a hF => hQ _ _ _ (Outs.out nofun ⟨rfl, (post_ret (rs := [.cell 2 39]) (ans := [.val (.int .i64 ((punctualref_F.f 3 (i1 : Int)).Code)), .val (.int .i64 ((punctualref_F.f 3 (i1 : Int)).At))]) (vs := [.agg #[.int .i64 ((punctualref_F.f 3 (i1 : Int)).Code), .int .i64 ((punctualref_F.f 3 (i1 : Int)).At)]]) (l := [.loaded ⟨b1, 0, none⟩ (.int .i64 ((punctualref_F.f 3 (i1 : Int)).Code)), .loaded ⟨b1, 1, none⟩ (.int .i64 ((punctualref_F.f 3 (i1 : Int)).At))]) rfl (by kernel_rfl) ⟨hS26.cell 0 rfl rfl, hS26.cell 0 rfl rfl, trivial⟩ ⟨rfl, hS27⟩) a hF⟩)
    · rw [if_neg hc5] at h
      refine ge_known (t := 29) (b := decide (e1.C > 10000)) (c := false) (by kernel_rfl) (decide_eq_false hc5) ?_
      refine ge_batch [9, 10, 11, 12, 13] (ans := [.val (.int .i64 e1.T)]) (vs := [(34, .bool (decide (e1.T < 1))), (33, .bool (decide (e1.T < 1))), (32, .bool (decide (e1.T < 1))), (31, .int .i64 e1.T), (30, .pointer (some ⟨b2, 1, none⟩))]) (l := [.loaded ⟨b2, 1, none⟩ (.int .i64 e1.T)]) (by kernel_rfl) ⟨hS.cell 0 rfl rfl, trivial⟩ ?_
      by_cases hc6 : e1.T < 1
      · rw [if_pos hc6] at h
        refine ge_known (t := 34) (b := decide (e1.T < 1)) (c := true) (by kernel_rfl) (decide_eq_true hc6) ?_
        refine ge_batch [14, 15, 16, 17, 18, 19, 20, 21, 22, 23, 24, 25, 26, 27, 28, 29, 30, 31, 32, 33, 34, 35, 36, 37] (ans := []) (vs := [(58, .bool true), (57, undef), (56, undef), (55, undef), (54, .bool true), (53, .bool true), (52, undef), (51, undef), (50, undef), (49, .bool true), (48, .bool true), (47, undef), (46, undef), (45, undef), (44, .bool true), (43, .bool true), (42, undef), (41, undef), (40, undef), (39, .bool true), (38, .bool true), (37, undef), (36, undef), (35, undef)]) (l := []) (by kernel_rfl) trivial ?_
        refine ge_nil fun a hF => hK13 _ _ ?_ a hF
        refine we_true (by kernel_rfl) ?_
        refine we_seq fun K16 hK16 => ?_
        refine we_region [(0, 0), (1, 1), (2, 2)] rfl ?_
        refine ge_batch [0] (ans := []) (vs := [(59, .int .i64 (i1 : Int))]) (l := []) (by kernel_rfl) trivial ?_
        refine ge_call (d := some 60) (f := 74) (args := #[.int .i64 3, .int .i64 (i1 : Int)]) (by kernel_rfl) (punctualref_F_ok 3 (i1 : Int) _ _ rfl) ?_
        rintro _ w13 ⟨rfl, hS28⟩
        refine ⟨_, rfl, hS28.below, ?_⟩
        have hS29 := hS.call hS28
        have hS30 := hS29.bring 1 rfl
        refine ge_set (b := b1) (j := 0) (cs := #[.int .i64 0, .int .i64 0]) (t := 39) (vs := [.int .i64 ((punctualref_F.f 3 (i1 : Int)).Code), .int .i64 ((punctualref_F.f 3 (i1 : Int)).At)]) hS30 (by kernel_rfl) rfl rfl fun w14 hS31 => ?_
        have hS32 : St w0 w14 [Own.blk b1 (.cells #[.int .i64 ((punctualref_F.f 3 (i1 : Int)).Code), .int .i64 ((punctualref_F.f 3 (i1 : Int)).At)] 39 (0, 0)), Own.blk b2 (.cells #[.int .i64 e1.C, .int .i64 e1.T, .int .i64 e1.D, .int .i64 e1.J] 30 (0, 0))] := hS31
        refine ge_nil fun a hF => hK16 _ _ ?_ a hF
        have hS33 := hS32.takeN 0
        obtain rfl := Option.some.inj h
        exact we_ret fun a hF => hQ _ _ _ (Outs.out nofun ⟨rfl, (post_ret (rs := [.cell 2 39]) (ans := [.val (.int .i64 ((punctualref_F.f 3 (i1 : Int)).Code)), .val (.int .i64 ((punctualref_F.f 3 (i1 : Int)).At))]) (vs := [.agg #[.int .i64 ((punctualref_F.f 3 (i1 : Int)).Code), .int .i64 ((punctualref_F.f 3 (i1 : Int)).At)]]) (l := [.loaded ⟨b1, 0, none⟩ (.int .i64 ((punctualref_F.f 3 (i1 : Int)).Code)), .loaded ⟨b1, 1, none⟩ (.int .i64 ((punctualref_F.f 3 (i1 : Int)).At))]) rfl (by kernel_rfl) ⟨hS32.cell 0 rfl rfl, hS32.cell 0 rfl rfl, trivial⟩ ⟨rfl, hS33⟩) a hF⟩)
      · rw [if_neg hc6] at h
        refine ge_known (t := 34) (b := decide (e1.T < 1)) (c := false) (by kernel_rfl) (decide_eq_false hc6) ?_
        refine ge_batch [14, 15, 16, 17, 18] (ans := [.val (.int .i64 e1.T)]) (vs := [(39, .bool (decide (e1.T > 10000))), (38, .bool (decide (e1.T > 10000))), (37, .bool (decide (e1.T > 10000))), (36, .int .i64 e1.T), (35, .pointer (some ⟨b2, 1, none⟩))]) (l := [.loaded ⟨b2, 1, none⟩ (.int .i64 e1.T)]) (by kernel_rfl) ⟨hS.cell 0 rfl rfl, trivial⟩ ?_
        by_cases hc7 : e1.T > 10000
        · rw [if_pos hc7] at h
          refine ge_known (t := 39) (b := decide (e1.T > 10000)) (c := true) (by kernel_rfl) (decide_eq_true hc7) ?_
          refine ge_batch [19, 20, 21, 22, 23, 24, 25, 26, 27, 28, 29, 30, 31, 32, 33, 34, 35, 36, 37] (ans := []) (vs := [(58, .bool true), (57, undef), (56, undef), (55, undef), (54, .bool true), (53, .bool true), (52, undef), (51, undef), (50, undef), (49, .bool true), (48, .bool true), (47, undef), (46, undef), (45, undef), (44, .bool true), (43, .bool true), (42, undef), (41, undef), (40, undef)]) (l := []) (by kernel_rfl) trivial ?_
          refine ge_nil fun a hF => hK13 _ _ ?_ a hF
          refine we_true (by kernel_rfl) ?_
          refine we_seq fun K17 hK17 => ?_
          refine we_region [(0, 0), (1, 1), (2, 2)] rfl ?_
          refine ge_batch [0] (ans := []) (vs := [(59, .int .i64 (i1 : Int))]) (l := []) (by kernel_rfl) trivial ?_
          refine ge_call (d := some 60) (f := 74) (args := #[.int .i64 3, .int .i64 (i1 : Int)]) (by kernel_rfl) (punctualref_F_ok 3 (i1 : Int) _ _ rfl) ?_
          rintro _ w15 ⟨rfl, hS34⟩
          refine ⟨_, rfl, hS34.below, ?_⟩
          have hS35 := hS.call hS34
          have hS36 := hS35.bring 1 rfl
          refine ge_set (b := b1) (j := 0) (cs := #[.int .i64 0, .int .i64 0]) (t := 39) (vs := [.int .i64 ((punctualref_F.f 3 (i1 : Int)).Code), .int .i64 ((punctualref_F.f 3 (i1 : Int)).At)]) hS36 (by kernel_rfl) rfl rfl fun w16 hS37 => ?_
          have hS38 : St w0 w16 [Own.blk b1 (.cells #[.int .i64 ((punctualref_F.f 3 (i1 : Int)).Code), .int .i64 ((punctualref_F.f 3 (i1 : Int)).At)] 39 (0, 0)), Own.blk b2 (.cells #[.int .i64 e1.C, .int .i64 e1.T, .int .i64 e1.D, .int .i64 e1.J] 30 (0, 0))] := hS37
          refine ge_nil fun a hF => hK17 _ _ ?_ a hF
          have hS39 := hS38.takeN 0
          obtain rfl := Option.some.inj h
          exact we_ret fun a hF => hQ _ _ _ (Outs.out nofun ⟨rfl, (post_ret (rs := [.cell 2 39]) (ans := [.val (.int .i64 ((punctualref_F.f 3 (i1 : Int)).Code)), .val (.int .i64 ((punctualref_F.f 3 (i1 : Int)).At))]) (vs := [.agg #[.int .i64 ((punctualref_F.f 3 (i1 : Int)).Code), .int .i64 ((punctualref_F.f 3 (i1 : Int)).At)]]) (l := [.loaded ⟨b1, 0, none⟩ (.int .i64 ((punctualref_F.f 3 (i1 : Int)).Code)), .loaded ⟨b1, 1, none⟩ (.int .i64 ((punctualref_F.f 3 (i1 : Int)).At))]) rfl (by kernel_rfl) ⟨hS38.cell 0 rfl rfl, hS38.cell 0 rfl rfl, trivial⟩ ⟨rfl, hS39⟩) a hF⟩)
        · rw [if_neg hc7] at h
          refine ge_known (t := 39) (b := decide (e1.T > 10000)) (c := false) (by kernel_rfl) (decide_eq_false hc7) ?_
          refine ge_batch [19, 20, 21, 22, 23] (ans := [.val (.int .i64 e1.D)]) (vs := [(44, .bool (decide (e1.D < 1))), (43, .bool (decide (e1.D < 1))), (42, .bool (decide (e1.D < 1))), (41, .int .i64 e1.D), (40, .pointer (some ⟨b2, 2, none⟩))]) (l := [.loaded ⟨b2, 2, none⟩ (.int .i64 e1.D)]) (by kernel_rfl) ⟨hS.cell 0 rfl rfl, trivial⟩ ?_
          by_cases hc8 : e1.D < 1
          · rw [if_pos hc8] at h
            refine ge_known (t := 44) (b := decide (e1.D < 1)) (c := true) (by kernel_rfl) (decide_eq_true hc8) ?_
            refine ge_batch [24, 25, 26, 27, 28, 29, 30, 31, 32, 33, 34, 35, 36, 37] (ans := []) (vs := [(58, .bool true), (57, undef), (56, undef), (55, undef), (54, .bool true), (53, .bool true), (52, undef), (51, undef), (50, undef), (49, .bool true), (48, .bool true), (47, undef), (46, undef), (45, undef)]) (l := []) (by kernel_rfl) trivial ?_
            refine ge_nil fun a hF => hK13 _ _ ?_ a hF
            refine we_true (by kernel_rfl) ?_
            refine we_seq fun K18 hK18 => ?_
            refine we_region [(0, 0), (1, 1), (2, 2)] rfl ?_
            refine ge_batch [0] (ans := []) (vs := [(59, .int .i64 (i1 : Int))]) (l := []) (by kernel_rfl) trivial ?_
            refine ge_call (d := some 60) (f := 74) (args := #[.int .i64 3, .int .i64 (i1 : Int)]) (by kernel_rfl) (punctualref_F_ok 3 (i1 : Int) _ _ rfl) ?_
            rintro _ w17 ⟨rfl, hS40⟩
            refine ⟨_, rfl, hS40.below, ?_⟩
            have hS41 := hS.call hS40
            have hS42 := hS41.bring 1 rfl
            refine ge_set (b := b1) (j := 0) (cs := #[.int .i64 0, .int .i64 0]) (t := 39) (vs := [.int .i64 ((punctualref_F.f 3 (i1 : Int)).Code), .int .i64 ((punctualref_F.f 3 (i1 : Int)).At)]) hS42 (by kernel_rfl) rfl rfl fun w18 hS43 => ?_
            have hS44 : St w0 w18 [Own.blk b1 (.cells #[.int .i64 ((punctualref_F.f 3 (i1 : Int)).Code), .int .i64 ((punctualref_F.f 3 (i1 : Int)).At)] 39 (0, 0)), Own.blk b2 (.cells #[.int .i64 e1.C, .int .i64 e1.T, .int .i64 e1.D, .int .i64 e1.J] 30 (0, 0))] := hS43
            refine ge_nil fun a hF => hK18 _ _ ?_ a hF
            have hS45 := hS44.takeN 0
            obtain rfl := Option.some.inj h
            exact we_ret fun a hF => hQ _ _ _ (Outs.out nofun ⟨rfl, (post_ret (rs := [.cell 2 39]) (ans := [.val (.int .i64 ((punctualref_F.f 3 (i1 : Int)).Code)), .val (.int .i64 ((punctualref_F.f 3 (i1 : Int)).At))]) (vs := [.agg #[.int .i64 ((punctualref_F.f 3 (i1 : Int)).Code), .int .i64 ((punctualref_F.f 3 (i1 : Int)).At)]]) (l := [.loaded ⟨b1, 0, none⟩ (.int .i64 ((punctualref_F.f 3 (i1 : Int)).Code)), .loaded ⟨b1, 1, none⟩ (.int .i64 ((punctualref_F.f 3 (i1 : Int)).At))]) rfl (by kernel_rfl) ⟨hS44.cell 0 rfl rfl, hS44.cell 0 rfl rfl, trivial⟩ ⟨rfl, hS45⟩) a hF⟩)
          · rw [if_neg hc8] at h
            refine ge_known (t := 44) (b := decide (e1.D < 1)) (c := false) (by kernel_rfl) (decide_eq_false hc8) ?_
            refine ge_batch [24, 25, 26, 27, 28] (ans := [.val (.int .i64 e1.D)]) (vs := [(49, .bool (decide (e1.D > 10000))), (48, .bool (decide (e1.D > 10000))), (47, .bool (decide (e1.D > 10000))), (46, .int .i64 e1.D), (45, .pointer (some ⟨b2, 2, none⟩))]) (l := [.loaded ⟨b2, 2, none⟩ (.int .i64 e1.D)]) (by kernel_rfl) ⟨hS.cell 0 rfl rfl, trivial⟩ ?_
            by_cases hc9 : e1.D > 10000
            · rw [if_pos hc9] at h
              refine ge_known (t := 49) (b := decide (e1.D > 10000)) (c := true) (by kernel_rfl) (decide_eq_true hc9) ?_
              refine ge_batch [29, 30, 31, 32, 33, 34, 35, 36, 37] (ans := []) (vs := [(58, .bool true), (57, undef), (56, undef), (55, undef), (54, .bool true), (53, .bool true), (52, undef), (51, undef), (50, undef)]) (l := []) (by kernel_rfl) trivial ?_
              refine ge_nil fun a hF => hK13 _ _ ?_ a hF
              refine we_true (by kernel_rfl) ?_
              refine we_seq fun K19 hK19 => ?_
              refine we_region [(0, 0), (1, 1), (2, 2)] rfl ?_
              refine ge_batch [0] (ans := []) (vs := [(59, .int .i64 (i1 : Int))]) (l := []) (by kernel_rfl) trivial ?_
              refine ge_call (d := some 60) (f := 74) (args := #[.int .i64 3, .int .i64 (i1 : Int)]) (by kernel_rfl) (punctualref_F_ok 3 (i1 : Int) _ _ rfl) ?_
              rintro _ w19 ⟨rfl, hS46⟩
              refine ⟨_, rfl, hS46.below, ?_⟩
              have hS47 := hS.call hS46
              have hS48 := hS47.bring 1 rfl
              refine ge_set (b := b1) (j := 0) (cs := #[.int .i64 0, .int .i64 0]) (t := 39) (vs := [.int .i64 ((punctualref_F.f 3 (i1 : Int)).Code), .int .i64 ((punctualref_F.f 3 (i1 : Int)).At)]) hS48 (by kernel_rfl) rfl rfl fun w20 hS49 => ?_
              have hS50 : St w0 w20 [Own.blk b1 (.cells #[.int .i64 ((punctualref_F.f 3 (i1 : Int)).Code), .int .i64 ((punctualref_F.f 3 (i1 : Int)).At)] 39 (0, 0)), Own.blk b2 (.cells #[.int .i64 e1.C, .int .i64 e1.T, .int .i64 e1.D, .int .i64 e1.J] 30 (0, 0))] := hS49
              refine ge_nil fun a hF => hK19 _ _ ?_ a hF
              have hS51 := hS50.takeN 0
              obtain rfl := Option.some.inj h
              exact we_ret fun a hF => hQ _ _ _ (Outs.out nofun ⟨rfl, (post_ret (rs := [.cell 2 39]) (ans := [.val (.int .i64 ((punctualref_F.f 3 (i1 : Int)).Code)), .val (.int .i64 ((punctualref_F.f 3 (i1 : Int)).At))]) (vs := [.agg #[.int .i64 ((punctualref_F.f 3 (i1 : Int)).Code), .int .i64 ((punctualref_F.f 3 (i1 : Int)).At)]]) (l := [.loaded ⟨b1, 0, none⟩ (.int .i64 ((punctualref_F.f 3 (i1 : Int)).Code)), .loaded ⟨b1, 1, none⟩ (.int .i64 ((punctualref_F.f 3 (i1 : Int)).At))]) rfl (by kernel_rfl) ⟨hS50.cell 0 rfl rfl, hS50.cell 0 rfl rfl, trivial⟩ ⟨rfl, hS51⟩) a hF⟩)
            · rw [if_neg hc9] at h
              refine ge_known (t := 49) (b := decide (e1.D > 10000)) (c := false) (by kernel_rfl) (decide_eq_false hc9) ?_
              refine ge_batch [29, 30, 31, 32, 33] (ans := [.val (.int .i64 e1.J)]) (vs := [(54, .bool (decide (e1.J < 0))), (53, .bool (decide (e1.J < 0))), (52, .bool (decide (e1.J < 0))), (51, .int .i64 e1.J), (50, .pointer (some ⟨b2, 3, none⟩))]) (l := [.loaded ⟨b2, 3, none⟩ (.int .i64 e1.J)]) (by kernel_rfl) ⟨hS.cell 0 rfl rfl, trivial⟩ ?_
              by_cases hc10 : e1.J < 0
              · rw [if_pos hc10] at h
                refine ge_known (t := 54) (b := decide (e1.J < 0)) (c := true) (by kernel_rfl) (decide_eq_true hc10) ?_
                refine ge_batch [34, 35, 36, 37] (ans := []) (vs := [(58, .bool true), (57, undef), (56, undef), (55, undef)]) (l := []) (by kernel_rfl) trivial ?_
                refine ge_nil fun a hF => hK13 _ _ ?_ a hF
                refine we_true (by kernel_rfl) ?_
                refine we_seq fun K20 hK20 => ?_
                refine we_region [(0, 0), (1, 1), (2, 2)] rfl ?_
                refine ge_batch [0] (ans := []) (vs := [(59, .int .i64 (i1 : Int))]) (l := []) (by kernel_rfl) trivial ?_
                refine ge_call (d := some 60) (f := 74) (args := #[.int .i64 3, .int .i64 (i1 : Int)]) (by kernel_rfl) (punctualref_F_ok 3 (i1 : Int) _ _ rfl) ?_
                rintro _ w21 ⟨rfl, hS52⟩
                refine ⟨_, rfl, hS52.below, ?_⟩
                have hS53 := hS.call hS52
                have hS54 := hS53.bring 1 rfl
                refine ge_set (b := b1) (j := 0) (cs := #[.int .i64 0, .int .i64 0]) (t := 39) (vs := [.int .i64 ((punctualref_F.f 3 (i1 : Int)).Code), .int .i64 ((punctualref_F.f 3 (i1 : Int)).At)]) hS54 (by kernel_rfl) rfl rfl fun w22 hS55 => ?_
                have hS56 : St w0 w22 [Own.blk b1 (.cells #[.int .i64 ((punctualref_F.f 3 (i1 : Int)).Code), .int .i64 ((punctualref_F.f 3 (i1 : Int)).At)] 39 (0, 0)), Own.blk b2 (.cells #[.int .i64 e1.C, .int .i64 e1.T, .int .i64 e1.D, .int .i64 e1.J] 30 (0, 0))] := hS55
                refine ge_nil fun a hF => hK20 _ _ ?_ a hF
                have hS57 := hS56.takeN 0
                obtain rfl := Option.some.inj h
                exact we_ret fun a hF => hQ _ _ _ (Outs.out nofun ⟨rfl, (post_ret (rs := [.cell 2 39]) (ans := [.val (.int .i64 ((punctualref_F.f 3 (i1 : Int)).Code)), .val (.int .i64 ((punctualref_F.f 3 (i1 : Int)).At))]) (vs := [.agg #[.int .i64 ((punctualref_F.f 3 (i1 : Int)).Code), .int .i64 ((punctualref_F.f 3 (i1 : Int)).At)]]) (l := [.loaded ⟨b1, 0, none⟩ (.int .i64 ((punctualref_F.f 3 (i1 : Int)).Code)), .loaded ⟨b1, 1, none⟩ (.int .i64 ((punctualref_F.f 3 (i1 : Int)).At))]) rfl (by kernel_rfl) ⟨hS56.cell 0 rfl rfl, hS56.cell 0 rfl rfl, trivial⟩ ⟨rfl, hS57⟩) a hF⟩)
              · rw [if_neg hc10] at h
                refine ge_known (t := 54) (b := decide (e1.J < 0)) (c := false) (by kernel_rfl) (decide_eq_false hc10) ?_
                refine ge_batch [34, 35, 36, 37] (ans := [.val (.int .i64 e1.J)]) (vs := [(58, .bool (decide (e1.J > 10000))), (57, .bool (decide (e1.J > 10000))), (56, .int .i64 e1.J), (55, .pointer (some ⟨b2, 3, none⟩))]) (l := [.loaded ⟨b2, 3, none⟩ (.int .i64 e1.J)]) (by kernel_rfl) ⟨hS.cell 0 rfl rfl, trivial⟩ ?_
                refine ge_nil fun a hF => hK13 _ _ ?_ a hF
                by_cases hc11 : e1.J > 10000
                · rw [if_pos hc11] at h
                  refine we_known (t := 58) (b := decide (e1.J > 10000)) (v := true) (by kernel_rfl) (decide_eq_true hc11) ?_
                  refine we_true (by kernel_rfl) ?_
                  refine we_seq fun K21 hK21 => ?_
                  refine we_region [(0, 0), (1, 1), (2, 2)] rfl ?_
                  refine ge_batch [0] (ans := []) (vs := [(59, .int .i64 (i1 : Int))]) (l := []) (by kernel_rfl) trivial ?_
                  refine ge_call (d := some 60) (f := 74) (args := #[.int .i64 3, .int .i64 (i1 : Int)]) (by kernel_rfl) (punctualref_F_ok 3 (i1 : Int) _ _ rfl) ?_
                  rintro _ w23 ⟨rfl, hS58⟩
                  refine ⟨_, rfl, hS58.below, ?_⟩
                  have hS59 := hS.call hS58
                  have hS60 := hS59.bring 1 rfl
                  refine ge_set (b := b1) (j := 0) (cs := #[.int .i64 0, .int .i64 0]) (t := 39) (vs := [.int .i64 ((punctualref_F.f 3 (i1 : Int)).Code), .int .i64 ((punctualref_F.f 3 (i1 : Int)).At)]) hS60 (by kernel_rfl) rfl rfl fun w24 hS61 => ?_
                  have hS62 : St w0 w24 [Own.blk b1 (.cells #[.int .i64 ((punctualref_F.f 3 (i1 : Int)).Code), .int .i64 ((punctualref_F.f 3 (i1 : Int)).At)] 39 (0, 0)), Own.blk b2 (.cells #[.int .i64 e1.C, .int .i64 e1.T, .int .i64 e1.D, .int .i64 e1.J] 30 (0, 0))] := hS61
                  refine ge_nil fun a hF => hK21 _ _ ?_ a hF
                  have hS63 := hS62.takeN 0
                  obtain rfl := Option.some.inj h
                  exact we_ret fun a hF => hQ _ _ _ (Outs.out nofun ⟨rfl, (post_ret (rs := [.cell 2 39]) (ans := [.val (.int .i64 ((punctualref_F.f 3 (i1 : Int)).Code)), .val (.int .i64 ((punctualref_F.f 3 (i1 : Int)).At))]) (vs := [.agg #[.int .i64 ((punctualref_F.f 3 (i1 : Int)).Code), .int .i64 ((punctualref_F.f 3 (i1 : Int)).At)]]) (l := [.loaded ⟨b1, 0, none⟩ (.int .i64 ((punctualref_F.f 3 (i1 : Int)).Code)), .loaded ⟨b1, 1, none⟩ (.int .i64 ((punctualref_F.f 3 (i1 : Int)).At))]) rfl (by kernel_rfl) ⟨hS62.cell 0 rfl rfl, hS62.cell 0 rfl rfl, trivial⟩ ⟨rfl, hS63⟩) a hF⟩)
                · rw [if_neg hc11] at h
                  refine we_known (t := 58) (b := decide (e1.J > 10000)) (v := false) (by kernel_rfl) (decide_eq_false hc11) ?_
                  refine we_false (by kernel_rfl) ?_
                  have hS64 := hS.bring 1 rfl
                  have hS65 := hS64.bring 1 rfl
                  obtain rfl := Option.some.inj h
                  exact we_skip fun a hF => hQ _ _ _ (Outs.again ⟨hS65, hF.weaken ⟨by kernel_rfl, by kernel_rfl, by kernel_rfl, by kernel_rfl, by kernel_rfl, by kernel_rfl, trivial⟩⟩)
abbrev punctualref_CheckBus.A1 (K : Nat) (w0 : World) (l0 : List SFrame) (A0 : Option Addr) (c0 : Nat) (hR0 : RdL w0 A0 l0) (hL0 : l0.length ≤ c0) (b1 : Nat) : Nat → Act → World → Prop := fun (s : Nat) a w => St w0 w [Own.blk b1 (.cells #[.int .i64 0, .int .i64 0] 39 (0, 0))] ∧ Frm 70 a [(2, .pointer (some ⟨b1, 0, none⟩)), (14, .slice A0 l0.length c0), (15, .int .i64 (l0.length : Int)), (16, .int .i64 (s : Int))]
abbrev punctualref_CheckBus.B1 (K : Nat) (w0 : World) (l0 : List SFrame) (A0 : Option Addr) (c0 : Nat) (hR0 : RdL w0 A0 l0) (hL0 : l0.length ≤ c0) (b1 : Nat) : (Unit ⊕ SFault) → Exit → Act → World → Prop := Exits 0 (fun (s : Unit) a w => St w0 w [Own.blk b1 (.cells #[.int .i64 0, .int .i64 0] 39 (0, 0))] ∧ Frm 70 a [(2, .pointer (some ⟨b1, 0, none⟩))]) (Rets Tryd.prog Tryd.f73 (punctualref_CheckBus.Post w0))
theorem punctualref_CheckBus_r1 (K : Nat) (w0 : World) (l0 : List SFrame) (A0 : Option Addr) (c0 : Nat) (hR0 : RdL w0 A0 l0) (hL0 : l0.length ≤ c0) (b1 : Nat) (s : Nat) (o : Nat ⊕ (Unit ⊕ SFault)) (h : punctualref_CheckBus.r1 l0 s = some o) (a : Act) (w : World) (hA : punctualref_CheckBus.A1 K w0 l0 A0 c0 hR0 hL0 b1 s a w) (Q : Exit → Act → World → Prop) (hQ : ∀ x a w, Outs (punctualref_CheckBus.A1 K w0 l0 A0 c0 hR0 hL0 b1) (punctualref_CheckBus.B1 K w0 l0 A0 c0 hR0 hL0 b1) o x a w → Q x a w) : (subF Tryd.f73 [1, 1, 0, 1, 0, 0]).wp Tryd.prog Q a w := by
  obtain ⟨i1, hs⟩ : ∃ z, z = s := ⟨s, rfl⟩
  subst hs
  obtain ⟨hS, hF⟩ := hA
  replace hS : St w0 w [Own.blk b1 (.cells #[.int .i64 0, .int .i64 0] 39 (0, 0))] := hS
  simp only [punctualref_CheckBus.r1] at h
  refine (?_ : WE Tryd.prog 70 (subF Tryd.f73 [1, 1, 0, 1, 0, 0]) Q [(2, .pointer (some ⟨b1, 0, none⟩)), (14, .slice A0 l0.length c0), (15, .int .i64 (l0.length : Int)), (16, .int .i64 (i1 : Int))] w) a hF
  clear hF a
  refine we_seq fun K8 hK8 => ?_
  refine we_region [(0, 0)] rfl ?_
  refine ge_batch [0] (ans := []) (vs := [(17, .bool (decide ((i1 : Int) < (l0.length : Int))))]) (l := []) (by kernel_rfl) trivial ?_
  refine ge_nil fun a hF => hK8 _ _ ?_ a hF
  refine we_seq fun K9 hK9 => ?_
  by_cases hc3 : (i1 : Int) < (l0.length : Int)
  · rw [if_pos hc3] at h
    refine we_known (t := 17) (b := decide ((i1 : Int) < (l0.length : Int))) (v := true) (by kernel_rfl) (decide_eq_true hc3) ?_
    refine we_true (by kernel_rfl) ?_
    refine we_skip fun a hF => hK9 _ _ ?_ a hF
    refine we_seq fun K10 hK10 => ?_
    refine we_block ?_
    refine we_seq fun K11 hK11 => ?_
    refine we_region [(0, 0), (1, 0), (2, 0), (3, 1), (4, 0), (5, 2)] rfl ?_
    refine ge_batch [0] (ans := []) (vs := [(18, .int .i64 (i1 : Int))]) (l := []) (by kernel_rfl) trivial ?_
    rcases hx2 : l0[i1]? with _ | e1
    · rw [hx2] at h; cases h
    rw [hx2] at h
    simp only [] at h
    refine ge_index (d := 19) (ty := 0) (t := 22) (el := 30) (sz := 4) (m := l0.length) (c := c0) (x := (.tmp 14)) (y := (.tmp 16)) (A := A0) (k' := .i64) (j := (i1 : Int)) (jn := i1) (b0 := blkOf A0) (o0 := offOf A0) (by kernel_rfl) (by kernel_rfl) (by kernel_rfl) (by kernel_rfl) (by kernel_rfl) ((hS.rd hR0).eqSome (pos_of_get hx2)) rfl (lt_of_get hx2) ?_
    refine ge_batch [2] (ans := [.val (.int .i64 e1.C), .val (.int .i64 e1.T), .val (.int .i64 e1.D), .val (.int .i64 e1.J)]) (vs := [(20, .agg #[.int .i64 e1.C, .int .i64 e1.T, .int .i64 e1.D, .int .i64 e1.J])]) (l := [.loaded ⟨blkOf A0, offOf A0 + i1 * 4, none⟩ (.int .i64 e1.C), .loaded ⟨blkOf A0, offOf A0 + i1 * 4 + 1, none⟩ (.int .i64 e1.T), .loaded ⟨blkOf A0, offOf A0 + i1 * 4 + 2, none⟩ (.int .i64 e1.D), .loaded ⟨blkOf A0, offOf A0 + i1 * 4 + 3, none⟩ (.int .i64 e1.J)]) (by kernel_rfl) ⟨RdL.cell (j := 0) (hS.rd hR0) hx2 rfl, RdL.cell (j := 1) (hS.rd hR0) hx2 rfl, RdL.cell (j := 2) (hS.rd hR0) hx2 rfl, RdL.cell (j := 3) (hS.rd hR0) hx2 rfl, trivial⟩ ?_
    refine ge_new (d := some 4) (o := .cells #[.int .i64 0, .int .i64 0, .int .i64 0, .int .i64 0] 30) (v := fun b => .pointer (some ⟨b, 0, none⟩)) hS (fun b => by kernel_rfl) fun b2 w7 hx3 hS13 => ?_
    refine ge_batch [4] (ans := []) (vs := [(3, .int .i64 (i1 : Int))]) (l := []) (by kernel_rfl) trivial ?_
    refine ge_set (b := b2) (j := 0) (cs := #[.int .i64 0, .int .i64 0, .int .i64 0, .int .i64 0]) (t := 30) (vs := [.int .i64 e1.C, .int .i64 e1.T, .int .i64 e1.D, .int .i64 e1.J]) hS13 (by kernel_rfl) rfl rfl fun w8 hS14 => ?_
    have hS15 : St w0 w8 [Own.blk b2 (.cells #[.int .i64 e1.C, .int .i64 e1.T, .int .i64 e1.D, .int .i64 e1.J] 30 (0, 0)), Own.blk b1 (.cells #[.int .i64 0, .int .i64 0] 39 (0, 0))] := hS14
    refine ge_nil fun a hF => hK11 _ _ ?_ a hF
    refine we_seq fun K12 hK12 => ?_
    rcases hq12 : punctualref_CheckBus.p2 i1 e1 with _ | (_ | rr1)
    · rw [hq12] at h; cases h
    · rw [hq12] at h
      simp only [] at h
      refine we_keep (e' := [(2, .pointer (some ⟨b1, 0, none⟩)), (3, .int .i64 (i1 : Int)), (4, .pointer (some ⟨b2, 0, none⟩)), (14, .slice A0 l0.length c0), (15, .int .i64 (l0.length : Int)), (16, .int .i64 (i1 : Int)), (17, .bool true), (18, .int .i64 (i1 : Int)), (19, .pointer (some ⟨blkOf A0, offOf A0 + i1 * 4, none⟩)), (20, .agg #[.int .i64 e1.C, .int .i64 e1.T, .int .i64 e1.D, .int .i64 e1.J])]) ⟨by kernel_rfl, by kernel_rfl, by kernel_rfl, by kernel_rfl, by kernel_rfl, by kernel_rfl, by kernel_rfl, by kernel_rfl, by kernel_rfl, by kernel_rfl, trivial⟩ (punctualref_CheckBus_p2 K w0 l0 A0 c0 hR0 hL0 b1 i1 hc3 e1 hx2 b2 _ hq12 _ hS15 _ ?_)
      rintro _ a w25 ⟨rfl, hS66, hF⟩
      replace hS66 : St w0 w25 [Own.blk b2 (.cells #[.int .i64 e1.C, .int .i64 e1.T, .int .i64 e1.D, .int .i64 e1.J] 30 (0, 0)), Own.blk b1 (.cells #[.int .i64 0, .int .i64 0] 39 (0, 0))] := hS66
      refine hK12 [(2, .pointer (some ⟨b1, 0, none⟩)), (3, .int .i64 (i1 : Int)), (4, .pointer (some ⟨b2, 0, none⟩)), (14, .slice A0 l0.length c0), (15, .int .i64 (l0.length : Int)), (16, .int .i64 (i1 : Int))] w25 ?_ a hF
      refine we_seq fun K22 hK22 => ?_
      refine we_region [(0, 0), (1, 0), (2, 0), (3, 0), (4, 0)] rfl ?_
      refine ge_batch [0, 1, 2, 3, 4] (ans := [.val (.int .i64 e1.J), .val (.int .i64 e1.T)]) (vs := [(65, .bool (decide (e1.J > e1.T))), (64, .int .i64 e1.T), (63, .pointer (some ⟨b2, 1, none⟩)), (62, .int .i64 e1.J), (61, .pointer (some ⟨b2, 3, none⟩))]) (l := [.loaded ⟨b2, 3, none⟩ (.int .i64 e1.J), .loaded ⟨b2, 1, none⟩ (.int .i64 e1.T)]) (by kernel_rfl) ⟨hS66.cell 0 rfl rfl, hS66.cell 0 rfl rfl, trivial⟩ ?_
      refine ge_nil fun a hF => hK22 _ _ ?_ a hF
      by_cases hc12 : e1.J > e1.T
      · rw [if_pos hc12] at h
        refine we_known (t := 65) (b := decide (e1.J > e1.T)) (v := true) (by kernel_rfl) (decide_eq_true hc12) ?_
        refine we_true (by kernel_rfl) ?_
        refine we_seq fun K23 hK23 => ?_
        refine we_region [(0, 0), (1, 1), (2, 2)] rfl ?_
        refine ge_batch [0] (ans := []) (vs := [(66, .int .i64 (i1 : Int))]) (l := []) (by kernel_rfl) trivial ?_
        refine ge_call (d := some 67) (f := 74) (args := #[.int .i64 12, .int .i64 (i1 : Int)]) (by kernel_rfl) (punctualref_F_ok 12 (i1 : Int) _ _ rfl) ?_
        rintro _ w26 ⟨rfl, hS67⟩
        refine ⟨_, rfl, hS67.below, ?_⟩
        have hS68 := hS66.call hS67
        have hS69 := hS68.bring 1 rfl
        refine ge_set (b := b1) (j := 0) (cs := #[.int .i64 0, .int .i64 0]) (t := 39) (vs := [.int .i64 ((punctualref_F.f 12 (i1 : Int)).Code), .int .i64 ((punctualref_F.f 12 (i1 : Int)).At)]) hS69 (by kernel_rfl) rfl rfl fun w27 hS70 => ?_
        have hS71 : St w0 w27 [Own.blk b1 (.cells #[.int .i64 ((punctualref_F.f 12 (i1 : Int)).Code), .int .i64 ((punctualref_F.f 12 (i1 : Int)).At)] 39 (0, 0)), Own.blk b2 (.cells #[.int .i64 e1.C, .int .i64 e1.T, .int .i64 e1.D, .int .i64 e1.J] 30 (0, 0))] := hS70
        refine ge_nil fun a hF => hK23 _ _ ?_ a hF
        have hS72 := hS71.takeN 0
        obtain rfl := Option.some.inj h
        exact we_ret fun a hF => hQ _ _ _ (Outs.out nofun (Exits.on ⟨rfl, (post_ret (rs := [.cell 2 39]) (ans := [.val (.int .i64 ((punctualref_F.f 12 (i1 : Int)).Code)), .val (.int .i64 ((punctualref_F.f 12 (i1 : Int)).At))]) (vs := [.agg #[.int .i64 ((punctualref_F.f 12 (i1 : Int)).Code), .int .i64 ((punctualref_F.f 12 (i1 : Int)).At)]]) (l := [.loaded ⟨b1, 0, none⟩ (.int .i64 ((punctualref_F.f 12 (i1 : Int)).Code)), .loaded ⟨b1, 1, none⟩ (.int .i64 ((punctualref_F.f 12 (i1 : Int)).At))]) rfl (by kernel_rfl) ⟨hS71.cell 0 rfl rfl, hS71.cell 0 rfl rfl, trivial⟩ ⟨rfl, hS72⟩) a hF⟩))
      · rw [if_neg hc12] at h
        refine we_known (t := 65) (b := decide (e1.J > e1.T)) (v := false) (by kernel_rfl) (decide_eq_false hc12) ?_
        refine we_false (by kernel_rfl) ?_
        refine we_skip fun a hF => hK10 _ _ ?_ a hF
        refine we_region [(0, 0), (1, 0)] rfl ?_
        refine ge_addn (d := 68) (ty := 3) (x := (.tmp 16)) (y := (.const (.int .i64 1))) (t := 3) (t2 := 3) (k := .i64) (m := i1) (by kernel_rfl) (by kernel_rfl) (by kernel_rfl) (by have h0 := hR0.small; omega) ?_
        refine ge_batch [1] (ans := []) (vs := [(16, .int .i64 ((i1 + 1 : Nat) : Int))]) (l := []) (by kernel_rfl) trivial ?_
        have hS73 := hS66.bring 1 rfl
        have hS74 := hS73.takeN 1
        obtain rfl := Option.some.inj h
        exact ge_nil fun a hF => hQ _ _ _ (Outs.again ⟨hS74, hF.weaken ⟨by kernel_rfl, by kernel_rfl, by kernel_rfl, by kernel_rfl, trivial⟩⟩)
    · rw [hq12] at h
      simp only [] at h
      refine we_keep (e' := [(2, .pointer (some ⟨b1, 0, none⟩)), (3, .int .i64 (i1 : Int)), (4, .pointer (some ⟨b2, 0, none⟩)), (14, .slice A0 l0.length c0), (15, .int .i64 (l0.length : Int)), (16, .int .i64 (i1 : Int)), (17, .bool true), (18, .int .i64 (i1 : Int)), (19, .pointer (some ⟨blkOf A0, offOf A0 + i1 * 4, none⟩)), (20, .agg #[.int .i64 e1.C, .int .i64 e1.T, .int .i64 e1.D, .int .i64 e1.J])]) ⟨by kernel_rfl, by kernel_rfl, by kernel_rfl, by kernel_rfl, by kernel_rfl, by kernel_rfl, by kernel_rfl, by kernel_rfl, by kernel_rfl, by kernel_rfl, trivial⟩ (punctualref_CheckBus_p2 K w0 l0 A0 c0 hR0 hL0 b1 i1 hc3 e1 hx2 b2 _ hq12 _ hS15 _ ?_)
      rintro _ a w1 ⟨_, rfl, hb⟩
      obtain rfl := Option.some.inj h
      exact hQ _ _ _ (Outs.out nofun (Exits.on ⟨rfl, hb⟩))
  · rw [if_neg hc3] at h
    refine we_known (t := 17) (b := decide ((i1 : Int) < (l0.length : Int))) (v := false) (by kernel_rfl) (decide_eq_false hc3) ?_
    refine we_false (by kernel_rfl) ?_
    obtain rfl := Option.some.inj h
    exact we_exit fun a hF => hQ _ _ _ (Outs.out nofun (Exits.here ⟨hS, hF.weaken ⟨by kernel_rfl, trivial⟩⟩))
theorem punctualref_CheckBus_ok (K : Nat) (l0 : List SFrame) (A0 : Option Addr) (c0 : Nat) (w0 : World) (hR0 : RdL w0 A0 l0) (hL0 : l0.length ≤ c0) (r : SFault) (h : punctualref_CheckBus.f K l0 = some r) :
    Calls Tryd.prog 73 #[.slice A0 l0.length c0] w0 (punctualref_CheckBus.Post w0 r) := by
  have hS := St.start w0
  unfold punctualref_CheckBus.f at h
  refine calls_enter (n := 70) (args := [.slice A0 l0.length c0]) (fn := Tryd.f73) rfl rfl rfl rfl ?_
  show WE _ _ _ _ [(0, .slice A0 l0.length c0)] _
  refine we_seq fun K1 hK1 => ?_
  refine we_region [(0, 1)] rfl ?_
  refine ge_new (d := some 2) (o := .cells #[.int .i64 0, .int .i64 0] 39) (v := fun b => .pointer (some ⟨b, 0, none⟩)) hS (fun b => by kernel_rfl) fun b1 w1 hx1 hS1 => ?_
  refine ge_nil fun a hF => hK1 _ _ ?_ a hF
  refine we_seq fun K2 hK2 => ?_
  rcases hq3 : punctualref_CheckBus.p0 l0 with _ | (_ | rr3)
  · rw [hq3] at h; cases h
  · rw [hq3] at h
    simp only [] at h
    refine we_keep (e' := [(0, .slice A0 l0.length c0), (2, .pointer (some ⟨b1, 0, none⟩))]) ⟨by kernel_rfl, by kernel_rfl, trivial⟩ (punctualref_CheckBus_p0 K w0 l0 A0 c0 hR0 hL0 b1 _ hq3 _ hS1 _ ?_)
    rintro _ a w6 ⟨rfl, hS12, hF⟩
    replace hS12 : St w0 w6 [Own.blk b1 (.cells #[.int .i64 0, .int .i64 0] 39 (0, 0))] := hS12
    refine hK2 [(0, .slice A0 l0.length c0), (2, .pointer (some ⟨b1, 0, none⟩))] w6 ?_ a hF
    refine we_seq fun K6 hK6 => ?_
    refine we_seq fun K7 hK7 => ?_
    refine we_region [(0, 0), (1, 0), (2, 0)] rfl ?_
    refine ge_batch [0, 1, 2] (ans := []) (vs := [(16, .int .i64 0), (15, .int .i64 (l0.length : Int)), (14, .slice A0 l0.length c0)]) (l := []) (by kernel_rfl) trivial ?_
    refine ge_nil fun a hF => hK7 _ _ ?_ a hF
    refine we_block ?_
    rcases hq14 : iter (punctualref_CheckBus.r1 l0) K 0 with _ | (_ | rr2)
    · rw [hq14] at h; cases h
    · rw [hq14] at h
      simp only [] at h
      refine we_iter (A := punctualref_CheckBus.A1 K w0 l0 A0 c0 hR0 hL0 b1) (B := punctualref_CheckBus.B1 K w0 l0 A0 c0 hR0 hL0 b1) hq14 (fun a hF => ⟨hS12, hF.weaken ⟨by kernel_rfl, by kernel_rfl, by kernel_rfl, by kernel_rfl, trivial⟩⟩) (fun s o hf a w hA Q hQ => punctualref_CheckBus_r1 K w0 l0 A0 c0 hR0 hL0 b1 s o hf a w hA Q hQ) ?_
      rintro _ a w28 _ ⟨rfl, hS75, hF⟩
      replace hS75 : St w0 w28 [Own.blk b1 (.cells #[.int .i64 0, .int .i64 0] 39 (0, 0))] := hS75
      refine hK6 [(2, .pointer (some ⟨b1, 0, none⟩))] w28 ?_ a hF
      refine we_seq fun K24 hK24 => ?_
      refine we_region [(0, 0), (1, 2)] rfl ?_
      refine ge_batch [0] (ans := []) (vs := [(69, .agg #[.int .i64 0, .int .i64 0])]) (l := []) (by kernel_rfl) trivial ?_
      refine ge_set (b := b1) (j := 0) (cs := #[.int .i64 0, .int .i64 0]) (t := 39) (vs := [.int .i64 0, .int .i64 0]) hS75 (by kernel_rfl) rfl rfl fun w29 hS76 => ?_
      have hS77 : St w0 w29 [Own.blk b1 (.cells #[.int .i64 0, .int .i64 0] 39 (0, 0))] := hS76
      refine ge_nil fun a hF => hK24 _ _ ?_ a hF
      have hS78 := hS77.takeN 0
      obtain rfl := Option.some.inj h
      exact we_ret (post_ret (rs := [.cell 2 39]) (ans := [.val (.int .i64 0), .val (.int .i64 0)]) (vs := [.agg #[.int .i64 0, .int .i64 0]]) (l := [.loaded ⟨b1, 0, none⟩ (.int .i64 0), .loaded ⟨b1, 1, none⟩ (.int .i64 0)]) rfl (by kernel_rfl) ⟨hS77.cell 0 rfl rfl, hS77.cell 0 rfl rfl, trivial⟩ ⟨rfl, hS78⟩)
    · rw [hq14] at h
      simp only [] at h
      refine we_iter (A := punctualref_CheckBus.A1 K w0 l0 A0 c0 hR0 hL0 b1) (B := punctualref_CheckBus.B1 K w0 l0 A0 c0 hR0 hL0 b1) hq14 (fun a hF => ⟨hS12, hF.weaken ⟨by kernel_rfl, by kernel_rfl, by kernel_rfl, by kernel_rfl, trivial⟩⟩) (fun s o hf a w hA Q hQ => punctualref_CheckBus_r1 K w0 l0 A0 c0 hR0 hL0 b1 s o hf a w hA Q hQ) ?_
      rintro _ a w1 _ ⟨rfl, hb⟩
      obtain rfl := Option.some.inj h
      exact hb
  · rw [hq3] at h
    simp only [] at h
    refine we_keep (e' := [(0, .slice A0 l0.length c0), (2, .pointer (some ⟨b1, 0, none⟩))]) ⟨by kernel_rfl, by kernel_rfl, trivial⟩ (punctualref_CheckBus_p0 K w0 l0 A0 c0 hR0 hL0 b1 _ hq3 _ hS1 _ ?_)
    rintro _ a w1 ⟨_, rfl, hb⟩
    obtain rfl := Option.some.inj h
    exact hb
end Go.Proofs.YtcogbnkioobmkaaDoor.GV
