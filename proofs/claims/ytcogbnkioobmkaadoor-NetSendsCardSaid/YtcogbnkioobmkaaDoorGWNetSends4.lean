/- Walks of single functions, written by a program of this work. -/
import Derived.Test.YtcogbnkioobmkaaDoorGWNetSends3
namespace Go.Proofs.YtcogbnkioobmkaaDoor.GV
open Go Go.RowKit
set_option linter.unusedVariables false
set_option linter.unusedSimpArgs false
set_option maxRecDepth 100000

/-! punctual/punctualref.CheckJobs -/
abbrev punctualref_CheckJobs.Post (w0 : World) (r : SFault) (e : Ending) (w : World) : Prop := e = .returned (.agg #[.int .i64 r.Code, .int .i64 r.At]) ∧ St w0 w []
def punctualref_CheckJobs.r0 (l0 : List SJob) : Nat → Option (Nat ⊕ (Unit ⊕ SFault))
  | i1 =>
    if (i1 : Int) < (l0.length : Int) then
      match l0[i1]? with
      | none => none
      | some e1 =>
        if e1.At < 0 then
          some (.inr (.inr (punctualref_F.f 3 (i1 : Int))))
        else
          if e1.At > 60000 then
            some (.inr (.inr (punctualref_F.f 3 (i1 : Int))))
          else
            if e1.C < 1 then
              some (.inr (.inr (punctualref_F.f 3 (i1 : Int))))
            else
              if e1.C > 10000 then
                some (.inr (.inr (punctualref_F.f 3 (i1 : Int))))
              else
                if e1.Due < 0 then
                  some (.inr (.inr (punctualref_F.f 3 (i1 : Int))))
                else
                  if e1.Due > 80000 then
                    some (.inr (.inr (punctualref_F.f 3 (i1 : Int))))
                  else
                    some (.inl (i1 + 1))
    else
      some (.inr (.inl ()))
def punctualref_CheckJobs.f (K : Nat) (l0 : List SJob) : Option SFault :=
  if (l0.length : Int) > 4000 then
    some (punctualref_F.f 2 0)
  else
    match iter (punctualref_CheckJobs.r0 l0) K 0 with
    | none => none
    | some (.inl _) =>
      some (⟨0, 0⟩ : SFault)
    | some (.inr rr1) =>
      some rr1
abbrev punctualref_CheckJobs.A0 (K : Nat) (w0 : World) (l0 : List SJob) (A0 : Option Addr) (c0 : Nat) (hR0 : RdL w0 A0 l0) (hL0 : l0.length ≤ c0) (b1 : Nat) (hc1 : ¬ ((l0.length : Int) > 4000)) : Nat → Act → World → Prop := fun (s : Nat) a w => St w0 w [Own.blk b1 (.cells #[.int .i64 0, .int .i64 0] 39 (0, 0))] ∧ Frm 48 a [(2, .pointer (some ⟨b1, 0, none⟩)), (9, .slice A0 l0.length c0), (10, .int .i64 (l0.length : Int)), (11, .int .i64 (s : Int))]
abbrev punctualref_CheckJobs.B0 (K : Nat) (w0 : World) (l0 : List SJob) (A0 : Option Addr) (c0 : Nat) (hR0 : RdL w0 A0 l0) (hL0 : l0.length ≤ c0) (b1 : Nat) (hc1 : ¬ ((l0.length : Int) > 4000)) : (Unit ⊕ SFault) → Exit → Act → World → Prop := Exits 0 (fun (s : Unit) a w => St w0 w [Own.blk b1 (.cells #[.int .i64 0, .int .i64 0] 39 (0, 0))] ∧ Frm 48 a [(2, .pointer (some ⟨b1, 0, none⟩))]) (Rets Tryd.prog Tryd.f87 (punctualref_CheckJobs.Post w0))
theorem punctualref_CheckJobs_r0 (K : Nat) (w0 : World) (l0 : List SJob) (A0 : Option Addr) (c0 : Nat) (hR0 : RdL w0 A0 l0) (hL0 : l0.length ≤ c0) (b1 : Nat) (hc1 : ¬ ((l0.length : Int) > 4000)) (s : Nat) (o : Nat ⊕ (Unit ⊕ SFault)) (h : punctualref_CheckJobs.r0 l0 s = some o) (a : Act) (w : World) (hA : punctualref_CheckJobs.A0 K w0 l0 A0 c0 hR0 hL0 b1 hc1 s a w) (Q : Exit → Act → World → Prop) (hQ : ∀ x a w, Outs (punctualref_CheckJobs.A0 K w0 l0 A0 c0 hR0 hL0 b1 hc1) (punctualref_CheckJobs.B0 K w0 l0 A0 c0 hR0 hL0 b1 hc1) o x a w → Q x a w) : (subF Tryd.f87 [1, 1, 0, 1, 0, 0]).wp Tryd.prog Q a w := by
  obtain ⟨i1, hs⟩ : ∃ z, z = s := ⟨s, rfl⟩
  subst hs
  obtain ⟨hS, hF⟩ := hA
  replace hS : St w0 w [Own.blk b1 (.cells #[.int .i64 0, .int .i64 0] 39 (0, 0))] := hS
  simp only [punctualref_CheckJobs.r0] at h
  refine (?_ : WE Tryd.prog 48 (subF Tryd.f87 [1, 1, 0, 1, 0, 0]) Q [(2, .pointer (some ⟨b1, 0, none⟩)), (9, .slice A0 l0.length c0), (10, .int .i64 (l0.length : Int)), (11, .int .i64 (i1 : Int))] w) a hF
  clear hF a
  refine we_seq fun K7 hK7 => ?_
  refine we_region [(0, 0)] rfl ?_
  refine ge_batch [0] (ans := []) (vs := [(12, .bool (decide ((i1 : Int) < (l0.length : Int))))]) (l := []) (by kernel_rfl) trivial ?_
  refine ge_nil fun a hF => hK7 _ _ ?_ a hF
  refine we_seq fun K8 hK8 => ?_
  by_cases hc2 : (i1 : Int) < (l0.length : Int)
  · rw [if_pos hc2] at h
    refine we_known (t := 12) (b := decide ((i1 : Int) < (l0.length : Int))) (v := true) (by kernel_rfl) (decide_eq_true hc2) ?_
    refine we_true (by kernel_rfl) ?_
    refine we_skip fun a hF => hK8 _ _ ?_ a hF
    refine we_seq fun K9 hK9 => ?_
    refine we_block ?_
    refine we_seq fun K10 hK10 => ?_
    refine we_region [(0, 0), (1, 0), (2, 0), (3, 1), (4, 0), (5, 2)] rfl ?_
    refine ge_batch [0] (ans := []) (vs := [(13, .int .i64 (i1 : Int))]) (l := []) (by kernel_rfl) trivial ?_
    rcases hx2 : l0[i1]? with _ | e1
    · rw [hx2] at h; cases h
    rw [hx2] at h
    simp only [] at h
    refine ge_index (d := 14) (ty := 0) (t := 49) (el := 58) (sz := 5) (m := l0.length) (c := c0) (x := (.tmp 9)) (y := (.tmp 11)) (A := A0) (k' := .i64) (j := (i1 : Int)) (jn := i1) (b0 := blkOf A0) (o0 := offOf A0) (by kernel_rfl) (by kernel_rfl) (by kernel_rfl) (by kernel_rfl) (by kernel_rfl) ((hS.rd hR0).eqSome (pos_of_get hx2)) rfl (lt_of_get hx2) ?_
    refine ge_batch [2] (ans := [.val (.int .i64 e1.Task), .val (.int .i64 e1.At), .val (.int .i64 e1.C), .val (.int .i64 e1.Due), .val (.int .i64 e1.P)]) (vs := [(15, .agg #[.int .i64 e1.Task, .int .i64 e1.At, .int .i64 e1.C, .int .i64 e1.Due, .int .i64 e1.P])]) (l := [.loaded ⟨blkOf A0, offOf A0 + i1 * 5, none⟩ (.int .i64 e1.Task), .loaded ⟨blkOf A0, offOf A0 + i1 * 5 + 1, none⟩ (.int .i64 e1.At), .loaded ⟨blkOf A0, offOf A0 + i1 * 5 + 2, none⟩ (.int .i64 e1.C), .loaded ⟨blkOf A0, offOf A0 + i1 * 5 + 3, none⟩ (.int .i64 e1.Due), .loaded ⟨blkOf A0, offOf A0 + i1 * 5 + 4, none⟩ (.int .i64 e1.P)]) (by kernel_rfl) ⟨RdL.cell (j := 0) (hS.rd hR0) hx2 rfl, RdL.cell (j := 1) (hS.rd hR0) hx2 rfl, RdL.cell (j := 2) (hS.rd hR0) hx2 rfl, RdL.cell (j := 3) (hS.rd hR0) hx2 rfl, RdL.cell (j := 4) (hS.rd hR0) hx2 rfl, trivial⟩ ?_
    refine ge_new (d := some 4) (o := .cells #[.int .i64 0, .int .i64 0, .int .i64 0, .int .i64 0, .int .i64 0] 58) (v := fun b => .pointer (some ⟨b, 0, none⟩)) hS (fun b => by kernel_rfl) fun b2 w4 hx3 hS7 => ?_
    refine ge_batch [4] (ans := []) (vs := [(3, .int .i64 (i1 : Int))]) (l := []) (by kernel_rfl) trivial ?_
    refine ge_set (b := b2) (j := 0) (cs := #[.int .i64 0, .int .i64 0, .int .i64 0, .int .i64 0, .int .i64 0]) (t := 58) (vs := [.int .i64 e1.Task, .int .i64 e1.At, .int .i64 e1.C, .int .i64 e1.Due, .int .i64 e1.P]) hS7 (by kernel_rfl) rfl rfl fun w5 hS8 => ?_
    have hS9 : St w0 w5 [Own.blk b2 (.cells #[.int .i64 e1.Task, .int .i64 e1.At, .int .i64 e1.C, .int .i64 e1.Due, .int .i64 e1.P] 58 (0, 0)), Own.blk b1 (.cells #[.int .i64 0, .int .i64 0] 39 (0, 0))] := hS8
    refine ge_nil fun a hF => hK10 _ _ ?_ a hF
    refine we_seq fun K11 hK11 => ?_
    refine we_region [(0, 0), (1, 0), (2, 0), (3, 0), (4, 0), (5, 0), (6, 0), (7, 0), (8, 0), (9, 0), (10, 0), (11, 0), (12, 0), (13, 0), (14, 0), (15, 0), (16, 0), (17, 0), (18, 0), (19, 0), (20, 0), (21, 0), (22, 0), (23, 0), (24, 0), (25, 0), (26, 0), (27, 0)] rfl ?_
    refine ge_batch [0, 1, 2, 3] (ans := [.val (.int .i64 e1.At)]) (vs := [(19, .bool (decide (e1.At < 0))), (18, .bool (decide (e1.At < 0))), (17, .int .i64 e1.At), (16, .pointer (some ⟨b2, 1, none⟩))]) (l := [.loaded ⟨b2, 1, none⟩ (.int .i64 e1.At)]) (by kernel_rfl) ⟨hS9.cell 0 rfl rfl, trivial⟩ ?_
    by_cases hc3 : e1.At < 0
    · rw [if_pos hc3] at h
      refine ge_known (t := 19) (b := decide (e1.At < 0)) (c := true) (by kernel_rfl) (decide_eq_true hc3) ?_
      refine ge_batch [4, 5, 6, 7, 8, 9, 10, 11, 12, 13, 14, 15, 16, 17, 18, 19, 20, 21, 22, 23, 24, 25, 26, 27] (ans := []) (vs := [(43, .bool true), (42, undef), (41, undef), (40, undef), (39, .bool true), (38, .bool true), (37, undef), (36, undef), (35, undef), (34, .bool true), (33, .bool true), (32, undef), (31, undef), (30, undef), (29, .bool true), (28, .bool true), (27, undef), (26, undef), (25, undef), (24, .bool true), (23, .bool true), (22, undef), (21, undef), (20, undef)]) (l := []) (by kernel_rfl) trivial ?_
      refine ge_nil fun a hF => hK11 _ _ ?_ a hF
      refine we_true (by kernel_rfl) ?_
      refine we_seq fun K12 hK12 => ?_
      refine we_region [(0, 0), (1, 1), (2, 2)] rfl ?_
      refine ge_batch [0] (ans := []) (vs := [(44, .int .i64 (i1 : Int))]) (l := []) (by kernel_rfl) trivial ?_
      refine ge_call (d := some 45) (f := 74) (args := #[.int .i64 3, .int .i64 (i1 : Int)]) (by kernel_rfl) (punctualref_F_ok 3 (i1 : Int) _ _ rfl) ?_
      rintro _ w6 ⟨rfl, hS10⟩
      refine ⟨_, rfl, hS10.below, ?_⟩
      have hS11 := hS9.call hS10
      have hS12 := hS11.bring 1 rfl
      refine ge_set (b := b1) (j := 0) (cs := #[.int .i64 0, .int .i64 0]) (t := 39) (vs := [.int .i64 ((punctualref_F.f 3 (i1 : Int)).Code), .int .i64 ((punctualref_F.f 3 (i1 : Int)).At)]) hS12 (by kernel_rfl) rfl rfl fun w7 hS13 => ?_
      have hS14 : St w0 w7 [Own.blk b1 (.cells #[.int .i64 ((punctualref_F.f 3 (i1 : Int)).Code), .int .i64 ((punctualref_F.f 3 (i1 : Int)).At)] 39 (0, 0)), Own.blk b2 (.cells #[.int .i64 e1.Task, .int .i64 e1.At, .int .i64 e1.C, .int .i64 e1.Due, .int .i64 e1.P] 58 (0, 0))] := hS13
      refine ge_nil fun a hF => hK12 _ _ ?_ a hF
      have hS15 := hS14.takeN 0
      obtain rfl := Option.some.inj h
      exact we_ret fun a hF => hQ _ _ _ (Outs.out nofun (Exits.on ⟨rfl, (post_ret (rs := [.cell 2 39]) (ans := [.val (.int .i64 ((punctualref_F.f 3 (i1 : Int)).Code)), .val (.int .i64 ((punctualref_F.f 3 (i1 : Int)).At))]) (vs := [.agg #[.int .i64 ((punctualref_F.f 3 (i1 : Int)).Code), .int .i64 ((punctualref_F.f 3 (i1 : Int)).At)]]) (l := [.loaded ⟨b1, 0, none⟩ (.int .i64 ((punctualref_F.f 3 (i1 : Int)).Code)), .loaded ⟨b1, 1, none⟩ (.int .i64 ((punctualref_F.f 3 (i1 : Int)).At))]) rfl (by kernel_rfl) ⟨hS14.cell 0 rfl rfl, hS14.cell 0 rfl rfl, trivial⟩ ⟨rfl, hS15⟩) a hF⟩))
    · rw [if_neg hc3] at h
      refine ge_known (t := 19) (b := decide (e1.At < 0)) (c := false) (by kernel_rfl) (decide_eq_false hc3) ?_
      refine ge_batch [4, 5, 6, 7, 8] (ans := [.val (.int .i64 e1.At)]) (vs := [(24, .bool (decide (e1.At > 60000))), (23, .bool (decide (e1.At > 60000))), (22, .bool (decide (e1.At > 60000))), (21, .int .i64 e1.At), (20, .pointer (some ⟨b2, 1, none⟩))]) (l := [.loaded ⟨b2, 1, none⟩ (.int .i64 e1.At)]) (by kernel_rfl) ⟨hS9.cell 0 rfl rfl, trivial⟩ ?_
      by_cases hc4 : e1.At > 60000
      · rw [if_pos hc4] at h
        refine ge_known (t := 24) (b := decide (e1.At > 60000)) (c := true) (by kernel_rfl) (decide_eq_true hc4) ?_
        refine ge_batch [9, 10, 11, 12, 13, 14, 15, 16, 17, 18, 19, 20, 21, 22, 23, 24, 25, 26, 27] (ans := []) (vs := [(43, .bool true), (42, undef), (41, undef), (40, undef), (39, .bool true), (38, .bool true), (37, undef), (36, undef), (35, undef), (34, .bool true), (33, .bool true), (32, undef), (31, undef), (30, undef), (29, .bool true), (28, .bool true), (27, undef), (26, undef), (25, undef)]) (l := []) (by kernel_rfl) trivial ?_
        refine ge_nil fun a hF => hK11 _ _ ?_ a hF
        refine we_true (by kernel_rfl) ?_
        refine we_seq fun K13 hK13 => ?_
        refine we_region [(0, 0), (1, 1), (2, 2)] rfl ?_
        refine ge_batch [0] (ans := []) (vs := [(44, .int .i64 (i1 : Int))]) (l := []) (by kernel_rfl) trivial ?_
        refine ge_call (d := some 45) (f := 74) (args := #[.int .i64 3, .int .i64 (i1 : Int)]) (by kernel_rfl) (punctualref_F_ok 3 (i1 : Int) _ _ rfl) ?_
        rintro _ w8 ⟨rfl, hS16⟩
        refine ⟨_, rfl, hS16.below, ?_⟩
        have hS17 := hS9.call hS16
        have hS18 := hS17.bring 1 rfl
        refine ge_set (b := b1) (j := 0) (cs := #[.int .i64 0, .int .i64 0]) (t := 39) (vs := [.int .i64 ((punctualref_F.f 3 (i1 : Int)).Code), .int .i64 ((punctualref_F.f 3 (i1 : Int)).At)]) hS18 (by kernel_rfl) rfl rfl fun w9 hS19 => ?_
        have hS20 : St w0 w9 [Own.blk b1 (.cells #[.int .i64 ((punctualref_F.f 3 (i1 : Int)).Code), .int .i64 ((punctualref_F.f 3 (i1 : Int)).At)] 39 (0, 0)), Own.blk b2 (.cells #[.int .i64 e1.Task, .int .i64 e1.At, .int .i64 e1.C, .int .i64 e1.Due, .int .i64 e1.P] 58 (0, 0))] := hS19
        refine ge_nil fun a hF => hK13 _ _ ?_ a hF
        have hS21 := hS20.takeN 0
        obtain rfl := Option.some.inj h
        exact we_ret fun a hF => hQ _ _ _ (Outs.out nofun (Exits.on ⟨rfl, (post_ret (rs := [.cell 2 39]) (ans := [.val (.int .i64 ((punctualref_F.f 3 (i1 : Int)).Code)), .val (.int .i64 ((punctualref_F.f 3 (i1 : Int)).At))]) (vs := [.agg #[.int .i64 ((punctualref_F.f 3 (i1 : Int)).Code), .int .i64 ((punctualref_F.f 3 (i1 : Int)).At)]]) (l := [.loaded ⟨b1, 0, none⟩ (.int .i64 ((punctualref_F.f 3 (i1 : Int)).Code)), .loaded ⟨b1, 1, none⟩ (.int .i64 ((punctualref_F.f 3 (i1 : Int)).At))]) rfl (by kernel_rfl) ⟨hS20.cell 0 rfl rfl, hS20.cell 0 rfl rfl, trivial⟩ ⟨rfl, hS21⟩) a hF⟩))
      · rw [if_neg hc4] at h
        refine ge_known (t := 24) (b := decide (e1.At > 60000)) (c := false) (by kernel_rfl) (decide_eq_false hc4) ?_
        refine ge_batch [9, 10, 11, 12, 13] (ans := [.val (.int .i64 e1.C)]) (vs := [(29, .bool (decide (e1.C < 1))), (28, .bool (decide (e1.C < 1))), (27, .bool (decide (e1.C < 1))), (26, .int .i64 e1.C), (25, .pointer (some ⟨b2, 2, none⟩))]) (l := [.loaded ⟨b2, 2, none⟩ (.int .i64 e1.C)]) (by kernel_rfl) ⟨hS9.cell 0 rfl rfl, trivial⟩ ?_
        by_cases hc5 : e1.C < 1
        · rw [if_pos hc5] at h
          refine ge_known (t := 29) (b := decide (e1.C < 1)) (c := true) (by kernel_rfl) (decide_eq_true hc5) ?_
          refine ge_batch [14, 15, 16, 17, 18, 19, 20, 21, 22, 23, 24, 25, 26, 27] (ans := []) (vs := [(43, .bool true), (42, undef), (41, undef), (40, undef), (39, .bool true), (38, .bool true), (37, undef), (36, undef), (35, undef), (34, .bool true), (33, .bool true), (32, undef), (31, undef), (30, undef)]) (l := []) (by kernel_rfl) trivial ?_
          refine ge_nil fun a hF => hK11 _ _ ?_ a hF
          refine we_true (by kernel_rfl) ?_
          refine we_seq fun K14 hK14 => ?_
          refine we_region [(0, 0), (1, 1), (2, 2)] rfl ?_
          refine ge_batch [0] (ans := []) (vs := [(44, .int .i64 (i1 : Int))]) (l := []) (by kernel_rfl) trivial ?_
          refine ge_call (d := some 45) (f := 74) (args := #[.int .i64 3, .int .i64 (i1 : Int)]) (by kernel_rfl) (punctualref_F_ok 3 (i1 : Int) _ _ rfl) ?_
          rintro _ w10 ⟨rfl, hS22⟩
          refine ⟨_, rfl, hS22.below, ?_⟩
          have hS23 := hS9.call hS22
          have hS24 := hS23.bring 1 rfl
          refine ge_set (b := b1) (j := 0) (cs := #[.int .i64 0, .int .i64 0]) (t := 39) (vs := [.int .i64 ((punctualref_F.f 3 (i1 : Int)).Code), .int .i64 ((punctualref_F.f 3 (i1 : Int)).At)]) hS24 (by kernel_rfl) rfl rfl fun w11 hS25 => ?_
          have hS26 : St w0 w11 [Own.blk b1 (.cells #[.int .i64 ((punctualref_F.f 3 (i1 : Int)).Code), .int .i64 ((punctualref_F.f 3 (i1 : Int)).At)] 39 (0, 0)), Own.blk b2 (.cells #[.int .i64 e1.Task, .int .i64 e1.At, .int .i64 e1.C, .int .i64 e1.Due, .int .i64 e1.P] 58 (0, 0))] := hS25
          refine ge_nil fun a hF => hK14 _ _ ?_ a hF
          have hS27 := hS26.takeN 0
          obtain rfl := Option.some.inj h
          exact we_ret fun a hF => hQ _ _ _ (Outs.out nofun (Exits.on ⟨rfl, (post_ret (rs := [.cell 2 39]) (ans := [.val (.int .i64 ((punctualref_F.f 3 (i1 : Int)).Code)), .val (.int .i64 ((punctualref_F.f 3 (i1 : Int)).At))]) (vs := [.agg #[.int .i64 ((punctualref_F.f 3 (i1 : Int)).Code), .int .i64 ((punctualref_F.f 3 (i1 : Int)).At)]]) (l := [.loaded ⟨b1, 0, none⟩ (.int .i64 ((punctualref_F.f 3 (i1 : Int)).Code)), .loaded ⟨b1, 1, none⟩ (.int .i64 ((punctualref_F.f 3 (i1 : Int)).At))]) rfl (by kernel_rfl) ⟨hS26.cell 0 rfl rfl, hS26.cell 0 rfl rfl, trivial⟩ ⟨rfl, hS27⟩) a hF⟩))
        · rw [if_neg hc5] at h
          refine ge_known (t := 29) (b := decide (e1.C < 1)) (c := false) (by kernel_rfl) (decide_eq_false hc5) ?_
          refine ge_batch [14, 15, 16, 17, 18] (ans := [.val (.int .i64 e1.C)]) (vs := [(34, .bool (decide (e1.C > 10000))), (33, .bool (decide (e1.C > 10000))), (32, .bool (decide (e1.C > 10000))), (31, .int .i64 e1.C), (30, .pointer (some ⟨b2, 2, none⟩))]) (l := [.loaded ⟨b2, 2, none⟩ (.int .i64 e1.C)]) (by kernel_rfl) ⟨hS9.cell 0 rfl rfl, trivial⟩ ?_
          by_cases hc6 : e1.C > 10000
          · rw [if_pos hc6] at h
            refine ge_known (t := 34) (b := decide (e1.C > 10000)) (c := true) (by kernel_rfl) (decide_eq_true hc6) ?_
            refine ge_batch [19, 20, 21, 22, 23, 24, 25, 26, 27] (ans := []) (vs := [(43, .bool true), (42, undef), (41, undef), (40, undef), (39, .bool true), (38, .bool true), (37, undef), (36, undef), (35, undef)]) (l := []) (by kernel_rfl) trivial ?_
            refine ge_nil fun a hF => hK11 _ _ ?_ a hF
            refine we_true (by kernel_rfl) ?_
            refine we_seq fun K15 hK15 => ?_
            refine we_region [(0, 0), (1, 1), (2, 2)] rfl ?_
            refine ge_batch [0] (ans := []) (vs := [(44, .int .i64 (i1 : Int))]) (l := []) (by kernel_rfl) trivial ?_
            refine ge_call (d := some 45) (f := 74) (args := #[.int .i64 3, .int .i64 (i1 : Int)]) (by kernel_rfl) (punctualref_F_ok 3 (i1 : Int) _ _ rfl) ?_
            rintro _ w12 ⟨rfl, hS28⟩
            refine ⟨_, rfl, hS28.below, ?_⟩
            have hS29 := hS9.call hS28
            have hS30 := hS29.bring 1 rfl
            refine ge_set (b := b1) (j := 0) (cs := #[.int .i64 0, .int .i64 0]) (t := 39) (vs := [.int .i64 ((punctualref_F.f 3 (i1 : Int)).Code), .int .i64 ((punctualref_F.f 3 (i1 : Int)).At)]) hS30 (by kernel_rfl) rfl rfl fun w13 hS31 => ?_
            have hS32 : St w0 w13 [Own.blk b1 (.cells #[.int .i64 ((punctualref_F.f 3 (i1 : Int)).Code), .int .i64 ((punctualref_F.f 3 (i1 : Int)).At)] 39 (0, 0)), Own.blk b2 (.cells #[.int .i64 e1.Task, .int .i64 e1.At, .int .i64 e1.C, .int .i64 e1.Due, .int .i64 e1.P] 58 (0, 0))] := hS31
            refine ge_nil fun a hF => hK15 _ _ ?_ a hF
            have hS33 := hS32.takeN 0
            obtain rfl := Option.some.inj h
            exact we_ret fun a hF => hQ _ _ _ (Outs.out nofun (Exits.on ⟨rfl, (post_ret (rs := [.cell 2 39]) (ans := [.val (.int .i64 ((punctualref_F.f 3 (i1 : Int)).Code)), .val (.int .i64 ((punctualref_F.f 3 (i1 : Int)).At))]) (vs := [.agg #[.int .i64 ((punctualref_F.f 3 (i1 : Int)).Code), .int .i64 ((punctualref_F.f 3 (i1 : Int)).At)]]) (l := [.loaded ⟨b1, 0, none⟩ (.int .i64 ((punctualref_F.f 3 (i1 : Int)).Code)), .loaded ⟨b1, 1, none⟩ (.int .i64 ((punctualref_F.f 3 (i1 : Int)).At))]) rfl (by kernel_rfl) ⟨hS32.cell 0 rfl rfl, hS32.cell 0 rfl rfl, trivial⟩ ⟨rfl, hS33⟩) a hF⟩))
          · rw [if_neg hc6] at h
            refine ge_known (t := 34) (b := decide (e1.C > 10000)) (c := false) (by kernel_rfl) (decide_eq_false hc6) ?_
            refine ge_batch [19, 20, 21, 22, 23] (ans := [.val (.int .i64 e1.Due)]) (vs := [(39, .bool (decide (e1.Due < 0))), (38, .bool (decide (e1.Due < 0))), (37, .bool (decide (e1.Due < 0))), (36, .int .i64 e1.Due), (35, .pointer (some ⟨b2, 3, none⟩))]) (l := [.loaded ⟨b2, 3, none⟩ (.int .i64 e1.Due)]) (by kernel_rfl) ⟨hS9.cell 0 rfl rfl, trivial⟩ ?_
            by_cases hc7 : e1.Due < 0
            · rw [if_pos hc7] at h
              refine ge_known (t := 39) (b := decide (e1.Due < 0)) (c := true) (by kernel_rfl) (decide_eq_true hc7) ?_
              refine ge_batch [24, 25, 26, 27] (ans := []) (vs := [(43, .bool true), (42, undef), (41, undef), (40, undef)]) (l := []) (by kernel_rfl) trivial ?_
              refine ge_nil fun a hF => hK11 _ _ ?_ a hF
              refine we_true (by kernel_rfl) ?_
              refine we_seq fun K16 hK16 => ?_
              refine we_region [(0, 0), (1, 1), (2, 2)] rfl ?_
              refine ge_batch [0] (ans := []) (vs := [(44, .int .i64 (i1 : Int))]) (l := []) (by kernel_rfl) trivial ?_
              refine ge_call (d := some 45) (f := 74) (args := #[.int .i64 3, .int .i64 (i1 : Int)]) (by kernel_rfl) (punctualref_F_ok 3 (i1 : Int) _ _ rfl) ?_
              rintro _ w14 ⟨rfl, hS34⟩
              refine ⟨_, rfl, hS34.below, ?_⟩
              have hS35 := hS9.call hS34
              have hS36 := hS35.bring 1 rfl
              refine ge_set (b := b1) (j := 0) (cs := #[.int .i64 0, .int .i64 0]) (t := 39) (vs := [.int .i64 ((punctualref_F.f 3 (i1 : Int)).Code), .int .i64 ((punctualref_F.f 3 (i1 : Int)).At)]) hS36 (by kernel_rfl) rfl rfl fun w15 hS37 => ?_
              have hS38 : St w0 w15 [Own.blk b1 (.cells #[.int .i64 ((punctualref_F.f 3 (i1 : Int)).Code), .int .i64 ((punctualref_F.f 3 (i1 : Int)).At)] 39 (0, 0)), Own.blk b2 (.cells #[.int .i64 e1.Task, .int .i64 e1.At, .int .i64 e1.C, .int .i64 e1.Due, .int .i64 e1.P] 58 (0, 0))] := hS37
              refine ge_nil fun a hF => hK16 _ _ ?_ a hF
              have hS39 := hS38.takeN 0
              obtain rfl := Option.some.inj h
              exact we_ret fun a hF => hQ _ _ _ (Outs.out nofun (Exits.on ⟨rfl, (post_ret (rs := [.cell 2 39]) (ans := [.val (.int .i64 ((punctualref_F.f 3 (i1 : Int)).Code)), .val (.int .i64 ((punctualref_F.f 3 (i1 : Int)).At))]) (vs := [.agg #[.int .i64 ((punctualref_F.f 3 (i1 : Int)).Code), .int .i64 ((punctualref_F.f 3 (i1 : Int)).At)]]) (l := [.loaded ⟨b1, 0, none⟩ (.int .i64 ((punctualref_F.f 3 (i1 : Int)).Code)), .loaded ⟨b1, 1, none⟩ (.int .i64 ((punctualref_F.f 3 (i1 : Int)).At))]) rfl (by kernel_rfl) ⟨hS38.cell 0 rfl rfl, hS38.cell 0 rfl rfl, trivial⟩ ⟨rfl, hS39⟩) a hF⟩))
            · rw [if_neg hc7] at h
              refine ge_known (t := 39) (b := decide (e1.Due < 0)) (c := false) (by kernel_rfl) (decide_eq_false hc7) ?_
              refine ge_batch [24, 25, 26, 27] (ans := [.val (.int .i64 e1.Due)]) (vs := [(43, .bool (decide (e1.Due > 80000))), (42, .bool (decide (e1.Due > 80000))), (41, .int .i64 e1.Due), (40, .pointer (some ⟨b2, 3, none⟩))]) (l := [.loaded ⟨b2, 3, none⟩ (.int .i64 e1.Due)]) (by kernel_rfl) ⟨hS9.cell 0 rfl rfl, trivial⟩ ?_
              refine ge_nil fun a hF => hK11 _ _ ?_ a hF
              by_cases hc8 : e1.Due > 80000
              · rw [if_pos hc8] at h
                refine we_known (t := 43) (b := decide (e1.Due > 80000)) (v := true) (by kernel_rfl) (decide_eq_true hc8) ?_
                refine we_true (by kernel_rfl) ?_
                refine we_seq fun K17 hK17 => ?_
                refine we_region [(0, 0), (1, 1), (2, 2)] rfl ?_
                refine ge_batch [0] (ans := []) (vs := [(44, .int .i64 (i1 : Int))]) (l := []) (by kernel_rfl) trivial ?_
                refine ge_call (d := some 45) (f := 74) (args := #[.int .i64 3, .int .i64 (i1 : Int)]) (by kernel_rfl) (punctualref_F_ok 3 (i1 : Int) _ _ rfl) ?_
                rintro _ w16 ⟨rfl, hS40⟩
                refine ⟨_, rfl, hS40.below, ?_⟩
                have hS41 := hS9.call hS40
                have hS42 := hS41.bring 1 rfl
                refine ge_set (b := b1) (j := 0) (cs := #[.int .i64 0, .int .i64 0]) (t := 39) (vs := [.int .i64 ((punctualref_F.f 3 (i1 : Int)).Code), .int .i64 ((punctualref_F.f 3 (i1 : Int)).At)]) hS42 (by kernel_rfl) rfl rfl fun w17 hS43 => ?_
                have hS44 : St w0 w17 [Own.blk b1 (.cells #[.int .i64 ((punctualref_F.f 3 (i1 : Int)).Code), .int .i64 ((punctualref_F.f 3 (i1 : Int)).At)] 39 (0, 0)), Own.blk b2 (.cells #[.int .i64 e1.Task, .int .i64 e1.At, .int .i64 e1.C, .int .i64 e1.Due, .int .i64 e1.P] 58 (0, 0))] := hS43
                refine ge_nil fun a hF => hK17 _ _ ?_ a hF
                have hS45 := hS44.takeN 0
                obtain rfl := Option.some.inj h
                exact we_ret fun a hF => hQ _ _ _ (Outs.out nofun (Exits.on ⟨rfl, (post_ret (rs := [.cell 2 39]) (ans := [.val (.int .i64 ((punctualref_F.f 3 (i1 : Int)).Code)), .val (.int .i64 ((punctualref_F.f 3 (i1 : Int)).At))]) (vs := [.agg #[.int .i64 ((punctualref_F.f 3 (i1 : Int)).Code), .int .i64 ((punctualref_F.f 3 (i1 : Int)).At)]]) (l := [.loaded ⟨b1, 0, none⟩ (.int .i64 ((punctualref_F.f 3 (i1 : Int)).Code)), .loaded ⟨b1, 1, none⟩ (.int .i64 ((punctualref_F.f 3 (i1 : Int)).At))]) rfl (by kernel_rfl) ⟨hS44.cell 0 rfl rfl, hS44.cell 0 rfl rfl, trivial⟩ ⟨rfl, hS45⟩) a hF⟩))
              · rw [if_neg hc8] at h
                refine we_known (t := 43) (b := decide (e1.Due > 80000)) (v := false) (by kernel_rfl) (decide_eq_false hc8) ?_
                refine we_false (by kernel_rfl) ?_
                refine we_skip fun a hF => hK9 _ _ ?_ a hF
                refine we_region [(0, 0), (1, 0)] rfl ?_
                refine ge_addn (d := 46) (ty := 3) (x := (.tmp 11)) (y := (.const (.int .i64 1))) (t := 3) (t2 := 3) (k := .i64) (m := i1) (by kernel_rfl) (by kernel_rfl) (by kernel_rfl) (by have h0 := hR0.small; omega) ?_
                refine ge_batch [1] (ans := []) (vs := [(11, .int .i64 ((i1 + 1 : Nat) : Int))]) (l := []) (by kernel_rfl) trivial ?_
                have hS46 := hS9.bring 1 rfl
                have hS47 := hS46.takeN 1
                obtain rfl := Option.some.inj h
                exact ge_nil fun a hF => hQ _ _ _ (Outs.again ⟨hS47, hF.weaken ⟨by kernel_rfl, by kernel_rfl, by kernel_rfl, by kernel_rfl, trivial⟩⟩)
  · rw [if_neg hc2] at h
    refine we_known (t := 12) (b := decide ((i1 : Int) < (l0.length : Int))) (v := false) (by kernel_rfl) (decide_eq_false hc2) ?_
    refine we_false (by kernel_rfl) ?_
    obtain rfl := Option.some.inj h
    exact we_exit fun a hF => hQ _ _ _ (Outs.out nofun (Exits.here ⟨hS, hF.weaken ⟨by kernel_rfl, trivial⟩⟩))
theorem punctualref_CheckJobs_ok (K : Nat) (l0 : List SJob) (A0 : Option Addr) (c0 : Nat) (w0 : World) (hR0 : RdL w0 A0 l0) (hL0 : l0.length ≤ c0) (r : SFault) (h : punctualref_CheckJobs.f K l0 = some r) :
    Calls Tryd.prog 87 #[.slice A0 l0.length c0] w0 (punctualref_CheckJobs.Post w0 r) := by
  have hS := St.start w0
  unfold punctualref_CheckJobs.f at h
  refine calls_enter (n := 48) (args := [.slice A0 l0.length c0]) (fn := Tryd.f87) rfl rfl rfl rfl ?_
  show WE _ _ _ _ [(0, .slice A0 l0.length c0)] _
  refine we_seq fun K1 hK1 => ?_
  refine we_region [(0, 1)] rfl ?_
  refine ge_new (d := some 2) (o := .cells #[.int .i64 0, .int .i64 0] 39) (v := fun b => .pointer (some ⟨b, 0, none⟩)) hS (fun b => by kernel_rfl) fun b1 w1 hx1 hS1 => ?_
  refine ge_nil fun a hF => hK1 _ _ ?_ a hF
  refine we_seq fun K2 hK2 => ?_
  refine we_seq fun K3 hK3 => ?_
  refine we_region [(0, 0), (1, 0), (2, 0)] rfl ?_
  refine ge_batch [0, 1, 2] (ans := []) (vs := [(7, .bool (decide ((l0.length : Int) > 4000))), (6, .int .i64 (l0.length : Int)), (5, .slice A0 l0.length c0)]) (l := []) (by kernel_rfl) trivial ?_
  refine ge_nil fun a hF => hK3 _ _ ?_ a hF
  by_cases hc1 : (l0.length : Int) > 4000
  · rw [if_pos hc1] at h
    refine we_known (t := 7) (b := decide ((l0.length : Int) > 4000)) (v := true) (by kernel_rfl) (decide_eq_true hc1) ?_
    refine we_true (by kernel_rfl) ?_
    refine we_seq fun K4 hK4 => ?_
    refine we_region [(0, 1), (1, 2)] rfl ?_
    refine ge_call (d := some 8) (f := 74) (args := #[.int .i64 2, .int .i64 0]) (by kernel_rfl) (punctualref_F_ok 2 0 _ _ rfl) ?_
    rintro _ w2 ⟨rfl, hS2⟩
    refine ⟨_, rfl, hS2.below, ?_⟩
    have hS3 := hS1.call hS2
    refine ge_set (b := b1) (j := 0) (cs := #[.int .i64 0, .int .i64 0]) (t := 39) (vs := [.int .i64 ((punctualref_F.f 2 0).Code), .int .i64 ((punctualref_F.f 2 0).At)]) hS3 (by kernel_rfl) rfl rfl fun w3 hS4 => ?_
    have hS5 : St w0 w3 [Own.blk b1 (.cells #[.int .i64 ((punctualref_F.f 2 0).Code), .int .i64 ((punctualref_F.f 2 0).At)] 39 (0, 0))] := hS4
    refine ge_nil fun a hF => hK4 _ _ ?_ a hF
    have hS6 := hS5.takeN 0
    obtain rfl := Option.some.inj h
    exact we_ret (post_ret (rs := [.cell 2 39]) (ans := [.val (.int .i64 ((punctualref_F.f 2 0).Code)), .val (.int .i64 ((punctualref_F.f 2 0).At))]) (vs := [.agg #[.int .i64 ((punctualref_F.f 2 0).Code), .int .i64 ((punctualref_F.f 2 0).At)]]) (l := [.loaded ⟨b1, 0, none⟩ (.int .i64 ((punctualref_F.f 2 0).Code)), .loaded ⟨b1, 1, none⟩ (.int .i64 ((punctualref_F.f 2 0).At))]) rfl (by kernel_rfl) ⟨hS5.cell 0 rfl rfl, hS5.cell 0 rfl rfl, trivial⟩ ⟨rfl, hS6⟩)
  · rw [if_neg hc1] at h
    refine we_known (t := 7) (b := decide ((l0.length : Int) > 4000)) (v := false) (by kernel_rfl) (decide_eq_false hc1) ?_
    refine we_false (by kernel_rfl) ?_
    refine we_skip fun a hF => hK2 _ _ ?_ a hF
    refine we_seq fun K5 hK5 => ?_
    refine we_seq fun K6 hK6 => ?_
    refine we_region [(0, 0), (1, 0), (2, 0)] rfl ?_
    refine ge_batch [0, 1, 2] (ans := []) (vs := [(11, .int .i64 0), (10, .int .i64 (l0.length : Int)), (9, .slice A0 l0.length c0)]) (l := []) (by kernel_rfl) trivial ?_
    refine ge_nil fun a hF => hK6 _ _ ?_ a hF
    refine we_block ?_
    rcases hq8 : iter (punctualref_CheckJobs.r0 l0) K 0 with _ | (_ | rr1)
    · rw [hq8] at h; cases h
    · rw [hq8] at h
      simp only [] at h
      refine we_iter (A := punctualref_CheckJobs.A0 K w0 l0 A0 c0 hR0 hL0 b1 hc1) (B := punctualref_CheckJobs.B0 K w0 l0 A0 c0 hR0 hL0 b1 hc1) hq8 (fun a hF => ⟨hS1, hF.weaken ⟨by kernel_rfl, by kernel_rfl, by kernel_rfl, by kernel_rfl, trivial⟩⟩) (fun s o hf a w hA Q hQ => punctualref_CheckJobs_r0 K w0 l0 A0 c0 hR0 hL0 b1 hc1 s o hf a w hA Q hQ) ?_
      rintro _ a w18 _ ⟨rfl, hS48, hF⟩
      replace hS48 : St w0 w18 [Own.blk b1 (.cells #[.int .i64 0, .int .i64 0] 39 (0, 0))] := hS48
      refine hK5 [(2, .pointer (some ⟨b1, 0, none⟩))] w18 ?_ a hF
      refine we_seq fun K18 hK18 => ?_
      refine we_region [(0, 0), (1, 2)] rfl ?_
      refine ge_batch [0] (ans := []) (vs := [(47, .agg #[.int .i64 0, .int .i64 0])]) (l := []) (by kernel_rfl) trivial ?_
      refine ge_set (b := b1) (j := 0) (cs := #[.int .i64 0, .int .i64 0]) (t := 39) (vs := [.int .i64 0, .int .i64 0]) hS48 (by kernel_rfl) rfl rfl fun w19 hS49 => ?_
      have hS50 : St w0 w19 [Own.blk b1 (.cells #[.int .i64 0, .int .i64 0] 39 (0, 0))] := hS49
      refine ge_nil fun a hF => hK18 _ _ ?_ a hF
      have hS51 := hS50.takeN 0
      obtain rfl := Option.some.inj h
      exact we_ret (post_ret (rs := [.cell 2 39]) (ans := [.val (.int .i64 0), .val (.int .i64 0)]) (vs := [.agg #[.int .i64 0, .int .i64 0]]) (l := [.loaded ⟨b1, 0, none⟩ (.int .i64 0), .loaded ⟨b1, 1, none⟩ (.int .i64 0)]) rfl (by kernel_rfl) ⟨hS50.cell 0 rfl rfl, hS50.cell 0 rfl rfl, trivial⟩ ⟨rfl, hS51⟩)
    · rw [hq8] at h
      simp only [] at h
      refine we_iter (A := punctualref_CheckJobs.A0 K w0 l0 A0 c0 hR0 hL0 b1 hc1) (B := punctualref_CheckJobs.B0 K w0 l0 A0 c0 hR0 hL0 b1 hc1) hq8 (fun a hF => ⟨hS1, hF.weaken ⟨by kernel_rfl, by kernel_rfl, by kernel_rfl, by kernel_rfl, trivial⟩⟩) (fun s o hf a w hA Q hQ => punctualref_CheckJobs_r0 K w0 l0 A0 c0 hR0 hL0 b1 hc1 s o hf a w hA Q hQ) ?_
      rintro _ a w1 _ ⟨rfl, hb⟩
      obtain rfl := Option.some.inj h
      exact hb

/-! punctual/punctualref.Always -/
abbrev punctualref_Always.Post (w0 : World) (r : Bool) (e : Ending) (w : World) : Prop := e = .returned (.bool r) ∧ St w0 w []
def punctualref_Always.f (x0 : Int) : Bool :=
  true
theorem punctualref_Always_ok (x0 : Int) (w0 : World) (r : Bool) (h : punctualref_Always.f x0 = r) :
    Calls Tryd.prog 135 #[.int .i64 x0] w0 (punctualref_Always.Post w0 r) := by
  have hS := St.start w0
  unfold punctualref_Always.f at h
  refine calls_enter (n := 3) (args := [.int .i64 x0]) (fn := Tryd.f135) rfl rfl rfl rfl ?_
  show WE _ _ _ _ [(0, .int .i64 x0)] _
  refine we_seq fun K1 hK1 => ?_
  refine we_region [(0, 0)] rfl ?_
  refine ge_batch [0] (ans := []) (vs := [(2, .bool false)]) (l := []) (by kernel_rfl) trivial ?_
  refine ge_nil fun a hF => hK1 _ _ ?_ a hF
  refine we_seq fun K2 hK2 => ?_
  refine we_region [(0, 0)] rfl ?_
  refine ge_batch [0] (ans := []) (vs := [(2, .bool true)]) (l := []) (by kernel_rfl) trivial ?_
  refine ge_nil fun a hF => hK2 _ _ ?_ a hF
  subst h
  exact we_ret (post_ret (rs := [.tmp 2]) (ans := []) (vs := [.bool true]) (l := []) rfl (by kernel_rfl) trivial ⟨rfl, hS⟩)

/-! punctual/punctualref.Goes -/
abbrev punctualref_Goes.Post (w0 : World) (r : Bool) (e : Ending) (w : World) : Prop := e = .returned (.bool r) ∧ St w0 w []
def punctualref_Goes.p0 (l0 : List SJob) (x1 : Int) (x2 : Int) : Option ((Int × Int × Int × Int × Int × Int × Int × Int × Int × Int) ⊕ Bool) :=
    if 0 ≤ x1 then
      match l0[(x1).toNat]? with
      | none => none
      | some e1 =>
        if 0 ≤ x2 then
          match l0[(x2).toNat]? with
          | none => none
          | some e2 =>
            some (.inl (e1.Task, e1.At, e1.C, e1.Due, e1.P, e2.Task, e2.At, e2.C, e2.Due, e2.P))
        else
          none
    else
      none
def punctualref_Goes.f (l0 : List SJob) (x1 : Int) (x2 : Int) (x3 : Int) : Option Bool :=
  match punctualref_Goes.p0 l0 x1 x2 with
  | none => none
  | some (.inl (z11, z12, z13, z14, z15, z16, z17, z18, z19, z20)) =>
    if x3 = 1 then
      if z15 = z20 then
        if x3 = 2 then
          if z14 = z19 then
            if z12 = z17 then
              some (decide (x1 < x2))
            else
              some (decide (z12 < z17))
          else
            some (decide (z14 < z19))
        else
          if z12 = z17 then
            some (decide (x1 < x2))
          else
            some (decide (z12 < z17))
      else
        some (decide (z15 > z20))
    else
      if x3 = 2 then
        if z14 = z19 then
          if z12 = z17 then
            some (decide (x1 < x2))
          else
            some (decide (z12 < z17))
        else
          some (decide (z14 < z19))
      else
        if z12 = z17 then
          some (decide (x1 < x2))
        else
          some (decide (z12 < z17))
  | some (.inr rr1) =>
    some rr1
abbrev punctualref_Goes.A0 (K : Nat) (w0 : World) (l0 : List SJob) (A0 : Option Addr) (c0 : Nat) (x1 : Int) (x2 : Int) (x3 : Int) (hR0 : RdL w0 A0 l0) (hL0 : l0.length ≤ c0) : (Int × Int × Int × Int × Int × Int × Int × Int × Int × Int) → Act → World → Prop := fun (s : Int × Int × Int × Int × Int × Int × Int × Int × Int × Int) a w => ∃ (b1 : Nat) (b2 : Nat), St w0 w [Own.blk b1 (.cells #[.int .i64 s.1, .int .i64 s.2.1, .int .i64 s.2.2.1, .int .i64 s.2.2.2.1, .int .i64 s.2.2.2.2.1] 58 (0, 0)), Own.blk b2 (.cells #[.int .i64 s.2.2.2.2.2.1, .int .i64 s.2.2.2.2.2.2.1, .int .i64 s.2.2.2.2.2.2.2.1, .int .i64 s.2.2.2.2.2.2.2.2.1, .int .i64 s.2.2.2.2.2.2.2.2.2] 58 (0, 0))] ∧ Frm 60 a [(1, .int .i64 x1), (2, .int .i64 x2), (3, .int .i64 x3), (9, .pointer (some ⟨b1, 0, none⟩)), (10, .pointer (some ⟨b2, 0, none⟩))]
abbrev punctualref_Goes.B0 (K : Nat) (w0 : World) (l0 : List SJob) (A0 : Option Addr) (c0 : Nat) (x1 : Int) (x2 : Int) (x3 : Int) (hR0 : RdL w0 A0 l0) (hL0 : l0.length ≤ c0) : Bool → Exit → Act → World → Prop := Rets Tryd.prog Tryd.f127 (punctualref_Goes.Post w0)
theorem punctualref_Goes_p0 (K : Nat) (w0 : World) (l0 : List SJob) (A0 : Option Addr) (c0 : Nat) (x1 : Int) (x2 : Int) (x3 : Int) (hR0 : RdL w0 A0 l0) (hL0 : l0.length ≤ c0) (o : (Int × Int × Int × Int × Int × Int × Int × Int × Int × Int) ⊕ Bool) (h : punctualref_Goes.p0 l0 x1 x2 = some o) (w : World) (hS : St w0 w []) (Q : Exit → Act → World → Prop) (hQ : ∀ x a w, Outs (punctualref_Goes.A0 K w0 l0 A0 c0 x1 x2 x3 hR0 hL0) (punctualref_Goes.B0 K w0 l0 A0 c0 x1 x2 x3 hR0 hL0) o x a w → Q x a w) : WE Tryd.prog 60 (subF Tryd.f127 [1, 0]) Q [(0, .slice A0 l0.length c0), (1, .int .i64 x1), (2, .int .i64 x2), (3, .int .i64 x3), (8, .bool false)] w := by
  simp only [punctualref_Goes.p0] at h
  refine we_orders2 (by kernel_rfl) [(3, [⟨blkOf A0, offOf A0 + ((x1).toNat) * 5, none⟩, ⟨blkOf A0, offOf A0 + ((x1).toNat) * 5 + 1, none⟩, ⟨blkOf A0, offOf A0 + ((x1).toNat) * 5 + 2, none⟩, ⟨blkOf A0, offOf A0 + ((x1).toNat) * 5 + 3, none⟩, ⟨blkOf A0, offOf A0 + ((x1).toNat) * 5 + 4, none⟩]), (7, [⟨blkOf A0, offOf A0 + ((x2).toNat) * 5, none⟩, ⟨blkOf A0, offOf A0 + ((x2).toNat) * 5 + 1, none⟩, ⟨blkOf A0, offOf A0 + ((x2).toNat) * 5 + 2, none⟩, ⟨blkOf A0, offOf A0 + ((x2).toNat) * 5 + 3, none⟩, ⟨blkOf A0, offOf A0 + ((x2).toNat) * 5 + 4, none⟩])] (.vals [0] (.vals [1] (.vals [2] (.vals [3] (.vals [4] (.vals [5] (.vals [6] (.vals [7] (.alt 8 1 (.alt 9 1 (.alt 10 2 (.alt 11 2 .fin .nomore) .nomore) .nomore) (.alt 9 1 (.alt 8 1 (.alt 10 2 (.alt 11 2 .fin .nomore) .nomore) .nomore) .nomore)))))))))) (by kernel_rfl) ?_
  have hS1 := hS.drew
  refine go2_batch [0, 1] (ans := []) (vs := [(12, .int .i64 x1), (11, .slice A0 l0.length c0)]) (l := []) (by kernel_rfl) trivial mem_nil ?_
  by_cases hc1 : 0 ≤ x1
  · rw [if_pos hc1] at h
    rcases hx1 : l0[(x1).toNat]? with _ | e1
    · rw [hx1] at h; cases h
    rw [hx1] at h
    simp only [] at h
    refine go2_index (d := 13) (ty := 0) (t := 49) (el := 58) (sz := 5) (m := l0.length) (c := c0) (x := (.tmp 11)) (y := (.tmp 12)) (A := A0) (k' := .i64) (j := x1) (jn := ((x1).toNat)) (b0 := blkOf A0) (o0 := offOf A0) (by kernel_rfl) (by kernel_rfl) (by kernel_rfl) (by kernel_rfl) (by kernel_rfl) ((hS1.rd hR0).eqSome (pos_of_get hx1)) (Int.toNat_of_nonneg hc1).symm (lt_of_get hx1) ?_
    refine go2_batch [3] (ans := [.val (.int .i64 e1.Task), .val (.int .i64 e1.At), .val (.int .i64 e1.C), .val (.int .i64 e1.Due), .val (.int .i64 e1.P)]) (vs := [(14, .agg #[.int .i64 e1.Task, .int .i64 e1.At, .int .i64 e1.C, .int .i64 e1.Due, .int .i64 e1.P])]) (l := [.loaded ⟨blkOf A0, offOf A0 + ((x1).toNat) * 5, none⟩ (.int .i64 e1.Task), .loaded ⟨blkOf A0, offOf A0 + ((x1).toNat) * 5 + 1, none⟩ (.int .i64 e1.At), .loaded ⟨blkOf A0, offOf A0 + ((x1).toNat) * 5 + 2, none⟩ (.int .i64 e1.C), .loaded ⟨blkOf A0, offOf A0 + ((x1).toNat) * 5 + 3, none⟩ (.int .i64 e1.Due), .loaded ⟨blkOf A0, offOf A0 + ((x1).toNat) * 5 + 4, none⟩ (.int .i64 e1.P)]) (by kernel_rfl) ⟨RdL.cell (j := 0) (hS1.rd hR0) hx1 rfl, RdL.cell (j := 1) (hS1.rd hR0) hx1 rfl, RdL.cell (j := 2) (hS1.rd hR0) hx1 rfl, RdL.cell (j := 3) (hS1.rd hR0) hx1 rfl, RdL.cell (j := 4) (hS1.rd hR0) hx1 rfl, trivial⟩ (mem_one (by kernel_rfl)) ?_
    refine go2_batch [4, 5] (ans := []) (vs := [(16, .int .i64 x2), (15, .slice A0 l0.length c0)]) (l := []) (by kernel_rfl) trivial mem_nil ?_
    by_cases hc2 : 0 ≤ x2
    · rw [if_pos hc2] at h
      rcases hx2 : l0[(x2).toNat]? with _ | e2
      · rw [hx2] at h; cases h
      rw [hx2] at h
      simp only [] at h
      refine go2_index (d := 17) (ty := 0) (t := 49) (el := 58) (sz := 5) (m := l0.length) (c := c0) (x := (.tmp 15)) (y := (.tmp 16)) (A := A0) (k' := .i64) (j := x2) (jn := ((x2).toNat)) (b0 := blkOf A0) (o0 := offOf A0) (by kernel_rfl) (by kernel_rfl) (by kernel_rfl) (by kernel_rfl) (by kernel_rfl) ((hS1.rd hR0).eqSome (pos_of_get hx2)) (Int.toNat_of_nonneg hc2).symm (lt_of_get hx2) ?_
      refine go2_batch [7] (ans := [.val (.int .i64 e2.Task), .val (.int .i64 e2.At), .val (.int .i64 e2.C), .val (.int .i64 e2.Due), .val (.int .i64 e2.P)]) (vs := [(18, .agg #[.int .i64 e2.Task, .int .i64 e2.At, .int .i64 e2.C, .int .i64 e2.Due, .int .i64 e2.P])]) (l := [.loaded ⟨blkOf A0, offOf A0 + ((x2).toNat) * 5, none⟩ (.int .i64 e2.Task), .loaded ⟨blkOf A0, offOf A0 + ((x2).toNat) * 5 + 1, none⟩ (.int .i64 e2.At), .loaded ⟨blkOf A0, offOf A0 + ((x2).toNat) * 5 + 2, none⟩ (.int .i64 e2.C), .loaded ⟨blkOf A0, offOf A0 + ((x2).toNat) * 5 + 3, none⟩ (.int .i64 e2.Due), .loaded ⟨blkOf A0, offOf A0 + ((x2).toNat) * 5 + 4, none⟩ (.int .i64 e2.P)]) (by kernel_rfl) ⟨RdL.cell (j := 0) (hS1.rd hR0) hx2 rfl, RdL.cell (j := 1) (hS1.rd hR0) hx2 rfl, RdL.cell (j := 2) (hS1.rd hR0) hx2 rfl, RdL.cell (j := 3) (hS1.rd hR0) hx2 rfl, RdL.cell (j := 4) (hS1.rd hR0) hx2 rfl, trivial⟩ (mem_one (by kernel_rfl)) ?_
      refine go_alt2 (fun KK hKK => ?_) ?_
      · refine ge_one2 ?_
        refine ge_new (d := some 9) (o := .cells #[.int .i64 0, .int .i64 0, .int .i64 0, .int .i64 0, .int .i64 0] 58) (v := fun b => .pointer (some ⟨b, 0, none⟩)) hS1 (fun b => by kernel_rfl) fun b3 w1 hx3 hS2 => ?_
        refine ge_nil fun a hF => hKK _ _ (RS.of2 (l := [.loaded ⟨blkOf A0, offOf A0 + ((x1).toNat) * 5, none⟩ (.int .i64 e1.Task), .loaded ⟨blkOf A0, offOf A0 + ((x1).toNat) * 5 + 1, none⟩ (.int .i64 e1.At), .loaded ⟨blkOf A0, offOf A0 + ((x1).toNat) * 5 + 2, none⟩ (.int .i64 e1.C), .loaded ⟨blkOf A0, offOf A0 + ((x1).toNat) * 5 + 3, none⟩ (.int .i64 e1.Due), .loaded ⟨blkOf A0, offOf A0 + ((x1).toNat) * 5 + 4, none⟩ (.int .i64 e1.P), .loaded ⟨blkOf A0, offOf A0 + ((x2).toNat) * 5, none⟩ (.int .i64 e2.Task), .loaded ⟨blkOf A0, offOf A0 + ((x2).toNat) * 5 + 1, none⟩ (.int .i64 e2.At), .loaded ⟨blkOf A0, offOf A0 + ((x2).toNat) * 5 + 2, none⟩ (.int .i64 e2.C), .loaded ⟨blkOf A0, offOf A0 + ((x2).toNat) * 5 + 3, none⟩ (.int .i64 e2.Due), .loaded ⟨blkOf A0, offOf A0 + ((x2).toNat) * 5 + 4, none⟩ (.int .i64 e2.P)]) (by kernel_rfl) ⟨RdL.cell (j := 0) (hS1.rd hR0) hx1 rfl, RdL.cell (j := 1) (hS1.rd hR0) hx1 rfl, RdL.cell (j := 2) (hS1.rd hR0) hx1 rfl, RdL.cell (j := 3) (hS1.rd hR0) hx1 rfl, RdL.cell (j := 4) (hS1.rd hR0) hx1 rfl, RdL.cell (j := 0) (hS1.rd hR0) hx2 rfl, RdL.cell (j := 1) (hS1.rd hR0) hx2 rfl, RdL.cell (j := 2) (hS1.rd hR0) hx2 rfl, RdL.cell (j := 3) (hS1.rd hR0) hx2 rfl, RdL.cell (j := 4) (hS1.rd hR0) hx2 rfl, trivial⟩ ⟨RdL.cell (j := 0) (hS2.rd hR0) hx1 rfl, RdL.cell (j := 1) (hS2.rd hR0) hx1 rfl, RdL.cell (j := 2) (hS2.rd hR0) hx1 rfl, RdL.cell (j := 3) (hS2.rd hR0) hx1 rfl, RdL.cell (j := 4) (hS2.rd hR0) hx1 rfl, RdL.cell (j := 0) (hS2.rd hR0) hx2 rfl, RdL.cell (j := 1) (hS2.rd hR0) hx2 rfl, RdL.cell (j := 2) (hS2.rd hR0) hx2 rfl, RdL.cell (j := 3) (hS2.rd hR0) hx2 rfl, RdL.cell (j := 4) (hS2.rd hR0) hx2 rfl, trivial⟩) ?_ a hF
        refine go_alt2 (fun KK hKK => ?_) ?_
        · refine ge_one2 ?_
          refine ge_new (d := some 10) (o := .cells #[.int .i64 0, .int .i64 0, .int .i64 0, .int .i64 0, .int .i64 0] 58) (v := fun b => .pointer (some ⟨b, 0, none⟩)) hS2 (fun b => by kernel_rfl) fun b4 w2 hx4 hS3 => ?_
          refine ge_nil fun a hF => hKK _ _ (RS.of2 (l := [.loaded ⟨blkOf A0, offOf A0 + ((x1).toNat) * 5, none⟩ (.int .i64 e1.Task), .loaded ⟨blkOf A0, offOf A0 + ((x1).toNat) * 5 + 1, none⟩ (.int .i64 e1.At), .loaded ⟨blkOf A0, offOf A0 + ((x1).toNat) * 5 + 2, none⟩ (.int .i64 e1.C), .loaded ⟨blkOf A0, offOf A0 + ((x1).toNat) * 5 + 3, none⟩ (.int .i64 e1.Due), .loaded ⟨blkOf A0, offOf A0 + ((x1).toNat) * 5 + 4, none⟩ (.int .i64 e1.P), .loaded ⟨blkOf A0, offOf A0 + ((x2).toNat) * 5, none⟩ (.int .i64 e2.Task), .loaded ⟨blkOf A0, offOf A0 + ((x2).toNat) * 5 + 1, none⟩ (.int .i64 e2.At), .loaded ⟨blkOf A0, offOf A0 + ((x2).toNat) * 5 + 2, none⟩ (.int .i64 e2.C), .loaded ⟨blkOf A0, offOf A0 + ((x2).toNat) * 5 + 3, none⟩ (.int .i64 e2.Due), .loaded ⟨blkOf A0, offOf A0 + ((x2).toNat) * 5 + 4, none⟩ (.int .i64 e2.P)]) (by kernel_rfl) ⟨RdL.cell (j := 0) (hS2.rd hR0) hx1 rfl, RdL.cell (j := 1) (hS2.rd hR0) hx1 rfl, RdL.cell (j := 2) (hS2.rd hR0) hx1 rfl, RdL.cell (j := 3) (hS2.rd hR0) hx1 rfl, RdL.cell (j := 4) (hS2.rd hR0) hx1 rfl, RdL.cell (j := 0) (hS2.rd hR0) hx2 rfl, RdL.cell (j := 1) (hS2.rd hR0) hx2 rfl, RdL.cell (j := 2) (hS2.rd hR0) hx2 rfl, RdL.cell (j := 3) (hS2.rd hR0) hx2 rfl, RdL.cell (j := 4) (hS2.rd hR0) hx2 rfl, trivial⟩ ⟨RdL.cell (j := 0) (hS3.rd hR0) hx1 rfl, RdL.cell (j := 1) (hS3.rd hR0) hx1 rfl, RdL.cell (j := 2) (hS3.rd hR0) hx1 rfl, RdL.cell (j := 3) (hS3.rd hR0) hx1 rfl, RdL.cell (j := 4) (hS3.rd hR0) hx1 rfl, RdL.cell (j := 0) (hS3.rd hR0) hx2 rfl, RdL.cell (j := 1) (hS3.rd hR0) hx2 rfl, RdL.cell (j := 2) (hS3.rd hR0) hx2 rfl, RdL.cell (j := 3) (hS3.rd hR0) hx2 rfl, RdL.cell (j := 4) (hS3.rd hR0) hx2 rfl, trivial⟩) ?_ a hF
          refine go_alt2 (fun KK hKK => ?_) ?_
          · have hS4 := hS3.bring 1 rfl
            refine ge_set (b := b3) (j := 0) (cs := #[.int .i64 0, .int .i64 0, .int .i64 0, .int .i64 0, .int .i64 0]) (t := 58) (vs := [.int .i64 e1.Task, .int .i64 e1.At, .int .i64 e1.C, .int .i64 e1.Due, .int .i64 e1.P]) hS4 (by kernel_rfl) rfl rfl fun w3 hS5 => ?_
            have hS6 : St w0 w3 [Own.blk b3 (.cells #[.int .i64 e1.Task, .int .i64 e1.At, .int .i64 e1.C, .int .i64 e1.Due, .int .i64 e1.P] 58 (0, 0)), Own.blk b4 (.cells #[.int .i64 0, .int .i64 0, .int .i64 0, .int .i64 0, .int .i64 0] 58 (0, 0))] := hS5
            refine ge_nil fun a hF => hKK _ _ (RS.of2 (l := [.loaded ⟨blkOf A0, offOf A0 + ((x2).toNat) * 5, none⟩ (.int .i64 e2.Task), .loaded ⟨blkOf A0, offOf A0 + ((x2).toNat) * 5 + 1, none⟩ (.int .i64 e2.At), .loaded ⟨blkOf A0, offOf A0 + ((x2).toNat) * 5 + 2, none⟩ (.int .i64 e2.C), .loaded ⟨blkOf A0, offOf A0 + ((x2).toNat) * 5 + 3, none⟩ (.int .i64 e2.Due), .loaded ⟨blkOf A0, offOf A0 + ((x2).toNat) * 5 + 4, none⟩ (.int .i64 e2.P)]) (by kernel_rfl) ⟨RdL.cell (j := 0) (hS3.rd hR0) hx2 rfl, RdL.cell (j := 1) (hS3.rd hR0) hx2 rfl, RdL.cell (j := 2) (hS3.rd hR0) hx2 rfl, RdL.cell (j := 3) (hS3.rd hR0) hx2 rfl, RdL.cell (j := 4) (hS3.rd hR0) hx2 rfl, trivial⟩ ⟨RdL.cell (j := 0) (hS6.rd hR0) hx2 rfl, RdL.cell (j := 1) (hS6.rd hR0) hx2 rfl, RdL.cell (j := 2) (hS6.rd hR0) hx2 rfl, RdL.cell (j := 3) (hS6.rd hR0) hx2 rfl, RdL.cell (j := 4) (hS6.rd hR0) hx2 rfl, trivial⟩) ?_ a hF
            refine go_alt2 (fun KK hKK => ?_) ?_
            · have hS7 := hS6.bring 1 rfl
              refine ge_set (b := b4) (j := 0) (cs := #[.int .i64 0, .int .i64 0, .int .i64 0, .int .i64 0, .int .i64 0]) (t := 58) (vs := [.int .i64 e2.Task, .int .i64 e2.At, .int .i64 e2.C, .int .i64 e2.Due, .int .i64 e2.P]) hS7 (by kernel_rfl) rfl rfl fun w4 hS8 => ?_
              have hS9 : St w0 w4 [Own.blk b4 (.cells #[.int .i64 e2.Task, .int .i64 e2.At, .int .i64 e2.C, .int .i64 e2.Due, .int .i64 e2.P] 58 (0, 0)), Own.blk b3 (.cells #[.int .i64 e1.Task, .int .i64 e1.At, .int .i64 e1.C, .int .i64 e1.Due, .int .i64 e1.P] 58 (0, 0))] := hS8
              refine ge_nil fun a hF => hKK _ _ (RS.of2 (l := []) (by kernel_rfl) trivial trivial) ?_ a hF
              have hS10 := hS9.bring 1 rfl
              obtain rfl := Option.some.inj h
              exact go_fin2 fun a hF => hQ _ _ _ (Outs.again ⟨b3, b4, hS10, hF.weaken ⟨by kernel_rfl, by kernel_rfl, by kernel_rfl, by kernel_rfl, by kernel_rfl, trivial⟩⟩)
            exact go_nomore2
          exact go_nomore2
        exact go_nomore2
      refine go_alt2 (fun KK hKK => ?_) ?_
      · refine ge_one2 ?_
        refine ge_new (d := some 10) (o := .cells #[.int .i64 0, .int .i64 0, .int .i64 0, .int .i64 0, .int .i64 0] 58) (v := fun b => .pointer (some ⟨b, 0, none⟩)) hS1 (fun b => by kernel_rfl) fun b3 w1 hx3 hS2 => ?_
        refine ge_nil fun a hF => hKK _ _ (RS.of2 (l := [.loaded ⟨blkOf A0, offOf A0 + ((x1).toNat) * 5, none⟩ (.int .i64 e1.Task), .loaded ⟨blkOf A0, offOf A0 + ((x1).toNat) * 5 + 1, none⟩ (.int .i64 e1.At), .loaded ⟨blkOf A0, offOf A0 + ((x1).toNat) * 5 + 2, none⟩ (.int .i64 e1.C), .loaded ⟨blkOf A0, offOf A0 + ((x1).toNat) * 5 + 3, none⟩ (.int .i64 e1.Due), .loaded ⟨blkOf A0, offOf A0 + ((x1).toNat) * 5 + 4, none⟩ (.int .i64 e1.P), .loaded ⟨blkOf A0, offOf A0 + ((x2).toNat) * 5, none⟩ (.int .i64 e2.Task), .loaded ⟨blkOf A0, offOf A0 + ((x2).toNat) * 5 + 1, none⟩ (.int .i64 e2.At), .loaded ⟨blkOf A0, offOf A0 + ((x2).toNat) * 5 + 2, none⟩ (.int .i64 e2.C), .loaded ⟨blkOf A0, offOf A0 + ((x2).toNat) * 5 + 3, none⟩ (.int .i64 e2.Due), .loaded ⟨blkOf A0, offOf A0 + ((x2).toNat) * 5 + 4, none⟩ (.int .i64 e2.P)]) (by kernel_rfl) ⟨RdL.cell (j := 0) (hS1.rd hR0) hx1 rfl, RdL.cell (j := 1) (hS1.rd hR0) hx1 rfl, RdL.cell (j := 2) (hS1.rd hR0) hx1 rfl, RdL.cell (j := 3) (hS1.rd hR0) hx1 rfl, RdL.cell (j := 4) (hS1.rd hR0) hx1 rfl, RdL.cell (j := 0) (hS1.rd hR0) hx2 rfl, RdL.cell (j := 1) (hS1.rd hR0) hx2 rfl, RdL.cell (j := 2) (hS1.rd hR0) hx2 rfl, RdL.cell (j := 3) (hS1.rd hR0) hx2 rfl, RdL.cell (j := 4) (hS1.rd hR0) hx2 rfl, trivial⟩ ⟨RdL.cell (j := 0) (hS2.rd hR0) hx1 rfl, RdL.cell (j := 1) (hS2.rd hR0) hx1 rfl, RdL.cell (j := 2) (hS2.rd hR0) hx1 rfl, RdL.cell (j := 3) (hS2.rd hR0) hx1 rfl, RdL.cell (j := 4) (hS2.rd hR0) hx1 rfl, RdL.cell (j := 0) (hS2.rd hR0) hx2 rfl, RdL.cell (j := 1) (hS2.rd hR0) hx2 rfl, RdL.cell (j := 2) (hS2.rd hR0) hx2 rfl, RdL.cell (j := 3) (hS2.rd hR0) hx2 rfl, RdL.cell (j := 4) (hS2.rd hR0) hx2 rfl, trivial⟩) ?_ a hF
        refine go_alt2 (fun KK hKK => ?_) ?_
        · refine ge_one2 ?_
          refine ge_new (d := some 9) (o := .cells #[.int .i64 0, .int .i64 0, .int .i64 0, .int .i64 0, .int .i64 0] 58) (v := fun b => .pointer (some ⟨b, 0, none⟩)) hS2 (fun b => by kernel_rfl) fun b4 w2 hx4 hS3 => ?_
          refine ge_nil fun a hF => hKK _ _ (RS.of2 (l := [.loaded ⟨blkOf A0, offOf A0 + ((x1).toNat) * 5, none⟩ (.int .i64 e1.Task), .loaded ⟨blkOf A0, offOf A0 + ((x1).toNat) * 5 + 1, none⟩ (.int .i64 e1.At), .loaded ⟨blkOf A0, offOf A0 + ((x1).toNat) * 5 + 2, none⟩ (.int .i64 e1.C), .loaded ⟨blkOf A0, offOf A0 + ((x1).toNat) * 5 + 3, none⟩ (.int .i64 e1.Due), .loaded ⟨blkOf A0, offOf A0 + ((x1).toNat) * 5 + 4, none⟩ (.int .i64 e1.P), .loaded ⟨blkOf A0, offOf A0 + ((x2).toNat) * 5, none⟩ (.int .i64 e2.Task), .loaded ⟨blkOf A0, offOf A0 + ((x2).toNat) * 5 + 1, none⟩ (.int .i64 e2.At), .loaded ⟨blkOf A0, offOf A0 + ((x2).toNat) * 5 + 2, none⟩ (.int .i64 e2.C), .loaded ⟨blkOf A0, offOf A0 + ((x2).toNat) * 5 + 3, none⟩ (.int .i64 e2.Due), .loaded ⟨blkOf A0, offOf A0 + ((x2).toNat) * 5 + 4, none⟩ (.int .i64 e2.P)]) (by kernel_rfl) ⟨RdL.cell (j := 0) (hS2.rd hR0) hx1 rfl, RdL.cell (j := 1) (hS2.rd hR0) hx1 rfl, RdL.cell (j := 2) (hS2.rd hR0) hx1 rfl, RdL.cell (j := 3) (hS2.rd hR0) hx1 rfl, RdL.cell (j := 4) (hS2.rd hR0) hx1 rfl, RdL.cell (j := 0) (hS2.rd hR0) hx2 rfl, RdL.cell (j := 1) (hS2.rd hR0) hx2 rfl, RdL.cell (j := 2) (hS2.rd hR0) hx2 rfl, RdL.cell (j := 3) (hS2.rd hR0) hx2 rfl, RdL.cell (j := 4) (hS2.rd hR0) hx2 rfl, trivial⟩ ⟨RdL.cell (j := 0) (hS3.rd hR0) hx1 rfl, RdL.cell (j := 1) (hS3.rd hR0) hx1 rfl, RdL.cell (j := 2) (hS3.rd hR0) hx1 rfl, RdL.cell (j := 3) (hS3.rd hR0) hx1 rfl, RdL.cell (j := 4) (hS3.rd hR0) hx1 rfl, RdL.cell (j := 0) (hS3.rd hR0) hx2 rfl, RdL.cell (j := 1) (hS3.rd hR0) hx2 rfl, RdL.cell (j := 2) (hS3.rd hR0) hx2 rfl, RdL.cell (j := 3) (hS3.rd hR0) hx2 rfl, RdL.cell (j := 4) (hS3.rd hR0) hx2 rfl, trivial⟩) ?_ a hF
          refine go_alt2 (fun KK hKK => ?_) ?_
          · refine ge_set (b := b4) (j := 0) (cs := #[.int .i64 0, .int .i64 0, .int .i64 0, .int .i64 0, .int .i64 0]) (t := 58) (vs := [.int .i64 e1.Task, .int .i64 e1.At, .int .i64 e1.C, .int .i64 e1.Due, .int .i64 e1.P]) hS3 (by kernel_rfl) rfl rfl fun w3 hS4 => ?_
            have hS5 : St w0 w3 [Own.blk b4 (.cells #[.int .i64 e1.Task, .int .i64 e1.At, .int .i64 e1.C, .int .i64 e1.Due, .int .i64 e1.P] 58 (0, 0)), Own.blk b3 (.cells #[.int .i64 0, .int .i64 0, .int .i64 0, .int .i64 0, .int .i64 0] 58 (0, 0))] := hS4
            refine ge_nil fun a hF => hKK _ _ (RS.of2 (l := [.loaded ⟨blkOf A0, offOf A0 + ((x2).toNat) * 5, none⟩ (.int .i64 e2.Task), .loaded ⟨blkOf A0, offOf A0 + ((x2).toNat) * 5 + 1, none⟩ (.int .i64 e2.At), .loaded ⟨blkOf A0, offOf A0 + ((x2).toNat) * 5 + 2, none⟩ (.int .i64 e2.C), .loaded ⟨blkOf A0, offOf A0 + ((x2).toNat) * 5 + 3, none⟩ (.int .i64 e2.Due), .loaded ⟨blkOf A0, offOf A0 + ((x2).toNat) * 5 + 4, none⟩ (.int .i64 e2.P)]) (by kernel_rfl) ⟨RdL.cell (j := 0) (hS3.rd hR0) hx2 rfl, RdL.cell (j := 1) (hS3.rd hR0) hx2 rfl, RdL.cell (j := 2) (hS3.rd hR0) hx2 rfl, RdL.cell (j := 3) (hS3.rd hR0) hx2 rfl, RdL.cell (j := 4) (hS3.rd hR0) hx2 rfl, trivial⟩ ⟨RdL.cell (j := 0) (hS5.rd hR0) hx2 rfl, RdL.cell (j := 1) (hS5.rd hR0) hx2 rfl, RdL.cell (j := 2) (hS5.rd hR0) hx2 rfl, RdL.cell (j := 3) (hS5.rd hR0) hx2 rfl, RdL.cell (j := 4) (hS5.rd hR0) hx2 rfl, trivial⟩) ?_ a hF
            refine go_alt2 (fun KK hKK => ?_) ?_
            · have hS6 := hS5.bring 1 rfl
              refine ge_set (b := b3) (j := 0) (cs := #[.int .i64 0, .int .i64 0, .int .i64 0, .int .i64 0, .int .i64 0]) (t := 58) (vs := [.int .i64 e2.Task, .int .i64 e2.At, .int .i64 e2.C, .int .i64 e2.Due, .int .i64 e2.P]) hS6 (by kernel_rfl) rfl rfl fun w4 hS7 => ?_
              have hS8 : St w0 w4 [Own.blk b3 (.cells #[.int .i64 e2.Task, .int .i64 e2.At, .int .i64 e2.C, .int .i64 e2.Due, .int .i64 e2.P] 58 (0, 0)), Own.blk b4 (.cells #[.int .i64 e1.Task, .int .i64 e1.At, .int .i64 e1.C, .int .i64 e1.Due, .int .i64 e1.P] 58 (0, 0))] := hS7
              refine ge_nil fun a hF => hKK _ _ (RS.of2 (l := []) (by kernel_rfl) trivial trivial) ?_ a hF
              have hS9 := hS8.bring 1 rfl
              obtain rfl := Option.some.inj h
              exact go_fin2 fun a hF => hQ _ _ _ (Outs.again ⟨b4, b3, hS9, hF.weaken ⟨by kernel_rfl, by kernel_rfl, by kernel_rfl, by kernel_rfl, by kernel_rfl, trivial⟩⟩)
            exact go_nomore2
          exact go_nomore2
        exact go_nomore2
      exact go_nomore2
    · rw [if_neg hc2] at h
      cases h
  · rw [if_neg hc1] at h
    cases h
theorem punctualref_Goes_ok (l0 : List SJob) (A0 : Option Addr) (c0 : Nat) (x1 : Int) (x2 : Int) (x3 : Int) (w0 : World) (hR0 : RdL w0 A0 l0) (hL0 : l0.length ≤ c0) (r : Bool) (h : punctualref_Goes.f l0 x1 x2 x3 = some r) :
    Calls Tryd.prog 127 #[.slice A0 l0.length c0, .int .i64 x1, .int .i64 x2, .int .i64 x3] w0 (punctualref_Goes.Post w0 r) := by
  have hS := St.start w0
  unfold punctualref_Goes.f at h
  refine calls_enter (n := 60) (args := [.slice A0 l0.length c0, .int .i64 x1, .int .i64 x2, .int .i64 x3]) (fn := Tryd.f127) rfl rfl rfl rfl ?_
  show WE _ _ _ _ [(0, .slice A0 l0.length c0), (1, .int .i64 x1), (2, .int .i64 x2), (3, .int .i64 x3)] _
  refine we_seq fun K1 hK1 => ?_
  refine we_region [(0, 0)] rfl ?_
  refine ge_batch [0] (ans := []) (vs := [(8, .bool false)]) (l := []) (by kernel_rfl) trivial ?_
  refine ge_nil fun a hF => hK1 _ _ ?_ a hF
  refine we_seq fun K2 hK2 => ?_
  rcases hq1 : punctualref_Goes.p0 l0 x1 x2 with _ | (⟨z11, z12, z13, z14, z15, z16, z17, z18, z19, z20⟩ | rr1)
  · rw [hq1] at h; cases h
  · rw [hq1] at h
    simp only [] at h
    refine we_keep (e' := [(0, .slice A0 l0.length c0), (1, .int .i64 x1), (2, .int .i64 x2), (3, .int .i64 x3), (8, .bool false)]) ⟨by kernel_rfl, by kernel_rfl, by kernel_rfl, by kernel_rfl, by kernel_rfl, trivial⟩ (punctualref_Goes_p0 0 w0 l0 A0 c0 x1 x2 x3 hR0 hL0 _ hq1 _ hS _ ?_)
    rintro _ a w5 ⟨rfl, b5, b6, hS10, hF⟩
    replace hS10 : St w0 w5 [Own.blk b5 (.cells #[.int .i64 z11, .int .i64 z12, .int .i64 z13, .int .i64 z14, .int .i64 z15] 58 (0, 0)), Own.blk b6 (.cells #[.int .i64 z16, .int .i64 z17, .int .i64 z18, .int .i64 z19, .int .i64 z20] 58 (0, 0))] := hS10
    refine hK2 [(1, .int .i64 x1), (2, .int .i64 x2), (3, .int .i64 x3), (9, .pointer (some ⟨b5, 0, none⟩)), (10, .pointer (some ⟨b6, 0, none⟩))] w5 ?_ a hF
    refine we_seq fun K3 hK3 => ?_
    refine we_seq fun K4 hK4 => ?_
    refine we_region [(0, 0), (1, 0), (2, 0), (3, 0), (4, 0), (5, 0), (6, 0), (7, 0), (8, 0)] rfl ?_
    refine ge_batch [0, 1, 2] (ans := []) (vs := [(21, .bool (x3 == 1)), (20, .bool (x3 == 1)), (19, .int .i64 x3)]) (l := []) (by kernel_rfl) trivial ?_
    by_cases hc3 : x3 = 1
    · rw [if_pos hc3] at h
      refine ge_known (t := 21) (b := (x3 == 1)) (c := true) (by kernel_rfl) (beq_iff_eq.2 hc3) ?_
      refine ge_batch [3, 4, 5, 6, 7, 8] (ans := [.val (.int .i64 z15), .val (.int .i64 z20)]) (vs := [(27, .bool (z15 != z20)), (26, .bool (z15 != z20)), (25, .int .i64 z20), (24, .pointer (some ⟨b6, 4, none⟩)), (23, .int .i64 z15), (22, .pointer (some ⟨b5, 4, none⟩))]) (l := [.loaded ⟨b5, 4, none⟩ (.int .i64 z15), .loaded ⟨b6, 4, none⟩ (.int .i64 z20)]) (by kernel_rfl) ⟨hS10.cell 0 rfl rfl, hS10.cell 1 rfl rfl, trivial⟩ ?_
      refine ge_nil fun a hF => hK4 _ _ ?_ a hF
      by_cases hc4 : z15 = z20
      · rw [if_pos hc4] at h
        refine we_known (t := 27) (b := (z15 != z20)) (v := false) (by kernel_rfl) (bne_eq_false_iff_eq.2 hc4) ?_
        refine we_false (by kernel_rfl) ?_
        refine we_skip fun a hF => hK3 _ _ ?_ a hF
        refine we_seq fun K5 hK5 => ?_
        refine we_seq fun K6 hK6 => ?_
        refine we_region [(0, 0), (1, 0), (2, 0), (3, 0), (4, 0), (5, 0), (6, 0), (7, 0), (8, 0)] rfl ?_
        refine ge_batch [0, 1, 2] (ans := []) (vs := [(35, .bool (x3 == 2)), (34, .bool (x3 == 2)), (33, .int .i64 x3)]) (l := []) (by kernel_rfl) trivial ?_
        by_cases hc5 : x3 = 2
        · rw [if_pos hc5] at h
          refine ge_known (t := 35) (b := (x3 == 2)) (c := true) (by kernel_rfl) (beq_iff_eq.2 hc5) ?_
          refine ge_batch [3, 4, 5, 6, 7, 8] (ans := [.val (.int .i64 z14), .val (.int .i64 z19)]) (vs := [(41, .bool (z14 != z19)), (40, .bool (z14 != z19)), (39, .int .i64 z19), (38, .pointer (some ⟨b6, 3, none⟩)), (37, .int .i64 z14), (36, .pointer (some ⟨b5, 3, none⟩))]) (l := [.loaded ⟨b5, 3, none⟩ (.int .i64 z14), .loaded ⟨b6, 3, none⟩ (.int .i64 z19)]) (by kernel_rfl) ⟨hS10.cell 0 rfl rfl, hS10.cell 1 rfl rfl, trivial⟩ ?_
          refine ge_nil fun a hF => hK6 _ _ ?_ a hF
          by_cases hc6 : z14 = z19
          · rw [if_pos hc6] at h
            refine we_known (t := 41) (b := (z14 != z19)) (v := false) (by kernel_rfl) (bne_eq_false_iff_eq.2 hc6) ?_
            refine we_false (by kernel_rfl) ?_
            refine we_skip fun a hF => hK5 _ _ ?_ a hF
            refine we_seq fun K7 hK7 => ?_
            refine we_seq fun K8 hK8 => ?_
            refine we_region [(0, 0), (1, 0), (2, 0), (3, 0), (4, 0)] rfl ?_
            refine ge_batch [0, 1, 2, 3, 4] (ans := [.val (.int .i64 z12), .val (.int .i64 z17)]) (vs := [(51, .bool (z12 != z17)), (50, .int .i64 z17), (49, .pointer (some ⟨b6, 1, none⟩)), (48, .int .i64 z12), (47, .pointer (some ⟨b5, 1, none⟩))]) (l := [.loaded ⟨b5, 1, none⟩ (.int .i64 z12), .loaded ⟨b6, 1, none⟩ (.int .i64 z17)]) (by kernel_rfl) ⟨hS10.cell 0 rfl rfl, hS10.cell 1 rfl rfl, trivial⟩ ?_
            refine ge_nil fun a hF => hK8 _ _ ?_ a hF
            by_cases hc7 : z12 = z17
            · rw [if_pos hc7] at h
              refine we_known (t := 51) (b := (z12 != z17)) (v := false) (by kernel_rfl) (bne_eq_false_iff_eq.2 hc7) ?_
              refine we_false (by kernel_rfl) ?_
              refine we_skip fun a hF => hK7 _ _ ?_ a hF
              refine we_seq fun K9 hK9 => ?_
              refine we_region [(0, 0), (1, 0), (2, 0), (3, 0)] rfl ?_
              refine ge_batch [0, 1, 2, 3] (ans := []) (vs := [(8, .bool (decide (x1 < x2))), (59, .bool (decide (x1 < x2))), (58, .int .i64 x2), (57, .int .i64 x1)]) (l := []) (by kernel_rfl) trivial ?_
              refine ge_nil fun a hF => hK9 _ _ ?_ a hF
              have hS11 := hS10.takeN 0
              obtain rfl := Option.some.inj h
              exact we_ret (post_ret (rs := [.tmp 8]) (ans := []) (vs := [.bool (decide (x1 < x2))]) (l := []) rfl (by kernel_rfl) trivial ⟨rfl, hS11⟩)
            · rw [if_neg hc7] at h
              refine we_known (t := 51) (b := (z12 != z17)) (v := true) (by kernel_rfl) (bne_iff_ne.2 hc7) ?_
              refine we_true (by kernel_rfl) ?_
              refine we_seq fun K10 hK10 => ?_
              refine we_region [(0, 0), (1, 0), (2, 0), (3, 0), (4, 0), (5, 0)] rfl ?_
              refine ge_batch [0, 1, 2, 3, 4, 5] (ans := [.val (.int .i64 z12), .val (.int .i64 z17)]) (vs := [(8, .bool (decide (z12 < z17))), (56, .bool (decide (z12 < z17))), (55, .int .i64 z17), (54, .pointer (some ⟨b6, 1, none⟩)), (53, .int .i64 z12), (52, .pointer (some ⟨b5, 1, none⟩))]) (l := [.loaded ⟨b5, 1, none⟩ (.int .i64 z12), .loaded ⟨b6, 1, none⟩ (.int .i64 z17)]) (by kernel_rfl) ⟨hS10.cell 0 rfl rfl, hS10.cell 1 rfl rfl, trivial⟩ ?_
              refine ge_nil fun a hF => hK10 _ _ ?_ a hF
              have hS12 := hS10.takeN 0
              obtain rfl := Option.some.inj h
              exact we_ret (post_ret (rs := [.tmp 8]) (ans := []) (vs := [.bool (decide (z12 < z17))]) (l := []) rfl (by kernel_rfl) trivial ⟨rfl, hS12⟩)
          · rw [if_neg hc6] at h
            refine we_known (t := 41) (b := (z14 != z19)) (v := true) (by kernel_rfl) (bne_iff_ne.2 hc6) ?_
            refine we_true (by kernel_rfl) ?_
            refine we_seq fun K11 hK11 => ?_
            refine we_region [(0, 0), (1, 0), (2, 0), (3, 0), (4, 0), (5, 0)] rfl ?_
            refine ge_batch [0, 1, 2, 3, 4, 5] (ans := [.val (.int .i64 z14), .val (.int .i64 z19)]) (vs := [(8, .bool (decide (z14 < z19))), (46, .bool (decide (z14 < z19))), (45, .int .i64 z19), (44, .pointer (some ⟨b6, 3, none⟩)), (43, .int .i64 z14), (42, .pointer (some ⟨b5, 3, none⟩))]) (l := [.loaded ⟨b5, 3, none⟩ (.int .i64 z14), .loaded ⟨b6, 3, none⟩ (.int .i64 z19)]) (by kernel_rfl) ⟨hS10.cell 0 rfl rfl, hS10.cell 1 rfl rfl, trivial⟩ ?_
            refine ge_nil fun a hF => hK11 _ _ ?_ a hF
            have hS13 := hS10.takeN 0
            obtain rfl := Option.some.inj h
            exact we_ret (post_ret (rs := [.tmp 8]) (ans := []) (vs := [.bool (decide (z14 < z19))]) (l := []) rfl (by kernel_rfl) trivial ⟨rfl, hS13⟩)
        · rw [if_neg hc5] at h
          refine ge_known (t := 35) (b := (x3 == 2)) (c := false) (by kernel_rfl) (beq_eq_false_iff_ne.2 hc5) ?_
          refine ge_batch [3, 4, 5, 6, 7, 8] (ans := []) (vs := [(41, .bool false), (40, undef), (39, undef), (38, undef), (37, undef), (36, undef)]) (l := []) (by kernel_rfl) trivial ?_
          refine ge_nil fun a hF => hK6 _ _ ?_ a hF
          refine we_false (by kernel_rfl) ?_
          refine we_skip fun a hF => hK5 _ _ ?_ a hF
          refine we_seq fun K12 hK12 => ?_
          refine we_seq fun K13 hK13 => ?_
          refine we_region [(0, 0), (1, 0), (2, 0), (3, 0), (4, 0)] rfl ?_
          refine ge_batch [0, 1, 2, 3, 4] (ans := [.val (.int .i64 z12), .val (.int .i64 z17)]) (vs := [(51, .bool (z12 != z17)), (50, .int .i64 z17), (49, .pointer (some ⟨b6, 1, none⟩)), (48, .int .i64 z12), (47, .pointer (some ⟨b5, 1, none⟩))]) (l := [.loaded ⟨b5, 1, none⟩ (.int .i64 z12), .loaded ⟨b6, 1, none⟩ (.int .i64 z17)]) (by kernel_rfl) ⟨hS10.cell 0 rfl rfl, hS10.cell 1 rfl rfl, trivial⟩ ?_
          refine ge_nil fun a hF => hK13 _ _ ?_ a hF
          by_cases hc8 : z12 = z17
          · rw [if_pos hc8] at h
            refine we_known (t := 51) (b := (z12 != z17)) (v := false) (by kernel_rfl) (bne_eq_false_iff_eq.2 hc8) ?_
            refine we_false (by kernel_rfl) ?_
            refine we_skip fun a hF => hK12 _ _ ?_ a hF
            refine we_seq fun K14 hK14 => ?_
            refine we_region [(0, 0), (1, 0), (2, 0), (3, 0)] rfl ?_
            refine ge_batch [0, 1, 2, 3] (ans := []) (vs := [(8, .bool (decide (x1 < x2))), (59, .bool (decide (x1 < x2))), (58, .int .i64 x2), (57, .int .i64 x1)]) (l := []) (by kernel_rfl) trivial ?_
            refine ge_nil fun a hF => hK14 _ _ ?_ a hF
            have hS14 := hS10.takeN 0
            obtain rfl := Option.some.inj h
            exact we_ret (post_ret (rs := [.tmp 8]) (ans := []) (vs := [.bool (decide (x1 < x2))]) (l := []) rfl (by kernel_rfl) trivial ⟨rfl, hS14⟩)
          · rw [if_neg hc8] at h
            refine we_known (t := 51) (b := (z12 != z17)) (v := true) (by kernel_rfl) (bne_iff_ne.2 hc8) ?_
            refine we_true (by kernel_rfl) ?_
            refine we_seq fun K15 hK15 => ?_
            refine we_region [(0, 0), (1, 0), (2, 0), (3, 0), (4, 0), (5, 0)] rfl ?_
            refine ge_batch [0, 1, 2, 3, 4, 5] (ans := [.val (.int .i64 z12), .val (.int .i64 z17)]) (vs := [(8, .bool (decide (z12 < z17))), (56, .bool (decide (z12 < z17))), (55, .int .i64 z17), (54, .pointer (some ⟨b6, 1, none⟩)), (53, .int .i64 z12), (52, .pointer (some ⟨b5, 1, none⟩))]) (l := [.loaded ⟨b5, 1, none⟩ (.int .i64 z12), .loaded ⟨b6, 1, none⟩ (.int .i64 z17)]) (by kernel_rfl) ⟨hS10.cell 0 rfl rfl, hS10.cell 1 rfl rfl, trivial⟩ ?_
            refine ge_nil fun a hF => hK15 _ _ ?_ a hF
            have hS15 := hS10.takeN 0
            obtain rfl := Option.some.inj h
            exact we_ret (post_ret (rs := [.tmp 8]) (ans := []) (vs := [.bool (decide (z12 < z17))]) (l := []) rfl (by kernel_rfl) trivial ⟨rfl, hS15⟩)
      · rw [if_neg hc4] at h
        refine we_known (t := 27) (b := (z15 != z20)) (v := true) (by kernel_rfl) (bne_iff_ne.2 hc4) ?_
        refine we_true (by kernel_rfl) ?_
        refine we_seq fun K16 hK16 => ?_
        refine we_region [(0, 0), (1, 0), (2, 0), (3, 0), (4, 0), (5, 0)] rfl ?_
        refine ge_batch [0, 1, 2, 3, 4, 5] (ans := [.val (.int .i64 z15), .val (.int .i64 z20)]) (vs := [(8, .bool (decide (z15 > z20))), (32, .bool (decide (z15 > z20))), (31, .int .i64 z20), (30, .pointer (some ⟨b6, 4, none⟩)), (29, .int .i64 z15), (28, .pointer (some ⟨b5, 4, none⟩))]) (l := [.loaded ⟨b5, 4, none⟩ (.int .i64 z15), .loaded ⟨b6, 4, none⟩ (.int .i64 z20)]) (by kernel_rfl) ⟨hS10.cell 0 rfl rfl, hS10.cell 1 rfl rfl, trivial⟩ ?_
        refine ge_nil fun a hF => hK16 _ _ ?_ a hF
        have hS16 := hS10.takeN 0
        obtain rfl := Option.some.inj h
        exact we_ret (post_ret (rs := [.tmp 8]) (ans := []) (vs := [.bool (decide (z15 > z20))]) (l := []) rfl (by kernel_rfl) trivial ⟨rfl, hS16⟩)
    · rw [if_neg hc3] at h
      refine ge_known (t := 21) (b := (x3 == 1)) (c := false) (by kernel_rfl) (beq_eq_false_iff_ne.2 hc3) ?_
      refine ge_batch [3, 4, 5, 6, 7, 8] (ans := []) (vs := [(27, .bool false), (26, undef), (25, undef), (24, undef), (23, undef), (22, undef)]) (l := []) (by kernel_rfl) trivial ?_
      refine ge_nil fun a hF => hK4 _ _ ?_ a hF
      refine we_false (by kernel_rfl) ?_
      refine we_skip fun a hF => hK3 _ _ ?_ a hF
      refine we_seq fun K17 hK17 => ?_
      refine we_seq fun K18 hK18 => ?_
      refine we_region [(0, 0), (1, 0), (2, 0), (3, 0), (4, 0), (5, 0), (6, 0), (7, 0), (8, 0)] rfl ?_
      refine ge_batch [0, 1, 2] (ans := []) (vs := [(35, .bool (x3 == 2)), (34, .bool (x3 == 2)), (33, .int .i64 x3)]) (l := []) (by kernel_rfl) trivial ?_
      by_cases hc9 : x3 = 2
      · rw [if_pos hc9] at h
        refine ge_known (t := 35) (b := (x3 == 2)) (c := true) (by kernel_rfl) (beq_iff_eq.2 hc9) ?_
        refine ge_batch [3, 4, 5, 6, 7, 8] (ans := [.val (.int .i64 z14), .val (.int .i64 z19)]) (vs := [(41, .bool (z14 != z19)), (40, .bool (z14 != z19)), (39, .int .i64 z19), (38, .pointer (some ⟨b6, 3, none⟩)), (37, .int .i64 z14), (36, .pointer (some ⟨b5, 3, none⟩))]) (l := [.loaded ⟨b5, 3, none⟩ (.int .i64 z14), .loaded ⟨b6, 3, none⟩ (.int .i64 z19)]) (by kernel_rfl) ⟨hS10.cell 0 rfl rfl, hS10.cell 1 rfl rfl, trivial⟩ ?_
        refine ge_nil fun a hF => hK18 _ _ ?_ a hF
        by_cases hc10 : z14 = z19
        · rw [if_pos hc10] at h
          refine we_known (t := 41) (b := (z14 != z19)) (v := false) (by kernel_rfl) (bne_eq_false_iff_eq.2 hc10) ?_
          refine we_false (by kernel_rfl) ?_
          refine we_skip fun a hF => hK17 _ _ ?_ a hF
          refine we_seq fun K19 hK19 => ?_
          refine we_seq fun K20 hK20 => ?_
          refine we_region [(0, 0), (1, 0), (2, 0), (3, 0), (4, 0)] rfl ?_
          refine ge_batch [0, 1, 2, 3, 4] (ans := [.val (.int .i64 z12), .val (.int .i64 z17)]) (vs := [(51, .bool (z12 != z17)), (50, .int .i64 z17), (49, .pointer (some ⟨b6, 1, none⟩)), (48, .int .i64 z12), (47, .pointer (some ⟨b5, 1, none⟩))]) (l := [.loaded ⟨b5, 1, none⟩ (.int .i64 z12), .loaded ⟨b6, 1, none⟩ (.int .i64 z17)]) (by kernel_rfl) ⟨hS10.cell 0 rfl rfl, hS10.cell 1 rfl rfl, trivial⟩ ?_
          refine ge_nil fun a hF => hK20 _ _ ?_ a hF
          by_cases hc11 : z12 = z17
          · rw [if_pos hc11] at h
            refine we_known (t := 51) (b := (z12 != z17)) (v := false) (by kernel_rfl) (bne_eq_false_iff_eq.2 hc11) ?_
            refine we_false (by kernel_rfl) ?_
            refine we_skip fun a hF => hK19 _ _ ?_ a hF
            refine we_seq fun K21 hK21 => ?_
            refine we_region [(0, 0), (1, 0), (2, 0), (3, 0)] rfl ?_
            refine ge_batch [0, 1, 2, 3] (ans := []) (vs := [(8, .bool (decide (x1 < x2))), (59, .bool (decide (x1 < x2))), (58, .int .i64 x2), (57, .int .i64 x1)]) (l := []) (by kernel_rfl) trivial ?_
            refine ge_nil fun a hF => hK21 _ _ ?_ a hF
            have hS17 := hS10.takeN 0
            obtain rfl := Option.some.inj h
            exact we_ret (post_ret (rs := [.tmp 8]) (ans := []) (vs := [.bool (decide (x1 < x2))]) (l := []) rfl (by kernel_rfl) trivial ⟨rfl, hS17⟩)
          · rw [if_neg hc11] at h
            refine we_known (t := 51) (b := (z12 != z17)) (v := true) (by kernel_rfl) (bne_iff_ne.2 hc11) ?_
            refine we_true (by kernel_rfl) ?_
            refine we_seq fun K22 hK22 => ?_
            refine we_region [(0, 0), (1, 0), (2, 0), (3, 0), (4, 0), (5, 0)] rfl ?_
            refine ge_batch [0, 1, 2, 3, 4, 5] (ans := [.val (.int .i64 z12), .val (.int .i64 z17)]) (vs := [(8, .bool (decide (z12 < z17))), (56, .bool (decide (z12 < z17))), (55, .int .i64 z17), (54, .pointer (some ⟨b6, 1, none⟩)), (53, .int .i64 z12), (52, .pointer (some ⟨b5, 1, none⟩))]) (l := [.loaded ⟨b5, 1, none⟩ (.int .i64 z12), .loaded ⟨b6, 1, none⟩ (.int .i64 z17)]) (by kernel_rfl) ⟨hS10.cell 0 rfl rfl, hS10.cell 1 rfl rfl, trivial⟩ ?_
            refine ge_nil fun a hF => hK22 _ _ ?_ a hF
            have hS18 := hS10.takeN 0
            obtain rfl := Option.some.inj h
            exact we_ret (post_ret (rs := [.tmp 8]) (ans := []) (vs := [.bool (decide (z12 < z17))]) (l := []) rfl (by kernel_rfl) trivial ⟨rfl, hS18⟩)
        · rw [if_neg hc10] at h
          refine we_known (t := 41) (b := (z14 != z19)) (v := true) (by kernel_rfl) (bne_iff_ne.2 hc10) ?_
          refine we_true (by kernel_rfl) ?_
          refine we_seq fun K23 hK23 => ?_
          refine we_region [(0, 0), (1, 0), (2, 0), (3, 0), (4, 0), (5, 0)] rfl ?_
          refine ge_batch [0, 1, 2, 3, 4, 5] (ans := [.val (.int .i64 z14), .val (.int .i64 z19)]) (vs := [(8, .bool (decide (z14 < z19))), (46, .bool (decide (z14 < z19))), (45, .int .i64 z19), (44, .pointer (some ⟨b6, 3, none⟩)), (43, .int .i64 z14), (42, .pointer (some ⟨b5, 3, none⟩))]) (l := [.loaded ⟨b5, 3, none⟩ (.int .i64 z14), .loaded ⟨b6, 3, none⟩ (.int .i64 z19)]) (by kernel_rfl) ⟨hS10.cell 0 rfl rfl, hS10.cell 1 rfl rfl, trivial⟩ ?_
          refine ge_nil fun a hF => hK23 _ _ ?_ a hF
          have hS19 := hS10.takeN 0
          obtain rfl := Option.some.inj h
          exact we_ret (post_ret (rs := [.tmp 8]) (ans := []) (vs := [.bool (decide (z14 < z19))]) (l := []) rfl (by kernel_rfl) trivial ⟨rfl, hS19⟩)
      · rw [if_neg hc9] at h
        refine ge_known (t := 35) (b := (x3 == 2)) (c := false) (by kernel_rfl) (beq_eq_false_iff_ne.2 hc9) ?_
        refine ge_batch [3, 4, 5, 6, 7, 8] (ans := []) (vs := [(41, .bool false), (40, undef), (39, undef), (38, undef), (37, undef), (36, undef)]) (l := []) (by kernel_rfl) trivial ?_
        refine ge_nil fun a hF => hK18 _ _ ?_ a hF
        refine we_false (by kernel_rfl) ?_
        refine we_skip fun a hF => hK17 _ _ ?_ a hF
        refine we_seq fun K24 hK24 => ?_
        refine we_seq fun K25 hK25 => ?_
        refine we_region [(0, 0), (1, 0), (2, 0), (3, 0), (4, 0)] rfl ?_
        refine ge_batch [0, 1, 2, 3, 4] (ans := [.val (.int .i64 z12), .val (.int .i64 z17)]) (vs := [(51, .bool (z12 != z17)), (50, .int .i64 z17), (49, .pointer (some ⟨b6, 1, none⟩)), (48, .int .i64 z12), (47, .pointer (some ⟨b5, 1, none⟩))]) (l := [.loaded ⟨b5, 1, none⟩ (.int .i64 z12), .loaded ⟨b6, 1, none⟩ (.int .i64 z17)]) (by kernel_rfl) ⟨hS10.cell 0 rfl rfl, hS10.cell 1 rfl rfl, trivial⟩ ?_
        refine ge_nil fun a hF => hK25 _ _ ?_ a hF
        by_cases hc12 : z12 = z17
        · rw [if_pos hc12] at h
          refine we_known (t := 51) (b := (z12 != z17)) (v := false) (by kernel_rfl) (bne_eq_false_iff_eq.2 hc12) ?_
          refine we_false (by kernel_rfl) ?_
          refine we_skip fun a hF => hK24 _ _ ?_ a hF
          refine we_seq fun K26 hK26 => ?_
          refine we_region [(0, 0), (1, 0), (2, 0), (3, 0)] rfl ?_
          refine ge_batch [0, 1, 2, 3] (ans := []) (vs := [(8, .bool (decide (x1 < x2))), (59, .bool (decide (x1 < x2))), (58, .int .i64 x2), (57, .int .i64 x1)]) (l := []) (by kernel_rfl) trivial ?_
          refine ge_nil fun a hF => hK26 _ _ ?_ a hF
          have hS20 := hS10.takeN 0
          obtain rfl := Option.some.inj h
          exact we_ret (post_ret (rs := [.tmp 8]) (ans := []) (vs := [.bool (decide (x1 < x2))]) (l := []) rfl (by kernel_rfl) trivial ⟨rfl, hS20⟩)
        · rw [if_neg hc12] at h
          refine we_known (t := 51) (b := (z12 != z17)) (v := true) (by kernel_rfl) (bne_iff_ne.2 hc12) ?_
          refine we_true (by kernel_rfl) ?_
          refine we_seq fun K27 hK27 => ?_
          refine we_region [(0, 0), (1, 0), (2, 0), (3, 0), (4, 0), (5, 0)] rfl ?_
          refine ge_batch [0, 1, 2, 3, 4, 5] (ans := [.val (.int .i64 z12), .val (.int .i64 z17)]) (vs := [(8, .bool (decide (z12 < z17))), (56, .bool (decide (z12 < z17))), (55, .int .i64 z17), (54, .pointer (some ⟨b6, 1, none⟩)), (53, .int .i64 z12), (52, .pointer (some ⟨b5, 1, none⟩))]) (l := [.loaded ⟨b5, 1, none⟩ (.int .i64 z12), .loaded ⟨b6, 1, none⟩ (.int .i64 z17)]) (by kernel_rfl) ⟨hS10.cell 0 rfl rfl, hS10.cell 1 rfl rfl, trivial⟩ ?_
          refine ge_nil fun a hF => hK27 _ _ ?_ a hF
          have hS21 := hS10.takeN 0
          obtain rfl := Option.some.inj h
          exact we_ret (post_ret (rs := [.tmp 8]) (ans := []) (vs := [.bool (decide (z12 < z17))]) (l := []) rfl (by kernel_rfl) trivial ⟨rfl, hS21⟩)
  · rw [hq1] at h
    simp only [] at h
    refine we_keep (e' := [(0, .slice A0 l0.length c0), (1, .int .i64 x1), (2, .int .i64 x2), (3, .int .i64 x3), (8, .bool false)]) ⟨by kernel_rfl, by kernel_rfl, by kernel_rfl, by kernel_rfl, by kernel_rfl, trivial⟩ (punctualref_Goes_p0 0 w0 l0 A0 c0 x1 x2 x3 hR0 hL0 _ hq1 _ hS _ ?_)
    rintro _ a w1 ⟨_, rfl, hb⟩
    obtain rfl := Option.some.inj h
    exact hb

/-! punctual/punctualref.Played -/
abbrev punctualref_Played.Post (w0 : World) (r : (List (List Int)) × (List Int)) (e : Ending) (w : World) : Prop := ∃ (y0 : Rows) (v1 : Value), e = .returned (.tuple #[(Rows.val y0), v1]) ∧ St w0 w [Own.nest y0 24 3 r.1, Own.of v1 3 r.2]
def punctualref_Played.r0 (l0 : List SJob) : Nat × (List Int) × (List (Int × Int)) → Option ((Nat × (List Int) × (List (Int × Int))) ⊕ (((List Int) × (List (Int × Int))) ⊕ ((List (List Int)) × (List Int))))
  | (i1, m1, mp1) =>
    if (i1 : Int) < (l0.length : Int) then
      match l0[i1]? with
      | none => none
      | some e1 =>
        match m1[i1]? with
        | none => none
        | some e2 =>
          some (.inl ((i1 + 1), (m1.set i1 (-1)), (mset mp1 (i1 : Int) e1.C)))
    else
      some (.inr (.inl (m1, mp1)))
def punctualref_Played.p3 (z1 : Int) (mp4 : List (Int × Int)) (i2 : Nat) (e3 : SJob) : Option (Bool ⊕ ((List (List Int)) × (List Int))) :=
    if e3.At ≤ z1 then
      some (.inl (decide (((mget mp4 (i2 : Int)).getD 0) > 0)))
    else
      some (.inl false)
def punctualref_Played.r4 (l0 : List SJob) (x1 : Int) (m8 : List Int) (i2 : Nat) : Int → Option (Int ⊕ (Int ⊕ ((List (List Int)) × (List Int))))
  | z2 =>
    if z2 > 0 then
      if 0 ≤ (IntKind.i64.wrap (z2 - 1)) then
        match m8[(IntKind.i64.wrap (z2 - 1)).toNat]? with
        | none => none
        | some e4 =>
          match punctualref_Goes.f l0 (i2 : Int) e4 x1 with
          | none => none
          | some r1 =>
            if r1 = true then
              some (.inl (IntKind.i64.wrap (z2 - 1)))
            else
              some (.inr (.inl z2))
      else
        none
    else
      some (.inr (.inl z2))
def punctualref_Played.r2 (K : Nat) (l0 : List SJob) (x1 : Int) (z1 : Int) (mp4 : List (Int × Int)) : (List Int) × Nat → Option (((List Int) × Nat) ⊕ ((List Int) ⊕ ((List (List Int)) × (List Int))))
  | (m8, i2) =>
    if (i2 : Int) < (l0.length : Int) then
      match l0[i2]? with
      | none => none
      | some e3 =>
        match punctualref_Played.p3 z1 mp4 i2 e3 with
        | none => none
        | some (.inl q2) =>
          if q2 = true then
            match iter (punctualref_Played.r4 l0 x1 m8 i2) K (m8.length : Int) with
            | none => none
            | some (.inl z4) =>
              if 0 ≤ z4 then
                if ((z4).toNat) ≤ m8.length then
                  if ([(i2 : Int)] : List Int).length + ((m8.take m8.length).drop ((z4).toNat)).length ≤ 17592186044416 then
                    if (m8.take ((z4).toNat)).length + (([(i2 : Int)] : List Int) ++ ((m8.take m8.length).drop ((z4).toNat))).length ≤ 17592186044416 then
                      some (.inl (((m8.take ((z4).toNat)) ++ (([(i2 : Int)] : List Int) ++ ((m8.take m8.length).drop ((z4).toNat)))), (i2 + 1)))
                    else
                      none
                  else
                    none
                else
                  none
              else
                none
            | some (.inr rr1) =>
              some (.inr (.inr rr1))
          else
            some (.inl (m8, (i2 + 1)))
        | some (.inr rr2) =>
          some (.inr (.inr rr2))
    else
      some (.inr (.inl m8))
def punctualref_Played.p5 (x2 : Bool) (z1 : Int) (m5 : List (List Int)) (mp4 : List (Int × Int)) (m10 : List Int) : Option ((List Int) ⊕ ((List (List Int)) × (List Int))) :=
    if x2 = true then
      some (.inl m10)
    else
      if z1 > 0 then
        if 0 ≤ (IntKind.i64.wrap (z1 - 1)) then
          match m5[(IntKind.i64.wrap (z1 - 1)).toNat]? with
          | none => none
          | some e5 =>
            if (e5.length : Int) > 0 then
              match e5[0]? with
              | none => none
              | some e6 =>
                if ((mget mp4 e6).getD 0) > 0 then
                  some (.inl ([e6] : List Int))
                else
                  some (.inl m10)
            else
              some (.inl m10)
        else
          none
      else
        some (.inl m10)
def punctualref_Played.p6 (x3 : Int) (m12 : List Int) : Option ((List Int) ⊕ ((List (List Int)) × (List Int))) :=
    if (m12.length : Int) > x3 then
      if 0 ≤ x3 then
        if ((x3).toNat) ≤ m12.length then
          some (.inl (m12.take ((x3).toNat)))
        else
          none
      else
        none
    else
      some (.inl m12)
def punctualref_Played.r7 (z1 : Int) (m14 : List Int) : Int × (List Int) × (List (Int × Int)) → Option ((Int × (List Int) × (List (Int × Int))) ⊕ (((List Int) × (List (Int × Int))) ⊕ ((List (List Int)) × (List Int))))
  | (z5, m15, mp5) =>
    if z5 < (m14.length : Int) then
      if 0 ≤ z5 then
        match m14[(z5).toNat]? with
        | none => none
        | some e8 =>
          if ((mget (mset mp5 e8 (IntKind.i64.wrap (((mget mp5 e8).getD 0) - 1))) e8).getD 0) = 0 then
            if 0 ≤ e8 then
              match m15[(e8).toNat]? with
              | none => none
              | some e9 =>
                some (.inl (IntKind.i64.wrap (z5 + 1), (m15.set ((e8).toNat) (IntKind.i64.wrap (z1 + 1))), (mset mp5 e8 (IntKind.i64.wrap (((mget mp5 e8).getD 0) - 1)))))
            else
              none
          else
            some (.inl (IntKind.i64.wrap (z5 + 1), m15, (mset mp5 e8 (IntKind.i64.wrap (((mget mp5 e8).getD 0) - 1)))))
      else
        none
    else
      some (.inr (.inl (m15, mp5)))
def punctualref_Played.r1 (K : Nat) (l0 : List SJob) (x1 : Int) (x2 : Bool) (x3 : Int) (x4 : Int) : Int × (List Int) × (List (List Int)) × (List (Int × Int)) → Option ((Int × (List Int) × (List (List Int)) × (List (Int × Int))) ⊕ (((List Int) × (List (List Int))) ⊕ ((List (List Int)) × (List Int))))
  | (z1, m4, m5, mp4) =>
    if z1 < x4 then
      if (punctualref_Always.f z1) = true then
        match iter (punctualref_Played.r2 K l0 x1 z1 mp4) K (([] : List Int), 0) with
        | none => none
        | some (.inl m10) =>
          match punctualref_Played.p5 x2 z1 m5 mp4 m10 with
          | none => none
          | some (.inl m12) =>
            match punctualref_Played.p6 x3 m12 with
            | none => none
            | some (.inl m14) =>
              if 0 ≤ z1 then
                match m5[(z1).toNat]? with
                | none => none
                | some e7 =>
                  match iter (punctualref_Played.r7 z1 m14) K (0, m4, mp4) with
                  | none => none
                  | some (.inl (m17, mp7)) =>
                    some (.inl (IntKind.i64.wrap (z1 + 1), m17, (m5.set ((z1).toNat) m14), mp7))
                  | some (.inr rr3) =>
                    some (.inr (.inr rr3))
              else
                none
            | some (.inr rr4) =>
              some (.inr (.inr rr4))
          | some (.inr rr5) =>
            some (.inr (.inr rr5))
        | some (.inr rr6) =>
          some (.inr (.inr rr6))
      else
        some (.inl (IntKind.i64.wrap (z1 + 1), m4, m5, mp4))
    else
      some (.inr (.inl (m4, m5)))
def punctualref_Played.f (K : Nat) (l0 : List SJob) (x1 : Int) (x2 : Bool) (x3 : Int) (x4 : Int) : Option ((List (List Int)) × (List Int)) :=
  if l0.length ≤ 17592186044416 then
    match iter (punctualref_Played.r0 l0) K (0, (List.replicate l0.length (0 : Int)), ([] : List (Int × Int))) with
    | none => none
    | some (.inl (m3, mp3)) =>
      if 0 ≤ x4 then
        if ((x4).toNat) ≤ 5864062014805 then
          match iter (punctualref_Played.r1 K l0 x1 x2 x3 x4) K (0, m3, (List.replicate ((x4).toNat) ([] : List Int)), mp3) with
          | none => none
          | some (.inl (m18, m19)) =>
            some (m19, m18)
          | some (.inr rr7) =>
            some rr7
        else
          none
      else
        none
    | some (.inr rr8) =>
      some rr8
  else
    none
abbrev punctualref_Played.A0 (K : Nat) (w0 : World) (l0 : List SJob) (A0 : Option Addr) (c0 : Nat) (x1 : Int) (x2 : Bool) (x3 : Int) (x4 : Int) (hR0 : RdL w0 A0 l0) (hL0 : l0.length ≤ c0) (b1 : Nat) (hc1 : l0.length ≤ 17592186044416) (Z1 : Option Addr) (cz1 : Nat) : (Nat × (List Int) × (List (Int × Int))) → Act → World → Prop := fun (s : Nat × (List Int) × (List (Int × Int))) a w => St w0 w [Own.of (.slice Z1 s.2.1.length cz1) 3 s.2.1, Own.map (κ := Int) (ν := Int) b1 s.2.2] ∧ Frm 169 a [(0, .slice A0 l0.length c0), (1, .int .i64 x1), (2, .bool x2), (3, .int .i64 x3), (4, .int .i64 x4), (5, .func (.func 135) #[] #[]), (14, .map (some b1)), (15, (.slice Z1 s.2.1.length cz1)), (30, .slice A0 l0.length c0), (31, .int .i64 (l0.length : Int)), (32, .int .i64 (s.1 : Int))]
abbrev punctualref_Played.B0 (K : Nat) (w0 : World) (l0 : List SJob) (A0 : Option Addr) (c0 : Nat) (x1 : Int) (x2 : Bool) (x3 : Int) (x4 : Int) (hR0 : RdL w0 A0 l0) (hL0 : l0.length ≤ c0) (b1 : Nat) (hc1 : l0.length ≤ 17592186044416) (Z1 : Option Addr) (cz1 : Nat) : (((List Int) × (List (Int × Int))) ⊕ ((List (List Int)) × (List Int))) → Exit → Act → World → Prop := Exits 0 (fun (s : (List Int) × (List (Int × Int))) a w => St w0 w [Own.of (.slice Z1 s.1.length cz1) 3 s.1, Own.map (κ := Int) (ν := Int) b1 s.2] ∧ Frm 169 a [(0, .slice A0 l0.length c0), (1, .int .i64 x1), (2, .bool x2), (3, .int .i64 x3), (4, .int .i64 x4), (5, .func (.func 135) #[] #[]), (14, .map (some b1)), (15, (.slice Z1 s.1.length cz1))]) (Rets Tryd.prog Tryd.f88 (punctualref_Played.Post w0))
theorem punctualref_Played_r0 (K : Nat) (w0 : World) (l0 : List SJob) (A0 : Option Addr) (c0 : Nat) (x1 : Int) (x2 : Bool) (x3 : Int) (x4 : Int) (hR0 : RdL w0 A0 l0) (hL0 : l0.length ≤ c0) (b1 : Nat) (hc1 : l0.length ≤ 17592186044416) (Z1 : Option Addr) (cz1 : Nat) (s : Nat × (List Int) × (List (Int × Int))) (o : (Nat × (List Int) × (List (Int × Int))) ⊕ (((List Int) × (List (Int × Int))) ⊕ ((List (List Int)) × (List Int)))) (h : punctualref_Played.r0 l0 s = some o) (a : Act) (w : World) (hA : punctualref_Played.A0 K w0 l0 A0 c0 x1 x2 x3 x4 hR0 hL0 b1 hc1 Z1 cz1 s a w) (Q : Exit → Act → World → Prop) (hQ : ∀ x a w, Outs (punctualref_Played.A0 K w0 l0 A0 c0 x1 x2 x3 x4 hR0 hL0 b1 hc1 Z1 cz1) (punctualref_Played.B0 K w0 l0 A0 c0 x1 x2 x3 x4 hR0 hL0 b1 hc1 Z1 cz1) o x a w → Q x a w) : (subF Tryd.f88 [1, 1, 1, 0, 1, 0, 0]).wp Tryd.prog Q a w := by
  obtain ⟨i1, m1, mp1⟩ := s
  obtain ⟨hS, hF⟩ := hA
  replace hS : St w0 w [Own.of (.slice Z1 m1.length cz1) 3 m1, Own.map (κ := Int) (ν := Int) b1 mp1] := hS
  simp only [punctualref_Played.r0] at h
  refine (?_ : WE Tryd.prog 169 (subF Tryd.f88 [1, 1, 1, 0, 1, 0, 0]) Q [(0, .slice A0 l0.length c0), (1, .int .i64 x1), (2, .bool x2), (3, .int .i64 x3), (4, .int .i64 x4), (5, .func (.func 135) #[] #[]), (14, .map (some b1)), (15, (.slice Z1 m1.length cz1)), (30, .slice A0 l0.length c0), (31, .int .i64 (l0.length : Int)), (32, .int .i64 (i1 : Int))] w) a hF
  clear hF a
  refine we_seq fun K6 hK6 => ?_
  refine we_region [(0, 0)] rfl ?_
  refine ge_batch [0] (ans := []) (vs := [(33, .bool (decide ((i1 : Int) < (l0.length : Int))))]) (l := []) (by kernel_rfl) trivial ?_
  refine ge_nil fun a hF => hK6 _ _ ?_ a hF
  refine we_seq fun K7 hK7 => ?_
  by_cases hc2 : (i1 : Int) < (l0.length : Int)
  · rw [if_pos hc2] at h
    refine we_known (t := 33) (b := decide ((i1 : Int) < (l0.length : Int))) (v := true) (by kernel_rfl) (decide_eq_true hc2) ?_
    refine we_true (by kernel_rfl) ?_
    refine we_skip fun a hF => hK7 _ _ ?_ a hF
    refine we_seq fun K8 hK8 => ?_
    refine we_block ?_
    refine we_seq fun K9 hK9 => ?_
    refine we_region [(0, 0), (1, 0), (2, 0), (3, 1), (4, 0), (5, 2)] rfl ?_
    refine ge_batch [0] (ans := []) (vs := [(34, .int .i64 (i1 : Int))]) (l := []) (by kernel_rfl) trivial ?_
    rcases hx2 : l0[i1]? with _ | e1
    · rw [hx2] at h; cases h
    rw [hx2] at h
    simp only [] at h
    refine ge_index (d := 35) (ty := 0) (t := 49) (el := 58) (sz := 5) (m := l0.length) (c := c0) (x := (.tmp 30)) (y := (.tmp 32)) (A := A0) (k' := .i64) (j := (i1 : Int)) (jn := i1) (b0 := blkOf A0) (o0 := offOf A0) (by kernel_rfl) (by kernel_rfl) (by kernel_rfl) (by kernel_rfl) (by kernel_rfl) ((hS.rd hR0).eqSome (pos_of_get hx2)) rfl (lt_of_get hx2) ?_
    refine ge_batch [2] (ans := [.val (.int .i64 e1.Task), .val (.int .i64 e1.At), .val (.int .i64 e1.C), .val (.int .i64 e1.Due), .val (.int .i64 e1.P)]) (vs := [(36, .agg #[.int .i64 e1.Task, .int .i64 e1.At, .int .i64 e1.C, .int .i64 e1.Due, .int .i64 e1.P])]) (l := [.loaded ⟨blkOf A0, offOf A0 + i1 * 5, none⟩ (.int .i64 e1.Task), .loaded ⟨blkOf A0, offOf A0 + i1 * 5 + 1, none⟩ (.int .i64 e1.At), .loaded ⟨blkOf A0, offOf A0 + i1 * 5 + 2, none⟩ (.int .i64 e1.C), .loaded ⟨blkOf A0, offOf A0 + i1 * 5 + 3, none⟩ (.int .i64 e1.Due), .loaded ⟨blkOf A0, offOf A0 + i1 * 5 + 4, none⟩ (.int .i64 e1.P)]) (by kernel_rfl) ⟨RdL.cell (j := 0) (hS.rd hR0) hx2 rfl, RdL.cell (j := 1) (hS.rd hR0) hx2 rfl, RdL.cell (j := 2) (hS.rd hR0) hx2 rfl, RdL.cell (j := 3) (hS.rd hR0) hx2 rfl, RdL.cell (j := 4) (hS.rd hR0) hx2 rfl, trivial⟩ ?_
    refine ge_new (d := some 17) (o := .cells #[.int .i64 0, .int .i64 0, .int .i64 0, .int .i64 0, .int .i64 0] 58) (v := fun b => .pointer (some ⟨b, 0, none⟩)) hS (fun b => by kernel_rfl) fun b2 w3 hx3 hS6 => ?_
    refine ge_batch [4] (ans := []) (vs := [(16, .int .i64 (i1 : Int))]) (l := []) (by kernel_rfl) trivial ?_
    refine ge_set (b := b2) (j := 0) (cs := #[.int .i64 0, .int .i64 0, .int .i64 0, .int .i64 0, .int .i64 0]) (t := 58) (vs := [.int .i64 e1.Task, .int .i64 e1.At, .int .i64 e1.C, .int .i64 e1.Due, .int .i64 e1.P]) hS6 (by kernel_rfl) rfl rfl fun w4 hS7 => ?_
    have hS8 : St w0 w4 [Own.blk b2 (.cells #[.int .i64 e1.Task, .int .i64 e1.At, .int .i64 e1.C, .int .i64 e1.Due, .int .i64 e1.P] 58 (0, 0)), Own.of (.slice Z1 m1.length cz1) 3 m1, Own.map (κ := Int) (ν := Int) b1 mp1] := hS7
    refine ge_nil fun a hF => hK9 _ _ ?_ a hF
    refine we_seq fun K10 hK10 => ?_
    refine we_region [(0, 0), (1, 0), (2, 0), (3, 0), (4, 2)] rfl ?_
    refine ge_batch [0, 1, 2, 3] (ans := [.val (.int .i64 e1.C)]) (vs := [(40, .int .i64 e1.C), (39, .pointer (some ⟨b2, 2, none⟩)), (38, .int .i64 (i1 : Int)), (37, .map (some b1))]) (l := [.loaded ⟨b2, 2, none⟩ (.int .i64 e1.C)]) (by kernel_rfl) ⟨hS8.cell 0 rfl rfl, trivial⟩ ?_
    have hS9 := hS8.bring 2 rfl
    refine ge_mapSet (κ := Int) (ν := Int) (b := b1) (ins := false) (mm := 0) (t := 161) (kt := 3) (et := 3) (x := (.tmp 37)) (y := (.tmp 38)) (u := (.tmp 40)) (ty := 0) (m := mp1) (k := (i1 : Int)) (v := e1.C) (vv := .int .i64 e1.C) (by kernel_rfl) (by kernel_rfl) (by kernel_rfl) (by kernel_rfl) rfl (by kernel_rfl) (by kernel_rfl) hS9 fun w5 hS10 => ?_
    refine ge_nil fun a hF => hK10 _ _ ?_ a hF
    refine we_region [(0, 0), (1, 0), (2, 0), (3, 2)] rfl ?_
    refine ge_batch [0, 1] (ans := []) (vs := [(42, .int .i64 (i1 : Int)), (41, (.slice Z1 m1.length cz1))]) (l := []) (by kernel_rfl) trivial ?_
    rcases hx4 : m1[i1]? with _ | e2
    · rw [hx4] at h; cases h
    rw [hx4] at h
    simp only [] at h
    refine ge_index (d := 43) (ty := 0) (t := 24) (el := 3) (sz := 1) (m := m1.length) (c := cz1) (x := (.tmp 41)) (y := (.tmp 42)) (A := Z1) (k' := .i64) (j := (i1 : Int)) (jn := i1) (b0 := blkOf Z1) (o0 := offOf Z1) (by kernel_rfl) (by kernel_rfl) (by kernel_rfl) (by kernel_rfl) (by kernel_rfl) ((hS10.rdAt 2 rfl).eqSome (pos_of_get hx4)) rfl (lt_of_get hx4) ?_
    have hS11 := hS10.bring 2 rfl
    refine ge_seti (α := Int) (A := Z1) (nn := m1.length) (c := cz1) (t := 3) (l := m1) (x := e2) (x' := (-1)) (jn := i1) (j := 0) (vs := [.int .i64 (-1)]) (l' := [.stored ⟨blkOf Z1, offOf Z1 + i1 * 1, none⟩ (.int .i64 (-1))]) hS11 (by kernel_rfl) (by kernel_rfl) hx4 rfl rfl rfl fun w6 hS12 => ?_
    have hS13 : St w0 w6 [Own.of (.slice Z1 m1.length cz1) 3 (m1.set i1 (-1)), Own.map (κ := Int) (ν := Int) b1 (mset mp1 (i1 : Int) e1.C), Own.blk b2 (.cells #[.int .i64 e1.Task, .int .i64 e1.At, .int .i64 e1.C, .int .i64 e1.Due, .int .i64 e1.P] 58 (0, 0))] := hS12
    have hE1 : m1.length = (m1.set i1 (-1)).length := hS13.lenAt 0 rfl
    have hS14 : St w0 w6 [Own.of (.slice Z1 (m1.set i1 (-1)).length cz1) 3 (m1.set i1 (-1)), Own.map (κ := Int) (ν := Int) b1 (mset mp1 (i1 : Int) e1.C), Own.blk b2 (.cells #[.int .i64 e1.Task, .int .i64 e1.At, .int .i64 e1.C, .int .i64 e1.Due, .int .i64 e1.P] 58 (0, 0))] := by rw [← hE1]; exact hS13
    refine ge_same (t := 15) (v := (.slice Z1 m1.length cz1)) (v' := (.slice Z1 (m1.set i1 (-1)).length cz1)) (by kernel_rfl) (by rw [hE1]) ?_
    refine ge_same (t := 41) (v := (.slice Z1 m1.length cz1)) (v' := (.slice Z1 (m1.set i1 (-1)).length cz1)) (by kernel_rfl) (by rw [hE1]) ?_
    refine ge_nil fun a hF => hK8 _ _ ?_ a hF
    refine we_region [(0, 0), (1, 0)] rfl ?_
    refine ge_addn (d := 44) (ty := 3) (x := (.tmp 32)) (y := (.const (.int .i64 1))) (t := 3) (t2 := 3) (k := .i64) (m := i1) (by kernel_rfl) (by kernel_rfl) (by kernel_rfl) (by have h0 := hR0.small; omega) ?_
    refine ge_batch [1] (ans := []) (vs := [(32, .int .i64 ((i1 + 1 : Nat) : Int))]) (l := []) (by kernel_rfl) trivial ?_
    have hS15 := hS14.bring 1 rfl
    have hS16 := hS15.bring 1 rfl
    have hS17 := hS16.takeN 2
    obtain rfl := Option.some.inj h
    exact ge_nil fun a hF => hQ _ _ _ (Outs.again ⟨hS17, hF.weaken ⟨by kernel_rfl, by kernel_rfl, by kernel_rfl, by kernel_rfl, by kernel_rfl, by kernel_rfl, by kernel_rfl, by kernel_rfl, by kernel_rfl, by kernel_rfl, by kernel_rfl, trivial⟩⟩)
  · rw [if_neg hc2] at h
    refine we_known (t := 33) (b := decide ((i1 : Int) < (l0.length : Int))) (v := false) (by kernel_rfl) (decide_eq_false hc2) ?_
    refine we_false (by kernel_rfl) ?_
    have hS18 := hS.bring 1 rfl
    have hS19 := hS18.bring 1 rfl
    obtain rfl := Option.some.inj h
    exact we_exit fun a hF => hQ _ _ _ (Outs.out nofun (Exits.here ⟨hS19, hF.weaken ⟨by kernel_rfl, by kernel_rfl, by kernel_rfl, by kernel_rfl, by kernel_rfl, by kernel_rfl, by kernel_rfl, by kernel_rfl, trivial⟩⟩))
abbrev punctualref_Played.A3 (K : Nat) (w0 : World) (l0 : List SJob) (A0 : Option Addr) (c0 : Nat) (x1 : Int) (x2 : Bool) (x3 : Int) (x4 : Int) (hR0 : RdL w0 A0 l0) (hL0 : l0.length ≤ c0) (b1 : Nat) (hc1 : l0.length ≤ 17592186044416) (Z1 : Option Addr) (cz1 : Nat) (m3 : List Int) (mp3 : List (Int × Int)) (hc3 : 0 ≤ x4) (hc4 : ((x4).toNat) ≤ 5864062014805) (xr1 : Rows) (z1 : Int) (m4 : List Int) (m5 : List (List Int)) (xr2 : Rows) (mp4 : List (Int × Int)) (hc5 : z1 < x4) (hc6 : (punctualref_Always.f z1) = true) (m8 : List Int) (i2 : Nat) (hc7 : (i2 : Int) < (l0.length : Int)) (e3 : SJob) (hx5 : l0[i2]? = some e3) (b3 : Nat) (Z2 : Option Addr) (cz2 : Nat) : Bool → Act → World → Prop := fun (s : Bool) a w => St w0 w [Own.of (.slice Z1 m4.length cz1) 3 m4, Own.nest xr2 24 3 m5, Own.of (.slice Z2 m8.length cz2) 3 m8, Own.map (κ := Int) (ν := Int) b1 mp4] ∧ Frm 169 a [(0, .slice A0 l0.length c0), (1, .int .i64 x1), (2, .bool x2), (3, .int .i64 x3), (4, .int .i64 x4), (5, .func (.func 135) #[] #[]), (14, .map (some b1)), (15, (.slice Z1 m4.length cz1)), (18, (Rows.val xr2)), (19, .int .i64 z1), (20, (.slice Z2 m8.length cz2)), (21, .int .i64 (i2 : Int)), (56, .slice A0 l0.length c0), (57, .int .i64 (l0.length : Int)), (58, .int .i64 (i2 : Int)), (72, .bool s)]
abbrev punctualref_Played.B3 (K : Nat) (w0 : World) (l0 : List SJob) (A0 : Option Addr) (c0 : Nat) (x1 : Int) (x2 : Bool) (x3 : Int) (x4 : Int) (hR0 : RdL w0 A0 l0) (hL0 : l0.length ≤ c0) (b1 : Nat) (hc1 : l0.length ≤ 17592186044416) (Z1 : Option Addr) (cz1 : Nat) (m3 : List Int) (mp3 : List (Int × Int)) (hc3 : 0 ≤ x4) (hc4 : ((x4).toNat) ≤ 5864062014805) (xr1 : Rows) (z1 : Int) (m4 : List Int) (m5 : List (List Int)) (xr2 : Rows) (mp4 : List (Int × Int)) (hc5 : z1 < x4) (hc6 : (punctualref_Always.f z1) = true) (m8 : List Int) (i2 : Nat) (hc7 : (i2 : Int) < (l0.length : Int)) (e3 : SJob) (hx5 : l0[i2]? = some e3) (b3 : Nat) (Z2 : Option Addr) (cz2 : Nat) : ((List (List Int)) × (List Int)) → Exit → Act → World → Prop := Rets Tryd.prog Tryd.f88 (punctualref_Played.Post w0)
theorem punctualref_Played_p3 (K : Nat) (w0 : World) (l0 : List SJob) (A0 : Option Addr) (c0 : Nat) (x1 : Int) (x2 : Bool) (x3 : Int) (x4 : Int) (hR0 : RdL w0 A0 l0) (hL0 : l0.length ≤ c0) (b1 : Nat) (hc1 : l0.length ≤ 17592186044416) (Z1 : Option Addr) (cz1 : Nat) (m3 : List Int) (mp3 : List (Int × Int)) (hc3 : 0 ≤ x4) (hc4 : ((x4).toNat) ≤ 5864062014805) (xr1 : Rows) (z1 : Int) (m4 : List Int) (m5 : List (List Int)) (xr2 : Rows) (mp4 : List (Int × Int)) (hc5 : z1 < x4) (hc6 : (punctualref_Always.f z1) = true) (m8 : List Int) (i2 : Nat) (hc7 : (i2 : Int) < (l0.length : Int)) (e3 : SJob) (hx5 : l0[i2]? = some e3) (b3 : Nat) (Z2 : Option Addr) (cz2 : Nat) (o : Bool ⊕ ((List (List Int)) × (List Int))) (h : punctualref_Played.p3 z1 mp4 i2 e3 = some o) (w : World) (hS : St w0 w [Own.blk b3 (.cells #[.int .i64 e3.Task, .int .i64 e3.At, .int .i64 e3.C, .int .i64 e3.Due, .int .i64 e3.P] 58 (0, 0)), Own.of (.slice Z1 m4.length cz1) 3 m4, Own.nest xr2 24 3 m5, Own.of (.slice Z2 m8.length cz2) 3 m8, Own.map (κ := Int) (ν := Int) b1 mp4]) (Q : Exit → Act → World → Prop) (hQ : ∀ x a w, Outs (punctualref_Played.A3 K w0 l0 A0 c0 x1 x2 x3 x4 hR0 hL0 b1 hc1 Z1 cz1 m3 mp3 hc3 hc4 xr1 z1 m4 m5 xr2 mp4 hc5 hc6 m8 i2 hc7 e3 hx5 b3 Z2 cz2) (punctualref_Played.B3 K w0 l0 A0 c0 x1 x2 x3 x4 hR0 hL0 b1 hc1 Z1 cz1 m3 mp3 hc3 hc4 xr1 z1 m4 m5 xr2 mp4 hc5 hc6 m8 i2 hc7 e3 hx5 b3 Z2 cz2) o x a w → Q x a w) : WE Tryd.prog 169 (subF Tryd.f88 [1, 1, 1, 1, 1, 0, 1, 0, 0, 1, 0, 0, 1, 1, 0, 1, 0, 0, 1, 1, 0, 0, 1, 0]) Q [(0, .slice A0 l0.length c0), (1, .int .i64 x1), (2, .bool x2), (3, .int .i64 x3), (4, .int .i64 x4), (5, .func (.func 135) #[] #[]), (14, .map (some b1)), (15, (.slice Z1 m4.length cz1)), (18, (Rows.val xr2)), (19, .int .i64 z1), (20, (.slice Z2 m8.length cz2)), (21, .int .i64 (i2 : Int)), (22, .pointer (some ⟨b3, 0, none⟩)), (56, .slice A0 l0.length c0), (57, .int .i64 (l0.length : Int)), (58, .int .i64 (i2 : Int)), (59, .bool true), (60, .int .i64 (i2 : Int)), (61, .pointer (some ⟨blkOf A0, offOf A0 + i2 * 5, none⟩)), (62, .agg #[.int .i64 e3.Task, .int .i64 e3.At, .int .i64 e3.C, .int .i64 e3.Due, .int .i64 e3.P])] w := by
  simp only [punctualref_Played.p3] at h
  refine we_region [(0, 0), (1, 0), (2, 0), (3, 0), (4, 0), (5, 0), (6, 0), (7, 0), (8, 0), (9, 0)] rfl ?_
  refine ge_batch [0, 1, 2, 3, 4] (ans := [.val (.int .i64 e3.At)]) (vs := [(67, .bool (decide (e3.At ≤ z1))), (66, .bool (decide (e3.At ≤ z1))), (65, .int .i64 z1), (64, .int .i64 e3.At), (63, .pointer (some ⟨b3, 1, none⟩))]) (l := [.loaded ⟨b3, 1, none⟩ (.int .i64 e3.At)]) (by kernel_rfl) ⟨hS.cell 0 rfl rfl, trivial⟩ ?_
  by_cases hc8 : e3.At ≤ z1
  · rw [if_pos hc8] at h
    refine ge_known (t := 67) (b := decide (e3.At ≤ z1)) (c := true) (by kernel_rfl) (decide_eq_true hc8) ?_
    refine ge_batch [5, 6] (ans := []) (vs := [(69, .int .i64 (i2 : Int)), (68, .map (some b1))]) (l := []) (by kernel_rfl) trivial ?_
    refine ge_lookup (κ := Int) (ν := Int) (d := 70) (b := b1) (q := 4) (t := 161) (kt := 3) (et := 3) (x := (.tmp 68)) (y := (.tmp 69)) (ty := 3) (m := mp4) (k := (i2 : Int)) (z := 0) (v := ((mget mp4 (i2 : Int)).getD 0)) (zv := .int .i64 0) (vv := .int .i64 ((mget mp4 (i2 : Int)).getD 0)) (by kernel_rfl) (by kernel_rfl) (by kernel_rfl) (by kernel_rfl) (by kernel_rfl) (fun w' => by kernel_rfl) rfl hS rfl rfl rfl ?_
    refine ge_batch [8, 9] (ans := []) (vs := [(72, .bool (decide (((mget mp4 (i2 : Int)).getD 0) > 0))), (71, .bool (decide (((mget mp4 (i2 : Int)).getD 0) > 0)))]) (l := []) (by kernel_rfl) trivial ?_
    have hS36 := hS.bring 4 rfl
    have hS37 := hS36.bring 4 rfl
    have hS38 := hS37.bring 4 rfl
    have hS39 := hS38.bring 4 rfl
    have hS40 := hS39.takeN 4
    obtain rfl := Option.some.inj h
    exact ge_nil fun a hF => hQ _ _ _ (Outs.again ⟨hS40, hF.weaken ⟨by kernel_rfl, by kernel_rfl, by kernel_rfl, by kernel_rfl, by kernel_rfl, by kernel_rfl, by kernel_rfl, by kernel_rfl, by kernel_rfl, by kernel_rfl, by kernel_rfl, by kernel_rfl, by kernel_rfl, by kernel_rfl, by kernel_rfl, by kernel_rfl, trivial⟩⟩)
  · rw [if_neg hc8] at h
    refine ge_known (t := 67) (b := decide (e3.At ≤ z1)) (c := false) (by kernel_rfl) (decide_eq_false hc8) ?_
    refine ge_batch [5, 6, 7, 8, 9] (ans := []) (vs := [(72, .bool false), (71, undef), (70, undef), (69, undef), (68, undef)]) (l := []) (by kernel_rfl) trivial ?_
    have hS41 := hS.bring 4 rfl
    have hS42 := hS41.bring 4 rfl
    have hS43 := hS42.bring 4 rfl
    have hS44 := hS43.bring 4 rfl
    have hS45 := hS44.takeN 4
    obtain rfl := Option.some.inj h
    exact ge_nil fun a hF => hQ _ _ _ (Outs.again ⟨hS45, hF.weaken ⟨by kernel_rfl, by kernel_rfl, by kernel_rfl, by kernel_rfl, by kernel_rfl, by kernel_rfl, by kernel_rfl, by kernel_rfl, by kernel_rfl, by kernel_rfl, by kernel_rfl, by kernel_rfl, by kernel_rfl, by kernel_rfl, by kernel_rfl, by kernel_rfl, trivial⟩⟩)
abbrev punctualref_Played.A4 (K : Nat) (w0 : World) (l0 : List SJob) (A0 : Option Addr) (c0 : Nat) (x1 : Int) (x2 : Bool) (x3 : Int) (x4 : Int) (hR0 : RdL w0 A0 l0) (hL0 : l0.length ≤ c0) (b1 : Nat) (hc1 : l0.length ≤ 17592186044416) (Z1 : Option Addr) (cz1 : Nat) (m3 : List Int) (mp3 : List (Int × Int)) (hc3 : 0 ≤ x4) (hc4 : ((x4).toNat) ≤ 5864062014805) (xr1 : Rows) (z1 : Int) (m4 : List Int) (m5 : List (List Int)) (xr2 : Rows) (mp4 : List (Int × Int)) (hc5 : z1 < x4) (hc6 : (punctualref_Always.f z1) = true) (m8 : List Int) (i2 : Nat) (hc7 : (i2 : Int) < (l0.length : Int)) (e3 : SJob) (hx5 : l0[i2]? = some e3) (b3 : Nat) (Z2 : Option Addr) (cz2 : Nat) (q2 : Bool) (hc9 : q2 = true) : Int → Act → World → Prop := fun (s : Int) a w => St w0 w [Own.of (.slice Z1 m4.length cz1) 3 m4, Own.nest xr2 24 3 m5, Own.of (.slice Z2 m8.length cz2) 3 m8, Own.map (κ := Int) (ν := Int) b1 mp4] ∧ Frm 169 a [(0, .slice A0 l0.length c0), (1, .int .i64 x1), (2, .bool x2), (3, .int .i64 x3), (4, .int .i64 x4), (5, .func (.func 135) #[] #[]), (14, .map (some b1)), (15, (.slice Z1 m4.length cz1)), (18, (Rows.val xr2)), (19, .int .i64 z1), (20, (.slice Z2 m8.length cz2)), (21, .int .i64 (i2 : Int)), (23, .int .i64 s), (56, .slice A0 l0.length c0), (57, .int .i64 (l0.length : Int)), (58, .int .i64 (i2 : Int))]
abbrev punctualref_Played.B4 (K : Nat) (w0 : World) (l0 : List SJob) (A0 : Option Addr) (c0 : Nat) (x1 : Int) (x2 : Bool) (x3 : Int) (x4 : Int) (hR0 : RdL w0 A0 l0) (hL0 : l0.length ≤ c0) (b1 : Nat) (hc1 : l0.length ≤ 17592186044416) (Z1 : Option Addr) (cz1 : Nat) (m3 : List Int) (mp3 : List (Int × Int)) (hc3 : 0 ≤ x4) (hc4 : ((x4).toNat) ≤ 5864062014805) (xr1 : Rows) (z1 : Int) (m4 : List Int) (m5 : List (List Int)) (xr2 : Rows) (mp4 : List (Int × Int)) (hc5 : z1 < x4) (hc6 : (punctualref_Always.f z1) = true) (m8 : List Int) (i2 : Nat) (hc7 : (i2 : Int) < (l0.length : Int)) (e3 : SJob) (hx5 : l0[i2]? = some e3) (b3 : Nat) (Z2 : Option Addr) (cz2 : Nat) (q2 : Bool) (hc9 : q2 = true) : (Int ⊕ ((List (List Int)) × (List Int))) → Exit → Act → World → Prop := Exits 6 (fun (s : Int) a w => St w0 w [Own.of (.slice Z1 m4.length cz1) 3 m4, Own.nest xr2 24 3 m5, Own.of (.slice Z2 m8.length cz2) 3 m8, Own.map (κ := Int) (ν := Int) b1 mp4] ∧ Frm 169 a [(0, .slice A0 l0.length c0), (1, .int .i64 x1), (2, .bool x2), (3, .int .i64 x3), (4, .int .i64 x4), (5, .func (.func 135) #[] #[]), (14, .map (some b1)), (15, (.slice Z1 m4.length cz1)), (18, (Rows.val xr2)), (19, .int .i64 z1), (20, (.slice Z2 m8.length cz2)), (21, .int .i64 (i2 : Int)), (23, .int .i64 s), (56, .slice A0 l0.length c0), (57, .int .i64 (l0.length : Int)), (58, .int .i64 (i2 : Int))]) (Rets Tryd.prog Tryd.f88 (punctualref_Played.Post w0))
theorem punctualref_Played_r4 (K : Nat) (w0 : World) (l0 : List SJob) (A0 : Option Addr) (c0 : Nat) (x1 : Int) (x2 : Bool) (x3 : Int) (x4 : Int) (hR0 : RdL w0 A0 l0) (hL0 : l0.length ≤ c0) (b1 : Nat) (hc1 : l0.length ≤ 17592186044416) (Z1 : Option Addr) (cz1 : Nat) (m3 : List Int) (mp3 : List (Int × Int)) (hc3 : 0 ≤ x4) (hc4 : ((x4).toNat) ≤ 5864062014805) (xr1 : Rows) (z1 : Int) (m4 : List Int) (m5 : List (List Int)) (xr2 : Rows) (mp4 : List (Int × Int)) (hc5 : z1 < x4) (hc6 : (punctualref_Always.f z1) = true) (m8 : List Int) (i2 : Nat) (hc7 : (i2 : Int) < (l0.length : Int)) (e3 : SJob) (hx5 : l0[i2]? = some e3) (b3 : Nat) (Z2 : Option Addr) (cz2 : Nat) (q2 : Bool) (hc9 : q2 = true) (s : Int) (o : Int ⊕ (Int ⊕ ((List (List Int)) × (List Int)))) (h : punctualref_Played.r4 l0 x1 m8 i2 s = some o) (a : Act) (w : World) (hA : punctualref_Played.A4 K w0 l0 A0 c0 x1 x2 x3 x4 hR0 hL0 b1 hc1 Z1 cz1 m3 mp3 hc3 hc4 xr1 z1 m4 m5 xr2 mp4 hc5 hc6 m8 i2 hc7 e3 hx5 b3 Z2 cz2 q2 hc9 s a w) (Q : Exit → Act → World → Prop) (hQ : ∀ x a w, Outs (punctualref_Played.A4 K w0 l0 A0 c0 x1 x2 x3 x4 hR0 hL0 b1 hc1 Z1 cz1 m3 mp3 hc3 hc4 xr1 z1 m4 m5 xr2 mp4 hc5 hc6 m8 i2 hc7 e3 hx5 b3 Z2 cz2 q2 hc9) (punctualref_Played.B4 K w0 l0 A0 c0 x1 x2 x3 x4 hR0 hL0 b1 hc1 Z1 cz1 m3 mp3 hc3 hc4 xr1 z1 m4 m5 xr2 mp4 hc5 hc6 m8 i2 hc7 e3 hx5 b3 Z2 cz2 q2 hc9) o x a w → Q x a w) : (subF Tryd.f88 [1, 1, 1, 1, 1, 0, 1, 0, 0, 1, 0, 0, 1, 1, 0, 1, 0, 0, 1, 1, 0, 0, 1, 1, 0, 1, 0, 0, 0]).wp Tryd.prog Q a w := by
  obtain ⟨z2, hs⟩ : ∃ z, z = s := ⟨s, rfl⟩
  subst hs
  obtain ⟨hS, hF⟩ := hA
  replace hS : St w0 w [Own.of (.slice Z1 m4.length cz1) 3 m4, Own.nest xr2 24 3 m5, Own.of (.slice Z2 m8.length cz2) 3 m8, Own.map (κ := Int) (ν := Int) b1 mp4] := hS
  simp only [punctualref_Played.r4] at h
  refine (?_ : WE Tryd.prog 169 (subF Tryd.f88 [1, 1, 1, 1, 1, 0, 1, 0, 0, 1, 0, 0, 1, 1, 0, 1, 0, 0, 1, 1, 0, 0, 1, 1, 0, 1, 0, 0, 0]) Q [(0, .slice A0 l0.length c0), (1, .int .i64 x1), (2, .bool x2), (3, .int .i64 x3), (4, .int .i64 x4), (5, .func (.func 135) #[] #[]), (14, .map (some b1)), (15, (.slice Z1 m4.length cz1)), (18, (Rows.val xr2)), (19, .int .i64 z1), (20, (.slice Z2 m8.length cz2)), (21, .int .i64 (i2 : Int)), (23, .int .i64 z2), (56, .slice A0 l0.length c0), (57, .int .i64 (l0.length : Int)), (58, .int .i64 (i2 : Int))] w) a hF
  clear hF a
  refine we_seq fun K29 hK29 => ?_
  refine we_seq fun K30 hK30 => ?_
  refine we_region [(0, 0), (1, 0), (2, 0), (3, 0), (4, 0), (5, 0), (6, 0), (7, 0), (8, 0), (9, 0), (10, 0), (11, 1), (12, 0)] rfl ?_
  refine ge_batch [0, 1, 2] (ans := []) (vs := [(77, .bool (decide (z2 > 0))), (76, .bool (decide (z2 > 0))), (75, .int .i64 z2)]) (l := []) (by kernel_rfl) trivial ?_
  by_cases hc10 : z2 > 0
  · rw [if_pos hc10] at h
    refine ge_known (t := 77) (b := decide (z2 > 0)) (c := true) (by kernel_rfl) (decide_eq_true hc10) ?_
    refine ge_batch [3, 4, 5, 6, 7] (ans := []) (vs := [(82, .int .i64 (IntKind.i64.wrap (z2 - 1))), (81, .int .i64 z2), (80, (.slice Z2 m8.length cz2)), (79, .int .i64 (i2 : Int)), (78, .slice A0 l0.length c0)]) (l := []) (by kernel_rfl) trivial ?_
    by_cases hc11 : 0 ≤ (IntKind.i64.wrap (z2 - 1))
    · rw [if_pos hc11] at h
      rcases hx7 : m8[(IntKind.i64.wrap (z2 - 1)).toNat]? with _ | e4
      · rw [hx7] at h; cases h
      rw [hx7] at h
      simp only [] at h
      refine ge_index (d := 83) (ty := 0) (t := 24) (el := 3) (sz := 1) (m := m8.length) (c := cz2) (x := (.tmp 80)) (y := (.tmp 82)) (A := Z2) (k' := .i64) (j := (IntKind.i64.wrap (z2 - 1))) (jn := ((IntKind.i64.wrap (z2 - 1)).toNat)) (b0 := blkOf Z2) (o0 := offOf Z2) (by kernel_rfl) (by kernel_rfl) (by kernel_rfl) (by kernel_rfl) (by kernel_rfl) ((hS.rdAt 2 rfl).eqSome (pos_of_get hx7)) (Int.toNat_of_nonneg hc11).symm (lt_of_get hx7) ?_
      rcases hq4 : punctualref_Goes.f l0 (i2 : Int) e4 x1 with _ | r1
      · rw [hq4] at h; cases h
      rw [hq4] at h
      simp only [] at h
      refine ge_batch [9, 10] (ans := [.val (.int .i64 e4)]) (vs := [(85, .int .i64 x1), (84, .int .i64 e4)]) (l := [.loaded ⟨blkOf Z2, offOf Z2 + ((IntKind.i64.wrap (z2 - 1)).toNat) * 1, none⟩ (.int .i64 e4)]) (by kernel_rfl) ⟨RdL.cell (j := 0) (hS.rdAt 2 rfl) hx7 rfl, trivial⟩ ?_
      refine ge_call (d := some 86) (f := 127) (args := #[.slice A0 l0.length c0, .int .i64 (i2 : Int), .int .i64 e4, .int .i64 x1]) (by kernel_rfl) (punctualref_Goes_ok l0 A0 c0 (i2 : Int) e4 x1 _ (hS.rd hR0) hL0 _ hq4) ?_
      rintro _ w13 ⟨rfl, hS51⟩
      refine ⟨_, rfl, hS51.below, ?_⟩
      have hS52 := hS.call hS51
      refine ge_batch [12] (ans := []) (vs := [(87, .bool r1)]) (l := []) (by kernel_rfl) trivial ?_
      refine ge_nil fun a hF => hK30 _ _ ?_ a hF
      by_cases hc12 : r1 = true
      · rw [if_pos hc12] at h
        refine we_known (t := 87) (b := r1) (v := true) (by kernel_rfl) hc12 ?_
        refine we_true (by kernel_rfl) ?_
        refine we_skip fun a hF => hK29 _ _ ?_ a hF
        refine we_block ?_
        refine we_region [(0, 0), (1, 0), (2, 0)] rfl ?_
        refine ge_batch [0, 1, 2] (ans := []) (vs := [(23, .int .i64 (IntKind.i64.wrap (z2 - 1))), (89, .int .i64 (IntKind.i64.wrap (z2 - 1))), (88, .int .i64 z2)]) (l := []) (by kernel_rfl) trivial ?_
        have hS53 := hS52.bring 3 rfl
        have hS54 := hS53.bring 3 rfl
        have hS55 := hS54.bring 3 rfl
        have hS56 := hS55.bring 3 rfl
        obtain rfl := Option.some.inj h
        exact ge_nil fun a hF => hQ _ _ _ (Outs.again ⟨hS56, hF.weaken ⟨by kernel_rfl, by kernel_rfl, by kernel_rfl, by kernel_rfl, by kernel_rfl, by kernel_rfl, by kernel_rfl, by kernel_rfl, by kernel_rfl, by kernel_rfl, by kernel_rfl, by kernel_rfl, by kernel_rfl, by kernel_rfl, by kernel_rfl, by kernel_rfl, trivial⟩⟩)
      · rw [if_neg hc12] at h
        refine we_known (t := 87) (b := r1) (v := false) (by kernel_rfl) (Bool.eq_false_iff.2 hc12) ?_
        refine we_false (by kernel_rfl) ?_
        have hS57 := hS52.bring 3 rfl
        have hS58 := hS57.bring 3 rfl
        have hS59 := hS58.bring 3 rfl
        have hS60 := hS59.bring 3 rfl
        obtain rfl := Option.some.inj h
        exact we_exit fun a hF => hQ _ _ _ (Outs.out nofun (Exits.here ⟨hS60, hF.weaken ⟨by kernel_rfl, by kernel_rfl, by kernel_rfl, by kernel_rfl, by kernel_rfl, by kernel_rfl, by kernel_rfl, by kernel_rfl, by kernel_rfl, by kernel_rfl, by kernel_rfl, by kernel_rfl, by kernel_rfl, by kernel_rfl, by kernel_rfl, by kernel_rfl, trivial⟩⟩))
    · rw [if_neg hc11] at h
      cases h
  · rw [if_neg hc10] at h
    refine ge_known (t := 77) (b := decide (z2 > 0)) (c := false) (by kernel_rfl) (decide_eq_false hc10) ?_
    refine ge_batch [3, 4, 5, 6, 7, 8, 9, 10] (ans := []) (vs := [(85, undef), (84, undef), (83, undef), (82, undef), (81, undef), (80, undef), (79, undef), (78, undef)]) (l := []) (by kernel_rfl) trivial ?_
    refine ge_off rfl rfl rfl (by kernel_rfl) ?_
    refine ge_batch [12] (ans := []) (vs := [(87, .bool false)]) (l := []) (by kernel_rfl) trivial ?_
    refine ge_nil fun a hF => hK30 _ _ ?_ a hF
    refine we_false (by kernel_rfl) ?_
    have hS61 := hS.bring 3 rfl
    have hS62 := hS61.bring 3 rfl
    have hS63 := hS62.bring 3 rfl
    have hS64 := hS63.bring 3 rfl
    obtain rfl := Option.some.inj h
    exact we_exit fun a hF => hQ _ _ _ (Outs.out nofun (Exits.here ⟨hS64, hF.weaken ⟨by kernel_rfl, by kernel_rfl, by kernel_rfl, by kernel_rfl, by kernel_rfl, by kernel_rfl, by kernel_rfl, by kernel_rfl, by kernel_rfl, by kernel_rfl, by kernel_rfl, by kernel_rfl, by kernel_rfl, by kernel_rfl, by kernel_rfl, by kernel_rfl, trivial⟩⟩))
abbrev punctualref_Played.A2 (K : Nat) (w0 : World) (l0 : List SJob) (A0 : Option Addr) (c0 : Nat) (x1 : Int) (x2 : Bool) (x3 : Int) (x4 : Int) (hR0 : RdL w0 A0 l0) (hL0 : l0.length ≤ c0) (b1 : Nat) (hc1 : l0.length ≤ 17592186044416) (Z1 : Option Addr) (cz1 : Nat) (m3 : List Int) (mp3 : List (Int × Int)) (hc3 : 0 ≤ x4) (hc4 : ((x4).toNat) ≤ 5864062014805) (xr1 : Rows) (z1 : Int) (m4 : List Int) (m5 : List (List Int)) (xr2 : Rows) (mp4 : List (Int × Int)) (hc5 : z1 < x4) (hc6 : (punctualref_Always.f z1) = true) : ((List Int) × Nat) → Act → World → Prop := fun (s : (List Int) × Nat) a w => ∃ (v3 : Value), St w0 w [Own.of (.slice Z1 m4.length cz1) 3 m4, Own.nest xr2 24 3 m5, Own.of v3 3 s.1, Own.map (κ := Int) (ν := Int) b1 mp4] ∧ Frm 169 a [(0, .slice A0 l0.length c0), (1, .int .i64 x1), (2, .bool x2), (3, .int .i64 x3), (4, .int .i64 x4), (5, .func (.func 135) #[] #[]), (14, .map (some b1)), (15, (.slice Z1 m4.length cz1)), (18, (Rows.val xr2)), (19, .int .i64 z1), (20, v3), (56, .slice A0 l0.length c0), (57, .int .i64 (l0.length : Int)), (58, .int .i64 (s.2 : Int))]
abbrev punctualref_Played.B2 (K : Nat) (w0 : World) (l0 : List SJob) (A0 : Option Addr) (c0 : Nat) (x1 : Int) (x2 : Bool) (x3 : Int) (x4 : Int) (hR0 : RdL w0 A0 l0) (hL0 : l0.length ≤ c0) (b1 : Nat) (hc1 : l0.length ≤ 17592186044416) (Z1 : Option Addr) (cz1 : Nat) (m3 : List Int) (mp3 : List (Int × Int)) (hc3 : 0 ≤ x4) (hc4 : ((x4).toNat) ≤ 5864062014805) (xr1 : Rows) (z1 : Int) (m4 : List Int) (m5 : List (List Int)) (xr2 : Rows) (mp4 : List (Int × Int)) (hc5 : z1 < x4) (hc6 : (punctualref_Always.f z1) = true) : ((List Int) ⊕ ((List (List Int)) × (List Int))) → Exit → Act → World → Prop := Exits 4 (fun (s : (List Int)) a w => ∃ (v4 : Value), St w0 w [Own.of (.slice Z1 m4.length cz1) 3 m4, Own.nest xr2 24 3 m5, Own.of v4 3 s, Own.map (κ := Int) (ν := Int) b1 mp4] ∧ Frm 169 a [(0, .slice A0 l0.length c0), (1, .int .i64 x1), (2, .bool x2), (3, .int .i64 x3), (4, .int .i64 x4), (5, .func (.func 135) #[] #[]), (14, .map (some b1)), (15, (.slice Z1 m4.length cz1)), (18, (Rows.val xr2)), (19, .int .i64 z1), (20, v4)]) (Rets Tryd.prog Tryd.f88 (punctualref_Played.Post w0))
theorem punctualref_Played_r2 (K : Nat) (w0 : World) (l0 : List SJob) (A0 : Option Addr) (c0 : Nat) (x1 : Int) (x2 : Bool) (x3 : Int) (x4 : Int) (hR0 : RdL w0 A0 l0) (hL0 : l0.length ≤ c0) (b1 : Nat) (hc1 : l0.length ≤ 17592186044416) (Z1 : Option Addr) (cz1 : Nat) (m3 : List Int) (mp3 : List (Int × Int)) (hc3 : 0 ≤ x4) (hc4 : ((x4).toNat) ≤ 5864062014805) (xr1 : Rows) (z1 : Int) (m4 : List Int) (m5 : List (List Int)) (xr2 : Rows) (mp4 : List (Int × Int)) (hc5 : z1 < x4) (hc6 : (punctualref_Always.f z1) = true) (s : (List Int) × Nat) (o : ((List Int) × Nat) ⊕ ((List Int) ⊕ ((List (List Int)) × (List Int)))) (h : punctualref_Played.r2 K l0 x1 z1 mp4 s = some o) (a : Act) (w : World) (hA : punctualref_Played.A2 K w0 l0 A0 c0 x1 x2 x3 x4 hR0 hL0 b1 hc1 Z1 cz1 m3 mp3 hc3 hc4 xr1 z1 m4 m5 xr2 mp4 hc5 hc6 s a w) (Q : Exit → Act → World → Prop) (hQ : ∀ x a w, Outs (punctualref_Played.A2 K w0 l0 A0 c0 x1 x2 x3 x4 hR0 hL0 b1 hc1 Z1 cz1 m3 mp3 hc3 hc4 xr1 z1 m4 m5 xr2 mp4 hc5 hc6) (punctualref_Played.B2 K w0 l0 A0 c0 x1 x2 x3 x4 hR0 hL0 b1 hc1 Z1 cz1 m3 mp3 hc3 hc4 xr1 z1 m4 m5 xr2 mp4 hc5 hc6) o x a w → Q x a w) : (subF Tryd.f88 [1, 1, 1, 1, 1, 0, 1, 0, 0, 1, 0, 0, 1, 1, 0, 1, 0, 0]).wp Tryd.prog Q a w := by
  obtain ⟨m8, i2⟩ := s
  obtain ⟨v3, hS, hF⟩ := hA
  replace hS : St w0 w [Own.of (.slice Z1 m4.length cz1) 3 m4, Own.nest xr2 24 3 m5, Own.of v3 3 m8, Own.map (κ := Int) (ν := Int) b1 mp4] := hS
  simp only [punctualref_Played.r2] at h
  refine (?_ : WE Tryd.prog 169 (subF Tryd.f88 [1, 1, 1, 1, 1, 0, 1, 0, 0, 1, 0, 0, 1, 1, 0, 1, 0, 0]) Q [(0, .slice A0 l0.length c0), (1, .int .i64 x1), (2, .bool x2), (3, .int .i64 x3), (4, .int .i64 x4), (5, .func (.func 135) #[] #[]), (14, .map (some b1)), (15, (.slice Z1 m4.length cz1)), (18, (Rows.val xr2)), (19, .int .i64 z1), (20, v3), (56, .slice A0 l0.length c0), (57, .int .i64 (l0.length : Int)), (58, .int .i64 (i2 : Int))] w) a hF
  clear hF a
  refine we_seq fun K22 hK22 => ?_
  refine we_region [(0, 0)] rfl ?_
  refine ge_batch [0] (ans := []) (vs := [(59, .bool (decide ((i2 : Int) < (l0.length : Int))))]) (l := []) (by kernel_rfl) trivial ?_
  refine ge_nil fun a hF => hK22 _ _ ?_ a hF
  refine we_seq fun K23 hK23 => ?_
  by_cases hc7 : (i2 : Int) < (l0.length : Int)
  · rw [if_pos hc7] at h
    refine we_known (t := 59) (b := decide ((i2 : Int) < (l0.length : Int))) (v := true) (by kernel_rfl) (decide_eq_true hc7) ?_
    refine we_true (by kernel_rfl) ?_
    refine we_skip fun a hF => hK23 _ _ ?_ a hF
    refine we_seq fun K24 hK24 => ?_
    refine we_block ?_
    refine we_seq fun K25 hK25 => ?_
    refine we_region [(0, 0), (1, 0), (2, 0), (3, 1), (4, 0), (5, 2)] rfl ?_
    refine ge_batch [0] (ans := []) (vs := [(60, .int .i64 (i2 : Int))]) (l := []) (by kernel_rfl) trivial ?_
    rcases hx5 : l0[i2]? with _ | e3
    · rw [hx5] at h; cases h
    rw [hx5] at h
    simp only [] at h
    refine ge_index (d := 61) (ty := 0) (t := 49) (el := 58) (sz := 5) (m := l0.length) (c := c0) (x := (.tmp 56)) (y := (.tmp 58)) (A := A0) (k' := .i64) (j := (i2 : Int)) (jn := i2) (b0 := blkOf A0) (o0 := offOf A0) (by kernel_rfl) (by kernel_rfl) (by kernel_rfl) (by kernel_rfl) (by kernel_rfl) ((hS.rd hR0).eqSome (pos_of_get hx5)) rfl (lt_of_get hx5) ?_
    refine ge_batch [2] (ans := [.val (.int .i64 e3.Task), .val (.int .i64 e3.At), .val (.int .i64 e3.C), .val (.int .i64 e3.Due), .val (.int .i64 e3.P)]) (vs := [(62, .agg #[.int .i64 e3.Task, .int .i64 e3.At, .int .i64 e3.C, .int .i64 e3.Due, .int .i64 e3.P])]) (l := [.loaded ⟨blkOf A0, offOf A0 + i2 * 5, none⟩ (.int .i64 e3.Task), .loaded ⟨blkOf A0, offOf A0 + i2 * 5 + 1, none⟩ (.int .i64 e3.At), .loaded ⟨blkOf A0, offOf A0 + i2 * 5 + 2, none⟩ (.int .i64 e3.C), .loaded ⟨blkOf A0, offOf A0 + i2 * 5 + 3, none⟩ (.int .i64 e3.Due), .loaded ⟨blkOf A0, offOf A0 + i2 * 5 + 4, none⟩ (.int .i64 e3.P)]) (by kernel_rfl) ⟨RdL.cell (j := 0) (hS.rd hR0) hx5 rfl, RdL.cell (j := 1) (hS.rd hR0) hx5 rfl, RdL.cell (j := 2) (hS.rd hR0) hx5 rfl, RdL.cell (j := 3) (hS.rd hR0) hx5 rfl, RdL.cell (j := 4) (hS.rd hR0) hx5 rfl, trivial⟩ ?_
    refine ge_new (d := some 22) (o := .cells #[.int .i64 0, .int .i64 0, .int .i64 0, .int .i64 0, .int .i64 0] 58) (v := fun b => .pointer (some ⟨b, 0, none⟩)) hS (fun b => by kernel_rfl) fun b3 w10 hx6 hS33 => ?_
    refine ge_batch [4] (ans := []) (vs := [(21, .int .i64 (i2 : Int))]) (l := []) (by kernel_rfl) trivial ?_
    refine ge_set (b := b3) (j := 0) (cs := #[.int .i64 0, .int .i64 0, .int .i64 0, .int .i64 0, .int .i64 0]) (t := 58) (vs := [.int .i64 e3.Task, .int .i64 e3.At, .int .i64 e3.C, .int .i64 e3.Due, .int .i64 e3.P]) hS33 (by kernel_rfl) rfl rfl fun w11 hS34 => ?_
    have hS35 : St w0 w11 [Own.blk b3 (.cells #[.int .i64 e3.Task, .int .i64 e3.At, .int .i64 e3.C, .int .i64 e3.Due, .int .i64 e3.P] 58 (0, 0)), Own.of (.slice Z1 m4.length cz1) 3 m4, Own.nest xr2 24 3 m5, Own.of v3 3 m8, Own.map (κ := Int) (ν := Int) b1 mp4] := hS34
    refine ge_nil fun a hF => hK25 _ _ ?_ a hF
    refine we_seq fun K26 hK26 => ?_
    obtain ⟨Z2, cz2, rfl⟩ := hS35.open 3 rfl
    rcases hq3 : punctualref_Played.p3 z1 mp4 i2 e3 with _ | (q2 | rr2)
    · rw [hq3] at h; cases h
    · rw [hq3] at h
      simp only [] at h
      refine we_keep (e' := [(0, .slice A0 l0.length c0), (1, .int .i64 x1), (2, .bool x2), (3, .int .i64 x3), (4, .int .i64 x4), (5, .func (.func 135) #[] #[]), (14, .map (some b1)), (15, (.slice Z1 m4.length cz1)), (18, (Rows.val xr2)), (19, .int .i64 z1), (20, (.slice Z2 m8.length cz2)), (21, .int .i64 (i2 : Int)), (22, .pointer (some ⟨b3, 0, none⟩)), (56, .slice A0 l0.length c0), (57, .int .i64 (l0.length : Int)), (58, .int .i64 (i2 : Int)), (59, .bool true), (60, .int .i64 (i2 : Int)), (61, .pointer (some ⟨blkOf A0, offOf A0 + i2 * 5, none⟩)), (62, .agg #[.int .i64 e3.Task, .int .i64 e3.At, .int .i64 e3.C, .int .i64 e3.Due, .int .i64 e3.P])]) ⟨by kernel_rfl, by kernel_rfl, by kernel_rfl, by kernel_rfl, by kernel_rfl, by kernel_rfl, by kernel_rfl, by kernel_rfl, by kernel_rfl, by kernel_rfl, by kernel_rfl, by kernel_rfl, by kernel_rfl, by kernel_rfl, by kernel_rfl, by kernel_rfl, by kernel_rfl, by kernel_rfl, by kernel_rfl, by kernel_rfl, trivial⟩ (punctualref_Played_p3 K w0 l0 A0 c0 x1 x2 x3 x4 hR0 hL0 b1 hc1 Z1 cz1 m3 mp3 hc3 hc4 xr1 z1 m4 m5 xr2 mp4 hc5 hc6 m8 i2 hc7 e3 hx5 b3 Z2 cz2 _ hq3 _ hS35 _ ?_)
      rintro _ a w12 ⟨rfl, hS46, hF⟩
      replace hS46 : St w0 w12 [Own.of (.slice Z1 m4.length cz1) 3 m4, Own.nest xr2 24 3 m5, Own.of (.slice Z2 m8.length cz2) 3 m8, Own.map (κ := Int) (ν := Int) b1 mp4] := hS46
      refine hK26 [(0, .slice A0 l0.length c0), (1, .int .i64 x1), (2, .bool x2), (3, .int .i64 x3), (4, .int .i64 x4), (5, .func (.func 135) #[] #[]), (14, .map (some b1)), (15, (.slice Z1 m4.length cz1)), (18, (Rows.val xr2)), (19, .int .i64 z1), (20, (.slice Z2 m8.length cz2)), (21, .int .i64 (i2 : Int)), (56, .slice A0 l0.length c0), (57, .int .i64 (l0.length : Int)), (58, .int .i64 (i2 : Int)), (72, .bool q2)] w12 ?_ a hF
      by_cases hc9 : q2 = true
      · rw [if_pos hc9] at h
        refine we_known (t := 72) (b := q2) (v := true) (by kernel_rfl) hc9 ?_
        refine we_true (by kernel_rfl) ?_
        refine we_seq fun K27 hK27 => ?_
        refine we_region [(0, 0), (1, 0), (2, 0)] rfl ?_
        refine ge_batch [0, 1, 2] (ans := []) (vs := [(23, .int .i64 (m8.length : Int)), (74, .int .i64 (m8.length : Int)), (73, (.slice Z2 m8.length cz2))]) (l := []) (by kernel_rfl) trivial ?_
        refine ge_nil fun a hF => hK27 _ _ ?_ a hF
        refine we_seq fun K28 hK28 => ?_
        refine we_block ?_
        have hS47 := hS46.bring 3 rfl
        have hS48 := hS47.bring 3 rfl
        have hS49 := hS48.bring 3 rfl
        have hS50 := hS49.bring 3 rfl
        rcases hq5 : iter (punctualref_Played.r4 l0 x1 m8 i2) K (m8.length : Int) with _ | (z4 | rr1)
        · rw [hq5] at h; cases h
        · rw [hq5] at h
          simp only [] at h
          refine we_iter (A := punctualref_Played.A4 K w0 l0 A0 c0 x1 x2 x3 x4 hR0 hL0 b1 hc1 Z1 cz1 m3 mp3 hc3 hc4 xr1 z1 m4 m5 xr2 mp4 hc5 hc6 m8 i2 hc7 e3 hx5 b3 Z2 cz2 q2 hc9) (B := punctualref_Played.B4 K w0 l0 A0 c0 x1 x2 x3 x4 hR0 hL0 b1 hc1 Z1 cz1 m3 mp3 hc3 hc4 xr1 z1 m4 m5 xr2 mp4 hc5 hc6 m8 i2 hc7 e3 hx5 b3 Z2 cz2 q2 hc9) hq5 (fun a hF => ⟨hS50, hF.weaken ⟨by kernel_rfl, by kernel_rfl, by kernel_rfl, by kernel_rfl, by kernel_rfl, by kernel_rfl, by kernel_rfl, by kernel_rfl, by kernel_rfl, by kernel_rfl, by kernel_rfl, by kernel_rfl, by kernel_rfl, by kernel_rfl, by kernel_rfl, by kernel_rfl, trivial⟩⟩) (fun s o hf a w hA Q hQ => punctualref_Played_r4 K w0 l0 A0 c0 x1 x2 x3 x4 hR0 hL0 b1 hc1 Z1 cz1 m3 mp3 hc3 hc4 xr1 z1 m4 m5 xr2 mp4 hc5 hc6 m8 i2 hc7 e3 hx5 b3 Z2 cz2 q2 hc9 s o hf a w hA Q hQ) ?_
          rintro _ a w14 _ ⟨rfl, hS65, hF⟩
          replace hS65 : St w0 w14 [Own.of (.slice Z1 m4.length cz1) 3 m4, Own.nest xr2 24 3 m5, Own.of (.slice Z2 m8.length cz2) 3 m8, Own.map (κ := Int) (ν := Int) b1 mp4] := hS65
          refine hK28 [(0, .slice A0 l0.length c0), (1, .int .i64 x1), (2, .bool x2), (3, .int .i64 x3), (4, .int .i64 x4), (5, .func (.func 135) #[] #[]), (14, .map (some b1)), (15, (.slice Z1 m4.length cz1)), (18, (Rows.val xr2)), (19, .int .i64 z1), (20, (.slice Z2 m8.length cz2)), (21, .int .i64 (i2 : Int)), (23, .int .i64 z4), (56, .slice A0 l0.length c0), (57, .int .i64 (l0.length : Int)), (58, .int .i64 (i2 : Int))] w14 ?_ a hF
          refine we_orders2 (by kernel_rfl) [] (.vals [0] (.vals [1] (.vals [2] (.vals [3] (.vals [5] (.vals [6] (.vals [7] (.alt 4 1 (.alt 8 2 (.alt 9 2 (.vals [10] .fin) .nomore) .nomore) .nomore)))))))) (by kernel_rfl) ?_
          have hS66 := hS65.drew
          refine go2_batch [0, 1] (ans := []) (vs := [(91, .int .i64 z4), (90, (.slice Z2 m8.length cz2))]) (l := []) (by kernel_rfl) trivial mem_nil ?_
          by_cases hc13 : 0 ≤ z4
          · rw [if_pos hc13] at h
            by_cases hc14 : ((z4).toNat) ≤ m8.length
            · rw [if_pos hc14] at h
              refine go2_sliceHi (d := 92) (ty := 24) (t := 24) (el := 3) (sz := 1) (m := m8.length) (c := cz2) (hn := ((z4).toNat)) (x := (.tmp 90)) (y := (.tmp 91)) (A := Z2) (k' := .i64) (hi := z4) (by kernel_rfl) (by kernel_rfl) (by kernel_rfl) (Int.toNat_of_nonneg hc13).symm (by kernel_rfl) (by kernel_rfl) (by have f0 := hc14; have f1 := (hS66.capAt 2 rfl); omega) ?_
              refine go2_same (t := 92) (v := .slice Z2 ((z4).toNat) cz2) (v' := .slice Z2 ((m8.take ((z4).toNat)).length) cz2) (by kernel_rfl) (congrArg (fun z => Value.slice Z2 z cz2) (show (z4).toNat = (m8.take ((z4).toNat)).length by have f0 := hc14; have f1 := (hS66.capAt 2 rfl); simp only [List.length_take]; omega)) ?_
              refine go2_batch [3, 5, 6] (ans := []) (vs := [(96, .int .i64 z4), (95, (.slice Z2 m8.length cz2)), (93, .int .i64 (i2 : Int))]) (l := []) (by kernel_rfl) trivial mem_nil ?_
              refine go2_part (d := 97) (ty := 24) (t := 24) (el := 3) (sz := 1) (m := m8.length) (c := cz2) (lo := ((z4).toNat)) (hi := m8.length) (x := (.tmp 95)) (xl := some (.tmp 96)) (xh := none) (A := Z2) (by kernel_rfl) (by kernel_rfl) ⟨.i64, z4, by kernel_rfl, (Int.toNat_of_nonneg hc13).symm⟩ rfl (by kernel_rfl) (by kernel_rfl) (by have f0 := hc14; have f1 := (hS66.capAt 2 rfl); omega) (by have f0 := hc14; have f1 := (hS66.capAt 2 rfl); omega) ?_
              refine go2_same (t := 97) (v := .slice (subA Z2 cz2 ((z4).toNat) 1) (m8.length - ((z4).toNat)) (cz2 - ((z4).toNat))) (v' := .slice (subA Z2 cz2 ((z4).toNat) 1) (((m8.take m8.length).drop ((z4).toNat)).length) (cz2 - ((z4).toNat))) (by kernel_rfl) (congrArg (fun z => Value.slice (subA Z2 cz2 ((z4).toNat) 1) z (cz2 - ((z4).toNat))) (show m8.length - ((z4).toNat) = ((m8.take m8.length).drop ((z4).toNat)).length by have f0 := hc14; have f1 := (hS66.capAt 2 rfl); simp only [List.length_drop, List.length_take]; omega)) ?_
              refine go_alt2 (fun KK hKK => ?_) ?_
              · refine ge_one2 ?_
                refine ge_new (d := some 94) (o := .cells #[.int .i64 (i2 : Int)] 3) (v := fun b => .slice (some ⟨b, 0, none⟩) 1 1) hS66 (fun b => by kernel_rfl) fun b4 w15 hx8 hS67 => ?_
                refine ge_nil fun a hF => hKK _ _ (RS.of2 (l := []) (by kernel_rfl) trivial trivial) ?_ a hF
                refine go_alt2 (fun KK hKK => ?_) ?_
                · have hS68 := hS67.asRow (α := Int) (c := 1) ([(i2 : Int)] : List Int) (Nat.le_refl _) (by decide) rfl rfl
                  by_cases hc15 : ([(i2 : Int)] : List Int).length + ((m8.take m8.length).drop ((z4).toNat)).length ≤ 17592186044416
                  · rw [if_pos hc15] at h
                    refine ge_appendL (α := Int) (m := 0) (d := 98) (t := 24) (el := 3) (bytes := 8) (c1 := (cz2 - ((z4).toNat))) (A1 := (subA Z2 cz2 ((z4).toNat) 1)) (x := (.tmp 94)) (y := (.tmp 97)) (ty := 24) (v := (.slice (some ⟨b4, 0, none⟩) 1 1)) (z := .int .i64 0) (l := ([(i2 : Int)] : List Int)) (us := ((m8.take m8.length).drop ((z4).toNat))) (by kernel_rfl) (by kernel_rfl) (by kernel_rfl) (by kernel_rfl) (by kernel_rfl) rfl hS68 (RdL.part (hS68.rdAt 3 rfl) (hS68.capAt 3 rfl) ((z4).toNat) m8.length) rfl (Nat.mul_le_of_le_div _ _ _ hc15) fun v5 w16 hS69 => ?_
                    have hS70 : St w0 w16 [Own.of v5 3 (([(i2 : Int)] : List Int) ++ ((m8.take m8.length).drop ((z4).toNat))), Own.of (.slice Z1 m4.length cz1) 3 m4, Own.nest xr2 24 3 m5, Own.of (.slice Z2 m8.length cz2) 3 m8, Own.map (κ := Int) (ν := Int) b1 mp4] := hS69
                    refine ge_nil fun a hF => hKK _ _ (RS.of2 (l := []) (by kernel_rfl) trivial trivial) ?_ a hF
                    refine go_alt2 (fun KK hKK => ?_) ?_
                    · have hS71 := hS70.bring 3 rfl
                      have hS72 := hS71.shrink ((z4).toNat)
                      obtain ⟨Z3, cz3, rfl⟩ := hS72.open 1 rfl
                      by_cases hc16 : (m8.take ((z4).toNat)).length + (([(i2 : Int)] : List Int) ++ ((m8.take m8.length).drop ((z4).toNat))).length ≤ 17592186044416
                      · rw [if_pos hc16] at h
                        refine ge_appendL (α := Int) (m := 0) (d := 99) (t := 24) (el := 3) (bytes := 8) (c1 := cz3) (A1 := Z3) (x := (.tmp 92)) (y := (.tmp 98)) (ty := 24) (v := (.slice Z2 (m8.take ((z4).toNat)).length cz2)) (z := .int .i64 0) (l := (m8.take ((z4).toNat))) (us := (([(i2 : Int)] : List Int) ++ ((m8.take m8.length).drop ((z4).toNat)))) (by kernel_rfl) (by kernel_rfl) (by kernel_rfl) (by kernel_rfl) (by kernel_rfl) rfl hS72 (hS72.rdAt 1 rfl) rfl (Nat.mul_le_of_le_div _ _ _ hc16) fun v6 w17 hS73 => ?_
                        have hS74 : St w0 w17 [Own.of v6 3 ((m8.take ((z4).toNat)) ++ (([(i2 : Int)] : List Int) ++ ((m8.take m8.length).drop ((z4).toNat)))), Own.of (.slice Z3 (([(i2 : Int)] : List Int) ++ ((m8.take m8.length).drop ((z4).toNat))).length cz3) 3 (([(i2 : Int)] : List Int) ++ ((m8.take m8.length).drop ((z4).toNat))), Own.of (.slice Z1 m4.length cz1) 3 m4, Own.nest xr2 24 3 m5, Own.map (κ := Int) (ν := Int) b1 mp4] := hS73
                        refine ge_nil fun a hF => hKK _ _ (RS.of2 (l := []) (by kernel_rfl) trivial trivial) ?_ a hF
                        refine go2_batch [10] (ans := []) (vs := [(20, v6)]) (l := []) (by kernel_rfl) trivial mem_nil ?_
                        refine go_fin2 fun a hF => hK24 _ _ ?_ a hF
                        refine we_region [(0, 0), (1, 0)] rfl ?_
                        refine ge_addn (d := 100) (ty := 3) (x := (.tmp 58)) (y := (.const (.int .i64 1))) (t := 3) (t2 := 3) (k := .i64) (m := i2) (by kernel_rfl) (by kernel_rfl) (by kernel_rfl) (by have h0 := hR0.small; omega) ?_
                        refine ge_batch [1] (ans := []) (vs := [(58, .int .i64 ((i2 + 1 : Nat) : Int))]) (l := []) (by kernel_rfl) trivial ?_
                        have hS75 := hS74.bring 4 rfl
                        have hS76 := hS75.bring 1 rfl
                        have hS77 := hS76.bring 4 rfl
                        have hS78 := hS77.bring 4 rfl
                        have hS79 := hS78.takeN 4
                        obtain rfl := Option.some.inj h
                        exact ge_nil fun a hF => hQ _ _ _ (Outs.again ⟨v6, hS79, hF.weaken ⟨by kernel_rfl, by kernel_rfl, by kernel_rfl, by kernel_rfl, by kernel_rfl, by kernel_rfl, by kernel_rfl, by kernel_rfl, by kernel_rfl, by kernel_rfl, by kernel_rfl, by kernel_rfl, by kernel_rfl, by kernel_rfl, trivial⟩⟩)
                      · rw [if_neg hc16] at h
                        cases h
                    exact go_nomore2
                  · rw [if_neg hc15] at h
                    cases h
                exact go_nomore2
              exact go_nomore2
            · rw [if_neg hc14] at h
              cases h
          · rw [if_neg hc13] at h
            cases h
        · rw [hq5] at h
          simp only [] at h
          refine we_iter (A := punctualref_Played.A4 K w0 l0 A0 c0 x1 x2 x3 x4 hR0 hL0 b1 hc1 Z1 cz1 m3 mp3 hc3 hc4 xr1 z1 m4 m5 xr2 mp4 hc5 hc6 m8 i2 hc7 e3 hx5 b3 Z2 cz2 q2 hc9) (B := punctualref_Played.B4 K w0 l0 A0 c0 x1 x2 x3 x4 hR0 hL0 b1 hc1 Z1 cz1 m3 mp3 hc3 hc4 xr1 z1 m4 m5 xr2 mp4 hc5 hc6 m8 i2 hc7 e3 hx5 b3 Z2 cz2 q2 hc9) hq5 (fun a hF => ⟨hS50, hF.weaken ⟨by kernel_rfl, by kernel_rfl, by kernel_rfl, by kernel_rfl, by kernel_rfl, by kernel_rfl, by kernel_rfl, by kernel_rfl, by kernel_rfl, by kernel_rfl, by kernel_rfl, by kernel_rfl, by kernel_rfl, by kernel_rfl, by kernel_rfl, by kernel_rfl, trivial⟩⟩) (fun s o hf a w hA Q hQ => punctualref_Played_r4 K w0 l0 A0 c0 x1 x2 x3 x4 hR0 hL0 b1 hc1 Z1 cz1 m3 mp3 hc3 hc4 xr1 z1 m4 m5 xr2 mp4 hc5 hc6 m8 i2 hc7 e3 hx5 b3 Z2 cz2 q2 hc9 s o hf a w hA Q hQ) ?_
          rintro _ a w1 _ ⟨rfl, hb⟩
          obtain rfl := Option.some.inj h
          exact hQ _ _ _ (Outs.out nofun (Exits.on ⟨rfl, hb⟩))
      · rw [if_neg hc9] at h
        refine we_known (t := 72) (b := q2) (v := false) (by kernel_rfl) (Bool.eq_false_iff.2 hc9) ?_
        refine we_false (by kernel_rfl) ?_
        refine we_skip fun a hF => hK24 _ _ ?_ a hF
        refine we_region [(0, 0), (1, 0)] rfl ?_
        refine ge_addn (d := 100) (ty := 3) (x := (.tmp 58)) (y := (.const (.int .i64 1))) (t := 3) (t2 := 3) (k := .i64) (m := i2) (by kernel_rfl) (by kernel_rfl) (by kernel_rfl) (by have h0 := hR0.small; omega) ?_
        refine ge_batch [1] (ans := []) (vs := [(58, .int .i64 ((i2 + 1 : Nat) : Int))]) (l := []) (by kernel_rfl) trivial ?_
        have hS80 := hS46.bring 3 rfl
        have hS81 := hS80.bring 3 rfl
        have hS82 := hS81.bring 3 rfl
        have hS83 := hS82.bring 3 rfl
        obtain rfl := Option.some.inj h
        exact ge_nil fun a hF => hQ _ _ _ (Outs.again ⟨(.slice Z2 m8.length cz2), hS83, hF.weaken ⟨by kernel_rfl, by kernel_rfl, by kernel_rfl, by kernel_rfl, by kernel_rfl, by kernel_rfl, by kernel_rfl, by kernel_rfl, by kernel_rfl, by kernel_rfl, by kernel_rfl, by kernel_rfl, by kernel_rfl, by kernel_rfl, trivial⟩⟩)
    · rw [hq3] at h
      simp only [] at h
      refine we_keep (e' := [(0, .slice A0 l0.length c0), (1, .int .i64 x1), (2, .bool x2), (3, .int .i64 x3), (4, .int .i64 x4), (5, .func (.func 135) #[] #[]), (14, .map (some b1)), (15, (.slice Z1 m4.length cz1)), (18, (Rows.val xr2)), (19, .int .i64 z1), (20, (.slice Z2 m8.length cz2)), (21, .int .i64 (i2 : Int)), (22, .pointer (some ⟨b3, 0, none⟩)), (56, .slice A0 l0.length c0), (57, .int .i64 (l0.length : Int)), (58, .int .i64 (i2 : Int)), (59, .bool true), (60, .int .i64 (i2 : Int)), (61, .pointer (some ⟨blkOf A0, offOf A0 + i2 * 5, none⟩)), (62, .agg #[.int .i64 e3.Task, .int .i64 e3.At, .int .i64 e3.C, .int .i64 e3.Due, .int .i64 e3.P])]) ⟨by kernel_rfl, by kernel_rfl, by kernel_rfl, by kernel_rfl, by kernel_rfl, by kernel_rfl, by kernel_rfl, by kernel_rfl, by kernel_rfl, by kernel_rfl, by kernel_rfl, by kernel_rfl, by kernel_rfl, by kernel_rfl, by kernel_rfl, by kernel_rfl, by kernel_rfl, by kernel_rfl, by kernel_rfl, by kernel_rfl, trivial⟩ (punctualref_Played_p3 K w0 l0 A0 c0 x1 x2 x3 x4 hR0 hL0 b1 hc1 Z1 cz1 m3 mp3 hc3 hc4 xr1 z1 m4 m5 xr2 mp4 hc5 hc6 m8 i2 hc7 e3 hx5 b3 Z2 cz2 _ hq3 _ hS35 _ ?_)
      rintro _ a w1 ⟨_, rfl, hb⟩
      obtain rfl := Option.some.inj h
      exact hQ _ _ _ (Outs.out nofun (Exits.on ⟨rfl, hb⟩))
  · rw [if_neg hc7] at h
    refine we_known (t := 59) (b := decide ((i2 : Int) < (l0.length : Int))) (v := false) (by kernel_rfl) (decide_eq_false hc7) ?_
    refine we_false (by kernel_rfl) ?_
    have hS84 := hS.bring 3 rfl
    have hS85 := hS84.bring 3 rfl
    have hS86 := hS85.bring 3 rfl
    have hS87 := hS86.bring 3 rfl
    obtain rfl := Option.some.inj h
    exact we_exit fun a hF => hQ _ _ _ (Outs.out nofun (Exits.here ⟨v3, hS87, hF.weaken ⟨by kernel_rfl, by kernel_rfl, by kernel_rfl, by kernel_rfl, by kernel_rfl, by kernel_rfl, by kernel_rfl, by kernel_rfl, by kernel_rfl, by kernel_rfl, by kernel_rfl, trivial⟩⟩))
abbrev punctualref_Played.A5 (K : Nat) (w0 : World) (l0 : List SJob) (A0 : Option Addr) (c0 : Nat) (x1 : Int) (x2 : Bool) (x3 : Int) (x4 : Int) (hR0 : RdL w0 A0 l0) (hL0 : l0.length ≤ c0) (b1 : Nat) (hc1 : l0.length ≤ 17592186044416) (Z1 : Option Addr) (cz1 : Nat) (m3 : List Int) (mp3 : List (Int × Int)) (hc3 : 0 ≤ x4) (hc4 : ((x4).toNat) ≤ 5864062014805) (xr1 : Rows) (z1 : Int) (m4 : List Int) (m5 : List (List Int)) (xr2 : Rows) (mp4 : List (Int × Int)) (hc5 : z1 < x4) (hc6 : (punctualref_Always.f z1) = true) (m10 : List Int) (Z4 : Option Addr) (cz4 : Nat) : (List Int) → Act → World → Prop := fun (s : (List Int)) a w => ∃ (v8 : Value), St w0 w [Own.of (.slice Z1 m4.length cz1) 3 m4, Own.nest xr2 24 3 m5, Own.of v8 3 s, Own.map (κ := Int) (ν := Int) b1 mp4] ∧ Frm 169 a [(0, .slice A0 l0.length c0), (1, .int .i64 x1), (2, .bool x2), (3, .int .i64 x3), (4, .int .i64 x4), (5, .func (.func 135) #[] #[]), (14, .map (some b1)), (15, (.slice Z1 m4.length cz1)), (18, (Rows.val xr2)), (19, .int .i64 z1), (20, v8)]
abbrev punctualref_Played.B5 (K : Nat) (w0 : World) (l0 : List SJob) (A0 : Option Addr) (c0 : Nat) (x1 : Int) (x2 : Bool) (x3 : Int) (x4 : Int) (hR0 : RdL w0 A0 l0) (hL0 : l0.length ≤ c0) (b1 : Nat) (hc1 : l0.length ≤ 17592186044416) (Z1 : Option Addr) (cz1 : Nat) (m3 : List Int) (mp3 : List (Int × Int)) (hc3 : 0 ≤ x4) (hc4 : ((x4).toNat) ≤ 5864062014805) (xr1 : Rows) (z1 : Int) (m4 : List Int) (m5 : List (List Int)) (xr2 : Rows) (mp4 : List (Int × Int)) (hc5 : z1 < x4) (hc6 : (punctualref_Always.f z1) = true) (m10 : List Int) (Z4 : Option Addr) (cz4 : Nat) : ((List (List Int)) × (List Int)) → Exit → Act → World → Prop := Rets Tryd.prog Tryd.f88 (punctualref_Played.Post w0)
theorem punctualref_Played_p5 (K : Nat) (w0 : World) (l0 : List SJob) (A0 : Option Addr) (c0 : Nat) (x1 : Int) (x2 : Bool) (x3 : Int) (x4 : Int) (hR0 : RdL w0 A0 l0) (hL0 : l0.length ≤ c0) (b1 : Nat) (hc1 : l0.length ≤ 17592186044416) (Z1 : Option Addr) (cz1 : Nat) (m3 : List Int) (mp3 : List (Int × Int)) (hc3 : 0 ≤ x4) (hc4 : ((x4).toNat) ≤ 5864062014805) (xr1 : Rows) (z1 : Int) (m4 : List Int) (m5 : List (List Int)) (xr2 : Rows) (mp4 : List (Int × Int)) (hc5 : z1 < x4) (hc6 : (punctualref_Always.f z1) = true) (m10 : List Int) (Z4 : Option Addr) (cz4 : Nat) (o : (List Int) ⊕ ((List (List Int)) × (List Int))) (h : punctualref_Played.p5 x2 z1 m5 mp4 m10 = some o) (w : World) (hS : St w0 w [Own.of (.slice Z1 m4.length cz1) 3 m4, Own.nest xr2 24 3 m5, Own.of (.slice Z4 m10.length cz4) 3 m10, Own.map (κ := Int) (ν := Int) b1 mp4]) (Q : Exit → Act → World → Prop) (hQ : ∀ x a w, Outs (punctualref_Played.A5 K w0 l0 A0 c0 x1 x2 x3 x4 hR0 hL0 b1 hc1 Z1 cz1 m3 mp3 hc3 hc4 xr1 z1 m4 m5 xr2 mp4 hc5 hc6 m10 Z4 cz4) (punctualref_Played.B5 K w0 l0 A0 c0 x1 x2 x3 x4 hR0 hL0 b1 hc1 Z1 cz1 m3 mp3 hc3 hc4 xr1 z1 m4 m5 xr2 mp4 hc5 hc6 m10 Z4 cz4) o x a w → Q x a w) : WE Tryd.prog 169 (subF Tryd.f88 [1, 1, 1, 1, 1, 0, 1, 0, 0, 1, 0, 0, 1, 1, 1, 0]) Q [(0, .slice A0 l0.length c0), (1, .int .i64 x1), (2, .bool x2), (3, .int .i64 x3), (4, .int .i64 x4), (5, .func (.func 135) #[] #[]), (14, .map (some b1)), (15, (.slice Z1 m4.length cz1)), (18, (Rows.val xr2)), (19, .int .i64 z1), (20, (.slice Z4 m10.length cz4))] w := by
  simp only [punctualref_Played.p5] at h
  refine we_seq fun K32 hK32 => ?_
  refine we_region [(0, 0), (1, 0), (2, 0), (3, 0), (4, 0), (5, 0), (6, 0), (7, 0), (8, 0), (9, 0), (10, 0), (11, 0), (12, 0), (13, 0), (14, 0), (15, 0), (16, 0), (17, 0), (18, 0), (19, 0), (20, 0), (21, 0), (22, 0), (23, 0), (24, 0), (25, 0), (26, 0)] rfl ?_
  refine ge_batch [0, 1, 2] (ans := []) (vs := [(103, .bool (!x2)), (102, .bool (!x2)), (101, .bool x2)]) (l := []) (by kernel_rfl) trivial ?_
  by_cases hc17 : x2 = true
  · rw [if_pos hc17] at h
    refine ge_known (t := 103) (b := !x2) (c := false) (by kernel_rfl) (congrArg (fun z => !z) hc17) ?_
    refine ge_batch [3, 4, 5, 6, 7, 8, 9, 10, 11, 12, 13, 14, 15, 16, 17, 18, 19, 20, 21, 22, 23, 24, 25, 26] (ans := []) (vs := [(127, .bool false), (126, undef), (125, undef), (124, undef), (123, undef), (122, undef), (121, undef), (120, undef), (119, undef), (118, undef), (117, undef), (116, .bool false), (115, .bool false), (114, undef), (113, undef), (112, undef), (111, undef), (110, undef), (109, undef), (108, undef), (107, .bool false), (106, .bool false), (105, undef), (104, undef)]) (l := []) (by kernel_rfl) trivial ?_
    refine ge_nil fun a hF => hK32 _ _ ?_ a hF
    refine we_false (by kernel_rfl) ?_
    have hS89 := hS.bring 3 rfl
    have hS90 := hS89.bring 3 rfl
    have hS91 := hS90.bring 3 rfl
    have hS92 := hS91.bring 3 rfl
    obtain rfl := Option.some.inj h
    exact we_skip fun a hF => hQ _ _ _ (Outs.again ⟨(.slice Z4 m10.length cz4), hS92, hF.weaken ⟨by kernel_rfl, by kernel_rfl, by kernel_rfl, by kernel_rfl, by kernel_rfl, by kernel_rfl, by kernel_rfl, by kernel_rfl, by kernel_rfl, by kernel_rfl, by kernel_rfl, trivial⟩⟩)
  · rw [if_neg hc17] at h
    refine ge_known (t := 103) (b := !x2) (c := true) (by kernel_rfl) (congrArg (fun z => !z) (Bool.eq_false_iff.2 hc17)) ?_
    refine ge_batch [3, 4, 5, 6] (ans := []) (vs := [(107, .bool (decide (z1 > 0))), (106, .bool (decide (z1 > 0))), (105, .bool (decide (z1 > 0))), (104, .int .i64 z1)]) (l := []) (by kernel_rfl) trivial ?_
    by_cases hc18 : z1 > 0
    · rw [if_pos hc18] at h
      refine ge_known (t := 107) (b := decide (z1 > 0)) (c := true) (by kernel_rfl) (decide_eq_true hc18) ?_
      refine ge_batch [7, 8, 9] (ans := []) (vs := [(110, .int .i64 (IntKind.i64.wrap (z1 - 1))), (109, .int .i64 z1), (108, (Rows.val xr2))]) (l := []) (by kernel_rfl) trivial ?_
      by_cases hc19 : 0 ≤ (IntKind.i64.wrap (z1 - 1))
      · rw [if_pos hc19] at h
        rcases hx9 : m5[(IntKind.i64.wrap (z1 - 1)).toNat]? with _ | e5
        · rw [hx9] at h; cases h
        rw [hx9] at h
        simp only [] at h
        obtain ⟨An1, cn1, hxn1, -, -⟩ := (hS.nestAt 1 rfl).nl.get hx9
        refine ge_index (d := 111) (ty := 0) (t := 76) (el := 24) (sz := 1) (m := xr2.n) (c := xr2.c) (x := (.tmp 108)) (y := (.tmp 110)) (A := xr2.A) (k' := .i64) (j := (IntKind.i64.wrap (z1 - 1))) (jn := ((IntKind.i64.wrap (z1 - 1)).toNat)) (b0 := blkOf xr2.A) (o0 := offOf xr2.A) (by kernel_rfl) (by kernel_rfl) (by kernel_rfl) (by kernel_rfl) (by kernel_rfl) ((hS.nestAt 1 rfl).rd.eqSome (pos_of_get hxn1)) (Int.toNat_of_nonneg hc19).symm (by have h0 := lt_of_get hx9; have h1 := (hS.nestAt 1 rfl).n; omega) ?_
        refine ge_batch [11, 12, 13, 14, 15] (ans := [.val (.slice An1 e5.length cn1)]) (vs := [(116, .bool (decide ((e5.length : Int) > 0))), (115, .bool (decide ((e5.length : Int) > 0))), (114, .bool (decide ((e5.length : Int) > 0))), (113, .int .i64 (e5.length : Int)), (112, .slice An1 e5.length cn1)]) (l := [.loaded ⟨blkOf xr2.A, offOf xr2.A + ((IntKind.i64.wrap (z1 - 1)).toNat) * 1, none⟩ (.slice An1 e5.length cn1)]) (by kernel_rfl) ⟨RdL.cell (j := 0) ((hS.nestAt 1 rfl).rd) hxn1 rfl, trivial⟩ ?_
        by_cases hc20 : (e5.length : Int) > 0
        · rw [if_pos hc20] at h
          refine ge_known (t := 116) (b := decide ((e5.length : Int) > 0)) (c := true) (by kernel_rfl) (decide_eq_true hc20) ?_
          refine ge_batch [16, 17, 18, 19] (ans := []) (vs := [(120, .int .i64 (IntKind.i64.wrap (z1 - 1))), (119, .int .i64 z1), (118, (Rows.val xr2)), (117, .map (some b1))]) (l := []) (by kernel_rfl) trivial ?_
          refine ge_index (d := 121) (ty := 0) (t := 76) (el := 24) (sz := 1) (m := xr2.n) (c := xr2.c) (x := (.tmp 118)) (y := (.tmp 120)) (A := xr2.A) (k' := .i64) (j := (IntKind.i64.wrap (z1 - 1))) (jn := ((IntKind.i64.wrap (z1 - 1)).toNat)) (b0 := blkOf xr2.A) (o0 := offOf xr2.A) (by kernel_rfl) (by kernel_rfl) (by kernel_rfl) (by kernel_rfl) (by kernel_rfl) ((hS.nestAt 1 rfl).rd.eqSome (pos_of_get hxn1)) (Int.toNat_of_nonneg hc19).symm (by have h0 := lt_of_get hx9; have h1 := (hS.nestAt 1 rfl).n; omega) ?_
          refine ge_batch [21] (ans := [.val (.slice An1 e5.length cn1)]) (vs := [(122, .slice An1 e5.length cn1)]) (l := [.loaded ⟨blkOf xr2.A, offOf xr2.A + ((IntKind.i64.wrap (z1 - 1)).toNat) * 1, none⟩ (.slice An1 e5.length cn1)]) (by kernel_rfl) ⟨RdL.cell (j := 0) ((hS.nestAt 1 rfl).rd) hxn1 rfl, trivial⟩ ?_
          rcases hx10 : e5[0]? with _ | e6
          · rw [hx10] at h; cases h
          rw [hx10] at h
          simp only [] at h
          refine ge_index (d := 123) (ty := 0) (t := 24) (el := 3) (sz := 1) (m := e5.length) (c := cn1) (x := (.tmp 122)) (y := (.const (.int .i64 0))) (A := An1) (k' := .i64) (j := 0) (jn := 0) (b0 := blkOf An1) (o0 := offOf An1) (by kernel_rfl) (by kernel_rfl) (by kernel_rfl) (by kernel_rfl) (by kernel_rfl) ((((hS.nestAt 1 rfl).nl.each _ _ _ hxn1 hx9).2.1).eqSome (pos_of_get hx10)) rfl (lt_of_get hx10) ?_
          refine ge_batch [23] (ans := [.val (.int .i64 e6)]) (vs := [(124, .int .i64 e6)]) (l := [.loaded ⟨blkOf An1, offOf An1 + 0 * 1, none⟩ (.int .i64 e6)]) (by kernel_rfl) ⟨RdL.cell (j := 0) (((hS.nestAt 1 rfl).nl.each _ _ _ hxn1 hx9).2.1) hx10 rfl, trivial⟩ ?_
          refine ge_lookup (κ := Int) (ν := Int) (d := 125) (b := b1) (q := 3) (t := 161) (kt := 3) (et := 3) (x := (.tmp 117)) (y := (.tmp 124)) (ty := 3) (m := mp4) (k := e6) (z := 0) (v := ((mget mp4 e6).getD 0)) (zv := .int .i64 0) (vv := .int .i64 ((mget mp4 e6).getD 0)) (by kernel_rfl) (by kernel_rfl) (by kernel_rfl) (by kernel_rfl) (by kernel_rfl) (fun w' => by kernel_rfl) rfl hS rfl rfl rfl ?_
          refine ge_batch [25, 26] (ans := []) (vs := [(127, .bool (decide (((mget mp4 e6).getD 0) > 0))), (126, .bool (decide (((mget mp4 e6).getD 0) > 0)))]) (l := []) (by kernel_rfl) trivial ?_
          refine ge_nil fun a hF => hK32 _ _ ?_ a hF
          by_cases hc21 : ((mget mp4 e6).getD 0) > 0
          · rw [if_pos hc21] at h
            refine we_known (t := 127) (b := decide (((mget mp4 e6).getD 0) > 0)) (v := true) (by kernel_rfl) (decide_eq_true hc21) ?_
            refine we_true (by kernel_rfl) ?_
            refine we_region [(0, 0), (1, 0), (2, 0), (3, 0), (4, 0), (5, 0), (6, 0), (7, 1), (8, 0)] rfl ?_
            refine ge_batch [0, 1, 2] (ans := []) (vs := [(130, .int .i64 (IntKind.i64.wrap (z1 - 1))), (129, .int .i64 z1), (128, (Rows.val xr2))]) (l := []) (by kernel_rfl) trivial ?_
            refine ge_index (d := 131) (ty := 0) (t := 76) (el := 24) (sz := 1) (m := xr2.n) (c := xr2.c) (x := (.tmp 128)) (y := (.tmp 130)) (A := xr2.A) (k' := .i64) (j := (IntKind.i64.wrap (z1 - 1))) (jn := ((IntKind.i64.wrap (z1 - 1)).toNat)) (b0 := blkOf xr2.A) (o0 := offOf xr2.A) (by kernel_rfl) (by kernel_rfl) (by kernel_rfl) (by kernel_rfl) (by kernel_rfl) ((hS.nestAt 1 rfl).rd.eqSome (pos_of_get hxn1)) (Int.toNat_of_nonneg hc19).symm (by have h0 := lt_of_get hx9; have h1 := (hS.nestAt 1 rfl).n; omega) ?_
            refine ge_batch [4] (ans := [.val (.slice An1 e5.length cn1)]) (vs := [(132, .slice An1 e5.length cn1)]) (l := [.loaded ⟨blkOf xr2.A, offOf xr2.A + ((IntKind.i64.wrap (z1 - 1)).toNat) * 1, none⟩ (.slice An1 e5.length cn1)]) (by kernel_rfl) ⟨RdL.cell (j := 0) ((hS.nestAt 1 rfl).rd) hxn1 rfl, trivial⟩ ?_
            refine ge_index (d := 133) (ty := 0) (t := 24) (el := 3) (sz := 1) (m := e5.length) (c := cn1) (x := (.tmp 132)) (y := (.const (.int .i64 0))) (A := An1) (k' := .i64) (j := 0) (jn := 0) (b0 := blkOf An1) (o0 := offOf An1) (by kernel_rfl) (by kernel_rfl) (by kernel_rfl) (by kernel_rfl) (by kernel_rfl) ((((hS.nestAt 1 rfl).nl.each _ _ _ hxn1 hx9).2.1).eqSome (pos_of_get hx10)) rfl (lt_of_get hx10) ?_
            refine ge_batch [6] (ans := [.val (.int .i64 e6)]) (vs := [(134, .int .i64 e6)]) (l := [.loaded ⟨blkOf An1, offOf An1 + 0 * 1, none⟩ (.int .i64 e6)]) (by kernel_rfl) ⟨RdL.cell (j := 0) (((hS.nestAt 1 rfl).nl.each _ _ _ hxn1 hx9).2.1) hx10 rfl, trivial⟩ ?_
            refine ge_new (d := some 135) (o := .cells #[.int .i64 e6] 3) (v := fun b => .slice (some ⟨b, 0, none⟩) 1 1) hS (fun b => by kernel_rfl) fun b5 w19 hx11 hS93 => ?_
            refine ge_batch [8] (ans := []) (vs := [(20, .slice (some ⟨b5, 0, none⟩) 1 1)]) (l := []) (by kernel_rfl) trivial ?_
            have hS94 := hS93.asRow (α := Int) (c := 1) ([e6] : List Int) (Nat.le_refl _) (by decide) rfl rfl
            have hS95 := hS94.bring 4 rfl
            have hS96 := hS95.bring 1 rfl
            have hS97 := hS96.bring 3 rfl
            have hS98 := hS97.bring 3 rfl
            have hS99 := hS98.takeN 4
            obtain rfl := Option.some.inj h
            exact ge_nil fun a hF => hQ _ _ _ (Outs.again ⟨(.slice (some ⟨b5, 0, none⟩) 1 1), hS99, hF.weaken ⟨by kernel_rfl, by kernel_rfl, by kernel_rfl, by kernel_rfl, by kernel_rfl, by kernel_rfl, by kernel_rfl, by kernel_rfl, by kernel_rfl, by kernel_rfl, by kernel_rfl, trivial⟩⟩)
          · rw [if_neg hc21] at h
            refine we_known (t := 127) (b := decide (((mget mp4 e6).getD 0) > 0)) (v := false) (by kernel_rfl) (decide_eq_false hc21) ?_
            refine we_false (by kernel_rfl) ?_
            have hS100 := hS.bring 3 rfl
            have hS101 := hS100.bring 3 rfl
            have hS102 := hS101.bring 3 rfl
            have hS103 := hS102.bring 3 rfl
            obtain rfl := Option.some.inj h
            exact we_skip fun a hF => hQ _ _ _ (Outs.again ⟨(.slice Z4 m10.length cz4), hS103, hF.weaken ⟨by kernel_rfl, by kernel_rfl, by kernel_rfl, by kernel_rfl, by kernel_rfl, by kernel_rfl, by kernel_rfl, by kernel_rfl, by kernel_rfl, by kernel_rfl, by kernel_rfl, trivial⟩⟩)
        · rw [if_neg hc20] at h
          refine ge_known (t := 116) (b := decide ((e5.length : Int) > 0)) (c := false) (by kernel_rfl) (decide_eq_false hc20) ?_
          refine ge_batch [16, 17, 18, 19, 20, 21, 22, 23, 24, 25, 26] (ans := []) (vs := [(127, .bool false), (126, undef), (125, undef), (124, undef), (123, undef), (122, undef), (121, undef), (120, undef), (119, undef), (118, undef), (117, undef)]) (l := []) (by kernel_rfl) trivial ?_
          refine ge_nil fun a hF => hK32 _ _ ?_ a hF
          refine we_false (by kernel_rfl) ?_
          have hS104 := hS.bring 3 rfl
          have hS105 := hS104.bring 3 rfl
          have hS106 := hS105.bring 3 rfl
          have hS107 := hS106.bring 3 rfl
          obtain rfl := Option.some.inj h
          exact we_skip fun a hF => hQ _ _ _ (Outs.again ⟨(.slice Z4 m10.length cz4), hS107, hF.weaken ⟨by kernel_rfl, by kernel_rfl, by kernel_rfl, by kernel_rfl, by kernel_rfl, by kernel_rfl, by kernel_rfl, by kernel_rfl, by kernel_rfl, by kernel_rfl, by kernel_rfl, trivial⟩⟩)
      · rw [if_neg hc19] at h
        cases h
    · rw [if_neg hc18] at h
      refine ge_known (t := 107) (b := decide (z1 > 0)) (c := false) (by kernel_rfl) (decide_eq_false hc18) ?_
      refine ge_batch [7, 8, 9, 10, 11, 12, 13, 14, 15, 16, 17, 18, 19, 20, 21, 22, 23, 24, 25, 26] (ans := []) (vs := [(127, .bool false), (126, undef), (125, undef), (124, undef), (123, undef), (122, undef), (121, undef), (120, undef), (119, undef), (118, undef), (117, undef), (116, .bool false), (115, .bool false), (114, undef), (113, undef), (112, undef), (111, undef), (110, undef), (109, undef), (108, undef)]) (l := []) (by kernel_rfl) trivial ?_
      refine ge_nil fun a hF => hK32 _ _ ?_ a hF
      refine we_false (by kernel_rfl) ?_
      have hS108 := hS.bring 3 rfl
      have hS109 := hS108.bring 3 rfl
      have hS110 := hS109.bring 3 rfl
      have hS111 := hS110.bring 3 rfl
      obtain rfl := Option.some.inj h
      exact we_skip fun a hF => hQ _ _ _ (Outs.again ⟨(.slice Z4 m10.length cz4), hS111, hF.weaken ⟨by kernel_rfl, by kernel_rfl, by kernel_rfl, by kernel_rfl, by kernel_rfl, by kernel_rfl, by kernel_rfl, by kernel_rfl, by kernel_rfl, by kernel_rfl, by kernel_rfl, trivial⟩⟩)
abbrev punctualref_Played.A6 (K : Nat) (w0 : World) (l0 : List SJob) (A0 : Option Addr) (c0 : Nat) (x1 : Int) (x2 : Bool) (x3 : Int) (x4 : Int) (hR0 : RdL w0 A0 l0) (hL0 : l0.length ≤ c0) (b1 : Nat) (hc1 : l0.length ≤ 17592186044416) (Z1 : Option Addr) (cz1 : Nat) (m3 : List Int) (mp3 : List (Int × Int)) (hc3 : 0 ≤ x4) (hc4 : ((x4).toNat) ≤ 5864062014805) (xr1 : Rows) (z1 : Int) (m4 : List Int) (m5 : List (List Int)) (xr2 : Rows) (mp4 : List (Int × Int)) (hc5 : z1 < x4) (hc6 : (punctualref_Always.f z1) = true) (m10 : List Int) (Z4 : Option Addr) (cz4 : Nat) (m12 : List Int) (Z5 : Option Addr) (cz5 : Nat) : (List Int) → Act → World → Prop := fun (s : (List Int)) a w => ∃ (v10 : Value), St w0 w [Own.of (.slice Z1 m4.length cz1) 3 m4, Own.nest xr2 24 3 m5, Own.of v10 3 s, Own.map (κ := Int) (ν := Int) b1 mp4] ∧ Frm 169 a [(0, .slice A0 l0.length c0), (1, .int .i64 x1), (2, .bool x2), (3, .int .i64 x3), (4, .int .i64 x4), (5, .func (.func 135) #[] #[]), (14, .map (some b1)), (15, (.slice Z1 m4.length cz1)), (18, (Rows.val xr2)), (19, .int .i64 z1), (20, v10)]
abbrev punctualref_Played.B6 (K : Nat) (w0 : World) (l0 : List SJob) (A0 : Option Addr) (c0 : Nat) (x1 : Int) (x2 : Bool) (x3 : Int) (x4 : Int) (hR0 : RdL w0 A0 l0) (hL0 : l0.length ≤ c0) (b1 : Nat) (hc1 : l0.length ≤ 17592186044416) (Z1 : Option Addr) (cz1 : Nat) (m3 : List Int) (mp3 : List (Int × Int)) (hc3 : 0 ≤ x4) (hc4 : ((x4).toNat) ≤ 5864062014805) (xr1 : Rows) (z1 : Int) (m4 : List Int) (m5 : List (List Int)) (xr2 : Rows) (mp4 : List (Int × Int)) (hc5 : z1 < x4) (hc6 : (punctualref_Always.f z1) = true) (m10 : List Int) (Z4 : Option Addr) (cz4 : Nat) (m12 : List Int) (Z5 : Option Addr) (cz5 : Nat) : ((List (List Int)) × (List Int)) → Exit → Act → World → Prop := Rets Tryd.prog Tryd.f88 (punctualref_Played.Post w0)
theorem punctualref_Played_p6 (K : Nat) (w0 : World) (l0 : List SJob) (A0 : Option Addr) (c0 : Nat) (x1 : Int) (x2 : Bool) (x3 : Int) (x4 : Int) (hR0 : RdL w0 A0 l0) (hL0 : l0.length ≤ c0) (b1 : Nat) (hc1 : l0.length ≤ 17592186044416) (Z1 : Option Addr) (cz1 : Nat) (m3 : List Int) (mp3 : List (Int × Int)) (hc3 : 0 ≤ x4) (hc4 : ((x4).toNat) ≤ 5864062014805) (xr1 : Rows) (z1 : Int) (m4 : List Int) (m5 : List (List Int)) (xr2 : Rows) (mp4 : List (Int × Int)) (hc5 : z1 < x4) (hc6 : (punctualref_Always.f z1) = true) (m10 : List Int) (Z4 : Option Addr) (cz4 : Nat) (m12 : List Int) (Z5 : Option Addr) (cz5 : Nat) (o : (List Int) ⊕ ((List (List Int)) × (List Int))) (h : punctualref_Played.p6 x3 m12 = some o) (w : World) (hS : St w0 w [Own.of (.slice Z1 m4.length cz1) 3 m4, Own.nest xr2 24 3 m5, Own.of (.slice Z5 m12.length cz5) 3 m12, Own.map (κ := Int) (ν := Int) b1 mp4]) (Q : Exit → Act → World → Prop) (hQ : ∀ x a w, Outs (punctualref_Played.A6 K w0 l0 A0 c0 x1 x2 x3 x4 hR0 hL0 b1 hc1 Z1 cz1 m3 mp3 hc3 hc4 xr1 z1 m4 m5 xr2 mp4 hc5 hc6 m10 Z4 cz4 m12 Z5 cz5) (punctualref_Played.B6 K w0 l0 A0 c0 x1 x2 x3 x4 hR0 hL0 b1 hc1 Z1 cz1 m3 mp3 hc3 hc4 xr1 z1 m4 m5 xr2 mp4 hc5 hc6 m10 Z4 cz4 m12 Z5 cz5) o x a w → Q x a w) : WE Tryd.prog 169 (subF Tryd.f88 [1, 1, 1, 1, 1, 0, 1, 0, 0, 1, 0, 0, 1, 1, 1, 1, 0]) Q [(0, .slice A0 l0.length c0), (1, .int .i64 x1), (2, .bool x2), (3, .int .i64 x3), (4, .int .i64 x4), (5, .func (.func 135) #[] #[]), (14, .map (some b1)), (15, (.slice Z1 m4.length cz1)), (18, (Rows.val xr2)), (19, .int .i64 z1), (20, (.slice Z5 m12.length cz5))] w := by
  simp only [punctualref_Played.p6] at h
  refine we_seq fun K34 hK34 => ?_
  refine we_region [(0, 0), (1, 0), (2, 0), (3, 0)] rfl ?_
  refine ge_batch [0, 1, 2, 3] (ans := []) (vs := [(139, .bool (decide ((m12.length : Int) > x3))), (138, .int .i64 x3), (137, .int .i64 (m12.length : Int)), (136, (.slice Z5 m12.length cz5))]) (l := []) (by kernel_rfl) trivial ?_
  refine ge_nil fun a hF => hK34 _ _ ?_ a hF
  by_cases hc22 : (m12.length : Int) > x3
  · rw [if_pos hc22] at h
    refine we_known (t := 139) (b := decide ((m12.length : Int) > x3)) (v := true) (by kernel_rfl) (decide_eq_true hc22) ?_
    refine we_true (by kernel_rfl) ?_
    refine we_region [(0, 0), (1, 0), (2, 0), (3, 0)] rfl ?_
    refine ge_batch [0, 1] (ans := []) (vs := [(141, .int .i64 x3), (140, (.slice Z5 m12.length cz5))]) (l := []) (by kernel_rfl) trivial ?_
    by_cases hc23 : 0 ≤ x3
    · rw [if_pos hc23] at h
      by_cases hc24 : ((x3).toNat) ≤ m12.length
      · rw [if_pos hc24] at h
        refine ge_sliceHi (d := 142) (ty := 24) (t := 24) (el := 3) (sz := 1) (m := m12.length) (c := cz5) (hn := ((x3).toNat)) (x := (.tmp 140)) (y := (.tmp 141)) (A := Z5) (k' := .i64) (hi := x3) (by kernel_rfl) (by kernel_rfl) (by kernel_rfl) (Int.toNat_of_nonneg hc23).symm (by kernel_rfl) (by kernel_rfl) (by have f0 := hc24; have f1 := (hS.capAt 2 rfl); omega) ?_
        refine ge_same (t := 142) (v := .slice Z5 ((x3).toNat) cz5) (v' := .slice Z5 ((m12.take ((x3).toNat)).length) cz5) (by kernel_rfl) (congrArg (fun z => Value.slice Z5 z cz5) (show (x3).toNat = (m12.take ((x3).toNat)).length by have f0 := hc24; have f1 := (hS.capAt 2 rfl); simp only [List.length_take]; omega)) ?_
        refine ge_batch [3] (ans := []) (vs := [(20, .slice Z5 ((m12.take ((x3).toNat)).length) cz5)]) (l := []) (by kernel_rfl) trivial ?_
        have hS113 := hS.bring 2 rfl
        have hS114 := hS113.shrink ((x3).toNat)
        have hS115 := hS114.bring 3 rfl
        have hS116 := hS115.bring 1 rfl
        have hS117 := hS116.bring 3 rfl
        have hS118 := hS117.bring 3 rfl
        obtain rfl := Option.some.inj h
        exact ge_nil fun a hF => hQ _ _ _ (Outs.again ⟨(.slice Z5 (m12.take ((x3).toNat)).length cz5), hS118, hF.weaken ⟨by kernel_rfl, by kernel_rfl, by kernel_rfl, by kernel_rfl, by kernel_rfl, by kernel_rfl, by kernel_rfl, by kernel_rfl, by kernel_rfl, by kernel_rfl, by kernel_rfl, trivial⟩⟩)
      · rw [if_neg hc24] at h
        cases h
    · rw [if_neg hc23] at h
      cases h
  · rw [if_neg hc22] at h
    refine we_known (t := 139) (b := decide ((m12.length : Int) > x3)) (v := false) (by kernel_rfl) (decide_eq_false hc22) ?_
    refine we_false (by kernel_rfl) ?_
    have hS119 := hS.bring 3 rfl
    have hS120 := hS119.bring 3 rfl
    have hS121 := hS120.bring 3 rfl
    have hS122 := hS121.bring 3 rfl
    obtain rfl := Option.some.inj h
    exact we_skip fun a hF => hQ _ _ _ (Outs.again ⟨(.slice Z5 m12.length cz5), hS122, hF.weaken ⟨by kernel_rfl, by kernel_rfl, by kernel_rfl, by kernel_rfl, by kernel_rfl, by kernel_rfl, by kernel_rfl, by kernel_rfl, by kernel_rfl, by kernel_rfl, by kernel_rfl, trivial⟩⟩)
abbrev punctualref_Played.A7 (K : Nat) (w0 : World) (l0 : List SJob) (A0 : Option Addr) (c0 : Nat) (x1 : Int) (x2 : Bool) (x3 : Int) (x4 : Int) (hR0 : RdL w0 A0 l0) (hL0 : l0.length ≤ c0) (b1 : Nat) (hc1 : l0.length ≤ 17592186044416) (Z1 : Option Addr) (cz1 : Nat) (m3 : List Int) (mp3 : List (Int × Int)) (hc3 : 0 ≤ x4) (hc4 : ((x4).toNat) ≤ 5864062014805) (xr1 : Rows) (z1 : Int) (m4 : List Int) (m5 : List (List Int)) (xr2 : Rows) (mp4 : List (Int × Int)) (hc5 : z1 < x4) (hc6 : (punctualref_Always.f z1) = true) (m10 : List Int) (Z4 : Option Addr) (cz4 : Nat) (m12 : List Int) (Z5 : Option Addr) (cz5 : Nat) (m14 : List Int) (hc25 : 0 ≤ z1) (e7 : List Int) (hx12 : m5[(z1).toNat]? = some e7) (An2 : Option Addr) (cn2 : Nat) (hxn2 : xr2.hs[(z1).toNat]? = some ⟨An2, e7.length, cn2⟩) (Z6 : Option Addr) (cz6 : Nat) (hh1 : (Rows.put xr2 ((z1).toNat) Z6 m14.length cz6).hs[(z1).toNat]? = some ⟨Z6, m14.length, cz6⟩) (hx13 : (m5.set ((z1).toNat) m14)[(z1).toNat]? = some m14) : (Int × (List Int) × (List (Int × Int))) → Act → World → Prop := fun (s : Int × (List Int) × (List (Int × Int))) a w => St w0 w [Own.of (.slice Z1 s.2.1.length cz1) 3 s.2.1, Own.nest (Rows.put xr2 ((z1).toNat) Z6 m14.length cz6) 24 3 (m5.set ((z1).toNat) m14), Own.map (κ := Int) (ν := Int) b1 s.2.2] ∧ Frm 169 a [(0, .slice A0 l0.length c0), (1, .int .i64 x1), (2, .bool x2), (3, .int .i64 x3), (4, .int .i64 x4), (5, .func (.func 135) #[] #[]), (14, .map (some b1)), (15, (.slice Z1 s.2.1.length cz1)), (18, (Rows.val (Rows.put xr2 ((z1).toNat) Z6 m14.length cz6))), (19, .int .i64 z1), (147, .slice Z6 m14.length cz6), (148, .int .i64 (m14.length : Int)), (149, .int .i64 s.1)]
abbrev punctualref_Played.B7 (K : Nat) (w0 : World) (l0 : List SJob) (A0 : Option Addr) (c0 : Nat) (x1 : Int) (x2 : Bool) (x3 : Int) (x4 : Int) (hR0 : RdL w0 A0 l0) (hL0 : l0.length ≤ c0) (b1 : Nat) (hc1 : l0.length ≤ 17592186044416) (Z1 : Option Addr) (cz1 : Nat) (m3 : List Int) (mp3 : List (Int × Int)) (hc3 : 0 ≤ x4) (hc4 : ((x4).toNat) ≤ 5864062014805) (xr1 : Rows) (z1 : Int) (m4 : List Int) (m5 : List (List Int)) (xr2 : Rows) (mp4 : List (Int × Int)) (hc5 : z1 < x4) (hc6 : (punctualref_Always.f z1) = true) (m10 : List Int) (Z4 : Option Addr) (cz4 : Nat) (m12 : List Int) (Z5 : Option Addr) (cz5 : Nat) (m14 : List Int) (hc25 : 0 ≤ z1) (e7 : List Int) (hx12 : m5[(z1).toNat]? = some e7) (An2 : Option Addr) (cn2 : Nat) (hxn2 : xr2.hs[(z1).toNat]? = some ⟨An2, e7.length, cn2⟩) (Z6 : Option Addr) (cz6 : Nat) (hh1 : (Rows.put xr2 ((z1).toNat) Z6 m14.length cz6).hs[(z1).toNat]? = some ⟨Z6, m14.length, cz6⟩) (hx13 : (m5.set ((z1).toNat) m14)[(z1).toNat]? = some m14) : (((List Int) × (List (Int × Int))) ⊕ ((List (List Int)) × (List Int))) → Exit → Act → World → Prop := Exits 8 (fun (s : (List Int) × (List (Int × Int))) a w => St w0 w [Own.of (.slice Z1 s.1.length cz1) 3 s.1, Own.nest (Rows.put xr2 ((z1).toNat) Z6 m14.length cz6) 24 3 (m5.set ((z1).toNat) m14), Own.map (κ := Int) (ν := Int) b1 s.2] ∧ Frm 169 a [(0, .slice A0 l0.length c0), (1, .int .i64 x1), (2, .bool x2), (3, .int .i64 x3), (4, .int .i64 x4), (5, .func (.func 135) #[] #[]), (14, .map (some b1)), (15, (.slice Z1 s.1.length cz1)), (18, (Rows.val (Rows.put xr2 ((z1).toNat) Z6 m14.length cz6))), (19, .int .i64 z1)]) (Rets Tryd.prog Tryd.f88 (punctualref_Played.Post w0))
theorem punctualref_Played_r7 (K : Nat) (w0 : World) (l0 : List SJob) (A0 : Option Addr) (c0 : Nat) (x1 : Int) (x2 : Bool) (x3 : Int) (x4 : Int) (hR0 : RdL w0 A0 l0) (hL0 : l0.length ≤ c0) (b1 : Nat) (hc1 : l0.length ≤ 17592186044416) (Z1 : Option Addr) (cz1 : Nat) (m3 : List Int) (mp3 : List (Int × Int)) (hc3 : 0 ≤ x4) (hc4 : ((x4).toNat) ≤ 5864062014805) (xr1 : Rows) (z1 : Int) (m4 : List Int) (m5 : List (List Int)) (xr2 : Rows) (mp4 : List (Int × Int)) (hc5 : z1 < x4) (hc6 : (punctualref_Always.f z1) = true) (m10 : List Int) (Z4 : Option Addr) (cz4 : Nat) (m12 : List Int) (Z5 : Option Addr) (cz5 : Nat) (m14 : List Int) (hc25 : 0 ≤ z1) (e7 : List Int) (hx12 : m5[(z1).toNat]? = some e7) (An2 : Option Addr) (cn2 : Nat) (hxn2 : xr2.hs[(z1).toNat]? = some ⟨An2, e7.length, cn2⟩) (Z6 : Option Addr) (cz6 : Nat) (hh1 : (Rows.put xr2 ((z1).toNat) Z6 m14.length cz6).hs[(z1).toNat]? = some ⟨Z6, m14.length, cz6⟩) (hx13 : (m5.set ((z1).toNat) m14)[(z1).toNat]? = some m14) (s : Int × (List Int) × (List (Int × Int))) (o : (Int × (List Int) × (List (Int × Int))) ⊕ (((List Int) × (List (Int × Int))) ⊕ ((List (List Int)) × (List Int)))) (h : punctualref_Played.r7 z1 m14 s = some o) (a : Act) (w : World) (hA : punctualref_Played.A7 K w0 l0 A0 c0 x1 x2 x3 x4 hR0 hL0 b1 hc1 Z1 cz1 m3 mp3 hc3 hc4 xr1 z1 m4 m5 xr2 mp4 hc5 hc6 m10 Z4 cz4 m12 Z5 cz5 m14 hc25 e7 hx12 An2 cn2 hxn2 Z6 cz6 hh1 hx13 s a w) (Q : Exit → Act → World → Prop) (hQ : ∀ x a w, Outs (punctualref_Played.A7 K w0 l0 A0 c0 x1 x2 x3 x4 hR0 hL0 b1 hc1 Z1 cz1 m3 mp3 hc3 hc4 xr1 z1 m4 m5 xr2 mp4 hc5 hc6 m10 Z4 cz4 m12 Z5 cz5 m14 hc25 e7 hx12 An2 cn2 hxn2 Z6 cz6 hh1 hx13) (punctualref_Played.B7 K w0 l0 A0 c0 x1 x2 x3 x4 hR0 hL0 b1 hc1 Z1 cz1 m3 mp3 hc3 hc4 xr1 z1 m4 m5 xr2 mp4 hc5 hc6 m10 Z4 cz4 m12 Z5 cz5 m14 hc25 e7 hx12 An2 cn2 hxn2 Z6 cz6 hh1 hx13) o x a w → Q x a w) : (subF Tryd.f88 [1, 1, 1, 1, 1, 0, 1, 0, 0, 1, 0, 0, 1, 1, 1, 1, 1, 1, 1, 0, 0]).wp Tryd.prog Q a w := by
  obtain ⟨z5, m15, mp5⟩ := s
  obtain ⟨hS, hF⟩ := hA
  replace hS : St w0 w [Own.of (.slice Z1 m15.length cz1) 3 m15, Own.nest (Rows.put xr2 ((z1).toNat) Z6 m14.length cz6) 24 3 (m5.set ((z1).toNat) m14), Own.map (κ := Int) (ν := Int) b1 mp5] := hS
  simp only [punctualref_Played.r7] at h
  refine (?_ : WE Tryd.prog 169 (subF Tryd.f88 [1, 1, 1, 1, 1, 0, 1, 0, 0, 1, 0, 0, 1, 1, 1, 1, 1, 1, 1, 0, 0]) Q [(0, .slice A0 l0.length c0), (1, .int .i64 x1), (2, .bool x2), (3, .int .i64 x3), (4, .int .i64 x4), (5, .func (.func 135) #[] #[]), (14, .map (some b1)), (15, (.slice Z1 m15.length cz1)), (18, (Rows.val (Rows.put xr2 ((z1).toNat) Z6 m14.length cz6))), (19, .int .i64 z1), (147, .slice Z6 m14.length cz6), (148, .int .i64 (m14.length : Int)), (149, .int .i64 z5)] w) a hF
  clear hF a
  refine we_seq fun K37 hK37 => ?_
  refine we_region [(0, 0)] rfl ?_
  refine ge_batch [0] (ans := []) (vs := [(150, .bool (decide (z5 < (m14.length : Int))))]) (l := []) (by kernel_rfl) trivial ?_
  refine ge_nil fun a hF => hK37 _ _ ?_ a hF
  refine we_seq fun K38 hK38 => ?_
  by_cases hc26 : z5 < (m14.length : Int)
  · rw [if_pos hc26] at h
    refine we_known (t := 150) (b := decide (z5 < (m14.length : Int))) (v := true) (by kernel_rfl) (decide_eq_true hc26) ?_
    refine we_true (by kernel_rfl) ?_
    refine we_skip fun a hF => hK38 _ _ ?_ a hF
    refine we_seq fun K39 hK39 => ?_
    refine we_block ?_
    refine we_seq fun K40 hK40 => ?_
    refine we_region [(0, 0), (1, 0), (2, 0)] rfl ?_
    by_cases hc27 : 0 ≤ z5
    · rw [if_pos hc27] at h
      rcases hx14 : m14[(z5).toNat]? with _ | e8
      · rw [hx14] at h; cases h
      rw [hx14] at h
      simp only [] at h
      refine ge_index (d := 151) (ty := 0) (t := 24) (el := 3) (sz := 1) (m := m14.length) (c := cz6) (x := (.tmp 147)) (y := (.tmp 149)) (A := Z6) (k' := .i64) (j := z5) (jn := ((z5).toNat)) (b0 := blkOf Z6) (o0 := offOf Z6) (by kernel_rfl) (by kernel_rfl) (by kernel_rfl) (by kernel_rfl) (by kernel_rfl) ((((hS.nestAt 1 rfl).nl.each _ _ _ hh1 hx13).2.1).eqSome (pos_of_get hx14)) (Int.toNat_of_nonneg hc27).symm (lt_of_get hx14) ?_
      refine ge_batch [1, 2] (ans := [.val (.int .i64 e8)]) (vs := [(25, .int .i64 e8), (152, .int .i64 e8)]) (l := [.loaded ⟨blkOf Z6, offOf Z6 + ((z5).toNat) * 1, none⟩ (.int .i64 e8)]) (by kernel_rfl) ⟨RdL.cell (j := 0) (((hS.nestAt 1 rfl).nl.each _ _ _ hh1 hx13).2.1) hx14 rfl, trivial⟩ ?_
      refine ge_nil fun a hF => hK40 _ _ ?_ a hF
      refine we_seq fun K41 hK41 => ?_
      refine we_region [(0, 0), (1, 0), (2, 0), (3, 0), (4, 2)] rfl ?_
      refine ge_batch [0, 1] (ans := []) (vs := [(154, .int .i64 e8), (153, .map (some b1))]) (l := []) (by kernel_rfl) trivial ?_
      refine ge_lookup (κ := Int) (ν := Int) (d := 155) (b := b1) (q := 2) (t := 161) (kt := 3) (et := 3) (x := (.tmp 153)) (y := (.tmp 154)) (ty := 3) (m := mp5) (k := e8) (z := 0) (v := ((mget mp5 e8).getD 0)) (zv := .int .i64 0) (vv := .int .i64 ((mget mp5 e8).getD 0)) (by kernel_rfl) (by kernel_rfl) (by kernel_rfl) (by kernel_rfl) (by kernel_rfl) (fun w' => by kernel_rfl) rfl hS rfl rfl rfl ?_
      refine ge_batch [3] (ans := []) (vs := [(156, .int .i64 (IntKind.i64.wrap (((mget mp5 e8).getD 0) - 1)))]) (l := []) (by kernel_rfl) trivial ?_
      have hS130 := hS.bring 2 rfl
      refine ge_mapSet (κ := Int) (ν := Int) (b := b1) (ins := false) (mm := 0) (t := 161) (kt := 3) (et := 3) (x := (.tmp 153)) (y := (.tmp 154)) (u := (.tmp 156)) (ty := 0) (m := mp5) (k := e8) (v := (IntKind.i64.wrap (((mget mp5 e8).getD 0) - 1))) (vv := .int .i64 (IntKind.i64.wrap (((mget mp5 e8).getD 0) - 1))) (by kernel_rfl) (by kernel_rfl) (by kernel_rfl) (by kernel_rfl) rfl (by kernel_rfl) (by kernel_rfl) hS130 fun w23 hS131 => ?_
      refine ge_nil fun a hF => hK41 _ _ ?_ a hF
      refine we_seq fun K42 hK42 => ?_
      refine we_region [(0, 0), (1, 0), (2, 0), (3, 0)] rfl ?_
      refine ge_batch [0, 1] (ans := []) (vs := [(158, .int .i64 e8), (157, .map (some b1))]) (l := []) (by kernel_rfl) trivial ?_
      refine ge_lookup (κ := Int) (ν := Int) (d := 159) (b := b1) (q := 0) (t := 161) (kt := 3) (et := 3) (x := (.tmp 157)) (y := (.tmp 158)) (ty := 3) (m := (mset mp5 e8 (IntKind.i64.wrap (((mget mp5 e8).getD 0) - 1)))) (k := e8) (z := 0) (v := ((mget (mset mp5 e8 (IntKind.i64.wrap (((mget mp5 e8).getD 0) - 1))) e8).getD 0)) (zv := .int .i64 0) (vv := .int .i64 ((mget (mset mp5 e8 (IntKind.i64.wrap (((mget mp5 e8).getD 0) - 1))) e8).getD 0)) (by kernel_rfl) (by kernel_rfl) (by kernel_rfl) (by kernel_rfl) (by kernel_rfl) (fun w' => by kernel_rfl) rfl hS131 rfl rfl rfl ?_
      refine ge_batch [3] (ans := []) (vs := [(160, .bool (((mget (mset mp5 e8 (IntKind.i64.wrap (((mget mp5 e8).getD 0) - 1))) e8).getD 0) == 0))]) (l := []) (by kernel_rfl) trivial ?_
      refine ge_nil fun a hF => hK42 _ _ ?_ a hF
      by_cases hc28 : ((mget (mset mp5 e8 (IntKind.i64.wrap (((mget mp5 e8).getD 0) - 1))) e8).getD 0) = 0
      · rw [if_pos hc28] at h
        refine we_known (t := 160) (b := (((mget (mset mp5 e8 (IntKind.i64.wrap (((mget mp5 e8).getD 0) - 1))) e8).getD 0) == 0)) (v := true) (by kernel_rfl) (beq_iff_eq.2 hc28) ?_
        refine we_true (by kernel_rfl) ?_
        refine we_region [(0, 0), (1, 0), (2, 0), (3, 0), (4, 0), (5, 2)] rfl ?_
        refine ge_batch [0, 1, 2, 3] (ans := []) (vs := [(164, .int .i64 (IntKind.i64.wrap (z1 + 1))), (163, .int .i64 z1), (162, .int .i64 e8), (161, (.slice Z1 m15.length cz1))]) (l := []) (by kernel_rfl) trivial ?_
        by_cases hc29 : 0 ≤ e8
        · rw [if_pos hc29] at h
          rcases hx15 : m15[(e8).toNat]? with _ | e9
          · rw [hx15] at h; cases h
          rw [hx15] at h
          simp only [] at h
          refine ge_index (d := 165) (ty := 0) (t := 24) (el := 3) (sz := 1) (m := m15.length) (c := cz1) (x := (.tmp 161)) (y := (.tmp 162)) (A := Z1) (k' := .i64) (j := e8) (jn := ((e8).toNat)) (b0 := blkOf Z1) (o0 := offOf Z1) (by kernel_rfl) (by kernel_rfl) (by kernel_rfl) (by kernel_rfl) (by kernel_rfl) ((hS131.rdAt 1 rfl).eqSome (pos_of_get hx15)) (Int.toNat_of_nonneg hc29).symm (lt_of_get hx15) ?_
          have hS132 := hS131.bring 1 rfl
          refine ge_seti (α := Int) (A := Z1) (nn := m15.length) (c := cz1) (t := 3) (l := m15) (x := e9) (x' := (IntKind.i64.wrap (z1 + 1))) (jn := ((e8).toNat)) (j := 0) (vs := [.int .i64 (IntKind.i64.wrap (z1 + 1))]) (l' := [.stored ⟨blkOf Z1, offOf Z1 + ((e8).toNat) * 1, none⟩ (.int .i64 (IntKind.i64.wrap (z1 + 1)))]) hS132 (by kernel_rfl) (by kernel_rfl) hx15 rfl rfl rfl fun w24 hS133 => ?_
          have hS134 : St w0 w24 [Own.of (.slice Z1 m15.length cz1) 3 (m15.set ((e8).toNat) (IntKind.i64.wrap (z1 + 1))), Own.map (κ := Int) (ν := Int) b1 (mset mp5 e8 (IntKind.i64.wrap (((mget mp5 e8).getD 0) - 1))), Own.nest (Rows.put xr2 ((z1).toNat) Z6 m14.length cz6) 24 3 (m5.set ((z1).toNat) m14)] := hS133
          have hE2 : m15.length = (m15.set ((e8).toNat) (IntKind.i64.wrap (z1 + 1))).length := hS134.lenAt 0 rfl
          have hS135 : St w0 w24 [Own.of (.slice Z1 (m15.set ((e8).toNat) (IntKind.i64.wrap (z1 + 1))).length cz1) 3 (m15.set ((e8).toNat) (IntKind.i64.wrap (z1 + 1))), Own.map (κ := Int) (ν := Int) b1 (mset mp5 e8 (IntKind.i64.wrap (((mget mp5 e8).getD 0) - 1))), Own.nest (Rows.put xr2 ((z1).toNat) Z6 m14.length cz6) 24 3 (m5.set ((z1).toNat) m14)] := by rw [← hE2]; exact hS134
          refine ge_same (t := 15) (v := (.slice Z1 m15.length cz1)) (v' := (.slice Z1 (m15.set ((e8).toNat) (IntKind.i64.wrap (z1 + 1))).length cz1)) (by kernel_rfl) (by rw [hE2]) ?_
          refine ge_same (t := 161) (v := (.slice Z1 m15.length cz1)) (v' := (.slice Z1 (m15.set ((e8).toNat) (IntKind.i64.wrap (z1 + 1))).length cz1)) (by kernel_rfl) (by rw [hE2]) ?_
          refine ge_nil fun a hF => hK39 _ _ ?_ a hF
          refine we_region [(0, 0), (1, 0)] rfl ?_
          refine ge_batch [0, 1] (ans := []) (vs := [(149, .int .i64 (IntKind.i64.wrap (z5 + 1))), (166, .int .i64 (IntKind.i64.wrap (z5 + 1)))]) (l := []) (by kernel_rfl) trivial ?_
          have hS136 := hS135.bring 1 rfl
          have hS137 := hS136.bring 2 rfl
          have hS138 := hS137.bring 2 rfl
          obtain rfl := Option.some.inj h
          exact ge_nil fun a hF => hQ _ _ _ (Outs.again ⟨hS138, hF.weaken ⟨by kernel_rfl, by kernel_rfl, by kernel_rfl, by kernel_rfl, by kernel_rfl, by kernel_rfl, by kernel_rfl, by kernel_rfl, by kernel_rfl, by kernel_rfl, by kernel_rfl, by kernel_rfl, by kernel_rfl, trivial⟩⟩)
        · rw [if_neg hc29] at h
          cases h
      · rw [if_neg hc28] at h
        refine we_known (t := 160) (b := (((mget (mset mp5 e8 (IntKind.i64.wrap (((mget mp5 e8).getD 0) - 1))) e8).getD 0) == 0)) (v := false) (by kernel_rfl) (beq_eq_false_iff_ne.2 hc28) ?_
        refine we_false (by kernel_rfl) ?_
        refine we_skip fun a hF => hK39 _ _ ?_ a hF
        refine we_region [(0, 0), (1, 0)] rfl ?_
        refine ge_batch [0, 1] (ans := []) (vs := [(149, .int .i64 (IntKind.i64.wrap (z5 + 1))), (166, .int .i64 (IntKind.i64.wrap (z5 + 1)))]) (l := []) (by kernel_rfl) trivial ?_
        have hS139 := hS131.bring 2 rfl
        have hS140 := hS139.bring 2 rfl
        obtain rfl := Option.some.inj h
        exact ge_nil fun a hF => hQ _ _ _ (Outs.again ⟨hS140, hF.weaken ⟨by kernel_rfl, by kernel_rfl, by kernel_rfl, by kernel_rfl, by kernel_rfl, by kernel_rfl, by kernel_rfl, by kernel_rfl, by kernel_rfl, by kernel_rfl, by kernel_rfl, by kernel_rfl, by kernel_rfl, trivial⟩⟩)
    · rw [if_neg hc27] at h
      cases h
  · rw [if_neg hc26] at h
    refine we_known (t := 150) (b := decide (z5 < (m14.length : Int))) (v := false) (by kernel_rfl) (decide_eq_false hc26) ?_
    refine we_false (by kernel_rfl) ?_
    have hS141 := hS.bring 2 rfl
    have hS142 := hS141.bring 2 rfl
    have hS143 := hS142.bring 2 rfl
    obtain rfl := Option.some.inj h
    exact we_exit fun a hF => hQ _ _ _ (Outs.out nofun (Exits.here ⟨hS143, hF.weaken ⟨by kernel_rfl, by kernel_rfl, by kernel_rfl, by kernel_rfl, by kernel_rfl, by kernel_rfl, by kernel_rfl, by kernel_rfl, by kernel_rfl, by kernel_rfl, trivial⟩⟩))
abbrev punctualref_Played.A1 (K : Nat) (w0 : World) (l0 : List SJob) (A0 : Option Addr) (c0 : Nat) (x1 : Int) (x2 : Bool) (x3 : Int) (x4 : Int) (hR0 : RdL w0 A0 l0) (hL0 : l0.length ≤ c0) (b1 : Nat) (hc1 : l0.length ≤ 17592186044416) (Z1 : Option Addr) (cz1 : Nat) (m3 : List Int) (mp3 : List (Int × Int)) (hc3 : 0 ≤ x4) (hc4 : ((x4).toNat) ≤ 5864062014805) (xr1 : Rows) : (Int × (List Int) × (List (List Int)) × (List (Int × Int))) → Act → World → Prop := fun (s : Int × (List Int) × (List (List Int)) × (List (Int × Int))) a w => ∃ (xr2 : Rows), St w0 w [Own.of (.slice Z1 s.2.1.length cz1) 3 s.2.1, Own.nest xr2 24 3 s.2.2.1, Own.map (κ := Int) (ν := Int) b1 s.2.2.2] ∧ Frm 169 a [(0, .slice A0 l0.length c0), (1, .int .i64 x1), (2, .bool x2), (3, .int .i64 x3), (4, .int .i64 x4), (5, .func (.func 135) #[] #[]), (14, .map (some b1)), (15, (.slice Z1 s.2.1.length cz1)), (18, (Rows.val xr2)), (19, .int .i64 s.1)]
abbrev punctualref_Played.B1 (K : Nat) (w0 : World) (l0 : List SJob) (A0 : Option Addr) (c0 : Nat) (x1 : Int) (x2 : Bool) (x3 : Int) (x4 : Int) (hR0 : RdL w0 A0 l0) (hL0 : l0.length ≤ c0) (b1 : Nat) (hc1 : l0.length ≤ 17592186044416) (Z1 : Option Addr) (cz1 : Nat) (m3 : List Int) (mp3 : List (Int × Int)) (hc3 : 0 ≤ x4) (hc4 : ((x4).toNat) ≤ 5864062014805) (xr1 : Rows) : (((List Int) × (List (List Int))) ⊕ ((List (List Int)) × (List Int))) → Exit → Act → World → Prop := Exits 2 (fun (s : (List Int) × (List (List Int))) a w => ∃ (xr3 : Rows), St w0 w [Own.of (.slice Z1 s.1.length cz1) 3 s.1, Own.nest xr3 24 3 s.2] ∧ Frm 169 a [(15, (.slice Z1 s.1.length cz1)), (18, (Rows.val xr3))]) (Rets Tryd.prog Tryd.f88 (punctualref_Played.Post w0))
theorem punctualref_Played_r1 (K : Nat) (w0 : World) (l0 : List SJob) (A0 : Option Addr) (c0 : Nat) (x1 : Int) (x2 : Bool) (x3 : Int) (x4 : Int) (hR0 : RdL w0 A0 l0) (hL0 : l0.length ≤ c0) (b1 : Nat) (hc1 : l0.length ≤ 17592186044416) (Z1 : Option Addr) (cz1 : Nat) (m3 : List Int) (mp3 : List (Int × Int)) (hc3 : 0 ≤ x4) (hc4 : ((x4).toNat) ≤ 5864062014805) (xr1 : Rows) (s : Int × (List Int) × (List (List Int)) × (List (Int × Int))) (o : (Int × (List Int) × (List (List Int)) × (List (Int × Int))) ⊕ (((List Int) × (List (List Int))) ⊕ ((List (List Int)) × (List Int)))) (h : punctualref_Played.r1 K l0 x1 x2 x3 x4 s = some o) (a : Act) (w : World) (hA : punctualref_Played.A1 K w0 l0 A0 c0 x1 x2 x3 x4 hR0 hL0 b1 hc1 Z1 cz1 m3 mp3 hc3 hc4 xr1 s a w) (Q : Exit → Act → World → Prop) (hQ : ∀ x a w, Outs (punctualref_Played.A1 K w0 l0 A0 c0 x1 x2 x3 x4 hR0 hL0 b1 hc1 Z1 cz1 m3 mp3 hc3 hc4 xr1) (punctualref_Played.B1 K w0 l0 A0 c0 x1 x2 x3 x4 hR0 hL0 b1 hc1 Z1 cz1 m3 mp3 hc3 hc4 xr1) o x a w → Q x a w) : (subF Tryd.f88 [1, 1, 1, 1, 1, 0, 1, 0, 0]).wp Tryd.prog Q a w := by
  obtain ⟨z1, m4, m5, mp4⟩ := s
  obtain ⟨xr2, hS, hF⟩ := hA
  replace hS : St w0 w [Own.of (.slice Z1 m4.length cz1) 3 m4, Own.nest xr2 24 3 m5, Own.map (κ := Int) (ν := Int) b1 mp4] := hS
  simp only [punctualref_Played.r1] at h
  refine (?_ : WE Tryd.prog 169 (subF Tryd.f88 [1, 1, 1, 1, 1, 0, 1, 0, 0]) Q [(0, .slice A0 l0.length c0), (1, .int .i64 x1), (2, .bool x2), (3, .int .i64 x3), (4, .int .i64 x4), (5, .func (.func 135) #[] #[]), (14, .map (some b1)), (15, (.slice Z1 m4.length cz1)), (18, (Rows.val xr2)), (19, .int .i64 z1)] w) a hF
  clear hF a
  refine we_seq fun K14 hK14 => ?_
  refine we_seq fun K15 hK15 => ?_
  refine we_region [(0, 0), (1, 0), (2, 0)] rfl ?_
  refine ge_batch [0, 1, 2] (ans := []) (vs := [(49, .bool (decide (z1 < x4))), (48, .int .i64 x4), (47, .int .i64 z1)]) (l := []) (by kernel_rfl) trivial ?_
  refine ge_nil fun a hF => hK15 _ _ ?_ a hF
  by_cases hc5 : z1 < x4
  · rw [if_pos hc5] at h
    refine we_known (t := 49) (b := decide (z1 < x4)) (v := true) (by kernel_rfl) (decide_eq_true hc5) ?_
    refine we_true (by kernel_rfl) ?_
    refine we_skip fun a hF => hK14 _ _ ?_ a hF
    refine we_seq fun K16 hK16 => ?_
    refine we_block ?_
    refine we_seq fun K17 hK17 => ?_
    refine we_seq fun K18 hK18 => ?_
    refine we_region [(0, 0), (1, 0), (2, 1), (3, 0)] rfl ?_
    refine ge_batch [0, 1] (ans := []) (vs := [(53, .int .i64 z1), (52, .func (.func 135) #[] #[])]) (l := []) (by kernel_rfl) trivial ?_
    refine ge_call (d := some 54) (f := 135) (args := #[.int .i64 z1]) (by kernel_rfl) (punctualref_Always_ok z1 _ _ rfl) ?_
    rintro _ w9 ⟨rfl, hS26⟩
    refine ⟨_, rfl, hS26.below, ?_⟩
    have hS27 := hS.call hS26
    refine ge_batch [3] (ans := []) (vs := [(55, .bool (!(punctualref_Always.f z1)))]) (l := []) (by kernel_rfl) trivial ?_
    refine ge_nil fun a hF => hK18 _ _ ?_ a hF
    by_cases hc6 : (punctualref_Always.f z1) = true
    · rw [if_pos hc6] at h
      refine we_known (t := 55) (b := !(punctualref_Always.f z1)) (v := false) (by kernel_rfl) (congrArg (fun z => !z) hc6) ?_
      refine we_false (by kernel_rfl) ?_
      refine we_skip fun a hF => hK17 _ _ ?_ a hF
      refine we_seq fun K19 hK19 => ?_
      refine we_region [(0, 0)] rfl ?_
      refine ge_batch [0] (ans := []) (vs := [(20, .slice none 0 0)]) (l := []) (by kernel_rfl) trivial ?_
      refine ge_nil fun a hF => hK19 _ _ ?_ a hF
      refine we_seq fun K20 hK20 => ?_
      refine we_seq fun K21 hK21 => ?_
      refine we_region [(0, 0), (1, 0), (2, 0)] rfl ?_
      refine ge_batch [0, 1, 2] (ans := []) (vs := [(58, .int .i64 0), (57, .int .i64 (l0.length : Int)), (56, .slice A0 l0.length c0)]) (l := []) (by kernel_rfl) trivial ?_
      refine ge_nil fun a hF => hK21 _ _ ?_ a hF
      refine we_block ?_
      have hS28 := hS27.nil (α := Int) 3
      have hS29 := hS28.bring 3 rfl
      have hS30 := hS29.bring 1 rfl
      have hS31 := hS30.bring 3 rfl
      have hS32 := hS31.bring 3 rfl
      rcases hq6 : iter (punctualref_Played.r2 K l0 x1 z1 mp4) K (([] : List Int), 0) with _ | (m10 | rr6)
      · rw [hq6] at h; cases h
      · rw [hq6] at h
        simp only [] at h
        refine we_iter (A := punctualref_Played.A2 K w0 l0 A0 c0 x1 x2 x3 x4 hR0 hL0 b1 hc1 Z1 cz1 m3 mp3 hc3 hc4 xr1 z1 m4 m5 xr2 mp4 hc5 hc6) (B := punctualref_Played.B2 K w0 l0 A0 c0 x1 x2 x3 x4 hR0 hL0 b1 hc1 Z1 cz1 m3 mp3 hc3 hc4 xr1 z1 m4 m5 xr2 mp4 hc5 hc6) hq6 (fun a hF => ⟨(.slice none 0 0), hS32, hF.weaken ⟨by kernel_rfl, by kernel_rfl, by kernel_rfl, by kernel_rfl, by kernel_rfl, by kernel_rfl, by kernel_rfl, by kernel_rfl, by kernel_rfl, by kernel_rfl, by kernel_rfl, by kernel_rfl, by kernel_rfl, by kernel_rfl, trivial⟩⟩) (fun s o hf a w hA Q hQ => punctualref_Played_r2 K w0 l0 A0 c0 x1 x2 x3 x4 hR0 hL0 b1 hc1 Z1 cz1 m3 mp3 hc3 hc4 xr1 z1 m4 m5 xr2 mp4 hc5 hc6 s o hf a w hA Q hQ) ?_
        rintro _ a w18 _ ⟨rfl, v7, hS88, hF⟩
        replace hS88 : St w0 w18 [Own.of (.slice Z1 m4.length cz1) 3 m4, Own.nest xr2 24 3 m5, Own.of v7 3 m10, Own.map (κ := Int) (ν := Int) b1 mp4] := hS88
        refine hK20 [(0, .slice A0 l0.length c0), (1, .int .i64 x1), (2, .bool x2), (3, .int .i64 x3), (4, .int .i64 x4), (5, .func (.func 135) #[] #[]), (14, .map (some b1)), (15, (.slice Z1 m4.length cz1)), (18, (Rows.val xr2)), (19, .int .i64 z1), (20, v7)] w18 ?_ a hF
        refine we_seq fun K31 hK31 => ?_
        obtain ⟨Z4, cz4, rfl⟩ := hS88.open 2 rfl
        rcases hq7 : punctualref_Played.p5 x2 z1 m5 mp4 m10 with _ | (m12 | rr5)
        · rw [hq7] at h; cases h
        · rw [hq7] at h
          simp only [] at h
          refine we_keep (e' := [(0, .slice A0 l0.length c0), (1, .int .i64 x1), (2, .bool x2), (3, .int .i64 x3), (4, .int .i64 x4), (5, .func (.func 135) #[] #[]), (14, .map (some b1)), (15, (.slice Z1 m4.length cz1)), (18, (Rows.val xr2)), (19, .int .i64 z1), (20, (.slice Z4 m10.length cz4))]) ⟨by kernel_rfl, by kernel_rfl, by kernel_rfl, by kernel_rfl, by kernel_rfl, by kernel_rfl, by kernel_rfl, by kernel_rfl, by kernel_rfl, by kernel_rfl, by kernel_rfl, trivial⟩ (punctualref_Played_p5 K w0 l0 A0 c0 x1 x2 x3 x4 hR0 hL0 b1 hc1 Z1 cz1 m3 mp3 hc3 hc4 xr1 z1 m4 m5 xr2 mp4 hc5 hc6 m10 Z4 cz4 _ hq7 _ hS88 _ ?_)
          rintro _ a w20 ⟨rfl, v9, hS112, hF⟩
          replace hS112 : St w0 w20 [Own.of (.slice Z1 m4.length cz1) 3 m4, Own.nest xr2 24 3 m5, Own.of v9 3 m12, Own.map (κ := Int) (ν := Int) b1 mp4] := hS112
          refine hK31 [(0, .slice A0 l0.length c0), (1, .int .i64 x1), (2, .bool x2), (3, .int .i64 x3), (4, .int .i64 x4), (5, .func (.func 135) #[] #[]), (14, .map (some b1)), (15, (.slice Z1 m4.length cz1)), (18, (Rows.val xr2)), (19, .int .i64 z1), (20, v9)] w20 ?_ a hF
          refine we_seq fun K33 hK33 => ?_
          obtain ⟨Z5, cz5, rfl⟩ := hS112.open 2 rfl
          rcases hq8 : punctualref_Played.p6 x3 m12 with _ | (m14 | rr4)
          · rw [hq8] at h; cases h
          · rw [hq8] at h
            simp only [] at h
            refine we_keep (e' := [(0, .slice A0 l0.length c0), (1, .int .i64 x1), (2, .bool x2), (3, .int .i64 x3), (4, .int .i64 x4), (5, .func (.func 135) #[] #[]), (14, .map (some b1)), (15, (.slice Z1 m4.length cz1)), (18, (Rows.val xr2)), (19, .int .i64 z1), (20, (.slice Z5 m12.length cz5))]) ⟨by kernel_rfl, by kernel_rfl, by kernel_rfl, by kernel_rfl, by kernel_rfl, by kernel_rfl, by kernel_rfl, by kernel_rfl, by kernel_rfl, by kernel_rfl, by kernel_rfl, trivial⟩ (punctualref_Played_p6 K w0 l0 A0 c0 x1 x2 x3 x4 hR0 hL0 b1 hc1 Z1 cz1 m3 mp3 hc3 hc4 xr1 z1 m4 m5 xr2 mp4 hc5 hc6 m10 Z4 cz4 m12 Z5 cz5 _ hq8 _ hS112 _ ?_)
            rintro _ a w21 ⟨rfl, v11, hS123, hF⟩
            replace hS123 : St w0 w21 [Own.of (.slice Z1 m4.length cz1) 3 m4, Own.nest xr2 24 3 m5, Own.of v11 3 m14, Own.map (κ := Int) (ν := Int) b1 mp4] := hS123
            refine hK33 [(0, .slice A0 l0.length c0), (1, .int .i64 x1), (2, .bool x2), (3, .int .i64 x3), (4, .int .i64 x4), (5, .func (.func 135) #[] #[]), (14, .map (some b1)), (15, (.slice Z1 m4.length cz1)), (18, (Rows.val xr2)), (19, .int .i64 z1), (20, v11)] w21 ?_ a hF
            refine we_seq fun K35 hK35 => ?_
            refine we_region [(0, 0), (1, 0), (2, 0), (3, 0), (4, 2)] rfl ?_
            refine ge_batch [0, 1, 2] (ans := []) (vs := [(145, v11), (144, .int .i64 z1), (143, (Rows.val xr2))]) (l := []) (by kernel_rfl) trivial ?_
            by_cases hc25 : 0 ≤ z1
            · rw [if_pos hc25] at h
              rcases hx12 : m5[(z1).toNat]? with _ | e7
              · rw [hx12] at h; cases h
              rw [hx12] at h
              simp only [] at h
              obtain ⟨An2, cn2, hxn2, -, -⟩ := (hS123.nestAt 1 rfl).nl.get hx12
              refine ge_index (d := 146) (ty := 0) (t := 76) (el := 24) (sz := 1) (m := xr2.n) (c := xr2.c) (x := (.tmp 143)) (y := (.tmp 144)) (A := xr2.A) (k' := .i64) (j := z1) (jn := ((z1).toNat)) (b0 := blkOf xr2.A) (o0 := offOf xr2.A) (by kernel_rfl) (by kernel_rfl) (by kernel_rfl) (by kernel_rfl) (by kernel_rfl) ((hS123.nestAt 1 rfl).rd.eqSome (pos_of_get hxn2)) (Int.toNat_of_nonneg hc25).symm (by have h0 := lt_of_get hx12; have h1 := (hS123.nestAt 1 rfl).n; omega) ?_
              obtain ⟨Z6, cz6, rfl⟩ := hS123.open 2 rfl
              have hS124 := hS123.bring 1 rfl
              have hS125 := hS124.bring 2 rfl
              have hh1 := Rows.put_at (A := Z6) (n := m14.length) (c := cz6) (hS125.nestAt 1 rfl).nl.len (lt_of_get hx12)
              have hx13 := set_at (l := m14) hx12
              refine ge_nestSet (α := Int) (jn := ((z1).toNat)) (c := cz6) (T := 24) (t := 3) (A := Z6) (x := xr2) (l := m14) (ls := m5) (l' := [.stored ⟨blkOf xr2.A, offOf xr2.A + ((z1).toNat) * 1, none⟩ (.slice Z6 m14.length cz6)]) hS125 (by kernel_rfl) (by kernel_rfl) hx12 fun w22 hS126 => ?_
              refine ge_nil fun a hF => hK35 _ _ ?_ a hF
              refine we_seq fun K36 hK36 => ?_
              refine we_region [(0, 0), (1, 0), (2, 0)] rfl ?_
              refine ge_batch [0, 1, 2] (ans := []) (vs := [(149, .int .i64 0), (148, .int .i64 (m14.length : Int)), (147, .slice Z6 m14.length cz6)]) (l := []) (by kernel_rfl) trivial ?_
              refine ge_nil fun a hF => hK36 _ _ ?_ a hF
              refine we_block ?_
              have hS127 := hS126.bring 2 rfl
              have hS128 := hS127.bring 1 rfl
              have hS129 := hS128.bring 2 rfl
              rcases hq9 : iter (punctualref_Played.r7 z1 m14) K (0, m4, mp4) with _ | (⟨m17, mp7⟩ | rr3)
              · rw [hq9] at h; cases h
              · rw [hq9] at h
                simp only [] at h
                refine we_iter (A := punctualref_Played.A7 K w0 l0 A0 c0 x1 x2 x3 x4 hR0 hL0 b1 hc1 Z1 cz1 m3 mp3 hc3 hc4 xr1 z1 m4 m5 xr2 mp4 hc5 hc6 m10 Z4 cz4 m12 Z5 cz5 m14 hc25 e7 hx12 An2 cn2 hxn2 Z6 cz6 hh1 hx13) (B := punctualref_Played.B7 K w0 l0 A0 c0 x1 x2 x3 x4 hR0 hL0 b1 hc1 Z1 cz1 m3 mp3 hc3 hc4 xr1 z1 m4 m5 xr2 mp4 hc5 hc6 m10 Z4 cz4 m12 Z5 cz5 m14 hc25 e7 hx12 An2 cn2 hxn2 Z6 cz6 hh1 hx13) hq9 (fun a hF => ⟨hS129, hF.weaken ⟨by kernel_rfl, by kernel_rfl, by kernel_rfl, by kernel_rfl, by kernel_rfl, by kernel_rfl, by kernel_rfl, by kernel_rfl, by kernel_rfl, by kernel_rfl, by kernel_rfl, by kernel_rfl, by kernel_rfl, trivial⟩⟩) (fun s o hf a w hA Q hQ => punctualref_Played_r7 K w0 l0 A0 c0 x1 x2 x3 x4 hR0 hL0 b1 hc1 Z1 cz1 m3 mp3 hc3 hc4 xr1 z1 m4 m5 xr2 mp4 hc5 hc6 m10 Z4 cz4 m12 Z5 cz5 m14 hc25 e7 hx12 An2 cn2 hxn2 Z6 cz6 hh1 hx13 s o hf a w hA Q hQ) ?_
                rintro _ a w25 _ ⟨rfl, hS144, hF⟩
                replace hS144 : St w0 w25 [Own.of (.slice Z1 m17.length cz1) 3 m17, Own.nest (Rows.put xr2 ((z1).toNat) Z6 m14.length cz6) 24 3 (m5.set ((z1).toNat) m14), Own.map (κ := Int) (ν := Int) b1 mp7] := hS144
                refine hK16 [(0, .slice A0 l0.length c0), (1, .int .i64 x1), (2, .bool x2), (3, .int .i64 x3), (4, .int .i64 x4), (5, .func (.func 135) #[] #[]), (14, .map (some b1)), (15, (.slice Z1 m17.length cz1)), (18, (Rows.val (Rows.put xr2 ((z1).toNat) Z6 m14.length cz6))), (19, .int .i64 z1)] w25 ?_ a hF
                refine we_region [(0, 0), (1, 0), (2, 0)] rfl ?_
                refine ge_batch [0, 1, 2] (ans := []) (vs := [(19, .int .i64 (IntKind.i64.wrap (z1 + 1))), (51, .int .i64 (IntKind.i64.wrap (z1 + 1))), (50, .int .i64 z1)]) (l := []) (by kernel_rfl) trivial ?_
                have hS145 := hS144.bring 2 rfl
                have hS146 := hS145.bring 2 rfl
                have hS147 := hS146.bring 2 rfl
                obtain rfl := Option.some.inj h
                exact ge_nil fun a hF => hQ _ _ _ (Outs.again ⟨(Rows.put xr2 ((z1).toNat) Z6 m14.length cz6), hS147, hF.weaken ⟨by kernel_rfl, by kernel_rfl, by kernel_rfl, by kernel_rfl, by kernel_rfl, by kernel_rfl, by kernel_rfl, by kernel_rfl, by kernel_rfl, by kernel_rfl, trivial⟩⟩)
              · rw [hq9] at h
                simp only [] at h
                refine we_iter (A := punctualref_Played.A7 K w0 l0 A0 c0 x1 x2 x3 x4 hR0 hL0 b1 hc1 Z1 cz1 m3 mp3 hc3 hc4 xr1 z1 m4 m5 xr2 mp4 hc5 hc6 m10 Z4 cz4 m12 Z5 cz5 m14 hc25 e7 hx12 An2 cn2 hxn2 Z6 cz6 hh1 hx13) (B := punctualref_Played.B7 K w0 l0 A0 c0 x1 x2 x3 x4 hR0 hL0 b1 hc1 Z1 cz1 m3 mp3 hc3 hc4 xr1 z1 m4 m5 xr2 mp4 hc5 hc6 m10 Z4 cz4 m12 Z5 cz5 m14 hc25 e7 hx12 An2 cn2 hxn2 Z6 cz6 hh1 hx13) hq9 (fun a hF => ⟨hS129, hF.weaken ⟨by kernel_rfl, by kernel_rfl, by kernel_rfl, by kernel_rfl, by kernel_rfl, by kernel_rfl, by kernel_rfl, by kernel_rfl, by kernel_rfl, by kernel_rfl, by kernel_rfl, by kernel_rfl, by kernel_rfl, trivial⟩⟩) (fun s o hf a w hA Q hQ => punctualref_Played_r7 K w0 l0 A0 c0 x1 x2 x3 x4 hR0 hL0 b1 hc1 Z1 cz1 m3 mp3 hc3 hc4 xr1 z1 m4 m5 xr2 mp4 hc5 hc6 m10 Z4 cz4 m12 Z5 cz5 m14 hc25 e7 hx12 An2 cn2 hxn2 Z6 cz6 hh1 hx13 s o hf a w hA Q hQ) ?_
                rintro _ a w1 _ ⟨rfl, hb⟩
                obtain rfl := Option.some.inj h
                exact hQ _ _ _ (Outs.out nofun (Exits.on ⟨rfl, hb⟩))
            · rw [if_neg hc25] at h
              cases h
          · rw [hq8] at h
            simp only [] at h
            refine we_keep (e' := [(0, .slice A0 l0.length c0), (1, .int .i64 x1), (2, .bool x2), (3, .int .i64 x3), (4, .int .i64 x4), (5, .func (.func 135) #[] #[]), (14, .map (some b1)), (15, (.slice Z1 m4.length cz1)), (18, (Rows.val xr2)), (19, .int .i64 z1), (20, (.slice Z5 m12.length cz5))]) ⟨by kernel_rfl, by kernel_rfl, by kernel_rfl, by kernel_rfl, by kernel_rfl, by kernel_rfl, by kernel_rfl, by kernel_rfl, by kernel_rfl, by kernel_rfl, by kernel_rfl, trivial⟩ (punctualref_Played_p6 K w0 l0 A0 c0 x1 x2 x3 x4 hR0 hL0 b1 hc1 Z1 cz1 m3 mp3 hc3 hc4 xr1 z1 m4 m5 xr2 mp4 hc5 hc6 m10 Z4 cz4 m12 Z5 cz5 _ hq8 _ hS112 _ ?_)
            rintro _ a w1 ⟨_, rfl, hb⟩
            obtain rfl := Option.some.inj h
            exact hQ _ _ _ (Outs.out nofun (Exits.on ⟨rfl, hb⟩))
        · rw [hq7] at h
          simp only [] at h
          refine we_keep (e' := [(0, .slice A0 l0.length c0), (1, .int .i64 x1), (2, .bool x2), (3, .int .i64 x3), (4, .int .i64 x4), (5, .func (.func 135) #[] #[]), (14, .map (some b1)), (15, (.slice Z1 m4.length cz1)), (18, (Rows.val xr2)), (19, .int .i64 z1), (20, (.slice Z4 m10.length cz4))]) ⟨by kernel_rfl, by kernel_rfl, by kernel_rfl, by kernel_rfl, by kernel_rfl, by kernel_rfl, by kernel_rfl, by kernel_rfl, by kernel_rfl, by kernel_rfl, by kernel_rfl, trivial⟩ (punctualref_Played_p5 K w0 l0 A0 c0 x1 x2 x3 x4 hR0 hL0 b1 hc1 Z1 cz1 m3 mp3 hc3 hc4 xr1 z1 m4 m5 xr2 mp4 hc5 hc6 m10 Z4 cz4 _ hq7 _ hS88 _ ?_)
          rintro _ a w1 ⟨_, rfl, hb⟩
          obtain rfl := Option.some.inj h
          exact hQ _ _ _ (Outs.out nofun (Exits.on ⟨rfl, hb⟩))
      · rw [hq6] at h
        simp only [] at h
        refine we_iter (A := punctualref_Played.A2 K w0 l0 A0 c0 x1 x2 x3 x4 hR0 hL0 b1 hc1 Z1 cz1 m3 mp3 hc3 hc4 xr1 z1 m4 m5 xr2 mp4 hc5 hc6) (B := punctualref_Played.B2 K w0 l0 A0 c0 x1 x2 x3 x4 hR0 hL0 b1 hc1 Z1 cz1 m3 mp3 hc3 hc4 xr1 z1 m4 m5 xr2 mp4 hc5 hc6) hq6 (fun a hF => ⟨(.slice none 0 0), hS32, hF.weaken ⟨by kernel_rfl, by kernel_rfl, by kernel_rfl, by kernel_rfl, by kernel_rfl, by kernel_rfl, by kernel_rfl, by kernel_rfl, by kernel_rfl, by kernel_rfl, by kernel_rfl, by kernel_rfl, by kernel_rfl, by kernel_rfl, trivial⟩⟩) (fun s o hf a w hA Q hQ => punctualref_Played_r2 K w0 l0 A0 c0 x1 x2 x3 x4 hR0 hL0 b1 hc1 Z1 cz1 m3 mp3 hc3 hc4 xr1 z1 m4 m5 xr2 mp4 hc5 hc6 s o hf a w hA Q hQ) ?_
        rintro _ a w1 _ ⟨rfl, hb⟩
        obtain rfl := Option.some.inj h
        exact hQ _ _ _ (Outs.out nofun (Exits.on ⟨rfl, hb⟩))
    · rw [if_neg hc6] at h
      refine we_known (t := 55) (b := !(punctualref_Always.f z1)) (v := true) (by kernel_rfl) (congrArg (fun z => !z) (Bool.eq_false_iff.2 hc6)) ?_
      refine we_true (by kernel_rfl) ?_
      refine we_exit fun a hF => hK16 _ _ ?_ a hF
      refine we_region [(0, 0), (1, 0), (2, 0)] rfl ?_
      refine ge_batch [0, 1, 2] (ans := []) (vs := [(19, .int .i64 (IntKind.i64.wrap (z1 + 1))), (51, .int .i64 (IntKind.i64.wrap (z1 + 1))), (50, .int .i64 z1)]) (l := []) (by kernel_rfl) trivial ?_
      have hS148 := hS27.bring 2 rfl
      have hS149 := hS148.bring 2 rfl
      have hS150 := hS149.bring 2 rfl
      obtain rfl := Option.some.inj h
      exact ge_nil fun a hF => hQ _ _ _ (Outs.again ⟨xr2, hS150, hF.weaken ⟨by kernel_rfl, by kernel_rfl, by kernel_rfl, by kernel_rfl, by kernel_rfl, by kernel_rfl, by kernel_rfl, by kernel_rfl, by kernel_rfl, by kernel_rfl, trivial⟩⟩)
  · rw [if_neg hc5] at h
    refine we_known (t := 49) (b := decide (z1 < x4)) (v := false) (by kernel_rfl) (decide_eq_false hc5) ?_
    refine we_false (by kernel_rfl) ?_
    have hS151 := hS.bring 1 rfl
    have hS152 := hS151.bring 1 rfl
    have hS153 := hS152.takeN 2
    obtain rfl := Option.some.inj h
    exact we_exit fun a hF => hQ _ _ _ (Outs.out nofun (Exits.here ⟨xr2, hS153, hF.weaken ⟨by kernel_rfl, by kernel_rfl, trivial⟩⟩))
theorem punctualref_Played_ok (K : Nat) (l0 : List SJob) (A0 : Option Addr) (c0 : Nat) (x1 : Int) (x2 : Bool) (x3 : Int) (x4 : Int) (w0 : World) (hR0 : RdL w0 A0 l0) (hL0 : l0.length ≤ c0) (r : (List (List Int)) × (List Int)) (h : punctualref_Played.f K l0 x1 x2 x3 x4 = some r) :
    Calls Tryd.prog 88 #[.slice A0 l0.length c0, .int .i64 x1, .bool x2, .int .i64 x3, .int .i64 x4, .func (.func 135) #[] #[]] w0 (punctualref_Played.Post w0 r) := by
  have hS := St.start w0
  unfold punctualref_Played.f at h
  refine calls_enter (n := 169) (args := [.slice A0 l0.length c0, .int .i64 x1, .bool x2, .int .i64 x3, .int .i64 x4, .func (.func 135) #[] #[]]) (fn := Tryd.f88) rfl rfl rfl rfl ?_
  show WE _ _ _ _ [(0, .slice A0 l0.length c0), (1, .int .i64 x1), (2, .bool x2), (3, .int .i64 x3), (4, .int .i64 x4), (5, .func (.func 135) #[] #[])] _
  refine we_seq fun K1 hK1 => ?_
  refine we_region [(0, 0), (1, 0)] rfl ?_
  refine ge_batch [0, 1] (ans := []) (vs := [(13, .slice none 0 0), (12, .slice none 0 0)]) (l := []) (by kernel_rfl) trivial ?_
  refine ge_nil fun a hF => hK1 _ _ ?_ a hF
  refine we_seq fun K2 hK2 => ?_
  refine we_region [(0, 1), (1, 0)] rfl ?_
  refine ge_new (d := some 26) (o := .map #[] 0) (v := fun b => .map (some b)) hS (fun b => by kernel_rfl) fun b1 w1 hx1 hS1 => ?_
  have hS2 := hS1.newMap (κ := Int) (ν := Int)
  refine ge_batch [1] (ans := []) (vs := [(14, .map (some b1))]) (l := []) (by kernel_rfl) trivial ?_
  refine ge_nil fun a hF => hK2 _ _ ?_ a hF
  refine we_seq fun K3 hK3 => ?_
  refine we_region [(0, 0), (1, 0), (2, 1), (3, 0)] rfl ?_
  refine ge_batch [0, 1] (ans := []) (vs := [(28, .int .i64 (l0.length : Int)), (27, .slice A0 l0.length c0)]) (l := []) (by kernel_rfl) trivial ?_
  by_cases hc1 : l0.length ≤ 17592186044416
  · rw [if_pos hc1] at h
    refine ge_make (α := Int) (d := 29) (t := 24) (el := 3) (bytes := 8) (l := l0.length) (c := l0.length) (x := (.tmp 28)) (y := (.tmp 28)) (ty := 24) (k1 := .i64) (k2 := .i64) (li := (l0.length : Int)) (ci := (l0.length : Int)) (z := .int .i64 0) (z' := (0 : Int)) (by kernel_rfl) (by kernel_rfl) (by kernel_rfl) rfl rfl (by kernel_rfl) (by kernel_rfl) rfl hS2 (Nat.le_refl _) rfl (by omega) fun v1 w2 _ hS3 => ?_
    refine ge_batch [3] (ans := []) (vs := [(15, v1)]) (l := []) (by kernel_rfl) trivial ?_
    refine ge_nil fun a hF => hK3 _ _ ?_ a hF
    refine we_seq fun K4 hK4 => ?_
    refine we_seq fun K5 hK5 => ?_
    refine we_region [(0, 0), (1, 0), (2, 0)] rfl ?_
    refine ge_batch [0, 1, 2] (ans := []) (vs := [(32, .int .i64 0), (31, .int .i64 (l0.length : Int)), (30, .slice A0 l0.length c0)]) (l := []) (by kernel_rfl) trivial ?_
    refine ge_nil fun a hF => hK5 _ _ ?_ a hF
    refine we_block ?_
    obtain ⟨Z1, cz1, rfl⟩ := hS3.open 0 rfl
    have hS4 := hS3.bring 1 rfl
    have hS5 := hS4.bring 1 rfl
    rcases hq1 : iter (punctualref_Played.r0 l0) K (0, (List.replicate l0.length (0 : Int)), ([] : List (Int × Int))) with _ | (⟨m3, mp3⟩ | rr8)
    · rw [hq1] at h; cases h
    · rw [hq1] at h
      simp only [] at h
      refine we_iter (A := punctualref_Played.A0 K w0 l0 A0 c0 x1 x2 x3 x4 hR0 hL0 b1 hc1 Z1 cz1) (B := punctualref_Played.B0 K w0 l0 A0 c0 x1 x2 x3 x4 hR0 hL0 b1 hc1 Z1 cz1) hq1 (fun a hF => ⟨hS5, hF.weaken ⟨by kernel_rfl, by kernel_rfl, by kernel_rfl, by kernel_rfl, by kernel_rfl, by kernel_rfl, by kernel_rfl, by kernel_rfl, by kernel_rfl, by kernel_rfl, by kernel_rfl, trivial⟩⟩) (fun s o hf a w hA Q hQ => punctualref_Played_r0 K w0 l0 A0 c0 x1 x2 x3 x4 hR0 hL0 b1 hc1 Z1 cz1 s o hf a w hA Q hQ) ?_
      rintro _ a w7 _ ⟨rfl, hS20, hF⟩
      replace hS20 : St w0 w7 [Own.of (.slice Z1 m3.length cz1) 3 m3, Own.map (κ := Int) (ν := Int) b1 mp3] := hS20
      refine hK4 [(0, .slice A0 l0.length c0), (1, .int .i64 x1), (2, .bool x2), (3, .int .i64 x3), (4, .int .i64 x4), (5, .func (.func 135) #[] #[]), (14, .map (some b1)), (15, (.slice Z1 m3.length cz1))] w7 ?_ a hF
      refine we_seq fun K11 hK11 => ?_
      refine we_region [(0, 0), (1, 1), (2, 0)] rfl ?_
      refine ge_batch [0] (ans := []) (vs := [(45, .int .i64 x4)]) (l := []) (by kernel_rfl) trivial ?_
      by_cases hc3 : 0 ≤ x4
      · rw [if_pos hc3] at h
        by_cases hc4 : ((x4).toNat) ≤ 5864062014805
        · rw [if_pos hc4] at h
          refine ge_make (α := Hdr) (d := 46) (t := 76) (el := 24) (bytes := 24) (l := ((x4).toNat)) (c := ((x4).toNat)) (x := (.tmp 45)) (y := (.tmp 45)) (ty := 76) (k1 := .i64) (k2 := .i64) (li := x4) (ci := x4) (z := .slice none 0 0) (z' := (⟨none, 0, 0⟩ : Hdr)) (by kernel_rfl) (by kernel_rfl) (by kernel_rfl) (Int.toNat_of_nonneg hc3).symm (Int.toNat_of_nonneg hc3).symm (by kernel_rfl) (by kernel_rfl) rfl hS20 (Nat.le_refl _) rfl (by omega) fun v2 w8 _ hS21 => ?_
          obtain ⟨xr1, rfl, hS22⟩ := hS21.nestMake (α := Int) (e := 3)
          refine ge_batch [2] (ans := []) (vs := [(18, (Rows.val xr1))]) (l := []) (by kernel_rfl) trivial ?_
          refine ge_nil fun a hF => hK11 _ _ ?_ a hF
          refine we_seq fun K12 hK12 => ?_
          refine we_seq fun K13 hK13 => ?_
          refine we_region [(0, 0)] rfl ?_
          refine ge_batch [0] (ans := []) (vs := [(19, .int .i64 0)]) (l := []) (by kernel_rfl) trivial ?_
          refine ge_nil fun a hF => hK13 _ _ ?_ a hF
          refine we_block ?_
          have hS23 := hS22.bring 2 rfl
          have hS24 := hS23.bring 1 rfl
          have hS25 := hS24.bring 2 rfl
          rcases hq10 : iter (punctualref_Played.r1 K l0 x1 x2 x3 x4) K (0, m3, (List.replicate ((x4).toNat) ([] : List Int)), mp3) with _ | (⟨m18, m19⟩ | rr7)
          · rw [hq10] at h; cases h
          · rw [hq10] at h
            simp only [] at h
            refine we_iter (A := punctualref_Played.A1 K w0 l0 A0 c0 x1 x2 x3 x4 hR0 hL0 b1 hc1 Z1 cz1 m3 mp3 hc3 hc4 xr1) (B := punctualref_Played.B1 K w0 l0 A0 c0 x1 x2 x3 x4 hR0 hL0 b1 hc1 Z1 cz1 m3 mp3 hc3 hc4 xr1) hq10 (fun a hF => ⟨xr1, hS25, hF.weaken ⟨by kernel_rfl, by kernel_rfl, by kernel_rfl, by kernel_rfl, by kernel_rfl, by kernel_rfl, by kernel_rfl, by kernel_rfl, by kernel_rfl, by kernel_rfl, trivial⟩⟩) (fun s o hf a w hA Q hQ => punctualref_Played_r1 K w0 l0 A0 c0 x1 x2 x3 x4 hR0 hL0 b1 hc1 Z1 cz1 m3 mp3 hc3 hc4 xr1 s o hf a w hA Q hQ) ?_
            rintro _ a w26 _ ⟨rfl, xr4, hS154, hF⟩
            replace hS154 : St w0 w26 [Own.of (.slice Z1 m18.length cz1) 3 m18, Own.nest xr4 24 3 m19] := hS154
            refine hK12 [(15, (.slice Z1 m18.length cz1)), (18, (Rows.val xr4))] w26 ?_ a hF
            refine we_seq fun K43 hK43 => ?_
            refine we_region [(0, 0), (1, 0), (2, 0), (3, 0)] rfl ?_
            refine ge_batch [0, 1, 2, 3] (ans := []) (vs := [(13, (.slice Z1 m18.length cz1)), (12, (Rows.val xr4)), (168, (.slice Z1 m18.length cz1)), (167, (Rows.val xr4))]) (l := []) (by kernel_rfl) trivial ?_
            refine ge_nil fun a hF => hK43 _ _ ?_ a hF
            have hS155 := hS154.bring 1 rfl
            obtain rfl := Option.some.inj h
            exact we_ret (post_ret (rs := [.tmp 12, .tmp 13]) (ans := []) (vs := [(Rows.val xr4), (.slice Z1 m18.length cz1)]) (l := []) rfl (by kernel_rfl) trivial ⟨xr4, (.slice Z1 m18.length cz1), rfl, hS155⟩)
          · rw [hq10] at h
            simp only [] at h
            refine we_iter (A := punctualref_Played.A1 K w0 l0 A0 c0 x1 x2 x3 x4 hR0 hL0 b1 hc1 Z1 cz1 m3 mp3 hc3 hc4 xr1) (B := punctualref_Played.B1 K w0 l0 A0 c0 x1 x2 x3 x4 hR0 hL0 b1 hc1 Z1 cz1 m3 mp3 hc3 hc4 xr1) hq10 (fun a hF => ⟨xr1, hS25, hF.weaken ⟨by kernel_rfl, by kernel_rfl, by kernel_rfl, by kernel_rfl, by kernel_rfl, by kernel_rfl, by kernel_rfl, by kernel_rfl, by kernel_rfl, by kernel_rfl, trivial⟩⟩) (fun s o hf a w hA Q hQ => punctualref_Played_r1 K w0 l0 A0 c0 x1 x2 x3 x4 hR0 hL0 b1 hc1 Z1 cz1 m3 mp3 hc3 hc4 xr1 s o hf a w hA Q hQ) ?_
            rintro _ a w1 _ ⟨rfl, hb⟩
            obtain rfl := Option.some.inj h
            exact hb
        · rw [if_neg hc4] at h
          cases h
      · rw [if_neg hc3] at h
        cases h
    · rw [hq1] at h
      simp only [] at h
      refine we_iter (A := punctualref_Played.A0 K w0 l0 A0 c0 x1 x2 x3 x4 hR0 hL0 b1 hc1 Z1 cz1) (B := punctualref_Played.B0 K w0 l0 A0 c0 x1 x2 x3 x4 hR0 hL0 b1 hc1 Z1 cz1) hq1 (fun a hF => ⟨hS5, hF.weaken ⟨by kernel_rfl, by kernel_rfl, by kernel_rfl, by kernel_rfl, by kernel_rfl, by kernel_rfl, by kernel_rfl, by kernel_rfl, by kernel_rfl, by kernel_rfl, by kernel_rfl, trivial⟩⟩) (fun s o hf a w hA Q hQ => punctualref_Played_r0 K w0 l0 A0 c0 x1 x2 x3 x4 hR0 hL0 b1 hc1 Z1 cz1 s o hf a w hA Q hQ) ?_
      rintro _ a w1 _ ⟨rfl, hb⟩
      obtain rfl := Option.some.inj h
      exact hb
  · rw [if_neg hc1] at h
    cases h

/-! punctual/punctualref.One -/
abbrev punctualref_One.Post (w0 : World) (r : List Int) (e : Ending) (w : World) : Prop := ∃ (v0 : Value), e = .returned (v0) ∧ St w0 w [Own.of v0 3 r]
def punctualref_One.r0 (l0 : List (List Int)) : Int × (List Int) → Option ((Int × (List Int)) ⊕ ((List Int) ⊕ (List Int)))
  | (z1, m1) =>
    if z1 < (l0.length : Int) then
      if 0 ≤ z1 then
        match l0[(z1).toNat]? with
        | none => none
        | some e1 =>
          match m1[(z1).toNat]? with
          | none => none
          | some e2 =>
            if (e1.length : Int) > 0 then
              match e1[0]? with
              | none => none
              | some e3 =>
                match (m1.set ((z1).toNat) (-1))[(z1).toNat]? with
                | none => none
                | some e4 =>
                  some (.inl (IntKind.i64.wrap (z1 + 1), ((m1.set ((z1).toNat) (-1)).set ((z1).toNat) e3)))
            else
              some (.inl (IntKind.i64.wrap (z1 + 1), (m1.set ((z1).toNat) (-1))))
      else
        none
    else
      some (.inr (.inl m1))
def punctualref_One.f (K : Nat) (l0 : List (List Int)) : Option (List Int) :=
  if l0.length ≤ 17592186044416 then
    match iter (punctualref_One.r0 l0) K (0, (List.replicate l0.length (0 : Int))) with
    | none => none
    | some (.inl m3) =>
      some m3
    | some (.inr rr1) =>
      some rr1
  else
    none
abbrev punctualref_One.A0 (K : Nat) (w0 : World) (l0 : List (List Int)) (hd0 : List Hdr) (A0 : Option Addr) (c0 : Nat) (hR0 : RdL w0 A0 hd0) (hL0 : l0.length ≤ c0) (hN0 : NestL w0 hd0 l0) (hc1 : l0.length ≤ 17592186044416) (Z1 : Option Addr) (cz1 : Nat) : (Int × (List Int)) → Act → World → Prop := fun (s : Int × (List Int)) a w => St w0 w [Own.of (.slice Z1 s.2.length cz1) 3 s.2] ∧ Frm 30 a [(3, (.slice Z1 s.2.length cz1)), (9, .slice A0 l0.length c0), (10, .int .i64 (l0.length : Int)), (11, .int .i64 s.1)]
abbrev punctualref_One.B0 (K : Nat) (w0 : World) (l0 : List (List Int)) (hd0 : List Hdr) (A0 : Option Addr) (c0 : Nat) (hR0 : RdL w0 A0 hd0) (hL0 : l0.length ≤ c0) (hN0 : NestL w0 hd0 l0) (hc1 : l0.length ≤ 17592186044416) (Z1 : Option Addr) (cz1 : Nat) : ((List Int) ⊕ (List Int)) → Exit → Act → World → Prop := Exits 0 (fun (s : (List Int)) a w => St w0 w [Own.of (.slice Z1 s.length cz1) 3 s] ∧ Frm 30 a [(3, (.slice Z1 s.length cz1))]) (Rets Tryd.prog Tryd.f91 (punctualref_One.Post w0))
theorem punctualref_One_r0 (K : Nat) (w0 : World) (l0 : List (List Int)) (hd0 : List Hdr) (A0 : Option Addr) (c0 : Nat) (hR0 : RdL w0 A0 hd0) (hL0 : l0.length ≤ c0) (hN0 : NestL w0 hd0 l0) (hc1 : l0.length ≤ 17592186044416) (Z1 : Option Addr) (cz1 : Nat) (s : Int × (List Int)) (o : (Int × (List Int)) ⊕ ((List Int) ⊕ (List Int))) (h : punctualref_One.r0 l0 s = some o) (a : Act) (w : World) (hA : punctualref_One.A0 K w0 l0 hd0 A0 c0 hR0 hL0 hN0 hc1 Z1 cz1 s a w) (Q : Exit → Act → World → Prop) (hQ : ∀ x a w, Outs (punctualref_One.A0 K w0 l0 hd0 A0 c0 hR0 hL0 hN0 hc1 Z1 cz1) (punctualref_One.B0 K w0 l0 hd0 A0 c0 hR0 hL0 hN0 hc1 Z1 cz1) o x a w → Q x a w) : (subF Tryd.f91 [1, 1, 0, 1, 0, 0]).wp Tryd.prog Q a w := by
  obtain ⟨z1, m1⟩ := s
  obtain ⟨hS, hF⟩ := hA
  replace hS : St w0 w [Own.of (.slice Z1 m1.length cz1) 3 m1] := hS
  simp only [punctualref_One.r0] at h
  refine (?_ : WE Tryd.prog 30 (subF Tryd.f91 [1, 1, 0, 1, 0, 0]) Q [(3, (.slice Z1 m1.length cz1)), (9, .slice A0 l0.length c0), (10, .int .i64 (l0.length : Int)), (11, .int .i64 z1)] w) a hF
  clear hF a
  refine we_seq fun K5 hK5 => ?_
  refine we_region [(0, 0)] rfl ?_
  refine ge_batch [0] (ans := []) (vs := [(12, .bool (decide (z1 < (l0.length : Int))))]) (l := []) (by kernel_rfl) trivial ?_
  refine ge_nil fun a hF => hK5 _ _ ?_ a hF
  refine we_seq fun K6 hK6 => ?_
  by_cases hc2 : z1 < (l0.length : Int)
  · rw [if_pos hc2] at h
    refine we_known (t := 12) (b := decide (z1 < (l0.length : Int))) (v := true) (by kernel_rfl) (decide_eq_true hc2) ?_
    refine we_true (by kernel_rfl) ?_
    refine we_skip fun a hF => hK6 _ _ ?_ a hF
    refine we_seq fun K7 hK7 => ?_
    refine we_block ?_
    refine we_seq fun K8 hK8 => ?_
    refine we_region [(0, 0), (1, 0), (2, 0), (3, 0), (4, 0)] rfl ?_
    refine ge_batch [0] (ans := []) (vs := [(13, .int .i64 z1)]) (l := []) (by kernel_rfl) trivial ?_
    by_cases hc3 : 0 ≤ z1
    · rw [if_pos hc3] at h
      rcases hx1 : l0[(z1).toNat]? with _ | e1
      · rw [hx1] at h; cases h
      rw [hx1] at h
      simp only [] at h
      obtain ⟨An1, cn1, hxn1, hRn1, hLn1⟩ := hN0.get hx1
      refine ge_index (d := 14) (ty := 0) (t := 76) (el := 24) (sz := 1) (m := l0.length) (c := c0) (x := (.tmp 9)) (y := (.tmp 11)) (A := A0) (k' := .i64) (j := z1) (jn := ((z1).toNat)) (b0 := blkOf A0) (o0 := offOf A0) (by kernel_rfl) (by kernel_rfl) (by kernel_rfl) (by kernel_rfl) (by kernel_rfl) ((hS.rd hR0).eqSome (pos_of_get hxn1)) (Int.toNat_of_nonneg hc3).symm (lt_of_get hx1) ?_
      refine ge_batch [2, 3, 4] (ans := [.val (.slice An1 e1.length cn1)]) (vs := [(5, .slice An1 e1.length cn1), (4, .int .i64 z1), (15, .slice An1 e1.length cn1)]) (l := [.loaded ⟨blkOf A0, offOf A0 + ((z1).toNat) * 1, none⟩ (.slice An1 e1.length cn1)]) (by kernel_rfl) ⟨RdL.cell (j := 0) (hS.rd hR0) hxn1 rfl, trivial⟩ ?_
      refine ge_nil fun a hF => hK8 _ _ ?_ a hF
      refine we_seq fun K9 hK9 => ?_
      refine we_region [(0, 0), (1, 0), (2, 0), (3, 2)] rfl ?_
      refine ge_batch [0, 1] (ans := []) (vs := [(17, .int .i64 z1), (16, (.slice Z1 m1.length cz1))]) (l := []) (by kernel_rfl) trivial ?_
      rcases hx2 : m1[(z1).toNat]? with _ | e2
      · rw [hx2] at h; cases h
      rw [hx2] at h
      simp only [] at h
      refine ge_index (d := 18) (ty := 0) (t := 24) (el := 3) (sz := 1) (m := m1.length) (c := cz1) (x := (.tmp 16)) (y := (.tmp 17)) (A := Z1) (k' := .i64) (j := z1) (jn := ((z1).toNat)) (b0 := blkOf Z1) (o0 := offOf Z1) (by kernel_rfl) (by kernel_rfl) (by kernel_rfl) (by kernel_rfl) (by kernel_rfl) ((hS.rdAt 0 rfl).eqSome (pos_of_get hx2)) (Int.toNat_of_nonneg hc3).symm (lt_of_get hx2) ?_
      refine ge_seti (α := Int) (A := Z1) (nn := m1.length) (c := cz1) (t := 3) (l := m1) (x := e2) (x' := (-1)) (jn := ((z1).toNat)) (j := 0) (vs := [.int .i64 (-1)]) (l' := [.stored ⟨blkOf Z1, offOf Z1 + ((z1).toNat) * 1, none⟩ (.int .i64 (-1))]) hS (by kernel_rfl) (by kernel_rfl) hx2 rfl rfl rfl fun w2 hS2 => ?_
      have hS3 : St w0 w2 [Own.of (.slice Z1 m1.length cz1) 3 (m1.set ((z1).toNat) (-1))] := hS2
      have hE1 : m1.length = (m1.set ((z1).toNat) (-1)).length := hS3.lenAt 0 rfl
      have hS4 : St w0 w2 [Own.of (.slice Z1 (m1.set ((z1).toNat) (-1)).length cz1) 3 (m1.set ((z1).toNat) (-1))] := by rw [← hE1]; exact hS3
      refine ge_same (t := 3) (v := (.slice Z1 m1.length cz1)) (v' := (.slice Z1 (m1.set ((z1).toNat) (-1)).length cz1)) (by kernel_rfl) (by rw [hE1]) ?_
      refine ge_same (t := 16) (v := (.slice Z1 m1.length cz1)) (v' := (.slice Z1 (m1.set ((z1).toNat) (-1)).length cz1)) (by kernel_rfl) (by rw [hE1]) ?_
      refine ge_nil fun a hF => hK9 _ _ ?_ a hF
      refine we_seq fun K10 hK10 => ?_
      refine we_region [(0, 0), (1, 0), (2, 0)] rfl ?_
      refine ge_batch [0, 1, 2] (ans := []) (vs := [(21, .bool (decide ((e1.length : Int) > 0))), (20, .int .i64 (e1.length : Int)), (19, .slice An1 e1.length cn1)]) (l := []) (by kernel_rfl) trivial ?_
      refine ge_nil fun a hF => hK10 _ _ ?_ a hF
      by_cases hc4 : (e1.length : Int) > 0
      · rw [if_pos hc4] at h
        refine we_known (t := 21) (b := decide ((e1.length : Int) > 0)) (v := true) (by kernel_rfl) (decide_eq_true hc4) ?_
        refine we_true (by kernel_rfl) ?_
        refine we_region [(0, 0), (1, 0), (2, 0), (3, 0), (4, 0), (5, 0), (6, 2)] rfl ?_
        refine ge_batch [0, 1, 2] (ans := []) (vs := [(24, .slice An1 e1.length cn1), (23, .int .i64 z1), (22, (.slice Z1 (m1.set ((z1).toNat) (-1)).length cz1))]) (l := []) (by kernel_rfl) trivial ?_
        rcases hx3 : e1[0]? with _ | e3
        · rw [hx3] at h; cases h
        rw [hx3] at h
        simp only [] at h
        refine ge_index (d := 25) (ty := 0) (t := 24) (el := 3) (sz := 1) (m := e1.length) (c := cn1) (x := (.tmp 24)) (y := (.const (.int .i64 0))) (A := An1) (k' := .i64) (j := 0) (jn := 0) (b0 := blkOf An1) (o0 := offOf An1) (by kernel_rfl) (by kernel_rfl) (by kernel_rfl) (by kernel_rfl) (by kernel_rfl) ((hS4.rd hRn1).eqSome (pos_of_get hx3)) rfl (lt_of_get hx3) ?_
        refine ge_batch [4] (ans := [.val (.int .i64 e3)]) (vs := [(26, .int .i64 e3)]) (l := [.loaded ⟨blkOf An1, offOf An1 + 0 * 1, none⟩ (.int .i64 e3)]) (by kernel_rfl) ⟨RdL.cell (j := 0) (hS4.rd hRn1) hx3 rfl, trivial⟩ ?_
        rcases hx4 : (m1.set ((z1).toNat) (-1))[(z1).toNat]? with _ | e4
        · rw [hx4] at h; cases h
        rw [hx4] at h
        simp only [] at h
        refine ge_index (d := 27) (ty := 0) (t := 24) (el := 3) (sz := 1) (m := (m1.set ((z1).toNat) (-1)).length) (c := cz1) (x := (.tmp 22)) (y := (.tmp 23)) (A := Z1) (k' := .i64) (j := z1) (jn := ((z1).toNat)) (b0 := blkOf Z1) (o0 := offOf Z1) (by kernel_rfl) (by kernel_rfl) (by kernel_rfl) (by kernel_rfl) (by kernel_rfl) ((hS4.rdAt 0 rfl).eqSome (pos_of_get hx4)) (Int.toNat_of_nonneg hc3).symm (lt_of_get hx4) ?_
        refine ge_seti (α := Int) (A := Z1) (nn := ((m1.set ((z1).toNat) (-1)).length)) (c := cz1) (t := 3) (l := (m1.set ((z1).toNat) (-1))) (x := e4) (x' := e3) (jn := ((z1).toNat)) (j := 0) (vs := [.int .i64 e3]) (l' := [.stored ⟨blkOf Z1, offOf Z1 + ((z1).toNat) * 1, none⟩ (.int .i64 e3)]) hS4 (by kernel_rfl) (by kernel_rfl) hx4 rfl rfl rfl fun w3 hS5 => ?_
        have hS6 : St w0 w3 [Own.of (.slice Z1 (m1.set ((z1).toNat) (-1)).length cz1) 3 ((m1.set ((z1).toNat) (-1)).set ((z1).toNat) e3)] := hS5
        have hE2 : (m1.set ((z1).toNat) (-1)).length = ((m1.set ((z1).toNat) (-1)).set ((z1).toNat) e3).length := hS6.lenAt 0 rfl
        have hS7 : St w0 w3 [Own.of (.slice Z1 ((m1.set ((z1).toNat) (-1)).set ((z1).toNat) e3).length cz1) 3 ((m1.set ((z1).toNat) (-1)).set ((z1).toNat) e3)] := by rw [← hE2]; exact hS6
        refine ge_same (t := 3) (v := (.slice Z1 (m1.set ((z1).toNat) (-1)).length cz1)) (v' := (.slice Z1 ((m1.set ((z1).toNat) (-1)).set ((z1).toNat) e3).length cz1)) (by kernel_rfl) (by rw [hE2]) ?_
        refine ge_same (t := 16) (v := (.slice Z1 (m1.set ((z1).toNat) (-1)).length cz1)) (v' := (.slice Z1 ((m1.set ((z1).toNat) (-1)).set ((z1).toNat) e3).length cz1)) (by kernel_rfl) (by rw [hE2]) ?_
        refine ge_same (t := 22) (v := (.slice Z1 (m1.set ((z1).toNat) (-1)).length cz1)) (v' := (.slice Z1 ((m1.set ((z1).toNat) (-1)).set ((z1).toNat) e3).length cz1)) (by kernel_rfl) (by rw [hE2]) ?_
        refine ge_nil fun a hF => hK7 _ _ ?_ a hF
        refine we_region [(0, 0), (1, 0)] rfl ?_
        refine ge_batch [0, 1] (ans := []) (vs := [(11, .int .i64 (IntKind.i64.wrap (z1 + 1))), (28, .int .i64 (IntKind.i64.wrap (z1 + 1)))]) (l := []) (by kernel_rfl) trivial ?_
        obtain rfl := Option.some.inj h
        exact ge_nil fun a hF => hQ _ _ _ (Outs.again ⟨hS7, hF.weaken ⟨by kernel_rfl, by kernel_rfl, by kernel_rfl, by kernel_rfl, trivial⟩⟩)
      · rw [if_neg hc4] at h
        refine we_known (t := 21) (b := decide ((e1.length : Int) > 0)) (v := false) (by kernel_rfl) (decide_eq_false hc4) ?_
        refine we_false (by kernel_rfl) ?_
        refine we_skip fun a hF => hK7 _ _ ?_ a hF
        refine we_region [(0, 0), (1, 0)] rfl ?_
        refine ge_batch [0, 1] (ans := []) (vs := [(11, .int .i64 (IntKind.i64.wrap (z1 + 1))), (28, .int .i64 (IntKind.i64.wrap (z1 + 1)))]) (l := []) (by kernel_rfl) trivial ?_
        obtain rfl := Option.some.inj h
        exact ge_nil fun a hF => hQ _ _ _ (Outs.again ⟨hS4, hF.weaken ⟨by kernel_rfl, by kernel_rfl, by kernel_rfl, by kernel_rfl, trivial⟩⟩)
    · rw [if_neg hc3] at h
      cases h
  · rw [if_neg hc2] at h
    refine we_known (t := 12) (b := decide (z1 < (l0.length : Int))) (v := false) (by kernel_rfl) (decide_eq_false hc2) ?_
    refine we_false (by kernel_rfl) ?_
    obtain rfl := Option.some.inj h
    exact we_exit fun a hF => hQ _ _ _ (Outs.out nofun (Exits.here ⟨hS, hF.weaken ⟨by kernel_rfl, trivial⟩⟩))
theorem punctualref_One_ok (K : Nat) (l0 : List (List Int)) (hd0 : List Hdr) (A0 : Option Addr) (c0 : Nat) (w0 : World) (hR0 : RdL w0 A0 hd0) (hL0 : l0.length ≤ c0) (hN0 : NestL w0 hd0 l0) (r : List Int) (h : punctualref_One.f K l0 = some r) :
    Calls Tryd.prog 91 #[.slice A0 l0.length c0] w0 (punctualref_One.Post w0 r) := by
  have hS := St.start w0
  unfold punctualref_One.f at h
  refine calls_enter (n := 30) (args := [.slice A0 l0.length c0]) (fn := Tryd.f91) rfl rfl rfl rfl ?_
  show WE _ _ _ _ [(0, .slice A0 l0.length c0)] _
  refine we_seq fun K1 hK1 => ?_
  refine we_region [(0, 0)] rfl ?_
  refine ge_batch [0] (ans := []) (vs := [(2, .slice none 0 0)]) (l := []) (by kernel_rfl) trivial ?_
  refine ge_nil fun a hF => hK1 _ _ ?_ a hF
  refine we_seq fun K2 hK2 => ?_
  refine we_region [(0, 0), (1, 0), (2, 1), (3, 0)] rfl ?_
  refine ge_batch [0, 1] (ans := []) (vs := [(7, .int .i64 (l0.length : Int)), (6, .slice A0 l0.length c0)]) (l := []) (by kernel_rfl) trivial ?_
  by_cases hc1 : l0.length ≤ 17592186044416
  · rw [if_pos hc1] at h
    refine ge_make (α := Int) (d := 8) (t := 24) (el := 3) (bytes := 8) (l := l0.length) (c := l0.length) (x := (.tmp 7)) (y := (.tmp 7)) (ty := 24) (k1 := .i64) (k2 := .i64) (li := (l0.length : Int)) (ci := (l0.length : Int)) (z := .int .i64 0) (z' := (0 : Int)) (by kernel_rfl) (by kernel_rfl) (by kernel_rfl) rfl rfl (by kernel_rfl) (by kernel_rfl) rfl hS (Nat.le_refl _) rfl (by omega) fun v1 w1 _ hS1 => ?_
    refine ge_batch [3] (ans := []) (vs := [(3, v1)]) (l := []) (by kernel_rfl) trivial ?_
    refine ge_nil fun a hF => hK2 _ _ ?_ a hF
    refine we_seq fun K3 hK3 => ?_
    refine we_seq fun K4 hK4 => ?_
    refine we_region [(0, 0), (1, 0), (2, 0)] rfl ?_
    refine ge_batch [0, 1, 2] (ans := []) (vs := [(11, .int .i64 0), (10, .int .i64 (l0.length : Int)), (9, .slice A0 l0.length c0)]) (l := []) (by kernel_rfl) trivial ?_
    refine ge_nil fun a hF => hK4 _ _ ?_ a hF
    refine we_block ?_
    obtain ⟨Z1, cz1, rfl⟩ := hS1.open 0 rfl
    rcases hq1 : iter (punctualref_One.r0 l0) K (0, (List.replicate l0.length (0 : Int))) with _ | (m3 | rr1)
    · rw [hq1] at h; cases h
    · rw [hq1] at h
      simp only [] at h
      refine we_iter (A := punctualref_One.A0 K w0 l0 hd0 A0 c0 hR0 hL0 hN0 hc1 Z1 cz1) (B := punctualref_One.B0 K w0 l0 hd0 A0 c0 hR0 hL0 hN0 hc1 Z1 cz1) hq1 (fun a hF => ⟨hS1, hF.weaken ⟨by kernel_rfl, by kernel_rfl, by kernel_rfl, by kernel_rfl, trivial⟩⟩) (fun s o hf a w hA Q hQ => punctualref_One_r0 K w0 l0 hd0 A0 c0 hR0 hL0 hN0 hc1 Z1 cz1 s o hf a w hA Q hQ) ?_
      rintro _ a w4 _ ⟨rfl, hS8, hF⟩
      replace hS8 : St w0 w4 [Own.of (.slice Z1 m3.length cz1) 3 m3] := hS8
      refine hK3 [(3, (.slice Z1 m3.length cz1))] w4 ?_ a hF
      refine we_seq fun K11 hK11 => ?_
      refine we_region [(0, 0), (1, 0)] rfl ?_
      refine ge_batch [0, 1] (ans := []) (vs := [(2, (.slice Z1 m3.length cz1)), (29, (.slice Z1 m3.length cz1))]) (l := []) (by kernel_rfl) trivial ?_
      refine ge_nil fun a hF => hK11 _ _ ?_ a hF
      obtain rfl := Option.some.inj h
      exact we_ret (post_ret (rs := [.tmp 2]) (ans := []) (vs := [(.slice Z1 m3.length cz1)]) (l := []) rfl (by kernel_rfl) trivial ⟨(.slice Z1 m3.length cz1), rfl, hS8⟩)
    · rw [hq1] at h
      simp only [] at h
      refine we_iter (A := punctualref_One.A0 K w0 l0 hd0 A0 c0 hR0 hL0 hN0 hc1 Z1 cz1) (B := punctualref_One.B0 K w0 l0 hd0 A0 c0 hR0 hL0 hN0 hc1 Z1 cz1) hq1 (fun a hF => ⟨hS1, hF.weaken ⟨by kernel_rfl, by kernel_rfl, by kernel_rfl, by kernel_rfl, trivial⟩⟩) (fun s o hf a w hA Q hQ => punctualref_One_r0 K w0 l0 hd0 A0 c0 hR0 hL0 hN0 hc1 Z1 cz1 s o hf a w hA Q hQ) ?_
      rintro _ a w1 _ ⟨rfl, hb⟩
      obtain rfl := Option.some.inj h
      exact hb
  · rw [if_neg hc1] at h
    cases h
end Go.Proofs.YtcogbnkioobmkaaDoor.GV
