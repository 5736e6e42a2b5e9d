/- Walks of single functions, written by a program of this work. -/
import Derived.Test.YtlipdmblinjjaaaDoorGWSchedPlays3
namespace Go.Proofs.YtlipdmblinjjaaaDoor.GV
open Go Go.RowKit
set_option linter.unusedVariables false
set_option linter.unusedSimpArgs false
set_option maxRecDepth 100000

/-! punctual/punctualsame.Still[punctual/api.Job] -/
abbrev punctualsame_Still_api_Job.Post (w0 : World) (r : Bool) (e : Ending) (w : World) : Prop := e = .returned (.bool r) ∧ St w0 w []
def punctualsame_Still_api_Job.r0 (f0 : List SJob) (l1 : List SJob) (x2 : SJob) : Nat → Option (Nat ⊕ (Unit ⊕ Bool))
  | i1 =>
    if (i1 : Int) < (f0.length : Int) then
      match f0[i1]? with
      | none => none
      | some e1 =>
        if (i1 : Int) < (l1.length : Int) then
          match l1[i1]? with
          | none => none
          | some e2 =>
            if (SJob.eqb e1 e2) = true then
              if (i1 : Int) ≥ (l1.length : Int) then
                if (SJob.eqb e1 x2) = true then
                  some (.inl (i1 + 1))
                else
                  some (.inr (.inr false))
              else
                some (.inl (i1 + 1))
            else
              some (.inr (.inr false))
        else
          if (i1 : Int) ≥ (l1.length : Int) then
            if (SJob.eqb e1 x2) = true then
              some (.inl (i1 + 1))
            else
              some (.inr (.inr false))
          else
            some (.inl (i1 + 1))
    else
      some (.inr (.inl ()))
def punctualsame_Still_api_Job.f (K : Nat) (f0 : List SJob) (l1 : List SJob) (x2 : SJob) : Option Bool :=
  if (IntKind.i64.wrap ((l1.length : Int) + 3)) = (f0.length : Int) then
    match iter (punctualsame_Still_api_Job.r0 f0 l1 x2) K 0 with
    | none => none
    | some (.inl _) =>
      some true
    | some (.inr rr1) =>
      some rr1
  else
    none
abbrev punctualsame_Still_api_Job.A0 (K : Nat) (w0 : World) (f0 : List SJob) (A0 : Option Addr) (n0 : Nat) (c0 : Nat) (l1 : List SJob) (A1 : Option Addr) (c1 : Nat) (x2 : SJob) (hR0 : RdL w0 A0 f0) (hc0 : f0.length ≤ c0) (hR1 : RdL w0 A1 l1) (hL1 : l1.length ≤ c1) (b1 : Nat) (hc1 : (IntKind.i64.wrap ((l1.length : Int) + 3)) = (f0.length : Int)) : Nat → Act → World → Prop := fun (s : Nat) a w => St w0 w [Own.blk b1 (.cells #[.int .i64 x2.Task, .int .i64 x2.At, .int .i64 x2.C, .int .i64 x2.Due, .int .i64 x2.P] 30 (0, 0))] ∧ Frm 46 a [(1, .slice A1 l1.length c1), (5, .pointer (some ⟨b1, 0, none⟩)), (15, .slice A0 f0.length c0), (16, .int .i64 (f0.length : Int)), (17, .int .i64 (s : Int))]
abbrev punctualsame_Still_api_Job.B0 (K : Nat) (w0 : World) (f0 : List SJob) (A0 : Option Addr) (n0 : Nat) (c0 : Nat) (l1 : List SJob) (A1 : Option Addr) (c1 : Nat) (x2 : SJob) (hR0 : RdL w0 A0 f0) (hc0 : f0.length ≤ c0) (hR1 : RdL w0 A1 l1) (hL1 : l1.length ≤ c1) (b1 : Nat) (hc1 : (IntKind.i64.wrap ((l1.length : Int) + 3)) = (f0.length : Int)) : (Unit ⊕ Bool) → Exit → Act → World → Prop := Exits 0 (fun (s : Unit) a w => St w0 w [] ∧ Frm 46 a []) (Rets Tryd.prog Tryd.f17 (punctualsame_Still_api_Job.Post w0))
theorem punctualsame_Still_api_Job_r0 (K : Nat) (w0 : World) (f0 : List SJob) (A0 : Option Addr) (n0 : Nat) (c0 : Nat) (l1 : List SJob) (A1 : Option Addr) (c1 : Nat) (x2 : SJob) (hR0 : RdL w0 A0 f0) (hc0 : f0.length ≤ c0) (hR1 : RdL w0 A1 l1) (hL1 : l1.length ≤ c1) (b1 : Nat) (hc1 : (IntKind.i64.wrap ((l1.length : Int) + 3)) = (f0.length : Int)) (s : Nat) (o : Nat ⊕ (Unit ⊕ Bool)) (h : punctualsame_Still_api_Job.r0 f0 l1 x2 s = some o) (a : Act) (w : World) (hA : punctualsame_Still_api_Job.A0 K w0 f0 A0 n0 c0 l1 A1 c1 x2 hR0 hc0 hR1 hL1 b1 hc1 s a w) (Q : Exit → Act → World → Prop) (hQ : ∀ x a w, Outs (punctualsame_Still_api_Job.A0 K w0 f0 A0 n0 c0 l1 A1 c1 x2 hR0 hc0 hR1 hL1 b1 hc1) (punctualsame_Still_api_Job.B0 K w0 f0 A0 n0 c0 l1 A1 c1 x2 hR0 hc0 hR1 hL1 b1 hc1) o x a w → Q x a w) : (subF Tryd.f17 [1, 1, 0, 1, 0, 0]).wp Tryd.prog Q a w := by
  obtain ⟨i1, hs⟩ : ∃ z, z = s := ⟨s, rfl⟩
  subst hs
  obtain ⟨hS, hF⟩ := hA
  replace hS : St w0 w [Own.blk b1 (.cells #[.int .i64 x2.Task, .int .i64 x2.At, .int .i64 x2.C, .int .i64 x2.Due, .int .i64 x2.P] 30 (0, 0))] := hS
  simp only [punctualsame_Still_api_Job.r0] at h
  refine (?_ : WE Tryd.prog 46 (subF Tryd.f17 [1, 1, 0, 1, 0, 0]) Q [(1, .slice A1 l1.length c1), (5, .pointer (some ⟨b1, 0, none⟩)), (15, .slice A0 f0.length c0), (16, .int .i64 (f0.length : Int)), (17, .int .i64 (i1 : Int))] w) a hF
  clear hF a
  refine we_seq fun K5 hK5 => ?_
  refine we_region [(0, 0)] rfl ?_
  refine ge_batch [0] (ans := []) (vs := [(18, .bool (decide ((i1 : Int) < (f0.length : Int))))]) (l := []) (by kernel_rfl) trivial ?_
  refine ge_nil fun a hF => hK5 _ _ ?_ a hF
  refine we_seq fun K6 hK6 => ?_
  by_cases hc2 : (i1 : Int) < (f0.length : Int)
  · rw [if_pos hc2] at h
    refine we_known (t := 18) (b := decide ((i1 : Int) < (f0.length : Int))) (v := true) (by kernel_rfl) (decide_eq_true hc2) ?_
    refine we_true (by kernel_rfl) ?_
    refine we_skip fun a hF => hK6 _ _ ?_ a hF
    refine we_seq fun K7 hK7 => ?_
    refine we_block ?_
    refine we_seq fun K8 hK8 => ?_
    refine we_region [(0, 0), (1, 0), (2, 0), (3, 1), (4, 0), (5, 2)] rfl ?_
    refine ge_batch [0] (ans := []) (vs := [(19, .int .i64 (i1 : Int))]) (l := []) (by kernel_rfl) trivial ?_
    rcases hx2 : f0[i1]? with _ | e1
    · rw [hx2] at h; cases h
    rw [hx2] at h
    simp only [] at h
    refine ge_index (d := 20) (ty := 0) (t := 22) (el := 30) (sz := 5) (m := f0.length) (c := c0) (x := (.tmp 15)) (y := (.tmp 17)) (A := A0) (k' := .i64) (j := (i1 : Int)) (jn := i1) (b0 := blkOf A0) (o0 := offOf A0) (by kernel_rfl) (by kernel_rfl) (by kernel_rfl) (by kernel_rfl) (by kernel_rfl) ((hS.rd hR0).eqSome (pos_of_get hx2)) rfl (lt_of_get hx2) ?_
    refine ge_batch [2] (ans := [.val (.int .i64 e1.Task), .val (.int .i64 e1.At), .val (.int .i64 e1.C), .val (.int .i64 e1.Due), .val (.int .i64 e1.P)]) (vs := [(21, .agg #[.int .i64 e1.Task, .int .i64 e1.At, .int .i64 e1.C, .int .i64 e1.Due, .int .i64 e1.P])]) (l := [.loaded ⟨blkOf A0, offOf A0 + i1 * 5, none⟩ (.int .i64 e1.Task), .loaded ⟨blkOf A0, offOf A0 + i1 * 5 + 1, none⟩ (.int .i64 e1.At), .loaded ⟨blkOf A0, offOf A0 + i1 * 5 + 2, none⟩ (.int .i64 e1.C), .loaded ⟨blkOf A0, offOf A0 + i1 * 5 + 3, none⟩ (.int .i64 e1.Due), .loaded ⟨blkOf A0, offOf A0 + i1 * 5 + 4, none⟩ (.int .i64 e1.P)]) (by kernel_rfl) ⟨RdL.cell (j := 0) (hS.rd hR0) hx2 rfl, RdL.cell (j := 1) (hS.rd hR0) hx2 rfl, RdL.cell (j := 2) (hS.rd hR0) hx2 rfl, RdL.cell (j := 3) (hS.rd hR0) hx2 rfl, RdL.cell (j := 4) (hS.rd hR0) hx2 rfl, trivial⟩ ?_
    refine ge_new (d := some 9) (o := .cells #[.int .i64 0, .int .i64 0, .int .i64 0, .int .i64 0, .int .i64 0] 30) (v := fun b => .pointer (some ⟨b, 0, none⟩)) hS (fun b => by kernel_rfl) fun b2 w2 hx3 hS2 => ?_
    refine ge_batch [4] (ans := []) (vs := [(8, .int .i64 (i1 : Int))]) (l := []) (by kernel_rfl) trivial ?_
    refine ge_set (b := b2) (j := 0) (cs := #[.int .i64 0, .int .i64 0, .int .i64 0, .int .i64 0, .int .i64 0]) (t := 30) (vs := [.int .i64 e1.Task, .int .i64 e1.At, .int .i64 e1.C, .int .i64 e1.Due, .int .i64 e1.P]) hS2 (by kernel_rfl) rfl rfl fun w3 hS3 => ?_
    have hS4 : St w0 w3 [Own.blk b2 (.cells #[.int .i64 e1.Task, .int .i64 e1.At, .int .i64 e1.C, .int .i64 e1.Due, .int .i64 e1.P] 30 (0, 0)), Own.blk b1 (.cells #[.int .i64 x2.Task, .int .i64 x2.At, .int .i64 x2.C, .int .i64 x2.Due, .int .i64 x2.P] 30 (0, 0))] := hS3
    refine ge_nil fun a hF => hK8 _ _ ?_ a hF
    refine we_seq fun K9 hK9 => ?_
    refine we_draws (by kernel_rfl) [(0, 0), (1, 0), (2, 0), (3, 0), (4, 0), (5, 0), (6, 0), (7, 0), (8, 0), (9, 0), (10, 0), (11, 0), (12, 0), (13, 0), (14, 0), (15, 0), (16, 0), (17, 0), (18, 0), (19, 0), (20, 0), (21, 0), (22, 0)] (by kernel_rfl) ?_
    have hS5 := hS4.drew
    refine ge_batch [0, 1, 2, 3, 4] (ans := []) (vs := [(26, .bool (decide ((i1 : Int) < (l1.length : Int)))), (25, .bool (decide ((i1 : Int) < (l1.length : Int)))), (24, .int .i64 (l1.length : Int)), (23, .slice A1 l1.length c1), (22, .int .i64 (i1 : Int))]) (l := []) (by kernel_rfl) trivial ?_
    by_cases hc3 : (i1 : Int) < (l1.length : Int)
    · rw [if_pos hc3] at h
      refine ge_known (t := 26) (b := decide ((i1 : Int) < (l1.length : Int))) (c := true) (by kernel_rfl) (decide_eq_true hc3) ?_
      refine ge_batch [5, 6, 7] (ans := [.val (.int .i64 e1.Task), .val (.int .i64 e1.At), .val (.int .i64 e1.C), .val (.int .i64 e1.Due), .val (.int .i64 e1.P)]) (vs := [(29, .int .i64 (i1 : Int)), (28, .slice A1 l1.length c1), (27, .agg #[.int .i64 e1.Task, .int .i64 e1.At, .int .i64 e1.C, .int .i64 e1.Due, .int .i64 e1.P])]) (l := [.loaded ⟨b2, 0, none⟩ (.int .i64 e1.Task), .loaded ⟨b2, 1, none⟩ (.int .i64 e1.At), .loaded ⟨b2, 2, none⟩ (.int .i64 e1.C), .loaded ⟨b2, 3, none⟩ (.int .i64 e1.Due), .loaded ⟨b2, 4, none⟩ (.int .i64 e1.P)]) (by kernel_rfl) ⟨hS5.cell 0 rfl rfl, hS5.cell 0 rfl rfl, hS5.cell 0 rfl rfl, hS5.cell 0 rfl rfl, hS5.cell 0 rfl rfl, trivial⟩ ?_
      rcases hx4 : l1[i1]? with _ | e2
      · rw [hx4] at h; cases h
      rw [hx4] at h
      simp only [] at h
      refine ge_index (d := 30) (ty := 0) (t := 22) (el := 30) (sz := 5) (m := l1.length) (c := c1) (x := (.tmp 28)) (y := (.tmp 29)) (A := A1) (k' := .i64) (j := (i1 : Int)) (jn := i1) (b0 := blkOf A1) (o0 := offOf A1) (by kernel_rfl) (by kernel_rfl) (by kernel_rfl) (by kernel_rfl) (by kernel_rfl) ((hS5.rd hR1).eqSome (pos_of_get hx4)) rfl (lt_of_get hx4) ?_
      refine ge_batch [9] (ans := [.val (.int .i64 e2.Task), .val (.int .i64 e2.At), .val (.int .i64 e2.C), .val (.int .i64 e2.Due), .val (.int .i64 e2.P)]) (vs := [(31, .agg #[.int .i64 e2.Task, .int .i64 e2.At, .int .i64 e2.C, .int .i64 e2.Due, .int .i64 e2.P])]) (l := [.loaded ⟨blkOf A1, offOf A1 + i1 * 5, none⟩ (.int .i64 e2.Task), .loaded ⟨blkOf A1, offOf A1 + i1 * 5 + 1, none⟩ (.int .i64 e2.At), .loaded ⟨blkOf A1, offOf A1 + i1 * 5 + 2, none⟩ (.int .i64 e2.C), .loaded ⟨blkOf A1, offOf A1 + i1 * 5 + 3, none⟩ (.int .i64 e2.Due), .loaded ⟨blkOf A1, offOf A1 + i1 * 5 + 4, none⟩ (.int .i64 e2.P)]) (by kernel_rfl) ⟨RdL.cell (j := 0) (hS5.rd hR1) hx4 rfl, RdL.cell (j := 1) (hS5.rd hR1) hx4 rfl, RdL.cell (j := 2) (hS5.rd hR1) hx4 rfl, RdL.cell (j := 3) (hS5.rd hR1) hx4 rfl, RdL.cell (j := 4) (hS5.rd hR1) hx4 rfl, trivial⟩ ?_
      refine ge_eqs (d := 32) (ty := 4) (op := .neq) (x := (.tmp 27)) (y := (.tmp 31)) (t := 30) (t2 := 30) (xs := #[.int .i64 e1.Task, .int .i64 e1.At, .int .i64 e1.C, .int .i64 e1.Due, .int .i64 e1.P]) (ys := #[.int .i64 e2.Task, .int .i64 e2.At, .int .i64 e2.C, .int .i64 e2.Due, .int .i64 e2.P]) (r := (SJob.eqb e1 e2)) (v := !(SJob.eqb e1 e2)) (by kernel_rfl) (by kernel_rfl) (by kernel_rfl) (by kernel_rfl) (by kernel_rfl) rfl ?_
      refine ge_batch [11, 12] (ans := []) (vs := [(34, .bool (!(SJob.eqb e1 e2))), (33, .bool (!(SJob.eqb e1 e2)))]) (l := []) (by kernel_rfl) trivial ?_
      by_cases hc4 : (SJob.eqb e1 e2) = true
      · rw [if_pos hc4] at h
        refine ge_known (t := 34) (b := !(SJob.eqb e1 e2)) (c := false) (by kernel_rfl) (congrArg (fun z => !z) hc4) ?_
        refine ge_batch [13, 14, 15, 16, 17] (ans := []) (vs := [(39, .bool (decide ((i1 : Int) ≥ (l1.length : Int)))), (38, .bool (decide ((i1 : Int) ≥ (l1.length : Int)))), (37, .int .i64 (l1.length : Int)), (36, .slice A1 l1.length c1), (35, .int .i64 (i1 : Int))]) (l := []) (by kernel_rfl) trivial ?_
        by_cases hc5 : (i1 : Int) ≥ (l1.length : Int)
        · rw [if_pos hc5] at h
          refine ge_known (t := 39) (b := decide ((i1 : Int) ≥ (l1.length : Int))) (c := true) (by kernel_rfl) (decide_eq_true hc5) ?_
          refine ge_batch [18, 19] (ans := [.val (.int .i64 e1.Task), .val (.int .i64 e1.At), .val (.int .i64 e1.C), .val (.int .i64 e1.Due), .val (.int .i64 e1.P), .val (.int .i64 x2.Task), .val (.int .i64 x2.At), .val (.int .i64 x2.C), .val (.int .i64 x2.Due), .val (.int .i64 x2.P)]) (vs := [(41, .agg #[.int .i64 x2.Task, .int .i64 x2.At, .int .i64 x2.C, .int .i64 x2.Due, .int .i64 x2.P]), (40, .agg #[.int .i64 e1.Task, .int .i64 e1.At, .int .i64 e1.C, .int .i64 e1.Due, .int .i64 e1.P])]) (l := [.loaded ⟨b2, 0, none⟩ (.int .i64 e1.Task), .loaded ⟨b2, 1, none⟩ (.int .i64 e1.At), .loaded ⟨b2, 2, none⟩ (.int .i64 e1.C), .loaded ⟨b2, 3, none⟩ (.int .i64 e1.Due), .loaded ⟨b2, 4, none⟩ (.int .i64 e1.P), .loaded ⟨b1, 0, none⟩ (.int .i64 x2.Task), .loaded ⟨b1, 1, none⟩ (.int .i64 x2.At), .loaded ⟨b1, 2, none⟩ (.int .i64 x2.C), .loaded ⟨b1, 3, none⟩ (.int .i64 x2.Due), .loaded ⟨b1, 4, none⟩ (.int .i64 x2.P)]) (by kernel_rfl) ⟨hS5.cell 0 rfl rfl, hS5.cell 0 rfl rfl, hS5.cell 0 rfl rfl, hS5.cell 0 rfl rfl, hS5.cell 0 rfl rfl, hS5.cell 1 rfl rfl, hS5.cell 1 rfl rfl, hS5.cell 1 rfl rfl, hS5.cell 1 rfl rfl, hS5.cell 1 rfl rfl, trivial⟩ ?_
          refine ge_eqs (d := 42) (ty := 4) (op := .neq) (x := (.tmp 40)) (y := (.tmp 41)) (t := 30) (t2 := 30) (xs := #[.int .i64 e1.Task, .int .i64 e1.At, .int .i64 e1.C, .int .i64 e1.Due, .int .i64 e1.P]) (ys := #[.int .i64 x2.Task, .int .i64 x2.At, .int .i64 x2.C, .int .i64 x2.Due, .int .i64 x2.P]) (r := (SJob.eqb e1 x2)) (v := !(SJob.eqb e1 x2)) (by kernel_rfl) (by kernel_rfl) (by kernel_rfl) (by kernel_rfl) (by kernel_rfl) rfl ?_
          refine ge_batch [21, 22] (ans := []) (vs := [(44, .bool (!(SJob.eqb e1 x2))), (43, .bool (!(SJob.eqb e1 x2)))]) (l := []) (by kernel_rfl) trivial ?_
          refine ge_nil fun a hF => hK9 _ _ ?_ a hF
          by_cases hc6 : (SJob.eqb e1 x2) = true
          · rw [if_pos hc6] at h
            refine we_known (t := 44) (b := !(SJob.eqb e1 x2)) (v := false) (by kernel_rfl) (congrArg (fun z => !z) hc6) ?_
            refine we_false (by kernel_rfl) ?_
            refine we_skip fun a hF => hK7 _ _ ?_ a hF
            refine we_region [(0, 0), (1, 0)] rfl ?_
            refine ge_addn (d := 45) (ty := 3) (x := (.tmp 17)) (y := (.const (.int .i64 1))) (t := 3) (t2 := 3) (k := .i64) (m := i1) (by kernel_rfl) (by kernel_rfl) (by kernel_rfl) (by have h0 := hR0.small; omega) ?_
            refine ge_batch [1] (ans := []) (vs := [(17, .int .i64 ((i1 + 1 : Nat) : Int))]) (l := []) (by kernel_rfl) trivial ?_
            have hS6 := hS5.bring 1 rfl
            have hS7 := hS6.takeN 1
            obtain rfl := Option.some.inj h
            exact ge_nil fun a hF => hQ _ _ _ (Outs.again ⟨hS7, hF.weaken ⟨by kernel_rfl, by kernel_rfl, by kernel_rfl, by kernel_rfl, by kernel_rfl, trivial⟩⟩)
          · rw [if_neg hc6] at h
            refine we_known (t := 44) (b := !(SJob.eqb e1 x2)) (v := true) (by kernel_rfl) (congrArg (fun z => !z) (Bool.eq_false_iff.2 hc6)) ?_
            refine we_true (by kernel_rfl) ?_
            refine we_seq fun K10 hK10 => ?_
            refine we_region [(0, 0)] rfl ?_
            refine ge_batch [0] (ans := []) (vs := [(6, .bool false)]) (l := []) (by kernel_rfl) trivial ?_
            refine ge_nil fun a hF => hK10 _ _ ?_ a hF
            have hS8 := hS5.takeN 0
            obtain rfl := Option.some.inj h
            exact we_ret fun a hF => hQ _ _ _ (Outs.out nofun (Exits.on ⟨rfl, (post_ret (rs := [.tmp 6]) (ans := []) (vs := [.bool false]) (l := []) rfl (by kernel_rfl) trivial ⟨rfl, hS8⟩) a hF⟩))
        · rw [if_neg hc5] at h
          refine ge_known (t := 39) (b := decide ((i1 : Int) ≥ (l1.length : Int))) (c := false) (by kernel_rfl) (decide_eq_false hc5) ?_
          refine ge_batch [18, 19, 20, 21, 22] (ans := []) (vs := [(44, .bool false), (43, .bool false), (42, undef), (41, undef), (40, undef)]) (l := []) (by kernel_rfl) trivial ?_
          refine ge_nil fun a hF => hK9 _ _ ?_ a hF
          refine we_false (by kernel_rfl) ?_
          refine we_skip fun a hF => hK7 _ _ ?_ a hF
          refine we_region [(0, 0), (1, 0)] rfl ?_
          refine ge_addn (d := 45) (ty := 3) (x := (.tmp 17)) (y := (.const (.int .i64 1))) (t := 3) (t2 := 3) (k := .i64) (m := i1) (by kernel_rfl) (by kernel_rfl) (by kernel_rfl) (by have h0 := hR0.small; omega) ?_
          refine ge_batch [1] (ans := []) (vs := [(17, .int .i64 ((i1 + 1 : Nat) : Int))]) (l := []) (by kernel_rfl) trivial ?_
          have hS9 := hS5.bring 1 rfl
          have hS10 := hS9.takeN 1
          obtain rfl := Option.some.inj h
          exact ge_nil fun a hF => hQ _ _ _ (Outs.again ⟨hS10, hF.weaken ⟨by kernel_rfl, by kernel_rfl, by kernel_rfl, by kernel_rfl, by kernel_rfl, trivial⟩⟩)
      · rw [if_neg hc4] at h
        refine ge_known (t := 34) (b := !(SJob.eqb e1 e2)) (c := true) (by kernel_rfl) (congrArg (fun z => !z) (Bool.eq_false_iff.2 hc4)) ?_
        refine ge_batch [13, 14, 15, 16, 17, 18, 19, 20, 21, 22] (ans := []) (vs := [(44, .bool true), (43, undef), (42, undef), (41, undef), (40, undef), (39, undef), (38, undef), (37, undef), (36, undef), (35, undef)]) (l := []) (by kernel_rfl) trivial ?_
        refine ge_nil fun a hF => hK9 _ _ ?_ a hF
        refine we_true (by kernel_rfl) ?_
        refine we_seq fun K11 hK11 => ?_
        refine we_region [(0, 0)] rfl ?_
        refine ge_batch [0] (ans := []) (vs := [(6, .bool false)]) (l := []) (by kernel_rfl) trivial ?_
        refine ge_nil fun a hF => hK11 _ _ ?_ a hF
        have hS11 := hS5.takeN 0
        obtain rfl := Option.some.inj h
        exact we_ret fun a hF => hQ _ _ _ (Outs.out nofun (Exits.on ⟨rfl, (post_ret (rs := [.tmp 6]) (ans := []) (vs := [.bool false]) (l := []) rfl (by kernel_rfl) trivial ⟨rfl, hS11⟩) a hF⟩))
    · rw [if_neg hc3] at h
      refine ge_known (t := 26) (b := decide ((i1 : Int) < (l1.length : Int))) (c := false) (by kernel_rfl) (decide_eq_false hc3) ?_
      refine ge_batch [5, 6, 7, 8, 9, 10, 11, 12, 13, 14, 15, 16, 17] (ans := []) (vs := [(39, .bool (decide ((i1 : Int) ≥ (l1.length : Int)))), (38, .bool (decide ((i1 : Int) ≥ (l1.length : Int)))), (37, .int .i64 (l1.length : Int)), (36, .slice A1 l1.length c1), (35, .int .i64 (i1 : Int)), (34, .bool false), (33, .bool false), (32, undef), (31, undef), (30, undef), (29, undef), (28, undef), (27, undef)]) (l := []) (by kernel_rfl) trivial ?_
      by_cases hc7 : (i1 : Int) ≥ (l1.length : Int)
      · rw [if_pos hc7] at h
        refine ge_known (t := 39) (b := decide ((i1 : Int) ≥ (l1.length : Int))) (c := true) (by kernel_rfl) (decide_eq_true hc7) ?_
        refine ge_batch [18, 19] (ans := [.val (.int .i64 e1.Task), .val (.int .i64 e1.At), .val (.int .i64 e1.C), .val (.int .i64 e1.Due), .val (.int .i64 e1.P), .val (.int .i64 x2.Task), .val (.int .i64 x2.At), .val (.int .i64 x2.C), .val (.int .i64 x2.Due), .val (.int .i64 x2.P)]) (vs := [(41, .agg #[.int .i64 x2.Task, .int .i64 x2.At, .int .i64 x2.C, .int .i64 x2.Due, .int .i64 x2.P]), (40, .agg #[.int .i64 e1.Task, .int .i64 e1.At, .int .i64 e1.C, .int .i64 e1.Due, .int .i64 e1.P])]) (l := [.loaded ⟨b2, 0, none⟩ (.int .i64 e1.Task), .loaded ⟨b2, 1, none⟩ (.int .i64 e1.At), .loaded ⟨b2, 2, none⟩ (.int .i64 e1.C), .loaded ⟨b2, 3, none⟩ (.int .i64 e1.Due), .loaded ⟨b2, 4, none⟩ (.int .i64 e1.P), .loaded ⟨b1, 0, none⟩ (.int .i64 x2.Task), .loaded ⟨b1, 1, none⟩ (.int .i64 x2.At), .loaded ⟨b1, 2, none⟩ (.int .i64 x2.C), .loaded ⟨b1, 3, none⟩ (.int .i64 x2.Due), .loaded ⟨b1, 4, none⟩ (.int .i64 x2.P)]) (by kernel_rfl) ⟨hS5.cell 0 rfl rfl, hS5.cell 0 rfl rfl, hS5.cell 0 rfl rfl, hS5.cell 0 rfl rfl, hS5.cell 0 rfl rfl, hS5.cell 1 rfl rfl, hS5.cell 1 rfl rfl, hS5.cell 1 rfl rfl, hS5.cell 1 rfl rfl, hS5.cell 1 rfl rfl, trivial⟩ ?_
        refine ge_eqs (d := 42) (ty := 4) (op := .neq) (x := (.tmp 40)) (y := (.tmp 41)) (t := 30) (t2 := 30) (xs := #[.int .i64 e1.Task, .int .i64 e1.At, .int .i64 e1.C, .int .i64 e1.Due, .int .i64 e1.P]) (ys := #[.int .i64 x2.Task, .int .i64 x2.At, .int .i64 x2.C, .int .i64 x2.Due, .int .i64 x2.P]) (r := (SJob.eqb e1 x2)) (v := !(SJob.eqb e1 x2)) (by kernel_rfl) (by kernel_rfl) (by kernel_rfl) (by kernel_rfl) (by kernel_rfl) rfl ?_
        refine ge_batch [21, 22] (ans := []) (vs := [(44, .bool (!(SJob.eqb e1 x2))), (43, .bool (!(SJob.eqb e1 x2)))]) (l := []) (by kernel_rfl) trivial ?_
        refine ge_nil fun a hF => hK9 _ _ ?_ a hF
        by_cases hc8 : (SJob.eqb e1 x2) = true
        · rw [if_pos hc8] at h
          refine we_known (t := 44) (b := !(SJob.eqb e1 x2)) (v := false) (by kernel_rfl) (congrArg (fun z => !z) hc8) ?_
          refine we_false (by kernel_rfl) ?_
          refine we_skip fun a hF => hK7 _ _ ?_ a hF
          refine we_region [(0, 0), (1, 0)] rfl ?_
          refine ge_addn (d := 45) (ty := 3) (x := (.tmp 17)) (y := (.const (.int .i64 1))) (t := 3) (t2 := 3) (k := .i64) (m := i1) (by kernel_rfl) (by kernel_rfl) (by kernel_rfl) (by have h0 := hR0.small; omega) ?_
          refine ge_batch [1] (ans := []) (vs := [(17, .int .i64 ((i1 + 1 : Nat) : Int))]) (l := []) (by kernel_rfl) trivial ?_
          have hS12 := hS5.bring 1 rfl
          have hS13 := hS12.takeN 1
          obtain rfl := Option.some.inj h
          exact ge_nil fun a hF => hQ _ _ _ (Outs.again ⟨hS13, hF.weaken ⟨by kernel_rfl, by kernel_rfl, by kernel_rfl, by kernel_rfl, by kernel_rfl, trivial⟩⟩)
        · rw [if_neg hc8] at h
          refine we_known (t := 44) (b := !(SJob.eqb e1 x2)) (v := true) (by kernel_rfl) (congrArg (fun z => !z) (Bool.eq_false_iff.2 hc8)) ?_
          refine we_true (by kernel_rfl) ?_
          refine we_seq fun K12 hK12 => ?_
          refine we_region [(0, 0)] rfl ?_
          refine ge_batch [0] (ans := []) (vs := [(6, .bool false)]) (l := []) (by kernel_rfl) trivial ?_
          refine ge_nil fun a hF => hK12 _ _ ?_ a hF
          have hS14 := hS5.takeN 0
          obtain rfl := Option.some.inj h
          exact we_ret fun a hF => hQ _ _ _ (Outs.out nofun (Exits.on ⟨rfl, (post_ret (rs := [.tmp 6]) (ans := []) (vs := [.bool false]) (l := []) rfl (by kernel_rfl) trivial ⟨rfl, hS14⟩) a hF⟩))
      · rw [if_neg hc7] at h
        refine ge_known (t := 39) (b := decide ((i1 : Int) ≥ (l1.length : Int))) (c := false) (by kernel_rfl) (decide_eq_false hc7) ?_
        refine ge_batch [18, 19, 20, 21, 22] (ans := []) (vs := [(44, .bool false), (43, .bool false), (42, undef), (41, undef), (40, undef)]) (l := []) (by kernel_rfl) trivial ?_
        refine ge_nil fun a hF => hK9 _ _ ?_ a hF
        refine we_false (by kernel_rfl) ?_
        refine we_skip fun a hF => hK7 _ _ ?_ a hF
        refine we_region [(0, 0), (1, 0)] rfl ?_
        refine ge_addn (d := 45) (ty := 3) (x := (.tmp 17)) (y := (.const (.int .i64 1))) (t := 3) (t2 := 3) (k := .i64) (m := i1) (by kernel_rfl) (by kernel_rfl) (by kernel_rfl) (by have h0 := hR0.small; omega) ?_
        refine ge_batch [1] (ans := []) (vs := [(17, .int .i64 ((i1 + 1 : Nat) : Int))]) (l := []) (by kernel_rfl) trivial ?_
        have hS15 := hS5.bring 1 rfl
        have hS16 := hS15.takeN 1
        obtain rfl := Option.some.inj h
        exact ge_nil fun a hF => hQ _ _ _ (Outs.again ⟨hS16, hF.weaken ⟨by kernel_rfl, by kernel_rfl, by kernel_rfl, by kernel_rfl, by kernel_rfl, trivial⟩⟩)
  · rw [if_neg hc2] at h
    refine we_known (t := 18) (b := decide ((i1 : Int) < (f0.length : Int))) (v := false) (by kernel_rfl) (decide_eq_false hc2) ?_
    refine we_false (by kernel_rfl) ?_
    have hS17 := hS.takeN 0
    obtain rfl := Option.some.inj h
    exact we_exit fun a hF => hQ _ _ _ (Outs.out nofun (Exits.here ⟨hS17, hF.weaken trivial⟩))
theorem punctualsame_Still_api_Job_ok (K : Nat) (f0 : List SJob) (A0 : Option Addr) (n0 : Nat) (c0 : Nat) (l1 : List SJob) (A1 : Option Addr) (c1 : Nat) (x2 : SJob) (w0 : World) (hR0 : RdL w0 A0 f0) (hc0 : f0.length ≤ c0) (hR1 : RdL w0 A1 l1) (hL1 : l1.length ≤ c1) (r : Bool) (h : punctualsame_Still_api_Job.f K f0 l1 x2 = some r) :
    Calls Tryd.prog 17 #[.slice A0 n0 c0, .slice A1 l1.length c1, .agg #[.int .i64 x2.Task, .int .i64 x2.At, .int .i64 x2.C, .int .i64 x2.Due, .int .i64 x2.P]] w0 (punctualsame_Still_api_Job.Post w0 r) := by
  have hS := St.start w0
  unfold punctualsame_Still_api_Job.f at h
  refine calls_enter (n := 46) (args := [.slice A0 n0 c0, .slice A1 l1.length c1, .agg #[.int .i64 x2.Task, .int .i64 x2.At, .int .i64 x2.C, .int .i64 x2.Due, .int .i64 x2.P]]) (fn := Tryd.f17) rfl rfl rfl rfl ?_
  show WE _ _ _ _ [(0, .slice A0 n0 c0), (1, .slice A1 l1.length c1), (2, .agg #[.int .i64 x2.Task, .int .i64 x2.At, .int .i64 x2.C, .int .i64 x2.Due, .int .i64 x2.P])] _
  refine we_seq fun K1 hK1 => ?_
  refine we_region [(0, 1), (1, 0)] rfl ?_
  refine ge_new (d := some 5) (o := .cells #[.int .i64 x2.Task, .int .i64 x2.At, .int .i64 x2.C, .int .i64 x2.Due, .int .i64 x2.P] 30) (v := fun b => .pointer (some ⟨b, 0, none⟩)) hS (fun b => by kernel_rfl) fun b1 w1 hx1 hS1 => ?_
  refine ge_batch [1] (ans := []) (vs := [(6, .bool false)]) (l := []) (by kernel_rfl) trivial ?_
  refine ge_nil fun a hF => hK1 _ _ ?_ a hF
  refine we_seq fun K2 hK2 => ?_
  refine we_region [(0, 0), (1, 0), (2, 0), (3, 0), (4, 0), (5, 0)] rfl ?_
  refine ge_batch [0, 1, 2, 3] (ans := []) (vs := [(13, .int .i64 (IntKind.i64.wrap ((l1.length : Int) + 3))), (12, .int .i64 (l1.length : Int)), (11, .slice A1 l1.length c1), (10, .slice A0 n0 c0)]) (l := []) (by kernel_rfl) trivial ?_
  by_cases hc1 : (IntKind.i64.wrap ((l1.length : Int) + 3)) = (f0.length : Int)
  · rw [if_pos hc1] at h
    refine ge_sliceHi (d := 14) (ty := 22) (t := 22) (el := 30) (sz := 5) (m := n0) (c := c0) (hn := f0.length) (x := (.tmp 10)) (y := (.tmp 13)) (A := A0) (k' := .i64) (hi := (IntKind.i64.wrap ((l1.length : Int) + 3))) (by kernel_rfl) (by kernel_rfl) (by kernel_rfl) hc1 (by kernel_rfl) (by kernel_rfl) hc0 ?_
    refine ge_batch [5] (ans := []) (vs := [(7, .slice A0 f0.length c0)]) (l := []) (by kernel_rfl) trivial ?_
    refine ge_nil fun a hF => hK2 _ _ ?_ a hF
    refine we_seq fun K3 hK3 => ?_
    refine we_seq fun K4 hK4 => ?_
    refine we_region [(0, 0), (1, 0), (2, 0)] rfl ?_
    refine ge_batch [0, 1, 2] (ans := []) (vs := [(17, .int .i64 0), (16, .int .i64 (f0.length : Int)), (15, .slice A0 f0.length c0)]) (l := []) (by kernel_rfl) trivial ?_
    refine ge_nil fun a hF => hK4 _ _ ?_ a hF
    refine we_block ?_
    rcases hq1 : iter (punctualsame_Still_api_Job.r0 f0 l1 x2) K 0 with _ | (_ | rr1)
    · rw [hq1] at h; cases h
    · rw [hq1] at h
      simp only [] at h
      refine we_iter (A := punctualsame_Still_api_Job.A0 K w0 f0 A0 n0 c0 l1 A1 c1 x2 hR0 hc0 hR1 hL1 b1 hc1) (B := punctualsame_Still_api_Job.B0 K w0 f0 A0 n0 c0 l1 A1 c1 x2 hR0 hc0 hR1 hL1 b1 hc1) hq1 (fun a hF => ⟨hS1, hF.weaken ⟨by kernel_rfl, by kernel_rfl, by kernel_rfl, by kernel_rfl, by kernel_rfl, trivial⟩⟩) (fun s o hf a w hA Q hQ => punctualsame_Still_api_Job_r0 K w0 f0 A0 n0 c0 l1 A1 c1 x2 hR0 hc0 hR1 hL1 b1 hc1 s o hf a w hA Q hQ) ?_
      rintro _ a w4 _ ⟨rfl, hS18, hF⟩
      replace hS18 : St w0 w4 [] := hS18
      refine hK3 [] w4 ?_ a hF
      refine we_seq fun K13 hK13 => ?_
      refine we_region [(0, 0)] rfl ?_
      refine ge_batch [0] (ans := []) (vs := [(6, .bool true)]) (l := []) (by kernel_rfl) trivial ?_
      refine ge_nil fun a hF => hK13 _ _ ?_ a hF
      obtain rfl := Option.some.inj h
      exact we_ret (post_ret (rs := [.tmp 6]) (ans := []) (vs := [.bool true]) (l := []) rfl (by kernel_rfl) trivial ⟨rfl, hS18⟩)
    · rw [hq1] at h
      simp only [] at h
      refine we_iter (A := punctualsame_Still_api_Job.A0 K w0 f0 A0 n0 c0 l1 A1 c1 x2 hR0 hc0 hR1 hL1 b1 hc1) (B := punctualsame_Still_api_Job.B0 K w0 f0 A0 n0 c0 l1 A1 c1 x2 hR0 hc0 hR1 hL1 b1 hc1) hq1 (fun a hF => ⟨hS1, hF.weaken ⟨by kernel_rfl, by kernel_rfl, by kernel_rfl, by kernel_rfl, by kernel_rfl, trivial⟩⟩) (fun s o hf a w hA Q hQ => punctualsame_Still_api_Job_r0 K w0 f0 A0 n0 c0 l1 A1 c1 x2 hR0 hc0 hR1 hL1 b1 hc1 s o hf a w hA Q hQ) ?_
      rintro _ a w1 _ ⟨rfl, hb⟩
      obtain rfl := Option.some.inj h
      exact hb
  · rw [if_neg hc1] at h
    cases h

/-! punctual/punctualsame.Spoil[int] -/
theorem punctualsame_Spoil_int_ok (w0 w : World) {L : List Own} (A : Option Addr) (n c : Nat) (l : List Int) (hS : St w0 w (Own.of (.slice A n c) 3 l :: L)) : Calls Tryd.prog 38 #[.slice A n c] w (fun e w' => e = .returned (.tuple #[]) ∧ St w0 w' L) := by
  refine calls_enter (n := 6) (args := [.slice A n c]) (fn := Tryd.f38) rfl rfl rfl rfl ?_
  show WE _ _ _ _ [(0, .slice A n c)] _
  refine we_region [(0, 0), (1, 0), (2, 0), (3, 0), (4, 2)] rfl ?_
  refine ge_batch [0, 1, 2] (ans := []) (vs := [(4, .int .i64 (c : Int)), (3, .slice A n c), (2, .slice A n c)]) (l := []) (by kernel_rfl) trivial ?_
  refine ge_sliceHi (d := 5) (ty := 23) (t := 23) (el := 3) (sz := 1) (m := n) (c := c) (hn := c) (x := (.tmp 2)) (y := (.tmp 4)) (A := A) (k' := .i64) (hi := (c : Int)) (by kernel_rfl) (by kernel_rfl) (by kernel_rfl) rfl (by kernel_rfl) (by kernel_rfl) (Nat.le_refl _) ?_
  refine ge_clear (α := Int) (m := 0) (t := 23) (el := 3) (c := c) (k := n) (bytes := 8) (x := (.tmp 5)) (ty := 0) (A := A) (z := .int .i64 0) (l := l) (by kernel_rfl) (by kernel_rfl) (by kernel_rfl) (by kernel_rfl) rfl rfl hS fun w1 hS1 => ?_
  exact ge_nil (post_end (rs := []) (ans := []) (vs := []) (l := []) rfl (by kernel_rfl) trivial ⟨rfl, hS1⟩)

/-! punctual/punctuallaw.SchedPlays -/
abbrev SchedPlays.Post (w0 : World) (r : Bool) (e : Ending) (w : World) : Prop := e = .returned (.bool r) ∧ St w0 w []
def SchedPlays.p0 (l0 : List SJob) (x3 : Int) : Option (Unit ⊕ Bool) :=
    if (few.f (l0.length : Int)) = true then
      if (small.f (l0.length : Int) x3) = true then
        some (.inl ())
      else
        some (.inr true)
    else
      some (.inr true)
def SchedPlays.r1 (K : Nat) (l0 : List SJob) (x1 : Int) (x2 : Bool) (x3 : Int) (r2 : SPlayed × SFault) : Nat → Option (Nat ⊕ (Unit ⊕ Bool))
  | i1 =>
    if (i1 : Int) < 2 then
      match sched_Play.f K l0 x1 x2 x3 with
      | none => none
      | some r6 =>
        if (SFault.eqb r6.2 r2.2) = true then
          match punctualsame_Played.f K r6.1.Runs r6.1.Ends r2.1.Runs r2.1.Ends with
          | none => none
          | some r7 =>
            if r7 = true then
              match punctualsame_Still_api_Job.f K (l0 ++ [(⟨(-9), 0, 0, 0, 0⟩ : SJob), (⟨(-9), 0, 0, 0, 0⟩ : SJob), (⟨(-9), 0, 0, 0, 0⟩ : SJob)]) l0 (⟨(-9), 0, 0, 0, 0⟩ : SJob) with
              | none => none
              | some r8 =>
                if r8 = true then
                  match punctualsame_Same_int.f K r6.1.Ends r2.1.Ends with
                  | none => none
                  | some r9 =>
                    if r9 = true then
                      some (.inl (i1 + 1))
                    else
                      some (.inr (.inr false))
                else
                  some (.inr (.inr false))
            else
              some (.inr (.inr false))
        else
          some (.inr (.inr false))
    else
      some (.inr (.inl ()))
def SchedPlays.f (K : Nat) (l0 : List SJob) (x1 : Int) (x2 : Bool) (x3 : Int) : Option Bool :=
  match runs.f K with
  | none => none
  | some r1 =>
    if r1 = true then
      match SchedPlays.p0 l0 x3 with
      | none => none
      | some (.inl _) =>
        match punctualref_PlayJobs.f K l0 x1 x2 x3 with
        | none => none
        | some r2 =>
          match punctualsame_Lend_api_Job.f l0 (⟨(-9), 0, 0, 0, 0⟩ : SJob) with
          | none => none
          | some _ =>
            match sched_Check.f K l0 with
            | none => none
            | some r4 =>
              match punctualref_CheckJobs.f K l0 with
              | none => none
              | some r5 =>
                if (SFault.eqb r4 r5) = true then
                  match iter (SchedPlays.r1 K l0 x1 x2 x3 r2) K 0 with
                  | none => none
                  | some (.inl _) =>
                    some true
                  | some (.inr rr1) =>
                    some rr1
                else
                  some false
      | some (.inr rr2) =>
        some rr2
    else
      some false
abbrev SchedPlays.A0 (K : Nat) (w0 : World) (l0 : List SJob) (A0 : Option Addr) (c0 : Nat) (x1 : Int) (x2 : Bool) (x3 : Int) (hR0 : RdL w0 A0 l0) (hL0 : l0.length ≤ c0) (hG0 : Glob w0 0 [.int .i64 (-9), .int .i64 0, .int .i64 0, .int .i64 0, .int .i64 0]) (r1 : Bool) (hc1 : r1 = true) : Unit → Act → World → Prop := fun (s : Unit) a w => St w0 w [] ∧ Frm 82 a [(0, .slice A0 l0.length c0), (1, .int .i64 x1), (2, .bool x2), (3, .int .i64 x3)]
abbrev SchedPlays.B0 (K : Nat) (w0 : World) (l0 : List SJob) (A0 : Option Addr) (c0 : Nat) (x1 : Int) (x2 : Bool) (x3 : Int) (hR0 : RdL w0 A0 l0) (hL0 : l0.length ≤ c0) (hG0 : Glob w0 0 [.int .i64 (-9), .int .i64 0, .int .i64 0, .int .i64 0, .int .i64 0]) (r1 : Bool) (hc1 : r1 = true) : Bool → Exit → Act → World → Prop := Rets Tryd.prog Tryd.f6 (SchedPlays.Post w0)
theorem SchedPlays_p0 (K : Nat) (w0 : World) (l0 : List SJob) (A0 : Option Addr) (c0 : Nat) (x1 : Int) (x2 : Bool) (x3 : Int) (hR0 : RdL w0 A0 l0) (hL0 : l0.length ≤ c0) (hG0 : Glob w0 0 [.int .i64 (-9), .int .i64 0, .int .i64 0, .int .i64 0, .int .i64 0]) (r1 : Bool) (hc1 : r1 = true) (o : Unit ⊕ Bool) (h : SchedPlays.p0 l0 x3 = some o) (w : World) (hS : St w0 w []) (Q : Exit → Act → World → Prop) (hQ : ∀ x a w, Outs (SchedPlays.A0 K w0 l0 A0 c0 x1 x2 x3 hR0 hL0 hG0 r1 hc1) (SchedPlays.B0 K w0 l0 A0 c0 x1 x2 x3 hR0 hL0 hG0 r1 hc1) o x a w → Q x a w) : WE Tryd.prog 82 (subF Tryd.f6 [1, 1, 0]) Q [(0, .slice A0 l0.length c0), (1, .int .i64 x1), (2, .bool x2), (3, .int .i64 x3), (8, .bool false), (14, .bool r1), (15, .bool false)] w := by
  simp only [SchedPlays.p0] at h
  refine we_seq fun K5 hK5 => ?_
  refine we_region [(0, 0), (1, 0), (2, 1), (3, 0), (4, 0), (5, 0), (6, 0), (7, 0), (8, 1), (9, 0), (10, 0)] rfl ?_
  refine ge_batch [0, 1] (ans := []) (vs := [(17, .int .i64 (l0.length : Int)), (16, .slice A0 l0.length c0)]) (l := []) (by kernel_rfl) trivial ?_
  refine ge_call (d := some 18) (f := 13) (args := #[.int .i64 (l0.length : Int)]) (by kernel_rfl) (few_ok (l0.length : Int) _ _ rfl) ?_
  rintro _ w2 ⟨rfl, hS3⟩
  refine ⟨_, rfl, hS3.below, ?_⟩
  have hS4 := hS.call hS3
  refine ge_batch [3, 4] (ans := []) (vs := [(20, .bool (!(few.f (l0.length : Int)))), (19, .bool (!(few.f (l0.length : Int))))]) (l := []) (by kernel_rfl) trivial ?_
  by_cases hc2 : (few.f (l0.length : Int)) = true
  · rw [if_pos hc2] at h
    refine ge_known (t := 20) (b := !(few.f (l0.length : Int))) (c := false) (by kernel_rfl) (congrArg (fun z => !z) hc2) ?_
    refine ge_batch [5, 6, 7] (ans := []) (vs := [(23, .int .i64 x3), (22, .int .i64 (l0.length : Int)), (21, .slice A0 l0.length c0)]) (l := []) (by kernel_rfl) trivial ?_
    refine ge_call (d := some 24) (f := 32) (args := #[.int .i64 (l0.length : Int), .int .i64 x3]) (by kernel_rfl) (small_ok (l0.length : Int) x3 _ _ rfl) ?_
    rintro _ w3 ⟨rfl, hS5⟩
    refine ⟨_, rfl, hS5.below, ?_⟩
    have hS6 := hS4.call hS5
    refine ge_batch [9, 10] (ans := []) (vs := [(26, .bool (!(small.f (l0.length : Int) x3))), (25, .bool (!(small.f (l0.length : Int) x3)))]) (l := []) (by kernel_rfl) trivial ?_
    refine ge_nil fun a hF => hK5 _ _ ?_ a hF
    by_cases hc3 : (small.f (l0.length : Int) x3) = true
    · rw [if_pos hc3] at h
      refine we_known (t := 26) (b := !(small.f (l0.length : Int) x3)) (v := false) (by kernel_rfl) (congrArg (fun z => !z) hc3) ?_
      refine we_false (by kernel_rfl) ?_
      obtain rfl := Option.some.inj h
      exact we_skip fun a hF => hQ _ _ _ (Outs.again ⟨hS6, hF.weaken ⟨by kernel_rfl, by kernel_rfl, by kernel_rfl, by kernel_rfl, trivial⟩⟩)
    · rw [if_neg hc3] at h
      refine we_known (t := 26) (b := !(small.f (l0.length : Int) x3)) (v := true) (by kernel_rfl) (congrArg (fun z => !z) (Bool.eq_false_iff.2 hc3)) ?_
      refine we_true (by kernel_rfl) ?_
      refine we_seq fun K6 hK6 => ?_
      refine we_region [(0, 0)] rfl ?_
      refine ge_batch [0] (ans := []) (vs := [(8, .bool true)]) (l := []) (by kernel_rfl) trivial ?_
      refine ge_nil fun a hF => hK6 _ _ ?_ a hF
      obtain rfl := Option.some.inj h
      exact we_ret fun a hF => hQ _ _ _ (Outs.out nofun ⟨rfl, (post_ret (rs := [.tmp 8]) (ans := []) (vs := [.bool true]) (l := []) rfl (by kernel_rfl) trivial ⟨rfl, hS6⟩) a hF⟩)
  · rw [if_neg hc2] at h
    refine ge_known (t := 20) (b := !(few.f (l0.length : Int))) (c := true) (by kernel_rfl) (congrArg (fun z => !z) (Bool.eq_false_iff.2 hc2)) ?_
    refine ge_batch [5, 6, 7] (ans := []) (vs := [(23, undef), (22, undef), (21, undef)]) (l := []) (by kernel_rfl) trivial ?_
    refine ge_off rfl rfl rfl (by kernel_rfl) ?_
    refine ge_batch [9, 10] (ans := []) (vs := [(26, .bool true), (25, undef)]) (l := []) (by kernel_rfl) trivial ?_
    refine ge_nil fun a hF => hK5 _ _ ?_ a hF
    refine we_true (by kernel_rfl) ?_
    refine we_seq fun K7 hK7 => ?_
    refine we_region [(0, 0)] rfl ?_
    refine ge_batch [0] (ans := []) (vs := [(8, .bool true)]) (l := []) (by kernel_rfl) trivial ?_
    refine ge_nil fun a hF => hK7 _ _ ?_ a hF
    obtain rfl := Option.some.inj h
    exact we_ret fun a hF => hQ _ _ _ (Outs.out nofun ⟨rfl, (post_ret (rs := [.tmp 8]) (ans := []) (vs := [.bool true]) (l := []) rfl (by kernel_rfl) trivial ⟨rfl, hS4⟩) a hF⟩)
abbrev SchedPlays.A1 (K : Nat) (w0 : World) (l0 : List SJob) (A0 : Option Addr) (c0 : Nat) (x1 : Int) (x2 : Bool) (x3 : Int) (hR0 : RdL w0 A0 l0) (hL0 : l0.length ≤ c0) (hG0 : Glob w0 0 [.int .i64 (-9), .int .i64 0, .int .i64 0, .int .i64 0, .int .i64 0]) (r1 : Bool) (hc1 : r1 = true) (r2 : SPlayed × SFault) (b1 : Nat) (b2 : Nat) (Z1 : Option Addr) (cz1 : Nat) (Z2 : Option Addr) (cz2 : Nat) (Z3 : Option Addr) (cz3 : Nat) (hcp1 : (l0 ++ [(⟨(-9), 0, 0, 0, 0⟩ : SJob), (⟨(-9), 0, 0, 0, 0⟩ : SJob), (⟨(-9), 0, 0, 0, 0⟩ : SJob)]).length ≤ cz3) (r4 : SFault) (r5 : SFault) (hc4 : (SFault.eqb r4 r5) = true) : Nat → Act → World → Prop := fun (s : Nat) a w => St w0 w [Own.blk b2 (.cells #[.int .i64 r2.2.Code, .int .i64 r2.2.At] 26 (0, 0)), Own.blk b1 (.cells #[(.slice Z1 r2.1.Runs.length cz1), (.slice Z2 r2.1.Ends.length cz2)] 32 (0, 0)), Own.of (.slice Z3 (l0 ++ [(⟨(-9), 0, 0, 0, 0⟩ : SJob), (⟨(-9), 0, 0, 0, 0⟩ : SJob), (⟨(-9), 0, 0, 0, 0⟩ : SJob)]).length cz3) 30 (l0 ++ [(⟨(-9), 0, 0, 0, 0⟩ : SJob), (⟨(-9), 0, 0, 0, 0⟩ : SJob), (⟨(-9), 0, 0, 0, 0⟩ : SJob)]), Own.of (.slice Z1 r2.1.Runs.length cz1) 3 r2.1.Runs, Own.of (.slice Z2 r2.1.Ends.length cz2) 3 r2.1.Ends] ∧ Frm 82 a [(0, .slice A0 l0.length c0), (1, .int .i64 x1), (2, .bool x2), (3, .int .i64 x3), (9, .pointer (some ⟨b1, 0, none⟩)), (10, .pointer (some ⟨b2, 0, none⟩)), (11, .slice Z3 l0.length cz3), (43, .int .i64 (s : Int))]
abbrev SchedPlays.B1 (K : Nat) (w0 : World) (l0 : List SJob) (A0 : Option Addr) (c0 : Nat) (x1 : Int) (x2 : Bool) (x3 : Int) (hR0 : RdL w0 A0 l0) (hL0 : l0.length ≤ c0) (hG0 : Glob w0 0 [.int .i64 (-9), .int .i64 0, .int .i64 0, .int .i64 0, .int .i64 0]) (r1 : Bool) (hc1 : r1 = true) (r2 : SPlayed × SFault) (b1 : Nat) (b2 : Nat) (Z1 : Option Addr) (cz1 : Nat) (Z2 : Option Addr) (cz2 : Nat) (Z3 : Option Addr) (cz3 : Nat) (hcp1 : (l0 ++ [(⟨(-9), 0, 0, 0, 0⟩ : SJob), (⟨(-9), 0, 0, 0, 0⟩ : SJob), (⟨(-9), 0, 0, 0, 0⟩ : SJob)]).length ≤ cz3) (r4 : SFault) (r5 : SFault) (hc4 : (SFault.eqb r4 r5) = true) : (Unit ⊕ Bool) → Exit → Act → World → Prop := Exits 0 (fun (s : Unit) a w => St w0 w [] ∧ Frm 82 a []) (Rets Tryd.prog Tryd.f6 (SchedPlays.Post w0))
theorem SchedPlays_r1 (K : Nat) (w0 : World) (l0 : List SJob) (A0 : Option Addr) (c0 : Nat) (x1 : Int) (x2 : Bool) (x3 : Int) (hR0 : RdL w0 A0 l0) (hL0 : l0.length ≤ c0) (hG0 : Glob w0 0 [.int .i64 (-9), .int .i64 0, .int .i64 0, .int .i64 0, .int .i64 0]) (r1 : Bool) (hc1 : r1 = true) (r2 : SPlayed × SFault) (b1 : Nat) (b2 : Nat) (Z1 : Option Addr) (cz1 : Nat) (Z2 : Option Addr) (cz2 : Nat) (Z3 : Option Addr) (cz3 : Nat) (hcp1 : (l0 ++ [(⟨(-9), 0, 0, 0, 0⟩ : SJob), (⟨(-9), 0, 0, 0, 0⟩ : SJob), (⟨(-9), 0, 0, 0, 0⟩ : SJob)]).length ≤ cz3) (r4 : SFault) (r5 : SFault) (hc4 : (SFault.eqb r4 r5) = true) (s : Nat) (o : Nat ⊕ (Unit ⊕ Bool)) (h : SchedPlays.r1 K l0 x1 x2 x3 r2 s = some o) (a : Act) (w : World) (hA : SchedPlays.A1 K w0 l0 A0 c0 x1 x2 x3 hR0 hL0 hG0 r1 hc1 r2 b1 b2 Z1 cz1 Z2 cz2 Z3 cz3 hcp1 r4 r5 hc4 s a w) (Q : Exit → Act → World → Prop) (hQ : ∀ x a w, Outs (SchedPlays.A1 K w0 l0 A0 c0 x1 x2 x3 hR0 hL0 hG0 r1 hc1 r2 b1 b2 Z1 cz1 Z2 cz2 Z3 cz3 hcp1 r4 r5 hc4) (SchedPlays.B1 K w0 l0 A0 c0 x1 x2 x3 hR0 hL0 hG0 r1 hc1 r2 b1 b2 Z1 cz1 Z2 cz2 Z3 cz3 hcp1 r4 r5 hc4) o x a w → Q x a w) : (subF Tryd.f6 [1, 1, 1, 1, 1, 1, 0, 1, 0, 0]).wp Tryd.prog Q a w := by
  obtain ⟨i1, hs⟩ : ∃ z, z = s := ⟨s, rfl⟩
  subst hs
  obtain ⟨hS, hF⟩ := hA
  replace hS : St w0 w [Own.blk b2 (.cells #[.int .i64 r2.2.Code, .int .i64 r2.2.At] 26 (0, 0)), Own.blk b1 (.cells #[(.slice Z1 r2.1.Runs.length cz1), (.slice Z2 r2.1.Ends.length cz2)] 32 (0, 0)), Own.of (.slice Z3 (l0 ++ [(⟨(-9), 0, 0, 0, 0⟩ : SJob), (⟨(-9), 0, 0, 0, 0⟩ : SJob), (⟨(-9), 0, 0, 0, 0⟩ : SJob)]).length cz3) 30 (l0 ++ [(⟨(-9), 0, 0, 0, 0⟩ : SJob), (⟨(-9), 0, 0, 0, 0⟩ : SJob), (⟨(-9), 0, 0, 0, 0⟩ : SJob)]), Own.of (.slice Z1 r2.1.Runs.length cz1) 3 r2.1.Runs, Own.of (.slice Z2 r2.1.Ends.length cz2) 3 r2.1.Ends] := hS
  simp only [SchedPlays.r1] at h
  refine (?_ : WE Tryd.prog 82 (subF Tryd.f6 [1, 1, 1, 1, 1, 1, 0, 1, 0, 0]) Q [(0, .slice A0 l0.length c0), (1, .int .i64 x1), (2, .bool x2), (3, .int .i64 x3), (9, .pointer (some ⟨b1, 0, none⟩)), (10, .pointer (some ⟨b2, 0, none⟩)), (11, .slice Z3 l0.length cz3), (43, .int .i64 (i1 : Int))] w) a hF
  clear hF a
  refine we_seq fun K14 hK14 => ?_
  refine we_region [(0, 0)] rfl ?_
  refine ge_batch [0] (ans := []) (vs := [(44, .bool (decide ((i1 : Int) < 2)))]) (l := []) (by kernel_rfl) trivial ?_
  refine ge_nil fun a hF => hK14 _ _ ?_ a hF
  refine we_seq fun K15 hK15 => ?_
  by_cases hc5 : (i1 : Int) < 2
  · rw [if_pos hc5] at h
    refine we_known (t := 44) (b := decide ((i1 : Int) < 2)) (v := true) (by kernel_rfl) (decide_eq_true hc5) ?_
    refine we_true (by kernel_rfl) ?_
    refine we_skip fun a hF => hK15 _ _ ?_ a hF
    refine we_seq fun K16 hK16 => ?_
    refine we_block ?_
    refine we_seq fun K17 hK17 => ?_
    refine we_region [(0, 0), (1, 0), (2, 0), (3, 0), (4, 1), (5, 0), (6, 0), (7, 0), (8, 1), (9, 1), (10, 2), (11, 2)] rfl ?_
    rcases hq9 : sched_Play.f K l0 x1 x2 x3 with _ | r6
    · rw [hq9] at h; cases h
    rw [hq9] at h
    simp only [] at h
    refine ge_batch [0, 1, 2, 3] (ans := []) (vs := [(49, .int .i64 x3), (48, .bool x2), (47, .int .i64 x1), (46, .slice Z3 l0.length cz3)]) (l := []) (by kernel_rfl) trivial ?_
    refine ge_call (d := some 50) (f := 36) (args := #[.slice Z3 l0.length cz3, .int .i64 x1, .bool x2, .int .i64 x3]) (by kernel_rfl) (sched_Play_ok K l0 Z3 cz3 x1 x2 x3 _ ((hS.rdAt 2 rfl).pre) (by have h0 := hcp1; simp only [List.length_append, List.length_cons, List.length_nil] at h0; omega) _ hq9) ?_
    rintro _ w13 ⟨v3, v4, rfl, hS29⟩
    refine ⟨_, rfl, hS29.below, ?_⟩
    have hS30 := hS.call hS29
    refine ge_batch [5, 6, 7] (ans := []) (vs := [(52, .agg #[.int .i64 r6.2.Code, .int .i64 r6.2.At]), (51, .agg #[v3, v4]), (45, .tuple #[.agg #[v3, v4], .agg #[.int .i64 r6.2.Code, .int .i64 r6.2.At]])]) (l := []) (by kernel_rfl) trivial ?_
    refine ge_new (d := some 12) (o := .cells #[.slice none 0 0, .slice none 0 0] 32) (v := fun b => .pointer (some ⟨b, 0, none⟩)) hS30 (fun b => by kernel_rfl) fun b3 w14 hx3 hS31 => ?_
    refine ge_new (d := some 13) (o := .cells #[.int .i64 0, .int .i64 0] 26) (v := fun b => .pointer (some ⟨b, 0, none⟩)) hS31 (fun b => by kernel_rfl) fun b4 w15 hx4 hS32 => ?_
    obtain ⟨Z4, cz4, rfl⟩ := hS32.open 2 rfl
    obtain ⟨Z5, cz5, rfl⟩ := hS32.open 3 rfl
    have hS33 := hS32.bring 1 rfl
    refine ge_set (b := b3) (j := 0) (cs := #[.slice none 0 0, .slice none 0 0]) (t := 32) (vs := [(.slice Z4 r6.1.Runs.length cz4), (.slice Z5 r6.1.Ends.length cz5)]) hS33 (by kernel_rfl) rfl rfl fun w16 hS34 => ?_
    have hS35 : St w0 w16 [Own.blk b3 (.cells #[(.slice Z4 r6.1.Runs.length cz4), (.slice Z5 r6.1.Ends.length cz5)] 32 (0, 0)), Own.blk b4 (.cells #[.int .i64 0, .int .i64 0] 26 (0, 0)), Own.of (.slice Z4 r6.1.Runs.length cz4) 3 r6.1.Runs, Own.of (.slice Z5 r6.1.Ends.length cz5) 3 r6.1.Ends, Own.blk b2 (.cells #[.int .i64 r2.2.Code, .int .i64 r2.2.At] 26 (0, 0)), Own.blk b1 (.cells #[(.slice Z1 r2.1.Runs.length cz1), (.slice Z2 r2.1.Ends.length cz2)] 32 (0, 0)), Own.of (.slice Z3 (l0 ++ [(⟨(-9), 0, 0, 0, 0⟩ : SJob), (⟨(-9), 0, 0, 0, 0⟩ : SJob), (⟨(-9), 0, 0, 0, 0⟩ : SJob)]).length cz3) 30 (l0 ++ [(⟨(-9), 0, 0, 0, 0⟩ : SJob), (⟨(-9), 0, 0, 0, 0⟩ : SJob), (⟨(-9), 0, 0, 0, 0⟩ : SJob)]), Own.of (.slice Z1 r2.1.Runs.length cz1) 3 r2.1.Runs, Own.of (.slice Z2 r2.1.Ends.length cz2) 3 r2.1.Ends] := hS34
    have hS36 := hS35.bring 1 rfl
    refine ge_set (b := b4) (j := 0) (cs := #[.int .i64 0, .int .i64 0]) (t := 26) (vs := [.int .i64 r6.2.Code, .int .i64 r6.2.At]) hS36 (by kernel_rfl) rfl rfl fun w17 hS37 => ?_
    have hS38 : St w0 w17 [Own.blk b4 (.cells #[.int .i64 r6.2.Code, .int .i64 r6.2.At] 26 (0, 0)), Own.blk b3 (.cells #[(.slice Z4 r6.1.Runs.length cz4), (.slice Z5 r6.1.Ends.length cz5)] 32 (0, 0)), Own.of (.slice Z4 r6.1.Runs.length cz4) 3 r6.1.Runs, Own.of (.slice Z5 r6.1.Ends.length cz5) 3 r6.1.Ends, Own.blk b2 (.cells #[.int .i64 r2.2.Code, .int .i64 r2.2.At] 26 (0, 0)), Own.blk b1 (.cells #[(.slice Z1 r2.1.Runs.length cz1), (.slice Z2 r2.1.Ends.length cz2)] 32 (0, 0)), Own.of (.slice Z3 (l0 ++ [(⟨(-9), 0, 0, 0, 0⟩ : SJob), (⟨(-9), 0, 0, 0, 0⟩ : SJob), (⟨(-9), 0, 0, 0, 0⟩ : SJob)]).length cz3) 30 (l0 ++ [(⟨(-9), 0, 0, 0, 0⟩ : SJob), (⟨(-9), 0, 0, 0, 0⟩ : SJob), (⟨(-9), 0, 0, 0, 0⟩ : SJob)]), Own.of (.slice Z1 r2.1.Runs.length cz1) 3 r2.1.Runs, Own.of (.slice Z2 r2.1.Ends.length cz2) 3 r2.1.Ends] := hS37
    refine ge_nil fun a hF => hK17 _ _ ?_ a hF
    refine we_seq fun K18 hK18 => ?_
    refine we_seq fun K19 hK19 => ?_
    refine we_region [(0, 0), (1, 0), (2, 0), (3, 0), (4, 0), (5, 0), (6, 1), (7, 0), (8, 0), (9, 0), (10, 0), (11, 0), (12, 0), (13, 1), (14, 0), (15, 0)] rfl ?_
    refine ge_batch [0, 1] (ans := [.val (.int .i64 r6.2.Code), .val (.int .i64 r6.2.At), .val (.int .i64 r2.2.Code), .val (.int .i64 r2.2.At)]) (vs := [(54, .agg #[.int .i64 r2.2.Code, .int .i64 r2.2.At]), (53, .agg #[.int .i64 r6.2.Code, .int .i64 r6.2.At])]) (l := [.loaded ⟨b4, 0, none⟩ (.int .i64 r6.2.Code), .loaded ⟨b4, 1, none⟩ (.int .i64 r6.2.At), .loaded ⟨b2, 0, none⟩ (.int .i64 r2.2.Code), .loaded ⟨b2, 1, none⟩ (.int .i64 r2.2.At)]) (by kernel_rfl) ⟨hS38.cell 0 rfl rfl, hS38.cell 0 rfl rfl, hS38.cell 4 rfl rfl, hS38.cell 4 rfl rfl, trivial⟩ ?_
    refine ge_eqs (d := 55) (ty := 4) (op := .neq) (x := (.tmp 53)) (y := (.tmp 54)) (t := 26) (t2 := 26) (xs := #[.int .i64 r6.2.Code, .int .i64 r6.2.At]) (ys := #[.int .i64 r2.2.Code, .int .i64 r2.2.At]) (r := (SFault.eqb r6.2 r2.2)) (v := !(SFault.eqb r6.2 r2.2)) (by kernel_rfl) (by kernel_rfl) (by kernel_rfl) (by kernel_rfl) (by kernel_rfl) rfl ?_
    refine ge_batch [3] (ans := []) (vs := [(56, .bool (!(SFault.eqb r6.2 r2.2)))]) (l := []) (by kernel_rfl) trivial ?_
    by_cases hc6 : (SFault.eqb r6.2 r2.2) = true
    · rw [if_pos hc6] at h
      refine ge_known (t := 56) (b := !(SFault.eqb r6.2 r2.2)) (c := false) (by kernel_rfl) (congrArg (fun z => !z) hc6) ?_
      rcases hq10 : punctualsame_Played.f K r6.1.Runs r6.1.Ends r2.1.Runs r2.1.Ends with _ | r7
      · rw [hq10] at h; cases h
      rw [hq10] at h
      simp only [] at h
      refine ge_batch [4, 5] (ans := [.val ((.slice Z4 r6.1.Runs.length cz4)), .val ((.slice Z5 r6.1.Ends.length cz5)), .val ((.slice Z1 r2.1.Runs.length cz1)), .val ((.slice Z2 r2.1.Ends.length cz2))]) (vs := [(58, .agg #[(.slice Z1 r2.1.Runs.length cz1), (.slice Z2 r2.1.Ends.length cz2)]), (57, .agg #[(.slice Z4 r6.1.Runs.length cz4), (.slice Z5 r6.1.Ends.length cz5)])]) (l := [.loaded ⟨b3, 0, none⟩ ((.slice Z4 r6.1.Runs.length cz4)), .loaded ⟨b3, 1, none⟩ ((.slice Z5 r6.1.Ends.length cz5)), .loaded ⟨b1, 0, none⟩ ((.slice Z1 r2.1.Runs.length cz1)), .loaded ⟨b1, 1, none⟩ ((.slice Z2 r2.1.Ends.length cz2))]) (by kernel_rfl) ⟨hS38.cell 1 rfl rfl, hS38.cell 1 rfl rfl, hS38.cell 5 rfl rfl, hS38.cell 5 rfl rfl, trivial⟩ ?_
      refine ge_call (d := some 59) (f := 37) (args := #[.agg #[(.slice Z4 r6.1.Runs.length cz4), (.slice Z5 r6.1.Ends.length cz5)], .agg #[(.slice Z1 r2.1.Runs.length cz1), (.slice Z2 r2.1.Ends.length cz2)]]) (by kernel_rfl) (punctualsame_Played_ok K r6.1.Runs Z4 cz4 r6.1.Ends Z5 cz5 r2.1.Runs Z1 cz1 r2.1.Ends Z2 cz2 _ (hS38.rdAt 2 rfl) (hS38.capAt 2 rfl) (hS38.rdAt 3 rfl) (hS38.capAt 3 rfl) (hS38.rdAt 7 rfl) (hS38.capAt 7 rfl) (hS38.rdAt 8 rfl) (hS38.capAt 8 rfl) _ hq10) ?_
      rintro _ w18 ⟨rfl, hS39⟩
      refine ⟨_, rfl, hS39.below, ?_⟩
      have hS40 := hS38.call hS39
      refine ge_batch [7, 8, 9] (ans := []) (vs := [(62, .bool (!r7)), (61, .bool (!r7)), (60, .bool (!r7))]) (l := []) (by kernel_rfl) trivial ?_
      by_cases hc7 : r7 = true
      · rw [if_pos hc7] at h
        refine ge_known (t := 62) (b := !r7) (c := false) (by kernel_rfl) (congrArg (fun z => !z) hc7) ?_
        refine ge_batch [10, 11, 12] (ans := [.val (.int .i64 (-9)), .val (.int .i64 0), .val (.int .i64 0), .val (.int .i64 0), .val (.int .i64 0)]) (vs := [(65, .agg #[.int .i64 (-9), .int .i64 0, .int .i64 0, .int .i64 0, .int .i64 0]), (64, .slice A0 l0.length c0), (63, .slice Z3 l0.length cz3)]) (l := [.loaded ⟨0, 0, none⟩ (.int .i64 (-9)), .loaded ⟨0, 1, none⟩ (.int .i64 0), .loaded ⟨0, 2, none⟩ (.int .i64 0), .loaded ⟨0, 3, none⟩ (.int .i64 0), .loaded ⟨0, 4, none⟩ (.int .i64 0)]) (by kernel_rfl) ⟨hS40.glob hG0 rfl, hS40.glob hG0 rfl, hS40.glob hG0 rfl, hS40.glob hG0 rfl, hS40.glob hG0 rfl, trivial⟩ ?_
        rcases hq11 : punctualsame_Still_api_Job.f K (l0 ++ [(⟨(-9), 0, 0, 0, 0⟩ : SJob), (⟨(-9), 0, 0, 0, 0⟩ : SJob), (⟨(-9), 0, 0, 0, 0⟩ : SJob)]) l0 (⟨(-9), 0, 0, 0, 0⟩ : SJob) with _ | r8
        · rw [hq11] at h; cases h
        rw [hq11] at h
        simp only [] at h
        refine ge_call (d := some 66) (f := 17) (args := #[.slice Z3 l0.length cz3, .slice A0 l0.length c0, .agg #[.int .i64 (-9), .int .i64 0, .int .i64 0, .int .i64 0, .int .i64 0]]) (by kernel_rfl) (punctualsame_Still_api_Job_ok K (l0 ++ [(⟨(-9), 0, 0, 0, 0⟩ : SJob), (⟨(-9), 0, 0, 0, 0⟩ : SJob), (⟨(-9), 0, 0, 0, 0⟩ : SJob)]) Z3 l0.length cz3 l0 A0 c0 (⟨(-9), 0, 0, 0, 0⟩ : SJob) _ (hS40.rdAt 6 rfl) hcp1 (hS40.rd hR0) hL0 _ hq11) ?_
        rintro _ w19 ⟨rfl, hS41⟩
        refine ⟨_, rfl, hS41.below, ?_⟩
        have hS42 := hS40.call hS41
        refine ge_batch [14, 15] (ans := []) (vs := [(68, .bool (!r8)), (67, .bool (!r8))]) (l := []) (by kernel_rfl) trivial ?_
        refine ge_nil fun a hF => hK19 _ _ ?_ a hF
        by_cases hc8 : r8 = true
        · rw [if_pos hc8] at h
          refine we_known (t := 68) (b := !r8) (v := false) (by kernel_rfl) (congrArg (fun z => !z) hc8) ?_
          refine we_false (by kernel_rfl) ?_
          refine we_skip fun a hF => hK18 _ _ ?_ a hF
          refine we_seq fun K20 hK20 => ?_
          refine we_region [(0, 0), (1, 0), (2, 2)] rfl ?_
          refine ge_batch [0, 1] (ans := [.val ((.slice Z4 r6.1.Runs.length cz4))]) (vs := [(70, (.slice Z4 r6.1.Runs.length cz4)), (69, .pointer (some ⟨b3, 0, none⟩))]) (l := [.loaded ⟨b3, 0, none⟩ ((.slice Z4 r6.1.Runs.length cz4))]) (by kernel_rfl) ⟨hS42.cell 1 rfl rfl, trivial⟩ ?_
          have hS43 := hS42.bring 2 rfl
          refine ge_call2 (m := 0) (d := some 71) (f := 38) (args := #[.slice Z4 r6.1.Runs.length cz4]) (by kernel_rfl) (punctualsame_Spoil_int_ok _ _ Z4 r6.1.Runs.length cz4 _ hS43) ?_
          rintro _ w20 ⟨rfl, hS44⟩
          refine ⟨_, rfl, ?_⟩
          refine ge_nil fun a hF => hK20 _ _ ?_ a hF
          refine we_seq fun K21 hK21 => ?_
          refine we_seq fun K22 hK22 => ?_
          refine we_region [(0, 0), (1, 0), (2, 0), (3, 0), (4, 1), (5, 0)] rfl ?_
          rcases hq12 : punctualsame_Same_int.f K r6.1.Ends r2.1.Ends with _ | r9
          · rw [hq12] at h; cases h
          rw [hq12] at h
          simp only [] at h
          refine ge_batch [0, 1, 2, 3] (ans := [.val ((.slice Z5 r6.1.Ends.length cz5)), .val ((.slice Z2 r2.1.Ends.length cz2))]) (vs := [(75, (.slice Z2 r2.1.Ends.length cz2)), (74, .pointer (some ⟨b1, 1, none⟩)), (73, (.slice Z5 r6.1.Ends.length cz5)), (72, .pointer (some ⟨b3, 1, none⟩))]) (l := [.loaded ⟨b3, 1, none⟩ ((.slice Z5 r6.1.Ends.length cz5)), .loaded ⟨b1, 1, none⟩ ((.slice Z2 r2.1.Ends.length cz2))]) (by kernel_rfl) ⟨hS44.cell 1 rfl rfl, hS44.cell 4 rfl rfl, trivial⟩ ?_
          refine ge_call (d := some 76) (f := 12) (args := #[(.slice Z5 r6.1.Ends.length cz5), (.slice Z2 r2.1.Ends.length cz2)]) (by kernel_rfl) (punctualsame_Same_int_ok K r6.1.Ends Z5 cz5 r2.1.Ends Z2 cz2 _ (hS44.rdAt 2 rfl) (hS44.capAt 2 rfl) (hS44.rdAt 7 rfl) (hS44.capAt 7 rfl) _ hq12) ?_
          rintro _ w21 ⟨rfl, hS45⟩
          refine ⟨_, rfl, hS45.below, ?_⟩
          have hS46 := hS44.call hS45
          refine ge_batch [5] (ans := []) (vs := [(77, .bool (!r9))]) (l := []) (by kernel_rfl) trivial ?_
          refine ge_nil fun a hF => hK22 _ _ ?_ a hF
          by_cases hc9 : r9 = true
          · rw [if_pos hc9] at h
            refine we_known (t := 77) (b := !r9) (v := false) (by kernel_rfl) (congrArg (fun z => !z) hc9) ?_
            refine we_false (by kernel_rfl) ?_
            refine we_skip fun a hF => hK21 _ _ ?_ a hF
            refine we_region [(0, 0), (1, 0), (2, 2)] rfl ?_
            refine ge_batch [0, 1] (ans := [.val ((.slice Z5 r6.1.Ends.length cz5))]) (vs := [(79, (.slice Z5 r6.1.Ends.length cz5)), (78, .pointer (some ⟨b3, 1, none⟩))]) (l := [.loaded ⟨b3, 1, none⟩ ((.slice Z5 r6.1.Ends.length cz5))]) (by kernel_rfl) ⟨hS46.cell 1 rfl rfl, trivial⟩ ?_
            have hS47 := hS46.bring 2 rfl
            refine ge_call2 (m := 0) (d := some 80) (f := 38) (args := #[.slice Z5 r6.1.Ends.length cz5]) (by kernel_rfl) (punctualsame_Spoil_int_ok _ _ Z5 r6.1.Ends.length cz5 _ hS47) ?_
            rintro _ w22 ⟨rfl, hS48⟩
            refine ⟨_, rfl, ?_⟩
            refine ge_nil fun a hF => hK16 _ _ ?_ a hF
            refine we_region [(0, 0), (1, 0)] rfl ?_
            refine ge_addn (d := 81) (ty := 3) (x := (.tmp 43)) (y := (.const (.int .i64 1))) (t := 3) (t2 := 3) (k := .i64) (m := i1) (by kernel_rfl) (by kernel_rfl) (by kernel_rfl) (by omega) ?_
            refine ge_batch [1] (ans := []) (vs := [(43, .int .i64 ((i1 + 1 : Nat) : Int))]) (l := []) (by kernel_rfl) trivial ?_
            have hS49 := hS48.bring 6 rfl
            have hS50 := hS49.bring 6 rfl
            have hS51 := hS50.bring 6 rfl
            have hS52 := hS51.bring 6 rfl
            have hS53 := hS52.bring 6 rfl
            have hS54 := hS53.takeN 5
            obtain rfl := Option.some.inj h
            exact ge_nil fun a hF => hQ _ _ _ (Outs.again ⟨hS54, hF.weaken ⟨by kernel_rfl, by kernel_rfl, by kernel_rfl, by kernel_rfl, by kernel_rfl, by kernel_rfl, by kernel_rfl, by kernel_rfl, trivial⟩⟩)
          · rw [if_neg hc9] at h
            refine we_known (t := 77) (b := !r9) (v := true) (by kernel_rfl) (congrArg (fun z => !z) (Bool.eq_false_iff.2 hc9)) ?_
            refine we_true (by kernel_rfl) ?_
            refine we_seq fun K23 hK23 => ?_
            refine we_region [(0, 0)] rfl ?_
            refine ge_batch [0] (ans := []) (vs := [(8, .bool false)]) (l := []) (by kernel_rfl) trivial ?_
            refine ge_nil fun a hF => hK23 _ _ ?_ a hF
            have hS55 := hS46.takeN 0
            obtain rfl := Option.some.inj h
            exact we_ret fun a hF => hQ _ _ _ (Outs.out nofun (Exits.on ⟨rfl, (post_ret (rs := [.tmp 8]) (ans := []) (vs := [.bool false]) (l := []) rfl (by kernel_rfl) trivial ⟨rfl, hS55⟩) a hF⟩))
        · rw [if_neg hc8] at h
          refine we_known (t := 68) (b := !r8) (v := true) (by kernel_rfl) (congrArg (fun z => !z) (Bool.eq_false_iff.2 hc8)) ?_
          refine we_true (by kernel_rfl) ?_
          refine we_seq fun K24 hK24 => ?_
          refine we_region [(0, 0)] rfl ?_
          refine ge_batch [0] (ans := []) (vs := [(8, .bool false)]) (l := []) (by kernel_rfl) trivial ?_
          refine ge_nil fun a hF => hK24 _ _ ?_ a hF
          have hS56 := hS42.takeN 0
          obtain rfl := Option.some.inj h
          exact we_ret fun a hF => hQ _ _ _ (Outs.out nofun (Exits.on ⟨rfl, (post_ret (rs := [.tmp 8]) (ans := []) (vs := [.bool false]) (l := []) rfl (by kernel_rfl) trivial ⟨rfl, hS56⟩) a hF⟩))
      · rw [if_neg hc7] at h
        refine ge_known (t := 62) (b := !r7) (c := true) (by kernel_rfl) (congrArg (fun z => !z) (Bool.eq_false_iff.2 hc7)) ?_
        refine ge_batch [10, 11, 12] (ans := []) (vs := [(65, undef), (64, undef), (63, undef)]) (l := []) (by kernel_rfl) trivial ?_
        refine ge_off rfl rfl rfl (by kernel_rfl) ?_
        refine ge_batch [14, 15] (ans := []) (vs := [(68, .bool true), (67, undef)]) (l := []) (by kernel_rfl) trivial ?_
        refine ge_nil fun a hF => hK19 _ _ ?_ a hF
        refine we_true (by kernel_rfl) ?_
        refine we_seq fun K25 hK25 => ?_
        refine we_region [(0, 0)] rfl ?_
        refine ge_batch [0] (ans := []) (vs := [(8, .bool false)]) (l := []) (by kernel_rfl) trivial ?_
        refine ge_nil fun a hF => hK25 _ _ ?_ a hF
        have hS57 := hS40.takeN 0
        obtain rfl := Option.some.inj h
        exact we_ret fun a hF => hQ _ _ _ (Outs.out nofun (Exits.on ⟨rfl, (post_ret (rs := [.tmp 8]) (ans := []) (vs := [.bool false]) (l := []) rfl (by kernel_rfl) trivial ⟨rfl, hS57⟩) a hF⟩))
    · rw [if_neg hc6] at h
      refine ge_known (t := 56) (b := !(SFault.eqb r6.2 r2.2)) (c := true) (by kernel_rfl) (congrArg (fun z => !z) (Bool.eq_false_iff.2 hc6)) ?_
      refine ge_batch [4, 5] (ans := []) (vs := [(58, undef), (57, undef)]) (l := []) (by kernel_rfl) trivial ?_
      refine ge_off rfl rfl rfl (by kernel_rfl) ?_
      refine ge_batch [7, 8, 9, 10, 11, 12] (ans := []) (vs := [(65, undef), (64, undef), (63, undef), (62, .bool true), (61, .bool true), (60, undef)]) (l := []) (by kernel_rfl) trivial ?_
      refine ge_off rfl rfl rfl (by kernel_rfl) ?_
      refine ge_batch [14, 15] (ans := []) (vs := [(68, .bool true), (67, undef)]) (l := []) (by kernel_rfl) trivial ?_
      refine ge_nil fun a hF => hK19 _ _ ?_ a hF
      refine we_true (by kernel_rfl) ?_
      refine we_seq fun K26 hK26 => ?_
      refine we_region [(0, 0)] rfl ?_
      refine ge_batch [0] (ans := []) (vs := [(8, .bool false)]) (l := []) (by kernel_rfl) trivial ?_
      refine ge_nil fun a hF => hK26 _ _ ?_ a hF
      have hS58 := hS38.takeN 0
      obtain rfl := Option.some.inj h
      exact we_ret fun a hF => hQ _ _ _ (Outs.out nofun (Exits.on ⟨rfl, (post_ret (rs := [.tmp 8]) (ans := []) (vs := [.bool false]) (l := []) rfl (by kernel_rfl) trivial ⟨rfl, hS58⟩) a hF⟩))
  · rw [if_neg hc5] at h
    refine we_known (t := 44) (b := decide ((i1 : Int) < 2)) (v := false) (by kernel_rfl) (decide_eq_false hc5) ?_
    refine we_false (by kernel_rfl) ?_
    have hS59 := hS.takeN 0
    obtain rfl := Option.some.inj h
    exact we_exit fun a hF => hQ _ _ _ (Outs.out nofun (Exits.here ⟨hS59, hF.weaken trivial⟩))
theorem SchedPlays_ok (K : Nat) (l0 : List SJob) (A0 : Option Addr) (c0 : Nat) (x1 : Int) (x2 : Bool) (x3 : Int) (w0 : World) (hR0 : RdL w0 A0 l0) (hL0 : l0.length ≤ c0) (hG0 : Glob w0 0 [.int .i64 (-9), .int .i64 0, .int .i64 0, .int .i64 0, .int .i64 0]) (r : Bool) (h : SchedPlays.f K l0 x1 x2 x3 = some r) :
    Calls Tryd.prog 6 #[.slice A0 l0.length c0, .int .i64 x1, .bool x2, .int .i64 x3] w0 (SchedPlays.Post w0 r) := by
  have hS := St.start w0
  unfold SchedPlays.f at h
  refine calls_enter (n := 82) (args := [.slice A0 l0.length c0, .int .i64 x1, .bool x2, .int .i64 x3]) (fn := Tryd.f6) rfl rfl rfl rfl ?_
  show WE _ _ _ _ [(0, .slice A0 l0.length c0), (1, .int .i64 x1), (2, .bool x2), (3, .int .i64 x3)] _
  refine we_seq fun K1 hK1 => ?_
  refine we_region [(0, 0)] rfl ?_
  refine ge_batch [0] (ans := []) (vs := [(8, .bool false)]) (l := []) (by kernel_rfl) trivial ?_
  refine ge_nil fun a hF => hK1 _ _ ?_ a hF
  refine we_seq fun K2 hK2 => ?_
  refine we_seq fun K3 hK3 => ?_
  refine we_region [(0, 1), (1, 0)] rfl ?_
  rcases hq1 : runs.f K with _ | r1
  · rw [hq1] at h; cases h
  rw [hq1] at h
  simp only [] at h
  refine ge_call (d := some 14) (f := 31) (args := #[]) (by kernel_rfl) (runs_ok K _ _ hq1) ?_
  rintro _ w1 ⟨rfl, hS1⟩
  refine ⟨_, rfl, hS1.below, ?_⟩
  have hS2 := hS.call hS1
  refine ge_batch [1] (ans := []) (vs := [(15, .bool (!r1))]) (l := []) (by kernel_rfl) trivial ?_
  refine ge_nil fun a hF => hK3 _ _ ?_ a hF
  by_cases hc1 : r1 = true
  · rw [if_pos hc1] at h
    refine we_known (t := 15) (b := !r1) (v := false) (by kernel_rfl) (congrArg (fun z => !z) hc1) ?_
    refine we_false (by kernel_rfl) ?_
    refine we_skip fun a hF => hK2 _ _ ?_ a hF
    refine we_seq fun K4 hK4 => ?_
    rcases hq4 : SchedPlays.p0 l0 x3 with _ | (_ | rr2)
    · rw [hq4] at h; cases h
    · rw [hq4] at h
      simp only [] at h
      refine we_keep (e' := [(0, .slice A0 l0.length c0), (1, .int .i64 x1), (2, .bool x2), (3, .int .i64 x3), (8, .bool false), (14, .bool r1), (15, .bool false)]) ⟨by kernel_rfl, by kernel_rfl, by kernel_rfl, by kernel_rfl, by kernel_rfl, by kernel_rfl, by kernel_rfl, trivial⟩ (SchedPlays_p0 K w0 l0 A0 c0 x1 x2 x3 hR0 hL0 hG0 r1 hc1 _ hq4 _ hS2 _ ?_)
      rintro _ a w4 ⟨rfl, hS7, hF⟩
      replace hS7 : St w0 w4 [] := hS7
      refine hK4 [(0, .slice A0 l0.length c0), (1, .int .i64 x1), (2, .bool x2), (3, .int .i64 x3)] w4 ?_ a hF
      refine we_seq fun K8 hK8 => ?_
      refine we_region [(0, 0), (1, 0), (2, 0), (3, 0), (4, 1), (5, 0), (6, 0), (7, 0), (8, 1), (9, 1), (10, 2), (11, 2)] rfl ?_
      rcases hq5 : punctualref_PlayJobs.f K l0 x1 x2 x3 with _ | r2
      · rw [hq5] at h; cases h
      rw [hq5] at h
      simp only [] at h
      refine ge_batch [0, 1, 2, 3] (ans := []) (vs := [(31, .int .i64 x3), (30, .bool x2), (29, .int .i64 x1), (28, .slice A0 l0.length c0)]) (l := []) (by kernel_rfl) trivial ?_
      refine ge_call (d := some 32) (f := 33) (args := #[.slice A0 l0.length c0, .int .i64 x1, .bool x2, .int .i64 x3]) (by kernel_rfl) (punctualref_PlayJobs_ok K l0 A0 c0 x1 x2 x3 _ (hS7.rd hR0) hL0 _ hq5) ?_
      rintro _ w5 ⟨v1, v2, rfl, hS8⟩
      refine ⟨_, rfl, hS8.below, ?_⟩
      have hS9 := hS7.call hS8
      refine ge_batch [5, 6, 7] (ans := []) (vs := [(34, .agg #[.int .i64 r2.2.Code, .int .i64 r2.2.At]), (33, .agg #[v1, v2]), (27, .tuple #[.agg #[v1, v2], .agg #[.int .i64 r2.2.Code, .int .i64 r2.2.At]])]) (l := []) (by kernel_rfl) trivial ?_
      refine ge_new (d := some 9) (o := .cells #[.slice none 0 0, .slice none 0 0] 32) (v := fun b => .pointer (some ⟨b, 0, none⟩)) hS9 (fun b => by kernel_rfl) fun b1 w6 hx1 hS10 => ?_
      refine ge_new (d := some 10) (o := .cells #[.int .i64 0, .int .i64 0] 26) (v := fun b => .pointer (some ⟨b, 0, none⟩)) hS10 (fun b => by kernel_rfl) fun b2 w7 hx2 hS11 => ?_
      obtain ⟨Z1, cz1, rfl⟩ := hS11.open 2 rfl
      obtain ⟨Z2, cz2, rfl⟩ := hS11.open 3 rfl
      have hS12 := hS11.bring 1 rfl
      refine ge_set (b := b1) (j := 0) (cs := #[.slice none 0 0, .slice none 0 0]) (t := 32) (vs := [(.slice Z1 r2.1.Runs.length cz1), (.slice Z2 r2.1.Ends.length cz2)]) hS12 (by kernel_rfl) rfl rfl fun w8 hS13 => ?_
      have hS14 : St w0 w8 [Own.blk b1 (.cells #[(.slice Z1 r2.1.Runs.length cz1), (.slice Z2 r2.1.Ends.length cz2)] 32 (0, 0)), Own.blk b2 (.cells #[.int .i64 0, .int .i64 0] 26 (0, 0)), Own.of (.slice Z1 r2.1.Runs.length cz1) 3 r2.1.Runs, Own.of (.slice Z2 r2.1.Ends.length cz2) 3 r2.1.Ends] := hS13
      have hS15 := hS14.bring 1 rfl
      refine ge_set (b := b2) (j := 0) (cs := #[.int .i64 0, .int .i64 0]) (t := 26) (vs := [.int .i64 r2.2.Code, .int .i64 r2.2.At]) hS15 (by kernel_rfl) rfl rfl fun w9 hS16 => ?_
      have hS17 : St w0 w9 [Own.blk b2 (.cells #[.int .i64 r2.2.Code, .int .i64 r2.2.At] 26 (0, 0)), Own.blk b1 (.cells #[(.slice Z1 r2.1.Runs.length cz1), (.slice Z2 r2.1.Ends.length cz2)] 32 (0, 0)), Own.of (.slice Z1 r2.1.Runs.length cz1) 3 r2.1.Runs, Own.of (.slice Z2 r2.1.Ends.length cz2) 3 r2.1.Ends] := hS16
      refine ge_nil fun a hF => hK8 _ _ ?_ a hF
      refine we_seq fun K9 hK9 => ?_
      refine we_region [(0, 0), (1, 0), (2, 1), (3, 0)] rfl ?_
      refine ge_batch [0, 1] (ans := [.val (.int .i64 (-9)), .val (.int .i64 0), .val (.int .i64 0), .val (.int .i64 0), .val (.int .i64 0)]) (vs := [(36, .agg #[.int .i64 (-9), .int .i64 0, .int .i64 0, .int .i64 0, .int .i64 0]), (35, .slice A0 l0.length c0)]) (l := [.loaded ⟨0, 0, none⟩ (.int .i64 (-9)), .loaded ⟨0, 1, none⟩ (.int .i64 0), .loaded ⟨0, 2, none⟩ (.int .i64 0), .loaded ⟨0, 3, none⟩ (.int .i64 0), .loaded ⟨0, 4, none⟩ (.int .i64 0)]) (by kernel_rfl) ⟨hS17.glob hG0 rfl, hS17.glob hG0 rfl, hS17.glob hG0 rfl, hS17.glob hG0 rfl, hS17.glob hG0 rfl, trivial⟩ ?_
      rcases hq6 : punctualsame_Lend_api_Job.f l0 (⟨(-9), 0, 0, 0, 0⟩ : SJob) with _ | r3
      · rw [hq6] at h; cases h
      rw [hq6] at h
      simp only [] at h
      obtain rfl := punctualsame_Lend_api_Job_full _ _ hq6
      refine ge_call (d := some 37) (f := 14) (args := #[.slice A0 l0.length c0, .agg #[.int .i64 (-9), .int .i64 0, .int .i64 0, .int .i64 0, .int .i64 0]]) (by kernel_rfl) (punctualsame_Lend_api_Job_ok l0 A0 c0 (⟨(-9), 0, 0, 0, 0⟩ : SJob) _ (hS17.rd hR0) hL0 _ hq6) ?_
      rintro _ w10 ⟨Z3, cz3, rfl, hcp1, hS18⟩
      refine ⟨_, rfl, hS18.below, ?_⟩
      have hS19 := hS17.call hS18
      refine ge_batch [3] (ans := []) (vs := [(11, .slice Z3 l0.length cz3)]) (l := []) (by kernel_rfl) trivial ?_
      refine ge_nil fun a hF => hK9 _ _ ?_ a hF
      refine we_seq fun K10 hK10 => ?_
      refine we_seq fun K11 hK11 => ?_
      refine we_region [(0, 0), (1, 1), (2, 0), (3, 1), (4, 0)] rfl ?_
      rcases hq7 : sched_Check.f K l0 with _ | r4
      · rw [hq7] at h; cases h
      rw [hq7] at h
      simp only [] at h
      refine ge_batch [0] (ans := []) (vs := [(38, .slice Z3 l0.length cz3)]) (l := []) (by kernel_rfl) trivial ?_
      refine ge_call (d := some 39) (f := 34) (args := #[.slice Z3 l0.length cz3]) (by kernel_rfl) (sched_Check_ok K l0 Z3 cz3 _ ((hS19.rdAt 0 rfl).pre) (by have h0 := hcp1; simp only [List.length_append, List.length_cons, List.length_nil] at h0; omega) _ hq7) ?_
      rintro _ w11 ⟨rfl, hS20⟩
      refine ⟨_, rfl, hS20.below, ?_⟩
      have hS21 := hS19.call hS20
      rcases hq8 : punctualref_CheckJobs.f K l0 with _ | r5
      · rw [hq8] at h; cases h
      rw [hq8] at h
      simp only [] at h
      refine ge_batch [2] (ans := []) (vs := [(40, .slice A0 l0.length c0)]) (l := []) (by kernel_rfl) trivial ?_
      refine ge_call (d := some 41) (f := 35) (args := #[.slice A0 l0.length c0]) (by kernel_rfl) (punctualref_CheckJobs_ok K l0 A0 c0 _ (hS21.rd hR0) hL0 _ hq8) ?_
      rintro _ w12 ⟨rfl, hS22⟩
      refine ⟨_, rfl, hS22.below, ?_⟩
      have hS23 := hS21.call hS22
      refine ge_eqs (d := 42) (ty := 4) (op := .neq) (x := (.tmp 39)) (y := (.tmp 41)) (t := 26) (t2 := 26) (xs := #[.int .i64 r4.Code, .int .i64 r4.At]) (ys := #[.int .i64 r5.Code, .int .i64 r5.At]) (r := (SFault.eqb r4 r5)) (v := !(SFault.eqb r4 r5)) (by kernel_rfl) (by kernel_rfl) (by kernel_rfl) (by kernel_rfl) (by kernel_rfl) rfl ?_
      refine ge_nil fun a hF => hK11 _ _ ?_ a hF
      by_cases hc4 : (SFault.eqb r4 r5) = true
      · rw [if_pos hc4] at h
        refine we_known (t := 42) (b := !(SFault.eqb r4 r5)) (v := false) (by kernel_rfl) (congrArg (fun z => !z) hc4) ?_
        refine we_false (by kernel_rfl) ?_
        refine we_skip fun a hF => hK10 _ _ ?_ a hF
        refine we_seq fun K12 hK12 => ?_
        refine we_seq fun K13 hK13 => ?_
        refine we_region [(0, 0)] rfl ?_
        refine ge_batch [0] (ans := []) (vs := [(43, .int .i64 0)]) (l := []) (by kernel_rfl) trivial ?_
        refine ge_nil fun a hF => hK13 _ _ ?_ a hF
        refine we_block ?_
        have hS24 := hS23.bring 4 rfl
        have hS25 := hS24.bring 4 rfl
        have hS26 := hS25.bring 2 rfl
        have hS27 := hS26.bring 4 rfl
        have hS28 := hS27.bring 4 rfl
        rcases hq13 : iter (SchedPlays.r1 K l0 x1 x2 x3 r2) K 0 with _ | (_ | rr1)
        · rw [hq13] at h; cases h
        · rw [hq13] at h
          simp only [] at h
          refine we_iter (A := SchedPlays.A1 K w0 l0 A0 c0 x1 x2 x3 hR0 hL0 hG0 r1 hc1 r2 b1 b2 Z1 cz1 Z2 cz2 Z3 cz3 hcp1 r4 r5 hc4) (B := SchedPlays.B1 K w0 l0 A0 c0 x1 x2 x3 hR0 hL0 hG0 r1 hc1 r2 b1 b2 Z1 cz1 Z2 cz2 Z3 cz3 hcp1 r4 r5 hc4) hq13 (fun a hF => ⟨hS28, hF.weaken ⟨by kernel_rfl, by kernel_rfl, by kernel_rfl, by kernel_rfl, by kernel_rfl, by kernel_rfl, by kernel_rfl, by kernel_rfl, trivial⟩⟩) (fun s o hf a w hA Q hQ => SchedPlays_r1 K w0 l0 A0 c0 x1 x2 x3 hR0 hL0 hG0 r1 hc1 r2 b1 b2 Z1 cz1 Z2 cz2 Z3 cz3 hcp1 r4 r5 hc4 s o hf a w hA Q hQ) ?_
          rintro _ a w23 _ ⟨rfl, hS60, hF⟩
          replace hS60 : St w0 w23 [] := hS60
          refine hK12 [] w23 ?_ a hF
          refine we_seq fun K27 hK27 => ?_
          refine we_region [(0, 0)] rfl ?_
          refine ge_batch [0] (ans := []) (vs := [(8, .bool true)]) (l := []) (by kernel_rfl) trivial ?_
          refine ge_nil fun a hF => hK27 _ _ ?_ a hF
          obtain rfl := Option.some.inj h
          exact we_ret (post_ret (rs := [.tmp 8]) (ans := []) (vs := [.bool true]) (l := []) rfl (by kernel_rfl) trivial ⟨rfl, hS60⟩)
        · rw [hq13] at h
          simp only [] at h
          refine we_iter (A := SchedPlays.A1 K w0 l0 A0 c0 x1 x2 x3 hR0 hL0 hG0 r1 hc1 r2 b1 b2 Z1 cz1 Z2 cz2 Z3 cz3 hcp1 r4 r5 hc4) (B := SchedPlays.B1 K w0 l0 A0 c0 x1 x2 x3 hR0 hL0 hG0 r1 hc1 r2 b1 b2 Z1 cz1 Z2 cz2 Z3 cz3 hcp1 r4 r5 hc4) hq13 (fun a hF => ⟨hS28, hF.weaken ⟨by kernel_rfl, by kernel_rfl, by kernel_rfl, by kernel_rfl, by kernel_rfl, by kernel_rfl, by kernel_rfl, by kernel_rfl, trivial⟩⟩) (fun s o hf a w hA Q hQ => SchedPlays_r1 K w0 l0 A0 c0 x1 x2 x3 hR0 hL0 hG0 r1 hc1 r2 b1 b2 Z1 cz1 Z2 cz2 Z3 cz3 hcp1 r4 r5 hc4 s o hf a w hA Q hQ) ?_
          rintro _ a w1 _ ⟨rfl, hb⟩
          obtain rfl := Option.some.inj h
          exact hb
      · rw [if_neg hc4] at h
        refine we_known (t := 42) (b := !(SFault.eqb r4 r5)) (v := true) (by kernel_rfl) (congrArg (fun z => !z) (Bool.eq_false_iff.2 hc4)) ?_
        refine we_true (by kernel_rfl) ?_
        refine we_seq fun K28 hK28 => ?_
        refine we_region [(0, 0)] rfl ?_
        refine ge_batch [0] (ans := []) (vs := [(8, .bool false)]) (l := []) (by kernel_rfl) trivial ?_
        refine ge_nil fun a hF => hK28 _ _ ?_ a hF
        have hS61 := hS23.takeN 0
        obtain rfl := Option.some.inj h
        exact we_ret (post_ret (rs := [.tmp 8]) (ans := []) (vs := [.bool false]) (l := []) rfl (by kernel_rfl) trivial ⟨rfl, hS61⟩)
    · rw [hq4] at h
      simp only [] at h
      refine we_keep (e' := [(0, .slice A0 l0.length c0), (1, .int .i64 x1), (2, .bool x2), (3, .int .i64 x3), (8, .bool false), (14, .bool r1), (15, .bool false)]) ⟨by kernel_rfl, by kernel_rfl, by kernel_rfl, by kernel_rfl, by kernel_rfl, by kernel_rfl, by kernel_rfl, trivial⟩ (SchedPlays_p0 K w0 l0 A0 c0 x1 x2 x3 hR0 hL0 hG0 r1 hc1 _ hq4 _ hS2 _ ?_)
      rintro _ a w1 ⟨_, rfl, hb⟩
      obtain rfl := Option.some.inj h
      exact hb
  · rw [if_neg hc1] at h
    refine we_known (t := 15) (b := !r1) (v := true) (by kernel_rfl) (congrArg (fun z => !z) (Bool.eq_false_iff.2 hc1)) ?_
    refine we_true (by kernel_rfl) ?_
    refine we_seq fun K29 hK29 => ?_
    refine we_region [(0, 0)] rfl ?_
    refine ge_batch [0] (ans := []) (vs := [(8, .bool false)]) (l := []) (by kernel_rfl) trivial ?_
    refine ge_nil fun a hF => hK29 _ _ ?_ a hF
    obtain rfl := Option.some.inj h
    exact we_ret (post_ret (rs := [.tmp 8]) (ans := []) (vs := [.bool false]) (l := []) rfl (by kernel_rfl) trivial ⟨rfl, hS2⟩)
end Go.Proofs.YtlipdmblinjjaaaDoor.GV
