/- Walks of single functions, written by a program of this work. -/
import Derived.Test.YtlipdmblinjjaaaDoorGWFixedResponds2
namespace Go.Proofs.YtlipdmblinjjaaaDoor.GV
open Go Go.RowKit
set_option linter.unusedVariables false
set_option linter.unusedSimpArgs false
set_option maxRecDepth 100000

/-! punctual/punctualsame.Still[punctual/api.Task] -/
abbrev punctualsame_Still_api_Task.Post (w0 : World) (r : Bool) (e : Ending) (w : World) : Prop := e = .returned (.bool r) ∧ St w0 w []
def punctualsame_Still_api_Task.r0 (f0 : List STask) (l1 : List STask) (x2 : STask) : Nat → Option (Nat ⊕ (Unit ⊕ Bool))
  | i1 =>
    if (i1 : Int) < (f0.length : Int) then
      match f0[i1]? with
      | none => none
      | some e1 =>
        if (i1 : Int) < (l1.length : Int) then
          match l1[i1]? with
          | none => none
          | some e2 =>
            if (STask.eqb e1 e2) = true then
              if (i1 : Int) ≥ (l1.length : Int) then
                if (STask.eqb e1 x2) = true then
                  some (.inl (i1 + 1))
                else
                  some (.inr (.inr false))
              else
                some (.inl (i1 + 1))
            else
              some (.inr (.inr false))
        else
          if (i1 : Int) ≥ (l1.length : Int) then
            if (STask.eqb e1 x2) = true then
              some (.inl (i1 + 1))
            else
              some (.inr (.inr false))
          else
            some (.inl (i1 + 1))
    else
      some (.inr (.inl ()))
def punctualsame_Still_api_Task.f (K : Nat) (f0 : List STask) (l1 : List STask) (x2 : STask) : Option Bool :=
  if (IntKind.i64.wrap ((l1.length : Int) + 3)) = (f0.length : Int) then
    match iter (punctualsame_Still_api_Task.r0 f0 l1 x2) K 0 with
    | none => none
    | some (.inl _) =>
      some true
    | some (.inr rr1) =>
      some rr1
  else
    none
abbrev punctualsame_Still_api_Task.A0 (K : Nat) (w0 : World) (f0 : List STask) (A0 : Option Addr) (n0 : Nat) (c0 : Nat) (l1 : List STask) (A1 : Option Addr) (c1 : Nat) (x2 : STask) (hR0 : RdL w0 A0 f0) (hc0 : f0.length ≤ c0) (hR1 : RdL w0 A1 l1) (hL1 : l1.length ≤ c1) (b1 : Nat) (hc1 : (IntKind.i64.wrap ((l1.length : Int) + 3)) = (f0.length : Int)) : Nat → Act → World → Prop := fun (s : Nat) a w => St w0 w [Own.blk b1 (.cells #[.string x2.Name, .int .i64 x2.C, .int .i64 x2.T, .int .i64 x2.D, .int .i64 x2.J, .int .i64 x2.O, .int .i64 x2.P] 46 (0, 0))] ∧ Frm 46 a [(1, .slice A1 l1.length c1), (5, .pointer (some ⟨b1, 0, none⟩)), (15, .slice A0 f0.length c0), (16, .int .i64 (f0.length : Int)), (17, .int .i64 (s : Int))]
abbrev punctualsame_Still_api_Task.B0 (K : Nat) (w0 : World) (f0 : List STask) (A0 : Option Addr) (n0 : Nat) (c0 : Nat) (l1 : List STask) (A1 : Option Addr) (c1 : Nat) (x2 : STask) (hR0 : RdL w0 A0 f0) (hc0 : f0.length ≤ c0) (hR1 : RdL w0 A1 l1) (hL1 : l1.length ≤ c1) (b1 : Nat) (hc1 : (IntKind.i64.wrap ((l1.length : Int) + 3)) = (f0.length : Int)) : (Unit ⊕ Bool) → Exit → Act → World → Prop := Exits 0 (fun (s : Unit) a w => St w0 w [] ∧ Frm 46 a []) (Rets Tryd.prog Tryd.f24 (punctualsame_Still_api_Task.Post w0))
theorem punctualsame_Still_api_Task_r0 (K : Nat) (w0 : World) (f0 : List STask) (A0 : Option Addr) (n0 : Nat) (c0 : Nat) (l1 : List STask) (A1 : Option Addr) (c1 : Nat) (x2 : STask) (hR0 : RdL w0 A0 f0) (hc0 : f0.length ≤ c0) (hR1 : RdL w0 A1 l1) (hL1 : l1.length ≤ c1) (b1 : Nat) (hc1 : (IntKind.i64.wrap ((l1.length : Int) + 3)) = (f0.length : Int)) (s : Nat) (o : Nat ⊕ (Unit ⊕ Bool)) (h : punctualsame_Still_api_Task.r0 f0 l1 x2 s = some o) (a : Act) (w : World) (hA : punctualsame_Still_api_Task.A0 K w0 f0 A0 n0 c0 l1 A1 c1 x2 hR0 hc0 hR1 hL1 b1 hc1 s a w) (Q : Exit → Act → World → Prop) (hQ : ∀ x a w, Outs (punctualsame_Still_api_Task.A0 K w0 f0 A0 n0 c0 l1 A1 c1 x2 hR0 hc0 hR1 hL1 b1 hc1) (punctualsame_Still_api_Task.B0 K w0 f0 A0 n0 c0 l1 A1 c1 x2 hR0 hc0 hR1 hL1 b1 hc1) o x a w → Q x a w) : (subF Tryd.f24 [1, 1, 0, 1, 0, 0]).wp Tryd.prog Q a w := by
  obtain ⟨i1, hs⟩ : ∃ z, z = s := ⟨s, rfl⟩
  subst hs
  obtain ⟨hS, hF⟩ := hA
  replace hS : St w0 w [Own.blk b1 (.cells #[.string x2.Name, .int .i64 x2.C, .int .i64 x2.T, .int .i64 x2.D, .int .i64 x2.J, .int .i64 x2.O, .int .i64 x2.P] 46 (0, 0))] := hS
  simp only [punctualsame_Still_api_Task.r0] at h
  refine (?_ : WE Tryd.prog 46 (subF Tryd.f24 [1, 1, 0, 1, 0, 0]) Q [(1, .slice A1 l1.length c1), (5, .pointer (some ⟨b1, 0, none⟩)), (15, .slice A0 f0.length c0), (16, .int .i64 (f0.length : Int)), (17, .int .i64 (i1 : Int))] w) a hF
  clear hF a
  refine we_seq fun K5 hK5 => ?_
  refine we_region [(0, 0)] rfl ?_
  refine ge_batch [0] (ans := []) (vs := [(18, .bool (decide ((i1 : Int) < (f0.length : Int))))]) (l := []) (by kernel_rfl) trivial ?_
  refine ge_nil fun a hF => hK5 _ _ ?_ a hF
  refine we_seq fun K6 hK6 => ?_
  by_cases hc2 : (i1 : Int) < (f0.length : Int)
  · rw [if_pos hc2] at h
    refine we_known (t := 18) (b := decide ((i1 : Int) < (f0.length : Int))) (v := true) (by kernel_rfl) (decide_eq_true hc2) ?_
    refine we_true (by kernel_rfl) ?_
    refine we_skip fun a hF => hK6 _ _ ?_ a hF
    refine we_seq fun K7 hK7 => ?_
    refine we_block ?_
    refine we_seq fun K8 hK8 => ?_
    refine we_region [(0, 0), (1, 0), (2, 0), (3, 1), (4, 0), (5, 2)] rfl ?_
    refine ge_batch [0] (ans := []) (vs := [(19, .int .i64 (i1 : Int))]) (l := []) (by kernel_rfl) trivial ?_
    rcases hx2 : f0[i1]? with _ | e1
    · rw [hx2] at h; cases h
    rw [hx2] at h
    simp only [] at h
    refine ge_index (d := 20) (ty := 0) (t := 40) (el := 46) (sz := 7) (m := f0.length) (c := c0) (x := (.tmp 15)) (y := (.tmp 17)) (A := A0) (k' := .i64) (j := (i1 : Int)) (jn := i1) (b0 := blkOf A0) (o0 := offOf A0) (by kernel_rfl) (by kernel_rfl) (by kernel_rfl) (by kernel_rfl) (by kernel_rfl) ((hS.rd hR0).eqSome (pos_of_get hx2)) rfl (lt_of_get hx2) ?_
    refine ge_batch [2] (ans := [.val (.string e1.Name), .val (.int .i64 e1.C), .val (.int .i64 e1.T), .val (.int .i64 e1.D), .val (.int .i64 e1.J), .val (.int .i64 e1.O), .val (.int .i64 e1.P)]) (vs := [(21, .agg #[.string e1.Name, .int .i64 e1.C, .int .i64 e1.T, .int .i64 e1.D, .int .i64 e1.J, .int .i64 e1.O, .int .i64 e1.P])]) (l := [.loaded ⟨blkOf A0, offOf A0 + i1 * 7, none⟩ (.string e1.Name), .loaded ⟨blkOf A0, offOf A0 + i1 * 7 + 1, none⟩ (.int .i64 e1.C), .loaded ⟨blkOf A0, offOf A0 + i1 * 7 + 2, none⟩ (.int .i64 e1.T), .loaded ⟨blkOf A0, offOf A0 + i1 * 7 + 3, none⟩ (.int .i64 e1.D), .loaded ⟨blkOf A0, offOf A0 + i1 * 7 + 4, none⟩ (.int .i64 e1.J), .loaded ⟨blkOf A0, offOf A0 + i1 * 7 + 5, none⟩ (.int .i64 e1.O), .loaded ⟨blkOf A0, offOf A0 + i1 * 7 + 6, none⟩ (.int .i64 e1.P)]) (by kernel_rfl) ⟨RdL.cell (j := 0) (hS.rd hR0) hx2 rfl, RdL.cell (j := 1) (hS.rd hR0) hx2 rfl, RdL.cell (j := 2) (hS.rd hR0) hx2 rfl, RdL.cell (j := 3) (hS.rd hR0) hx2 rfl, RdL.cell (j := 4) (hS.rd hR0) hx2 rfl, RdL.cell (j := 5) (hS.rd hR0) hx2 rfl, RdL.cell (j := 6) (hS.rd hR0) hx2 rfl, trivial⟩ ?_
    refine ge_new (d := some 9) (o := .cells #[.string (⟨#[]⟩), .int .i64 0, .int .i64 0, .int .i64 0, .int .i64 0, .int .i64 0, .int .i64 0] 46) (v := fun b => .pointer (some ⟨b, 0, none⟩)) hS (fun b => by kernel_rfl) fun b2 w2 hx3 hS2 => ?_
    refine ge_batch [4] (ans := []) (vs := [(8, .int .i64 (i1 : Int))]) (l := []) (by kernel_rfl) trivial ?_
    refine ge_set (b := b2) (j := 0) (cs := #[.string (⟨#[]⟩), .int .i64 0, .int .i64 0, .int .i64 0, .int .i64 0, .int .i64 0, .int .i64 0]) (t := 46) (vs := [.string e1.Name, .int .i64 e1.C, .int .i64 e1.T, .int .i64 e1.D, .int .i64 e1.J, .int .i64 e1.O, .int .i64 e1.P]) hS2 (by kernel_rfl) rfl rfl fun w3 hS3 => ?_
    have hS4 : St w0 w3 [Own.blk b2 (.cells #[.string e1.Name, .int .i64 e1.C, .int .i64 e1.T, .int .i64 e1.D, .int .i64 e1.J, .int .i64 e1.O, .int .i64 e1.P] 46 (0, 0)), Own.blk b1 (.cells #[.string x2.Name, .int .i64 x2.C, .int .i64 x2.T, .int .i64 x2.D, .int .i64 x2.J, .int .i64 x2.O, .int .i64 x2.P] 46 (0, 0))] := hS3
    refine ge_nil fun a hF => hK8 _ _ ?_ a hF
    refine we_seq fun K9 hK9 => ?_
    refine we_draws (by kernel_rfl) [(0, 0), (1, 0), (2, 0), (3, 0), (4, 0), (5, 0), (6, 0), (7, 0), (8, 0), (9, 0), (10, 0), (11, 0), (12, 0), (13, 0), (14, 0), (15, 0), (16, 0), (17, 0), (18, 0), (19, 0), (20, 0), (21, 0), (22, 0)] (by kernel_rfl) ?_
    have hS5 := hS4.drew
    refine ge_batch [0, 1, 2, 3, 4] (ans := []) (vs := [(26, .bool (decide ((i1 : Int) < (l1.length : Int)))), (25, .bool (decide ((i1 : Int) < (l1.length : Int)))), (24, .int .i64 (l1.length : Int)), (23, .slice A1 l1.length c1), (22, .int .i64 (i1 : Int))]) (l := []) (by kernel_rfl) trivial ?_
    by_cases hc3 : (i1 : Int) < (l1.length : Int)
    · rw [if_pos hc3] at h
      refine ge_known (t := 26) (b := decide ((i1 : Int) < (l1.length : Int))) (c := true) (by kernel_rfl) (decide_eq_true hc3) ?_
      refine ge_batch [5, 6, 7] (ans := [.val (.string e1.Name), .val (.int .i64 e1.C), .val (.int .i64 e1.T), .val (.int .i64 e1.D), .val (.int .i64 e1.J), .val (.int .i64 e1.O), .val (.int .i64 e1.P)]) (vs := [(29, .int .i64 (i1 : Int)), (28, .slice A1 l1.length c1), (27, .agg #[.string e1.Name, .int .i64 e1.C, .int .i64 e1.T, .int .i64 e1.D, .int .i64 e1.J, .int .i64 e1.O, .int .i64 e1.P])]) (l := [.loaded ⟨b2, 0, none⟩ (.string e1.Name), .loaded ⟨b2, 1, none⟩ (.int .i64 e1.C), .loaded ⟨b2, 2, none⟩ (.int .i64 e1.T), .loaded ⟨b2, 3, none⟩ (.int .i64 e1.D), .loaded ⟨b2, 4, none⟩ (.int .i64 e1.J), .loaded ⟨b2, 5, none⟩ (.int .i64 e1.O), .loaded ⟨b2, 6, none⟩ (.int .i64 e1.P)]) (by kernel_rfl) ⟨hS5.cell 0 rfl rfl, hS5.cell 0 rfl rfl, hS5.cell 0 rfl rfl, hS5.cell 0 rfl rfl, hS5.cell 0 rfl rfl, hS5.cell 0 rfl rfl, hS5.cell 0 rfl rfl, trivial⟩ ?_
      rcases hx4 : l1[i1]? with _ | e2
      · rw [hx4] at h; cases h
      rw [hx4] at h
      simp only [] at h
      refine ge_index (d := 30) (ty := 0) (t := 40) (el := 46) (sz := 7) (m := l1.length) (c := c1) (x := (.tmp 28)) (y := (.tmp 29)) (A := A1) (k' := .i64) (j := (i1 : Int)) (jn := i1) (b0 := blkOf A1) (o0 := offOf A1) (by kernel_rfl) (by kernel_rfl) (by kernel_rfl) (by kernel_rfl) (by kernel_rfl) ((hS5.rd hR1).eqSome (pos_of_get hx4)) rfl (lt_of_get hx4) ?_
      refine ge_batch [9] (ans := [.val (.string e2.Name), .val (.int .i64 e2.C), .val (.int .i64 e2.T), .val (.int .i64 e2.D), .val (.int .i64 e2.J), .val (.int .i64 e2.O), .val (.int .i64 e2.P)]) (vs := [(31, .agg #[.string e2.Name, .int .i64 e2.C, .int .i64 e2.T, .int .i64 e2.D, .int .i64 e2.J, .int .i64 e2.O, .int .i64 e2.P])]) (l := [.loaded ⟨blkOf A1, offOf A1 + i1 * 7, none⟩ (.string e2.Name), .loaded ⟨blkOf A1, offOf A1 + i1 * 7 + 1, none⟩ (.int .i64 e2.C), .loaded ⟨blkOf A1, offOf A1 + i1 * 7 + 2, none⟩ (.int .i64 e2.T), .loaded ⟨blkOf A1, offOf A1 + i1 * 7 + 3, none⟩ (.int .i64 e2.D), .loaded ⟨blkOf A1, offOf A1 + i1 * 7 + 4, none⟩ (.int .i64 e2.J), .loaded ⟨blkOf A1, offOf A1 + i1 * 7 + 5, none⟩ (.int .i64 e2.O), .loaded ⟨blkOf A1, offOf A1 + i1 * 7 + 6, none⟩ (.int .i64 e2.P)]) (by kernel_rfl) ⟨RdL.cell (j := 0) (hS5.rd hR1) hx4 rfl, RdL.cell (j := 1) (hS5.rd hR1) hx4 rfl, RdL.cell (j := 2) (hS5.rd hR1) hx4 rfl, RdL.cell (j := 3) (hS5.rd hR1) hx4 rfl, RdL.cell (j := 4) (hS5.rd hR1) hx4 rfl, RdL.cell (j := 5) (hS5.rd hR1) hx4 rfl, RdL.cell (j := 6) (hS5.rd hR1) hx4 rfl, trivial⟩ ?_
      refine ge_eqs (d := 32) (ty := 4) (op := .neq) (x := (.tmp 27)) (y := (.tmp 31)) (t := 46) (t2 := 46) (xs := #[.string e1.Name, .int .i64 e1.C, .int .i64 e1.T, .int .i64 e1.D, .int .i64 e1.J, .int .i64 e1.O, .int .i64 e1.P]) (ys := #[.string e2.Name, .int .i64 e2.C, .int .i64 e2.T, .int .i64 e2.D, .int .i64 e2.J, .int .i64 e2.O, .int .i64 e2.P]) (r := (STask.eqb e1 e2)) (v := !(STask.eqb e1 e2)) (by kernel_rfl) (by kernel_rfl) (by kernel_rfl) (by kernel_rfl) (by kernel_rfl) rfl ?_
      refine ge_batch [11, 12] (ans := []) (vs := [(34, .bool (!(STask.eqb e1 e2))), (33, .bool (!(STask.eqb e1 e2)))]) (l := []) (by kernel_rfl) trivial ?_
      by_cases hc4 : (STask.eqb e1 e2) = true
      · rw [if_pos hc4] at h
        refine ge_known (t := 34) (b := !(STask.eqb e1 e2)) (c := false) (by kernel_rfl) (congrArg (fun z => !z) hc4) ?_
        refine ge_batch [13, 14, 15, 16, 17] (ans := []) (vs := [(39, .bool (decide ((i1 : Int) ≥ (l1.length : Int)))), (38, .bool (decide ((i1 : Int) ≥ (l1.length : Int)))), (37, .int .i64 (l1.length : Int)), (36, .slice A1 l1.length c1), (35, .int .i64 (i1 : Int))]) (l := []) (by kernel_rfl) trivial ?_
        by_cases hc5 : (i1 : Int) ≥ (l1.length : Int)
        · rw [if_pos hc5] at h
          refine ge_known (t := 39) (b := decide ((i1 : Int) ≥ (l1.length : Int))) (c := true) (by kernel_rfl) (decide_eq_true hc5) ?_
          refine ge_batch [18, 19] (ans := [.val (.string e1.Name), .val (.int .i64 e1.C), .val (.int .i64 e1.T), .val (.int .i64 e1.D), .val (.int .i64 e1.J), .val (.int .i64 e1.O), .val (.int .i64 e1.P), .val (.string x2.Name), .val (.int .i64 x2.C), .val (.int .i64 x2.T), .val (.int .i64 x2.D), .val (.int .i64 x2.J), .val (.int .i64 x2.O), .val (.int .i64 x2.P)]) (vs := [(41, .agg #[.string x2.Name, .int .i64 x2.C, .int .i64 x2.T, .int .i64 x2.D, .int .i64 x2.J, .int .i64 x2.O, .int .i64 x2.P]), (40, .agg #[.string e1.Name, .int .i64 e1.C, .int .i64 e1.T, .int .i64 e1.D, .int .i64 e1.J, .int .i64 e1.O, .int .i64 e1.P])]) (l := [.loaded ⟨b2, 0, none⟩ (.string e1.Name), .loaded ⟨b2, 1, none⟩ (.int .i64 e1.C), .loaded ⟨b2, 2, none⟩ (.int .i64 e1.T), .loaded ⟨b2, 3, none⟩ (.int .i64 e1.D), .loaded ⟨b2, 4, none⟩ (.int .i64 e1.J), .loaded ⟨b2, 5, none⟩ (.int .i64 e1.O), .loaded ⟨b2, 6, none⟩ (.int .i64 e1.P), .loaded ⟨b1, 0, none⟩ (.string x2.Name), .loaded ⟨b1, 1, none⟩ (.int .i64 x2.C), .loaded ⟨b1, 2, none⟩ (.int .i64 x2.T), .loaded ⟨b1, 3, none⟩ (.int .i64 x2.D), .loaded ⟨b1, 4, none⟩ (.int .i64 x2.J), .loaded ⟨b1, 5, none⟩ (.int .i64 x2.O), .loaded ⟨b1, 6, none⟩ (.int .i64 x2.P)]) (by kernel_rfl) ⟨hS5.cell 0 rfl rfl, hS5.cell 0 rfl rfl, hS5.cell 0 rfl rfl, hS5.cell 0 rfl rfl, hS5.cell 0 rfl rfl, hS5.cell 0 rfl rfl, hS5.cell 0 rfl rfl, hS5.cell 1 rfl rfl, hS5.cell 1 rfl rfl, hS5.cell 1 rfl rfl, hS5.cell 1 rfl rfl, hS5.cell 1 rfl rfl, hS5.cell 1 rfl rfl, hS5.cell 1 rfl rfl, trivial⟩ ?_
          refine ge_eqs (d := 42) (ty := 4) (op := .neq) (x := (.tmp 40)) (y := (.tmp 41)) (t := 46) (t2 := 46) (xs := #[.string e1.Name, .int .i64 e1.C, .int .i64 e1.T, .int .i64 e1.D, .int .i64 e1.J, .int .i64 e1.O, .int .i64 e1.P]) (ys := #[.string x2.Name, .int .i64 x2.C, .int .i64 x2.T, .int .i64 x2.D, .int .i64 x2.J, .int .i64 x2.O, .int .i64 x2.P]) (r := (STask.eqb e1 x2)) (v := !(STask.eqb e1 x2)) (by kernel_rfl) (by kernel_rfl) (by kernel_rfl) (by kernel_rfl) (by kernel_rfl) rfl ?_
          refine ge_batch [21, 22] (ans := []) (vs := [(44, .bool (!(STask.eqb e1 x2))), (43, .bool (!(STask.eqb e1 x2)))]) (l := []) (by kernel_rfl) trivial ?_
          refine ge_nil fun a hF => hK9 _ _ ?_ a hF
          by_cases hc6 : (STask.eqb e1 x2) = true
          · rw [if_pos hc6] at h
            refine we_known (t := 44) (b := !(STask.eqb e1 x2)) (v := false) (by kernel_rfl) (congrArg (fun z => !z) hc6) ?_
            refine we_false (by kernel_rfl) ?_
            refine we_skip fun a hF => hK7 _ _ ?_ a hF
            refine we_region [(0, 0), (1, 0)] rfl ?_
            refine ge_addn (d := 45) (ty := 3) (x := (.tmp 17)) (y := (.const (.int .i64 1))) (t := 3) (t2 := 3) (k := .i64) (m := i1) (by kernel_rfl) (by kernel_rfl) (by kernel_rfl) (by have h0 := hR0.small; omega) ?_
            refine ge_batch [1] (ans := []) (vs := [(17, .int .i64 ((i1 + 1 : Nat) : Int))]) (l := []) (by kernel_rfl) trivial ?_
            have hS6 := hS5.bring 1 rfl
            have hS7 := hS6.takeN 1
            obtain rfl := Option.some.inj h
            exact ge_nil fun a hF => hQ _ _ _ (Outs.again ⟨hS7, hF.weaken ⟨by kernel_rfl, by kernel_rfl, by kernel_rfl, by kernel_rfl, by kernel_rfl, trivial⟩⟩)
          · rw [if_neg hc6] at h
            refine we_known (t := 44) (b := !(STask.eqb e1 x2)) (v := true) (by kernel_rfl) (congrArg (fun z => !z) (Bool.eq_false_iff.2 hc6)) ?_
            refine we_true (by kernel_rfl) ?_
            refine we_seq fun K10 hK10 => ?_
            refine we_region [(0, 0)] rfl ?_
            refine ge_batch [0] (ans := []) (vs := [(6, .bool false)]) (l := []) (by kernel_rfl) trivial ?_
            refine ge_nil fun a hF => hK10 _ _ ?_ a hF
            have hS8 := hS5.takeN 0
            obtain rfl := Option.some.inj h
            exact we_ret fun a hF => hQ _ _ _ (Outs.out nofun (Exits.on ⟨rfl, (post_ret (rs := [.tmp 6]) (ans := []) (vs := [.bool false]) (l := []) rfl (by kernel_rfl) trivial ⟨rfl, hS8⟩) a hF⟩))
        · rw [if_neg hc5] at h
          refine ge_known (t := 39) (b := decide ((i1 : Int) ≥ (l1.length : Int))) (c := false) (by kernel_rfl) (decide_eq_false hc5) ?_
          refine ge_batch [18, 19, 20, 21, 22] (ans := []) (vs := [(44, .bool false), (43, .bool false), (42, undef), (41, undef), (40, undef)]) (l := []) (by kernel_rfl) trivial ?_
          refine ge_nil fun a hF => hK9 _ _ ?_ a hF
          refine we_false (by kernel_rfl) ?_
          refine we_skip fun a hF => hK7 _ _ ?_ a hF
          refine we_region [(0, 0), (1, 0)] rfl ?_
          refine ge_addn (d := 45) (ty := 3) (x := (.tmp 17)) (y := (.const (.int .i64 1))) (t := 3) (t2 := 3) (k := .i64) (m := i1) (by kernel_rfl) (by kernel_rfl) (by kernel_rfl) (by have h0 := hR0.small; omega) ?_
          refine ge_batch [1] (ans := []) (vs := [(17, .int .i64 ((i1 + 1 : Nat) : Int))]) (l := []) (by kernel_rfl) trivial ?_
          have hS9 := hS5.bring 1 rfl
          have hS10 := hS9.takeN 1
          obtain rfl := Option.some.inj h
          exact ge_nil fun a hF => hQ _ _ _ (Outs.again ⟨hS10, hF.weaken ⟨by kernel_rfl, by kernel_rfl, by kernel_rfl, by kernel_rfl, by kernel_rfl, trivial⟩⟩)
      · rw [if_neg hc4] at h
        refine ge_known (t := 34) (b := !(STask.eqb e1 e2)) (c := true) (by kernel_rfl) (congrArg (fun z => !z) (Bool.eq_false_iff.2 hc4)) ?_
        refine ge_batch [13, 14, 15, 16, 17, 18, 19, 20, 21, 22] (ans := []) (vs := [(44, .bool true), (43, undef), (42, undef), (41, undef), (40, undef), (39, undef), (38, undef), (37, undef), (36, undef), (35, undef)]) (l := []) (by kernel_rfl) trivial ?_
        refine ge_nil fun a hF => hK9 _ _ ?_ a hF
        refine we_true (by kernel_rfl) ?_
        refine we_seq fun K11 hK11 => ?_
        refine we_region [(0, 0)] rfl ?_
        refine ge_batch [0] (ans := []) (vs := [(6, .bool false)]) (l := []) (by kernel_rfl) trivial ?_
        refine ge_nil fun a hF => hK11 _ _ ?_ a hF
        have hS11 := hS5.takeN 0
        obtain rfl := Option.some.inj h
        exact we_ret fun a hF => hQ _ _ _ (Outs.out nofun (Exits.on ⟨rfl, (post_ret (rs := [.tmp 6]) (ans := []) (vs := [.bool false]) (l := []) rfl (by kernel_rfl) trivial ⟨rfl, hS11⟩) a hF⟩))
    · rw [if_neg hc3] at h
      refine ge_known (t := 26) (b := decide ((i1 : Int) < (l1.length : Int))) (c := false) (by kernel_rfl) (decide_eq_false hc3) ?_
      refine ge_batch [5, 6, 7, 8, 9, 10, 11, 12, 13, 14, 15, 16, 17] (ans := []) (vs := [(39, .bool (decide ((i1 : Int) ≥ (l1.length : Int)))), (38, .bool (decide ((i1 : Int) ≥ (l1.length : Int)))), (37, .int .i64 (l1.length : Int)), (36, .slice A1 l1.length c1), (35, .int .i64 (i1 : Int)), (34, .bool false), (33, .bool false), (32, undef), (31, undef), (30, undef), (29, undef), (28, undef), (27, undef)]) (l := []) (by kernel_rfl) trivial ?_
      by_cases hc7 : (i1 : Int) ≥ (l1.length : Int)
      · rw [if_pos hc7] at h
        refine ge_known (t := 39) (b := decide ((i1 : Int) ≥ (l1.length : Int))) (c := true) (by kernel_rfl) (decide_eq_true hc7) ?_
        refine ge_batch [18, 19] (ans := [.val (.string e1.Name), .val (.int .i64 e1.C), .val (.int .i64 e1.T), .val (.int .i64 e1.D), .val (.int .i64 e1.J), .val (.int .i64 e1.O), .val (.int .i64 e1.P), .val (.string x2.Name), .val (.int .i64 x2.C), .val (.int .i64 x2.T), .val (.int .i64 x2.D), .val (.int .i64 x2.J), .val (.int .i64 x2.O), .val (.int .i64 x2.P)]) (vs := [(41, .agg #[.string x2.Name, .int .i64 x2.C, .int .i64 x2.T, .int .i64 x2.D, .int .i64 x2.J, .int .i64 x2.O, .int .i64 x2.P]), (40, .agg #[.string e1.Name, .int .i64 e1.C, .int .i64 e1.T, .int .i64 e1.D, .int .i64 e1.J, .int .i64 e1.O, .int .i64 e1.P])]) (l := [.loaded ⟨b2, 0, none⟩ (.string e1.Name), .loaded ⟨b2, 1, none⟩ (.int .i64 e1.C), .loaded ⟨b2, 2, none⟩ (.int .i64 e1.T), .loaded ⟨b2, 3, none⟩ (.int .i64 e1.D), .loaded ⟨b2, 4, none⟩ (.int .i64 e1.J), .loaded ⟨b2, 5, none⟩ (.int .i64 e1.O), .loaded ⟨b2, 6, none⟩ (.int .i64 e1.P), .loaded ⟨b1, 0, none⟩ (.string x2.Name), .loaded ⟨b1, 1, none⟩ (.int .i64 x2.C), .loaded ⟨b1, 2, none⟩ (.int .i64 x2.T), .loaded ⟨b1, 3, none⟩ (.int .i64 x2.D), .loaded ⟨b1, 4, none⟩ (.int .i64 x2.J), .loaded ⟨b1, 5, none⟩ (.int .i64 x2.O), .loaded ⟨b1, 6, none⟩ (.int .i64 x2.P)]) (by kernel_rfl) ⟨hS5.cell 0 rfl rfl, hS5.cell 0 rfl rfl, hS5.cell 0 rfl rfl, hS5.cell 0 rfl rfl, hS5.cell 0 rfl rfl, hS5.cell 0 rfl rfl, hS5.cell 0 rfl rfl, hS5.cell 1 rfl rfl, hS5.cell 1 rfl rfl, hS5.cell 1 rfl rfl, hS5.cell 1 rfl rfl, hS5.cell 1 rfl rfl, hS5.cell 1 rfl rfl, hS5.cell 1 rfl rfl, trivial⟩ ?_
        refine ge_eqs (d := 42) (ty := 4) (op := .neq) (x := (.tmp 40)) (y := (.tmp 41)) (t := 46) (t2 := 46) (xs := #[.string e1.Name, .int .i64 e1.C, .int .i64 e1.T, .int .i64 e1.D, .int .i64 e1.J, .int .i64 e1.O, .int .i64 e1.P]) (ys := #[.string x2.Name, .int .i64 x2.C, .int .i64 x2.T, .int .i64 x2.D, .int .i64 x2.J, .int .i64 x2.O, .int .i64 x2.P]) (r := (STask.eqb e1 x2)) (v := !(STask.eqb e1 x2)) (by kernel_rfl) (by kernel_rfl) (by kernel_rfl) (by kernel_rfl) (by kernel_rfl) rfl ?_
        refine ge_batch [21, 22] (ans := []) (vs := [(44, .bool (!(STask.eqb e1 x2))), (43, .bool (!(STask.eqb e1 x2)))]) (l := []) (by kernel_rfl) trivial ?_
        refine ge_nil fun a hF => hK9 _ _ ?_ a hF
        by_cases hc8 : (STask.eqb e1 x2) = true
        · rw [if_pos hc8] at h
          refine we_known (t := 44) (b := !(STask.eqb e1 x2)) (v := false) (by kernel_rfl) (congrArg (fun z => !z) hc8) ?_
          refine we_false (by kernel_rfl) ?_
          refine we_skip fun a hF => hK7 _ _ ?_ a hF
          refine we_region [(0, 0), (1, 0)] rfl ?_
          refine ge_addn (d := 45) (ty := 3) (x := (.tmp 17)) (y := (.const (.int .i64 1))) (t := 3) (t2 := 3) (k := .i64) (m := i1) (by kernel_rfl) (by kernel_rfl) (by kernel_rfl) (by have h0 := hR0.small; omega) ?_
          refine ge_batch [1] (ans := []) (vs := [(17, .int .i64 ((i1 + 1 : Nat) : Int))]) (l := []) (by kernel_rfl) trivial ?_
          have hS12 := hS5.bring 1 rfl
          have hS13 := hS12.takeN 1
          obtain rfl := Option.some.inj h
          exact ge_nil fun a hF => hQ _ _ _ (Outs.again ⟨hS13, hF.weaken ⟨by kernel_rfl, by kernel_rfl, by kernel_rfl, by kernel_rfl, by kernel_rfl, trivial⟩⟩)
        · rw [if_neg hc8] at h
          refine we_known (t := 44) (b := !(STask.eqb e1 x2)) (v := true) (by kernel_rfl) (congrArg (fun z => !z) (Bool.eq_false_iff.2 hc8)) ?_
          refine we_true (by kernel_rfl) ?_
          refine we_seq fun K12 hK12 => ?_
          refine we_region [(0, 0)] rfl ?_
          refine ge_batch [0] (ans := []) (vs := [(6, .bool false)]) (l := []) (by kernel_rfl) trivial ?_
          refine ge_nil fun a hF => hK12 _ _ ?_ a hF
          have hS14 := hS5.takeN 0
          obtain rfl := Option.some.inj h
          exact we_ret fun a hF => hQ _ _ _ (Outs.out nofun (Exits.on ⟨rfl, (post_ret (rs := [.tmp 6]) (ans := []) (vs := [.bool false]) (l := []) rfl (by kernel_rfl) trivial ⟨rfl, hS14⟩) a hF⟩))
      · rw [if_neg hc7] at h
        refine ge_known (t := 39) (b := decide ((i1 : Int) ≥ (l1.length : Int))) (c := false) (by kernel_rfl) (decide_eq_false hc7) ?_
        refine ge_batch [18, 19, 20, 21, 22] (ans := []) (vs := [(44, .bool false), (43, .bool false), (42, undef), (41, undef), (40, undef)]) (l := []) (by kernel_rfl) trivial ?_
        refine ge_nil fun a hF => hK9 _ _ ?_ a hF
        refine we_false (by kernel_rfl) ?_
        refine we_skip fun a hF => hK7 _ _ ?_ a hF
        refine we_region [(0, 0), (1, 0)] rfl ?_
        refine ge_addn (d := 45) (ty := 3) (x := (.tmp 17)) (y := (.const (.int .i64 1))) (t := 3) (t2 := 3) (k := .i64) (m := i1) (by kernel_rfl) (by kernel_rfl) (by kernel_rfl) (by have h0 := hR0.small; omega) ?_
        refine ge_batch [1] (ans := []) (vs := [(17, .int .i64 ((i1 + 1 : Nat) : Int))]) (l := []) (by kernel_rfl) trivial ?_
        have hS15 := hS5.bring 1 rfl
        have hS16 := hS15.takeN 1
        obtain rfl := Option.some.inj h
        exact ge_nil fun a hF => hQ _ _ _ (Outs.again ⟨hS16, hF.weaken ⟨by kernel_rfl, by kernel_rfl, by kernel_rfl, by kernel_rfl, by kernel_rfl, trivial⟩⟩)
  · rw [if_neg hc2] at h
    refine we_known (t := 18) (b := decide ((i1 : Int) < (f0.length : Int))) (v := false) (by kernel_rfl) (decide_eq_false hc2) ?_
    refine we_false (by kernel_rfl) ?_
    have hS17 := hS.takeN 0
    obtain rfl := Option.some.inj h
    exact we_exit fun a hF => hQ _ _ _ (Outs.out nofun (Exits.here ⟨hS17, hF.weaken trivial⟩))
theorem punctualsame_Still_api_Task_ok (K : Nat) (f0 : List STask) (A0 : Option Addr) (n0 : Nat) (c0 : Nat) (l1 : List STask) (A1 : Option Addr) (c1 : Nat) (x2 : STask) (w0 : World) (hR0 : RdL w0 A0 f0) (hc0 : f0.length ≤ c0) (hR1 : RdL w0 A1 l1) (hL1 : l1.length ≤ c1) (r : Bool) (h : punctualsame_Still_api_Task.f K f0 l1 x2 = some r) :
    Calls Tryd.prog 24 #[.slice A0 n0 c0, .slice A1 l1.length c1, .agg #[.string x2.Name, .int .i64 x2.C, .int .i64 x2.T, .int .i64 x2.D, .int .i64 x2.J, .int .i64 x2.O, .int .i64 x2.P]] w0 (punctualsame_Still_api_Task.Post w0 r) := by
  have hS := St.start w0
  unfold punctualsame_Still_api_Task.f at h
  refine calls_enter (n := 46) (args := [.slice A0 n0 c0, .slice A1 l1.length c1, .agg #[.string x2.Name, .int .i64 x2.C, .int .i64 x2.T, .int .i64 x2.D, .int .i64 x2.J, .int .i64 x2.O, .int .i64 x2.P]]) (fn := Tryd.f24) rfl rfl rfl rfl ?_
  show WE _ _ _ _ [(0, .slice A0 n0 c0), (1, .slice A1 l1.length c1), (2, .agg #[.string x2.Name, .int .i64 x2.C, .int .i64 x2.T, .int .i64 x2.D, .int .i64 x2.J, .int .i64 x2.O, .int .i64 x2.P])] _
  refine we_seq fun K1 hK1 => ?_
  refine we_region [(0, 1), (1, 0)] rfl ?_
  refine ge_new (d := some 5) (o := .cells #[.string x2.Name, .int .i64 x2.C, .int .i64 x2.T, .int .i64 x2.D, .int .i64 x2.J, .int .i64 x2.O, .int .i64 x2.P] 46) (v := fun b => .pointer (some ⟨b, 0, none⟩)) hS (fun b => by kernel_rfl) fun b1 w1 hx1 hS1 => ?_
  refine ge_batch [1] (ans := []) (vs := [(6, .bool false)]) (l := []) (by kernel_rfl) trivial ?_
  refine ge_nil fun a hF => hK1 _ _ ?_ a hF
  refine we_seq fun K2 hK2 => ?_
  refine we_region [(0, 0), (1, 0), (2, 0), (3, 0), (4, 0), (5, 0)] rfl ?_
  refine ge_batch [0, 1, 2, 3] (ans := []) (vs := [(13, .int .i64 (IntKind.i64.wrap ((l1.length : Int) + 3))), (12, .int .i64 (l1.length : Int)), (11, .slice A1 l1.length c1), (10, .slice A0 n0 c0)]) (l := []) (by kernel_rfl) trivial ?_
  by_cases hc1 : (IntKind.i64.wrap ((l1.length : Int) + 3)) = (f0.length : Int)
  · rw [if_pos hc1] at h
    refine ge_sliceHi (d := 14) (ty := 40) (t := 40) (el := 46) (sz := 7) (m := n0) (c := c0) (hn := f0.length) (x := (.tmp 10)) (y := (.tmp 13)) (A := A0) (k' := .i64) (hi := (IntKind.i64.wrap ((l1.length : Int) + 3))) (by kernel_rfl) (by kernel_rfl) (by kernel_rfl) hc1 (by kernel_rfl) (by kernel_rfl) hc0 ?_
    refine ge_batch [5] (ans := []) (vs := [(7, .slice A0 f0.length c0)]) (l := []) (by kernel_rfl) trivial ?_
    refine ge_nil fun a hF => hK2 _ _ ?_ a hF
    refine we_seq fun K3 hK3 => ?_
    refine we_seq fun K4 hK4 => ?_
    refine we_region [(0, 0), (1, 0), (2, 0)] rfl ?_
    refine ge_batch [0, 1, 2] (ans := []) (vs := [(17, .int .i64 0), (16, .int .i64 (f0.length : Int)), (15, .slice A0 f0.length c0)]) (l := []) (by kernel_rfl) trivial ?_
    refine ge_nil fun a hF => hK4 _ _ ?_ a hF
    refine we_block ?_
    rcases hq1 : iter (punctualsame_Still_api_Task.r0 f0 l1 x2) K 0 with _ | (_ | rr1)
    · rw [hq1] at h; cases h
    · rw [hq1] at h
      simp only [] at h
      refine we_iter (A := punctualsame_Still_api_Task.A0 K w0 f0 A0 n0 c0 l1 A1 c1 x2 hR0 hc0 hR1 hL1 b1 hc1) (B := punctualsame_Still_api_Task.B0 K w0 f0 A0 n0 c0 l1 A1 c1 x2 hR0 hc0 hR1 hL1 b1 hc1) hq1 (fun a hF => ⟨hS1, hF.weaken ⟨by kernel_rfl, by kernel_rfl, by kernel_rfl, by kernel_rfl, by kernel_rfl, trivial⟩⟩) (fun s o hf a w hA Q hQ => punctualsame_Still_api_Task_r0 K w0 f0 A0 n0 c0 l1 A1 c1 x2 hR0 hc0 hR1 hL1 b1 hc1 s o hf a w hA Q hQ) ?_
      rintro _ a w4 _ ⟨rfl, hS18, hF⟩
      replace hS18 : St w0 w4 [] := hS18
      refine hK3 [] w4 ?_ a hF
      refine we_seq fun K13 hK13 => ?_
      refine we_region [(0, 0)] rfl ?_
      refine ge_batch [0] (ans := []) (vs := [(6, .bool true)]) (l := []) (by kernel_rfl) trivial ?_
      refine ge_nil fun a hF => hK13 _ _ ?_ a hF
      obtain rfl := Option.some.inj h
      exact we_ret (post_ret (rs := [.tmp 6]) (ans := []) (vs := [.bool true]) (l := []) rfl (by kernel_rfl) trivial ⟨rfl, hS18⟩)
    · rw [hq1] at h
      simp only [] at h
      refine we_iter (A := punctualsame_Still_api_Task.A0 K w0 f0 A0 n0 c0 l1 A1 c1 x2 hR0 hc0 hR1 hL1 b1 hc1) (B := punctualsame_Still_api_Task.B0 K w0 f0 A0 n0 c0 l1 A1 c1 x2 hR0 hc0 hR1 hL1 b1 hc1) hq1 (fun a hF => ⟨hS1, hF.weaken ⟨by kernel_rfl, by kernel_rfl, by kernel_rfl, by kernel_rfl, by kernel_rfl, trivial⟩⟩) (fun s o hf a w hA Q hQ => punctualsame_Still_api_Task_r0 K w0 f0 A0 n0 c0 l1 A1 c1 x2 hR0 hc0 hR1 hL1 b1 hc1 s o hf a w hA Q hQ) ?_
      rintro _ a w1 _ ⟨rfl, hb⟩
      obtain rfl := Option.some.inj h
      exact hb
  · rw [if_neg hc1] at h
    cases h

/-! punctual/punctualsame.Still[int] -/
abbrev punctualsame_Still_int.Post (w0 : World) (r : Bool) (e : Ending) (w : World) : Prop := e = .returned (.bool r) ∧ St w0 w []
def punctualsame_Still_int.r0 (f0 : List Int) (l1 : List Int) (x2 : Int) : Nat → Option (Nat ⊕ (Unit ⊕ Bool))
  | i1 =>
    if (i1 : Int) < (f0.length : Int) then
      match f0[i1]? with
      | none => none
      | some e1 =>
        if (i1 : Int) < (l1.length : Int) then
          match l1[i1]? with
          | none => none
          | some e2 =>
            if e1 = e2 then
              if (i1 : Int) ≥ (l1.length : Int) then
                if e1 = x2 then
                  some (.inl (i1 + 1))
                else
                  some (.inr (.inr false))
              else
                some (.inl (i1 + 1))
            else
              some (.inr (.inr false))
        else
          if (i1 : Int) ≥ (l1.length : Int) then
            if e1 = x2 then
              some (.inl (i1 + 1))
            else
              some (.inr (.inr false))
          else
            some (.inl (i1 + 1))
    else
      some (.inr (.inl ()))
def punctualsame_Still_int.f (K : Nat) (f0 : List Int) (l1 : List Int) (x2 : Int) : Option Bool :=
  if (IntKind.i64.wrap ((l1.length : Int) + 3)) = (f0.length : Int) then
    match iter (punctualsame_Still_int.r0 f0 l1 x2) K 0 with
    | none => none
    | some (.inl _) =>
      some true
    | some (.inr rr1) =>
      some rr1
  else
    none
abbrev punctualsame_Still_int.A0 (K : Nat) (w0 : World) (f0 : List Int) (A0 : Option Addr) (n0 : Nat) (c0 : Nat) (l1 : List Int) (A1 : Option Addr) (c1 : Nat) (x2 : Int) (hR0 : RdL w0 A0 f0) (hc0 : f0.length ≤ c0) (hR1 : RdL w0 A1 l1) (hL1 : l1.length ≤ c1) (hc1 : (IntKind.i64.wrap ((l1.length : Int) + 3)) = (f0.length : Int)) : Nat → Act → World → Prop := fun (s : Nat) a w => St w0 w [] ∧ Frm 46 a [(1, .slice A1 l1.length c1), (2, .int .i64 x2), (15, .slice A0 f0.length c0), (16, .int .i64 (f0.length : Int)), (17, .int .i64 (s : Int))]
abbrev punctualsame_Still_int.B0 (K : Nat) (w0 : World) (f0 : List Int) (A0 : Option Addr) (n0 : Nat) (c0 : Nat) (l1 : List Int) (A1 : Option Addr) (c1 : Nat) (x2 : Int) (hR0 : RdL w0 A0 f0) (hc0 : f0.length ≤ c0) (hR1 : RdL w0 A1 l1) (hL1 : l1.length ≤ c1) (hc1 : (IntKind.i64.wrap ((l1.length : Int) + 3)) = (f0.length : Int)) : (Unit ⊕ Bool) → Exit → Act → World → Prop := Exits 0 (fun (s : Unit) a w => St w0 w [] ∧ Frm 46 a []) (Rets Tryd.prog Tryd.f18 (punctualsame_Still_int.Post w0))
theorem punctualsame_Still_int_r0 (K : Nat) (w0 : World) (f0 : List Int) (A0 : Option Addr) (n0 : Nat) (c0 : Nat) (l1 : List Int) (A1 : Option Addr) (c1 : Nat) (x2 : Int) (hR0 : RdL w0 A0 f0) (hc0 : f0.length ≤ c0) (hR1 : RdL w0 A1 l1) (hL1 : l1.length ≤ c1) (hc1 : (IntKind.i64.wrap ((l1.length : Int) + 3)) = (f0.length : Int)) (s : Nat) (o : Nat ⊕ (Unit ⊕ Bool)) (h : punctualsame_Still_int.r0 f0 l1 x2 s = some o) (a : Act) (w : World) (hA : punctualsame_Still_int.A0 K w0 f0 A0 n0 c0 l1 A1 c1 x2 hR0 hc0 hR1 hL1 hc1 s a w) (Q : Exit → Act → World → Prop) (hQ : ∀ x a w, Outs (punctualsame_Still_int.A0 K w0 f0 A0 n0 c0 l1 A1 c1 x2 hR0 hc0 hR1 hL1 hc1) (punctualsame_Still_int.B0 K w0 f0 A0 n0 c0 l1 A1 c1 x2 hR0 hc0 hR1 hL1 hc1) o x a w → Q x a w) : (subF Tryd.f18 [1, 1, 0, 1, 0, 0]).wp Tryd.prog Q a w := by
  obtain ⟨i1, hs⟩ : ∃ z, z = s := ⟨s, rfl⟩
  subst hs
  obtain ⟨hS, hF⟩ := hA
  replace hS : St w0 w [] := hS
  simp only [punctualsame_Still_int.r0] at h
  refine (?_ : WE Tryd.prog 46 (subF Tryd.f18 [1, 1, 0, 1, 0, 0]) Q [(1, .slice A1 l1.length c1), (2, .int .i64 x2), (15, .slice A0 f0.length c0), (16, .int .i64 (f0.length : Int)), (17, .int .i64 (i1 : Int))] w) a hF
  clear hF a
  refine we_seq fun K5 hK5 => ?_
  refine we_region [(0, 0)] rfl ?_
  refine ge_batch [0] (ans := []) (vs := [(18, .bool (decide ((i1 : Int) < (f0.length : Int))))]) (l := []) (by kernel_rfl) trivial ?_
  refine ge_nil fun a hF => hK5 _ _ ?_ a hF
  refine we_seq fun K6 hK6 => ?_
  by_cases hc2 : (i1 : Int) < (f0.length : Int)
  · rw [if_pos hc2] at h
    refine we_known (t := 18) (b := decide ((i1 : Int) < (f0.length : Int))) (v := true) (by kernel_rfl) (decide_eq_true hc2) ?_
    refine we_true (by kernel_rfl) ?_
    refine we_skip fun a hF => hK6 _ _ ?_ a hF
    refine we_seq fun K7 hK7 => ?_
    refine we_block ?_
    refine we_seq fun K8 hK8 => ?_
    refine we_region [(0, 0), (1, 0), (2, 0), (3, 0), (4, 0)] rfl ?_
    refine ge_batch [0] (ans := []) (vs := [(19, .int .i64 (i1 : Int))]) (l := []) (by kernel_rfl) trivial ?_
    rcases hx1 : f0[i1]? with _ | e1
    · rw [hx1] at h; cases h
    rw [hx1] at h
    simp only [] at h
    refine ge_index (d := 20) (ty := 0) (t := 23) (el := 3) (sz := 1) (m := f0.length) (c := c0) (x := (.tmp 15)) (y := (.tmp 17)) (A := A0) (k' := .i64) (j := (i1 : Int)) (jn := i1) (b0 := blkOf A0) (o0 := offOf A0) (by kernel_rfl) (by kernel_rfl) (by kernel_rfl) (by kernel_rfl) (by kernel_rfl) ((hS.rd hR0).eqSome (pos_of_get hx1)) rfl (lt_of_get hx1) ?_
    refine ge_batch [2, 3, 4] (ans := [.val (.int .i64 e1)]) (vs := [(9, .int .i64 e1), (8, .int .i64 (i1 : Int)), (21, .int .i64 e1)]) (l := [.loaded ⟨blkOf A0, offOf A0 + i1 * 1, none⟩ (.int .i64 e1)]) (by kernel_rfl) ⟨RdL.cell (j := 0) (hS.rd hR0) hx1 rfl, trivial⟩ ?_
    refine ge_nil fun a hF => hK8 _ _ ?_ a hF
    refine we_seq fun K9 hK9 => ?_
    refine we_region [(0, 0), (1, 0), (2, 0), (3, 0), (4, 0), (5, 0), (6, 0), (7, 0), (8, 0), (9, 0), (10, 0), (11, 0), (12, 0), (13, 0), (14, 0), (15, 0), (16, 0), (17, 0), (18, 0), (19, 0), (20, 0), (21, 0), (22, 0)] rfl ?_
    refine ge_batch [0, 1, 2, 3, 4] (ans := []) (vs := [(26, .bool (decide ((i1 : Int) < (l1.length : Int)))), (25, .bool (decide ((i1 : Int) < (l1.length : Int)))), (24, .int .i64 (l1.length : Int)), (23, .slice A1 l1.length c1), (22, .int .i64 (i1 : Int))]) (l := []) (by kernel_rfl) trivial ?_
    by_cases hc3 : (i1 : Int) < (l1.length : Int)
    · rw [if_pos hc3] at h
      refine ge_known (t := 26) (b := decide ((i1 : Int) < (l1.length : Int))) (c := true) (by kernel_rfl) (decide_eq_true hc3) ?_
      refine ge_batch [5, 6, 7] (ans := []) (vs := [(29, .int .i64 (i1 : Int)), (28, .slice A1 l1.length c1), (27, .int .i64 e1)]) (l := []) (by kernel_rfl) trivial ?_
      rcases hx2 : l1[i1]? with _ | e2
      · rw [hx2] at h; cases h
      rw [hx2] at h
      simp only [] at h
      refine ge_index (d := 30) (ty := 0) (t := 23) (el := 3) (sz := 1) (m := l1.length) (c := c1) (x := (.tmp 28)) (y := (.tmp 29)) (A := A1) (k' := .i64) (j := (i1 : Int)) (jn := i1) (b0 := blkOf A1) (o0 := offOf A1) (by kernel_rfl) (by kernel_rfl) (by kernel_rfl) (by kernel_rfl) (by kernel_rfl) ((hS.rd hR1).eqSome (pos_of_get hx2)) rfl (lt_of_get hx2) ?_
      refine ge_batch [9, 10, 11, 12] (ans := [.val (.int .i64 e2)]) (vs := [(34, .bool (e1 != e2)), (33, .bool (e1 != e2)), (32, .bool (e1 != e2)), (31, .int .i64 e2)]) (l := [.loaded ⟨blkOf A1, offOf A1 + i1 * 1, none⟩ (.int .i64 e2)]) (by kernel_rfl) ⟨RdL.cell (j := 0) (hS.rd hR1) hx2 rfl, trivial⟩ ?_
      by_cases hc4 : e1 = e2
      · rw [if_pos hc4] at h
        refine ge_known (t := 34) (b := (e1 != e2)) (c := false) (by kernel_rfl) (bne_eq_false_iff_eq.2 hc4) ?_
        refine ge_batch [13, 14, 15, 16, 17] (ans := []) (vs := [(39, .bool (decide ((i1 : Int) ≥ (l1.length : Int)))), (38, .bool (decide ((i1 : Int) ≥ (l1.length : Int)))), (37, .int .i64 (l1.length : Int)), (36, .slice A1 l1.length c1), (35, .int .i64 (i1 : Int))]) (l := []) (by kernel_rfl) trivial ?_
        by_cases hc5 : (i1 : Int) ≥ (l1.length : Int)
        · rw [if_pos hc5] at h
          refine ge_known (t := 39) (b := decide ((i1 : Int) ≥ (l1.length : Int))) (c := true) (by kernel_rfl) (decide_eq_true hc5) ?_
          refine ge_batch [18, 19, 20, 21, 22] (ans := []) (vs := [(44, .bool (e1 != x2)), (43, .bool (e1 != x2)), (42, .bool (e1 != x2)), (41, .int .i64 x2), (40, .int .i64 e1)]) (l := []) (by kernel_rfl) trivial ?_
          refine ge_nil fun a hF => hK9 _ _ ?_ a hF
          by_cases hc6 : e1 = x2
          · rw [if_pos hc6] at h
            refine we_known (t := 44) (b := (e1 != x2)) (v := false) (by kernel_rfl) (bne_eq_false_iff_eq.2 hc6) ?_
            refine we_false (by kernel_rfl) ?_
            refine we_skip fun a hF => hK7 _ _ ?_ a hF
            refine we_region [(0, 0), (1, 0)] rfl ?_
            refine ge_addn (d := 45) (ty := 3) (x := (.tmp 17)) (y := (.const (.int .i64 1))) (t := 3) (t2 := 3) (k := .i64) (m := i1) (by kernel_rfl) (by kernel_rfl) (by kernel_rfl) (by have h0 := hR0.small; omega) ?_
            refine ge_batch [1] (ans := []) (vs := [(17, .int .i64 ((i1 + 1 : Nat) : Int))]) (l := []) (by kernel_rfl) trivial ?_
            obtain rfl := Option.some.inj h
            exact ge_nil fun a hF => hQ _ _ _ (Outs.again ⟨hS, hF.weaken ⟨by kernel_rfl, by kernel_rfl, by kernel_rfl, by kernel_rfl, by kernel_rfl, trivial⟩⟩)
          · rw [if_neg hc6] at h
            refine we_known (t := 44) (b := (e1 != x2)) (v := true) (by kernel_rfl) (bne_iff_ne.2 hc6) ?_
            refine we_true (by kernel_rfl) ?_
            refine we_seq fun K10 hK10 => ?_
            refine we_region [(0, 0)] rfl ?_
            refine ge_batch [0] (ans := []) (vs := [(6, .bool false)]) (l := []) (by kernel_rfl) trivial ?_
            refine ge_nil fun a hF => hK10 _ _ ?_ a hF
            obtain rfl := Option.some.inj h
            exact we_ret fun a hF => hQ _ _ _ (Outs.out nofun (Exits.on ⟨rfl, (post_ret (rs := [.tmp 6]) (ans := []) (vs := [.bool false]) (l := []) rfl (by kernel_rfl) trivial ⟨rfl, hS⟩) a hF⟩))
        · rw [if_neg hc5] at h
          refine ge_known (t := 39) (b := decide ((i1 : Int) ≥ (l1.length : Int))) (c := false) (by kernel_rfl) (decide_eq_false hc5) ?_
          refine ge_batch [18, 19, 20, 21, 22] (ans := []) (vs := [(44, .bool false), (43, .bool false), (42, undef), (41, undef), (40, undef)]) (l := []) (by kernel_rfl) trivial ?_
          refine ge_nil fun a hF => hK9 _ _ ?_ a hF
          refine we_false (by kernel_rfl) ?_
          refine we_skip fun a hF => hK7 _ _ ?_ a hF
          refine we_region [(0, 0), (1, 0)] rfl ?_
          refine ge_addn (d := 45) (ty := 3) (x := (.tmp 17)) (y := (.const (.int .i64 1))) (t := 3) (t2 := 3) (k := .i64) (m := i1) (by kernel_rfl) (by kernel_rfl) (by kernel_rfl) (by have h0 := hR0.small; omega) ?_
          refine ge_batch [1] (ans := []) (vs := [(17, .int .i64 ((i1 + 1 : Nat) : Int))]) (l := []) (by kernel_rfl) trivial ?_
          obtain rfl := Option.some.inj h
          exact ge_nil fun a hF => hQ _ _ _ (Outs.again ⟨hS, hF.weaken ⟨by kernel_rfl, by kernel_rfl, by kernel_rfl, by kernel_rfl, by kernel_rfl, trivial⟩⟩)
      · rw [if_neg hc4] at h
        refine ge_known (t := 34) (b := (e1 != e2)) (c := true) (by kernel_rfl) (bne_iff_ne.2 hc4) ?_
        refine ge_batch [13, 14, 15, 16, 17, 18, 19, 20, 21, 22] (ans := []) (vs := [(44, .bool true), (43, undef), (42, undef), (41, undef), (40, undef), (39, undef), (38, undef), (37, undef), (36, undef), (35, undef)]) (l := []) (by kernel_rfl) trivial ?_
        refine ge_nil fun a hF => hK9 _ _ ?_ a hF
        refine we_true (by kernel_rfl) ?_
        refine we_seq fun K11 hK11 => ?_
        refine we_region [(0, 0)] rfl ?_
        refine ge_batch [0] (ans := []) (vs := [(6, .bool false)]) (l := []) (by kernel_rfl) trivial ?_
        refine ge_nil fun a hF => hK11 _ _ ?_ a hF
        obtain rfl := Option.some.inj h
        exact we_ret fun a hF => hQ _ _ _ (Outs.out nofun (Exits.on ⟨rfl, (post_ret (rs := [.tmp 6]) (ans := []) (vs := [.bool false]) (l := []) rfl (by kernel_rfl) trivial ⟨rfl, hS⟩) a hF⟩))
    · rw [if_neg hc3] at h
      refine ge_known (t := 26) (b := decide ((i1 : Int) < (l1.length : Int))) (c := false) (by kernel_rfl) (decide_eq_false hc3) ?_
      refine ge_batch [5, 6, 7, 8, 9, 10, 11, 12, 13, 14, 15, 16, 17] (ans := []) (vs := [(39, .bool (decide ((i1 : Int) ≥ (l1.length : Int)))), (38, .bool (decide ((i1 : Int) ≥ (l1.length : Int)))), (37, .int .i64 (l1.length : Int)), (36, .slice A1 l1.length c1), (35, .int .i64 (i1 : Int)), (34, .bool false), (33, .bool false), (32, undef), (31, undef), (30, undef), (29, undef), (28, undef), (27, undef)]) (l := []) (by kernel_rfl) trivial ?_
      by_cases hc7 : (i1 : Int) ≥ (l1.length : Int)
      · rw [if_pos hc7] at h
        refine ge_known (t := 39) (b := decide ((i1 : Int) ≥ (l1.length : Int))) (c := true) (by kernel_rfl) (decide_eq_true hc7) ?_
        refine ge_batch [18, 19, 20, 21, 22] (ans := []) (vs := [(44, .bool (e1 != x2)), (43, .bool (e1 != x2)), (42, .bool (e1 != x2)), (41, .int .i64 x2), (40, .int .i64 e1)]) (l := []) (by kernel_rfl) trivial ?_
        refine ge_nil fun a hF => hK9 _ _ ?_ a hF
        by_cases hc8 : e1 = x2
        · rw [if_pos hc8] at h
          refine we_known (t := 44) (b := (e1 != x2)) (v := false) (by kernel_rfl) (bne_eq_false_iff_eq.2 hc8) ?_
          refine we_false (by kernel_rfl) ?_
          refine we_skip fun a hF => hK7 _ _ ?_ a hF
          refine we_region [(0, 0), (1, 0)] rfl ?_
          refine ge_addn (d := 45) (ty := 3) (x := (.tmp 17)) (y := (.const (.int .i64 1))) (t := 3) (t2 := 3) (k := .i64) (m := i1) (by kernel_rfl) (by kernel_rfl) (by kernel_rfl) (by have h0 := hR0.small; omega) ?_
          refine ge_batch [1] (ans := []) (vs := [(17, .int .i64 ((i1 + 1 : Nat) : Int))]) (l := []) (by kernel_rfl) trivial ?_
          obtain rfl := Option.some.inj h
          exact ge_nil fun a hF => hQ _ _ _ (Outs.again ⟨hS, hF.weaken ⟨by kernel_rfl, by kernel_rfl, by kernel_rfl, by kernel_rfl, by kernel_rfl, trivial⟩⟩)
        · rw [if_neg hc8] at h
          refine we_known (t := 44) (b := (e1 != x2)) (v := true) (by kernel_rfl) (bne_iff_ne.2 hc8) ?_
          refine we_true (by kernel_rfl) ?_
          refine we_seq fun K12 hK12 => ?_
          refine we_region [(0, 0)] rfl ?_
          refine ge_batch [0] (ans := []) (vs := [(6, .bool false)]) (l := []) (by kernel_rfl) trivial ?_
          refine ge_nil fun a hF => hK12 _ _ ?_ a hF
          obtain rfl := Option.some.inj h
          exact we_ret fun a hF => hQ _ _ _ (Outs.out nofun (Exits.on ⟨rfl, (post_ret (rs := [.tmp 6]) (ans := []) (vs := [.bool false]) (l := []) rfl (by kernel_rfl) trivial ⟨rfl, hS⟩) a hF⟩))
      · rw [if_neg hc7] at h
        refine ge_known (t := 39) (b := decide ((i1 : Int) ≥ (l1.length : Int))) (c := false) (by kernel_rfl) (decide_eq_false hc7) ?_
        refine ge_batch [18, 19, 20, 21, 22] (ans := []) (vs := [(44, .bool false), (43, .bool false), (42, undef), (41, undef), (40, undef)]) (l := []) (by kernel_rfl) trivial ?_
        refine ge_nil fun a hF => hK9 _ _ ?_ a hF
        refine we_false (by kernel_rfl) ?_
        refine we_skip fun a hF => hK7 _ _ ?_ a hF
        refine we_region [(0, 0), (1, 0)] rfl ?_
        refine ge_addn (d := 45) (ty := 3) (x := (.tmp 17)) (y := (.const (.int .i64 1))) (t := 3) (t2 := 3) (k := .i64) (m := i1) (by kernel_rfl) (by kernel_rfl) (by kernel_rfl) (by have h0 := hR0.small; omega) ?_
        refine ge_batch [1] (ans := []) (vs := [(17, .int .i64 ((i1 + 1 : Nat) : Int))]) (l := []) (by kernel_rfl) trivial ?_
        obtain rfl := Option.some.inj h
        exact ge_nil fun a hF => hQ _ _ _ (Outs.again ⟨hS, hF.weaken ⟨by kernel_rfl, by kernel_rfl, by kernel_rfl, by kernel_rfl, by kernel_rfl, trivial⟩⟩)
  · rw [if_neg hc2] at h
    refine we_known (t := 18) (b := decide ((i1 : Int) < (f0.length : Int))) (v := false) (by kernel_rfl) (decide_eq_false hc2) ?_
    refine we_false (by kernel_rfl) ?_
    obtain rfl := Option.some.inj h
    exact we_exit fun a hF => hQ _ _ _ (Outs.out nofun (Exits.here ⟨hS, hF.weaken trivial⟩))
theorem punctualsame_Still_int_ok (K : Nat) (f0 : List Int) (A0 : Option Addr) (n0 : Nat) (c0 : Nat) (l1 : List Int) (A1 : Option Addr) (c1 : Nat) (x2 : Int) (w0 : World) (hR0 : RdL w0 A0 f0) (hc0 : f0.length ≤ c0) (hR1 : RdL w0 A1 l1) (hL1 : l1.length ≤ c1) (r : Bool) (h : punctualsame_Still_int.f K f0 l1 x2 = some r) :
    Calls Tryd.prog 18 #[.slice A0 n0 c0, .slice A1 l1.length c1, .int .i64 x2] w0 (punctualsame_Still_int.Post w0 r) := by
  have hS := St.start w0
  unfold punctualsame_Still_int.f at h
  refine calls_enter (n := 46) (args := [.slice A0 n0 c0, .slice A1 l1.length c1, .int .i64 x2]) (fn := Tryd.f18) rfl rfl rfl rfl ?_
  show WE _ _ _ _ [(0, .slice A0 n0 c0), (1, .slice A1 l1.length c1), (2, .int .i64 x2)] _
  refine we_seq fun K1 hK1 => ?_
  refine we_region [(0, 0)] rfl ?_
  refine ge_batch [0] (ans := []) (vs := [(6, .bool false)]) (l := []) (by kernel_rfl) trivial ?_
  refine ge_nil fun a hF => hK1 _ _ ?_ a hF
  refine we_seq fun K2 hK2 => ?_
  refine we_region [(0, 0), (1, 0), (2, 0), (3, 0), (4, 0), (5, 0)] rfl ?_
  refine ge_batch [0, 1, 2, 3] (ans := []) (vs := [(13, .int .i64 (IntKind.i64.wrap ((l1.length : Int) + 3))), (12, .int .i64 (l1.length : Int)), (11, .slice A1 l1.length c1), (10, .slice A0 n0 c0)]) (l := []) (by kernel_rfl) trivial ?_
  by_cases hc1 : (IntKind.i64.wrap ((l1.length : Int) + 3)) = (f0.length : Int)
  · rw [if_pos hc1] at h
    refine ge_sliceHi (d := 14) (ty := 23) (t := 23) (el := 3) (sz := 1) (m := n0) (c := c0) (hn := f0.length) (x := (.tmp 10)) (y := (.tmp 13)) (A := A0) (k' := .i64) (hi := (IntKind.i64.wrap ((l1.length : Int) + 3))) (by kernel_rfl) (by kernel_rfl) (by kernel_rfl) hc1 (by kernel_rfl) (by kernel_rfl) hc0 ?_
    refine ge_batch [5] (ans := []) (vs := [(7, .slice A0 f0.length c0)]) (l := []) (by kernel_rfl) trivial ?_
    refine ge_nil fun a hF => hK2 _ _ ?_ a hF
    refine we_seq fun K3 hK3 => ?_
    refine we_seq fun K4 hK4 => ?_
    refine we_region [(0, 0), (1, 0), (2, 0)] rfl ?_
    refine ge_batch [0, 1, 2] (ans := []) (vs := [(17, .int .i64 0), (16, .int .i64 (f0.length : Int)), (15, .slice A0 f0.length c0)]) (l := []) (by kernel_rfl) trivial ?_
    refine ge_nil fun a hF => hK4 _ _ ?_ a hF
    refine we_block ?_
    rcases hq1 : iter (punctualsame_Still_int.r0 f0 l1 x2) K 0 with _ | (_ | rr1)
    · rw [hq1] at h; cases h
    · rw [hq1] at h
      simp only [] at h
      refine we_iter (A := punctualsame_Still_int.A0 K w0 f0 A0 n0 c0 l1 A1 c1 x2 hR0 hc0 hR1 hL1 hc1) (B := punctualsame_Still_int.B0 K w0 f0 A0 n0 c0 l1 A1 c1 x2 hR0 hc0 hR1 hL1 hc1) hq1 (fun a hF => ⟨hS, hF.weaken ⟨by kernel_rfl, by kernel_rfl, by kernel_rfl, by kernel_rfl, by kernel_rfl, trivial⟩⟩) (fun s o hf a w hA Q hQ => punctualsame_Still_int_r0 K w0 f0 A0 n0 c0 l1 A1 c1 x2 hR0 hc0 hR1 hL1 hc1 s o hf a w hA Q hQ) ?_
      rintro _ a w1 _ ⟨rfl, hS1, hF⟩
      replace hS1 : St w0 w1 [] := hS1
      refine hK3 [] w1 ?_ a hF
      refine we_seq fun K13 hK13 => ?_
      refine we_region [(0, 0)] rfl ?_
      refine ge_batch [0] (ans := []) (vs := [(6, .bool true)]) (l := []) (by kernel_rfl) trivial ?_
      refine ge_nil fun a hF => hK13 _ _ ?_ a hF
      obtain rfl := Option.some.inj h
      exact we_ret (post_ret (rs := [.tmp 6]) (ans := []) (vs := [.bool true]) (l := []) rfl (by kernel_rfl) trivial ⟨rfl, hS1⟩)
    · rw [hq1] at h
      simp only [] at h
      refine we_iter (A := punctualsame_Still_int.A0 K w0 f0 A0 n0 c0 l1 A1 c1 x2 hR0 hc0 hR1 hL1 hc1) (B := punctualsame_Still_int.B0 K w0 f0 A0 n0 c0 l1 A1 c1 x2 hR0 hc0 hR1 hL1 hc1) hq1 (fun a hF => ⟨hS, hF.weaken ⟨by kernel_rfl, by kernel_rfl, by kernel_rfl, by kernel_rfl, by kernel_rfl, trivial⟩⟩) (fun s o hf a w hA Q hQ => punctualsame_Still_int_r0 K w0 f0 A0 n0 c0 l1 A1 c1 x2 hR0 hc0 hR1 hL1 hc1 s o hf a w hA Q hQ) ?_
      rintro _ a w1 _ ⟨rfl, hb⟩
      obtain rfl := Option.some.inj h
      exact hb
  · rw [if_neg hc1] at h
    cases h

/-! punctual/punctuallaw.FixedResponds -/
abbrev FixedResponds.Post (w0 : World) (r : Bool) (e : Ending) (w : World) : Prop := e = .returned (.bool r) ∧ St w0 w []
def FixedResponds.p0 (l0 : List STask) (l3 : List Int) : Option (Unit ⊕ Bool) :=
    if (few.f (l0.length : Int)) = true then
      if (few.f (l3.length : Int)) = true then
        some (.inl ())
      else
        some (.inr true)
    else
      some (.inr true)
def FixedResponds.f (K : Nat) (l0 : List STask) (x1 : Int) (x2 : Int) (l3 : List Int) : Option Bool :=
  match responds.f K with
  | none => none
  | some r1 =>
    if r1 = true then
      match FixedResponds.p0 l0 l3 with
      | none => none
      | some (.inl _) =>
        match punctualsame_Lend_api_Task.f l0 (⟨⟨#[63]⟩, (-9), 0, 0, 0, 0, 0⟩ : STask) with
        | none => none
        | some _ =>
          match punctualsame_Lend_int.f l3 (-9) with
          | none => none
          | some _ =>
            match fixed_Response.f K l0 x1 x2 with
            | none => none
            | some r4 =>
              match punctualref_ResponseOf.f K l0 x1 x2 with
              | none => none
              | some r5 =>
                match fixed_Responses.f K l0 l3 with
                | none => none
                | some r6 =>
                  match punctualref_ResponsesOf.f K l0 l3 with
                  | none => none
                  | some r7 =>
                    if r4.1 = r5.1 then
                      if (SFault.eqb r4.2 r5.2) = true then
                        if (SFault.eqb r6.2 r7.2) = true then
                          match punctualsame_Same_int.f K r6.1 r7.1 with
                          | none => none
                          | some r8 =>
                            if r8 = true then
                              match punctualsame_Still_api_Task.f K (l0 ++ [(⟨⟨#[63]⟩, (-9), 0, 0, 0, 0, 0⟩ : STask), (⟨⟨#[63]⟩, (-9), 0, 0, 0, 0, 0⟩ : STask), (⟨⟨#[63]⟩, (-9), 0, 0, 0, 0, 0⟩ : STask)]) l0 (⟨⟨#[63]⟩, (-9), 0, 0, 0, 0, 0⟩ : STask) with
                              | none => none
                              | some r9 =>
                                if r9 = true then
                                  match punctualsame_Still_int.f K (l3 ++ [(-9), (-9), (-9)]) l3 (-9) with
                                  | none => none
                                  | some r10 =>
                                    some r10
                                else
                                  some false
                            else
                              some false
                        else
                          some false
                      else
                        some false
                    else
                      some false
      | some (.inr rr1) =>
        some rr1
    else
      some false
abbrev FixedResponds.A0 (K : Nat) (w0 : World) (l0 : List STask) (A0 : Option Addr) (c0 : Nat) (x1 : Int) (x2 : Int) (l3 : List Int) (A3 : Option Addr) (c3 : Nat) (hR0 : RdL w0 A0 l0) (hL0 : l0.length ≤ c0) (hR3 : RdL w0 A3 l3) (hL3 : l3.length ≤ c3) (hG1 : Glob w0 1 [.string (⟨#[63]⟩), .int .i64 (-9), .int .i64 0, .int .i64 0, .int .i64 0, .int .i64 0, .int .i64 0]) (r1 : Bool) (hc1 : r1 = true) : Unit → Act → World → Prop := fun (s : Unit) a w => St w0 w [] ∧ Frm 91 a [(0, .slice A0 l0.length c0), (1, .int .i64 x1), (2, .int .i64 x2), (3, .slice A3 l3.length c3)]
abbrev FixedResponds.B0 (K : Nat) (w0 : World) (l0 : List STask) (A0 : Option Addr) (c0 : Nat) (x1 : Int) (x2 : Int) (l3 : List Int) (A3 : Option Addr) (c3 : Nat) (hR0 : RdL w0 A0 l0) (hL0 : l0.length ≤ c0) (hR3 : RdL w0 A3 l3) (hL3 : l3.length ≤ c3) (hG1 : Glob w0 1 [.string (⟨#[63]⟩), .int .i64 (-9), .int .i64 0, .int .i64 0, .int .i64 0, .int .i64 0, .int .i64 0]) (r1 : Bool) (hc1 : r1 = true) : Bool → Exit → Act → World → Prop := Rets Tryd.prog Tryd.f7 (FixedResponds.Post w0)
theorem FixedResponds_p0 (K : Nat) (w0 : World) (l0 : List STask) (A0 : Option Addr) (c0 : Nat) (x1 : Int) (x2 : Int) (l3 : List Int) (A3 : Option Addr) (c3 : Nat) (hR0 : RdL w0 A0 l0) (hL0 : l0.length ≤ c0) (hR3 : RdL w0 A3 l3) (hL3 : l3.length ≤ c3) (hG1 : Glob w0 1 [.string (⟨#[63]⟩), .int .i64 (-9), .int .i64 0, .int .i64 0, .int .i64 0, .int .i64 0, .int .i64 0]) (r1 : Bool) (hc1 : r1 = true) (o : Unit ⊕ Bool) (h : FixedResponds.p0 l0 l3 = some o) (w : World) (hS : St w0 w []) (Q : Exit → Act → World → Prop) (hQ : ∀ x a w, Outs (FixedResponds.A0 K w0 l0 A0 c0 x1 x2 l3 A3 c3 hR0 hL0 hR3 hL3 hG1 r1 hc1) (FixedResponds.B0 K w0 l0 A0 c0 x1 x2 l3 A3 c3 hR0 hL0 hR3 hL3 hG1 r1 hc1) o x a w → Q x a w) : WE Tryd.prog 91 (subF Tryd.f7 [1, 1, 0]) Q [(0, .slice A0 l0.length c0), (1, .int .i64 x1), (2, .int .i64 x2), (3, .slice A3 l3.length c3), (8, .bool false), (19, .bool r1), (20, .bool false)] w := by
  simp only [FixedResponds.p0] at h
  refine we_seq fun K5 hK5 => ?_
  refine we_region [(0, 0), (1, 0), (2, 1), (3, 0), (4, 0), (5, 0), (6, 0), (7, 1), (8, 0), (9, 0)] rfl ?_
  refine ge_batch [0, 1] (ans := []) (vs := [(22, .int .i64 (l0.length : Int)), (21, .slice A0 l0.length c0)]) (l := []) (by kernel_rfl) trivial ?_
  refine ge_call (d := some 23) (f := 13) (args := #[.int .i64 (l0.length : Int)]) (by kernel_rfl) (few_ok (l0.length : Int) _ _ rfl) ?_
  rintro _ w2 ⟨rfl, hS3⟩
  refine ⟨_, rfl, hS3.below, ?_⟩
  have hS4 := hS.call hS3
  refine ge_batch [3, 4] (ans := []) (vs := [(25, .bool (!(few.f (l0.length : Int)))), (24, .bool (!(few.f (l0.length : Int))))]) (l := []) (by kernel_rfl) trivial ?_
  by_cases hc2 : (few.f (l0.length : Int)) = true
  · rw [if_pos hc2] at h
    refine ge_known (t := 25) (b := !(few.f (l0.length : Int))) (c := false) (by kernel_rfl) (congrArg (fun z => !z) hc2) ?_
    refine ge_batch [5, 6] (ans := []) (vs := [(27, .int .i64 (l3.length : Int)), (26, .slice A3 l3.length c3)]) (l := []) (by kernel_rfl) trivial ?_
    refine ge_call (d := some 28) (f := 13) (args := #[.int .i64 (l3.length : Int)]) (by kernel_rfl) (few_ok (l3.length : Int) _ _ rfl) ?_
    rintro _ w3 ⟨rfl, hS5⟩
    refine ⟨_, rfl, hS5.below, ?_⟩
    have hS6 := hS4.call hS5
    refine ge_batch [8, 9] (ans := []) (vs := [(30, .bool (!(few.f (l3.length : Int)))), (29, .bool (!(few.f (l3.length : Int))))]) (l := []) (by kernel_rfl) trivial ?_
    refine ge_nil fun a hF => hK5 _ _ ?_ a hF
    by_cases hc3 : (few.f (l3.length : Int)) = true
    · rw [if_pos hc3] at h
      refine we_known (t := 30) (b := !(few.f (l3.length : Int))) (v := false) (by kernel_rfl) (congrArg (fun z => !z) hc3) ?_
      refine we_false (by kernel_rfl) ?_
      obtain rfl := Option.some.inj h
      exact we_skip fun a hF => hQ _ _ _ (Outs.again ⟨hS6, hF.weaken ⟨by kernel_rfl, by kernel_rfl, by kernel_rfl, by kernel_rfl, trivial⟩⟩)
    · rw [if_neg hc3] at h
      refine we_known (t := 30) (b := !(few.f (l3.length : Int))) (v := true) (by kernel_rfl) (congrArg (fun z => !z) (Bool.eq_false_iff.2 hc3)) ?_
      refine we_true (by kernel_rfl) ?_
      refine we_seq fun K6 hK6 => ?_
      refine we_region [(0, 0)] rfl ?_
      refine ge_batch [0] (ans := []) (vs := [(8, .bool true)]) (l := []) (by kernel_rfl) trivial ?_
      refine ge_nil fun a hF => hK6 _ _ ?_ a hF
      obtain rfl := Option.some.inj h
      exact we_ret fun a hF => hQ _ _ _ (Outs.out nofun ⟨rfl, (post_ret (rs := [.tmp 8]) (ans := []) (vs := [.bool true]) (l := []) rfl (by kernel_rfl) trivial ⟨rfl, hS6⟩) a hF⟩)
  · rw [if_neg hc2] at h
    refine ge_known (t := 25) (b := !(few.f (l0.length : Int))) (c := true) (by kernel_rfl) (congrArg (fun z => !z) (Bool.eq_false_iff.2 hc2)) ?_
    refine ge_batch [5, 6] (ans := []) (vs := [(27, undef), (26, undef)]) (l := []) (by kernel_rfl) trivial ?_
    refine ge_off rfl rfl rfl (by kernel_rfl) ?_
    refine ge_batch [8, 9] (ans := []) (vs := [(30, .bool true), (29, undef)]) (l := []) (by kernel_rfl) trivial ?_
    refine ge_nil fun a hF => hK5 _ _ ?_ a hF
    refine we_true (by kernel_rfl) ?_
    refine we_seq fun K7 hK7 => ?_
    refine we_region [(0, 0)] rfl ?_
    refine ge_batch [0] (ans := []) (vs := [(8, .bool true)]) (l := []) (by kernel_rfl) trivial ?_
    refine ge_nil fun a hF => hK7 _ _ ?_ a hF
    obtain rfl := Option.some.inj h
    exact we_ret fun a hF => hQ _ _ _ (Outs.out nofun ⟨rfl, (post_ret (rs := [.tmp 8]) (ans := []) (vs := [.bool true]) (l := []) rfl (by kernel_rfl) trivial ⟨rfl, hS4⟩) a hF⟩)
theorem FixedResponds_ok (K : Nat) (l0 : List STask) (A0 : Option Addr) (c0 : Nat) (x1 : Int) (x2 : Int) (l3 : List Int) (A3 : Option Addr) (c3 : Nat) (w0 : World) (hR0 : RdL w0 A0 l0) (hL0 : l0.length ≤ c0) (hR3 : RdL w0 A3 l3) (hL3 : l3.length ≤ c3) (hG1 : Glob w0 1 [.string (⟨#[63]⟩), .int .i64 (-9), .int .i64 0, .int .i64 0, .int .i64 0, .int .i64 0, .int .i64 0]) (r : Bool) (h : FixedResponds.f K l0 x1 x2 l3 = some r) :
    Calls Tryd.prog 7 #[.slice A0 l0.length c0, .int .i64 x1, .int .i64 x2, .slice A3 l3.length c3] w0 (FixedResponds.Post w0 r) := by
  have hS := St.start w0
  unfold FixedResponds.f at h
  refine calls_enter (n := 91) (args := [.slice A0 l0.length c0, .int .i64 x1, .int .i64 x2, .slice A3 l3.length c3]) (fn := Tryd.f7) rfl rfl rfl rfl ?_
  show WE _ _ _ _ [(0, .slice A0 l0.length c0), (1, .int .i64 x1), (2, .int .i64 x2), (3, .slice A3 l3.length c3)] _
  refine we_seq fun K1 hK1 => ?_
  refine we_region [(0, 0)] rfl ?_
  refine ge_batch [0] (ans := []) (vs := [(8, .bool false)]) (l := []) (by kernel_rfl) trivial ?_
  refine ge_nil fun a hF => hK1 _ _ ?_ a hF
  refine we_seq fun K2 hK2 => ?_
  refine we_seq fun K3 hK3 => ?_
  refine we_region [(0, 1), (1, 0)] rfl ?_
  rcases hq1 : responds.f K with _ | r1
  · rw [hq1] at h; cases h
  rw [hq1] at h
  simp only [] at h
  refine ge_call (d := some 19) (f := 39) (args := #[]) (by kernel_rfl) (responds_ok K _ _ hq1) ?_
  rintro _ w1 ⟨rfl, hS1⟩
  refine ⟨_, rfl, hS1.below, ?_⟩
  have hS2 := hS.call hS1
  refine ge_batch [1] (ans := []) (vs := [(20, .bool (!r1))]) (l := []) (by kernel_rfl) trivial ?_
  refine ge_nil fun a hF => hK3 _ _ ?_ a hF
  by_cases hc1 : r1 = true
  · rw [if_pos hc1] at h
    refine we_known (t := 20) (b := !r1) (v := false) (by kernel_rfl) (congrArg (fun z => !z) hc1) ?_
    refine we_false (by kernel_rfl) ?_
    refine we_skip fun a hF => hK2 _ _ ?_ a hF
    refine we_seq fun K4 hK4 => ?_
    rcases hq4 : FixedResponds.p0 l0 l3 with _ | (_ | rr1)
    · rw [hq4] at h; cases h
    · rw [hq4] at h
      simp only [] at h
      refine we_keep (e' := [(0, .slice A0 l0.length c0), (1, .int .i64 x1), (2, .int .i64 x2), (3, .slice A3 l3.length c3), (8, .bool false), (19, .bool r1), (20, .bool false)]) ⟨by kernel_rfl, by kernel_rfl, by kernel_rfl, by kernel_rfl, by kernel_rfl, by kernel_rfl, by kernel_rfl, trivial⟩ (FixedResponds_p0 K w0 l0 A0 c0 x1 x2 l3 A3 c3 hR0 hL0 hR3 hL3 hG1 r1 hc1 _ hq4 _ hS2 _ ?_)
      rintro _ a w4 ⟨rfl, hS7, hF⟩
      replace hS7 : St w0 w4 [] := hS7
      refine hK4 [(0, .slice A0 l0.length c0), (1, .int .i64 x1), (2, .int .i64 x2), (3, .slice A3 l3.length c3)] w4 ?_ a hF
      refine we_seq fun K8 hK8 => ?_
      refine we_region [(0, 0), (1, 0), (2, 1), (3, 0), (4, 1), (5, 0), (6, 0)] rfl ?_
      refine ge_batch [0, 1] (ans := [.val (.string (⟨#[63]⟩)), .val (.int .i64 (-9)), .val (.int .i64 0), .val (.int .i64 0), .val (.int .i64 0), .val (.int .i64 0), .val (.int .i64 0)]) (vs := [(32, .agg #[.string (⟨#[63]⟩), .int .i64 (-9), .int .i64 0, .int .i64 0, .int .i64 0, .int .i64 0, .int .i64 0]), (31, .slice A0 l0.length c0)]) (l := [.loaded ⟨1, 0, none⟩ (.string (⟨#[63]⟩)), .loaded ⟨1, 1, none⟩ (.int .i64 (-9)), .loaded ⟨1, 2, none⟩ (.int .i64 0), .loaded ⟨1, 3, none⟩ (.int .i64 0), .loaded ⟨1, 4, none⟩ (.int .i64 0), .loaded ⟨1, 5, none⟩ (.int .i64 0), .loaded ⟨1, 6, none⟩ (.int .i64 0)]) (by kernel_rfl) ⟨hS7.glob hG1 rfl, hS7.glob hG1 rfl, hS7.glob hG1 rfl, hS7.glob hG1 rfl, hS7.glob hG1 rfl, hS7.glob hG1 rfl, hS7.glob hG1 rfl, trivial⟩ ?_
      rcases hq5 : punctualsame_Lend_api_Task.f l0 (⟨⟨#[63]⟩, (-9), 0, 0, 0, 0, 0⟩ : STask) with _ | r2
      · rw [hq5] at h; cases h
      rw [hq5] at h
      simp only [] at h
      obtain rfl := punctualsame_Lend_api_Task_full _ _ hq5
      refine ge_call (d := some 33) (f := 22) (args := #[.slice A0 l0.length c0, .agg #[.string (⟨#[63]⟩), .int .i64 (-9), .int .i64 0, .int .i64 0, .int .i64 0, .int .i64 0, .int .i64 0]]) (by kernel_rfl) (punctualsame_Lend_api_Task_ok l0 A0 c0 (⟨⟨#[63]⟩, (-9), 0, 0, 0, 0, 0⟩ : STask) _ (hS7.rd hR0) hL0 _ hq5) ?_
      rintro _ w5 ⟨Z1, cz1, rfl, hcp1, hS8⟩
      refine ⟨_, rfl, hS8.below, ?_⟩
      have hS9 := hS7.call hS8
      refine ge_batch [3] (ans := []) (vs := [(34, .slice A3 l3.length c3)]) (l := []) (by kernel_rfl) trivial ?_
      rcases hq6 : punctualsame_Lend_int.f l3 (-9) with _ | r3
      · rw [hq6] at h; cases h
      rw [hq6] at h
      simp only [] at h
      obtain rfl := punctualsame_Lend_int_full _ _ hq6
      refine ge_call (d := some 35) (f := 15) (args := #[.slice A3 l3.length c3, .int .i64 (-9)]) (by kernel_rfl) (punctualsame_Lend_int_ok l3 A3 c3 (-9) _ (hS9.rd hR3) hL3 _ hq6) ?_
      rintro _ w6 ⟨Z2, cz2, rfl, hcp2, hS10⟩
      refine ⟨_, rfl, hS10.below, ?_⟩
      have hS11 := hS9.call hS10
      refine ge_batch [5, 6] (ans := []) (vs := [(10, .slice Z2 l3.length cz2), (9, .slice Z1 l0.length cz1)]) (l := []) (by kernel_rfl) trivial ?_
      refine ge_nil fun a hF => hK8 _ _ ?_ a hF
      refine we_seq fun K9 hK9 => ?_
      refine we_region [(0, 0), (1, 0), (2, 0), (3, 1), (4, 0), (5, 0), (6, 0), (7, 1), (8, 0), (9, 2)] rfl ?_
      rcases hq7 : fixed_Response.f K l0 x1 x2 with _ | r4
      · rw [hq7] at h; cases h
      rw [hq7] at h
      simp only [] at h
      refine ge_batch [0, 1, 2] (ans := []) (vs := [(39, .int .i64 x2), (38, .int .i64 x1), (37, .slice Z1 l0.length cz1)]) (l := []) (by kernel_rfl) trivial ?_
      refine ge_call (d := some 40) (f := 40) (args := #[.slice Z1 l0.length cz1, .int .i64 x1, .int .i64 x2]) (by kernel_rfl) (fixed_Response_ok K l0 Z1 cz1 x1 x2 _ ((hS11.rdAt 1 rfl).pre) (by have h0 := hcp1; simp only [List.length_append, List.length_cons, List.length_nil] at h0; omega) _ hq7) ?_
      rintro _ w7 ⟨rfl, hS12⟩
      refine ⟨_, rfl, hS12.below, ?_⟩
      have hS13 := hS11.call hS12
      refine ge_batch [4, 5, 6] (ans := []) (vs := [(42, .agg #[.int .i64 r4.2.Code, .int .i64 r4.2.At]), (41, .int .i64 r4.1), (36, .tuple #[.int .i64 r4.1, .agg #[.int .i64 r4.2.Code, .int .i64 r4.2.At]])]) (l := []) (by kernel_rfl) trivial ?_
      refine ge_new (d := some 12) (o := .cells #[.int .i64 0, .int .i64 0] 26) (v := fun b => .pointer (some ⟨b, 0, none⟩)) hS13 (fun b => by kernel_rfl) fun b1 w8 hx1 hS14 => ?_
      refine ge_batch [8] (ans := []) (vs := [(11, .int .i64 r4.1)]) (l := []) (by kernel_rfl) trivial ?_
      refine ge_set (b := b1) (j := 0) (cs := #[.int .i64 0, .int .i64 0]) (t := 26) (vs := [.int .i64 r4.2.Code, .int .i64 r4.2.At]) hS14 (by kernel_rfl) rfl rfl fun w9 hS15 => ?_
      have hS16 : St w0 w9 [Own.blk b1 (.cells #[.int .i64 r4.2.Code, .int .i64 r4.2.At] 26 (0, 0)), Own.of (.slice Z2 (l3 ++ [(-9), (-9), (-9)]).length cz2) 3 (l3 ++ [(-9), (-9), (-9)]), Own.of (.slice Z1 (l0 ++ [(⟨⟨#[63]⟩, (-9), 0, 0, 0, 0, 0⟩ : STask), (⟨⟨#[63]⟩, (-9), 0, 0, 0, 0, 0⟩ : STask), (⟨⟨#[63]⟩, (-9), 0, 0, 0, 0, 0⟩ : STask)]).length cz1) 46 (l0 ++ [(⟨⟨#[63]⟩, (-9), 0, 0, 0, 0, 0⟩ : STask), (⟨⟨#[63]⟩, (-9), 0, 0, 0, 0, 0⟩ : STask), (⟨⟨#[63]⟩, (-9), 0, 0, 0, 0, 0⟩ : STask)])] := hS15
      refine ge_nil fun a hF => hK9 _ _ ?_ a hF
      refine we_seq fun K10 hK10 => ?_
      refine we_region [(0, 0), (1, 0), (2, 0), (3, 1), (4, 0), (5, 0), (6, 0), (7, 1), (8, 0), (9, 2)] rfl ?_
      rcases hq8 : punctualref_ResponseOf.f K l0 x1 x2 with _ | r5
      · rw [hq8] at h; cases h
      rw [hq8] at h
      simp only [] at h
      refine ge_batch [0, 1, 2] (ans := []) (vs := [(46, .int .i64 x2), (45, .int .i64 x1), (44, .slice A0 l0.length c0)]) (l := []) (by kernel_rfl) trivial ?_
      refine ge_call (d := some 47) (f := 41) (args := #[.slice A0 l0.length c0, .int .i64 x1, .int .i64 x2]) (by kernel_rfl) (punctualref_ResponseOf_ok K l0 A0 c0 x1 x2 _ (hS16.rd hR0) hL0 _ hq8) ?_
      rintro _ w10 ⟨rfl, hS17⟩
      refine ⟨_, rfl, hS17.below, ?_⟩
      have hS18 := hS16.call hS17
      refine ge_batch [4, 5, 6] (ans := []) (vs := [(49, .agg #[.int .i64 r5.2.Code, .int .i64 r5.2.At]), (48, .int .i64 r5.1), (43, .tuple #[.int .i64 r5.1, .agg #[.int .i64 r5.2.Code, .int .i64 r5.2.At]])]) (l := []) (by kernel_rfl) trivial ?_
      refine ge_new (d := some 14) (o := .cells #[.int .i64 0, .int .i64 0] 26) (v := fun b => .pointer (some ⟨b, 0, none⟩)) hS18 (fun b => by kernel_rfl) fun b2 w11 hx2 hS19 => ?_
      refine ge_batch [8] (ans := []) (vs := [(13, .int .i64 r5.1)]) (l := []) (by kernel_rfl) trivial ?_
      refine ge_set (b := b2) (j := 0) (cs := #[.int .i64 0, .int .i64 0]) (t := 26) (vs := [.int .i64 r5.2.Code, .int .i64 r5.2.At]) hS19 (by kernel_rfl) rfl rfl fun w12 hS20 => ?_
      have hS21 : St w0 w12 [Own.blk b2 (.cells #[.int .i64 r5.2.Code, .int .i64 r5.2.At] 26 (0, 0)), Own.blk b1 (.cells #[.int .i64 r4.2.Code, .int .i64 r4.2.At] 26 (0, 0)), Own.of (.slice Z2 (l3 ++ [(-9), (-9), (-9)]).length cz2) 3 (l3 ++ [(-9), (-9), (-9)]), Own.of (.slice Z1 (l0 ++ [(⟨⟨#[63]⟩, (-9), 0, 0, 0, 0, 0⟩ : STask), (⟨⟨#[63]⟩, (-9), 0, 0, 0, 0, 0⟩ : STask), (⟨⟨#[63]⟩, (-9), 0, 0, 0, 0, 0⟩ : STask)]).length cz1) 46 (l0 ++ [(⟨⟨#[63]⟩, (-9), 0, 0, 0, 0, 0⟩ : STask), (⟨⟨#[63]⟩, (-9), 0, 0, 0, 0, 0⟩ : STask), (⟨⟨#[63]⟩, (-9), 0, 0, 0, 0, 0⟩ : STask)])] := hS20
      refine ge_nil fun a hF => hK10 _ _ ?_ a hF
      refine we_seq fun K11 hK11 => ?_
      refine we_region [(0, 0), (1, 0), (2, 1), (3, 0), (4, 0), (5, 0), (6, 1), (7, 0), (8, 2)] rfl ?_
      rcases hq9 : fixed_Responses.f K l0 l3 with _ | r6
      · rw [hq9] at h; cases h
      rw [hq9] at h
      simp only [] at h
      refine ge_batch [0, 1] (ans := []) (vs := [(52, .slice Z2 l3.length cz2), (51, .slice Z1 l0.length cz1)]) (l := []) (by kernel_rfl) trivial ?_
      refine ge_call (d := some 53) (f := 42) (args := #[.slice Z1 l0.length cz1, .slice Z2 l3.length cz2]) (by kernel_rfl) (fixed_Responses_ok K l0 Z1 cz1 l3 Z2 cz2 _ ((hS21.rdAt 3 rfl).pre) (by have h0 := hcp1; simp only [List.length_append, List.length_cons, List.length_nil] at h0; omega) ((hS21.rdAt 2 rfl).pre) (by have h0 := hcp2; simp only [List.length_append, List.length_cons, List.length_nil] at h0; omega) _ hq9) ?_
      rintro _ w13 ⟨v1, rfl, hS22⟩
      refine ⟨_, rfl, hS22.below, ?_⟩
      have hS23 := hS21.call hS22
      refine ge_batch [3, 4, 5] (ans := []) (vs := [(55, .agg #[.int .i64 r6.2.Code, .int .i64 r6.2.At]), (54, v1), (50, .tuple #[v1, .agg #[.int .i64 r6.2.Code, .int .i64 r6.2.At]])]) (l := []) (by kernel_rfl) trivial ?_
      refine ge_new (d := some 16) (o := .cells #[.int .i64 0, .int .i64 0] 26) (v := fun b => .pointer (some ⟨b, 0, none⟩)) hS23 (fun b => by kernel_rfl) fun b3 w14 hx3 hS24 => ?_
      refine ge_batch [7] (ans := []) (vs := [(15, v1)]) (l := []) (by kernel_rfl) trivial ?_
      refine ge_set (b := b3) (j := 0) (cs := #[.int .i64 0, .int .i64 0]) (t := 26) (vs := [.int .i64 r6.2.Code, .int .i64 r6.2.At]) hS24 (by kernel_rfl) rfl rfl fun w15 hS25 => ?_
      have hS26 : St w0 w15 [Own.blk b3 (.cells #[.int .i64 r6.2.Code, .int .i64 r6.2.At] 26 (0, 0)), Own.of v1 3 r6.1, Own.blk b2 (.cells #[.int .i64 r5.2.Code, .int .i64 r5.2.At] 26 (0, 0)), Own.blk b1 (.cells #[.int .i64 r4.2.Code, .int .i64 r4.2.At] 26 (0, 0)), Own.of (.slice Z2 (l3 ++ [(-9), (-9), (-9)]).length cz2) 3 (l3 ++ [(-9), (-9), (-9)]), Own.of (.slice Z1 (l0 ++ [(⟨⟨#[63]⟩, (-9), 0, 0, 0, 0, 0⟩ : STask), (⟨⟨#[63]⟩, (-9), 0, 0, 0, 0, 0⟩ : STask), (⟨⟨#[63]⟩, (-9), 0, 0, 0, 0, 0⟩ : STask)]).length cz1) 46 (l0 ++ [(⟨⟨#[63]⟩, (-9), 0, 0, 0, 0, 0⟩ : STask), (⟨⟨#[63]⟩, (-9), 0, 0, 0, 0, 0⟩ : STask), (⟨⟨#[63]⟩, (-9), 0, 0, 0, 0, 0⟩ : STask)])] := hS25
      refine ge_nil fun a hF => hK11 _ _ ?_ a hF
      refine we_seq fun K12 hK12 => ?_
      refine we_region [(0, 0), (1, 0), (2, 1), (3, 0), (4, 0), (5, 0), (6, 1), (7, 0), (8, 2)] rfl ?_
      rcases hq10 : punctualref_ResponsesOf.f K l0 l3 with _ | r7
      · rw [hq10] at h; cases h
      rw [hq10] at h
      simp only [] at h
      refine ge_batch [0, 1] (ans := []) (vs := [(58, .slice A3 l3.length c3), (57, .slice A0 l0.length c0)]) (l := []) (by kernel_rfl) trivial ?_
      refine ge_call (d := some 59) (f := 43) (args := #[.slice A0 l0.length c0, .slice A3 l3.length c3]) (by kernel_rfl) (punctualref_ResponsesOf_ok K l0 A0 c0 l3 A3 c3 _ (hS26.rd hR0) hL0 (hS26.rd hR3) hL3 _ hq10) ?_
      rintro _ w16 ⟨v2, rfl, hS27⟩
      refine ⟨_, rfl, hS27.below, ?_⟩
      have hS28 := hS26.call hS27
      refine ge_batch [3, 4, 5] (ans := []) (vs := [(61, .agg #[.int .i64 r7.2.Code, .int .i64 r7.2.At]), (60, v2), (56, .tuple #[v2, .agg #[.int .i64 r7.2.Code, .int .i64 r7.2.At]])]) (l := []) (by kernel_rfl) trivial ?_
      refine ge_new (d := some 18) (o := .cells #[.int .i64 0, .int .i64 0] 26) (v := fun b => .pointer (some ⟨b, 0, none⟩)) hS28 (fun b => by kernel_rfl) fun b4 w17 hx4 hS29 => ?_
      refine ge_batch [7] (ans := []) (vs := [(17, v2)]) (l := []) (by kernel_rfl) trivial ?_
      refine ge_set (b := b4) (j := 0) (cs := #[.int .i64 0, .int .i64 0]) (t := 26) (vs := [.int .i64 r7.2.Code, .int .i64 r7.2.At]) hS29 (by kernel_rfl) rfl rfl fun w18 hS30 => ?_
      have hS31 : St w0 w18 [Own.blk b4 (.cells #[.int .i64 r7.2.Code, .int .i64 r7.2.At] 26 (0, 0)), Own.of v2 3 r7.1, Own.blk b3 (.cells #[.int .i64 r6.2.Code, .int .i64 r6.2.At] 26 (0, 0)), Own.of v1 3 r6.1, Own.blk b2 (.cells #[.int .i64 r5.2.Code, .int .i64 r5.2.At] 26 (0, 0)), Own.blk b1 (.cells #[.int .i64 r4.2.Code, .int .i64 r4.2.At] 26 (0, 0)), Own.of (.slice Z2 (l3 ++ [(-9), (-9), (-9)]).length cz2) 3 (l3 ++ [(-9), (-9), (-9)]), Own.of (.slice Z1 (l0 ++ [(⟨⟨#[63]⟩, (-9), 0, 0, 0, 0, 0⟩ : STask), (⟨⟨#[63]⟩, (-9), 0, 0, 0, 0, 0⟩ : STask), (⟨⟨#[63]⟩, (-9), 0, 0, 0, 0, 0⟩ : STask)]).length cz1) 46 (l0 ++ [(⟨⟨#[63]⟩, (-9), 0, 0, 0, 0, 0⟩ : STask), (⟨⟨#[63]⟩, (-9), 0, 0, 0, 0, 0⟩ : STask), (⟨⟨#[63]⟩, (-9), 0, 0, 0, 0, 0⟩ : STask)])] := hS30
      refine ge_nil fun a hF => hK12 _ _ ?_ a hF
      refine we_seq fun K13 hK13 => ?_
      refine we_region [(0, 0), (1, 0), (2, 0), (3, 0), (4, 0), (5, 0), (6, 0), (7, 0), (8, 0), (9, 0), (10, 0), (11, 0), (12, 0), (13, 0), (14, 0), (15, 0), (16, 1), (17, 0), (18, 0), (19, 0), (20, 0), (21, 0), (22, 1), (23, 0), (24, 0), (25, 0), (26, 0), (27, 1), (28, 0), (29, 0)] rfl ?_
      refine ge_batch [0, 1, 2, 3] (ans := []) (vs := [(65, .bool (r4.1 == r5.1)), (64, .bool (r4.1 == r5.1)), (63, .int .i64 r5.1), (62, .int .i64 r4.1)]) (l := []) (by kernel_rfl) trivial ?_
      by_cases hc4 : r4.1 = r5.1
      · rw [if_pos hc4] at h
        refine ge_known (t := 65) (b := (r4.1 == r5.1)) (c := true) (by kernel_rfl) (beq_iff_eq.2 hc4) ?_
        refine ge_batch [4, 5] (ans := [.val (.int .i64 r4.2.Code), .val (.int .i64 r4.2.At), .val (.int .i64 r5.2.Code), .val (.int .i64 r5.2.At)]) (vs := [(67, .agg #[.int .i64 r5.2.Code, .int .i64 r5.2.At]), (66, .agg #[.int .i64 r4.2.Code, .int .i64 r4.2.At])]) (l := [.loaded ⟨b1, 0, none⟩ (.int .i64 r4.2.Code), .loaded ⟨b1, 1, none⟩ (.int .i64 r4.2.At), .loaded ⟨b2, 0, none⟩ (.int .i64 r5.2.Code), .loaded ⟨b2, 1, none⟩ (.int .i64 r5.2.At)]) (by kernel_rfl) ⟨hS31.cell 5 rfl rfl, hS31.cell 5 rfl rfl, hS31.cell 4 rfl rfl, hS31.cell 4 rfl rfl, trivial⟩ ?_
        refine ge_eqs (d := 68) (ty := 4) (op := .eql) (x := (.tmp 66)) (y := (.tmp 67)) (t := 26) (t2 := 26) (xs := #[.int .i64 r4.2.Code, .int .i64 r4.2.At]) (ys := #[.int .i64 r5.2.Code, .int .i64 r5.2.At]) (r := (SFault.eqb r4.2 r5.2)) (v := (SFault.eqb r4.2 r5.2)) (by kernel_rfl) (by kernel_rfl) (by kernel_rfl) (by kernel_rfl) (by kernel_rfl) rfl ?_
        refine ge_batch [7, 8] (ans := []) (vs := [(70, .bool (SFault.eqb r4.2 r5.2)), (69, .bool (SFault.eqb r4.2 r5.2))]) (l := []) (by kernel_rfl) trivial ?_
        by_cases hc5 : (SFault.eqb r4.2 r5.2) = true
        · rw [if_pos hc5] at h
          refine ge_known (t := 70) (b := (SFault.eqb r4.2 r5.2)) (c := true) (by kernel_rfl) hc5 ?_
          refine ge_batch [9, 10] (ans := [.val (.int .i64 r6.2.Code), .val (.int .i64 r6.2.At), .val (.int .i64 r7.2.Code), .val (.int .i64 r7.2.At)]) (vs := [(72, .agg #[.int .i64 r7.2.Code, .int .i64 r7.2.At]), (71, .agg #[.int .i64 r6.2.Code, .int .i64 r6.2.At])]) (l := [.loaded ⟨b3, 0, none⟩ (.int .i64 r6.2.Code), .loaded ⟨b3, 1, none⟩ (.int .i64 r6.2.At), .loaded ⟨b4, 0, none⟩ (.int .i64 r7.2.Code), .loaded ⟨b4, 1, none⟩ (.int .i64 r7.2.At)]) (by kernel_rfl) ⟨hS31.cell 2 rfl rfl, hS31.cell 2 rfl rfl, hS31.cell 0 rfl rfl, hS31.cell 0 rfl rfl, trivial⟩ ?_
          refine ge_eqs (d := 73) (ty := 4) (op := .eql) (x := (.tmp 71)) (y := (.tmp 72)) (t := 26) (t2 := 26) (xs := #[.int .i64 r6.2.Code, .int .i64 r6.2.At]) (ys := #[.int .i64 r7.2.Code, .int .i64 r7.2.At]) (r := (SFault.eqb r6.2 r7.2)) (v := (SFault.eqb r6.2 r7.2)) (by kernel_rfl) (by kernel_rfl) (by kernel_rfl) (by kernel_rfl) (by kernel_rfl) rfl ?_
          refine ge_batch [12, 13] (ans := []) (vs := [(75, .bool (SFault.eqb r6.2 r7.2)), (74, .bool (SFault.eqb r6.2 r7.2))]) (l := []) (by kernel_rfl) trivial ?_
          by_cases hc6 : (SFault.eqb r6.2 r7.2) = true
          · rw [if_pos hc6] at h
            refine ge_known (t := 75) (b := (SFault.eqb r6.2 r7.2)) (c := true) (by kernel_rfl) hc6 ?_
            refine ge_batch [14, 15] (ans := []) (vs := [(77, v2), (76, v1)]) (l := []) (by kernel_rfl) trivial ?_
            obtain ⟨Z3, cz3, rfl⟩ := hS31.open 3 rfl
            obtain ⟨Z4, cz4, rfl⟩ := hS31.open 1 rfl
            rcases hq11 : punctualsame_Same_int.f K r6.1 r7.1 with _ | r8
            · rw [hq11] at h; cases h
            rw [hq11] at h
            simp only [] at h
            refine ge_call (d := some 78) (f := 12) (args := #[(.slice Z3 r6.1.length cz3), (.slice Z4 r7.1.length cz4)]) (by kernel_rfl) (punctualsame_Same_int_ok K r6.1 Z3 cz3 r7.1 Z4 cz4 _ (hS31.rdAt 3 rfl) (hS31.capAt 3 rfl) (hS31.rdAt 1 rfl) (hS31.capAt 1 rfl) _ hq11) ?_
            rintro _ w19 ⟨rfl, hS32⟩
            refine ⟨_, rfl, hS32.below, ?_⟩
            have hS33 := hS31.call hS32
            refine ge_batch [17, 18] (ans := []) (vs := [(80, .bool r8), (79, .bool r8)]) (l := []) (by kernel_rfl) trivial ?_
            by_cases hc7 : r8 = true
            · rw [if_pos hc7] at h
              refine ge_known (t := 80) (b := r8) (c := true) (by kernel_rfl) hc7 ?_
              refine ge_batch [19, 20, 21] (ans := [.val (.string (⟨#[63]⟩)), .val (.int .i64 (-9)), .val (.int .i64 0), .val (.int .i64 0), .val (.int .i64 0), .val (.int .i64 0), .val (.int .i64 0)]) (vs := [(83, .agg #[.string (⟨#[63]⟩), .int .i64 (-9), .int .i64 0, .int .i64 0, .int .i64 0, .int .i64 0, .int .i64 0]), (82, .slice A0 l0.length c0), (81, .slice Z1 l0.length cz1)]) (l := [.loaded ⟨1, 0, none⟩ (.string (⟨#[63]⟩)), .loaded ⟨1, 1, none⟩ (.int .i64 (-9)), .loaded ⟨1, 2, none⟩ (.int .i64 0), .loaded ⟨1, 3, none⟩ (.int .i64 0), .loaded ⟨1, 4, none⟩ (.int .i64 0), .loaded ⟨1, 5, none⟩ (.int .i64 0), .loaded ⟨1, 6, none⟩ (.int .i64 0)]) (by kernel_rfl) ⟨hS33.glob hG1 rfl, hS33.glob hG1 rfl, hS33.glob hG1 rfl, hS33.glob hG1 rfl, hS33.glob hG1 rfl, hS33.glob hG1 rfl, hS33.glob hG1 rfl, trivial⟩ ?_
              rcases hq12 : punctualsame_Still_api_Task.f K (l0 ++ [(⟨⟨#[63]⟩, (-9), 0, 0, 0, 0, 0⟩ : STask), (⟨⟨#[63]⟩, (-9), 0, 0, 0, 0, 0⟩ : STask), (⟨⟨#[63]⟩, (-9), 0, 0, 0, 0, 0⟩ : STask)]) l0 (⟨⟨#[63]⟩, (-9), 0, 0, 0, 0, 0⟩ : STask) with _ | r9
              · rw [hq12] at h; cases h
              rw [hq12] at h
              simp only [] at h
              refine ge_call (d := some 84) (f := 24) (args := #[.slice Z1 l0.length cz1, .slice A0 l0.length c0, .agg #[.string (⟨#[63]⟩), .int .i64 (-9), .int .i64 0, .int .i64 0, .int .i64 0, .int .i64 0, .int .i64 0]]) (by kernel_rfl) (punctualsame_Still_api_Task_ok K (l0 ++ [(⟨⟨#[63]⟩, (-9), 0, 0, 0, 0, 0⟩ : STask), (⟨⟨#[63]⟩, (-9), 0, 0, 0, 0, 0⟩ : STask), (⟨⟨#[63]⟩, (-9), 0, 0, 0, 0, 0⟩ : STask)]) Z1 l0.length cz1 l0 A0 c0 (⟨⟨#[63]⟩, (-9), 0, 0, 0, 0, 0⟩ : STask) _ (hS33.rdAt 7 rfl) hcp1 (hS33.rd hR0) hL0 _ hq12) ?_
              rintro _ w20 ⟨rfl, hS34⟩
              refine ⟨_, rfl, hS34.below, ?_⟩
              have hS35 := hS33.call hS34
              refine ge_batch [23, 24] (ans := []) (vs := [(86, .bool r9), (85, .bool r9)]) (l := []) (by kernel_rfl) trivial ?_
              by_cases hc8 : r9 = true
              · rw [if_pos hc8] at h
                refine ge_known (t := 86) (b := r9) (c := true) (by kernel_rfl) hc8 ?_
                refine ge_batch [25, 26] (ans := []) (vs := [(88, .slice A3 l3.length c3), (87, .slice Z2 l3.length cz2)]) (l := []) (by kernel_rfl) trivial ?_
                rcases hq13 : punctualsame_Still_int.f K (l3 ++ [(-9), (-9), (-9)]) l3 (-9) with _ | r10
                · rw [hq13] at h; cases h
                rw [hq13] at h
                simp only [] at h
                refine ge_call (d := some 89) (f := 18) (args := #[.slice Z2 l3.length cz2, .slice A3 l3.length c3, .int .i64 (-9)]) (by kernel_rfl) (punctualsame_Still_int_ok K (l3 ++ [(-9), (-9), (-9)]) Z2 l3.length cz2 l3 A3 c3 (-9) _ (hS35.rdAt 6 rfl) hcp2 (hS35.rd hR3) hL3 _ hq13) ?_
                rintro _ w21 ⟨rfl, hS36⟩
                refine ⟨_, rfl, hS36.below, ?_⟩
                have hS37 := hS35.call hS36
                refine ge_batch [28, 29] (ans := []) (vs := [(8, .bool r10), (90, .bool r10)]) (l := []) (by kernel_rfl) trivial ?_
                refine ge_nil fun a hF => hK13 _ _ ?_ a hF
                have hS38 := hS37.takeN 0
                obtain rfl := Option.some.inj h
                exact we_ret (post_ret (rs := [.tmp 8]) (ans := []) (vs := [.bool r10]) (l := []) rfl (by kernel_rfl) trivial ⟨rfl, hS38⟩)
              · rw [if_neg hc8] at h
                refine ge_known (t := 86) (b := r9) (c := false) (by kernel_rfl) (Bool.eq_false_iff.2 hc8) ?_
                refine ge_batch [25, 26] (ans := []) (vs := [(88, undef), (87, undef)]) (l := []) (by kernel_rfl) trivial ?_
                refine ge_off rfl rfl rfl (by kernel_rfl) ?_
                refine ge_batch [28, 29] (ans := []) (vs := [(8, .bool false), (90, .bool false)]) (l := []) (by kernel_rfl) trivial ?_
                refine ge_nil fun a hF => hK13 _ _ ?_ a hF
                have hS39 := hS35.takeN 0
                obtain rfl := Option.some.inj h
                exact we_ret (post_ret (rs := [.tmp 8]) (ans := []) (vs := [.bool false]) (l := []) rfl (by kernel_rfl) trivial ⟨rfl, hS39⟩)
            · rw [if_neg hc7] at h
              refine ge_known (t := 80) (b := r8) (c := false) (by kernel_rfl) (Bool.eq_false_iff.2 hc7) ?_
              refine ge_batch [19, 20, 21] (ans := []) (vs := [(83, undef), (82, undef), (81, undef)]) (l := []) (by kernel_rfl) trivial ?_
              refine ge_off rfl rfl rfl (by kernel_rfl) ?_
              refine ge_batch [23, 24, 25, 26] (ans := []) (vs := [(88, undef), (87, undef), (86, .bool false), (85, .bool false)]) (l := []) (by kernel_rfl) trivial ?_
              refine ge_off rfl rfl rfl (by kernel_rfl) ?_
              refine ge_batch [28, 29] (ans := []) (vs := [(8, .bool false), (90, .bool false)]) (l := []) (by kernel_rfl) trivial ?_
              refine ge_nil fun a hF => hK13 _ _ ?_ a hF
              have hS40 := hS33.takeN 0
              obtain rfl := Option.some.inj h
              exact we_ret (post_ret (rs := [.tmp 8]) (ans := []) (vs := [.bool false]) (l := []) rfl (by kernel_rfl) trivial ⟨rfl, hS40⟩)
          · rw [if_neg hc6] at h
            refine ge_known (t := 75) (b := (SFault.eqb r6.2 r7.2)) (c := false) (by kernel_rfl) (Bool.eq_false_iff.2 hc6) ?_
            refine ge_batch [14, 15] (ans := []) (vs := [(77, undef), (76, undef)]) (l := []) (by kernel_rfl) trivial ?_
            refine ge_off rfl rfl rfl (by kernel_rfl) ?_
            refine ge_batch [17, 18, 19, 20, 21] (ans := []) (vs := [(83, undef), (82, undef), (81, undef), (80, .bool false), (79, .bool false)]) (l := []) (by kernel_rfl) trivial ?_
            refine ge_off rfl rfl rfl (by kernel_rfl) ?_
            refine ge_batch [23, 24, 25, 26] (ans := []) (vs := [(88, undef), (87, undef), (86, .bool false), (85, .bool false)]) (l := []) (by kernel_rfl) trivial ?_
            refine ge_off rfl rfl rfl (by kernel_rfl) ?_
            refine ge_batch [28, 29] (ans := []) (vs := [(8, .bool false), (90, .bool false)]) (l := []) (by kernel_rfl) trivial ?_
            refine ge_nil fun a hF => hK13 _ _ ?_ a hF
            have hS41 := hS31.takeN 0
            obtain rfl := Option.some.inj h
            exact we_ret (post_ret (rs := [.tmp 8]) (ans := []) (vs := [.bool false]) (l := []) rfl (by kernel_rfl) trivial ⟨rfl, hS41⟩)
        · rw [if_neg hc5] at h
          refine ge_known (t := 70) (b := (SFault.eqb r4.2 r5.2)) (c := false) (by kernel_rfl) (Bool.eq_false_iff.2 hc5) ?_
          refine ge_batch [9, 10, 11, 12, 13, 14, 15] (ans := []) (vs := [(77, undef), (76, undef), (75, .bool false), (74, .bool false), (73, undef), (72, undef), (71, undef)]) (l := []) (by kernel_rfl) trivial ?_
          refine ge_off rfl rfl rfl (by kernel_rfl) ?_
          refine ge_batch [17, 18, 19, 20, 21] (ans := []) (vs := [(83, undef), (82, undef), (81, undef), (80, .bool false), (79, .bool false)]) (l := []) (by kernel_rfl) trivial ?_
          refine ge_off rfl rfl rfl (by kernel_rfl) ?_
          refine ge_batch [23, 24, 25, 26] (ans := []) (vs := [(88, undef), (87, undef), (86, .bool false), (85, .bool false)]) (l := []) (by kernel_rfl) trivial ?_
          refine ge_off rfl rfl rfl (by kernel_rfl) ?_
          refine ge_batch [28, 29] (ans := []) (vs := [(8, .bool false), (90, .bool false)]) (l := []) (by kernel_rfl) trivial ?_
          refine ge_nil fun a hF => hK13 _ _ ?_ a hF
          have hS42 := hS31.takeN 0
          obtain rfl := Option.some.inj h
          exact we_ret (post_ret (rs := [.tmp 8]) (ans := []) (vs := [.bool false]) (l := []) rfl (by kernel_rfl) trivial ⟨rfl, hS42⟩)
      · rw [if_neg hc4] at h
        refine ge_known (t := 65) (b := (r4.1 == r5.1)) (c := false) (by kernel_rfl) (beq_eq_false_iff_ne.2 hc4) ?_
        refine ge_batch [4, 5, 6, 7, 8, 9, 10, 11, 12, 13, 14, 15] (ans := []) (vs := [(77, undef), (76, undef), (75, .bool false), (74, .bool false), (73, undef), (72, undef), (71, undef), (70, .bool false), (69, .bool false), (68, undef), (67, undef), (66, undef)]) (l := []) (by kernel_rfl) trivial ?_
        refine ge_off rfl rfl rfl (by kernel_rfl) ?_
        refine ge_batch [17, 18, 19, 20, 21] (ans := []) (vs := [(83, undef), (82, undef), (81, undef), (80, .bool false), (79, .bool false)]) (l := []) (by kernel_rfl) trivial ?_
        refine ge_off rfl rfl rfl (by kernel_rfl) ?_
        refine ge_batch [23, 24, 25, 26] (ans := []) (vs := [(88, undef), (87, undef), (86, .bool false), (85, .bool false)]) (l := []) (by kernel_rfl) trivial ?_
        refine ge_off rfl rfl rfl (by kernel_rfl) ?_
        refine ge_batch [28, 29] (ans := []) (vs := [(8, .bool false), (90, .bool false)]) (l := []) (by kernel_rfl) trivial ?_
        refine ge_nil fun a hF => hK13 _ _ ?_ a hF
        have hS43 := hS31.takeN 0
        obtain rfl := Option.some.inj h
        exact we_ret (post_ret (rs := [.tmp 8]) (ans := []) (vs := [.bool false]) (l := []) rfl (by kernel_rfl) trivial ⟨rfl, hS43⟩)
    · rw [hq4] at h
      simp only [] at h
      refine we_keep (e' := [(0, .slice A0 l0.length c0), (1, .int .i64 x1), (2, .int .i64 x2), (3, .slice A3 l3.length c3), (8, .bool false), (19, .bool r1), (20, .bool false)]) ⟨by kernel_rfl, by kernel_rfl, by kernel_rfl, by kernel_rfl, by kernel_rfl, by kernel_rfl, by kernel_rfl, trivial⟩ (FixedResponds_p0 K w0 l0 A0 c0 x1 x2 l3 A3 c3 hR0 hL0 hR3 hL3 hG1 r1 hc1 _ hq4 _ hS2 _ ?_)
      rintro _ a w1 ⟨_, rfl, hb⟩
      obtain rfl := Option.some.inj h
      exact hb
  · rw [if_neg hc1] at h
    refine we_known (t := 20) (b := !r1) (v := true) (by kernel_rfl) (congrArg (fun z => !z) (Bool.eq_false_iff.2 hc1)) ?_
    refine we_true (by kernel_rfl) ?_
    refine we_seq fun K14 hK14 => ?_
    refine we_region [(0, 0)] rfl ?_
    refine ge_batch [0] (ans := []) (vs := [(8, .bool false)]) (l := []) (by kernel_rfl) trivial ?_
    refine ge_nil fun a hF => hK14 _ _ ?_ a hF
    obtain rfl := Option.some.inj h
    exact we_ret (post_ret (rs := [.tmp 8]) (ans := []) (vs := [.bool false]) (l := []) rfl (by kernel_rfl) trivial ⟨rfl, hS2⟩)
end Go.Proofs.YtlipdmblinjjaaaDoor.GV
