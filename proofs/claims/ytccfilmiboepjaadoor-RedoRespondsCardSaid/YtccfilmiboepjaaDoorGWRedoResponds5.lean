/- Walks of single functions, written by a program of this work. -/
import Derived.Test.YtccfilmiboepjaaDoorGWRedoResponds4
namespace Go.Proofs.YtccfilmiboepjaaDoor.GV
open Go Go.RowKit
set_option linter.unusedVariables false
set_option linter.unusedSimpArgs false
set_option maxRecDepth 100000

/-! punctual/punctualref.AtWorst -/
abbrev punctualref_AtWorst.Post (w0 : World) (r : Int) (e : Ending) (w : World) : Prop := e = .returned (.int .i64 r) ∧ St w0 w []
def punctualref_AtWorst.r1 (l1 : List STask) (z1 : Int) : Int × Nat → Option ((Int × Nat) ⊕ (Int ⊕ Int))
  | (z2, i1) =>
    if (i1 : Int) < (l1.length : Int) then
      match l1[i1]? with
      | none => none
      | some e1 =>
        match punctualref_up.f (IntKind.i64.wrap (z1 + e1.J)) e1.T with
        | none => none
        | some r1 =>
          some (.inl (IntKind.i64.wrap (z2 + (IntKind.i64.wrap (r1 * e1.C))), (i1 + 1)))
    else
      some (.inr (.inl z2))
def punctualref_AtWorst.r0 (K : Nat) (x0 : STask) (l1 : List STask) (x2 : Int) : Int → Option (Int ⊕ (Unit ⊕ Int))
  | z1 =>
    if (IntKind.i64.wrap (z1 + x0.J)) ≤ x0.D then
      match iter (punctualref_AtWorst.r1 l1 z1) K (IntKind.i64.wrap (x0.C + x2), 0) with
      | none => none
      | some (.inl z4) =>
        if z4 = z1 then
          some (.inr (.inr (IntKind.i64.wrap (z1 + x0.J))))
        else
          some (.inl (IntKind.i64.wrap (z1 + 1)))
      | some (.inr rr1) =>
        some (.inr (.inr rr1))
    else
      some (.inr (.inl ()))
def punctualref_AtWorst.f (K : Nat) (x0 : STask) (l1 : List STask) (x2 : Int) : Option Int :=
  match iter (punctualref_AtWorst.r0 K x0 l1 x2) K 1 with
  | none => none
  | some (.inl _) =>
    some 0
  | some (.inr rr2) =>
    some rr2
abbrev punctualref_AtWorst.A1 (K : Nat) (w0 : World) (x0 : STask) (l1 : List STask) (A1 : Option Addr) (c1 : Nat) (x2 : Int) (hR1 : RdL w0 A1 l1) (hL1 : l1.length ≤ c1) (b1 : Nat) (z1 : Int) (hc1 : (IntKind.i64.wrap (z1 + x0.J)) ≤ x0.D) : (Int × Nat) → Act → World → Prop := fun (s : Int × Nat) a w => St w0 w [Own.blk b1 (.cells #[.string x0.Name, .int .i64 x0.C, .int .i64 x0.T, .int .i64 x0.D, .int .i64 x0.J, .int .i64 x0.O, .int .i64 x0.P] 85 (0, 0))] ∧ Frm 50 a [(1, .slice A1 l1.length c1), (2, .int .i64 x2), (3, .pointer (some ⟨b1, 0, none⟩)), (7, .int .i64 z1), (8, .int .i64 s.1), (24, .slice A1 l1.length c1), (25, .int .i64 (l1.length : Int)), (26, .int .i64 (s.2 : Int))]
abbrev punctualref_AtWorst.B1 (K : Nat) (w0 : World) (x0 : STask) (l1 : List STask) (A1 : Option Addr) (c1 : Nat) (x2 : Int) (hR1 : RdL w0 A1 l1) (hL1 : l1.length ≤ c1) (b1 : Nat) (z1 : Int) (hc1 : (IntKind.i64.wrap (z1 + x0.J)) ≤ x0.D) : (Int ⊕ Int) → Exit → Act → World → Prop := Exits 2 (fun (s : Int) a w => St w0 w [Own.blk b1 (.cells #[.string x0.Name, .int .i64 x0.C, .int .i64 x0.T, .int .i64 x0.D, .int .i64 x0.J, .int .i64 x0.O, .int .i64 x0.P] 85 (0, 0))] ∧ Frm 50 a [(1, .slice A1 l1.length c1), (2, .int .i64 x2), (3, .pointer (some ⟨b1, 0, none⟩)), (7, .int .i64 z1), (8, .int .i64 s)]) (Rets Tryd.prog Tryd.f112 (punctualref_AtWorst.Post w0))
theorem punctualref_AtWorst_r1 (K : Nat) (w0 : World) (x0 : STask) (l1 : List STask) (A1 : Option Addr) (c1 : Nat) (x2 : Int) (hR1 : RdL w0 A1 l1) (hL1 : l1.length ≤ c1) (b1 : Nat) (z1 : Int) (hc1 : (IntKind.i64.wrap (z1 + x0.J)) ≤ x0.D) (s : Int × Nat) (o : (Int × Nat) ⊕ (Int ⊕ Int)) (h : punctualref_AtWorst.r1 l1 z1 s = some o) (a : Act) (w : World) (hA : punctualref_AtWorst.A1 K w0 x0 l1 A1 c1 x2 hR1 hL1 b1 z1 hc1 s a w) (Q : Exit → Act → World → Prop) (hQ : ∀ x a w, Outs (punctualref_AtWorst.A1 K w0 x0 l1 A1 c1 x2 hR1 hL1 b1 z1 hc1) (punctualref_AtWorst.B1 K w0 x0 l1 A1 c1 x2 hR1 hL1 b1 z1 hc1) o x a w → Q x a w) : (subF Tryd.f112 [1, 0, 1, 0, 0, 1, 0, 0, 1, 0, 1, 0, 0]).wp Tryd.prog Q a w := by
  obtain ⟨z2, i1⟩ := s
  obtain ⟨hS, hF⟩ := hA
  replace hS : St w0 w [Own.blk b1 (.cells #[.string x0.Name, .int .i64 x0.C, .int .i64 x0.T, .int .i64 x0.D, .int .i64 x0.J, .int .i64 x0.O, .int .i64 x0.P] 85 (0, 0))] := hS
  simp only [punctualref_AtWorst.r1] at h
  refine (?_ : WE Tryd.prog 50 (subF Tryd.f112 [1, 0, 1, 0, 0, 1, 0, 0, 1, 0, 1, 0, 0]) Q [(1, .slice A1 l1.length c1), (2, .int .i64 x2), (3, .pointer (some ⟨b1, 0, none⟩)), (7, .int .i64 z1), (8, .int .i64 z2), (24, .slice A1 l1.length c1), (25, .int .i64 (l1.length : Int)), (26, .int .i64 (i1 : Int))] w) a hF
  clear hF a
  refine we_seq fun K10 hK10 => ?_
  refine we_region [(0, 0)] rfl ?_
  refine ge_batch [0] (ans := []) (vs := [(27, .bool (decide ((i1 : Int) < (l1.length : Int))))]) (l := []) (by kernel_rfl) trivial ?_
  refine ge_nil fun a hF => hK10 _ _ ?_ a hF
  refine we_seq fun K11 hK11 => ?_
  by_cases hc2 : (i1 : Int) < (l1.length : Int)
  · rw [if_pos hc2] at h
    refine we_known (t := 27) (b := decide ((i1 : Int) < (l1.length : Int))) (v := true) (by kernel_rfl) (decide_eq_true hc2) ?_
    refine we_true (by kernel_rfl) ?_
    refine we_skip fun a hF => hK11 _ _ ?_ a hF
    refine we_seq fun K12 hK12 => ?_
    refine we_block ?_
    refine we_seq fun K13 hK13 => ?_
    refine we_region [(0, 0), (1, 0), (2, 1), (3, 2)] rfl ?_
    rcases hx2 : l1[i1]? with _ | e1
    · rw [hx2] at h; cases h
    rw [hx2] at h
    simp only [] at h
    refine ge_index (d := 28) (ty := 0) (t := 82) (el := 85) (sz := 7) (m := l1.length) (c := c1) (x := (.tmp 24)) (y := (.tmp 26)) (A := A1) (k' := .i64) (j := (i1 : Int)) (jn := i1) (b0 := blkOf A1) (o0 := offOf A1) (by kernel_rfl) (by kernel_rfl) (by kernel_rfl) (by kernel_rfl) (by kernel_rfl) ((hS.rd hR1).eqSome (pos_of_get hx2)) rfl (lt_of_get hx2) ?_
    refine ge_batch [1] (ans := [.val (.string e1.Name), .val (.int .i64 e1.C), .val (.int .i64 e1.T), .val (.int .i64 e1.D), .val (.int .i64 e1.J), .val (.int .i64 e1.O), .val (.int .i64 e1.P)]) (vs := [(29, .agg #[.string e1.Name, .int .i64 e1.C, .int .i64 e1.T, .int .i64 e1.D, .int .i64 e1.J, .int .i64 e1.O, .int .i64 e1.P])]) (l := [.loaded ⟨blkOf A1, offOf A1 + i1 * 7, none⟩ (.string e1.Name), .loaded ⟨blkOf A1, offOf A1 + i1 * 7 + 1, none⟩ (.int .i64 e1.C), .loaded ⟨blkOf A1, offOf A1 + i1 * 7 + 2, none⟩ (.int .i64 e1.T), .loaded ⟨blkOf A1, offOf A1 + i1 * 7 + 3, none⟩ (.int .i64 e1.D), .loaded ⟨blkOf A1, offOf A1 + i1 * 7 + 4, none⟩ (.int .i64 e1.J), .loaded ⟨blkOf A1, offOf A1 + i1 * 7 + 5, none⟩ (.int .i64 e1.O), .loaded ⟨blkOf A1, offOf A1 + i1 * 7 + 6, none⟩ (.int .i64 e1.P)]) (by kernel_rfl) ⟨RdL.cell (j := 0) (hS.rd hR1) hx2 rfl, RdL.cell (j := 1) (hS.rd hR1) hx2 rfl, RdL.cell (j := 2) (hS.rd hR1) hx2 rfl, RdL.cell (j := 3) (hS.rd hR1) hx2 rfl, RdL.cell (j := 4) (hS.rd hR1) hx2 rfl, RdL.cell (j := 5) (hS.rd hR1) hx2 rfl, RdL.cell (j := 6) (hS.rd hR1) hx2 rfl, trivial⟩ ?_
    refine ge_new (d := some 10) (o := .cells #[.string (⟨#[]⟩), .int .i64 0, .int .i64 0, .int .i64 0, .int .i64 0, .int .i64 0, .int .i64 0] 85) (v := fun b => .pointer (some ⟨b, 0, none⟩)) hS (fun b => by kernel_rfl) fun b2 w2 hx3 hS2 => ?_
    refine ge_set (b := b2) (j := 0) (cs := #[.string (⟨#[]⟩), .int .i64 0, .int .i64 0, .int .i64 0, .int .i64 0, .int .i64 0, .int .i64 0]) (t := 85) (vs := [.string e1.Name, .int .i64 e1.C, .int .i64 e1.T, .int .i64 e1.D, .int .i64 e1.J, .int .i64 e1.O, .int .i64 e1.P]) hS2 (by kernel_rfl) rfl rfl fun w3 hS3 => ?_
    have hS4 : St w0 w3 [Own.blk b2 (.cells #[.string e1.Name, .int .i64 e1.C, .int .i64 e1.T, .int .i64 e1.D, .int .i64 e1.J, .int .i64 e1.O, .int .i64 e1.P] 85 (0, 0)), Own.blk b1 (.cells #[.string x0.Name, .int .i64 x0.C, .int .i64 x0.T, .int .i64 x0.D, .int .i64 x0.J, .int .i64 x0.O, .int .i64 x0.P] 85 (0, 0))] := hS3
    refine ge_nil fun a hF => hK13 _ _ ?_ a hF
    refine we_draws (by kernel_rfl) [(0, 0), (1, 0), (2, 0), (3, 0), (4, 0), (5, 0), (6, 0), (8, 0), (9, 0), (7, 1), (10, 0), (11, 0), (12, 0)] (by kernel_rfl) ?_
    have hS5 := hS4.drew
    rcases hq1 : punctualref_up.f (IntKind.i64.wrap (z1 + e1.J)) e1.T with _ | r1
    · rw [hq1] at h; cases h
    rw [hq1] at h
    simp only [] at h
    refine ge_batch [0, 1, 2, 3, 4, 5, 6, 8, 9] (ans := [.val (.int .i64 e1.J), .val (.int .i64 e1.T), .val (.int .i64 e1.C)]) (vs := [(39, .int .i64 e1.C), (38, .pointer (some ⟨b2, 1, none⟩)), (36, .int .i64 e1.T), (35, .pointer (some ⟨b2, 2, none⟩)), (34, .int .i64 (IntKind.i64.wrap (z1 + e1.J))), (33, .int .i64 e1.J), (32, .pointer (some ⟨b2, 4, none⟩)), (31, .int .i64 z1), (30, .int .i64 z2)]) (l := [.loaded ⟨b2, 4, none⟩ (.int .i64 e1.J), .loaded ⟨b2, 2, none⟩ (.int .i64 e1.T), .loaded ⟨b2, 1, none⟩ (.int .i64 e1.C)]) (by kernel_rfl) ⟨hS5.cell 0 rfl rfl, hS5.cell 0 rfl rfl, hS5.cell 0 rfl rfl, trivial⟩ ?_
    refine ge_call (d := some 37) (f := 69) (args := #[.int .i64 (IntKind.i64.wrap (z1 + e1.J)), .int .i64 e1.T]) (by kernel_rfl) (punctualref_up_ok (IntKind.i64.wrap (z1 + e1.J)) e1.T _ _ hq1) ?_
    rintro _ w4 ⟨rfl, hS6⟩
    refine ⟨_, rfl, hS6.below, ?_⟩
    have hS7 := hS5.call hS6
    refine ge_batch [10, 11, 12] (ans := []) (vs := [(8, .int .i64 (IntKind.i64.wrap (z2 + (IntKind.i64.wrap (r1 * e1.C))))), (41, .int .i64 (IntKind.i64.wrap (z2 + (IntKind.i64.wrap (r1 * e1.C))))), (40, .int .i64 (IntKind.i64.wrap (r1 * e1.C)))]) (l := []) (by kernel_rfl) trivial ?_
    refine ge_nil fun a hF => hK12 _ _ ?_ a hF
    refine we_region [(0, 0), (1, 0)] rfl ?_
    refine ge_addn (d := 42) (ty := 3) (x := (.tmp 26)) (y := (.const (.int .i64 1))) (t := 3) (t2 := 3) (k := .i64) (m := i1) (by kernel_rfl) (by kernel_rfl) (by kernel_rfl) (by have h0 := hR1.small; omega) ?_
    refine ge_batch [1] (ans := []) (vs := [(26, .int .i64 ((i1 + 1 : Nat) : Int))]) (l := []) (by kernel_rfl) trivial ?_
    have hS8 := hS7.bring 1 rfl
    have hS9 := hS8.takeN 1
    obtain rfl := Option.some.inj h
    exact ge_nil fun a hF => hQ _ _ _ (Outs.again ⟨hS9, hF.weaken ⟨by kernel_rfl, by kernel_rfl, by kernel_rfl, by kernel_rfl, by kernel_rfl, by kernel_rfl, by kernel_rfl, by kernel_rfl, trivial⟩⟩)
  · rw [if_neg hc2] at h
    refine we_known (t := 27) (b := decide ((i1 : Int) < (l1.length : Int))) (v := false) (by kernel_rfl) (decide_eq_false hc2) ?_
    refine we_false (by kernel_rfl) ?_
    obtain rfl := Option.some.inj h
    exact we_exit fun a hF => hQ _ _ _ (Outs.out nofun (Exits.here ⟨hS, hF.weaken ⟨by kernel_rfl, by kernel_rfl, by kernel_rfl, by kernel_rfl, by kernel_rfl, trivial⟩⟩))
abbrev punctualref_AtWorst.A0 (K : Nat) (w0 : World) (x0 : STask) (l1 : List STask) (A1 : Option Addr) (c1 : Nat) (x2 : Int) (hR1 : RdL w0 A1 l1) (hL1 : l1.length ≤ c1) (b1 : Nat) : Int → Act → World → Prop := fun (s : Int) a w => St w0 w [Own.blk b1 (.cells #[.string x0.Name, .int .i64 x0.C, .int .i64 x0.T, .int .i64 x0.D, .int .i64 x0.J, .int .i64 x0.O, .int .i64 x0.P] 85 (0, 0))] ∧ Frm 50 a [(1, .slice A1 l1.length c1), (2, .int .i64 x2), (3, .pointer (some ⟨b1, 0, none⟩)), (7, .int .i64 s)]
abbrev punctualref_AtWorst.B0 (K : Nat) (w0 : World) (x0 : STask) (l1 : List STask) (A1 : Option Addr) (c1 : Nat) (x2 : Int) (hR1 : RdL w0 A1 l1) (hL1 : l1.length ≤ c1) (b1 : Nat) : (Unit ⊕ Int) → Exit → Act → World → Prop := Exits 0 (fun (s : Unit) a w => St w0 w [] ∧ Frm 50 a []) (Rets Tryd.prog Tryd.f112 (punctualref_AtWorst.Post w0))
theorem punctualref_AtWorst_r0 (K : Nat) (w0 : World) (x0 : STask) (l1 : List STask) (A1 : Option Addr) (c1 : Nat) (x2 : Int) (hR1 : RdL w0 A1 l1) (hL1 : l1.length ≤ c1) (b1 : Nat) (s : Int) (o : Int ⊕ (Unit ⊕ Int)) (h : punctualref_AtWorst.r0 K x0 l1 x2 s = some o) (a : Act) (w : World) (hA : punctualref_AtWorst.A0 K w0 x0 l1 A1 c1 x2 hR1 hL1 b1 s a w) (Q : Exit → Act → World → Prop) (hQ : ∀ x a w, Outs (punctualref_AtWorst.A0 K w0 x0 l1 A1 c1 x2 hR1 hL1 b1) (punctualref_AtWorst.B0 K w0 x0 l1 A1 c1 x2 hR1 hL1 b1) o x a w → Q x a w) : (subF Tryd.f112 [1, 0, 1, 0, 0]).wp Tryd.prog Q a w := by
  obtain ⟨z1, hs⟩ : ∃ z, z = s := ⟨s, rfl⟩
  subst hs
  obtain ⟨hS, hF⟩ := hA
  replace hS : St w0 w [Own.blk b1 (.cells #[.string x0.Name, .int .i64 x0.C, .int .i64 x0.T, .int .i64 x0.D, .int .i64 x0.J, .int .i64 x0.O, .int .i64 x0.P] 85 (0, 0))] := hS
  simp only [punctualref_AtWorst.r0] at h
  refine (?_ : WE Tryd.prog 50 (subF Tryd.f112 [1, 0, 1, 0, 0]) Q [(1, .slice A1 l1.length c1), (2, .int .i64 x2), (3, .pointer (some ⟨b1, 0, none⟩)), (7, .int .i64 z1)] w) a hF
  clear hF a
  refine we_seq fun K4 hK4 => ?_
  refine we_seq fun K5 hK5 => ?_
  refine we_region [(0, 0), (1, 0), (2, 0), (3, 0), (4, 0), (5, 0), (6, 0)] rfl ?_
  refine ge_batch [0, 1, 2, 3, 4, 5, 6] (ans := [.val (.int .i64 x0.J), .val (.int .i64 x0.D)]) (vs := [(17, .bool (decide ((IntKind.i64.wrap (z1 + x0.J)) ≤ x0.D))), (16, .int .i64 x0.D), (15, .pointer (some ⟨b1, 3, none⟩)), (14, .int .i64 (IntKind.i64.wrap (z1 + x0.J))), (13, .int .i64 x0.J), (12, .pointer (some ⟨b1, 4, none⟩)), (11, .int .i64 z1)]) (l := [.loaded ⟨b1, 4, none⟩ (.int .i64 x0.J), .loaded ⟨b1, 3, none⟩ (.int .i64 x0.D)]) (by kernel_rfl) ⟨hS.cell 0 rfl rfl, hS.cell 0 rfl rfl, trivial⟩ ?_
  refine ge_nil fun a hF => hK5 _ _ ?_ a hF
  by_cases hc1 : (IntKind.i64.wrap (z1 + x0.J)) ≤ x0.D
  · rw [if_pos hc1] at h
    refine we_known (t := 17) (b := decide ((IntKind.i64.wrap (z1 + x0.J)) ≤ x0.D)) (v := true) (by kernel_rfl) (decide_eq_true hc1) ?_
    refine we_true (by kernel_rfl) ?_
    refine we_skip fun a hF => hK4 _ _ ?_ a hF
    refine we_seq fun K6 hK6 => ?_
    refine we_block ?_
    refine we_seq fun K7 hK7 => ?_
    refine we_region [(0, 0), (1, 0), (2, 0), (3, 0), (4, 0)] rfl ?_
    refine ge_batch [0, 1, 2, 3, 4] (ans := [.val (.int .i64 x0.C)]) (vs := [(8, .int .i64 (IntKind.i64.wrap (x0.C + x2))), (23, .int .i64 (IntKind.i64.wrap (x0.C + x2))), (22, .int .i64 x2), (21, .int .i64 x0.C), (20, .pointer (some ⟨b1, 1, none⟩))]) (l := [.loaded ⟨b1, 1, none⟩ (.int .i64 x0.C)]) (by kernel_rfl) ⟨hS.cell 0 rfl rfl, trivial⟩ ?_
    refine ge_nil fun a hF => hK7 _ _ ?_ a hF
    refine we_seq fun K8 hK8 => ?_
    refine we_seq fun K9 hK9 => ?_
    refine we_region [(0, 0), (1, 0), (2, 0)] rfl ?_
    refine ge_batch [0, 1, 2] (ans := []) (vs := [(26, .int .i64 0), (25, .int .i64 (l1.length : Int)), (24, .slice A1 l1.length c1)]) (l := []) (by kernel_rfl) trivial ?_
    refine ge_nil fun a hF => hK9 _ _ ?_ a hF
    refine we_block ?_
    rcases hq2 : iter (punctualref_AtWorst.r1 l1 z1) K (IntKind.i64.wrap (x0.C + x2), 0) with _ | (z4 | rr1)
    · rw [hq2] at h; cases h
    · rw [hq2] at h
      simp only [] at h
      refine we_iter (A := punctualref_AtWorst.A1 K w0 x0 l1 A1 c1 x2 hR1 hL1 b1 z1 hc1) (B := punctualref_AtWorst.B1 K w0 x0 l1 A1 c1 x2 hR1 hL1 b1 z1 hc1) hq2 (fun a hF => ⟨hS, hF.weaken ⟨by kernel_rfl, by kernel_rfl, by kernel_rfl, by kernel_rfl, by kernel_rfl, by kernel_rfl, by kernel_rfl, by kernel_rfl, trivial⟩⟩) (fun s o hf a w hA Q hQ => punctualref_AtWorst_r1 K w0 x0 l1 A1 c1 x2 hR1 hL1 b1 z1 hc1 s o hf a w hA Q hQ) ?_
      rintro _ a w5 _ ⟨rfl, hS10, hF⟩
      replace hS10 : St w0 w5 [Own.blk b1 (.cells #[.string x0.Name, .int .i64 x0.C, .int .i64 x0.T, .int .i64 x0.D, .int .i64 x0.J, .int .i64 x0.O, .int .i64 x0.P] 85 (0, 0))] := hS10
      refine hK8 [(1, .slice A1 l1.length c1), (2, .int .i64 x2), (3, .pointer (some ⟨b1, 0, none⟩)), (7, .int .i64 z1), (8, .int .i64 z4)] w5 ?_ a hF
      refine we_seq fun K14 hK14 => ?_
      refine we_region [(0, 0), (1, 0), (2, 0)] rfl ?_
      refine ge_batch [0, 1, 2] (ans := []) (vs := [(45, .bool (z4 == z1)), (44, .int .i64 z1), (43, .int .i64 z4)]) (l := []) (by kernel_rfl) trivial ?_
      refine ge_nil fun a hF => hK14 _ _ ?_ a hF
      by_cases hc3 : z4 = z1
      · rw [if_pos hc3] at h
        refine we_known (t := 45) (b := (z4 == z1)) (v := true) (by kernel_rfl) (beq_iff_eq.2 hc3) ?_
        refine we_true (by kernel_rfl) ?_
        refine we_seq fun K15 hK15 => ?_
        refine we_region [(0, 0), (1, 0), (2, 0), (3, 0), (4, 0)] rfl ?_
        refine ge_batch [0, 1, 2, 3, 4] (ans := [.val (.int .i64 x0.J)]) (vs := [(6, .int .i64 (IntKind.i64.wrap (z1 + x0.J))), (49, .int .i64 (IntKind.i64.wrap (z1 + x0.J))), (48, .int .i64 x0.J), (47, .pointer (some ⟨b1, 4, none⟩)), (46, .int .i64 z1)]) (l := [.loaded ⟨b1, 4, none⟩ (.int .i64 x0.J)]) (by kernel_rfl) ⟨hS10.cell 0 rfl rfl, trivial⟩ ?_
        refine ge_nil fun a hF => hK15 _ _ ?_ a hF
        have hS11 := hS10.takeN 0
        obtain rfl := Option.some.inj h
        exact we_ret fun a hF => hQ _ _ _ (Outs.out nofun (Exits.on ⟨rfl, (post_ret (rs := [.tmp 6]) (ans := []) (vs := [.int .i64 (IntKind.i64.wrap (z1 + x0.J))]) (l := []) rfl (by kernel_rfl) trivial ⟨rfl, hS11⟩) a hF⟩))
      · rw [if_neg hc3] at h
        refine we_known (t := 45) (b := (z4 == z1)) (v := false) (by kernel_rfl) (beq_eq_false_iff_ne.2 hc3) ?_
        refine we_false (by kernel_rfl) ?_
        refine we_skip fun a hF => hK6 _ _ ?_ a hF
        refine we_region [(0, 0), (1, 0), (2, 0)] rfl ?_
        refine ge_batch [0, 1, 2] (ans := []) (vs := [(7, .int .i64 (IntKind.i64.wrap (z1 + 1))), (19, .int .i64 (IntKind.i64.wrap (z1 + 1))), (18, .int .i64 z1)]) (l := []) (by kernel_rfl) trivial ?_
        obtain rfl := Option.some.inj h
        exact ge_nil fun a hF => hQ _ _ _ (Outs.again ⟨hS10, hF.weaken ⟨by kernel_rfl, by kernel_rfl, by kernel_rfl, by kernel_rfl, trivial⟩⟩)
    · rw [hq2] at h
      simp only [] at h
      refine we_iter (A := punctualref_AtWorst.A1 K w0 x0 l1 A1 c1 x2 hR1 hL1 b1 z1 hc1) (B := punctualref_AtWorst.B1 K w0 x0 l1 A1 c1 x2 hR1 hL1 b1 z1 hc1) hq2 (fun a hF => ⟨hS, hF.weaken ⟨by kernel_rfl, by kernel_rfl, by kernel_rfl, by kernel_rfl, by kernel_rfl, by kernel_rfl, by kernel_rfl, by kernel_rfl, trivial⟩⟩) (fun s o hf a w hA Q hQ => punctualref_AtWorst_r1 K w0 x0 l1 A1 c1 x2 hR1 hL1 b1 z1 hc1 s o hf a w hA Q hQ) ?_
      rintro _ a w1 _ ⟨rfl, hb⟩
      obtain rfl := Option.some.inj h
      exact hQ _ _ _ (Outs.out nofun (Exits.on ⟨rfl, hb⟩))
  · rw [if_neg hc1] at h
    refine we_known (t := 17) (b := decide ((IntKind.i64.wrap (z1 + x0.J)) ≤ x0.D)) (v := false) (by kernel_rfl) (decide_eq_false hc1) ?_
    refine we_false (by kernel_rfl) ?_
    have hS12 := hS.takeN 0
    obtain rfl := Option.some.inj h
    exact we_exit fun a hF => hQ _ _ _ (Outs.out nofun (Exits.here ⟨hS12, hF.weaken trivial⟩))
theorem punctualref_AtWorst_ok (K : Nat) (x0 : STask) (l1 : List STask) (A1 : Option Addr) (c1 : Nat) (x2 : Int) (w0 : World) (hR1 : RdL w0 A1 l1) (hL1 : l1.length ≤ c1) (r : Int) (h : punctualref_AtWorst.f K x0 l1 x2 = some r) :
    Calls Tryd.prog 112 #[.agg #[.string x0.Name, .int .i64 x0.C, .int .i64 x0.T, .int .i64 x0.D, .int .i64 x0.J, .int .i64 x0.O, .int .i64 x0.P], .slice A1 l1.length c1, .int .i64 x2] w0 (punctualref_AtWorst.Post w0 r) := by
  have hS := St.start w0
  unfold punctualref_AtWorst.f at h
  refine calls_enter (n := 50) (args := [.agg #[.string x0.Name, .int .i64 x0.C, .int .i64 x0.T, .int .i64 x0.D, .int .i64 x0.J, .int .i64 x0.O, .int .i64 x0.P], .slice A1 l1.length c1, .int .i64 x2]) (fn := Tryd.f112) rfl rfl rfl rfl ?_
  show WE _ _ _ _ [(0, .agg #[.string x0.Name, .int .i64 x0.C, .int .i64 x0.T, .int .i64 x0.D, .int .i64 x0.J, .int .i64 x0.O, .int .i64 x0.P]), (1, .slice A1 l1.length c1), (2, .int .i64 x2)] _
  refine we_seq fun K1 hK1 => ?_
  refine we_region [(0, 1), (1, 0)] rfl ?_
  refine ge_new (d := some 3) (o := .cells #[.string x0.Name, .int .i64 x0.C, .int .i64 x0.T, .int .i64 x0.D, .int .i64 x0.J, .int .i64 x0.O, .int .i64 x0.P] 85) (v := fun b => .pointer (some ⟨b, 0, none⟩)) hS (fun b => by kernel_rfl) fun b1 w1 hx1 hS1 => ?_
  refine ge_batch [1] (ans := []) (vs := [(6, .int .i64 0)]) (l := []) (by kernel_rfl) trivial ?_
  refine ge_nil fun a hF => hK1 _ _ ?_ a hF
  refine we_seq fun K2 hK2 => ?_
  refine we_seq fun K3 hK3 => ?_
  refine we_region [(0, 0)] rfl ?_
  refine ge_batch [0] (ans := []) (vs := [(7, .int .i64 1)]) (l := []) (by kernel_rfl) trivial ?_
  refine ge_nil fun a hF => hK3 _ _ ?_ a hF
  refine we_block ?_
  rcases hq3 : iter (punctualref_AtWorst.r0 K x0 l1 x2) K 1 with _ | (_ | rr2)
  · rw [hq3] at h; cases h
  · rw [hq3] at h
    simp only [] at h
    refine we_iter (A := punctualref_AtWorst.A0 K w0 x0 l1 A1 c1 x2 hR1 hL1 b1) (B := punctualref_AtWorst.B0 K w0 x0 l1 A1 c1 x2 hR1 hL1 b1) hq3 (fun a hF => ⟨hS1, hF.weaken ⟨by kernel_rfl, by kernel_rfl, by kernel_rfl, by kernel_rfl, trivial⟩⟩) (fun s o hf a w hA Q hQ => punctualref_AtWorst_r0 K w0 x0 l1 A1 c1 x2 hR1 hL1 b1 s o hf a w hA Q hQ) ?_
    rintro _ a w6 _ ⟨rfl, hS13, hF⟩
    replace hS13 : St w0 w6 [] := hS13
    refine hK2 [] w6 ?_ a hF
    refine we_seq fun K16 hK16 => ?_
    refine we_region [(0, 0)] rfl ?_
    refine ge_batch [0] (ans := []) (vs := [(6, .int .i64 0)]) (l := []) (by kernel_rfl) trivial ?_
    refine ge_nil fun a hF => hK16 _ _ ?_ a hF
    obtain rfl := Option.some.inj h
    exact we_ret (post_ret (rs := [.tmp 6]) (ans := []) (vs := [.int .i64 0]) (l := []) rfl (by kernel_rfl) trivial ⟨rfl, hS13⟩)
  · rw [hq3] at h
    simp only [] at h
    refine we_iter (A := punctualref_AtWorst.A0 K w0 x0 l1 A1 c1 x2 hR1 hL1 b1) (B := punctualref_AtWorst.B0 K w0 x0 l1 A1 c1 x2 hR1 hL1 b1) hq3 (fun a hF => ⟨hS1, hF.weaken ⟨by kernel_rfl, by kernel_rfl, by kernel_rfl, by kernel_rfl, trivial⟩⟩) (fun s o hf a w hA Q hQ => punctualref_AtWorst_r0 K w0 x0 l1 A1 c1 x2 hR1 hL1 b1 s o hf a w hA Q hQ) ?_
    rintro _ a w1 _ ⟨rfl, hb⟩
    obtain rfl := Option.some.inj h
    exact hb

/-! punctual/punctualref.ResponseOf -/
abbrev punctualref_ResponseOf.Post (w0 : World) (r : Int × SFault) (e : Ending) (w : World) : Prop := e = .returned (.tuple #[.int .i64 r.1, .agg #[.int .i64 r.2.Code, .int .i64 r.2.At]]) ∧ St w0 w []
def punctualref_ResponseOf.p0 (l0 : List STask) (x1 : Int) (x2 : Int) : Option (Unit ⊕ (Int × SFault)) :=
    if x1 < 0 then
      some (.inr (0, (punctualref_F.f 3 0)))
    else
      if x1 ≥ (l0.length : Int) then
        some (.inr (0, (punctualref_F.f 3 0)))
      else
        if x2 < 0 then
          some (.inr (0, (punctualref_F.f 3 0)))
        else
          if x2 > 10000 then
            some (.inr (0, (punctualref_F.f 3 0)))
          else
            some (.inl ())
def punctualref_ResponseOf.r1 (l0 : List STask) (x1 : Int) : (List STask) × Nat → Option (((List STask) × Nat) ⊕ ((List STask) ⊕ (Int × SFault)))
  | (m1, i1) =>
    if (i1 : Int) < (l0.length : Int) then
      match l0[i1]? with
      | none => none
      | some e1 =>
        if (i1 : Int) = x1 then
          some (.inl (m1, (i1 + 1)))
        else
          if 0 ≤ x1 then
            match l0[(x1).toNat]? with
            | none => none
            | some e2 =>
              if e1.P ≥ e2.P then
                if m1.length < 2199023255552 then
                  some (.inl ((m1 ++ [e1]), (i1 + 1)))
                else
                  none
              else
                some (.inl (m1, (i1 + 1)))
          else
            none
    else
      some (.inr (.inl m1))
def punctualref_ResponseOf.f (K : Nat) (l0 : List STask) (x1 : Int) (x2 : Int) : Option (Int × SFault) :=
  match punctualref_CheckFixed.f K l0 with
  | none => none
  | some r1 =>
    if r1.Code = 0 then
      match punctualref_ResponseOf.p0 l0 x1 x2 with
      | none => none
      | some (.inl _) =>
        match iter (punctualref_ResponseOf.r1 l0 x1) K (([] : List STask), 0) with
        | none => none
        | some (.inl m3) =>
          if 0 ≤ x1 then
            match l0[(x1).toNat]? with
            | none => none
            | some e3 =>
              match punctualref_AtWorst.f K e3 m3 x2 with
              | none => none
              | some r2 =>
                if r2 = 0 then
                  some (0, (punctualref_F.f 13 x1))
                else
                  some (r2, (⟨0, 0⟩ : SFault))
          else
            none
        | some (.inr rr1) =>
          some rr1
      | some (.inr rr2) =>
        some rr2
    else
      some (0, r1)
abbrev punctualref_ResponseOf.A0 (K : Nat) (w0 : World) (l0 : List STask) (A0 : Option Addr) (c0 : Nat) (x1 : Int) (x2 : Int) (hR0 : RdL w0 A0 l0) (hL0 : l0.length ≤ c0) (b1 : Nat) (r1 : SFault) (b2 : Nat) (hc1 : r1.Code = 0) : Unit → Act → World → Prop := fun (s : Unit) a w => St w0 w [Own.blk b1 (.cells #[.int .i64 0, .int .i64 0] 27 (0, 0))] ∧ Frm 74 a [(0, .slice A0 l0.length c0), (1, .int .i64 x1), (2, .int .i64 x2), (7, .pointer (some ⟨b1, 0, none⟩))]
abbrev punctualref_ResponseOf.B0 (K : Nat) (w0 : World) (l0 : List STask) (A0 : Option Addr) (c0 : Nat) (x1 : Int) (x2 : Int) (hR0 : RdL w0 A0 l0) (hL0 : l0.length ≤ c0) (b1 : Nat) (r1 : SFault) (b2 : Nat) (hc1 : r1.Code = 0) : (Int × SFault) → Exit → Act → World → Prop := Rets Tryd.prog Tryd.f84 (punctualref_ResponseOf.Post w0)
theorem punctualref_ResponseOf_p0 (K : Nat) (w0 : World) (l0 : List STask) (A0 : Option Addr) (c0 : Nat) (x1 : Int) (x2 : Int) (hR0 : RdL w0 A0 l0) (hL0 : l0.length ≤ c0) (b1 : Nat) (r1 : SFault) (b2 : Nat) (hc1 : r1.Code = 0) (o : Unit ⊕ (Int × SFault)) (h : punctualref_ResponseOf.p0 l0 x1 x2 = some o) (w : World) (hS : St w0 w [Own.blk b2 (.cells #[.int .i64 r1.Code, .int .i64 r1.At] 27 (0, 0)), Own.blk b1 (.cells #[.int .i64 0, .int .i64 0] 27 (0, 0))]) (Q : Exit → Act → World → Prop) (hQ : ∀ x a w, Outs (punctualref_ResponseOf.A0 K w0 l0 A0 c0 x1 x2 hR0 hL0 b1 r1 b2 hc1) (punctualref_ResponseOf.B0 K w0 l0 A0 c0 x1 x2 hR0 hL0 b1 r1 b2 hc1) o x a w → Q x a w) : WE Tryd.prog 74 (subF Tryd.f84 [1, 1, 0]) Q [(0, .slice A0 l0.length c0), (1, .int .i64 x1), (2, .int .i64 x2), (6, .int .i64 0), (7, .pointer (some ⟨b1, 0, none⟩)), (8, .pointer (some ⟨b2, 0, none⟩)), (13, .slice A0 l0.length c0), (14, .agg #[.int .i64 r1.Code, .int .i64 r1.At]), (15, .pointer (some ⟨b2, 0, none⟩)), (16, .int .i64 r1.Code), (17, .bool false)] w := by
  simp only [punctualref_ResponseOf.p0] at h
  refine we_seq fun K6 hK6 => ?_
  refine we_region [(0, 0), (1, 0), (2, 0), (3, 0), (4, 0), (5, 0), (6, 0), (7, 0), (8, 0), (9, 0), (10, 0), (11, 0), (12, 0), (13, 0), (14, 0), (15, 0)] rfl ?_
  refine ge_batch [0, 1, 2] (ans := []) (vs := [(21, .bool (decide (x1 < 0))), (20, .bool (decide (x1 < 0))), (19, .int .i64 x1)]) (l := []) (by kernel_rfl) trivial ?_
  by_cases hc2 : x1 < 0
  · rw [if_pos hc2] at h
    refine ge_known (t := 21) (b := decide (x1 < 0)) (c := true) (by kernel_rfl) (decide_eq_true hc2) ?_
    refine ge_batch [3, 4, 5, 6, 7, 8, 9, 10, 11, 12, 13, 14, 15] (ans := []) (vs := [(34, .bool true), (33, undef), (32, undef), (31, .bool true), (30, .bool true), (29, undef), (28, undef), (27, .bool true), (26, .bool true), (25, undef), (24, undef), (23, undef), (22, undef)]) (l := []) (by kernel_rfl) trivial ?_
    refine ge_nil fun a hF => hK6 _ _ ?_ a hF
    refine we_true (by kernel_rfl) ?_
    refine we_seq fun K7 hK7 => ?_
    refine we_region [(0, 1), (1, 0), (2, 2)] rfl ?_
    refine ge_call (d := some 35) (f := 61) (args := #[.int .i64 3, .int .i64 0]) (by kernel_rfl) (punctualref_F_ok 3 0 _ _ rfl) ?_
    rintro _ w5 ⟨rfl, hS7⟩
    refine ⟨_, rfl, hS7.below, ?_⟩
    have hS8 := hS.call hS7
    refine ge_batch [1] (ans := []) (vs := [(6, .int .i64 0)]) (l := []) (by kernel_rfl) trivial ?_
    have hS9 := hS8.bring 1 rfl
    refine ge_set (b := b1) (j := 0) (cs := #[.int .i64 0, .int .i64 0]) (t := 27) (vs := [.int .i64 ((punctualref_F.f 3 0).Code), .int .i64 ((punctualref_F.f 3 0).At)]) hS9 (by kernel_rfl) rfl rfl fun w6 hS10 => ?_
    have hS11 : St w0 w6 [Own.blk b1 (.cells #[.int .i64 ((punctualref_F.f 3 0).Code), .int .i64 ((punctualref_F.f 3 0).At)] 27 (0, 0)), Own.blk b2 (.cells #[.int .i64 r1.Code, .int .i64 r1.At] 27 (0, 0))] := hS10
    refine ge_nil fun a hF => hK7 _ _ ?_ a hF
    have hS12 := hS11.takeN 0
    obtain rfl := Option.some.inj h
    exact we_ret fun a hF => hQ _ _ _ (Outs.out nofun ⟨rfl, (post_ret (rs := [.tmp 6, .cell 7 27]) (ans := [.val (.int .i64 ((punctualref_F.f 3 0).Code)), .val (.int .i64 ((punctualref_F.f 3 0).At))]) (vs := [.int .i64 0, .agg #[.int .i64 ((punctualref_F.f 3 0).Code), .int .i64 ((punctualref_F.f 3 0).At)]]) (l := [.loaded ⟨b1, 0, none⟩ (.int .i64 ((punctualref_F.f 3 0).Code)), .loaded ⟨b1, 1, none⟩ (.int .i64 ((punctualref_F.f 3 0).At))]) rfl (by kernel_rfl) ⟨hS11.cell 0 rfl rfl, hS11.cell 0 rfl rfl, trivial⟩ ⟨rfl, hS12⟩) a hF⟩)
  · rw [if_neg hc2] at h
    refine ge_known (t := 21) (b := decide (x1 < 0)) (c := false) (by kernel_rfl) (decide_eq_false hc2) ?_
    refine ge_batch [3, 4, 5, 6, 7, 8] (ans := []) (vs := [(27, .bool (decide (x1 ≥ (l0.length : Int)))), (26, .bool (decide (x1 ≥ (l0.length : Int)))), (25, .bool (decide (x1 ≥ (l0.length : Int)))), (24, .int .i64 (l0.length : Int)), (23, .slice A0 l0.length c0), (22, .int .i64 x1)]) (l := []) (by kernel_rfl) trivial ?_
    by_cases hc3 : x1 ≥ (l0.length : Int)
    · rw [if_pos hc3] at h
      refine ge_known (t := 27) (b := decide (x1 ≥ (l0.length : Int))) (c := true) (by kernel_rfl) (decide_eq_true hc3) ?_
      refine ge_batch [9, 10, 11, 12, 13, 14, 15] (ans := []) (vs := [(34, .bool true), (33, undef), (32, undef), (31, .bool true), (30, .bool true), (29, undef), (28, undef)]) (l := []) (by kernel_rfl) trivial ?_
      refine ge_nil fun a hF => hK6 _ _ ?_ a hF
      refine we_true (by kernel_rfl) ?_
      refine we_seq fun K8 hK8 => ?_
      refine we_region [(0, 1), (1, 0), (2, 2)] rfl ?_
      refine ge_call (d := some 35) (f := 61) (args := #[.int .i64 3, .int .i64 0]) (by kernel_rfl) (punctualref_F_ok 3 0 _ _ rfl) ?_
      rintro _ w7 ⟨rfl, hS13⟩
      refine ⟨_, rfl, hS13.below, ?_⟩
      have hS14 := hS.call hS13
      refine ge_batch [1] (ans := []) (vs := [(6, .int .i64 0)]) (l := []) (by kernel_rfl) trivial ?_
      have hS15 := hS14.bring 1 rfl
      refine ge_set (b := b1) (j := 0) (cs := #[.int .i64 0, .int .i64 0]) (t := 27) (vs := [.int .i64 ((punctualref_F.f 3 0).Code), .int .i64 ((punctualref_F.f 3 0).At)]) hS15 (by kernel_rfl) rfl rfl fun w8 hS16 => ?_
      have hS17 : St w0 w8 [Own.blk b1 (.cells #[.int .i64 ((punctualref_F.f 3 0).Code), .int .i64 ((punctualref_F.f 3 0).At)] 27 (0, 0)), Own.blk b2 (.cells #[.int .i64 r1.Code, .int .i64 r1.At] 27 (0, 0))] := hS16
      refine ge_nil fun a hF => hK8 _ _ ?_ a hF
      have hS18 := hS17.takeN 0
      obtain rfl := Option.some.inj h
      exact we_ret fun a hF => hQ _ _ _ (Outs.out nofun ⟨rfl, (post_ret (rs := [.tmp 6, .cell 7 27]) (ans := [.val (.int .i64 ((punctualref_F.f 3 0).Code)), .val (.int .i64 ((punctualref_F.f 3 0).At))]) (vs := [.int .i64 0, .agg #[.int .i64 ((punctualref_F.f 3 0).Code), .int .i64 ((punctualref_F.f 3 0).At)]]) (l := [.loaded ⟨b1, 0, none⟩ (.int .i64 ((punctualref_F.f 3 0).Code)), .loaded ⟨b1, 1, none⟩ (.int .i64 ((punctualref_F.f 3 0).At))]) rfl (by kernel_rfl) ⟨hS17.cell 0 rfl rfl, hS17.cell 0 rfl rfl, trivial⟩ ⟨rfl, hS18⟩) a hF⟩)
    · rw [if_neg hc3] at h
      refine ge_known (t := 27) (b := decide (x1 ≥ (l0.length : Int))) (c := false) (by kernel_rfl) (decide_eq_false hc3) ?_
      refine ge_batch [9, 10, 11, 12] (ans := []) (vs := [(31, .bool (decide (x2 < 0))), (30, .bool (decide (x2 < 0))), (29, .bool (decide (x2 < 0))), (28, .int .i64 x2)]) (l := []) (by kernel_rfl) trivial ?_
      by_cases hc4 : x2 < 0
      · rw [if_pos hc4] at h
        refine ge_known (t := 31) (b := decide (x2 < 0)) (c := true) (by kernel_rfl) (decide_eq_true hc4) ?_
        refine ge_batch [13, 14, 15] (ans := []) (vs := [(34, .bool true), (33, undef), (32, undef)]) (l := []) (by kernel_rfl) trivial ?_
        refine ge_nil fun a hF => hK6 _ _ ?_ a hF
        refine we_true (by kernel_rfl) ?_
        refine we_seq fun K9 hK9 => ?_
        refine we_region [(0, 1), (1, 0), (2, 2)] rfl ?_
        refine ge_call (d := some 35) (f := 61) (args := #[.int .i64 3, .int .i64 0]) (by kernel_rfl) (punctualref_F_ok 3 0 _ _ rfl) ?_
        rintro _ w9 ⟨rfl, hS19⟩
        refine ⟨_, rfl, hS19.below, ?_⟩
        have hS20 := hS.call hS19
        refine ge_batch [1] (ans := []) (vs := [(6, .int .i64 0)]) (l := []) (by kernel_rfl) trivial ?_
        have hS21 := hS20.bring 1 rfl
        refine ge_set (b := b1) (j := 0) (cs := #[.int .i64 0, .int .i64 0]) (t := 27) (vs := [.int .i64 ((punctualref_F.f 3 0).Code), .int .i64 ((punctualref_F.f 3 0).At)]) hS21 (by kernel_rfl) rfl rfl fun w10 hS22 => ?_
        have hS23 : St w0 w10 [Own.blk b1 (.cells #[.int .i64 ((punctualref_F.f 3 0).Code), .int .i64 ((punctualref_F.f 3 0).At)] 27 (0, 0)), Own.blk b2 (.cells #[.int .i64 r1.Code, .int .i64 r1.At] 27 (0, 0))] := hS22
        refine ge_nil fun a hF => hK9 _ _ ?_ a hF
        have hS24 := hS23.takeN 0
        obtain rfl := Option.some.inj h
        exact we_ret fun a hF => hQ _ _ _ (Outs.out nofun ⟨rfl, (post_ret (rs := [.tmp 6, .cell 7 27]) (ans := [.val (.int .i64 ((punctualref_F.f 3 0).Code)), .val (.int .i64 ((punctualref_F.f 3 0).At))]) (vs := [.int .i64 0, .agg #[.int .i64 ((punctualref_F.f 3 0).Code), .int .i64 ((punctualref_F.f 3 0).At)]]) (l := [.loaded ⟨b1, 0, none⟩ (.int .i64 ((punctualref_F.f 3 0).Code)), .loaded ⟨b1, 1, none⟩ (.int .i64 ((punctualref_F.f 3 0).At))]) rfl (by kernel_rfl) ⟨hS23.cell 0 rfl rfl, hS23.cell 0 rfl rfl, trivial⟩ ⟨rfl, hS24⟩) a hF⟩)
      · rw [if_neg hc4] at h
        refine ge_known (t := 31) (b := decide (x2 < 0)) (c := false) (by kernel_rfl) (decide_eq_false hc4) ?_
        refine ge_batch [13, 14, 15] (ans := []) (vs := [(34, .bool (decide (x2 > 10000))), (33, .bool (decide (x2 > 10000))), (32, .int .i64 x2)]) (l := []) (by kernel_rfl) trivial ?_
        refine ge_nil fun a hF => hK6 _ _ ?_ a hF
        by_cases hc5 : x2 > 10000
        · rw [if_pos hc5] at h
          refine we_known (t := 34) (b := decide (x2 > 10000)) (v := true) (by kernel_rfl) (decide_eq_true hc5) ?_
          refine we_true (by kernel_rfl) ?_
          refine we_seq fun K10 hK10 => ?_
          refine we_region [(0, 1), (1, 0), (2, 2)] rfl ?_
          refine ge_call (d := some 35) (f := 61) (args := #[.int .i64 3, .int .i64 0]) (by kernel_rfl) (punctualref_F_ok 3 0 _ _ rfl) ?_
          rintro _ w11 ⟨rfl, hS25⟩
          refine ⟨_, rfl, hS25.below, ?_⟩
          have hS26 := hS.call hS25
          refine ge_batch [1] (ans := []) (vs := [(6, .int .i64 0)]) (l := []) (by kernel_rfl) trivial ?_
          have hS27 := hS26.bring 1 rfl
          refine ge_set (b := b1) (j := 0) (cs := #[.int .i64 0, .int .i64 0]) (t := 27) (vs := [.int .i64 ((punctualref_F.f 3 0).Code), .int .i64 ((punctualref_F.f 3 0).At)]) hS27 (by kernel_rfl) rfl rfl fun w12 hS28 => ?_
          have hS29 : St w0 w12 [Own.blk b1 (.cells #[.int .i64 ((punctualref_F.f 3 0).Code), .int .i64 ((punctualref_F.f 3 0).At)] 27 (0, 0)), Own.blk b2 (.cells #[.int .i64 r1.Code, .int .i64 r1.At] 27 (0, 0))] := hS28
          refine ge_nil fun a hF => hK10 _ _ ?_ a hF
          have hS30 := hS29.takeN 0
          obtain rfl := Option.some.inj h
          exact we_ret fun a hF => hQ _ _ _ (Outs.out nofun ⟨rfl, (post_ret (rs := [.tmp 6, .cell 7 27]) (ans := [.val (.int .i64 ((punctualref_F.f 3 0).Code)), .val (.int .i64 ((punctualref_F.f 3 0).At))]) (vs := [.int .i64 0, .agg #[.int .i64 ((punctualref_F.f 3 0).Code), .int .i64 ((punctualref_F.f 3 0).At)]]) (l := [.loaded ⟨b1, 0, none⟩ (.int .i64 ((punctualref_F.f 3 0).Code)), .loaded ⟨b1, 1, none⟩ (.int .i64 ((punctualref_F.f 3 0).At))]) rfl (by kernel_rfl) ⟨hS29.cell 0 rfl rfl, hS29.cell 0 rfl rfl, trivial⟩ ⟨rfl, hS30⟩) a hF⟩)
        · rw [if_neg hc5] at h
          refine we_known (t := 34) (b := decide (x2 > 10000)) (v := false) (by kernel_rfl) (decide_eq_false hc5) ?_
          refine we_false (by kernel_rfl) ?_
          have hS31 := hS.bring 1 rfl
          have hS32 := hS31.takeN 1
          obtain rfl := Option.some.inj h
          exact we_skip fun a hF => hQ _ _ _ (Outs.again ⟨hS32, hF.weaken ⟨by kernel_rfl, by kernel_rfl, by kernel_rfl, by kernel_rfl, trivial⟩⟩)
abbrev punctualref_ResponseOf.A1 (K : Nat) (w0 : World) (l0 : List STask) (A0 : Option Addr) (c0 : Nat) (x1 : Int) (x2 : Int) (hR0 : RdL w0 A0 l0) (hL0 : l0.length ≤ c0) (b1 : Nat) (r1 : SFault) (b2 : Nat) (hc1 : r1.Code = 0) : ((List STask) × Nat) → Act → World → Prop := fun (s : (List STask) × Nat) a w => ∃ (v1 : Value), St w0 w [Own.blk b1 (.cells #[.int .i64 0, .int .i64 0] 27 (0, 0)), Own.of v1 85 s.1] ∧ Frm 74 a [(0, .slice A0 l0.length c0), (1, .int .i64 x1), (2, .int .i64 x2), (7, .pointer (some ⟨b1, 0, none⟩)), (9, v1), (36, .slice A0 l0.length c0), (37, .int .i64 (l0.length : Int)), (38, .int .i64 (s.2 : Int))]
abbrev punctualref_ResponseOf.B1 (K : Nat) (w0 : World) (l0 : List STask) (A0 : Option Addr) (c0 : Nat) (x1 : Int) (x2 : Int) (hR0 : RdL w0 A0 l0) (hL0 : l0.length ≤ c0) (b1 : Nat) (r1 : SFault) (b2 : Nat) (hc1 : r1.Code = 0) : ((List STask) ⊕ (Int × SFault)) → Exit → Act → World → Prop := Exits 0 (fun (s : (List STask)) a w => ∃ (v2 : Value), St w0 w [Own.blk b1 (.cells #[.int .i64 0, .int .i64 0] 27 (0, 0)), Own.of v2 85 s] ∧ Frm 74 a [(0, .slice A0 l0.length c0), (1, .int .i64 x1), (2, .int .i64 x2), (7, .pointer (some ⟨b1, 0, none⟩)), (9, v2)]) (Rets Tryd.prog Tryd.f84 (punctualref_ResponseOf.Post w0))
theorem punctualref_ResponseOf_r1 (K : Nat) (w0 : World) (l0 : List STask) (A0 : Option Addr) (c0 : Nat) (x1 : Int) (x2 : Int) (hR0 : RdL w0 A0 l0) (hL0 : l0.length ≤ c0) (b1 : Nat) (r1 : SFault) (b2 : Nat) (hc1 : r1.Code = 0) (s : (List STask) × Nat) (o : ((List STask) × Nat) ⊕ ((List STask) ⊕ (Int × SFault))) (h : punctualref_ResponseOf.r1 l0 x1 s = some o) (a : Act) (w : World) (hA : punctualref_ResponseOf.A1 K w0 l0 A0 c0 x1 x2 hR0 hL0 b1 r1 b2 hc1 s a w) (Q : Exit → Act → World → Prop) (hQ : ∀ x a w, Outs (punctualref_ResponseOf.A1 K w0 l0 A0 c0 x1 x2 hR0 hL0 b1 r1 b2 hc1) (punctualref_ResponseOf.B1 K w0 l0 A0 c0 x1 x2 hR0 hL0 b1 r1 b2 hc1) o x a w → Q x a w) : (subF Tryd.f84 [1, 1, 1, 1, 0, 1, 0, 0]).wp Tryd.prog Q a w := by
  obtain ⟨m1, i1⟩ := s
  obtain ⟨v1, hS, hF⟩ := hA
  replace hS : St w0 w [Own.blk b1 (.cells #[.int .i64 0, .int .i64 0] 27 (0, 0)), Own.of v1 85 m1] := hS
  simp only [punctualref_ResponseOf.r1] at h
  refine (?_ : WE Tryd.prog 74 (subF Tryd.f84 [1, 1, 1, 1, 0, 1, 0, 0]) Q [(0, .slice A0 l0.length c0), (1, .int .i64 x1), (2, .int .i64 x2), (7, .pointer (some ⟨b1, 0, none⟩)), (9, v1), (36, .slice A0 l0.length c0), (37, .int .i64 (l0.length : Int)), (38, .int .i64 (i1 : Int))] w) a hF
  clear hF a
  refine we_seq fun K14 hK14 => ?_
  refine we_region [(0, 0)] rfl ?_
  refine ge_batch [0] (ans := []) (vs := [(39, .bool (decide ((i1 : Int) < (l0.length : Int))))]) (l := []) (by kernel_rfl) trivial ?_
  refine ge_nil fun a hF => hK14 _ _ ?_ a hF
  refine we_seq fun K15 hK15 => ?_
  by_cases hc6 : (i1 : Int) < (l0.length : Int)
  · rw [if_pos hc6] at h
    refine we_known (t := 39) (b := decide ((i1 : Int) < (l0.length : Int))) (v := true) (by kernel_rfl) (decide_eq_true hc6) ?_
    refine we_true (by kernel_rfl) ?_
    refine we_skip fun a hF => hK15 _ _ ?_ a hF
    refine we_seq fun K16 hK16 => ?_
    refine we_block ?_
    refine we_seq fun K17 hK17 => ?_
    refine we_region [(0, 0), (1, 0), (2, 0), (3, 1), (4, 0), (5, 2)] rfl ?_
    refine ge_batch [0] (ans := []) (vs := [(40, .int .i64 (i1 : Int))]) (l := []) (by kernel_rfl) trivial ?_
    rcases hx3 : l0[i1]? with _ | e1
    · rw [hx3] at h; cases h
    rw [hx3] at h
    simp only [] at h
    refine ge_index (d := 41) (ty := 0) (t := 82) (el := 85) (sz := 7) (m := l0.length) (c := c0) (x := (.tmp 36)) (y := (.tmp 38)) (A := A0) (k' := .i64) (j := (i1 : Int)) (jn := i1) (b0 := blkOf A0) (o0 := offOf A0) (by kernel_rfl) (by kernel_rfl) (by kernel_rfl) (by kernel_rfl) (by kernel_rfl) ((hS.rd hR0).eqSome (pos_of_get hx3)) rfl (lt_of_get hx3) ?_
    refine ge_batch [2] (ans := [.val (.string e1.Name), .val (.int .i64 e1.C), .val (.int .i64 e1.T), .val (.int .i64 e1.D), .val (.int .i64 e1.J), .val (.int .i64 e1.O), .val (.int .i64 e1.P)]) (vs := [(42, .agg #[.string e1.Name, .int .i64 e1.C, .int .i64 e1.T, .int .i64 e1.D, .int .i64 e1.J, .int .i64 e1.O, .int .i64 e1.P])]) (l := [.loaded ⟨blkOf A0, offOf A0 + i1 * 7, none⟩ (.string e1.Name), .loaded ⟨blkOf A0, offOf A0 + i1 * 7 + 1, none⟩ (.int .i64 e1.C), .loaded ⟨blkOf A0, offOf A0 + i1 * 7 + 2, none⟩ (.int .i64 e1.T), .loaded ⟨blkOf A0, offOf A0 + i1 * 7 + 3, none⟩ (.int .i64 e1.D), .loaded ⟨blkOf A0, offOf A0 + i1 * 7 + 4, none⟩ (.int .i64 e1.J), .loaded ⟨blkOf A0, offOf A0 + i1 * 7 + 5, none⟩ (.int .i64 e1.O), .loaded ⟨blkOf A0, offOf A0 + i1 * 7 + 6, none⟩ (.int .i64 e1.P)]) (by kernel_rfl) ⟨RdL.cell (j := 0) (hS.rd hR0) hx3 rfl, RdL.cell (j := 1) (hS.rd hR0) hx3 rfl, RdL.cell (j := 2) (hS.rd hR0) hx3 rfl, RdL.cell (j := 3) (hS.rd hR0) hx3 rfl, RdL.cell (j := 4) (hS.rd hR0) hx3 rfl, RdL.cell (j := 5) (hS.rd hR0) hx3 rfl, RdL.cell (j := 6) (hS.rd hR0) hx3 rfl, trivial⟩ ?_
    refine ge_new (d := some 11) (o := .cells #[.string (⟨#[]⟩), .int .i64 0, .int .i64 0, .int .i64 0, .int .i64 0, .int .i64 0, .int .i64 0] 85) (v := fun b => .pointer (some ⟨b, 0, none⟩)) hS (fun b => by kernel_rfl) fun b3 w14 hx4 hS36 => ?_
    refine ge_batch [4] (ans := []) (vs := [(10, .int .i64 (i1 : Int))]) (l := []) (by kernel_rfl) trivial ?_
    refine ge_set (b := b3) (j := 0) (cs := #[.string (⟨#[]⟩), .int .i64 0, .int .i64 0, .int .i64 0, .int .i64 0, .int .i64 0, .int .i64 0]) (t := 85) (vs := [.string e1.Name, .int .i64 e1.C, .int .i64 e1.T, .int .i64 e1.D, .int .i64 e1.J, .int .i64 e1.O, .int .i64 e1.P]) hS36 (by kernel_rfl) rfl rfl fun w15 hS37 => ?_
    have hS38 : St w0 w15 [Own.blk b3 (.cells #[.string e1.Name, .int .i64 e1.C, .int .i64 e1.T, .int .i64 e1.D, .int .i64 e1.J, .int .i64 e1.O, .int .i64 e1.P] 85 (0, 0)), Own.blk b1 (.cells #[.int .i64 0, .int .i64 0] 27 (0, 0)), Own.of v1 85 m1] := hS37
    refine ge_nil fun a hF => hK17 _ _ ?_ a hF
    refine we_seq fun K18 hK18 => ?_
    refine we_draws (by kernel_rfl) [(0, 0), (1, 0), (2, 0), (3, 0), (4, 0), (5, 0), (6, 0), (7, 0), (8, 0), (9, 0), (10, 0), (11, 0), (12, 0)] (by kernel_rfl) ?_
    have hS39 := hS38.drew
    refine ge_batch [0, 1, 2, 3] (ans := []) (vs := [(46, .bool ((i1 : Int) != x1)), (45, .bool ((i1 : Int) != x1)), (44, .int .i64 x1), (43, .int .i64 (i1 : Int))]) (l := []) (by kernel_rfl) trivial ?_
    by_cases hc7 : (i1 : Int) = x1
    · rw [if_pos hc7] at h
      refine ge_known (t := 46) (b := ((i1 : Int) != x1)) (c := false) (by kernel_rfl) (bne_eq_false_iff_eq.2 hc7) ?_
      refine ge_batch [4, 5, 6, 7, 8, 9, 10, 11, 12] (ans := []) (vs := [(55, .bool false), (54, undef), (53, undef), (52, undef), (51, undef), (50, undef), (49, undef), (48, undef), (47, undef)]) (l := []) (by kernel_rfl) trivial ?_
      refine ge_nil fun a hF => hK18 _ _ ?_ a hF
      refine we_false (by kernel_rfl) ?_
      refine we_skip fun a hF => hK16 _ _ ?_ a hF
      refine we_region [(0, 0), (1, 0)] rfl ?_
      refine ge_addn (d := 60) (ty := 3) (x := (.tmp 38)) (y := (.const (.int .i64 1))) (t := 3) (t2 := 3) (k := .i64) (m := i1) (by kernel_rfl) (by kernel_rfl) (by kernel_rfl) (by have h0 := hR0.small; omega) ?_
      refine ge_batch [1] (ans := []) (vs := [(38, .int .i64 ((i1 + 1 : Nat) : Int))]) (l := []) (by kernel_rfl) trivial ?_
      have hS40 := hS39.bring 2 rfl
      have hS41 := hS40.bring 2 rfl
      have hS42 := hS41.takeN 2
      obtain rfl := Option.some.inj h
      exact ge_nil fun a hF => hQ _ _ _ (Outs.again ⟨v1, hS42, hF.weaken ⟨by kernel_rfl, by kernel_rfl, by kernel_rfl, by kernel_rfl, by kernel_rfl, by kernel_rfl, by kernel_rfl, by kernel_rfl, trivial⟩⟩)
    · rw [if_neg hc7] at h
      refine ge_known (t := 46) (b := ((i1 : Int) != x1)) (c := true) (by kernel_rfl) (bne_iff_ne.2 hc7) ?_
      refine ge_batch [4, 5, 6, 7] (ans := [.val (.int .i64 e1.P)]) (vs := [(50, .int .i64 x1), (49, .slice A0 l0.length c0), (48, .int .i64 e1.P), (47, .pointer (some ⟨b3, 6, none⟩))]) (l := [.loaded ⟨b3, 6, none⟩ (.int .i64 e1.P)]) (by kernel_rfl) ⟨hS39.cell 0 rfl rfl, trivial⟩ ?_
      by_cases hc8 : 0 ≤ x1
      · rw [if_pos hc8] at h
        rcases hx5 : l0[(x1).toNat]? with _ | e2
        · rw [hx5] at h; cases h
        rw [hx5] at h
        simp only [] at h
        refine ge_index (d := 51) (ty := 0) (t := 82) (el := 85) (sz := 7) (m := l0.length) (c := c0) (x := (.tmp 49)) (y := (.tmp 50)) (A := A0) (k' := .i64) (j := x1) (jn := ((x1).toNat)) (b0 := blkOf A0) (o0 := offOf A0) (by kernel_rfl) (by kernel_rfl) (by kernel_rfl) (by kernel_rfl) (by kernel_rfl) ((hS39.rd hR0).eqSome (pos_of_get hx5)) (Int.toNat_of_nonneg hc8).symm (lt_of_get hx5) ?_
        refine ge_batch [9, 10, 11, 12] (ans := [.val (.int .i64 e2.P)]) (vs := [(55, .bool (decide (e1.P ≥ e2.P))), (54, .bool (decide (e1.P ≥ e2.P))), (53, .int .i64 e2.P), (52, .pointer (some ⟨blkOf A0, offOf A0 + (x1).toNat * 7 + 6, none⟩))]) (l := [.loaded ⟨blkOf A0, offOf A0 + ((x1).toNat) * 7 + 6, none⟩ (.int .i64 e2.P)]) (by kernel_rfl) ⟨RdL.cell (j := 6) (hS39.rd hR0) hx5 rfl, trivial⟩ ?_
        refine ge_nil fun a hF => hK18 _ _ ?_ a hF
        by_cases hc9 : e1.P ≥ e2.P
        · rw [if_pos hc9] at h
          refine we_known (t := 55) (b := decide (e1.P ≥ e2.P)) (v := true) (by kernel_rfl) (decide_eq_true hc9) ?_
          refine we_true (by kernel_rfl) ?_
          refine we_region [(0, 0), (1, 0), (2, 1), (3, 2), (4, 0)] rfl ?_
          refine ge_batch [0, 1] (ans := [.val (.string e1.Name), .val (.int .i64 e1.C), .val (.int .i64 e1.T), .val (.int .i64 e1.D), .val (.int .i64 e1.J), .val (.int .i64 e1.O), .val (.int .i64 e1.P)]) (vs := [(57, .agg #[.string e1.Name, .int .i64 e1.C, .int .i64 e1.T, .int .i64 e1.D, .int .i64 e1.J, .int .i64 e1.O, .int .i64 e1.P]), (56, v1)]) (l := [.loaded ⟨b3, 0, none⟩ (.string e1.Name), .loaded ⟨b3, 1, none⟩ (.int .i64 e1.C), .loaded ⟨b3, 2, none⟩ (.int .i64 e1.T), .loaded ⟨b3, 3, none⟩ (.int .i64 e1.D), .loaded ⟨b3, 4, none⟩ (.int .i64 e1.J), .loaded ⟨b3, 5, none⟩ (.int .i64 e1.O), .loaded ⟨b3, 6, none⟩ (.int .i64 e1.P)]) (by kernel_rfl) ⟨hS39.cell 0 rfl rfl, hS39.cell 0 rfl rfl, hS39.cell 0 rfl rfl, hS39.cell 0 rfl rfl, hS39.cell 0 rfl rfl, hS39.cell 0 rfl rfl, hS39.cell 0 rfl rfl, trivial⟩ ?_
          refine ge_new (d := some 58) (o := .cells #[.string e1.Name, .int .i64 e1.C, .int .i64 e1.T, .int .i64 e1.D, .int .i64 e1.J, .int .i64 e1.O, .int .i64 e1.P] 85) (v := fun b => .slice (some ⟨b, 0, none⟩) 1 1) hS39 (fun b => by kernel_rfl) fun b4 w16 hx6 hS43 => ?_
          have hS44 := hS43.bring 3 rfl
          by_cases hc10 : m1.length < 2199023255552
          · rw [if_pos hc10] at h
            refine ge_append (α := STask) (m := 0) (d := 59) (t := 82) (el := 85) (bytes := 64) (c1 := 1) (b1 := b4) (x := (.tmp 56)) (y := (.tmp 58)) (ty := 82) (v := v1) (z := .agg #[.string (⟨#[]⟩), .int .i64 0, .int .i64 0, .int .i64 0, .int .i64 0, .int .i64 0, .int .i64 0]) (l := m1) (u := e1) (by kernel_rfl) (by kernel_rfl) (by kernel_rfl) (by kernel_rfl) (by kernel_rfl) rfl hS44 rfl (by omega) fun v3 w17 hS45 => ?_
            refine ge_batch [4] (ans := []) (vs := [(9, v3)]) (l := []) (by kernel_rfl) trivial ?_
            refine ge_nil fun a hF => hK16 _ _ ?_ a hF
            refine we_region [(0, 0), (1, 0)] rfl ?_
            refine ge_addn (d := 60) (ty := 3) (x := (.tmp 38)) (y := (.const (.int .i64 1))) (t := 3) (t2 := 3) (k := .i64) (m := i1) (by kernel_rfl) (by kernel_rfl) (by kernel_rfl) (by have h0 := hR0.small; omega) ?_
            refine ge_batch [1] (ans := []) (vs := [(38, .int .i64 ((i1 + 1 : Nat) : Int))]) (l := []) (by kernel_rfl) trivial ?_
            have hS46 := hS45.bring 2 rfl
            have hS47 := hS46.takeN 2
            obtain rfl := Option.some.inj h
            exact ge_nil fun a hF => hQ _ _ _ (Outs.again ⟨v3, hS47, hF.weaken ⟨by kernel_rfl, by kernel_rfl, by kernel_rfl, by kernel_rfl, by kernel_rfl, by kernel_rfl, by kernel_rfl, by kernel_rfl, trivial⟩⟩)
          · rw [if_neg hc10] at h
            cases h
        · rw [if_neg hc9] at h
          refine we_known (t := 55) (b := decide (e1.P ≥ e2.P)) (v := false) (by kernel_rfl) (decide_eq_false hc9) ?_
          refine we_false (by kernel_rfl) ?_
          refine we_skip fun a hF => hK16 _ _ ?_ a hF
          refine we_region [(0, 0), (1, 0)] rfl ?_
          refine ge_addn (d := 60) (ty := 3) (x := (.tmp 38)) (y := (.const (.int .i64 1))) (t := 3) (t2 := 3) (k := .i64) (m := i1) (by kernel_rfl) (by kernel_rfl) (by kernel_rfl) (by have h0 := hR0.small; omega) ?_
          refine ge_batch [1] (ans := []) (vs := [(38, .int .i64 ((i1 + 1 : Nat) : Int))]) (l := []) (by kernel_rfl) trivial ?_
          have hS48 := hS39.bring 2 rfl
          have hS49 := hS48.bring 2 rfl
          have hS50 := hS49.takeN 2
          obtain rfl := Option.some.inj h
          exact ge_nil fun a hF => hQ _ _ _ (Outs.again ⟨v1, hS50, hF.weaken ⟨by kernel_rfl, by kernel_rfl, by kernel_rfl, by kernel_rfl, by kernel_rfl, by kernel_rfl, by kernel_rfl, by kernel_rfl, trivial⟩⟩)
      · rw [if_neg hc8] at h
        cases h
  · rw [if_neg hc6] at h
    refine we_known (t := 39) (b := decide ((i1 : Int) < (l0.length : Int))) (v := false) (by kernel_rfl) (decide_eq_false hc6) ?_
    refine we_false (by kernel_rfl) ?_
    have hS51 := hS.bring 1 rfl
    have hS52 := hS51.bring 1 rfl
    obtain rfl := Option.some.inj h
    exact we_exit fun a hF => hQ _ _ _ (Outs.out nofun (Exits.here ⟨v1, hS52, hF.weaken ⟨by kernel_rfl, by kernel_rfl, by kernel_rfl, by kernel_rfl, by kernel_rfl, trivial⟩⟩))
theorem punctualref_ResponseOf_ok (K : Nat) (l0 : List STask) (A0 : Option Addr) (c0 : Nat) (x1 : Int) (x2 : Int) (w0 : World) (hR0 : RdL w0 A0 l0) (hL0 : l0.length ≤ c0) (r : Int × SFault) (h : punctualref_ResponseOf.f K l0 x1 x2 = some r) :
    Calls Tryd.prog 84 #[.slice A0 l0.length c0, .int .i64 x1, .int .i64 x2] w0 (punctualref_ResponseOf.Post w0 r) := by
  have hS := St.start w0
  unfold punctualref_ResponseOf.f at h
  refine calls_enter (n := 74) (args := [.slice A0 l0.length c0, .int .i64 x1, .int .i64 x2]) (fn := Tryd.f84) rfl rfl rfl rfl ?_
  show WE _ _ _ _ [(0, .slice A0 l0.length c0), (1, .int .i64 x1), (2, .int .i64 x2)] _
  refine we_seq fun K1 hK1 => ?_
  refine we_region [(0, 0), (1, 1)] rfl ?_
  refine ge_batch [0] (ans := []) (vs := [(6, .int .i64 0)]) (l := []) (by kernel_rfl) trivial ?_
  refine ge_new (d := some 7) (o := .cells #[.int .i64 0, .int .i64 0] 27) (v := fun b => .pointer (some ⟨b, 0, none⟩)) hS (fun b => by kernel_rfl) fun b1 w1 hx1 hS1 => ?_
  refine ge_nil fun a hF => hK1 _ _ ?_ a hF
  refine we_seq fun K2 hK2 => ?_
  refine we_seq fun K3 hK3 => ?_
  refine we_region [(0, 0), (1, 1), (2, 1), (3, 2)] rfl ?_
  rcases hq1 : punctualref_CheckFixed.f K l0 with _ | r1
  · rw [hq1] at h; cases h
  rw [hq1] at h
  simp only [] at h
  refine ge_batch [0] (ans := []) (vs := [(13, .slice A0 l0.length c0)]) (l := []) (by kernel_rfl) trivial ?_
  refine ge_call (d := some 14) (f := 111) (args := #[.slice A0 l0.length c0]) (by kernel_rfl) (punctualref_CheckFixed_ok K l0 A0 c0 _ (hS1.rd hR0) hL0 _ hq1) ?_
  rintro _ w2 ⟨rfl, hS2⟩
  refine ⟨_, rfl, hS2.below, ?_⟩
  have hS3 := hS1.call hS2
  refine ge_new (d := some 8) (o := .cells #[.int .i64 0, .int .i64 0] 27) (v := fun b => .pointer (some ⟨b, 0, none⟩)) hS3 (fun b => by kernel_rfl) fun b2 w3 hx2 hS4 => ?_
  refine ge_set (b := b2) (j := 0) (cs := #[.int .i64 0, .int .i64 0]) (t := 27) (vs := [.int .i64 r1.Code, .int .i64 r1.At]) hS4 (by kernel_rfl) rfl rfl fun w4 hS5 => ?_
  have hS6 : St w0 w4 [Own.blk b2 (.cells #[.int .i64 r1.Code, .int .i64 r1.At] 27 (0, 0)), Own.blk b1 (.cells #[.int .i64 0, .int .i64 0] 27 (0, 0))] := hS5
  refine ge_nil fun a hF => hK3 _ _ ?_ a hF
  refine we_seq fun K4 hK4 => ?_
  refine we_region [(0, 0), (1, 0), (2, 0)] rfl ?_
  refine ge_batch [0, 1, 2] (ans := [.val (.int .i64 r1.Code)]) (vs := [(17, .bool (r1.Code != 0)), (16, .int .i64 r1.Code), (15, .pointer (some ⟨b2, 0, none⟩))]) (l := [.loaded ⟨b2, 0, none⟩ (.int .i64 r1.Code)]) (by kernel_rfl) ⟨hS6.cell 0 rfl rfl, trivial⟩ ?_
  refine ge_nil fun a hF => hK4 _ _ ?_ a hF
  by_cases hc1 : r1.Code = 0
  · rw [if_pos hc1] at h
    refine we_known (t := 17) (b := (r1.Code != 0)) (v := false) (by kernel_rfl) (bne_eq_false_iff_eq.2 hc1) ?_
    refine we_false (by kernel_rfl) ?_
    refine we_skip fun a hF => hK2 _ _ ?_ a hF
    refine we_seq fun K5 hK5 => ?_
    rcases hq6 : punctualref_ResponseOf.p0 l0 x1 x2 with _ | (_ | rr2)
    · rw [hq6] at h; cases h
    · rw [hq6] at h
      simp only [] at h
      refine we_keep (e' := [(0, .slice A0 l0.length c0), (1, .int .i64 x1), (2, .int .i64 x2), (6, .int .i64 0), (7, .pointer (some ⟨b1, 0, none⟩)), (8, .pointer (some ⟨b2, 0, none⟩)), (13, .slice A0 l0.length c0), (14, .agg #[.int .i64 r1.Code, .int .i64 r1.At]), (15, .pointer (some ⟨b2, 0, none⟩)), (16, .int .i64 r1.Code), (17, .bool false)]) ⟨by kernel_rfl, by kernel_rfl, by kernel_rfl, by kernel_rfl, by kernel_rfl, by kernel_rfl, by kernel_rfl, by kernel_rfl, by kernel_rfl, by kernel_rfl, by kernel_rfl, trivial⟩ (punctualref_ResponseOf_p0 K w0 l0 A0 c0 x1 x2 hR0 hL0 b1 r1 b2 hc1 _ hq6 _ hS6 _ ?_)
      rintro _ a w13 ⟨rfl, hS33, hF⟩
      replace hS33 : St w0 w13 [Own.blk b1 (.cells #[.int .i64 0, .int .i64 0] 27 (0, 0))] := hS33
      refine hK5 [(0, .slice A0 l0.length c0), (1, .int .i64 x1), (2, .int .i64 x2), (7, .pointer (some ⟨b1, 0, none⟩))] w13 ?_ a hF
      refine we_seq fun K11 hK11 => ?_
      refine we_region [(0, 0)] rfl ?_
      refine ge_batch [0] (ans := []) (vs := [(9, .slice none 0 0)]) (l := []) (by kernel_rfl) trivial ?_
      refine ge_nil fun a hF => hK11 _ _ ?_ a hF
      refine we_seq fun K12 hK12 => ?_
      refine we_seq fun K13 hK13 => ?_
      refine we_region [(0, 0), (1, 0), (2, 0)] rfl ?_
      refine ge_batch [0, 1, 2] (ans := []) (vs := [(38, .int .i64 0), (37, .int .i64 (l0.length : Int)), (36, .slice A0 l0.length c0)]) (l := []) (by kernel_rfl) trivial ?_
      refine ge_nil fun a hF => hK13 _ _ ?_ a hF
      refine we_block ?_
      have hS34 := hS33.nil (α := STask) 85
      have hS35 := hS34.bring 1 rfl
      rcases hq7 : iter (punctualref_ResponseOf.r1 l0 x1) K (([] : List STask), 0) with _ | (m3 | rr1)
      · rw [hq7] at h; cases h
      · rw [hq7] at h
        simp only [] at h
        refine we_iter (A := punctualref_ResponseOf.A1 K w0 l0 A0 c0 x1 x2 hR0 hL0 b1 r1 b2 hc1) (B := punctualref_ResponseOf.B1 K w0 l0 A0 c0 x1 x2 hR0 hL0 b1 r1 b2 hc1) hq7 (fun a hF => ⟨(.slice none 0 0), hS35, hF.weaken ⟨by kernel_rfl, by kernel_rfl, by kernel_rfl, by kernel_rfl, by kernel_rfl, by kernel_rfl, by kernel_rfl, by kernel_rfl, trivial⟩⟩) (fun s o hf a w hA Q hQ => punctualref_ResponseOf_r1 K w0 l0 A0 c0 x1 x2 hR0 hL0 b1 r1 b2 hc1 s o hf a w hA Q hQ) ?_
        rintro _ a w18 _ ⟨rfl, v4, hS53, hF⟩
        replace hS53 : St w0 w18 [Own.blk b1 (.cells #[.int .i64 0, .int .i64 0] 27 (0, 0)), Own.of v4 85 m3] := hS53
        refine hK12 [(0, .slice A0 l0.length c0), (1, .int .i64 x1), (2, .int .i64 x2), (7, .pointer (some ⟨b1, 0, none⟩)), (9, v4)] w18 ?_ a hF
        refine we_seq fun K19 hK19 => ?_
        refine we_region [(0, 0), (1, 0), (2, 0), (3, 0), (4, 0), (5, 0), (6, 1), (7, 0)] rfl ?_
        refine ge_batch [0, 1] (ans := []) (vs := [(62, .int .i64 x1), (61, .slice A0 l0.length c0)]) (l := []) (by kernel_rfl) trivial ?_
        by_cases hc11 : 0 ≤ x1
        · rw [if_pos hc11] at h
          rcases hx7 : l0[(x1).toNat]? with _ | e3
          · rw [hx7] at h; cases h
          rw [hx7] at h
          simp only [] at h
          refine ge_index (d := 63) (ty := 0) (t := 82) (el := 85) (sz := 7) (m := l0.length) (c := c0) (x := (.tmp 61)) (y := (.tmp 62)) (A := A0) (k' := .i64) (j := x1) (jn := ((x1).toNat)) (b0 := blkOf A0) (o0 := offOf A0) (by kernel_rfl) (by kernel_rfl) (by kernel_rfl) (by kernel_rfl) (by kernel_rfl) ((hS53.rd hR0).eqSome (pos_of_get hx7)) (Int.toNat_of_nonneg hc11).symm (lt_of_get hx7) ?_
          refine ge_batch [3, 4, 5] (ans := [.val (.string e3.Name), .val (.int .i64 e3.C), .val (.int .i64 e3.T), .val (.int .i64 e3.D), .val (.int .i64 e3.J), .val (.int .i64 e3.O), .val (.int .i64 e3.P)]) (vs := [(66, .int .i64 x2), (65, v4), (64, .agg #[.string e3.Name, .int .i64 e3.C, .int .i64 e3.T, .int .i64 e3.D, .int .i64 e3.J, .int .i64 e3.O, .int .i64 e3.P])]) (l := [.loaded ⟨blkOf A0, offOf A0 + ((x1).toNat) * 7, none⟩ (.string e3.Name), .loaded ⟨blkOf A0, offOf A0 + ((x1).toNat) * 7 + 1, none⟩ (.int .i64 e3.C), .loaded ⟨blkOf A0, offOf A0 + ((x1).toNat) * 7 + 2, none⟩ (.int .i64 e3.T), .loaded ⟨blkOf A0, offOf A0 + ((x1).toNat) * 7 + 3, none⟩ (.int .i64 e3.D), .loaded ⟨blkOf A0, offOf A0 + ((x1).toNat) * 7 + 4, none⟩ (.int .i64 e3.J), .loaded ⟨blkOf A0, offOf A0 + ((x1).toNat) * 7 + 5, none⟩ (.int .i64 e3.O), .loaded ⟨blkOf A0, offOf A0 + ((x1).toNat) * 7 + 6, none⟩ (.int .i64 e3.P)]) (by kernel_rfl) ⟨RdL.cell (j := 0) (hS53.rd hR0) hx7 rfl, RdL.cell (j := 1) (hS53.rd hR0) hx7 rfl, RdL.cell (j := 2) (hS53.rd hR0) hx7 rfl, RdL.cell (j := 3) (hS53.rd hR0) hx7 rfl, RdL.cell (j := 4) (hS53.rd hR0) hx7 rfl, RdL.cell (j := 5) (hS53.rd hR0) hx7 rfl, RdL.cell (j := 6) (hS53.rd hR0) hx7 rfl, trivial⟩ ?_
          obtain ⟨Z1, cz1, rfl⟩ := hS53.open 1 rfl
          rcases hq8 : punctualref_AtWorst.f K e3 m3 x2 with _ | r2
          · rw [hq8] at h; cases h
          rw [hq8] at h
          simp only [] at h
          refine ge_call (d := some 67) (f := 112) (args := #[.agg #[.string e3.Name, .int .i64 e3.C, .int .i64 e3.T, .int .i64 e3.D, .int .i64 e3.J, .int .i64 e3.O, .int .i64 e3.P], (.slice Z1 m3.length cz1), .int .i64 x2]) (by kernel_rfl) (punctualref_AtWorst_ok K e3 m3 Z1 cz1 x2 _ (hS53.rdAt 1 rfl) (hS53.capAt 1 rfl) _ hq8) ?_
          rintro _ w19 ⟨rfl, hS54⟩
          refine ⟨_, rfl, hS54.below, ?_⟩
          have hS55 := hS53.call hS54
          refine ge_batch [7] (ans := []) (vs := [(12, .int .i64 r2)]) (l := []) (by kernel_rfl) trivial ?_
          refine ge_nil fun a hF => hK19 _ _ ?_ a hF
          refine we_seq fun K20 hK20 => ?_
          refine we_seq fun K21 hK21 => ?_
          refine we_region [(0, 0), (1, 0)] rfl ?_
          refine ge_batch [0, 1] (ans := []) (vs := [(69, .bool (r2 == 0)), (68, .int .i64 r2)]) (l := []) (by kernel_rfl) trivial ?_
          refine ge_nil fun a hF => hK21 _ _ ?_ a hF
          by_cases hc12 : r2 = 0
          · rw [if_pos hc12] at h
            refine we_known (t := 69) (b := (r2 == 0)) (v := true) (by kernel_rfl) (beq_iff_eq.2 hc12) ?_
            refine we_true (by kernel_rfl) ?_
            refine we_seq fun K22 hK22 => ?_
            refine we_region [(0, 0), (1, 1), (2, 0), (3, 2)] rfl ?_
            refine ge_batch [0] (ans := []) (vs := [(70, .int .i64 x1)]) (l := []) (by kernel_rfl) trivial ?_
            refine ge_call (d := some 71) (f := 61) (args := #[.int .i64 13, .int .i64 x1]) (by kernel_rfl) (punctualref_F_ok 13 x1 _ _ rfl) ?_
            rintro _ w20 ⟨rfl, hS56⟩
            refine ⟨_, rfl, hS56.below, ?_⟩
            have hS57 := hS55.call hS56
            refine ge_batch [2] (ans := []) (vs := [(6, .int .i64 0)]) (l := []) (by kernel_rfl) trivial ?_
            refine ge_set (b := b1) (j := 0) (cs := #[.int .i64 0, .int .i64 0]) (t := 27) (vs := [.int .i64 ((punctualref_F.f 13 x1).Code), .int .i64 ((punctualref_F.f 13 x1).At)]) hS57 (by kernel_rfl) rfl rfl fun w21 hS58 => ?_
            have hS59 : St w0 w21 [Own.blk b1 (.cells #[.int .i64 ((punctualref_F.f 13 x1).Code), .int .i64 ((punctualref_F.f 13 x1).At)] 27 (0, 0)), Own.of (.slice Z1 m3.length cz1) 85 m3] := hS58
            refine ge_nil fun a hF => hK22 _ _ ?_ a hF
            have hS60 := hS59.takeN 0
            obtain rfl := Option.some.inj h
            exact we_ret (post_ret (rs := [.tmp 6, .cell 7 27]) (ans := [.val (.int .i64 ((punctualref_F.f 13 x1).Code)), .val (.int .i64 ((punctualref_F.f 13 x1).At))]) (vs := [.int .i64 0, .agg #[.int .i64 ((punctualref_F.f 13 x1).Code), .int .i64 ((punctualref_F.f 13 x1).At)]]) (l := [.loaded ⟨b1, 0, none⟩ (.int .i64 ((punctualref_F.f 13 x1).Code)), .loaded ⟨b1, 1, none⟩ (.int .i64 ((punctualref_F.f 13 x1).At))]) rfl (by kernel_rfl) ⟨hS59.cell 0 rfl rfl, hS59.cell 0 rfl rfl, trivial⟩ ⟨rfl, hS60⟩)
          · rw [if_neg hc12] at h
            refine we_known (t := 69) (b := (r2 == 0)) (v := false) (by kernel_rfl) (beq_eq_false_iff_ne.2 hc12) ?_
            refine we_false (by kernel_rfl) ?_
            refine we_skip fun a hF => hK20 _ _ ?_ a hF
            refine we_seq fun K23 hK23 => ?_
            refine we_region [(0, 0), (1, 0), (2, 0), (3, 2)] rfl ?_
            refine ge_batch [0, 1, 2] (ans := []) (vs := [(6, .int .i64 r2), (73, .agg #[.int .i64 0, .int .i64 0]), (72, .int .i64 r2)]) (l := []) (by kernel_rfl) trivial ?_
            refine ge_set (b := b1) (j := 0) (cs := #[.int .i64 0, .int .i64 0]) (t := 27) (vs := [.int .i64 0, .int .i64 0]) hS55 (by kernel_rfl) rfl rfl fun w22 hS61 => ?_
            have hS62 : St w0 w22 [Own.blk b1 (.cells #[.int .i64 0, .int .i64 0] 27 (0, 0)), Own.of (.slice Z1 m3.length cz1) 85 m3] := hS61
            refine ge_nil fun a hF => hK23 _ _ ?_ a hF
            have hS63 := hS62.takeN 0
            obtain rfl := Option.some.inj h
            exact we_ret (post_ret (rs := [.tmp 6, .cell 7 27]) (ans := [.val (.int .i64 0), .val (.int .i64 0)]) (vs := [.int .i64 r2, .agg #[.int .i64 0, .int .i64 0]]) (l := [.loaded ⟨b1, 0, none⟩ (.int .i64 0), .loaded ⟨b1, 1, none⟩ (.int .i64 0)]) rfl (by kernel_rfl) ⟨hS62.cell 0 rfl rfl, hS62.cell 0 rfl rfl, trivial⟩ ⟨rfl, hS63⟩)
        · rw [if_neg hc11] at h
          cases h
      · rw [hq7] at h
        simp only [] at h
        refine we_iter (A := punctualref_ResponseOf.A1 K w0 l0 A0 c0 x1 x2 hR0 hL0 b1 r1 b2 hc1) (B := punctualref_ResponseOf.B1 K w0 l0 A0 c0 x1 x2 hR0 hL0 b1 r1 b2 hc1) hq7 (fun a hF => ⟨(.slice none 0 0), hS35, hF.weaken ⟨by kernel_rfl, by kernel_rfl, by kernel_rfl, by kernel_rfl, by kernel_rfl, by kernel_rfl, by kernel_rfl, by kernel_rfl, trivial⟩⟩) (fun s o hf a w hA Q hQ => punctualref_ResponseOf_r1 K w0 l0 A0 c0 x1 x2 hR0 hL0 b1 r1 b2 hc1 s o hf a w hA Q hQ) ?_
        rintro _ a w1 _ ⟨rfl, hb⟩
        obtain rfl := Option.some.inj h
        exact hb
    · rw [hq6] at h
      simp only [] at h
      refine we_keep (e' := [(0, .slice A0 l0.length c0), (1, .int .i64 x1), (2, .int .i64 x2), (6, .int .i64 0), (7, .pointer (some ⟨b1, 0, none⟩)), (8, .pointer (some ⟨b2, 0, none⟩)), (13, .slice A0 l0.length c0), (14, .agg #[.int .i64 r1.Code, .int .i64 r1.At]), (15, .pointer (some ⟨b2, 0, none⟩)), (16, .int .i64 r1.Code), (17, .bool false)]) ⟨by kernel_rfl, by kernel_rfl, by kernel_rfl, by kernel_rfl, by kernel_rfl, by kernel_rfl, by kernel_rfl, by kernel_rfl, by kernel_rfl, by kernel_rfl, by kernel_rfl, trivial⟩ (punctualref_ResponseOf_p0 K w0 l0 A0 c0 x1 x2 hR0 hL0 b1 r1 b2 hc1 _ hq6 _ hS6 _ ?_)
      rintro _ a w1 ⟨_, rfl, hb⟩
      obtain rfl := Option.some.inj h
      exact hb
  · rw [if_neg hc1] at h
    refine we_known (t := 17) (b := (r1.Code != 0)) (v := true) (by kernel_rfl) (bne_iff_ne.2 hc1) ?_
    refine we_true (by kernel_rfl) ?_
    refine we_seq fun K24 hK24 => ?_
    refine we_draws (by kernel_rfl) [(0, 0), (1, 0), (2, 2)] (by kernel_rfl) ?_
    have hS64 := hS6.drew
    refine ge_batch [0, 1] (ans := [.val (.int .i64 r1.Code), .val (.int .i64 r1.At)]) (vs := [(6, .int .i64 0), (18, .agg #[.int .i64 r1.Code, .int .i64 r1.At])]) (l := [.loaded ⟨b2, 0, none⟩ (.int .i64 r1.Code), .loaded ⟨b2, 1, none⟩ (.int .i64 r1.At)]) (by kernel_rfl) ⟨hS64.cell 0 rfl rfl, hS64.cell 0 rfl rfl, trivial⟩ ?_
    have hS65 := hS64.bring 1 rfl
    refine ge_set (b := b1) (j := 0) (cs := #[.int .i64 0, .int .i64 0]) (t := 27) (vs := [.int .i64 r1.Code, .int .i64 r1.At]) hS65 (by kernel_rfl) rfl rfl fun w23 hS66 => ?_
    have hS67 : St w0 w23 [Own.blk b1 (.cells #[.int .i64 r1.Code, .int .i64 r1.At] 27 (0, 0)), Own.blk b2 (.cells #[.int .i64 r1.Code, .int .i64 r1.At] 27 (0, 0))] := hS66
    refine ge_nil fun a hF => hK24 _ _ ?_ a hF
    have hS68 := hS67.takeN 0
    obtain rfl := Option.some.inj h
    exact we_ret (post_ret (rs := [.tmp 6, .cell 7 27]) (ans := [.val (.int .i64 r1.Code), .val (.int .i64 r1.At)]) (vs := [.int .i64 0, .agg #[.int .i64 r1.Code, .int .i64 r1.At]]) (l := [.loaded ⟨b1, 0, none⟩ (.int .i64 r1.Code), .loaded ⟨b1, 1, none⟩ (.int .i64 r1.At)]) rfl (by kernel_rfl) ⟨hS67.cell 0 rfl rfl, hS67.cell 0 rfl rfl, trivial⟩ ⟨rfl, hS68⟩)

/-! punctual/punctualref.AnewWorst$1 -/
abbrev punctualref_AnewWorst_1.Post (w0 : World) (r : Int) (e : Ending) (w : World) : Prop := e = .returned (.int .i64 r) ∧ St w0 w []
def punctualref_AnewWorst_1.r0 (x0 : Int) (xf_0 : STask) (lf_3 : List STask) (xf_4 : Int) : Int × Nat → Option ((Int × Nat) ⊕ (Int ⊕ Int))
  | (z1, i1) =>
    if (i1 : Int) < (lf_3.length : Int) then
      match lf_3[i1]? with
      | none => none
      | some e1 =>
        if (i1 : Int) = xf_4 then
          some (.inl (z1, (i1 + 1)))
        else
          if e1.P ≥ xf_0.P then
            match punctualref_up.f (IntKind.i64.wrap (x0 + e1.J)) e1.T with
            | none => none
            | some r2 =>
              some (.inl (IntKind.i64.wrap (z1 + (IntKind.i64.wrap (r2 * e1.C))), (i1 + 1)))
          else
            some (.inl (z1, (i1 + 1)))
    else
      some (.inr (.inl z1))
def punctualref_AnewWorst_1.f (K : Nat) (x0 : Int) (xf_0 : STask) (xf_1 : Int) (xf_2 : Int) (lf_3 : List STask) (xf_4 : Int) : Option Int :=
  match punctualref_up.f x0 xf_1 with
  | none => none
  | some r1 =>
    match iter (punctualref_AnewWorst_1.r0 x0 xf_0 lf_3 xf_4) K (IntKind.i64.wrap (xf_0.C + (IntKind.i64.wrap (r1 * xf_2))), 0) with
    | none => none
    | some (.inl z3) =>
      some z3
    | some (.inr rr1) =>
      some rr1
abbrev punctualref_AnewWorst_1.A0 (K : Nat) (w0 : World) (x0 : Int) (bf_0 : Nat) (xf_0 : STask) (bf_1 : Nat) (xf_1 : Int) (bf_2 : Nat) (xf_2 : Int) (bf_3 : Nat) (lf_3 : List STask) (Af_3 : Option Addr) (cf_3 : Nat) (bf_4 : Nat) (xf_4 : Int) (hBf_0 : Glob w0 bf_0 [.string xf_0.Name, .int .i64 xf_0.C, .int .i64 xf_0.T, .int .i64 xf_0.D, .int .i64 xf_0.J, .int .i64 xf_0.O, .int .i64 xf_0.P]) (hBf_1 : Glob w0 bf_1 [.int .i64 xf_1]) (hBf_2 : Glob w0 bf_2 [.int .i64 xf_2]) (hRf_3 : RdL w0 Af_3 lf_3) (hLf_3 : lf_3.length ≤ cf_3) (hBf_3 : Glob w0 bf_3 [.slice Af_3 lf_3.length cf_3]) (hBf_4 : Glob w0 bf_4 [.int .i64 xf_4]) (r1 : Int) : (Int × Nat) → Act → World → Prop := fun (s : Int × Nat) a w => St w0 w [] ∧ Frm 50 a [(0, .int .i64 x0), (1, .pointer (some ⟨bf_0, 0, none⟩)), (5, .pointer (some ⟨bf_4, 0, none⟩)), (8, .int .i64 s.1), (19, .slice Af_3 lf_3.length cf_3), (20, .int .i64 (lf_3.length : Int)), (21, .int .i64 (s.2 : Int))]
abbrev punctualref_AnewWorst_1.B0 (K : Nat) (w0 : World) (x0 : Int) (bf_0 : Nat) (xf_0 : STask) (bf_1 : Nat) (xf_1 : Int) (bf_2 : Nat) (xf_2 : Int) (bf_3 : Nat) (lf_3 : List STask) (Af_3 : Option Addr) (cf_3 : Nat) (bf_4 : Nat) (xf_4 : Int) (hBf_0 : Glob w0 bf_0 [.string xf_0.Name, .int .i64 xf_0.C, .int .i64 xf_0.T, .int .i64 xf_0.D, .int .i64 xf_0.J, .int .i64 xf_0.O, .int .i64 xf_0.P]) (hBf_1 : Glob w0 bf_1 [.int .i64 xf_1]) (hBf_2 : Glob w0 bf_2 [.int .i64 xf_2]) (hRf_3 : RdL w0 Af_3 lf_3) (hLf_3 : lf_3.length ≤ cf_3) (hBf_3 : Glob w0 bf_3 [.slice Af_3 lf_3.length cf_3]) (hBf_4 : Glob w0 bf_4 [.int .i64 xf_4]) (r1 : Int) : (Int ⊕ Int) → Exit → Act → World → Prop := Exits 0 (fun (s : Int) a w => St w0 w [] ∧ Frm 50 a [(8, .int .i64 s)]) (Rets Tryd.prog Tryd.f85 (punctualref_AnewWorst_1.Post w0))
theorem punctualref_AnewWorst_1_r0 (K : Nat) (w0 : World) (x0 : Int) (bf_0 : Nat) (xf_0 : STask) (bf_1 : Nat) (xf_1 : Int) (bf_2 : Nat) (xf_2 : Int) (bf_3 : Nat) (lf_3 : List STask) (Af_3 : Option Addr) (cf_3 : Nat) (bf_4 : Nat) (xf_4 : Int) (hBf_0 : Glob w0 bf_0 [.string xf_0.Name, .int .i64 xf_0.C, .int .i64 xf_0.T, .int .i64 xf_0.D, .int .i64 xf_0.J, .int .i64 xf_0.O, .int .i64 xf_0.P]) (hBf_1 : Glob w0 bf_1 [.int .i64 xf_1]) (hBf_2 : Glob w0 bf_2 [.int .i64 xf_2]) (hRf_3 : RdL w0 Af_3 lf_3) (hLf_3 : lf_3.length ≤ cf_3) (hBf_3 : Glob w0 bf_3 [.slice Af_3 lf_3.length cf_3]) (hBf_4 : Glob w0 bf_4 [.int .i64 xf_4]) (r1 : Int) (s : Int × Nat) (o : (Int × Nat) ⊕ (Int ⊕ Int)) (h : punctualref_AnewWorst_1.r0 x0 xf_0 lf_3 xf_4 s = some o) (a : Act) (w : World) (hA : punctualref_AnewWorst_1.A0 K w0 x0 bf_0 xf_0 bf_1 xf_1 bf_2 xf_2 bf_3 lf_3 Af_3 cf_3 bf_4 xf_4 hBf_0 hBf_1 hBf_2 hRf_3 hLf_3 hBf_3 hBf_4 r1 s a w) (Q : Exit → Act → World → Prop) (hQ : ∀ x a w, Outs (punctualref_AnewWorst_1.A0 K w0 x0 bf_0 xf_0 bf_1 xf_1 bf_2 xf_2 bf_3 lf_3 Af_3 cf_3 bf_4 xf_4 hBf_0 hBf_1 hBf_2 hRf_3 hLf_3 hBf_3 hBf_4 r1) (punctualref_AnewWorst_1.B0 K w0 x0 bf_0 xf_0 bf_1 xf_1 bf_2 xf_2 bf_3 lf_3 Af_3 cf_3 bf_4 xf_4 hBf_0 hBf_1 hBf_2 hRf_3 hLf_3 hBf_3 hBf_4 r1) o x a w → Q x a w) : (subF Tryd.f85 [1, 1, 0, 1, 0, 0]).wp Tryd.prog Q a w := by
  obtain ⟨z1, i1⟩ := s
  obtain ⟨hS, hF⟩ := hA
  replace hS : St w0 w [] := hS
  simp only [punctualref_AnewWorst_1.r0] at h
  refine (?_ : WE Tryd.prog 50 (subF Tryd.f85 [1, 1, 0, 1, 0, 0]) Q [(0, .int .i64 x0), (1, .pointer (some ⟨bf_0, 0, none⟩)), (5, .pointer (some ⟨bf_4, 0, none⟩)), (8, .int .i64 z1), (19, .slice Af_3 lf_3.length cf_3), (20, .int .i64 (lf_3.length : Int)), (21, .int .i64 (i1 : Int))] w) a hF
  clear hF a
  refine we_seq fun K5 hK5 => ?_
  refine we_region [(0, 0)] rfl ?_
  refine ge_batch [0] (ans := []) (vs := [(22, .bool (decide ((i1 : Int) < (lf_3.length : Int))))]) (l := []) (by kernel_rfl) trivial ?_
  refine ge_nil fun a hF => hK5 _ _ ?_ a hF
  refine we_seq fun K6 hK6 => ?_
  by_cases hc1 : (i1 : Int) < (lf_3.length : Int)
  · rw [if_pos hc1] at h
    refine we_known (t := 22) (b := decide ((i1 : Int) < (lf_3.length : Int))) (v := true) (by kernel_rfl) (decide_eq_true hc1) ?_
    refine we_true (by kernel_rfl) ?_
    refine we_skip fun a hF => hK6 _ _ ?_ a hF
    refine we_seq fun K7 hK7 => ?_
    refine we_block ?_
    refine we_seq fun K8 hK8 => ?_
    refine we_region [(0, 0), (1, 0), (2, 0), (3, 1), (4, 0), (5, 2)] rfl ?_
    refine ge_batch [0] (ans := []) (vs := [(23, .int .i64 (i1 : Int))]) (l := []) (by kernel_rfl) trivial ?_
    rcases hx1 : lf_3[i1]? with _ | e1
    · rw [hx1] at h; cases h
    rw [hx1] at h
    simp only [] at h
    refine ge_index (d := 24) (ty := 0) (t := 82) (el := 85) (sz := 7) (m := lf_3.length) (c := cf_3) (x := (.tmp 19)) (y := (.tmp 21)) (A := Af_3) (k' := .i64) (j := (i1 : Int)) (jn := i1) (b0 := blkOf Af_3) (o0 := offOf Af_3) (by kernel_rfl) (by kernel_rfl) (by kernel_rfl) (by kernel_rfl) (by kernel_rfl) ((hS.rd hRf_3).eqSome (pos_of_get hx1)) rfl (lt_of_get hx1) ?_
    refine ge_batch [2] (ans := [.val (.string e1.Name), .val (.int .i64 e1.C), .val (.int .i64 e1.T), .val (.int .i64 e1.D), .val (.int .i64 e1.J), .val (.int .i64 e1.O), .val (.int .i64 e1.P)]) (vs := [(25, .agg #[.string e1.Name, .int .i64 e1.C, .int .i64 e1.T, .int .i64 e1.D, .int .i64 e1.J, .int .i64 e1.O, .int .i64 e1.P])]) (l := [.loaded ⟨blkOf Af_3, offOf Af_3 + i1 * 7, none⟩ (.string e1.Name), .loaded ⟨blkOf Af_3, offOf Af_3 + i1 * 7 + 1, none⟩ (.int .i64 e1.C), .loaded ⟨blkOf Af_3, offOf Af_3 + i1 * 7 + 2, none⟩ (.int .i64 e1.T), .loaded ⟨blkOf Af_3, offOf Af_3 + i1 * 7 + 3, none⟩ (.int .i64 e1.D), .loaded ⟨blkOf Af_3, offOf Af_3 + i1 * 7 + 4, none⟩ (.int .i64 e1.J), .loaded ⟨blkOf Af_3, offOf Af_3 + i1 * 7 + 5, none⟩ (.int .i64 e1.O), .loaded ⟨blkOf Af_3, offOf Af_3 + i1 * 7 + 6, none⟩ (.int .i64 e1.P)]) (by kernel_rfl) ⟨RdL.cell (j := 0) (hS.rd hRf_3) hx1 rfl, RdL.cell (j := 1) (hS.rd hRf_3) hx1 rfl, RdL.cell (j := 2) (hS.rd hRf_3) hx1 rfl, RdL.cell (j := 3) (hS.rd hRf_3) hx1 rfl, RdL.cell (j := 4) (hS.rd hRf_3) hx1 rfl, RdL.cell (j := 5) (hS.rd hRf_3) hx1 rfl, RdL.cell (j := 6) (hS.rd hRf_3) hx1 rfl, trivial⟩ ?_
    refine ge_new (d := some 10) (o := .cells #[.string (⟨#[]⟩), .int .i64 0, .int .i64 0, .int .i64 0, .int .i64 0, .int .i64 0, .int .i64 0] 85) (v := fun b => .pointer (some ⟨b, 0, none⟩)) hS (fun b => by kernel_rfl) fun b1 w2 hx2 hS4 => ?_
    refine ge_batch [4] (ans := []) (vs := [(9, .int .i64 (i1 : Int))]) (l := []) (by kernel_rfl) trivial ?_
    refine ge_set (b := b1) (j := 0) (cs := #[.string (⟨#[]⟩), .int .i64 0, .int .i64 0, .int .i64 0, .int .i64 0, .int .i64 0, .int .i64 0]) (t := 85) (vs := [.string e1.Name, .int .i64 e1.C, .int .i64 e1.T, .int .i64 e1.D, .int .i64 e1.J, .int .i64 e1.O, .int .i64 e1.P]) hS4 (by kernel_rfl) rfl rfl fun w3 hS5 => ?_
    have hS6 : St w0 w3 [Own.blk b1 (.cells #[.string e1.Name, .int .i64 e1.C, .int .i64 e1.T, .int .i64 e1.D, .int .i64 e1.J, .int .i64 e1.O, .int .i64 e1.P] 85 (0, 0))] := hS5
    refine ge_nil fun a hF => hK8 _ _ ?_ a hF
    refine we_seq fun K9 hK9 => ?_
    refine we_region [(0, 0), (1, 0), (2, 0), (3, 0), (4, 0), (5, 0), (6, 0), (7, 0), (8, 0), (9, 0)] rfl ?_
    refine ge_batch [0, 1, 2, 3] (ans := [.val (.int .i64 xf_4)]) (vs := [(29, .bool ((i1 : Int) != xf_4)), (28, .bool ((i1 : Int) != xf_4)), (27, .int .i64 xf_4), (26, .int .i64 (i1 : Int))]) (l := [.loaded ⟨bf_4, 0, none⟩ (.int .i64 xf_4)]) (by kernel_rfl) ⟨hS6.glob hBf_4 rfl, trivial⟩ ?_
    by_cases hc2 : (i1 : Int) = xf_4
    · rw [if_pos hc2] at h
      refine ge_known (t := 29) (b := ((i1 : Int) != xf_4)) (c := false) (by kernel_rfl) (bne_eq_false_iff_eq.2 hc2) ?_
      refine ge_batch [4, 5, 6, 7, 8, 9] (ans := []) (vs := [(35, .bool false), (34, undef), (33, undef), (32, undef), (31, undef), (30, undef)]) (l := []) (by kernel_rfl) trivial ?_
      refine ge_nil fun a hF => hK9 _ _ ?_ a hF
      refine we_false (by kernel_rfl) ?_
      refine we_skip fun a hF => hK7 _ _ ?_ a hF
      refine we_region [(0, 0), (1, 0)] rfl ?_
      refine ge_addn (d := 48) (ty := 3) (x := (.tmp 21)) (y := (.const (.int .i64 1))) (t := 3) (t2 := 3) (k := .i64) (m := i1) (by kernel_rfl) (by kernel_rfl) (by kernel_rfl) (by have h0 := hRf_3.small; omega) ?_
      refine ge_batch [1] (ans := []) (vs := [(21, .int .i64 ((i1 + 1 : Nat) : Int))]) (l := []) (by kernel_rfl) trivial ?_
      have hS7 := hS6.takeN 0
      obtain rfl := Option.some.inj h
      exact ge_nil fun a hF => hQ _ _ _ (Outs.again ⟨hS7, hF.weaken ⟨by kernel_rfl, by kernel_rfl, by kernel_rfl, by kernel_rfl, by kernel_rfl, by kernel_rfl, by kernel_rfl, trivial⟩⟩)
    · rw [if_neg hc2] at h
      refine ge_known (t := 29) (b := ((i1 : Int) != xf_4)) (c := true) (by kernel_rfl) (bne_iff_ne.2 hc2) ?_
      refine ge_batch [4, 5, 6, 7, 8, 9] (ans := [.val (.int .i64 e1.P), .val (.int .i64 xf_0.P)]) (vs := [(35, .bool (decide (e1.P ≥ xf_0.P))), (34, .bool (decide (e1.P ≥ xf_0.P))), (33, .int .i64 xf_0.P), (32, .pointer (some ⟨bf_0, 6, none⟩)), (31, .int .i64 e1.P), (30, .pointer (some ⟨b1, 6, none⟩))]) (l := [.loaded ⟨b1, 6, none⟩ (.int .i64 e1.P), .loaded ⟨bf_0, 6, none⟩ (.int .i64 xf_0.P)]) (by kernel_rfl) ⟨hS6.cell 0 rfl rfl, hS6.glob hBf_0 rfl, trivial⟩ ?_
      refine ge_nil fun a hF => hK9 _ _ ?_ a hF
      by_cases hc3 : e1.P ≥ xf_0.P
      · rw [if_pos hc3] at h
        refine we_known (t := 35) (b := decide (e1.P ≥ xf_0.P)) (v := true) (by kernel_rfl) (decide_eq_true hc3) ?_
        refine we_true (by kernel_rfl) ?_
        refine we_draws (by kernel_rfl) [(0, 0), (1, 0), (2, 0), (3, 0), (4, 0), (5, 0), (6, 0), (8, 0), (9, 0), (7, 1), (10, 0), (11, 0), (12, 0)] (by kernel_rfl) ?_
        have hS8 := hS6.drew
        rcases hq2 : punctualref_up.f (IntKind.i64.wrap (x0 + e1.J)) e1.T with _ | r2
        · rw [hq2] at h; cases h
        rw [hq2] at h
        simp only [] at h
        refine ge_batch [0, 1, 2, 3, 4, 5, 6, 8, 9] (ans := [.val (.int .i64 e1.J), .val (.int .i64 e1.T), .val (.int .i64 e1.C)]) (vs := [(45, .int .i64 e1.C), (44, .pointer (some ⟨b1, 1, none⟩)), (42, .int .i64 e1.T), (41, .pointer (some ⟨b1, 2, none⟩)), (40, .int .i64 (IntKind.i64.wrap (x0 + e1.J))), (39, .int .i64 e1.J), (38, .pointer (some ⟨b1, 4, none⟩)), (37, .int .i64 x0), (36, .int .i64 z1)]) (l := [.loaded ⟨b1, 4, none⟩ (.int .i64 e1.J), .loaded ⟨b1, 2, none⟩ (.int .i64 e1.T), .loaded ⟨b1, 1, none⟩ (.int .i64 e1.C)]) (by kernel_rfl) ⟨hS8.cell 0 rfl rfl, hS8.cell 0 rfl rfl, hS8.cell 0 rfl rfl, trivial⟩ ?_
        refine ge_call (d := some 43) (f := 69) (args := #[.int .i64 (IntKind.i64.wrap (x0 + e1.J)), .int .i64 e1.T]) (by kernel_rfl) (punctualref_up_ok (IntKind.i64.wrap (x0 + e1.J)) e1.T _ _ hq2) ?_
        rintro _ w4 ⟨rfl, hS9⟩
        refine ⟨_, rfl, hS9.below, ?_⟩
        have hS10 := hS8.call hS9
        refine ge_batch [10, 11, 12] (ans := []) (vs := [(8, .int .i64 (IntKind.i64.wrap (z1 + (IntKind.i64.wrap (r2 * e1.C))))), (47, .int .i64 (IntKind.i64.wrap (z1 + (IntKind.i64.wrap (r2 * e1.C))))), (46, .int .i64 (IntKind.i64.wrap (r2 * e1.C)))]) (l := []) (by kernel_rfl) trivial ?_
        refine ge_nil fun a hF => hK7 _ _ ?_ a hF
        refine we_region [(0, 0), (1, 0)] rfl ?_
        refine ge_addn (d := 48) (ty := 3) (x := (.tmp 21)) (y := (.const (.int .i64 1))) (t := 3) (t2 := 3) (k := .i64) (m := i1) (by kernel_rfl) (by kernel_rfl) (by kernel_rfl) (by have h0 := hRf_3.small; omega) ?_
        refine ge_batch [1] (ans := []) (vs := [(21, .int .i64 ((i1 + 1 : Nat) : Int))]) (l := []) (by kernel_rfl) trivial ?_
        have hS11 := hS10.takeN 0
        obtain rfl := Option.some.inj h
        exact ge_nil fun a hF => hQ _ _ _ (Outs.again ⟨hS11, hF.weaken ⟨by kernel_rfl, by kernel_rfl, by kernel_rfl, by kernel_rfl, by kernel_rfl, by kernel_rfl, by kernel_rfl, trivial⟩⟩)
      · rw [if_neg hc3] at h
        refine we_known (t := 35) (b := decide (e1.P ≥ xf_0.P)) (v := false) (by kernel_rfl) (decide_eq_false hc3) ?_
        refine we_false (by kernel_rfl) ?_
        refine we_skip fun a hF => hK7 _ _ ?_ a hF
        refine we_region [(0, 0), (1, 0)] rfl ?_
        refine ge_addn (d := 48) (ty := 3) (x := (.tmp 21)) (y := (.const (.int .i64 1))) (t := 3) (t2 := 3) (k := .i64) (m := i1) (by kernel_rfl) (by kernel_rfl) (by kernel_rfl) (by have h0 := hRf_3.small; omega) ?_
        refine ge_batch [1] (ans := []) (vs := [(21, .int .i64 ((i1 + 1 : Nat) : Int))]) (l := []) (by kernel_rfl) trivial ?_
        have hS12 := hS6.takeN 0
        obtain rfl := Option.some.inj h
        exact ge_nil fun a hF => hQ _ _ _ (Outs.again ⟨hS12, hF.weaken ⟨by kernel_rfl, by kernel_rfl, by kernel_rfl, by kernel_rfl, by kernel_rfl, by kernel_rfl, by kernel_rfl, trivial⟩⟩)
  · rw [if_neg hc1] at h
    refine we_known (t := 22) (b := decide ((i1 : Int) < (lf_3.length : Int))) (v := false) (by kernel_rfl) (decide_eq_false hc1) ?_
    refine we_false (by kernel_rfl) ?_
    obtain rfl := Option.some.inj h
    exact we_exit fun a hF => hQ _ _ _ (Outs.out nofun (Exits.here ⟨hS, hF.weaken ⟨by kernel_rfl, trivial⟩⟩))
theorem punctualref_AnewWorst_1_ok (K : Nat) (x0 : Int) (bf_0 : Nat) (xf_0 : STask) (bf_1 : Nat) (xf_1 : Int) (bf_2 : Nat) (xf_2 : Int) (bf_3 : Nat) (lf_3 : List STask) (Af_3 : Option Addr) (cf_3 : Nat) (bf_4 : Nat) (xf_4 : Int) (w0 : World) (hBf_0 : Glob w0 bf_0 [.string xf_0.Name, .int .i64 xf_0.C, .int .i64 xf_0.T, .int .i64 xf_0.D, .int .i64 xf_0.J, .int .i64 xf_0.O, .int .i64 xf_0.P]) (hBf_1 : Glob w0 bf_1 [.int .i64 xf_1]) (hBf_2 : Glob w0 bf_2 [.int .i64 xf_2]) (hRf_3 : RdL w0 Af_3 lf_3) (hLf_3 : lf_3.length ≤ cf_3) (hBf_3 : Glob w0 bf_3 [.slice Af_3 lf_3.length cf_3]) (hBf_4 : Glob w0 bf_4 [.int .i64 xf_4]) (r : Int) (h : punctualref_AnewWorst_1.f K x0 xf_0 xf_1 xf_2 lf_3 xf_4 = some r) :
    Calls Tryd.prog 85 #[.int .i64 x0, .pointer (some ⟨bf_0, 0, none⟩), .pointer (some ⟨bf_1, 0, none⟩), .pointer (some ⟨bf_2, 0, none⟩), .pointer (some ⟨bf_3, 0, none⟩), .pointer (some ⟨bf_4, 0, none⟩)] w0 (punctualref_AnewWorst_1.Post w0 r) := by
  have hS := St.start w0
  unfold punctualref_AnewWorst_1.f at h
  refine calls_enter (n := 50) (args := [.int .i64 x0, .pointer (some ⟨bf_0, 0, none⟩), .pointer (some ⟨bf_1, 0, none⟩), .pointer (some ⟨bf_2, 0, none⟩), .pointer (some ⟨bf_3, 0, none⟩), .pointer (some ⟨bf_4, 0, none⟩)]) (fn := Tryd.f85) rfl rfl rfl rfl ?_
  show WE _ _ _ _ [(0, .int .i64 x0), (1, .pointer (some ⟨bf_0, 0, none⟩)), (2, .pointer (some ⟨bf_1, 0, none⟩)), (3, .pointer (some ⟨bf_2, 0, none⟩)), (4, .pointer (some ⟨bf_3, 0, none⟩)), (5, .pointer (some ⟨bf_4, 0, none⟩))] _
  refine we_seq fun K1 hK1 => ?_
  refine we_region [(0, 0)] rfl ?_
  refine ge_batch [0] (ans := []) (vs := [(7, .int .i64 0)]) (l := []) (by kernel_rfl) trivial ?_
  refine ge_nil fun a hF => hK1 _ _ ?_ a hF
  refine we_seq fun K2 hK2 => ?_
  refine we_draws (by kernel_rfl) [(0, 0), (1, 0), (2, 0), (3, 0), (5, 0), (4, 1), (6, 0), (7, 0), (8, 0)] (by kernel_rfl) ?_
  have hS1 := hS.drew
  rcases hq1 : punctualref_up.f x0 xf_1 with _ | r1
  · rw [hq1] at h; cases h
  rw [hq1] at h
  simp only [] at h
  refine ge_batch [0, 1, 2, 3, 5] (ans := [.val (.int .i64 xf_0.C), .val (.int .i64 xf_1), .val (.int .i64 xf_2)]) (vs := [(16, .int .i64 xf_2), (14, .int .i64 xf_1), (13, .int .i64 x0), (12, .int .i64 xf_0.C), (11, .pointer (some ⟨bf_0, 1, none⟩))]) (l := [.loaded ⟨bf_0, 1, none⟩ (.int .i64 xf_0.C), .loaded ⟨bf_1, 0, none⟩ (.int .i64 xf_1), .loaded ⟨bf_2, 0, none⟩ (.int .i64 xf_2)]) (by kernel_rfl) ⟨hS1.glob hBf_0 rfl, hS1.glob hBf_1 rfl, hS1.glob hBf_2 rfl, trivial⟩ ?_
  refine ge_call (d := some 15) (f := 69) (args := #[.int .i64 x0, .int .i64 xf_1]) (by kernel_rfl) (punctualref_up_ok x0 xf_1 _ _ hq1) ?_
  rintro _ w1 ⟨rfl, hS2⟩
  refine ⟨_, rfl, hS2.below, ?_⟩
  have hS3 := hS1.call hS2
  refine ge_batch [6, 7, 8] (ans := []) (vs := [(8, .int .i64 (IntKind.i64.wrap (xf_0.C + (IntKind.i64.wrap (r1 * xf_2))))), (18, .int .i64 (IntKind.i64.wrap (xf_0.C + (IntKind.i64.wrap (r1 * xf_2))))), (17, .int .i64 (IntKind.i64.wrap (r1 * xf_2)))]) (l := []) (by kernel_rfl) trivial ?_
  refine ge_nil fun a hF => hK2 _ _ ?_ a hF
  refine we_seq fun K3 hK3 => ?_
  refine we_seq fun K4 hK4 => ?_
  refine we_region [(0, 0), (1, 0), (2, 0)] rfl ?_
  refine ge_batch [0, 1, 2] (ans := [.val (.slice Af_3 lf_3.length cf_3)]) (vs := [(21, .int .i64 0), (20, .int .i64 (lf_3.length : Int)), (19, .slice Af_3 lf_3.length cf_3)]) (l := [.loaded ⟨bf_3, 0, none⟩ (.slice Af_3 lf_3.length cf_3)]) (by kernel_rfl) ⟨hS3.glob hBf_3 rfl, trivial⟩ ?_
  refine ge_nil fun a hF => hK4 _ _ ?_ a hF
  refine we_block ?_
  rcases hq3 : iter (punctualref_AnewWorst_1.r0 x0 xf_0 lf_3 xf_4) K (IntKind.i64.wrap (xf_0.C + (IntKind.i64.wrap (r1 * xf_2))), 0) with _ | (z3 | rr1)
  · rw [hq3] at h; cases h
  · rw [hq3] at h
    simp only [] at h
    refine we_iter (A := punctualref_AnewWorst_1.A0 K w0 x0 bf_0 xf_0 bf_1 xf_1 bf_2 xf_2 bf_3 lf_3 Af_3 cf_3 bf_4 xf_4 hBf_0 hBf_1 hBf_2 hRf_3 hLf_3 hBf_3 hBf_4 r1) (B := punctualref_AnewWorst_1.B0 K w0 x0 bf_0 xf_0 bf_1 xf_1 bf_2 xf_2 bf_3 lf_3 Af_3 cf_3 bf_4 xf_4 hBf_0 hBf_1 hBf_2 hRf_3 hLf_3 hBf_3 hBf_4 r1) hq3 (fun a hF => ⟨hS3, hF.weaken ⟨by kernel_rfl, by kernel_rfl, by kernel_rfl, by kernel_rfl, by kernel_rfl, by kernel_rfl, by kernel_rfl, trivial⟩⟩) (fun s o hf a w hA Q hQ => punctualref_AnewWorst_1_r0 K w0 x0 bf_0 xf_0 bf_1 xf_1 bf_2 xf_2 bf_3 lf_3 Af_3 cf_3 bf_4 xf_4 hBf_0 hBf_1 hBf_2 hRf_3 hLf_3 hBf_3 hBf_4 r1 s o hf a w hA Q hQ) ?_
    rintro _ a w5 _ ⟨rfl, hS13, hF⟩
    replace hS13 : St w0 w5 [] := hS13
    refine hK3 [(8, .int .i64 z3)] w5 ?_ a hF
    refine we_seq fun K10 hK10 => ?_
    refine we_region [(0, 0), (1, 0)] rfl ?_
    refine ge_batch [0, 1] (ans := []) (vs := [(7, .int .i64 z3), (49, .int .i64 z3)]) (l := []) (by kernel_rfl) trivial ?_
    refine ge_nil fun a hF => hK10 _ _ ?_ a hF
    obtain rfl := Option.some.inj h
    exact we_ret (post_ret (rs := [.tmp 7]) (ans := []) (vs := [.int .i64 z3]) (l := []) rfl (by kernel_rfl) trivial ⟨rfl, hS13⟩)
  · rw [hq3] at h
    simp only [] at h
    refine we_iter (A := punctualref_AnewWorst_1.A0 K w0 x0 bf_0 xf_0 bf_1 xf_1 bf_2 xf_2 bf_3 lf_3 Af_3 cf_3 bf_4 xf_4 hBf_0 hBf_1 hBf_2 hRf_3 hLf_3 hBf_3 hBf_4 r1) (B := punctualref_AnewWorst_1.B0 K w0 x0 bf_0 xf_0 bf_1 xf_1 bf_2 xf_2 bf_3 lf_3 Af_3 cf_3 bf_4 xf_4 hBf_0 hBf_1 hBf_2 hRf_3 hLf_3 hBf_3 hBf_4 r1) hq3 (fun a hF => ⟨hS3, hF.weaken ⟨by kernel_rfl, by kernel_rfl, by kernel_rfl, by kernel_rfl, by kernel_rfl, by kernel_rfl, by kernel_rfl, trivial⟩⟩) (fun s o hf a w hA Q hQ => punctualref_AnewWorst_1_r0 K w0 x0 bf_0 xf_0 bf_1 xf_1 bf_2 xf_2 bf_3 lf_3 Af_3 cf_3 bf_4 xf_4 hBf_0 hBf_1 hBf_2 hRf_3 hLf_3 hBf_3 hBf_4 r1 s o hf a w hA Q hQ) ?_
    rintro _ a w1 _ ⟨rfl, hb⟩
    obtain rfl := Option.some.inj h
    exact hb

/-! punctual/punctualref.least -/
abbrev punctualref_least.Post (w0 : World) (r : Int) (e : Ending) (w : World) : Prop := e = .returned (.int .i64 r) ∧ St w0 w []
def punctualref_least.r0 (K : Nat) (x0 : Int) (xg1_0 : STask) (xg1_1 : Int) (xg1_2 : Int) (lg1_3 : List STask) (xg1_4 : Int) : Int → Option (Int ⊕ (Unit ⊕ Int))
  | z1 =>
    if z1 ≤ x0 then
      match punctualref_AnewWorst_1.f K z1 xg1_0 xg1_1 xg1_2 lg1_3 xg1_4 with
      | none => none
      | some r1 =>
        if r1 = z1 then
          some (.inr (.inr z1))
        else
          some (.inl (IntKind.i64.wrap (z1 + 1)))
    else
      some (.inr (.inl ()))
def punctualref_least.f (K : Nat) (x0 : Int) (xg1_0 : STask) (xg1_1 : Int) (xg1_2 : Int) (lg1_3 : List STask) (xg1_4 : Int) : Option Int :=
  match iter (punctualref_least.r0 K x0 xg1_0 xg1_1 xg1_2 lg1_3 xg1_4) K 1 with
  | none => none
  | some (.inl _) =>
    some 0
  | some (.inr rr1) =>
    some rr1
abbrev punctualref_least.A0 (K : Nat) (w0 : World) (x0 : Int) (bg1_0 : Nat) (xg1_0 : STask) (bg1_1 : Nat) (xg1_1 : Int) (bg1_2 : Nat) (xg1_2 : Int) (bg1_3 : Nat) (lg1_3 : List STask) (Ag1_3 : Option Addr) (cg1_3 : Nat) (bg1_4 : Nat) (xg1_4 : Int) (hBg1_0 : Glob w0 bg1_0 [.string xg1_0.Name, .int .i64 xg1_0.C, .int .i64 xg1_0.T, .int .i64 xg1_0.D, .int .i64 xg1_0.J, .int .i64 xg1_0.O, .int .i64 xg1_0.P]) (hBg1_1 : Glob w0 bg1_1 [.int .i64 xg1_1]) (hBg1_2 : Glob w0 bg1_2 [.int .i64 xg1_2]) (hRg1_3 : RdL w0 Ag1_3 lg1_3) (hLg1_3 : lg1_3.length ≤ cg1_3) (hBg1_3 : Glob w0 bg1_3 [.slice Ag1_3 lg1_3.length cg1_3]) (hBg1_4 : Glob w0 bg1_4 [.int .i64 xg1_4]) : Int → Act → World → Prop := fun (s : Int) a w => St w0 w [] ∧ Frm 17 a [(0, .int .i64 x0), (1, .func (.func 85) #[] #[.pointer (some ⟨bg1_0, 0, none⟩), .pointer (some ⟨bg1_1, 0, none⟩), .pointer (some ⟨bg1_2, 0, none⟩), .pointer (some ⟨bg1_3, 0, none⟩), .pointer (some ⟨bg1_4, 0, none⟩)]), (5, .int .i64 s)]
abbrev punctualref_least.B0 (K : Nat) (w0 : World) (x0 : Int) (bg1_0 : Nat) (xg1_0 : STask) (bg1_1 : Nat) (xg1_1 : Int) (bg1_2 : Nat) (xg1_2 : Int) (bg1_3 : Nat) (lg1_3 : List STask) (Ag1_3 : Option Addr) (cg1_3 : Nat) (bg1_4 : Nat) (xg1_4 : Int) (hBg1_0 : Glob w0 bg1_0 [.string xg1_0.Name, .int .i64 xg1_0.C, .int .i64 xg1_0.T, .int .i64 xg1_0.D, .int .i64 xg1_0.J, .int .i64 xg1_0.O, .int .i64 xg1_0.P]) (hBg1_1 : Glob w0 bg1_1 [.int .i64 xg1_1]) (hBg1_2 : Glob w0 bg1_2 [.int .i64 xg1_2]) (hRg1_3 : RdL w0 Ag1_3 lg1_3) (hLg1_3 : lg1_3.length ≤ cg1_3) (hBg1_3 : Glob w0 bg1_3 [.slice Ag1_3 lg1_3.length cg1_3]) (hBg1_4 : Glob w0 bg1_4 [.int .i64 xg1_4]) : (Unit ⊕ Int) → Exit → Act → World → Prop := Exits 0 (fun (s : Unit) a w => St w0 w [] ∧ Frm 17 a []) (Rets Tryd.prog Tryd.f67 (punctualref_least.Post w0))
theorem punctualref_least_r0 (K : Nat) (w0 : World) (x0 : Int) (bg1_0 : Nat) (xg1_0 : STask) (bg1_1 : Nat) (xg1_1 : Int) (bg1_2 : Nat) (xg1_2 : Int) (bg1_3 : Nat) (lg1_3 : List STask) (Ag1_3 : Option Addr) (cg1_3 : Nat) (bg1_4 : Nat) (xg1_4 : Int) (hBg1_0 : Glob w0 bg1_0 [.string xg1_0.Name, .int .i64 xg1_0.C, .int .i64 xg1_0.T, .int .i64 xg1_0.D, .int .i64 xg1_0.J, .int .i64 xg1_0.O, .int .i64 xg1_0.P]) (hBg1_1 : Glob w0 bg1_1 [.int .i64 xg1_1]) (hBg1_2 : Glob w0 bg1_2 [.int .i64 xg1_2]) (hRg1_3 : RdL w0 Ag1_3 lg1_3) (hLg1_3 : lg1_3.length ≤ cg1_3) (hBg1_3 : Glob w0 bg1_3 [.slice Ag1_3 lg1_3.length cg1_3]) (hBg1_4 : Glob w0 bg1_4 [.int .i64 xg1_4]) (s : Int) (o : Int ⊕ (Unit ⊕ Int)) (h : punctualref_least.r0 K x0 xg1_0 xg1_1 xg1_2 lg1_3 xg1_4 s = some o) (a : Act) (w : World) (hA : punctualref_least.A0 K w0 x0 bg1_0 xg1_0 bg1_1 xg1_1 bg1_2 xg1_2 bg1_3 lg1_3 Ag1_3 cg1_3 bg1_4 xg1_4 hBg1_0 hBg1_1 hBg1_2 hRg1_3 hLg1_3 hBg1_3 hBg1_4 s a w) (Q : Exit → Act → World → Prop) (hQ : ∀ x a w, Outs (punctualref_least.A0 K w0 x0 bg1_0 xg1_0 bg1_1 xg1_1 bg1_2 xg1_2 bg1_3 lg1_3 Ag1_3 cg1_3 bg1_4 xg1_4 hBg1_0 hBg1_1 hBg1_2 hRg1_3 hLg1_3 hBg1_3 hBg1_4) (punctualref_least.B0 K w0 x0 bg1_0 xg1_0 bg1_1 xg1_1 bg1_2 xg1_2 bg1_3 lg1_3 Ag1_3 cg1_3 bg1_4 xg1_4 hBg1_0 hBg1_1 hBg1_2 hRg1_3 hLg1_3 hBg1_3 hBg1_4) o x a w → Q x a w) : (subF Tryd.f67 [1, 0, 1, 0, 0]).wp Tryd.prog Q a w := by
  obtain ⟨z1, hs⟩ : ∃ z, z = s := ⟨s, rfl⟩
  subst hs
  obtain ⟨hS, hF⟩ := hA
  replace hS : St w0 w [] := hS
  simp only [punctualref_least.r0] at h
  refine (?_ : WE Tryd.prog 17 (subF Tryd.f67 [1, 0, 1, 0, 0]) Q [(0, .int .i64 x0), (1, .func (.func 85) #[] #[.pointer (some ⟨bg1_0, 0, none⟩), .pointer (some ⟨bg1_1, 0, none⟩), .pointer (some ⟨bg1_2, 0, none⟩), .pointer (some ⟨bg1_3, 0, none⟩), .pointer (some ⟨bg1_4, 0, none⟩)]), (5, .int .i64 z1)] w) a hF
  clear hF a
  refine we_seq fun K4 hK4 => ?_
  refine we_seq fun K5 hK5 => ?_
  refine we_region [(0, 0), (1, 0), (2, 0)] rfl ?_
  refine ge_batch [0, 1, 2] (ans := []) (vs := [(8, .bool (decide (z1 ≤ x0))), (7, .int .i64 x0), (6, .int .i64 z1)]) (l := []) (by kernel_rfl) trivial ?_
  refine ge_nil fun a hF => hK5 _ _ ?_ a hF
  by_cases hc1 : z1 ≤ x0
  · rw [if_pos hc1] at h
    refine we_known (t := 8) (b := decide (z1 ≤ x0)) (v := true) (by kernel_rfl) (decide_eq_true hc1) ?_
    refine we_true (by kernel_rfl) ?_
    refine we_skip fun a hF => hK4 _ _ ?_ a hF
    refine we_seq fun K6 hK6 => ?_
    refine we_block ?_
    refine we_seq fun K7 hK7 => ?_
    refine we_region [(0, 0), (1, 0), (2, 1), (3, 0), (4, 0)] rfl ?_
    rcases hq1 : punctualref_AnewWorst_1.f K z1 xg1_0 xg1_1 xg1_2 lg1_3 xg1_4 with _ | r1
    · rw [hq1] at h; cases h
    rw [hq1] at h
    simp only [] at h
    refine ge_batch [0, 1] (ans := []) (vs := [(12, .int .i64 z1), (11, .func (.func 85) #[] #[.pointer (some ⟨bg1_0, 0, none⟩), .pointer (some ⟨bg1_1, 0, none⟩), .pointer (some ⟨bg1_2, 0, none⟩), .pointer (some ⟨bg1_3, 0, none⟩), .pointer (some ⟨bg1_4, 0, none⟩)])]) (l := []) (by kernel_rfl) trivial ?_
    refine ge_call (d := some 13) (f := 85) (args := #[.int .i64 z1, .pointer (some ⟨bg1_0, 0, none⟩), .pointer (some ⟨bg1_1, 0, none⟩), .pointer (some ⟨bg1_2, 0, none⟩), .pointer (some ⟨bg1_3, 0, none⟩), .pointer (some ⟨bg1_4, 0, none⟩)]) (by kernel_rfl) (punctualref_AnewWorst_1_ok K z1 bg1_0 xg1_0 bg1_1 xg1_1 bg1_2 xg1_2 bg1_3 lg1_3 Ag1_3 cg1_3 bg1_4 xg1_4 _ (Glob.ext hBg1_0 hS.below) (Glob.ext hBg1_1 hS.below) (Glob.ext hBg1_2 hS.below) (hS.rd hRg1_3) hLg1_3 (Glob.ext hBg1_3 hS.below) (Glob.ext hBg1_4 hS.below) _ hq1) ?_
    rintro _ w1 ⟨rfl, hS1⟩
    refine ⟨_, rfl, hS1.below, ?_⟩
    have hS2 := hS.call hS1
    refine ge_batch [3, 4] (ans := []) (vs := [(15, .bool (r1 == z1)), (14, .int .i64 z1)]) (l := []) (by kernel_rfl) trivial ?_
    refine ge_nil fun a hF => hK7 _ _ ?_ a hF
    by_cases hc2 : r1 = z1
    · rw [if_pos hc2] at h
      refine we_known (t := 15) (b := (r1 == z1)) (v := true) (by kernel_rfl) (beq_iff_eq.2 hc2) ?_
      refine we_true (by kernel_rfl) ?_
      refine we_seq fun K8 hK8 => ?_
      refine we_region [(0, 0), (1, 0)] rfl ?_
      refine ge_batch [0, 1] (ans := []) (vs := [(4, .int .i64 z1), (16, .int .i64 z1)]) (l := []) (by kernel_rfl) trivial ?_
      refine ge_nil fun a hF => hK8 _ _ ?_ a hF
      obtain rfl := Option.some.inj h
      exact we_ret fun a hF => hQ _ _ _ (Outs.out nofun (Exits.on ⟨rfl, (post_ret (rs := [.tmp 4]) (ans := []) (vs := [.int .i64 z1]) (l := []) rfl (by kernel_rfl) trivial ⟨rfl, hS2⟩) a hF⟩))
    · rw [if_neg hc2] at h
      refine we_known (t := 15) (b := (r1 == z1)) (v := false) (by kernel_rfl) (beq_eq_false_iff_ne.2 hc2) ?_
      refine we_false (by kernel_rfl) ?_
      refine we_skip fun a hF => hK6 _ _ ?_ a hF
      refine we_region [(0, 0), (1, 0), (2, 0)] rfl ?_
      refine ge_batch [0, 1, 2] (ans := []) (vs := [(5, .int .i64 (IntKind.i64.wrap (z1 + 1))), (10, .int .i64 (IntKind.i64.wrap (z1 + 1))), (9, .int .i64 z1)]) (l := []) (by kernel_rfl) trivial ?_
      obtain rfl := Option.some.inj h
      exact ge_nil fun a hF => hQ _ _ _ (Outs.again ⟨hS2, hF.weaken ⟨by kernel_rfl, by kernel_rfl, by kernel_rfl, trivial⟩⟩)
  · rw [if_neg hc1] at h
    refine we_known (t := 8) (b := decide (z1 ≤ x0)) (v := false) (by kernel_rfl) (decide_eq_false hc1) ?_
    refine we_false (by kernel_rfl) ?_
    obtain rfl := Option.some.inj h
    exact we_exit fun a hF => hQ _ _ _ (Outs.out nofun (Exits.here ⟨hS, hF.weaken trivial⟩))
theorem punctualref_least_ok (K : Nat) (x0 : Int) (bg1_0 : Nat) (xg1_0 : STask) (bg1_1 : Nat) (xg1_1 : Int) (bg1_2 : Nat) (xg1_2 : Int) (bg1_3 : Nat) (lg1_3 : List STask) (Ag1_3 : Option Addr) (cg1_3 : Nat) (bg1_4 : Nat) (xg1_4 : Int) (w0 : World) (hBg1_0 : Glob w0 bg1_0 [.string xg1_0.Name, .int .i64 xg1_0.C, .int .i64 xg1_0.T, .int .i64 xg1_0.D, .int .i64 xg1_0.J, .int .i64 xg1_0.O, .int .i64 xg1_0.P]) (hBg1_1 : Glob w0 bg1_1 [.int .i64 xg1_1]) (hBg1_2 : Glob w0 bg1_2 [.int .i64 xg1_2]) (hRg1_3 : RdL w0 Ag1_3 lg1_3) (hLg1_3 : lg1_3.length ≤ cg1_3) (hBg1_3 : Glob w0 bg1_3 [.slice Ag1_3 lg1_3.length cg1_3]) (hBg1_4 : Glob w0 bg1_4 [.int .i64 xg1_4]) (r : Int) (h : punctualref_least.f K x0 xg1_0 xg1_1 xg1_2 lg1_3 xg1_4 = some r) :
    Calls Tryd.prog 67 #[.int .i64 x0, .func (.func 85) #[] #[.pointer (some ⟨bg1_0, 0, none⟩), .pointer (some ⟨bg1_1, 0, none⟩), .pointer (some ⟨bg1_2, 0, none⟩), .pointer (some ⟨bg1_3, 0, none⟩), .pointer (some ⟨bg1_4, 0, none⟩)]] w0 (punctualref_least.Post w0 r) := by
  have hS := St.start w0
  unfold punctualref_least.f at h
  refine calls_enter (n := 17) (args := [.int .i64 x0, .func (.func 85) #[] #[.pointer (some ⟨bg1_0, 0, none⟩), .pointer (some ⟨bg1_1, 0, none⟩), .pointer (some ⟨bg1_2, 0, none⟩), .pointer (some ⟨bg1_3, 0, none⟩), .pointer (some ⟨bg1_4, 0, none⟩)]]) (fn := Tryd.f67) rfl rfl rfl rfl ?_
  show WE _ _ _ _ [(0, .int .i64 x0), (1, .func (.func 85) #[] #[.pointer (some ⟨bg1_0, 0, none⟩), .pointer (some ⟨bg1_1, 0, none⟩), .pointer (some ⟨bg1_2, 0, none⟩), .pointer (some ⟨bg1_3, 0, none⟩), .pointer (some ⟨bg1_4, 0, none⟩)])] _
  refine we_seq fun K1 hK1 => ?_
  refine we_region [(0, 0)] rfl ?_
  refine ge_batch [0] (ans := []) (vs := [(4, .int .i64 0)]) (l := []) (by kernel_rfl) trivial ?_
  refine ge_nil fun a hF => hK1 _ _ ?_ a hF
  refine we_seq fun K2 hK2 => ?_
  refine we_seq fun K3 hK3 => ?_
  refine we_region [(0, 0)] rfl ?_
  refine ge_batch [0] (ans := []) (vs := [(5, .int .i64 1)]) (l := []) (by kernel_rfl) trivial ?_
  refine ge_nil fun a hF => hK3 _ _ ?_ a hF
  refine we_block ?_
  rcases hq2 : iter (punctualref_least.r0 K x0 xg1_0 xg1_1 xg1_2 lg1_3 xg1_4) K 1 with _ | (_ | rr1)
  · rw [hq2] at h; cases h
  · rw [hq2] at h
    simp only [] at h
    refine we_iter (A := punctualref_least.A0 K w0 x0 bg1_0 xg1_0 bg1_1 xg1_1 bg1_2 xg1_2 bg1_3 lg1_3 Ag1_3 cg1_3 bg1_4 xg1_4 hBg1_0 hBg1_1 hBg1_2 hRg1_3 hLg1_3 hBg1_3 hBg1_4) (B := punctualref_least.B0 K w0 x0 bg1_0 xg1_0 bg1_1 xg1_1 bg1_2 xg1_2 bg1_3 lg1_3 Ag1_3 cg1_3 bg1_4 xg1_4 hBg1_0 hBg1_1 hBg1_2 hRg1_3 hLg1_3 hBg1_3 hBg1_4) hq2 (fun a hF => ⟨hS, hF.weaken ⟨by kernel_rfl, by kernel_rfl, by kernel_rfl, trivial⟩⟩) (fun s o hf a w hA Q hQ => punctualref_least_r0 K w0 x0 bg1_0 xg1_0 bg1_1 xg1_1 bg1_2 xg1_2 bg1_3 lg1_3 Ag1_3 cg1_3 bg1_4 xg1_4 hBg1_0 hBg1_1 hBg1_2 hRg1_3 hLg1_3 hBg1_3 hBg1_4 s o hf a w hA Q hQ) ?_
    rintro _ a w2 _ ⟨rfl, hS3, hF⟩
    replace hS3 : St w0 w2 [] := hS3
    refine hK2 [] w2 ?_ a hF
    refine we_seq fun K9 hK9 => ?_
    refine we_region [(0, 0)] rfl ?_
    refine ge_batch [0] (ans := []) (vs := [(4, .int .i64 0)]) (l := []) (by kernel_rfl) trivial ?_
    refine ge_nil fun a hF => hK9 _ _ ?_ a hF
    obtain rfl := Option.some.inj h
    exact we_ret (post_ret (rs := [.tmp 4]) (ans := []) (vs := [.int .i64 0]) (l := []) rfl (by kernel_rfl) trivial ⟨rfl, hS3⟩)
  · rw [hq2] at h
    simp only [] at h
    refine we_iter (A := punctualref_least.A0 K w0 x0 bg1_0 xg1_0 bg1_1 xg1_1 bg1_2 xg1_2 bg1_3 lg1_3 Ag1_3 cg1_3 bg1_4 xg1_4 hBg1_0 hBg1_1 hBg1_2 hRg1_3 hLg1_3 hBg1_3 hBg1_4) (B := punctualref_least.B0 K w0 x0 bg1_0 xg1_0 bg1_1 xg1_1 bg1_2 xg1_2 bg1_3 lg1_3 Ag1_3 cg1_3 bg1_4 xg1_4 hBg1_0 hBg1_1 hBg1_2 hRg1_3 hLg1_3 hBg1_3 hBg1_4) hq2 (fun a hF => ⟨hS, hF.weaken ⟨by kernel_rfl, by kernel_rfl, by kernel_rfl, trivial⟩⟩) (fun s o hf a w hA Q hQ => punctualref_least_r0 K w0 x0 bg1_0 xg1_0 bg1_1 xg1_1 bg1_2 xg1_2 bg1_3 lg1_3 Ag1_3 cg1_3 bg1_4 xg1_4 hBg1_0 hBg1_1 hBg1_2 hRg1_3 hLg1_3 hBg1_3 hBg1_4 s o hf a w hA Q hQ) ?_
    rintro _ a w1 _ ⟨rfl, hb⟩
    obtain rfl := Option.some.inj h
    exact hb

/-! punctual/punctualref.AnewWorst -/
abbrev punctualref_AnewWorst.Post (w0 : World) (r : Int × SFault) (e : Ending) (w : World) : Prop := e = .returned (.tuple #[.int .i64 r.1, .agg #[.int .i64 r.2.Code, .int .i64 r.2.At]]) ∧ St w0 w []
def punctualref_AnewWorst.p0 (x2 : Int) (x3 : Int) : Option (Unit ⊕ (Int × SFault)) :=
    if x2 < 1 then
      some (.inr (0, (punctualref_F.f 3 0)))
    else
      if x2 > 20000 then
        some (.inr (0, (punctualref_F.f 3 0)))
      else
        if x3 < 0 then
          some (.inr (0, (punctualref_F.f 3 0)))
        else
          if x3 > 10000 then
            some (.inr (0, (punctualref_F.f 3 0)))
          else
            some (.inl ())
def punctualref_AnewWorst.r1 (l0 : List STask) (x3 : Int) (e1 : STask) : Nat × Int → Option ((Nat × Int) ⊕ (Int ⊕ (Int × SFault)))
  | (i1, z1) =>
    if (i1 : Int) < (l0.length : Int) then
      match l0[i1]? with
      | none => none
      | some e2 =>
        if x3 > 0 then
          if x3 < e2.C then
            if e2.P ≥ e1.P then
              if x3 > z1 then
                some (.inl ((i1 + 1), x3))
              else
                some (.inl ((i1 + 1), z1))
            else
              some (.inl ((i1 + 1), z1))
          else
            if e2.P ≥ e1.P then
              if e2.C > z1 then
                some (.inl ((i1 + 1), e2.C))
              else
                some (.inl ((i1 + 1), z1))
            else
              some (.inl ((i1 + 1), z1))
        else
          if e2.P ≥ e1.P then
            if e2.C > z1 then
              some (.inl ((i1 + 1), e2.C))
            else
              some (.inl ((i1 + 1), z1))
          else
            some (.inl ((i1 + 1), z1))
    else
      some (.inr (.inl z1))
def punctualref_AnewWorst.f (K : Nat) (l0 : List STask) (x1 : Int) (x2 : Int) (x3 : Int) : Option (Int × SFault) :=
  match punctualref_ResponseOf.f K l0 x1 0 with
  | none => none
  | some r1 =>
    if r1.2.Code = 0 then
      match punctualref_AnewWorst.p0 x2 x3 with
      | none => none
      | some (.inl _) =>
        if 0 ≤ x1 then
          match l0[(x1).toNat]? with
          | none => none
          | some e1 =>
            match iter (punctualref_AnewWorst.r1 l0 x3 e1) K (0, 0) with
            | none => none
            | some (.inl z3) =>
              match punctualref_least.f K (IntKind.i64.wrap (e1.D - e1.J)) e1 x2 z3 l0 x1 with
              | none => none
              | some r2 =>
                if r2 = 0 then
                  some (0, (punctualref_F.f 13 x1))
                else
                  some (IntKind.i64.wrap (r2 + e1.J), (⟨0, 0⟩ : SFault))
            | some (.inr rr1) =>
              some rr1
        else
          none
      | some (.inr rr2) =>
        some rr2
    else
      some (0, r1.2)
abbrev punctualref_AnewWorst.A0 (K : Nat) (w0 : World) (l0 : List STask) (A0 : Option Addr) (c0 : Nat) (x1 : Int) (x2 : Int) (x3 : Int) (hR0 : RdL w0 A0 l0) (hL0 : l0.length ≤ c0) (b1 : Nat) (b2 : Nat) (b3 : Nat) (b4 : Nat) (r1 : Int × SFault) (b5 : Nat) (hc1 : r1.2.Code = 0) : Unit → Act → World → Prop := fun (s : Unit) a w => St w0 w [Own.blk b4 (.cells #[.int .i64 0, .int .i64 0] 27 (0, 0)), Own.blk b3 (.cells #[.int .i64 x2] 3 (0, 0)), Own.blk b2 (.cells #[.int .i64 x1] 3 (0, 0)), Own.blk b1 (.cells #[.slice A0 l0.length c0] 82 (0, 0))] ∧ Frm 91 a [(3, .int .i64 x3), (4, .pointer (some ⟨b1, 0, none⟩)), (5, .pointer (some ⟨b2, 0, none⟩)), (6, .pointer (some ⟨b3, 0, none⟩)), (9, .pointer (some ⟨b4, 0, none⟩))]
abbrev punctualref_AnewWorst.B0 (K : Nat) (w0 : World) (l0 : List STask) (A0 : Option Addr) (c0 : Nat) (x1 : Int) (x2 : Int) (x3 : Int) (hR0 : RdL w0 A0 l0) (hL0 : l0.length ≤ c0) (b1 : Nat) (b2 : Nat) (b3 : Nat) (b4 : Nat) (r1 : Int × SFault) (b5 : Nat) (hc1 : r1.2.Code = 0) : (Int × SFault) → Exit → Act → World → Prop := Rets Tryd.prog Tryd.f50 (punctualref_AnewWorst.Post w0)
theorem punctualref_AnewWorst_p0 (K : Nat) (w0 : World) (l0 : List STask) (A0 : Option Addr) (c0 : Nat) (x1 : Int) (x2 : Int) (x3 : Int) (hR0 : RdL w0 A0 l0) (hL0 : l0.length ≤ c0) (b1 : Nat) (b2 : Nat) (b3 : Nat) (b4 : Nat) (r1 : Int × SFault) (b5 : Nat) (hc1 : r1.2.Code = 0) (o : Unit ⊕ (Int × SFault)) (h : punctualref_AnewWorst.p0 x2 x3 = some o) (w : World) (hS : St w0 w [Own.blk b5 (.cells #[.int .i64 r1.2.Code, .int .i64 r1.2.At] 27 (0, 0)), Own.blk b4 (.cells #[.int .i64 0, .int .i64 0] 27 (0, 0)), Own.blk b3 (.cells #[.int .i64 x2] 3 (0, 0)), Own.blk b2 (.cells #[.int .i64 x1] 3 (0, 0)), Own.blk b1 (.cells #[.slice A0 l0.length c0] 82 (0, 0))]) (Q : Exit → Act → World → Prop) (hQ : ∀ x a w, Outs (punctualref_AnewWorst.A0 K w0 l0 A0 c0 x1 x2 x3 hR0 hL0 b1 b2 b3 b4 r1 b5 hc1) (punctualref_AnewWorst.B0 K w0 l0 A0 c0 x1 x2 x3 hR0 hL0 b1 b2 b3 b4 r1 b5 hc1) o x a w → Q x a w) : WE Tryd.prog 91 (subF Tryd.f50 [1, 1, 0]) Q [(0, .slice A0 l0.length c0), (1, .int .i64 x1), (2, .int .i64 x2), (3, .int .i64 x3), (4, .pointer (some ⟨b1, 0, none⟩)), (5, .pointer (some ⟨b2, 0, none⟩)), (6, .pointer (some ⟨b3, 0, none⟩)), (8, .int .i64 0), (9, .pointer (some ⟨b4, 0, none⟩)), (10, .int .i64 r1.1), (11, .pointer (some ⟨b5, 0, none⟩)), (18, .tuple #[.int .i64 r1.1, .agg #[.int .i64 r1.2.Code, .int .i64 r1.2.At]]), (19, .slice A0 l0.length c0), (20, .int .i64 x1), (21, .tuple #[.int .i64 r1.1, .agg #[.int .i64 r1.2.Code, .int .i64 r1.2.At]]), (22, .int .i64 r1.1), (23, .agg #[.int .i64 r1.2.Code, .int .i64 r1.2.At]), (24, .pointer (some ⟨b5, 0, none⟩)), (25, .int .i64 r1.2.Code), (26, .bool false)] w := by
  simp only [punctualref_AnewWorst.p0] at h
  refine we_seq fun K6 hK6 => ?_
  refine we_region [(0, 0), (1, 0), (2, 0), (3, 0), (4, 0), (5, 0), (6, 0), (7, 0), (8, 0), (9, 0), (10, 0), (11, 0), (12, 0), (13, 0)] rfl ?_
  refine ge_batch [0, 1, 2] (ans := [.val (.int .i64 x2)]) (vs := [(30, .bool (decide (x2 < 1))), (29, .bool (decide (x2 < 1))), (28, .int .i64 x2)]) (l := [.loaded ⟨b3, 0, none⟩ (.int .i64 x2)]) (by kernel_rfl) ⟨hS.cell 2 rfl rfl, trivial⟩ ?_
  by_cases hc2 : x2 < 1
  · rw [if_pos hc2] at h
    refine ge_known (t := 30) (b := decide (x2 < 1)) (c := true) (by kernel_rfl) (decide_eq_true hc2) ?_
    refine ge_batch [3, 4, 5, 6, 7, 8, 9, 10, 11, 12, 13] (ans := []) (vs := [(41, .bool true), (40, undef), (39, undef), (38, .bool true), (37, .bool true), (36, undef), (35, undef), (34, .bool true), (33, .bool true), (32, undef), (31, undef)]) (l := []) (by kernel_rfl) trivial ?_
    refine ge_nil fun a hF => hK6 _ _ ?_ a hF
    refine we_true (by kernel_rfl) ?_
    refine we_seq fun K7 hK7 => ?_
    refine we_region [(0, 1), (1, 0), (2, 2)] rfl ?_
    refine ge_call (d := some 42) (f := 61) (args := #[.int .i64 3, .int .i64 0]) (by kernel_rfl) (punctualref_F_ok 3 0 _ _ rfl) ?_
    rintro _ w8 ⟨rfl, hS10⟩
    refine ⟨_, rfl, hS10.below, ?_⟩
    have hS11 := hS.call hS10
    refine ge_batch [1] (ans := []) (vs := [(8, .int .i64 0)]) (l := []) (by kernel_rfl) trivial ?_
    have hS12 := hS11.bring 1 rfl
    refine ge_set (b := b4) (j := 0) (cs := #[.int .i64 0, .int .i64 0]) (t := 27) (vs := [.int .i64 ((punctualref_F.f 3 0).Code), .int .i64 ((punctualref_F.f 3 0).At)]) hS12 (by kernel_rfl) rfl rfl fun w9 hS13 => ?_
    have hS14 : St w0 w9 [Own.blk b4 (.cells #[.int .i64 ((punctualref_F.f 3 0).Code), .int .i64 ((punctualref_F.f 3 0).At)] 27 (0, 0)), Own.blk b5 (.cells #[.int .i64 r1.2.Code, .int .i64 r1.2.At] 27 (0, 0)), Own.blk b3 (.cells #[.int .i64 x2] 3 (0, 0)), Own.blk b2 (.cells #[.int .i64 x1] 3 (0, 0)), Own.blk b1 (.cells #[.slice A0 l0.length c0] 82 (0, 0))] := hS13
    refine ge_nil fun a hF => hK7 _ _ ?_ a hF
    have hS15 := hS14.takeN 0
    obtain rfl := Option.some.inj h
    exact we_ret fun a hF => hQ _ _ _ (Outs.out nofun ⟨rfl, (post_ret (rs := [.tmp 8, .cell 9 27]) (ans := [.val (.int .i64 ((punctualref_F.f 3 0).Code)), .val (.int .i64 ((punctualref_F.f 3 0).At))]) (vs := [.int .i64 0, .agg #[.int .i64 ((punctualref_F.f 3 0).Code), .int .i64 ((punctualref_F.f 3 0).At)]]) (l := [.loaded ⟨b4, 0, none⟩ (.int .i64 ((punctualref_F.f 3 0).Code)), .loaded ⟨b4, 1, none⟩ (.int .i64 ((punctualref_F.f 3 0).At))]) rfl (by kernel_rfl) ⟨hS14.cell 0 rfl rfl, hS14.cell 0 rfl rfl, trivial⟩ ⟨rfl, hS15⟩) a hF⟩)
  · rw [if_neg hc2] at h
    refine ge_known (t := 30) (b := decide (x2 < 1)) (c := false) (by kernel_rfl) (decide_eq_false hc2) ?_
    refine ge_batch [3, 4, 5, 6] (ans := [.val (.int .i64 x2)]) (vs := [(34, .bool (decide (x2 > 20000))), (33, .bool (decide (x2 > 20000))), (32, .bool (decide (x2 > 20000))), (31, .int .i64 x2)]) (l := [.loaded ⟨b3, 0, none⟩ (.int .i64 x2)]) (by kernel_rfl) ⟨hS.cell 2 rfl rfl, trivial⟩ ?_
    by_cases hc3 : x2 > 20000
    · rw [if_pos hc3] at h
      refine ge_known (t := 34) (b := decide (x2 > 20000)) (c := true) (by kernel_rfl) (decide_eq_true hc3) ?_
      refine ge_batch [7, 8, 9, 10, 11, 12, 13] (ans := []) (vs := [(41, .bool true), (40, undef), (39, undef), (38, .bool true), (37, .bool true), (36, undef), (35, undef)]) (l := []) (by kernel_rfl) trivial ?_
      refine ge_nil fun a hF => hK6 _ _ ?_ a hF
      refine we_true (by kernel_rfl) ?_
      refine we_seq fun K8 hK8 => ?_
      refine we_region [(0, 1), (1, 0), (2, 2)] rfl ?_
      refine ge_call (d := some 42) (f := 61) (args := #[.int .i64 3, .int .i64 0]) (by kernel_rfl) (punctualref_F_ok 3 0 _ _ rfl) ?_
      rintro _ w10 ⟨rfl, hS16⟩
      refine ⟨_, rfl, hS16.below, ?_⟩
      have hS17 := hS.call hS16
      refine ge_batch [1] (ans := []) (vs := [(8, .int .i64 0)]) (l := []) (by kernel_rfl) trivial ?_
      have hS18 := hS17.bring 1 rfl
      refine ge_set (b := b4) (j := 0) (cs := #[.int .i64 0, .int .i64 0]) (t := 27) (vs := [.int .i64 ((punctualref_F.f 3 0).Code), .int .i64 ((punctualref_F.f 3 0).At)]) hS18 (by kernel_rfl) rfl rfl fun w11 hS19 => ?_
      have hS20 : St w0 w11 [Own.blk b4 (.cells #[.int .i64 ((punctualref_F.f 3 0).Code), .int .i64 ((punctualref_F.f 3 0).At)] 27 (0, 0)), Own.blk b5 (.cells #[.int .i64 r1.2.Code, .int .i64 r1.2.At] 27 (0, 0)), Own.blk b3 (.cells #[.int .i64 x2] 3 (0, 0)), Own.blk b2 (.cells #[.int .i64 x1] 3 (0, 0)), Own.blk b1 (.cells #[.slice A0 l0.length c0] 82 (0, 0))] := hS19
      refine ge_nil fun a hF => hK8 _ _ ?_ a hF
      have hS21 := hS20.takeN 0
      obtain rfl := Option.some.inj h
      exact we_ret fun a hF => hQ _ _ _ (Outs.out nofun ⟨rfl, (post_ret (rs := [.tmp 8, .cell 9 27]) (ans := [.val (.int .i64 ((punctualref_F.f 3 0).Code)), .val (.int .i64 ((punctualref_F.f 3 0).At))]) (vs := [.int .i64 0, .agg #[.int .i64 ((punctualref_F.f 3 0).Code), .int .i64 ((punctualref_F.f 3 0).At)]]) (l := [.loaded ⟨b4, 0, none⟩ (.int .i64 ((punctualref_F.f 3 0).Code)), .loaded ⟨b4, 1, none⟩ (.int .i64 ((punctualref_F.f 3 0).At))]) rfl (by kernel_rfl) ⟨hS20.cell 0 rfl rfl, hS20.cell 0 rfl rfl, trivial⟩ ⟨rfl, hS21⟩) a hF⟩)
    · rw [if_neg hc3] at h
      refine ge_known (t := 34) (b := decide (x2 > 20000)) (c := false) (by kernel_rfl) (decide_eq_false hc3) ?_
      refine ge_batch [7, 8, 9, 10] (ans := []) (vs := [(38, .bool (decide (x3 < 0))), (37, .bool (decide (x3 < 0))), (36, .bool (decide (x3 < 0))), (35, .int .i64 x3)]) (l := []) (by kernel_rfl) trivial ?_
      by_cases hc4 : x3 < 0
      · rw [if_pos hc4] at h
        refine ge_known (t := 38) (b := decide (x3 < 0)) (c := true) (by kernel_rfl) (decide_eq_true hc4) ?_
        refine ge_batch [11, 12, 13] (ans := []) (vs := [(41, .bool true), (40, undef), (39, undef)]) (l := []) (by kernel_rfl) trivial ?_
        refine ge_nil fun a hF => hK6 _ _ ?_ a hF
        refine we_true (by kernel_rfl) ?_
        refine we_seq fun K9 hK9 => ?_
        refine we_region [(0, 1), (1, 0), (2, 2)] rfl ?_
        refine ge_call (d := some 42) (f := 61) (args := #[.int .i64 3, .int .i64 0]) (by kernel_rfl) (punctualref_F_ok 3 0 _ _ rfl) ?_
        rintro _ w12 ⟨rfl, hS22⟩
        refine ⟨_, rfl, hS22.below, ?_⟩
        have hS23 := hS.call hS22
        refine ge_batch [1] (ans := []) (vs := [(8, .int .i64 0)]) (l := []) (by kernel_rfl) trivial ?_
        have hS24 := hS23.bring 1 rfl
        refine ge_set (b := b4) (j := 0) (cs := #[.int .i64 0, .int .i64 0]) (t := 27) (vs := [.int .i64 ((punctualref_F.f 3 0).Code), .int .i64 ((punctualref_F.f 3 0).At)]) hS24 (by kernel_rfl) rfl rfl fun w13 hS25 => ?_
        have hS26 : St w0 w13 [Own.blk b4 (.cells #[.int .i64 ((punctualref_F.f 3 0).Code), .int .i64 ((punctualref_F.f 3 0).At)] 27 (0, 0)), Own.blk b5 (.cells #[.int .i64 r1.2.Code, .int .i64 r1.2.At] 27 (0, 0)), Own.blk b3 (.cells #[.int .i64 x2] 3 (0, 0)), Own.blk b2 (.cells #[.int .i64 x1] 3 (0, 0)), Own.blk b1 (.cells #[.slice A0 l0.length c0] 82 (0, 0))] := hS25
        refine ge_nil fun a hF => hK9 _ _ ?_ a hF
        have hS27 := hS26.takeN 0
        obtain rfl := Option.some.inj h
        exact we_ret fun a hF => hQ _ _ _ (Outs.out nofun ⟨rfl, (post_ret (rs := [.tmp 8, .cell 9 27]) (ans := [.val (.int .i64 ((punctualref_F.f 3 0).Code)), .val (.int .i64 ((punctualref_F.f 3 0).At))]) (vs := [.int .i64 0, .agg #[.int .i64 ((punctualref_F.f 3 0).Code), .int .i64 ((punctualref_F.f 3 0).At)]]) (l := [.loaded ⟨b4, 0, none⟩ (.int .i64 ((punctualref_F.f 3 0).Code)), .loaded ⟨b4, 1, none⟩ (.int .i64 ((punctualref_F.f 3 0).At))]) rfl (by kernel_rfl) ⟨hS26.cell 0 rfl rfl, hS26.cell 0 rfl rfl, trivial⟩ ⟨rfl, hS27⟩) a hF⟩)
      · rw [if_neg hc4] at h
        refine ge_known (t := 38) (b := decide (x3 < 0)) (c := false) (by kernel_rfl) (decide_eq_false hc4) ?_
        refine ge_batch [11, 12, 13] (ans := []) (vs := [(41, .bool (decide (x3 > 10000))), (40, .bool (decide (x3 > 10000))), (39, .int .i64 x3)]) (l := []) (by kernel_rfl) trivial ?_
        refine ge_nil fun a hF => hK6 _ _ ?_ a hF
        by_cases hc5 : x3 > 10000
        · rw [if_pos hc5] at h
          refine we_known (t := 41) (b := decide (x3 > 10000)) (v := true) (by kernel_rfl) (decide_eq_true hc5) ?_
          refine we_true (by kernel_rfl) ?_
          refine we_seq fun K10 hK10 => ?_
          refine we_region [(0, 1), (1, 0), (2, 2)] rfl ?_
          refine ge_call (d := some 42) (f := 61) (args := #[.int .i64 3, .int .i64 0]) (by kernel_rfl) (punctualref_F_ok 3 0 _ _ rfl) ?_
          rintro _ w14 ⟨rfl, hS28⟩
          refine ⟨_, rfl, hS28.below, ?_⟩
          have hS29 := hS.call hS28
          refine ge_batch [1] (ans := []) (vs := [(8, .int .i64 0)]) (l := []) (by kernel_rfl) trivial ?_
          have hS30 := hS29.bring 1 rfl
          refine ge_set (b := b4) (j := 0) (cs := #[.int .i64 0, .int .i64 0]) (t := 27) (vs := [.int .i64 ((punctualref_F.f 3 0).Code), .int .i64 ((punctualref_F.f 3 0).At)]) hS30 (by kernel_rfl) rfl rfl fun w15 hS31 => ?_
          have hS32 : St w0 w15 [Own.blk b4 (.cells #[.int .i64 ((punctualref_F.f 3 0).Code), .int .i64 ((punctualref_F.f 3 0).At)] 27 (0, 0)), Own.blk b5 (.cells #[.int .i64 r1.2.Code, .int .i64 r1.2.At] 27 (0, 0)), Own.blk b3 (.cells #[.int .i64 x2] 3 (0, 0)), Own.blk b2 (.cells #[.int .i64 x1] 3 (0, 0)), Own.blk b1 (.cells #[.slice A0 l0.length c0] 82 (0, 0))] := hS31
          refine ge_nil fun a hF => hK10 _ _ ?_ a hF
          have hS33 := hS32.takeN 0
          obtain rfl := Option.some.inj h
          exact we_ret fun a hF => hQ _ _ _ (Outs.out nofun ⟨rfl, (post_ret (rs := [.tmp 8, .cell 9 27]) (ans := [.val (.int .i64 ((punctualref_F.f 3 0).Code)), .val (.int .i64 ((punctualref_F.f 3 0).At))]) (vs := [.int .i64 0, .agg #[.int .i64 ((punctualref_F.f 3 0).Code), .int .i64 ((punctualref_F.f 3 0).At)]]) (l := [.loaded ⟨b4, 0, none⟩ (.int .i64 ((punctualref_F.f 3 0).Code)), .loaded ⟨b4, 1, none⟩ (.int .i64 ((punctualref_F.f 3 0).At))]) rfl (by kernel_rfl) ⟨hS32.cell 0 rfl rfl, hS32.cell 0 rfl rfl, trivial⟩ ⟨rfl, hS33⟩) a hF⟩)
        · rw [if_neg hc5] at h
          refine we_known (t := 41) (b := decide (x3 > 10000)) (v := false) (by kernel_rfl) (decide_eq_false hc5) ?_
          refine we_false (by kernel_rfl) ?_
          have hS34 := hS.bring 4 rfl
          have hS35 := hS34.bring 4 rfl
          have hS36 := hS35.bring 4 rfl
          have hS37 := hS36.bring 4 rfl
          have hS38 := hS37.takeN 4
          obtain rfl := Option.some.inj h
          exact we_skip fun a hF => hQ _ _ _ (Outs.again ⟨hS38, hF.weaken ⟨by kernel_rfl, by kernel_rfl, by kernel_rfl, by kernel_rfl, by kernel_rfl, trivial⟩⟩)
abbrev punctualref_AnewWorst.A1 (K : Nat) (w0 : World) (l0 : List STask) (A0 : Option Addr) (c0 : Nat) (x1 : Int) (x2 : Int) (x3 : Int) (hR0 : RdL w0 A0 l0) (hL0 : l0.length ≤ c0) (b1 : Nat) (b2 : Nat) (b3 : Nat) (b4 : Nat) (r1 : Int × SFault) (b5 : Nat) (hc1 : r1.2.Code = 0) (hc6 : 0 ≤ x1) (e1 : STask) (hx6 : l0[(x1).toNat]? = some e1) (b6 : Nat) (b7 : Nat) : (Nat × Int) → Act → World → Prop := fun (s : Nat × Int) a w => St w0 w [Own.blk b7 (.cells #[.int .i64 s.2] 3 (0, 0)), Own.blk b6 (.cells #[.string e1.Name, .int .i64 e1.C, .int .i64 e1.T, .int .i64 e1.D, .int .i64 e1.J, .int .i64 e1.O, .int .i64 e1.P] 85 (0, 0)), Own.blk b4 (.cells #[.int .i64 0, .int .i64 0] 27 (0, 0)), Own.blk b3 (.cells #[.int .i64 x2] 3 (0, 0)), Own.blk b2 (.cells #[.int .i64 x1] 3 (0, 0)), Own.blk b1 (.cells #[.slice A0 l0.length c0] 82 (0, 0))] ∧ Frm 91 a [(3, .int .i64 x3), (4, .pointer (some ⟨b1, 0, none⟩)), (5, .pointer (some ⟨b2, 0, none⟩)), (6, .pointer (some ⟨b3, 0, none⟩)), (9, .pointer (some ⟨b4, 0, none⟩)), (12, .pointer (some ⟨b6, 0, none⟩)), (13, .pointer (some ⟨b7, 0, none⟩)), (47, .slice A0 l0.length c0), (48, .int .i64 (l0.length : Int)), (49, .int .i64 (s.1 : Int))]
abbrev punctualref_AnewWorst.B1 (K : Nat) (w0 : World) (l0 : List STask) (A0 : Option Addr) (c0 : Nat) (x1 : Int) (x2 : Int) (x3 : Int) (hR0 : RdL w0 A0 l0) (hL0 : l0.length ≤ c0) (b1 : Nat) (b2 : Nat) (b3 : Nat) (b4 : Nat) (r1 : Int × SFault) (b5 : Nat) (hc1 : r1.2.Code = 0) (hc6 : 0 ≤ x1) (e1 : STask) (hx6 : l0[(x1).toNat]? = some e1) (b6 : Nat) (b7 : Nat) : (Int ⊕ (Int × SFault)) → Exit → Act → World → Prop := Exits 0 (fun (s : Int) a w => St w0 w [Own.blk b7 (.cells #[.int .i64 s] 3 (0, 0)), Own.blk b6 (.cells #[.string e1.Name, .int .i64 e1.C, .int .i64 e1.T, .int .i64 e1.D, .int .i64 e1.J, .int .i64 e1.O, .int .i64 e1.P] 85 (0, 0)), Own.blk b4 (.cells #[.int .i64 0, .int .i64 0] 27 (0, 0)), Own.blk b3 (.cells #[.int .i64 x2] 3 (0, 0)), Own.blk b2 (.cells #[.int .i64 x1] 3 (0, 0)), Own.blk b1 (.cells #[.slice A0 l0.length c0] 82 (0, 0))] ∧ Frm 91 a [(4, .pointer (some ⟨b1, 0, none⟩)), (5, .pointer (some ⟨b2, 0, none⟩)), (6, .pointer (some ⟨b3, 0, none⟩)), (9, .pointer (some ⟨b4, 0, none⟩)), (12, .pointer (some ⟨b6, 0, none⟩)), (13, .pointer (some ⟨b7, 0, none⟩))]) (Rets Tryd.prog Tryd.f50 (punctualref_AnewWorst.Post w0))
theorem punctualref_AnewWorst_r1 (K : Nat) (w0 : World) (l0 : List STask) (A0 : Option Addr) (c0 : Nat) (x1 : Int) (x2 : Int) (x3 : Int) (hR0 : RdL w0 A0 l0) (hL0 : l0.length ≤ c0) (b1 : Nat) (b2 : Nat) (b3 : Nat) (b4 : Nat) (r1 : Int × SFault) (b5 : Nat) (hc1 : r1.2.Code = 0) (hc6 : 0 ≤ x1) (e1 : STask) (hx6 : l0[(x1).toNat]? = some e1) (b6 : Nat) (b7 : Nat) (s : Nat × Int) (o : (Nat × Int) ⊕ (Int ⊕ (Int × SFault))) (h : punctualref_AnewWorst.r1 l0 x3 e1 s = some o) (a : Act) (w : World) (hA : punctualref_AnewWorst.A1 K w0 l0 A0 c0 x1 x2 x3 hR0 hL0 b1 b2 b3 b4 r1 b5 hc1 hc6 e1 hx6 b6 b7 s a w) (Q : Exit → Act → World → Prop) (hQ : ∀ x a w, Outs (punctualref_AnewWorst.A1 K w0 l0 A0 c0 x1 x2 x3 hR0 hL0 b1 b2 b3 b4 r1 b5 hc1 hc6 e1 hx6 b6 b7) (punctualref_AnewWorst.B1 K w0 l0 A0 c0 x1 x2 x3 hR0 hL0 b1 b2 b3 b4 r1 b5 hc1 hc6 e1 hx6 b6 b7) o x a w → Q x a w) : (subF Tryd.f50 [1, 1, 1, 1, 1, 0, 1, 0, 0]).wp Tryd.prog Q a w := by
  obtain ⟨i1, z1⟩ := s
  obtain ⟨hS, hF⟩ := hA
  replace hS : St w0 w [Own.blk b7 (.cells #[.int .i64 z1] 3 (0, 0)), Own.blk b6 (.cells #[.string e1.Name, .int .i64 e1.C, .int .i64 e1.T, .int .i64 e1.D, .int .i64 e1.J, .int .i64 e1.O, .int .i64 e1.P] 85 (0, 0)), Own.blk b4 (.cells #[.int .i64 0, .int .i64 0] 27 (0, 0)), Own.blk b3 (.cells #[.int .i64 x2] 3 (0, 0)), Own.blk b2 (.cells #[.int .i64 x1] 3 (0, 0)), Own.blk b1 (.cells #[.slice A0 l0.length c0] 82 (0, 0))] := hS
  simp only [punctualref_AnewWorst.r1] at h
  refine (?_ : WE Tryd.prog 91 (subF Tryd.f50 [1, 1, 1, 1, 1, 0, 1, 0, 0]) Q [(3, .int .i64 x3), (4, .pointer (some ⟨b1, 0, none⟩)), (5, .pointer (some ⟨b2, 0, none⟩)), (6, .pointer (some ⟨b3, 0, none⟩)), (9, .pointer (some ⟨b4, 0, none⟩)), (12, .pointer (some ⟨b6, 0, none⟩)), (13, .pointer (some ⟨b7, 0, none⟩)), (47, .slice A0 l0.length c0), (48, .int .i64 (l0.length : Int)), (49, .int .i64 (i1 : Int))] w) a hF
  clear hF a
  refine we_seq fun K15 hK15 => ?_
  refine we_region [(0, 0)] rfl ?_
  refine ge_batch [0] (ans := []) (vs := [(50, .bool (decide ((i1 : Int) < (l0.length : Int))))]) (l := []) (by kernel_rfl) trivial ?_
  refine ge_nil fun a hF => hK15 _ _ ?_ a hF
  refine we_seq fun K16 hK16 => ?_
  by_cases hc7 : (i1 : Int) < (l0.length : Int)
  · rw [if_pos hc7] at h
    refine we_known (t := 50) (b := decide ((i1 : Int) < (l0.length : Int))) (v := true) (by kernel_rfl) (decide_eq_true hc7) ?_
    refine we_true (by kernel_rfl) ?_
    refine we_skip fun a hF => hK16 _ _ ?_ a hF
    refine we_seq fun K17 hK17 => ?_
    refine we_block ?_
    refine we_seq fun K18 hK18 => ?_
    refine we_region [(0, 0), (1, 0), (2, 1), (3, 2)] rfl ?_
    rcases hx9 : l0[i1]? with _ | e2
    · rw [hx9] at h; cases h
    rw [hx9] at h
    simp only [] at h
    refine ge_index (d := 51) (ty := 0) (t := 82) (el := 85) (sz := 7) (m := l0.length) (c := c0) (x := (.tmp 47)) (y := (.tmp 49)) (A := A0) (k' := .i64) (j := (i1 : Int)) (jn := i1) (b0 := blkOf A0) (o0 := offOf A0) (by kernel_rfl) (by kernel_rfl) (by kernel_rfl) (by kernel_rfl) (by kernel_rfl) ((hS.rd hR0).eqSome (pos_of_get hx9)) rfl (lt_of_get hx9) ?_
    refine ge_batch [1] (ans := [.val (.string e2.Name), .val (.int .i64 e2.C), .val (.int .i64 e2.T), .val (.int .i64 e2.D), .val (.int .i64 e2.J), .val (.int .i64 e2.O), .val (.int .i64 e2.P)]) (vs := [(52, .agg #[.string e2.Name, .int .i64 e2.C, .int .i64 e2.T, .int .i64 e2.D, .int .i64 e2.J, .int .i64 e2.O, .int .i64 e2.P])]) (l := [.loaded ⟨blkOf A0, offOf A0 + i1 * 7, none⟩ (.string e2.Name), .loaded ⟨blkOf A0, offOf A0 + i1 * 7 + 1, none⟩ (.int .i64 e2.C), .loaded ⟨blkOf A0, offOf A0 + i1 * 7 + 2, none⟩ (.int .i64 e2.T), .loaded ⟨blkOf A0, offOf A0 + i1 * 7 + 3, none⟩ (.int .i64 e2.D), .loaded ⟨blkOf A0, offOf A0 + i1 * 7 + 4, none⟩ (.int .i64 e2.J), .loaded ⟨blkOf A0, offOf A0 + i1 * 7 + 5, none⟩ (.int .i64 e2.O), .loaded ⟨blkOf A0, offOf A0 + i1 * 7 + 6, none⟩ (.int .i64 e2.P)]) (by kernel_rfl) ⟨RdL.cell (j := 0) (hS.rd hR0) hx9 rfl, RdL.cell (j := 1) (hS.rd hR0) hx9 rfl, RdL.cell (j := 2) (hS.rd hR0) hx9 rfl, RdL.cell (j := 3) (hS.rd hR0) hx9 rfl, RdL.cell (j := 4) (hS.rd hR0) hx9 rfl, RdL.cell (j := 5) (hS.rd hR0) hx9 rfl, RdL.cell (j := 6) (hS.rd hR0) hx9 rfl, trivial⟩ ?_
    refine ge_new (d := some 15) (o := .cells #[.string (⟨#[]⟩), .int .i64 0, .int .i64 0, .int .i64 0, .int .i64 0, .int .i64 0, .int .i64 0] 85) (v := fun b => .pointer (some ⟨b, 0, none⟩)) hS (fun b => by kernel_rfl) fun b8 w21 hx10 hS52 => ?_
    refine ge_set (b := b8) (j := 0) (cs := #[.string (⟨#[]⟩), .int .i64 0, .int .i64 0, .int .i64 0, .int .i64 0, .int .i64 0, .int .i64 0]) (t := 85) (vs := [.string e2.Name, .int .i64 e2.C, .int .i64 e2.T, .int .i64 e2.D, .int .i64 e2.J, .int .i64 e2.O, .int .i64 e2.P]) hS52 (by kernel_rfl) rfl rfl fun w22 hS53 => ?_
    have hS54 : St w0 w22 [Own.blk b8 (.cells #[.string e2.Name, .int .i64 e2.C, .int .i64 e2.T, .int .i64 e2.D, .int .i64 e2.J, .int .i64 e2.O, .int .i64 e2.P] 85 (0, 0)), Own.blk b7 (.cells #[.int .i64 z1] 3 (0, 0)), Own.blk b6 (.cells #[.string e1.Name, .int .i64 e1.C, .int .i64 e1.T, .int .i64 e1.D, .int .i64 e1.J, .int .i64 e1.O, .int .i64 e1.P] 85 (0, 0)), Own.blk b4 (.cells #[.int .i64 0, .int .i64 0] 27 (0, 0)), Own.blk b3 (.cells #[.int .i64 x2] 3 (0, 0)), Own.blk b2 (.cells #[.int .i64 x1] 3 (0, 0)), Own.blk b1 (.cells #[.slice A0 l0.length c0] 82 (0, 0))] := hS53
    refine ge_nil fun a hF => hK18 _ _ ?_ a hF
    refine we_seq fun K19 hK19 => ?_
    refine we_region [(0, 0), (1, 0), (2, 0)] rfl ?_
    refine ge_batch [0, 1, 2] (ans := [.val (.int .i64 e2.C)]) (vs := [(16, .int .i64 e2.C), (54, .int .i64 e2.C), (53, .pointer (some ⟨b8, 1, none⟩))]) (l := [.loaded ⟨b8, 1, none⟩ (.int .i64 e2.C)]) (by kernel_rfl) ⟨hS54.cell 0 rfl rfl, trivial⟩ ?_
    refine ge_nil fun a hF => hK19 _ _ ?_ a hF
    refine we_seq fun K20 hK20 => ?_
    refine we_seq fun K21 hK21 => ?_
    refine we_region [(0, 0), (1, 0), (2, 0), (3, 0), (4, 0), (5, 0), (6, 0)] rfl ?_
    refine ge_batch [0, 1, 2] (ans := []) (vs := [(57, .bool (decide (x3 > 0))), (56, .bool (decide (x3 > 0))), (55, .int .i64 x3)]) (l := []) (by kernel_rfl) trivial ?_
    by_cases hc8 : x3 > 0
    · rw [if_pos hc8] at h
      refine ge_known (t := 57) (b := decide (x3 > 0)) (c := true) (by kernel_rfl) (decide_eq_true hc8) ?_
      refine ge_batch [3, 4, 5, 6] (ans := []) (vs := [(61, .bool (decide (x3 < e2.C))), (60, .bool (decide (x3 < e2.C))), (59, .int .i64 e2.C), (58, .int .i64 x3)]) (l := []) (by kernel_rfl) trivial ?_
      refine ge_nil fun a hF => hK21 _ _ ?_ a hF
      by_cases hc9 : x3 < e2.C
      · rw [if_pos hc9] at h
        refine we_known (t := 61) (b := decide (x3 < e2.C)) (v := true) (by kernel_rfl) (decide_eq_true hc9) ?_
        refine we_true (by kernel_rfl) ?_
        refine we_region [(0, 0), (1, 0)] rfl ?_
        refine ge_batch [0, 1] (ans := []) (vs := [(16, .int .i64 x3), (62, .int .i64 x3)]) (l := []) (by kernel_rfl) trivial ?_
        refine ge_nil fun a hF => hK20 _ _ ?_ a hF
        refine we_seq fun K22 hK22 => ?_
        refine we_region [(0, 0), (1, 0), (2, 0), (3, 0), (4, 0), (5, 0), (6, 0), (7, 0), (8, 0), (9, 0)] rfl ?_
        refine ge_batch [0, 1, 2, 3, 4, 5] (ans := [.val (.int .i64 e2.P), .val (.int .i64 e1.P)]) (vs := [(68, .bool (decide (e2.P ≥ e1.P))), (67, .bool (decide (e2.P ≥ e1.P))), (66, .int .i64 e1.P), (65, .pointer (some ⟨b6, 6, none⟩)), (64, .int .i64 e2.P), (63, .pointer (some ⟨b8, 6, none⟩))]) (l := [.loaded ⟨b8, 6, none⟩ (.int .i64 e2.P), .loaded ⟨b6, 6, none⟩ (.int .i64 e1.P)]) (by kernel_rfl) ⟨hS54.cell 0 rfl rfl, hS54.cell 2 rfl rfl, trivial⟩ ?_
        by_cases hc10 : e2.P ≥ e1.P
        · rw [if_pos hc10] at h
          refine ge_known (t := 68) (b := decide (e2.P ≥ e1.P)) (c := true) (by kernel_rfl) (decide_eq_true hc10) ?_
          refine ge_batch [6, 7, 8, 9] (ans := [.val (.int .i64 z1)]) (vs := [(72, .bool (decide (x3 > z1))), (71, .bool (decide (x3 > z1))), (70, .int .i64 z1), (69, .int .i64 x3)]) (l := [.loaded ⟨b7, 0, none⟩ (.int .i64 z1)]) (by kernel_rfl) ⟨hS54.cell 1 rfl rfl, trivial⟩ ?_
          refine ge_nil fun a hF => hK22 _ _ ?_ a hF
          by_cases hc11 : x3 > z1
          · rw [if_pos hc11] at h
            refine we_known (t := 72) (b := decide (x3 > z1)) (v := true) (by kernel_rfl) (decide_eq_true hc11) ?_
            refine we_true (by kernel_rfl) ?_
            refine we_region [(0, 0), (1, 2)] rfl ?_
            refine ge_batch [0] (ans := []) (vs := [(73, .int .i64 x3)]) (l := []) (by kernel_rfl) trivial ?_
            have hS55 := hS54.bring 1 rfl
            refine ge_set (b := b7) (j := 0) (cs := #[.int .i64 z1]) (t := 3) (vs := [.int .i64 x3]) hS55 (by kernel_rfl) rfl rfl fun w23 hS56 => ?_
            have hS57 : St w0 w23 [Own.blk b7 (.cells #[.int .i64 x3] 3 (0, 0)), Own.blk b8 (.cells #[.string e2.Name, .int .i64 e2.C, .int .i64 e2.T, .int .i64 e2.D, .int .i64 e2.J, .int .i64 e2.O, .int .i64 e2.P] 85 (0, 0)), Own.blk b6 (.cells #[.string e1.Name, .int .i64 e1.C, .int .i64 e1.T, .int .i64 e1.D, .int .i64 e1.J, .int .i64 e1.O, .int .i64 e1.P] 85 (0, 0)), Own.blk b4 (.cells #[.int .i64 0, .int .i64 0] 27 (0, 0)), Own.blk b3 (.cells #[.int .i64 x2] 3 (0, 0)), Own.blk b2 (.cells #[.int .i64 x1] 3 (0, 0)), Own.blk b1 (.cells #[.slice A0 l0.length c0] 82 (0, 0))] := hS56
            refine ge_nil fun a hF => hK17 _ _ ?_ a hF
            refine we_region [(0, 0), (1, 0)] rfl ?_
            refine ge_addn (d := 74) (ty := 3) (x := (.tmp 49)) (y := (.const (.int .i64 1))) (t := 3) (t2 := 3) (k := .i64) (m := i1) (by kernel_rfl) (by kernel_rfl) (by kernel_rfl) (by have h0 := hR0.small; omega) ?_
            refine ge_batch [1] (ans := []) (vs := [(49, .int .i64 ((i1 + 1 : Nat) : Int))]) (l := []) (by kernel_rfl) trivial ?_
            have hS58 := hS57.bring 6 rfl
            have hS59 := hS58.bring 6 rfl
            have hS60 := hS59.bring 6 rfl
            have hS61 := hS60.bring 6 rfl
            have hS62 := hS61.bring 6 rfl
            have hS63 := hS62.bring 5 rfl
            have hS64 := hS63.takeN 6
            obtain rfl := Option.some.inj h
            exact ge_nil fun a hF => hQ _ _ _ (Outs.again ⟨hS64, hF.weaken ⟨by kernel_rfl, by kernel_rfl, by kernel_rfl, by kernel_rfl, by kernel_rfl, by kernel_rfl, by kernel_rfl, by kernel_rfl, by kernel_rfl, by kernel_rfl, trivial⟩⟩)
          · rw [if_neg hc11] at h
            refine we_known (t := 72) (b := decide (x3 > z1)) (v := false) (by kernel_rfl) (decide_eq_false hc11) ?_
            refine we_false (by kernel_rfl) ?_
            refine we_skip fun a hF => hK17 _ _ ?_ a hF
            refine we_region [(0, 0), (1, 0)] rfl ?_
            refine ge_addn (d := 74) (ty := 3) (x := (.tmp 49)) (y := (.const (.int .i64 1))) (t := 3) (t2 := 3) (k := .i64) (m := i1) (by kernel_rfl) (by kernel_rfl) (by kernel_rfl) (by have h0 := hR0.small; omega) ?_
            refine ge_batch [1] (ans := []) (vs := [(49, .int .i64 ((i1 + 1 : Nat) : Int))]) (l := []) (by kernel_rfl) trivial ?_
            have hS65 := hS54.bring 6 rfl
            have hS66 := hS65.bring 6 rfl
            have hS67 := hS66.bring 6 rfl
            have hS68 := hS67.bring 6 rfl
            have hS69 := hS68.bring 6 rfl
            have hS70 := hS69.bring 6 rfl
            have hS71 := hS70.takeN 6
            obtain rfl := Option.some.inj h
            exact ge_nil fun a hF => hQ _ _ _ (Outs.again ⟨hS71, hF.weaken ⟨by kernel_rfl, by kernel_rfl, by kernel_rfl, by kernel_rfl, by kernel_rfl, by kernel_rfl, by kernel_rfl, by kernel_rfl, by kernel_rfl, by kernel_rfl, trivial⟩⟩)
        · rw [if_neg hc10] at h
          refine ge_known (t := 68) (b := decide (e2.P ≥ e1.P)) (c := false) (by kernel_rfl) (decide_eq_false hc10) ?_
          refine ge_batch [6, 7, 8, 9] (ans := []) (vs := [(72, .bool false), (71, undef), (70, undef), (69, undef)]) (l := []) (by kernel_rfl) trivial ?_
          refine ge_nil fun a hF => hK22 _ _ ?_ a hF
          refine we_false (by kernel_rfl) ?_
          refine we_skip fun a hF => hK17 _ _ ?_ a hF
          refine we_region [(0, 0), (1, 0)] rfl ?_
          refine ge_addn (d := 74) (ty := 3) (x := (.tmp 49)) (y := (.const (.int .i64 1))) (t := 3) (t2 := 3) (k := .i64) (m := i1) (by kernel_rfl) (by kernel_rfl) (by kernel_rfl) (by have h0 := hR0.small; omega) ?_
          refine ge_batch [1] (ans := []) (vs := [(49, .int .i64 ((i1 + 1 : Nat) : Int))]) (l := []) (by kernel_rfl) trivial ?_
          have hS72 := hS54.bring 6 rfl
          have hS73 := hS72.bring 6 rfl
          have hS74 := hS73.bring 6 rfl
          have hS75 := hS74.bring 6 rfl
          have hS76 := hS75.bring 6 rfl
          have hS77 := hS76.bring 6 rfl
          have hS78 := hS77.takeN 6
          obtain rfl := Option.some.inj h
          exact ge_nil fun a hF => hQ _ _ _ (Outs.again ⟨hS78, hF.weaken ⟨by kernel_rfl, by kernel_rfl, by kernel_rfl, by kernel_rfl, by kernel_rfl, by kernel_rfl, by kernel_rfl, by kernel_rfl, by kernel_rfl, by kernel_rfl, trivial⟩⟩)
      · rw [if_neg hc9] at h
        refine we_known (t := 61) (b := decide (x3 < e2.C)) (v := false) (by kernel_rfl) (decide_eq_false hc9) ?_
        refine we_false (by kernel_rfl) ?_
        refine we_skip fun a hF => hK20 _ _ ?_ a hF
        refine we_seq fun K23 hK23 => ?_
        refine we_region [(0, 0), (1, 0), (2, 0), (3, 0), (4, 0), (5, 0), (6, 0), (7, 0), (8, 0), (9, 0)] rfl ?_
        refine ge_batch [0, 1, 2, 3, 4, 5] (ans := [.val (.int .i64 e2.P), .val (.int .i64 e1.P)]) (vs := [(68, .bool (decide (e2.P ≥ e1.P))), (67, .bool (decide (e2.P ≥ e1.P))), (66, .int .i64 e1.P), (65, .pointer (some ⟨b6, 6, none⟩)), (64, .int .i64 e2.P), (63, .pointer (some ⟨b8, 6, none⟩))]) (l := [.loaded ⟨b8, 6, none⟩ (.int .i64 e2.P), .loaded ⟨b6, 6, none⟩ (.int .i64 e1.P)]) (by kernel_rfl) ⟨hS54.cell 0 rfl rfl, hS54.cell 2 rfl rfl, trivial⟩ ?_
        by_cases hc12 : e2.P ≥ e1.P
        · rw [if_pos hc12] at h
          refine ge_known (t := 68) (b := decide (e2.P ≥ e1.P)) (c := true) (by kernel_rfl) (decide_eq_true hc12) ?_
          refine ge_batch [6, 7, 8, 9] (ans := [.val (.int .i64 z1)]) (vs := [(72, .bool (decide (e2.C > z1))), (71, .bool (decide (e2.C > z1))), (70, .int .i64 z1), (69, .int .i64 e2.C)]) (l := [.loaded ⟨b7, 0, none⟩ (.int .i64 z1)]) (by kernel_rfl) ⟨hS54.cell 1 rfl rfl, trivial⟩ ?_
          refine ge_nil fun a hF => hK23 _ _ ?_ a hF
          by_cases hc13 : e2.C > z1
          · rw [if_pos hc13] at h
            refine we_known (t := 72) (b := decide (e2.C > z1)) (v := true) (by kernel_rfl) (decide_eq_true hc13) ?_
            refine we_true (by kernel_rfl) ?_
            refine we_region [(0, 0), (1, 2)] rfl ?_
            refine ge_batch [0] (ans := []) (vs := [(73, .int .i64 e2.C)]) (l := []) (by kernel_rfl) trivial ?_
            have hS79 := hS54.bring 1 rfl
            refine ge_set (b := b7) (j := 0) (cs := #[.int .i64 z1]) (t := 3) (vs := [.int .i64 e2.C]) hS79 (by kernel_rfl) rfl rfl fun w24 hS80 => ?_
            have hS81 : St w0 w24 [Own.blk b7 (.cells #[.int .i64 e2.C] 3 (0, 0)), Own.blk b8 (.cells #[.string e2.Name, .int .i64 e2.C, .int .i64 e2.T, .int .i64 e2.D, .int .i64 e2.J, .int .i64 e2.O, .int .i64 e2.P] 85 (0, 0)), Own.blk b6 (.cells #[.string e1.Name, .int .i64 e1.C, .int .i64 e1.T, .int .i64 e1.D, .int .i64 e1.J, .int .i64 e1.O, .int .i64 e1.P] 85 (0, 0)), Own.blk b4 (.cells #[.int .i64 0, .int .i64 0] 27 (0, 0)), Own.blk b3 (.cells #[.int .i64 x2] 3 (0, 0)), Own.blk b2 (.cells #[.int .i64 x1] 3 (0, 0)), Own.blk b1 (.cells #[.slice A0 l0.length c0] 82 (0, 0))] := hS80
            refine ge_nil fun a hF => hK17 _ _ ?_ a hF
            refine we_region [(0, 0), (1, 0)] rfl ?_
            refine ge_addn (d := 74) (ty := 3) (x := (.tmp 49)) (y := (.const (.int .i64 1))) (t := 3) (t2 := 3) (k := .i64) (m := i1) (by kernel_rfl) (by kernel_rfl) (by kernel_rfl) (by have h0 := hR0.small; omega) ?_
            refine ge_batch [1] (ans := []) (vs := [(49, .int .i64 ((i1 + 1 : Nat) : Int))]) (l := []) (by kernel_rfl) trivial ?_
            have hS82 := hS81.bring 6 rfl
            have hS83 := hS82.bring 6 rfl
            have hS84 := hS83.bring 6 rfl
            have hS85 := hS84.bring 6 rfl
            have hS86 := hS85.bring 6 rfl
            have hS87 := hS86.bring 5 rfl
            have hS88 := hS87.takeN 6
            obtain rfl := Option.some.inj h
            exact ge_nil fun a hF => hQ _ _ _ (Outs.again ⟨hS88, hF.weaken ⟨by kernel_rfl, by kernel_rfl, by kernel_rfl, by kernel_rfl, by kernel_rfl, by kernel_rfl, by kernel_rfl, by kernel_rfl, by kernel_rfl, by kernel_rfl, trivial⟩⟩)
          · rw [if_neg hc13] at h
            refine we_known (t := 72) (b := decide (e2.C > z1)) (v := false) (by kernel_rfl) (decide_eq_false hc13) ?_
            refine we_false (by kernel_rfl) ?_
            refine we_skip fun a hF => hK17 _ _ ?_ a hF
            refine we_region [(0, 0), (1, 0)] rfl ?_
            refine ge_addn (d := 74) (ty := 3) (x := (.tmp 49)) (y := (.const (.int .i64 1))) (t := 3) (t2 := 3) (k := .i64) (m := i1) (by kernel_rfl) (by kernel_rfl) (by kernel_rfl) (by have h0 := hR0.small; omega) ?_
            refine ge_batch [1] (ans := []) (vs := [(49, .int .i64 ((i1 + 1 : Nat) : Int))]) (l := []) (by kernel_rfl) trivial ?_
            have hS89 := hS54.bring 6 rfl
            have hS90 := hS89.bring 6 rfl
            have hS91 := hS90.bring 6 rfl
            have hS92 := hS91.bring 6 rfl
            have hS93 := hS92.bring 6 rfl
            have hS94 := hS93.bring 6 rfl
            have hS95 := hS94.takeN 6
            obtain rfl := Option.some.inj h
            exact ge_nil fun a hF => hQ _ _ _ (Outs.again ⟨hS95, hF.weaken ⟨by kernel_rfl, by kernel_rfl, by kernel_rfl, by kernel_rfl, by kernel_rfl, by kernel_rfl, by kernel_rfl, by kernel_rfl, by kernel_rfl, by kernel_rfl, trivial⟩⟩)
        · rw [if_neg hc12] at h
          refine ge_known (t := 68) (b := decide (e2.P ≥ e1.P)) (c := false) (by kernel_rfl) (decide_eq_false hc12) ?_
          refine ge_batch [6, 7, 8, 9] (ans := []) (vs := [(72, .bool false), (71, undef), (70, undef), (69, undef)]) (l := []) (by kernel_rfl) trivial ?_
          refine ge_nil fun a hF => hK23 _ _ ?_ a hF
          refine we_false (by kernel_rfl) ?_
          refine we_skip fun a hF => hK17 _ _ ?_ a hF
          refine we_region [(0, 0), (1, 0)] rfl ?_
          refine ge_addn (d := 74) (ty := 3) (x := (.tmp 49)) (y := (.const (.int .i64 1))) (t := 3) (t2 := 3) (k := .i64) (m := i1) (by kernel_rfl) (by kernel_rfl) (by kernel_rfl) (by have h0 := hR0.small; omega) ?_
          refine ge_batch [1] (ans := []) (vs := [(49, .int .i64 ((i1 + 1 : Nat) : Int))]) (l := []) (by kernel_rfl) trivial ?_
          have hS96 := hS54.bring 6 rfl
          have hS97 := hS96.bring 6 rfl
          have hS98 := hS97.bring 6 rfl
          have hS99 := hS98.bring 6 rfl
          have hS100 := hS99.bring 6 rfl
          have hS101 := hS100.bring 6 rfl
          have hS102 := hS101.takeN 6
          obtain rfl := Option.some.inj h
          exact ge_nil fun a hF => hQ _ _ _ (Outs.again ⟨hS102, hF.weaken ⟨by kernel_rfl, by kernel_rfl, by kernel_rfl, by kernel_rfl, by kernel_rfl, by kernel_rfl, by kernel_rfl, by kernel_rfl, by kernel_rfl, by kernel_rfl, trivial⟩⟩)
    · rw [if_neg hc8] at h
      refine ge_known (t := 57) (b := decide (x3 > 0)) (c := false) (by kernel_rfl) (decide_eq_false hc8) ?_
      refine ge_batch [3, 4, 5, 6] (ans := []) (vs := [(61, .bool false), (60, undef), (59, undef), (58, undef)]) (l := []) (by kernel_rfl) trivial ?_
      refine ge_nil fun a hF => hK21 _ _ ?_ a hF
      refine we_false (by kernel_rfl) ?_
      refine we_skip fun a hF => hK20 _ _ ?_ a hF
      refine we_seq fun K24 hK24 => ?_
      refine we_region [(0, 0), (1, 0), (2, 0), (3, 0), (4, 0), (5, 0), (6, 0), (7, 0), (8, 0), (9, 0)] rfl ?_
      refine ge_batch [0, 1, 2, 3, 4, 5] (ans := [.val (.int .i64 e2.P), .val (.int .i64 e1.P)]) (vs := [(68, .bool (decide (e2.P ≥ e1.P))), (67, .bool (decide (e2.P ≥ e1.P))), (66, .int .i64 e1.P), (65, .pointer (some ⟨b6, 6, none⟩)), (64, .int .i64 e2.P), (63, .pointer (some ⟨b8, 6, none⟩))]) (l := [.loaded ⟨b8, 6, none⟩ (.int .i64 e2.P), .loaded ⟨b6, 6, none⟩ (.int .i64 e1.P)]) (by kernel_rfl) ⟨hS54.cell 0 rfl rfl, hS54.cell 2 rfl rfl, trivial⟩ ?_
      by_cases hc14 : e2.P ≥ e1.P
      · rw [if_pos hc14] at h
        refine ge_known (t := 68) (b := decide (e2.P ≥ e1.P)) (c := true) (by kernel_rfl) (decide_eq_true hc14) ?_
        refine ge_batch [6, 7, 8, 9] (ans := [.val (.int .i64 z1)]) (vs := [(72, .bool (decide (e2.C > z1))), (71, .bool (decide (e2.C > z1))), (70, .int .i64 z1), (69, .int .i64 e2.C)]) (l := [.loaded ⟨b7, 0, none⟩ (.int .i64 z1)]) (by kernel_rfl) ⟨hS54.cell 1 rfl rfl, trivial⟩ ?_
        refine ge_nil fun a hF => hK24 _ _ ?_ a hF
        by_cases hc15 : e2.C > z1
        · rw [if_pos hc15] at h
          refine we_known (t := 72) (b := decide (e2.C > z1)) (v := true) (by kernel_rfl) (decide_eq_true hc15) ?_
          refine we_true (by kernel_rfl) ?_
          refine we_region [(0, 0), (1, 2)] rfl ?_
          refine ge_batch [0] (ans := []) (vs := [(73, .int .i64 e2.C)]) (l := []) (by kernel_rfl) trivial ?_
          have hS103 := hS54.bring 1 rfl
          refine ge_set (b := b7) (j := 0) (cs := #[.int .i64 z1]) (t := 3) (vs := [.int .i64 e2.C]) hS103 (by kernel_rfl) rfl rfl fun w25 hS104 => ?_
          have hS105 : St w0 w25 [Own.blk b7 (.cells #[.int .i64 e2.C] 3 (0, 0)), Own.blk b8 (.cells #[.string e2.Name, .int .i64 e2.C, .int .i64 e2.T, .int .i64 e2.D, .int .i64 e2.J, .int .i64 e2.O, .int .i64 e2.P] 85 (0, 0)), Own.blk b6 (.cells #[.string e1.Name, .int .i64 e1.C, .int .i64 e1.T, .int .i64 e1.D, .int .i64 e1.J, .int .i64 e1.O, .int .i64 e1.P] 85 (0, 0)), Own.blk b4 (.cells #[.int .i64 0, .int .i64 0] 27 (0, 0)), Own.blk b3 (.cells #[.int .i64 x2] 3 (0, 0)), Own.blk b2 (.cells #[.int .i64 x1] 3 (0, 0)), Own.blk b1 (.cells #[.slice A0 l0.length c0] 82 (0, 0))] := hS104
          refine ge_nil fun a hF => hK17 _ _ ?_ a hF
          refine we_region [(0, 0), (1, 0)] rfl ?_
          refine ge_addn (d := 74) (ty := 3) (x := (.tmp 49)) (y := (.const (.int .i64 1))) (t := 3) (t2 := 3) (k := .i64) (m := i1) (by kernel_rfl) (by kernel_rfl) (by kernel_rfl) (by have h0 := hR0.small; omega) ?_
          refine ge_batch [1] (ans := []) (vs := [(49, .int .i64 ((i1 + 1 : Nat) : Int))]) (l := []) (by kernel_rfl) trivial ?_
          have hS106 := hS105.bring 6 rfl
          have hS107 := hS106.bring 6 rfl
          have hS108 := hS107.bring 6 rfl
          have hS109 := hS108.bring 6 rfl
          have hS110 := hS109.bring 6 rfl
          have hS111 := hS110.bring 5 rfl
          have hS112 := hS111.takeN 6
          obtain rfl := Option.some.inj h
          exact ge_nil fun a hF => hQ _ _ _ (Outs.again ⟨hS112, hF.weaken ⟨by kernel_rfl, by kernel_rfl, by kernel_rfl, by kernel_rfl, by kernel_rfl, by kernel_rfl, by kernel_rfl, by kernel_rfl, by kernel_rfl, by kernel_rfl, trivial⟩⟩)
        · rw [if_neg hc15] at h
          refine we_known (t := 72) (b := decide (e2.C > z1)) (v := false) (by kernel_rfl) (decide_eq_false hc15) ?_
          refine we_false (by kernel_rfl) ?_
          refine we_skip fun a hF => hK17 _ _ ?_ a hF
          refine we_region [(0, 0), (1, 0)] rfl ?_
          refine ge_addn (d := 74) (ty := 3) (x := (.tmp 49)) (y := (.const (.int .i64 1))) (t := 3) (t2 := 3) (k := .i64) (m := i1) (by kernel_rfl) (by kernel_rfl) (by kernel_rfl) (by have h0 := hR0.small; omega) ?_
          refine ge_batch [1] (ans := []) (vs := [(49, .int .i64 ((i1 + 1 : Nat) : Int))]) (l := []) (by kernel_rfl) trivial ?_
          have hS113 := hS54.bring 6 rfl
          have hS114 := hS113.bring 6 rfl
          have hS115 := hS114.bring 6 rfl
          have hS116 := hS115.bring 6 rfl
          have hS117 := hS116.bring 6 rfl
          have hS118 := hS117.bring 6 rfl
          have hS119 := hS118.takeN 6
          obtain rfl := Option.some.inj h
          exact ge_nil fun a hF => hQ _ _ _ (Outs.again ⟨hS119, hF.weaken ⟨by kernel_rfl, by kernel_rfl, by kernel_rfl, by kernel_rfl, by kernel_rfl, by kernel_rfl, by kernel_rfl, by kernel_rfl, by kernel_rfl, by kernel_rfl, trivial⟩⟩)
      · rw [if_neg hc14] at h
        refine ge_known (t := 68) (b := decide (e2.P ≥ e1.P)) (c := false) (by kernel_rfl) (decide_eq_false hc14) ?_
        refine ge_batch [6, 7, 8, 9] (ans := []) (vs := [(72, .bool false), (71, undef), (70, undef), (69, undef)]) (l := []) (by kernel_rfl) trivial ?_
        refine ge_nil fun a hF => hK24 _ _ ?_ a hF
        refine we_false (by kernel_rfl) ?_
        refine we_skip fun a hF => hK17 _ _ ?_ a hF
        refine we_region [(0, 0), (1, 0)] rfl ?_
        refine ge_addn (d := 74) (ty := 3) (x := (.tmp 49)) (y := (.const (.int .i64 1))) (t := 3) (t2 := 3) (k := .i64) (m := i1) (by kernel_rfl) (by kernel_rfl) (by kernel_rfl) (by have h0 := hR0.small; omega) ?_
        refine ge_batch [1] (ans := []) (vs := [(49, .int .i64 ((i1 + 1 : Nat) : Int))]) (l := []) (by kernel_rfl) trivial ?_
        have hS120 := hS54.bring 6 rfl
        have hS121 := hS120.bring 6 rfl
        have hS122 := hS121.bring 6 rfl
        have hS123 := hS122.bring 6 rfl
        have hS124 := hS123.bring 6 rfl
        have hS125 := hS124.bring 6 rfl
        have hS126 := hS125.takeN 6
        obtain rfl := Option.some.inj h
        exact ge_nil fun a hF => hQ _ _ _ (Outs.again ⟨hS126, hF.weaken ⟨by kernel_rfl, by kernel_rfl, by kernel_rfl, by kernel_rfl, by kernel_rfl, by kernel_rfl, by kernel_rfl, by kernel_rfl, by kernel_rfl, by kernel_rfl, trivial⟩⟩)
  · rw [if_neg hc7] at h
    refine we_known (t := 50) (b := decide ((i1 : Int) < (l0.length : Int))) (v := false) (by kernel_rfl) (decide_eq_false hc7) ?_
    refine we_false (by kernel_rfl) ?_
    have hS127 := hS.bring 5 rfl
    have hS128 := hS127.bring 5 rfl
    have hS129 := hS128.bring 5 rfl
    have hS130 := hS129.bring 5 rfl
    have hS131 := hS130.bring 5 rfl
    have hS132 := hS131.bring 5 rfl
    obtain rfl := Option.some.inj h
    exact we_exit fun a hF => hQ _ _ _ (Outs.out nofun (Exits.here ⟨hS132, hF.weaken ⟨by kernel_rfl, by kernel_rfl, by kernel_rfl, by kernel_rfl, by kernel_rfl, by kernel_rfl, trivial⟩⟩))
theorem punctualref_AnewWorst_ok (K : Nat) (l0 : List STask) (A0 : Option Addr) (c0 : Nat) (x1 : Int) (x2 : Int) (x3 : Int) (w0 : World) (hR0 : RdL w0 A0 l0) (hL0 : l0.length ≤ c0) (r : Int × SFault) (h : punctualref_AnewWorst.f K l0 x1 x2 x3 = some r) :
    Calls Tryd.prog 50 #[.slice A0 l0.length c0, .int .i64 x1, .int .i64 x2, .int .i64 x3] w0 (punctualref_AnewWorst.Post w0 r) := by
  have hS := St.start w0
  unfold punctualref_AnewWorst.f at h
  refine calls_enter (n := 91) (args := [.slice A0 l0.length c0, .int .i64 x1, .int .i64 x2, .int .i64 x3]) (fn := Tryd.f50) rfl rfl rfl rfl ?_
  show WE _ _ _ _ [(0, .slice A0 l0.length c0), (1, .int .i64 x1), (2, .int .i64 x2), (3, .int .i64 x3)] _
  refine we_seq fun K1 hK1 => ?_
  refine we_region [(0, 1), (1, 1), (2, 1), (3, 0), (4, 1)] rfl ?_
  refine ge_new (d := some 4) (o := .cells #[.slice A0 l0.length c0] 82) (v := fun b => .pointer (some ⟨b, 0, none⟩)) hS (fun b => by kernel_rfl) fun b1 w1 hx1 hS1 => ?_
  refine ge_new (d := some 5) (o := .cells #[.int .i64 x1] 3) (v := fun b => .pointer (some ⟨b, 0, none⟩)) hS1 (fun b => by kernel_rfl) fun b2 w2 hx2 hS2 => ?_
  refine ge_new (d := some 6) (o := .cells #[.int .i64 x2] 3) (v := fun b => .pointer (some ⟨b, 0, none⟩)) hS2 (fun b => by kernel_rfl) fun b3 w3 hx3 hS3 => ?_
  refine ge_batch [3] (ans := []) (vs := [(8, .int .i64 0)]) (l := []) (by kernel_rfl) trivial ?_
  refine ge_new (d := some 9) (o := .cells #[.int .i64 0, .int .i64 0] 27) (v := fun b => .pointer (some ⟨b, 0, none⟩)) hS3 (fun b => by kernel_rfl) fun b4 w4 hx4 hS4 => ?_
  refine ge_nil fun a hF => hK1 _ _ ?_ a hF
  refine we_seq fun K2 hK2 => ?_
  refine we_seq fun K3 hK3 => ?_
  refine we_region [(0, 0), (1, 0), (2, 1), (3, 0), (4, 0), (5, 0), (6, 1), (7, 0), (8, 2)] rfl ?_
  rcases hq1 : punctualref_ResponseOf.f K l0 x1 0 with _ | r1
  · rw [hq1] at h; cases h
  rw [hq1] at h
  simp only [] at h
  refine ge_batch [0, 1] (ans := [.val (.slice A0 l0.length c0), .val (.int .i64 x1)]) (vs := [(20, .int .i64 x1), (19, .slice A0 l0.length c0)]) (l := [.loaded ⟨b1, 0, none⟩ (.slice A0 l0.length c0), .loaded ⟨b2, 0, none⟩ (.int .i64 x1)]) (by kernel_rfl) ⟨hS4.cell 3 rfl rfl, hS4.cell 2 rfl rfl, trivial⟩ ?_
  refine ge_call (d := some 21) (f := 84) (args := #[.slice A0 l0.length c0, .int .i64 x1, .int .i64 0]) (by kernel_rfl) (punctualref_ResponseOf_ok K l0 A0 c0 x1 0 _ (hS4.rd hR0) hL0 _ hq1) ?_
  rintro _ w5 ⟨rfl, hS5⟩
  refine ⟨_, rfl, hS5.below, ?_⟩
  have hS6 := hS4.call hS5
  refine ge_batch [3, 4, 5] (ans := []) (vs := [(23, .agg #[.int .i64 r1.2.Code, .int .i64 r1.2.At]), (22, .int .i64 r1.1), (18, .tuple #[.int .i64 r1.1, .agg #[.int .i64 r1.2.Code, .int .i64 r1.2.At]])]) (l := []) (by kernel_rfl) trivial ?_
  refine ge_new (d := some 11) (o := .cells #[.int .i64 0, .int .i64 0] 27) (v := fun b => .pointer (some ⟨b, 0, none⟩)) hS6 (fun b => by kernel_rfl) fun b5 w6 hx5 hS7 => ?_
  refine ge_batch [7] (ans := []) (vs := [(10, .int .i64 r1.1)]) (l := []) (by kernel_rfl) trivial ?_
  refine ge_set (b := b5) (j := 0) (cs := #[.int .i64 0, .int .i64 0]) (t := 27) (vs := [.int .i64 r1.2.Code, .int .i64 r1.2.At]) hS7 (by kernel_rfl) rfl rfl fun w7 hS8 => ?_
  have hS9 : St w0 w7 [Own.blk b5 (.cells #[.int .i64 r1.2.Code, .int .i64 r1.2.At] 27 (0, 0)), Own.blk b4 (.cells #[.int .i64 0, .int .i64 0] 27 (0, 0)), Own.blk b3 (.cells #[.int .i64 x2] 3 (0, 0)), Own.blk b2 (.cells #[.int .i64 x1] 3 (0, 0)), Own.blk b1 (.cells #[.slice A0 l0.length c0] 82 (0, 0))] := hS8
  refine ge_nil fun a hF => hK3 _ _ ?_ a hF
  refine we_seq fun K4 hK4 => ?_
  refine we_region [(0, 0), (1, 0), (2, 0)] rfl ?_
  refine ge_batch [0, 1, 2] (ans := [.val (.int .i64 r1.2.Code)]) (vs := [(26, .bool (r1.2.Code != 0)), (25, .int .i64 r1.2.Code), (24, .pointer (some ⟨b5, 0, none⟩))]) (l := [.loaded ⟨b5, 0, none⟩ (.int .i64 r1.2.Code)]) (by kernel_rfl) ⟨hS9.cell 0 rfl rfl, trivial⟩ ?_
  refine ge_nil fun a hF => hK4 _ _ ?_ a hF
  by_cases hc1 : r1.2.Code = 0
  · rw [if_pos hc1] at h
    refine we_known (t := 26) (b := (r1.2.Code != 0)) (v := false) (by kernel_rfl) (bne_eq_false_iff_eq.2 hc1) ?_
    refine we_false (by kernel_rfl) ?_
    refine we_skip fun a hF => hK2 _ _ ?_ a hF
    refine we_seq fun K5 hK5 => ?_
    rcases hq6 : punctualref_AnewWorst.p0 x2 x3 with _ | (_ | rr2)
    · rw [hq6] at h; cases h
    · rw [hq6] at h
      simp only [] at h
      refine we_keep (e' := [(0, .slice A0 l0.length c0), (1, .int .i64 x1), (2, .int .i64 x2), (3, .int .i64 x3), (4, .pointer (some ⟨b1, 0, none⟩)), (5, .pointer (some ⟨b2, 0, none⟩)), (6, .pointer (some ⟨b3, 0, none⟩)), (8, .int .i64 0), (9, .pointer (some ⟨b4, 0, none⟩)), (10, .int .i64 r1.1), (11, .pointer (some ⟨b5, 0, none⟩)), (18, .tuple #[.int .i64 r1.1, .agg #[.int .i64 r1.2.Code, .int .i64 r1.2.At]]), (19, .slice A0 l0.length c0), (20, .int .i64 x1), (21, .tuple #[.int .i64 r1.1, .agg #[.int .i64 r1.2.Code, .int .i64 r1.2.At]]), (22, .int .i64 r1.1), (23, .agg #[.int .i64 r1.2.Code, .int .i64 r1.2.At]), (24, .pointer (some ⟨b5, 0, none⟩)), (25, .int .i64 r1.2.Code), (26, .bool false)]) ⟨by kernel_rfl, by kernel_rfl, by kernel_rfl, by kernel_rfl, by kernel_rfl, by kernel_rfl, by kernel_rfl, by kernel_rfl, by kernel_rfl, by kernel_rfl, by kernel_rfl, by kernel_rfl, by kernel_rfl, by kernel_rfl, by kernel_rfl, by kernel_rfl, by kernel_rfl, by kernel_rfl, by kernel_rfl, by kernel_rfl, trivial⟩ (punctualref_AnewWorst_p0 K w0 l0 A0 c0 x1 x2 x3 hR0 hL0 b1 b2 b3 b4 r1 b5 hc1 _ hq6 _ hS9 _ ?_)
      rintro _ a w16 ⟨rfl, hS39, hF⟩
      replace hS39 : St w0 w16 [Own.blk b4 (.cells #[.int .i64 0, .int .i64 0] 27 (0, 0)), Own.blk b3 (.cells #[.int .i64 x2] 3 (0, 0)), Own.blk b2 (.cells #[.int .i64 x1] 3 (0, 0)), Own.blk b1 (.cells #[.slice A0 l0.length c0] 82 (0, 0))] := hS39
      refine hK5 [(3, .int .i64 x3), (4, .pointer (some ⟨b1, 0, none⟩)), (5, .pointer (some ⟨b2, 0, none⟩)), (6, .pointer (some ⟨b3, 0, none⟩)), (9, .pointer (some ⟨b4, 0, none⟩))] w16 ?_ a hF
      refine we_seq fun K11 hK11 => ?_
      refine we_region [(0, 0), (1, 0), (2, 0), (3, 0), (4, 1), (5, 2)] rfl ?_
      refine ge_batch [0, 1] (ans := [.val (.slice A0 l0.length c0), .val (.int .i64 x1)]) (vs := [(44, .int .i64 x1), (43, .slice A0 l0.length c0)]) (l := [.loaded ⟨b1, 0, none⟩ (.slice A0 l0.length c0), .loaded ⟨b2, 0, none⟩ (.int .i64 x1)]) (by kernel_rfl) ⟨hS39.cell 3 rfl rfl, hS39.cell 2 rfl rfl, trivial⟩ ?_
      by_cases hc6 : 0 ≤ x1
      · rw [if_pos hc6] at h
        rcases hx6 : l0[(x1).toNat]? with _ | e1
        · rw [hx6] at h; cases h
        rw [hx6] at h
        simp only [] at h
        refine ge_index (d := 45) (ty := 0) (t := 82) (el := 85) (sz := 7) (m := l0.length) (c := c0) (x := (.tmp 43)) (y := (.tmp 44)) (A := A0) (k' := .i64) (j := x1) (jn := ((x1).toNat)) (b0 := blkOf A0) (o0 := offOf A0) (by kernel_rfl) (by kernel_rfl) (by kernel_rfl) (by kernel_rfl) (by kernel_rfl) ((hS39.rd hR0).eqSome (pos_of_get hx6)) (Int.toNat_of_nonneg hc6).symm (lt_of_get hx6) ?_
        refine ge_batch [3] (ans := [.val (.string e1.Name), .val (.int .i64 e1.C), .val (.int .i64 e1.T), .val (.int .i64 e1.D), .val (.int .i64 e1.J), .val (.int .i64 e1.O), .val (.int .i64 e1.P)]) (vs := [(46, .agg #[.string e1.Name, .int .i64 e1.C, .int .i64 e1.T, .int .i64 e1.D, .int .i64 e1.J, .int .i64 e1.O, .int .i64 e1.P])]) (l := [.loaded ⟨blkOf A0, offOf A0 + ((x1).toNat) * 7, none⟩ (.string e1.Name), .loaded ⟨blkOf A0, offOf A0 + ((x1).toNat) * 7 + 1, none⟩ (.int .i64 e1.C), .loaded ⟨blkOf A0, offOf A0 + ((x1).toNat) * 7 + 2, none⟩ (.int .i64 e1.T), .loaded ⟨blkOf A0, offOf A0 + ((x1).toNat) * 7 + 3, none⟩ (.int .i64 e1.D), .loaded ⟨blkOf A0, offOf A0 + ((x1).toNat) * 7 + 4, none⟩ (.int .i64 e1.J), .loaded ⟨blkOf A0, offOf A0 + ((x1).toNat) * 7 + 5, none⟩ (.int .i64 e1.O), .loaded ⟨blkOf A0, offOf A0 + ((x1).toNat) * 7 + 6, none⟩ (.int .i64 e1.P)]) (by kernel_rfl) ⟨RdL.cell (j := 0) (hS39.rd hR0) hx6 rfl, RdL.cell (j := 1) (hS39.rd hR0) hx6 rfl, RdL.cell (j := 2) (hS39.rd hR0) hx6 rfl, RdL.cell (j := 3) (hS39.rd hR0) hx6 rfl, RdL.cell (j := 4) (hS39.rd hR0) hx6 rfl, RdL.cell (j := 5) (hS39.rd hR0) hx6 rfl, RdL.cell (j := 6) (hS39.rd hR0) hx6 rfl, trivial⟩ ?_
        refine ge_new (d := some 12) (o := .cells #[.string (⟨#[]⟩), .int .i64 0, .int .i64 0, .int .i64 0, .int .i64 0, .int .i64 0, .int .i64 0] 85) (v := fun b => .pointer (some ⟨b, 0, none⟩)) hS39 (fun b => by kernel_rfl) fun b6 w17 hx7 hS40 => ?_
        refine ge_set (b := b6) (j := 0) (cs := #[.string (⟨#[]⟩), .int .i64 0, .int .i64 0, .int .i64 0, .int .i64 0, .int .i64 0, .int .i64 0]) (t := 85) (vs := [.string e1.Name, .int .i64 e1.C, .int .i64 e1.T, .int .i64 e1.D, .int .i64 e1.J, .int .i64 e1.O, .int .i64 e1.P]) hS40 (by kernel_rfl) rfl rfl fun w18 hS41 => ?_
        have hS42 : St w0 w18 [Own.blk b6 (.cells #[.string e1.Name, .int .i64 e1.C, .int .i64 e1.T, .int .i64 e1.D, .int .i64 e1.J, .int .i64 e1.O, .int .i64 e1.P] 85 (0, 0)), Own.blk b4 (.cells #[.int .i64 0, .int .i64 0] 27 (0, 0)), Own.blk b3 (.cells #[.int .i64 x2] 3 (0, 0)), Own.blk b2 (.cells #[.int .i64 x1] 3 (0, 0)), Own.blk b1 (.cells #[.slice A0 l0.length c0] 82 (0, 0))] := hS41
        refine ge_nil fun a hF => hK11 _ _ ?_ a hF
        refine we_seq fun K12 hK12 => ?_
        refine we_region [(0, 1), (1, 2)] rfl ?_
        refine ge_new (d := some 13) (o := .cells #[.int .i64 0] 3) (v := fun b => .pointer (some ⟨b, 0, none⟩)) hS42 (fun b => by kernel_rfl) fun b7 w19 hx8 hS43 => ?_
        refine ge_set (b := b7) (j := 0) (cs := #[.int .i64 0]) (t := 3) (vs := [.int .i64 0]) hS43 (by kernel_rfl) rfl rfl fun w20 hS44 => ?_
        have hS45 : St w0 w20 [Own.blk b7 (.cells #[.int .i64 0] 3 (0, 0)), Own.blk b6 (.cells #[.string e1.Name, .int .i64 e1.C, .int .i64 e1.T, .int .i64 e1.D, .int .i64 e1.J, .int .i64 e1.O, .int .i64 e1.P] 85 (0, 0)), Own.blk b4 (.cells #[.int .i64 0, .int .i64 0] 27 (0, 0)), Own.blk b3 (.cells #[.int .i64 x2] 3 (0, 0)), Own.blk b2 (.cells #[.int .i64 x1] 3 (0, 0)), Own.blk b1 (.cells #[.slice A0 l0.length c0] 82 (0, 0))] := hS44
        refine ge_nil fun a hF => hK12 _ _ ?_ a hF
        refine we_seq fun K13 hK13 => ?_
        refine we_seq fun K14 hK14 => ?_
        refine we_region [(0, 0), (1, 0), (2, 0)] rfl ?_
        refine ge_batch [0, 1, 2] (ans := [.val (.slice A0 l0.length c0)]) (vs := [(49, .int .i64 0), (48, .int .i64 (l0.length : Int)), (47, .slice A0 l0.length c0)]) (l := [.loaded ⟨b1, 0, none⟩ (.slice A0 l0.length c0)]) (by kernel_rfl) ⟨hS45.cell 5 rfl rfl, trivial⟩ ?_
        refine ge_nil fun a hF => hK14 _ _ ?_ a hF
        refine we_block ?_
        have hS46 := hS45.bring 5 rfl
        have hS47 := hS46.bring 5 rfl
        have hS48 := hS47.bring 5 rfl
        have hS49 := hS48.bring 5 rfl
        have hS50 := hS49.bring 5 rfl
        have hS51 := hS50.bring 5 rfl
        rcases hq7 : iter (punctualref_AnewWorst.r1 l0 x3 e1) K (0, 0) with _ | (z3 | rr1)
        · rw [hq7] at h; cases h
        · rw [hq7] at h
          simp only [] at h
          refine we_iter (A := punctualref_AnewWorst.A1 K w0 l0 A0 c0 x1 x2 x3 hR0 hL0 b1 b2 b3 b4 r1 b5 hc1 hc6 e1 hx6 b6 b7) (B := punctualref_AnewWorst.B1 K w0 l0 A0 c0 x1 x2 x3 hR0 hL0 b1 b2 b3 b4 r1 b5 hc1 hc6 e1 hx6 b6 b7) hq7 (fun a hF => ⟨hS51, hF.weaken ⟨by kernel_rfl, by kernel_rfl, by kernel_rfl, by kernel_rfl, by kernel_rfl, by kernel_rfl, by kernel_rfl, by kernel_rfl, by kernel_rfl, by kernel_rfl, trivial⟩⟩) (fun s o hf a w hA Q hQ => punctualref_AnewWorst_r1 K w0 l0 A0 c0 x1 x2 x3 hR0 hL0 b1 b2 b3 b4 r1 b5 hc1 hc6 e1 hx6 b6 b7 s o hf a w hA Q hQ) ?_
          rintro _ a w26 _ ⟨rfl, hS133, hF⟩
          replace hS133 : St w0 w26 [Own.blk b7 (.cells #[.int .i64 z3] 3 (0, 0)), Own.blk b6 (.cells #[.string e1.Name, .int .i64 e1.C, .int .i64 e1.T, .int .i64 e1.D, .int .i64 e1.J, .int .i64 e1.O, .int .i64 e1.P] 85 (0, 0)), Own.blk b4 (.cells #[.int .i64 0, .int .i64 0] 27 (0, 0)), Own.blk b3 (.cells #[.int .i64 x2] 3 (0, 0)), Own.blk b2 (.cells #[.int .i64 x1] 3 (0, 0)), Own.blk b1 (.cells #[.slice A0 l0.length c0] 82 (0, 0))] := hS133
          refine hK13 [(4, .pointer (some ⟨b1, 0, none⟩)), (5, .pointer (some ⟨b2, 0, none⟩)), (6, .pointer (some ⟨b3, 0, none⟩)), (9, .pointer (some ⟨b4, 0, none⟩)), (12, .pointer (some ⟨b6, 0, none⟩)), (13, .pointer (some ⟨b7, 0, none⟩))] w26 ?_ a hF
          refine we_seq fun K25 hK25 => ?_
          refine we_region [(0, 0), (1, 0), (2, 0), (3, 0), (4, 0), (5, 0), (6, 1), (7, 0)] rfl ?_
          rcases hq8 : punctualref_least.f K (IntKind.i64.wrap (e1.D - e1.J)) e1 x2 z3 l0 x1 with _ | r2
          · rw [hq8] at h; cases h
          rw [hq8] at h
          simp only [] at h
          refine ge_batch [0, 1, 2, 3, 4, 5] (ans := [.val (.int .i64 e1.D), .val (.int .i64 e1.J)]) (vs := [(80, .func (.func 85) #[] #[.pointer (some ⟨b6, 0, none⟩), .pointer (some ⟨b3, 0, none⟩), .pointer (some ⟨b7, 0, none⟩), .pointer (some ⟨b1, 0, none⟩), .pointer (some ⟨b2, 0, none⟩)]), (79, .int .i64 (IntKind.i64.wrap (e1.D - e1.J))), (78, .int .i64 e1.J), (77, .pointer (some ⟨b6, 4, none⟩)), (76, .int .i64 e1.D), (75, .pointer (some ⟨b6, 3, none⟩))]) (l := [.loaded ⟨b6, 3, none⟩ (.int .i64 e1.D), .loaded ⟨b6, 4, none⟩ (.int .i64 e1.J)]) (by kernel_rfl) ⟨hS133.cell 1 rfl rfl, hS133.cell 1 rfl rfl, trivial⟩ ?_
          refine ge_call (d := some 81) (f := 67) (args := #[.int .i64 (IntKind.i64.wrap (e1.D - e1.J)), .func (.func 85) #[] #[.pointer (some ⟨b6, 0, none⟩), .pointer (some ⟨b3, 0, none⟩), .pointer (some ⟨b7, 0, none⟩), .pointer (some ⟨b1, 0, none⟩), .pointer (some ⟨b2, 0, none⟩)]]) (by kernel_rfl) (punctualref_least_ok K (IntKind.i64.wrap (e1.D - e1.J)) b6 e1 b3 x2 b7 z3 b1 l0 A0 c0 b2 x1 _ (hS133.globOf 1 rfl) (hS133.globOf 3 rfl) (hS133.globOf 0 rfl) (hS133.rd hR0) hL0 (hS133.globOf 5 rfl) (hS133.globOf 4 rfl) _ hq8) ?_
          rintro _ w27 ⟨rfl, hS134⟩
          refine ⟨_, rfl, hS134.below, ?_⟩
          have hS135 := hS133.call hS134
          refine ge_batch [7] (ans := []) (vs := [(17, .int .i64 r2)]) (l := []) (by kernel_rfl) trivial ?_
          refine ge_nil fun a hF => hK25 _ _ ?_ a hF
          refine we_seq fun K26 hK26 => ?_
          refine we_seq fun K27 hK27 => ?_
          refine we_region [(0, 0), (1, 0)] rfl ?_
          refine ge_batch [0, 1] (ans := []) (vs := [(83, .bool (r2 == 0)), (82, .int .i64 r2)]) (l := []) (by kernel_rfl) trivial ?_
          refine ge_nil fun a hF => hK27 _ _ ?_ a hF
          by_cases hc16 : r2 = 0
          · rw [if_pos hc16] at h
            refine we_known (t := 83) (b := (r2 == 0)) (v := true) (by kernel_rfl) (beq_iff_eq.2 hc16) ?_
            refine we_true (by kernel_rfl) ?_
            refine we_seq fun K28 hK28 => ?_
            refine we_region [(0, 0), (1, 1), (2, 0), (3, 2)] rfl ?_
            refine ge_batch [0] (ans := [.val (.int .i64 x1)]) (vs := [(84, .int .i64 x1)]) (l := [.loaded ⟨b2, 0, none⟩ (.int .i64 x1)]) (by kernel_rfl) ⟨hS135.cell 4 rfl rfl, trivial⟩ ?_
            refine ge_call (d := some 85) (f := 61) (args := #[.int .i64 13, .int .i64 x1]) (by kernel_rfl) (punctualref_F_ok 13 x1 _ _ rfl) ?_
            rintro _ w28 ⟨rfl, hS136⟩
            refine ⟨_, rfl, hS136.below, ?_⟩
            have hS137 := hS135.call hS136
            refine ge_batch [2] (ans := []) (vs := [(8, .int .i64 0)]) (l := []) (by kernel_rfl) trivial ?_
            have hS138 := hS137.bring 2 rfl
            refine ge_set (b := b4) (j := 0) (cs := #[.int .i64 0, .int .i64 0]) (t := 27) (vs := [.int .i64 ((punctualref_F.f 13 x1).Code), .int .i64 ((punctualref_F.f 13 x1).At)]) hS138 (by kernel_rfl) rfl rfl fun w29 hS139 => ?_
            have hS140 : St w0 w29 [Own.blk b4 (.cells #[.int .i64 ((punctualref_F.f 13 x1).Code), .int .i64 ((punctualref_F.f 13 x1).At)] 27 (0, 0)), Own.blk b7 (.cells #[.int .i64 z3] 3 (0, 0)), Own.blk b6 (.cells #[.string e1.Name, .int .i64 e1.C, .int .i64 e1.T, .int .i64 e1.D, .int .i64 e1.J, .int .i64 e1.O, .int .i64 e1.P] 85 (0, 0)), Own.blk b3 (.cells #[.int .i64 x2] 3 (0, 0)), Own.blk b2 (.cells #[.int .i64 x1] 3 (0, 0)), Own.blk b1 (.cells #[.slice A0 l0.length c0] 82 (0, 0))] := hS139
            refine ge_nil fun a hF => hK28 _ _ ?_ a hF
            have hS141 := hS140.takeN 0
            obtain rfl := Option.some.inj h
            exact we_ret (post_ret (rs := [.tmp 8, .cell 9 27]) (ans := [.val (.int .i64 ((punctualref_F.f 13 x1).Code)), .val (.int .i64 ((punctualref_F.f 13 x1).At))]) (vs := [.int .i64 0, .agg #[.int .i64 ((punctualref_F.f 13 x1).Code), .int .i64 ((punctualref_F.f 13 x1).At)]]) (l := [.loaded ⟨b4, 0, none⟩ (.int .i64 ((punctualref_F.f 13 x1).Code)), .loaded ⟨b4, 1, none⟩ (.int .i64 ((punctualref_F.f 13 x1).At))]) rfl (by kernel_rfl) ⟨hS140.cell 0 rfl rfl, hS140.cell 0 rfl rfl, trivial⟩ ⟨rfl, hS141⟩)
          · rw [if_neg hc16] at h
            refine we_known (t := 83) (b := (r2 == 0)) (v := false) (by kernel_rfl) (beq_eq_false_iff_ne.2 hc16) ?_
            refine we_false (by kernel_rfl) ?_
            refine we_skip fun a hF => hK26 _ _ ?_ a hF
            refine we_seq fun K29 hK29 => ?_
            refine we_region [(0, 0), (1, 0), (2, 0), (3, 0), (4, 0), (5, 0), (6, 2)] rfl ?_
            refine ge_batch [0, 1, 2, 3, 4, 5] (ans := [.val (.int .i64 e1.J)]) (vs := [(8, .int .i64 (IntKind.i64.wrap (r2 + e1.J))), (90, .agg #[.int .i64 0, .int .i64 0]), (89, .int .i64 (IntKind.i64.wrap (r2 + e1.J))), (88, .int .i64 e1.J), (87, .pointer (some ⟨b6, 4, none⟩)), (86, .int .i64 r2)]) (l := [.loaded ⟨b6, 4, none⟩ (.int .i64 e1.J)]) (by kernel_rfl) ⟨hS135.cell 1 rfl rfl, trivial⟩ ?_
            have hS142 := hS135.bring 2 rfl
            refine ge_set (b := b4) (j := 0) (cs := #[.int .i64 0, .int .i64 0]) (t := 27) (vs := [.int .i64 0, .int .i64 0]) hS142 (by kernel_rfl) rfl rfl fun w30 hS143 => ?_
            have hS144 : St w0 w30 [Own.blk b4 (.cells #[.int .i64 0, .int .i64 0] 27 (0, 0)), Own.blk b7 (.cells #[.int .i64 z3] 3 (0, 0)), Own.blk b6 (.cells #[.string e1.Name, .int .i64 e1.C, .int .i64 e1.T, .int .i64 e1.D, .int .i64 e1.J, .int .i64 e1.O, .int .i64 e1.P] 85 (0, 0)), Own.blk b3 (.cells #[.int .i64 x2] 3 (0, 0)), Own.blk b2 (.cells #[.int .i64 x1] 3 (0, 0)), Own.blk b1 (.cells #[.slice A0 l0.length c0] 82 (0, 0))] := hS143
            refine ge_nil fun a hF => hK29 _ _ ?_ a hF
            have hS145 := hS144.takeN 0
            obtain rfl := Option.some.inj h
            exact we_ret (post_ret (rs := [.tmp 8, .cell 9 27]) (ans := [.val (.int .i64 0), .val (.int .i64 0)]) (vs := [.int .i64 (IntKind.i64.wrap (r2 + e1.J)), .agg #[.int .i64 0, .int .i64 0]]) (l := [.loaded ⟨b4, 0, none⟩ (.int .i64 0), .loaded ⟨b4, 1, none⟩ (.int .i64 0)]) rfl (by kernel_rfl) ⟨hS144.cell 0 rfl rfl, hS144.cell 0 rfl rfl, trivial⟩ ⟨rfl, hS145⟩)
        · rw [hq7] at h
          simp only [] at h
          refine we_iter (A := punctualref_AnewWorst.A1 K w0 l0 A0 c0 x1 x2 x3 hR0 hL0 b1 b2 b3 b4 r1 b5 hc1 hc6 e1 hx6 b6 b7) (B := punctualref_AnewWorst.B1 K w0 l0 A0 c0 x1 x2 x3 hR0 hL0 b1 b2 b3 b4 r1 b5 hc1 hc6 e1 hx6 b6 b7) hq7 (fun a hF => ⟨hS51, hF.weaken ⟨by kernel_rfl, by kernel_rfl, by kernel_rfl, by kernel_rfl, by kernel_rfl, by kernel_rfl, by kernel_rfl, by kernel_rfl, by kernel_rfl, by kernel_rfl, trivial⟩⟩) (fun s o hf a w hA Q hQ => punctualref_AnewWorst_r1 K w0 l0 A0 c0 x1 x2 x3 hR0 hL0 b1 b2 b3 b4 r1 b5 hc1 hc6 e1 hx6 b6 b7 s o hf a w hA Q hQ) ?_
          rintro _ a w1 _ ⟨rfl, hb⟩
          obtain rfl := Option.some.inj h
          exact hb
      · rw [if_neg hc6] at h
        cases h
    · rw [hq6] at h
      simp only [] at h
      refine we_keep (e' := [(0, .slice A0 l0.length c0), (1, .int .i64 x1), (2, .int .i64 x2), (3, .int .i64 x3), (4, .pointer (some ⟨b1, 0, none⟩)), (5, .pointer (some ⟨b2, 0, none⟩)), (6, .pointer (some ⟨b3, 0, none⟩)), (8, .int .i64 0), (9, .pointer (some ⟨b4, 0, none⟩)), (10, .int .i64 r1.1), (11, .pointer (some ⟨b5, 0, none⟩)), (18, .tuple #[.int .i64 r1.1, .agg #[.int .i64 r1.2.Code, .int .i64 r1.2.At]]), (19, .slice A0 l0.length c0), (20, .int .i64 x1), (21, .tuple #[.int .i64 r1.1, .agg #[.int .i64 r1.2.Code, .int .i64 r1.2.At]]), (22, .int .i64 r1.1), (23, .agg #[.int .i64 r1.2.Code, .int .i64 r1.2.At]), (24, .pointer (some ⟨b5, 0, none⟩)), (25, .int .i64 r1.2.Code), (26, .bool false)]) ⟨by kernel_rfl, by kernel_rfl, by kernel_rfl, by kernel_rfl, by kernel_rfl, by kernel_rfl, by kernel_rfl, by kernel_rfl, by kernel_rfl, by kernel_rfl, by kernel_rfl, by kernel_rfl, by kernel_rfl, by kernel_rfl, by kernel_rfl, by kernel_rfl, by kernel_rfl, by kernel_rfl, by kernel_rfl, by kernel_rfl, trivial⟩ (punctualref_AnewWorst_p0 K w0 l0 A0 c0 x1 x2 x3 hR0 hL0 b1 b2 b3 b4 r1 b5 hc1 _ hq6 _ hS9 _ ?_)
      rintro _ a w1 ⟨_, rfl, hb⟩
      obtain rfl := Option.some.inj h
      exact hb
  · rw [if_neg hc1] at h
    refine we_known (t := 26) (b := (r1.2.Code != 0)) (v := true) (by kernel_rfl) (bne_iff_ne.2 hc1) ?_
    refine we_true (by kernel_rfl) ?_
    refine we_seq fun K30 hK30 => ?_
    refine we_draws (by kernel_rfl) [(0, 0), (1, 0), (2, 2)] (by kernel_rfl) ?_
    have hS146 := hS9.drew
    refine ge_batch [0, 1] (ans := [.val (.int .i64 r1.2.Code), .val (.int .i64 r1.2.At)]) (vs := [(8, .int .i64 0), (27, .agg #[.int .i64 r1.2.Code, .int .i64 r1.2.At])]) (l := [.loaded ⟨b5, 0, none⟩ (.int .i64 r1.2.Code), .loaded ⟨b5, 1, none⟩ (.int .i64 r1.2.At)]) (by kernel_rfl) ⟨hS146.cell 0 rfl rfl, hS146.cell 0 rfl rfl, trivial⟩ ?_
    have hS147 := hS146.bring 1 rfl
    refine ge_set (b := b4) (j := 0) (cs := #[.int .i64 0, .int .i64 0]) (t := 27) (vs := [.int .i64 r1.2.Code, .int .i64 r1.2.At]) hS147 (by kernel_rfl) rfl rfl fun w31 hS148 => ?_
    have hS149 : St w0 w31 [Own.blk b4 (.cells #[.int .i64 r1.2.Code, .int .i64 r1.2.At] 27 (0, 0)), Own.blk b5 (.cells #[.int .i64 r1.2.Code, .int .i64 r1.2.At] 27 (0, 0)), Own.blk b3 (.cells #[.int .i64 x2] 3 (0, 0)), Own.blk b2 (.cells #[.int .i64 x1] 3 (0, 0)), Own.blk b1 (.cells #[.slice A0 l0.length c0] 82 (0, 0))] := hS148
    refine ge_nil fun a hF => hK30 _ _ ?_ a hF
    have hS150 := hS149.takeN 0
    obtain rfl := Option.some.inj h
    exact we_ret (post_ret (rs := [.tmp 8, .cell 9 27]) (ans := [.val (.int .i64 r1.2.Code), .val (.int .i64 r1.2.At)]) (vs := [.int .i64 0, .agg #[.int .i64 r1.2.Code, .int .i64 r1.2.At]]) (l := [.loaded ⟨b4, 0, none⟩ (.int .i64 r1.2.Code), .loaded ⟨b4, 1, none⟩ (.int .i64 r1.2.At)]) rfl (by kernel_rfl) ⟨hS149.cell 0 rfl rfl, hS149.cell 0 rfl rfl, trivial⟩ ⟨rfl, hS150⟩)

/-! punctual/punctualsame.Still[punctual/api.Task] -/
abbrev punctualsame_Still_api_Task.Post (w0 : World) (r : Bool) (e : Ending) (w : World) : Prop := e = .returned (.bool r) ∧ St w0 w []
def punctualsame_Still_api_Task.r0 (f0 : List STask) (l1 : List STask) (x2 : STask) : Nat → Option (Nat ⊕ (Unit ⊕ Bool))
  | i1 =>
    if (i1 : Int) < (f0.length : Int) then
      match f0[i1]? with
      | none => none
      | some e1 =>
        if (i1 : Int) < (l1.length : Int) then
          match l1[i1]? with
          | none => none
          | some e2 =>
            if (STask.eqb e1 e2) = true then
              if (i1 : Int) ≥ (l1.length : Int) then
                if (STask.eqb e1 x2) = true then
                  some (.inl (i1 + 1))
                else
                  some (.inr (.inr false))
              else
                some (.inl (i1 + 1))
            else
              some (.inr (.inr false))
        else
          if (i1 : Int) ≥ (l1.length : Int) then
            if (STask.eqb e1 x2) = true then
              some (.inl (i1 + 1))
            else
              some (.inr (.inr false))
          else
            some (.inl (i1 + 1))
    else
      some (.inr (.inl ()))
def punctualsame_Still_api_Task.f (K : Nat) (f0 : List STask) (l1 : List STask) (x2 : STask) : Option Bool :=
  if (IntKind.i64.wrap ((l1.length : Int) + 3)) = (f0.length : Int) then
    match iter (punctualsame_Still_api_Task.r0 f0 l1 x2) K 0 with
    | none => none
    | some (.inl _) =>
      some true
    | some (.inr rr1) =>
      some rr1
  else
    none
abbrev punctualsame_Still_api_Task.A0 (K : Nat) (w0 : World) (f0 : List STask) (A0 : Option Addr) (n0 : Nat) (c0 : Nat) (l1 : List STask) (A1 : Option Addr) (c1 : Nat) (x2 : STask) (hR0 : RdL w0 A0 f0) (hc0 : f0.length ≤ c0) (hR1 : RdL w0 A1 l1) (hL1 : l1.length ≤ c1) (b1 : Nat) (hc1 : (IntKind.i64.wrap ((l1.length : Int) + 3)) = (f0.length : Int)) : Nat → Act → World → Prop := fun (s : Nat) a w => St w0 w [Own.blk b1 (.cells #[.string x2.Name, .int .i64 x2.C, .int .i64 x2.T, .int .i64 x2.D, .int .i64 x2.J, .int .i64 x2.O, .int .i64 x2.P] 85 (0, 0))] ∧ Frm 46 a [(1, .slice A1 l1.length c1), (5, .pointer (some ⟨b1, 0, none⟩)), (15, .slice A0 f0.length c0), (16, .int .i64 (f0.length : Int)), (17, .int .i64 (s : Int))]
abbrev punctualsame_Still_api_Task.B0 (K : Nat) (w0 : World) (f0 : List STask) (A0 : Option Addr) (n0 : Nat) (c0 : Nat) (l1 : List STask) (A1 : Option Addr) (c1 : Nat) (x2 : STask) (hR0 : RdL w0 A0 f0) (hc0 : f0.length ≤ c0) (hR1 : RdL w0 A1 l1) (hL1 : l1.length ≤ c1) (b1 : Nat) (hc1 : (IntKind.i64.wrap ((l1.length : Int) + 3)) = (f0.length : Int)) : (Unit ⊕ Bool) → Exit → Act → World → Prop := Exits 0 (fun (s : Unit) a w => St w0 w [] ∧ Frm 46 a []) (Rets Tryd.prog Tryd.f51 (punctualsame_Still_api_Task.Post w0))
theorem punctualsame_Still_api_Task_r0 (K : Nat) (w0 : World) (f0 : List STask) (A0 : Option Addr) (n0 : Nat) (c0 : Nat) (l1 : List STask) (A1 : Option Addr) (c1 : Nat) (x2 : STask) (hR0 : RdL w0 A0 f0) (hc0 : f0.length ≤ c0) (hR1 : RdL w0 A1 l1) (hL1 : l1.length ≤ c1) (b1 : Nat) (hc1 : (IntKind.i64.wrap ((l1.length : Int) + 3)) = (f0.length : Int)) (s : Nat) (o : Nat ⊕ (Unit ⊕ Bool)) (h : punctualsame_Still_api_Task.r0 f0 l1 x2 s = some o) (a : Act) (w : World) (hA : punctualsame_Still_api_Task.A0 K w0 f0 A0 n0 c0 l1 A1 c1 x2 hR0 hc0 hR1 hL1 b1 hc1 s a w) (Q : Exit → Act → World → Prop) (hQ : ∀ x a w, Outs (punctualsame_Still_api_Task.A0 K w0 f0 A0 n0 c0 l1 A1 c1 x2 hR0 hc0 hR1 hL1 b1 hc1) (punctualsame_Still_api_Task.B0 K w0 f0 A0 n0 c0 l1 A1 c1 x2 hR0 hc0 hR1 hL1 b1 hc1) o x a w → Q x a w) : (subF Tryd.f51 [1, 1, 0, 1, 0, 0]).wp Tryd.prog Q a w := by
  obtain ⟨i1, hs⟩ : ∃ z, z = s := ⟨s, rfl⟩
  subst hs
  obtain ⟨hS, hF⟩ := hA
  replace hS : St w0 w [Own.blk b1 (.cells #[.string x2.Name, .int .i64 x2.C, .int .i64 x2.T, .int .i64 x2.D, .int .i64 x2.J, .int .i64 x2.O, .int .i64 x2.P] 85 (0, 0))] := hS
  simp only [punctualsame_Still_api_Task.r0] at h
  refine (?_ : WE Tryd.prog 46 (subF Tryd.f51 [1, 1, 0, 1, 0, 0]) Q [(1, .slice A1 l1.length c1), (5, .pointer (some ⟨b1, 0, none⟩)), (15, .slice A0 f0.length c0), (16, .int .i64 (f0.length : Int)), (17, .int .i64 (i1 : Int))] w) a hF
  clear hF a
  refine we_seq fun K5 hK5 => ?_
  refine we_region [(0, 0)] rfl ?_
  refine ge_batch [0] (ans := []) (vs := [(18, .bool (decide ((i1 : Int) < (f0.length : Int))))]) (l := []) (by kernel_rfl) trivial ?_
  refine ge_nil fun a hF => hK5 _ _ ?_ a hF
  refine we_seq fun K6 hK6 => ?_
  by_cases hc2 : (i1 : Int) < (f0.length : Int)
  · rw [if_pos hc2] at h
    refine we_known (t := 18) (b := decide ((i1 : Int) < (f0.length : Int))) (v := true) (by kernel_rfl) (decide_eq_true hc2) ?_
    refine we_true (by kernel_rfl) ?_
    refine we_skip fun a hF => hK6 _ _ ?_ a hF
    refine we_seq fun K7 hK7 => ?_
    refine we_block ?_
    refine we_seq fun K8 hK8 => ?_
    refine we_region [(0, 0), (1, 0), (2, 0), (3, 1), (4, 0), (5, 2)] rfl ?_
    refine ge_batch [0] (ans := []) (vs := [(19, .int .i64 (i1 : Int))]) (l := []) (by kernel_rfl) trivial ?_
    rcases hx2 : f0[i1]? with _ | e1
    · rw [hx2] at h; cases h
    rw [hx2] at h
    simp only [] at h
    refine ge_index (d := 20) (ty := 0) (t := 82) (el := 85) (sz := 7) (m := f0.length) (c := c0) (x := (.tmp 15)) (y := (.tmp 17)) (A := A0) (k' := .i64) (j := (i1 : Int)) (jn := i1) (b0 := blkOf A0) (o0 := offOf A0) (by kernel_rfl) (by kernel_rfl) (by kernel_rfl) (by kernel_rfl) (by kernel_rfl) ((hS.rd hR0).eqSome (pos_of_get hx2)) rfl (lt_of_get hx2) ?_
    refine ge_batch [2] (ans := [.val (.string e1.Name), .val (.int .i64 e1.C), .val (.int .i64 e1.T), .val (.int .i64 e1.D), .val (.int .i64 e1.J), .val (.int .i64 e1.O), .val (.int .i64 e1.P)]) (vs := [(21, .agg #[.string e1.Name, .int .i64 e1.C, .int .i64 e1.T, .int .i64 e1.D, .int .i64 e1.J, .int .i64 e1.O, .int .i64 e1.P])]) (l := [.loaded ⟨blkOf A0, offOf A0 + i1 * 7, none⟩ (.string e1.Name), .loaded ⟨blkOf A0, offOf A0 + i1 * 7 + 1, none⟩ (.int .i64 e1.C), .loaded ⟨blkOf A0, offOf A0 + i1 * 7 + 2, none⟩ (.int .i64 e1.T), .loaded ⟨blkOf A0, offOf A0 + i1 * 7 + 3, none⟩ (.int .i64 e1.D), .loaded ⟨blkOf A0, offOf A0 + i1 * 7 + 4, none⟩ (.int .i64 e1.J), .loaded ⟨blkOf A0, offOf A0 + i1 * 7 + 5, none⟩ (.int .i64 e1.O), .loaded ⟨blkOf A0, offOf A0 + i1 * 7 + 6, none⟩ (.int .i64 e1.P)]) (by kernel_rfl) ⟨RdL.cell (j := 0) (hS.rd hR0) hx2 rfl, RdL.cell (j := 1) (hS.rd hR0) hx2 rfl, RdL.cell (j := 2) (hS.rd hR0) hx2 rfl, RdL.cell (j := 3) (hS.rd hR0) hx2 rfl, RdL.cell (j := 4) (hS.rd hR0) hx2 rfl, RdL.cell (j := 5) (hS.rd hR0) hx2 rfl, RdL.cell (j := 6) (hS.rd hR0) hx2 rfl, trivial⟩ ?_
    refine ge_new (d := some 9) (o := .cells #[.string (⟨#[]⟩), .int .i64 0, .int .i64 0, .int .i64 0, .int .i64 0, .int .i64 0, .int .i64 0] 85) (v := fun b => .pointer (some ⟨b, 0, none⟩)) hS (fun b => by kernel_rfl) fun b2 w2 hx3 hS2 => ?_
    refine ge_batch [4] (ans := []) (vs := [(8, .int .i64 (i1 : Int))]) (l := []) (by kernel_rfl) trivial ?_
    refine ge_set (b := b2) (j := 0) (cs := #[.string (⟨#[]⟩), .int .i64 0, .int .i64 0, .int .i64 0, .int .i64 0, .int .i64 0, .int .i64 0]) (t := 85) (vs := [.string e1.Name, .int .i64 e1.C, .int .i64 e1.T, .int .i64 e1.D, .int .i64 e1.J, .int .i64 e1.O, .int .i64 e1.P]) hS2 (by kernel_rfl) rfl rfl fun w3 hS3 => ?_
    have hS4 : St w0 w3 [Own.blk b2 (.cells #[.string e1.Name, .int .i64 e1.C, .int .i64 e1.T, .int .i64 e1.D, .int .i64 e1.J, .int .i64 e1.O, .int .i64 e1.P] 85 (0, 0)), Own.blk b1 (.cells #[.string x2.Name, .int .i64 x2.C, .int .i64 x2.T, .int .i64 x2.D, .int .i64 x2.J, .int .i64 x2.O, .int .i64 x2.P] 85 (0, 0))] := hS3
    refine ge_nil fun a hF => hK8 _ _ ?_ a hF
    refine we_seq fun K9 hK9 => ?_
    refine we_draws (by kernel_rfl) [(0, 0), (1, 0), (2, 0), (3, 0), (4, 0), (5, 0), (6, 0), (7, 0), (8, 0), (9, 0), (10, 0), (11, 0), (12, 0), (13, 0), (14, 0), (15, 0), (16, 0), (17, 0), (18, 0), (19, 0), (20, 0), (21, 0), (22, 0)] (by kernel_rfl) ?_
    have hS5 := hS4.drew
    refine ge_batch [0, 1, 2, 3, 4] (ans := []) (vs := [(26, .bool (decide ((i1 : Int) < (l1.length : Int)))), (25, .bool (decide ((i1 : Int) < (l1.length : Int)))), (24, .int .i64 (l1.length : Int)), (23, .slice A1 l1.length c1), (22, .int .i64 (i1 : Int))]) (l := []) (by kernel_rfl) trivial ?_
    by_cases hc3 : (i1 : Int) < (l1.length : Int)
    · rw [if_pos hc3] at h
      refine ge_known (t := 26) (b := decide ((i1 : Int) < (l1.length : Int))) (c := true) (by kernel_rfl) (decide_eq_true hc3) ?_
      refine ge_batch [5, 6, 7] (ans := [.val (.string e1.Name), .val (.int .i64 e1.C), .val (.int .i64 e1.T), .val (.int .i64 e1.D), .val (.int .i64 e1.J), .val (.int .i64 e1.O), .val (.int .i64 e1.P)]) (vs := [(29, .int .i64 (i1 : Int)), (28, .slice A1 l1.length c1), (27, .agg #[.string e1.Name, .int .i64 e1.C, .int .i64 e1.T, .int .i64 e1.D, .int .i64 e1.J, .int .i64 e1.O, .int .i64 e1.P])]) (l := [.loaded ⟨b2, 0, none⟩ (.string e1.Name), .loaded ⟨b2, 1, none⟩ (.int .i64 e1.C), .loaded ⟨b2, 2, none⟩ (.int .i64 e1.T), .loaded ⟨b2, 3, none⟩ (.int .i64 e1.D), .loaded ⟨b2, 4, none⟩ (.int .i64 e1.J), .loaded ⟨b2, 5, none⟩ (.int .i64 e1.O), .loaded ⟨b2, 6, none⟩ (.int .i64 e1.P)]) (by kernel_rfl) ⟨hS5.cell 0 rfl rfl, hS5.cell 0 rfl rfl, hS5.cell 0 rfl rfl, hS5.cell 0 rfl rfl, hS5.cell 0 rfl rfl, hS5.cell 0 rfl rfl, hS5.cell 0 rfl rfl, trivial⟩ ?_
      rcases hx4 : l1[i1]? with _ | e2
      · rw [hx4] at h; cases h
      rw [hx4] at h
      simp only [] at h
      refine ge_index (d := 30) (ty := 0) (t := 82) (el := 85) (sz := 7) (m := l1.length) (c := c1) (x := (.tmp 28)) (y := (.tmp 29)) (A := A1) (k' := .i64) (j := (i1 : Int)) (jn := i1) (b0 := blkOf A1) (o0 := offOf A1) (by kernel_rfl) (by kernel_rfl) (by kernel_rfl) (by kernel_rfl) (by kernel_rfl) ((hS5.rd hR1).eqSome (pos_of_get hx4)) rfl (lt_of_get hx4) ?_
      refine ge_batch [9] (ans := [.val (.string e2.Name), .val (.int .i64 e2.C), .val (.int .i64 e2.T), .val (.int .i64 e2.D), .val (.int .i64 e2.J), .val (.int .i64 e2.O), .val (.int .i64 e2.P)]) (vs := [(31, .agg #[.string e2.Name, .int .i64 e2.C, .int .i64 e2.T, .int .i64 e2.D, .int .i64 e2.J, .int .i64 e2.O, .int .i64 e2.P])]) (l := [.loaded ⟨blkOf A1, offOf A1 + i1 * 7, none⟩ (.string e2.Name), .loaded ⟨blkOf A1, offOf A1 + i1 * 7 + 1, none⟩ (.int .i64 e2.C), .loaded ⟨blkOf A1, offOf A1 + i1 * 7 + 2, none⟩ (.int .i64 e2.T), .loaded ⟨blkOf A1, offOf A1 + i1 * 7 + 3, none⟩ (.int .i64 e2.D), .loaded ⟨blkOf A1, offOf A1 + i1 * 7 + 4, none⟩ (.int .i64 e2.J), .loaded ⟨blkOf A1, offOf A1 + i1 * 7 + 5, none⟩ (.int .i64 e2.O), .loaded ⟨blkOf A1, offOf A1 + i1 * 7 + 6, none⟩ (.int .i64 e2.P)]) (by kernel_rfl) ⟨RdL.cell (j := 0) (hS5.rd hR1) hx4 rfl, RdL.cell (j := 1) (hS5.rd hR1) hx4 rfl, RdL.cell (j := 2) (hS5.rd hR1) hx4 rfl, RdL.cell (j := 3) (hS5.rd hR1) hx4 rfl, RdL.cell (j := 4) (hS5.rd hR1) hx4 rfl, RdL.cell (j := 5) (hS5.rd hR1) hx4 rfl, RdL.cell (j := 6) (hS5.rd hR1) hx4 rfl, trivial⟩ ?_
      refine ge_eqs (d := 32) (ty := 4) (op := .neq) (x := (.tmp 27)) (y := (.tmp 31)) (t := 85) (t2 := 85) (xs := #[.string e1.Name, .int .i64 e1.C, .int .i64 e1.T, .int .i64 e1.D, .int .i64 e1.J, .int .i64 e1.O, .int .i64 e1.P]) (ys := #[.string e2.Name, .int .i64 e2.C, .int .i64 e2.T, .int .i64 e2.D, .int .i64 e2.J, .int .i64 e2.O, .int .i64 e2.P]) (r := (STask.eqb e1 e2)) (v := !(STask.eqb e1 e2)) (by kernel_rfl) (by kernel_rfl) (by kernel_rfl) (by kernel_rfl) (by kernel_rfl) rfl ?_
      refine ge_batch [11, 12] (ans := []) (vs := [(34, .bool (!(STask.eqb e1 e2))), (33, .bool (!(STask.eqb e1 e2)))]) (l := []) (by kernel_rfl) trivial ?_
      by_cases hc4 : (STask.eqb e1 e2) = true
      · rw [if_pos hc4] at h
        refine ge_known (t := 34) (b := !(STask.eqb e1 e2)) (c := false) (by kernel_rfl) (congrArg (fun z => !z) hc4) ?_
        refine ge_batch [13, 14, 15, 16, 17] (ans := []) (vs := [(39, .bool (decide ((i1 : Int) ≥ (l1.length : Int)))), (38, .bool (decide ((i1 : Int) ≥ (l1.length : Int)))), (37, .int .i64 (l1.length : Int)), (36, .slice A1 l1.length c1), (35, .int .i64 (i1 : Int))]) (l := []) (by kernel_rfl) trivial ?_
        by_cases hc5 : (i1 : Int) ≥ (l1.length : Int)
        · rw [if_pos hc5] at h
          refine ge_known (t := 39) (b := decide ((i1 : Int) ≥ (l1.length : Int))) (c := true) (by kernel_rfl) (decide_eq_true hc5) ?_
          refine ge_batch [18, 19] (ans := [.val (.string e1.Name), .val (.int .i64 e1.C), .val (.int .i64 e1.T), .val (.int .i64 e1.D), .val (.int .i64 e1.J), .val (.int .i64 e1.O), .val (.int .i64 e1.P), .val (.string x2.Name), .val (.int .i64 x2.C), .val (.int .i64 x2.T), .val (.int .i64 x2.D), .val (.int .i64 x2.J), .val (.int .i64 x2.O), .val (.int .i64 x2.P)]) (vs := [(41, .agg #[.string x2.Name, .int .i64 x2.C, .int .i64 x2.T, .int .i64 x2.D, .int .i64 x2.J, .int .i64 x2.O, .int .i64 x2.P]), (40, .agg #[.string e1.Name, .int .i64 e1.C, .int .i64 e1.T, .int .i64 e1.D, .int .i64 e1.J, .int .i64 e1.O, .int .i64 e1.P])]) (l := [.loaded ⟨b2, 0, none⟩ (.string e1.Name), .loaded ⟨b2, 1, none⟩ (.int .i64 e1.C), .loaded ⟨b2, 2, none⟩ (.int .i64 e1.T), .loaded ⟨b2, 3, none⟩ (.int .i64 e1.D), .loaded ⟨b2, 4, none⟩ (.int .i64 e1.J), .loaded ⟨b2, 5, none⟩ (.int .i64 e1.O), .loaded ⟨b2, 6, none⟩ (.int .i64 e1.P), .loaded ⟨b1, 0, none⟩ (.string x2.Name), .loaded ⟨b1, 1, none⟩ (.int .i64 x2.C), .loaded ⟨b1, 2, none⟩ (.int .i64 x2.T), .loaded ⟨b1, 3, none⟩ (.int .i64 x2.D), .loaded ⟨b1, 4, none⟩ (.int .i64 x2.J), .loaded ⟨b1, 5, none⟩ (.int .i64 x2.O), .loaded ⟨b1, 6, none⟩ (.int .i64 x2.P)]) (by kernel_rfl) ⟨hS5.cell 0 rfl rfl, hS5.cell 0 rfl rfl, hS5.cell 0 rfl rfl, hS5.cell 0 rfl rfl, hS5.cell 0 rfl rfl, hS5.cell 0 rfl rfl, hS5.cell 0 rfl rfl, hS5.cell 1 rfl rfl, hS5.cell 1 rfl rfl, hS5.cell 1 rfl rfl, hS5.cell 1 rfl rfl, hS5.cell 1 rfl rfl, hS5.cell 1 rfl rfl, hS5.cell 1 rfl rfl, trivial⟩ ?_
          refine ge_eqs (d := 42) (ty := 4) (op := .neq) (x := (.tmp 40)) (y := (.tmp 41)) (t := 85) (t2 := 85) (xs := #[.string e1.Name, .int .i64 e1.C, .int .i64 e1.T, .int .i64 e1.D, .int .i64 e1.J, .int .i64 e1.O, .int .i64 e1.P]) (ys := #[.string x2.Name, .int .i64 x2.C, .int .i64 x2.T, .int .i64 x2.D, .int .i64 x2.J, .int .i64 x2.O, .int .i64 x2.P]) (r := (STask.eqb e1 x2)) (v := !(STask.eqb e1 x2)) (by kernel_rfl) (by kernel_rfl) (by kernel_rfl) (by kernel_rfl) (by kernel_rfl) rfl ?_
          refine ge_batch [21, 22] (ans := []) (vs := [(44, .bool (!(STask.eqb e1 x2))), (43, .bool (!(STask.eqb e1 x2)))]) (l := []) (by kernel_rfl) trivial ?_
          refine ge_nil fun a hF => hK9 _ _ ?_ a hF
          by_cases hc6 : (STask.eqb e1 x2) = true
          · rw [if_pos hc6] at h
            refine we_known (t := 44) (b := !(STask.eqb e1 x2)) (v := false) (by kernel_rfl) (congrArg (fun z => !z) hc6) ?_
            refine we_false (by kernel_rfl) ?_
            refine we_skip fun a hF => hK7 _ _ ?_ a hF
            refine we_region [(0, 0), (1, 0)] rfl ?_
            refine ge_addn (d := 45) (ty := 3) (x := (.tmp 17)) (y := (.const (.int .i64 1))) (t := 3) (t2 := 3) (k := .i64) (m := i1) (by kernel_rfl) (by kernel_rfl) (by kernel_rfl) (by have h0 := hR0.small; omega) ?_
            refine ge_batch [1] (ans := []) (vs := [(17, .int .i64 ((i1 + 1 : Nat) : Int))]) (l := []) (by kernel_rfl) trivial ?_
            have hS6 := hS5.bring 1 rfl
            have hS7 := hS6.takeN 1
            obtain rfl := Option.some.inj h
            exact ge_nil fun a hF => hQ _ _ _ (Outs.again ⟨hS7, hF.weaken ⟨by kernel_rfl, by kernel_rfl, by kernel_rfl, by kernel_rfl, by kernel_rfl, trivial⟩⟩)
          · rw [if_neg hc6] at h
            refine we_known (t := 44) (b := !(STask.eqb e1 x2)) (v := true) (by kernel_rfl) (congrArg (fun z => !z) (Bool.eq_false_iff.2 hc6)) ?_
            refine we_true (by kernel_rfl) ?_
            refine we_seq fun K10 hK10 => ?_
            refine we_region [(0, 0)] rfl ?_
            refine ge_batch [0] (ans := []) (vs := [(6, .bool false)]) (l := []) (by kernel_rfl) trivial ?_
            refine ge_nil fun a hF => hK10 _ _ ?_ a hF
            have hS8 := hS5.takeN 0
            obtain rfl := Option.some.inj h
            exact we_ret fun a hF => hQ _ _ _ (Outs.out nofun (Exits.on ⟨rfl, (post_ret (rs := [.tmp 6]) (ans := []) (vs := [.bool false]) (l := []) rfl (by kernel_rfl) trivial ⟨rfl, hS8⟩) a hF⟩))
        · rw [if_neg hc5] at h
          refine ge_known (t := 39) (b := decide ((i1 : Int) ≥ (l1.length : Int))) (c := false) (by kernel_rfl) (decide_eq_false hc5) ?_
          refine ge_batch [18, 19, 20, 21, 22] (ans := []) (vs := [(44, .bool false), (43, .bool false), (42, undef), (41, undef), (40, undef)]) (l := []) (by kernel_rfl) trivial ?_
          refine ge_nil fun a hF => hK9 _ _ ?_ a hF
          refine we_false (by kernel_rfl) ?_
          refine we_skip fun a hF => hK7 _ _ ?_ a hF
          refine we_region [(0, 0), (1, 0)] rfl ?_
          refine ge_addn (d := 45) (ty := 3) (x := (.tmp 17)) (y := (.const (.int .i64 1))) (t := 3) (t2 := 3) (k := .i64) (m := i1) (by kernel_rfl) (by kernel_rfl) (by kernel_rfl) (by have h0 := hR0.small; omega) ?_
          refine ge_batch [1] (ans := []) (vs := [(17, .int .i64 ((i1 + 1 : Nat) : Int))]) (l := []) (by kernel_rfl) trivial ?_
          have hS9 := hS5.bring 1 rfl
          have hS10 := hS9.takeN 1
          obtain rfl := Option.some.inj h
          exact ge_nil fun a hF => hQ _ _ _ (Outs.again ⟨hS10, hF.weaken ⟨by kernel_rfl, by kernel_rfl, by kernel_rfl, by kernel_rfl, by kernel_rfl, trivial⟩⟩)
      · rw [if_neg hc4] at h
        refine ge_known (t := 34) (b := !(STask.eqb e1 e2)) (c := true) (by kernel_rfl) (congrArg (fun z => !z) (Bool.eq_false_iff.2 hc4)) ?_
        refine ge_batch [13, 14, 15, 16, 17, 18, 19, 20, 21, 22] (ans := []) (vs := [(44, .bool true), (43, undef), (42, undef), (41, undef), (40, undef), (39, undef), (38, undef), (37, undef), (36, undef), (35, undef)]) (l := []) (by kernel_rfl) trivial ?_
        refine ge_nil fun a hF => hK9 _ _ ?_ a hF
        refine we_true (by kernel_rfl) ?_
        refine we_seq fun K11 hK11 => ?_
        refine we_region [(0, 0)] rfl ?_
        refine ge_batch [0] (ans := []) (vs := [(6, .bool false)]) (l := []) (by kernel_rfl) trivial ?_
        refine ge_nil fun a hF => hK11 _ _ ?_ a hF
        have hS11 := hS5.takeN 0
        obtain rfl := Option.some.inj h
        exact we_ret fun a hF => hQ _ _ _ (Outs.out nofun (Exits.on ⟨rfl, (post_ret (rs := [.tmp 6]) (ans := []) (vs := [.bool false]) (l := []) rfl (by kernel_rfl) trivial ⟨rfl, hS11⟩) a hF⟩))
    · rw [if_neg hc3] at h
      refine ge_known (t := 26) (b := decide ((i1 : Int) < (l1.length : Int))) (c := false) (by kernel_rfl) (decide_eq_false hc3) ?_
      refine ge_batch [5, 6, 7, 8, 9, 10, 11, 12, 13, 14, 15, 16, 17] (ans := []) (vs := [(39, .bool (decide ((i1 : Int) ≥ (l1.length : Int)))), (38, .bool (decide ((i1 : Int) ≥ (l1.length : Int)))), (37, .int .i64 (l1.length : Int)), (36, .slice A1 l1.length c1), (35, .int .i64 (i1 : Int)), (34, .bool false), (33, .bool false), (32, undef), (31, undef), (30, undef), (29, undef), (28, undef), (27, undef)]) (l := []) (by kernel_rfl) trivial ?_
      by_cases hc7 : (i1 : Int) ≥ (l1.length : Int)
      · rw [if_pos hc7] at h
        refine ge_known (t := 39) (b := decide ((i1 : Int) ≥ (l1.length : Int))) (c := true) (by kernel_rfl) (decide_eq_true hc7) ?_
        refine ge_batch [18, 19] (ans := [.val (.string e1.Name), .val (.int .i64 e1.C), .val (.int .i64 e1.T), .val (.int .i64 e1.D), .val (.int .i64 e1.J), .val (.int .i64 e1.O), .val (.int .i64 e1.P), .val (.string x2.Name), .val (.int .i64 x2.C), .val (.int .i64 x2.T), .val (.int .i64 x2.D), .val (.int .i64 x2.J), .val (.int .i64 x2.O), .val (.int .i64 x2.P)]) (vs := [(41, .agg #[.string x2.Name, .int .i64 x2.C, .int .i64 x2.T, .int .i64 x2.D, .int .i64 x2.J, .int .i64 x2.O, .int .i64 x2.P]), (40, .agg #[.string e1.Name, .int .i64 e1.C, .int .i64 e1.T, .int .i64 e1.D, .int .i64 e1.J, .int .i64 e1.O, .int .i64 e1.P])]) (l := [.loaded ⟨b2, 0, none⟩ (.string e1.Name), .loaded ⟨b2, 1, none⟩ (.int .i64 e1.C), .loaded ⟨b2, 2, none⟩ (.int .i64 e1.T), .loaded ⟨b2, 3, none⟩ (.int .i64 e1.D), .loaded ⟨b2, 4, none⟩ (.int .i64 e1.J), .loaded ⟨b2, 5, none⟩ (.int .i64 e1.O), .loaded ⟨b2, 6, none⟩ (.int .i64 e1.P), .loaded ⟨b1, 0, none⟩ (.string x2.Name), .loaded ⟨b1, 1, none⟩ (.int .i64 x2.C), .loaded ⟨b1, 2, none⟩ (.int .i64 x2.T), .loaded ⟨b1, 3, none⟩ (.int .i64 x2.D), .loaded ⟨b1, 4, none⟩ (.int .i64 x2.J), .loaded ⟨b1, 5, none⟩ (.int .i64 x2.O), .loaded ⟨b1, 6, none⟩ (.int .i64 x2.P)]) (by kernel_rfl) ⟨hS5.cell 0 rfl rfl, hS5.cell 0 rfl rfl, hS5.cell 0 rfl rfl, hS5.cell 0 rfl rfl, hS5.cell 0 rfl rfl, hS5.cell 0 rfl rfl, hS5.cell 0 rfl rfl, hS5.cell 1 rfl rfl, hS5.cell 1 rfl rfl, hS5.cell 1 rfl rfl, hS5.cell 1 rfl rfl, hS5.cell 1 rfl rfl, hS5.cell 1 rfl rfl, hS5.cell 1 rfl rfl, trivial⟩ ?_
        refine ge_eqs (d := 42) (ty := 4) (op := .neq) (x := (.tmp 40)) (y := (.tmp 41)) (t := 85) (t2 := 85) (xs := #[.string e1.Name, .int .i64 e1.C, .int .i64 e1.T, .int .i64 e1.D, .int .i64 e1.J, .int .i64 e1.O, .int .i64 e1.P]) (ys := #[.string x2.Name, .int .i64 x2.C, .int .i64 x2.T, .int .i64 x2.D, .int .i64 x2.J, .int .i64 x2.O, .int .i64 x2.P]) (r := (STask.eqb e1 x2)) (v := !(STask.eqb e1 x2)) (by kernel_rfl) (by kernel_rfl) (by kernel_rfl) (by kernel_rfl) (by kernel_rfl) rfl ?_
        refine ge_batch [21, 22] (ans := []) (vs := [(44, .bool (!(STask.eqb e1 x2))), (43, .bool (!(STask.eqb e1 x2)))]) (l := []) (by kernel_rfl) trivial ?_
        refine ge_nil fun a hF => hK9 _ _ ?_ a hF
        by_cases hc8 : (STask.eqb e1 x2) = true
        · rw [if_pos hc8] at h
          refine we_known (t := 44) (b := !(STask.eqb e1 x2)) (v := false) (by kernel_rfl) (congrArg (fun z => !z) hc8) ?_
          refine we_false (by kernel_rfl) ?_
          refine we_skip fun a hF => hK7 _ _ ?_ a hF
          refine we_region [(0, 0), (1, 0)] rfl ?_
          refine ge_addn (d := 45) (ty := 3) (x := (.tmp 17)) (y := (.const (.int .i64 1))) (t := 3) (t2 := 3) (k := .i64) (m := i1) (by kernel_rfl) (by kernel_rfl) (by kernel_rfl) (by have h0 := hR0.small; omega) ?_
          refine ge_batch [1] (ans := []) (vs := [(17, .int .i64 ((i1 + 1 : Nat) : Int))]) (l := []) (by kernel_rfl) trivial ?_
          have hS12 := hS5.bring 1 rfl
          have hS13 := hS12.takeN 1
          obtain rfl := Option.some.inj h
          exact ge_nil fun a hF => hQ _ _ _ (Outs.again ⟨hS13, hF.weaken ⟨by kernel_rfl, by kernel_rfl, by kernel_rfl, by kernel_rfl, by kernel_rfl, trivial⟩⟩)
        · rw [if_neg hc8] at h
          refine we_known (t := 44) (b := !(STask.eqb e1 x2)) (v := true) (by kernel_rfl) (congrArg (fun z => !z) (Bool.eq_false_iff.2 hc8)) ?_
          refine we_true (by kernel_rfl) ?_
          refine we_seq fun K12 hK12 => ?_
          refine we_region [(0, 0)] rfl ?_
          refine ge_batch [0] (ans := []) (vs := [(6, .bool false)]) (l := []) (by kernel_rfl) trivial ?_
          refine ge_nil fun a hF => hK12 _ _ ?_ a hF
          have hS14 := hS5.takeN 0
          obtain rfl := Option.some.inj h
          exact we_ret fun a hF => hQ _ _ _ (Outs.out nofun (Exits.on ⟨rfl, (post_ret (rs := [.tmp 6]) (ans := []) (vs := [.bool false]) (l := []) rfl (by kernel_rfl) trivial ⟨rfl, hS14⟩) a hF⟩))
      · rw [if_neg hc7] at h
        refine ge_known (t := 39) (b := decide ((i1 : Int) ≥ (l1.length : Int))) (c := false) (by kernel_rfl) (decide_eq_false hc7) ?_
        refine ge_batch [18, 19, 20, 21, 22] (ans := []) (vs := [(44, .bool false), (43, .bool false), (42, undef), (41, undef), (40, undef)]) (l := []) (by kernel_rfl) trivial ?_
        refine ge_nil fun a hF => hK9 _ _ ?_ a hF
        refine we_false (by kernel_rfl) ?_
        refine we_skip fun a hF => hK7 _ _ ?_ a hF
        refine we_region [(0, 0), (1, 0)] rfl ?_
        refine ge_addn (d := 45) (ty := 3) (x := (.tmp 17)) (y := (.const (.int .i64 1))) (t := 3) (t2 := 3) (k := .i64) (m := i1) (by kernel_rfl) (by kernel_rfl) (by kernel_rfl) (by have h0 := hR0.small; omega) ?_
        refine ge_batch [1] (ans := []) (vs := [(17, .int .i64 ((i1 + 1 : Nat) : Int))]) (l := []) (by kernel_rfl) trivial ?_
        have hS15 := hS5.bring 1 rfl
        have hS16 := hS15.takeN 1
        obtain rfl := Option.some.inj h
        exact ge_nil fun a hF => hQ _ _ _ (Outs.again ⟨hS16, hF.weaken ⟨by kernel_rfl, by kernel_rfl, by kernel_rfl, by kernel_rfl, by kernel_rfl, trivial⟩⟩)
  · rw [if_neg hc2] at h
    refine we_known (t := 18) (b := decide ((i1 : Int) < (f0.length : Int))) (v := false) (by kernel_rfl) (decide_eq_false hc2) ?_
    refine we_false (by kernel_rfl) ?_
    have hS17 := hS.takeN 0
    obtain rfl := Option.some.inj h
    exact we_exit fun a hF => hQ _ _ _ (Outs.out nofun (Exits.here ⟨hS17, hF.weaken trivial⟩))
theorem punctualsame_Still_api_Task_ok (K : Nat) (f0 : List STask) (A0 : Option Addr) (n0 : Nat) (c0 : Nat) (l1 : List STask) (A1 : Option Addr) (c1 : Nat) (x2 : STask) (w0 : World) (hR0 : RdL w0 A0 f0) (hc0 : f0.length ≤ c0) (hR1 : RdL w0 A1 l1) (hL1 : l1.length ≤ c1) (r : Bool) (h : punctualsame_Still_api_Task.f K f0 l1 x2 = some r) :
    Calls Tryd.prog 51 #[.slice A0 n0 c0, .slice A1 l1.length c1, .agg #[.string x2.Name, .int .i64 x2.C, .int .i64 x2.T, .int .i64 x2.D, .int .i64 x2.J, .int .i64 x2.O, .int .i64 x2.P]] w0 (punctualsame_Still_api_Task.Post w0 r) := by
  have hS := St.start w0
  unfold punctualsame_Still_api_Task.f at h
  refine calls_enter (n := 46) (args := [.slice A0 n0 c0, .slice A1 l1.length c1, .agg #[.string x2.Name, .int .i64 x2.C, .int .i64 x2.T, .int .i64 x2.D, .int .i64 x2.J, .int .i64 x2.O, .int .i64 x2.P]]) (fn := Tryd.f51) rfl rfl rfl rfl ?_
  show WE _ _ _ _ [(0, .slice A0 n0 c0), (1, .slice A1 l1.length c1), (2, .agg #[.string x2.Name, .int .i64 x2.C, .int .i64 x2.T, .int .i64 x2.D, .int .i64 x2.J, .int .i64 x2.O, .int .i64 x2.P])] _
  refine we_seq fun K1 hK1 => ?_
  refine we_region [(0, 1), (1, 0)] rfl ?_
  refine ge_new (d := some 5) (o := .cells #[.string x2.Name, .int .i64 x2.C, .int .i64 x2.T, .int .i64 x2.D, .int .i64 x2.J, .int .i64 x2.O, .int .i64 x2.P] 85) (v := fun b => .pointer (some ⟨b, 0, none⟩)) hS (fun b => by kernel_rfl) fun b1 w1 hx1 hS1 => ?_
  refine ge_batch [1] (ans := []) (vs := [(6, .bool false)]) (l := []) (by kernel_rfl) trivial ?_
  refine ge_nil fun a hF => hK1 _ _ ?_ a hF
  refine we_seq fun K2 hK2 => ?_
  refine we_region [(0, 0), (1, 0), (2, 0), (3, 0), (4, 0), (5, 0)] rfl ?_
  refine ge_batch [0, 1, 2, 3] (ans := []) (vs := [(13, .int .i64 (IntKind.i64.wrap ((l1.length : Int) + 3))), (12, .int .i64 (l1.length : Int)), (11, .slice A1 l1.length c1), (10, .slice A0 n0 c0)]) (l := []) (by kernel_rfl) trivial ?_
  by_cases hc1 : (IntKind.i64.wrap ((l1.length : Int) + 3)) = (f0.length : Int)
  · rw [if_pos hc1] at h
    refine ge_sliceHi (d := 14) (ty := 82) (t := 82) (el := 85) (sz := 7) (m := n0) (c := c0) (hn := f0.length) (x := (.tmp 10)) (y := (.tmp 13)) (A := A0) (k' := .i64) (hi := (IntKind.i64.wrap ((l1.length : Int) + 3))) (by kernel_rfl) (by kernel_rfl) (by kernel_rfl) hc1 (by kernel_rfl) (by kernel_rfl) hc0 ?_
    refine ge_batch [5] (ans := []) (vs := [(7, .slice A0 f0.length c0)]) (l := []) (by kernel_rfl) trivial ?_
    refine ge_nil fun a hF => hK2 _ _ ?_ a hF
    refine we_seq fun K3 hK3 => ?_
    refine we_seq fun K4 hK4 => ?_
    refine we_region [(0, 0), (1, 0), (2, 0)] rfl ?_
    refine ge_batch [0, 1, 2] (ans := []) (vs := [(17, .int .i64 0), (16, .int .i64 (f0.length : Int)), (15, .slice A0 f0.length c0)]) (l := []) (by kernel_rfl) trivial ?_
    refine ge_nil fun a hF => hK4 _ _ ?_ a hF
    refine we_block ?_
    rcases hq1 : iter (punctualsame_Still_api_Task.r0 f0 l1 x2) K 0 with _ | (_ | rr1)
    · rw [hq1] at h; cases h
    · rw [hq1] at h
      simp only [] at h
      refine we_iter (A := punctualsame_Still_api_Task.A0 K w0 f0 A0 n0 c0 l1 A1 c1 x2 hR0 hc0 hR1 hL1 b1 hc1) (B := punctualsame_Still_api_Task.B0 K w0 f0 A0 n0 c0 l1 A1 c1 x2 hR0 hc0 hR1 hL1 b1 hc1) hq1 (fun a hF => ⟨hS1, hF.weaken ⟨by kernel_rfl, by kernel_rfl, by kernel_rfl, by kernel_rfl, by kernel_rfl, trivial⟩⟩) (fun s o hf a w hA Q hQ => punctualsame_Still_api_Task_r0 K w0 f0 A0 n0 c0 l1 A1 c1 x2 hR0 hc0 hR1 hL1 b1 hc1 s o hf a w hA Q hQ) ?_
      rintro _ a w4 _ ⟨rfl, hS18, hF⟩
      replace hS18 : St w0 w4 [] := hS18
      refine hK3 [] w4 ?_ a hF
      refine we_seq fun K13 hK13 => ?_
      refine we_region [(0, 0)] rfl ?_
      refine ge_batch [0] (ans := []) (vs := [(6, .bool true)]) (l := []) (by kernel_rfl) trivial ?_
      refine ge_nil fun a hF => hK13 _ _ ?_ a hF
      obtain rfl := Option.some.inj h
      exact we_ret (post_ret (rs := [.tmp 6]) (ans := []) (vs := [.bool true]) (l := []) rfl (by kernel_rfl) trivial ⟨rfl, hS18⟩)
    · rw [hq1] at h
      simp only [] at h
      refine we_iter (A := punctualsame_Still_api_Task.A0 K w0 f0 A0 n0 c0 l1 A1 c1 x2 hR0 hc0 hR1 hL1 b1 hc1) (B := punctualsame_Still_api_Task.B0 K w0 f0 A0 n0 c0 l1 A1 c1 x2 hR0 hc0 hR1 hL1 b1 hc1) hq1 (fun a hF => ⟨hS1, hF.weaken ⟨by kernel_rfl, by kernel_rfl, by kernel_rfl, by kernel_rfl, by kernel_rfl, trivial⟩⟩) (fun s o hf a w hA Q hQ => punctualsame_Still_api_Task_r0 K w0 f0 A0 n0 c0 l1 A1 c1 x2 hR0 hc0 hR1 hL1 b1 hc1 s o hf a w hA Q hQ) ?_
      rintro _ a w1 _ ⟨rfl, hb⟩
      obtain rfl := Option.some.inj h
      exact hb
  · rw [if_neg hc1] at h
    cases h

/-! punctual/punctuallaw.RedoResponds -/
abbrev RedoResponds.Post (w0 : World) (r : Bool) (e : Ending) (w : World) : Prop := e = .returned (.bool r) ∧ St w0 w []
def RedoResponds.f (K : Nat) (l0 : List STask) (x1 : Int) (x2 : Int) (x3 : Int) : Option Bool :=
  match anew.f K with
  | none => none
  | some r1 =>
    if r1 = true then
      if (few.f (l0.length : Int)) = true then
        match punctualsame_Lend_api_Task.f l0 (⟨⟨#[63]⟩, (-9), 0, 0, 0, 0, 0⟩ : STask) with
        | none => none
        | some _ =>
          match redo_Response.f K l0 x1 x2 x3 with
          | none => none
          | some r3 =>
            match punctualref_AnewWorst.f K l0 x1 x2 x3 with
            | none => none
            | some r4 =>
              if r3.1 = r4.1 then
                if (SFault.eqb r3.2 r4.2) = true then
                  match punctualsame_Still_api_Task.f K (l0 ++ [(⟨⟨#[63]⟩, (-9), 0, 0, 0, 0, 0⟩ : STask), (⟨⟨#[63]⟩, (-9), 0, 0, 0, 0, 0⟩ : STask), (⟨⟨#[63]⟩, (-9), 0, 0, 0, 0, 0⟩ : STask)]) l0 (⟨⟨#[63]⟩, (-9), 0, 0, 0, 0, 0⟩ : STask) with
                  | none => none
                  | some r5 =>
                    some r5
                else
                  some false
              else
                some false
      else
        some true
    else
      some false
theorem RedoResponds_ok (K : Nat) (l0 : List STask) (A0 : Option Addr) (c0 : Nat) (x1 : Int) (x2 : Int) (x3 : Int) (w0 : World) (hR0 : RdL w0 A0 l0) (hL0 : l0.length ≤ c0) (hG4 : Glob w0 4 [.string (⟨#[63]⟩), .int .i64 (-9), .int .i64 0, .int .i64 0, .int .i64 0, .int .i64 0, .int .i64 0]) (r : Bool) (h : RedoResponds.f K l0 x1 x2 x3 = some r) :
    Calls Tryd.prog 7 #[.slice A0 l0.length c0, .int .i64 x1, .int .i64 x2, .int .i64 x3] w0 (RedoResponds.Post w0 r) := by
  have hS := St.start w0
  unfold RedoResponds.f at h
  refine calls_enter (n := 53) (args := [.slice A0 l0.length c0, .int .i64 x1, .int .i64 x2, .int .i64 x3]) (fn := Tryd.f7) rfl rfl rfl rfl ?_
  show WE _ _ _ _ [(0, .slice A0 l0.length c0), (1, .int .i64 x1), (2, .int .i64 x2), (3, .int .i64 x3)] _
  refine we_seq fun K1 hK1 => ?_
  refine we_region [(0, 0)] rfl ?_
  refine ge_batch [0] (ans := []) (vs := [(8, .bool false)]) (l := []) (by kernel_rfl) trivial ?_
  refine ge_nil fun a hF => hK1 _ _ ?_ a hF
  refine we_seq fun K2 hK2 => ?_
  refine we_seq fun K3 hK3 => ?_
  refine we_region [(0, 1), (1, 0)] rfl ?_
  rcases hq1 : anew.f K with _ | r1
  · rw [hq1] at h; cases h
  rw [hq1] at h
  simp only [] at h
  refine ge_call (d := some 14) (f := 47) (args := #[]) (by kernel_rfl) (anew_ok K _ _ hq1) ?_
  rintro _ w1 ⟨rfl, hS1⟩
  refine ⟨_, rfl, hS1.below, ?_⟩
  have hS2 := hS.call hS1
  refine ge_batch [1] (ans := []) (vs := [(15, .bool (!r1))]) (l := []) (by kernel_rfl) trivial ?_
  refine ge_nil fun a hF => hK3 _ _ ?_ a hF
  by_cases hc1 : r1 = true
  · rw [if_pos hc1] at h
    refine we_known (t := 15) (b := !r1) (v := false) (by kernel_rfl) (congrArg (fun z => !z) hc1) ?_
    refine we_false (by kernel_rfl) ?_
    refine we_skip fun a hF => hK2 _ _ ?_ a hF
    refine we_seq fun K4 hK4 => ?_
    refine we_seq fun K5 hK5 => ?_
    refine we_region [(0, 0), (1, 0), (2, 1), (3, 0)] rfl ?_
    refine ge_batch [0, 1] (ans := []) (vs := [(17, .int .i64 (l0.length : Int)), (16, .slice A0 l0.length c0)]) (l := []) (by kernel_rfl) trivial ?_
    refine ge_call (d := some 18) (f := 14) (args := #[.int .i64 (l0.length : Int)]) (by kernel_rfl) (few_ok (l0.length : Int) _ _ rfl) ?_
    rintro _ w2 ⟨rfl, hS3⟩
    refine ⟨_, rfl, hS3.below, ?_⟩
    have hS4 := hS2.call hS3
    refine ge_batch [3] (ans := []) (vs := [(19, .bool (!(few.f (l0.length : Int))))]) (l := []) (by kernel_rfl) trivial ?_
    refine ge_nil fun a hF => hK5 _ _ ?_ a hF
    by_cases hc2 : (few.f (l0.length : Int)) = true
    · rw [if_pos hc2] at h
      refine we_known (t := 19) (b := !(few.f (l0.length : Int))) (v := false) (by kernel_rfl) (congrArg (fun z => !z) hc2) ?_
      refine we_false (by kernel_rfl) ?_
      refine we_skip fun a hF => hK4 _ _ ?_ a hF
      refine we_seq fun K6 hK6 => ?_
      refine we_region [(0, 0), (1, 0), (2, 1), (3, 0)] rfl ?_
      refine ge_batch [0, 1] (ans := [.val (.string (⟨#[63]⟩)), .val (.int .i64 (-9)), .val (.int .i64 0), .val (.int .i64 0), .val (.int .i64 0), .val (.int .i64 0), .val (.int .i64 0)]) (vs := [(21, .agg #[.string (⟨#[63]⟩), .int .i64 (-9), .int .i64 0, .int .i64 0, .int .i64 0, .int .i64 0, .int .i64 0]), (20, .slice A0 l0.length c0)]) (l := [.loaded ⟨4, 0, none⟩ (.string (⟨#[63]⟩)), .loaded ⟨4, 1, none⟩ (.int .i64 (-9)), .loaded ⟨4, 2, none⟩ (.int .i64 0), .loaded ⟨4, 3, none⟩ (.int .i64 0), .loaded ⟨4, 4, none⟩ (.int .i64 0), .loaded ⟨4, 5, none⟩ (.int .i64 0), .loaded ⟨4, 6, none⟩ (.int .i64 0)]) (by kernel_rfl) ⟨hS4.glob hG4 rfl, hS4.glob hG4 rfl, hS4.glob hG4 rfl, hS4.glob hG4 rfl, hS4.glob hG4 rfl, hS4.glob hG4 rfl, hS4.glob hG4 rfl, trivial⟩ ?_
      rcases hq3 : punctualsame_Lend_api_Task.f l0 (⟨⟨#[63]⟩, (-9), 0, 0, 0, 0, 0⟩ : STask) with _ | r2
      · rw [hq3] at h; cases h
      rw [hq3] at h
      simp only [] at h
      obtain rfl := punctualsame_Lend_api_Task_full _ _ hq3
      refine ge_call (d := some 22) (f := 48) (args := #[.slice A0 l0.length c0, .agg #[.string (⟨#[63]⟩), .int .i64 (-9), .int .i64 0, .int .i64 0, .int .i64 0, .int .i64 0, .int .i64 0]]) (by kernel_rfl) (punctualsame_Lend_api_Task_ok l0 A0 c0 (⟨⟨#[63]⟩, (-9), 0, 0, 0, 0, 0⟩ : STask) _ (hS4.rd hR0) hL0 _ hq3) ?_
      rintro _ w3 ⟨Z1, cz1, rfl, hcp1, hS5⟩
      refine ⟨_, rfl, hS5.below, ?_⟩
      have hS6 := hS4.call hS5
      refine ge_batch [3] (ans := []) (vs := [(9, .slice Z1 l0.length cz1)]) (l := []) (by kernel_rfl) trivial ?_
      refine ge_nil fun a hF => hK6 _ _ ?_ a hF
      refine we_seq fun K7 hK7 => ?_
      refine we_region [(0, 0), (1, 0), (2, 0), (3, 0), (4, 1), (5, 0), (6, 0), (7, 0), (8, 1), (9, 0), (10, 2)] rfl ?_
      rcases hq4 : redo_Response.f K l0 x1 x2 x3 with _ | r3
      · rw [hq4] at h; cases h
      rw [hq4] at h
      simp only [] at h
      refine ge_batch [0, 1, 2, 3] (ans := []) (vs := [(27, .int .i64 x3), (26, .int .i64 x2), (25, .int .i64 x1), (24, .slice Z1 l0.length cz1)]) (l := []) (by kernel_rfl) trivial ?_
      refine ge_call (d := some 28) (f := 49) (args := #[.slice Z1 l0.length cz1, .int .i64 x1, .int .i64 x2, .int .i64 x3]) (by kernel_rfl) (redo_Response_ok K l0 Z1 cz1 x1 x2 x3 _ ((hS6.rdAt 0 rfl).pre) (by have h0 := hcp1; simp only [List.length_append, List.length_cons, List.length_nil] at h0; omega) _ hq4) ?_
      rintro _ w4 ⟨rfl, hS7⟩
      refine ⟨_, rfl, hS7.below, ?_⟩
      have hS8 := hS6.call hS7
      refine ge_batch [5, 6, 7] (ans := []) (vs := [(30, .agg #[.int .i64 r3.2.Code, .int .i64 r3.2.At]), (29, .int .i64 r3.1), (23, .tuple #[.int .i64 r3.1, .agg #[.int .i64 r3.2.Code, .int .i64 r3.2.At]])]) (l := []) (by kernel_rfl) trivial ?_
      refine ge_new (d := some 11) (o := .cells #[.int .i64 0, .int .i64 0] 27) (v := fun b => .pointer (some ⟨b, 0, none⟩)) hS8 (fun b => by kernel_rfl) fun b1 w5 hx1 hS9 => ?_
      refine ge_batch [9] (ans := []) (vs := [(10, .int .i64 r3.1)]) (l := []) (by kernel_rfl) trivial ?_
      refine ge_set (b := b1) (j := 0) (cs := #[.int .i64 0, .int .i64 0]) (t := 27) (vs := [.int .i64 r3.2.Code, .int .i64 r3.2.At]) hS9 (by kernel_rfl) rfl rfl fun w6 hS10 => ?_
      have hS11 : St w0 w6 [Own.blk b1 (.cells #[.int .i64 r3.2.Code, .int .i64 r3.2.At] 27 (0, 0)), Own.of (.slice Z1 (l0 ++ [(⟨⟨#[63]⟩, (-9), 0, 0, 0, 0, 0⟩ : STask), (⟨⟨#[63]⟩, (-9), 0, 0, 0, 0, 0⟩ : STask), (⟨⟨#[63]⟩, (-9), 0, 0, 0, 0, 0⟩ : STask)]).length cz1) 85 (l0 ++ [(⟨⟨#[63]⟩, (-9), 0, 0, 0, 0, 0⟩ : STask), (⟨⟨#[63]⟩, (-9), 0, 0, 0, 0, 0⟩ : STask), (⟨⟨#[63]⟩, (-9), 0, 0, 0, 0, 0⟩ : STask)])] := hS10
      refine ge_nil fun a hF => hK7 _ _ ?_ a hF
      refine we_seq fun K8 hK8 => ?_
      refine we_region [(0, 0), (1, 0), (2, 0), (3, 0), (4, 1), (5, 0), (6, 0), (7, 0), (8, 1), (9, 0), (10, 2)] rfl ?_
      rcases hq5 : punctualref_AnewWorst.f K l0 x1 x2 x3 with _ | r4
      · rw [hq5] at h; cases h
      rw [hq5] at h
      simp only [] at h
      refine ge_batch [0, 1, 2, 3] (ans := []) (vs := [(35, .int .i64 x3), (34, .int .i64 x2), (33, .int .i64 x1), (32, .slice A0 l0.length c0)]) (l := []) (by kernel_rfl) trivial ?_
      refine ge_call (d := some 36) (f := 50) (args := #[.slice A0 l0.length c0, .int .i64 x1, .int .i64 x2, .int .i64 x3]) (by kernel_rfl) (punctualref_AnewWorst_ok K l0 A0 c0 x1 x2 x3 _ (hS11.rd hR0) hL0 _ hq5) ?_
      rintro _ w7 ⟨rfl, hS12⟩
      refine ⟨_, rfl, hS12.below, ?_⟩
      have hS13 := hS11.call hS12
      refine ge_batch [5, 6, 7] (ans := []) (vs := [(38, .agg #[.int .i64 r4.2.Code, .int .i64 r4.2.At]), (37, .int .i64 r4.1), (31, .tuple #[.int .i64 r4.1, .agg #[.int .i64 r4.2.Code, .int .i64 r4.2.At]])]) (l := []) (by kernel_rfl) trivial ?_
      refine ge_new (d := some 13) (o := .cells #[.int .i64 0, .int .i64 0] 27) (v := fun b => .pointer (some ⟨b, 0, none⟩)) hS13 (fun b => by kernel_rfl) fun b2 w8 hx2 hS14 => ?_
      refine ge_batch [9] (ans := []) (vs := [(12, .int .i64 r4.1)]) (l := []) (by kernel_rfl) trivial ?_
      refine ge_set (b := b2) (j := 0) (cs := #[.int .i64 0, .int .i64 0]) (t := 27) (vs := [.int .i64 r4.2.Code, .int .i64 r4.2.At]) hS14 (by kernel_rfl) rfl rfl fun w9 hS15 => ?_
      have hS16 : St w0 w9 [Own.blk b2 (.cells #[.int .i64 r4.2.Code, .int .i64 r4.2.At] 27 (0, 0)), Own.blk b1 (.cells #[.int .i64 r3.2.Code, .int .i64 r3.2.At] 27 (0, 0)), Own.of (.slice Z1 (l0 ++ [(⟨⟨#[63]⟩, (-9), 0, 0, 0, 0, 0⟩ : STask), (⟨⟨#[63]⟩, (-9), 0, 0, 0, 0, 0⟩ : STask), (⟨⟨#[63]⟩, (-9), 0, 0, 0, 0, 0⟩ : STask)]).length cz1) 85 (l0 ++ [(⟨⟨#[63]⟩, (-9), 0, 0, 0, 0, 0⟩ : STask), (⟨⟨#[63]⟩, (-9), 0, 0, 0, 0, 0⟩ : STask), (⟨⟨#[63]⟩, (-9), 0, 0, 0, 0, 0⟩ : STask)])] := hS15
      refine ge_nil fun a hF => hK8 _ _ ?_ a hF
      refine we_seq fun K9 hK9 => ?_
      refine we_region [(0, 0), (1, 0), (2, 0), (3, 0), (4, 0), (5, 0), (6, 0), (7, 0), (8, 0), (9, 0), (10, 0), (11, 0), (12, 1), (13, 0), (14, 0)] rfl ?_
      refine ge_batch [0, 1, 2, 3] (ans := []) (vs := [(42, .bool (r3.1 == r4.1)), (41, .bool (r3.1 == r4.1)), (40, .int .i64 r4.1), (39, .int .i64 r3.1)]) (l := []) (by kernel_rfl) trivial ?_
      by_cases hc3 : r3.1 = r4.1
      · rw [if_pos hc3] at h
        refine ge_known (t := 42) (b := (r3.1 == r4.1)) (c := true) (by kernel_rfl) (beq_iff_eq.2 hc3) ?_
        refine ge_batch [4, 5] (ans := [.val (.int .i64 r3.2.Code), .val (.int .i64 r3.2.At), .val (.int .i64 r4.2.Code), .val (.int .i64 r4.2.At)]) (vs := [(44, .agg #[.int .i64 r4.2.Code, .int .i64 r4.2.At]), (43, .agg #[.int .i64 r3.2.Code, .int .i64 r3.2.At])]) (l := [.loaded ⟨b1, 0, none⟩ (.int .i64 r3.2.Code), .loaded ⟨b1, 1, none⟩ (.int .i64 r3.2.At), .loaded ⟨b2, 0, none⟩ (.int .i64 r4.2.Code), .loaded ⟨b2, 1, none⟩ (.int .i64 r4.2.At)]) (by kernel_rfl) ⟨hS16.cell 1 rfl rfl, hS16.cell 1 rfl rfl, hS16.cell 0 rfl rfl, hS16.cell 0 rfl rfl, trivial⟩ ?_
        refine ge_eqs (d := 45) (ty := 4) (op := .eql) (x := (.tmp 43)) (y := (.tmp 44)) (t := 27) (t2 := 27) (xs := #[.int .i64 r3.2.Code, .int .i64 r3.2.At]) (ys := #[.int .i64 r4.2.Code, .int .i64 r4.2.At]) (r := (SFault.eqb r3.2 r4.2)) (v := (SFault.eqb r3.2 r4.2)) (by kernel_rfl) (by kernel_rfl) (by kernel_rfl) (by kernel_rfl) (by kernel_rfl) rfl ?_
        refine ge_batch [7, 8] (ans := []) (vs := [(47, .bool (SFault.eqb r3.2 r4.2)), (46, .bool (SFault.eqb r3.2 r4.2))]) (l := []) (by kernel_rfl) trivial ?_
        by_cases hc4 : (SFault.eqb r3.2 r4.2) = true
        · rw [if_pos hc4] at h
          refine ge_known (t := 47) (b := (SFault.eqb r3.2 r4.2)) (c := true) (by kernel_rfl) hc4 ?_
          refine ge_batch [9, 10, 11] (ans := [.val (.string (⟨#[63]⟩)), .val (.int .i64 (-9)), .val (.int .i64 0), .val (.int .i64 0), .val (.int .i64 0), .val (.int .i64 0), .val (.int .i64 0)]) (vs := [(50, .agg #[.string (⟨#[63]⟩), .int .i64 (-9), .int .i64 0, .int .i64 0, .int .i64 0, .int .i64 0, .int .i64 0]), (49, .slice A0 l0.length c0), (48, .slice Z1 l0.length cz1)]) (l := [.loaded ⟨4, 0, none⟩ (.string (⟨#[63]⟩)), .loaded ⟨4, 1, none⟩ (.int .i64 (-9)), .loaded ⟨4, 2, none⟩ (.int .i64 0), .loaded ⟨4, 3, none⟩ (.int .i64 0), .loaded ⟨4, 4, none⟩ (.int .i64 0), .loaded ⟨4, 5, none⟩ (.int .i64 0), .loaded ⟨4, 6, none⟩ (.int .i64 0)]) (by kernel_rfl) ⟨hS16.glob hG4 rfl, hS16.glob hG4 rfl, hS16.glob hG4 rfl, hS16.glob hG4 rfl, hS16.glob hG4 rfl, hS16.glob hG4 rfl, hS16.glob hG4 rfl, trivial⟩ ?_
          rcases hq6 : punctualsame_Still_api_Task.f K (l0 ++ [(⟨⟨#[63]⟩, (-9), 0, 0, 0, 0, 0⟩ : STask), (⟨⟨#[63]⟩, (-9), 0, 0, 0, 0, 0⟩ : STask), (⟨⟨#[63]⟩, (-9), 0, 0, 0, 0, 0⟩ : STask)]) l0 (⟨⟨#[63]⟩, (-9), 0, 0, 0, 0, 0⟩ : STask) with _ | r5
          · rw [hq6] at h; cases h
          rw [hq6] at h
          simp only [] at h
          refine ge_call (d := some 51) (f := 51) (args := #[.slice Z1 l0.length cz1, .slice A0 l0.length c0, .agg #[.string (⟨#[63]⟩), .int .i64 (-9), .int .i64 0, .int .i64 0, .int .i64 0, .int .i64 0, .int .i64 0]]) (by kernel_rfl) (punctualsame_Still_api_Task_ok K (l0 ++ [(⟨⟨#[63]⟩, (-9), 0, 0, 0, 0, 0⟩ : STask), (⟨⟨#[63]⟩, (-9), 0, 0, 0, 0, 0⟩ : STask), (⟨⟨#[63]⟩, (-9), 0, 0, 0, 0, 0⟩ : STask)]) Z1 l0.length cz1 l0 A0 c0 (⟨⟨#[63]⟩, (-9), 0, 0, 0, 0, 0⟩ : STask) _ (hS16.rdAt 2 rfl) hcp1 (hS16.rd hR0) hL0 _ hq6) ?_
          rintro _ w10 ⟨rfl, hS17⟩
          refine ⟨_, rfl, hS17.below, ?_⟩
          have hS18 := hS16.call hS17
          refine ge_batch [13, 14] (ans := []) (vs := [(8, .bool r5), (52, .bool r5)]) (l := []) (by kernel_rfl) trivial ?_
          refine ge_nil fun a hF => hK9 _ _ ?_ a hF
          have hS19 := hS18.takeN 0
          obtain rfl := Option.some.inj h
          exact we_ret (post_ret (rs := [.tmp 8]) (ans := []) (vs := [.bool r5]) (l := []) rfl (by kernel_rfl) trivial ⟨rfl, hS19⟩)
        · rw [if_neg hc4] at h
          refine ge_known (t := 47) (b := (SFault.eqb r3.2 r4.2)) (c := false) (by kernel_rfl) (Bool.eq_false_iff.2 hc4) ?_
          refine ge_batch [9, 10, 11] (ans := []) (vs := [(50, undef), (49, undef), (48, undef)]) (l := []) (by kernel_rfl) trivial ?_
          refine ge_off rfl rfl rfl (by kernel_rfl) ?_
          refine ge_batch [13, 14] (ans := []) (vs := [(8, .bool false), (52, .bool false)]) (l := []) (by kernel_rfl) trivial ?_
          refine ge_nil fun a hF => hK9 _ _ ?_ a hF
          have hS20 := hS16.takeN 0
          obtain rfl := Option.some.inj h
          exact we_ret (post_ret (rs := [.tmp 8]) (ans := []) (vs := [.bool false]) (l := []) rfl (by kernel_rfl) trivial ⟨rfl, hS20⟩)
      · rw [if_neg hc3] at h
        refine ge_known (t := 42) (b := (r3.1 == r4.1)) (c := false) (by kernel_rfl) (beq_eq_false_iff_ne.2 hc3) ?_
        refine ge_batch [4, 5, 6, 7, 8, 9, 10, 11] (ans := []) (vs := [(50, undef), (49, undef), (48, undef), (47, .bool false), (46, .bool false), (45, undef), (44, undef), (43, undef)]) (l := []) (by kernel_rfl) trivial ?_
        refine ge_off rfl rfl rfl (by kernel_rfl) ?_
        refine ge_batch [13, 14] (ans := []) (vs := [(8, .bool false), (52, .bool false)]) (l := []) (by kernel_rfl) trivial ?_
        refine ge_nil fun a hF => hK9 _ _ ?_ a hF
        have hS21 := hS16.takeN 0
        obtain rfl := Option.some.inj h
        exact we_ret (post_ret (rs := [.tmp 8]) (ans := []) (vs := [.bool false]) (l := []) rfl (by kernel_rfl) trivial ⟨rfl, hS21⟩)
    · rw [if_neg hc2] at h
      refine we_known (t := 19) (b := !(few.f (l0.length : Int))) (v := true) (by kernel_rfl) (congrArg (fun z => !z) (Bool.eq_false_iff.2 hc2)) ?_
      refine we_true (by kernel_rfl) ?_
      refine we_seq fun K10 hK10 => ?_
      refine we_region [(0, 0)] rfl ?_
      refine ge_batch [0] (ans := []) (vs := [(8, .bool true)]) (l := []) (by kernel_rfl) trivial ?_
      refine ge_nil fun a hF => hK10 _ _ ?_ a hF
      obtain rfl := Option.some.inj h
      exact we_ret (post_ret (rs := [.tmp 8]) (ans := []) (vs := [.bool true]) (l := []) rfl (by kernel_rfl) trivial ⟨rfl, hS4⟩)
  · rw [if_neg hc1] at h
    refine we_known (t := 15) (b := !r1) (v := true) (by kernel_rfl) (congrArg (fun z => !z) (Bool.eq_false_iff.2 hc1)) ?_
    refine we_true (by kernel_rfl) ?_
    refine we_seq fun K11 hK11 => ?_
    refine we_region [(0, 0)] rfl ?_
    refine ge_batch [0] (ans := []) (vs := [(8, .bool false)]) (l := []) (by kernel_rfl) trivial ?_
    refine ge_nil fun a hF => hK11 _ _ ?_ a hF
    obtain rfl := Option.some.inj h
    exact we_ret (post_ret (rs := [.tmp 8]) (ans := []) (vs := [.bool false]) (l := []) rfl (by kernel_rfl) trivial ⟨rfl, hS2⟩)
end Go.Proofs.YtccfilmiboepjaaDoor.GV
