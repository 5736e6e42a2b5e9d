/- Walks of single functions, written by a program of this work. -/
import Derived.Test.YtnckikjcjgmdlaaGWWcetLeast3
namespace Go.Proofs.Ytnckikjcjgmdlaa.GV
open Go Go.RowKit
set_option linter.unusedVariables false
set_option linter.unusedSimpArgs false
set_option maxRecDepth 100000

/-! punctual/wcet.Analyse -/
abbrev wcet_Analyse.Post (w0 : World) (r : SBound × SFault) (e : Ending) (w : World) : Prop := ∃ (v0 : Value), e = .returned (.tuple #[.agg #[.int .i64 r.1.Worst, v0], .agg #[.int .i64 r.2.Code, .int .i64 r.2.At]]) ∧ St w0 w [Own.of v0 3 r.1.Rest]
def wcet_Analyse.r0 (l0 : List SIns) (r1 : SShape × SFault) : Int × (List Int) → Option ((Int × (List Int)) ⊕ ((List Int) ⊕ (SBound × SFault)))
  | (z1, m2) =>
    if z1 ≥ 0 then
      match wcet_need.f l0 r1.1.In r1.1.Close m2 z1 with
      | none => none
      | some r2 =>
        if 0 ≤ z1 then
          match m2[(z1).toNat]? with
          | none => none
          | some e1 =>
            match (m2.set ((z1).toNat) r2)[(z1).toNat]? with
            | none => none
            | some e2 =>
              if e2 > 1099511627776 then
                some (.inr (.inr ((⟨0, ([] : List Int)⟩ : SBound), (⟨3, z1⟩ : SFault))))
              else
                some (.inl (IntKind.i64.wrap (z1 - 1), (m2.set ((z1).toNat) r2)))
        else
          none
    else
      some (.inr (.inl m2))
def wcet_Analyse.p1 (r1 : SShape × SFault) : Option ((Int × Int × Int × (List Int)) ⊕ (SBound × SFault)) :=
    some (.inl (r1.2.Code, r1.2.At, 0, ([] : List Int)))
def wcet_Analyse.f (K : Nat) (l0 : List SIns) : Option (SBound × SFault) :=
  match mach_Look.f K l0 with
  | none => none
  | some r1 =>
    if r1.2.Code = 0 then
      if l0.length ≤ 17592186044416 then
        match iter (wcet_Analyse.r0 l0 r1) K (IntKind.i64.wrap ((l0.length : Int) - 1), (List.replicate l0.length (0 : Int))) with
        | none => none
        | some (.inl m4) =>
          match wcet_at_1.f 0 m4 with
          | none => none
          | some r3 =>
            some ((⟨r3, m4⟩ : SBound), (⟨0, 0⟩ : SFault))
        | some (.inr rr1) =>
          some rr1
      else
        none
    else
      match wcet_Analyse.p1 r1 with
      | none => none
      | some (.inl (z5, z6, z7, m6)) =>
        some ((⟨z7, m6⟩ : SBound), (⟨z5, z6⟩ : SFault))
      | some (.inr rr2) =>
        some rr2
abbrev wcet_Analyse.A0 (K : Nat) (w0 : World) (l0 : List SIns) (A0 : Option Addr) (c0 : Nat) (hR0 : RdL w0 A0 l0) (hL0 : l0.length ≤ c0) (b1 : Nat) (b2 : Nat) (r1 : SShape × SFault) (m1 : Option Nat) (b3 : Nat) (b4 : Nat) (Z1 : Option Addr) (cz1 : Nat) (hc1 : r1.2.Code = 0) (hc2 : l0.length ≤ 17592186044416) (Z2 : Option Addr) (cz2 : Nat) (b5 : Nat) : (Int × (List Int)) → Act → World → Prop := fun (s : Int × (List Int)) a w => St w0 w [Own.blk b5 (.cells #[.int .i64 0, (.slice Z2 s.2.length cz2)] 70 (0, 0)), Own.blk b3 (.cells #[(.slice Z1 r1.1.In.length cz1), .map m1] 115 (0, 0)), Own.blk b2 (.cells #[.int .i64 0, .int .i64 0] 40 (0, 0)), Own.blk b1 (.cells #[.int .i64 0, .slice none 0 0] 70 (0, 0)), Own.of (.slice Z2 s.2.length cz2) 3 s.2, Own.of (.slice Z1 r1.1.In.length cz1) 3 r1.1.In, Own.mapv (κ := Int) (ν := Int) m1 r1.1.Close] ∧ Frm 56 a [(0, .slice A0 l0.length c0), (2, .pointer (some ⟨b1, 0, none⟩)), (3, .pointer (some ⟨b2, 0, none⟩)), (4, .pointer (some ⟨b3, 0, none⟩)), (6, .pointer (some ⟨b5, 0, none⟩)), (7, .int .i64 s.1)]
abbrev wcet_Analyse.B0 (K : Nat) (w0 : World) (l0 : List SIns) (A0 : Option Addr) (c0 : Nat) (hR0 : RdL w0 A0 l0) (hL0 : l0.length ≤ c0) (b1 : Nat) (b2 : Nat) (r1 : SShape × SFault) (m1 : Option Nat) (b3 : Nat) (b4 : Nat) (Z1 : Option Addr) (cz1 : Nat) (hc1 : r1.2.Code = 0) (hc2 : l0.length ≤ 17592186044416) (Z2 : Option Addr) (cz2 : Nat) (b5 : Nat) : ((List Int) ⊕ (SBound × SFault)) → Exit → Act → World → Prop := Exits 0 (fun (s : (List Int)) a w => St w0 w [Own.blk b5 (.cells #[.int .i64 0, (.slice Z2 s.length cz2)] 70 (0, 0)), Own.blk b2 (.cells #[.int .i64 0, .int .i64 0] 40 (0, 0)), Own.blk b1 (.cells #[.int .i64 0, .slice none 0 0] 70 (0, 0)), Own.of (.slice Z2 s.length cz2) 3 s] ∧ Frm 56 a [(2, .pointer (some ⟨b1, 0, none⟩)), (3, .pointer (some ⟨b2, 0, none⟩)), (6, .pointer (some ⟨b5, 0, none⟩))]) (Rets Try.prog Try.f37 (wcet_Analyse.Post w0))
theorem wcet_Analyse_r0 (K : Nat) (w0 : World) (l0 : List SIns) (A0 : Option Addr) (c0 : Nat) (hR0 : RdL w0 A0 l0) (hL0 : l0.length ≤ c0) (b1 : Nat) (b2 : Nat) (r1 : SShape × SFault) (m1 : Option Nat) (b3 : Nat) (b4 : Nat) (Z1 : Option Addr) (cz1 : Nat) (hc1 : r1.2.Code = 0) (hc2 : l0.length ≤ 17592186044416) (Z2 : Option Addr) (cz2 : Nat) (b5 : Nat) (s : Int × (List Int)) (o : (Int × (List Int)) ⊕ ((List Int) ⊕ (SBound × SFault))) (h : wcet_Analyse.r0 l0 r1 s = some o) (a : Act) (w : World) (hA : wcet_Analyse.A0 K w0 l0 A0 c0 hR0 hL0 b1 b2 r1 m1 b3 b4 Z1 cz1 hc1 hc2 Z2 cz2 b5 s a w) (Q : Exit → Act → World → Prop) (hQ : ∀ x a w, Outs (wcet_Analyse.A0 K w0 l0 A0 c0 hR0 hL0 b1 b2 r1 m1 b3 b4 Z1 cz1 hc1 hc2 Z2 cz2 b5) (wcet_Analyse.B0 K w0 l0 A0 c0 hR0 hL0 b1 b2 r1 m1 b3 b4 Z1 cz1 hc1 hc2 Z2 cz2 b5) o x a w → Q x a w) : (subF Try.f37 [1, 1, 1, 1, 0, 1, 0, 0]).wp Try.prog Q a w := by
  obtain ⟨z1, m2⟩ := s
  obtain ⟨hS, hF⟩ := hA
  replace hS : St w0 w [Own.blk b5 (.cells #[.int .i64 0, (.slice Z2 m2.length cz2)] 70 (0, 0)), Own.blk b3 (.cells #[(.slice Z1 r1.1.In.length cz1), .map m1] 115 (0, 0)), Own.blk b2 (.cells #[.int .i64 0, .int .i64 0] 40 (0, 0)), Own.blk b1 (.cells #[.int .i64 0, .slice none 0 0] 70 (0, 0)), Own.of (.slice Z2 m2.length cz2) 3 m2, Own.of (.slice Z1 r1.1.In.length cz1) 3 r1.1.In, Own.mapv (κ := Int) (ν := Int) m1 r1.1.Close] := hS
  simp only [wcet_Analyse.r0] at h
  refine (?_ : WE Try.prog 56 (subF Try.f37 [1, 1, 1, 1, 0, 1, 0, 0]) Q [(0, .slice A0 l0.length c0), (2, .pointer (some ⟨b1, 0, none⟩)), (3, .pointer (some ⟨b2, 0, none⟩)), (4, .pointer (some ⟨b3, 0, none⟩)), (6, .pointer (some ⟨b5, 0, none⟩)), (7, .int .i64 z1)] w) a hF
  clear hF a
  refine we_seq fun K8 hK8 => ?_
  refine we_seq fun K9 hK9 => ?_
  refine we_region [(0, 0), (1, 0)] rfl ?_
  refine ge_batch [0, 1] (ans := []) (vs := [(26, .bool (decide (z1 ≥ 0))), (25, .int .i64 z1)]) (l := []) (by kernel_rfl) trivial ?_
  refine ge_nil fun a hF => hK9 _ _ ?_ a hF
  by_cases hc3 : z1 ≥ 0
  · rw [if_pos hc3] at h
    refine we_known (t := 26) (b := decide (z1 ≥ 0)) (v := true) (by kernel_rfl) (decide_eq_true hc3) ?_
    refine we_true (by kernel_rfl) ?_
    refine we_skip fun a hF => hK8 _ _ ?_ a hF
    refine we_seq fun K10 hK10 => ?_
    refine we_block ?_
    refine we_seq fun K11 hK11 => ?_
    refine we_draws (by kernel_rfl) [(0, 0), (1, 0), (2, 0), (3, 0), (4, 0), (5, 0), (6, 0), (8, 0), (7, 1), (9, 1), (10, 0), (11, 2)] (by kernel_rfl) ?_
    have hS25 := hS.drew
    refine ge_batch [0, 1, 2, 3, 4, 5, 6, 8] (ans := [.val ((.slice Z2 m2.length cz2)), .val ((.slice Z1 r1.1.In.length cz1)), .val (.map m1), .val ((.slice Z2 m2.length cz2))]) (vs := [(37, .int .i64 z1), (35, (.slice Z2 m2.length cz2)), (34, .pointer (some ⟨b5, 1, none⟩)), (33, .agg #[(.slice Z1 r1.1.In.length cz1), .map m1]), (32, .slice A0 l0.length c0), (31, .int .i64 z1), (30, (.slice Z2 m2.length cz2)), (29, .pointer (some ⟨b5, 1, none⟩))]) (l := [.loaded ⟨b5, 1, none⟩ ((.slice Z2 m2.length cz2)), .loaded ⟨b3, 0, none⟩ ((.slice Z1 r1.1.In.length cz1)), .loaded ⟨b3, 1, none⟩ (.map m1), .loaded ⟨b5, 1, none⟩ ((.slice Z2 m2.length cz2))]) (by kernel_rfl) ⟨hS25.cell 0 rfl rfl, hS25.cell 1 rfl rfl, hS25.cell 1 rfl rfl, hS25.cell 0 rfl rfl, trivial⟩ ?_
    refine ge_call (d := some 36) (f := 64) (args := #[(.slice Z2 m2.length cz2)]) (by kernel_rfl) (wcet_at_ok m2 Z2 cz2 _ (hS25.rdAt 4 rfl) (hS25.capAt 4 rfl)) ?_
    rintro _ w11 ⟨b6, rfl, hS26⟩
    refine ⟨_, rfl, hS26.below, ?_⟩
    have hS27 := hS25.call hS26
    rcases hq2 : wcet_need.f l0 r1.1.In r1.1.Close m2 z1 with _ | r2
    · rw [hq2] at h; cases h
    rw [hq2] at h
    simp only [] at h
    refine ge_call (d := some 38) (f := 63) (args := #[.slice A0 l0.length c0, .agg #[(.slice Z1 r1.1.In.length cz1), .map m1], .func (.func 87) #[] #[.pointer (some ⟨b6, 0, none⟩)], .int .i64 z1]) (by kernel_rfl) (wcet_need_ok l0 A0 c0 r1.1.In Z1 cz1 r1.1.Close m1 b6 m2 Z2 cz2 z1 _ (hS27.rd hR0) hL0 (hS27.rdAt 6 rfl) (hS27.capAt 6 rfl) (hS27.rdMapvAt 7 rfl) (hS27.rdAt 5 rfl) (hS27.capAt 5 rfl) (hS27.globOf 0 rfl) _ hq2) ?_
    rintro _ w12 ⟨rfl, hS28⟩
    refine ⟨_, rfl, hS28.below, ?_⟩
    have hS29 := hS27.call hS28
    by_cases hc4 : 0 ≤ z1
    · rw [if_pos hc4] at h
      rcases hx6 : m2[(z1).toNat]? with _ | e1
      · rw [hx6] at h; cases h
      rw [hx6] at h
      simp only [] at h
      refine ge_index (d := 39) (ty := 0) (t := 24) (el := 3) (sz := 1) (m := m2.length) (c := cz2) (x := (.tmp 30)) (y := (.tmp 31)) (A := Z2) (k' := .i64) (j := z1) (jn := ((z1).toNat)) (b0 := blkOf Z2) (o0 := offOf Z2) (by kernel_rfl) (by kernel_rfl) (by kernel_rfl) (by kernel_rfl) (by kernel_rfl) ((hS29.rdAt 5 rfl).eqSome (pos_of_get hx6)) (Int.toNat_of_nonneg hc4).symm (lt_of_get hx6) ?_
      have hS30 := hS29.bring 5 rfl
      refine ge_seti (α := Int) (A := Z2) (nn := m2.length) (c := cz2) (t := 3) (l := m2) (x := e1) (x' := r2) (jn := ((z1).toNat)) (j := 0) (vs := [.int .i64 r2]) (l' := [.stored ⟨blkOf Z2, offOf Z2 + ((z1).toNat) * 1, none⟩ (.int .i64 r2)]) hS30 (by kernel_rfl) (by kernel_rfl) hx6 rfl rfl rfl fun w13 hS31 => ?_
      have hS32 : St w0 w13 [Own.of (.slice Z2 m2.length cz2) 3 (m2.set ((z1).toNat) r2), Own.blk b6 (.cells #[(.slice Z2 m2.length cz2)] 24 (0, 0)), Own.blk b5 (.cells #[.int .i64 0, (.slice Z2 m2.length cz2)] 70 (0, 0)), Own.blk b3 (.cells #[(.slice Z1 r1.1.In.length cz1), .map m1] 115 (0, 0)), Own.blk b2 (.cells #[.int .i64 0, .int .i64 0] 40 (0, 0)), Own.blk b1 (.cells #[.int .i64 0, .slice none 0 0] 70 (0, 0)), Own.of (.slice Z1 r1.1.In.length cz1) 3 r1.1.In, Own.mapv (κ := Int) (ν := Int) m1 r1.1.Close] := hS31
      have hE1 : m2.length = (m2.set ((z1).toNat) r2).length := hS32.lenAt 0 rfl
      have hS33 : St w0 w13 [Own.of (.slice Z2 (m2.set ((z1).toNat) r2).length cz2) 3 (m2.set ((z1).toNat) r2), Own.blk b6 (.cells #[(.slice Z2 (m2.set ((z1).toNat) r2).length cz2)] 24 (0, 0)), Own.blk b5 (.cells #[.int .i64 0, (.slice Z2 (m2.set ((z1).toNat) r2).length cz2)] 70 (0, 0)), Own.blk b3 (.cells #[(.slice Z1 r1.1.In.length cz1), .map m1] 115 (0, 0)), Own.blk b2 (.cells #[.int .i64 0, .int .i64 0] 40 (0, 0)), Own.blk b1 (.cells #[.int .i64 0, .slice none 0 0] 70 (0, 0)), Own.of (.slice Z1 r1.1.In.length cz1) 3 r1.1.In, Own.mapv (κ := Int) (ν := Int) m1 r1.1.Close] := by rw [← hE1]; exact hS32
      refine ge_same (t := 30) (v := (.slice Z2 m2.length cz2)) (v' := (.slice Z2 (m2.set ((z1).toNat) r2).length cz2)) (by kernel_rfl) (by rw [hE1]) ?_
      refine ge_same (t := 35) (v := (.slice Z2 m2.length cz2)) (v' := (.slice Z2 (m2.set ((z1).toNat) r2).length cz2)) (by kernel_rfl) (by rw [hE1]) ?_
      refine ge_nil fun a hF => hK11 _ _ ?_ a hF
      refine we_seq fun K12 hK12 => ?_
      refine we_region [(0, 0), (1, 0), (2, 0), (3, 0), (4, 0), (5, 0)] rfl ?_
      refine ge_batch [0, 1, 2] (ans := [.val ((.slice Z2 (m2.set ((z1).toNat) r2).length cz2))]) (vs := [(42, .int .i64 z1), (41, (.slice Z2 (m2.set ((z1).toNat) r2).length cz2)), (40, .pointer (some ⟨b5, 1, none⟩))]) (l := [.loaded ⟨b5, 1, none⟩ ((.slice Z2 (m2.set ((z1).toNat) r2).length cz2))]) (by kernel_rfl) ⟨hS33.cell 2 rfl rfl, trivial⟩ ?_
      rcases hx7 : (m2.set ((z1).toNat) r2)[(z1).toNat]? with _ | e2
      · rw [hx7] at h; cases h
      rw [hx7] at h
      simp only [] at h
      refine ge_index (d := 43) (ty := 0) (t := 24) (el := 3) (sz := 1) (m := (m2.set ((z1).toNat) r2).length) (c := cz2) (x := (.tmp 41)) (y := (.tmp 42)) (A := Z2) (k' := .i64) (j := z1) (jn := ((z1).toNat)) (b0 := blkOf Z2) (o0 := offOf Z2) (by kernel_rfl) (by kernel_rfl) (by kernel_rfl) (by kernel_rfl) (by kernel_rfl) ((hS33.rdAt 0 rfl).eqSome (pos_of_get hx7)) (Int.toNat_of_nonneg hc4).symm (lt_of_get hx7) ?_
      refine ge_batch [4, 5] (ans := [.val (.int .i64 e2)]) (vs := [(45, .bool (decide (e2 > 1099511627776))), (44, .int .i64 e2)]) (l := [.loaded ⟨blkOf Z2, offOf Z2 + ((z1).toNat) * 1, none⟩ (.int .i64 e2)]) (by kernel_rfl) ⟨RdL.cell (j := 0) (hS33.rdAt 0 rfl) hx7 rfl, trivial⟩ ?_
      refine ge_nil fun a hF => hK12 _ _ ?_ a hF
      by_cases hc5 : e2 > 1099511627776
      · rw [if_pos hc5] at h
        refine we_known (t := 45) (b := decide (e2 > 1099511627776)) (v := true) (by kernel_rfl) (decide_eq_true hc5) ?_
        refine we_true (by kernel_rfl) ?_
        refine we_seq fun K13 hK13 => ?_
        refine we_region [(0, 0), (1, 0), (2, 0), (3, 2), (4, 2)] rfl ?_
        refine ge_batch [0, 1, 2] (ans := []) (vs := [(48, .agg #[.int .i64 3, .int .i64 z1]), (47, .int .i64 z1), (46, .agg #[.int .i64 0, .slice none 0 0])]) (l := []) (by kernel_rfl) trivial ?_
        have hS34 := hS33.bring 5 rfl
        refine ge_set (b := b1) (j := 0) (cs := #[.int .i64 0, .slice none 0 0]) (t := 70) (vs := [.int .i64 0, .slice none 0 0]) hS34 (by kernel_rfl) rfl rfl fun w14 hS35 => ?_
        have hS36 : St w0 w14 [Own.blk b1 (.cells #[.int .i64 0, .slice none 0 0] 70 (0, 0)), Own.of (.slice Z2 (m2.set ((z1).toNat) r2).length cz2) 3 (m2.set ((z1).toNat) r2), Own.blk b6 (.cells #[(.slice Z2 (m2.set ((z1).toNat) r2).length cz2)] 24 (0, 0)), Own.blk b5 (.cells #[.int .i64 0, (.slice Z2 (m2.set ((z1).toNat) r2).length cz2)] 70 (0, 0)), Own.blk b3 (.cells #[(.slice Z1 r1.1.In.length cz1), .map m1] 115 (0, 0)), Own.blk b2 (.cells #[.int .i64 0, .int .i64 0] 40 (0, 0)), Own.of (.slice Z1 r1.1.In.length cz1) 3 r1.1.In, Own.mapv (κ := Int) (ν := Int) m1 r1.1.Close] := hS35
        have hS37 := hS36.bring 5 rfl
        refine ge_set (b := b2) (j := 0) (cs := #[.int .i64 0, .int .i64 0]) (t := 40) (vs := [.int .i64 3, .int .i64 z1]) hS37 (by kernel_rfl) rfl rfl fun w15 hS38 => ?_
        have hS39 : St w0 w15 [Own.blk b2 (.cells #[.int .i64 3, .int .i64 z1] 40 (0, 0)), Own.blk b1 (.cells #[.int .i64 0, .slice none 0 0] 70 (0, 0)), Own.of (.slice Z2 (m2.set ((z1).toNat) r2).length cz2) 3 (m2.set ((z1).toNat) r2), Own.blk b6 (.cells #[(.slice Z2 (m2.set ((z1).toNat) r2).length cz2)] 24 (0, 0)), Own.blk b5 (.cells #[.int .i64 0, (.slice Z2 (m2.set ((z1).toNat) r2).length cz2)] 70 (0, 0)), Own.blk b3 (.cells #[(.slice Z1 r1.1.In.length cz1), .map m1] 115 (0, 0)), Own.of (.slice Z1 r1.1.In.length cz1) 3 r1.1.In, Own.mapv (κ := Int) (ν := Int) m1 r1.1.Close] := hS38
        refine ge_nil fun a hF => hK13 _ _ ?_ a hF
        have hS40 := hS39.nil (α := Int) 3
        have hS41 := hS40.takeN 1
        obtain rfl := Option.some.inj h
        exact we_ret fun a hF => hQ _ _ _ (Outs.out nofun (Exits.on ⟨rfl, (post_ret (rs := [.cell 2 70, .cell 3 40]) (ans := [.val (.int .i64 0), .val ((.slice none 0 0)), .val (.int .i64 3), .val (.int .i64 z1)]) (vs := [.agg #[.int .i64 0, (.slice none 0 0)], .agg #[.int .i64 3, .int .i64 z1]]) (l := [.loaded ⟨b1, 0, none⟩ (.int .i64 0), .loaded ⟨b1, 1, none⟩ ((.slice none 0 0)), .loaded ⟨b2, 0, none⟩ (.int .i64 3), .loaded ⟨b2, 1, none⟩ (.int .i64 z1)]) rfl (by kernel_rfl) ⟨hS40.cell 2 rfl rfl, hS40.cell 2 rfl rfl, hS40.cell 1 rfl rfl, hS40.cell 1 rfl rfl, trivial⟩ ⟨(.slice none 0 0), rfl, hS41⟩) a hF⟩))
      · rw [if_neg hc5] at h
        refine we_known (t := 45) (b := decide (e2 > 1099511627776)) (v := false) (by kernel_rfl) (decide_eq_false hc5) ?_
        refine we_false (by kernel_rfl) ?_
        refine we_skip fun a hF => hK10 _ _ ?_ a hF
        refine we_region [(0, 0), (1, 0), (2, 0)] rfl ?_
        refine ge_batch [0, 1, 2] (ans := []) (vs := [(7, .int .i64 (IntKind.i64.wrap (z1 - 1))), (28, .int .i64 (IntKind.i64.wrap (z1 - 1))), (27, .int .i64 z1)]) (l := []) (by kernel_rfl) trivial ?_
        have hS42 := hS33.bring 7 rfl
        have hS43 := hS42.bring 7 rfl
        have hS44 := hS43.bring 2 rfl
        have hS45 := hS44.bring 7 rfl
        have hS46 := hS45.bring 7 rfl
        have hS47 := hS46.bring 7 rfl
        have hS48 := hS47.bring 7 rfl
        have hS49 := hS48.takeN 7
        obtain rfl := Option.some.inj h
        exact ge_nil fun a hF => hQ _ _ _ (Outs.again ⟨hS49, hF.weaken ⟨by kernel_rfl, by kernel_rfl, by kernel_rfl, by kernel_rfl, by kernel_rfl, by kernel_rfl, trivial⟩⟩)
    · rw [if_neg hc4] at h
      cases h
  · rw [if_neg hc3] at h
    refine we_known (t := 26) (b := decide (z1 ≥ 0)) (v := false) (by kernel_rfl) (decide_eq_false hc3) ?_
    refine we_false (by kernel_rfl) ?_
    have hS50 := hS.bring 4 rfl
    have hS51 := hS50.bring 4 rfl
    have hS52 := hS51.bring 4 rfl
    have hS53 := hS52.bring 3 rfl
    have hS54 := hS53.takeN 4
    obtain rfl := Option.some.inj h
    exact we_exit fun a hF => hQ _ _ _ (Outs.out nofun (Exits.here ⟨hS54, hF.weaken ⟨by kernel_rfl, by kernel_rfl, by kernel_rfl, trivial⟩⟩))
abbrev wcet_Analyse.A1 (K : Nat) (w0 : World) (l0 : List SIns) (A0 : Option Addr) (c0 : Nat) (hR0 : RdL w0 A0 l0) (hL0 : l0.length ≤ c0) (b1 : Nat) (b2 : Nat) (r1 : SShape × SFault) (m1 : Option Nat) (b3 : Nat) (b4 : Nat) (Z1 : Option Addr) (cz1 : Nat) (hc1 : ¬ (r1.2.Code = 0)) : (Int × Int × Int × (List Int)) → Act → World → Prop := fun (s : Int × Int × Int × (List Int)) a w => ∃ (v3 : Value), St w0 w [Own.blk b2 (.cells #[.int .i64 s.1, .int .i64 s.2.1] 40 (0, 0)), Own.blk b1 (.cells #[.int .i64 s.2.2.1, v3] 70 (0, 0)), Own.of v3 3 s.2.2.2] ∧ Frm 56 a [(2, .pointer (some ⟨b1, 0, none⟩)), (3, .pointer (some ⟨b2, 0, none⟩))]
abbrev wcet_Analyse.B1 (K : Nat) (w0 : World) (l0 : List SIns) (A0 : Option Addr) (c0 : Nat) (hR0 : RdL w0 A0 l0) (hL0 : l0.length ≤ c0) (b1 : Nat) (b2 : Nat) (r1 : SShape × SFault) (m1 : Option Nat) (b3 : Nat) (b4 : Nat) (Z1 : Option Addr) (cz1 : Nat) (hc1 : ¬ (r1.2.Code = 0)) : (SBound × SFault) → Exit → Act → World → Prop := Rets Try.prog Try.f37 (wcet_Analyse.Post w0)
theorem wcet_Analyse_p1 (K : Nat) (w0 : World) (l0 : List SIns) (A0 : Option Addr) (c0 : Nat) (hR0 : RdL w0 A0 l0) (hL0 : l0.length ≤ c0) (b1 : Nat) (b2 : Nat) (r1 : SShape × SFault) (m1 : Option Nat) (b3 : Nat) (b4 : Nat) (Z1 : Option Addr) (cz1 : Nat) (hc1 : ¬ (r1.2.Code = 0)) (o : (Int × Int × Int × (List Int)) ⊕ (SBound × SFault)) (h : wcet_Analyse.p1 r1 = some o) (w : World) (hS : St w0 w [Own.blk b4 (.cells #[.int .i64 r1.2.Code, .int .i64 r1.2.At] 40 (0, 0)), Own.blk b3 (.cells #[(.slice Z1 r1.1.In.length cz1), .map m1] 115 (0, 0)), Own.of (.slice Z1 r1.1.In.length cz1) 3 r1.1.In, Own.mapv (κ := Int) (ν := Int) m1 r1.1.Close, Own.blk b2 (.cells #[.int .i64 0, .int .i64 0] 40 (0, 0)), Own.blk b1 (.cells #[.int .i64 0, .slice none 0 0] 70 (0, 0))]) (Q : Exit → Act → World → Prop) (hQ : ∀ x a w, Outs (wcet_Analyse.A1 K w0 l0 A0 c0 hR0 hL0 b1 b2 r1 m1 b3 b4 Z1 cz1 hc1) (wcet_Analyse.B1 K w0 l0 A0 c0 hR0 hL0 b1 b2 r1 m1 b3 b4 Z1 cz1 hc1) o x a w → Q x a w) : WE Try.prog 56 (subF Try.f37 [1, 1, 0, 1, 0, 0]) Q [(0, .slice A0 l0.length c0), (2, .pointer (some ⟨b1, 0, none⟩)), (3, .pointer (some ⟨b2, 0, none⟩)), (4, .pointer (some ⟨b3, 0, none⟩)), (5, .pointer (some ⟨b4, 0, none⟩)), (8, .tuple #[.agg #[(.slice Z1 r1.1.In.length cz1), .map m1], .agg #[.int .i64 r1.2.Code, .int .i64 r1.2.At]]), (9, .slice A0 l0.length c0), (10, .tuple #[.agg #[(.slice Z1 r1.1.In.length cz1), .map m1], .agg #[.int .i64 r1.2.Code, .int .i64 r1.2.At]]), (11, .agg #[(.slice Z1 r1.1.In.length cz1), .map m1]), (12, .agg #[.int .i64 r1.2.Code, .int .i64 r1.2.At]), (13, .pointer (some ⟨b4, 0, none⟩)), (14, .int .i64 r1.2.Code), (15, .bool true)] w := by
  simp only [wcet_Analyse.p1] at h
  refine we_orders2 (by kernel_rfl) [(1, [⟨b4, 0, none⟩, ⟨b4, 1, none⟩])] (.vals [0] (.vals [1] (.alt 2 2 (.alt 3 2 .fin .nomore) .nomore))) (by kernel_rfl) ?_
  have hS71 := hS.drew
  refine go2_batch [0] (ans := []) (vs := [(16, .agg #[.int .i64 0, .slice none 0 0])]) (l := []) (by kernel_rfl) trivial mem_nil ?_
  refine go2_batch [1] (ans := [.val (.int .i64 r1.2.Code), .val (.int .i64 r1.2.At)]) (vs := [(17, .agg #[.int .i64 r1.2.Code, .int .i64 r1.2.At])]) (l := [.loaded ⟨b4, 0, none⟩ (.int .i64 r1.2.Code), .loaded ⟨b4, 1, none⟩ (.int .i64 r1.2.At)]) (by kernel_rfl) ⟨hS71.cell 0 rfl rfl, hS71.cell 0 rfl rfl, trivial⟩ (mem_one (by kernel_rfl)) ?_
  refine go_alt2 (fun KK hKK => ?_) ?_
  · have hS72 := hS71.bring 5 rfl
    refine ge_set (b := b1) (j := 0) (cs := #[.int .i64 0, .slice none 0 0]) (t := 70) (vs := [.int .i64 0, .slice none 0 0]) hS72 (by kernel_rfl) rfl rfl fun w22 hS73 => ?_
    have hS74 : St w0 w22 [Own.blk b1 (.cells #[.int .i64 0, .slice none 0 0] 70 (0, 0)), Own.blk b4 (.cells #[.int .i64 r1.2.Code, .int .i64 r1.2.At] 40 (0, 0)), Own.blk b3 (.cells #[(.slice Z1 r1.1.In.length cz1), .map m1] 115 (0, 0)), Own.of (.slice Z1 r1.1.In.length cz1) 3 r1.1.In, Own.mapv (κ := Int) (ν := Int) m1 r1.1.Close, Own.blk b2 (.cells #[.int .i64 0, .int .i64 0] 40 (0, 0))] := hS73
    refine ge_nil fun a hF => hKK _ _ (RS.of2 (l := [.loaded ⟨b4, 0, none⟩ (.int .i64 r1.2.Code), .loaded ⟨b4, 1, none⟩ (.int .i64 r1.2.At)]) (by kernel_rfl) ⟨hS71.cell 0 rfl rfl, hS71.cell 0 rfl rfl, trivial⟩ ⟨hS74.cell 1 rfl rfl, hS74.cell 1 rfl rfl, trivial⟩) ?_ a hF
    refine go_alt2 (fun KK hKK => ?_) ?_
    · have hS75 := hS74.bring 5 rfl
      refine ge_set (b := b2) (j := 0) (cs := #[.int .i64 0, .int .i64 0]) (t := 40) (vs := [.int .i64 r1.2.Code, .int .i64 r1.2.At]) hS75 (by kernel_rfl) rfl rfl fun w23 hS76 => ?_
      have hS77 : St w0 w23 [Own.blk b2 (.cells #[.int .i64 r1.2.Code, .int .i64 r1.2.At] 40 (0, 0)), Own.blk b1 (.cells #[.int .i64 0, .slice none 0 0] 70 (0, 0)), Own.blk b4 (.cells #[.int .i64 r1.2.Code, .int .i64 r1.2.At] 40 (0, 0)), Own.blk b3 (.cells #[(.slice Z1 r1.1.In.length cz1), .map m1] 115 (0, 0)), Own.of (.slice Z1 r1.1.In.length cz1) 3 r1.1.In, Own.mapv (κ := Int) (ν := Int) m1 r1.1.Close] := hS76
      refine ge_nil fun a hF => hKK _ _ (RS.of2 (l := []) (by kernel_rfl) trivial trivial) ?_ a hF
      have hS78 := hS77.nil (α := Int) 3
      have hS79 := hS78.bring 2 rfl
      have hS80 := hS79.bring 2 rfl
      have hS81 := hS80.takeN 3
      obtain rfl := Option.some.inj h
      exact go_fin2 fun a hF => hQ _ _ _ (Outs.again ⟨(.slice none 0 0), hS81, hF.weaken ⟨by kernel_rfl, by kernel_rfl, trivial⟩⟩)
    exact go_nomore2
  exact go_nomore2
theorem wcet_Analyse_ok (K : Nat) (l0 : List SIns) (A0 : Option Addr) (c0 : Nat) (w0 : World) (hR0 : RdL w0 A0 l0) (hL0 : l0.length ≤ c0) (r : SBound × SFault) (h : wcet_Analyse.f K l0 = some r) :
    Calls Try.prog 37 #[.slice A0 l0.length c0] w0 (wcet_Analyse.Post w0 r) := by
  have hS := St.start w0
  unfold wcet_Analyse.f at h
  refine calls_enter (n := 56) (args := [.slice A0 l0.length c0]) (fn := Try.f37) rfl rfl rfl rfl ?_
  show WE _ _ _ _ [(0, .slice A0 l0.length c0)] _
  refine we_seq fun K1 hK1 => ?_
  refine we_region [(0, 1), (1, 1)] rfl ?_
  refine ge_new (d := some 2) (o := .cells #[.int .i64 0, .slice none 0 0] 70) (v := fun b => .pointer (some ⟨b, 0, none⟩)) hS (fun b => by kernel_rfl) fun b1 w1 hx1 hS1 => ?_
  refine ge_new (d := some 3) (o := .cells #[.int .i64 0, .int .i64 0] 40) (v := fun b => .pointer (some ⟨b, 0, none⟩)) hS1 (fun b => by kernel_rfl) fun b2 w2 hx2 hS2 => ?_
  refine ge_nil fun a hF => hK1 _ _ ?_ a hF
  refine we_seq fun K2 hK2 => ?_
  refine we_region [(0, 0), (1, 1), (2, 0), (3, 0), (4, 0), (5, 1), (6, 1), (7, 2), (8, 2)] rfl ?_
  rcases hq1 : mach_Look.f K l0 with _ | r1
  · rw [hq1] at h; cases h
  rw [hq1] at h
  simp only [] at h
  refine ge_batch [0] (ans := []) (vs := [(9, .slice A0 l0.length c0)]) (l := []) (by kernel_rfl) trivial ?_
  refine ge_call (d := some 10) (f := 62) (args := #[.slice A0 l0.length c0]) (by kernel_rfl) (mach_Look_ok K l0 A0 c0 _ (hS2.rd hR0) hL0 _ hq1) ?_
  rintro _ w3 ⟨v1, m1, rfl, hS3⟩
  refine ⟨_, rfl, hS3.below, ?_⟩
  have hS4 := hS2.call hS3
  refine ge_batch [2, 3, 4] (ans := []) (vs := [(12, .agg #[.int .i64 r1.2.Code, .int .i64 r1.2.At]), (11, .agg #[v1, .map m1]), (8, .tuple #[.agg #[v1, .map m1], .agg #[.int .i64 r1.2.Code, .int .i64 r1.2.At]])]) (l := []) (by kernel_rfl) trivial ?_
  refine ge_new (d := some 4) (o := .cells #[.slice none 0 0, .map none] 115) (v := fun b => .pointer (some ⟨b, 0, none⟩)) hS4 (fun b => by kernel_rfl) fun b3 w4 hx3 hS5 => ?_
  refine ge_new (d := some 5) (o := .cells #[.int .i64 0, .int .i64 0] 40) (v := fun b => .pointer (some ⟨b, 0, none⟩)) hS5 (fun b => by kernel_rfl) fun b4 w5 hx4 hS6 => ?_
  obtain ⟨Z1, cz1, rfl⟩ := hS6.open 2 rfl
  have hS7 := hS6.bring 1 rfl
  refine ge_set (b := b3) (j := 0) (cs := #[.slice none 0 0, .map none]) (t := 115) (vs := [(.slice Z1 r1.1.In.length cz1), .map m1]) hS7 (by kernel_rfl) rfl rfl fun w6 hS8 => ?_
  have hS9 : St w0 w6 [Own.blk b3 (.cells #[(.slice Z1 r1.1.In.length cz1), .map m1] 115 (0, 0)), Own.blk b4 (.cells #[.int .i64 0, .int .i64 0] 40 (0, 0)), Own.of (.slice Z1 r1.1.In.length cz1) 3 r1.1.In, Own.mapv (κ := Int) (ν := Int) m1 r1.1.Close, Own.blk b2 (.cells #[.int .i64 0, .int .i64 0] 40 (0, 0)), Own.blk b1 (.cells #[.int .i64 0, .slice none 0 0] 70 (0, 0))] := hS8
  have hS10 := hS9.bring 1 rfl
  refine ge_set (b := b4) (j := 0) (cs := #[.int .i64 0, .int .i64 0]) (t := 40) (vs := [.int .i64 r1.2.Code, .int .i64 r1.2.At]) hS10 (by kernel_rfl) rfl rfl fun w7 hS11 => ?_
  have hS12 : St w0 w7 [Own.blk b4 (.cells #[.int .i64 r1.2.Code, .int .i64 r1.2.At] 40 (0, 0)), Own.blk b3 (.cells #[(.slice Z1 r1.1.In.length cz1), .map m1] 115 (0, 0)), Own.of (.slice Z1 r1.1.In.length cz1) 3 r1.1.In, Own.mapv (κ := Int) (ν := Int) m1 r1.1.Close, Own.blk b2 (.cells #[.int .i64 0, .int .i64 0] 40 (0, 0)), Own.blk b1 (.cells #[.int .i64 0, .slice none 0 0] 70 (0, 0))] := hS11
  refine ge_nil fun a hF => hK2 _ _ ?_ a hF
  refine we_seq fun K3 hK3 => ?_
  refine we_seq fun K4 hK4 => ?_
  refine we_region [(0, 0), (1, 0), (2, 0)] rfl ?_
  refine ge_batch [0, 1, 2] (ans := [.val (.int .i64 r1.2.Code)]) (vs := [(15, .bool (r1.2.Code != 0)), (14, .int .i64 r1.2.Code), (13, .pointer (some ⟨b4, 0, none⟩))]) (l := [.loaded ⟨b4, 0, none⟩ (.int .i64 r1.2.Code)]) (by kernel_rfl) ⟨hS12.cell 0 rfl rfl, trivial⟩ ?_
  refine ge_nil fun a hF => hK4 _ _ ?_ a hF
  by_cases hc1 : r1.2.Code = 0
  · rw [if_pos hc1] at h
    refine we_known (t := 15) (b := (r1.2.Code != 0)) (v := false) (by kernel_rfl) (bne_eq_false_iff_eq.2 hc1) ?_
    refine we_false (by kernel_rfl) ?_
    refine we_skip fun a hF => hK3 _ _ ?_ a hF
    refine we_seq fun K5 hK5 => ?_
    refine we_region [(0, 0), (1, 0), (2, 1), (3, 0), (4, 1), (5, 2)] rfl ?_
    refine ge_batch [0, 1] (ans := []) (vs := [(19, .int .i64 (l0.length : Int)), (18, .slice A0 l0.length c0)]) (l := []) (by kernel_rfl) trivial ?_
    by_cases hc2 : l0.length ≤ 17592186044416
    · rw [if_pos hc2] at h
      refine ge_make (α := Int) (d := 20) (t := 24) (el := 3) (bytes := 8) (l := l0.length) (c := l0.length) (x := (.tmp 19)) (y := (.tmp 19)) (ty := 24) (k1 := .i64) (k2 := .i64) (li := (l0.length : Int)) (ci := (l0.length : Int)) (z := .int .i64 0) (z' := (0 : Int)) (by kernel_rfl) (by kernel_rfl) (by kernel_rfl) rfl rfl (by kernel_rfl) (by kernel_rfl) rfl hS12 (Nat.le_refl _) rfl (by omega) fun v2 w8 _ hS13 => ?_
      obtain ⟨Z2, cz2, rfl⟩ := hS13.open 0 rfl
      refine ge_batch [3] (ans := []) (vs := [(21, .agg #[.int .i64 0, (.slice Z2 (List.replicate l0.length (0 : Int)).length cz2)])]) (l := []) (by kernel_rfl) trivial ?_
      refine ge_new (d := some 6) (o := .cells #[.int .i64 0, .slice none 0 0] 70) (v := fun b => .pointer (some ⟨b, 0, none⟩)) hS13 (fun b => by kernel_rfl) fun b5 w9 hx5 hS14 => ?_
      refine ge_set (b := b5) (j := 0) (cs := #[.int .i64 0, .slice none 0 0]) (t := 70) (vs := [.int .i64 0, (.slice Z2 (List.replicate l0.length (0 : Int)).length cz2)]) hS14 (by kernel_rfl) rfl rfl fun w10 hS15 => ?_
      have hS16 : St w0 w10 [Own.blk b5 (.cells #[.int .i64 0, (.slice Z2 (List.replicate l0.length (0 : Int)).length cz2)] 70 (0, 0)), Own.of (.slice Z2 (List.replicate l0.length (0 : Int)).length cz2) 3 (List.replicate l0.length (0 : Int)), Own.blk b4 (.cells #[.int .i64 r1.2.Code, .int .i64 r1.2.At] 40 (0, 0)), Own.blk b3 (.cells #[(.slice Z1 r1.1.In.length cz1), .map m1] 115 (0, 0)), Own.of (.slice Z1 r1.1.In.length cz1) 3 r1.1.In, Own.mapv (κ := Int) (ν := Int) m1 r1.1.Close, Own.blk b2 (.cells #[.int .i64 0, .int .i64 0] 40 (0, 0)), Own.blk b1 (.cells #[.int .i64 0, .slice none 0 0] 70 (0, 0))] := hS15
      refine ge_nil fun a hF => hK5 _ _ ?_ a hF
      refine we_seq fun K6 hK6 => ?_
      refine we_seq fun K7 hK7 => ?_
      refine we_region [(0, 0), (1, 0), (2, 0), (3, 0)] rfl ?_
      refine ge_batch [0, 1, 2, 3] (ans := []) (vs := [(7, .int .i64 (IntKind.i64.wrap ((l0.length : Int) - 1))), (24, .int .i64 (IntKind.i64.wrap ((l0.length : Int) - 1))), (23, .int .i64 (l0.length : Int)), (22, .slice A0 l0.length c0)]) (l := []) (by kernel_rfl) trivial ?_
      refine ge_nil fun a hF => hK7 _ _ ?_ a hF
      refine we_block ?_
      have hS17 := hS16.bring 5 rfl
      have hS18 := hS17.bring 5 rfl
      have hS19 := hS18.bring 3 rfl
      have hS20 := hS19.bring 7 rfl
      have hS21 := hS20.bring 7 rfl
      have hS22 := hS21.bring 7 rfl
      have hS23 := hS22.bring 6 rfl
      have hS24 := hS23.takeN 7
      rcases hq3 : iter (wcet_Analyse.r0 l0 r1) K (IntKind.i64.wrap ((l0.length : Int) - 1), (List.replicate l0.length (0 : Int))) with _ | (m4 | rr1)
      · rw [hq3] at h; cases h
      · rw [hq3] at h
        simp only [] at h
        refine we_iter (A := wcet_Analyse.A0 K w0 l0 A0 c0 hR0 hL0 b1 b2 r1 m1 b3 b4 Z1 cz1 hc1 hc2 Z2 cz2 b5) (B := wcet_Analyse.B0 K w0 l0 A0 c0 hR0 hL0 b1 b2 r1 m1 b3 b4 Z1 cz1 hc1 hc2 Z2 cz2 b5) hq3 (fun a hF => ⟨hS24, hF.weaken ⟨by kernel_rfl, by kernel_rfl, by kernel_rfl, by kernel_rfl, by kernel_rfl, by kernel_rfl, trivial⟩⟩) (fun s o hf a w hA Q hQ => wcet_Analyse_r0 K w0 l0 A0 c0 hR0 hL0 b1 b2 r1 m1 b3 b4 Z1 cz1 hc1 hc2 Z2 cz2 b5 s o hf a w hA Q hQ) ?_
        rintro _ a w16 _ ⟨rfl, hS55, hF⟩
        replace hS55 : St w0 w16 [Own.blk b5 (.cells #[.int .i64 0, (.slice Z2 m4.length cz2)] 70 (0, 0)), Own.blk b2 (.cells #[.int .i64 0, .int .i64 0] 40 (0, 0)), Own.blk b1 (.cells #[.int .i64 0, .slice none 0 0] 70 (0, 0)), Own.of (.slice Z2 m4.length cz2) 3 m4] := hS55
        refine hK6 [(2, .pointer (some ⟨b1, 0, none⟩)), (3, .pointer (some ⟨b2, 0, none⟩)), (6, .pointer (some ⟨b5, 0, none⟩))] w16 ?_ a hF
        refine we_seq fun K14 hK14 => ?_
        refine we_region [(0, 0), (1, 0), (2, 1), (3, 1), (4, 0), (5, 2)] rfl ?_
        refine ge_batch [0, 1] (ans := [.val ((.slice Z2 m4.length cz2))]) (vs := [(50, (.slice Z2 m4.length cz2)), (49, .pointer (some ⟨b5, 1, none⟩))]) (l := [.loaded ⟨b5, 1, none⟩ ((.slice Z2 m4.length cz2))]) (by kernel_rfl) ⟨hS55.cell 0 rfl rfl, trivial⟩ ?_
        refine ge_call (d := some 51) (f := 64) (args := #[(.slice Z2 m4.length cz2)]) (by kernel_rfl) (wcet_at_ok m4 Z2 cz2 _ (hS55.rdAt 3 rfl) (hS55.capAt 3 rfl)) ?_
        rintro _ w17 ⟨b7, rfl, hS56⟩
        refine ⟨_, rfl, hS56.below, ?_⟩
        have hS57 := hS55.call hS56
        rcases hq4 : wcet_at_1.f 0 m4 with _ | r3
        · rw [hq4] at h; cases h
        rw [hq4] at h
        simp only [] at h
        refine ge_call (d := some 52) (f := 87) (args := #[.int .i64 0, .pointer (some ⟨b7, 0, none⟩)]) (by kernel_rfl) (wcet_at_1_ok 0 b7 m4 Z2 cz2 _ (hS57.rdAt 4 rfl) (hS57.capAt 4 rfl) (hS57.globOf 0 rfl) _ hq4) ?_
        rintro _ w18 ⟨rfl, hS58⟩
        refine ⟨_, rfl, hS58.below, ?_⟩
        have hS59 := hS57.call hS58
        refine ge_batch [4] (ans := []) (vs := [(53, .pointer (some ⟨b5, 0, none⟩))]) (l := []) (by kernel_rfl) trivial ?_
        have hS60 := hS59.bring 1 rfl
        refine ge_set (b := b5) (j := 0) (cs := #[.int .i64 0, (.slice Z2 m4.length cz2)]) (t := 70) (vs := [.int .i64 r3]) hS60 (by kernel_rfl) rfl rfl fun w19 hS61 => ?_
        have hS62 : St w0 w19 [Own.blk b5 (.cells #[.int .i64 r3, (.slice Z2 m4.length cz2)] 70 (0, 0)), Own.blk b7 (.cells #[(.slice Z2 m4.length cz2)] 24 (0, 0)), Own.blk b2 (.cells #[.int .i64 0, .int .i64 0] 40 (0, 0)), Own.blk b1 (.cells #[.int .i64 0, .slice none 0 0] 70 (0, 0)), Own.of (.slice Z2 m4.length cz2) 3 m4] := hS61
        refine ge_nil fun a hF => hK14 _ _ ?_ a hF
        refine we_seq fun K15 hK15 => ?_
        refine we_region [(0, 0), (1, 0), (2, 2), (3, 2)] rfl ?_
        refine ge_batch [0, 1] (ans := [.val (.int .i64 r3), .val ((.slice Z2 m4.length cz2))]) (vs := [(55, .agg #[.int .i64 0, .int .i64 0]), (54, .agg #[.int .i64 r3, (.slice Z2 m4.length cz2)])]) (l := [.loaded ⟨b5, 0, none⟩ (.int .i64 r3), .loaded ⟨b5, 1, none⟩ ((.slice Z2 m4.length cz2))]) (by kernel_rfl) ⟨hS62.cell 0 rfl rfl, hS62.cell 0 rfl rfl, trivial⟩ ?_
        have hS63 := hS62.bring 3 rfl
        refine ge_set (b := b1) (j := 0) (cs := #[.int .i64 0, .slice none 0 0]) (t := 70) (vs := [.int .i64 r3, (.slice Z2 m4.length cz2)]) hS63 (by kernel_rfl) rfl rfl fun w20 hS64 => ?_
        have hS65 : St w0 w20 [Own.blk b1 (.cells #[.int .i64 r3, (.slice Z2 m4.length cz2)] 70 (0, 0)), Own.blk b5 (.cells #[.int .i64 r3, (.slice Z2 m4.length cz2)] 70 (0, 0)), Own.blk b7 (.cells #[(.slice Z2 m4.length cz2)] 24 (0, 0)), Own.blk b2 (.cells #[.int .i64 0, .int .i64 0] 40 (0, 0)), Own.of (.slice Z2 m4.length cz2) 3 m4] := hS64
        have hS66 := hS65.bring 3 rfl
        refine ge_set (b := b2) (j := 0) (cs := #[.int .i64 0, .int .i64 0]) (t := 40) (vs := [.int .i64 0, .int .i64 0]) hS66 (by kernel_rfl) rfl rfl fun w21 hS67 => ?_
        have hS68 : St w0 w21 [Own.blk b2 (.cells #[.int .i64 0, .int .i64 0] 40 (0, 0)), Own.blk b1 (.cells #[.int .i64 r3, (.slice Z2 m4.length cz2)] 70 (0, 0)), Own.blk b5 (.cells #[.int .i64 r3, (.slice Z2 m4.length cz2)] 70 (0, 0)), Own.blk b7 (.cells #[(.slice Z2 m4.length cz2)] 24 (0, 0)), Own.of (.slice Z2 m4.length cz2) 3 m4] := hS67
        refine ge_nil fun a hF => hK15 _ _ ?_ a hF
        have hS69 := hS68.bring 4 rfl
        have hS70 := hS69.takeN 1
        obtain rfl := Option.some.inj h
        exact we_ret (post_ret (rs := [.cell 2 70, .cell 3 40]) (ans := [.val (.int .i64 r3), .val ((.slice Z2 m4.length cz2)), .val (.int .i64 0), .val (.int .i64 0)]) (vs := [.agg #[.int .i64 r3, (.slice Z2 m4.length cz2)], .agg #[.int .i64 0, .int .i64 0]]) (l := [.loaded ⟨b1, 0, none⟩ (.int .i64 r3), .loaded ⟨b1, 1, none⟩ ((.slice Z2 m4.length cz2)), .loaded ⟨b2, 0, none⟩ (.int .i64 0), .loaded ⟨b2, 1, none⟩ (.int .i64 0)]) rfl (by kernel_rfl) ⟨hS68.cell 1 rfl rfl, hS68.cell 1 rfl rfl, hS68.cell 0 rfl rfl, hS68.cell 0 rfl rfl, trivial⟩ ⟨(.slice Z2 m4.length cz2), rfl, hS70⟩)
      · rw [hq3] at h
        simp only [] at h
        refine we_iter (A := wcet_Analyse.A0 K w0 l0 A0 c0 hR0 hL0 b1 b2 r1 m1 b3 b4 Z1 cz1 hc1 hc2 Z2 cz2 b5) (B := wcet_Analyse.B0 K w0 l0 A0 c0 hR0 hL0 b1 b2 r1 m1 b3 b4 Z1 cz1 hc1 hc2 Z2 cz2 b5) hq3 (fun a hF => ⟨hS24, hF.weaken ⟨by kernel_rfl, by kernel_rfl, by kernel_rfl, by kernel_rfl, by kernel_rfl, by kernel_rfl, trivial⟩⟩) (fun s o hf a w hA Q hQ => wcet_Analyse_r0 K w0 l0 A0 c0 hR0 hL0 b1 b2 r1 m1 b3 b4 Z1 cz1 hc1 hc2 Z2 cz2 b5 s o hf a w hA Q hQ) ?_
        rintro _ a w1 _ ⟨rfl, hb⟩
        obtain rfl := Option.some.inj h
        exact hb
    · rw [if_neg hc2] at h
      cases h
  · rw [if_neg hc1] at h
    refine we_known (t := 15) (b := (r1.2.Code != 0)) (v := true) (by kernel_rfl) (bne_iff_ne.2 hc1) ?_
    refine we_true (by kernel_rfl) ?_
    refine we_seq fun K16 hK16 => ?_
    rcases hq5 : wcet_Analyse.p1 r1 with _ | (⟨z5, z6, z7, m6⟩ | rr2)
    · rw [hq5] at h; cases h
    · rw [hq5] at h
      simp only [] at h
      refine we_keep (e' := [(0, .slice A0 l0.length c0), (2, .pointer (some ⟨b1, 0, none⟩)), (3, .pointer (some ⟨b2, 0, none⟩)), (4, .pointer (some ⟨b3, 0, none⟩)), (5, .pointer (some ⟨b4, 0, none⟩)), (8, .tuple #[.agg #[(.slice Z1 r1.1.In.length cz1), .map m1], .agg #[.int .i64 r1.2.Code, .int .i64 r1.2.At]]), (9, .slice A0 l0.length c0), (10, .tuple #[.agg #[(.slice Z1 r1.1.In.length cz1), .map m1], .agg #[.int .i64 r1.2.Code, .int .i64 r1.2.At]]), (11, .agg #[(.slice Z1 r1.1.In.length cz1), .map m1]), (12, .agg #[.int .i64 r1.2.Code, .int .i64 r1.2.At]), (13, .pointer (some ⟨b4, 0, none⟩)), (14, .int .i64 r1.2.Code), (15, .bool true)]) ⟨by kernel_rfl, by kernel_rfl, by kernel_rfl, by kernel_rfl, by kernel_rfl, by kernel_rfl, by kernel_rfl, by kernel_rfl, by kernel_rfl, by kernel_rfl, by kernel_rfl, by kernel_rfl, by kernel_rfl, trivial⟩ (wcet_Analyse_p1 K w0 l0 A0 c0 hR0 hL0 b1 b2 r1 m1 b3 b4 Z1 cz1 hc1 _ hq5 _ hS12 _ ?_)
      rintro _ a w24 ⟨rfl, v4, hS82, hF⟩
      replace hS82 : St w0 w24 [Own.blk b2 (.cells #[.int .i64 z5, .int .i64 z6] 40 (0, 0)), Own.blk b1 (.cells #[.int .i64 z7, v4] 70 (0, 0)), Own.of v4 3 m6] := hS82
      refine hK16 [(2, .pointer (some ⟨b1, 0, none⟩)), (3, .pointer (some ⟨b2, 0, none⟩))] w24 ?_ a hF
      have hS83 := hS82.bring 2 rfl
      have hS84 := hS83.takeN 1
      obtain rfl := Option.some.inj h
      exact we_ret (post_ret (rs := [.cell 2 70, .cell 3 40]) (ans := [.val (.int .i64 z7), .val (v4), .val (.int .i64 z5), .val (.int .i64 z6)]) (vs := [.agg #[.int .i64 z7, v4], .agg #[.int .i64 z5, .int .i64 z6]]) (l := [.loaded ⟨b1, 0, none⟩ (.int .i64 z7), .loaded ⟨b1, 1, none⟩ (v4), .loaded ⟨b2, 0, none⟩ (.int .i64 z5), .loaded ⟨b2, 1, none⟩ (.int .i64 z6)]) rfl (by kernel_rfl) ⟨hS82.cell 1 rfl rfl, hS82.cell 1 rfl rfl, hS82.cell 0 rfl rfl, hS82.cell 0 rfl rfl, trivial⟩ ⟨v4, rfl, hS84⟩)
    · rw [hq5] at h
      simp only [] at h
      refine we_keep (e' := [(0, .slice A0 l0.length c0), (2, .pointer (some ⟨b1, 0, none⟩)), (3, .pointer (some ⟨b2, 0, none⟩)), (4, .pointer (some ⟨b3, 0, none⟩)), (5, .pointer (some ⟨b4, 0, none⟩)), (8, .tuple #[.agg #[(.slice Z1 r1.1.In.length cz1), .map m1], .agg #[.int .i64 r1.2.Code, .int .i64 r1.2.At]]), (9, .slice A0 l0.length c0), (10, .tuple #[.agg #[(.slice Z1 r1.1.In.length cz1), .map m1], .agg #[.int .i64 r1.2.Code, .int .i64 r1.2.At]]), (11, .agg #[(.slice Z1 r1.1.In.length cz1), .map m1]), (12, .agg #[.int .i64 r1.2.Code, .int .i64 r1.2.At]), (13, .pointer (some ⟨b4, 0, none⟩)), (14, .int .i64 r1.2.Code), (15, .bool true)]) ⟨by kernel_rfl, by kernel_rfl, by kernel_rfl, by kernel_rfl, by kernel_rfl, by kernel_rfl, by kernel_rfl, by kernel_rfl, by kernel_rfl, by kernel_rfl, by kernel_rfl, by kernel_rfl, by kernel_rfl, trivial⟩ (wcet_Analyse_p1 K w0 l0 A0 c0 hR0 hL0 b1 b2 r1 m1 b3 b4 Z1 cz1 hc1 _ hq5 _ hS12 _ ?_)
      rintro _ a w1 ⟨_, rfl, hb⟩
      obtain rfl := Option.some.inj h
      exact hb

/-! punctual/wcet.Proves -/
abbrev wcet_Proves.Post (w0 : World) (r : Bool) (e : Ending) (w : World) : Prop := e = .returned (.bool r) ∧ St w0 w []
def wcet_Proves.p0 (l0 : List SIns) (l1_1 : List Int) (r1 : SShape × SFault) : Option (Unit ⊕ Bool) :=
    if r1.2.Code = 0 then
      if (l1_1.length : Int) = (l0.length : Int) then
        some (.inl ())
      else
        some (.inr false)
    else
      some (.inr false)
def wcet_Proves.r1 (l1_1 : List Int) : Nat → Option (Nat ⊕ (Unit ⊕ Bool))
  | i1 =>
    if (i1 : Int) < (l1_1.length : Int) then
      match l1_1[i1]? with
      | none => none
      | some e1 =>
        if e1 < 0 then
          some (.inr (.inr false))
        else
          if e1 > 1099511627776 then
            some (.inr (.inr false))
          else
            some (.inl (i1 + 1))
    else
      some (.inr (.inl ()))
def wcet_Proves.r2 (l0 : List SIns) (l1_1 : List Int) (r1 : SShape × SFault) : Nat → Option (Nat ⊕ (Unit ⊕ Bool))
  | i2 =>
    if (i2 : Int) < (l0.length : Int) then
      match l1_1[i2]? with
      | none => none
      | some e2 =>
        match wcet_need.f l0 r1.1.In r1.1.Close l1_1 (i2 : Int) with
        | none => none
        | some r2 =>
          if e2 < r2 then
            some (.inr (.inr false))
          else
            some (.inl (i2 + 1))
    else
      some (.inr (.inl ()))
def wcet_Proves.f (K : Nat) (l0 : List SIns) (x1_0 : Int) (l1_1 : List Int) : Option Bool :=
  match mach_Look.f K l0 with
  | none => none
  | some r1 =>
    match wcet_Proves.p0 l0 l1_1 r1 with
    | none => none
    | some (.inl _) =>
      match iter (wcet_Proves.r1 l1_1) K 0 with
      | none => none
      | some (.inl _) =>
        match iter (wcet_Proves.r2 l0 l1_1 r1) K 0 with
        | none => none
        | some (.inl _) =>
          match wcet_at_1.f 0 l1_1 with
          | none => none
          | some r3 =>
            some (decide (x1_0 ≥ r3))
        | some (.inr rr1) =>
          some rr1
      | some (.inr rr2) =>
        some rr2
    | some (.inr rr3) =>
      some rr3
abbrev wcet_Proves.A0 (K : Nat) (w0 : World) (l0 : List SIns) (A0 : Option Addr) (c0 : Nat) (x1_0 : Int) (l1_1 : List Int) (A1_1 : Option Addr) (c1_1 : Nat) (hR0 : RdL w0 A0 l0) (hL0 : l0.length ≤ c0) (hR1_1 : RdL w0 A1_1 l1_1) (hL1_1 : l1_1.length ≤ c1_1) (b1 : Nat) (r1 : SShape × SFault) (m1 : Option Nat) (b2 : Nat) (b3 : Nat) (Z1 : Option Addr) (cz1 : Nat) : Unit → Act → World → Prop := fun (s : Unit) a w => St w0 w [Own.blk b2 (.cells #[(.slice Z1 r1.1.In.length cz1), .map m1] 115 (0, 0)), Own.blk b1 (.cells #[.int .i64 x1_0, .slice A1_1 l1_1.length c1_1] 70 (0, 0)), Own.of (.slice Z1 r1.1.In.length cz1) 3 r1.1.In, Own.mapv (κ := Int) (ν := Int) m1 r1.1.Close] ∧ Frm 66 a [(0, .slice A0 l0.length c0), (3, .pointer (some ⟨b1, 0, none⟩)), (5, .pointer (some ⟨b2, 0, none⟩))]
abbrev wcet_Proves.B0 (K : Nat) (w0 : World) (l0 : List SIns) (A0 : Option Addr) (c0 : Nat) (x1_0 : Int) (l1_1 : List Int) (A1_1 : Option Addr) (c1_1 : Nat) (hR0 : RdL w0 A0 l0) (hL0 : l0.length ≤ c0) (hR1_1 : RdL w0 A1_1 l1_1) (hL1_1 : l1_1.length ≤ c1_1) (b1 : Nat) (r1 : SShape × SFault) (m1 : Option Nat) (b2 : Nat) (b3 : Nat) (Z1 : Option Addr) (cz1 : Nat) : Bool → Exit → Act → World → Prop := Rets Try.prog Try.f38 (wcet_Proves.Post w0)
theorem wcet_Proves_p0 (K : Nat) (w0 : World) (l0 : List SIns) (A0 : Option Addr) (c0 : Nat) (x1_0 : Int) (l1_1 : List Int) (A1_1 : Option Addr) (c1_1 : Nat) (hR0 : RdL w0 A0 l0) (hL0 : l0.length ≤ c0) (hR1_1 : RdL w0 A1_1 l1_1) (hL1_1 : l1_1.length ≤ c1_1) (b1 : Nat) (r1 : SShape × SFault) (m1 : Option Nat) (b2 : Nat) (b3 : Nat) (Z1 : Option Addr) (cz1 : Nat) (o : Unit ⊕ Bool) (h : wcet_Proves.p0 l0 l1_1 r1 = some o) (w : World) (hS : St w0 w [Own.blk b3 (.cells #[.int .i64 r1.2.Code, .int .i64 r1.2.At] 40 (0, 0)), Own.blk b2 (.cells #[(.slice Z1 r1.1.In.length cz1), .map m1] 115 (0, 0)), Own.of (.slice Z1 r1.1.In.length cz1) 3 r1.1.In, Own.mapv (κ := Int) (ν := Int) m1 r1.1.Close, Own.blk b1 (.cells #[.int .i64 x1_0, .slice A1_1 l1_1.length c1_1] 70 (0, 0))]) (Q : Exit → Act → World → Prop) (hQ : ∀ x a w, Outs (wcet_Proves.A0 K w0 l0 A0 c0 x1_0 l1_1 A1_1 c1_1 hR0 hL0 hR1_1 hL1_1 b1 r1 m1 b2 b3 Z1 cz1) (wcet_Proves.B0 K w0 l0 A0 c0 x1_0 l1_1 A1_1 c1_1 hR0 hL0 hR1_1 hL1_1 b1 r1 m1 b2 b3 Z1 cz1) o x a w → Q x a w) : WE Try.prog 66 (subF Try.f38 [1, 1, 0]) Q [(0, .slice A0 l0.length c0), (1, .agg #[.int .i64 x1_0, .slice A1_1 l1_1.length c1_1]), (3, .pointer (some ⟨b1, 0, none⟩)), (4, .bool false), (5, .pointer (some ⟨b2, 0, none⟩)), (6, .pointer (some ⟨b3, 0, none⟩)), (10, .tuple #[.agg #[(.slice Z1 r1.1.In.length cz1), .map m1], .agg #[.int .i64 r1.2.Code, .int .i64 r1.2.At]]), (11, .slice A0 l0.length c0), (12, .tuple #[.agg #[(.slice Z1 r1.1.In.length cz1), .map m1], .agg #[.int .i64 r1.2.Code, .int .i64 r1.2.At]]), (13, .agg #[(.slice Z1 r1.1.In.length cz1), .map m1]), (14, .agg #[.int .i64 r1.2.Code, .int .i64 r1.2.At])] w := by
  simp only [wcet_Proves.p0] at h
  refine we_seq fun K4 hK4 => ?_
  refine we_region [(0, 0), (1, 0), (2, 0), (3, 0), (4, 0), (5, 0), (6, 0), (7, 0), (8, 0), (9, 0), (10, 0)] rfl ?_
  refine ge_batch [0, 1, 2, 3] (ans := [.val (.int .i64 r1.2.Code)]) (vs := [(18, .bool (r1.2.Code != 0)), (17, .bool (r1.2.Code != 0)), (16, .int .i64 r1.2.Code), (15, .pointer (some ⟨b3, 0, none⟩))]) (l := [.loaded ⟨b3, 0, none⟩ (.int .i64 r1.2.Code)]) (by kernel_rfl) ⟨hS.cell 0 rfl rfl, trivial⟩ ?_
  by_cases hc1 : r1.2.Code = 0
  · rw [if_pos hc1] at h
    refine ge_known (t := 18) (b := (r1.2.Code != 0)) (c := false) (by kernel_rfl) (bne_eq_false_iff_eq.2 hc1) ?_
    refine ge_batch [4, 5, 6, 7, 8, 9, 10] (ans := [.val (.slice A1_1 l1_1.length c1_1)]) (vs := [(25, .bool ((l1_1.length : Int) != (l0.length : Int))), (24, .bool ((l1_1.length : Int) != (l0.length : Int))), (23, .int .i64 (l0.length : Int)), (22, .slice A0 l0.length c0), (21, .int .i64 (l1_1.length : Int)), (20, .slice A1_1 l1_1.length c1_1), (19, .pointer (some ⟨b1, 1, none⟩))]) (l := [.loaded ⟨b1, 1, none⟩ (.slice A1_1 l1_1.length c1_1)]) (by kernel_rfl) ⟨hS.cell 4 rfl rfl, trivial⟩ ?_
    refine ge_nil fun a hF => hK4 _ _ ?_ a hF
    by_cases hc2 : (l1_1.length : Int) = (l0.length : Int)
    · rw [if_pos hc2] at h
      refine we_known (t := 25) (b := ((l1_1.length : Int) != (l0.length : Int))) (v := false) (by kernel_rfl) (bne_eq_false_iff_eq.2 hc2) ?_
      refine we_false (by kernel_rfl) ?_
      have hS12 := hS.bring 3 rfl
      have hS13 := hS12.bring 3 rfl
      have hS14 := hS13.bring 4 rfl
      have hS15 := hS14.bring 4 rfl
      have hS16 := hS15.takeN 4
      obtain rfl := Option.some.inj h
      exact we_skip fun a hF => hQ _ _ _ (Outs.again ⟨hS16, hF.weaken ⟨by kernel_rfl, by kernel_rfl, by kernel_rfl, trivial⟩⟩)
    · rw [if_neg hc2] at h
      refine we_known (t := 25) (b := ((l1_1.length : Int) != (l0.length : Int))) (v := true) (by kernel_rfl) (bne_iff_ne.2 hc2) ?_
      refine we_true (by kernel_rfl) ?_
      refine we_seq fun K5 hK5 => ?_
      refine we_region [(0, 0)] rfl ?_
      refine ge_batch [0] (ans := []) (vs := [(4, .bool false)]) (l := []) (by kernel_rfl) trivial ?_
      refine ge_nil fun a hF => hK5 _ _ ?_ a hF
      have hS17 := hS.takeN 0
      obtain rfl := Option.some.inj h
      exact we_ret fun a hF => hQ _ _ _ (Outs.out nofun ⟨rfl, (post_ret (rs := [.tmp 4]) (ans := []) (vs := [.bool false]) (l := []) rfl (by kernel_rfl) trivial ⟨rfl, hS17⟩) a hF⟩)
  · rw [if_neg hc1] at h
    refine ge_known (t := 18) (b := (r1.2.Code != 0)) (c := true) (by kernel_rfl) (bne_iff_ne.2 hc1) ?_
    refine ge_batch [4, 5, 6, 7, 8, 9, 10] (ans := []) (vs := [(25, .bool true), (24, undef), (23, undef), (22, undef), (21, undef), (20, undef), (19, undef)]) (l := []) (by kernel_rfl) trivial ?_
    refine ge_nil fun a hF => hK4 _ _ ?_ a hF
    refine we_true (by kernel_rfl) ?_
    refine we_seq fun K6 hK6 => ?_
    refine we_region [(0, 0)] rfl ?_
    refine ge_batch [0] (ans := []) (vs := [(4, .bool false)]) (l := []) (by kernel_rfl) trivial ?_
    refine ge_nil fun a hF => hK6 _ _ ?_ a hF
    have hS18 := hS.takeN 0
    obtain rfl := Option.some.inj h
    exact we_ret fun a hF => hQ _ _ _ (Outs.out nofun ⟨rfl, (post_ret (rs := [.tmp 4]) (ans := []) (vs := [.bool false]) (l := []) rfl (by kernel_rfl) trivial ⟨rfl, hS18⟩) a hF⟩)
abbrev wcet_Proves.A1 (K : Nat) (w0 : World) (l0 : List SIns) (A0 : Option Addr) (c0 : Nat) (x1_0 : Int) (l1_1 : List Int) (A1_1 : Option Addr) (c1_1 : Nat) (hR0 : RdL w0 A0 l0) (hL0 : l0.length ≤ c0) (hR1_1 : RdL w0 A1_1 l1_1) (hL1_1 : l1_1.length ≤ c1_1) (b1 : Nat) (r1 : SShape × SFault) (m1 : Option Nat) (b2 : Nat) (b3 : Nat) (Z1 : Option Addr) (cz1 : Nat) : Nat → Act → World → Prop := fun (s : Nat) a w => St w0 w [Own.blk b2 (.cells #[(.slice Z1 r1.1.In.length cz1), .map m1] 115 (0, 0)), Own.blk b1 (.cells #[.int .i64 x1_0, .slice A1_1 l1_1.length c1_1] 70 (0, 0)), Own.of (.slice Z1 r1.1.In.length cz1) 3 r1.1.In, Own.mapv (κ := Int) (ν := Int) m1 r1.1.Close] ∧ Frm 66 a [(0, .slice A0 l0.length c0), (3, .pointer (some ⟨b1, 0, none⟩)), (5, .pointer (some ⟨b2, 0, none⟩)), (27, .slice A1_1 l1_1.length c1_1), (28, .int .i64 (l1_1.length : Int)), (29, .int .i64 (s : Int))]
abbrev wcet_Proves.B1 (K : Nat) (w0 : World) (l0 : List SIns) (A0 : Option Addr) (c0 : Nat) (x1_0 : Int) (l1_1 : List Int) (A1_1 : Option Addr) (c1_1 : Nat) (hR0 : RdL w0 A0 l0) (hL0 : l0.length ≤ c0) (hR1_1 : RdL w0 A1_1 l1_1) (hL1_1 : l1_1.length ≤ c1_1) (b1 : Nat) (r1 : SShape × SFault) (m1 : Option Nat) (b2 : Nat) (b3 : Nat) (Z1 : Option Addr) (cz1 : Nat) : (Unit ⊕ Bool) → Exit → Act → World → Prop := Exits 0 (fun (s : Unit) a w => St w0 w [Own.blk b2 (.cells #[(.slice Z1 r1.1.In.length cz1), .map m1] 115 (0, 0)), Own.blk b1 (.cells #[.int .i64 x1_0, .slice A1_1 l1_1.length c1_1] 70 (0, 0)), Own.of (.slice Z1 r1.1.In.length cz1) 3 r1.1.In, Own.mapv (κ := Int) (ν := Int) m1 r1.1.Close] ∧ Frm 66 a [(0, .slice A0 l0.length c0), (3, .pointer (some ⟨b1, 0, none⟩)), (5, .pointer (some ⟨b2, 0, none⟩))]) (Rets Try.prog Try.f38 (wcet_Proves.Post w0))
theorem wcet_Proves_r1 (K : Nat) (w0 : World) (l0 : List SIns) (A0 : Option Addr) (c0 : Nat) (x1_0 : Int) (l1_1 : List Int) (A1_1 : Option Addr) (c1_1 : Nat) (hR0 : RdL w0 A0 l0) (hL0 : l0.length ≤ c0) (hR1_1 : RdL w0 A1_1 l1_1) (hL1_1 : l1_1.length ≤ c1_1) (b1 : Nat) (r1 : SShape × SFault) (m1 : Option Nat) (b2 : Nat) (b3 : Nat) (Z1 : Option Addr) (cz1 : Nat) (s : Nat) (o : Nat ⊕ (Unit ⊕ Bool)) (h : wcet_Proves.r1 l1_1 s = some o) (a : Act) (w : World) (hA : wcet_Proves.A1 K w0 l0 A0 c0 x1_0 l1_1 A1_1 c1_1 hR0 hL0 hR1_1 hL1_1 b1 r1 m1 b2 b3 Z1 cz1 s a w) (Q : Exit → Act → World → Prop) (hQ : ∀ x a w, Outs (wcet_Proves.A1 K w0 l0 A0 c0 x1_0 l1_1 A1_1 c1_1 hR0 hL0 hR1_1 hL1_1 b1 r1 m1 b2 b3 Z1 cz1) (wcet_Proves.B1 K w0 l0 A0 c0 x1_0 l1_1 A1_1 c1_1 hR0 hL0 hR1_1 hL1_1 b1 r1 m1 b2 b3 Z1 cz1) o x a w → Q x a w) : (subF Try.f38 [1, 1, 1, 0, 1, 0, 0]).wp Try.prog Q a w := by
  obtain ⟨i1, hs⟩ : ∃ z, z = s := ⟨s, rfl⟩
  subst hs
  obtain ⟨hS, hF⟩ := hA
  replace hS : St w0 w [Own.blk b2 (.cells #[(.slice Z1 r1.1.In.length cz1), .map m1] 115 (0, 0)), Own.blk b1 (.cells #[.int .i64 x1_0, .slice A1_1 l1_1.length c1_1] 70 (0, 0)), Own.of (.slice Z1 r1.1.In.length cz1) 3 r1.1.In, Own.mapv (κ := Int) (ν := Int) m1 r1.1.Close] := hS
  simp only [wcet_Proves.r1] at h
  refine (?_ : WE Try.prog 66 (subF Try.f38 [1, 1, 1, 0, 1, 0, 0]) Q [(0, .slice A0 l0.length c0), (3, .pointer (some ⟨b1, 0, none⟩)), (5, .pointer (some ⟨b2, 0, none⟩)), (27, .slice A1_1 l1_1.length c1_1), (28, .int .i64 (l1_1.length : Int)), (29, .int .i64 (i1 : Int))] w) a hF
  clear hF a
  refine we_seq fun K9 hK9 => ?_
  refine we_region [(0, 0)] rfl ?_
  refine ge_batch [0] (ans := []) (vs := [(30, .bool (decide ((i1 : Int) < (l1_1.length : Int))))]) (l := []) (by kernel_rfl) trivial ?_
  refine ge_nil fun a hF => hK9 _ _ ?_ a hF
  refine we_seq fun K10 hK10 => ?_
  by_cases hc3 : (i1 : Int) < (l1_1.length : Int)
  · rw [if_pos hc3] at h
    refine we_known (t := 30) (b := decide ((i1 : Int) < (l1_1.length : Int))) (v := true) (by kernel_rfl) (decide_eq_true hc3) ?_
    refine we_true (by kernel_rfl) ?_
    refine we_skip fun a hF => hK10 _ _ ?_ a hF
    refine we_seq fun K11 hK11 => ?_
    refine we_block ?_
    refine we_seq fun K12 hK12 => ?_
    refine we_region [(0, 0), (1, 0), (2, 0)] rfl ?_
    rcases hx4 : l1_1[i1]? with _ | e1
    · rw [hx4] at h; cases h
    rw [hx4] at h
    simp only [] at h
    refine ge_index (d := 31) (ty := 0) (t := 24) (el := 3) (sz := 1) (m := l1_1.length) (c := c1_1) (x := (.tmp 27)) (y := (.tmp 29)) (A := A1_1) (k' := .i64) (j := (i1 : Int)) (jn := i1) (b0 := blkOf A1_1) (o0 := offOf A1_1) (by kernel_rfl) (by kernel_rfl) (by kernel_rfl) (by kernel_rfl) (by kernel_rfl) ((hS.rd hR1_1).eqSome (pos_of_get hx4)) rfl (lt_of_get hx4) ?_
    refine ge_batch [1, 2] (ans := [.val (.int .i64 e1)]) (vs := [(8, .int .i64 e1), (32, .int .i64 e1)]) (l := [.loaded ⟨blkOf A1_1, offOf A1_1 + i1 * 1, none⟩ (.int .i64 e1)]) (by kernel_rfl) ⟨RdL.cell (j := 0) (hS.rd hR1_1) hx4 rfl, trivial⟩ ?_
    refine ge_nil fun a hF => hK12 _ _ ?_ a hF
    refine we_seq fun K13 hK13 => ?_
    refine we_region [(0, 0), (1, 0), (2, 0), (3, 0), (4, 0), (5, 0)] rfl ?_
    refine ge_batch [0, 1, 2] (ans := []) (vs := [(35, .bool (decide (e1 < 0))), (34, .bool (decide (e1 < 0))), (33, .int .i64 e1)]) (l := []) (by kernel_rfl) trivial ?_
    by_cases hc4 : e1 < 0
    · rw [if_pos hc4] at h
      refine ge_known (t := 35) (b := decide (e1 < 0)) (c := true) (by kernel_rfl) (decide_eq_true hc4) ?_
      refine ge_batch [3, 4, 5] (ans := []) (vs := [(38, .bool true), (37, undef), (36, undef)]) (l := []) (by kernel_rfl) trivial ?_
      refine ge_nil fun a hF => hK13 _ _ ?_ a hF
      refine we_true (by kernel_rfl) ?_
      refine we_seq fun K14 hK14 => ?_
      refine we_region [(0, 0)] rfl ?_
      refine ge_batch [0] (ans := []) (vs := [(4, .bool false)]) (l := []) (by kernel_rfl) trivial ?_
      refine ge_nil fun a hF => hK14 _ _ ?_ a hF
      have hS24 := hS.takeN 0
      obtain rfl := Option.some.inj h
      exact we_ret fun a hF => hQ _ _ _ (Outs.out nofun (Exits.on ⟨rfl, (post_ret (rs := [.tmp 4]) (ans := []) (vs := [.bool false]) (l := []) rfl (by kernel_rfl) trivial ⟨rfl, hS24⟩) a hF⟩))
    · rw [if_neg hc4] at h
      refine ge_known (t := 35) (b := decide (e1 < 0)) (c := false) (by kernel_rfl) (decide_eq_false hc4) ?_
      refine ge_batch [3, 4, 5] (ans := []) (vs := [(38, .bool (decide (e1 > 1099511627776))), (37, .bool (decide (e1 > 1099511627776))), (36, .int .i64 e1)]) (l := []) (by kernel_rfl) trivial ?_
      refine ge_nil fun a hF => hK13 _ _ ?_ a hF
      by_cases hc5 : e1 > 1099511627776
      · rw [if_pos hc5] at h
        refine we_known (t := 38) (b := decide (e1 > 1099511627776)) (v := true) (by kernel_rfl) (decide_eq_true hc5) ?_
        refine we_true (by kernel_rfl) ?_
        refine we_seq fun K15 hK15 => ?_
        refine we_region [(0, 0)] rfl ?_
        refine ge_batch [0] (ans := []) (vs := [(4, .bool false)]) (l := []) (by kernel_rfl) trivial ?_
        refine ge_nil fun a hF => hK15 _ _ ?_ a hF
        have hS25 := hS.takeN 0
        obtain rfl := Option.some.inj h
        exact we_ret fun a hF => hQ _ _ _ (Outs.out nofun (Exits.on ⟨rfl, (post_ret (rs := [.tmp 4]) (ans := []) (vs := [.bool false]) (l := []) rfl (by kernel_rfl) trivial ⟨rfl, hS25⟩) a hF⟩))
      · rw [if_neg hc5] at h
        refine we_known (t := 38) (b := decide (e1 > 1099511627776)) (v := false) (by kernel_rfl) (decide_eq_false hc5) ?_
        refine we_false (by kernel_rfl) ?_
        refine we_skip fun a hF => hK11 _ _ ?_ a hF
        refine we_region [(0, 0), (1, 0)] rfl ?_
        refine ge_addn (d := 39) (ty := 3) (x := (.tmp 29)) (y := (.const (.int .i64 1))) (t := 3) (t2 := 3) (k := .i64) (m := i1) (by kernel_rfl) (by kernel_rfl) (by kernel_rfl) (by have h0 := hR1_1.small; omega) ?_
        refine ge_batch [1] (ans := []) (vs := [(29, .int .i64 ((i1 + 1 : Nat) : Int))]) (l := []) (by kernel_rfl) trivial ?_
        have hS26 := hS.bring 3 rfl
        have hS27 := hS26.bring 3 rfl
        have hS28 := hS27.bring 3 rfl
        have hS29 := hS28.bring 3 rfl
        obtain rfl := Option.some.inj h
        exact ge_nil fun a hF => hQ _ _ _ (Outs.again ⟨hS29, hF.weaken ⟨by kernel_rfl, by kernel_rfl, by kernel_rfl, by kernel_rfl, by kernel_rfl, by kernel_rfl, trivial⟩⟩)
  · rw [if_neg hc3] at h
    refine we_known (t := 30) (b := decide ((i1 : Int) < (l1_1.length : Int))) (v := false) (by kernel_rfl) (decide_eq_false hc3) ?_
    refine we_false (by kernel_rfl) ?_
    have hS30 := hS.bring 3 rfl
    have hS31 := hS30.bring 3 rfl
    have hS32 := hS31.bring 3 rfl
    have hS33 := hS32.bring 3 rfl
    obtain rfl := Option.some.inj h
    exact we_exit fun a hF => hQ _ _ _ (Outs.out nofun (Exits.here ⟨hS33, hF.weaken ⟨by kernel_rfl, by kernel_rfl, by kernel_rfl, trivial⟩⟩))
abbrev wcet_Proves.A2 (K : Nat) (w0 : World) (l0 : List SIns) (A0 : Option Addr) (c0 : Nat) (x1_0 : Int) (l1_1 : List Int) (A1_1 : Option Addr) (c1_1 : Nat) (hR0 : RdL w0 A0 l0) (hL0 : l0.length ≤ c0) (hR1_1 : RdL w0 A1_1 l1_1) (hL1_1 : l1_1.length ≤ c1_1) (b1 : Nat) (r1 : SShape × SFault) (m1 : Option Nat) (b2 : Nat) (b3 : Nat) (Z1 : Option Addr) (cz1 : Nat) : Nat → Act → World → Prop := fun (s : Nat) a w => St w0 w [Own.blk b2 (.cells #[(.slice Z1 r1.1.In.length cz1), .map m1] 115 (0, 0)), Own.blk b1 (.cells #[.int .i64 x1_0, .slice A1_1 l1_1.length c1_1] 70 (0, 0)), Own.of (.slice Z1 r1.1.In.length cz1) 3 r1.1.In, Own.mapv (κ := Int) (ν := Int) m1 r1.1.Close] ∧ Frm 66 a [(0, .slice A0 l0.length c0), (3, .pointer (some ⟨b1, 0, none⟩)), (5, .pointer (some ⟨b2, 0, none⟩)), (41, .int .i64 (l0.length : Int)), (42, .int .i64 (s : Int))]
abbrev wcet_Proves.B2 (K : Nat) (w0 : World) (l0 : List SIns) (A0 : Option Addr) (c0 : Nat) (x1_0 : Int) (l1_1 : List Int) (A1_1 : Option Addr) (c1_1 : Nat) (hR0 : RdL w0 A0 l0) (hL0 : l0.length ≤ c0) (hR1_1 : RdL w0 A1_1 l1_1) (hL1_1 : l1_1.length ≤ c1_1) (b1 : Nat) (r1 : SShape × SFault) (m1 : Option Nat) (b2 : Nat) (b3 : Nat) (Z1 : Option Addr) (cz1 : Nat) : (Unit ⊕ Bool) → Exit → Act → World → Prop := Exits 2 (fun (s : Unit) a w => St w0 w [Own.blk b1 (.cells #[.int .i64 x1_0, .slice A1_1 l1_1.length c1_1] 70 (0, 0))] ∧ Frm 66 a [(3, .pointer (some ⟨b1, 0, none⟩))]) (Rets Try.prog Try.f38 (wcet_Proves.Post w0))
theorem wcet_Proves_r2 (K : Nat) (w0 : World) (l0 : List SIns) (A0 : Option Addr) (c0 : Nat) (x1_0 : Int) (l1_1 : List Int) (A1_1 : Option Addr) (c1_1 : Nat) (hR0 : RdL w0 A0 l0) (hL0 : l0.length ≤ c0) (hR1_1 : RdL w0 A1_1 l1_1) (hL1_1 : l1_1.length ≤ c1_1) (b1 : Nat) (r1 : SShape × SFault) (m1 : Option Nat) (b2 : Nat) (b3 : Nat) (Z1 : Option Addr) (cz1 : Nat) (s : Nat) (o : Nat ⊕ (Unit ⊕ Bool)) (h : wcet_Proves.r2 l0 l1_1 r1 s = some o) (a : Act) (w : World) (hA : wcet_Proves.A2 K w0 l0 A0 c0 x1_0 l1_1 A1_1 c1_1 hR0 hL0 hR1_1 hL1_1 b1 r1 m1 b2 b3 Z1 cz1 s a w) (Q : Exit → Act → World → Prop) (hQ : ∀ x a w, Outs (wcet_Proves.A2 K w0 l0 A0 c0 x1_0 l1_1 A1_1 c1_1 hR0 hL0 hR1_1 hL1_1 b1 r1 m1 b2 b3 Z1 cz1) (wcet_Proves.B2 K w0 l0 A0 c0 x1_0 l1_1 A1_1 c1_1 hR0 hL0 hR1_1 hL1_1 b1 r1 m1 b2 b3 Z1 cz1) o x a w → Q x a w) : (subF Try.f38 [1, 1, 1, 1, 0, 1, 0, 0]).wp Try.prog Q a w := by
  obtain ⟨i2, hs⟩ : ∃ z, z = s := ⟨s, rfl⟩
  subst hs
  obtain ⟨hS, hF⟩ := hA
  replace hS : St w0 w [Own.blk b2 (.cells #[(.slice Z1 r1.1.In.length cz1), .map m1] 115 (0, 0)), Own.blk b1 (.cells #[.int .i64 x1_0, .slice A1_1 l1_1.length c1_1] 70 (0, 0)), Own.of (.slice Z1 r1.1.In.length cz1) 3 r1.1.In, Own.mapv (κ := Int) (ν := Int) m1 r1.1.Close] := hS
  simp only [wcet_Proves.r2] at h
  refine (?_ : WE Try.prog 66 (subF Try.f38 [1, 1, 1, 1, 0, 1, 0, 0]) Q [(0, .slice A0 l0.length c0), (3, .pointer (some ⟨b1, 0, none⟩)), (5, .pointer (some ⟨b2, 0, none⟩)), (41, .int .i64 (l0.length : Int)), (42, .int .i64 (i2 : Int))] w) a hF
  clear hF a
  refine we_seq fun K18 hK18 => ?_
  refine we_region [(0, 0)] rfl ?_
  refine ge_batch [0] (ans := []) (vs := [(43, .bool (decide ((i2 : Int) < (l0.length : Int))))]) (l := []) (by kernel_rfl) trivial ?_
  refine ge_nil fun a hF => hK18 _ _ ?_ a hF
  refine we_seq fun K19 hK19 => ?_
  by_cases hc6 : (i2 : Int) < (l0.length : Int)
  · rw [if_pos hc6] at h
    refine we_known (t := 43) (b := decide ((i2 : Int) < (l0.length : Int))) (v := true) (by kernel_rfl) (decide_eq_true hc6) ?_
    refine we_true (by kernel_rfl) ?_
    refine we_skip fun a hF => hK19 _ _ ?_ a hF
    refine we_seq fun K20 hK20 => ?_
    refine we_block ?_
    refine we_seq fun K21 hK21 => ?_
    refine we_region [(0, 0), (1, 0)] rfl ?_
    refine ge_batch [0, 1] (ans := []) (vs := [(9, .int .i64 (i2 : Int)), (44, .int .i64 (i2 : Int))]) (l := []) (by kernel_rfl) trivial ?_
    refine ge_nil fun a hF => hK21 _ _ ?_ a hF
    refine we_seq fun K22 hK22 => ?_
    refine we_draws (by kernel_rfl) [(0, 0), (1, 0), (2, 0), (3, 0), (4, 0), (5, 0), (6, 0), (7, 0), (8, 0), (10, 0), (9, 1), (11, 1), (12, 0)] (by kernel_rfl) ?_
    have hS39 := hS.drew
    refine ge_batch [0, 1, 2] (ans := [.val (.slice A1_1 l1_1.length c1_1)]) (vs := [(47, .int .i64 (i2 : Int)), (46, .slice A1_1 l1_1.length c1_1), (45, .pointer (some ⟨b1, 1, none⟩))]) (l := [.loaded ⟨b1, 1, none⟩ (.slice A1_1 l1_1.length c1_1)]) (by kernel_rfl) ⟨hS39.cell 1 rfl rfl, trivial⟩ ?_
    rcases hx5 : l1_1[i2]? with _ | e2
    · rw [hx5] at h; cases h
    rw [hx5] at h
    simp only [] at h
    refine ge_index (d := 48) (ty := 0) (t := 24) (el := 3) (sz := 1) (m := l1_1.length) (c := c1_1) (x := (.tmp 46)) (y := (.tmp 47)) (A := A1_1) (k' := .i64) (j := (i2 : Int)) (jn := i2) (b0 := blkOf A1_1) (o0 := offOf A1_1) (by kernel_rfl) (by kernel_rfl) (by kernel_rfl) (by kernel_rfl) (by kernel_rfl) ((hS39.rd hR1_1).eqSome (pos_of_get hx5)) rfl (lt_of_get hx5) ?_
    refine ge_batch [4, 5, 6, 7, 8, 10] (ans := [.val (.int .i64 e2), .val ((.slice Z1 r1.1.In.length cz1)), .val (.map m1), .val (.slice A1_1 l1_1.length c1_1)]) (vs := [(55, .int .i64 (i2 : Int)), (53, .slice A1_1 l1_1.length c1_1), (52, .pointer (some ⟨b1, 1, none⟩)), (51, .agg #[(.slice Z1 r1.1.In.length cz1), .map m1]), (50, .slice A0 l0.length c0), (49, .int .i64 e2)]) (l := [.loaded ⟨blkOf A1_1, offOf A1_1 + i2 * 1, none⟩ (.int .i64 e2), .loaded ⟨b2, 0, none⟩ ((.slice Z1 r1.1.In.length cz1)), .loaded ⟨b2, 1, none⟩ (.map m1), .loaded ⟨b1, 1, none⟩ (.slice A1_1 l1_1.length c1_1)]) (by kernel_rfl) ⟨RdL.cell (j := 0) (hS39.rd hR1_1) hx5 rfl, hS39.cell 0 rfl rfl, hS39.cell 0 rfl rfl, hS39.cell 1 rfl rfl, trivial⟩ ?_
    refine ge_call (d := some 54) (f := 64) (args := #[.slice A1_1 l1_1.length c1_1]) (by kernel_rfl) (wcet_at_ok l1_1 A1_1 c1_1 _ (hS39.rd hR1_1) hL1_1) ?_
    rintro _ w9 ⟨b4, rfl, hS40⟩
    refine ⟨_, rfl, hS40.below, ?_⟩
    have hS41 := hS39.call hS40
    rcases hq4 : wcet_need.f l0 r1.1.In r1.1.Close l1_1 (i2 : Int) with _ | r2
    · rw [hq4] at h; cases h
    rw [hq4] at h
    simp only [] at h
    refine ge_call (d := some 56) (f := 63) (args := #[.slice A0 l0.length c0, .agg #[(.slice Z1 r1.1.In.length cz1), .map m1], .func (.func 87) #[] #[.pointer (some ⟨b4, 0, none⟩)], .int .i64 (i2 : Int)]) (by kernel_rfl) (wcet_need_ok l0 A0 c0 r1.1.In Z1 cz1 r1.1.Close m1 b4 l1_1 A1_1 c1_1 (i2 : Int) _ (hS41.rd hR0) hL0 (hS41.rdAt 3 rfl) (hS41.capAt 3 rfl) (hS41.rdMapvAt 4 rfl) (hS41.rd hR1_1) hL1_1 (hS41.globOf 0 rfl) _ hq4) ?_
    rintro _ w10 ⟨rfl, hS42⟩
    refine ⟨_, rfl, hS42.below, ?_⟩
    have hS43 := hS41.call hS42
    refine ge_batch [12] (ans := []) (vs := [(57, .bool (decide (e2 < r2)))]) (l := []) (by kernel_rfl) trivial ?_
    refine ge_nil fun a hF => hK22 _ _ ?_ a hF
    by_cases hc7 : e2 < r2
    · rw [if_pos hc7] at h
      refine we_known (t := 57) (b := decide (e2 < r2)) (v := true) (by kernel_rfl) (decide_eq_true hc7) ?_
      refine we_true (by kernel_rfl) ?_
      refine we_seq fun K23 hK23 => ?_
      refine we_region [(0, 0)] rfl ?_
      refine ge_batch [0] (ans := []) (vs := [(4, .bool false)]) (l := []) (by kernel_rfl) trivial ?_
      refine ge_nil fun a hF => hK23 _ _ ?_ a hF
      have hS44 := hS43.takeN 0
      obtain rfl := Option.some.inj h
      exact we_ret fun a hF => hQ _ _ _ (Outs.out nofun (Exits.on ⟨rfl, (post_ret (rs := [.tmp 4]) (ans := []) (vs := [.bool false]) (l := []) rfl (by kernel_rfl) trivial ⟨rfl, hS44⟩) a hF⟩))
    · rw [if_neg hc7] at h
      refine we_known (t := 57) (b := decide (e2 < r2)) (v := false) (by kernel_rfl) (decide_eq_false hc7) ?_
      refine we_false (by kernel_rfl) ?_
      refine we_skip fun a hF => hK20 _ _ ?_ a hF
      refine we_region [(0, 0), (1, 0)] rfl ?_
      refine ge_addn (d := 58) (ty := 3) (x := (.tmp 42)) (y := (.const (.int .i64 1))) (t := 3) (t2 := 3) (k := .i64) (m := i2) (by kernel_rfl) (by kernel_rfl) (by kernel_rfl) (by have h0 := hR0.small; omega) ?_
      refine ge_batch [1] (ans := []) (vs := [(42, .int .i64 ((i2 + 1 : Nat) : Int))]) (l := []) (by kernel_rfl) trivial ?_
      have hS45 := hS43.bring 4 rfl
      have hS46 := hS45.bring 4 rfl
      have hS47 := hS46.bring 4 rfl
      have hS48 := hS47.bring 4 rfl
      have hS49 := hS48.takeN 4
      obtain rfl := Option.some.inj h
      exact ge_nil fun a hF => hQ _ _ _ (Outs.again ⟨hS49, hF.weaken ⟨by kernel_rfl, by kernel_rfl, by kernel_rfl, by kernel_rfl, by kernel_rfl, trivial⟩⟩)
  · rw [if_neg hc6] at h
    refine we_known (t := 43) (b := decide ((i2 : Int) < (l0.length : Int))) (v := false) (by kernel_rfl) (decide_eq_false hc6) ?_
    refine we_false (by kernel_rfl) ?_
    have hS50 := hS.bring 1 rfl
    have hS51 := hS50.takeN 1
    obtain rfl := Option.some.inj h
    exact we_exit fun a hF => hQ _ _ _ (Outs.out nofun (Exits.here ⟨hS51, hF.weaken ⟨by kernel_rfl, trivial⟩⟩))
theorem wcet_Proves_ok (K : Nat) (l0 : List SIns) (A0 : Option Addr) (c0 : Nat) (x1_0 : Int) (l1_1 : List Int) (A1_1 : Option Addr) (c1_1 : Nat) (w0 : World) (hR0 : RdL w0 A0 l0) (hL0 : l0.length ≤ c0) (hR1_1 : RdL w0 A1_1 l1_1) (hL1_1 : l1_1.length ≤ c1_1) (r : Bool) (h : wcet_Proves.f K l0 x1_0 l1_1 = some r) :
    Calls Try.prog 38 #[.slice A0 l0.length c0, .agg #[.int .i64 x1_0, .slice A1_1 l1_1.length c1_1]] w0 (wcet_Proves.Post w0 r) := by
  have hS := St.start w0
  unfold wcet_Proves.f at h
  refine calls_enter (n := 66) (args := [.slice A0 l0.length c0, .agg #[.int .i64 x1_0, .slice A1_1 l1_1.length c1_1]]) (fn := Try.f38) rfl rfl rfl rfl ?_
  show WE _ _ _ _ [(0, .slice A0 l0.length c0), (1, .agg #[.int .i64 x1_0, .slice A1_1 l1_1.length c1_1])] _
  refine we_seq fun K1 hK1 => ?_
  refine we_region [(0, 1), (1, 0)] rfl ?_
  refine ge_new (d := some 3) (o := .cells #[.int .i64 x1_0, .slice A1_1 l1_1.length c1_1] 70) (v := fun b => .pointer (some ⟨b, 0, none⟩)) hS (fun b => by kernel_rfl) fun b1 w1 hx1 hS1 => ?_
  refine ge_batch [1] (ans := []) (vs := [(4, .bool false)]) (l := []) (by kernel_rfl) trivial ?_
  refine ge_nil fun a hF => hK1 _ _ ?_ a hF
  refine we_seq fun K2 hK2 => ?_
  refine we_region [(0, 0), (1, 1), (2, 0), (3, 0), (4, 0), (5, 1), (6, 1), (7, 2), (8, 2)] rfl ?_
  rcases hq1 : mach_Look.f K l0 with _ | r1
  · rw [hq1] at h; cases h
  rw [hq1] at h
  simp only [] at h
  refine ge_batch [0] (ans := []) (vs := [(11, .slice A0 l0.length c0)]) (l := []) (by kernel_rfl) trivial ?_
  refine ge_call (d := some 12) (f := 62) (args := #[.slice A0 l0.length c0]) (by kernel_rfl) (mach_Look_ok K l0 A0 c0 _ (hS1.rd hR0) hL0 _ hq1) ?_
  rintro _ w2 ⟨v1, m1, rfl, hS2⟩
  refine ⟨_, rfl, hS2.below, ?_⟩
  have hS3 := hS1.call hS2
  refine ge_batch [2, 3, 4] (ans := []) (vs := [(14, .agg #[.int .i64 r1.2.Code, .int .i64 r1.2.At]), (13, .agg #[v1, .map m1]), (10, .tuple #[.agg #[v1, .map m1], .agg #[.int .i64 r1.2.Code, .int .i64 r1.2.At]])]) (l := []) (by kernel_rfl) trivial ?_
  refine ge_new (d := some 5) (o := .cells #[.slice none 0 0, .map none] 115) (v := fun b => .pointer (some ⟨b, 0, none⟩)) hS3 (fun b => by kernel_rfl) fun b2 w3 hx2 hS4 => ?_
  refine ge_new (d := some 6) (o := .cells #[.int .i64 0, .int .i64 0] 40) (v := fun b => .pointer (some ⟨b, 0, none⟩)) hS4 (fun b => by kernel_rfl) fun b3 w4 hx3 hS5 => ?_
  obtain ⟨Z1, cz1, rfl⟩ := hS5.open 2 rfl
  have hS6 := hS5.bring 1 rfl
  refine ge_set (b := b2) (j := 0) (cs := #[.slice none 0 0, .map none]) (t := 115) (vs := [(.slice Z1 r1.1.In.length cz1), .map m1]) hS6 (by kernel_rfl) rfl rfl fun w5 hS7 => ?_
  have hS8 : St w0 w5 [Own.blk b2 (.cells #[(.slice Z1 r1.1.In.length cz1), .map m1] 115 (0, 0)), Own.blk b3 (.cells #[.int .i64 0, .int .i64 0] 40 (0, 0)), Own.of (.slice Z1 r1.1.In.length cz1) 3 r1.1.In, Own.mapv (κ := Int) (ν := Int) m1 r1.1.Close, Own.blk b1 (.cells #[.int .i64 x1_0, .slice A1_1 l1_1.length c1_1] 70 (0, 0))] := hS7
  have hS9 := hS8.bring 1 rfl
  refine ge_set (b := b3) (j := 0) (cs := #[.int .i64 0, .int .i64 0]) (t := 40) (vs := [.int .i64 r1.2.Code, .int .i64 r1.2.At]) hS9 (by kernel_rfl) rfl rfl fun w6 hS10 => ?_
  have hS11 : St w0 w6 [Own.blk b3 (.cells #[.int .i64 r1.2.Code, .int .i64 r1.2.At] 40 (0, 0)), Own.blk b2 (.cells #[(.slice Z1 r1.1.In.length cz1), .map m1] 115 (0, 0)), Own.of (.slice Z1 r1.1.In.length cz1) 3 r1.1.In, Own.mapv (κ := Int) (ν := Int) m1 r1.1.Close, Own.blk b1 (.cells #[.int .i64 x1_0, .slice A1_1 l1_1.length c1_1] 70 (0, 0))] := hS10
  refine ge_nil fun a hF => hK2 _ _ ?_ a hF
  refine we_seq fun K3 hK3 => ?_
  rcases hq2 : wcet_Proves.p0 l0 l1_1 r1 with _ | (_ | rr3)
  · rw [hq2] at h; cases h
  · rw [hq2] at h
    simp only [] at h
    refine we_keep (e' := [(0, .slice A0 l0.length c0), (1, .agg #[.int .i64 x1_0, .slice A1_1 l1_1.length c1_1]), (3, .pointer (some ⟨b1, 0, none⟩)), (4, .bool false), (5, .pointer (some ⟨b2, 0, none⟩)), (6, .pointer (some ⟨b3, 0, none⟩)), (10, .tuple #[.agg #[(.slice Z1 r1.1.In.length cz1), .map m1], .agg #[.int .i64 r1.2.Code, .int .i64 r1.2.At]]), (11, .slice A0 l0.length c0), (12, .tuple #[.agg #[(.slice Z1 r1.1.In.length cz1), .map m1], .agg #[.int .i64 r1.2.Code, .int .i64 r1.2.At]]), (13, .agg #[(.slice Z1 r1.1.In.length cz1), .map m1]), (14, .agg #[.int .i64 r1.2.Code, .int .i64 r1.2.At])]) ⟨by kernel_rfl, by kernel_rfl, by kernel_rfl, by kernel_rfl, by kernel_rfl, by kernel_rfl, by kernel_rfl, by kernel_rfl, by kernel_rfl, by kernel_rfl, by kernel_rfl, trivial⟩ (wcet_Proves_p0 K w0 l0 A0 c0 x1_0 l1_1 A1_1 c1_1 hR0 hL0 hR1_1 hL1_1 b1 r1 m1 b2 b3 Z1 cz1 _ hq2 _ hS11 _ ?_)
    rintro _ a w7 ⟨rfl, hS19, hF⟩
    replace hS19 : St w0 w7 [Own.blk b2 (.cells #[(.slice Z1 r1.1.In.length cz1), .map m1] 115 (0, 0)), Own.blk b1 (.cells #[.int .i64 x1_0, .slice A1_1 l1_1.length c1_1] 70 (0, 0)), Own.of (.slice Z1 r1.1.In.length cz1) 3 r1.1.In, Own.mapv (κ := Int) (ν := Int) m1 r1.1.Close] := hS19
    refine hK3 [(0, .slice A0 l0.length c0), (3, .pointer (some ⟨b1, 0, none⟩)), (5, .pointer (some ⟨b2, 0, none⟩))] w7 ?_ a hF
    refine we_seq fun K7 hK7 => ?_
    refine we_seq fun K8 hK8 => ?_
    refine we_region [(0, 0), (1, 0), (2, 0), (3, 0)] rfl ?_
    refine ge_batch [0, 1, 2, 3] (ans := [.val (.slice A1_1 l1_1.length c1_1)]) (vs := [(29, .int .i64 0), (28, .int .i64 (l1_1.length : Int)), (27, .slice A1_1 l1_1.length c1_1), (26, .pointer (some ⟨b1, 1, none⟩))]) (l := [.loaded ⟨b1, 1, none⟩ (.slice A1_1 l1_1.length c1_1)]) (by kernel_rfl) ⟨hS19.cell 1 rfl rfl, trivial⟩ ?_
    refine ge_nil fun a hF => hK8 _ _ ?_ a hF
    refine we_block ?_
    have hS20 := hS19.bring 3 rfl
    have hS21 := hS20.bring 3 rfl
    have hS22 := hS21.bring 3 rfl
    have hS23 := hS22.bring 3 rfl
    rcases hq3 : iter (wcet_Proves.r1 l1_1) K 0 with _ | (_ | rr2)
    · rw [hq3] at h; cases h
    · rw [hq3] at h
      simp only [] at h
      refine we_iter (A := wcet_Proves.A1 K w0 l0 A0 c0 x1_0 l1_1 A1_1 c1_1 hR0 hL0 hR1_1 hL1_1 b1 r1 m1 b2 b3 Z1 cz1) (B := wcet_Proves.B1 K w0 l0 A0 c0 x1_0 l1_1 A1_1 c1_1 hR0 hL0 hR1_1 hL1_1 b1 r1 m1 b2 b3 Z1 cz1) hq3 (fun a hF => ⟨hS23, hF.weaken ⟨by kernel_rfl, by kernel_rfl, by kernel_rfl, by kernel_rfl, by kernel_rfl, by kernel_rfl, trivial⟩⟩) (fun s o hf a w hA Q hQ => wcet_Proves_r1 K w0 l0 A0 c0 x1_0 l1_1 A1_1 c1_1 hR0 hL0 hR1_1 hL1_1 b1 r1 m1 b2 b3 Z1 cz1 s o hf a w hA Q hQ) ?_
      rintro _ a w8 _ ⟨rfl, hS34, hF⟩
      replace hS34 : St w0 w8 [Own.blk b2 (.cells #[(.slice Z1 r1.1.In.length cz1), .map m1] 115 (0, 0)), Own.blk b1 (.cells #[.int .i64 x1_0, .slice A1_1 l1_1.length c1_1] 70 (0, 0)), Own.of (.slice Z1 r1.1.In.length cz1) 3 r1.1.In, Own.mapv (κ := Int) (ν := Int) m1 r1.1.Close] := hS34
      refine hK7 [(0, .slice A0 l0.length c0), (3, .pointer (some ⟨b1, 0, none⟩)), (5, .pointer (some ⟨b2, 0, none⟩))] w8 ?_ a hF
      refine we_seq fun K16 hK16 => ?_
      refine we_seq fun K17 hK17 => ?_
      refine we_region [(0, 0), (1, 0), (2, 0)] rfl ?_
      refine ge_batch [0, 1, 2] (ans := []) (vs := [(42, .int .i64 0), (41, .int .i64 (l0.length : Int)), (40, .slice A0 l0.length c0)]) (l := []) (by kernel_rfl) trivial ?_
      refine ge_nil fun a hF => hK17 _ _ ?_ a hF
      refine we_block ?_
      have hS35 := hS34.bring 3 rfl
      have hS36 := hS35.bring 3 rfl
      have hS37 := hS36.bring 3 rfl
      have hS38 := hS37.bring 3 rfl
      rcases hq5 : iter (wcet_Proves.r2 l0 l1_1 r1) K 0 with _ | (_ | rr1)
      · rw [hq5] at h; cases h
      · rw [hq5] at h
        simp only [] at h
        refine we_iter (A := wcet_Proves.A2 K w0 l0 A0 c0 x1_0 l1_1 A1_1 c1_1 hR0 hL0 hR1_1 hL1_1 b1 r1 m1 b2 b3 Z1 cz1) (B := wcet_Proves.B2 K w0 l0 A0 c0 x1_0 l1_1 A1_1 c1_1 hR0 hL0 hR1_1 hL1_1 b1 r1 m1 b2 b3 Z1 cz1) hq5 (fun a hF => ⟨hS38, hF.weaken ⟨by kernel_rfl, by kernel_rfl, by kernel_rfl, by kernel_rfl, by kernel_rfl, trivial⟩⟩) (fun s o hf a w hA Q hQ => wcet_Proves_r2 K w0 l0 A0 c0 x1_0 l1_1 A1_1 c1_1 hR0 hL0 hR1_1 hL1_1 b1 r1 m1 b2 b3 Z1 cz1 s o hf a w hA Q hQ) ?_
        rintro _ a w11 _ ⟨rfl, hS52, hF⟩
        replace hS52 : St w0 w11 [Own.blk b1 (.cells #[.int .i64 x1_0, .slice A1_1 l1_1.length c1_1] 70 (0, 0))] := hS52
        refine hK16 [(3, .pointer (some ⟨b1, 0, none⟩))] w11 ?_ a hF
        refine we_seq fun K24 hK24 => ?_
        refine we_draws (by kernel_rfl) [(0, 0), (1, 0), (2, 0), (3, 0), (4, 1), (5, 1), (6, 0), (7, 0)] (by kernel_rfl) ?_
        have hS53 := hS52.drew
        refine ge_batch [0, 1, 2, 3] (ans := [.val (.int .i64 x1_0), .val (.slice A1_1 l1_1.length c1_1)]) (vs := [(62, .slice A1_1 l1_1.length c1_1), (61, .pointer (some ⟨b1, 1, none⟩)), (60, .int .i64 x1_0), (59, .pointer (some ⟨b1, 0, none⟩))]) (l := [.loaded ⟨b1, 0, none⟩ (.int .i64 x1_0), .loaded ⟨b1, 1, none⟩ (.slice A1_1 l1_1.length c1_1)]) (by kernel_rfl) ⟨hS53.cell 0 rfl rfl, hS53.cell 0 rfl rfl, trivial⟩ ?_
        refine ge_call (d := some 63) (f := 64) (args := #[.slice A1_1 l1_1.length c1_1]) (by kernel_rfl) (wcet_at_ok l1_1 A1_1 c1_1 _ (hS53.rd hR1_1) hL1_1) ?_
        rintro _ w12 ⟨b5, rfl, hS54⟩
        refine ⟨_, rfl, hS54.below, ?_⟩
        have hS55 := hS53.call hS54
        rcases hq6 : wcet_at_1.f 0 l1_1 with _ | r3
        · rw [hq6] at h; cases h
        rw [hq6] at h
        simp only [] at h
        refine ge_call (d := some 64) (f := 87) (args := #[.int .i64 0, .pointer (some ⟨b5, 0, none⟩)]) (by kernel_rfl) (wcet_at_1_ok 0 b5 l1_1 A1_1 c1_1 _ (hS55.rd hR1_1) hL1_1 (hS55.globOf 0 rfl) _ hq6) ?_
        rintro _ w13 ⟨rfl, hS56⟩
        refine ⟨_, rfl, hS56.below, ?_⟩
        have hS57 := hS55.call hS56
        refine ge_batch [6, 7] (ans := []) (vs := [(4, .bool (decide (x1_0 ≥ r3))), (65, .bool (decide (x1_0 ≥ r3)))]) (l := []) (by kernel_rfl) trivial ?_
        refine ge_nil fun a hF => hK24 _ _ ?_ a hF
        have hS58 := hS57.takeN 0
        obtain rfl := Option.some.inj h
        exact we_ret (post_ret (rs := [.tmp 4]) (ans := []) (vs := [.bool (decide (x1_0 ≥ r3))]) (l := []) rfl (by kernel_rfl) trivial ⟨rfl, hS58⟩)
      · rw [hq5] at h
        simp only [] at h
        refine we_iter (A := wcet_Proves.A2 K w0 l0 A0 c0 x1_0 l1_1 A1_1 c1_1 hR0 hL0 hR1_1 hL1_1 b1 r1 m1 b2 b3 Z1 cz1) (B := wcet_Proves.B2 K w0 l0 A0 c0 x1_0 l1_1 A1_1 c1_1 hR0 hL0 hR1_1 hL1_1 b1 r1 m1 b2 b3 Z1 cz1) hq5 (fun a hF => ⟨hS38, hF.weaken ⟨by kernel_rfl, by kernel_rfl, by kernel_rfl, by kernel_rfl, by kernel_rfl, trivial⟩⟩) (fun s o hf a w hA Q hQ => wcet_Proves_r2 K w0 l0 A0 c0 x1_0 l1_1 A1_1 c1_1 hR0 hL0 hR1_1 hL1_1 b1 r1 m1 b2 b3 Z1 cz1 s o hf a w hA Q hQ) ?_
        rintro _ a w1 _ ⟨rfl, hb⟩
        obtain rfl := Option.some.inj h
        exact hb
    · rw [hq3] at h
      simp only [] at h
      refine we_iter (A := wcet_Proves.A1 K w0 l0 A0 c0 x1_0 l1_1 A1_1 c1_1 hR0 hL0 hR1_1 hL1_1 b1 r1 m1 b2 b3 Z1 cz1) (B := wcet_Proves.B1 K w0 l0 A0 c0 x1_0 l1_1 A1_1 c1_1 hR0 hL0 hR1_1 hL1_1 b1 r1 m1 b2 b3 Z1 cz1) hq3 (fun a hF => ⟨hS23, hF.weaken ⟨by kernel_rfl, by kernel_rfl, by kernel_rfl, by kernel_rfl, by kernel_rfl, by kernel_rfl, trivial⟩⟩) (fun s o hf a w hA Q hQ => wcet_Proves_r1 K w0 l0 A0 c0 x1_0 l1_1 A1_1 c1_1 hR0 hL0 hR1_1 hL1_1 b1 r1 m1 b2 b3 Z1 cz1 s o hf a w hA Q hQ) ?_
      rintro _ a w1 _ ⟨rfl, hb⟩
      obtain rfl := Option.some.inj h
      exact hb
  · rw [hq2] at h
    simp only [] at h
    refine we_keep (e' := [(0, .slice A0 l0.length c0), (1, .agg #[.int .i64 x1_0, .slice A1_1 l1_1.length c1_1]), (3, .pointer (some ⟨b1, 0, none⟩)), (4, .bool false), (5, .pointer (some ⟨b2, 0, none⟩)), (6, .pointer (some ⟨b3, 0, none⟩)), (10, .tuple #[.agg #[(.slice Z1 r1.1.In.length cz1), .map m1], .agg #[.int .i64 r1.2.Code, .int .i64 r1.2.At]]), (11, .slice A0 l0.length c0), (12, .tuple #[.agg #[(.slice Z1 r1.1.In.length cz1), .map m1], .agg #[.int .i64 r1.2.Code, .int .i64 r1.2.At]]), (13, .agg #[(.slice Z1 r1.1.In.length cz1), .map m1]), (14, .agg #[.int .i64 r1.2.Code, .int .i64 r1.2.At])]) ⟨by kernel_rfl, by kernel_rfl, by kernel_rfl, by kernel_rfl, by kernel_rfl, by kernel_rfl, by kernel_rfl, by kernel_rfl, by kernel_rfl, by kernel_rfl, by kernel_rfl, trivial⟩ (wcet_Proves_p0 K w0 l0 A0 c0 x1_0 l1_1 A1_1 c1_1 hR0 hL0 hR1_1 hL1_1 b1 r1 m1 b2 b3 Z1 cz1 _ hq2 _ hS11 _ ?_)
    rintro _ a w1 ⟨_, rfl, hb⟩
    obtain rfl := Option.some.inj h
    exact hb

/-! punctual/punctuallaw.timed -/
abbrev timed.Post (w0 : World) (r : Bool) (e : Ending) (w : World) : Prop := e = .returned (.bool r) ∧ St w0 w []
def timed.f (K : Nat) : Option Bool :=
  match wcet_Analyse.f K image.f with
  | none => none
  | some r1 =>
    if r1.2.Code = 0 then
      if r1.1.Worst = 28 then
        if (r1.1.Rest.length : Int) = 10 then
          match r1.1.Rest[9]? with
          | none => none
          | some e1 =>
            if e1 = 2 then
              match wcet_Proves.f K image.f r1.1.Worst r1.1.Rest with
              | none => none
              | some r2 =>
                if r2 = true then
                  match wcet_Proves.f K image.f 27 r1.1.Rest with
                  | none => none
                  | some r3 =>
                    some (!r3)
                else
                  some false
            else
              some false
        else
          some false
      else
        some false
    else
      some false
theorem timed_ok (K : Nat)  (w0 : World) (r : Bool) (h : timed.f K = some r) :
    Calls Try.prog 36 #[] w0 (timed.Post w0 r) := by
  have hS := St.start w0
  unfold timed.f at h
  refine calls_enter (n := 42) (args := []) (fn := Try.f36) rfl rfl rfl rfl ?_
  show WE _ _ _ _ [] _
  refine we_seq fun K1 hK1 => ?_
  refine we_region [(0, 0)] rfl ?_
  refine ge_batch [0] (ans := []) (vs := [(0, .bool false)]) (l := []) (by kernel_rfl) trivial ?_
  refine ge_nil fun a hF => hK1 _ _ ?_ a hF
  refine we_seq fun K2 hK2 => ?_
  refine we_region [(0, 1), (1, 1), (2, 0), (3, 0), (4, 0), (5, 1), (6, 1), (7, 2), (8, 2)] rfl ?_
  refine ge_call (d := some 4) (f := 41) (args := #[]) (by kernel_rfl) (image_ok _ _ rfl) ?_
  rintro _ w1 ⟨v1, rfl, hS1⟩
  refine ⟨_, rfl, hS1.below, ?_⟩
  have hS2 := hS.call hS1
  obtain ⟨Z1, cz1, rfl⟩ := hS2.open 0 rfl
  rcases hq2 : wcet_Analyse.f K image.f with _ | r1
  · rw [hq2] at h; cases h
  rw [hq2] at h
  simp only [] at h
  refine ge_call (d := some 5) (f := 37) (args := #[(.slice Z1 image.f.length cz1)]) (by kernel_rfl) (wcet_Analyse_ok K image.f Z1 cz1 _ (hS2.rdAt 0 rfl) (hS2.capAt 0 rfl) _ hq2) ?_
  rintro _ w2 ⟨v2, rfl, hS3⟩
  refine ⟨_, rfl, hS3.below, ?_⟩
  have hS4 := hS2.call hS3
  refine ge_batch [2, 3, 4] (ans := []) (vs := [(7, .agg #[.int .i64 r1.2.Code, .int .i64 r1.2.At]), (6, .agg #[.int .i64 r1.1.Worst, v2]), (3, .tuple #[.agg #[.int .i64 r1.1.Worst, v2], .agg #[.int .i64 r1.2.Code, .int .i64 r1.2.At]])]) (l := []) (by kernel_rfl) trivial ?_
  refine ge_new (d := some 1) (o := .cells #[.int .i64 0, .slice none 0 0] 70) (v := fun b => .pointer (some ⟨b, 0, none⟩)) hS4 (fun b => by kernel_rfl) fun b1 w3 hx1 hS5 => ?_
  refine ge_new (d := some 2) (o := .cells #[.int .i64 0, .int .i64 0] 40) (v := fun b => .pointer (some ⟨b, 0, none⟩)) hS5 (fun b => by kernel_rfl) fun b2 w4 hx2 hS6 => ?_
  obtain ⟨Z2, cz2, rfl⟩ := hS6.open 2 rfl
  have hS7 := hS6.bring 1 rfl
  refine ge_set (b := b1) (j := 0) (cs := #[.int .i64 0, .slice none 0 0]) (t := 70) (vs := [.int .i64 r1.1.Worst, (.slice Z2 r1.1.Rest.length cz2)]) hS7 (by kernel_rfl) rfl rfl fun w5 hS8 => ?_
  have hS9 : St w0 w5 [Own.blk b1 (.cells #[.int .i64 r1.1.Worst, (.slice Z2 r1.1.Rest.length cz2)] 70 (0, 0)), Own.blk b2 (.cells #[.int .i64 0, .int .i64 0] 40 (0, 0)), Own.of (.slice Z2 r1.1.Rest.length cz2) 3 r1.1.Rest, Own.of (.slice Z1 image.f.length cz1) 29 image.f] := hS8
  have hS10 := hS9.bring 1 rfl
  refine ge_set (b := b2) (j := 0) (cs := #[.int .i64 0, .int .i64 0]) (t := 40) (vs := [.int .i64 r1.2.Code, .int .i64 r1.2.At]) hS10 (by kernel_rfl) rfl rfl fun w6 hS11 => ?_
  have hS12 : St w0 w6 [Own.blk b2 (.cells #[.int .i64 r1.2.Code, .int .i64 r1.2.At] 40 (0, 0)), Own.blk b1 (.cells #[.int .i64 r1.1.Worst, (.slice Z2 r1.1.Rest.length cz2)] 70 (0, 0)), Own.of (.slice Z2 r1.1.Rest.length cz2) 3 r1.1.Rest, Own.of (.slice Z1 image.f.length cz1) 29 image.f] := hS11
  refine ge_nil fun a hF => hK2 _ _ ?_ a hF
  refine we_seq fun K3 hK3 => ?_
  refine we_draws (by kernel_rfl) [(0, 0), (1, 0), (2, 0), (3, 0), (4, 0), (5, 0), (6, 0), (7, 0), (8, 0), (9, 0), (10, 0), (11, 0), (12, 0), (13, 0), (14, 0), (15, 0), (16, 0), (17, 0), (18, 0), (19, 0), (20, 0), (21, 0), (23, 0), (22, 1), (24, 1), (25, 0), (26, 0), (28, 0), (29, 0), (30, 0), (27, 1), (31, 1), (32, 0), (33, 0), (34, 0)] (by kernel_rfl) ?_
  have hS13 := hS12.drew
  refine ge_batch [0, 1, 2, 3] (ans := [.val (.int .i64 r1.2.Code)]) (vs := [(11, .bool (r1.2.Code == 0)), (10, .bool (r1.2.Code == 0)), (9, .int .i64 r1.2.Code), (8, .pointer (some ⟨b2, 0, none⟩))]) (l := [.loaded ⟨b2, 0, none⟩ (.int .i64 r1.2.Code)]) (by kernel_rfl) ⟨hS13.cell 0 rfl rfl, trivial⟩ ?_
  by_cases hc1 : r1.2.Code = 0
  · rw [if_pos hc1] at h
    refine ge_known (t := 11) (b := (r1.2.Code == 0)) (c := true) (by kernel_rfl) (beq_iff_eq.2 hc1) ?_
    refine ge_batch [4, 5, 6, 7, 8] (ans := [.val (.int .i64 r1.1.Worst)]) (vs := [(16, .bool (r1.1.Worst == 28)), (15, .bool (r1.1.Worst == 28)), (14, .bool (r1.1.Worst == 28)), (13, .int .i64 r1.1.Worst), (12, .pointer (some ⟨b1, 0, none⟩))]) (l := [.loaded ⟨b1, 0, none⟩ (.int .i64 r1.1.Worst)]) (by kernel_rfl) ⟨hS13.cell 1 rfl rfl, trivial⟩ ?_
    by_cases hc2 : r1.1.Worst = 28
    · rw [if_pos hc2] at h
      refine ge_known (t := 16) (b := (r1.1.Worst == 28)) (c := true) (by kernel_rfl) (beq_iff_eq.2 hc2) ?_
      refine ge_batch [9, 10, 11, 12, 13, 14] (ans := [.val ((.slice Z2 r1.1.Rest.length cz2))]) (vs := [(22, .bool ((r1.1.Rest.length : Int) == 10)), (21, .bool ((r1.1.Rest.length : Int) == 10)), (20, .bool ((r1.1.Rest.length : Int) == 10)), (19, .int .i64 (r1.1.Rest.length : Int)), (18, (.slice Z2 r1.1.Rest.length cz2)), (17, .pointer (some ⟨b1, 1, none⟩))]) (l := [.loaded ⟨b1, 1, none⟩ ((.slice Z2 r1.1.Rest.length cz2))]) (by kernel_rfl) ⟨hS13.cell 1 rfl rfl, trivial⟩ ?_
      by_cases hc3 : (r1.1.Rest.length : Int) = 10
      · rw [if_pos hc3] at h
        refine ge_known (t := 22) (b := ((r1.1.Rest.length : Int) == 10)) (c := true) (by kernel_rfl) (beq_iff_eq.2 hc3) ?_
        refine ge_batch [15, 16] (ans := [.val ((.slice Z2 r1.1.Rest.length cz2))]) (vs := [(24, (.slice Z2 r1.1.Rest.length cz2)), (23, .pointer (some ⟨b1, 1, none⟩))]) (l := [.loaded ⟨b1, 1, none⟩ ((.slice Z2 r1.1.Rest.length cz2))]) (by kernel_rfl) ⟨hS13.cell 1 rfl rfl, trivial⟩ ?_
        rcases hx3 : r1.1.Rest[9]? with _ | e1
        · rw [hx3] at h; cases h
        rw [hx3] at h
        simp only [] at h
        refine ge_index (d := 25) (ty := 0) (t := 24) (el := 3) (sz := 1) (m := r1.1.Rest.length) (c := cz2) (x := (.tmp 24)) (y := (.const (.int .i64 9))) (A := Z2) (k' := .i64) (j := 9) (jn := 9) (b0 := blkOf Z2) (o0 := offOf Z2) (by kernel_rfl) (by kernel_rfl) (by kernel_rfl) (by kernel_rfl) (by kernel_rfl) ((hS13.rdAt 2 rfl).eqSome (pos_of_get hx3)) rfl (lt_of_get hx3) ?_
        refine ge_batch [18, 19, 20, 21] (ans := [.val (.int .i64 e1)]) (vs := [(29, .bool (e1 == 2)), (28, .bool (e1 == 2)), (27, .bool (e1 == 2)), (26, .int .i64 e1)]) (l := [.loaded ⟨blkOf Z2, offOf Z2 + 9 * 1, none⟩ (.int .i64 e1)]) (by kernel_rfl) ⟨RdL.cell (j := 0) (hS13.rdAt 2 rfl) hx3 rfl, trivial⟩ ?_
        by_cases hc4 : e1 = 2
        · rw [if_pos hc4] at h
          refine ge_known (t := 29) (b := (e1 == 2)) (c := true) (by kernel_rfl) (beq_iff_eq.2 hc4) ?_
          refine ge_batch [23] (ans := [.val (.int .i64 r1.1.Worst), .val ((.slice Z2 r1.1.Rest.length cz2))]) (vs := [(31, .agg #[.int .i64 r1.1.Worst, (.slice Z2 r1.1.Rest.length cz2)])]) (l := [.loaded ⟨b1, 0, none⟩ (.int .i64 r1.1.Worst), .loaded ⟨b1, 1, none⟩ ((.slice Z2 r1.1.Rest.length cz2))]) (by kernel_rfl) ⟨hS13.cell 1 rfl rfl, hS13.cell 1 rfl rfl, trivial⟩ ?_
          refine ge_call (d := some 30) (f := 41) (args := #[]) (by kernel_rfl) (image_ok _ _ rfl) ?_
          rintro _ w7 ⟨v3, rfl, hS14⟩
          refine ⟨_, rfl, hS14.below, ?_⟩
          have hS15 := hS13.call hS14
          obtain ⟨Z3, cz3, rfl⟩ := hS15.open 0 rfl
          rcases hq4 : wcet_Proves.f K image.f r1.1.Worst r1.1.Rest with _ | r2
          · rw [hq4] at h; cases h
          rw [hq4] at h
          simp only [] at h
          refine ge_call (d := some 32) (f := 38) (args := #[(.slice Z3 image.f.length cz3), .agg #[.int .i64 r1.1.Worst, (.slice Z2 r1.1.Rest.length cz2)]]) (by kernel_rfl) (wcet_Proves_ok K image.f Z3 cz3 r1.1.Worst r1.1.Rest Z2 cz2 _ (hS15.rdAt 0 rfl) (hS15.capAt 0 rfl) (hS15.rdAt 3 rfl) (hS15.capAt 3 rfl) _ hq4) ?_
          rintro _ w8 ⟨rfl, hS16⟩
          refine ⟨_, rfl, hS16.below, ?_⟩
          have hS17 := hS15.call hS16
          refine ge_batch [25, 26] (ans := []) (vs := [(34, .bool r2), (33, .bool r2)]) (l := []) (by kernel_rfl) trivial ?_
          by_cases hc5 : r2 = true
          · rw [if_pos hc5] at h
            refine ge_known (t := 34) (b := r2) (c := true) (by kernel_rfl) hc5 ?_
            refine ge_batch [28, 29, 30] (ans := [.val ((.slice Z2 r1.1.Rest.length cz2))]) (vs := [(38, .agg #[.int .i64 27, (.slice Z2 r1.1.Rest.length cz2)]), (37, (.slice Z2 r1.1.Rest.length cz2)), (36, .pointer (some ⟨b1, 1, none⟩))]) (l := [.loaded ⟨b1, 1, none⟩ ((.slice Z2 r1.1.Rest.length cz2))]) (by kernel_rfl) ⟨hS17.cell 2 rfl rfl, trivial⟩ ?_
            refine ge_call (d := some 35) (f := 41) (args := #[]) (by kernel_rfl) (image_ok _ _ rfl) ?_
            rintro _ w9 ⟨v4, rfl, hS18⟩
            refine ⟨_, rfl, hS18.below, ?_⟩
            have hS19 := hS17.call hS18
            obtain ⟨Z4, cz4, rfl⟩ := hS19.open 0 rfl
            rcases hq6 : wcet_Proves.f K image.f 27 r1.1.Rest with _ | r3
            · rw [hq6] at h; cases h
            rw [hq6] at h
            simp only [] at h
            refine ge_call (d := some 39) (f := 38) (args := #[(.slice Z4 image.f.length cz4), .agg #[.int .i64 27, (.slice Z2 r1.1.Rest.length cz2)]]) (by kernel_rfl) (wcet_Proves_ok K image.f Z4 cz4 27 r1.1.Rest Z2 cz2 _ (hS19.rdAt 0 rfl) (hS19.capAt 0 rfl) (hS19.rdAt 4 rfl) (hS19.capAt 4 rfl) _ hq6) ?_
            rintro _ w10 ⟨rfl, hS20⟩
            refine ⟨_, rfl, hS20.below, ?_⟩
            have hS21 := hS19.call hS20
            refine ge_batch [32, 33, 34] (ans := []) (vs := [(0, .bool (!r3)), (41, .bool (!r3)), (40, .bool (!r3))]) (l := []) (by kernel_rfl) trivial ?_
            refine ge_nil fun a hF => hK3 _ _ ?_ a hF
            have hS22 := hS21.takeN 0
            obtain rfl := Option.some.inj h
            exact we_ret (post_ret (rs := [.tmp 0]) (ans := []) (vs := [.bool (!r3)]) (l := []) rfl (by kernel_rfl) trivial ⟨rfl, hS22⟩)
          · rw [if_neg hc5] at h
            refine ge_known (t := 34) (b := r2) (c := false) (by kernel_rfl) (Bool.eq_false_iff.2 hc5) ?_
            refine ge_batch [28, 29, 30] (ans := []) (vs := [(38, undef), (37, undef), (36, undef)]) (l := []) (by kernel_rfl) trivial ?_
            refine ge_off rfl rfl rfl (by kernel_rfl) ?_
            refine ge_off rfl rfl rfl (by kernel_rfl) ?_
            refine ge_batch [32, 33, 34] (ans := []) (vs := [(0, .bool false), (41, .bool false), (40, undef)]) (l := []) (by kernel_rfl) trivial ?_
            refine ge_nil fun a hF => hK3 _ _ ?_ a hF
            have hS23 := hS17.takeN 0
            obtain rfl := Option.some.inj h
            exact we_ret (post_ret (rs := [.tmp 0]) (ans := []) (vs := [.bool false]) (l := []) rfl (by kernel_rfl) trivial ⟨rfl, hS23⟩)
        · rw [if_neg hc4] at h
          refine ge_known (t := 29) (b := (e1 == 2)) (c := false) (by kernel_rfl) (beq_eq_false_iff_ne.2 hc4) ?_
          refine ge_batch [23] (ans := []) (vs := [(31, undef)]) (l := []) (by kernel_rfl) trivial ?_
          refine ge_off rfl rfl rfl (by kernel_rfl) ?_
          refine ge_off rfl rfl rfl (by kernel_rfl) ?_
          refine ge_batch [25, 26, 28, 29, 30] (ans := []) (vs := [(38, undef), (37, undef), (36, undef), (34, .bool false), (33, .bool false)]) (l := []) (by kernel_rfl) trivial ?_
          refine ge_off rfl rfl rfl (by kernel_rfl) ?_
          refine ge_off rfl rfl rfl (by kernel_rfl) ?_
          refine ge_batch [32, 33, 34] (ans := []) (vs := [(0, .bool false), (41, .bool false), (40, undef)]) (l := []) (by kernel_rfl) trivial ?_
          refine ge_nil fun a hF => hK3 _ _ ?_ a hF
          have hS24 := hS13.takeN 0
          obtain rfl := Option.some.inj h
          exact we_ret (post_ret (rs := [.tmp 0]) (ans := []) (vs := [.bool false]) (l := []) rfl (by kernel_rfl) trivial ⟨rfl, hS24⟩)
      · rw [if_neg hc3] at h
        refine ge_known (t := 22) (b := ((r1.1.Rest.length : Int) == 10)) (c := false) (by kernel_rfl) (beq_eq_false_iff_ne.2 hc3) ?_
        refine ge_batch [15, 16, 17, 18, 19, 20, 21, 23] (ans := []) (vs := [(31, undef), (29, .bool false), (28, .bool false), (27, undef), (26, undef), (25, undef), (24, undef), (23, undef)]) (l := []) (by kernel_rfl) trivial ?_
        refine ge_off rfl rfl rfl (by kernel_rfl) ?_
        refine ge_off rfl rfl rfl (by kernel_rfl) ?_
        refine ge_batch [25, 26, 28, 29, 30] (ans := []) (vs := [(38, undef), (37, undef), (36, undef), (34, .bool false), (33, .bool false)]) (l := []) (by kernel_rfl) trivial ?_
        refine ge_off rfl rfl rfl (by kernel_rfl) ?_
        refine ge_off rfl rfl rfl (by kernel_rfl) ?_
        refine ge_batch [32, 33, 34] (ans := []) (vs := [(0, .bool false), (41, .bool false), (40, undef)]) (l := []) (by kernel_rfl) trivial ?_
        refine ge_nil fun a hF => hK3 _ _ ?_ a hF
        have hS25 := hS13.takeN 0
        obtain rfl := Option.some.inj h
        exact we_ret (post_ret (rs := [.tmp 0]) (ans := []) (vs := [.bool false]) (l := []) rfl (by kernel_rfl) trivial ⟨rfl, hS25⟩)
    · rw [if_neg hc2] at h
      refine ge_known (t := 16) (b := (r1.1.Worst == 28)) (c := false) (by kernel_rfl) (beq_eq_false_iff_ne.2 hc2) ?_
      refine ge_batch [9, 10, 11, 12, 13, 14, 15, 16, 17, 18, 19, 20, 21, 23] (ans := []) (vs := [(31, undef), (29, .bool false), (28, .bool false), (27, undef), (26, undef), (25, undef), (24, undef), (23, undef), (22, .bool false), (21, .bool false), (20, undef), (19, undef), (18, undef), (17, undef)]) (l := []) (by kernel_rfl) trivial ?_
      refine ge_off rfl rfl rfl (by kernel_rfl) ?_
      refine ge_off rfl rfl rfl (by kernel_rfl) ?_
      refine ge_batch [25, 26, 28, 29, 30] (ans := []) (vs := [(38, undef), (37, undef), (36, undef), (34, .bool false), (33, .bool false)]) (l := []) (by kernel_rfl) trivial ?_
      refine ge_off rfl rfl rfl (by kernel_rfl) ?_
      refine ge_off rfl rfl rfl (by kernel_rfl) ?_
      refine ge_batch [32, 33, 34] (ans := []) (vs := [(0, .bool false), (41, .bool false), (40, undef)]) (l := []) (by kernel_rfl) trivial ?_
      refine ge_nil fun a hF => hK3 _ _ ?_ a hF
      have hS26 := hS13.takeN 0
      obtain rfl := Option.some.inj h
      exact we_ret (post_ret (rs := [.tmp 0]) (ans := []) (vs := [.bool false]) (l := []) rfl (by kernel_rfl) trivial ⟨rfl, hS26⟩)
  · rw [if_neg hc1] at h
    refine ge_known (t := 11) (b := (r1.2.Code == 0)) (c := false) (by kernel_rfl) (beq_eq_false_iff_ne.2 hc1) ?_
    refine ge_batch [4, 5, 6, 7, 8, 9, 10, 11, 12, 13, 14, 15, 16, 17, 18, 19, 20, 21, 23] (ans := []) (vs := [(31, undef), (29, .bool false), (28, .bool false), (27, undef), (26, undef), (25, undef), (24, undef), (23, undef), (22, .bool false), (21, .bool false), (20, undef), (19, undef), (18, undef), (17, undef), (16, .bool false), (15, .bool false), (14, undef), (13, undef), (12, undef)]) (l := []) (by kernel_rfl) trivial ?_
    refine ge_off rfl rfl rfl (by kernel_rfl) ?_
    refine ge_off rfl rfl rfl (by kernel_rfl) ?_
    refine ge_batch [25, 26, 28, 29, 30] (ans := []) (vs := [(38, undef), (37, undef), (36, undef), (34, .bool false), (33, .bool false)]) (l := []) (by kernel_rfl) trivial ?_
    refine ge_off rfl rfl rfl (by kernel_rfl) ?_
    refine ge_off rfl rfl rfl (by kernel_rfl) ?_
    refine ge_batch [32, 33, 34] (ans := []) (vs := [(0, .bool false), (41, .bool false), (40, undef)]) (l := []) (by kernel_rfl) trivial ?_
    refine ge_nil fun a hF => hK3 _ _ ?_ a hF
    have hS27 := hS13.takeN 0
    obtain rfl := Option.some.inj h
    exact we_ret (post_ret (rs := [.tmp 0]) (ans := []) (vs := [.bool false]) (l := []) rfl (by kernel_rfl) trivial ⟨rfl, hS27⟩)

/-! punctual/punctuallaw.WcetLeast -/
abbrev WcetLeast.Post (w0 : World) (r : Bool) (e : Ending) (w : World) : Prop := e = .returned (.bool r) ∧ St w0 w []
def WcetLeast.f (K : Nat) (l0 : List SIns) (x1 : Int) (l2 : List Int) : Option Bool :=
  match timed.f K with
  | none => none
  | some r1 =>
    if r1 = true then
      if (l0.length : Int) > 3000 then
        some true
      else
        match wcet_Analyse.f K l0 with
        | none => none
        | some r2 =>
          if r2.2.Code = 0 then
            if x1 < 1 then
              match wcet_Proves.f K l0 r2.1.Worst r2.1.Rest with
              | none => none
              | some r3 =>
                if r3 = true then
                  match wcet_Proves.f K l0 (IntKind.i64.wrap (r2.1.Worst - 1)) r2.1.Rest with
                  | none => none
                  | some r4 =>
                    if r4 = true then
                      some false
                    else
                      match wcet_Proves.f K l0 (IntKind.i64.wrap (r2.1.Worst - 1)) l2 with
                      | none => none
                      | some r5 =>
                        some (!r5)
                else
                  some false
            else
              match wcet_Proves.f K l0 r2.1.Worst r2.1.Rest with
              | none => none
              | some r6 =>
                if r6 = true then
                  match wcet_Proves.f K l0 (IntKind.i64.wrap (r2.1.Worst - x1)) r2.1.Rest with
                  | none => none
                  | some r7 =>
                    if r7 = true then
                      some false
                    else
                      match wcet_Proves.f K l0 (IntKind.i64.wrap (r2.1.Worst - x1)) l2 with
                      | none => none
                      | some r8 =>
                        some (!r8)
                else
                  some false
          else
            if r2.1.Worst = 0 then
              some ((r2.1.Rest.length : Int) == 0)
            else
              some false
    else
      some false
theorem WcetLeast_ok (K : Nat) (l0 : List SIns) (A0 : Option Addr) (c0 : Nat) (x1 : Int) (l2 : List Int) (A2 : Option Addr) (c2 : Nat) (w0 : World) (hR0 : RdL w0 A0 l0) (hL0 : l0.length ≤ c0) (hR2 : RdL w0 A2 l2) (hL2 : l2.length ≤ c2) (r : Bool) (h : WcetLeast.f K l0 x1 l2 = some r) :
    Calls Try.prog 9 #[.slice A0 l0.length c0, .int .i64 x1, .slice A2 l2.length c2] w0 (WcetLeast.Post w0 r) := by
  have hS := St.start w0
  unfold WcetLeast.f at h
  refine calls_enter (n := 59) (args := [.slice A0 l0.length c0, .int .i64 x1, .slice A2 l2.length c2]) (fn := Try.f9) rfl rfl rfl rfl ?_
  show WE _ _ _ _ [(0, .slice A0 l0.length c0), (1, .int .i64 x1), (2, .slice A2 l2.length c2)] _
  refine we_seq fun K1 hK1 => ?_
  refine we_region [(0, 0)] rfl ?_
  refine ge_batch [0] (ans := []) (vs := [(6, .bool false)]) (l := []) (by kernel_rfl) trivial ?_
  refine ge_nil fun a hF => hK1 _ _ ?_ a hF
  refine we_seq fun K2 hK2 => ?_
  refine we_seq fun K3 hK3 => ?_
  refine we_region [(0, 1), (1, 0)] rfl ?_
  rcases hq1 : timed.f K with _ | r1
  · rw [hq1] at h; cases h
  rw [hq1] at h
  simp only [] at h
  refine ge_call (d := some 9) (f := 36) (args := #[]) (by kernel_rfl) (timed_ok K _ _ hq1) ?_
  rintro _ w1 ⟨rfl, hS1⟩
  refine ⟨_, rfl, hS1.below, ?_⟩
  have hS2 := hS.call hS1
  refine ge_batch [1] (ans := []) (vs := [(10, .bool (!r1))]) (l := []) (by kernel_rfl) trivial ?_
  refine ge_nil fun a hF => hK3 _ _ ?_ a hF
  by_cases hc1 : r1 = true
  · rw [if_pos hc1] at h
    refine we_known (t := 10) (b := !r1) (v := false) (by kernel_rfl) (congrArg (fun z => !z) hc1) ?_
    refine we_false (by kernel_rfl) ?_
    refine we_skip fun a hF => hK2 _ _ ?_ a hF
    refine we_seq fun K4 hK4 => ?_
    refine we_seq fun K5 hK5 => ?_
    refine we_region [(0, 0), (1, 0), (2, 0)] rfl ?_
    refine ge_batch [0, 1, 2] (ans := []) (vs := [(13, .bool (decide ((l0.length : Int) > 3000))), (12, .int .i64 (l0.length : Int)), (11, .slice A0 l0.length c0)]) (l := []) (by kernel_rfl) trivial ?_
    refine ge_nil fun a hF => hK5 _ _ ?_ a hF
    by_cases hc2 : (l0.length : Int) > 3000
    · rw [if_pos hc2] at h
      refine we_known (t := 13) (b := decide ((l0.length : Int) > 3000)) (v := true) (by kernel_rfl) (decide_eq_true hc2) ?_
      refine we_true (by kernel_rfl) ?_
      refine we_seq fun K6 hK6 => ?_
      refine we_region [(0, 0)] rfl ?_
      refine ge_batch [0] (ans := []) (vs := [(6, .bool true)]) (l := []) (by kernel_rfl) trivial ?_
      refine ge_nil fun a hF => hK6 _ _ ?_ a hF
      obtain rfl := Option.some.inj h
      exact we_ret (post_ret (rs := [.tmp 6]) (ans := []) (vs := [.bool true]) (l := []) rfl (by kernel_rfl) trivial ⟨rfl, hS2⟩)
    · rw [if_neg hc2] at h
      refine we_known (t := 13) (b := decide ((l0.length : Int) > 3000)) (v := false) (by kernel_rfl) (decide_eq_false hc2) ?_
      refine we_false (by kernel_rfl) ?_
      refine we_skip fun a hF => hK4 _ _ ?_ a hF
      refine we_seq fun K7 hK7 => ?_
      refine we_region [(0, 0), (1, 1), (2, 0), (3, 0), (4, 0), (5, 1), (6, 1), (7, 2), (8, 2)] rfl ?_
      rcases hq2 : wcet_Analyse.f K l0 with _ | r2
      · rw [hq2] at h; cases h
      rw [hq2] at h
      simp only [] at h
      refine ge_batch [0] (ans := []) (vs := [(15, .slice A0 l0.length c0)]) (l := []) (by kernel_rfl) trivial ?_
      refine ge_call (d := some 16) (f := 37) (args := #[.slice A0 l0.length c0]) (by kernel_rfl) (wcet_Analyse_ok K l0 A0 c0 _ (hS2.rd hR0) hL0 _ hq2) ?_
      rintro _ w2 ⟨v1, rfl, hS3⟩
      refine ⟨_, rfl, hS3.below, ?_⟩
      have hS4 := hS2.call hS3
      refine ge_batch [2, 3, 4] (ans := []) (vs := [(18, .agg #[.int .i64 r2.2.Code, .int .i64 r2.2.At]), (17, .agg #[.int .i64 r2.1.Worst, v1]), (14, .tuple #[.agg #[.int .i64 r2.1.Worst, v1], .agg #[.int .i64 r2.2.Code, .int .i64 r2.2.At]])]) (l := []) (by kernel_rfl) trivial ?_
      refine ge_new (d := some 7) (o := .cells #[.int .i64 0, .slice none 0 0] 70) (v := fun b => .pointer (some ⟨b, 0, none⟩)) hS4 (fun b => by kernel_rfl) fun b1 w3 hx1 hS5 => ?_
      refine ge_new (d := some 8) (o := .cells #[.int .i64 0, .int .i64 0] 40) (v := fun b => .pointer (some ⟨b, 0, none⟩)) hS5 (fun b => by kernel_rfl) fun b2 w4 hx2 hS6 => ?_
      obtain ⟨Z1, cz1, rfl⟩ := hS6.open 2 rfl
      have hS7 := hS6.bring 1 rfl
      refine ge_set (b := b1) (j := 0) (cs := #[.int .i64 0, .slice none 0 0]) (t := 70) (vs := [.int .i64 r2.1.Worst, (.slice Z1 r2.1.Rest.length cz1)]) hS7 (by kernel_rfl) rfl rfl fun w5 hS8 => ?_
      have hS9 : St w0 w5 [Own.blk b1 (.cells #[.int .i64 r2.1.Worst, (.slice Z1 r2.1.Rest.length cz1)] 70 (0, 0)), Own.blk b2 (.cells #[.int .i64 0, .int .i64 0] 40 (0, 0)), Own.of (.slice Z1 r2.1.Rest.length cz1) 3 r2.1.Rest] := hS8
      have hS10 := hS9.bring 1 rfl
      refine ge_set (b := b2) (j := 0) (cs := #[.int .i64 0, .int .i64 0]) (t := 40) (vs := [.int .i64 r2.2.Code, .int .i64 r2.2.At]) hS10 (by kernel_rfl) rfl rfl fun w6 hS11 => ?_
      have hS12 : St w0 w6 [Own.blk b2 (.cells #[.int .i64 r2.2.Code, .int .i64 r2.2.At] 40 (0, 0)), Own.blk b1 (.cells #[.int .i64 r2.1.Worst, (.slice Z1 r2.1.Rest.length cz1)] 70 (0, 0)), Own.of (.slice Z1 r2.1.Rest.length cz1) 3 r2.1.Rest] := hS11
      refine ge_nil fun a hF => hK7 _ _ ?_ a hF
      refine we_seq fun K8 hK8 => ?_
      refine we_seq fun K9 hK9 => ?_
      refine we_region [(0, 0), (1, 0), (2, 0)] rfl ?_
      refine ge_batch [0, 1, 2] (ans := [.val (.int .i64 r2.2.Code)]) (vs := [(21, .bool (r2.2.Code != 0)), (20, .int .i64 r2.2.Code), (19, .pointer (some ⟨b2, 0, none⟩))]) (l := [.loaded ⟨b2, 0, none⟩ (.int .i64 r2.2.Code)]) (by kernel_rfl) ⟨hS12.cell 0 rfl rfl, trivial⟩ ?_
      refine ge_nil fun a hF => hK9 _ _ ?_ a hF
      by_cases hc3 : r2.2.Code = 0
      · rw [if_pos hc3] at h
        refine we_known (t := 21) (b := (r2.2.Code != 0)) (v := false) (by kernel_rfl) (bne_eq_false_iff_eq.2 hc3) ?_
        refine we_false (by kernel_rfl) ?_
        refine we_skip fun a hF => hK8 _ _ ?_ a hF
        refine we_seq fun K10 hK10 => ?_
        refine we_seq fun K11 hK11 => ?_
        refine we_region [(0, 0), (1, 0)] rfl ?_
        refine ge_batch [0, 1] (ans := []) (vs := [(32, .bool (decide (x1 < 1))), (31, .int .i64 x1)]) (l := []) (by kernel_rfl) trivial ?_
        refine ge_nil fun a hF => hK11 _ _ ?_ a hF
        by_cases hc4 : x1 < 1
        · rw [if_pos hc4] at h
          refine we_known (t := 32) (b := decide (x1 < 1)) (v := true) (by kernel_rfl) (decide_eq_true hc4) ?_
          refine we_true (by kernel_rfl) ?_
          refine we_region [(0, 0)] rfl ?_
          refine ge_batch [0] (ans := []) (vs := [(1, .int .i64 1)]) (l := []) (by kernel_rfl) trivial ?_
          refine ge_nil fun a hF => hK10 _ _ ?_ a hF
          refine we_seq fun K12 hK12 => ?_
          refine we_region [(0, 0), (1, 0), (2, 1), (3, 0), (4, 0), (5, 0), (6, 0), (7, 0), (8, 0), (9, 0), (10, 0), (11, 0), (12, 1), (13, 0), (14, 0), (15, 0), (16, 0), (17, 0), (18, 0), (19, 0), (20, 0), (21, 0), (22, 0), (23, 1), (24, 0), (25, 0), (26, 0)] rfl ?_
          rcases hq3 : wcet_Proves.f K l0 r2.1.Worst r2.1.Rest with _ | r3
          · rw [hq3] at h; cases h
          rw [hq3] at h
          simp only [] at h
          refine ge_batch [0, 1] (ans := [.val (.int .i64 r2.1.Worst), .val ((.slice Z1 r2.1.Rest.length cz1))]) (vs := [(34, .agg #[.int .i64 r2.1.Worst, (.slice Z1 r2.1.Rest.length cz1)]), (33, .slice A0 l0.length c0)]) (l := [.loaded ⟨b1, 0, none⟩ (.int .i64 r2.1.Worst), .loaded ⟨b1, 1, none⟩ ((.slice Z1 r2.1.Rest.length cz1))]) (by kernel_rfl) ⟨hS12.cell 1 rfl rfl, hS12.cell 1 rfl rfl, trivial⟩ ?_
          refine ge_call (d := some 35) (f := 38) (args := #[.slice A0 l0.length c0, .agg #[.int .i64 r2.1.Worst, (.slice Z1 r2.1.Rest.length cz1)]]) (by kernel_rfl) (wcet_Proves_ok K l0 A0 c0 r2.1.Worst r2.1.Rest Z1 cz1 _ (hS12.rd hR0) hL0 (hS12.rdAt 2 rfl) (hS12.capAt 2 rfl) _ hq3) ?_
          rintro _ w7 ⟨rfl, hS13⟩
          refine ⟨_, rfl, hS13.below, ?_⟩
          have hS14 := hS12.call hS13
          refine ge_batch [3] (ans := []) (vs := [(36, .bool r3)]) (l := []) (by kernel_rfl) trivial ?_
          by_cases hc5 : r3 = true
          · rw [if_pos hc5] at h
            refine ge_known (t := 36) (b := r3) (c := true) (by kernel_rfl) hc5 ?_
            rcases hq4 : wcet_Proves.f K l0 (IntKind.i64.wrap (r2.1.Worst - 1)) r2.1.Rest with _ | r4
            · rw [hq4] at h; cases h
            rw [hq4] at h
            simp only [] at h
            refine ge_batch [4, 5, 6, 7, 8, 9, 10, 11] (ans := [.val (.int .i64 r2.1.Worst), .val ((.slice Z1 r2.1.Rest.length cz1))]) (vs := [(44, .agg #[.int .i64 (IntKind.i64.wrap (r2.1.Worst - 1)), (.slice Z1 r2.1.Rest.length cz1)]), (43, (.slice Z1 r2.1.Rest.length cz1)), (42, .pointer (some ⟨b1, 1, none⟩)), (41, .int .i64 (IntKind.i64.wrap (r2.1.Worst - 1))), (40, .int .i64 1), (39, .int .i64 r2.1.Worst), (38, .pointer (some ⟨b1, 0, none⟩)), (37, .slice A0 l0.length c0)]) (l := [.loaded ⟨b1, 0, none⟩ (.int .i64 r2.1.Worst), .loaded ⟨b1, 1, none⟩ ((.slice Z1 r2.1.Rest.length cz1))]) (by kernel_rfl) ⟨hS14.cell 1 rfl rfl, hS14.cell 1 rfl rfl, trivial⟩ ?_
            refine ge_call (d := some 45) (f := 38) (args := #[.slice A0 l0.length c0, .agg #[.int .i64 (IntKind.i64.wrap (r2.1.Worst - 1)), (.slice Z1 r2.1.Rest.length cz1)]]) (by kernel_rfl) (wcet_Proves_ok K l0 A0 c0 (IntKind.i64.wrap (r2.1.Worst - 1)) r2.1.Rest Z1 cz1 _ (hS14.rd hR0) hL0 (hS14.rdAt 2 rfl) (hS14.capAt 2 rfl) _ hq4) ?_
            rintro _ w8 ⟨rfl, hS15⟩
            refine ⟨_, rfl, hS15.below, ?_⟩
            have hS16 := hS14.call hS15
            refine ge_batch [13, 14, 15] (ans := []) (vs := [(48, .bool (!r4)), (47, .bool (!r4)), (46, .bool (!r4))]) (l := []) (by kernel_rfl) trivial ?_
            by_cases hc6 : r4 = true
            · rw [if_pos hc6] at h
              refine ge_known (t := 48) (b := !r4) (c := false) (by kernel_rfl) (congrArg (fun z => !z) hc6) ?_
              refine ge_batch [16, 17, 18, 19, 20, 21, 22] (ans := []) (vs := [(55, undef), (54, undef), (53, undef), (52, undef), (51, undef), (50, undef), (49, undef)]) (l := []) (by kernel_rfl) trivial ?_
              refine ge_off rfl rfl rfl (by kernel_rfl) ?_
              refine ge_batch [24, 25, 26] (ans := []) (vs := [(6, .bool false), (58, .bool false), (57, undef)]) (l := []) (by kernel_rfl) trivial ?_
              refine ge_nil fun a hF => hK12 _ _ ?_ a hF
              have hS17 := hS16.takeN 0
              obtain rfl := Option.some.inj h
              exact we_ret (post_ret (rs := [.tmp 6]) (ans := []) (vs := [.bool false]) (l := []) rfl (by kernel_rfl) trivial ⟨rfl, hS17⟩)
            · rw [if_neg hc6] at h
              refine ge_known (t := 48) (b := !r4) (c := true) (by kernel_rfl) (congrArg (fun z => !z) (Bool.eq_false_iff.2 hc6)) ?_
              rcases hq5 : wcet_Proves.f K l0 (IntKind.i64.wrap (r2.1.Worst - 1)) l2 with _ | r5
              · rw [hq5] at h; cases h
              rw [hq5] at h
              simp only [] at h
              refine ge_batch [16, 17, 18, 19, 20, 21, 22] (ans := [.val (.int .i64 r2.1.Worst)]) (vs := [(55, .agg #[.int .i64 (IntKind.i64.wrap (r2.1.Worst - 1)), .slice A2 l2.length c2]), (54, .slice A2 l2.length c2), (53, .int .i64 (IntKind.i64.wrap (r2.1.Worst - 1))), (52, .int .i64 1), (51, .int .i64 r2.1.Worst), (50, .pointer (some ⟨b1, 0, none⟩)), (49, .slice A0 l0.length c0)]) (l := [.loaded ⟨b1, 0, none⟩ (.int .i64 r2.1.Worst)]) (by kernel_rfl) ⟨hS16.cell 1 rfl rfl, trivial⟩ ?_
              refine ge_call (d := some 56) (f := 38) (args := #[.slice A0 l0.length c0, .agg #[.int .i64 (IntKind.i64.wrap (r2.1.Worst - 1)), .slice A2 l2.length c2]]) (by kernel_rfl) (wcet_Proves_ok K l0 A0 c0 (IntKind.i64.wrap (r2.1.Worst - 1)) l2 A2 c2 _ (hS16.rd hR0) hL0 (hS16.rd hR2) hL2 _ hq5) ?_
              rintro _ w9 ⟨rfl, hS18⟩
              refine ⟨_, rfl, hS18.below, ?_⟩
              have hS19 := hS16.call hS18
              refine ge_batch [24, 25, 26] (ans := []) (vs := [(6, .bool (!r5)), (58, .bool (!r5)), (57, .bool (!r5))]) (l := []) (by kernel_rfl) trivial ?_
              refine ge_nil fun a hF => hK12 _ _ ?_ a hF
              have hS20 := hS19.takeN 0
              obtain rfl := Option.some.inj h
              exact we_ret (post_ret (rs := [.tmp 6]) (ans := []) (vs := [.bool (!r5)]) (l := []) rfl (by kernel_rfl) trivial ⟨rfl, hS20⟩)
          · rw [if_neg hc5] at h
            refine ge_known (t := 36) (b := r3) (c := false) (by kernel_rfl) (Bool.eq_false_iff.2 hc5) ?_
            refine ge_batch [4, 5, 6, 7, 8, 9, 10, 11] (ans := []) (vs := [(44, undef), (43, undef), (42, undef), (41, undef), (40, undef), (39, undef), (38, undef), (37, undef)]) (l := []) (by kernel_rfl) trivial ?_
            refine ge_off rfl rfl rfl (by kernel_rfl) ?_
            refine ge_batch [13, 14, 15, 16, 17, 18, 19, 20, 21, 22] (ans := []) (vs := [(55, undef), (54, undef), (53, undef), (52, undef), (51, undef), (50, undef), (49, undef), (48, .bool false), (47, .bool false), (46, undef)]) (l := []) (by kernel_rfl) trivial ?_
            refine ge_off rfl rfl rfl (by kernel_rfl) ?_
            refine ge_batch [24, 25, 26] (ans := []) (vs := [(6, .bool false), (58, .bool false), (57, undef)]) (l := []) (by kernel_rfl) trivial ?_
            refine ge_nil fun a hF => hK12 _ _ ?_ a hF
            have hS21 := hS14.takeN 0
            obtain rfl := Option.some.inj h
            exact we_ret (post_ret (rs := [.tmp 6]) (ans := []) (vs := [.bool false]) (l := []) rfl (by kernel_rfl) trivial ⟨rfl, hS21⟩)
        · rw [if_neg hc4] at h
          refine we_known (t := 32) (b := decide (x1 < 1)) (v := false) (by kernel_rfl) (decide_eq_false hc4) ?_
          refine we_false (by kernel_rfl) ?_
          refine we_skip fun a hF => hK10 _ _ ?_ a hF
          refine we_seq fun K13 hK13 => ?_
          refine we_region [(0, 0), (1, 0), (2, 1), (3, 0), (4, 0), (5, 0), (6, 0), (7, 0), (8, 0), (9, 0), (10, 0), (11, 0), (12, 1), (13, 0), (14, 0), (15, 0), (16, 0), (17, 0), (18, 0), (19, 0), (20, 0), (21, 0), (22, 0), (23, 1), (24, 0), (25, 0), (26, 0)] rfl ?_
          rcases hq6 : wcet_Proves.f K l0 r2.1.Worst r2.1.Rest with _ | r6
          · rw [hq6] at h; cases h
          rw [hq6] at h
          simp only [] at h
          refine ge_batch [0, 1] (ans := [.val (.int .i64 r2.1.Worst), .val ((.slice Z1 r2.1.Rest.length cz1))]) (vs := [(34, .agg #[.int .i64 r2.1.Worst, (.slice Z1 r2.1.Rest.length cz1)]), (33, .slice A0 l0.length c0)]) (l := [.loaded ⟨b1, 0, none⟩ (.int .i64 r2.1.Worst), .loaded ⟨b1, 1, none⟩ ((.slice Z1 r2.1.Rest.length cz1))]) (by kernel_rfl) ⟨hS12.cell 1 rfl rfl, hS12.cell 1 rfl rfl, trivial⟩ ?_
          refine ge_call (d := some 35) (f := 38) (args := #[.slice A0 l0.length c0, .agg #[.int .i64 r2.1.Worst, (.slice Z1 r2.1.Rest.length cz1)]]) (by kernel_rfl) (wcet_Proves_ok K l0 A0 c0 r2.1.Worst r2.1.Rest Z1 cz1 _ (hS12.rd hR0) hL0 (hS12.rdAt 2 rfl) (hS12.capAt 2 rfl) _ hq6) ?_
          rintro _ w10 ⟨rfl, hS22⟩
          refine ⟨_, rfl, hS22.below, ?_⟩
          have hS23 := hS12.call hS22
          refine ge_batch [3] (ans := []) (vs := [(36, .bool r6)]) (l := []) (by kernel_rfl) trivial ?_
          by_cases hc7 : r6 = true
          · rw [if_pos hc7] at h
            refine ge_known (t := 36) (b := r6) (c := true) (by kernel_rfl) hc7 ?_
            rcases hq7 : wcet_Proves.f K l0 (IntKind.i64.wrap (r2.1.Worst - x1)) r2.1.Rest with _ | r7
            · rw [hq7] at h; cases h
            rw [hq7] at h
            simp only [] at h
            refine ge_batch [4, 5, 6, 7, 8, 9, 10, 11] (ans := [.val (.int .i64 r2.1.Worst), .val ((.slice Z1 r2.1.Rest.length cz1))]) (vs := [(44, .agg #[.int .i64 (IntKind.i64.wrap (r2.1.Worst - x1)), (.slice Z1 r2.1.Rest.length cz1)]), (43, (.slice Z1 r2.1.Rest.length cz1)), (42, .pointer (some ⟨b1, 1, none⟩)), (41, .int .i64 (IntKind.i64.wrap (r2.1.Worst - x1))), (40, .int .i64 x1), (39, .int .i64 r2.1.Worst), (38, .pointer (some ⟨b1, 0, none⟩)), (37, .slice A0 l0.length c0)]) (l := [.loaded ⟨b1, 0, none⟩ (.int .i64 r2.1.Worst), .loaded ⟨b1, 1, none⟩ ((.slice Z1 r2.1.Rest.length cz1))]) (by kernel_rfl) ⟨hS23.cell 1 rfl rfl, hS23.cell 1 rfl rfl, trivial⟩ ?_
            refine ge_call (d := some 45) (f := 38) (args := #[.slice A0 l0.length c0, .agg #[.int .i64 (IntKind.i64.wrap (r2.1.Worst - x1)), (.slice Z1 r2.1.Rest.length cz1)]]) (by kernel_rfl) (wcet_Proves_ok K l0 A0 c0 (IntKind.i64.wrap (r2.1.Worst - x1)) r2.1.Rest Z1 cz1 _ (hS23.rd hR0) hL0 (hS23.rdAt 2 rfl) (hS23.capAt 2 rfl) _ hq7) ?_
            rintro _ w11 ⟨rfl, hS24⟩
            refine ⟨_, rfl, hS24.below, ?_⟩
            have hS25 := hS23.call hS24
            refine ge_batch [13, 14, 15] (ans := []) (vs := [(48, .bool (!r7)), (47, .bool (!r7)), (46, .bool (!r7))]) (l := []) (by kernel_rfl) trivial ?_
            by_cases hc8 : r7 = true
            · rw [if_pos hc8] at h
              refine ge_known (t := 48) (b := !r7) (c := false) (by kernel_rfl) (congrArg (fun z => !z) hc8) ?_
              refine ge_batch [16, 17, 18, 19, 20, 21, 22] (ans := []) (vs := [(55, undef), (54, undef), (53, undef), (52, undef), (51, undef), (50, undef), (49, undef)]) (l := []) (by kernel_rfl) trivial ?_
              refine ge_off rfl rfl rfl (by kernel_rfl) ?_
              refine ge_batch [24, 25, 26] (ans := []) (vs := [(6, .bool false), (58, .bool false), (57, undef)]) (l := []) (by kernel_rfl) trivial ?_
              refine ge_nil fun a hF => hK13 _ _ ?_ a hF
              have hS26 := hS25.takeN 0
              obtain rfl := Option.some.inj h
              exact we_ret (post_ret (rs := [.tmp 6]) (ans := []) (vs := [.bool false]) (l := []) rfl (by kernel_rfl) trivial ⟨rfl, hS26⟩)
            · rw [if_neg hc8] at h
              refine ge_known (t := 48) (b := !r7) (c := true) (by kernel_rfl) (congrArg (fun z => !z) (Bool.eq_false_iff.2 hc8)) ?_
              rcases hq8 : wcet_Proves.f K l0 (IntKind.i64.wrap (r2.1.Worst - x1)) l2 with _ | r8
              · rw [hq8] at h; cases h
              rw [hq8] at h
              simp only [] at h
              refine ge_batch [16, 17, 18, 19, 20, 21, 22] (ans := [.val (.int .i64 r2.1.Worst)]) (vs := [(55, .agg #[.int .i64 (IntKind.i64.wrap (r2.1.Worst - x1)), .slice A2 l2.length c2]), (54, .slice A2 l2.length c2), (53, .int .i64 (IntKind.i64.wrap (r2.1.Worst - x1))), (52, .int .i64 x1), (51, .int .i64 r2.1.Worst), (50, .pointer (some ⟨b1, 0, none⟩)), (49, .slice A0 l0.length c0)]) (l := [.loaded ⟨b1, 0, none⟩ (.int .i64 r2.1.Worst)]) (by kernel_rfl) ⟨hS25.cell 1 rfl rfl, trivial⟩ ?_
              refine ge_call (d := some 56) (f := 38) (args := #[.slice A0 l0.length c0, .agg #[.int .i64 (IntKind.i64.wrap (r2.1.Worst - x1)), .slice A2 l2.length c2]]) (by kernel_rfl) (wcet_Proves_ok K l0 A0 c0 (IntKind.i64.wrap (r2.1.Worst - x1)) l2 A2 c2 _ (hS25.rd hR0) hL0 (hS25.rd hR2) hL2 _ hq8) ?_
              rintro _ w12 ⟨rfl, hS27⟩
              refine ⟨_, rfl, hS27.below, ?_⟩
              have hS28 := hS25.call hS27
              refine ge_batch [24, 25, 26] (ans := []) (vs := [(6, .bool (!r8)), (58, .bool (!r8)), (57, .bool (!r8))]) (l := []) (by kernel_rfl) trivial ?_
              refine ge_nil fun a hF => hK13 _ _ ?_ a hF
              have hS29 := hS28.takeN 0
              obtain rfl := Option.some.inj h
              exact we_ret (post_ret (rs := [.tmp 6]) (ans := []) (vs := [.bool (!r8)]) (l := []) rfl (by kernel_rfl) trivial ⟨rfl, hS29⟩)
          · rw [if_neg hc7] at h
            refine ge_known (t := 36) (b := r6) (c := false) (by kernel_rfl) (Bool.eq_false_iff.2 hc7) ?_
            refine ge_batch [4, 5, 6, 7, 8, 9, 10, 11] (ans := []) (vs := [(44, undef), (43, undef), (42, undef), (41, undef), (40, undef), (39, undef), (38, undef), (37, undef)]) (l := []) (by kernel_rfl) trivial ?_
            refine ge_off rfl rfl rfl (by kernel_rfl) ?_
            refine ge_batch [13, 14, 15, 16, 17, 18, 19, 20, 21, 22] (ans := []) (vs := [(55, undef), (54, undef), (53, undef), (52, undef), (51, undef), (50, undef), (49, undef), (48, .bool false), (47, .bool false), (46, undef)]) (l := []) (by kernel_rfl) trivial ?_
            refine ge_off rfl rfl rfl (by kernel_rfl) ?_
            refine ge_batch [24, 25, 26] (ans := []) (vs := [(6, .bool false), (58, .bool false), (57, undef)]) (l := []) (by kernel_rfl) trivial ?_
            refine ge_nil fun a hF => hK13 _ _ ?_ a hF
            have hS30 := hS23.takeN 0
            obtain rfl := Option.some.inj h
            exact we_ret (post_ret (rs := [.tmp 6]) (ans := []) (vs := [.bool false]) (l := []) rfl (by kernel_rfl) trivial ⟨rfl, hS30⟩)
      · rw [if_neg hc3] at h
        refine we_known (t := 21) (b := (r2.2.Code != 0)) (v := true) (by kernel_rfl) (bne_iff_ne.2 hc3) ?_
        refine we_true (by kernel_rfl) ?_
        refine we_seq fun K14 hK14 => ?_
        refine we_region [(0, 0), (1, 0), (2, 0), (3, 0), (4, 0), (5, 0), (6, 0), (7, 0), (8, 0), (9, 0)] rfl ?_
        refine ge_batch [0, 1, 2, 3] (ans := [.val (.int .i64 r2.1.Worst)]) (vs := [(25, .bool (r2.1.Worst == 0)), (24, .bool (r2.1.Worst == 0)), (23, .int .i64 r2.1.Worst), (22, .pointer (some ⟨b1, 0, none⟩))]) (l := [.loaded ⟨b1, 0, none⟩ (.int .i64 r2.1.Worst)]) (by kernel_rfl) ⟨hS12.cell 1 rfl rfl, trivial⟩ ?_
        by_cases hc9 : r2.1.Worst = 0
        · rw [if_pos hc9] at h
          refine ge_known (t := 25) (b := (r2.1.Worst == 0)) (c := true) (by kernel_rfl) (beq_iff_eq.2 hc9) ?_
          refine ge_batch [4, 5, 6, 7, 8, 9] (ans := [.val ((.slice Z1 r2.1.Rest.length cz1))]) (vs := [(6, .bool ((r2.1.Rest.length : Int) == 0)), (30, .bool ((r2.1.Rest.length : Int) == 0)), (29, .bool ((r2.1.Rest.length : Int) == 0)), (28, .int .i64 (r2.1.Rest.length : Int)), (27, (.slice Z1 r2.1.Rest.length cz1)), (26, .pointer (some ⟨b1, 1, none⟩))]) (l := [.loaded ⟨b1, 1, none⟩ ((.slice Z1 r2.1.Rest.length cz1))]) (by kernel_rfl) ⟨hS12.cell 1 rfl rfl, trivial⟩ ?_
          refine ge_nil fun a hF => hK14 _ _ ?_ a hF
          have hS31 := hS12.takeN 0
          obtain rfl := Option.some.inj h
          exact we_ret (post_ret (rs := [.tmp 6]) (ans := []) (vs := [.bool ((r2.1.Rest.length : Int) == 0)]) (l := []) rfl (by kernel_rfl) trivial ⟨rfl, hS31⟩)
        · rw [if_neg hc9] at h
          refine ge_known (t := 25) (b := (r2.1.Worst == 0)) (c := false) (by kernel_rfl) (beq_eq_false_iff_ne.2 hc9) ?_
          refine ge_batch [4, 5, 6, 7, 8, 9] (ans := []) (vs := [(6, .bool false), (30, .bool false), (29, undef), (28, undef), (27, undef), (26, undef)]) (l := []) (by kernel_rfl) trivial ?_
          refine ge_nil fun a hF => hK14 _ _ ?_ a hF
          have hS32 := hS12.takeN 0
          obtain rfl := Option.some.inj h
          exact we_ret (post_ret (rs := [.tmp 6]) (ans := []) (vs := [.bool false]) (l := []) rfl (by kernel_rfl) trivial ⟨rfl, hS32⟩)
  · rw [if_neg hc1] at h
    refine we_known (t := 10) (b := !r1) (v := true) (by kernel_rfl) (congrArg (fun z => !z) (Bool.eq_false_iff.2 hc1)) ?_
    refine we_true (by kernel_rfl) ?_
    refine we_seq fun K15 hK15 => ?_
    refine we_region [(0, 0)] rfl ?_
    refine ge_batch [0] (ans := []) (vs := [(6, .bool false)]) (l := []) (by kernel_rfl) trivial ?_
    refine ge_nil fun a hF => hK15 _ _ ?_ a hF
    obtain rfl := Option.some.inj h
    exact we_ret (post_ret (rs := [.tmp 6]) (ans := []) (vs := [.bool false]) (l := []) rfl (by kernel_rfl) trivial ⟨rfl, hS2⟩)
end Go.Proofs.Ytnckikjcjgmdlaa.GV
