/- Walks of single functions, written by a program of this work. -/
import Derived.Test.YtccfilmiboepjaaDoorGWNetTimes3
namespace Go.Proofs.YtccfilmiboepjaaDoor.GV
open Go Go.RowKit
set_option linter.unusedVariables false
set_option linter.unusedSimpArgs false
set_option maxRecDepth 100000

/-! punctual/punctualref.BusTimes$2 -/
abbrev punctualref_BusTimes_2.Post (w0 : World) (r : Int) (e : Ending) (w : World) : Prop := e = .returned (.int .i64 r) ∧ St w0 w []
def punctualref_BusTimes_2.r0 (x0 : Int) (xf_3 : Int) (lf_4 : List SFrame) : Int × Int → Option ((Int × Int) ⊕ (Int ⊕ Int))
  | (z1, z2) =>
    if z2 < xf_3 then
      if 0 ≤ z2 then
        match lf_4[(z2).toNat]? with
        | none => none
        | some e1 =>
          if e1.T = 0 then
            none
          else
            some (.inl (IntKind.i64.wrap (z1 + (IntKind.i64.wrap ((IntKind.i64.wrap ((IntKind.i64.wrap (Int.tdiv (IntKind.i64.wrap (x0 + e1.J)) e1.T)) + 1)) * e1.C))), IntKind.i64.wrap (z2 + 1)))
      else
        none
    else
      some (.inr (.inl z1))
def punctualref_BusTimes_2.f (K : Nat) (x0 : Int) (xf_0 : Int) (xf_1 : Int) (xf_2 : SFrame) (xf_3 : Int) (lf_4 : List SFrame) : Option Int :=
  match iter (punctualref_BusTimes_2.r0 x0 xf_3 lf_4) K (IntKind.i64.wrap (xf_0 + (IntKind.i64.wrap (xf_1 * xf_2.C))), 0) with
  | none => none
  | some (.inl z4) =>
    some z4
  | some (.inr rr1) =>
    some rr1
abbrev punctualref_BusTimes_2.A0 (K : Nat) (w0 : World) (x0 : Int) (bf_0 : Nat) (xf_0 : Int) (bf_1 : Nat) (xf_1 : Int) (bf_2 : Nat) (xf_2 : SFrame) (bf_3 : Nat) (xf_3 : Int) (bf_4 : Nat) (lf_4 : List SFrame) (Af_4 : Option Addr) (cf_4 : Nat) (hBf_0 : Glob w0 bf_0 [.int .i64 xf_0]) (hBf_1 : Glob w0 bf_1 [.int .i64 xf_1]) (hBf_2 : Glob w0 bf_2 [.int .i64 xf_2.C, .int .i64 xf_2.T, .int .i64 xf_2.D, .int .i64 xf_2.J]) (hBf_3 : Glob w0 bf_3 [.int .i64 xf_3]) (hRf_4 : RdL w0 Af_4 lf_4) (hLf_4 : lf_4.length ≤ cf_4) (hBf_4 : Glob w0 bf_4 [.slice Af_4 lf_4.length cf_4]) : (Int × Int) → Act → World → Prop := fun (s : Int × Int) a w => St w0 w [] ∧ Frm 44 a [(0, .int .i64 x0), (4, .pointer (some ⟨bf_3, 0, none⟩)), (5, .pointer (some ⟨bf_4, 0, none⟩)), (8, .int .i64 s.1), (9, .int .i64 s.2)]
abbrev punctualref_BusTimes_2.B0 (K : Nat) (w0 : World) (x0 : Int) (bf_0 : Nat) (xf_0 : Int) (bf_1 : Nat) (xf_1 : Int) (bf_2 : Nat) (xf_2 : SFrame) (bf_3 : Nat) (xf_3 : Int) (bf_4 : Nat) (lf_4 : List SFrame) (Af_4 : Option Addr) (cf_4 : Nat) (hBf_0 : Glob w0 bf_0 [.int .i64 xf_0]) (hBf_1 : Glob w0 bf_1 [.int .i64 xf_1]) (hBf_2 : Glob w0 bf_2 [.int .i64 xf_2.C, .int .i64 xf_2.T, .int .i64 xf_2.D, .int .i64 xf_2.J]) (hBf_3 : Glob w0 bf_3 [.int .i64 xf_3]) (hRf_4 : RdL w0 Af_4 lf_4) (hLf_4 : lf_4.length ≤ cf_4) (hBf_4 : Glob w0 bf_4 [.slice Af_4 lf_4.length cf_4]) : (Int ⊕ Int) → Exit → Act → World → Prop := Exits 0 (fun (s : Int) a w => St w0 w [] ∧ Frm 44 a [(8, .int .i64 s)]) (Rets Tryd.prog Tryd.f76 (punctualref_BusTimes_2.Post w0))
theorem punctualref_BusTimes_2_r0 (K : Nat) (w0 : World) (x0 : Int) (bf_0 : Nat) (xf_0 : Int) (bf_1 : Nat) (xf_1 : Int) (bf_2 : Nat) (xf_2 : SFrame) (bf_3 : Nat) (xf_3 : Int) (bf_4 : Nat) (lf_4 : List SFrame) (Af_4 : Option Addr) (cf_4 : Nat) (hBf_0 : Glob w0 bf_0 [.int .i64 xf_0]) (hBf_1 : Glob w0 bf_1 [.int .i64 xf_1]) (hBf_2 : Glob w0 bf_2 [.int .i64 xf_2.C, .int .i64 xf_2.T, .int .i64 xf_2.D, .int .i64 xf_2.J]) (hBf_3 : Glob w0 bf_3 [.int .i64 xf_3]) (hRf_4 : RdL w0 Af_4 lf_4) (hLf_4 : lf_4.length ≤ cf_4) (hBf_4 : Glob w0 bf_4 [.slice Af_4 lf_4.length cf_4]) (s : Int × Int) (o : (Int × Int) ⊕ (Int ⊕ Int)) (h : punctualref_BusTimes_2.r0 x0 xf_3 lf_4 s = some o) (a : Act) (w : World) (hA : punctualref_BusTimes_2.A0 K w0 x0 bf_0 xf_0 bf_1 xf_1 bf_2 xf_2 bf_3 xf_3 bf_4 lf_4 Af_4 cf_4 hBf_0 hBf_1 hBf_2 hBf_3 hRf_4 hLf_4 hBf_4 s a w) (Q : Exit → Act → World → Prop) (hQ : ∀ x a w, Outs (punctualref_BusTimes_2.A0 K w0 x0 bf_0 xf_0 bf_1 xf_1 bf_2 xf_2 bf_3 xf_3 bf_4 lf_4 Af_4 cf_4 hBf_0 hBf_1 hBf_2 hBf_3 hRf_4 hLf_4 hBf_4) (punctualref_BusTimes_2.B0 K w0 x0 bf_0 xf_0 bf_1 xf_1 bf_2 xf_2 bf_3 xf_3 bf_4 lf_4 Af_4 cf_4 hBf_0 hBf_1 hBf_2 hBf_3 hRf_4 hLf_4 hBf_4) o x a w → Q x a w) : (subF Tryd.f76 [1, 1, 0, 1, 0, 0]).wp Tryd.prog Q a w := by
  obtain ⟨z1, z2⟩ := s
  obtain ⟨hS, hF⟩ := hA
  replace hS : St w0 w [] := hS
  simp only [punctualref_BusTimes_2.r0] at h
  refine (?_ : WE Tryd.prog 44 (subF Tryd.f76 [1, 1, 0, 1, 0, 0]) Q [(0, .int .i64 x0), (4, .pointer (some ⟨bf_3, 0, none⟩)), (5, .pointer (some ⟨bf_4, 0, none⟩)), (8, .int .i64 z1), (9, .int .i64 z2)] w) a hF
  clear hF a
  refine we_seq fun K5 hK5 => ?_
  refine we_seq fun K6 hK6 => ?_
  refine we_region [(0, 0), (1, 0), (2, 0)] rfl ?_
  refine ge_batch [0, 1, 2] (ans := [.val (.int .i64 xf_3)]) (vs := [(18, .bool (decide (z2 < xf_3))), (17, .int .i64 xf_3), (16, .int .i64 z2)]) (l := [.loaded ⟨bf_3, 0, none⟩ (.int .i64 xf_3)]) (by kernel_rfl) ⟨hS.glob hBf_3 rfl, trivial⟩ ?_
  refine ge_nil fun a hF => hK6 _ _ ?_ a hF
  by_cases hc1 : z2 < xf_3
  · rw [if_pos hc1] at h
    refine we_known (t := 18) (b := decide (z2 < xf_3)) (v := true) (by kernel_rfl) (decide_eq_true hc1) ?_
    refine we_true (by kernel_rfl) ?_
    refine we_skip fun a hF => hK5 _ _ ?_ a hF
    refine we_seq fun K7 hK7 => ?_
    refine we_block ?_
    refine we_draws (by kernel_rfl) [(0, 0), (1, 0), (2, 0), (3, 0), (4, 0), (5, 0), (6, 0), (7, 0), (8, 0), (9, 0), (10, 0), (11, 0), (12, 0), (13, 0), (14, 0), (15, 0), (16, 0), (17, 0), (18, 0), (19, 0), (20, 0), (21, 0), (22, 0)] (by kernel_rfl) ?_
    have hS1 := hS.drew
    refine ge_batch [0, 1, 2, 3] (ans := [.val (.slice Af_4 lf_4.length cf_4)]) (vs := [(24, .int .i64 z2), (23, .slice Af_4 lf_4.length cf_4), (22, .int .i64 x0), (21, .int .i64 z1)]) (l := [.loaded ⟨bf_4, 0, none⟩ (.slice Af_4 lf_4.length cf_4)]) (by kernel_rfl) ⟨hS1.glob hBf_4 rfl, trivial⟩ ?_
    by_cases hc2 : 0 ≤ z2
    · rw [if_pos hc2] at h
      rcases hx1 : lf_4[(z2).toNat]? with _ | e1
      · rw [hx1] at h; cases h
      rw [hx1] at h
      simp only [] at h
      refine ge_index (d := 25) (ty := 0) (t := 60) (el := 63) (sz := 4) (m := lf_4.length) (c := cf_4) (x := (.tmp 23)) (y := (.tmp 24)) (A := Af_4) (k' := .i64) (j := z2) (jn := ((z2).toNat)) (b0 := blkOf Af_4) (o0 := offOf Af_4) (by kernel_rfl) (by kernel_rfl) (by kernel_rfl) (by kernel_rfl) (by kernel_rfl) ((hS1.rd hRf_4).eqSome (pos_of_get hx1)) (Int.toNat_of_nonneg hc2).symm (lt_of_get hx1) ?_
      refine ge_batch [5, 6, 7, 8, 9] (ans := [.val (.int .i64 e1.J), .val (.slice Af_4 lf_4.length cf_4)]) (vs := [(30, .int .i64 z2), (29, .slice Af_4 lf_4.length cf_4), (28, .int .i64 (IntKind.i64.wrap (x0 + e1.J))), (27, .int .i64 e1.J), (26, .pointer (some ⟨blkOf Af_4, offOf Af_4 + (z2).toNat * 4 + 3, none⟩))]) (l := [.loaded ⟨blkOf Af_4, offOf Af_4 + ((z2).toNat) * 4 + 3, none⟩ (.int .i64 e1.J), .loaded ⟨bf_4, 0, none⟩ (.slice Af_4 lf_4.length cf_4)]) (by kernel_rfl) ⟨RdL.cell (j := 3) (hS1.rd hRf_4) hx1 rfl, hS1.glob hBf_4 rfl, trivial⟩ ?_
      refine ge_index (d := 31) (ty := 0) (t := 60) (el := 63) (sz := 4) (m := lf_4.length) (c := cf_4) (x := (.tmp 29)) (y := (.tmp 30)) (A := Af_4) (k' := .i64) (j := z2) (jn := ((z2).toNat)) (b0 := blkOf Af_4) (o0 := offOf Af_4) (by kernel_rfl) (by kernel_rfl) (by kernel_rfl) (by kernel_rfl) (by kernel_rfl) ((hS1.rd hRf_4).eqSome (pos_of_get hx1)) (Int.toNat_of_nonneg hc2).symm (lt_of_get hx1) ?_
      refine ge_batch [11, 12] (ans := [.val (.int .i64 e1.T)]) (vs := [(33, .int .i64 e1.T), (32, .pointer (some ⟨blkOf Af_4, offOf Af_4 + (z2).toNat * 4 + 1, none⟩))]) (l := [.loaded ⟨blkOf Af_4, offOf Af_4 + ((z2).toNat) * 4 + 1, none⟩ (.int .i64 e1.T)]) (by kernel_rfl) ⟨RdL.cell (j := 1) (hS1.rd hRf_4) hx1 rfl, trivial⟩ ?_
      by_cases hc3 : e1.T = 0
      · rw [if_pos hc3] at h
        cases h
      · rw [if_neg hc3] at h
        refine ge_div (d := 34) (ty := 3) (op := .quo) (x := (.tmp 28)) (y := (.tmp 33)) (t := 3) (t2 := 3) (k := .i64) (p := (IntKind.i64.wrap (x0 + e1.J))) (q := e1.T) (v := .int .i64 (IntKind.i64.wrap (Int.tdiv (IntKind.i64.wrap (x0 + e1.J)) e1.T))) (by kernel_rfl) (by kernel_rfl) (by kernel_rfl) hc3 rfl ?_
        refine ge_batch [14, 15, 16] (ans := [.val (.slice Af_4 lf_4.length cf_4)]) (vs := [(37, .int .i64 z2), (36, .slice Af_4 lf_4.length cf_4), (35, .int .i64 (IntKind.i64.wrap ((IntKind.i64.wrap (Int.tdiv (IntKind.i64.wrap (x0 + e1.J)) e1.T)) + 1)))]) (l := [.loaded ⟨bf_4, 0, none⟩ (.slice Af_4 lf_4.length cf_4)]) (by kernel_rfl) ⟨hS1.glob hBf_4 rfl, trivial⟩ ?_
        refine ge_index (d := 38) (ty := 0) (t := 60) (el := 63) (sz := 4) (m := lf_4.length) (c := cf_4) (x := (.tmp 36)) (y := (.tmp 37)) (A := Af_4) (k' := .i64) (j := z2) (jn := ((z2).toNat)) (b0 := blkOf Af_4) (o0 := offOf Af_4) (by kernel_rfl) (by kernel_rfl) (by kernel_rfl) (by kernel_rfl) (by kernel_rfl) ((hS1.rd hRf_4).eqSome (pos_of_get hx1)) (Int.toNat_of_nonneg hc2).symm (lt_of_get hx1) ?_
        refine ge_batch [18, 19, 20, 21, 22] (ans := [.val (.int .i64 e1.C)]) (vs := [(8, .int .i64 (IntKind.i64.wrap (z1 + (IntKind.i64.wrap ((IntKind.i64.wrap ((IntKind.i64.wrap (Int.tdiv (IntKind.i64.wrap (x0 + e1.J)) e1.T)) + 1)) * e1.C))))), (42, .int .i64 (IntKind.i64.wrap (z1 + (IntKind.i64.wrap ((IntKind.i64.wrap ((IntKind.i64.wrap (Int.tdiv (IntKind.i64.wrap (x0 + e1.J)) e1.T)) + 1)) * e1.C))))), (41, .int .i64 (IntKind.i64.wrap ((IntKind.i64.wrap ((IntKind.i64.wrap (Int.tdiv (IntKind.i64.wrap (x0 + e1.J)) e1.T)) + 1)) * e1.C))), (40, .int .i64 e1.C), (39, .pointer (some ⟨blkOf Af_4, offOf Af_4 + (z2).toNat * 4, none⟩))]) (l := [.loaded ⟨blkOf Af_4, offOf Af_4 + ((z2).toNat) * 4, none⟩ (.int .i64 e1.C)]) (by kernel_rfl) ⟨RdL.cell (j := 0) (hS1.rd hRf_4) hx1 rfl, trivial⟩ ?_
        refine ge_nil fun a hF => hK7 _ _ ?_ a hF
        refine we_region [(0, 0), (1, 0), (2, 0)] rfl ?_
        refine ge_batch [0, 1, 2] (ans := []) (vs := [(9, .int .i64 (IntKind.i64.wrap (z2 + 1))), (20, .int .i64 (IntKind.i64.wrap (z2 + 1))), (19, .int .i64 z2)]) (l := []) (by kernel_rfl) trivial ?_
        obtain rfl := Option.some.inj h
        exact ge_nil fun a hF => hQ _ _ _ (Outs.again ⟨hS1, hF.weaken ⟨by kernel_rfl, by kernel_rfl, by kernel_rfl, by kernel_rfl, by kernel_rfl, trivial⟩⟩)
    · rw [if_neg hc2] at h
      cases h
  · rw [if_neg hc1] at h
    refine we_known (t := 18) (b := decide (z2 < xf_3)) (v := false) (by kernel_rfl) (decide_eq_false hc1) ?_
    refine we_false (by kernel_rfl) ?_
    obtain rfl := Option.some.inj h
    exact we_exit fun a hF => hQ _ _ _ (Outs.out nofun (Exits.here ⟨hS, hF.weaken ⟨by kernel_rfl, trivial⟩⟩))
theorem punctualref_BusTimes_2_ok (K : Nat) (x0 : Int) (bf_0 : Nat) (xf_0 : Int) (bf_1 : Nat) (xf_1 : Int) (bf_2 : Nat) (xf_2 : SFrame) (bf_3 : Nat) (xf_3 : Int) (bf_4 : Nat) (lf_4 : List SFrame) (Af_4 : Option Addr) (cf_4 : Nat) (w0 : World) (hBf_0 : Glob w0 bf_0 [.int .i64 xf_0]) (hBf_1 : Glob w0 bf_1 [.int .i64 xf_1]) (hBf_2 : Glob w0 bf_2 [.int .i64 xf_2.C, .int .i64 xf_2.T, .int .i64 xf_2.D, .int .i64 xf_2.J]) (hBf_3 : Glob w0 bf_3 [.int .i64 xf_3]) (hRf_4 : RdL w0 Af_4 lf_4) (hLf_4 : lf_4.length ≤ cf_4) (hBf_4 : Glob w0 bf_4 [.slice Af_4 lf_4.length cf_4]) (r : Int) (h : punctualref_BusTimes_2.f K x0 xf_0 xf_1 xf_2 xf_3 lf_4 = some r) :
    Calls Tryd.prog 76 #[.int .i64 x0, .pointer (some ⟨bf_0, 0, none⟩), .pointer (some ⟨bf_1, 0, none⟩), .pointer (some ⟨bf_2, 0, none⟩), .pointer (some ⟨bf_3, 0, none⟩), .pointer (some ⟨bf_4, 0, none⟩)] w0 (punctualref_BusTimes_2.Post w0 r) := by
  have hS := St.start w0
  unfold punctualref_BusTimes_2.f at h
  refine calls_enter (n := 44) (args := [.int .i64 x0, .pointer (some ⟨bf_0, 0, none⟩), .pointer (some ⟨bf_1, 0, none⟩), .pointer (some ⟨bf_2, 0, none⟩), .pointer (some ⟨bf_3, 0, none⟩), .pointer (some ⟨bf_4, 0, none⟩)]) (fn := Tryd.f76) rfl rfl rfl rfl ?_
  show WE _ _ _ _ [(0, .int .i64 x0), (1, .pointer (some ⟨bf_0, 0, none⟩)), (2, .pointer (some ⟨bf_1, 0, none⟩)), (3, .pointer (some ⟨bf_2, 0, none⟩)), (4, .pointer (some ⟨bf_3, 0, none⟩)), (5, .pointer (some ⟨bf_4, 0, none⟩))] _
  refine we_seq fun K1 hK1 => ?_
  refine we_region [(0, 0)] rfl ?_
  refine ge_batch [0] (ans := []) (vs := [(7, .int .i64 0)]) (l := []) (by kernel_rfl) trivial ?_
  refine ge_nil fun a hF => hK1 _ _ ?_ a hF
  refine we_seq fun K2 hK2 => ?_
  refine we_region [(0, 0), (1, 0), (2, 0), (3, 0), (4, 0), (5, 0), (6, 0)] rfl ?_
  refine ge_batch [0, 1, 2, 3, 4, 5, 6] (ans := [.val (.int .i64 xf_0), .val (.int .i64 xf_1), .val (.int .i64 xf_2.C)]) (vs := [(8, .int .i64 (IntKind.i64.wrap (xf_0 + (IntKind.i64.wrap (xf_1 * xf_2.C))))), (15, .int .i64 (IntKind.i64.wrap (xf_0 + (IntKind.i64.wrap (xf_1 * xf_2.C))))), (14, .int .i64 (IntKind.i64.wrap (xf_1 * xf_2.C))), (13, .int .i64 xf_2.C), (12, .pointer (some ⟨bf_2, 0, none⟩)), (11, .int .i64 xf_1), (10, .int .i64 xf_0)]) (l := [.loaded ⟨bf_0, 0, none⟩ (.int .i64 xf_0), .loaded ⟨bf_1, 0, none⟩ (.int .i64 xf_1), .loaded ⟨bf_2, 0, none⟩ (.int .i64 xf_2.C)]) (by kernel_rfl) ⟨hS.glob hBf_0 rfl, hS.glob hBf_1 rfl, hS.glob hBf_2 rfl, trivial⟩ ?_
  refine ge_nil fun a hF => hK2 _ _ ?_ a hF
  refine we_seq fun K3 hK3 => ?_
  refine we_seq fun K4 hK4 => ?_
  refine we_region [(0, 0)] rfl ?_
  refine ge_batch [0] (ans := []) (vs := [(9, .int .i64 0)]) (l := []) (by kernel_rfl) trivial ?_
  refine ge_nil fun a hF => hK4 _ _ ?_ a hF
  refine we_block ?_
  rcases hq1 : iter (punctualref_BusTimes_2.r0 x0 xf_3 lf_4) K (IntKind.i64.wrap (xf_0 + (IntKind.i64.wrap (xf_1 * xf_2.C))), 0) with _ | (z4 | rr1)
  · rw [hq1] at h; cases h
  · rw [hq1] at h
    simp only [] at h
    refine we_iter (A := punctualref_BusTimes_2.A0 K w0 x0 bf_0 xf_0 bf_1 xf_1 bf_2 xf_2 bf_3 xf_3 bf_4 lf_4 Af_4 cf_4 hBf_0 hBf_1 hBf_2 hBf_3 hRf_4 hLf_4 hBf_4) (B := punctualref_BusTimes_2.B0 K w0 x0 bf_0 xf_0 bf_1 xf_1 bf_2 xf_2 bf_3 xf_3 bf_4 lf_4 Af_4 cf_4 hBf_0 hBf_1 hBf_2 hBf_3 hRf_4 hLf_4 hBf_4) hq1 (fun a hF => ⟨hS, hF.weaken ⟨by kernel_rfl, by kernel_rfl, by kernel_rfl, by kernel_rfl, by kernel_rfl, trivial⟩⟩) (fun s o hf a w hA Q hQ => punctualref_BusTimes_2_r0 K w0 x0 bf_0 xf_0 bf_1 xf_1 bf_2 xf_2 bf_3 xf_3 bf_4 lf_4 Af_4 cf_4 hBf_0 hBf_1 hBf_2 hBf_3 hRf_4 hLf_4 hBf_4 s o hf a w hA Q hQ) ?_
    rintro _ a w1 _ ⟨rfl, hS2, hF⟩
    replace hS2 : St w0 w1 [] := hS2
    refine hK3 [(8, .int .i64 z4)] w1 ?_ a hF
    refine we_seq fun K8 hK8 => ?_
    refine we_region [(0, 0), (1, 0)] rfl ?_
    refine ge_batch [0, 1] (ans := []) (vs := [(7, .int .i64 z4), (43, .int .i64 z4)]) (l := []) (by kernel_rfl) trivial ?_
    refine ge_nil fun a hF => hK8 _ _ ?_ a hF
    obtain rfl := Option.some.inj h
    exact we_ret (post_ret (rs := [.tmp 7]) (ans := []) (vs := [.int .i64 z4]) (l := []) rfl (by kernel_rfl) trivial ⟨rfl, hS2⟩)
  · rw [hq1] at h
    simp only [] at h
    refine we_iter (A := punctualref_BusTimes_2.A0 K w0 x0 bf_0 xf_0 bf_1 xf_1 bf_2 xf_2 bf_3 xf_3 bf_4 lf_4 Af_4 cf_4 hBf_0 hBf_1 hBf_2 hBf_3 hRf_4 hLf_4 hBf_4) (B := punctualref_BusTimes_2.B0 K w0 x0 bf_0 xf_0 bf_1 xf_1 bf_2 xf_2 bf_3 xf_3 bf_4 lf_4 Af_4 cf_4 hBf_0 hBf_1 hBf_2 hBf_3 hRf_4 hLf_4 hBf_4) hq1 (fun a hF => ⟨hS, hF.weaken ⟨by kernel_rfl, by kernel_rfl, by kernel_rfl, by kernel_rfl, by kernel_rfl, trivial⟩⟩) (fun s o hf a w hA Q hQ => punctualref_BusTimes_2_r0 K w0 x0 bf_0 xf_0 bf_1 xf_1 bf_2 xf_2 bf_3 xf_3 bf_4 lf_4 Af_4 cf_4 hBf_0 hBf_1 hBf_2 hBf_3 hRf_4 hLf_4 hBf_4 s o hf a w hA Q hQ) ?_
    rintro _ a w1 _ ⟨rfl, hb⟩
    obtain rfl := Option.some.inj h
    exact hb

/-! punctual/punctualref.grow -/
abbrev punctualref_grow_1.Post (w0 : World) (r : Int) (e : Ending) (w : World) : Prop := e = .returned (.int .i64 r) ∧ St w0 w []
def punctualref_grow_1.r0 (K : Nat) (xg1_0 : Int) (xg1_1 : Int) (xg1_2 : SFrame) (xg1_3 : Int) (lg1_4 : List SFrame) : Int → Option (Int ⊕ (Unit ⊕ Int))
  | z1 =>
    if z1 ≤ 100000 then
      match punctualref_BusTimes_2.f K z1 xg1_0 xg1_1 xg1_2 xg1_3 lg1_4 with
      | none => none
      | some r1 =>
        if r1 = z1 then
          some (.inr (.inr z1))
        else
          some (.inl r1)
    else
      some (.inr (.inl ()))
def punctualref_grow_1.f (K : Nat) (x0 : Int) (xg1_0 : Int) (xg1_1 : Int) (xg1_2 : SFrame) (xg1_3 : Int) (lg1_4 : List SFrame) : Option Int :=
  match iter (punctualref_grow_1.r0 K xg1_0 xg1_1 xg1_2 xg1_3 lg1_4) K x0 with
  | none => none
  | some (.inl _) =>
    some (-1)
  | some (.inr rr1) =>
    some rr1
abbrev punctualref_grow_1.A0 (K : Nat) (w0 : World) (x0 : Int) (bg1_0 : Nat) (xg1_0 : Int) (bg1_1 : Nat) (xg1_1 : Int) (bg1_2 : Nat) (xg1_2 : SFrame) (bg1_3 : Nat) (xg1_3 : Int) (bg1_4 : Nat) (lg1_4 : List SFrame) (Ag1_4 : Option Addr) (cg1_4 : Nat) (hBg1_0 : Glob w0 bg1_0 [.int .i64 xg1_0]) (hBg1_1 : Glob w0 bg1_1 [.int .i64 xg1_1]) (hBg1_2 : Glob w0 bg1_2 [.int .i64 xg1_2.C, .int .i64 xg1_2.T, .int .i64 xg1_2.D, .int .i64 xg1_2.J]) (hBg1_3 : Glob w0 bg1_3 [.int .i64 xg1_3]) (hRg1_4 : RdL w0 Ag1_4 lg1_4) (hLg1_4 : lg1_4.length ≤ cg1_4) (hBg1_4 : Glob w0 bg1_4 [.slice Ag1_4 lg1_4.length cg1_4]) : Int → Act → World → Prop := fun (s : Int) a w => St w0 w [] ∧ Frm 18 a [(1, .func (.func 76) #[] #[.pointer (some ⟨bg1_0, 0, none⟩), .pointer (some ⟨bg1_1, 0, none⟩), .pointer (some ⟨bg1_2, 0, none⟩), .pointer (some ⟨bg1_3, 0, none⟩), .pointer (some ⟨bg1_4, 0, none⟩)]), (5, .int .i64 s)]
abbrev punctualref_grow_1.B0 (K : Nat) (w0 : World) (x0 : Int) (bg1_0 : Nat) (xg1_0 : Int) (bg1_1 : Nat) (xg1_1 : Int) (bg1_2 : Nat) (xg1_2 : SFrame) (bg1_3 : Nat) (xg1_3 : Int) (bg1_4 : Nat) (lg1_4 : List SFrame) (Ag1_4 : Option Addr) (cg1_4 : Nat) (hBg1_0 : Glob w0 bg1_0 [.int .i64 xg1_0]) (hBg1_1 : Glob w0 bg1_1 [.int .i64 xg1_1]) (hBg1_2 : Glob w0 bg1_2 [.int .i64 xg1_2.C, .int .i64 xg1_2.T, .int .i64 xg1_2.D, .int .i64 xg1_2.J]) (hBg1_3 : Glob w0 bg1_3 [.int .i64 xg1_3]) (hRg1_4 : RdL w0 Ag1_4 lg1_4) (hLg1_4 : lg1_4.length ≤ cg1_4) (hBg1_4 : Glob w0 bg1_4 [.slice Ag1_4 lg1_4.length cg1_4]) : (Unit ⊕ Int) → Exit → Act → World → Prop := Exits 0 (fun (s : Unit) a w => St w0 w [] ∧ Frm 18 a []) (Rets Tryd.prog Tryd.f74 (punctualref_grow_1.Post w0))
theorem punctualref_grow_1_r0 (K : Nat) (w0 : World) (x0 : Int) (bg1_0 : Nat) (xg1_0 : Int) (bg1_1 : Nat) (xg1_1 : Int) (bg1_2 : Nat) (xg1_2 : SFrame) (bg1_3 : Nat) (xg1_3 : Int) (bg1_4 : Nat) (lg1_4 : List SFrame) (Ag1_4 : Option Addr) (cg1_4 : Nat) (hBg1_0 : Glob w0 bg1_0 [.int .i64 xg1_0]) (hBg1_1 : Glob w0 bg1_1 [.int .i64 xg1_1]) (hBg1_2 : Glob w0 bg1_2 [.int .i64 xg1_2.C, .int .i64 xg1_2.T, .int .i64 xg1_2.D, .int .i64 xg1_2.J]) (hBg1_3 : Glob w0 bg1_3 [.int .i64 xg1_3]) (hRg1_4 : RdL w0 Ag1_4 lg1_4) (hLg1_4 : lg1_4.length ≤ cg1_4) (hBg1_4 : Glob w0 bg1_4 [.slice Ag1_4 lg1_4.length cg1_4]) (s : Int) (o : Int ⊕ (Unit ⊕ Int)) (h : punctualref_grow_1.r0 K xg1_0 xg1_1 xg1_2 xg1_3 lg1_4 s = some o) (a : Act) (w : World) (hA : punctualref_grow_1.A0 K w0 x0 bg1_0 xg1_0 bg1_1 xg1_1 bg1_2 xg1_2 bg1_3 xg1_3 bg1_4 lg1_4 Ag1_4 cg1_4 hBg1_0 hBg1_1 hBg1_2 hBg1_3 hRg1_4 hLg1_4 hBg1_4 s a w) (Q : Exit → Act → World → Prop) (hQ : ∀ x a w, Outs (punctualref_grow_1.A0 K w0 x0 bg1_0 xg1_0 bg1_1 xg1_1 bg1_2 xg1_2 bg1_3 xg1_3 bg1_4 lg1_4 Ag1_4 cg1_4 hBg1_0 hBg1_1 hBg1_2 hBg1_3 hRg1_4 hLg1_4 hBg1_4) (punctualref_grow_1.B0 K w0 x0 bg1_0 xg1_0 bg1_1 xg1_1 bg1_2 xg1_2 bg1_3 xg1_3 bg1_4 lg1_4 Ag1_4 cg1_4 hBg1_0 hBg1_1 hBg1_2 hBg1_3 hRg1_4 hLg1_4 hBg1_4) o x a w → Q x a w) : (subF Tryd.f74 [1, 1, 0, 0, 0]).wp Tryd.prog Q a w := by
  obtain ⟨z1, hs⟩ : ∃ z, z = s := ⟨s, rfl⟩
  subst hs
  obtain ⟨hS, hF⟩ := hA
  replace hS : St w0 w [] := hS
  simp only [punctualref_grow_1.r0] at h
  refine (?_ : WE Tryd.prog 18 (subF Tryd.f74 [1, 1, 0, 0, 0]) Q [(1, .func (.func 76) #[] #[.pointer (some ⟨bg1_0, 0, none⟩), .pointer (some ⟨bg1_1, 0, none⟩), .pointer (some ⟨bg1_2, 0, none⟩), .pointer (some ⟨bg1_3, 0, none⟩), .pointer (some ⟨bg1_4, 0, none⟩)]), (5, .int .i64 z1)] w) a hF
  clear hF a
  refine we_seq fun K4 hK4 => ?_
  refine we_seq fun K5 hK5 => ?_
  refine we_region [(0, 0), (1, 0)] rfl ?_
  refine ge_batch [0, 1] (ans := []) (vs := [(9, .bool (decide (z1 ≤ 100000))), (8, .int .i64 z1)]) (l := []) (by kernel_rfl) trivial ?_
  refine ge_nil fun a hF => hK5 _ _ ?_ a hF
  by_cases hc1 : z1 ≤ 100000
  · rw [if_pos hc1] at h
    refine we_known (t := 9) (b := decide (z1 ≤ 100000)) (v := true) (by kernel_rfl) (decide_eq_true hc1) ?_
    refine we_true (by kernel_rfl) ?_
    refine we_skip fun a hF => hK4 _ _ ?_ a hF
    refine we_block ?_
    refine we_seq fun K6 hK6 => ?_
    refine we_region [(0, 0), (1, 0), (2, 1), (3, 0)] rfl ?_
    rcases hq1 : punctualref_BusTimes_2.f K z1 xg1_0 xg1_1 xg1_2 xg1_3 lg1_4 with _ | r1
    · rw [hq1] at h; cases h
    rw [hq1] at h
    simp only [] at h
    refine ge_batch [0, 1] (ans := []) (vs := [(11, .int .i64 z1), (10, .func (.func 76) #[] #[.pointer (some ⟨bg1_0, 0, none⟩), .pointer (some ⟨bg1_1, 0, none⟩), .pointer (some ⟨bg1_2, 0, none⟩), .pointer (some ⟨bg1_3, 0, none⟩), .pointer (some ⟨bg1_4, 0, none⟩)])]) (l := []) (by kernel_rfl) trivial ?_
    refine ge_call (d := some 12) (f := 76) (args := #[.int .i64 z1, .pointer (some ⟨bg1_0, 0, none⟩), .pointer (some ⟨bg1_1, 0, none⟩), .pointer (some ⟨bg1_2, 0, none⟩), .pointer (some ⟨bg1_3, 0, none⟩), .pointer (some ⟨bg1_4, 0, none⟩)]) (by kernel_rfl) (punctualref_BusTimes_2_ok K z1 bg1_0 xg1_0 bg1_1 xg1_1 bg1_2 xg1_2 bg1_3 xg1_3 bg1_4 lg1_4 Ag1_4 cg1_4 _ (Glob.ext hBg1_0 hS.below) (Glob.ext hBg1_1 hS.below) (Glob.ext hBg1_2 hS.below) (Glob.ext hBg1_3 hS.below) (hS.rd hRg1_4) hLg1_4 (Glob.ext hBg1_4 hS.below) _ hq1) ?_
    rintro _ w1 ⟨rfl, hS1⟩
    refine ⟨_, rfl, hS1.below, ?_⟩
    have hS2 := hS.call hS1
    refine ge_batch [3] (ans := []) (vs := [(6, .int .i64 r1)]) (l := []) (by kernel_rfl) trivial ?_
    refine ge_nil fun a hF => hK6 _ _ ?_ a hF
    refine we_seq fun K7 hK7 => ?_
    refine we_seq fun K8 hK8 => ?_
    refine we_region [(0, 0), (1, 0), (2, 0)] rfl ?_
    refine ge_batch [0, 1, 2] (ans := []) (vs := [(15, .bool (r1 == z1)), (14, .int .i64 z1), (13, .int .i64 r1)]) (l := []) (by kernel_rfl) trivial ?_
    refine ge_nil fun a hF => hK8 _ _ ?_ a hF
    by_cases hc2 : r1 = z1
    · rw [if_pos hc2] at h
      refine we_known (t := 15) (b := (r1 == z1)) (v := true) (by kernel_rfl) (beq_iff_eq.2 hc2) ?_
      refine we_true (by kernel_rfl) ?_
      refine we_seq fun K9 hK9 => ?_
      refine we_region [(0, 0), (1, 0)] rfl ?_
      refine ge_batch [0, 1] (ans := []) (vs := [(4, .int .i64 z1), (16, .int .i64 z1)]) (l := []) (by kernel_rfl) trivial ?_
      refine ge_nil fun a hF => hK9 _ _ ?_ a hF
      obtain rfl := Option.some.inj h
      exact we_ret fun a hF => hQ _ _ _ (Outs.out nofun (Exits.on ⟨rfl, (post_ret (rs := [.tmp 4]) (ans := []) (vs := [.int .i64 z1]) (l := []) rfl (by kernel_rfl) trivial ⟨rfl, hS2⟩) a hF⟩))
    · rw [if_neg hc2] at h
      refine we_known (t := 15) (b := (r1 == z1)) (v := false) (by kernel_rfl) (beq_eq_false_iff_ne.2 hc2) ?_
      refine we_false (by kernel_rfl) ?_
      refine we_skip fun a hF => hK7 _ _ ?_ a hF
      refine we_region [(0, 0), (1, 0)] rfl ?_
      refine ge_batch [0, 1] (ans := []) (vs := [(5, .int .i64 r1), (17, .int .i64 r1)]) (l := []) (by kernel_rfl) trivial ?_
      obtain rfl := Option.some.inj h
      exact ge_nil fun a hF => hQ _ _ _ (Outs.again ⟨hS2, hF.weaken ⟨by kernel_rfl, by kernel_rfl, trivial⟩⟩)
  · rw [if_neg hc1] at h
    refine we_known (t := 9) (b := decide (z1 ≤ 100000)) (v := false) (by kernel_rfl) (decide_eq_false hc1) ?_
    refine we_false (by kernel_rfl) ?_
    obtain rfl := Option.some.inj h
    exact we_exit fun a hF => hQ _ _ _ (Outs.out nofun (Exits.here ⟨hS, hF.weaken trivial⟩))
theorem punctualref_grow_1_ok (K : Nat) (x0 : Int) (bg1_0 : Nat) (xg1_0 : Int) (bg1_1 : Nat) (xg1_1 : Int) (bg1_2 : Nat) (xg1_2 : SFrame) (bg1_3 : Nat) (xg1_3 : Int) (bg1_4 : Nat) (lg1_4 : List SFrame) (Ag1_4 : Option Addr) (cg1_4 : Nat) (w0 : World) (hBg1_0 : Glob w0 bg1_0 [.int .i64 xg1_0]) (hBg1_1 : Glob w0 bg1_1 [.int .i64 xg1_1]) (hBg1_2 : Glob w0 bg1_2 [.int .i64 xg1_2.C, .int .i64 xg1_2.T, .int .i64 xg1_2.D, .int .i64 xg1_2.J]) (hBg1_3 : Glob w0 bg1_3 [.int .i64 xg1_3]) (hRg1_4 : RdL w0 Ag1_4 lg1_4) (hLg1_4 : lg1_4.length ≤ cg1_4) (hBg1_4 : Glob w0 bg1_4 [.slice Ag1_4 lg1_4.length cg1_4]) (r : Int) (h : punctualref_grow_1.f K x0 xg1_0 xg1_1 xg1_2 xg1_3 lg1_4 = some r) :
    Calls Tryd.prog 74 #[.int .i64 x0, .func (.func 76) #[] #[.pointer (some ⟨bg1_0, 0, none⟩), .pointer (some ⟨bg1_1, 0, none⟩), .pointer (some ⟨bg1_2, 0, none⟩), .pointer (some ⟨bg1_3, 0, none⟩), .pointer (some ⟨bg1_4, 0, none⟩)]] w0 (punctualref_grow_1.Post w0 r) := by
  have hS := St.start w0
  unfold punctualref_grow_1.f at h
  refine calls_enter (n := 18) (args := [.int .i64 x0, .func (.func 76) #[] #[.pointer (some ⟨bg1_0, 0, none⟩), .pointer (some ⟨bg1_1, 0, none⟩), .pointer (some ⟨bg1_2, 0, none⟩), .pointer (some ⟨bg1_3, 0, none⟩), .pointer (some ⟨bg1_4, 0, none⟩)]]) (fn := Tryd.f74) rfl rfl rfl rfl ?_
  show WE _ _ _ _ [(0, .int .i64 x0), (1, .func (.func 76) #[] #[.pointer (some ⟨bg1_0, 0, none⟩), .pointer (some ⟨bg1_1, 0, none⟩), .pointer (some ⟨bg1_2, 0, none⟩), .pointer (some ⟨bg1_3, 0, none⟩), .pointer (some ⟨bg1_4, 0, none⟩)])] _
  refine we_seq fun K1 hK1 => ?_
  refine we_region [(0, 0)] rfl ?_
  refine ge_batch [0] (ans := []) (vs := [(4, .int .i64 0)]) (l := []) (by kernel_rfl) trivial ?_
  refine ge_nil fun a hF => hK1 _ _ ?_ a hF
  refine we_seq fun K2 hK2 => ?_
  refine we_region [(0, 0), (1, 0)] rfl ?_
  refine ge_batch [0, 1] (ans := []) (vs := [(5, .int .i64 x0), (7, .int .i64 x0)]) (l := []) (by kernel_rfl) trivial ?_
  refine ge_nil fun a hF => hK2 _ _ ?_ a hF
  refine we_seq fun K3 hK3 => ?_
  refine we_block ?_
  rcases hq2 : iter (punctualref_grow_1.r0 K xg1_0 xg1_1 xg1_2 xg1_3 lg1_4) K x0 with _ | (_ | rr1)
  · rw [hq2] at h; cases h
  · rw [hq2] at h
    simp only [] at h
    refine we_iter (A := punctualref_grow_1.A0 K w0 x0 bg1_0 xg1_0 bg1_1 xg1_1 bg1_2 xg1_2 bg1_3 xg1_3 bg1_4 lg1_4 Ag1_4 cg1_4 hBg1_0 hBg1_1 hBg1_2 hBg1_3 hRg1_4 hLg1_4 hBg1_4) (B := punctualref_grow_1.B0 K w0 x0 bg1_0 xg1_0 bg1_1 xg1_1 bg1_2 xg1_2 bg1_3 xg1_3 bg1_4 lg1_4 Ag1_4 cg1_4 hBg1_0 hBg1_1 hBg1_2 hBg1_3 hRg1_4 hLg1_4 hBg1_4) hq2 (fun a hF => ⟨hS, hF.weaken ⟨by kernel_rfl, by kernel_rfl, trivial⟩⟩) (fun s o hf a w hA Q hQ => punctualref_grow_1_r0 K w0 x0 bg1_0 xg1_0 bg1_1 xg1_1 bg1_2 xg1_2 bg1_3 xg1_3 bg1_4 lg1_4 Ag1_4 cg1_4 hBg1_0 hBg1_1 hBg1_2 hBg1_3 hRg1_4 hLg1_4 hBg1_4 s o hf a w hA Q hQ) ?_
    rintro _ a w2 _ ⟨rfl, hS3, hF⟩
    replace hS3 : St w0 w2 [] := hS3
    refine hK3 [] w2 ?_ a hF
    refine we_seq fun K10 hK10 => ?_
    refine we_region [(0, 0)] rfl ?_
    refine ge_batch [0] (ans := []) (vs := [(4, .int .i64 (-1))]) (l := []) (by kernel_rfl) trivial ?_
    refine ge_nil fun a hF => hK10 _ _ ?_ a hF
    obtain rfl := Option.some.inj h
    exact we_ret (post_ret (rs := [.tmp 4]) (ans := []) (vs := [.int .i64 (-1)]) (l := []) rfl (by kernel_rfl) trivial ⟨rfl, hS3⟩)
  · rw [hq2] at h
    simp only [] at h
    refine we_iter (A := punctualref_grow_1.A0 K w0 x0 bg1_0 xg1_0 bg1_1 xg1_1 bg1_2 xg1_2 bg1_3 xg1_3 bg1_4 lg1_4 Ag1_4 cg1_4 hBg1_0 hBg1_1 hBg1_2 hBg1_3 hRg1_4 hLg1_4 hBg1_4) (B := punctualref_grow_1.B0 K w0 x0 bg1_0 xg1_0 bg1_1 xg1_1 bg1_2 xg1_2 bg1_3 xg1_3 bg1_4 lg1_4 Ag1_4 cg1_4 hBg1_0 hBg1_1 hBg1_2 hBg1_3 hRg1_4 hLg1_4 hBg1_4) hq2 (fun a hF => ⟨hS, hF.weaken ⟨by kernel_rfl, by kernel_rfl, trivial⟩⟩) (fun s o hf a w hA Q hQ => punctualref_grow_1_r0 K w0 x0 bg1_0 xg1_0 bg1_1 xg1_1 bg1_2 xg1_2 bg1_3 xg1_3 bg1_4 lg1_4 Ag1_4 cg1_4 hBg1_0 hBg1_1 hBg1_2 hBg1_3 hRg1_4 hLg1_4 hBg1_4 s o hf a w hA Q hQ) ?_
    rintro _ a w1 _ ⟨rfl, hb⟩
    obtain rfl := Option.some.inj h
    exact hb

/-! punctual/punctualref.BusTimes -/
abbrev punctualref_BusTimes.Post (w0 : World) (r : (List Int) × SFault) (e : Ending) (w : World) : Prop := ∃ (v0 : Value), e = .returned (.tuple #[v0, .agg #[.int .i64 r.2.Code, .int .i64 r.2.At]]) ∧ St w0 w [Own.of v0 3 r.1]
def punctualref_BusTimes.r1 (l0 : List SFrame) : Int × Int → Option ((Int × Int) ⊕ (Int ⊕ ((List Int) × SFault)))
  | (z1, z2) =>
    if z1 < (l0.length : Int) then
      if 0 ≤ z1 then
        match l0[(z1).toNat]? with
        | none => none
        | some e2 =>
          if (IntKind.i64.wrap (e2.C - 1)) > z2 then
            some (.inl (IntKind.i64.wrap (z1 + 1), IntKind.i64.wrap (e2.C - 1)))
          else
            some (.inl (IntKind.i64.wrap (z1 + 1), z2))
      else
        none
    else
      some (.inr (.inl z2))
def punctualref_BusTimes.r2 (K : Nat) (l0 : List SFrame) (i1 : Nat) (e1 : SFrame) (z4 : Int) (r2 : Int) : Int × Bool × Int → Option ((Int × Bool × Int) ⊕ ((Int × Bool) ⊕ ((List Int) × SFault)))
  | (z5, q1, z6) =>
    if q1 = true then
      if (IntKind.i64.wrap (z6 * e1.T)) < (IntKind.i64.wrap (r2 + e1.J)) then
        match punctualref_grow_1.f K (IntKind.i64.wrap (z4 + (IntKind.i64.wrap (z6 * e1.C)))) z4 z6 e1 (i1 : Int) l0 with
        | none => none
        | some r3 =>
          if (IntKind.i64.wrap ((IntKind.i64.wrap ((IntKind.i64.wrap (e1.J + r3)) - (IntKind.i64.wrap (z6 * e1.T)))) + e1.C)) > z5 then
            some (.inl (IntKind.i64.wrap ((IntKind.i64.wrap ((IntKind.i64.wrap (e1.J + r3)) - (IntKind.i64.wrap (z6 * e1.T)))) + e1.C), decide (r3 ≥ 0), IntKind.i64.wrap (z6 + 1)))
          else
            some (.inl (z5, decide (r3 ≥ 0), IntKind.i64.wrap (z6 + 1)))
      else
        some (.inr (.inl (z5, q1)))
    else
      some (.inr (.inl (z5, q1)))
def punctualref_BusTimes.r0 (K : Nat) (l0 : List SFrame) (r1 : SFault) : (List Int) × Nat → Option (((List Int) × Nat) ⊕ ((List Int) ⊕ ((List Int) × SFault)))
  | (m1, i1) =>
    if (i1 : Int) < (l0.length : Int) then
      match l0[i1]? with
      | none => none
      | some e1 =>
        match iter (punctualref_BusTimes.r1 l0) K (((i1 + 1 : Nat) : Int), 0) with
        | none => none
        | some (.inl z4) =>
          match punctualref_grow.f K (IntKind.i64.wrap (z4 + e1.C)) z4 (i1 : Int) l0 with
          | none => none
          | some r2 =>
            match iter (punctualref_BusTimes.r2 K l0 i1 e1 z4 r2) K (0, decide (r2 ≥ 0), 0) with
            | none => none
            | some (.inl (z8, q3)) =>
              if q3 = true then
                if z8 > e1.D then
                  some (.inr (.inr (([] : List Int), (punctualref_F.f 13 (i1 : Int)))))
                else
                  if m1.length < 17592186044416 then
                    some (.inl ((m1 ++ [z8]), (i1 + 1)))
                  else
                    none
              else
                some (.inr (.inr (([] : List Int), (punctualref_F.f 13 (i1 : Int)))))
            | some (.inr rr1) =>
              some (.inr (.inr rr1))
        | some (.inr rr2) =>
          some (.inr (.inr rr2))
    else
      some (.inr (.inl m1))
def punctualref_BusTimes.f (K : Nat) (l0 : List SFrame) : Option ((List Int) × SFault) :=
  match punctualref_CheckBus.f K l0 with
  | none => none
  | some r1 =>
    if r1.Code = 0 then
      match iter (punctualref_BusTimes.r0 K l0 r1) K (([] : List Int), 0) with
      | none => none
      | some (.inl m3) =>
        some (m3, (⟨0, 0⟩ : SFault))
      | some (.inr rr3) =>
        some rr3
    else
      some (([] : List Int), r1)
abbrev punctualref_BusTimes.A1 (K : Nat) (w0 : World) (l0 : List SFrame) (A0 : Option Addr) (c0 : Nat) (hR0 : RdL w0 A0 l0) (hL0 : l0.length ≤ c0) (b1 : Nat) (b2 : Nat) (r1 : SFault) (b3 : Nat) (hc1 : r1.Code = 0) (m1 : List Int) (i1 : Nat) (hc2 : (i1 : Int) < (l0.length : Int)) (e1 : SFrame) (hx4 : l0[i1]? = some e1) (b4 : Nat) (b5 : Nat) (b6 : Nat) (Z1 : Option Addr) (cz1 : Nat) : (Int × Int) → Act → World → Prop := fun (s : Int × Int) a w => St w0 w [Own.blk b6 (.cells #[.int .i64 s.2] 3 (0, 0)), Own.blk b5 (.cells #[.int .i64 e1.C, .int .i64 e1.T, .int .i64 e1.D, .int .i64 e1.J] 63 (0, 0)), Own.blk b4 (.cells #[.int .i64 (i1 : Int)] 3 (0, 0)), Own.blk b2 (.cells #[.int .i64 0, .int .i64 0] 27 (0, 0)), Own.blk b1 (.cells #[.slice A0 l0.length c0] 60 (0, 0)), Own.of (.slice Z1 m1.length cz1) 3 m1] ∧ Frm 117 a [(1, .pointer (some ⟨b1, 0, none⟩)), (3, .pointer (some ⟨b2, 0, none⟩)), (5, (.slice Z1 m1.length cz1)), (6, .pointer (some ⟨b4, 0, none⟩)), (7, .pointer (some ⟨b5, 0, none⟩)), (8, .pointer (some ⟨b6, 0, none⟩)), (9, .int .i64 s.1), (22, .slice A0 l0.length c0), (23, .int .i64 (l0.length : Int)), (24, .int .i64 (i1 : Int))]
abbrev punctualref_BusTimes.B1 (K : Nat) (w0 : World) (l0 : List SFrame) (A0 : Option Addr) (c0 : Nat) (hR0 : RdL w0 A0 l0) (hL0 : l0.length ≤ c0) (b1 : Nat) (b2 : Nat) (r1 : SFault) (b3 : Nat) (hc1 : r1.Code = 0) (m1 : List Int) (i1 : Nat) (hc2 : (i1 : Int) < (l0.length : Int)) (e1 : SFrame) (hx4 : l0[i1]? = some e1) (b4 : Nat) (b5 : Nat) (b6 : Nat) (Z1 : Option Addr) (cz1 : Nat) : (Int ⊕ ((List Int) × SFault)) → Exit → Act → World → Prop := Exits 2 (fun (s : Int) a w => St w0 w [Own.blk b6 (.cells #[.int .i64 s] 3 (0, 0)), Own.blk b5 (.cells #[.int .i64 e1.C, .int .i64 e1.T, .int .i64 e1.D, .int .i64 e1.J] 63 (0, 0)), Own.blk b4 (.cells #[.int .i64 (i1 : Int)] 3 (0, 0)), Own.blk b2 (.cells #[.int .i64 0, .int .i64 0] 27 (0, 0)), Own.blk b1 (.cells #[.slice A0 l0.length c0] 60 (0, 0)), Own.of (.slice Z1 m1.length cz1) 3 m1] ∧ Frm 117 a [(1, .pointer (some ⟨b1, 0, none⟩)), (3, .pointer (some ⟨b2, 0, none⟩)), (5, (.slice Z1 m1.length cz1)), (6, .pointer (some ⟨b4, 0, none⟩)), (7, .pointer (some ⟨b5, 0, none⟩)), (8, .pointer (some ⟨b6, 0, none⟩)), (22, .slice A0 l0.length c0), (23, .int .i64 (l0.length : Int)), (24, .int .i64 (i1 : Int))]) (Rets Tryd.prog Tryd.f35 (punctualref_BusTimes.Post w0))
theorem punctualref_BusTimes_r1 (K : Nat) (w0 : World) (l0 : List SFrame) (A0 : Option Addr) (c0 : Nat) (hR0 : RdL w0 A0 l0) (hL0 : l0.length ≤ c0) (b1 : Nat) (b2 : Nat) (r1 : SFault) (b3 : Nat) (hc1 : r1.Code = 0) (m1 : List Int) (i1 : Nat) (hc2 : (i1 : Int) < (l0.length : Int)) (e1 : SFrame) (hx4 : l0[i1]? = some e1) (b4 : Nat) (b5 : Nat) (b6 : Nat) (Z1 : Option Addr) (cz1 : Nat) (s : Int × Int) (o : (Int × Int) ⊕ (Int ⊕ ((List Int) × SFault))) (h : punctualref_BusTimes.r1 l0 s = some o) (a : Act) (w : World) (hA : punctualref_BusTimes.A1 K w0 l0 A0 c0 hR0 hL0 b1 b2 r1 b3 hc1 m1 i1 hc2 e1 hx4 b4 b5 b6 Z1 cz1 s a w) (Q : Exit → Act → World → Prop) (hQ : ∀ x a w, Outs (punctualref_BusTimes.A1 K w0 l0 A0 c0 hR0 hL0 b1 b2 r1 b3 hc1 m1 i1 hc2 e1 hx4 b4 b5 b6 Z1 cz1) (punctualref_BusTimes.B1 K w0 l0 A0 c0 hR0 hL0 b1 b2 r1 b3 hc1 m1 i1 hc2 e1 hx4 b4 b5 b6 Z1 cz1) o x a w → Q x a w) : (subF Tryd.f35 [1, 1, 1, 0, 1, 0, 0, 1, 1, 0, 0, 1, 1, 0, 1, 0, 0]).wp Tryd.prog Q a w := by
  obtain ⟨z1, z2⟩ := s
  obtain ⟨hS, hF⟩ := hA
  replace hS : St w0 w [Own.blk b6 (.cells #[.int .i64 z2] 3 (0, 0)), Own.blk b5 (.cells #[.int .i64 e1.C, .int .i64 e1.T, .int .i64 e1.D, .int .i64 e1.J] 63 (0, 0)), Own.blk b4 (.cells #[.int .i64 (i1 : Int)] 3 (0, 0)), Own.blk b2 (.cells #[.int .i64 0, .int .i64 0] 27 (0, 0)), Own.blk b1 (.cells #[.slice A0 l0.length c0] 60 (0, 0)), Own.of (.slice Z1 m1.length cz1) 3 m1] := hS
  simp only [punctualref_BusTimes.r1] at h
  refine (?_ : WE Tryd.prog 117 (subF Tryd.f35 [1, 1, 1, 0, 1, 0, 0, 1, 1, 0, 0, 1, 1, 0, 1, 0, 0]) Q [(1, .pointer (some ⟨b1, 0, none⟩)), (3, .pointer (some ⟨b2, 0, none⟩)), (5, (.slice Z1 m1.length cz1)), (6, .pointer (some ⟨b4, 0, none⟩)), (7, .pointer (some ⟨b5, 0, none⟩)), (8, .pointer (some ⟨b6, 0, none⟩)), (9, .int .i64 z1), (22, .slice A0 l0.length c0), (23, .int .i64 (l0.length : Int)), (24, .int .i64 (i1 : Int))] w) a hF
  clear hF a
  refine we_seq fun K15 hK15 => ?_
  refine we_seq fun K16 hK16 => ?_
  refine we_region [(0, 0), (1, 0), (2, 0), (3, 0)] rfl ?_
  refine ge_batch [0, 1, 2, 3] (ans := [.val (.slice A0 l0.length c0)]) (vs := [(34, .bool (decide (z1 < (l0.length : Int)))), (33, .int .i64 (l0.length : Int)), (32, .slice A0 l0.length c0), (31, .int .i64 z1)]) (l := [.loaded ⟨b1, 0, none⟩ (.slice A0 l0.length c0)]) (by kernel_rfl) ⟨hS.cell 4 rfl rfl, trivial⟩ ?_
  refine ge_nil fun a hF => hK16 _ _ ?_ a hF
  by_cases hc3 : z1 < (l0.length : Int)
  · rw [if_pos hc3] at h
    refine we_known (t := 34) (b := decide (z1 < (l0.length : Int))) (v := true) (by kernel_rfl) (decide_eq_true hc3) ?_
    refine we_true (by kernel_rfl) ?_
    refine we_skip fun a hF => hK15 _ _ ?_ a hF
    refine we_seq fun K17 hK17 => ?_
    refine we_block ?_
    refine we_seq fun K18 hK18 => ?_
    refine we_draws (by kernel_rfl) [(0, 0), (1, 0), (2, 0), (3, 0), (4, 0), (5, 0), (6, 0), (7, 0)] (by kernel_rfl) ?_
    have hS29 := hS.drew
    refine ge_batch [0, 1] (ans := [.val (.slice A0 l0.length c0)]) (vs := [(38, .int .i64 z1), (37, .slice A0 l0.length c0)]) (l := [.loaded ⟨b1, 0, none⟩ (.slice A0 l0.length c0)]) (by kernel_rfl) ⟨hS29.cell 4 rfl rfl, trivial⟩ ?_
    by_cases hc4 : 0 ≤ z1
    · rw [if_pos hc4] at h
      rcases hx8 : l0[(z1).toNat]? with _ | e2
      · rw [hx8] at h; cases h
      rw [hx8] at h
      simp only [] at h
      refine ge_index (d := 39) (ty := 0) (t := 60) (el := 63) (sz := 4) (m := l0.length) (c := c0) (x := (.tmp 37)) (y := (.tmp 38)) (A := A0) (k' := .i64) (j := z1) (jn := ((z1).toNat)) (b0 := blkOf A0) (o0 := offOf A0) (by kernel_rfl) (by kernel_rfl) (by kernel_rfl) (by kernel_rfl) (by kernel_rfl) ((hS29.rd hR0).eqSome (pos_of_get hx8)) (Int.toNat_of_nonneg hc4).symm (lt_of_get hx8) ?_
      refine ge_batch [3, 4, 5, 6, 7] (ans := [.val (.int .i64 e2.C), .val (.int .i64 z2)]) (vs := [(44, .bool (decide ((IntKind.i64.wrap (e2.C - 1)) > z2))), (43, .int .i64 z2), (42, .int .i64 (IntKind.i64.wrap (e2.C - 1))), (41, .int .i64 e2.C), (40, .pointer (some ⟨blkOf A0, offOf A0 + (z1).toNat * 4, none⟩))]) (l := [.loaded ⟨blkOf A0, offOf A0 + ((z1).toNat) * 4, none⟩ (.int .i64 e2.C), .loaded ⟨b6, 0, none⟩ (.int .i64 z2)]) (by kernel_rfl) ⟨RdL.cell (j := 0) (hS29.rd hR0) hx8 rfl, hS29.cell 0 rfl rfl, trivial⟩ ?_
      refine ge_nil fun a hF => hK18 _ _ ?_ a hF
      by_cases hc5 : (IntKind.i64.wrap (e2.C - 1)) > z2
      · rw [if_pos hc5] at h
        refine we_known (t := 44) (b := decide ((IntKind.i64.wrap (e2.C - 1)) > z2)) (v := true) (by kernel_rfl) (decide_eq_true hc5) ?_
        refine we_true (by kernel_rfl) ?_
        refine we_region [(0, 0), (1, 0), (2, 0), (3, 0), (4, 0), (5, 0), (6, 2)] rfl ?_
        refine ge_batch [0, 1] (ans := [.val (.slice A0 l0.length c0)]) (vs := [(46, .int .i64 z1), (45, .slice A0 l0.length c0)]) (l := [.loaded ⟨b1, 0, none⟩ (.slice A0 l0.length c0)]) (by kernel_rfl) ⟨hS29.cell 4 rfl rfl, trivial⟩ ?_
        refine ge_index (d := 47) (ty := 0) (t := 60) (el := 63) (sz := 4) (m := l0.length) (c := c0) (x := (.tmp 45)) (y := (.tmp 46)) (A := A0) (k' := .i64) (j := z1) (jn := ((z1).toNat)) (b0 := blkOf A0) (o0 := offOf A0) (by kernel_rfl) (by kernel_rfl) (by kernel_rfl) (by kernel_rfl) (by kernel_rfl) ((hS29.rd hR0).eqSome (pos_of_get hx8)) (Int.toNat_of_nonneg hc4).symm (lt_of_get hx8) ?_
        refine ge_batch [3, 4, 5] (ans := [.val (.int .i64 e2.C)]) (vs := [(50, .int .i64 (IntKind.i64.wrap (e2.C - 1))), (49, .int .i64 e2.C), (48, .pointer (some ⟨blkOf A0, offOf A0 + (z1).toNat * 4, none⟩))]) (l := [.loaded ⟨blkOf A0, offOf A0 + ((z1).toNat) * 4, none⟩ (.int .i64 e2.C)]) (by kernel_rfl) ⟨RdL.cell (j := 0) (hS29.rd hR0) hx8 rfl, trivial⟩ ?_
        refine ge_set (b := b6) (j := 0) (cs := #[.int .i64 z2]) (t := 3) (vs := [.int .i64 (IntKind.i64.wrap (e2.C - 1))]) hS29 (by kernel_rfl) rfl rfl fun w12 hS30 => ?_
        have hS31 : St w0 w12 [Own.blk b6 (.cells #[.int .i64 (IntKind.i64.wrap (e2.C - 1))] 3 (0, 0)), Own.blk b5 (.cells #[.int .i64 e1.C, .int .i64 e1.T, .int .i64 e1.D, .int .i64 e1.J] 63 (0, 0)), Own.blk b4 (.cells #[.int .i64 (i1 : Int)] 3 (0, 0)), Own.blk b2 (.cells #[.int .i64 0, .int .i64 0] 27 (0, 0)), Own.blk b1 (.cells #[.slice A0 l0.length c0] 60 (0, 0)), Own.of (.slice Z1 m1.length cz1) 3 m1] := hS30
        refine ge_nil fun a hF => hK17 _ _ ?_ a hF
        refine we_region [(0, 0), (1, 0), (2, 0)] rfl ?_
        refine ge_batch [0, 1, 2] (ans := []) (vs := [(9, .int .i64 (IntKind.i64.wrap (z1 + 1))), (36, .int .i64 (IntKind.i64.wrap (z1 + 1))), (35, .int .i64 z1)]) (l := []) (by kernel_rfl) trivial ?_
        have hS32 := hS31.bring 5 rfl
        have hS33 := hS32.bring 5 rfl
        have hS34 := hS33.bring 5 rfl
        have hS35 := hS34.bring 5 rfl
        have hS36 := hS35.bring 5 rfl
        have hS37 := hS36.bring 5 rfl
        obtain rfl := Option.some.inj h
        exact ge_nil fun a hF => hQ _ _ _ (Outs.again ⟨hS37, hF.weaken ⟨by kernel_rfl, by kernel_rfl, by kernel_rfl, by kernel_rfl, by kernel_rfl, by kernel_rfl, by kernel_rfl, by kernel_rfl, by kernel_rfl, by kernel_rfl, trivial⟩⟩)
      · rw [if_neg hc5] at h
        refine we_known (t := 44) (b := decide ((IntKind.i64.wrap (e2.C - 1)) > z2)) (v := false) (by kernel_rfl) (decide_eq_false hc5) ?_
        refine we_false (by kernel_rfl) ?_
        refine we_skip fun a hF => hK17 _ _ ?_ a hF
        refine we_region [(0, 0), (1, 0), (2, 0)] rfl ?_
        refine ge_batch [0, 1, 2] (ans := []) (vs := [(9, .int .i64 (IntKind.i64.wrap (z1 + 1))), (36, .int .i64 (IntKind.i64.wrap (z1 + 1))), (35, .int .i64 z1)]) (l := []) (by kernel_rfl) trivial ?_
        have hS38 := hS29.bring 5 rfl
        have hS39 := hS38.bring 5 rfl
        have hS40 := hS39.bring 5 rfl
        have hS41 := hS40.bring 5 rfl
        have hS42 := hS41.bring 5 rfl
        have hS43 := hS42.bring 5 rfl
        obtain rfl := Option.some.inj h
        exact ge_nil fun a hF => hQ _ _ _ (Outs.again ⟨hS43, hF.weaken ⟨by kernel_rfl, by kernel_rfl, by kernel_rfl, by kernel_rfl, by kernel_rfl, by kernel_rfl, by kernel_rfl, by kernel_rfl, by kernel_rfl, by kernel_rfl, trivial⟩⟩)
    · rw [if_neg hc4] at h
      cases h
  · rw [if_neg hc3] at h
    refine we_known (t := 34) (b := decide (z1 < (l0.length : Int))) (v := false) (by kernel_rfl) (decide_eq_false hc3) ?_
    refine we_false (by kernel_rfl) ?_
    have hS44 := hS.bring 5 rfl
    have hS45 := hS44.bring 5 rfl
    have hS46 := hS45.bring 5 rfl
    have hS47 := hS46.bring 5 rfl
    have hS48 := hS47.bring 5 rfl
    have hS49 := hS48.bring 5 rfl
    obtain rfl := Option.some.inj h
    exact we_exit fun a hF => hQ _ _ _ (Outs.out nofun (Exits.here ⟨hS49, hF.weaken ⟨by kernel_rfl, by kernel_rfl, by kernel_rfl, by kernel_rfl, by kernel_rfl, by kernel_rfl, by kernel_rfl, by kernel_rfl, by kernel_rfl, trivial⟩⟩))
abbrev punctualref_BusTimes.A2 (K : Nat) (w0 : World) (l0 : List SFrame) (A0 : Option Addr) (c0 : Nat) (hR0 : RdL w0 A0 l0) (hL0 : l0.length ≤ c0) (b1 : Nat) (b2 : Nat) (r1 : SFault) (b3 : Nat) (hc1 : r1.Code = 0) (m1 : List Int) (i1 : Nat) (hc2 : (i1 : Int) < (l0.length : Int)) (e1 : SFrame) (hx4 : l0[i1]? = some e1) (b4 : Nat) (b5 : Nat) (b6 : Nat) (Z1 : Option Addr) (cz1 : Nat) (z4 : Int) (r2 : Int) (b7 : Nat) : (Int × Bool × Int) → Act → World → Prop := fun (s : Int × Bool × Int) a w => ∃ (b8 : Nat), St w0 w [Own.blk b8 (.cells #[.int .i64 s.2.2] 3 (0, 0)), Own.blk b6 (.cells #[.int .i64 z4] 3 (0, 0)), Own.blk b5 (.cells #[.int .i64 e1.C, .int .i64 e1.T, .int .i64 e1.D, .int .i64 e1.J] 63 (0, 0)), Own.blk b4 (.cells #[.int .i64 (i1 : Int)] 3 (0, 0)), Own.blk b2 (.cells #[.int .i64 0, .int .i64 0] 27 (0, 0)), Own.blk b1 (.cells #[.slice A0 l0.length c0] 60 (0, 0)), Own.of (.slice Z1 m1.length cz1) 3 m1] ∧ Frm 117 a [(1, .pointer (some ⟨b1, 0, none⟩)), (3, .pointer (some ⟨b2, 0, none⟩)), (5, (.slice Z1 m1.length cz1)), (6, .pointer (some ⟨b4, 0, none⟩)), (7, .pointer (some ⟨b5, 0, none⟩)), (8, .pointer (some ⟨b6, 0, none⟩)), (10, .int .i64 r2), (11, .int .i64 s.1), (12, .bool s.2.1), (13, .pointer (some ⟨b8, 0, none⟩)), (22, .slice A0 l0.length c0), (23, .int .i64 (l0.length : Int)), (24, .int .i64 (i1 : Int))]
abbrev punctualref_BusTimes.B2 (K : Nat) (w0 : World) (l0 : List SFrame) (A0 : Option Addr) (c0 : Nat) (hR0 : RdL w0 A0 l0) (hL0 : l0.length ≤ c0) (b1 : Nat) (b2 : Nat) (r1 : SFault) (b3 : Nat) (hc1 : r1.Code = 0) (m1 : List Int) (i1 : Nat) (hc2 : (i1 : Int) < (l0.length : Int)) (e1 : SFrame) (hx4 : l0[i1]? = some e1) (b4 : Nat) (b5 : Nat) (b6 : Nat) (Z1 : Option Addr) (cz1 : Nat) (z4 : Int) (r2 : Int) (b7 : Nat) : ((Int × Bool) ⊕ ((List Int) × SFault)) → Exit → Act → World → Prop := Exits 4 (fun (s : Int × Bool) a w => St w0 w [Own.blk b5 (.cells #[.int .i64 e1.C, .int .i64 e1.T, .int .i64 e1.D, .int .i64 e1.J] 63 (0, 0)), Own.blk b4 (.cells #[.int .i64 (i1 : Int)] 3 (0, 0)), Own.blk b2 (.cells #[.int .i64 0, .int .i64 0] 27 (0, 0)), Own.blk b1 (.cells #[.slice A0 l0.length c0] 60 (0, 0)), Own.of (.slice Z1 m1.length cz1) 3 m1] ∧ Frm 117 a [(1, .pointer (some ⟨b1, 0, none⟩)), (3, .pointer (some ⟨b2, 0, none⟩)), (5, (.slice Z1 m1.length cz1)), (6, .pointer (some ⟨b4, 0, none⟩)), (7, .pointer (some ⟨b5, 0, none⟩)), (11, .int .i64 s.1), (12, .bool s.2), (22, .slice A0 l0.length c0), (23, .int .i64 (l0.length : Int)), (24, .int .i64 (i1 : Int))]) (Rets Tryd.prog Tryd.f35 (punctualref_BusTimes.Post w0))
theorem punctualref_BusTimes_r2 (K : Nat) (w0 : World) (l0 : List SFrame) (A0 : Option Addr) (c0 : Nat) (hR0 : RdL w0 A0 l0) (hL0 : l0.length ≤ c0) (b1 : Nat) (b2 : Nat) (r1 : SFault) (b3 : Nat) (hc1 : r1.Code = 0) (m1 : List Int) (i1 : Nat) (hc2 : (i1 : Int) < (l0.length : Int)) (e1 : SFrame) (hx4 : l0[i1]? = some e1) (b4 : Nat) (b5 : Nat) (b6 : Nat) (Z1 : Option Addr) (cz1 : Nat) (z4 : Int) (r2 : Int) (b7 : Nat) (s : Int × Bool × Int) (o : (Int × Bool × Int) ⊕ ((Int × Bool) ⊕ ((List Int) × SFault))) (h : punctualref_BusTimes.r2 K l0 i1 e1 z4 r2 s = some o) (a : Act) (w : World) (hA : punctualref_BusTimes.A2 K w0 l0 A0 c0 hR0 hL0 b1 b2 r1 b3 hc1 m1 i1 hc2 e1 hx4 b4 b5 b6 Z1 cz1 z4 r2 b7 s a w) (Q : Exit → Act → World → Prop) (hQ : ∀ x a w, Outs (punctualref_BusTimes.A2 K w0 l0 A0 c0 hR0 hL0 b1 b2 r1 b3 hc1 m1 i1 hc2 e1 hx4 b4 b5 b6 Z1 cz1 z4 r2 b7) (punctualref_BusTimes.B2 K w0 l0 A0 c0 hR0 hL0 b1 b2 r1 b3 hc1 m1 i1 hc2 e1 hx4 b4 b5 b6 Z1 cz1 z4 r2 b7) o x a w → Q x a w) : (subF Tryd.f35 [1, 1, 1, 0, 1, 0, 0, 1, 1, 0, 0, 1, 1, 1, 1, 1, 0, 1, 0, 0]).wp Tryd.prog Q a w := by
  obtain ⟨z5, q1, z6⟩ := s
  obtain ⟨b8, hS, hF⟩ := hA
  replace hS : St w0 w [Own.blk b8 (.cells #[.int .i64 z6] 3 (0, 0)), Own.blk b6 (.cells #[.int .i64 z4] 3 (0, 0)), Own.blk b5 (.cells #[.int .i64 e1.C, .int .i64 e1.T, .int .i64 e1.D, .int .i64 e1.J] 63 (0, 0)), Own.blk b4 (.cells #[.int .i64 (i1 : Int)] 3 (0, 0)), Own.blk b2 (.cells #[.int .i64 0, .int .i64 0] 27 (0, 0)), Own.blk b1 (.cells #[.slice A0 l0.length c0] 60 (0, 0)), Own.of (.slice Z1 m1.length cz1) 3 m1] := hS
  simp only [punctualref_BusTimes.r2] at h
  refine (?_ : WE Tryd.prog 117 (subF Tryd.f35 [1, 1, 1, 0, 1, 0, 0, 1, 1, 0, 0, 1, 1, 1, 1, 1, 0, 1, 0, 0]) Q [(1, .pointer (some ⟨b1, 0, none⟩)), (3, .pointer (some ⟨b2, 0, none⟩)), (5, (.slice Z1 m1.length cz1)), (6, .pointer (some ⟨b4, 0, none⟩)), (7, .pointer (some ⟨b5, 0, none⟩)), (8, .pointer (some ⟨b6, 0, none⟩)), (10, .int .i64 r2), (11, .int .i64 z5), (12, .bool q1), (13, .pointer (some ⟨b8, 0, none⟩)), (22, .slice A0 l0.length c0), (23, .int .i64 (l0.length : Int)), (24, .int .i64 (i1 : Int))] w) a hF
  clear hF a
  refine we_seq fun K23 hK23 => ?_
  refine we_seq fun K24 hK24 => ?_
  refine we_region [(0, 0), (1, 0), (2, 0), (3, 0), (4, 0), (5, 0), (6, 0), (7, 0), (8, 0), (9, 0), (10, 0), (11, 0)] rfl ?_
  refine ge_batch [0, 1] (ans := []) (vs := [(60, .bool q1), (59, .bool q1)]) (l := []) (by kernel_rfl) trivial ?_
  by_cases hc6 : q1 = true
  · rw [if_pos hc6] at h
    refine ge_known (t := 60) (b := q1) (c := true) (by kernel_rfl) hc6 ?_
    refine ge_batch [2, 3, 4, 5, 6, 7, 8, 9, 10, 11] (ans := [.val (.int .i64 z6), .val (.int .i64 e1.T), .val (.int .i64 e1.J)]) (vs := [(70, .bool (decide ((IntKind.i64.wrap (z6 * e1.T)) < (IntKind.i64.wrap (r2 + e1.J))))), (69, .bool (decide ((IntKind.i64.wrap (z6 * e1.T)) < (IntKind.i64.wrap (r2 + e1.J))))), (68, .int .i64 (IntKind.i64.wrap (r2 + e1.J))), (67, .int .i64 e1.J), (66, .pointer (some ⟨b5, 3, none⟩)), (65, .int .i64 r2), (64, .int .i64 (IntKind.i64.wrap (z6 * e1.T))), (63, .int .i64 e1.T), (62, .pointer (some ⟨b5, 1, none⟩)), (61, .int .i64 z6)]) (l := [.loaded ⟨b8, 0, none⟩ (.int .i64 z6), .loaded ⟨b5, 1, none⟩ (.int .i64 e1.T), .loaded ⟨b5, 3, none⟩ (.int .i64 e1.J)]) (by kernel_rfl) ⟨hS.cell 0 rfl rfl, hS.cell 2 rfl rfl, hS.cell 2 rfl rfl, trivial⟩ ?_
    refine ge_nil fun a hF => hK24 _ _ ?_ a hF
    by_cases hc7 : (IntKind.i64.wrap (z6 * e1.T)) < (IntKind.i64.wrap (r2 + e1.J))
    · rw [if_pos hc7] at h
      refine we_known (t := 70) (b := decide ((IntKind.i64.wrap (z6 * e1.T)) < (IntKind.i64.wrap (r2 + e1.J)))) (v := true) (by kernel_rfl) (decide_eq_true hc7) ?_
      refine we_true (by kernel_rfl) ?_
      refine we_skip fun a hF => hK23 _ _ ?_ a hF
      refine we_seq fun K25 hK25 => ?_
      refine we_block ?_
      refine we_seq fun K26 hK26 => ?_
      refine we_region [(0, 0), (1, 0), (2, 0), (3, 0), (4, 0), (5, 0), (6, 0), (7, 1), (8, 0)] rfl ?_
      rcases hq4 : punctualref_grow_1.f K (IntKind.i64.wrap (z4 + (IntKind.i64.wrap (z6 * e1.C)))) z4 z6 e1 (i1 : Int) l0 with _ | r3
      · rw [hq4] at h; cases h
      rw [hq4] at h
      simp only [] at h
      refine ge_batch [0, 1, 2, 3, 4, 5, 6] (ans := [.val (.int .i64 z4), .val (.int .i64 z6), .val (.int .i64 e1.C)]) (vs := [(79, .func (.func 76) #[] #[.pointer (some ⟨b6, 0, none⟩), .pointer (some ⟨b8, 0, none⟩), .pointer (some ⟨b5, 0, none⟩), .pointer (some ⟨b4, 0, none⟩), .pointer (some ⟨b1, 0, none⟩)]), (78, .int .i64 (IntKind.i64.wrap (z4 + (IntKind.i64.wrap (z6 * e1.C))))), (77, .int .i64 (IntKind.i64.wrap (z6 * e1.C))), (76, .int .i64 e1.C), (75, .pointer (some ⟨b5, 0, none⟩)), (74, .int .i64 z6), (73, .int .i64 z4)]) (l := [.loaded ⟨b6, 0, none⟩ (.int .i64 z4), .loaded ⟨b8, 0, none⟩ (.int .i64 z6), .loaded ⟨b5, 0, none⟩ (.int .i64 e1.C)]) (by kernel_rfl) ⟨hS.cell 1 rfl rfl, hS.cell 0 rfl rfl, hS.cell 2 rfl rfl, trivial⟩ ?_
      refine ge_call (d := some 80) (f := 74) (args := #[.int .i64 (IntKind.i64.wrap (z4 + (IntKind.i64.wrap (z6 * e1.C)))), .func (.func 76) #[] #[.pointer (some ⟨b6, 0, none⟩), .pointer (some ⟨b8, 0, none⟩), .pointer (some ⟨b5, 0, none⟩), .pointer (some ⟨b4, 0, none⟩), .pointer (some ⟨b1, 0, none⟩)]]) (by kernel_rfl) (punctualref_grow_1_ok K (IntKind.i64.wrap (z4 + (IntKind.i64.wrap (z6 * e1.C)))) b6 z4 b8 z6 b5 e1 b4 (i1 : Int) b1 l0 A0 c0 _ (hS.globOf 1 rfl) (hS.globOf 0 rfl) (hS.globOf 2 rfl) (hS.globOf 3 rfl) (hS.rd hR0) hL0 (hS.globOf 5 rfl) _ hq4) ?_
      rintro _ w17 ⟨rfl, hS63⟩
      refine ⟨_, rfl, hS63.below, ?_⟩
      have hS64 := hS.call hS63
      refine ge_batch [8] (ans := []) (vs := [(14, .int .i64 r3)]) (l := []) (by kernel_rfl) trivial ?_
      refine ge_nil fun a hF => hK26 _ _ ?_ a hF
      refine we_seq fun K27 hK27 => ?_
      refine we_region [(0, 0), (1, 0), (2, 0)] rfl ?_
      refine ge_batch [0, 1, 2] (ans := []) (vs := [(12, .bool (decide (r3 ≥ 0))), (82, .bool (decide (r3 ≥ 0))), (81, .int .i64 r3)]) (l := []) (by kernel_rfl) trivial ?_
      refine ge_nil fun a hF => hK27 _ _ ?_ a hF
      refine we_seq fun K28 hK28 => ?_
      refine we_region [(0, 0), (1, 0), (2, 0), (3, 0), (4, 0), (5, 0), (6, 0), (7, 0), (8, 0), (9, 0), (10, 0), (11, 0), (12, 0)] rfl ?_
      refine ge_batch [0, 1, 2, 3, 4, 5, 6, 7, 8, 9, 10, 11, 12] (ans := [.val (.int .i64 e1.J), .val (.int .i64 z6), .val (.int .i64 e1.T), .val (.int .i64 e1.C)]) (vs := [(15, .int .i64 (IntKind.i64.wrap ((IntKind.i64.wrap ((IntKind.i64.wrap (e1.J + r3)) - (IntKind.i64.wrap (z6 * e1.T)))) + e1.C))), (94, .int .i64 (IntKind.i64.wrap ((IntKind.i64.wrap ((IntKind.i64.wrap (e1.J + r3)) - (IntKind.i64.wrap (z6 * e1.T)))) + e1.C))), (93, .int .i64 e1.C), (92, .pointer (some ⟨b5, 0, none⟩)), (91, .int .i64 (IntKind.i64.wrap ((IntKind.i64.wrap (e1.J + r3)) - (IntKind.i64.wrap (z6 * e1.T))))), (90, .int .i64 (IntKind.i64.wrap (z6 * e1.T))), (89, .int .i64 e1.T), (88, .pointer (some ⟨b5, 1, none⟩)), (87, .int .i64 z6), (86, .int .i64 (IntKind.i64.wrap (e1.J + r3))), (85, .int .i64 r3), (84, .int .i64 e1.J), (83, .pointer (some ⟨b5, 3, none⟩))]) (l := [.loaded ⟨b5, 3, none⟩ (.int .i64 e1.J), .loaded ⟨b8, 0, none⟩ (.int .i64 z6), .loaded ⟨b5, 1, none⟩ (.int .i64 e1.T), .loaded ⟨b5, 0, none⟩ (.int .i64 e1.C)]) (by kernel_rfl) ⟨hS64.cell 2 rfl rfl, hS64.cell 0 rfl rfl, hS64.cell 2 rfl rfl, hS64.cell 2 rfl rfl, trivial⟩ ?_
      refine ge_nil fun a hF => hK28 _ _ ?_ a hF
      refine we_seq fun K29 hK29 => ?_
      refine we_region [(0, 0), (1, 0), (2, 0)] rfl ?_
      refine ge_batch [0, 1, 2] (ans := []) (vs := [(97, .bool (decide ((IntKind.i64.wrap ((IntKind.i64.wrap ((IntKind.i64.wrap (e1.J + r3)) - (IntKind.i64.wrap (z6 * e1.T)))) + e1.C)) > z5))), (96, .int .i64 z5), (95, .int .i64 (IntKind.i64.wrap ((IntKind.i64.wrap ((IntKind.i64.wrap (e1.J + r3)) - (IntKind.i64.wrap (z6 * e1.T)))) + e1.C)))]) (l := []) (by kernel_rfl) trivial ?_
      refine ge_nil fun a hF => hK29 _ _ ?_ a hF
      by_cases hc8 : (IntKind.i64.wrap ((IntKind.i64.wrap ((IntKind.i64.wrap (e1.J + r3)) - (IntKind.i64.wrap (z6 * e1.T)))) + e1.C)) > z5
      · rw [if_pos hc8] at h
        refine we_known (t := 97) (b := decide ((IntKind.i64.wrap ((IntKind.i64.wrap ((IntKind.i64.wrap (e1.J + r3)) - (IntKind.i64.wrap (z6 * e1.T)))) + e1.C)) > z5)) (v := true) (by kernel_rfl) (decide_eq_true hc8) ?_
        refine we_true (by kernel_rfl) ?_
        refine we_region [(0, 0), (1, 0)] rfl ?_
        refine ge_batch [0, 1] (ans := []) (vs := [(11, .int .i64 (IntKind.i64.wrap ((IntKind.i64.wrap ((IntKind.i64.wrap (e1.J + r3)) - (IntKind.i64.wrap (z6 * e1.T)))) + e1.C))), (98, .int .i64 (IntKind.i64.wrap ((IntKind.i64.wrap ((IntKind.i64.wrap (e1.J + r3)) - (IntKind.i64.wrap (z6 * e1.T)))) + e1.C)))]) (l := []) (by kernel_rfl) trivial ?_
        refine ge_nil fun a hF => hK25 _ _ ?_ a hF
        refine we_seq fun K30 hK30 => ?_
        refine we_seq fun K31 hK31 => ?_
        refine we_region [(0, 0)] rfl ?_
        refine ge_batch [0] (ans := [.val (.int .i64 z6)]) (vs := [(99, .int .i64 z6)]) (l := [.loaded ⟨b8, 0, none⟩ (.int .i64 z6)]) (by kernel_rfl) ⟨hS64.cell 0 rfl rfl, trivial⟩ ?_
        refine ge_nil fun a hF => hK31 _ _ ?_ a hF
        refine we_region [(0, 1), (1, 2)] rfl ?_
        refine ge_new (d := some 13) (o := .cells #[.int .i64 0] 3) (v := fun b => .pointer (some ⟨b, 0, none⟩)) hS64 (fun b => by kernel_rfl) fun b9 w18 hx10 hS65 => ?_
        refine ge_set (b := b9) (j := 0) (cs := #[.int .i64 0]) (t := 3) (vs := [.int .i64 z6]) hS65 (by kernel_rfl) rfl rfl fun w19 hS66 => ?_
        have hS67 : St w0 w19 [Own.blk b9 (.cells #[.int .i64 z6] 3 (0, 0)), Own.blk b8 (.cells #[.int .i64 z6] 3 (0, 0)), Own.blk b6 (.cells #[.int .i64 z4] 3 (0, 0)), Own.blk b5 (.cells #[.int .i64 e1.C, .int .i64 e1.T, .int .i64 e1.D, .int .i64 e1.J] 63 (0, 0)), Own.blk b4 (.cells #[.int .i64 (i1 : Int)] 3 (0, 0)), Own.blk b2 (.cells #[.int .i64 0, .int .i64 0] 27 (0, 0)), Own.blk b1 (.cells #[.slice A0 l0.length c0] 60 (0, 0)), Own.of (.slice Z1 m1.length cz1) 3 m1] := hS66
        refine ge_nil fun a hF => hK30 _ _ ?_ a hF
        refine we_region [(0, 0), (1, 0), (2, 2)] rfl ?_
        refine ge_batch [0, 1] (ans := [.val (.int .i64 z6)]) (vs := [(72, .int .i64 (IntKind.i64.wrap (z6 + 1))), (71, .int .i64 z6)]) (l := [.loaded ⟨b9, 0, none⟩ (.int .i64 z6)]) (by kernel_rfl) ⟨hS67.cell 0 rfl rfl, trivial⟩ ?_
        refine ge_set (b := b9) (j := 0) (cs := #[.int .i64 z6]) (t := 3) (vs := [.int .i64 (IntKind.i64.wrap (z6 + 1))]) hS67 (by kernel_rfl) rfl rfl fun w20 hS68 => ?_
        have hS69 : St w0 w20 [Own.blk b9 (.cells #[.int .i64 (IntKind.i64.wrap (z6 + 1))] 3 (0, 0)), Own.blk b8 (.cells #[.int .i64 z6] 3 (0, 0)), Own.blk b6 (.cells #[.int .i64 z4] 3 (0, 0)), Own.blk b5 (.cells #[.int .i64 e1.C, .int .i64 e1.T, .int .i64 e1.D, .int .i64 e1.J] 63 (0, 0)), Own.blk b4 (.cells #[.int .i64 (i1 : Int)] 3 (0, 0)), Own.blk b2 (.cells #[.int .i64 0, .int .i64 0] 27 (0, 0)), Own.blk b1 (.cells #[.slice A0 l0.length c0] 60 (0, 0)), Own.of (.slice Z1 m1.length cz1) 3 m1] := hS68
        have hS70 := hS69.bring 7 rfl
        have hS71 := hS70.bring 7 rfl
        have hS72 := hS71.bring 7 rfl
        have hS73 := hS72.bring 7 rfl
        have hS74 := hS73.bring 7 rfl
        have hS75 := hS74.bring 7 rfl
        have hS76 := hS75.bring 6 rfl
        have hS77 := hS76.takeN 7
        obtain rfl := Option.some.inj h
        exact ge_nil fun a hF => hQ _ _ _ (Outs.again ⟨b9, hS77, hF.weaken ⟨by kernel_rfl, by kernel_rfl, by kernel_rfl, by kernel_rfl, by kernel_rfl, by kernel_rfl, by kernel_rfl, by kernel_rfl, by kernel_rfl, by kernel_rfl, by kernel_rfl, by kernel_rfl, by kernel_rfl, trivial⟩⟩)
      · rw [if_neg hc8] at h
        refine we_known (t := 97) (b := decide ((IntKind.i64.wrap ((IntKind.i64.wrap ((IntKind.i64.wrap (e1.J + r3)) - (IntKind.i64.wrap (z6 * e1.T)))) + e1.C)) > z5)) (v := false) (by kernel_rfl) (decide_eq_false hc8) ?_
        refine we_false (by kernel_rfl) ?_
        refine we_skip fun a hF => hK25 _ _ ?_ a hF
        refine we_seq fun K32 hK32 => ?_
        refine we_seq fun K33 hK33 => ?_
        refine we_region [(0, 0)] rfl ?_
        refine ge_batch [0] (ans := [.val (.int .i64 z6)]) (vs := [(99, .int .i64 z6)]) (l := [.loaded ⟨b8, 0, none⟩ (.int .i64 z6)]) (by kernel_rfl) ⟨hS64.cell 0 rfl rfl, trivial⟩ ?_
        refine ge_nil fun a hF => hK33 _ _ ?_ a hF
        refine we_region [(0, 1), (1, 2)] rfl ?_
        refine ge_new (d := some 13) (o := .cells #[.int .i64 0] 3) (v := fun b => .pointer (some ⟨b, 0, none⟩)) hS64 (fun b => by kernel_rfl) fun b10 w21 hx11 hS78 => ?_
        refine ge_set (b := b10) (j := 0) (cs := #[.int .i64 0]) (t := 3) (vs := [.int .i64 z6]) hS78 (by kernel_rfl) rfl rfl fun w22 hS79 => ?_
        have hS80 : St w0 w22 [Own.blk b10 (.cells #[.int .i64 z6] 3 (0, 0)), Own.blk b8 (.cells #[.int .i64 z6] 3 (0, 0)), Own.blk b6 (.cells #[.int .i64 z4] 3 (0, 0)), Own.blk b5 (.cells #[.int .i64 e1.C, .int .i64 e1.T, .int .i64 e1.D, .int .i64 e1.J] 63 (0, 0)), Own.blk b4 (.cells #[.int .i64 (i1 : Int)] 3 (0, 0)), Own.blk b2 (.cells #[.int .i64 0, .int .i64 0] 27 (0, 0)), Own.blk b1 (.cells #[.slice A0 l0.length c0] 60 (0, 0)), Own.of (.slice Z1 m1.length cz1) 3 m1] := hS79
        refine ge_nil fun a hF => hK32 _ _ ?_ a hF
        refine we_region [(0, 0), (1, 0), (2, 2)] rfl ?_
        refine ge_batch [0, 1] (ans := [.val (.int .i64 z6)]) (vs := [(72, .int .i64 (IntKind.i64.wrap (z6 + 1))), (71, .int .i64 z6)]) (l := [.loaded ⟨b10, 0, none⟩ (.int .i64 z6)]) (by kernel_rfl) ⟨hS80.cell 0 rfl rfl, trivial⟩ ?_
        refine ge_set (b := b10) (j := 0) (cs := #[.int .i64 z6]) (t := 3) (vs := [.int .i64 (IntKind.i64.wrap (z6 + 1))]) hS80 (by kernel_rfl) rfl rfl fun w23 hS81 => ?_
        have hS82 : St w0 w23 [Own.blk b10 (.cells #[.int .i64 (IntKind.i64.wrap (z6 + 1))] 3 (0, 0)), Own.blk b8 (.cells #[.int .i64 z6] 3 (0, 0)), Own.blk b6 (.cells #[.int .i64 z4] 3 (0, 0)), Own.blk b5 (.cells #[.int .i64 e1.C, .int .i64 e1.T, .int .i64 e1.D, .int .i64 e1.J] 63 (0, 0)), Own.blk b4 (.cells #[.int .i64 (i1 : Int)] 3 (0, 0)), Own.blk b2 (.cells #[.int .i64 0, .int .i64 0] 27 (0, 0)), Own.blk b1 (.cells #[.slice A0 l0.length c0] 60 (0, 0)), Own.of (.slice Z1 m1.length cz1) 3 m1] := hS81
        have hS83 := hS82.bring 7 rfl
        have hS84 := hS83.bring 7 rfl
        have hS85 := hS84.bring 7 rfl
        have hS86 := hS85.bring 7 rfl
        have hS87 := hS86.bring 7 rfl
        have hS88 := hS87.bring 7 rfl
        have hS89 := hS88.bring 6 rfl
        have hS90 := hS89.takeN 7
        obtain rfl := Option.some.inj h
        exact ge_nil fun a hF => hQ _ _ _ (Outs.again ⟨b10, hS90, hF.weaken ⟨by kernel_rfl, by kernel_rfl, by kernel_rfl, by kernel_rfl, by kernel_rfl, by kernel_rfl, by kernel_rfl, by kernel_rfl, by kernel_rfl, by kernel_rfl, by kernel_rfl, by kernel_rfl, by kernel_rfl, trivial⟩⟩)
    · rw [if_neg hc7] at h
      refine we_known (t := 70) (b := decide ((IntKind.i64.wrap (z6 * e1.T)) < (IntKind.i64.wrap (r2 + e1.J)))) (v := false) (by kernel_rfl) (decide_eq_false hc7) ?_
      refine we_false (by kernel_rfl) ?_
      have hS91 := hS.bring 6 rfl
      have hS92 := hS91.bring 6 rfl
      have hS93 := hS92.bring 6 rfl
      have hS94 := hS93.bring 6 rfl
      have hS95 := hS94.bring 6 rfl
      have hS96 := hS95.takeN 5
      obtain rfl := Option.some.inj h
      exact we_exit fun a hF => hQ _ _ _ (Outs.out nofun (Exits.here ⟨hS96, hF.weaken ⟨by kernel_rfl, by kernel_rfl, by kernel_rfl, by kernel_rfl, by kernel_rfl, by kernel_rfl, by kernel_rfl, by kernel_rfl, by kernel_rfl, by kernel_rfl, trivial⟩⟩))
  · rw [if_neg hc6] at h
    refine ge_known (t := 60) (b := q1) (c := false) (by kernel_rfl) (Bool.eq_false_iff.2 hc6) ?_
    refine ge_batch [2, 3, 4, 5, 6, 7, 8, 9, 10, 11] (ans := []) (vs := [(70, .bool false), (69, undef), (68, undef), (67, undef), (66, undef), (65, undef), (64, undef), (63, undef), (62, undef), (61, undef)]) (l := []) (by kernel_rfl) trivial ?_
    refine ge_nil fun a hF => hK24 _ _ ?_ a hF
    refine we_false (by kernel_rfl) ?_
    have hS97 := hS.bring 6 rfl
    have hS98 := hS97.bring 6 rfl
    have hS99 := hS98.bring 6 rfl
    have hS100 := hS99.bring 6 rfl
    have hS101 := hS100.bring 6 rfl
    have hS102 := hS101.takeN 5
    obtain rfl := Option.some.inj h
    exact we_exit fun a hF => hQ _ _ _ (Outs.out nofun (Exits.here ⟨hS102, hF.weaken ⟨by kernel_rfl, by kernel_rfl, by kernel_rfl, by kernel_rfl, by kernel_rfl, by kernel_rfl, by kernel_rfl, by kernel_rfl, by kernel_rfl, by kernel_rfl, trivial⟩⟩))
abbrev punctualref_BusTimes.A0 (K : Nat) (w0 : World) (l0 : List SFrame) (A0 : Option Addr) (c0 : Nat) (hR0 : RdL w0 A0 l0) (hL0 : l0.length ≤ c0) (b1 : Nat) (b2 : Nat) (r1 : SFault) (b3 : Nat) (hc1 : r1.Code = 0) : ((List Int) × Nat) → Act → World → Prop := fun (s : (List Int) × Nat) a w => ∃ (v1 : Value), St w0 w [Own.blk b2 (.cells #[.int .i64 0, .int .i64 0] 27 (0, 0)), Own.blk b1 (.cells #[.slice A0 l0.length c0] 60 (0, 0)), Own.of v1 3 s.1] ∧ Frm 117 a [(1, .pointer (some ⟨b1, 0, none⟩)), (3, .pointer (some ⟨b2, 0, none⟩)), (5, v1), (22, .slice A0 l0.length c0), (23, .int .i64 (l0.length : Int)), (24, .int .i64 (s.2 : Int))]
abbrev punctualref_BusTimes.B0 (K : Nat) (w0 : World) (l0 : List SFrame) (A0 : Option Addr) (c0 : Nat) (hR0 : RdL w0 A0 l0) (hL0 : l0.length ≤ c0) (b1 : Nat) (b2 : Nat) (r1 : SFault) (b3 : Nat) (hc1 : r1.Code = 0) : ((List Int) ⊕ ((List Int) × SFault)) → Exit → Act → World → Prop := Exits 0 (fun (s : (List Int)) a w => ∃ (v2 : Value), St w0 w [Own.blk b2 (.cells #[.int .i64 0, .int .i64 0] 27 (0, 0)), Own.of v2 3 s] ∧ Frm 117 a [(3, .pointer (some ⟨b2, 0, none⟩)), (5, v2)]) (Rets Tryd.prog Tryd.f35 (punctualref_BusTimes.Post w0))
theorem punctualref_BusTimes_r0 (K : Nat) (w0 : World) (l0 : List SFrame) (A0 : Option Addr) (c0 : Nat) (hR0 : RdL w0 A0 l0) (hL0 : l0.length ≤ c0) (b1 : Nat) (b2 : Nat) (r1 : SFault) (b3 : Nat) (hc1 : r1.Code = 0) (s : (List Int) × Nat) (o : ((List Int) × Nat) ⊕ ((List Int) ⊕ ((List Int) × SFault))) (h : punctualref_BusTimes.r0 K l0 r1 s = some o) (a : Act) (w : World) (hA : punctualref_BusTimes.A0 K w0 l0 A0 c0 hR0 hL0 b1 b2 r1 b3 hc1 s a w) (Q : Exit → Act → World → Prop) (hQ : ∀ x a w, Outs (punctualref_BusTimes.A0 K w0 l0 A0 c0 hR0 hL0 b1 b2 r1 b3 hc1) (punctualref_BusTimes.B0 K w0 l0 A0 c0 hR0 hL0 b1 b2 r1 b3 hc1) o x a w → Q x a w) : (subF Tryd.f35 [1, 1, 1, 0, 1, 0, 0]).wp Tryd.prog Q a w := by
  obtain ⟨m1, i1⟩ := s
  obtain ⟨v1, hS, hF⟩ := hA
  replace hS : St w0 w [Own.blk b2 (.cells #[.int .i64 0, .int .i64 0] 27 (0, 0)), Own.blk b1 (.cells #[.slice A0 l0.length c0] 60 (0, 0)), Own.of v1 3 m1] := hS
  simp only [punctualref_BusTimes.r0] at h
  refine (?_ : WE Tryd.prog 117 (subF Tryd.f35 [1, 1, 1, 0, 1, 0, 0]) Q [(1, .pointer (some ⟨b1, 0, none⟩)), (3, .pointer (some ⟨b2, 0, none⟩)), (5, v1), (22, .slice A0 l0.length c0), (23, .int .i64 (l0.length : Int)), (24, .int .i64 (i1 : Int))] w) a hF
  clear hF a
  refine we_seq fun K8 hK8 => ?_
  refine we_region [(0, 0)] rfl ?_
  refine ge_batch [0] (ans := []) (vs := [(25, .bool (decide ((i1 : Int) < (l0.length : Int))))]) (l := []) (by kernel_rfl) trivial ?_
  refine ge_nil fun a hF => hK8 _ _ ?_ a hF
  refine we_seq fun K9 hK9 => ?_
  by_cases hc2 : (i1 : Int) < (l0.length : Int)
  · rw [if_pos hc2] at h
    refine we_known (t := 25) (b := decide ((i1 : Int) < (l0.length : Int))) (v := true) (by kernel_rfl) (decide_eq_true hc2) ?_
    refine we_true (by kernel_rfl) ?_
    refine we_skip fun a hF => hK9 _ _ ?_ a hF
    refine we_seq fun K10 hK10 => ?_
    refine we_block ?_
    refine we_seq fun K11 hK11 => ?_
    refine we_region [(0, 0), (1, 0), (2, 0), (3, 1), (4, 1), (5, 2), (6, 2)] rfl ?_
    refine ge_batch [0] (ans := []) (vs := [(26, .int .i64 (i1 : Int))]) (l := []) (by kernel_rfl) trivial ?_
    rcases hx4 : l0[i1]? with _ | e1
    · rw [hx4] at h; cases h
    rw [hx4] at h
    simp only [] at h
    refine ge_index (d := 27) (ty := 0) (t := 60) (el := 63) (sz := 4) (m := l0.length) (c := c0) (x := (.tmp 22)) (y := (.tmp 24)) (A := A0) (k' := .i64) (j := (i1 : Int)) (jn := i1) (b0 := blkOf A0) (o0 := offOf A0) (by kernel_rfl) (by kernel_rfl) (by kernel_rfl) (by kernel_rfl) (by kernel_rfl) ((hS.rd hR0).eqSome (pos_of_get hx4)) rfl (lt_of_get hx4) ?_
    refine ge_batch [2] (ans := [.val (.int .i64 e1.C), .val (.int .i64 e1.T), .val (.int .i64 e1.D), .val (.int .i64 e1.J)]) (vs := [(28, .agg #[.int .i64 e1.C, .int .i64 e1.T, .int .i64 e1.D, .int .i64 e1.J])]) (l := [.loaded ⟨blkOf A0, offOf A0 + i1 * 4, none⟩ (.int .i64 e1.C), .loaded ⟨blkOf A0, offOf A0 + i1 * 4 + 1, none⟩ (.int .i64 e1.T), .loaded ⟨blkOf A0, offOf A0 + i1 * 4 + 2, none⟩ (.int .i64 e1.D), .loaded ⟨blkOf A0, offOf A0 + i1 * 4 + 3, none⟩ (.int .i64 e1.J)]) (by kernel_rfl) ⟨RdL.cell (j := 0) (hS.rd hR0) hx4 rfl, RdL.cell (j := 1) (hS.rd hR0) hx4 rfl, RdL.cell (j := 2) (hS.rd hR0) hx4 rfl, RdL.cell (j := 3) (hS.rd hR0) hx4 rfl, trivial⟩ ?_
    refine ge_new (d := some 6) (o := .cells #[.int .i64 0] 3) (v := fun b => .pointer (some ⟨b, 0, none⟩)) hS (fun b => by kernel_rfl) fun b4 w6 hx5 hS12 => ?_
    refine ge_new (d := some 7) (o := .cells #[.int .i64 0, .int .i64 0, .int .i64 0, .int .i64 0] 63) (v := fun b => .pointer (some ⟨b, 0, none⟩)) hS12 (fun b => by kernel_rfl) fun b5 w7 hx6 hS13 => ?_
    have hS14 := hS13.bring 1 rfl
    refine ge_set (b := b4) (j := 0) (cs := #[.int .i64 0]) (t := 3) (vs := [.int .i64 (i1 : Int)]) hS14 (by kernel_rfl) rfl rfl fun w8 hS15 => ?_
    have hS16 : St w0 w8 [Own.blk b4 (.cells #[.int .i64 (i1 : Int)] 3 (0, 0)), Own.blk b5 (.cells #[.int .i64 0, .int .i64 0, .int .i64 0, .int .i64 0] 63 (0, 0)), Own.blk b2 (.cells #[.int .i64 0, .int .i64 0] 27 (0, 0)), Own.blk b1 (.cells #[.slice A0 l0.length c0] 60 (0, 0)), Own.of v1 3 m1] := hS15
    have hS17 := hS16.bring 1 rfl
    refine ge_set (b := b5) (j := 0) (cs := #[.int .i64 0, .int .i64 0, .int .i64 0, .int .i64 0]) (t := 63) (vs := [.int .i64 e1.C, .int .i64 e1.T, .int .i64 e1.D, .int .i64 e1.J]) hS17 (by kernel_rfl) rfl rfl fun w9 hS18 => ?_
    have hS19 : St w0 w9 [Own.blk b5 (.cells #[.int .i64 e1.C, .int .i64 e1.T, .int .i64 e1.D, .int .i64 e1.J] 63 (0, 0)), Own.blk b4 (.cells #[.int .i64 (i1 : Int)] 3 (0, 0)), Own.blk b2 (.cells #[.int .i64 0, .int .i64 0] 27 (0, 0)), Own.blk b1 (.cells #[.slice A0 l0.length c0] 60 (0, 0)), Own.of v1 3 m1] := hS18
    refine ge_nil fun a hF => hK11 _ _ ?_ a hF
    refine we_seq fun K12 hK12 => ?_
    refine we_region [(0, 1), (1, 2)] rfl ?_
    refine ge_new (d := some 8) (o := .cells #[.int .i64 0] 3) (v := fun b => .pointer (some ⟨b, 0, none⟩)) hS19 (fun b => by kernel_rfl) fun b6 w10 hx7 hS20 => ?_
    refine ge_set (b := b6) (j := 0) (cs := #[.int .i64 0]) (t := 3) (vs := [.int .i64 0]) hS20 (by kernel_rfl) rfl rfl fun w11 hS21 => ?_
    have hS22 : St w0 w11 [Own.blk b6 (.cells #[.int .i64 0] 3 (0, 0)), Own.blk b5 (.cells #[.int .i64 e1.C, .int .i64 e1.T, .int .i64 e1.D, .int .i64 e1.J] 63 (0, 0)), Own.blk b4 (.cells #[.int .i64 (i1 : Int)] 3 (0, 0)), Own.blk b2 (.cells #[.int .i64 0, .int .i64 0] 27 (0, 0)), Own.blk b1 (.cells #[.slice A0 l0.length c0] 60 (0, 0)), Own.of v1 3 m1] := hS21
    refine ge_nil fun a hF => hK12 _ _ ?_ a hF
    refine we_seq fun K13 hK13 => ?_
    refine we_seq fun K14 hK14 => ?_
    refine we_region [(0, 0), (1, 0), (2, 0)] rfl ?_
    refine ge_batch [0] (ans := [.val (.int .i64 (i1 : Int))]) (vs := [(29, .int .i64 (i1 : Int))]) (l := [.loaded ⟨b4, 0, none⟩ (.int .i64 (i1 : Int))]) (by kernel_rfl) ⟨hS22.cell 2 rfl rfl, trivial⟩ ?_
    refine ge_addn (d := 30) (ty := 3) (x := (.tmp 29)) (y := (.const (.int .i64 1))) (t := 3) (t2 := 3) (k := .i64) (m := i1) (by kernel_rfl) (by kernel_rfl) (by kernel_rfl) (by have h0 := hR0.small; omega) ?_
    refine ge_batch [2] (ans := []) (vs := [(9, .int .i64 ((i1 + 1 : Nat) : Int))]) (l := []) (by kernel_rfl) trivial ?_
    refine ge_nil fun a hF => hK14 _ _ ?_ a hF
    refine we_block ?_
    obtain ⟨Z1, cz1, rfl⟩ := hS22.open 5 rfl
    have hS23 := hS22.bring 5 rfl
    have hS24 := hS23.bring 5 rfl
    have hS25 := hS24.bring 5 rfl
    have hS26 := hS25.bring 5 rfl
    have hS27 := hS26.bring 5 rfl
    have hS28 := hS27.bring 5 rfl
    rcases hq2 : iter (punctualref_BusTimes.r1 l0) K (((i1 + 1 : Nat) : Int), 0) with _ | (z4 | rr2)
    · rw [hq2] at h; cases h
    · rw [hq2] at h
      simp only [] at h
      refine we_iter (A := punctualref_BusTimes.A1 K w0 l0 A0 c0 hR0 hL0 b1 b2 r1 b3 hc1 m1 i1 hc2 e1 hx4 b4 b5 b6 Z1 cz1) (B := punctualref_BusTimes.B1 K w0 l0 A0 c0 hR0 hL0 b1 b2 r1 b3 hc1 m1 i1 hc2 e1 hx4 b4 b5 b6 Z1 cz1) hq2 (fun a hF => ⟨hS28, hF.weaken ⟨by kernel_rfl, by kernel_rfl, by kernel_rfl, by kernel_rfl, by kernel_rfl, by kernel_rfl, by kernel_rfl, by kernel_rfl, by kernel_rfl, by kernel_rfl, trivial⟩⟩) (fun s o hf a w hA Q hQ => punctualref_BusTimes_r1 K w0 l0 A0 c0 hR0 hL0 b1 b2 r1 b3 hc1 m1 i1 hc2 e1 hx4 b4 b5 b6 Z1 cz1 s o hf a w hA Q hQ) ?_
      rintro _ a w13 _ ⟨rfl, hS50, hF⟩
      replace hS50 : St w0 w13 [Own.blk b6 (.cells #[.int .i64 z4] 3 (0, 0)), Own.blk b5 (.cells #[.int .i64 e1.C, .int .i64 e1.T, .int .i64 e1.D, .int .i64 e1.J] 63 (0, 0)), Own.blk b4 (.cells #[.int .i64 (i1 : Int)] 3 (0, 0)), Own.blk b2 (.cells #[.int .i64 0, .int .i64 0] 27 (0, 0)), Own.blk b1 (.cells #[.slice A0 l0.length c0] 60 (0, 0)), Own.of (.slice Z1 m1.length cz1) 3 m1] := hS50
      refine hK13 [(1, .pointer (some ⟨b1, 0, none⟩)), (3, .pointer (some ⟨b2, 0, none⟩)), (5, (.slice Z1 m1.length cz1)), (6, .pointer (some ⟨b4, 0, none⟩)), (7, .pointer (some ⟨b5, 0, none⟩)), (8, .pointer (some ⟨b6, 0, none⟩)), (22, .slice A0 l0.length c0), (23, .int .i64 (l0.length : Int)), (24, .int .i64 (i1 : Int))] w13 ?_ a hF
      refine we_seq fun K19 hK19 => ?_
      refine we_region [(0, 0), (1, 0), (2, 0), (3, 0), (4, 0), (5, 1), (6, 0)] rfl ?_
      rcases hq3 : punctualref_grow.f K (IntKind.i64.wrap (z4 + e1.C)) z4 (i1 : Int) l0 with _ | r2
      · rw [hq3] at h; cases h
      rw [hq3] at h
      simp only [] at h
      refine ge_batch [0, 1, 2, 3, 4] (ans := [.val (.int .i64 z4), .val (.int .i64 e1.C)]) (vs := [(55, .func (.func 75) #[] #[.pointer (some ⟨b6, 0, none⟩), .pointer (some ⟨b4, 0, none⟩), .pointer (some ⟨b1, 0, none⟩)]), (54, .int .i64 (IntKind.i64.wrap (z4 + e1.C))), (53, .int .i64 e1.C), (52, .pointer (some ⟨b5, 0, none⟩)), (51, .int .i64 z4)]) (l := [.loaded ⟨b6, 0, none⟩ (.int .i64 z4), .loaded ⟨b5, 0, none⟩ (.int .i64 e1.C)]) (by kernel_rfl) ⟨hS50.cell 0 rfl rfl, hS50.cell 1 rfl rfl, trivial⟩ ?_
      refine ge_call (d := some 56) (f := 74) (args := #[.int .i64 (IntKind.i64.wrap (z4 + e1.C)), .func (.func 75) #[] #[.pointer (some ⟨b6, 0, none⟩), .pointer (some ⟨b4, 0, none⟩), .pointer (some ⟨b1, 0, none⟩)]]) (by kernel_rfl) (punctualref_grow_ok K (IntKind.i64.wrap (z4 + e1.C)) b6 z4 b4 (i1 : Int) b1 l0 A0 c0 _ (hS50.globOf 0 rfl) (hS50.globOf 2 rfl) (hS50.rd hR0) hL0 (hS50.globOf 4 rfl) _ hq3) ?_
      rintro _ w14 ⟨rfl, hS51⟩
      refine ⟨_, rfl, hS51.below, ?_⟩
      have hS52 := hS50.call hS51
      refine ge_batch [6] (ans := []) (vs := [(10, .int .i64 r2)]) (l := []) (by kernel_rfl) trivial ?_
      refine ge_nil fun a hF => hK19 _ _ ?_ a hF
      refine we_seq fun K20 hK20 => ?_
      refine we_region [(0, 0), (1, 0), (2, 0), (3, 0)] rfl ?_
      refine ge_batch [0, 1, 2, 3] (ans := []) (vs := [(12, .bool (decide (r2 ≥ 0))), (11, .int .i64 0), (58, .bool (decide (r2 ≥ 0))), (57, .int .i64 r2)]) (l := []) (by kernel_rfl) trivial ?_
      refine ge_nil fun a hF => hK20 _ _ ?_ a hF
      refine we_seq fun K21 hK21 => ?_
      refine we_seq fun K22 hK22 => ?_
      refine we_region [(0, 1), (1, 2)] rfl ?_
      refine ge_new (d := some 13) (o := .cells #[.int .i64 0] 3) (v := fun b => .pointer (some ⟨b, 0, none⟩)) hS52 (fun b => by kernel_rfl) fun b7 w15 hx9 hS53 => ?_
      refine ge_set (b := b7) (j := 0) (cs := #[.int .i64 0]) (t := 3) (vs := [.int .i64 0]) hS53 (by kernel_rfl) rfl rfl fun w16 hS54 => ?_
      have hS55 : St w0 w16 [Own.blk b7 (.cells #[.int .i64 0] 3 (0, 0)), Own.blk b6 (.cells #[.int .i64 z4] 3 (0, 0)), Own.blk b5 (.cells #[.int .i64 e1.C, .int .i64 e1.T, .int .i64 e1.D, .int .i64 e1.J] 63 (0, 0)), Own.blk b4 (.cells #[.int .i64 (i1 : Int)] 3 (0, 0)), Own.blk b2 (.cells #[.int .i64 0, .int .i64 0] 27 (0, 0)), Own.blk b1 (.cells #[.slice A0 l0.length c0] 60 (0, 0)), Own.of (.slice Z1 m1.length cz1) 3 m1] := hS54
      refine ge_nil fun a hF => hK22 _ _ ?_ a hF
      refine we_block ?_
      have hS56 := hS55.bring 6 rfl
      have hS57 := hS56.bring 6 rfl
      have hS58 := hS57.bring 6 rfl
      have hS59 := hS58.bring 6 rfl
      have hS60 := hS59.bring 6 rfl
      have hS61 := hS60.bring 6 rfl
      have hS62 := hS61.bring 6 rfl
      rcases hq5 : iter (punctualref_BusTimes.r2 K l0 i1 e1 z4 r2) K (0, decide (r2 ≥ 0), 0) with _ | (⟨z8, q3⟩ | rr1)
      · rw [hq5] at h; cases h
      · rw [hq5] at h
        simp only [] at h
        refine we_iter (A := punctualref_BusTimes.A2 K w0 l0 A0 c0 hR0 hL0 b1 b2 r1 b3 hc1 m1 i1 hc2 e1 hx4 b4 b5 b6 Z1 cz1 z4 r2 b7) (B := punctualref_BusTimes.B2 K w0 l0 A0 c0 hR0 hL0 b1 b2 r1 b3 hc1 m1 i1 hc2 e1 hx4 b4 b5 b6 Z1 cz1 z4 r2 b7) hq5 (fun a hF => ⟨b7, hS62, hF.weaken ⟨by kernel_rfl, by kernel_rfl, by kernel_rfl, by kernel_rfl, by kernel_rfl, by kernel_rfl, by kernel_rfl, by kernel_rfl, by kernel_rfl, by kernel_rfl, by kernel_rfl, by kernel_rfl, by kernel_rfl, trivial⟩⟩) (fun s o hf a w hA Q hQ => punctualref_BusTimes_r2 K w0 l0 A0 c0 hR0 hL0 b1 b2 r1 b3 hc1 m1 i1 hc2 e1 hx4 b4 b5 b6 Z1 cz1 z4 r2 b7 s o hf a w hA Q hQ) ?_
        rintro _ a w24 _ ⟨rfl, hS103, hF⟩
        replace hS103 : St w0 w24 [Own.blk b5 (.cells #[.int .i64 e1.C, .int .i64 e1.T, .int .i64 e1.D, .int .i64 e1.J] 63 (0, 0)), Own.blk b4 (.cells #[.int .i64 (i1 : Int)] 3 (0, 0)), Own.blk b2 (.cells #[.int .i64 0, .int .i64 0] 27 (0, 0)), Own.blk b1 (.cells #[.slice A0 l0.length c0] 60 (0, 0)), Own.of (.slice Z1 m1.length cz1) 3 m1] := hS103
        refine hK21 [(1, .pointer (some ⟨b1, 0, none⟩)), (3, .pointer (some ⟨b2, 0, none⟩)), (5, (.slice Z1 m1.length cz1)), (6, .pointer (some ⟨b4, 0, none⟩)), (7, .pointer (some ⟨b5, 0, none⟩)), (11, .int .i64 z8), (12, .bool q3), (22, .slice A0 l0.length c0), (23, .int .i64 (l0.length : Int)), (24, .int .i64 (i1 : Int))] w24 ?_ a hF
        refine we_seq fun K34 hK34 => ?_
        refine we_seq fun K35 hK35 => ?_
        refine we_region [(0, 0), (1, 0), (2, 0), (3, 0), (4, 0), (5, 0), (6, 0), (7, 0)] rfl ?_
        refine ge_batch [0, 1, 2] (ans := []) (vs := [(102, .bool (!q3)), (101, .bool (!q3)), (100, .bool q3)]) (l := []) (by kernel_rfl) trivial ?_
        by_cases hc9 : q3 = true
        · rw [if_pos hc9] at h
          refine ge_known (t := 102) (b := !q3) (c := false) (by kernel_rfl) (congrArg (fun z => !z) hc9) ?_
          refine ge_batch [3, 4, 5, 6, 7] (ans := [.val (.int .i64 e1.D)]) (vs := [(107, .bool (decide (z8 > e1.D))), (106, .bool (decide (z8 > e1.D))), (105, .int .i64 e1.D), (104, .pointer (some ⟨b5, 2, none⟩)), (103, .int .i64 z8)]) (l := [.loaded ⟨b5, 2, none⟩ (.int .i64 e1.D)]) (by kernel_rfl) ⟨hS103.cell 0 rfl rfl, trivial⟩ ?_
          refine ge_nil fun a hF => hK35 _ _ ?_ a hF
          by_cases hc10 : z8 > e1.D
          · rw [if_pos hc10] at h
            refine we_known (t := 107) (b := decide (z8 > e1.D)) (v := true) (by kernel_rfl) (decide_eq_true hc10) ?_
            refine we_true (by kernel_rfl) ?_
            refine we_seq fun K36 hK36 => ?_
            refine we_region [(0, 0), (1, 1), (2, 0), (3, 2)] rfl ?_
            refine ge_batch [0] (ans := [.val (.int .i64 (i1 : Int))]) (vs := [(108, .int .i64 (i1 : Int))]) (l := [.loaded ⟨b4, 0, none⟩ (.int .i64 (i1 : Int))]) (by kernel_rfl) ⟨hS103.cell 1 rfl rfl, trivial⟩ ?_
            refine ge_call (d := some 109) (f := 61) (args := #[.int .i64 13, .int .i64 (i1 : Int)]) (by kernel_rfl) (punctualref_F_ok 13 (i1 : Int) _ _ rfl) ?_
            rintro _ w25 ⟨rfl, hS104⟩
            refine ⟨_, rfl, hS104.below, ?_⟩
            have hS105 := hS103.call hS104
            refine ge_batch [2] (ans := []) (vs := [(2, .slice none 0 0)]) (l := []) (by kernel_rfl) trivial ?_
            have hS106 := hS105.bring 2 rfl
            refine ge_set (b := b2) (j := 0) (cs := #[.int .i64 0, .int .i64 0]) (t := 27) (vs := [.int .i64 ((punctualref_F.f 13 (i1 : Int)).Code), .int .i64 ((punctualref_F.f 13 (i1 : Int)).At)]) hS106 (by kernel_rfl) rfl rfl fun w26 hS107 => ?_
            have hS108 : St w0 w26 [Own.blk b2 (.cells #[.int .i64 ((punctualref_F.f 13 (i1 : Int)).Code), .int .i64 ((punctualref_F.f 13 (i1 : Int)).At)] 27 (0, 0)), Own.blk b5 (.cells #[.int .i64 e1.C, .int .i64 e1.T, .int .i64 e1.D, .int .i64 e1.J] 63 (0, 0)), Own.blk b4 (.cells #[.int .i64 (i1 : Int)] 3 (0, 0)), Own.blk b1 (.cells #[.slice A0 l0.length c0] 60 (0, 0)), Own.of (.slice Z1 m1.length cz1) 3 m1] := hS107
            refine ge_nil fun a hF => hK36 _ _ ?_ a hF
            have hS109 := hS108.nil (α := Int) 3
            have hS110 := hS109.takeN 1
            obtain rfl := Option.some.inj h
            exact we_ret fun a hF => hQ _ _ _ (Outs.out nofun (Exits.on ⟨rfl, (post_ret (rs := [.tmp 2, .cell 3 27]) (ans := [.val (.int .i64 ((punctualref_F.f 13 (i1 : Int)).Code)), .val (.int .i64 ((punctualref_F.f 13 (i1 : Int)).At))]) (vs := [(.slice none 0 0), .agg #[.int .i64 ((punctualref_F.f 13 (i1 : Int)).Code), .int .i64 ((punctualref_F.f 13 (i1 : Int)).At)]]) (l := [.loaded ⟨b2, 0, none⟩ (.int .i64 ((punctualref_F.f 13 (i1 : Int)).Code)), .loaded ⟨b2, 1, none⟩ (.int .i64 ((punctualref_F.f 13 (i1 : Int)).At))]) rfl (by kernel_rfl) ⟨hS109.cell 1 rfl rfl, hS109.cell 1 rfl rfl, trivial⟩ ⟨(.slice none 0 0), rfl, hS110⟩) a hF⟩))
          · rw [if_neg hc10] at h
            refine we_known (t := 107) (b := decide (z8 > e1.D)) (v := false) (by kernel_rfl) (decide_eq_false hc10) ?_
            refine we_false (by kernel_rfl) ?_
            refine we_skip fun a hF => hK34 _ _ ?_ a hF
            refine we_region [(0, 0), (1, 0), (2, 1), (3, 2), (4, 0)] rfl ?_
            refine ge_batch [0, 1] (ans := []) (vs := [(111, .int .i64 z8), (110, (.slice Z1 m1.length cz1))]) (l := []) (by kernel_rfl) trivial ?_
            refine ge_new (d := some 112) (o := .cells #[.int .i64 z8] 3) (v := fun b => .slice (some ⟨b, 0, none⟩) 1 1) hS103 (fun b => by kernel_rfl) fun b11 w27 hx12 hS111 => ?_
            have hS112 := hS111.bring 5 rfl
            by_cases hc11 : m1.length < 17592186044416
            · rw [if_pos hc11] at h
              refine ge_append (α := Int) (m := 0) (d := 113) (t := 24) (el := 3) (bytes := 8) (c1 := 1) (b1 := b11) (x := (.tmp 110)) (y := (.tmp 112)) (ty := 24) (v := (.slice Z1 m1.length cz1)) (z := .int .i64 0) (l := m1) (u := z8) (by kernel_rfl) (by kernel_rfl) (by kernel_rfl) (by kernel_rfl) (by kernel_rfl) rfl hS112 rfl (by omega) fun v3 w28 hS113 => ?_
              refine ge_batch [4] (ans := []) (vs := [(5, v3)]) (l := []) (by kernel_rfl) trivial ?_
              refine ge_nil fun a hF => hK10 _ _ ?_ a hF
              refine we_region [(0, 0), (1, 0)] rfl ?_
              refine ge_addn (d := 114) (ty := 3) (x := (.tmp 24)) (y := (.const (.int .i64 1))) (t := 3) (t2 := 3) (k := .i64) (m := i1) (by kernel_rfl) (by kernel_rfl) (by kernel_rfl) (by have h0 := hR0.small; omega) ?_
              refine ge_batch [1] (ans := []) (vs := [(24, .int .i64 ((i1 + 1 : Nat) : Int))]) (l := []) (by kernel_rfl) trivial ?_
              have hS114 := hS113.bring 4 rfl
              have hS115 := hS114.bring 4 rfl
              have hS116 := hS115.takeN 3
              obtain rfl := Option.some.inj h
              exact ge_nil fun a hF => hQ _ _ _ (Outs.again ⟨v3, hS116, hF.weaken ⟨by kernel_rfl, by kernel_rfl, by kernel_rfl, by kernel_rfl, by kernel_rfl, by kernel_rfl, trivial⟩⟩)
            · rw [if_neg hc11] at h
              cases h
        · rw [if_neg hc9] at h
          refine ge_known (t := 102) (b := !q3) (c := true) (by kernel_rfl) (congrArg (fun z => !z) (Bool.eq_false_iff.2 hc9)) ?_
          refine ge_batch [3, 4, 5, 6, 7] (ans := []) (vs := [(107, .bool true), (106, undef), (105, undef), (104, undef), (103, undef)]) (l := []) (by kernel_rfl) trivial ?_
          refine ge_nil fun a hF => hK35 _ _ ?_ a hF
          refine we_true (by kernel_rfl) ?_
          refine we_seq fun K37 hK37 => ?_
          refine we_region [(0, 0), (1, 1), (2, 0), (3, 2)] rfl ?_
          refine ge_batch [0] (ans := [.val (.int .i64 (i1 : Int))]) (vs := [(108, .int .i64 (i1 : Int))]) (l := [.loaded ⟨b4, 0, none⟩ (.int .i64 (i1 : Int))]) (by kernel_rfl) ⟨hS103.cell 1 rfl rfl, trivial⟩ ?_
          refine ge_call (d := some 109) (f := 61) (args := #[.int .i64 13, .int .i64 (i1 : Int)]) (by kernel_rfl) (punctualref_F_ok 13 (i1 : Int) _ _ rfl) ?_
          rintro _ w29 ⟨rfl, hS117⟩
          refine ⟨_, rfl, hS117.below, ?_⟩
          have hS118 := hS103.call hS117
          refine ge_batch [2] (ans := []) (vs := [(2, .slice none 0 0)]) (l := []) (by kernel_rfl) trivial ?_
          have hS119 := hS118.bring 2 rfl
          refine ge_set (b := b2) (j := 0) (cs := #[.int .i64 0, .int .i64 0]) (t := 27) (vs := [.int .i64 ((punctualref_F.f 13 (i1 : Int)).Code), .int .i64 ((punctualref_F.f 13 (i1 : Int)).At)]) hS119 (by kernel_rfl) rfl rfl fun w30 hS120 => ?_
          have hS121 : St w0 w30 [Own.blk b2 (.cells #[.int .i64 ((punctualref_F.f 13 (i1 : Int)).Code), .int .i64 ((punctualref_F.f 13 (i1 : Int)).At)] 27 (0, 0)), Own.blk b5 (.cells #[.int .i64 e1.C, .int .i64 e1.T, .int .i64 e1.D, .int .i64 e1.J] 63 (0, 0)), Own.blk b4 (.cells #[.int .i64 (i1 : Int)] 3 (0, 0)), Own.blk b1 (.cells #[.slice A0 l0.length c0] 60 (0, 0)), Own.of (.slice Z1 m1.length cz1) 3 m1] := hS120
          refine ge_nil fun a hF => hK37 _ _ ?_ a hF
          have hS122 := hS121.nil (α := Int) 3
          have hS123 := hS122.takeN 1
          obtain rfl := Option.some.inj h
          exact we_ret fun a hF => hQ _ _ _ (Outs.out nofun (Exits.on ⟨rfl, (post_ret (rs := [.tmp 2, .cell 3 27]) (ans := [.val (.int .i64 ((punctualref_F.f 13 (i1 : Int)).Code)), .val (.int .i64 ((punctualref_F.f 13 (i1 : Int)).At))]) (vs := [(.slice none 0 0), .agg #[.int .i64 ((punctualref_F.f 13 (i1 : Int)).Code), .int .i64 ((punctualref_F.f 13 (i1 : Int)).At)]]) (l := [.loaded ⟨b2, 0, none⟩ (.int .i64 ((punctualref_F.f 13 (i1 : Int)).Code)), .loaded ⟨b2, 1, none⟩ (.int .i64 ((punctualref_F.f 13 (i1 : Int)).At))]) rfl (by kernel_rfl) ⟨hS122.cell 1 rfl rfl, hS122.cell 1 rfl rfl, trivial⟩ ⟨(.slice none 0 0), rfl, hS123⟩) a hF⟩))
      · rw [hq5] at h
        simp only [] at h
        refine we_iter (A := punctualref_BusTimes.A2 K w0 l0 A0 c0 hR0 hL0 b1 b2 r1 b3 hc1 m1 i1 hc2 e1 hx4 b4 b5 b6 Z1 cz1 z4 r2 b7) (B := punctualref_BusTimes.B2 K w0 l0 A0 c0 hR0 hL0 b1 b2 r1 b3 hc1 m1 i1 hc2 e1 hx4 b4 b5 b6 Z1 cz1 z4 r2 b7) hq5 (fun a hF => ⟨b7, hS62, hF.weaken ⟨by kernel_rfl, by kernel_rfl, by kernel_rfl, by kernel_rfl, by kernel_rfl, by kernel_rfl, by kernel_rfl, by kernel_rfl, by kernel_rfl, by kernel_rfl, by kernel_rfl, by kernel_rfl, by kernel_rfl, trivial⟩⟩) (fun s o hf a w hA Q hQ => punctualref_BusTimes_r2 K w0 l0 A0 c0 hR0 hL0 b1 b2 r1 b3 hc1 m1 i1 hc2 e1 hx4 b4 b5 b6 Z1 cz1 z4 r2 b7 s o hf a w hA Q hQ) ?_
        rintro _ a w1 _ ⟨rfl, hb⟩
        obtain rfl := Option.some.inj h
        exact hQ _ _ _ (Outs.out nofun (Exits.on ⟨rfl, hb⟩))
    · rw [hq2] at h
      simp only [] at h
      refine we_iter (A := punctualref_BusTimes.A1 K w0 l0 A0 c0 hR0 hL0 b1 b2 r1 b3 hc1 m1 i1 hc2 e1 hx4 b4 b5 b6 Z1 cz1) (B := punctualref_BusTimes.B1 K w0 l0 A0 c0 hR0 hL0 b1 b2 r1 b3 hc1 m1 i1 hc2 e1 hx4 b4 b5 b6 Z1 cz1) hq2 (fun a hF => ⟨hS28, hF.weaken ⟨by kernel_rfl, by kernel_rfl, by kernel_rfl, by kernel_rfl, by kernel_rfl, by kernel_rfl, by kernel_rfl, by kernel_rfl, by kernel_rfl, by kernel_rfl, trivial⟩⟩) (fun s o hf a w hA Q hQ => punctualref_BusTimes_r1 K w0 l0 A0 c0 hR0 hL0 b1 b2 r1 b3 hc1 m1 i1 hc2 e1 hx4 b4 b5 b6 Z1 cz1 s o hf a w hA Q hQ) ?_
      rintro _ a w1 _ ⟨rfl, hb⟩
      obtain rfl := Option.some.inj h
      exact hQ _ _ _ (Outs.out nofun (Exits.on ⟨rfl, hb⟩))
  · rw [if_neg hc2] at h
    refine we_known (t := 25) (b := decide ((i1 : Int) < (l0.length : Int))) (v := false) (by kernel_rfl) (decide_eq_false hc2) ?_
    refine we_false (by kernel_rfl) ?_
    have hS124 := hS.bring 2 rfl
    have hS125 := hS124.bring 1 rfl
    have hS126 := hS125.takeN 2
    obtain rfl := Option.some.inj h
    exact we_exit fun a hF => hQ _ _ _ (Outs.out nofun (Exits.here ⟨v1, hS126, hF.weaken ⟨by kernel_rfl, by kernel_rfl, trivial⟩⟩))
theorem punctualref_BusTimes_ok (K : Nat) (l0 : List SFrame) (A0 : Option Addr) (c0 : Nat) (w0 : World) (hR0 : RdL w0 A0 l0) (hL0 : l0.length ≤ c0) (r : (List Int) × SFault) (h : punctualref_BusTimes.f K l0 = some r) :
    Calls Tryd.prog 35 #[.slice A0 l0.length c0] w0 (punctualref_BusTimes.Post w0 r) := by
  have hS := St.start w0
  unfold punctualref_BusTimes.f at h
  refine calls_enter (n := 117) (args := [.slice A0 l0.length c0]) (fn := Tryd.f35) rfl rfl rfl rfl ?_
  show WE _ _ _ _ [(0, .slice A0 l0.length c0)] _
  refine we_seq fun K1 hK1 => ?_
  refine we_region [(0, 1), (1, 0), (2, 1)] rfl ?_
  refine ge_new (d := some 1) (o := .cells #[.slice A0 l0.length c0] 60) (v := fun b => .pointer (some ⟨b, 0, none⟩)) hS (fun b => by kernel_rfl) fun b1 w1 hx1 hS1 => ?_
  refine ge_batch [1] (ans := []) (vs := [(2, .slice none 0 0)]) (l := []) (by kernel_rfl) trivial ?_
  refine ge_new (d := some 3) (o := .cells #[.int .i64 0, .int .i64 0] 27) (v := fun b => .pointer (some ⟨b, 0, none⟩)) hS1 (fun b => by kernel_rfl) fun b2 w2 hx2 hS2 => ?_
  refine ge_nil fun a hF => hK1 _ _ ?_ a hF
  refine we_seq fun K2 hK2 => ?_
  refine we_seq fun K3 hK3 => ?_
  refine we_region [(0, 0), (1, 1), (2, 1), (3, 2)] rfl ?_
  rcases hq1 : punctualref_CheckBus.f K l0 with _ | r1
  · rw [hq1] at h; cases h
  rw [hq1] at h
  simp only [] at h
  refine ge_batch [0] (ans := [.val (.slice A0 l0.length c0)]) (vs := [(16, .slice A0 l0.length c0)]) (l := [.loaded ⟨b1, 0, none⟩ (.slice A0 l0.length c0)]) (by kernel_rfl) ⟨hS2.cell 1 rfl rfl, trivial⟩ ?_
  refine ge_call (d := some 17) (f := 37) (args := #[.slice A0 l0.length c0]) (by kernel_rfl) (punctualref_CheckBus_ok K l0 A0 c0 _ (hS2.rd hR0) hL0 _ hq1) ?_
  rintro _ w3 ⟨rfl, hS3⟩
  refine ⟨_, rfl, hS3.below, ?_⟩
  have hS4 := hS2.call hS3
  refine ge_new (d := some 4) (o := .cells #[.int .i64 0, .int .i64 0] 27) (v := fun b => .pointer (some ⟨b, 0, none⟩)) hS4 (fun b => by kernel_rfl) fun b3 w4 hx3 hS5 => ?_
  refine ge_set (b := b3) (j := 0) (cs := #[.int .i64 0, .int .i64 0]) (t := 27) (vs := [.int .i64 r1.Code, .int .i64 r1.At]) hS5 (by kernel_rfl) rfl rfl fun w5 hS6 => ?_
  have hS7 : St w0 w5 [Own.blk b3 (.cells #[.int .i64 r1.Code, .int .i64 r1.At] 27 (0, 0)), Own.blk b2 (.cells #[.int .i64 0, .int .i64 0] 27 (0, 0)), Own.blk b1 (.cells #[.slice A0 l0.length c0] 60 (0, 0))] := hS6
  refine ge_nil fun a hF => hK3 _ _ ?_ a hF
  refine we_seq fun K4 hK4 => ?_
  refine we_region [(0, 0), (1, 0), (2, 0)] rfl ?_
  refine ge_batch [0, 1, 2] (ans := [.val (.int .i64 r1.Code)]) (vs := [(20, .bool (r1.Code != 0)), (19, .int .i64 r1.Code), (18, .pointer (some ⟨b3, 0, none⟩))]) (l := [.loaded ⟨b3, 0, none⟩ (.int .i64 r1.Code)]) (by kernel_rfl) ⟨hS7.cell 0 rfl rfl, trivial⟩ ?_
  refine ge_nil fun a hF => hK4 _ _ ?_ a hF
  by_cases hc1 : r1.Code = 0
  · rw [if_pos hc1] at h
    refine we_known (t := 20) (b := (r1.Code != 0)) (v := false) (by kernel_rfl) (bne_eq_false_iff_eq.2 hc1) ?_
    refine we_false (by kernel_rfl) ?_
    refine we_skip fun a hF => hK2 _ _ ?_ a hF
    refine we_seq fun K5 hK5 => ?_
    refine we_region [(0, 0)] rfl ?_
    refine ge_batch [0] (ans := []) (vs := [(5, .slice none 0 0)]) (l := []) (by kernel_rfl) trivial ?_
    refine ge_nil fun a hF => hK5 _ _ ?_ a hF
    refine we_seq fun K6 hK6 => ?_
    refine we_seq fun K7 hK7 => ?_
    refine we_region [(0, 0), (1, 0), (2, 0)] rfl ?_
    refine ge_batch [0, 1, 2] (ans := [.val (.slice A0 l0.length c0)]) (vs := [(24, .int .i64 0), (23, .int .i64 (l0.length : Int)), (22, .slice A0 l0.length c0)]) (l := [.loaded ⟨b1, 0, none⟩ (.slice A0 l0.length c0)]) (by kernel_rfl) ⟨hS7.cell 2 rfl rfl, trivial⟩ ?_
    refine ge_nil fun a hF => hK7 _ _ ?_ a hF
    refine we_block ?_
    have hS8 := hS7.nil (α := Int) 3
    have hS9 := hS8.bring 3 rfl
    have hS10 := hS9.bring 3 rfl
    have hS11 := hS10.takeN 3
    rcases hq8 : iter (punctualref_BusTimes.r0 K l0 r1) K (([] : List Int), 0) with _ | (m3 | rr3)
    · rw [hq8] at h; cases h
    · rw [hq8] at h
      simp only [] at h
      refine we_iter (A := punctualref_BusTimes.A0 K w0 l0 A0 c0 hR0 hL0 b1 b2 r1 b3 hc1) (B := punctualref_BusTimes.B0 K w0 l0 A0 c0 hR0 hL0 b1 b2 r1 b3 hc1) hq8 (fun a hF => ⟨(.slice none 0 0), hS11, hF.weaken ⟨by kernel_rfl, by kernel_rfl, by kernel_rfl, by kernel_rfl, by kernel_rfl, by kernel_rfl, trivial⟩⟩) (fun s o hf a w hA Q hQ => punctualref_BusTimes_r0 K w0 l0 A0 c0 hR0 hL0 b1 b2 r1 b3 hc1 s o hf a w hA Q hQ) ?_
      rintro _ a w31 _ ⟨rfl, v4, hS127, hF⟩
      replace hS127 : St w0 w31 [Own.blk b2 (.cells #[.int .i64 0, .int .i64 0] 27 (0, 0)), Own.of v4 3 m3] := hS127
      refine hK6 [(3, .pointer (some ⟨b2, 0, none⟩)), (5, v4)] w31 ?_ a hF
      refine we_seq fun K38 hK38 => ?_
      refine we_region [(0, 0), (1, 0), (2, 0), (3, 2)] rfl ?_
      refine ge_batch [0, 1, 2] (ans := []) (vs := [(2, v4), (116, .agg #[.int .i64 0, .int .i64 0]), (115, v4)]) (l := []) (by kernel_rfl) trivial ?_
      refine ge_set (b := b2) (j := 0) (cs := #[.int .i64 0, .int .i64 0]) (t := 27) (vs := [.int .i64 0, .int .i64 0]) hS127 (by kernel_rfl) rfl rfl fun w32 hS128 => ?_
      have hS129 : St w0 w32 [Own.blk b2 (.cells #[.int .i64 0, .int .i64 0] 27 (0, 0)), Own.of v4 3 m3] := hS128
      refine ge_nil fun a hF => hK38 _ _ ?_ a hF
      have hS130 := hS129.bring 1 rfl
      have hS131 := hS130.takeN 1
      obtain rfl := Option.some.inj h
      exact we_ret (post_ret (rs := [.tmp 2, .cell 3 27]) (ans := [.val (.int .i64 0), .val (.int .i64 0)]) (vs := [v4, .agg #[.int .i64 0, .int .i64 0]]) (l := [.loaded ⟨b2, 0, none⟩ (.int .i64 0), .loaded ⟨b2, 1, none⟩ (.int .i64 0)]) rfl (by kernel_rfl) ⟨hS129.cell 0 rfl rfl, hS129.cell 0 rfl rfl, trivial⟩ ⟨v4, rfl, hS131⟩)
    · rw [hq8] at h
      simp only [] at h
      refine we_iter (A := punctualref_BusTimes.A0 K w0 l0 A0 c0 hR0 hL0 b1 b2 r1 b3 hc1) (B := punctualref_BusTimes.B0 K w0 l0 A0 c0 hR0 hL0 b1 b2 r1 b3 hc1) hq8 (fun a hF => ⟨(.slice none 0 0), hS11, hF.weaken ⟨by kernel_rfl, by kernel_rfl, by kernel_rfl, by kernel_rfl, by kernel_rfl, by kernel_rfl, trivial⟩⟩) (fun s o hf a w hA Q hQ => punctualref_BusTimes_r0 K w0 l0 A0 c0 hR0 hL0 b1 b2 r1 b3 hc1 s o hf a w hA Q hQ) ?_
      rintro _ a w1 _ ⟨rfl, hb⟩
      obtain rfl := Option.some.inj h
      exact hb
  · rw [if_neg hc1] at h
    refine we_known (t := 20) (b := (r1.Code != 0)) (v := true) (by kernel_rfl) (bne_iff_ne.2 hc1) ?_
    refine we_true (by kernel_rfl) ?_
    refine we_seq fun K39 hK39 => ?_
    refine we_draws (by kernel_rfl) [(0, 0), (1, 0), (2, 2)] (by kernel_rfl) ?_
    have hS132 := hS7.drew
    refine ge_batch [0, 1] (ans := [.val (.int .i64 r1.Code), .val (.int .i64 r1.At)]) (vs := [(2, .slice none 0 0), (21, .agg #[.int .i64 r1.Code, .int .i64 r1.At])]) (l := [.loaded ⟨b3, 0, none⟩ (.int .i64 r1.Code), .loaded ⟨b3, 1, none⟩ (.int .i64 r1.At)]) (by kernel_rfl) ⟨hS132.cell 0 rfl rfl, hS132.cell 0 rfl rfl, trivial⟩ ?_
    have hS133 := hS132.bring 1 rfl
    refine ge_set (b := b2) (j := 0) (cs := #[.int .i64 0, .int .i64 0]) (t := 27) (vs := [.int .i64 r1.Code, .int .i64 r1.At]) hS133 (by kernel_rfl) rfl rfl fun w33 hS134 => ?_
    have hS135 : St w0 w33 [Own.blk b2 (.cells #[.int .i64 r1.Code, .int .i64 r1.At] 27 (0, 0)), Own.blk b3 (.cells #[.int .i64 r1.Code, .int .i64 r1.At] 27 (0, 0)), Own.blk b1 (.cells #[.slice A0 l0.length c0] 60 (0, 0))] := hS134
    refine ge_nil fun a hF => hK39 _ _ ?_ a hF
    have hS136 := hS135.nil (α := Int) 3
    have hS137 := hS136.takeN 1
    obtain rfl := Option.some.inj h
    exact we_ret (post_ret (rs := [.tmp 2, .cell 3 27]) (ans := [.val (.int .i64 r1.Code), .val (.int .i64 r1.At)]) (vs := [(.slice none 0 0), .agg #[.int .i64 r1.Code, .int .i64 r1.At]]) (l := [.loaded ⟨b2, 0, none⟩ (.int .i64 r1.Code), .loaded ⟨b2, 1, none⟩ (.int .i64 r1.At)]) rfl (by kernel_rfl) ⟨hS136.cell 1 rfl rfl, hS136.cell 1 rfl rfl, trivial⟩ ⟨(.slice none 0 0), rfl, hS137⟩)

/-! punctual/punctualsame.Still[punctual/api.Frame] -/
abbrev punctualsame_Still_api_Frame.Post (w0 : World) (r : Bool) (e : Ending) (w : World) : Prop := e = .returned (.bool r) ∧ St w0 w []
def punctualsame_Still_api_Frame.r0 (f0 : List SFrame) (l1 : List SFrame) (x2 : SFrame) : Nat → Option (Nat ⊕ (Unit ⊕ Bool))
  | i1 =>
    if (i1 : Int) < (f0.length : Int) then
      match f0[i1]? with
      | none => none
      | some e1 =>
        if (i1 : Int) < (l1.length : Int) then
          match l1[i1]? with
          | none => none
          | some e2 =>
            if (SFrame.eqb e1 e2) = true then
              if (i1 : Int) ≥ (l1.length : Int) then
                if (SFrame.eqb e1 x2) = true then
                  some (.inl (i1 + 1))
                else
                  some (.inr (.inr false))
              else
                some (.inl (i1 + 1))
            else
              some (.inr (.inr false))
        else
          if (i1 : Int) ≥ (l1.length : Int) then
            if (SFrame.eqb e1 x2) = true then
              some (.inl (i1 + 1))
            else
              some (.inr (.inr false))
          else
            some (.inl (i1 + 1))
    else
      some (.inr (.inl ()))
def punctualsame_Still_api_Frame.f (K : Nat) (f0 : List SFrame) (l1 : List SFrame) (x2 : SFrame) : Option Bool :=
  if (IntKind.i64.wrap ((l1.length : Int) + 3)) = (f0.length : Int) then
    match iter (punctualsame_Still_api_Frame.r0 f0 l1 x2) K 0 with
    | none => none
    | some (.inl _) =>
      some true
    | some (.inr rr1) =>
      some rr1
  else
    none
abbrev punctualsame_Still_api_Frame.A0 (K : Nat) (w0 : World) (f0 : List SFrame) (A0 : Option Addr) (n0 : Nat) (c0 : Nat) (l1 : List SFrame) (A1 : Option Addr) (c1 : Nat) (x2 : SFrame) (hR0 : RdL w0 A0 f0) (hc0 : f0.length ≤ c0) (hR1 : RdL w0 A1 l1) (hL1 : l1.length ≤ c1) (b1 : Nat) (hc1 : (IntKind.i64.wrap ((l1.length : Int) + 3)) = (f0.length : Int)) : Nat → Act → World → Prop := fun (s : Nat) a w => St w0 w [Own.blk b1 (.cells #[.int .i64 x2.C, .int .i64 x2.T, .int .i64 x2.D, .int .i64 x2.J] 63 (0, 0))] ∧ Frm 46 a [(1, .slice A1 l1.length c1), (5, .pointer (some ⟨b1, 0, none⟩)), (15, .slice A0 f0.length c0), (16, .int .i64 (f0.length : Int)), (17, .int .i64 (s : Int))]
abbrev punctualsame_Still_api_Frame.B0 (K : Nat) (w0 : World) (f0 : List SFrame) (A0 : Option Addr) (n0 : Nat) (c0 : Nat) (l1 : List SFrame) (A1 : Option Addr) (c1 : Nat) (x2 : SFrame) (hR0 : RdL w0 A0 f0) (hc0 : f0.length ≤ c0) (hR1 : RdL w0 A1 l1) (hL1 : l1.length ≤ c1) (b1 : Nat) (hc1 : (IntKind.i64.wrap ((l1.length : Int) + 3)) = (f0.length : Int)) : (Unit ⊕ Bool) → Exit → Act → World → Prop := Exits 0 (fun (s : Unit) a w => St w0 w [] ∧ Frm 46 a []) (Rets Tryd.prog Tryd.f38 (punctualsame_Still_api_Frame.Post w0))
theorem punctualsame_Still_api_Frame_r0 (K : Nat) (w0 : World) (f0 : List SFrame) (A0 : Option Addr) (n0 : Nat) (c0 : Nat) (l1 : List SFrame) (A1 : Option Addr) (c1 : Nat) (x2 : SFrame) (hR0 : RdL w0 A0 f0) (hc0 : f0.length ≤ c0) (hR1 : RdL w0 A1 l1) (hL1 : l1.length ≤ c1) (b1 : Nat) (hc1 : (IntKind.i64.wrap ((l1.length : Int) + 3)) = (f0.length : Int)) (s : Nat) (o : Nat ⊕ (Unit ⊕ Bool)) (h : punctualsame_Still_api_Frame.r0 f0 l1 x2 s = some o) (a : Act) (w : World) (hA : punctualsame_Still_api_Frame.A0 K w0 f0 A0 n0 c0 l1 A1 c1 x2 hR0 hc0 hR1 hL1 b1 hc1 s a w) (Q : Exit → Act → World → Prop) (hQ : ∀ x a w, Outs (punctualsame_Still_api_Frame.A0 K w0 f0 A0 n0 c0 l1 A1 c1 x2 hR0 hc0 hR1 hL1 b1 hc1) (punctualsame_Still_api_Frame.B0 K w0 f0 A0 n0 c0 l1 A1 c1 x2 hR0 hc0 hR1 hL1 b1 hc1) o x a w → Q x a w) : (subF Tryd.f38 [1, 1, 0, 1, 0, 0]).wp Tryd.prog Q a w := by
  obtain ⟨i1, hs⟩ : ∃ z, z = s := ⟨s, rfl⟩
  subst hs
  obtain ⟨hS, hF⟩ := hA
  replace hS : St w0 w [Own.blk b1 (.cells #[.int .i64 x2.C, .int .i64 x2.T, .int .i64 x2.D, .int .i64 x2.J] 63 (0, 0))] := hS
  simp only [punctualsame_Still_api_Frame.r0] at h
  refine (?_ : WE Tryd.prog 46 (subF Tryd.f38 [1, 1, 0, 1, 0, 0]) Q [(1, .slice A1 l1.length c1), (5, .pointer (some ⟨b1, 0, none⟩)), (15, .slice A0 f0.length c0), (16, .int .i64 (f0.length : Int)), (17, .int .i64 (i1 : Int))] w) a hF
  clear hF a
  refine we_seq fun K5 hK5 => ?_
  refine we_region [(0, 0)] rfl ?_
  refine ge_batch [0] (ans := []) (vs := [(18, .bool (decide ((i1 : Int) < (f0.length : Int))))]) (l := []) (by kernel_rfl) trivial ?_
  refine ge_nil fun a hF => hK5 _ _ ?_ a hF
  refine we_seq fun K6 hK6 => ?_
  by_cases hc2 : (i1 : Int) < (f0.length : Int)
  · rw [if_pos hc2] at h
    refine we_known (t := 18) (b := decide ((i1 : Int) < (f0.length : Int))) (v := true) (by kernel_rfl) (decide_eq_true hc2) ?_
    refine we_true (by kernel_rfl) ?_
    refine we_skip fun a hF => hK6 _ _ ?_ a hF
    refine we_seq fun K7 hK7 => ?_
    refine we_block ?_
    refine we_seq fun K8 hK8 => ?_
    refine we_region [(0, 0), (1, 0), (2, 0), (3, 1), (4, 0), (5, 2)] rfl ?_
    refine ge_batch [0] (ans := []) (vs := [(19, .int .i64 (i1 : Int))]) (l := []) (by kernel_rfl) trivial ?_
    rcases hx2 : f0[i1]? with _ | e1
    · rw [hx2] at h; cases h
    rw [hx2] at h
    simp only [] at h
    refine ge_index (d := 20) (ty := 0) (t := 60) (el := 63) (sz := 4) (m := f0.length) (c := c0) (x := (.tmp 15)) (y := (.tmp 17)) (A := A0) (k' := .i64) (j := (i1 : Int)) (jn := i1) (b0 := blkOf A0) (o0 := offOf A0) (by kernel_rfl) (by kernel_rfl) (by kernel_rfl) (by kernel_rfl) (by kernel_rfl) ((hS.rd hR0).eqSome (pos_of_get hx2)) rfl (lt_of_get hx2) ?_
    refine ge_batch [2] (ans := [.val (.int .i64 e1.C), .val (.int .i64 e1.T), .val (.int .i64 e1.D), .val (.int .i64 e1.J)]) (vs := [(21, .agg #[.int .i64 e1.C, .int .i64 e1.T, .int .i64 e1.D, .int .i64 e1.J])]) (l := [.loaded ⟨blkOf A0, offOf A0 + i1 * 4, none⟩ (.int .i64 e1.C), .loaded ⟨blkOf A0, offOf A0 + i1 * 4 + 1, none⟩ (.int .i64 e1.T), .loaded ⟨blkOf A0, offOf A0 + i1 * 4 + 2, none⟩ (.int .i64 e1.D), .loaded ⟨blkOf A0, offOf A0 + i1 * 4 + 3, none⟩ (.int .i64 e1.J)]) (by kernel_rfl) ⟨RdL.cell (j := 0) (hS.rd hR0) hx2 rfl, RdL.cell (j := 1) (hS.rd hR0) hx2 rfl, RdL.cell (j := 2) (hS.rd hR0) hx2 rfl, RdL.cell (j := 3) (hS.rd hR0) hx2 rfl, trivial⟩ ?_
    refine ge_new (d := some 9) (o := .cells #[.int .i64 0, .int .i64 0, .int .i64 0, .int .i64 0] 63) (v := fun b => .pointer (some ⟨b, 0, none⟩)) hS (fun b => by kernel_rfl) fun b2 w2 hx3 hS2 => ?_
    refine ge_batch [4] (ans := []) (vs := [(8, .int .i64 (i1 : Int))]) (l := []) (by kernel_rfl) trivial ?_
    refine ge_set (b := b2) (j := 0) (cs := #[.int .i64 0, .int .i64 0, .int .i64 0, .int .i64 0]) (t := 63) (vs := [.int .i64 e1.C, .int .i64 e1.T, .int .i64 e1.D, .int .i64 e1.J]) hS2 (by kernel_rfl) rfl rfl fun w3 hS3 => ?_
    have hS4 : St w0 w3 [Own.blk b2 (.cells #[.int .i64 e1.C, .int .i64 e1.T, .int .i64 e1.D, .int .i64 e1.J] 63 (0, 0)), Own.blk b1 (.cells #[.int .i64 x2.C, .int .i64 x2.T, .int .i64 x2.D, .int .i64 x2.J] 63 (0, 0))] := hS3
    refine ge_nil fun a hF => hK8 _ _ ?_ a hF
    refine we_seq fun K9 hK9 => ?_
    refine we_draws (by kernel_rfl) [(0, 0), (1, 0), (2, 0), (3, 0), (4, 0), (5, 0), (6, 0), (7, 0), (8, 0), (9, 0), (10, 0), (11, 0), (12, 0), (13, 0), (14, 0), (15, 0), (16, 0), (17, 0), (18, 0), (19, 0), (20, 0), (21, 0), (22, 0)] (by kernel_rfl) ?_
    have hS5 := hS4.drew
    refine ge_batch [0, 1, 2, 3, 4] (ans := []) (vs := [(26, .bool (decide ((i1 : Int) < (l1.length : Int)))), (25, .bool (decide ((i1 : Int) < (l1.length : Int)))), (24, .int .i64 (l1.length : Int)), (23, .slice A1 l1.length c1), (22, .int .i64 (i1 : Int))]) (l := []) (by kernel_rfl) trivial ?_
    by_cases hc3 : (i1 : Int) < (l1.length : Int)
    · rw [if_pos hc3] at h
      refine ge_known (t := 26) (b := decide ((i1 : Int) < (l1.length : Int))) (c := true) (by kernel_rfl) (decide_eq_true hc3) ?_
      refine ge_batch [5, 6, 7] (ans := [.val (.int .i64 e1.C), .val (.int .i64 e1.T), .val (.int .i64 e1.D), .val (.int .i64 e1.J)]) (vs := [(29, .int .i64 (i1 : Int)), (28, .slice A1 l1.length c1), (27, .agg #[.int .i64 e1.C, .int .i64 e1.T, .int .i64 e1.D, .int .i64 e1.J])]) (l := [.loaded ⟨b2, 0, none⟩ (.int .i64 e1.C), .loaded ⟨b2, 1, none⟩ (.int .i64 e1.T), .loaded ⟨b2, 2, none⟩ (.int .i64 e1.D), .loaded ⟨b2, 3, none⟩ (.int .i64 e1.J)]) (by kernel_rfl) ⟨hS5.cell 0 rfl rfl, hS5.cell 0 rfl rfl, hS5.cell 0 rfl rfl, hS5.cell 0 rfl rfl, trivial⟩ ?_
      rcases hx4 : l1[i1]? with _ | e2
      · rw [hx4] at h; cases h
      rw [hx4] at h
      simp only [] at h
      refine ge_index (d := 30) (ty := 0) (t := 60) (el := 63) (sz := 4) (m := l1.length) (c := c1) (x := (.tmp 28)) (y := (.tmp 29)) (A := A1) (k' := .i64) (j := (i1 : Int)) (jn := i1) (b0 := blkOf A1) (o0 := offOf A1) (by kernel_rfl) (by kernel_rfl) (by kernel_rfl) (by kernel_rfl) (by kernel_rfl) ((hS5.rd hR1).eqSome (pos_of_get hx4)) rfl (lt_of_get hx4) ?_
      refine ge_batch [9] (ans := [.val (.int .i64 e2.C), .val (.int .i64 e2.T), .val (.int .i64 e2.D), .val (.int .i64 e2.J)]) (vs := [(31, .agg #[.int .i64 e2.C, .int .i64 e2.T, .int .i64 e2.D, .int .i64 e2.J])]) (l := [.loaded ⟨blkOf A1, offOf A1 + i1 * 4, none⟩ (.int .i64 e2.C), .loaded ⟨blkOf A1, offOf A1 + i1 * 4 + 1, none⟩ (.int .i64 e2.T), .loaded ⟨blkOf A1, offOf A1 + i1 * 4 + 2, none⟩ (.int .i64 e2.D), .loaded ⟨blkOf A1, offOf A1 + i1 * 4 + 3, none⟩ (.int .i64 e2.J)]) (by kernel_rfl) ⟨RdL.cell (j := 0) (hS5.rd hR1) hx4 rfl, RdL.cell (j := 1) (hS5.rd hR1) hx4 rfl, RdL.cell (j := 2) (hS5.rd hR1) hx4 rfl, RdL.cell (j := 3) (hS5.rd hR1) hx4 rfl, trivial⟩ ?_
      refine ge_eqs (d := 32) (ty := 4) (op := .neq) (x := (.tmp 27)) (y := (.tmp 31)) (t := 63) (t2 := 63) (xs := #[.int .i64 e1.C, .int .i64 e1.T, .int .i64 e1.D, .int .i64 e1.J]) (ys := #[.int .i64 e2.C, .int .i64 e2.T, .int .i64 e2.D, .int .i64 e2.J]) (r := (SFrame.eqb e1 e2)) (v := !(SFrame.eqb e1 e2)) (by kernel_rfl) (by kernel_rfl) (by kernel_rfl) (by kernel_rfl) (by kernel_rfl) rfl ?_
      refine ge_batch [11, 12] (ans := []) (vs := [(34, .bool (!(SFrame.eqb e1 e2))), (33, .bool (!(SFrame.eqb e1 e2)))]) (l := []) (by kernel_rfl) trivial ?_
      by_cases hc4 : (SFrame.eqb e1 e2) = true
      · rw [if_pos hc4] at h
        refine ge_known (t := 34) (b := !(SFrame.eqb e1 e2)) (c := false) (by kernel_rfl) (congrArg (fun z => !z) hc4) ?_
        refine ge_batch [13, 14, 15, 16, 17] (ans := []) (vs := [(39, .bool (decide ((i1 : Int) ≥ (l1.length : Int)))), (38, .bool (decide ((i1 : Int) ≥ (l1.length : Int)))), (37, .int .i64 (l1.length : Int)), (36, .slice A1 l1.length c1), (35, .int .i64 (i1 : Int))]) (l := []) (by kernel_rfl) trivial ?_
        by_cases hc5 : (i1 : Int) ≥ (l1.length : Int)
        · rw [if_pos hc5] at h
          refine ge_known (t := 39) (b := decide ((i1 : Int) ≥ (l1.length : Int))) (c := true) (by kernel_rfl) (decide_eq_true hc5) ?_
          refine ge_batch [18, 19] (ans := [.val (.int .i64 e1.C), .val (.int .i64 e1.T), .val (.int .i64 e1.D), .val (.int .i64 e1.J), .val (.int .i64 x2.C), .val (.int .i64 x2.T), .val (.int .i64 x2.D), .val (.int .i64 x2.J)]) (vs := [(41, .agg #[.int .i64 x2.C, .int .i64 x2.T, .int .i64 x2.D, .int .i64 x2.J]), (40, .agg #[.int .i64 e1.C, .int .i64 e1.T, .int .i64 e1.D, .int .i64 e1.J])]) (l := [.loaded ⟨b2, 0, none⟩ (.int .i64 e1.C), .loaded ⟨b2, 1, none⟩ (.int .i64 e1.T), .loaded ⟨b2, 2, none⟩ (.int .i64 e1.D), .loaded ⟨b2, 3, none⟩ (.int .i64 e1.J), .loaded ⟨b1, 0, none⟩ (.int .i64 x2.C), .loaded ⟨b1, 1, none⟩ (.int .i64 x2.T), .loaded ⟨b1, 2, none⟩ (.int .i64 x2.D), .loaded ⟨b1, 3, none⟩ (.int .i64 x2.J)]) (by kernel_rfl) ⟨hS5.cell 0 rfl rfl, hS5.cell 0 rfl rfl, hS5.cell 0 rfl rfl, hS5.cell 0 rfl rfl, hS5.cell 1 rfl rfl, hS5.cell 1 rfl rfl, hS5.cell 1 rfl rfl, hS5.cell 1 rfl rfl, trivial⟩ ?_
          refine ge_eqs (d := 42) (ty := 4) (op := .neq) (x := (.tmp 40)) (y := (.tmp 41)) (t := 63) (t2 := 63) (xs := #[.int .i64 e1.C, .int .i64 e1.T, .int .i64 e1.D, .int .i64 e1.J]) (ys := #[.int .i64 x2.C, .int .i64 x2.T, .int .i64 x2.D, .int .i64 x2.J]) (r := (SFrame.eqb e1 x2)) (v := !(SFrame.eqb e1 x2)) (by kernel_rfl) (by kernel_rfl) (by kernel_rfl) (by kernel_rfl) (by kernel_rfl) rfl ?_
          refine ge_batch [21, 22] (ans := []) (vs := [(44, .bool (!(SFrame.eqb e1 x2))), (43, .bool (!(SFrame.eqb e1 x2)))]) (l := []) (by kernel_rfl) trivial ?_
          refine ge_nil fun a hF => hK9 _ _ ?_ a hF
          by_cases hc6 : (SFrame.eqb e1 x2) = true
          · rw [if_pos hc6] at h
            refine we_known (t := 44) (b := !(SFrame.eqb e1 x2)) (v := false) (by kernel_rfl) (congrArg (fun z => !z) hc6) ?_
            refine we_false (by kernel_rfl) ?_
            refine we_skip fun a hF => hK7 _ _ ?_ a hF
            refine we_region [(0, 0), (1, 0)] rfl ?_
            refine ge_addn (d := 45) (ty := 3) (x := (.tmp 17)) (y := (.const (.int .i64 1))) (t := 3) (t2 := 3) (k := .i64) (m := i1) (by kernel_rfl) (by kernel_rfl) (by kernel_rfl) (by have h0 := hR0.small; omega) ?_
            refine ge_batch [1] (ans := []) (vs := [(17, .int .i64 ((i1 + 1 : Nat) : Int))]) (l := []) (by kernel_rfl) trivial ?_
            have hS6 := hS5.bring 1 rfl
            have hS7 := hS6.takeN 1
            obtain rfl := Option.some.inj h
            exact ge_nil fun a hF => hQ _ _ _ (Outs.again ⟨hS7, hF.weaken ⟨by kernel_rfl, by kernel_rfl, by kernel_rfl, by kernel_rfl, by kernel_rfl, trivial⟩⟩)
          · rw [if_neg hc6] at h
            refine we_known (t := 44) (b := !(SFrame.eqb e1 x2)) (v := true) (by kernel_rfl) (congrArg (fun z => !z) (Bool.eq_false_iff.2 hc6)) ?_
            refine we_true (by kernel_rfl) ?_
            refine we_seq fun K10 hK10 => ?_
            refine we_region [(0, 0)] rfl ?_
            refine ge_batch [0] (ans := []) (vs := [(6, .bool false)]) (l := []) (by kernel_rfl) trivial ?_
            refine ge_nil fun a hF => hK10 _ _ ?_ a hF
            have hS8 := hS5.takeN 0
            obtain rfl := Option.some.inj h
            exact we_ret fun a hF => hQ _ _ _ (Outs.out nofun (Exits.on ⟨rfl, (post_ret (rs := [.tmp 6]) (ans := []) (vs := [.bool false]) (l := []) rfl (by kernel_rfl) trivial ⟨rfl, hS8⟩) a hF⟩))
        · rw [if_neg hc5] at h
          refine ge_known (t := 39) (b := decide ((i1 : Int) ≥ (l1.length : Int))) (c := false) (by kernel_rfl) (decide_eq_false hc5) ?_
          refine ge_batch [18, 19, 20, 21, 22] (ans := []) (vs := [(44, .bool false), (43, .bool false), (42, undef), (41, undef), (40, undef)]) (l := []) (by kernel_rfl) trivial ?_
          refine ge_nil fun a hF => hK9 _ _ ?_ a hF
          refine we_false (by kernel_rfl) ?_
          refine we_skip fun a hF => hK7 _ _ ?_ a hF
          refine we_region [(0, 0), (1, 0)] rfl ?_
          refine ge_addn (d := 45) (ty := 3) (x := (.tmp 17)) (y := (.const (.int .i64 1))) (t := 3) (t2 := 3) (k := .i64) (m := i1) (by kernel_rfl) (by kernel_rfl) (by kernel_rfl) (by have h0 := hR0.small; omega) ?_
          refine ge_batch [1] (ans := []) (vs := [(17, .int .i64 ((i1 + 1 : Nat) : Int))]) (l := []) (by kernel_rfl) trivial ?_
          have hS9 := hS5.bring 1 rfl
          have hS10 := hS9.takeN 1
          obtain rfl := Option.some.inj h
          exact ge_nil fun a hF => hQ _ _ _ (Outs.again ⟨hS10, hF.weaken ⟨by kernel_rfl, by kernel_rfl, by kernel_rfl, by kernel_rfl, by kernel_rfl, trivial⟩⟩)
      · rw [if_neg hc4] at h
        refine ge_known (t := 34) (b := !(SFrame.eqb e1 e2)) (c := true) (by kernel_rfl) (congrArg (fun z => !z) (Bool.eq_false_iff.2 hc4)) ?_
        refine ge_batch [13, 14, 15, 16, 17, 18, 19, 20, 21, 22] (ans := []) (vs := [(44, .bool true), (43, undef), (42, undef), (41, undef), (40, undef), (39, undef), (38, undef), (37, undef), (36, undef), (35, undef)]) (l := []) (by kernel_rfl) trivial ?_
        refine ge_nil fun a hF => hK9 _ _ ?_ a hF
        refine we_true (by kernel_rfl) ?_
        refine we_seq fun K11 hK11 => ?_
        refine we_region [(0, 0)] rfl ?_
        refine ge_batch [0] (ans := []) (vs := [(6, .bool false)]) (l := []) (by kernel_rfl) trivial ?_
        refine ge_nil fun a hF => hK11 _ _ ?_ a hF
        have hS11 := hS5.takeN 0
        obtain rfl := Option.some.inj h
        exact we_ret fun a hF => hQ _ _ _ (Outs.out nofun (Exits.on ⟨rfl, (post_ret (rs := [.tmp 6]) (ans := []) (vs := [.bool false]) (l := []) rfl (by kernel_rfl) trivial ⟨rfl, hS11⟩) a hF⟩))
    · rw [if_neg hc3] at h
      refine ge_known (t := 26) (b := decide ((i1 : Int) < (l1.length : Int))) (c := false) (by kernel_rfl) (decide_eq_false hc3) ?_
      refine ge_batch [5, 6, 7, 8, 9, 10, 11, 12, 13, 14, 15, 16, 17] (ans := []) (vs := [(39, .bool (decide ((i1 : Int) ≥ (l1.length : Int)))), (38, .bool (decide ((i1 : Int) ≥ (l1.length : Int)))), (37, .int .i64 (l1.length : Int)), (36, .slice A1 l1.length c1), (35, .int .i64 (i1 : Int)), (34, .bool false), (33, .bool false), (32, undef), (31, undef), (30, undef), (29, undef), (28, undef), (27, undef)]) (l := []) (by kernel_rfl) trivial ?_
      by_cases hc7 : (i1 : Int) ≥ (l1.length : Int)
      · rw [if_pos hc7] at h
        refine ge_known (t := 39) (b := decide ((i1 : Int) ≥ (l1.length : Int))) (c := true) (by kernel_rfl) (decide_eq_true hc7) ?_
        refine ge_batch [18, 19] (ans := [.val (.int .i64 e1.C), .val (.int .i64 e1.T), .val (.int .i64 e1.D), .val (.int .i64 e1.J), .val (.int .i64 x2.C), .val (.int .i64 x2.T), .val (.int .i64 x2.D), .val (.int .i64 x2.J)]) (vs := [(41, .agg #[.int .i64 x2.C, .int .i64 x2.T, .int .i64 x2.D, .int .i64 x2.J]), (40, .agg #[.int .i64 e1.C, .int .i64 e1.T, .int .i64 e1.D, .int .i64 e1.J])]) (l := [.loaded ⟨b2, 0, none⟩ (.int .i64 e1.C), .loaded ⟨b2, 1, none⟩ (.int .i64 e1.T), .loaded ⟨b2, 2, none⟩ (.int .i64 e1.D), .loaded ⟨b2, 3, none⟩ (.int .i64 e1.J), .loaded ⟨b1, 0, none⟩ (.int .i64 x2.C), .loaded ⟨b1, 1, none⟩ (.int .i64 x2.T), .loaded ⟨b1, 2, none⟩ (.int .i64 x2.D), .loaded ⟨b1, 3, none⟩ (.int .i64 x2.J)]) (by kernel_rfl) ⟨hS5.cell 0 rfl rfl, hS5.cell 0 rfl rfl, hS5.cell 0 rfl rfl, hS5.cell 0 rfl rfl, hS5.cell 1 rfl rfl, hS5.cell 1 rfl rfl, hS5.cell 1 rfl rfl, hS5.cell 1 rfl rfl, trivial⟩ ?_
        refine ge_eqs (d := 42) (ty := 4) (op := .neq) (x := (.tmp 40)) (y := (.tmp 41)) (t := 63) (t2 := 63) (xs := #[.int .i64 e1.C, .int .i64 e1.T, .int .i64 e1.D, .int .i64 e1.J]) (ys := #[.int .i64 x2.C, .int .i64 x2.T, .int .i64 x2.D, .int .i64 x2.J]) (r := (SFrame.eqb e1 x2)) (v := !(SFrame.eqb e1 x2)) (by kernel_rfl) (by kernel_rfl) (by kernel_rfl) (by kernel_rfl) (by kernel_rfl) rfl ?_
        refine ge_batch [21, 22] (ans := []) (vs := [(44, .bool (!(SFrame.eqb e1 x2))), (43, .bool (!(SFrame.eqb e1 x2)))]) (l := []) (by kernel_rfl) trivial ?_
        refine ge_nil fun a hF => hK9 _ _ ?_ a hF
        by_cases hc8 : (SFrame.eqb e1 x2) = true
        · rw [if_pos hc8] at h
          refine we_known (t := 44) (b := !(SFrame.eqb e1 x2)) (v := false) (by kernel_rfl) (congrArg (fun z => !z) hc8) ?_
          refine we_false (by kernel_rfl) ?_
          refine we_skip fun a hF => hK7 _ _ ?_ a hF
          refine we_region [(0, 0), (1, 0)] rfl ?_
          refine ge_addn (d := 45) (ty := 3) (x := (.tmp 17)) (y := (.const (.int .i64 1))) (t := 3) (t2 := 3) (k := .i64) (m := i1) (by kernel_rfl) (by kernel_rfl) (by kernel_rfl) (by have h0 := hR0.small; omega) ?_
          refine ge_batch [1] (ans := []) (vs := [(17, .int .i64 ((i1 + 1 : Nat) : Int))]) (l := []) (by kernel_rfl) trivial ?_
          have hS12 := hS5.bring 1 rfl
          have hS13 := hS12.takeN 1
          obtain rfl := Option.some.inj h
          exact ge_nil fun a hF => hQ _ _ _ (Outs.again ⟨hS13, hF.weaken ⟨by kernel_rfl, by kernel_rfl, by kernel_rfl, by kernel_rfl, by kernel_rfl, trivial⟩⟩)
        · rw [if_neg hc8] at h
          refine we_known (t := 44) (b := !(SFrame.eqb e1 x2)) (v := true) (by kernel_rfl) (congrArg (fun z => !z) (Bool.eq_false_iff.2 hc8)) ?_
          refine we_true (by kernel_rfl) ?_
          refine we_seq fun K12 hK12 => ?_
          refine we_region [(0, 0)] rfl ?_
          refine ge_batch [0] (ans := []) (vs := [(6, .bool false)]) (l := []) (by kernel_rfl) trivial ?_
          refine ge_nil fun a hF => hK12 _ _ ?_ a hF
          have hS14 := hS5.takeN 0
          obtain rfl := Option.some.inj h
          exact we_ret fun a hF => hQ _ _ _ (Outs.out nofun (Exits.on ⟨rfl, (post_ret (rs := [.tmp 6]) (ans := []) (vs := [.bool false]) (l := []) rfl (by kernel_rfl) trivial ⟨rfl, hS14⟩) a hF⟩))
      · rw [if_neg hc7] at h
        refine ge_known (t := 39) (b := decide ((i1 : Int) ≥ (l1.length : Int))) (c := false) (by kernel_rfl) (decide_eq_false hc7) ?_
        refine ge_batch [18, 19, 20, 21, 22] (ans := []) (vs := [(44, .bool false), (43, .bool false), (42, undef), (41, undef), (40, undef)]) (l := []) (by kernel_rfl) trivial ?_
        refine ge_nil fun a hF => hK9 _ _ ?_ a hF
        refine we_false (by kernel_rfl) ?_
        refine we_skip fun a hF => hK7 _ _ ?_ a hF
        refine we_region [(0, 0), (1, 0)] rfl ?_
        refine ge_addn (d := 45) (ty := 3) (x := (.tmp 17)) (y := (.const (.int .i64 1))) (t := 3) (t2 := 3) (k := .i64) (m := i1) (by kernel_rfl) (by kernel_rfl) (by kernel_rfl) (by have h0 := hR0.small; omega) ?_
        refine ge_batch [1] (ans := []) (vs := [(17, .int .i64 ((i1 + 1 : Nat) : Int))]) (l := []) (by kernel_rfl) trivial ?_
        have hS15 := hS5.bring 1 rfl
        have hS16 := hS15.takeN 1
        obtain rfl := Option.some.inj h
        exact ge_nil fun a hF => hQ _ _ _ (Outs.again ⟨hS16, hF.weaken ⟨by kernel_rfl, by kernel_rfl, by kernel_rfl, by kernel_rfl, by kernel_rfl, trivial⟩⟩)
  · rw [if_neg hc2] at h
    refine we_known (t := 18) (b := decide ((i1 : Int) < (f0.length : Int))) (v := false) (by kernel_rfl) (decide_eq_false hc2) ?_
    refine we_false (by kernel_rfl) ?_
    have hS17 := hS.takeN 0
    obtain rfl := Option.some.inj h
    exact we_exit fun a hF => hQ _ _ _ (Outs.out nofun (Exits.here ⟨hS17, hF.weaken trivial⟩))
theorem punctualsame_Still_api_Frame_ok (K : Nat) (f0 : List SFrame) (A0 : Option Addr) (n0 : Nat) (c0 : Nat) (l1 : List SFrame) (A1 : Option Addr) (c1 : Nat) (x2 : SFrame) (w0 : World) (hR0 : RdL w0 A0 f0) (hc0 : f0.length ≤ c0) (hR1 : RdL w0 A1 l1) (hL1 : l1.length ≤ c1) (r : Bool) (h : punctualsame_Still_api_Frame.f K f0 l1 x2 = some r) :
    Calls Tryd.prog 38 #[.slice A0 n0 c0, .slice A1 l1.length c1, .agg #[.int .i64 x2.C, .int .i64 x2.T, .int .i64 x2.D, .int .i64 x2.J]] w0 (punctualsame_Still_api_Frame.Post w0 r) := by
  have hS := St.start w0
  unfold punctualsame_Still_api_Frame.f at h
  refine calls_enter (n := 46) (args := [.slice A0 n0 c0, .slice A1 l1.length c1, .agg #[.int .i64 x2.C, .int .i64 x2.T, .int .i64 x2.D, .int .i64 x2.J]]) (fn := Tryd.f38) rfl rfl rfl rfl ?_
  show WE _ _ _ _ [(0, .slice A0 n0 c0), (1, .slice A1 l1.length c1), (2, .agg #[.int .i64 x2.C, .int .i64 x2.T, .int .i64 x2.D, .int .i64 x2.J])] _
  refine we_seq fun K1 hK1 => ?_
  refine we_region [(0, 1), (1, 0)] rfl ?_
  refine ge_new (d := some 5) (o := .cells #[.int .i64 x2.C, .int .i64 x2.T, .int .i64 x2.D, .int .i64 x2.J] 63) (v := fun b => .pointer (some ⟨b, 0, none⟩)) hS (fun b => by kernel_rfl) fun b1 w1 hx1 hS1 => ?_
  refine ge_batch [1] (ans := []) (vs := [(6, .bool false)]) (l := []) (by kernel_rfl) trivial ?_
  refine ge_nil fun a hF => hK1 _ _ ?_ a hF
  refine we_seq fun K2 hK2 => ?_
  refine we_region [(0, 0), (1, 0), (2, 0), (3, 0), (4, 0), (5, 0)] rfl ?_
  refine ge_batch [0, 1, 2, 3] (ans := []) (vs := [(13, .int .i64 (IntKind.i64.wrap ((l1.length : Int) + 3))), (12, .int .i64 (l1.length : Int)), (11, .slice A1 l1.length c1), (10, .slice A0 n0 c0)]) (l := []) (by kernel_rfl) trivial ?_
  by_cases hc1 : (IntKind.i64.wrap ((l1.length : Int) + 3)) = (f0.length : Int)
  · rw [if_pos hc1] at h
    refine ge_sliceHi (d := 14) (ty := 60) (t := 60) (el := 63) (sz := 4) (m := n0) (c := c0) (hn := f0.length) (x := (.tmp 10)) (y := (.tmp 13)) (A := A0) (k' := .i64) (hi := (IntKind.i64.wrap ((l1.length : Int) + 3))) (by kernel_rfl) (by kernel_rfl) (by kernel_rfl) hc1 (by kernel_rfl) (by kernel_rfl) hc0 ?_
    refine ge_batch [5] (ans := []) (vs := [(7, .slice A0 f0.length c0)]) (l := []) (by kernel_rfl) trivial ?_
    refine ge_nil fun a hF => hK2 _ _ ?_ a hF
    refine we_seq fun K3 hK3 => ?_
    refine we_seq fun K4 hK4 => ?_
    refine we_region [(0, 0), (1, 0), (2, 0)] rfl ?_
    refine ge_batch [0, 1, 2] (ans := []) (vs := [(17, .int .i64 0), (16, .int .i64 (f0.length : Int)), (15, .slice A0 f0.length c0)]) (l := []) (by kernel_rfl) trivial ?_
    refine ge_nil fun a hF => hK4 _ _ ?_ a hF
    refine we_block ?_
    rcases hq1 : iter (punctualsame_Still_api_Frame.r0 f0 l1 x2) K 0 with _ | (_ | rr1)
    · rw [hq1] at h; cases h
    · rw [hq1] at h
      simp only [] at h
      refine we_iter (A := punctualsame_Still_api_Frame.A0 K w0 f0 A0 n0 c0 l1 A1 c1 x2 hR0 hc0 hR1 hL1 b1 hc1) (B := punctualsame_Still_api_Frame.B0 K w0 f0 A0 n0 c0 l1 A1 c1 x2 hR0 hc0 hR1 hL1 b1 hc1) hq1 (fun a hF => ⟨hS1, hF.weaken ⟨by kernel_rfl, by kernel_rfl, by kernel_rfl, by kernel_rfl, by kernel_rfl, trivial⟩⟩) (fun s o hf a w hA Q hQ => punctualsame_Still_api_Frame_r0 K w0 f0 A0 n0 c0 l1 A1 c1 x2 hR0 hc0 hR1 hL1 b1 hc1 s o hf a w hA Q hQ) ?_
      rintro _ a w4 _ ⟨rfl, hS18, hF⟩
      replace hS18 : St w0 w4 [] := hS18
      refine hK3 [] w4 ?_ a hF
      refine we_seq fun K13 hK13 => ?_
      refine we_region [(0, 0)] rfl ?_
      refine ge_batch [0] (ans := []) (vs := [(6, .bool true)]) (l := []) (by kernel_rfl) trivial ?_
      refine ge_nil fun a hF => hK13 _ _ ?_ a hF
      obtain rfl := Option.some.inj h
      exact we_ret (post_ret (rs := [.tmp 6]) (ans := []) (vs := [.bool true]) (l := []) rfl (by kernel_rfl) trivial ⟨rfl, hS18⟩)
    · rw [hq1] at h
      simp only [] at h
      refine we_iter (A := punctualsame_Still_api_Frame.A0 K w0 f0 A0 n0 c0 l1 A1 c1 x2 hR0 hc0 hR1 hL1 b1 hc1) (B := punctualsame_Still_api_Frame.B0 K w0 f0 A0 n0 c0 l1 A1 c1 x2 hR0 hc0 hR1 hL1 b1 hc1) hq1 (fun a hF => ⟨hS1, hF.weaken ⟨by kernel_rfl, by kernel_rfl, by kernel_rfl, by kernel_rfl, by kernel_rfl, trivial⟩⟩) (fun s o hf a w hA Q hQ => punctualsame_Still_api_Frame_r0 K w0 f0 A0 n0 c0 l1 A1 c1 x2 hR0 hc0 hR1 hL1 b1 hc1 s o hf a w hA Q hQ) ?_
      rintro _ a w1 _ ⟨rfl, hb⟩
      obtain rfl := Option.some.inj h
      exact hb
  · rw [if_neg hc1] at h
    cases h

/-! punctual/punctuallaw.NetTimes -/
abbrev NetTimes.Post (w0 : World) (r : Bool) (e : Ending) (w : World) : Prop := e = .returned (.bool r) ∧ St w0 w []
def NetTimes.f (K : Nat) (l0 : List SFrame) : Option Bool :=
  match bus.f K with
  | none => none
  | some r1 =>
    if r1 = true then
      if (few.f (l0.length : Int)) = true then
        match punctualsame_Lend_api_Frame.f l0 (⟨(-9), 0, 0, 0⟩ : SFrame) with
        | none => none
        | some _ =>
          match net_Times.f K l0 with
          | none => none
          | some r3 =>
            match punctualref_BusTimes.f K l0 with
            | none => none
            | some r4 =>
              match net_Check.f K l0 with
              | none => none
              | some r5 =>
                match punctualref_CheckBus.f K l0 with
                | none => none
                | some r6 =>
                  if (SFault.eqb r5 r6) = true then
                    if (SFault.eqb r3.2 r4.2) = true then
                      match punctualsame_Same_int.f K r3.1 r4.1 with
                      | none => none
                      | some r7 =>
                        if r7 = true then
                          match punctualsame_Still_api_Frame.f K (l0 ++ [(⟨(-9), 0, 0, 0⟩ : SFrame), (⟨(-9), 0, 0, 0⟩ : SFrame), (⟨(-9), 0, 0, 0⟩ : SFrame)]) l0 (⟨(-9), 0, 0, 0⟩ : SFrame) with
                          | none => none
                          | some r8 =>
                            some r8
                        else
                          some false
                    else
                      some false
                  else
                    some false
      else
        some true
    else
      some false
theorem NetTimes_ok (K : Nat) (l0 : List SFrame) (A0 : Option Addr) (c0 : Nat) (w0 : World) (hR0 : RdL w0 A0 l0) (hL0 : l0.length ≤ c0) (hG2 : Glob w0 2 [.int .i64 (-9), .int .i64 0, .int .i64 0, .int .i64 0]) (r : Bool) (h : NetTimes.f K l0 = some r) :
    Calls Tryd.prog 5 #[.slice A0 l0.length c0] w0 (NetTimes.Post w0 r) := by
  have hS := St.start w0
  unfold NetTimes.f at h
  refine calls_enter (n := 48) (args := [.slice A0 l0.length c0]) (fn := Tryd.f5) rfl rfl rfl rfl ?_
  show WE _ _ _ _ [(0, .slice A0 l0.length c0)] _
  refine we_seq fun K1 hK1 => ?_
  refine we_region [(0, 0)] rfl ?_
  refine ge_batch [0] (ans := []) (vs := [(2, .bool false)]) (l := []) (by kernel_rfl) trivial ?_
  refine ge_nil fun a hF => hK1 _ _ ?_ a hF
  refine we_seq fun K2 hK2 => ?_
  refine we_seq fun K3 hK3 => ?_
  refine we_region [(0, 1), (1, 0)] rfl ?_
  rcases hq1 : bus.f K with _ | r1
  · rw [hq1] at h; cases h
  rw [hq1] at h
  simp only [] at h
  refine ge_call (d := some 8) (f := 32) (args := #[]) (by kernel_rfl) (bus_ok K _ _ hq1) ?_
  rintro _ w1 ⟨rfl, hS1⟩
  refine ⟨_, rfl, hS1.below, ?_⟩
  have hS2 := hS.call hS1
  refine ge_batch [1] (ans := []) (vs := [(9, .bool (!r1))]) (l := []) (by kernel_rfl) trivial ?_
  refine ge_nil fun a hF => hK3 _ _ ?_ a hF
  by_cases hc1 : r1 = true
  · rw [if_pos hc1] at h
    refine we_known (t := 9) (b := !r1) (v := false) (by kernel_rfl) (congrArg (fun z => !z) hc1) ?_
    refine we_false (by kernel_rfl) ?_
    refine we_skip fun a hF => hK2 _ _ ?_ a hF
    refine we_seq fun K4 hK4 => ?_
    refine we_seq fun K5 hK5 => ?_
    refine we_region [(0, 0), (1, 0), (2, 1), (3, 0)] rfl ?_
    refine ge_batch [0, 1] (ans := []) (vs := [(11, .int .i64 (l0.length : Int)), (10, .slice A0 l0.length c0)]) (l := []) (by kernel_rfl) trivial ?_
    refine ge_call (d := some 12) (f := 14) (args := #[.int .i64 (l0.length : Int)]) (by kernel_rfl) (few_ok (l0.length : Int) _ _ rfl) ?_
    rintro _ w2 ⟨rfl, hS3⟩
    refine ⟨_, rfl, hS3.below, ?_⟩
    have hS4 := hS2.call hS3
    refine ge_batch [3] (ans := []) (vs := [(13, .bool (!(few.f (l0.length : Int))))]) (l := []) (by kernel_rfl) trivial ?_
    refine ge_nil fun a hF => hK5 _ _ ?_ a hF
    by_cases hc2 : (few.f (l0.length : Int)) = true
    · rw [if_pos hc2] at h
      refine we_known (t := 13) (b := !(few.f (l0.length : Int))) (v := false) (by kernel_rfl) (congrArg (fun z => !z) hc2) ?_
      refine we_false (by kernel_rfl) ?_
      refine we_skip fun a hF => hK4 _ _ ?_ a hF
      refine we_seq fun K6 hK6 => ?_
      refine we_region [(0, 0), (1, 0), (2, 1), (3, 0)] rfl ?_
      refine ge_batch [0, 1] (ans := [.val (.int .i64 (-9)), .val (.int .i64 0), .val (.int .i64 0), .val (.int .i64 0)]) (vs := [(15, .agg #[.int .i64 (-9), .int .i64 0, .int .i64 0, .int .i64 0]), (14, .slice A0 l0.length c0)]) (l := [.loaded ⟨2, 0, none⟩ (.int .i64 (-9)), .loaded ⟨2, 1, none⟩ (.int .i64 0), .loaded ⟨2, 2, none⟩ (.int .i64 0), .loaded ⟨2, 3, none⟩ (.int .i64 0)]) (by kernel_rfl) ⟨hS4.glob hG2 rfl, hS4.glob hG2 rfl, hS4.glob hG2 rfl, hS4.glob hG2 rfl, trivial⟩ ?_
      rcases hq3 : punctualsame_Lend_api_Frame.f l0 (⟨(-9), 0, 0, 0⟩ : SFrame) with _ | r2
      · rw [hq3] at h; cases h
      rw [hq3] at h
      simp only [] at h
      obtain rfl := punctualsame_Lend_api_Frame_full _ _ hq3
      refine ge_call (d := some 16) (f := 33) (args := #[.slice A0 l0.length c0, .agg #[.int .i64 (-9), .int .i64 0, .int .i64 0, .int .i64 0]]) (by kernel_rfl) (punctualsame_Lend_api_Frame_ok l0 A0 c0 (⟨(-9), 0, 0, 0⟩ : SFrame) _ (hS4.rd hR0) hL0 _ hq3) ?_
      rintro _ w3 ⟨Z1, cz1, rfl, hcp1, hS5⟩
      refine ⟨_, rfl, hS5.below, ?_⟩
      have hS6 := hS4.call hS5
      refine ge_batch [3] (ans := []) (vs := [(3, .slice Z1 l0.length cz1)]) (l := []) (by kernel_rfl) trivial ?_
      refine ge_nil fun a hF => hK6 _ _ ?_ a hF
      refine we_seq fun K7 hK7 => ?_
      refine we_region [(0, 0), (1, 1), (2, 0), (3, 0), (4, 0), (5, 1), (6, 0), (7, 2)] rfl ?_
      rcases hq4 : net_Times.f K l0 with _ | r3
      · rw [hq4] at h; cases h
      rw [hq4] at h
      simp only [] at h
      refine ge_batch [0] (ans := []) (vs := [(18, .slice Z1 l0.length cz1)]) (l := []) (by kernel_rfl) trivial ?_
      refine ge_call (d := some 19) (f := 34) (args := #[.slice Z1 l0.length cz1]) (by kernel_rfl) (net_Times_ok K l0 Z1 cz1 _ ((hS6.rdAt 0 rfl).pre) (by have h0 := hcp1; simp only [List.length_append, List.length_cons, List.length_nil] at h0; omega) _ hq4) ?_
      rintro _ w4 ⟨v1, rfl, hS7⟩
      refine ⟨_, rfl, hS7.below, ?_⟩
      have hS8 := hS6.call hS7
      refine ge_batch [2, 3, 4] (ans := []) (vs := [(21, .agg #[.int .i64 r3.2.Code, .int .i64 r3.2.At]), (20, v1), (17, .tuple #[v1, .agg #[.int .i64 r3.2.Code, .int .i64 r3.2.At]])]) (l := []) (by kernel_rfl) trivial ?_
      refine ge_new (d := some 5) (o := .cells #[.int .i64 0, .int .i64 0] 27) (v := fun b => .pointer (some ⟨b, 0, none⟩)) hS8 (fun b => by kernel_rfl) fun b1 w5 hx1 hS9 => ?_
      refine ge_batch [6] (ans := []) (vs := [(4, v1)]) (l := []) (by kernel_rfl) trivial ?_
      refine ge_set (b := b1) (j := 0) (cs := #[.int .i64 0, .int .i64 0]) (t := 27) (vs := [.int .i64 r3.2.Code, .int .i64 r3.2.At]) hS9 (by kernel_rfl) rfl rfl fun w6 hS10 => ?_
      have hS11 : St w0 w6 [Own.blk b1 (.cells #[.int .i64 r3.2.Code, .int .i64 r3.2.At] 27 (0, 0)), Own.of v1 3 r3.1, Own.of (.slice Z1 (l0 ++ [(⟨(-9), 0, 0, 0⟩ : SFrame), (⟨(-9), 0, 0, 0⟩ : SFrame), (⟨(-9), 0, 0, 0⟩ : SFrame)]).length cz1) 63 (l0 ++ [(⟨(-9), 0, 0, 0⟩ : SFrame), (⟨(-9), 0, 0, 0⟩ : SFrame), (⟨(-9), 0, 0, 0⟩ : SFrame)])] := hS10
      refine ge_nil fun a hF => hK7 _ _ ?_ a hF
      refine we_seq fun K8 hK8 => ?_
      refine we_region [(0, 0), (1, 1), (2, 0), (3, 0), (4, 0), (5, 1), (6, 0), (7, 2)] rfl ?_
      rcases hq5 : punctualref_BusTimes.f K l0 with _ | r4
      · rw [hq5] at h; cases h
      rw [hq5] at h
      simp only [] at h
      refine ge_batch [0] (ans := []) (vs := [(23, .slice A0 l0.length c0)]) (l := []) (by kernel_rfl) trivial ?_
      refine ge_call (d := some 24) (f := 35) (args := #[.slice A0 l0.length c0]) (by kernel_rfl) (punctualref_BusTimes_ok K l0 A0 c0 _ (hS11.rd hR0) hL0 _ hq5) ?_
      rintro _ w7 ⟨v2, rfl, hS12⟩
      refine ⟨_, rfl, hS12.below, ?_⟩
      have hS13 := hS11.call hS12
      refine ge_batch [2, 3, 4] (ans := []) (vs := [(26, .agg #[.int .i64 r4.2.Code, .int .i64 r4.2.At]), (25, v2), (22, .tuple #[v2, .agg #[.int .i64 r4.2.Code, .int .i64 r4.2.At]])]) (l := []) (by kernel_rfl) trivial ?_
      refine ge_new (d := some 7) (o := .cells #[.int .i64 0, .int .i64 0] 27) (v := fun b => .pointer (some ⟨b, 0, none⟩)) hS13 (fun b => by kernel_rfl) fun b2 w8 hx2 hS14 => ?_
      refine ge_batch [6] (ans := []) (vs := [(6, v2)]) (l := []) (by kernel_rfl) trivial ?_
      refine ge_set (b := b2) (j := 0) (cs := #[.int .i64 0, .int .i64 0]) (t := 27) (vs := [.int .i64 r4.2.Code, .int .i64 r4.2.At]) hS14 (by kernel_rfl) rfl rfl fun w9 hS15 => ?_
      have hS16 : St w0 w9 [Own.blk b2 (.cells #[.int .i64 r4.2.Code, .int .i64 r4.2.At] 27 (0, 0)), Own.of v2 3 r4.1, Own.blk b1 (.cells #[.int .i64 r3.2.Code, .int .i64 r3.2.At] 27 (0, 0)), Own.of v1 3 r3.1, Own.of (.slice Z1 (l0 ++ [(⟨(-9), 0, 0, 0⟩ : SFrame), (⟨(-9), 0, 0, 0⟩ : SFrame), (⟨(-9), 0, 0, 0⟩ : SFrame)]).length cz1) 63 (l0 ++ [(⟨(-9), 0, 0, 0⟩ : SFrame), (⟨(-9), 0, 0, 0⟩ : SFrame), (⟨(-9), 0, 0, 0⟩ : SFrame)])] := hS15
      refine ge_nil fun a hF => hK8 _ _ ?_ a hF
      refine we_seq fun K9 hK9 => ?_
      refine we_region [(0, 0), (1, 1), (2, 0), (3, 1), (4, 0), (5, 0), (6, 0), (7, 0), (8, 0), (9, 0), (10, 0), (11, 0), (12, 0), (13, 1), (14, 0), (15, 0), (16, 0), (17, 0), (18, 0), (19, 1), (20, 0), (21, 0)] rfl ?_
      rcases hq6 : net_Check.f K l0 with _ | r5
      · rw [hq6] at h; cases h
      rw [hq6] at h
      simp only [] at h
      refine ge_batch [0] (ans := []) (vs := [(27, .slice Z1 l0.length cz1)]) (l := []) (by kernel_rfl) trivial ?_
      refine ge_call (d := some 28) (f := 36) (args := #[.slice Z1 l0.length cz1]) (by kernel_rfl) (net_Check_ok K l0 Z1 cz1 _ ((hS16.rdAt 4 rfl).pre) (by have h0 := hcp1; simp only [List.length_append, List.length_cons, List.length_nil] at h0; omega) _ hq6) ?_
      rintro _ w10 ⟨rfl, hS17⟩
      refine ⟨_, rfl, hS17.below, ?_⟩
      have hS18 := hS16.call hS17
      rcases hq7 : punctualref_CheckBus.f K l0 with _ | r6
      · rw [hq7] at h; cases h
      rw [hq7] at h
      simp only [] at h
      refine ge_batch [2] (ans := []) (vs := [(29, .slice A0 l0.length c0)]) (l := []) (by kernel_rfl) trivial ?_
      refine ge_call (d := some 30) (f := 37) (args := #[.slice A0 l0.length c0]) (by kernel_rfl) (punctualref_CheckBus_ok K l0 A0 c0 _ (hS18.rd hR0) hL0 _ hq7) ?_
      rintro _ w11 ⟨rfl, hS19⟩
      refine ⟨_, rfl, hS19.below, ?_⟩
      have hS20 := hS18.call hS19
      refine ge_eqs (d := 31) (ty := 4) (op := .eql) (x := (.tmp 28)) (y := (.tmp 30)) (t := 27) (t2 := 27) (xs := #[.int .i64 r5.Code, .int .i64 r5.At]) (ys := #[.int .i64 r6.Code, .int .i64 r6.At]) (r := (SFault.eqb r5 r6)) (v := (SFault.eqb r5 r6)) (by kernel_rfl) (by kernel_rfl) (by kernel_rfl) (by kernel_rfl) (by kernel_rfl) rfl ?_
      refine ge_batch [5] (ans := []) (vs := [(32, .bool (SFault.eqb r5 r6))]) (l := []) (by kernel_rfl) trivial ?_
      by_cases hc3 : (SFault.eqb r5 r6) = true
      · rw [if_pos hc3] at h
        refine ge_known (t := 32) (b := (SFault.eqb r5 r6)) (c := true) (by kernel_rfl) hc3 ?_
        refine ge_batch [6, 7] (ans := [.val (.int .i64 r3.2.Code), .val (.int .i64 r3.2.At), .val (.int .i64 r4.2.Code), .val (.int .i64 r4.2.At)]) (vs := [(34, .agg #[.int .i64 r4.2.Code, .int .i64 r4.2.At]), (33, .agg #[.int .i64 r3.2.Code, .int .i64 r3.2.At])]) (l := [.loaded ⟨b1, 0, none⟩ (.int .i64 r3.2.Code), .loaded ⟨b1, 1, none⟩ (.int .i64 r3.2.At), .loaded ⟨b2, 0, none⟩ (.int .i64 r4.2.Code), .loaded ⟨b2, 1, none⟩ (.int .i64 r4.2.At)]) (by kernel_rfl) ⟨hS20.cell 2 rfl rfl, hS20.cell 2 rfl rfl, hS20.cell 0 rfl rfl, hS20.cell 0 rfl rfl, trivial⟩ ?_
        refine ge_eqs (d := 35) (ty := 4) (op := .eql) (x := (.tmp 33)) (y := (.tmp 34)) (t := 27) (t2 := 27) (xs := #[.int .i64 r3.2.Code, .int .i64 r3.2.At]) (ys := #[.int .i64 r4.2.Code, .int .i64 r4.2.At]) (r := (SFault.eqb r3.2 r4.2)) (v := (SFault.eqb r3.2 r4.2)) (by kernel_rfl) (by kernel_rfl) (by kernel_rfl) (by kernel_rfl) (by kernel_rfl) rfl ?_
        refine ge_batch [9, 10] (ans := []) (vs := [(37, .bool (SFault.eqb r3.2 r4.2)), (36, .bool (SFault.eqb r3.2 r4.2))]) (l := []) (by kernel_rfl) trivial ?_
        by_cases hc4 : (SFault.eqb r3.2 r4.2) = true
        · rw [if_pos hc4] at h
          refine ge_known (t := 37) (b := (SFault.eqb r3.2 r4.2)) (c := true) (by kernel_rfl) hc4 ?_
          refine ge_batch [11, 12] (ans := []) (vs := [(39, v2), (38, v1)]) (l := []) (by kernel_rfl) trivial ?_
          obtain ⟨Z2, cz2, rfl⟩ := hS20.open 3 rfl
          obtain ⟨Z3, cz3, rfl⟩ := hS20.open 1 rfl
          rcases hq8 : punctualsame_Same_int.f K r3.1 r4.1 with _ | r7
          · rw [hq8] at h; cases h
          rw [hq8] at h
          simp only [] at h
          refine ge_call (d := some 40) (f := 13) (args := #[(.slice Z2 r3.1.length cz2), (.slice Z3 r4.1.length cz3)]) (by kernel_rfl) (punctualsame_Same_int_ok K r3.1 Z2 cz2 r4.1 Z3 cz3 _ (hS20.rdAt 3 rfl) (hS20.capAt 3 rfl) (hS20.rdAt 1 rfl) (hS20.capAt 1 rfl) _ hq8) ?_
          rintro _ w12 ⟨rfl, hS21⟩
          refine ⟨_, rfl, hS21.below, ?_⟩
          have hS22 := hS20.call hS21
          refine ge_batch [14, 15] (ans := []) (vs := [(42, .bool r7), (41, .bool r7)]) (l := []) (by kernel_rfl) trivial ?_
          by_cases hc5 : r7 = true
          · rw [if_pos hc5] at h
            refine ge_known (t := 42) (b := r7) (c := true) (by kernel_rfl) hc5 ?_
            refine ge_batch [16, 17, 18] (ans := [.val (.int .i64 (-9)), .val (.int .i64 0), .val (.int .i64 0), .val (.int .i64 0)]) (vs := [(45, .agg #[.int .i64 (-9), .int .i64 0, .int .i64 0, .int .i64 0]), (44, .slice A0 l0.length c0), (43, .slice Z1 l0.length cz1)]) (l := [.loaded ⟨2, 0, none⟩ (.int .i64 (-9)), .loaded ⟨2, 1, none⟩ (.int .i64 0), .loaded ⟨2, 2, none⟩ (.int .i64 0), .loaded ⟨2, 3, none⟩ (.int .i64 0)]) (by kernel_rfl) ⟨hS22.glob hG2 rfl, hS22.glob hG2 rfl, hS22.glob hG2 rfl, hS22.glob hG2 rfl, trivial⟩ ?_
            rcases hq9 : punctualsame_Still_api_Frame.f K (l0 ++ [(⟨(-9), 0, 0, 0⟩ : SFrame), (⟨(-9), 0, 0, 0⟩ : SFrame), (⟨(-9), 0, 0, 0⟩ : SFrame)]) l0 (⟨(-9), 0, 0, 0⟩ : SFrame) with _ | r8
            · rw [hq9] at h; cases h
            rw [hq9] at h
            simp only [] at h
            refine ge_call (d := some 46) (f := 38) (args := #[.slice Z1 l0.length cz1, .slice A0 l0.length c0, .agg #[.int .i64 (-9), .int .i64 0, .int .i64 0, .int .i64 0]]) (by kernel_rfl) (punctualsame_Still_api_Frame_ok K (l0 ++ [(⟨(-9), 0, 0, 0⟩ : SFrame), (⟨(-9), 0, 0, 0⟩ : SFrame), (⟨(-9), 0, 0, 0⟩ : SFrame)]) Z1 l0.length cz1 l0 A0 c0 (⟨(-9), 0, 0, 0⟩ : SFrame) _ (hS22.rdAt 4 rfl) hcp1 (hS22.rd hR0) hL0 _ hq9) ?_
            rintro _ w13 ⟨rfl, hS23⟩
            refine ⟨_, rfl, hS23.below, ?_⟩
            have hS24 := hS22.call hS23
            refine ge_batch [20, 21] (ans := []) (vs := [(2, .bool r8), (47, .bool r8)]) (l := []) (by kernel_rfl) trivial ?_
            refine ge_nil fun a hF => hK9 _ _ ?_ a hF
            have hS25 := hS24.takeN 0
            obtain rfl := Option.some.inj h
            exact we_ret (post_ret (rs := [.tmp 2]) (ans := []) (vs := [.bool r8]) (l := []) rfl (by kernel_rfl) trivial ⟨rfl, hS25⟩)
          · rw [if_neg hc5] at h
            refine ge_known (t := 42) (b := r7) (c := false) (by kernel_rfl) (Bool.eq_false_iff.2 hc5) ?_
            refine ge_batch [16, 17, 18] (ans := []) (vs := [(45, undef), (44, undef), (43, undef)]) (l := []) (by kernel_rfl) trivial ?_
            refine ge_off rfl rfl rfl (by kernel_rfl) ?_
            refine ge_batch [20, 21] (ans := []) (vs := [(2, .bool false), (47, .bool false)]) (l := []) (by kernel_rfl) trivial ?_
            refine ge_nil fun a hF => hK9 _ _ ?_ a hF
            have hS26 := hS22.takeN 0
            obtain rfl := Option.some.inj h
            exact we_ret (post_ret (rs := [.tmp 2]) (ans := []) (vs := [.bool false]) (l := []) rfl (by kernel_rfl) trivial ⟨rfl, hS26⟩)
        · rw [if_neg hc4] at h
          refine ge_known (t := 37) (b := (SFault.eqb r3.2 r4.2)) (c := false) (by kernel_rfl) (Bool.eq_false_iff.2 hc4) ?_
          refine ge_batch [11, 12] (ans := []) (vs := [(39, undef), (38, undef)]) (l := []) (by kernel_rfl) trivial ?_
          refine ge_off rfl rfl rfl (by kernel_rfl) ?_
          refine ge_batch [14, 15, 16, 17, 18] (ans := []) (vs := [(45, undef), (44, undef), (43, undef), (42, .bool false), (41, .bool false)]) (l := []) (by kernel_rfl) trivial ?_
          refine ge_off rfl rfl rfl (by kernel_rfl) ?_
          refine ge_batch [20, 21] (ans := []) (vs := [(2, .bool false), (47, .bool false)]) (l := []) (by kernel_rfl) trivial ?_
          refine ge_nil fun a hF => hK9 _ _ ?_ a hF
          have hS27 := hS20.takeN 0
          obtain rfl := Option.some.inj h
          exact we_ret (post_ret (rs := [.tmp 2]) (ans := []) (vs := [.bool false]) (l := []) rfl (by kernel_rfl) trivial ⟨rfl, hS27⟩)
      · rw [if_neg hc3] at h
        refine ge_known (t := 32) (b := (SFault.eqb r5 r6)) (c := false) (by kernel_rfl) (Bool.eq_false_iff.2 hc3) ?_
        refine ge_batch [6, 7, 8, 9, 10, 11, 12] (ans := []) (vs := [(39, undef), (38, undef), (37, .bool false), (36, .bool false), (35, undef), (34, undef), (33, undef)]) (l := []) (by kernel_rfl) trivial ?_
        refine ge_off rfl rfl rfl (by kernel_rfl) ?_
        refine ge_batch [14, 15, 16, 17, 18] (ans := []) (vs := [(45, undef), (44, undef), (43, undef), (42, .bool false), (41, .bool false)]) (l := []) (by kernel_rfl) trivial ?_
        refine ge_off rfl rfl rfl (by kernel_rfl) ?_
        refine ge_batch [20, 21] (ans := []) (vs := [(2, .bool false), (47, .bool false)]) (l := []) (by kernel_rfl) trivial ?_
        refine ge_nil fun a hF => hK9 _ _ ?_ a hF
        have hS28 := hS20.takeN 0
        obtain rfl := Option.some.inj h
        exact we_ret (post_ret (rs := [.tmp 2]) (ans := []) (vs := [.bool false]) (l := []) rfl (by kernel_rfl) trivial ⟨rfl, hS28⟩)
    · rw [if_neg hc2] at h
      refine we_known (t := 13) (b := !(few.f (l0.length : Int))) (v := true) (by kernel_rfl) (congrArg (fun z => !z) (Bool.eq_false_iff.2 hc2)) ?_
      refine we_true (by kernel_rfl) ?_
      refine we_seq fun K10 hK10 => ?_
      refine we_region [(0, 0)] rfl ?_
      refine ge_batch [0] (ans := []) (vs := [(2, .bool true)]) (l := []) (by kernel_rfl) trivial ?_
      refine ge_nil fun a hF => hK10 _ _ ?_ a hF
      obtain rfl := Option.some.inj h
      exact we_ret (post_ret (rs := [.tmp 2]) (ans := []) (vs := [.bool true]) (l := []) rfl (by kernel_rfl) trivial ⟨rfl, hS4⟩)
  · rw [if_neg hc1] at h
    refine we_known (t := 9) (b := !r1) (v := true) (by kernel_rfl) (congrArg (fun z => !z) (Bool.eq_false_iff.2 hc1)) ?_
    refine we_true (by kernel_rfl) ?_
    refine we_seq fun K11 hK11 => ?_
    refine we_region [(0, 0)] rfl ?_
    refine ge_batch [0] (ans := []) (vs := [(2, .bool false)]) (l := []) (by kernel_rfl) trivial ?_
    refine ge_nil fun a hF => hK11 _ _ ?_ a hF
    obtain rfl := Option.some.inj h
    exact we_ret (post_ret (rs := [.tmp 2]) (ans := []) (vs := [.bool false]) (l := []) rfl (by kernel_rfl) trivial ⟨rfl, hS2⟩)
end Go.Proofs.YtccfilmiboepjaaDoor.GV
