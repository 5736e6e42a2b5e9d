/- Walks of single functions, written by a program of this work. -/
import Derived.Test.YtlipdmblinjjaaaGWFixedExact2
namespace Go.Proofs.Ytlipdmblinjjaaa.GV
open Go Go.RowKit
set_option linter.unusedVariables false
set_option linter.unusedSimpArgs false
set_option maxRecDepth 100000

/-! slices.swapRangeCmpFunc[punctual/api.Come] -/
abbrev slices_swapRangeCmpFunc_api_Come.Post (w0 : World) (l0 : List SCome) (A0 : Option Addr) (c0 : Nat) (x1 : Int) (x2 : Int) (x3 : Int) (LT : List Own) (r : List SCome) (e : Ending) (w : World) : Prop := e = .returned (.tuple #[]) ∧ l0.length = r.length ∧ St w0 w [Own.of (.slice A0 r.length c0) 53 r, Own.all LT]
def slices_swapRangeCmpFunc_api_Come.r0 (x1 : Int) (x2 : Int) (x3 : Int) : Int × (List SCome) → Option ((Int × (List SCome)) ⊕ ((List SCome) ⊕ (List SCome)))
 | (z1, m1) =>
  if z1 < x3 then
   if 0 ≤ (IntKind.i64.wrap (x2 + z1)) then
    match m1[(IntKind.i64.wrap (x2 + z1)).toNat]? with
    | none => none
    | some e1 =>
     if 0 ≤ (IntKind.i64.wrap (x1 + z1)) then
      match m1[(IntKind.i64.wrap (x1 + z1)).toNat]? with
      | none => none
      | some e2 =>
       match (m1.set ((IntKind.i64.wrap (x1 + z1)).toNat) e1)[(IntKind.i64.wrap (x2 + z1)).toNat]? with
       | none => none
       | some e3 =>
        some (.inl (IntKind.i64.wrap (z1 + 1), ((m1.set ((IntKind.i64.wrap (x1 + z1)).toNat) e1).set ((IntKind.i64.wrap (x2 + z1)).toNat) e2)))
     else
      none
   else
    none
  else
   some (.inr (.inl m1))
def slices_swapRangeCmpFunc_api_Come.f (K : Nat) (l0 : List SCome) (x1 : Int) (x2 : Int) (x3 : Int) : Option (List SCome) :=
 match iter (slices_swapRangeCmpFunc_api_Come.r0 x1 x2 x3) K (0, l0) with
 | none => none
 | some (.inl m3) =>
  some m3
 | some (.inr rr1) =>
  some rr1
abbrev slices_swapRangeCmpFunc_api_Come.A0 (w0 : World) (l0 : List SCome) (A0 : Option Addr) (c0 : Nat) (x1 : Int) (x2 : Int) (x3 : Int) (LT : List Own) : (Int × (List SCome)) → Act → World → Prop := fun (s : Int × (List SCome)) a w => l0.length = s.2.length ∧ St w0 w [Own.of (.slice A0 s.2.length c0) 53 s.2, Own.all LT] ∧ Frm 38 a [(0, (.slice A0 s.2.length c0)), (1, vI x1), (2, vI x2), (3, vI x3), (4, .func (.func 41) #[] #[]), (10, vI s.1)]
abbrev slices_swapRangeCmpFunc_api_Come.B0 (w0 : World) (l0 : List SCome) (A0 : Option Addr) (c0 : Nat) (x1 : Int) (x2 : Int) (x3 : Int) (LT : List Own) : ((List SCome) ⊕ (List SCome)) → Exit → Act → World → Prop := Exits 0 (fun (s : (List SCome)) a w => l0.length = s.length ∧ St w0 w [Own.of (.slice A0 s.length c0) 53 s, Own.all LT] ∧ Frm 38 a [(0, (.slice A0 s.length c0)), (4, .func (.func 41) #[] #[])]) (Rets Try.prog Try.f87 (slices_swapRangeCmpFunc_api_Come.Post w0 l0 A0 c0 x1 x2 x3 LT))
theorem slices_swapRangeCmpFunc_api_Come_r0 (K : Nat) (w0 : World) (l0 : List SCome) (A0 : Option Addr) (c0 : Nat) (x1 : Int) (x2 : Int) (x3 : Int) (LT : List Own) (s : Int × (List SCome)) (o : (Int × (List SCome)) ⊕ ((List SCome) ⊕ (List SCome))) (h : slices_swapRangeCmpFunc_api_Come.r0 x1 x2 x3 s = some o) (a : Act) (w : World) (hA : slices_swapRangeCmpFunc_api_Come.A0 w0 l0 A0 c0 x1 x2 x3 LT s a w) (Q : Exit → Act → World → Prop) (hQ : ∀ x a w, Outs (slices_swapRangeCmpFunc_api_Come.A0 w0 l0 A0 c0 x1 x2 x3 LT) (slices_swapRangeCmpFunc_api_Come.B0 w0 l0 A0 c0 x1 x2 x3 LT) o x a w → Q x a w) : (subF Try.f87 [1, 0, 0]).wp Try.prog Q a w := by
 obtain ⟨z1, m1⟩ := s
 obtain ⟨hLio1, hS, hF⟩ := hA
 replace hS : St w0 w [Own.of (.slice A0 m1.length c0) 53 m1, Own.all LT] := hS
 simp only [slices_swapRangeCmpFunc_api_Come.r0] at h
 refine (?_ : WE Try.prog 38 (subF Try.f87 [1, 0, 0]) Q [(0, (.slice A0 m1.length c0)), (1, vI x1), (2, vI x2), (3, vI x3), (4, .func (.func 41) #[] #[]), (10, vI z1)] w) a hF
 clear hF a
 refine ws fun K2 hK2 => ?_
 refine ws fun K3 hK3 => ?_
 refine wr [(0, 0), (1, 0), (2, 0)] ?_
 refine gb0 [0, 1, 2] [(13, .bool (decide (z1 < x3))), (12, vI x3), (11, vI z1)] ?_
 refine gn hK3 ?_
 by_cases hc1 : z1 < x3
 ·rw [if_pos hc1] at h
  refine wk 13 (decide (z1 < x3)) true (decide_eq_true hc1) ?_
  refine we_true (by kernel_rfl) ?_
  refine we_skip fun a hF => hK2 _ _ ?_ a hF
  refine ws fun K4 hK4 => ?_
  refine we_block ?_
  refine we_orders2 (by kernel_rfl) [(13, [⟨blkOf A0, offOf A0 + ((IntKind.i64.wrap (x2 + z1)).toNat) * 2, none⟩, ⟨blkOf A0, offOf A0 + ((IntKind.i64.wrap (x2 + z1)).toNat) * 2 + 1, none⟩]), (19, [⟨blkOf A0, offOf A0 + ((IntKind.i64.wrap (x1 + z1)).toNat) * 2, none⟩, ⟨blkOf A0, offOf A0 + ((IntKind.i64.wrap (x1 + z1)).toNat) * 2 + 1, none⟩])] (.vals [0] (.vals [1] (.vals [2] (.vals [3] (.vals [4] (.vals [5] (.vals [6] (.vals [7] (.vals [8] (.vals [9] (.vals [10] (.vals [11] (.vals [12] (.vals [13] (.vals [14] (.vals [15] (.vals [16] (.vals [17] (.vals [18] (.vals [19] (.vals [20] (.alt 21 2 (.vals [22] (.alt 23 2 .fin .nomore)) .nomore)))))))))))))))))))))) (by kernel_rfl) ?_
  have hS3 := hS.drew
  refine go2_batch [0, 1, 2, 3, 4, 5, 6, 7, 8, 9, 10, 11] (ans := []) (vs := [(27, vI (IntKind.i64.wrap (x2 + z1))), (26, vI z1), (25, vI x2), (24, (.slice A0 m1.length c0)), (23, vI (IntKind.i64.wrap (x2 + z1))), (22, vI z1), (21, vI x2), (20, (.slice A0 m1.length c0)), (19, vI (IntKind.i64.wrap (x1 + z1))), (18, vI z1), (17, vI x1), (16, (.slice A0 m1.length c0))]) (l := []) (by kernel_rfl) trivial mem_nil ?_
  by_cases hc2 : 0 ≤ (IntKind.i64.wrap (x2 + z1))
  ·rw [if_pos hc2] at h
   rcases hx1 : m1[(IntKind.i64.wrap (x2 + z1)).toNat]? with _ | e1
   ·rw [hx1] at h; cases h
   rw [hx1] at h
   simp only [] at h
   refine go2_index (d := 28) (ty := 0) (t := 23) (el := 53) (sz := 2) (m := m1.length) (c := c0) (x := (.tmp 24)) (y := (.tmp 27)) (A := A0) (k' := .i64) (j := (IntKind.i64.wrap (x2 + z1))) (jn := ((IntKind.i64.wrap (x2 + z1)).toNat)) (b0 := blkOf A0) (o0 := offOf A0) (by kernel_rfl) (by kernel_rfl) (by kernel_rfl) (by kernel_rfl) (by kernel_rfl) ((hS3.rdAt 0 rfl).eqSome (pos_of_get hx1)) (Int.toNat_of_nonneg hc2).symm (lt_of_get hx1) ?_
   refine go2_batch [13] (ans := [.val (vI e1.Task), .val (vI e1.At)]) (vs := [(29, .agg #[vI e1.Task, vI e1.At])]) (l := [.loaded ⟨blkOf A0, offOf A0 + ((IntKind.i64.wrap (x2 + z1)).toNat) * 2, none⟩ (vI e1.Task), .loaded ⟨blkOf A0, offOf A0 + ((IntKind.i64.wrap (x2 + z1)).toNat) * 2 + 1, none⟩ (vI e1.At)]) (by kernel_rfl) ⟨RdL.cell (j := 0) (hS3.rdAt 0 rfl) hx1 rfl, RdL.cell (j := 1) (hS3.rdAt 0 rfl) hx1 rfl, trivial⟩ (mem_one (by kernel_rfl)) ?_
   refine go2_batch [14, 15, 16, 17] (ans := []) (vs := [(33, vI (IntKind.i64.wrap (x1 + z1))), (32, vI z1), (31, vI x1), (30, (.slice A0 m1.length c0))]) (l := []) (by kernel_rfl) trivial mem_nil ?_
   by_cases hc3 : 0 ≤ (IntKind.i64.wrap (x1 + z1))
   ·rw [if_pos hc3] at h
    rcases hx2 : m1[(IntKind.i64.wrap (x1 + z1)).toNat]? with _ | e2
    ·rw [hx2] at h; cases h
    rw [hx2] at h
    simp only [] at h
    refine go2_index (d := 34) (ty := 0) (t := 23) (el := 53) (sz := 2) (m := m1.length) (c := c0) (x := (.tmp 30)) (y := (.tmp 33)) (A := A0) (k' := .i64) (j := (IntKind.i64.wrap (x1 + z1))) (jn := ((IntKind.i64.wrap (x1 + z1)).toNat)) (b0 := blkOf A0) (o0 := offOf A0) (by kernel_rfl) (by kernel_rfl) (by kernel_rfl) (by kernel_rfl) (by kernel_rfl) ((hS3.rdAt 0 rfl).eqSome (pos_of_get hx2)) (Int.toNat_of_nonneg hc3).symm (lt_of_get hx2) ?_
    refine go2_batch [19] (ans := [.val (vI e2.Task), .val (vI e2.At)]) (vs := [(35, .agg #[vI e2.Task, vI e2.At])]) (l := [.loaded ⟨blkOf A0, offOf A0 + ((IntKind.i64.wrap (x1 + z1)).toNat) * 2, none⟩ (vI e2.Task), .loaded ⟨blkOf A0, offOf A0 + ((IntKind.i64.wrap (x1 + z1)).toNat) * 2 + 1, none⟩ (vI e2.At)]) (by kernel_rfl) ⟨RdL.cell (j := 0) (hS3.rdAt 0 rfl) hx2 rfl, RdL.cell (j := 1) (hS3.rdAt 0 rfl) hx2 rfl, trivial⟩ (mem_one (by kernel_rfl)) ?_
    refine go2_index (d := 36) (ty := 0) (t := 23) (el := 53) (sz := 2) (m := m1.length) (c := c0) (x := (.tmp 16)) (y := (.tmp 19)) (A := A0) (k' := .i64) (j := (IntKind.i64.wrap (x1 + z1))) (jn := ((IntKind.i64.wrap (x1 + z1)).toNat)) (b0 := blkOf A0) (o0 := offOf A0) (by kernel_rfl) (by kernel_rfl) (by kernel_rfl) (by kernel_rfl) (by kernel_rfl) ((hS3.rdAt 0 rfl).eqSome (pos_of_get hx2)) (Int.toNat_of_nonneg hc3).symm (lt_of_get hx2) ?_
    refine go_alt2 (fun KK hKK => ?_) ?_
    ·refine ge_seti (α := SCome) (A := A0) (nn := m1.length) (c := c0) (t := 53) (l := m1) (x := e2) (x' := e1) (jn := ((IntKind.i64.wrap (x1 + z1)).toNat)) (j := 0) (vs := [vI e1.Task, vI e1.At]) (l' := [.stored ⟨blkOf A0, offOf A0 + ((IntKind.i64.wrap (x1 + z1)).toNat) * 2, none⟩ (vI e1.Task), .stored ⟨blkOf A0, offOf A0 + ((IntKind.i64.wrap (x1 + z1)).toNat) * 2 + 1, none⟩ (vI e1.At)]) hS3 (by kernel_rfl) (by kernel_rfl) hx2 rfl rfl rfl fun w1 hS4 => ?_
     have hS5 : St w0 w1 [Own.of (.slice A0 m1.length c0) 53 (m1.set ((IntKind.i64.wrap (x1 + z1)).toNat) e1), Own.all LT] := hS4
     have hE1 : m1.length = (m1.set ((IntKind.i64.wrap (x1 + z1)).toNat) e1).length := hS5.lenAt 0 rfl
     have hS6 : St w0 w1 [Own.of (.slice A0 (m1.set ((IntKind.i64.wrap (x1 + z1)).toNat) e1).length c0) 53 (m1.set ((IntKind.i64.wrap (x1 + z1)).toNat) e1), Own.all LT] := by rw [← hE1]; exact hS5
     refine ge_same (t := 0) (v := (.slice A0 m1.length c0)) (v' := (.slice A0 (m1.set ((IntKind.i64.wrap (x1 + z1)).toNat) e1).length c0)) (by kernel_rfl) (by rw [hE1]) ?_
     refine ge_same (t := 16) (v := (.slice A0 m1.length c0)) (v' := (.slice A0 (m1.set ((IntKind.i64.wrap (x1 + z1)).toNat) e1).length c0)) (by kernel_rfl) (by rw [hE1]) ?_
     refine ge_same (t := 20) (v := (.slice A0 m1.length c0)) (v' := (.slice A0 (m1.set ((IntKind.i64.wrap (x1 + z1)).toNat) e1).length c0)) (by kernel_rfl) (by rw [hE1]) ?_
     refine ge_same (t := 24) (v := (.slice A0 m1.length c0)) (v' := (.slice A0 (m1.set ((IntKind.i64.wrap (x1 + z1)).toNat) e1).length c0)) (by kernel_rfl) (by rw [hE1]) ?_
     refine ge_same (t := 30) (v := (.slice A0 m1.length c0)) (v' := (.slice A0 (m1.set ((IntKind.i64.wrap (x1 + z1)).toNat) e1).length c0)) (by kernel_rfl) (by rw [hE1]) ?_
     refine ge_nil fun a hF => hKK _ _ (RS.of2 (l := []) (by kernel_rfl) trivial trivial) ?_ a hF
     rcases hx3 : (m1.set ((IntKind.i64.wrap (x1 + z1)).toNat) e1)[(IntKind.i64.wrap (x2 + z1)).toNat]? with _ | e3
     ·rw [hx3] at h; cases h
     rw [hx3] at h
     simp only [] at h
     refine go2_index (d := 37) (ty := 0) (t := 23) (el := 53) (sz := 2) (m := (m1.set ((IntKind.i64.wrap (x1 + z1)).toNat) e1).length) (c := c0) (x := (.tmp 20)) (y := (.tmp 23)) (A := A0) (k' := .i64) (j := (IntKind.i64.wrap (x2 + z1))) (jn := ((IntKind.i64.wrap (x2 + z1)).toNat)) (b0 := blkOf A0) (o0 := offOf A0) (by kernel_rfl) (by kernel_rfl) (by kernel_rfl) (by kernel_rfl) (by kernel_rfl) ((hS6.rdAt 0 rfl).eqSome (pos_of_get hx3)) (Int.toNat_of_nonneg hc2).symm (lt_of_get hx3) ?_
     refine go_alt2 (fun KK hKK => ?_) ?_
     ·refine ge_seti (α := SCome) (A := A0) (nn := ((m1.set ((IntKind.i64.wrap (x1 + z1)).toNat) e1).length)) (c := c0) (t := 53) (l := (m1.set ((IntKind.i64.wrap (x1 + z1)).toNat) e1)) (x := e3) (x' := e2) (jn := ((IntKind.i64.wrap (x2 + z1)).toNat)) (j := 0) (vs := [vI e2.Task, vI e2.At]) (l' := [.stored ⟨blkOf A0, offOf A0 + ((IntKind.i64.wrap (x2 + z1)).toNat) * 2, none⟩ (vI e2.Task), .stored ⟨blkOf A0, offOf A0 + ((IntKind.i64.wrap (x2 + z1)).toNat) * 2 + 1, none⟩ (vI e2.At)]) hS6 (by kernel_rfl) (by kernel_rfl) hx3 rfl rfl rfl fun w2 hS7 => ?_
      have hS8 : St w0 w2 [Own.of (.slice A0 (m1.set ((IntKind.i64.wrap (x1 + z1)).toNat) e1).length c0) 53 ((m1.set ((IntKind.i64.wrap (x1 + z1)).toNat) e1).set ((IntKind.i64.wrap (x2 + z1)).toNat) e2), Own.all LT] := hS7
      have hE2 : (m1.set ((IntKind.i64.wrap (x1 + z1)).toNat) e1).length = ((m1.set ((IntKind.i64.wrap (x1 + z1)).toNat) e1).set ((IntKind.i64.wrap (x2 + z1)).toNat) e2).length := hS8.lenAt 0 rfl
      have hS9 : St w0 w2 [Own.of (.slice A0 ((m1.set ((IntKind.i64.wrap (x1 + z1)).toNat) e1).set ((IntKind.i64.wrap (x2 + z1)).toNat) e2).length c0) 53 ((m1.set ((IntKind.i64.wrap (x1 + z1)).toNat) e1).set ((IntKind.i64.wrap (x2 + z1)).toNat) e2), Own.all LT] := by rw [← hE2]; exact hS8
      refine ge_same (t := 0) (v := (.slice A0 (m1.set ((IntKind.i64.wrap (x1 + z1)).toNat) e1).length c0)) (v' := (.slice A0 ((m1.set ((IntKind.i64.wrap (x1 + z1)).toNat) e1).set ((IntKind.i64.wrap (x2 + z1)).toNat) e2).length c0)) (by kernel_rfl) (by rw [hE2]) ?_
      refine ge_same (t := 16) (v := (.slice A0 (m1.set ((IntKind.i64.wrap (x1 + z1)).toNat) e1).length c0)) (v' := (.slice A0 ((m1.set ((IntKind.i64.wrap (x1 + z1)).toNat) e1).set ((IntKind.i64.wrap (x2 + z1)).toNat) e2).length c0)) (by kernel_rfl) (by rw [hE2]) ?_
      refine ge_same (t := 20) (v := (.slice A0 (m1.set ((IntKind.i64.wrap (x1 + z1)).toNat) e1).length c0)) (v' := (.slice A0 ((m1.set ((IntKind.i64.wrap (x1 + z1)).toNat) e1).set ((IntKind.i64.wrap (x2 + z1)).toNat) e2).length c0)) (by kernel_rfl) (by rw [hE2]) ?_
      refine ge_same (t := 24) (v := (.slice A0 (m1.set ((IntKind.i64.wrap (x1 + z1)).toNat) e1).length c0)) (v' := (.slice A0 ((m1.set ((IntKind.i64.wrap (x1 + z1)).toNat) e1).set ((IntKind.i64.wrap (x2 + z1)).toNat) e2).length c0)) (by kernel_rfl) (by rw [hE2]) ?_
      refine ge_same (t := 30) (v := (.slice A0 (m1.set ((IntKind.i64.wrap (x1 + z1)).toNat) e1).length c0)) (v' := (.slice A0 ((m1.set ((IntKind.i64.wrap (x1 + z1)).toNat) e1).set ((IntKind.i64.wrap (x2 + z1)).toNat) e2).length c0)) (by kernel_rfl) (by rw [hE2]) ?_
      refine ge_nil fun a hF => hKK _ _ (RS.of2 (l := []) (by kernel_rfl) trivial trivial) ?_ a hF
      refine go_fin2 fun a hF => hK4 _ _ ?_ a hF
      refine wr [(0, 0), (1, 0), (2, 0)] ?_
      refine gb0 [0, 1, 2] [(10, vI (IntKind.i64.wrap (z1 + 1))), (15, vI (IntKind.i64.wrap (z1 + 1))), (14, vI z1)] ?_
      have hS10 := hS9.bring 1 rfl
      have hS11 := hS10.bring 1 rfl
      obtain rfl := si h
      exact ge_nil fun a hF => hQ _ _ _ (Outs.again ⟨(Eq.trans hLio1 (by simp only [List.length_set])), hS11, hF.weaken ea⟩)
     exact go_nomore2
    exact go_nomore2
   ·rw [if_neg hc3] at h
    cases h
  ·rw [if_neg hc2] at h
   cases h
 ·rw [if_neg hc1] at h
  refine wk 13 (decide (z1 < x3)) false (decide_eq_false hc1) ?_
  refine we_false (by kernel_rfl) ?_
  have hS12 := hS.bring 1 rfl
  have hS13 := hS12.bring 1 rfl
  obtain rfl := si h
  exact we_exit fun a hF => hQ _ _ _ (Outs.out nofun (Exits.here ⟨hLio1, hS13, hF.weaken ea⟩))
theorem slices_swapRangeCmpFunc_api_Come_ok (K : Nat) (l0 : List SCome) (A0 : Option Addr) (c0 : Nat) (x1 : Int) (x2 : Int) (x3 : Int) (w0 wE : World) (LT : List Own) (hS : St w0 wE [Own.of (.slice A0 l0.length c0) 53 l0, Own.all LT]) (r : List SCome) (h : slices_swapRangeCmpFunc_api_Come.f K l0 x1 x2 x3 = some r) :
  Calls Try.prog 87 #[(.slice A0 l0.length c0), vI x1, vI x2, vI x3, .func (.func 41) #[] #[]] wE (slices_swapRangeCmpFunc_api_Come.Post w0 l0 A0 c0 x1 x2 x3 LT r) := by
 unfold slices_swapRangeCmpFunc_api_Come.f at h
 refine calls_enter (n := 38) (args := [(.slice A0 l0.length c0), vI x1, vI x2, vI x3, .func (.func 41) #[] #[]]) (fn := Try.f87) rfl rfl rfl rfl ?_
 show WE _ _ _ _ [(0, (.slice A0 l0.length c0)), (1, vI x1), (2, vI x2), (3, vI x3), (4, .func (.func 41) #[] #[])] _
 refine ws fun K1 hK1 => ?_
 refine wr [(0, 0)] ?_
 refine gb0 [0] [(10, vI 0)] ?_
 refine gn hK1 ?_
 refine we_block ?_
 have hS1 := hS.bring 1 rfl
 have hS2 := hS1.bring 1 rfl
 rcases hq1 : iter (slices_swapRangeCmpFunc_api_Come.r0 x1 x2 x3) K (0, l0) with _ | (m3 | rr1)
 ·rw [hq1] at h; cases h
 ·rw [hq1] at h
  simp only [] at h
  refine we_iter (A := slices_swapRangeCmpFunc_api_Come.A0 w0 l0 A0 c0 x1 x2 x3 LT) (B := slices_swapRangeCmpFunc_api_Come.B0 w0 l0 A0 c0 x1 x2 x3 LT) hq1 (fun a hF => ⟨rfl, hS2, hF.weaken ea⟩) (fun s o hf a w hA Q hQ => slices_swapRangeCmpFunc_api_Come_r0 K w0 l0 A0 c0 x1 x2 x3 LT s o hf a w hA Q hQ) ?_
  rintro _ a w3 _ ⟨rfl, hRz1, hS14, hF⟩
  replace hS14 : St w0 w3 [Own.of (.slice A0 m3.length c0) 53 m3, Own.all LT] := hS14
  have hS15 := hS14.bring 1 rfl
  have hS16 := hS15.bring 1 rfl
  obtain rfl := si h
  exact (pe0 [] [] ⟨rfl, hRz1, hS16⟩) a hF
 ·rw [hq1] at h
  simp only [] at h
  refine we_iter (A := slices_swapRangeCmpFunc_api_Come.A0 w0 l0 A0 c0 x1 x2 x3 LT) (B := slices_swapRangeCmpFunc_api_Come.B0 w0 l0 A0 c0 x1 x2 x3 LT) hq1 (fun a hF => ⟨rfl, hS2, hF.weaken ea⟩) (fun s o hf a w hA Q hQ => slices_swapRangeCmpFunc_api_Come_r0 K w0 l0 A0 c0 x1 x2 x3 LT s o hf a w hA Q hQ) ?_
  rintro _ a w1 _ ⟨rfl, hb⟩
  obtain rfl := si h
  exact hb

/-! slices.rotateCmpFunc[punctual/api.Come] -/
abbrev slices_rotateCmpFunc_api_Come.Post (w0 : World) (l0 : List SCome) (A0 : Option Addr) (c0 : Nat) (x1 : Int) (x2 : Int) (x3 : Int) (LT : List Own) (r : List SCome) (e : Ending) (w : World) : Prop := e = .returned (.tuple #[]) ∧ l0.length = r.length ∧ St w0 w [Own.of (.slice A0 r.length c0) 53 r, Own.all LT]
def slices_rotateCmpFunc_api_Come.r0 (K : Nat) (x2 : Int) : Int × Int × (List SCome) → Option ((Int × Int × (List SCome)) ⊕ ((Int × (List SCome)) ⊕ (List SCome)))
 | (z1, z2, m1) =>
  if z1 = z2 then
   some (.inr (.inl (z1, m1)))
  else
   if z1 > z2 then
    match slices_swapRangeCmpFunc_api_Come.f K m1 (IntKind.i64.wrap (x2 - z1)) x2 z2 with
    | none => none
    | some r1 =>
     some (.inl (IntKind.i64.wrap (z1 - z2), z2, r1))
   else
    match slices_swapRangeCmpFunc_api_Come.f K m1 (IntKind.i64.wrap (x2 - z1)) (IntKind.i64.wrap ((IntKind.i64.wrap (x2 + z2)) - z1)) z1 with
    | none => none
    | some r2 =>
     some (.inl (z1, IntKind.i64.wrap (z2 - z1), r2))
def slices_rotateCmpFunc_api_Come.f (K : Nat) (l0 : List SCome) (x1 : Int) (x2 : Int) (x3 : Int) : Option (List SCome) :=
 match iter (slices_rotateCmpFunc_api_Come.r0 K x2) K (IntKind.i64.wrap (x2 - x1), IntKind.i64.wrap (x3 - x2), l0) with
 | none => none
 | some (.inl (z4, m3)) =>
  match slices_swapRangeCmpFunc_api_Come.f K m3 (IntKind.i64.wrap (x2 - z4)) x2 z4 with
  | none => none
  | some r3 =>
   some r3
 | some (.inr rr1) =>
  some rr1
abbrev slices_rotateCmpFunc_api_Come.A0 (w0 : World) (l0 : List SCome) (A0 : Option Addr) (c0 : Nat) (x2 : Int) (LT : List Own) : (Int × Int × (List SCome)) → Act → World → Prop := fun (s : Int × Int × (List SCome)) a w => l0.length = s.2.2.length ∧ St w0 w [Own.of (.slice A0 s.2.2.length c0) 53 s.2.2, Own.all LT] ∧ Frm 58 a [(0, (.slice A0 s.2.2.length c0)), (2, vI x2), (4, .func (.func 41) #[] #[]), (10, vI s.1), (11, vI s.2.1)]
abbrev slices_rotateCmpFunc_api_Come.B0 (w0 : World) (l0 : List SCome) (A0 : Option Addr) (c0 : Nat) (x1 : Int) (x2 : Int) (x3 : Int) (LT : List Own) : ((Int × (List SCome)) ⊕ (List SCome)) → Exit → Act → World → Prop := Exits 0 (fun (s : Int × (List SCome)) a w => l0.length = s.2.length ∧ St w0 w [Own.of (.slice A0 s.2.length c0) 53 s.2, Own.all LT] ∧ Frm 58 a [(0, (.slice A0 s.2.length c0)), (2, vI x2), (4, .func (.func 41) #[] #[]), (10, vI s.1)]) (Rets Try.prog Try.f80 (slices_rotateCmpFunc_api_Come.Post w0 l0 A0 c0 x1 x2 x3 LT))
theorem slices_rotateCmpFunc_api_Come_r0 (K : Nat) (w0 : World) (l0 : List SCome) (A0 : Option Addr) (c0 : Nat) (x1 : Int) (x2 : Int) (x3 : Int) (LT : List Own) (s : Int × Int × (List SCome)) (o : (Int × Int × (List SCome)) ⊕ ((Int × (List SCome)) ⊕ (List SCome))) (h : slices_rotateCmpFunc_api_Come.r0 K x2 s = some o) (a : Act) (w : World) (hA : slices_rotateCmpFunc_api_Come.A0 w0 l0 A0 c0 x2 LT s a w) (Q : Exit → Act → World → Prop) (hQ : ∀ x a w, Outs (slices_rotateCmpFunc_api_Come.A0 w0 l0 A0 c0 x2 LT) (slices_rotateCmpFunc_api_Come.B0 w0 l0 A0 c0 x1 x2 x3 LT) o x a w → Q x a w) : (subF Try.f80 [1, 1, 0, 0, 0]).wp Try.prog Q a w := by
 obtain ⟨z1, z2, m1⟩ := s
 obtain ⟨hLio1, hS, hF⟩ := hA
 replace hS : St w0 w [Own.of (.slice A0 m1.length c0) 53 m1, Own.all LT] := hS
 simp only [slices_rotateCmpFunc_api_Come.r0] at h
 refine (?_ : WE Try.prog 58 (subF Try.f80 [1, 1, 0, 0, 0]) Q [(0, (.slice A0 m1.length c0)), (2, vI x2), (4, .func (.func 41) #[] #[]), (10, vI z1), (11, vI z2)] w) a hF
 clear hF a
 refine ws fun K4 hK4 => ?_
 refine ws fun K5 hK5 => ?_
 refine wr [(0, 0), (1, 0), (2, 0)] ?_
 refine gb0 [0, 1, 2] [(20, .bool (z1 != z2)), (19, vI z2), (18, vI z1)] ?_
 refine gn hK5 ?_
 by_cases hc1 : z1 = z2
 ·rw [if_pos hc1] at h
  refine wk 20 (z1 != z2) false (bne_eq_false_iff_eq.2 hc1) ?_
  refine we_false (by kernel_rfl) ?_
  have hS3 := hS.bring 1 rfl
  have hS4 := hS3.bring 1 rfl
  obtain rfl := si h
  exact we_exit fun a hF => hQ _ _ _ (Outs.out nofun (Exits.here ⟨hLio1, hS4, hF.weaken ea⟩))
 ·rw [if_neg hc1] at h
  refine wk 20 (z1 != z2) true (bne_iff_ne.2 hc1) ?_
  refine we_true (by kernel_rfl) ?_
  refine we_skip fun a hF => hK4 _ _ ?_ a hF
  refine we_block ?_
  refine ws fun K6 hK6 => ?_
  refine wr [(0, 0), (1, 0), (2, 0)] ?_
  refine gb0 [0, 1, 2] [(23, .bool (decide (z1 > z2))), (22, vI z2), (21, vI z1)] ?_
  refine gn hK6 ?_
  by_cases hc2 : z1 > z2
  ·rw [if_pos hc2] at h
   refine wk 23 (decide (z1 > z2)) true (decide_eq_true hc2) ?_
   refine we_true (by kernel_rfl) ?_
   refine ws fun K7 hK7 => ?_
   refine wr [(0, 0), (1, 0), (2, 0), (3, 0), (4, 0), (5, 0), (6, 0), (7, 2)] ?_
   refine gb0 [0, 1, 2, 3, 4, 5, 6] [(30, .func (.func 41) #[] #[]), (29, vI z2), (28, vI x2), (27, vI (IntKind.i64.wrap (x2 - z1))), (26, vI z1), (25, vI x2), (24, (.slice A0 m1.length c0))] ?_
   rcases hq1 : slices_swapRangeCmpFunc_api_Come.f K m1 (IntKind.i64.wrap (x2 - z1)) x2 z2 with _ | r1
   ·rw [hq1] at h; cases h
   rw [hq1] at h
   simp only [] at h
   have hS6 : St w0 w [Own.of (.slice A0 m1.length c0) 53 m1, Own.all [Own.all LT]] := hS.packN 1
   refine ge_call2 (m := 0) (d := some 31) (f := 87) (args := #[.slice A0 m1.length c0, vI (IntKind.i64.wrap (x2 - z1)), vI x2, vI z2, .func (.func 41) #[] #[]]) (by kernel_rfl) (slices_swapRangeCmpFunc_api_Come_ok K m1 A0 c0 (IntKind.i64.wrap (x2 - z1)) x2 z2 _ _ _ hS6 _ hq1) ?_
   rintro _ w1 ⟨rfl, hE1, hS5⟩
   refine ⟨_, rfl, ?_⟩
   have hS7 : St w0 w1 [Own.of (.slice A0 r1.length c0) 53 r1, Own.all LT] := hS5.unpack [Own.of (.slice A0 r1.length c0) 53 r1]
   refine ge_same (t := 0) (v := (.slice A0 m1.length c0)) (v' := (.slice A0 r1.length c0)) (by kernel_rfl) (by rw [show m1.length = r1.length from hE1]) ?_
   refine ge_same (t := 24) (v := (.slice A0 m1.length c0)) (v' := (.slice A0 r1.length c0)) (by kernel_rfl) (by rw [show m1.length = r1.length from hE1]) ?_
   have hLio3 : l0.length = r1.length := Eq.trans hLio1 hE1
   refine gn hK7 ?_
   refine wr [(0, 0), (1, 0), (2, 0), (3, 0)] ?_
   refine gb0 [0, 1, 2, 3] [(10, vI (IntKind.i64.wrap (z1 - z2))), (34, vI (IntKind.i64.wrap (z1 - z2))), (33, vI z2), (32, vI z1)] ?_
   have hS8 := hS7.bring 1 rfl
   have hS9 := hS8.bring 1 rfl
   obtain rfl := si h
   exact ge_nil fun a hF => hQ _ _ _ (Outs.again ⟨hLio3, hS9, hF.weaken ea⟩)
  ·rw [if_neg hc2] at h
   refine wk 23 (decide (z1 > z2)) false (decide_eq_false hc2) ?_
   refine we_false (by kernel_rfl) ?_
   refine ws fun K8 hK8 => ?_
   refine wr [(0, 0), (1, 0), (2, 0), (3, 0), (4, 0), (5, 0), (6, 0), (7, 0), (8, 0), (9, 0), (10, 0), (11, 2)] ?_
   refine gb0 [0, 1, 2, 3, 4, 5, 6, 7, 8, 9, 10] [(45, .func (.func 41) #[] #[]), (44, vI z1), (43, vI (IntKind.i64.wrap ((IntKind.i64.wrap (x2 + z2)) - z1))), (42, vI z1), (41, vI (IntKind.i64.wrap (x2 + z2))), (40, vI z2), (39, vI x2), (38, vI (IntKind.i64.wrap (x2 - z1))), (37, vI z1), (36, vI x2), (35, (.slice A0 m1.length c0))] ?_
   rcases hq2 : slices_swapRangeCmpFunc_api_Come.f K m1 (IntKind.i64.wrap (x2 - z1)) (IntKind.i64.wrap ((IntKind.i64.wrap (x2 + z2)) - z1)) z1 with _ | r2
   ·rw [hq2] at h; cases h
   rw [hq2] at h
   simp only [] at h
   have hS11 : St w0 w [Own.of (.slice A0 m1.length c0) 53 m1, Own.all [Own.all LT]] := hS.packN 1
   refine ge_call2 (m := 0) (d := some 46) (f := 87) (args := #[.slice A0 m1.length c0, vI (IntKind.i64.wrap (x2 - z1)), vI (IntKind.i64.wrap ((IntKind.i64.wrap (x2 + z2)) - z1)), vI z1, .func (.func 41) #[] #[]]) (by kernel_rfl) (slices_swapRangeCmpFunc_api_Come_ok K m1 A0 c0 (IntKind.i64.wrap (x2 - z1)) (IntKind.i64.wrap ((IntKind.i64.wrap (x2 + z2)) - z1)) z1 _ _ _ hS11 _ hq2) ?_
   rintro _ w2 ⟨rfl, hE2, hS10⟩
   refine ⟨_, rfl, ?_⟩
   have hS12 : St w0 w2 [Own.of (.slice A0 r2.length c0) 53 r2, Own.all LT] := hS10.unpack [Own.of (.slice A0 r2.length c0) 53 r2]
   refine ge_same (t := 0) (v := (.slice A0 m1.length c0)) (v' := (.slice A0 r2.length c0)) (by kernel_rfl) (by rw [show m1.length = r2.length from hE2]) ?_
   refine ge_same (t := 35) (v := (.slice A0 m1.length c0)) (v' := (.slice A0 r2.length c0)) (by kernel_rfl) (by rw [show m1.length = r2.length from hE2]) ?_
   have hLio4 : l0.length = r2.length := Eq.trans hLio1 hE2
   refine gn hK8 ?_
   refine wr [(0, 0), (1, 0), (2, 0), (3, 0)] ?_
   refine gb0 [0, 1, 2, 3] [(11, vI (IntKind.i64.wrap (z2 - z1))), (49, vI (IntKind.i64.wrap (z2 - z1))), (48, vI z1), (47, vI z2)] ?_
   have hS13 := hS12.bring 1 rfl
   have hS14 := hS13.bring 1 rfl
   obtain rfl := si h
   exact ge_nil fun a hF => hQ _ _ _ (Outs.again ⟨hLio4, hS14, hF.weaken ea⟩)
theorem slices_rotateCmpFunc_api_Come_ok (K : Nat) (l0 : List SCome) (A0 : Option Addr) (c0 : Nat) (x1 : Int) (x2 : Int) (x3 : Int) (w0 wE : World) (LT : List Own) (hS : St w0 wE [Own.of (.slice A0 l0.length c0) 53 l0, Own.all LT]) (r : List SCome) (h : slices_rotateCmpFunc_api_Come.f K l0 x1 x2 x3 = some r) :
  Calls Try.prog 80 #[(.slice A0 l0.length c0), vI x1, vI x2, vI x3, .func (.func 41) #[] #[]] wE (slices_rotateCmpFunc_api_Come.Post w0 l0 A0 c0 x1 x2 x3 LT r) := by
 unfold slices_rotateCmpFunc_api_Come.f at h
 refine calls_enter (n := 58) (args := [(.slice A0 l0.length c0), vI x1, vI x2, vI x3, .func (.func 41) #[] #[]]) (fn := Try.f80) rfl rfl rfl rfl ?_
 show WE _ _ _ _ [(0, (.slice A0 l0.length c0)), (1, vI x1), (2, vI x2), (3, vI x3), (4, .func (.func 41) #[] #[])] _
 refine ws fun K1 hK1 => ?_
 refine wr [(0, 0), (1, 0), (2, 0), (3, 0)] ?_
 refine gb0 [0, 1, 2, 3] [(10, vI (IntKind.i64.wrap (x2 - x1))), (14, vI (IntKind.i64.wrap (x2 - x1))), (13, vI x1), (12, vI x2)] ?_
 refine gn hK1 ?_
 refine ws fun K2 hK2 => ?_
 refine wr [(0, 0), (1, 0), (2, 0), (3, 0)] ?_
 refine gb0 [0, 1, 2, 3] [(11, vI (IntKind.i64.wrap (x3 - x2))), (17, vI (IntKind.i64.wrap (x3 - x2))), (16, vI x2), (15, vI x3)] ?_
 refine gn hK2 ?_
 refine ws fun K3 hK3 => ?_
 refine we_block ?_
 have hS1 := hS.bring 1 rfl
 have hS2 := hS1.bring 1 rfl
 rcases hq3 : iter (slices_rotateCmpFunc_api_Come.r0 K x2) K (IntKind.i64.wrap (x2 - x1), IntKind.i64.wrap (x3 - x2), l0) with _ | (⟨z4, m3⟩ | rr1)
 ·rw [hq3] at h; cases h
 ·rw [hq3] at h
  simp only [] at h
  refine we_iter (A := slices_rotateCmpFunc_api_Come.A0 w0 l0 A0 c0 x2 LT) (B := slices_rotateCmpFunc_api_Come.B0 w0 l0 A0 c0 x1 x2 x3 LT) hq3 (fun a hF => ⟨rfl, hS2, hF.weaken ea⟩) (fun s o hf a w hA Q hQ => slices_rotateCmpFunc_api_Come_r0 K w0 l0 A0 c0 x1 x2 x3 LT s o hf a w hA Q hQ) ?_
  rintro _ a w3 _ ⟨rfl, hRz1, hS15, hF⟩
  replace hS15 : St w0 w3 [Own.of (.slice A0 m3.length c0) 53 m3, Own.all LT] := hS15
  refine hK3 [(0, (.slice A0 m3.length c0)), (2, vI x2), (4, .func (.func 41) #[] #[]), (10, vI z4)] w3 ?_ a hF
  refine wr [(0, 0), (1, 0), (2, 0), (3, 0), (4, 0), (5, 0), (6, 0), (7, 2)] ?_
  refine gb0 [0, 1, 2, 3, 4, 5, 6] [(56, .func (.func 41) #[] #[]), (55, vI z4), (54, vI x2), (53, vI (IntKind.i64.wrap (x2 - z4))), (52, vI z4), (51, vI x2), (50, (.slice A0 m3.length c0))] ?_
  rcases hq4 : slices_swapRangeCmpFunc_api_Come.f K m3 (IntKind.i64.wrap (x2 - z4)) x2 z4 with _ | r3
  ·rw [hq4] at h; cases h
  rw [hq4] at h
  simp only [] at h
  have hS17 : St w0 w3 [Own.of (.slice A0 m3.length c0) 53 m3, Own.all [Own.all LT]] := hS15.packN 1
  refine ge_call2 (m := 0) (d := some 57) (f := 87) (args := #[.slice A0 m3.length c0, vI (IntKind.i64.wrap (x2 - z4)), vI x2, vI z4, .func (.func 41) #[] #[]]) (by kernel_rfl) (slices_swapRangeCmpFunc_api_Come_ok K m3 A0 c0 (IntKind.i64.wrap (x2 - z4)) x2 z4 _ _ _ hS17 _ hq4) ?_
  rintro _ w4 ⟨rfl, hE3, hS16⟩
  refine ⟨_, rfl, ?_⟩
  have hS18 : St w0 w4 [Own.of (.slice A0 r3.length c0) 53 r3, Own.all LT] := hS16.unpack [Own.of (.slice A0 r3.length c0) 53 r3]
  refine ge_same (t := 0) (v := (.slice A0 m3.length c0)) (v' := (.slice A0 r3.length c0)) (by kernel_rfl) (by rw [show m3.length = r3.length from hE3]) ?_
  refine ge_same (t := 50) (v := (.slice A0 m3.length c0)) (v' := (.slice A0 r3.length c0)) (by kernel_rfl) (by rw [show m3.length = r3.length from hE3]) ?_
  have hLio5 : l0.length = r3.length := Eq.trans hRz1 hE3
  have hS19 := hS18.bring 1 rfl
  have hS20 := hS19.bring 1 rfl
  obtain rfl := si h
  exact ge_nil (pe0 [] [] ⟨rfl, hLio5, hS20⟩)
 ·rw [hq3] at h
  simp only [] at h
  refine we_iter (A := slices_rotateCmpFunc_api_Come.A0 w0 l0 A0 c0 x2 LT) (B := slices_rotateCmpFunc_api_Come.B0 w0 l0 A0 c0 x1 x2 x3 LT) hq3 (fun a hF => ⟨rfl, hS2, hF.weaken ea⟩) (fun s o hf a w hA Q hQ => slices_rotateCmpFunc_api_Come_r0 K w0 l0 A0 c0 x1 x2 x3 LT s o hf a w hA Q hQ) ?_
  rintro _ a w1 _ ⟨rfl, hb⟩
  obtain rfl := si h
  exact hb

/-! slices.symMergeCmpFunc[punctual/api.Come] -/
abbrev slices_symMergeCmpFunc_api_Come.Post (w0 : World) (l0 : List SCome) (A0 : Option Addr) (c0 : Nat) (x1 : Int) (x2 : Int) (x3 : Int) (LT : List Own) (r : List SCome) (e : Ending) (w : World) : Prop := e = .returned (.tuple #[]) ∧ l0.length = r.length ∧ St w0 w [Own.of (.slice A0 r.length c0) 53 r, Own.all LT]
def slices_symMergeCmpFunc_api_Come.r0 (l0 : List SCome) (x1 : Int) : Int × Int → Option ((Int × Int) ⊕ (Int ⊕ (List SCome)))
 | (z1, z2) =>
  if z1 < z2 then
   if 0 ≤ (IntKind.i64.wrap (Int.fdiv (IntKind.u64.wrap (IntKind.i64.wrap (z1 + z2))) (2 ^ 1))) then
    match l0[(IntKind.i64.wrap (Int.fdiv (IntKind.u64.wrap (IntKind.i64.wrap (z1 + z2))) (2 ^ 1))).toNat]? with
    | none => none
    | some e1 =>
     if 0 ≤ x1 then
      match l0[(x1).toNat]? with
      | none => none
      | some e2 =>
       if (tasks_Comes_1.f e1 e2) < 0 then
        some (.inl (IntKind.i64.wrap ((IntKind.i64.wrap (Int.fdiv (IntKind.u64.wrap (IntKind.i64.wrap (z1 + z2))) (2 ^ 1))) + 1), z2))
       else
        some (.inl (z1, IntKind.i64.wrap (Int.fdiv (IntKind.u64.wrap (IntKind.i64.wrap (z1 + z2))) (2 ^ 1))))
     else
      none
   else
    none
  else
   some (.inr (.inl z1))
def slices_symMergeCmpFunc_api_Come.r1 (z4 : Int) : Int × (List SCome) → Option ((Int × (List SCome)) ⊕ ((List SCome) ⊕ (List SCome)))
 | (z5, m1) =>
  if z5 < (IntKind.i64.wrap (z4 - 1)) then
   if 0 ≤ (IntKind.i64.wrap (z5 + 1)) then
    match m1[(IntKind.i64.wrap (z5 + 1)).toNat]? with
    | none => none
    | some e3 =>
     if 0 ≤ z5 then
      match m1[(z5).toNat]? with
      | none => none
      | some e4 =>
       match (m1.set ((z5).toNat) e3)[(IntKind.i64.wrap (z5 + 1)).toNat]? with
       | none => none
       | some e5 =>
        some (.inl (IntKind.i64.wrap (z5 + 1), ((m1.set ((z5).toNat) e3).set ((IntKind.i64.wrap (z5 + 1)).toNat) e4)))
     else
      none
   else
    none
  else
   some (.inr (.inl m1))
def slices_symMergeCmpFunc_api_Come.r2 (l0 : List SCome) (x2 : Int) : Int × Int → Option ((Int × Int) ⊕ (Int ⊕ (List SCome)))
 | (z6, z7) =>
  if z6 < z7 then
   if 0 ≤ x2 then
    match l0[(x2).toNat]? with
    | none => none
    | some e6 =>
     if 0 ≤ (IntKind.i64.wrap (Int.fdiv (IntKind.u64.wrap (IntKind.i64.wrap (z6 + z7))) (2 ^ 1))) then
      match l0[(IntKind.i64.wrap (Int.fdiv (IntKind.u64.wrap (IntKind.i64.wrap (z6 + z7))) (2 ^ 1))).toNat]? with
      | none => none
      | some e7 =>
       if (tasks_Comes_1.f e6 e7) < 0 then
        some (.inl (z6, IntKind.i64.wrap (Int.fdiv (IntKind.u64.wrap (IntKind.i64.wrap (z6 + z7))) (2 ^ 1))))
       else
        some (.inl (IntKind.i64.wrap ((IntKind.i64.wrap (Int.fdiv (IntKind.u64.wrap (IntKind.i64.wrap (z6 + z7))) (2 ^ 1))) + 1), z7))
     else
      none
   else
    none
  else
   some (.inr (.inl z6))
def slices_symMergeCmpFunc_api_Come.r3 (z9 : Int) : Int × (List SCome) → Option ((Int × (List SCome)) ⊕ ((List SCome) ⊕ (List SCome)))
 | (z10, m4) =>
  if z10 > z9 then
   if 0 ≤ (IntKind.i64.wrap (z10 - 1)) then
    match m4[(IntKind.i64.wrap (z10 - 1)).toNat]? with
    | none => none
    | some e8 =>
     if 0 ≤ z10 then
      match m4[(z10).toNat]? with
      | none => none
      | some e9 =>
       match (m4.set ((z10).toNat) e8)[(IntKind.i64.wrap (z10 - 1)).toNat]? with
       | none => none
       | some e10 =>
        some (.inl (IntKind.i64.wrap (z10 - 1), ((m4.set ((z10).toNat) e8).set ((IntKind.i64.wrap (z10 - 1)).toNat) e9)))
     else
      none
   else
    none
  else
   some (.inr (.inl m4))
def slices_symMergeCmpFunc_api_Come.p4 (x1 : Int) (x2 : Int) (x3 : Int) : Option ((Int × Int) ⊕ (List SCome)) :=
  if x2 > (IntKind.i64.wrap (Int.fdiv (IntKind.u64.wrap (IntKind.i64.wrap (x1 + x3))) (2 ^ 1))) then
   some (.inl (IntKind.i64.wrap ((IntKind.i64.wrap ((IntKind.i64.wrap (Int.fdiv (IntKind.u64.wrap (IntKind.i64.wrap (x1 + x3))) (2 ^ 1))) + x2)) - x3), IntKind.i64.wrap (Int.fdiv (IntKind.u64.wrap (IntKind.i64.wrap (x1 + x3))) (2 ^ 1))))
  else
   some (.inl (x1, x2))
def slices_symMergeCmpFunc_api_Come.r5 (l0 : List SCome) (x1 : Int) (x2 : Int) (x3 : Int) : Int × Int → Option ((Int × Int) ⊕ (Int ⊕ (List SCome)))
 | (z15, z16) =>
  if z15 < z16 then
   if 0 ≤ (IntKind.i64.wrap ((IntKind.i64.wrap ((IntKind.i64.wrap ((IntKind.i64.wrap (Int.fdiv (IntKind.u64.wrap (IntKind.i64.wrap (x1 + x3))) (2 ^ 1))) + x2)) - 1)) - (IntKind.i64.wrap (Int.fdiv (IntKind.u64.wrap (IntKind.i64.wrap (z15 + z16))) (2 ^ 1))))) then
    match l0[(IntKind.i64.wrap ((IntKind.i64.wrap ((IntKind.i64.wrap ((IntKind.i64.wrap (Int.fdiv (IntKind.u64.wrap (IntKind.i64.wrap (x1 + x3))) (2 ^ 1))) + x2)) - 1)) - (IntKind.i64.wrap (Int.fdiv (IntKind.u64.wrap (IntKind.i64.wrap (z15 + z16))) (2 ^ 1))))).toNat]? with
    | none => none
    | some e11 =>
     if 0 ≤ (IntKind.i64.wrap (Int.fdiv (IntKind.u64.wrap (IntKind.i64.wrap (z15 + z16))) (2 ^ 1))) then
      match l0[(IntKind.i64.wrap (Int.fdiv (IntKind.u64.wrap (IntKind.i64.wrap (z15 + z16))) (2 ^ 1))).toNat]? with
      | none => none
      | some e12 =>
       if (tasks_Comes_1.f e11 e12) < 0 then
        some (.inl (z15, IntKind.i64.wrap (Int.fdiv (IntKind.u64.wrap (IntKind.i64.wrap (z15 + z16))) (2 ^ 1))))
       else
        some (.inl (IntKind.i64.wrap ((IntKind.i64.wrap (Int.fdiv (IntKind.u64.wrap (IntKind.i64.wrap (z15 + z16))) (2 ^ 1))) + 1), z16))
     else
      none
   else
    none
  else
   some (.inr (.inl z15))
def slices_symMergeCmpFunc_api_Come.p6 (K : Nat) (l0 : List SCome) (x1 : Int) (x2 : Int) (x3 : Int) (z18 : Int) : Option ((List SCome) ⊕ (List SCome)) :=
  if z18 < x2 then
   if x2 < (IntKind.i64.wrap ((IntKind.i64.wrap ((IntKind.i64.wrap (Int.fdiv (IntKind.u64.wrap (IntKind.i64.wrap (x1 + x3))) (2 ^ 1))) + x2)) - z18)) then
    match slices_rotateCmpFunc_api_Come.f K l0 z18 x2 (IntKind.i64.wrap ((IntKind.i64.wrap ((IntKind.i64.wrap (Int.fdiv (IntKind.u64.wrap (IntKind.i64.wrap (x1 + x3))) (2 ^ 1))) + x2)) - z18)) with
    | none => none
    | some r1 =>
     some (.inl r1)
   else
    some (.inl l0)
  else
   some (.inl l0)
def slices_symMergeCmpFunc_api_Come.b (K : Nat) (recf : (List SCome) → Int → Int → Int → Option (List SCome)) (l0 : List SCome) (x1 : Int) (x2 : Int) (x3 : Int) : Option (List SCome) :=
 if (IntKind.i64.wrap (x2 - x1)) = 1 then
  match iter (slices_symMergeCmpFunc_api_Come.r0 l0 x1) K (x2, x3) with
  | none => none
  | some (.inl z4) =>
   match iter (slices_symMergeCmpFunc_api_Come.r1 z4) K (x1, l0) with
   | none => none
   | some (.inl m3) =>
    some m3
   | some (.inr rr1) =>
    some rr1
  | some (.inr rr2) =>
   some rr2
 else
  if (IntKind.i64.wrap (x3 - x2)) = 1 then
   match iter (slices_symMergeCmpFunc_api_Come.r2 l0 x2) K (x1, x2) with
   | none => none
   | some (.inl z9) =>
    match iter (slices_symMergeCmpFunc_api_Come.r3 z9) K (x2, l0) with
    | none => none
    | some (.inl m6) =>
     some m6
    | some (.inr rr3) =>
     some rr3
   | some (.inr rr4) =>
    some rr4
  else
   match slices_symMergeCmpFunc_api_Come.p4 x1 x2 x3 with
   | none => none
   | some (.inl (z13, z14)) =>
    match iter (slices_symMergeCmpFunc_api_Come.r5 l0 x1 x2 x3) K (z13, z14) with
    | none => none
    | some (.inl z18) =>
     match slices_symMergeCmpFunc_api_Come.p6 K l0 x1 x2 x3 z18 with
     | none => none
     | some (.inl m8) =>
      if x1 < z18 then
       if z18 < (IntKind.i64.wrap (Int.fdiv (IntKind.u64.wrap (IntKind.i64.wrap (x1 + x3))) (2 ^ 1))) then
        match recf m8 x1 z18 (IntKind.i64.wrap (Int.fdiv (IntKind.u64.wrap (IntKind.i64.wrap (x1 + x3))) (2 ^ 1))) with
        | none => none
        | some r2 =>
         if (IntKind.i64.wrap (Int.fdiv (IntKind.u64.wrap (IntKind.i64.wrap (x1 + x3))) (2 ^ 1))) < (IntKind.i64.wrap ((IntKind.i64.wrap ((IntKind.i64.wrap (Int.fdiv (IntKind.u64.wrap (IntKind.i64.wrap (x1 + x3))) (2 ^ 1))) + x2)) - z18)) then
          if (IntKind.i64.wrap ((IntKind.i64.wrap ((IntKind.i64.wrap (Int.fdiv (IntKind.u64.wrap (IntKind.i64.wrap (x1 + x3))) (2 ^ 1))) + x2)) - z18)) < x3 then
           match recf r2 (IntKind.i64.wrap (Int.fdiv (IntKind.u64.wrap (IntKind.i64.wrap (x1 + x3))) (2 ^ 1))) (IntKind.i64.wrap ((IntKind.i64.wrap ((IntKind.i64.wrap (Int.fdiv (IntKind.u64.wrap (IntKind.i64.wrap (x1 + x3))) (2 ^ 1))) + x2)) - z18)) x3 with
           | none => none
           | some r3 =>
            some r3
          else
           some r2
         else
          some r2
       else
        if (IntKind.i64.wrap (Int.fdiv (IntKind.u64.wrap (IntKind.i64.wrap (x1 + x3))) (2 ^ 1))) < (IntKind.i64.wrap ((IntKind.i64.wrap ((IntKind.i64.wrap (Int.fdiv (IntKind.u64.wrap (IntKind.i64.wrap (x1 + x3))) (2 ^ 1))) + x2)) - z18)) then
         if (IntKind.i64.wrap ((IntKind.i64.wrap ((IntKind.i64.wrap (Int.fdiv (IntKind.u64.wrap (IntKind.i64.wrap (x1 + x3))) (2 ^ 1))) + x2)) - z18)) < x3 then
          match recf m8 (IntKind.i64.wrap (Int.fdiv (IntKind.u64.wrap (IntKind.i64.wrap (x1 + x3))) (2 ^ 1))) (IntKind.i64.wrap ((IntKind.i64.wrap ((IntKind.i64.wrap (Int.fdiv (IntKind.u64.wrap (IntKind.i64.wrap (x1 + x3))) (2 ^ 1))) + x2)) - z18)) x3 with
          | none => none
          | some r4 =>
           some r4
         else
          some m8
        else
         some m8
      else
       if (IntKind.i64.wrap (Int.fdiv (IntKind.u64.wrap (IntKind.i64.wrap (x1 + x3))) (2 ^ 1))) < (IntKind.i64.wrap ((IntKind.i64.wrap ((IntKind.i64.wrap (Int.fdiv (IntKind.u64.wrap (IntKind.i64.wrap (x1 + x3))) (2 ^ 1))) + x2)) - z18)) then
        if (IntKind.i64.wrap ((IntKind.i64.wrap ((IntKind.i64.wrap (Int.fdiv (IntKind.u64.wrap (IntKind.i64.wrap (x1 + x3))) (2 ^ 1))) + x2)) - z18)) < x3 then
         match recf m8 (IntKind.i64.wrap (Int.fdiv (IntKind.u64.wrap (IntKind.i64.wrap (x1 + x3))) (2 ^ 1))) (IntKind.i64.wrap ((IntKind.i64.wrap ((IntKind.i64.wrap (Int.fdiv (IntKind.u64.wrap (IntKind.i64.wrap (x1 + x3))) (2 ^ 1))) + x2)) - z18)) x3 with
         | none => none
         | some r5 =>
          some r5
        else
         some m8
       else
        some m8
     | some (.inr rr5) =>
      some rr5
    | some (.inr rr6) =>
     some rr6
   | some (.inr rr7) =>
    some rr7
abbrev slices_symMergeCmpFunc_api_Come.A0 (w0 : World) (l0 : List SCome) (A0 : Option Addr) (c0 : Nat) (x1 : Int) (LT : List Own) : (Int × Int) → Act → World → Prop := fun (s : Int × Int) a w => St w0 w [Own.of (.slice A0 l0.length c0) 53 l0, Own.all LT] ∧ Frm 220 a [(0, (.slice A0 l0.length c0)), (1, vI x1), (4, .func (.func 41) #[] #[]), (10, vI s.1), (11, vI s.2)]
abbrev slices_symMergeCmpFunc_api_Come.B0 (w0 : World) (l0 : List SCome) (A0 : Option Addr) (c0 : Nat) (x1 : Int) (x2 : Int) (x3 : Int) (LT : List Own) : (Int ⊕ (List SCome)) → Exit → Act → World → Prop := Exits 0 (fun (s : Int) a w => St w0 w [Own.of (.slice A0 l0.length c0) 53 l0, Own.all LT] ∧ Frm 220 a [(0, (.slice A0 l0.length c0)), (1, vI x1), (4, .func (.func 41) #[] #[]), (10, vI s)]) (Rets Try.prog Try.f68 (slices_symMergeCmpFunc_api_Come.Post w0 l0 A0 c0 x1 x2 x3 LT))
theorem slices_symMergeCmpFunc_api_Come_r0 (K : Nat) (w0 : World) (l0 : List SCome) (A0 : Option Addr) (c0 : Nat) (x1 : Int) (x2 : Int) (x3 : Int) (LT : List Own) (recf : (List SCome) → Int → Int → Int → Option (List SCome)) (hrec : ∀ (l0 : List SCome) (A0 : Option Addr) (c0 : Nat) (x1 : Int) (x2 : Int) (x3 : Int) (w0 wE : World) (LT : List Own) (hS : St w0 wE [Own.of (.slice A0 l0.length c0) 53 l0, Own.all LT]) (r : List SCome) (h : recf l0 x1 x2 x3 = some r), Calls Try.prog 68 #[(.slice A0 l0.length c0), vI x1, vI x2, vI x3, .func (.func 41) #[] #[]] wE (slices_symMergeCmpFunc_api_Come.Post w0 l0 A0 c0 x1 x2 x3 LT r)) (hc1 : (IntKind.i64.wrap (x2 - x1)) = 1) (s : Int × Int) (o : (Int × Int) ⊕ (Int ⊕ (List SCome))) (h : slices_symMergeCmpFunc_api_Come.r0 l0 x1 s = some o) (a : Act) (w : World) (hA : slices_symMergeCmpFunc_api_Come.A0 w0 l0 A0 c0 x1 LT s a w) (Q : Exit → Act → World → Prop) (hQ : ∀ x a w, Outs (slices_symMergeCmpFunc_api_Come.A0 w0 l0 A0 c0 x1 LT) (slices_symMergeCmpFunc_api_Come.B0 w0 l0 A0 c0 x1 x2 x3 LT) o x a w → Q x a w) : (subF Try.f68 [0, 1, 0, 1, 1, 0, 0, 0]).wp Try.prog Q a w := by
 obtain ⟨z1, z2⟩ := s
 obtain ⟨hS, hF⟩ := hA
 replace hS : St w0 w [Own.of (.slice A0 l0.length c0) 53 l0, Own.all LT] := hS
 simp only [slices_symMergeCmpFunc_api_Come.r0] at h
 refine (?_ : WE Try.prog 220 (subF Try.f68 [0, 1, 0, 1, 1, 0, 0, 0]) Q [(0, (.slice A0 l0.length c0)), (1, vI x1), (4, .func (.func 41) #[] #[]), (10, vI z1), (11, vI z2)] w) a hF
 clear hF a
 refine ws fun K6 hK6 => ?_
 refine ws fun K7 hK7 => ?_
 refine wr [(0, 0), (1, 0), (2, 0)] ?_
 refine gb0 [0, 1, 2] [(33, .bool (decide (z1 < z2))), (32, vI z2), (31, vI z1)] ?_
 refine gn hK7 ?_
 by_cases hc2 : z1 < z2
 ·rw [if_pos hc2] at h
  refine wk 33 (decide (z1 < z2)) true (decide_eq_true hc2) ?_
  refine we_true (by kernel_rfl) ?_
  refine we_skip fun a hF => hK6 _ _ ?_ a hF
  refine we_block ?_
  refine ws fun K8 hK8 => ?_
  refine wr [(0, 0), (1, 0), (2, 0), (3, 0), (4, 0), (5, 0), (6, 0)] ?_
  refine gb0 [0, 1, 2, 3, 4, 5, 6] [(12, vI (IntKind.i64.wrap (Int.fdiv (IntKind.u64.wrap (IntKind.i64.wrap (z1 + z2))) (2 ^ 1)))), (39, vI (IntKind.i64.wrap (Int.fdiv (IntKind.u64.wrap (IntKind.i64.wrap (z1 + z2))) (2 ^ 1)))), (38, .int .u64 (Int.fdiv (IntKind.u64.wrap (IntKind.i64.wrap (z1 + z2))) (2 ^ 1))), (37, .int .u64 (IntKind.u64.wrap (IntKind.i64.wrap (z1 + z2)))), (36, vI (IntKind.i64.wrap (z1 + z2))), (35, vI z2), (34, vI z1)] ?_
  refine gn hK8 ?_
  refine ws fun K9 hK9 => ?_
  refine we_draws (by kernel_rfl) [(0, 0), (1, 0), (2, 0), (3, 0), (4, 0), (5, 0), (6, 0), (7, 0), (8, 0), (9, 1), (10, 0)] (by kernel_rfl) ?_
  have hS3 := hS.drew
  refine gb0 [0, 1, 2] [(42, vI (IntKind.i64.wrap (Int.fdiv (IntKind.u64.wrap (IntKind.i64.wrap (z1 + z2))) (2 ^ 1)))), (41, (.slice A0 l0.length c0)), (40, .func (.func 41) #[] #[])] ?_
  by_cases hc3 : 0 ≤ (IntKind.i64.wrap (Int.fdiv (IntKind.u64.wrap (IntKind.i64.wrap (z1 + z2))) (2 ^ 1)))
  ·rw [if_pos hc3] at h
   rcases hx1 : l0[(IntKind.i64.wrap (Int.fdiv (IntKind.u64.wrap (IntKind.i64.wrap (z1 + z2))) (2 ^ 1))).toNat]? with _ | e1
   ·rw [hx1] at h; cases h
   rw [hx1] at h
   simp only [] at h
   refine gi 43 0 23 53 2 l0.length c0 (.tmp 41) (.tmp 42) A0 .i64 (IntKind.i64.wrap (Int.fdiv (IntKind.u64.wrap (IntKind.i64.wrap (z1 + z2))) (2 ^ 1))) ((IntKind.i64.wrap (Int.fdiv (IntKind.u64.wrap (IntKind.i64.wrap (z1 + z2))) (2 ^ 1))).toNat) ((hS3.rdAt 0 rfl).eqSome (pos_of_get hx1)) (Int.toNat_of_nonneg hc3).symm (lt_of_get hx1) ?_
   refine gb [4, 5, 6] [(46, vI x1), (45, (.slice A0 l0.length c0)), (44, .agg #[vI e1.Task, vI e1.At])] [.loaded ⟨blkOf A0, offOf A0 + ((IntKind.i64.wrap (Int.fdiv (IntKind.u64.wrap (IntKind.i64.wrap (z1 + z2))) (2 ^ 1))).toNat) * 2, none⟩ (vI e1.Task), .loaded ⟨blkOf A0, offOf A0 + ((IntKind.i64.wrap (Int.fdiv (IntKind.u64.wrap (IntKind.i64.wrap (z1 + z2))) (2 ^ 1))).toNat) * 2 + 1, none⟩ (vI e1.At)] ⟨RdL.cell (j := 0) (hS3.rdAt 0 rfl) hx1 rfl, RdL.cell (j := 1) (hS3.rdAt 0 rfl) hx1 rfl, trivial⟩ ?_
   by_cases hc4 : 0 ≤ x1
   ·rw [if_pos hc4] at h
    rcases hx2 : l0[(x1).toNat]? with _ | e2
    ·rw [hx2] at h; cases h
    rw [hx2] at h
    simp only [] at h
    refine gi 47 0 23 53 2 l0.length c0 (.tmp 45) (.tmp 46) A0 .i64 x1 ((x1).toNat) ((hS3.rdAt 0 rfl).eqSome (pos_of_get hx2)) (Int.toNat_of_nonneg hc4).symm (lt_of_get hx2) ?_
    refine gb [8] [(48, .agg #[vI e2.Task, vI e2.At])] [.loaded ⟨blkOf A0, offOf A0 + ((x1).toNat) * 2, none⟩ (vI e2.Task), .loaded ⟨blkOf A0, offOf A0 + ((x1).toNat) * 2 + 1, none⟩ (vI e2.At)] ⟨RdL.cell (j := 0) (hS3.rdAt 0 rfl) hx2 rfl, RdL.cell (j := 1) (hS3.rdAt 0 rfl) hx2 rfl, trivial⟩ ?_
    refine ge_call (d := some 49) (f := 41) (args := #[.agg #[vI e1.Task, vI e1.At], .agg #[vI e2.Task, vI e2.At]]) (by kernel_rfl) (tasks_Comes_1_ok e1 e2 _ _ rfl) ?_
    rintro _ w1 ⟨rfl, hS4⟩
    refine ⟨_, rfl, hS4.below, ?_⟩
    have hS5 := hS3.call hS4
    refine gb0 [10] [(50, .bool (decide ((tasks_Comes_1.f e1 e2) < 0)))] ?_
    refine gn hK9 ?_
    by_cases hc5 : (tasks_Comes_1.f e1 e2) < 0
    ·rw [if_pos hc5] at h
     refine wk 50 (decide ((tasks_Comes_1.f e1 e2) < 0)) true (decide_eq_true hc5) ?_
     refine we_true (by kernel_rfl) ?_
     refine wr [(0, 0), (1, 0), (2, 0)] ?_
     refine gb0 [0, 1, 2] [(10, vI (IntKind.i64.wrap ((IntKind.i64.wrap (Int.fdiv (IntKind.u64.wrap (IntKind.i64.wrap (z1 + z2))) (2 ^ 1))) + 1))), (52, vI (IntKind.i64.wrap ((IntKind.i64.wrap (Int.fdiv (IntKind.u64.wrap (IntKind.i64.wrap (z1 + z2))) (2 ^ 1))) + 1))), (51, vI (IntKind.i64.wrap (Int.fdiv (IntKind.u64.wrap (IntKind.i64.wrap (z1 + z2))) (2 ^ 1))))] ?_
     have hS6 := hS5.bring 1 rfl
     have hS7 := hS6.bring 1 rfl
     obtain rfl := si h
     exact ge_nil fun a hF => hQ _ _ _ (Outs.again ⟨hS7, hF.weaken ea⟩)
    ·rw [if_neg hc5] at h
     refine wk 50 (decide ((tasks_Comes_1.f e1 e2) < 0)) false (decide_eq_false hc5) ?_
     refine we_false (by kernel_rfl) ?_
     refine wr [(0, 0), (1, 0)] ?_
     refine gb0 [0, 1] [(11, vI (IntKind.i64.wrap (Int.fdiv (IntKind.u64.wrap (IntKind.i64.wrap (z1 + z2))) (2 ^ 1)))), (53, vI (IntKind.i64.wrap (Int.fdiv (IntKind.u64.wrap (IntKind.i64.wrap (z1 + z2))) (2 ^ 1))))] ?_
     have hS8 := hS5.bring 1 rfl
     have hS9 := hS8.bring 1 rfl
     obtain rfl := si h
     exact ge_nil fun a hF => hQ _ _ _ (Outs.again ⟨hS9, hF.weaken ea⟩)
   ·rw [if_neg hc4] at h
    cases h
  ·rw [if_neg hc3] at h
   cases h
 ·rw [if_neg hc2] at h
  refine wk 33 (decide (z1 < z2)) false (decide_eq_false hc2) ?_
  refine we_false (by kernel_rfl) ?_
  have hS10 := hS.bring 1 rfl
  have hS11 := hS10.bring 1 rfl
  obtain rfl := si h
  exact we_exit fun a hF => hQ _ _ _ (Outs.out nofun (Exits.here ⟨hS11, hF.weaken ea⟩))
abbrev slices_symMergeCmpFunc_api_Come.A1 (w0 : World) (l0 : List SCome) (A0 : Option Addr) (c0 : Nat) (LT : List Own) (z4 : Int) : (Int × (List SCome)) → Act → World → Prop := fun (s : Int × (List SCome)) a w => l0.length = s.2.length ∧ St w0 w [Own.of (.slice A0 s.2.length c0) 53 s.2, Own.all LT] ∧ Frm 220 a [(0, (.slice A0 s.2.length c0)), (4, .func (.func 41) #[] #[]), (10, vI z4), (13, vI s.1)]
abbrev slices_symMergeCmpFunc_api_Come.B1 (w0 : World) (l0 : List SCome) (A0 : Option Addr) (c0 : Nat) (x1 : Int) (x2 : Int) (x3 : Int) (LT : List Own) : ((List SCome) ⊕ (List SCome)) → Exit → Act → World → Prop := Exits 2 (fun (s : (List SCome)) a w => l0.length = s.length ∧ St w0 w [Own.of (.slice A0 s.length c0) 53 s, Own.all LT] ∧ Frm 220 a [(0, (.slice A0 s.length c0)), (4, .func (.func 41) #[] #[])]) (Rets Try.prog Try.f68 (slices_symMergeCmpFunc_api_Come.Post w0 l0 A0 c0 x1 x2 x3 LT))
theorem slices_symMergeCmpFunc_api_Come_r1 (K : Nat) (w0 : World) (l0 : List SCome) (A0 : Option Addr) (c0 : Nat) (x1 : Int) (x2 : Int) (x3 : Int) (LT : List Own) (recf : (List SCome) → Int → Int → Int → Option (List SCome)) (hrec : ∀ (l0 : List SCome) (A0 : Option Addr) (c0 : Nat) (x1 : Int) (x2 : Int) (x3 : Int) (w0 wE : World) (LT : List Own) (hS : St w0 wE [Own.of (.slice A0 l0.length c0) 53 l0, Own.all LT]) (r : List SCome) (h : recf l0 x1 x2 x3 = some r), Calls Try.prog 68 #[(.slice A0 l0.length c0), vI x1, vI x2, vI x3, .func (.func 41) #[] #[]] wE (slices_symMergeCmpFunc_api_Come.Post w0 l0 A0 c0 x1 x2 x3 LT r)) (hc1 : (IntKind.i64.wrap (x2 - x1)) = 1) (z4 : Int) (s : Int × (List SCome)) (o : (Int × (List SCome)) ⊕ ((List SCome) ⊕ (List SCome))) (h : slices_symMergeCmpFunc_api_Come.r1 z4 s = some o) (a : Act) (w : World) (hA : slices_symMergeCmpFunc_api_Come.A1 w0 l0 A0 c0 LT z4 s a w) (Q : Exit → Act → World → Prop) (hQ : ∀ x a w, Outs (slices_symMergeCmpFunc_api_Come.A1 w0 l0 A0 c0 LT z4) (slices_symMergeCmpFunc_api_Come.B1 w0 l0 A0 c0 x1 x2 x3 LT) o x a w → Q x a w) : (subF Try.f68 [0, 1, 0, 1, 1, 1, 0, 1, 0, 0]).wp Try.prog Q a w := by
 obtain ⟨z5, m1⟩ := s
 obtain ⟨hLio1, hS, hF⟩ := hA
 replace hS : St w0 w [Own.of (.slice A0 m1.length c0) 53 m1, Own.all LT] := hS
 simp only [slices_symMergeCmpFunc_api_Come.r1] at h
 refine (?_ : WE Try.prog 220 (subF Try.f68 [0, 1, 0, 1, 1, 1, 0, 1, 0, 0]) Q [(0, (.slice A0 m1.length c0)), (4, .func (.func 41) #[] #[]), (10, vI z4), (13, vI z5)] w) a hF
 clear hF a
 refine ws fun K12 hK12 => ?_
 refine ws fun K13 hK13 => ?_
 refine wr [(0, 0), (1, 0), (2, 0), (3, 0)] ?_
 refine gb0 [0, 1, 2, 3] [(58, .bool (decide (z5 < (IntKind.i64.wrap (z4 - 1))))), (57, vI (IntKind.i64.wrap (z4 - 1))), (56, vI z4), (55, vI z5)] ?_
 refine gn hK13 ?_
 by_cases hc6 : z5 < (IntKind.i64.wrap (z4 - 1))
 ·rw [if_pos hc6] at h
  refine wk 58 (decide (z5 < (IntKind.i64.wrap (z4 - 1)))) true (decide_eq_true hc6) ?_
  refine we_true (by kernel_rfl) ?_
  refine we_skip fun a hF => hK12 _ _ ?_ a hF
  refine ws fun K14 hK14 => ?_
  refine we_block ?_
  refine we_orders2 (by kernel_rfl) [(9, [⟨blkOf A0, offOf A0 + ((IntKind.i64.wrap (z5 + 1)).toNat) * 2, none⟩, ⟨blkOf A0, offOf A0 + ((IntKind.i64.wrap (z5 + 1)).toNat) * 2 + 1, none⟩]), (13, [⟨blkOf A0, offOf A0 + ((z5).toNat) * 2, none⟩, ⟨blkOf A0, offOf A0 + ((z5).toNat) * 2 + 1, none⟩])] (.vals [0] (.vals [1] (.vals [2] (.vals [3] (.vals [4] (.vals [5] (.vals [6] (.vals [7] (.vals [8] (.vals [9] (.vals [10] (.vals [11] (.vals [12] (.vals [13] (.vals [14] (.alt 15 2 (.vals [16] (.alt 17 2 .fin .nomore)) .nomore)))))))))))))))) (by kernel_rfl) ?_
  have hS15 := hS.drew
  refine go2_batch [0, 1, 2, 3, 4, 5, 6, 7] (ans := []) (vs := [(68, vI (IntKind.i64.wrap (z5 + 1))), (67, vI z5), (66, (.slice A0 m1.length c0)), (65, vI (IntKind.i64.wrap (z5 + 1))), (64, vI z5), (63, (.slice A0 m1.length c0)), (62, vI z5), (61, (.slice A0 m1.length c0))]) (l := []) (by kernel_rfl) trivial mem_nil ?_
  by_cases hc7 : 0 ≤ (IntKind.i64.wrap (z5 + 1))
  ·rw [if_pos hc7] at h
   rcases hx3 : m1[(IntKind.i64.wrap (z5 + 1)).toNat]? with _ | e3
   ·rw [hx3] at h; cases h
   rw [hx3] at h
   simp only [] at h
   refine go2_index (d := 69) (ty := 0) (t := 23) (el := 53) (sz := 2) (m := m1.length) (c := c0) (x := (.tmp 66)) (y := (.tmp 68)) (A := A0) (k' := .i64) (j := (IntKind.i64.wrap (z5 + 1))) (jn := ((IntKind.i64.wrap (z5 + 1)).toNat)) (b0 := blkOf A0) (o0 := offOf A0) (by kernel_rfl) (by kernel_rfl) (by kernel_rfl) (by kernel_rfl) (by kernel_rfl) ((hS15.rdAt 0 rfl).eqSome (pos_of_get hx3)) (Int.toNat_of_nonneg hc7).symm (lt_of_get hx3) ?_
   refine go2_batch [9] (ans := [.val (vI e3.Task), .val (vI e3.At)]) (vs := [(70, .agg #[vI e3.Task, vI e3.At])]) (l := [.loaded ⟨blkOf A0, offOf A0 + ((IntKind.i64.wrap (z5 + 1)).toNat) * 2, none⟩ (vI e3.Task), .loaded ⟨blkOf A0, offOf A0 + ((IntKind.i64.wrap (z5 + 1)).toNat) * 2 + 1, none⟩ (vI e3.At)]) (by kernel_rfl) ⟨RdL.cell (j := 0) (hS15.rdAt 0 rfl) hx3 rfl, RdL.cell (j := 1) (hS15.rdAt 0 rfl) hx3 rfl, trivial⟩ (mem_one (by kernel_rfl)) ?_
   refine go2_batch [10, 11] (ans := []) (vs := [(72, vI z5), (71, (.slice A0 m1.length c0))]) (l := []) (by kernel_rfl) trivial mem_nil ?_
   by_cases hc8 : 0 ≤ z5
   ·rw [if_pos hc8] at h
    rcases hx4 : m1[(z5).toNat]? with _ | e4
    ·rw [hx4] at h; cases h
    rw [hx4] at h
    simp only [] at h
    refine go2_index (d := 73) (ty := 0) (t := 23) (el := 53) (sz := 2) (m := m1.length) (c := c0) (x := (.tmp 71)) (y := (.tmp 72)) (A := A0) (k' := .i64) (j := z5) (jn := ((z5).toNat)) (b0 := blkOf A0) (o0 := offOf A0) (by kernel_rfl) (by kernel_rfl) (by kernel_rfl) (by kernel_rfl) (by kernel_rfl) ((hS15.rdAt 0 rfl).eqSome (pos_of_get hx4)) (Int.toNat_of_nonneg hc8).symm (lt_of_get hx4) ?_
    refine go2_batch [13] (ans := [.val (vI e4.Task), .val (vI e4.At)]) (vs := [(74, .agg #[vI e4.Task, vI e4.At])]) (l := [.loaded ⟨blkOf A0, offOf A0 + ((z5).toNat) * 2, none⟩ (vI e4.Task), .loaded ⟨blkOf A0, offOf A0 + ((z5).toNat) * 2 + 1, none⟩ (vI e4.At)]) (by kernel_rfl) ⟨RdL.cell (j := 0) (hS15.rdAt 0 rfl) hx4 rfl, RdL.cell (j := 1) (hS15.rdAt 0 rfl) hx4 rfl, trivial⟩ (mem_one (by kernel_rfl)) ?_
    refine go2_index (d := 75) (ty := 0) (t := 23) (el := 53) (sz := 2) (m := m1.length) (c := c0) (x := (.tmp 61)) (y := (.tmp 62)) (A := A0) (k' := .i64) (j := z5) (jn := ((z5).toNat)) (b0 := blkOf A0) (o0 := offOf A0) (by kernel_rfl) (by kernel_rfl) (by kernel_rfl) (by kernel_rfl) (by kernel_rfl) ((hS15.rdAt 0 rfl).eqSome (pos_of_get hx4)) (Int.toNat_of_nonneg hc8).symm (lt_of_get hx4) ?_
    refine go_alt2 (fun KK hKK => ?_) ?_
    ·refine ge_seti (α := SCome) (A := A0) (nn := m1.length) (c := c0) (t := 53) (l := m1) (x := e4) (x' := e3) (jn := ((z5).toNat)) (j := 0) (vs := [vI e3.Task, vI e3.At]) (l' := [.stored ⟨blkOf A0, offOf A0 + ((z5).toNat) * 2, none⟩ (vI e3.Task), .stored ⟨blkOf A0, offOf A0 + ((z5).toNat) * 2 + 1, none⟩ (vI e3.At)]) hS15 (by kernel_rfl) (by kernel_rfl) hx4 rfl rfl rfl fun w3 hS16 => ?_
     have hS17 : St w0 w3 [Own.of (.slice A0 m1.length c0) 53 (m1.set ((z5).toNat) e3), Own.all LT] := hS16
     have hE1 : m1.length = (m1.set ((z5).toNat) e3).length := hS17.lenAt 0 rfl
     have hS18 : St w0 w3 [Own.of (.slice A0 (m1.set ((z5).toNat) e3).length c0) 53 (m1.set ((z5).toNat) e3), Own.all LT] := by rw [← hE1]; exact hS17
     refine ge_same (t := 0) (v := (.slice A0 m1.length c0)) (v' := (.slice A0 (m1.set ((z5).toNat) e3).length c0)) (by kernel_rfl) (by rw [hE1]) ?_
     refine ge_same (t := 61) (v := (.slice A0 m1.length c0)) (v' := (.slice A0 (m1.set ((z5).toNat) e3).length c0)) (by kernel_rfl) (by rw [hE1]) ?_
     refine ge_same (t := 63) (v := (.slice A0 m1.length c0)) (v' := (.slice A0 (m1.set ((z5).toNat) e3).length c0)) (by kernel_rfl) (by rw [hE1]) ?_
     refine ge_same (t := 66) (v := (.slice A0 m1.length c0)) (v' := (.slice A0 (m1.set ((z5).toNat) e3).length c0)) (by kernel_rfl) (by rw [hE1]) ?_
     refine ge_same (t := 71) (v := (.slice A0 m1.length c0)) (v' := (.slice A0 (m1.set ((z5).toNat) e3).length c0)) (by kernel_rfl) (by rw [hE1]) ?_
     refine ge_nil fun a hF => hKK _ _ (RS.of2 (l := []) (by kernel_rfl) trivial trivial) ?_ a hF
     rcases hx5 : (m1.set ((z5).toNat) e3)[(IntKind.i64.wrap (z5 + 1)).toNat]? with _ | e5
     ·rw [hx5] at h; cases h
     rw [hx5] at h
     simp only [] at h
     refine go2_index (d := 76) (ty := 0) (t := 23) (el := 53) (sz := 2) (m := (m1.set ((z5).toNat) e3).length) (c := c0) (x := (.tmp 63)) (y := (.tmp 65)) (A := A0) (k' := .i64) (j := (IntKind.i64.wrap (z5 + 1))) (jn := ((IntKind.i64.wrap (z5 + 1)).toNat)) (b0 := blkOf A0) (o0 := offOf A0) (by kernel_rfl) (by kernel_rfl) (by kernel_rfl) (by kernel_rfl) (by kernel_rfl) ((hS18.rdAt 0 rfl).eqSome (pos_of_get hx5)) (Int.toNat_of_nonneg hc7).symm (lt_of_get hx5) ?_
     refine go_alt2 (fun KK hKK => ?_) ?_
     ·refine ge_seti (α := SCome) (A := A0) (nn := ((m1.set ((z5).toNat) e3).length)) (c := c0) (t := 53) (l := (m1.set ((z5).toNat) e3)) (x := e5) (x' := e4) (jn := ((IntKind.i64.wrap (z5 + 1)).toNat)) (j := 0) (vs := [vI e4.Task, vI e4.At]) (l' := [.stored ⟨blkOf A0, offOf A0 + ((IntKind.i64.wrap (z5 + 1)).toNat) * 2, none⟩ (vI e4.Task), .stored ⟨blkOf A0, offOf A0 + ((IntKind.i64.wrap (z5 + 1)).toNat) * 2 + 1, none⟩ (vI e4.At)]) hS18 (by kernel_rfl) (by kernel_rfl) hx5 rfl rfl rfl fun w4 hS19 => ?_
      have hS20 : St w0 w4 [Own.of (.slice A0 (m1.set ((z5).toNat) e3).length c0) 53 ((m1.set ((z5).toNat) e3).set ((IntKind.i64.wrap (z5 + 1)).toNat) e4), Own.all LT] := hS19
      have hE2 : (m1.set ((z5).toNat) e3).length = ((m1.set ((z5).toNat) e3).set ((IntKind.i64.wrap (z5 + 1)).toNat) e4).length := hS20.lenAt 0 rfl
      have hS21 : St w0 w4 [Own.of (.slice A0 ((m1.set ((z5).toNat) e3).set ((IntKind.i64.wrap (z5 + 1)).toNat) e4).length c0) 53 ((m1.set ((z5).toNat) e3).set ((IntKind.i64.wrap (z5 + 1)).toNat) e4), Own.all LT] := by rw [← hE2]; exact hS20
      refine ge_same (t := 0) (v := (.slice A0 (m1.set ((z5).toNat) e3).length c0)) (v' := (.slice A0 ((m1.set ((z5).toNat) e3).set ((IntKind.i64.wrap (z5 + 1)).toNat) e4).length c0)) (by kernel_rfl) (by rw [hE2]) ?_
      refine ge_same (t := 61) (v := (.slice A0 (m1.set ((z5).toNat) e3).length c0)) (v' := (.slice A0 ((m1.set ((z5).toNat) e3).set ((IntKind.i64.wrap (z5 + 1)).toNat) e4).length c0)) (by kernel_rfl) (by rw [hE2]) ?_
      refine ge_same (t := 63) (v := (.slice A0 (m1.set ((z5).toNat) e3).length c0)) (v' := (.slice A0 ((m1.set ((z5).toNat) e3).set ((IntKind.i64.wrap (z5 + 1)).toNat) e4).length c0)) (by kernel_rfl) (by rw [hE2]) ?_
      refine ge_same (t := 66) (v := (.slice A0 (m1.set ((z5).toNat) e3).length c0)) (v' := (.slice A0 ((m1.set ((z5).toNat) e3).set ((IntKind.i64.wrap (z5 + 1)).toNat) e4).length c0)) (by kernel_rfl) (by rw [hE2]) ?_
      refine ge_same (t := 71) (v := (.slice A0 (m1.set ((z5).toNat) e3).length c0)) (v' := (.slice A0 ((m1.set ((z5).toNat) e3).set ((IntKind.i64.wrap (z5 + 1)).toNat) e4).length c0)) (by kernel_rfl) (by rw [hE2]) ?_
      refine ge_nil fun a hF => hKK _ _ (RS.of2 (l := []) (by kernel_rfl) trivial trivial) ?_ a hF
      refine go_fin2 fun a hF => hK14 _ _ ?_ a hF
      refine wr [(0, 0), (1, 0), (2, 0)] ?_
      refine gb0 [0, 1, 2] [(13, vI (IntKind.i64.wrap (z5 + 1))), (60, vI (IntKind.i64.wrap (z5 + 1))), (59, vI z5)] ?_
      have hS22 := hS21.bring 1 rfl
      have hS23 := hS22.bring 1 rfl
      obtain rfl := si h
      exact ge_nil fun a hF => hQ _ _ _ (Outs.again ⟨(Eq.trans hLio1 (by simp only [List.length_set])), hS23, hF.weaken ea⟩)
     exact go_nomore2
    exact go_nomore2
   ·rw [if_neg hc8] at h
    cases h
  ·rw [if_neg hc7] at h
   cases h
 ·rw [if_neg hc6] at h
  refine wk 58 (decide (z5 < (IntKind.i64.wrap (z4 - 1)))) false (decide_eq_false hc6) ?_
  refine we_false (by kernel_rfl) ?_
  have hS24 := hS.bring 1 rfl
  have hS25 := hS24.bring 1 rfl
  obtain rfl := si h
  exact we_exit fun a hF => hQ _ _ _ (Outs.out nofun (Exits.here ⟨hLio1, hS25, hF.weaken ea⟩))
abbrev slices_symMergeCmpFunc_api_Come.A2 (w0 : World) (l0 : List SCome) (A0 : Option Addr) (c0 : Nat) (x2 : Int) (LT : List Own) : (Int × Int) → Act → World → Prop := fun (s : Int × Int) a w => St w0 w [Own.of (.slice A0 l0.length c0) 53 l0, Own.all LT] ∧ Frm 220 a [(0, (.slice A0 l0.length c0)), (2, vI x2), (4, .func (.func 41) #[] #[]), (14, vI s.1), (15, vI s.2)]
abbrev slices_symMergeCmpFunc_api_Come.B2 (w0 : World) (l0 : List SCome) (A0 : Option Addr) (c0 : Nat) (x1 : Int) (x2 : Int) (x3 : Int) (LT : List Own) : (Int ⊕ (List SCome)) → Exit → Act → World → Prop := Exits 4 (fun (s : Int) a w => St w0 w [Own.of (.slice A0 l0.length c0) 53 l0, Own.all LT] ∧ Frm 220 a [(0, (.slice A0 l0.length c0)), (2, vI x2), (4, .func (.func 41) #[] #[]), (14, vI s)]) (Rets Try.prog Try.f68 (slices_symMergeCmpFunc_api_Come.Post w0 l0 A0 c0 x1 x2 x3 LT))
theorem slices_symMergeCmpFunc_api_Come_r2 (K : Nat) (w0 : World) (l0 : List SCome) (A0 : Option Addr) (c0 : Nat) (x1 : Int) (x2 : Int) (x3 : Int) (LT : List Own) (recf : (List SCome) → Int → Int → Int → Option (List SCome)) (hrec : ∀ (l0 : List SCome) (A0 : Option Addr) (c0 : Nat) (x1 : Int) (x2 : Int) (x3 : Int) (w0 wE : World) (LT : List Own) (hS : St w0 wE [Own.of (.slice A0 l0.length c0) 53 l0, Own.all LT]) (r : List SCome) (h : recf l0 x1 x2 x3 = some r), Calls Try.prog 68 #[(.slice A0 l0.length c0), vI x1, vI x2, vI x3, .func (.func 41) #[] #[]] wE (slices_symMergeCmpFunc_api_Come.Post w0 l0 A0 c0 x1 x2 x3 LT r)) (hc1 : ¬ ((IntKind.i64.wrap (x2 - x1)) = 1)) (hc9 : (IntKind.i64.wrap (x3 - x2)) = 1) (s : Int × Int) (o : (Int × Int) ⊕ (Int ⊕ (List SCome))) (h : slices_symMergeCmpFunc_api_Come.r2 l0 x2 s = some o) (a : Act) (w : World) (hA : slices_symMergeCmpFunc_api_Come.A2 w0 l0 A0 c0 x2 LT s a w) (Q : Exit → Act → World → Prop) (hQ : ∀ x a w, Outs (slices_symMergeCmpFunc_api_Come.A2 w0 l0 A0 c0 x2 LT) (slices_symMergeCmpFunc_api_Come.B2 w0 l0 A0 c0 x1 x2 x3 LT) o x a w → Q x a w) : (subF Try.f68 [1, 0, 1, 0, 1, 1, 0, 0, 0]).wp Try.prog Q a w := by
 obtain ⟨z6, z7⟩ := s
 obtain ⟨hS, hF⟩ := hA
 replace hS : St w0 w [Own.of (.slice A0 l0.length c0) 53 l0, Own.all LT] := hS
 simp only [slices_symMergeCmpFunc_api_Come.r2] at h
 refine (?_ : WE Try.prog 220 (subF Try.f68 [1, 0, 1, 0, 1, 1, 0, 0, 0]) Q [(0, (.slice A0 l0.length c0)), (2, vI x2), (4, .func (.func 41) #[] #[]), (14, vI z6), (15, vI z7)] w) a hF
 clear hF a
 refine ws fun K20 hK20 => ?_
 refine ws fun K21 hK21 => ?_
 refine wr [(0, 0), (1, 0), (2, 0)] ?_
 refine gb0 [0, 1, 2] [(85, .bool (decide (z6 < z7))), (84, vI z7), (83, vI z6)] ?_
 refine gn hK21 ?_
 by_cases hc10 : z6 < z7
 ·rw [if_pos hc10] at h
  refine wk 85 (decide (z6 < z7)) true (decide_eq_true hc10) ?_
  refine we_true (by kernel_rfl) ?_
  refine we_skip fun a hF => hK20 _ _ ?_ a hF
  refine we_block ?_
  refine ws fun K22 hK22 => ?_
  refine wr [(0, 0), (1, 0), (2, 0), (3, 0), (4, 0), (5, 0), (6, 0)] ?_
  refine gb0 [0, 1, 2, 3, 4, 5, 6] [(16, vI (IntKind.i64.wrap (Int.fdiv (IntKind.u64.wrap (IntKind.i64.wrap (z6 + z7))) (2 ^ 1)))), (91, vI (IntKind.i64.wrap (Int.fdiv (IntKind.u64.wrap (IntKind.i64.wrap (z6 + z7))) (2 ^ 1)))), (90, .int .u64 (Int.fdiv (IntKind.u64.wrap (IntKind.i64.wrap (z6 + z7))) (2 ^ 1))), (89, .int .u64 (IntKind.u64.wrap (IntKind.i64.wrap (z6 + z7)))), (88, vI (IntKind.i64.wrap (z6 + z7))), (87, vI z7), (86, vI z6)] ?_
  refine gn hK22 ?_
  refine ws fun K23 hK23 => ?_
  refine we_draws (by kernel_rfl) [(0, 0), (1, 0), (2, 0), (3, 0), (4, 0), (5, 0), (6, 0), (7, 0), (8, 0), (9, 1), (10, 0), (11, 0)] (by kernel_rfl) ?_
  have hS31 := hS.drew
  refine gb0 [0, 1, 2] [(94, vI x2), (93, (.slice A0 l0.length c0)), (92, .func (.func 41) #[] #[])] ?_
  by_cases hc11 : 0 ≤ x2
  ·rw [if_pos hc11] at h
   rcases hx6 : l0[(x2).toNat]? with _ | e6
   ·rw [hx6] at h; cases h
   rw [hx6] at h
   simp only [] at h
   refine gi 95 0 23 53 2 l0.length c0 (.tmp 93) (.tmp 94) A0 .i64 x2 ((x2).toNat) ((hS31.rdAt 0 rfl).eqSome (pos_of_get hx6)) (Int.toNat_of_nonneg hc11).symm (lt_of_get hx6) ?_
   refine gb [4, 5, 6] [(98, vI (IntKind.i64.wrap (Int.fdiv (IntKind.u64.wrap (IntKind.i64.wrap (z6 + z7))) (2 ^ 1)))), (97, (.slice A0 l0.length c0)), (96, .agg #[vI e6.Task, vI e6.At])] [.loaded ⟨blkOf A0, offOf A0 + ((x2).toNat) * 2, none⟩ (vI e6.Task), .loaded ⟨blkOf A0, offOf A0 + ((x2).toNat) * 2 + 1, none⟩ (vI e6.At)] ⟨RdL.cell (j := 0) (hS31.rdAt 0 rfl) hx6 rfl, RdL.cell (j := 1) (hS31.rdAt 0 rfl) hx6 rfl, trivial⟩ ?_
   by_cases hc12 : 0 ≤ (IntKind.i64.wrap (Int.fdiv (IntKind.u64.wrap (IntKind.i64.wrap (z6 + z7))) (2 ^ 1)))
   ·rw [if_pos hc12] at h
    rcases hx7 : l0[(IntKind.i64.wrap (Int.fdiv (IntKind.u64.wrap (IntKind.i64.wrap (z6 + z7))) (2 ^ 1))).toNat]? with _ | e7
    ·rw [hx7] at h; cases h
    rw [hx7] at h
    simp only [] at h
    refine gi 99 0 23 53 2 l0.length c0 (.tmp 97) (.tmp 98) A0 .i64 (IntKind.i64.wrap (Int.fdiv (IntKind.u64.wrap (IntKind.i64.wrap (z6 + z7))) (2 ^ 1))) ((IntKind.i64.wrap (Int.fdiv (IntKind.u64.wrap (IntKind.i64.wrap (z6 + z7))) (2 ^ 1))).toNat) ((hS31.rdAt 0 rfl).eqSome (pos_of_get hx7)) (Int.toNat_of_nonneg hc12).symm (lt_of_get hx7) ?_
    refine gb [8] [(100, .agg #[vI e7.Task, vI e7.At])] [.loaded ⟨blkOf A0, offOf A0 + ((IntKind.i64.wrap (Int.fdiv (IntKind.u64.wrap (IntKind.i64.wrap (z6 + z7))) (2 ^ 1))).toNat) * 2, none⟩ (vI e7.Task), .loaded ⟨blkOf A0, offOf A0 + ((IntKind.i64.wrap (Int.fdiv (IntKind.u64.wrap (IntKind.i64.wrap (z6 + z7))) (2 ^ 1))).toNat) * 2 + 1, none⟩ (vI e7.At)] ⟨RdL.cell (j := 0) (hS31.rdAt 0 rfl) hx7 rfl, RdL.cell (j := 1) (hS31.rdAt 0 rfl) hx7 rfl, trivial⟩ ?_
    refine ge_call (d := some 101) (f := 41) (args := #[.agg #[vI e6.Task, vI e6.At], .agg #[vI e7.Task, vI e7.At]]) (by kernel_rfl) (tasks_Comes_1_ok e6 e7 _ _ rfl) ?_
    rintro _ w6 ⟨rfl, hS32⟩
    refine ⟨_, rfl, hS32.below, ?_⟩
    have hS33 := hS31.call hS32
    refine gb0 [10, 11] [(103, .bool (!(decide ((tasks_Comes_1.f e6 e7) < 0)))), (102, .bool (decide ((tasks_Comes_1.f e6 e7) < 0)))] ?_
    refine gn hK23 ?_
    by_cases hc13 : (tasks_Comes_1.f e6 e7) < 0
    ·rw [if_pos hc13] at h
     refine wk 103 (!(decide ((tasks_Comes_1.f e6 e7) < 0))) false (congrArg (fun z => !z) (decide_eq_true hc13)) ?_
     refine we_false (by kernel_rfl) ?_
     refine wr [(0, 0), (1, 0)] ?_
     refine gb0 [0, 1] [(15, vI (IntKind.i64.wrap (Int.fdiv (IntKind.u64.wrap (IntKind.i64.wrap (z6 + z7))) (2 ^ 1)))), (106, vI (IntKind.i64.wrap (Int.fdiv (IntKind.u64.wrap (IntKind.i64.wrap (z6 + z7))) (2 ^ 1))))] ?_
     have hS34 := hS33.bring 1 rfl
     have hS35 := hS34.bring 1 rfl
     obtain rfl := si h
     exact ge_nil fun a hF => hQ _ _ _ (Outs.again ⟨hS35, hF.weaken ea⟩)
    ·rw [if_neg hc13] at h
     refine wk 103 (!(decide ((tasks_Comes_1.f e6 e7) < 0))) true (congrArg (fun z => !z) (decide_eq_false hc13)) ?_
     refine we_true (by kernel_rfl) ?_
     refine wr [(0, 0), (1, 0), (2, 0)] ?_
     refine gb0 [0, 1, 2] [(14, vI (IntKind.i64.wrap ((IntKind.i64.wrap (Int.fdiv (IntKind.u64.wrap (IntKind.i64.wrap (z6 + z7))) (2 ^ 1))) + 1))), (105, vI (IntKind.i64.wrap ((IntKind.i64.wrap (Int.fdiv (IntKind.u64.wrap (IntKind.i64.wrap (z6 + z7))) (2 ^ 1))) + 1))), (104, vI (IntKind.i64.wrap (Int.fdiv (IntKind.u64.wrap (IntKind.i64.wrap (z6 + z7))) (2 ^ 1))))] ?_
     have hS36 := hS33.bring 1 rfl
     have hS37 := hS36.bring 1 rfl
     obtain rfl := si h
     exact ge_nil fun a hF => hQ _ _ _ (Outs.again ⟨hS37, hF.weaken ea⟩)
   ·rw [if_neg hc12] at h
    cases h
  ·rw [if_neg hc11] at h
   cases h
 ·rw [if_neg hc10] at h
  refine wk 85 (decide (z6 < z7)) false (decide_eq_false hc10) ?_
  refine we_false (by kernel_rfl) ?_
  have hS38 := hS.bring 1 rfl
  have hS39 := hS38.bring 1 rfl
  obtain rfl := si h
  exact we_exit fun a hF => hQ _ _ _ (Outs.out nofun (Exits.here ⟨hS39, hF.weaken ea⟩))
abbrev slices_symMergeCmpFunc_api_Come.A3 (w0 : World) (l0 : List SCome) (A0 : Option Addr) (c0 : Nat) (LT : List Own) (z9 : Int) : (Int × (List SCome)) → Act → World → Prop := fun (s : Int × (List SCome)) a w => l0.length = s.2.length ∧ St w0 w [Own.of (.slice A0 s.2.length c0) 53 s.2, Own.all LT] ∧ Frm 220 a [(0, (.slice A0 s.2.length c0)), (4, .func (.func 41) #[] #[]), (14, vI z9), (17, vI s.1)]
abbrev slices_symMergeCmpFunc_api_Come.B3 (w0 : World) (l0 : List SCome) (A0 : Option Addr) (c0 : Nat) (x1 : Int) (x2 : Int) (x3 : Int) (LT : List Own) : ((List SCome) ⊕ (List SCome)) → Exit → Act → World → Prop := Exits 6 (fun (s : (List SCome)) a w => l0.length = s.length ∧ St w0 w [Own.of (.slice A0 s.length c0) 53 s, Own.all LT] ∧ Frm 220 a [(0, (.slice A0 s.length c0)), (4, .func (.func 41) #[] #[])]) (Rets Try.prog Try.f68 (slices_symMergeCmpFunc_api_Come.Post w0 l0 A0 c0 x1 x2 x3 LT))
theorem slices_symMergeCmpFunc_api_Come_r3 (K : Nat) (w0 : World) (l0 : List SCome) (A0 : Option Addr) (c0 : Nat) (x1 : Int) (x2 : Int) (x3 : Int) (LT : List Own) (recf : (List SCome) → Int → Int → Int → Option (List SCome)) (hrec : ∀ (l0 : List SCome) (A0 : Option Addr) (c0 : Nat) (x1 : Int) (x2 : Int) (x3 : Int) (w0 wE : World) (LT : List Own) (hS : St w0 wE [Own.of (.slice A0 l0.length c0) 53 l0, Own.all LT]) (r : List SCome) (h : recf l0 x1 x2 x3 = some r), Calls Try.prog 68 #[(.slice A0 l0.length c0), vI x1, vI x2, vI x3, .func (.func 41) #[] #[]] wE (slices_symMergeCmpFunc_api_Come.Post w0 l0 A0 c0 x1 x2 x3 LT r)) (hc1 : ¬ ((IntKind.i64.wrap (x2 - x1)) = 1)) (hc9 : (IntKind.i64.wrap (x3 - x2)) = 1) (z9 : Int) (s : Int × (List SCome)) (o : (Int × (List SCome)) ⊕ ((List SCome) ⊕ (List SCome))) (h : slices_symMergeCmpFunc_api_Come.r3 z9 s = some o) (a : Act) (w : World) (hA : slices_symMergeCmpFunc_api_Come.A3 w0 l0 A0 c0 LT z9 s a w) (Q : Exit → Act → World → Prop) (hQ : ∀ x a w, Outs (slices_symMergeCmpFunc_api_Come.A3 w0 l0 A0 c0 LT z9) (slices_symMergeCmpFunc_api_Come.B3 w0 l0 A0 c0 x1 x2 x3 LT) o x a w → Q x a w) : (subF Try.f68 [1, 0, 1, 0, 1, 1, 1, 0, 1, 0, 0]).wp Try.prog Q a w := by
 obtain ⟨z10, m4⟩ := s
 obtain ⟨hLio3, hS, hF⟩ := hA
 replace hS : St w0 w [Own.of (.slice A0 m4.length c0) 53 m4, Own.all LT] := hS
 simp only [slices_symMergeCmpFunc_api_Come.r3] at h
 refine (?_ : WE Try.prog 220 (subF Try.f68 [1, 0, 1, 0, 1, 1, 1, 0, 1, 0, 0]) Q [(0, (.slice A0 m4.length c0)), (4, .func (.func 41) #[] #[]), (14, vI z9), (17, vI z10)] w) a hF
 clear hF a
 refine ws fun K26 hK26 => ?_
 refine ws fun K27 hK27 => ?_
 refine wr [(0, 0), (1, 0), (2, 0)] ?_
 refine gb0 [0, 1, 2] [(110, .bool (decide (z10 > z9))), (109, vI z9), (108, vI z10)] ?_
 refine gn hK27 ?_
 by_cases hc14 : z10 > z9
 ·rw [if_pos hc14] at h
  refine wk 110 (decide (z10 > z9)) true (decide_eq_true hc14) ?_
  refine we_true (by kernel_rfl) ?_
  refine we_skip fun a hF => hK26 _ _ ?_ a hF
  refine ws fun K28 hK28 => ?_
  refine we_block ?_
  refine we_orders2 (by kernel_rfl) [(9, [⟨blkOf A0, offOf A0 + ((IntKind.i64.wrap (z10 - 1)).toNat) * 2, none⟩, ⟨blkOf A0, offOf A0 + ((IntKind.i64.wrap (z10 - 1)).toNat) * 2 + 1, none⟩]), (13, [⟨blkOf A0, offOf A0 + ((z10).toNat) * 2, none⟩, ⟨blkOf A0, offOf A0 + ((z10).toNat) * 2 + 1, none⟩])] (.vals [0] (.vals [1] (.vals [2] (.vals [3] (.vals [4] (.vals [5] (.vals [6] (.vals [7] (.vals [8] (.vals [9] (.vals [10] (.vals [11] (.vals [12] (.vals [13] (.vals [14] (.alt 15 2 (.vals [16] (.alt 17 2 .fin .nomore)) .nomore)))))))))))))))) (by kernel_rfl) ?_
  have hS43 := hS.drew
  refine go2_batch [0, 1, 2, 3, 4, 5, 6, 7] (ans := []) (vs := [(120, vI (IntKind.i64.wrap (z10 - 1))), (119, vI z10), (118, (.slice A0 m4.length c0)), (117, vI (IntKind.i64.wrap (z10 - 1))), (116, vI z10), (115, (.slice A0 m4.length c0)), (114, vI z10), (113, (.slice A0 m4.length c0))]) (l := []) (by kernel_rfl) trivial mem_nil ?_
  by_cases hc15 : 0 ≤ (IntKind.i64.wrap (z10 - 1))
  ·rw [if_pos hc15] at h
   rcases hx8 : m4[(IntKind.i64.wrap (z10 - 1)).toNat]? with _ | e8
   ·rw [hx8] at h; cases h
   rw [hx8] at h
   simp only [] at h
   refine go2_index (d := 121) (ty := 0) (t := 23) (el := 53) (sz := 2) (m := m4.length) (c := c0) (x := (.tmp 118)) (y := (.tmp 120)) (A := A0) (k' := .i64) (j := (IntKind.i64.wrap (z10 - 1))) (jn := ((IntKind.i64.wrap (z10 - 1)).toNat)) (b0 := blkOf A0) (o0 := offOf A0) (by kernel_rfl) (by kernel_rfl) (by kernel_rfl) (by kernel_rfl) (by kernel_rfl) ((hS43.rdAt 0 rfl).eqSome (pos_of_get hx8)) (Int.toNat_of_nonneg hc15).symm (lt_of_get hx8) ?_
   refine go2_batch [9] (ans := [.val (vI e8.Task), .val (vI e8.At)]) (vs := [(122, .agg #[vI e8.Task, vI e8.At])]) (l := [.loaded ⟨blkOf A0, offOf A0 + ((IntKind.i64.wrap (z10 - 1)).toNat) * 2, none⟩ (vI e8.Task), .loaded ⟨blkOf A0, offOf A0 + ((IntKind.i64.wrap (z10 - 1)).toNat) * 2 + 1, none⟩ (vI e8.At)]) (by kernel_rfl) ⟨RdL.cell (j := 0) (hS43.rdAt 0 rfl) hx8 rfl, RdL.cell (j := 1) (hS43.rdAt 0 rfl) hx8 rfl, trivial⟩ (mem_one (by kernel_rfl)) ?_
   refine go2_batch [10, 11] (ans := []) (vs := [(124, vI z10), (123, (.slice A0 m4.length c0))]) (l := []) (by kernel_rfl) trivial mem_nil ?_
   by_cases hc16 : 0 ≤ z10
   ·rw [if_pos hc16] at h
    rcases hx9 : m4[(z10).toNat]? with _ | e9
    ·rw [hx9] at h; cases h
    rw [hx9] at h
    simp only [] at h
    refine go2_index (d := 125) (ty := 0) (t := 23) (el := 53) (sz := 2) (m := m4.length) (c := c0) (x := (.tmp 123)) (y := (.tmp 124)) (A := A0) (k' := .i64) (j := z10) (jn := ((z10).toNat)) (b0 := blkOf A0) (o0 := offOf A0) (by kernel_rfl) (by kernel_rfl) (by kernel_rfl) (by kernel_rfl) (by kernel_rfl) ((hS43.rdAt 0 rfl).eqSome (pos_of_get hx9)) (Int.toNat_of_nonneg hc16).symm (lt_of_get hx9) ?_
    refine go2_batch [13] (ans := [.val (vI e9.Task), .val (vI e9.At)]) (vs := [(126, .agg #[vI e9.Task, vI e9.At])]) (l := [.loaded ⟨blkOf A0, offOf A0 + ((z10).toNat) * 2, none⟩ (vI e9.Task), .loaded ⟨blkOf A0, offOf A0 + ((z10).toNat) * 2 + 1, none⟩ (vI e9.At)]) (by kernel_rfl) ⟨RdL.cell (j := 0) (hS43.rdAt 0 rfl) hx9 rfl, RdL.cell (j := 1) (hS43.rdAt 0 rfl) hx9 rfl, trivial⟩ (mem_one (by kernel_rfl)) ?_
    refine go2_index (d := 127) (ty := 0) (t := 23) (el := 53) (sz := 2) (m := m4.length) (c := c0) (x := (.tmp 113)) (y := (.tmp 114)) (A := A0) (k' := .i64) (j := z10) (jn := ((z10).toNat)) (b0 := blkOf A0) (o0 := offOf A0) (by kernel_rfl) (by kernel_rfl) (by kernel_rfl) (by kernel_rfl) (by kernel_rfl) ((hS43.rdAt 0 rfl).eqSome (pos_of_get hx9)) (Int.toNat_of_nonneg hc16).symm (lt_of_get hx9) ?_
    refine go_alt2 (fun KK hKK => ?_) ?_
    ·refine ge_seti (α := SCome) (A := A0) (nn := m4.length) (c := c0) (t := 53) (l := m4) (x := e9) (x' := e8) (jn := ((z10).toNat)) (j := 0) (vs := [vI e8.Task, vI e8.At]) (l' := [.stored ⟨blkOf A0, offOf A0 + ((z10).toNat) * 2, none⟩ (vI e8.Task), .stored ⟨blkOf A0, offOf A0 + ((z10).toNat) * 2 + 1, none⟩ (vI e8.At)]) hS43 (by kernel_rfl) (by kernel_rfl) hx9 rfl rfl rfl fun w8 hS44 => ?_
     have hS45 : St w0 w8 [Own.of (.slice A0 m4.length c0) 53 (m4.set ((z10).toNat) e8), Own.all LT] := hS44
     have hE3 : m4.length = (m4.set ((z10).toNat) e8).length := hS45.lenAt 0 rfl
     have hS46 : St w0 w8 [Own.of (.slice A0 (m4.set ((z10).toNat) e8).length c0) 53 (m4.set ((z10).toNat) e8), Own.all LT] := by rw [← hE3]; exact hS45
     refine ge_same (t := 0) (v := (.slice A0 m4.length c0)) (v' := (.slice A0 (m4.set ((z10).toNat) e8).length c0)) (by kernel_rfl) (by rw [hE3]) ?_
     refine ge_same (t := 113) (v := (.slice A0 m4.length c0)) (v' := (.slice A0 (m4.set ((z10).toNat) e8).length c0)) (by kernel_rfl) (by rw [hE3]) ?_
     refine ge_same (t := 115) (v := (.slice A0 m4.length c0)) (v' := (.slice A0 (m4.set ((z10).toNat) e8).length c0)) (by kernel_rfl) (by rw [hE3]) ?_
     refine ge_same (t := 118) (v := (.slice A0 m4.length c0)) (v' := (.slice A0 (m4.set ((z10).toNat) e8).length c0)) (by kernel_rfl) (by rw [hE3]) ?_
     refine ge_same (t := 123) (v := (.slice A0 m4.length c0)) (v' := (.slice A0 (m4.set ((z10).toNat) e8).length c0)) (by kernel_rfl) (by rw [hE3]) ?_
     refine ge_nil fun a hF => hKK _ _ (RS.of2 (l := []) (by kernel_rfl) trivial trivial) ?_ a hF
     rcases hx10 : (m4.set ((z10).toNat) e8)[(IntKind.i64.wrap (z10 - 1)).toNat]? with _ | e10
     ·rw [hx10] at h; cases h
     rw [hx10] at h
     simp only [] at h
     refine go2_index (d := 128) (ty := 0) (t := 23) (el := 53) (sz := 2) (m := (m4.set ((z10).toNat) e8).length) (c := c0) (x := (.tmp 115)) (y := (.tmp 117)) (A := A0) (k' := .i64) (j := (IntKind.i64.wrap (z10 - 1))) (jn := ((IntKind.i64.wrap (z10 - 1)).toNat)) (b0 := blkOf A0) (o0 := offOf A0) (by kernel_rfl) (by kernel_rfl) (by kernel_rfl) (by kernel_rfl) (by kernel_rfl) ((hS46.rdAt 0 rfl).eqSome (pos_of_get hx10)) (Int.toNat_of_nonneg hc15).symm (lt_of_get hx10) ?_
     refine go_alt2 (fun KK hKK => ?_) ?_
     ·refine ge_seti (α := SCome) (A := A0) (nn := ((m4.set ((z10).toNat) e8).length)) (c := c0) (t := 53) (l := (m4.set ((z10).toNat) e8)) (x := e10) (x' := e9) (jn := ((IntKind.i64.wrap (z10 - 1)).toNat)) (j := 0) (vs := [vI e9.Task, vI e9.At]) (l' := [.stored ⟨blkOf A0, offOf A0 + ((IntKind.i64.wrap (z10 - 1)).toNat) * 2, none⟩ (vI e9.Task), .stored ⟨blkOf A0, offOf A0 + ((IntKind.i64.wrap (z10 - 1)).toNat) * 2 + 1, none⟩ (vI e9.At)]) hS46 (by kernel_rfl) (by kernel_rfl) hx10 rfl rfl rfl fun w9 hS47 => ?_
      have hS48 : St w0 w9 [Own.of (.slice A0 (m4.set ((z10).toNat) e8).length c0) 53 ((m4.set ((z10).toNat) e8).set ((IntKind.i64.wrap (z10 - 1)).toNat) e9), Own.all LT] := hS47
      have hE4 : (m4.set ((z10).toNat) e8).length = ((m4.set ((z10).toNat) e8).set ((IntKind.i64.wrap (z10 - 1)).toNat) e9).length := hS48.lenAt 0 rfl
      have hS49 : St w0 w9 [Own.of (.slice A0 ((m4.set ((z10).toNat) e8).set ((IntKind.i64.wrap (z10 - 1)).toNat) e9).length c0) 53 ((m4.set ((z10).toNat) e8).set ((IntKind.i64.wrap (z10 - 1)).toNat) e9), Own.all LT] := by rw [← hE4]; exact hS48
      refine ge_same (t := 0) (v := (.slice A0 (m4.set ((z10).toNat) e8).length c0)) (v' := (.slice A0 ((m4.set ((z10).toNat) e8).set ((IntKind.i64.wrap (z10 - 1)).toNat) e9).length c0)) (by kernel_rfl) (by rw [hE4]) ?_
      refine ge_same (t := 113) (v := (.slice A0 (m4.set ((z10).toNat) e8).length c0)) (v' := (.slice A0 ((m4.set ((z10).toNat) e8).set ((IntKind.i64.wrap (z10 - 1)).toNat) e9).length c0)) (by kernel_rfl) (by rw [hE4]) ?_
      refine ge_same (t := 115) (v := (.slice A0 (m4.set ((z10).toNat) e8).length c0)) (v' := (.slice A0 ((m4.set ((z10).toNat) e8).set ((IntKind.i64.wrap (z10 - 1)).toNat) e9).length c0)) (by kernel_rfl) (by rw [hE4]) ?_
      refine ge_same (t := 118) (v := (.slice A0 (m4.set ((z10).toNat) e8).length c0)) (v' := (.slice A0 ((m4.set ((z10).toNat) e8).set ((IntKind.i64.wrap (z10 - 1)).toNat) e9).length c0)) (by kernel_rfl) (by rw [hE4]) ?_
      refine ge_same (t := 123) (v := (.slice A0 (m4.set ((z10).toNat) e8).length c0)) (v' := (.slice A0 ((m4.set ((z10).toNat) e8).set ((IntKind.i64.wrap (z10 - 1)).toNat) e9).length c0)) (by kernel_rfl) (by rw [hE4]) ?_
      refine ge_nil fun a hF => hKK _ _ (RS.of2 (l := []) (by kernel_rfl) trivial trivial) ?_ a hF
      refine go_fin2 fun a hF => hK28 _ _ ?_ a hF
      refine wr [(0, 0), (1, 0), (2, 0)] ?_
      refine gb0 [0, 1, 2] [(17, vI (IntKind.i64.wrap (z10 - 1))), (112, vI (IntKind.i64.wrap (z10 - 1))), (111, vI z10)] ?_
      have hS50 := hS49.bring 1 rfl
      have hS51 := hS50.bring 1 rfl
      obtain rfl := si h
      exact ge_nil fun a hF => hQ _ _ _ (Outs.again ⟨(Eq.trans hLio3 (by simp only [List.length_set])), hS51, hF.weaken ea⟩)
     exact go_nomore2
    exact go_nomore2
   ·rw [if_neg hc16] at h
    cases h
  ·rw [if_neg hc15] at h
   cases h
 ·rw [if_neg hc14] at h
  refine wk 110 (decide (z10 > z9)) false (decide_eq_false hc14) ?_
  refine we_false (by kernel_rfl) ?_
  have hS52 := hS.bring 1 rfl
  have hS53 := hS52.bring 1 rfl
  obtain rfl := si h
  exact we_exit fun a hF => hQ _ _ _ (Outs.out nofun (Exits.here ⟨hLio3, hS53, hF.weaken ea⟩))
abbrev slices_symMergeCmpFunc_api_Come.A4 (w0 : World) (l0 : List SCome) (A0 : Option Addr) (c0 : Nat) (x1 : Int) (x2 : Int) (x3 : Int) (LT : List Own) : (Int × Int) → Act → World → Prop := fun (s : Int × Int) a w => St w0 w [Own.of (.slice A0 l0.length c0) 53 l0, Own.all LT] ∧ Frm 220 a [(0, (.slice A0 l0.length c0)), (1, vI x1), (2, vI x2), (3, vI x3), (4, .func (.func 41) #[] #[]), (18, vI (IntKind.i64.wrap (Int.fdiv (IntKind.u64.wrap (IntKind.i64.wrap (x1 + x3))) (2 ^ 1)))), (19, vI (IntKind.i64.wrap ((IntKind.i64.wrap (Int.fdiv (IntKind.u64.wrap (IntKind.i64.wrap (x1 + x3))) (2 ^ 1))) + x2))), (20, vI s.1), (21, vI s.2)]
abbrev slices_symMergeCmpFunc_api_Come.B4 (w0 : World) (l0 : List SCome) (A0 : Option Addr) (c0 : Nat) (x1 : Int) (x2 : Int) (x3 : Int) (LT : List Own) : (List SCome) → Exit → Act → World → Prop := Rets Try.prog Try.f68 (slices_symMergeCmpFunc_api_Come.Post w0 l0 A0 c0 x1 x2 x3 LT)
theorem slices_symMergeCmpFunc_api_Come_p4 (K : Nat) (w0 : World) (l0 : List SCome) (A0 : Option Addr) (c0 : Nat) (x1 : Int) (x2 : Int) (x3 : Int) (LT : List Own) (recf : (List SCome) → Int → Int → Int → Option (List SCome)) (hrec : ∀ (l0 : List SCome) (A0 : Option Addr) (c0 : Nat) (x1 : Int) (x2 : Int) (x3 : Int) (w0 wE : World) (LT : List Own) (hS : St w0 wE [Own.of (.slice A0 l0.length c0) 53 l0, Own.all LT]) (r : List SCome) (h : recf l0 x1 x2 x3 = some r), Calls Try.prog 68 #[(.slice A0 l0.length c0), vI x1, vI x2, vI x3, .func (.func 41) #[] #[]] wE (slices_symMergeCmpFunc_api_Come.Post w0 l0 A0 c0 x1 x2 x3 LT r)) (hc1 : ¬ ((IntKind.i64.wrap (x2 - x1)) = 1)) (hc9 : ¬ ((IntKind.i64.wrap (x3 - x2)) = 1)) (o : (Int × Int) ⊕ (List SCome)) (h : slices_symMergeCmpFunc_api_Come.p4 x1 x2 x3 = some o) (w : World) (hS : St w0 w [Own.of (.slice A0 l0.length c0) 53 l0, Own.all LT]) (Q : Exit → Act → World → Prop) (hQ : ∀ x a w, Outs (slices_symMergeCmpFunc_api_Come.A4 w0 l0 A0 c0 x1 x2 x3 LT) (slices_symMergeCmpFunc_api_Come.B4 w0 l0 A0 c0 x1 x2 x3 LT) o x a w → Q x a w) : WE Try.prog 220 (subF Try.f68 [1, 1, 1, 1, 1, 0]) Q [(0, (.slice A0 l0.length c0)), (1, vI x1), (2, vI x2), (3, vI x3), (4, .func (.func 41) #[] #[]), (18, vI (IntKind.i64.wrap (Int.fdiv (IntKind.u64.wrap (IntKind.i64.wrap (x1 + x3))) (2 ^ 1)))), (19, vI (IntKind.i64.wrap ((IntKind.i64.wrap (Int.fdiv (IntKind.u64.wrap (IntKind.i64.wrap (x1 + x3))) (2 ^ 1))) + x2))), (20, vI 0), (21, vI 0), (25, vI x2), (26, vI x1), (27, vI (IntKind.i64.wrap (x2 - x1))), (28, .bool false), (77, vI x3), (78, vI x2), (79, vI (IntKind.i64.wrap (x3 - x2))), (80, .bool false), (129, vI x1), (130, vI x3), (131, vI (IntKind.i64.wrap (x1 + x3))), (132, .int .u64 (IntKind.u64.wrap (IntKind.i64.wrap (x1 + x3)))), (133, .int .u64 (Int.fdiv (IntKind.u64.wrap (IntKind.i64.wrap (x1 + x3))) (2 ^ 1))), (134, vI (IntKind.i64.wrap (Int.fdiv (IntKind.u64.wrap (IntKind.i64.wrap (x1 + x3))) (2 ^ 1)))), (135, vI (IntKind.i64.wrap (Int.fdiv (IntKind.u64.wrap (IntKind.i64.wrap (x1 + x3))) (2 ^ 1)))), (136, vI x2), (137, vI (IntKind.i64.wrap ((IntKind.i64.wrap (Int.fdiv (IntKind.u64.wrap (IntKind.i64.wrap (x1 + x3))) (2 ^ 1))) + x2)))] w := by
 simp only [slices_symMergeCmpFunc_api_Come.p4] at h
 refine ws fun K33 hK33 => ?_
 refine wr [(0, 0), (1, 0), (2, 0)] ?_
 refine gb0 [0, 1, 2] [(140, .bool (decide (x2 > (IntKind.i64.wrap (Int.fdiv (IntKind.u64.wrap (IntKind.i64.wrap (x1 + x3))) (2 ^ 1)))))), (139, vI (IntKind.i64.wrap (Int.fdiv (IntKind.u64.wrap (IntKind.i64.wrap (x1 + x3))) (2 ^ 1)))), (138, vI x2)] ?_
 refine gn hK33 ?_
 by_cases hc17 : x2 > (IntKind.i64.wrap (Int.fdiv (IntKind.u64.wrap (IntKind.i64.wrap (x1 + x3))) (2 ^ 1)))
 ·rw [if_pos hc17] at h
  refine wk 140 (decide (x2 > (IntKind.i64.wrap (Int.fdiv (IntKind.u64.wrap (IntKind.i64.wrap (x1 + x3))) (2 ^ 1))))) true (decide_eq_true hc17) ?_
  refine we_true (by kernel_rfl) ?_
  refine ws fun K34 hK34 => ?_
  refine wr [(0, 0), (1, 0), (2, 0), (3, 0)] ?_
  refine gb0 [0, 1, 2, 3] [(20, vI (IntKind.i64.wrap ((IntKind.i64.wrap ((IntKind.i64.wrap (Int.fdiv (IntKind.u64.wrap (IntKind.i64.wrap (x1 + x3))) (2 ^ 1))) + x2)) - x3))), (143, vI (IntKind.i64.wrap ((IntKind.i64.wrap ((IntKind.i64.wrap (Int.fdiv (IntKind.u64.wrap (IntKind.i64.wrap (x1 + x3))) (2 ^ 1))) + x2)) - x3))), (142, vI x3), (141, vI (IntKind.i64.wrap ((IntKind.i64.wrap (Int.fdiv (IntKind.u64.wrap (IntKind.i64.wrap (x1 + x3))) (2 ^ 1))) + x2)))] ?_
  refine gn hK34 ?_
  refine wr [(0, 0), (1, 0)] ?_
  refine gb0 [0, 1] [(21, vI (IntKind.i64.wrap (Int.fdiv (IntKind.u64.wrap (IntKind.i64.wrap (x1 + x3))) (2 ^ 1)))), (144, vI (IntKind.i64.wrap (Int.fdiv (IntKind.u64.wrap (IntKind.i64.wrap (x1 + x3))) (2 ^ 1))))] ?_
  have hS57 := hS.bring 1 rfl
  have hS58 := hS57.bring 1 rfl
  obtain rfl := si h
  exact ge_nil fun a hF => hQ _ _ _ (Outs.again ⟨hS58, hF.weaken ea⟩)
 ·rw [if_neg hc17] at h
  refine wk 140 (decide (x2 > (IntKind.i64.wrap (Int.fdiv (IntKind.u64.wrap (IntKind.i64.wrap (x1 + x3))) (2 ^ 1))))) false (decide_eq_false hc17) ?_
  refine we_false (by kernel_rfl) ?_
  refine ws fun K35 hK35 => ?_
  refine wr [(0, 0), (1, 0)] ?_
  refine gb0 [0, 1] [(20, vI x1), (145, vI x1)] ?_
  refine gn hK35 ?_
  refine wr [(0, 0), (1, 0)] ?_
  refine gb0 [0, 1] [(21, vI x2), (146, vI x2)] ?_
  have hS59 := hS.bring 1 rfl
  have hS60 := hS59.bring 1 rfl
  obtain rfl := si h
  exact ge_nil fun a hF => hQ _ _ _ (Outs.again ⟨hS60, hF.weaken ea⟩)
abbrev slices_symMergeCmpFunc_api_Come.A5 (w0 : World) (l0 : List SCome) (A0 : Option Addr) (c0 : Nat) (x1 : Int) (x2 : Int) (x3 : Int) (LT : List Own) : (Int × Int) → Act → World → Prop := fun (s : Int × Int) a w => St w0 w [Own.of (.slice A0 l0.length c0) 53 l0, Own.all LT] ∧ Frm 220 a [(0, (.slice A0 l0.length c0)), (1, vI x1), (2, vI x2), (3, vI x3), (4, .func (.func 41) #[] #[]), (18, vI (IntKind.i64.wrap (Int.fdiv (IntKind.u64.wrap (IntKind.i64.wrap (x1 + x3))) (2 ^ 1)))), (19, vI (IntKind.i64.wrap ((IntKind.i64.wrap (Int.fdiv (IntKind.u64.wrap (IntKind.i64.wrap (x1 + x3))) (2 ^ 1))) + x2))), (20, vI s.1), (21, vI s.2), (22, vI (IntKind.i64.wrap ((IntKind.i64.wrap ((IntKind.i64.wrap (Int.fdiv (IntKind.u64.wrap (IntKind.i64.wrap (x1 + x3))) (2 ^ 1))) + x2)) - 1)))]
abbrev slices_symMergeCmpFunc_api_Come.B5 (w0 : World) (l0 : List SCome) (A0 : Option Addr) (c0 : Nat) (x1 : Int) (x2 : Int) (x3 : Int) (LT : List Own) : (Int ⊕ (List SCome)) → Exit → Act → World → Prop := Exits 8 (fun (s : Int) a w => St w0 w [Own.of (.slice A0 l0.length c0) 53 l0, Own.all LT] ∧ Frm 220 a [(0, (.slice A0 l0.length c0)), (1, vI x1), (2, vI x2), (3, vI x3), (4, .func (.func 41) #[] #[]), (18, vI (IntKind.i64.wrap (Int.fdiv (IntKind.u64.wrap (IntKind.i64.wrap (x1 + x3))) (2 ^ 1)))), (19, vI (IntKind.i64.wrap ((IntKind.i64.wrap (Int.fdiv (IntKind.u64.wrap (IntKind.i64.wrap (x1 + x3))) (2 ^ 1))) + x2))), (20, vI s)]) (Rets Try.prog Try.f68 (slices_symMergeCmpFunc_api_Come.Post w0 l0 A0 c0 x1 x2 x3 LT))
theorem slices_symMergeCmpFunc_api_Come_r5 (K : Nat) (w0 : World) (l0 : List SCome) (A0 : Option Addr) (c0 : Nat) (x1 : Int) (x2 : Int) (x3 : Int) (LT : List Own) (recf : (List SCome) → Int → Int → Int → Option (List SCome)) (hrec : ∀ (l0 : List SCome) (A0 : Option Addr) (c0 : Nat) (x1 : Int) (x2 : Int) (x3 : Int) (w0 wE : World) (LT : List Own) (hS : St w0 wE [Own.of (.slice A0 l0.length c0) 53 l0, Own.all LT]) (r : List SCome) (h : recf l0 x1 x2 x3 = some r), Calls Try.prog 68 #[(.slice A0 l0.length c0), vI x1, vI x2, vI x3, .func (.func 41) #[] #[]] wE (slices_symMergeCmpFunc_api_Come.Post w0 l0 A0 c0 x1 x2 x3 LT r)) (hc1 : ¬ ((IntKind.i64.wrap (x2 - x1)) = 1)) (hc9 : ¬ ((IntKind.i64.wrap (x3 - x2)) = 1)) (z13 : Int) (z14 : Int) (s : Int × Int) (o : (Int × Int) ⊕ (Int ⊕ (List SCome))) (h : slices_symMergeCmpFunc_api_Come.r5 l0 x1 x2 x3 s = some o) (a : Act) (w : World) (hA : slices_symMergeCmpFunc_api_Come.A5 w0 l0 A0 c0 x1 x2 x3 LT s a w) (Q : Exit → Act → World → Prop) (hQ : ∀ x a w, Outs (slices_symMergeCmpFunc_api_Come.A5 w0 l0 A0 c0 x1 x2 x3 LT) (slices_symMergeCmpFunc_api_Come.B5 w0 l0 A0 c0 x1 x2 x3 LT) o x a w → Q x a w) : (subF Try.f68 [1, 1, 1, 1, 1, 1, 1, 0, 0, 0]).wp Try.prog Q a w := by
 obtain ⟨z15, z16⟩ := s
 obtain ⟨hS, hF⟩ := hA
 replace hS : St w0 w [Own.of (.slice A0 l0.length c0) 53 l0, Own.all LT] := hS
 simp only [slices_symMergeCmpFunc_api_Come.r5] at h
 refine (?_ : WE Try.prog 220 (subF Try.f68 [1, 1, 1, 1, 1, 1, 1, 0, 0, 0]) Q [(0, (.slice A0 l0.length c0)), (1, vI x1), (2, vI x2), (3, vI x3), (4, .func (.func 41) #[] #[]), (18, vI (IntKind.i64.wrap (Int.fdiv (IntKind.u64.wrap (IntKind.i64.wrap (x1 + x3))) (2 ^ 1)))), (19, vI (IntKind.i64.wrap ((IntKind.i64.wrap (Int.fdiv (IntKind.u64.wrap (IntKind.i64.wrap (x1 + x3))) (2 ^ 1))) + x2))), (20, vI z15), (21, vI z16), (22, vI (IntKind.i64.wrap ((IntKind.i64.wrap ((IntKind.i64.wrap (Int.fdiv (IntKind.u64.wrap (IntKind.i64.wrap (x1 + x3))) (2 ^ 1))) + x2)) - 1)))] w) a hF
 clear hF a
 refine ws fun K38 hK38 => ?_
 refine ws fun K39 hK39 => ?_
 refine wr [(0, 0), (1, 0), (2, 0)] ?_
 refine gb0 [0, 1, 2] [(151, .bool (decide (z15 < z16))), (150, vI z16), (149, vI z15)] ?_
 refine gn hK39 ?_
 by_cases hc18 : z15 < z16
 ·rw [if_pos hc18] at h
  refine wk 151 (decide (z15 < z16)) true (decide_eq_true hc18) ?_
  refine we_true (by kernel_rfl) ?_
  refine we_skip fun a hF => hK38 _ _ ?_ a hF
  refine we_block ?_
  refine ws fun K40 hK40 => ?_
  refine wr [(0, 0), (1, 0), (2, 0), (3, 0), (4, 0), (5, 0), (6, 0)] ?_
  refine gb0 [0, 1, 2, 3, 4, 5, 6] [(23, vI (IntKind.i64.wrap (Int.fdiv (IntKind.u64.wrap (IntKind.i64.wrap (z15 + z16))) (2 ^ 1)))), (157, vI (IntKind.i64.wrap (Int.fdiv (IntKind.u64.wrap (IntKind.i64.wrap (z15 + z16))) (2 ^ 1)))), (156, .int .u64 (Int.fdiv (IntKind.u64.wrap (IntKind.i64.wrap (z15 + z16))) (2 ^ 1))), (155, .int .u64 (IntKind.u64.wrap (IntKind.i64.wrap (z15 + z16)))), (154, vI (IntKind.i64.wrap (z15 + z16))), (153, vI z16), (152, vI z15)] ?_
  refine gn hK40 ?_
  refine ws fun K41 hK41 => ?_
  refine we_draws (by kernel_rfl) [(0, 0), (1, 0), (2, 0), (3, 0), (4, 0), (5, 0), (6, 0), (7, 0), (8, 0), (9, 0), (10, 0), (11, 1), (12, 0), (13, 0)] (by kernel_rfl) ?_
  have hS64 := hS.drew
  refine gb0 [0, 1, 2, 3, 4] [(162, vI (IntKind.i64.wrap ((IntKind.i64.wrap ((IntKind.i64.wrap ((IntKind.i64.wrap (Int.fdiv (IntKind.u64.wrap (IntKind.i64.wrap (x1 + x3))) (2 ^ 1))) + x2)) - 1)) - (IntKind.i64.wrap (Int.fdiv (IntKind.u64.wrap (IntKind.i64.wrap (z15 + z16))) (2 ^ 1)))))), (161, vI (IntKind.i64.wrap (Int.fdiv (IntKind.u64.wrap (IntKind.i64.wrap (z15 + z16))) (2 ^ 1)))), (160, vI (IntKind.i64.wrap ((IntKind.i64.wrap ((IntKind.i64.wrap (Int.fdiv (IntKind.u64.wrap (IntKind.i64.wrap (x1 + x3))) (2 ^ 1))) + x2)) - 1))), (159, (.slice A0 l0.length c0)), (158, .func (.func 41) #[] #[])] ?_
  by_cases hc19 : 0 ≤ (IntKind.i64.wrap ((IntKind.i64.wrap ((IntKind.i64.wrap ((IntKind.i64.wrap (Int.fdiv (IntKind.u64.wrap (IntKind.i64.wrap (x1 + x3))) (2 ^ 1))) + x2)) - 1)) - (IntKind.i64.wrap (Int.fdiv (IntKind.u64.wrap (IntKind.i64.wrap (z15 + z16))) (2 ^ 1)))))
  ·rw [if_pos hc19] at h
   rcases hx11 : l0[(IntKind.i64.wrap ((IntKind.i64.wrap ((IntKind.i64.wrap ((IntKind.i64.wrap (Int.fdiv (IntKind.u64.wrap (IntKind.i64.wrap (x1 + x3))) (2 ^ 1))) + x2)) - 1)) - (IntKind.i64.wrap (Int.fdiv (IntKind.u64.wrap (IntKind.i64.wrap (z15 + z16))) (2 ^ 1))))).toNat]? with _ | e11
   ·rw [hx11] at h; cases h
   rw [hx11] at h
   simp only [] at h
   refine gi 163 0 23 53 2 l0.length c0 (.tmp 159) (.tmp 162) A0 .i64 (IntKind.i64.wrap ((IntKind.i64.wrap ((IntKind.i64.wrap ((IntKind.i64.wrap (Int.fdiv (IntKind.u64.wrap (IntKind.i64.wrap (x1 + x3))) (2 ^ 1))) + x2)) - 1)) - (IntKind.i64.wrap (Int.fdiv (IntKind.u64.wrap (IntKind.i64.wrap (z15 + z16))) (2 ^ 1))))) ((IntKind.i64.wrap ((IntKind.i64.wrap ((IntKind.i64.wrap ((IntKind.i64.wrap (Int.fdiv (IntKind.u64.wrap (IntKind.i64.wrap (x1 + x3))) (2 ^ 1))) + x2)) - 1)) - (IntKind.i64.wrap (Int.fdiv (IntKind.u64.wrap (IntKind.i64.wrap (z15 + z16))) (2 ^ 1))))).toNat) ((hS64.rdAt 0 rfl).eqSome (pos_of_get hx11)) (Int.toNat_of_nonneg hc19).symm (lt_of_get hx11) ?_
   refine gb [6, 7, 8] [(166, vI (IntKind.i64.wrap (Int.fdiv (IntKind.u64.wrap (IntKind.i64.wrap (z15 + z16))) (2 ^ 1)))), (165, (.slice A0 l0.length c0)), (164, .agg #[vI e11.Task, vI e11.At])] [.loaded ⟨blkOf A0, offOf A0 + ((IntKind.i64.wrap ((IntKind.i64.wrap ((IntKind.i64.wrap ((IntKind.i64.wrap (Int.fdiv (IntKind.u64.wrap (IntKind.i64.wrap (x1 + x3))) (2 ^ 1))) + x2)) - 1)) - (IntKind.i64.wrap (Int.fdiv (IntKind.u64.wrap (IntKind.i64.wrap (z15 + z16))) (2 ^ 1))))).toNat) * 2, none⟩ (vI e11.Task), .loaded ⟨blkOf A0, offOf A0 + ((IntKind.i64.wrap ((IntKind.i64.wrap ((IntKind.i64.wrap ((IntKind.i64.wrap (Int.fdiv (IntKind.u64.wrap (IntKind.i64.wrap (x1 + x3))) (2 ^ 1))) + x2)) - 1)) - (IntKind.i64.wrap (Int.fdiv (IntKind.u64.wrap (IntKind.i64.wrap (z15 + z16))) (2 ^ 1))))).toNat) * 2 + 1, none⟩ (vI e11.At)] ⟨RdL.cell (j := 0) (hS64.rdAt 0 rfl) hx11 rfl, RdL.cell (j := 1) (hS64.rdAt 0 rfl) hx11 rfl, trivial⟩ ?_
   by_cases hc20 : 0 ≤ (IntKind.i64.wrap (Int.fdiv (IntKind.u64.wrap (IntKind.i64.wrap (z15 + z16))) (2 ^ 1)))
   ·rw [if_pos hc20] at h
    rcases hx12 : l0[(IntKind.i64.wrap (Int.fdiv (IntKind.u64.wrap (IntKind.i64.wrap (z15 + z16))) (2 ^ 1))).toNat]? with _ | e12
    ·rw [hx12] at h; cases h
    rw [hx12] at h
    simp only [] at h
    refine gi 167 0 23 53 2 l0.length c0 (.tmp 165) (.tmp 166) A0 .i64 (IntKind.i64.wrap (Int.fdiv (IntKind.u64.wrap (IntKind.i64.wrap (z15 + z16))) (2 ^ 1))) ((IntKind.i64.wrap (Int.fdiv (IntKind.u64.wrap (IntKind.i64.wrap (z15 + z16))) (2 ^ 1))).toNat) ((hS64.rdAt 0 rfl).eqSome (pos_of_get hx12)) (Int.toNat_of_nonneg hc20).symm (lt_of_get hx12) ?_
    refine gb [10] [(168, .agg #[vI e12.Task, vI e12.At])] [.loaded ⟨blkOf A0, offOf A0 + ((IntKind.i64.wrap (Int.fdiv (IntKind.u64.wrap (IntKind.i64.wrap (z15 + z16))) (2 ^ 1))).toNat) * 2, none⟩ (vI e12.Task), .loaded ⟨blkOf A0, offOf A0 + ((IntKind.i64.wrap (Int.fdiv (IntKind.u64.wrap (IntKind.i64.wrap (z15 + z16))) (2 ^ 1))).toNat) * 2 + 1, none⟩ (vI e12.At)] ⟨RdL.cell (j := 0) (hS64.rdAt 0 rfl) hx12 rfl, RdL.cell (j := 1) (hS64.rdAt 0 rfl) hx12 rfl, trivial⟩ ?_
    refine ge_call (d := some 169) (f := 41) (args := #[.agg #[vI e11.Task, vI e11.At], .agg #[vI e12.Task, vI e12.At]]) (by kernel_rfl) (tasks_Comes_1_ok e11 e12 _ _ rfl) ?_
    rintro _ w12 ⟨rfl, hS65⟩
    refine ⟨_, rfl, hS65.below, ?_⟩
    have hS66 := hS64.call hS65
    refine gb0 [12, 13] [(171, .bool (!(decide ((tasks_Comes_1.f e11 e12) < 0)))), (170, .bool (decide ((tasks_Comes_1.f e11 e12) < 0)))] ?_
    refine gn hK41 ?_
    by_cases hc21 : (tasks_Comes_1.f e11 e12) < 0
    ·rw [if_pos hc21] at h
     refine wk 171 (!(decide ((tasks_Comes_1.f e11 e12) < 0))) false (congrArg (fun z => !z) (decide_eq_true hc21)) ?_
     refine we_false (by kernel_rfl) ?_
     refine wr [(0, 0), (1, 0)] ?_
     refine gb0 [0, 1] [(21, vI (IntKind.i64.wrap (Int.fdiv (IntKind.u64.wrap (IntKind.i64.wrap (z15 + z16))) (2 ^ 1)))), (174, vI (IntKind.i64.wrap (Int.fdiv (IntKind.u64.wrap (IntKind.i64.wrap (z15 + z16))) (2 ^ 1))))] ?_
     have hS67 := hS66.bring 1 rfl
     have hS68 := hS67.bring 1 rfl
     obtain rfl := si h
     exact ge_nil fun a hF => hQ _ _ _ (Outs.again ⟨hS68, hF.weaken ea⟩)
    ·rw [if_neg hc21] at h
     refine wk 171 (!(decide ((tasks_Comes_1.f e11 e12) < 0))) true (congrArg (fun z => !z) (decide_eq_false hc21)) ?_
     refine we_true (by kernel_rfl) ?_
     refine wr [(0, 0), (1, 0), (2, 0)] ?_
     refine gb0 [0, 1, 2] [(20, vI (IntKind.i64.wrap ((IntKind.i64.wrap (Int.fdiv (IntKind.u64.wrap (IntKind.i64.wrap (z15 + z16))) (2 ^ 1))) + 1))), (173, vI (IntKind.i64.wrap ((IntKind.i64.wrap (Int.fdiv (IntKind.u64.wrap (IntKind.i64.wrap (z15 + z16))) (2 ^ 1))) + 1))), (172, vI (IntKind.i64.wrap (Int.fdiv (IntKind.u64.wrap (IntKind.i64.wrap (z15 + z16))) (2 ^ 1))))] ?_
     have hS69 := hS66.bring 1 rfl
     have hS70 := hS69.bring 1 rfl
     obtain rfl := si h
     exact ge_nil fun a hF => hQ _ _ _ (Outs.again ⟨hS70, hF.weaken ea⟩)
   ·rw [if_neg hc20] at h
    cases h
  ·rw [if_neg hc19] at h
   cases h
 ·rw [if_neg hc18] at h
  refine wk 151 (decide (z15 < z16)) false (decide_eq_false hc18) ?_
  refine we_false (by kernel_rfl) ?_
  have hS71 := hS.bring 1 rfl
  have hS72 := hS71.bring 1 rfl
  obtain rfl := si h
  exact we_exit fun a hF => hQ _ _ _ (Outs.out nofun (Exits.here ⟨hS72, hF.weaken ea⟩))
abbrev slices_symMergeCmpFunc_api_Come.A6 (w0 : World) (l0 : List SCome) (A0 : Option Addr) (c0 : Nat) (x1 : Int) (x2 : Int) (x3 : Int) (LT : List Own) (z18 : Int) : (List SCome) → Act → World → Prop := fun (s : (List SCome)) a w => l0.length = s.length ∧ St w0 w [Own.of (.slice A0 s.length c0) 53 s, Own.all LT] ∧ Frm 220 a [(0, (.slice A0 s.length c0)), (1, vI x1), (3, vI x3), (4, .func (.func 41) #[] #[]), (18, vI (IntKind.i64.wrap (Int.fdiv (IntKind.u64.wrap (IntKind.i64.wrap (x1 + x3))) (2 ^ 1)))), (20, vI z18), (24, vI (IntKind.i64.wrap ((IntKind.i64.wrap ((IntKind.i64.wrap (Int.fdiv (IntKind.u64.wrap (IntKind.i64.wrap (x1 + x3))) (2 ^ 1))) + x2)) - z18)))]
abbrev slices_symMergeCmpFunc_api_Come.B6 (w0 : World) (l0 : List SCome) (A0 : Option Addr) (c0 : Nat) (x1 : Int) (x2 : Int) (x3 : Int) (LT : List Own) : (List SCome) → Exit → Act → World → Prop := Rets Try.prog Try.f68 (slices_symMergeCmpFunc_api_Come.Post w0 l0 A0 c0 x1 x2 x3 LT)
theorem slices_symMergeCmpFunc_api_Come_p6 (K : Nat) (w0 : World) (l0 : List SCome) (A0 : Option Addr) (c0 : Nat) (x1 : Int) (x2 : Int) (x3 : Int) (LT : List Own) (recf : (List SCome) → Int → Int → Int → Option (List SCome)) (hrec : ∀ (l0 : List SCome) (A0 : Option Addr) (c0 : Nat) (x1 : Int) (x2 : Int) (x3 : Int) (w0 wE : World) (LT : List Own) (hS : St w0 wE [Own.of (.slice A0 l0.length c0) 53 l0, Own.all LT]) (r : List SCome) (h : recf l0 x1 x2 x3 = some r), Calls Try.prog 68 #[(.slice A0 l0.length c0), vI x1, vI x2, vI x3, .func (.func 41) #[] #[]] wE (slices_symMergeCmpFunc_api_Come.Post w0 l0 A0 c0 x1 x2 x3 LT r)) (hc1 : ¬ ((IntKind.i64.wrap (x2 - x1)) = 1)) (hc9 : ¬ ((IntKind.i64.wrap (x3 - x2)) = 1)) (z13 : Int) (z14 : Int) (z18 : Int) (o : (List SCome) ⊕ (List SCome)) (h : slices_symMergeCmpFunc_api_Come.p6 K l0 x1 x2 x3 z18 = some o) (w : World) (hS : St w0 w [Own.of (.slice A0 l0.length c0) 53 l0, Own.all LT]) (Q : Exit → Act → World → Prop) (hQ : ∀ x a w, Outs (slices_symMergeCmpFunc_api_Come.A6 w0 l0 A0 c0 x1 x2 x3 LT z18) (slices_symMergeCmpFunc_api_Come.B6 w0 l0 A0 c0 x1 x2 x3 LT) o x a w → Q x a w) : WE Try.prog 220 (subF Try.f68 [1, 1, 1, 1, 1, 1, 1, 1, 1, 0]) Q [(0, (.slice A0 l0.length c0)), (1, vI x1), (2, vI x2), (3, vI x3), (4, .func (.func 41) #[] #[]), (18, vI (IntKind.i64.wrap (Int.fdiv (IntKind.u64.wrap (IntKind.i64.wrap (x1 + x3))) (2 ^ 1)))), (19, vI (IntKind.i64.wrap ((IntKind.i64.wrap (Int.fdiv (IntKind.u64.wrap (IntKind.i64.wrap (x1 + x3))) (2 ^ 1))) + x2))), (20, vI z18), (24, vI (IntKind.i64.wrap ((IntKind.i64.wrap ((IntKind.i64.wrap (Int.fdiv (IntKind.u64.wrap (IntKind.i64.wrap (x1 + x3))) (2 ^ 1))) + x2)) - z18))), (175, vI (IntKind.i64.wrap ((IntKind.i64.wrap (Int.fdiv (IntKind.u64.wrap (IntKind.i64.wrap (x1 + x3))) (2 ^ 1))) + x2))), (176, vI z18), (177, vI (IntKind.i64.wrap ((IntKind.i64.wrap ((IntKind.i64.wrap (Int.fdiv (IntKind.u64.wrap (IntKind.i64.wrap (x1 + x3))) (2 ^ 1))) + x2)) - z18)))] w := by
 simp only [slices_symMergeCmpFunc_api_Come.p6] at h
 refine ws fun K44 hK44 => ?_
 refine wr [(0, 0), (1, 0), (2, 0), (3, 0), (4, 0), (5, 0), (6, 0), (7, 0)] ?_
 refine gb0 [0, 1, 2, 3] [(181, .bool (decide (z18 < x2))), (180, .bool (decide (z18 < x2))), (179, vI x2), (178, vI z18)] ?_
 by_cases hc22 : z18 < x2
 ·rw [if_pos hc22] at h
  refine gk 181 (decide (z18 < x2)) true (decide_eq_true hc22) ?_
  refine gb0 [4, 5, 6, 7] [(185, .bool (decide (x2 < (IntKind.i64.wrap ((IntKind.i64.wrap ((IntKind.i64.wrap (Int.fdiv (IntKind.u64.wrap (IntKind.i64.wrap (x1 + x3))) (2 ^ 1))) + x2)) - z18))))), (184, .bool (decide (x2 < (IntKind.i64.wrap ((IntKind.i64.wrap ((IntKind.i64.wrap (Int.fdiv (IntKind.u64.wrap (IntKind.i64.wrap (x1 + x3))) (2 ^ 1))) + x2)) - z18))))), (183, vI (IntKind.i64.wrap ((IntKind.i64.wrap ((IntKind.i64.wrap (Int.fdiv (IntKind.u64.wrap (IntKind.i64.wrap (x1 + x3))) (2 ^ 1))) + x2)) - z18))), (182, vI x2)] ?_
  refine gn hK44 ?_
  by_cases hc23 : x2 < (IntKind.i64.wrap ((IntKind.i64.wrap ((IntKind.i64.wrap (Int.fdiv (IntKind.u64.wrap (IntKind.i64.wrap (x1 + x3))) (2 ^ 1))) + x2)) - z18))
  ·rw [if_pos hc23] at h
   refine wk 185 (decide (x2 < (IntKind.i64.wrap ((IntKind.i64.wrap ((IntKind.i64.wrap (Int.fdiv (IntKind.u64.wrap (IntKind.i64.wrap (x1 + x3))) (2 ^ 1))) + x2)) - z18)))) true (decide_eq_true hc23) ?_
   refine we_true (by kernel_rfl) ?_
   refine wr [(0, 0), (1, 0), (2, 0), (3, 0), (4, 0), (5, 2)] ?_
   refine gb0 [0, 1, 2, 3, 4] [(190, .func (.func 41) #[] #[]), (189, vI (IntKind.i64.wrap ((IntKind.i64.wrap ((IntKind.i64.wrap (Int.fdiv (IntKind.u64.wrap (IntKind.i64.wrap (x1 + x3))) (2 ^ 1))) + x2)) - z18))), (188, vI x2), (187, vI z18), (186, (.slice A0 l0.length c0))] ?_
   rcases hq10 : slices_rotateCmpFunc_api_Come.f K l0 z18 x2 (IntKind.i64.wrap ((IntKind.i64.wrap ((IntKind.i64.wrap (Int.fdiv (IntKind.u64.wrap (IntKind.i64.wrap (x1 + x3))) (2 ^ 1))) + x2)) - z18)) with _ | r1
   ·rw [hq10] at h; cases h
   rw [hq10] at h
   simp only [] at h
   have hS75 : St w0 w [Own.of (.slice A0 l0.length c0) 53 l0, Own.all [Own.all LT]] := hS.packN 1
   refine ge_call2 (m := 0) (d := some 191) (f := 80) (args := #[.slice A0 l0.length c0, vI z18, vI x2, vI (IntKind.i64.wrap ((IntKind.i64.wrap ((IntKind.i64.wrap (Int.fdiv (IntKind.u64.wrap (IntKind.i64.wrap (x1 + x3))) (2 ^ 1))) + x2)) - z18)), .func (.func 41) #[] #[]]) (by kernel_rfl) (slices_rotateCmpFunc_api_Come_ok K l0 A0 c0 z18 x2 (IntKind.i64.wrap ((IntKind.i64.wrap ((IntKind.i64.wrap (Int.fdiv (IntKind.u64.wrap (IntKind.i64.wrap (x1 + x3))) (2 ^ 1))) + x2)) - z18)) _ _ _ hS75 _ hq10) ?_
   rintro _ w14 ⟨rfl, hE5, hS74⟩
   refine ⟨_, rfl, ?_⟩
   have hS76 : St w0 w14 [Own.of (.slice A0 r1.length c0) 53 r1, Own.all LT] := hS74.unpack [Own.of (.slice A0 r1.length c0) 53 r1]
   refine ge_same (t := 0) (v := (.slice A0 l0.length c0)) (v' := (.slice A0 r1.length c0)) (by kernel_rfl) (by rw [show l0.length = r1.length from hE5]) ?_
   refine ge_same (t := 186) (v := (.slice A0 l0.length c0)) (v' := (.slice A0 r1.length c0)) (by kernel_rfl) (by rw [show l0.length = r1.length from hE5]) ?_
   have hLio6 : l0.length = r1.length := Eq.trans rfl hE5
   have hS77 := hS76.bring 1 rfl
   have hS78 := hS77.bring 1 rfl
   obtain rfl := si h
   exact ge_nil fun a hF => hQ _ _ _ (Outs.again ⟨hLio6, hS78, hF.weaken ea⟩)
  ·rw [if_neg hc23] at h
   refine wk 185 (decide (x2 < (IntKind.i64.wrap ((IntKind.i64.wrap ((IntKind.i64.wrap (Int.fdiv (IntKind.u64.wrap (IntKind.i64.wrap (x1 + x3))) (2 ^ 1))) + x2)) - z18)))) false (decide_eq_false hc23) ?_
   refine we_false (by kernel_rfl) ?_
   have hS79 := hS.bring 1 rfl
   have hS80 := hS79.bring 1 rfl
   obtain rfl := si h
   exact we_skip fun a hF => hQ _ _ _ (Outs.again ⟨rfl, hS80, hF.weaken ea⟩)
 ·rw [if_neg hc22] at h
  refine gk 181 (decide (z18 < x2)) false (decide_eq_false hc22) ?_
  refine gb0 [4, 5, 6, 7] [(185, .bool false), (184, undef), (183, undef), (182, undef)] ?_
  refine gn hK44 ?_
  refine we_false (by kernel_rfl) ?_
  have hS81 := hS.bring 1 rfl
  have hS82 := hS81.bring 1 rfl
  obtain rfl := si h
  exact we_skip fun a hF => hQ _ _ _ (Outs.again ⟨rfl, hS82, hF.weaken ea⟩)
theorem slices_symMergeCmpFunc_api_Come_step (K : Nat) (recf : (List SCome) → Int → Int → Int → Option (List SCome)) (hrec : ∀ (l0 : List SCome) (A0 : Option Addr) (c0 : Nat) (x1 : Int) (x2 : Int) (x3 : Int) (w0 wE : World) (LT : List Own) (hS : St w0 wE [Own.of (.slice A0 l0.length c0) 53 l0, Own.all LT]) (r : List SCome) (h : recf l0 x1 x2 x3 = some r), Calls Try.prog 68 #[(.slice A0 l0.length c0), vI x1, vI x2, vI x3, .func (.func 41) #[] #[]] wE (slices_symMergeCmpFunc_api_Come.Post w0 l0 A0 c0 x1 x2 x3 LT r)) (l0 : List SCome) (A0 : Option Addr) (c0 : Nat) (x1 : Int) (x2 : Int) (x3 : Int) (w0 wE : World) (LT : List Own) (hS : St w0 wE [Own.of (.slice A0 l0.length c0) 53 l0, Own.all LT]) (r : List SCome) (h : slices_symMergeCmpFunc_api_Come.b K recf l0 x1 x2 x3 = some r) :
  Calls Try.prog 68 #[(.slice A0 l0.length c0), vI x1, vI x2, vI x3, .func (.func 41) #[] #[]] wE (slices_symMergeCmpFunc_api_Come.Post w0 l0 A0 c0 x1 x2 x3 LT r) := by
 unfold slices_symMergeCmpFunc_api_Come.b at h
 refine calls_enter (n := 220) (args := [(.slice A0 l0.length c0), vI x1, vI x2, vI x3, .func (.func 41) #[] #[]]) (fn := Try.f68) rfl rfl rfl rfl ?_
 show WE _ _ _ _ [(0, (.slice A0 l0.length c0)), (1, vI x1), (2, vI x2), (3, vI x3), (4, .func (.func 41) #[] #[])] _
 refine ws fun K1 hK1 => ?_
 refine ws fun K2 hK2 => ?_
 refine wr [(0, 0), (1, 0), (2, 0), (3, 0)] ?_
 refine gb0 [0, 1, 2, 3] [(28, .bool ((IntKind.i64.wrap (x2 - x1)) == 1)), (27, vI (IntKind.i64.wrap (x2 - x1))), (26, vI x1), (25, vI x2)] ?_
 refine gn hK2 ?_
 by_cases hc1 : (IntKind.i64.wrap (x2 - x1)) = 1
 ·rw [if_pos hc1] at h
  refine wk 28 ((IntKind.i64.wrap (x2 - x1)) == 1) true (beq_iff_eq.2 hc1) ?_
  refine we_true (by kernel_rfl) ?_
  refine ws fun K3 hK3 => ?_
  refine wr [(0, 0), (1, 0)] ?_
  refine gb0 [0, 1] [(10, vI x2), (29, vI x2)] ?_
  refine gn hK3 ?_
  refine ws fun K4 hK4 => ?_
  refine wr [(0, 0), (1, 0)] ?_
  refine gb0 [0, 1] [(11, vI x3), (30, vI x3)] ?_
  refine gn hK4 ?_
  refine ws fun K5 hK5 => ?_
  refine we_block ?_
  have hS1 := hS.bring 1 rfl
  have hS2 := hS1.bring 1 rfl
  rcases hq2 : iter (slices_symMergeCmpFunc_api_Come.r0 l0 x1) K (x2, x3) with _ | (z4 | rr2)
  ·rw [hq2] at h; cases h
  ·rw [hq2] at h
   simp only [] at h
   refine we_iter (A := slices_symMergeCmpFunc_api_Come.A0 w0 l0 A0 c0 x1 LT) (B := slices_symMergeCmpFunc_api_Come.B0 w0 l0 A0 c0 x1 x2 x3 LT) hq2 (fun a hF => ⟨hS2, hF.weaken ea⟩) (fun s o hf a w hA Q hQ => slices_symMergeCmpFunc_api_Come_r0 K w0 l0 A0 c0 x1 x2 x3 LT recf hrec hc1 s o hf a w hA Q hQ) ?_
   rintro _ a w2 _ ⟨rfl, hS12, hF⟩
   replace hS12 : St w0 w2 [Own.of (.slice A0 l0.length c0) 53 l0, Own.all LT] := hS12
   refine hK5 [(0, (.slice A0 l0.length c0)), (1, vI x1), (4, .func (.func 41) #[] #[]), (10, vI z4)] w2 ?_ a hF
   refine ws fun K10 hK10 => ?_
   refine ws fun K11 hK11 => ?_
   refine wr [(0, 0), (1, 0)] ?_
   refine gb0 [0, 1] [(13, vI x1), (54, vI x1)] ?_
   refine gn hK11 ?_
   refine we_block ?_
   have hS13 := hS12.bring 1 rfl
   have hS14 := hS13.bring 1 rfl
   rcases hq3 : iter (slices_symMergeCmpFunc_api_Come.r1 z4) K (x1, l0) with _ | (m3 | rr1)
   ·rw [hq3] at h; cases h
   ·rw [hq3] at h
    simp only [] at h
    refine we_iter (A := slices_symMergeCmpFunc_api_Come.A1 w0 l0 A0 c0 LT z4) (B := slices_symMergeCmpFunc_api_Come.B1 w0 l0 A0 c0 x1 x2 x3 LT) hq3 (fun a hF => ⟨rfl, hS14, hF.weaken ea⟩) (fun s o hf a w hA Q hQ => slices_symMergeCmpFunc_api_Come_r1 K w0 l0 A0 c0 x1 x2 x3 LT recf hrec hc1 z4 s o hf a w hA Q hQ) ?_
    rintro _ a w5 _ ⟨rfl, hRz1, hS26, hF⟩
    replace hS26 : St w0 w5 [Own.of (.slice A0 m3.length c0) 53 m3, Own.all LT] := hS26
    refine hK10 [(0, (.slice A0 m3.length c0)), (4, .func (.func 41) #[] #[])] w5 ?_ a hF
    have hS27 := hS26.bring 1 rfl
    have hS28 := hS27.bring 1 rfl
    obtain rfl := si h
    exact we_ret (pr0 [] [] ⟨rfl, hRz1, hS28⟩)
   ·rw [hq3] at h
    simp only [] at h
    refine we_iter (A := slices_symMergeCmpFunc_api_Come.A1 w0 l0 A0 c0 LT z4) (B := slices_symMergeCmpFunc_api_Come.B1 w0 l0 A0 c0 x1 x2 x3 LT) hq3 (fun a hF => ⟨rfl, hS14, hF.weaken ea⟩) (fun s o hf a w hA Q hQ => slices_symMergeCmpFunc_api_Come_r1 K w0 l0 A0 c0 x1 x2 x3 LT recf hrec hc1 z4 s o hf a w hA Q hQ) ?_
    rintro _ a w1 _ ⟨rfl, hb⟩
    obtain rfl := si h
    exact hb
  ·rw [hq2] at h
   simp only [] at h
   refine we_iter (A := slices_symMergeCmpFunc_api_Come.A0 w0 l0 A0 c0 x1 LT) (B := slices_symMergeCmpFunc_api_Come.B0 w0 l0 A0 c0 x1 x2 x3 LT) hq2 (fun a hF => ⟨hS2, hF.weaken ea⟩) (fun s o hf a w hA Q hQ => slices_symMergeCmpFunc_api_Come_r0 K w0 l0 A0 c0 x1 x2 x3 LT recf hrec hc1 s o hf a w hA Q hQ) ?_
   rintro _ a w1 _ ⟨rfl, hb⟩
   obtain rfl := si h
   exact hb
 ·rw [if_neg hc1] at h
  refine wk 28 ((IntKind.i64.wrap (x2 - x1)) == 1) false (beq_eq_false_iff_ne.2 hc1) ?_
  refine we_false (by kernel_rfl) ?_
  refine we_skip fun a hF => hK1 _ _ ?_ a hF
  refine ws fun K15 hK15 => ?_
  refine ws fun K16 hK16 => ?_
  refine wr [(0, 0), (1, 0), (2, 0), (3, 0)] ?_
  refine gb0 [0, 1, 2, 3] [(80, .bool ((IntKind.i64.wrap (x3 - x2)) == 1)), (79, vI (IntKind.i64.wrap (x3 - x2))), (78, vI x2), (77, vI x3)] ?_
  refine gn hK16 ?_
  by_cases hc9 : (IntKind.i64.wrap (x3 - x2)) = 1
  ·rw [if_pos hc9] at h
   refine wk 80 ((IntKind.i64.wrap (x3 - x2)) == 1) true (beq_iff_eq.2 hc9) ?_
   refine we_true (by kernel_rfl) ?_
   refine ws fun K17 hK17 => ?_
   refine wr [(0, 0), (1, 0)] ?_
   refine gb0 [0, 1] [(14, vI x1), (81, vI x1)] ?_
   refine gn hK17 ?_
   refine ws fun K18 hK18 => ?_
   refine wr [(0, 0), (1, 0)] ?_
   refine gb0 [0, 1] [(15, vI x2), (82, vI x2)] ?_
   refine gn hK18 ?_
   refine ws fun K19 hK19 => ?_
   refine we_block ?_
   have hS29 := hS.bring 1 rfl
   have hS30 := hS29.bring 1 rfl
   rcases hq5 : iter (slices_symMergeCmpFunc_api_Come.r2 l0 x2) K (x1, x2) with _ | (z9 | rr4)
   ·rw [hq5] at h; cases h
   ·rw [hq5] at h
    simp only [] at h
    refine we_iter (A := slices_symMergeCmpFunc_api_Come.A2 w0 l0 A0 c0 x2 LT) (B := slices_symMergeCmpFunc_api_Come.B2 w0 l0 A0 c0 x1 x2 x3 LT) hq5 (fun a hF => ⟨hS30, hF.weaken ea⟩) (fun s o hf a w hA Q hQ => slices_symMergeCmpFunc_api_Come_r2 K w0 l0 A0 c0 x1 x2 x3 LT recf hrec hc1 hc9 s o hf a w hA Q hQ) ?_
    rintro _ a w7 _ ⟨rfl, hS40, hF⟩
    replace hS40 : St w0 w7 [Own.of (.slice A0 l0.length c0) 53 l0, Own.all LT] := hS40
    refine hK19 [(0, (.slice A0 l0.length c0)), (2, vI x2), (4, .func (.func 41) #[] #[]), (14, vI z9)] w7 ?_ a hF
    refine ws fun K24 hK24 => ?_
    refine ws fun K25 hK25 => ?_
    refine wr [(0, 0), (1, 0)] ?_
    refine gb0 [0, 1] [(17, vI x2), (107, vI x2)] ?_
    refine gn hK25 ?_
    refine we_block ?_
    have hS41 := hS40.bring 1 rfl
    have hS42 := hS41.bring 1 rfl
    rcases hq6 : iter (slices_symMergeCmpFunc_api_Come.r3 z9) K (x2, l0) with _ | (m6 | rr3)
    ·rw [hq6] at h; cases h
    ·rw [hq6] at h
     simp only [] at h
     refine we_iter (A := slices_symMergeCmpFunc_api_Come.A3 w0 l0 A0 c0 LT z9) (B := slices_symMergeCmpFunc_api_Come.B3 w0 l0 A0 c0 x1 x2 x3 LT) hq6 (fun a hF => ⟨rfl, hS42, hF.weaken ea⟩) (fun s o hf a w hA Q hQ => slices_symMergeCmpFunc_api_Come_r3 K w0 l0 A0 c0 x1 x2 x3 LT recf hrec hc1 hc9 z9 s o hf a w hA Q hQ) ?_
     rintro _ a w10 _ ⟨rfl, hRz2, hS54, hF⟩
     replace hS54 : St w0 w10 [Own.of (.slice A0 m6.length c0) 53 m6, Own.all LT] := hS54
     refine hK24 [(0, (.slice A0 m6.length c0)), (4, .func (.func 41) #[] #[])] w10 ?_ a hF
     have hS55 := hS54.bring 1 rfl
     have hS56 := hS55.bring 1 rfl
     obtain rfl := si h
     exact we_ret (pr0 [] [] ⟨rfl, hRz2, hS56⟩)
    ·rw [hq6] at h
     simp only [] at h
     refine we_iter (A := slices_symMergeCmpFunc_api_Come.A3 w0 l0 A0 c0 LT z9) (B := slices_symMergeCmpFunc_api_Come.B3 w0 l0 A0 c0 x1 x2 x3 LT) hq6 (fun a hF => ⟨rfl, hS42, hF.weaken ea⟩) (fun s o hf a w hA Q hQ => slices_symMergeCmpFunc_api_Come_r3 K w0 l0 A0 c0 x1 x2 x3 LT recf hrec hc1 hc9 z9 s o hf a w hA Q hQ) ?_
     rintro _ a w1 _ ⟨rfl, hb⟩
     obtain rfl := si h
     exact hb
   ·rw [hq5] at h
    simp only [] at h
    refine we_iter (A := slices_symMergeCmpFunc_api_Come.A2 w0 l0 A0 c0 x2 LT) (B := slices_symMergeCmpFunc_api_Come.B2 w0 l0 A0 c0 x1 x2 x3 LT) hq5 (fun a hF => ⟨hS30, hF.weaken ea⟩) (fun s o hf a w hA Q hQ => slices_symMergeCmpFunc_api_Come_r2 K w0 l0 A0 c0 x1 x2 x3 LT recf hrec hc1 hc9 s o hf a w hA Q hQ) ?_
    rintro _ a w1 _ ⟨rfl, hb⟩
    obtain rfl := si h
    exact hb
  ·rw [if_neg hc9] at h
   refine wk 80 ((IntKind.i64.wrap (x3 - x2)) == 1) false (beq_eq_false_iff_ne.2 hc9) ?_
   refine we_false (by kernel_rfl) ?_
   refine we_skip fun a hF => hK15 _ _ ?_ a hF
   refine ws fun K29 hK29 => ?_
   refine wr [(0, 0), (1, 0), (2, 0), (3, 0), (4, 0), (5, 0), (6, 0)] ?_
   refine gb0 [0, 1, 2, 3, 4, 5, 6] [(18, vI (IntKind.i64.wrap (Int.fdiv (IntKind.u64.wrap (IntKind.i64.wrap (x1 + x3))) (2 ^ 1)))), (134, vI (IntKind.i64.wrap (Int.fdiv (IntKind.u64.wrap (IntKind.i64.wrap (x1 + x3))) (2 ^ 1)))), (133, .int .u64 (Int.fdiv (IntKind.u64.wrap (IntKind.i64.wrap (x1 + x3))) (2 ^ 1))), (132, .int .u64 (IntKind.u64.wrap (IntKind.i64.wrap (x1 + x3)))), (131, vI (IntKind.i64.wrap (x1 + x3))), (130, vI x3), (129, vI x1)] ?_
   refine gn hK29 ?_
   refine ws fun K30 hK30 => ?_
   refine wr [(0, 0), (1, 0), (2, 0), (3, 0)] ?_
   refine gb0 [0, 1, 2, 3] [(19, vI (IntKind.i64.wrap ((IntKind.i64.wrap (Int.fdiv (IntKind.u64.wrap (IntKind.i64.wrap (x1 + x3))) (2 ^ 1))) + x2))), (137, vI (IntKind.i64.wrap ((IntKind.i64.wrap (Int.fdiv (IntKind.u64.wrap (IntKind.i64.wrap (x1 + x3))) (2 ^ 1))) + x2))), (136, vI x2), (135, vI (IntKind.i64.wrap (Int.fdiv (IntKind.u64.wrap (IntKind.i64.wrap (x1 + x3))) (2 ^ 1))))] ?_
   refine gn hK30 ?_
   refine ws fun K31 hK31 => ?_
   refine wr [(0, 0), (1, 0)] ?_
   refine gb0 [0, 1] [(21, vI 0), (20, vI 0)] ?_
   refine gn hK31 ?_
   refine ws fun K32 hK32 => ?_
   rcases hq7 : slices_symMergeCmpFunc_api_Come.p4 x1 x2 x3 with _ | (⟨z13, z14⟩ | rr7)
   ·rw [hq7] at h; cases h
   ·rw [hq7] at h
    simp only [] at h
    refine we_keep (e' := [(0, (.slice A0 l0.length c0)), (1, vI x1), (2, vI x2), (3, vI x3), (4, .func (.func 41) #[] #[]), (18, vI (IntKind.i64.wrap (Int.fdiv (IntKind.u64.wrap (IntKind.i64.wrap (x1 + x3))) (2 ^ 1)))), (19, vI (IntKind.i64.wrap ((IntKind.i64.wrap (Int.fdiv (IntKind.u64.wrap (IntKind.i64.wrap (x1 + x3))) (2 ^ 1))) + x2))), (20, vI 0), (21, vI 0), (25, vI x2), (26, vI x1), (27, vI (IntKind.i64.wrap (x2 - x1))), (28, .bool false), (77, vI x3), (78, vI x2), (79, vI (IntKind.i64.wrap (x3 - x2))), (80, .bool false), (129, vI x1), (130, vI x3), (131, vI (IntKind.i64.wrap (x1 + x3))), (132, .int .u64 (IntKind.u64.wrap (IntKind.i64.wrap (x1 + x3)))), (133, .int .u64 (Int.fdiv (IntKind.u64.wrap (IntKind.i64.wrap (x1 + x3))) (2 ^ 1))), (134, vI (IntKind.i64.wrap (Int.fdiv (IntKind.u64.wrap (IntKind.i64.wrap (x1 + x3))) (2 ^ 1)))), (135, vI (IntKind.i64.wrap (Int.fdiv (IntKind.u64.wrap (IntKind.i64.wrap (x1 + x3))) (2 ^ 1)))), (136, vI x2), (137, vI (IntKind.i64.wrap ((IntKind.i64.wrap (Int.fdiv (IntKind.u64.wrap (IntKind.i64.wrap (x1 + x3))) (2 ^ 1))) + x2)))]) ea (slices_symMergeCmpFunc_api_Come_p4 K w0 l0 A0 c0 x1 x2 x3 LT recf hrec hc1 hc9 _ hq7 _ hS _ ?_)
    rintro _ a w11 ⟨rfl, hS61, hF⟩
    replace hS61 : St w0 w11 [Own.of (.slice A0 l0.length c0) 53 l0, Own.all LT] := hS61
    refine hK32 [(0, (.slice A0 l0.length c0)), (1, vI x1), (2, vI x2), (3, vI x3), (4, .func (.func 41) #[] #[]), (18, vI (IntKind.i64.wrap (Int.fdiv (IntKind.u64.wrap (IntKind.i64.wrap (x1 + x3))) (2 ^ 1)))), (19, vI (IntKind.i64.wrap ((IntKind.i64.wrap (Int.fdiv (IntKind.u64.wrap (IntKind.i64.wrap (x1 + x3))) (2 ^ 1))) + x2))), (20, vI z13), (21, vI z14)] w11 ?_ a hF
    refine ws fun K36 hK36 => ?_
    refine wr [(0, 0), (1, 0), (2, 0)] ?_
    refine gb0 [0, 1, 2] [(22, vI (IntKind.i64.wrap ((IntKind.i64.wrap ((IntKind.i64.wrap (Int.fdiv (IntKind.u64.wrap (IntKind.i64.wrap (x1 + x3))) (2 ^ 1))) + x2)) - 1))), (148, vI (IntKind.i64.wrap ((IntKind.i64.wrap ((IntKind.i64.wrap (Int.fdiv (IntKind.u64.wrap (IntKind.i64.wrap (x1 + x3))) (2 ^ 1))) + x2)) - 1))), (147, vI (IntKind.i64.wrap ((IntKind.i64.wrap (Int.fdiv (IntKind.u64.wrap (IntKind.i64.wrap (x1 + x3))) (2 ^ 1))) + x2)))] ?_
    refine gn hK36 ?_
    refine ws fun K37 hK37 => ?_
    refine we_block ?_
    have hS62 := hS61.bring 1 rfl
    have hS63 := hS62.bring 1 rfl
    rcases hq9 : iter (slices_symMergeCmpFunc_api_Come.r5 l0 x1 x2 x3) K (z13, z14) with _ | (z18 | rr6)
    ·rw [hq9] at h; cases h
    ·rw [hq9] at h
     simp only [] at h
     refine we_iter (A := slices_symMergeCmpFunc_api_Come.A5 w0 l0 A0 c0 x1 x2 x3 LT) (B := slices_symMergeCmpFunc_api_Come.B5 w0 l0 A0 c0 x1 x2 x3 LT) hq9 (fun a hF => ⟨hS63, hF.weaken ea⟩) (fun s o hf a w hA Q hQ => slices_symMergeCmpFunc_api_Come_r5 K w0 l0 A0 c0 x1 x2 x3 LT recf hrec hc1 hc9 z13 z14 s o hf a w hA Q hQ) ?_
     rintro _ a w13 _ ⟨rfl, hS73, hF⟩
     replace hS73 : St w0 w13 [Own.of (.slice A0 l0.length c0) 53 l0, Own.all LT] := hS73
     refine hK37 [(0, (.slice A0 l0.length c0)), (1, vI x1), (2, vI x2), (3, vI x3), (4, .func (.func 41) #[] #[]), (18, vI (IntKind.i64.wrap (Int.fdiv (IntKind.u64.wrap (IntKind.i64.wrap (x1 + x3))) (2 ^ 1)))), (19, vI (IntKind.i64.wrap ((IntKind.i64.wrap (Int.fdiv (IntKind.u64.wrap (IntKind.i64.wrap (x1 + x3))) (2 ^ 1))) + x2))), (20, vI z18)] w13 ?_ a hF
     refine ws fun K42 hK42 => ?_
     refine wr [(0, 0), (1, 0), (2, 0), (3, 0)] ?_
     refine gb0 [0, 1, 2, 3] [(24, vI (IntKind.i64.wrap ((IntKind.i64.wrap ((IntKind.i64.wrap (Int.fdiv (IntKind.u64.wrap (IntKind.i64.wrap (x1 + x3))) (2 ^ 1))) + x2)) - z18))), (177, vI (IntKind.i64.wrap ((IntKind.i64.wrap ((IntKind.i64.wrap (Int.fdiv (IntKind.u64.wrap (IntKind.i64.wrap (x1 + x3))) (2 ^ 1))) + x2)) - z18))), (176, vI z18), (175, vI (IntKind.i64.wrap ((IntKind.i64.wrap (Int.fdiv (IntKind.u64.wrap (IntKind.i64.wrap (x1 + x3))) (2 ^ 1))) + x2)))] ?_
     refine gn hK42 ?_
     refine ws fun K43 hK43 => ?_
     rcases hq11 : slices_symMergeCmpFunc_api_Come.p6 K l0 x1 x2 x3 z18 with _ | (m8 | rr5)
     ·rw [hq11] at h; cases h
     ·rw [hq11] at h
      simp only [] at h
      refine we_keep (e' := [(0, (.slice A0 l0.length c0)), (1, vI x1), (2, vI x2), (3, vI x3), (4, .func (.func 41) #[] #[]), (18, vI (IntKind.i64.wrap (Int.fdiv (IntKind.u64.wrap (IntKind.i64.wrap (x1 + x3))) (2 ^ 1)))), (19, vI (IntKind.i64.wrap ((IntKind.i64.wrap (Int.fdiv (IntKind.u64.wrap (IntKind.i64.wrap (x1 + x3))) (2 ^ 1))) + x2))), (20, vI z18), (24, vI (IntKind.i64.wrap ((IntKind.i64.wrap ((IntKind.i64.wrap (Int.fdiv (IntKind.u64.wrap (IntKind.i64.wrap (x1 + x3))) (2 ^ 1))) + x2)) - z18))), (175, vI (IntKind.i64.wrap ((IntKind.i64.wrap (Int.fdiv (IntKind.u64.wrap (IntKind.i64.wrap (x1 + x3))) (2 ^ 1))) + x2))), (176, vI z18), (177, vI (IntKind.i64.wrap ((IntKind.i64.wrap ((IntKind.i64.wrap (Int.fdiv (IntKind.u64.wrap (IntKind.i64.wrap (x1 + x3))) (2 ^ 1))) + x2)) - z18)))]) ea (slices_symMergeCmpFunc_api_Come_p6 K w0 l0 A0 c0 x1 x2 x3 LT recf hrec hc1 hc9 z13 z14 z18 _ hq11 _ hS73 _ ?_)
      rintro _ a w15 ⟨rfl, hRz3, hS83, hF⟩
      replace hS83 : St w0 w15 [Own.of (.slice A0 m8.length c0) 53 m8, Own.all LT] := hS83
      refine hK43 [(0, (.slice A0 m8.length c0)), (1, vI x1), (3, vI x3), (4, .func (.func 41) #[] #[]), (18, vI (IntKind.i64.wrap (Int.fdiv (IntKind.u64.wrap (IntKind.i64.wrap (x1 + x3))) (2 ^ 1)))), (20, vI z18), (24, vI (IntKind.i64.wrap ((IntKind.i64.wrap ((IntKind.i64.wrap (Int.fdiv (IntKind.u64.wrap (IntKind.i64.wrap (x1 + x3))) (2 ^ 1))) + x2)) - z18)))] w15 ?_ a hF
      refine ws fun K45 hK45 => ?_
      refine ws fun K46 hK46 => ?_
      refine wr [(0, 0), (1, 0), (2, 0), (3, 0), (4, 0), (5, 0), (6, 0), (7, 0)] ?_
      refine gb0 [0, 1, 2, 3] [(195, .bool (decide (x1 < z18))), (194, .bool (decide (x1 < z18))), (193, vI z18), (192, vI x1)] ?_
      by_cases hc24 : x1 < z18
      ·rw [if_pos hc24] at h
       refine gk 195 (decide (x1 < z18)) true (decide_eq_true hc24) ?_
       refine gb0 [4, 5, 6, 7] [(199, .bool (decide (z18 < (IntKind.i64.wrap (Int.fdiv (IntKind.u64.wrap (IntKind.i64.wrap (x1 + x3))) (2 ^ 1)))))), (198, .bool (decide (z18 < (IntKind.i64.wrap (Int.fdiv (IntKind.u64.wrap (IntKind.i64.wrap (x1 + x3))) (2 ^ 1)))))), (197, vI (IntKind.i64.wrap (Int.fdiv (IntKind.u64.wrap (IntKind.i64.wrap (x1 + x3))) (2 ^ 1)))), (196, vI z18)] ?_
       refine gn hK46 ?_
       by_cases hc25 : z18 < (IntKind.i64.wrap (Int.fdiv (IntKind.u64.wrap (IntKind.i64.wrap (x1 + x3))) (2 ^ 1)))
       ·rw [if_pos hc25] at h
        refine wk 199 (decide (z18 < (IntKind.i64.wrap (Int.fdiv (IntKind.u64.wrap (IntKind.i64.wrap (x1 + x3))) (2 ^ 1))))) true (decide_eq_true hc25) ?_
        refine we_true (by kernel_rfl) ?_
        refine wr [(0, 0), (1, 0), (2, 0), (3, 0), (4, 0), (5, 2)] ?_
        refine gb0 [0, 1, 2, 3, 4] [(204, .func (.func 41) #[] #[]), (203, vI (IntKind.i64.wrap (Int.fdiv (IntKind.u64.wrap (IntKind.i64.wrap (x1 + x3))) (2 ^ 1)))), (202, vI z18), (201, vI x1), (200, (.slice A0 m8.length c0))] ?_
        rcases hq12 : recf m8 x1 z18 (IntKind.i64.wrap (Int.fdiv (IntKind.u64.wrap (IntKind.i64.wrap (x1 + x3))) (2 ^ 1))) with _ | r2
        ·rw [hq12] at h; cases h
        rw [hq12] at h
        simp only [] at h
        have hS85 : St w0 w15 [Own.of (.slice A0 m8.length c0) 53 m8, Own.all [Own.all LT]] := hS83.packN 1
        refine ge_call2 (m := 0) (d := some 205) (f := 68) (args := #[.slice A0 m8.length c0, vI x1, vI z18, vI (IntKind.i64.wrap (Int.fdiv (IntKind.u64.wrap (IntKind.i64.wrap (x1 + x3))) (2 ^ 1))), .func (.func 41) #[] #[]]) (by kernel_rfl) (hrec m8 A0 c0 x1 z18 (IntKind.i64.wrap (Int.fdiv (IntKind.u64.wrap (IntKind.i64.wrap (x1 + x3))) (2 ^ 1))) _ _ _ hS85 _ hq12) ?_
        rintro _ w16 ⟨rfl, hE6, hS84⟩
        refine ⟨_, rfl, ?_⟩
        have hS86 : St w0 w16 [Own.of (.slice A0 r2.length c0) 53 r2, Own.all LT] := hS84.unpack [Own.of (.slice A0 r2.length c0) 53 r2]
        refine ge_same (t := 0) (v := (.slice A0 m8.length c0)) (v' := (.slice A0 r2.length c0)) (by kernel_rfl) (by rw [show m8.length = r2.length from hE6]) ?_
        refine ge_same (t := 200) (v := (.slice A0 m8.length c0)) (v' := (.slice A0 r2.length c0)) (by kernel_rfl) (by rw [show m8.length = r2.length from hE6]) ?_
        have hLio7 : l0.length = r2.length := Eq.trans hRz3 hE6
        refine gn hK45 ?_
        refine ws fun K47 hK47 => ?_
        refine wr [(0, 0), (1, 0), (2, 0), (3, 0), (4, 0), (5, 0), (6, 0), (7, 0)] ?_
        refine gb0 [0, 1, 2, 3] [(209, .bool (decide ((IntKind.i64.wrap (Int.fdiv (IntKind.u64.wrap (IntKind.i64.wrap (x1 + x3))) (2 ^ 1))) < (IntKind.i64.wrap ((IntKind.i64.wrap ((IntKind.i64.wrap (Int.fdiv (IntKind.u64.wrap (IntKind.i64.wrap (x1 + x3))) (2 ^ 1))) + x2)) - z18))))), (208, .bool (decide ((IntKind.i64.wrap (Int.fdiv (IntKind.u64.wrap (IntKind.i64.wrap (x1 + x3))) (2 ^ 1))) < (IntKind.i64.wrap ((IntKind.i64.wrap ((IntKind.i64.wrap (Int.fdiv (IntKind.u64.wrap (IntKind.i64.wrap (x1 + x3))) (2 ^ 1))) + x2)) - z18))))), (207, vI (IntKind.i64.wrap ((IntKind.i64.wrap ((IntKind.i64.wrap (Int.fdiv (IntKind.u64.wrap (IntKind.i64.wrap (x1 + x3))) (2 ^ 1))) + x2)) - z18))), (206, vI (IntKind.i64.wrap (Int.fdiv (IntKind.u64.wrap (IntKind.i64.wrap (x1 + x3))) (2 ^ 1))))] ?_
        by_cases hc26 : (IntKind.i64.wrap (Int.fdiv (IntKind.u64.wrap (IntKind.i64.wrap (x1 + x3))) (2 ^ 1))) < (IntKind.i64.wrap ((IntKind.i64.wrap ((IntKind.i64.wrap (Int.fdiv (IntKind.u64.wrap (IntKind.i64.wrap (x1 + x3))) (2 ^ 1))) + x2)) - z18))
        ·rw [if_pos hc26] at h
         refine gk 209 (decide ((IntKind.i64.wrap (Int.fdiv (IntKind.u64.wrap (IntKind.i64.wrap (x1 + x3))) (2 ^ 1))) < (IntKind.i64.wrap ((IntKind.i64.wrap ((IntKind.i64.wrap (Int.fdiv (IntKind.u64.wrap (IntKind.i64.wrap (x1 + x3))) (2 ^ 1))) + x2)) - z18)))) true (decide_eq_true hc26) ?_
         refine gb0 [4, 5, 6, 7] [(213, .bool (decide ((IntKind.i64.wrap ((IntKind.i64.wrap ((IntKind.i64.wrap (Int.fdiv (IntKind.u64.wrap (IntKind.i64.wrap (x1 + x3))) (2 ^ 1))) + x2)) - z18)) < x3))), (212, .bool (decide ((IntKind.i64.wrap ((IntKind.i64.wrap ((IntKind.i64.wrap (Int.fdiv (IntKind.u64.wrap (IntKind.i64.wrap (x1 + x3))) (2 ^ 1))) + x2)) - z18)) < x3))), (211, vI x3), (210, vI (IntKind.i64.wrap ((IntKind.i64.wrap ((IntKind.i64.wrap (Int.fdiv (IntKind.u64.wrap (IntKind.i64.wrap (x1 + x3))) (2 ^ 1))) + x2)) - z18)))] ?_
         refine gn hK47 ?_
         by_cases hc27 : (IntKind.i64.wrap ((IntKind.i64.wrap ((IntKind.i64.wrap (Int.fdiv (IntKind.u64.wrap (IntKind.i64.wrap (x1 + x3))) (2 ^ 1))) + x2)) - z18)) < x3
         ·rw [if_pos hc27] at h
          refine wk 213 (decide ((IntKind.i64.wrap ((IntKind.i64.wrap ((IntKind.i64.wrap (Int.fdiv (IntKind.u64.wrap (IntKind.i64.wrap (x1 + x3))) (2 ^ 1))) + x2)) - z18)) < x3)) true (decide_eq_true hc27) ?_
          refine we_true (by kernel_rfl) ?_
          refine wr [(0, 0), (1, 0), (2, 0), (3, 0), (4, 0), (5, 2)] ?_
          refine gb0 [0, 1, 2, 3, 4] [(218, .func (.func 41) #[] #[]), (217, vI x3), (216, vI (IntKind.i64.wrap ((IntKind.i64.wrap ((IntKind.i64.wrap (Int.fdiv (IntKind.u64.wrap (IntKind.i64.wrap (x1 + x3))) (2 ^ 1))) + x2)) - z18))), (215, vI (IntKind.i64.wrap (Int.fdiv (IntKind.u64.wrap (IntKind.i64.wrap (x1 + x3))) (2 ^ 1)))), (214, (.slice A0 r2.length c0))] ?_
          rcases hq13 : recf r2 (IntKind.i64.wrap (Int.fdiv (IntKind.u64.wrap (IntKind.i64.wrap (x1 + x3))) (2 ^ 1))) (IntKind.i64.wrap ((IntKind.i64.wrap ((IntKind.i64.wrap (Int.fdiv (IntKind.u64.wrap (IntKind.i64.wrap (x1 + x3))) (2 ^ 1))) + x2)) - z18)) x3 with _ | r3
          ·rw [hq13] at h; cases h
          rw [hq13] at h
          simp only [] at h
          have hS88 : St w0 w16 [Own.of (.slice A0 r2.length c0) 53 r2, Own.all [Own.all LT]] := hS86.packN 1
          refine ge_call2 (m := 0) (d := some 219) (f := 68) (args := #[.slice A0 r2.length c0, vI (IntKind.i64.wrap (Int.fdiv (IntKind.u64.wrap (IntKind.i64.wrap (x1 + x3))) (2 ^ 1))), vI (IntKind.i64.wrap ((IntKind.i64.wrap ((IntKind.i64.wrap (Int.fdiv (IntKind.u64.wrap (IntKind.i64.wrap (x1 + x3))) (2 ^ 1))) + x2)) - z18)), vI x3, .func (.func 41) #[] #[]]) (by kernel_rfl) (hrec r2 A0 c0 (IntKind.i64.wrap (Int.fdiv (IntKind.u64.wrap (IntKind.i64.wrap (x1 + x3))) (2 ^ 1))) (IntKind.i64.wrap ((IntKind.i64.wrap ((IntKind.i64.wrap (Int.fdiv (IntKind.u64.wrap (IntKind.i64.wrap (x1 + x3))) (2 ^ 1))) + x2)) - z18)) x3 _ _ _ hS88 _ hq13) ?_
          rintro _ w17 ⟨rfl, hE7, hS87⟩
          refine ⟨_, rfl, ?_⟩
          have hS89 : St w0 w17 [Own.of (.slice A0 r3.length c0) 53 r3, Own.all LT] := hS87.unpack [Own.of (.slice A0 r3.length c0) 53 r3]
          refine ge_same (t := 0) (v := (.slice A0 r2.length c0)) (v' := (.slice A0 r3.length c0)) (by kernel_rfl) (by rw [show r2.length = r3.length from hE7]) ?_
          refine ge_same (t := 200) (v := (.slice A0 r2.length c0)) (v' := (.slice A0 r3.length c0)) (by kernel_rfl) (by rw [show r2.length = r3.length from hE7]) ?_
          refine ge_same (t := 214) (v := (.slice A0 r2.length c0)) (v' := (.slice A0 r3.length c0)) (by kernel_rfl) (by rw [show r2.length = r3.length from hE7]) ?_
          have hLio8 : l0.length = r3.length := Eq.trans hLio7 hE7
          have hS90 := hS89.bring 1 rfl
          have hS91 := hS90.bring 1 rfl
          obtain rfl := si h
          exact ge_nil (pe0 [] [] ⟨rfl, hLio8, hS91⟩)
         ·rw [if_neg hc27] at h
          refine wk 213 (decide ((IntKind.i64.wrap ((IntKind.i64.wrap ((IntKind.i64.wrap (Int.fdiv (IntKind.u64.wrap (IntKind.i64.wrap (x1 + x3))) (2 ^ 1))) + x2)) - z18)) < x3)) false (decide_eq_false hc27) ?_
          refine we_false (by kernel_rfl) ?_
          have hS92 := hS86.bring 1 rfl
          have hS93 := hS92.bring 1 rfl
          obtain rfl := si h
          exact we_skip (pe0 [] [] ⟨rfl, hLio7, hS93⟩)
        ·rw [if_neg hc26] at h
         refine gk 209 (decide ((IntKind.i64.wrap (Int.fdiv (IntKind.u64.wrap (IntKind.i64.wrap (x1 + x3))) (2 ^ 1))) < (IntKind.i64.wrap ((IntKind.i64.wrap ((IntKind.i64.wrap (Int.fdiv (IntKind.u64.wrap (IntKind.i64.wrap (x1 + x3))) (2 ^ 1))) + x2)) - z18)))) false (decide_eq_false hc26) ?_
         refine gb0 [4, 5, 6, 7] [(213, .bool false), (212, undef), (211, undef), (210, undef)] ?_
         refine gn hK47 ?_
         refine we_false (by kernel_rfl) ?_
         have hS94 := hS86.bring 1 rfl
         have hS95 := hS94.bring 1 rfl
         obtain rfl := si h
         exact we_skip (pe0 [] [] ⟨rfl, hLio7, hS95⟩)
       ·rw [if_neg hc25] at h
        refine wk 199 (decide (z18 < (IntKind.i64.wrap (Int.fdiv (IntKind.u64.wrap (IntKind.i64.wrap (x1 + x3))) (2 ^ 1))))) false (decide_eq_false hc25) ?_
        refine we_false (by kernel_rfl) ?_
        refine we_skip fun a hF => hK45 _ _ ?_ a hF
        refine ws fun K48 hK48 => ?_
        refine wr [(0, 0), (1, 0), (2, 0), (3, 0), (4, 0), (5, 0), (6, 0), (7, 0)] ?_
        refine gb0 [0, 1, 2, 3] [(209, .bool (decide ((IntKind.i64.wrap (Int.fdiv (IntKind.u64.wrap (IntKind.i64.wrap (x1 + x3))) (2 ^ 1))) < (IntKind.i64.wrap ((IntKind.i64.wrap ((IntKind.i64.wrap (Int.fdiv (IntKind.u64.wrap (IntKind.i64.wrap (x1 + x3))) (2 ^ 1))) + x2)) - z18))))), (208, .bool (decide ((IntKind.i64.wrap (Int.fdiv (IntKind.u64.wrap (IntKind.i64.wrap (x1 + x3))) (2 ^ 1))) < (IntKind.i64.wrap ((IntKind.i64.wrap ((IntKind.i64.wrap (Int.fdiv (IntKind.u64.wrap (IntKind.i64.wrap (x1 + x3))) (2 ^ 1))) + x2)) - z18))))), (207, vI (IntKind.i64.wrap ((IntKind.i64.wrap ((IntKind.i64.wrap (Int.fdiv (IntKind.u64.wrap (IntKind.i64.wrap (x1 + x3))) (2 ^ 1))) + x2)) - z18))), (206, vI (IntKind.i64.wrap (Int.fdiv (IntKind.u64.wrap (IntKind.i64.wrap (x1 + x3))) (2 ^ 1))))] ?_
        by_cases hc28 : (IntKind.i64.wrap (Int.fdiv (IntKind.u64.wrap (IntKind.i64.wrap (x1 + x3))) (2 ^ 1))) < (IntKind.i64.wrap ((IntKind.i64.wrap ((IntKind.i64.wrap (Int.fdiv (IntKind.u64.wrap (IntKind.i64.wrap (x1 + x3))) (2 ^ 1))) + x2)) - z18))
        ·rw [if_pos hc28] at h
         refine gk 209 (decide ((IntKind.i64.wrap (Int.fdiv (IntKind.u64.wrap (IntKind.i64.wrap (x1 + x3))) (2 ^ 1))) < (IntKind.i64.wrap ((IntKind.i64.wrap ((IntKind.i64.wrap (Int.fdiv (IntKind.u64.wrap (IntKind.i64.wrap (x1 + x3))) (2 ^ 1))) + x2)) - z18)))) true (decide_eq_true hc28) ?_
         refine gb0 [4, 5, 6, 7] [(213, .bool (decide ((IntKind.i64.wrap ((IntKind.i64.wrap ((IntKind.i64.wrap (Int.fdiv (IntKind.u64.wrap (IntKind.i64.wrap (x1 + x3))) (2 ^ 1))) + x2)) - z18)) < x3))), (212, .bool (decide ((IntKind.i64.wrap ((IntKind.i64.wrap ((IntKind.i64.wrap (Int.fdiv (IntKind.u64.wrap (IntKind.i64.wrap (x1 + x3))) (2 ^ 1))) + x2)) - z18)) < x3))), (211, vI x3), (210, vI (IntKind.i64.wrap ((IntKind.i64.wrap ((IntKind.i64.wrap (Int.fdiv (IntKind.u64.wrap (IntKind.i64.wrap (x1 + x3))) (2 ^ 1))) + x2)) - z18)))] ?_
         refine gn hK48 ?_
         by_cases hc29 : (IntKind.i64.wrap ((IntKind.i64.wrap ((IntKind.i64.wrap (Int.fdiv (IntKind.u64.wrap (IntKind.i64.wrap (x1 + x3))) (2 ^ 1))) + x2)) - z18)) < x3
         ·rw [if_pos hc29] at h
          refine wk 213 (decide ((IntKind.i64.wrap ((IntKind.i64.wrap ((IntKind.i64.wrap (Int.fdiv (IntKind.u64.wrap (IntKind.i64.wrap (x1 + x3))) (2 ^ 1))) + x2)) - z18)) < x3)) true (decide_eq_true hc29) ?_
          refine we_true (by kernel_rfl) ?_
          refine wr [(0, 0), (1, 0), (2, 0), (3, 0), (4, 0), (5, 2)] ?_
          refine gb0 [0, 1, 2, 3, 4] [(218, .func (.func 41) #[] #[]), (217, vI x3), (216, vI (IntKind.i64.wrap ((IntKind.i64.wrap ((IntKind.i64.wrap (Int.fdiv (IntKind.u64.wrap (IntKind.i64.wrap (x1 + x3))) (2 ^ 1))) + x2)) - z18))), (215, vI (IntKind.i64.wrap (Int.fdiv (IntKind.u64.wrap (IntKind.i64.wrap (x1 + x3))) (2 ^ 1)))), (214, (.slice A0 m8.length c0))] ?_
          rcases hq14 : recf m8 (IntKind.i64.wrap (Int.fdiv (IntKind.u64.wrap (IntKind.i64.wrap (x1 + x3))) (2 ^ 1))) (IntKind.i64.wrap ((IntKind.i64.wrap ((IntKind.i64.wrap (Int.fdiv (IntKind.u64.wrap (IntKind.i64.wrap (x1 + x3))) (2 ^ 1))) + x2)) - z18)) x3 with _ | r4
          ·rw [hq14] at h; cases h
          rw [hq14] at h
          simp only [] at h
          have hS97 : St w0 w15 [Own.of (.slice A0 m8.length c0) 53 m8, Own.all [Own.all LT]] := hS83.packN 1
          refine ge_call2 (m := 0) (d := some 219) (f := 68) (args := #[.slice A0 m8.length c0, vI (IntKind.i64.wrap (Int.fdiv (IntKind.u64.wrap (IntKind.i64.wrap (x1 + x3))) (2 ^ 1))), vI (IntKind.i64.wrap ((IntKind.i64.wrap ((IntKind.i64.wrap (Int.fdiv (IntKind.u64.wrap (IntKind.i64.wrap (x1 + x3))) (2 ^ 1))) + x2)) - z18)), vI x3, .func (.func 41) #[] #[]]) (by kernel_rfl) (hrec m8 A0 c0 (IntKind.i64.wrap (Int.fdiv (IntKind.u64.wrap (IntKind.i64.wrap (x1 + x3))) (2 ^ 1))) (IntKind.i64.wrap ((IntKind.i64.wrap ((IntKind.i64.wrap (Int.fdiv (IntKind.u64.wrap (IntKind.i64.wrap (x1 + x3))) (2 ^ 1))) + x2)) - z18)) x3 _ _ _ hS97 _ hq14) ?_
          rintro _ w18 ⟨rfl, hE8, hS96⟩
          refine ⟨_, rfl, ?_⟩
          have hS98 : St w0 w18 [Own.of (.slice A0 r4.length c0) 53 r4, Own.all LT] := hS96.unpack [Own.of (.slice A0 r4.length c0) 53 r4]
          refine ge_same (t := 0) (v := (.slice A0 m8.length c0)) (v' := (.slice A0 r4.length c0)) (by kernel_rfl) (by rw [show m8.length = r4.length from hE8]) ?_
          refine ge_same (t := 214) (v := (.slice A0 m8.length c0)) (v' := (.slice A0 r4.length c0)) (by kernel_rfl) (by rw [show m8.length = r4.length from hE8]) ?_
          have hLio9 : l0.length = r4.length := Eq.trans hRz3 hE8
          have hS99 := hS98.bring 1 rfl
          have hS100 := hS99.bring 1 rfl
          obtain rfl := si h
          exact ge_nil (pe0 [] [] ⟨rfl, hLio9, hS100⟩)
         ·rw [if_neg hc29] at h
          refine wk 213 (decide ((IntKind.i64.wrap ((IntKind.i64.wrap ((IntKind.i64.wrap (Int.fdiv (IntKind.u64.wrap (IntKind.i64.wrap (x1 + x3))) (2 ^ 1))) + x2)) - z18)) < x3)) false (decide_eq_false hc29) ?_
          refine we_false (by kernel_rfl) ?_
          have hS101 := hS83.bring 1 rfl
          have hS102 := hS101.bring 1 rfl
          obtain rfl := si h
          exact we_skip (pe0 [] [] ⟨rfl, hRz3, hS102⟩)
        ·rw [if_neg hc28] at h
         refine gk 209 (decide ((IntKind.i64.wrap (Int.fdiv (IntKind.u64.wrap (IntKind.i64.wrap (x1 + x3))) (2 ^ 1))) < (IntKind.i64.wrap ((IntKind.i64.wrap ((IntKind.i64.wrap (Int.fdiv (IntKind.u64.wrap (IntKind.i64.wrap (x1 + x3))) (2 ^ 1))) + x2)) - z18)))) false (decide_eq_false hc28) ?_
         refine gb0 [4, 5, 6, 7] [(213, .bool false), (212, undef), (211, undef), (210, undef)] ?_
         refine gn hK48 ?_
         refine we_false (by kernel_rfl) ?_
         have hS103 := hS83.bring 1 rfl
         have hS104 := hS103.bring 1 rfl
         obtain rfl := si h
         exact we_skip (pe0 [] [] ⟨rfl, hRz3, hS104⟩)
      ·rw [if_neg hc24] at h
       refine gk 195 (decide (x1 < z18)) false (decide_eq_false hc24) ?_
       refine gb0 [4, 5, 6, 7] [(199, .bool false), (198, undef), (197, undef), (196, undef)] ?_
       refine gn hK46 ?_
       refine we_false (by kernel_rfl) ?_
       refine we_skip fun a hF => hK45 _ _ ?_ a hF
       refine ws fun K49 hK49 => ?_
       refine wr [(0, 0), (1, 0), (2, 0), (3, 0), (4, 0), (5, 0), (6, 0), (7, 0)] ?_
       refine gb0 [0, 1, 2, 3] [(209, .bool (decide ((IntKind.i64.wrap (Int.fdiv (IntKind.u64.wrap (IntKind.i64.wrap (x1 + x3))) (2 ^ 1))) < (IntKind.i64.wrap ((IntKind.i64.wrap ((IntKind.i64.wrap (Int.fdiv (IntKind.u64.wrap (IntKind.i64.wrap (x1 + x3))) (2 ^ 1))) + x2)) - z18))))), (208, .bool (decide ((IntKind.i64.wrap (Int.fdiv (IntKind.u64.wrap (IntKind.i64.wrap (x1 + x3))) (2 ^ 1))) < (IntKind.i64.wrap ((IntKind.i64.wrap ((IntKind.i64.wrap (Int.fdiv (IntKind.u64.wrap (IntKind.i64.wrap (x1 + x3))) (2 ^ 1))) + x2)) - z18))))), (207, vI (IntKind.i64.wrap ((IntKind.i64.wrap ((IntKind.i64.wrap (Int.fdiv (IntKind.u64.wrap (IntKind.i64.wrap (x1 + x3))) (2 ^ 1))) + x2)) - z18))), (206, vI (IntKind.i64.wrap (Int.fdiv (IntKind.u64.wrap (IntKind.i64.wrap (x1 + x3))) (2 ^ 1))))] ?_
       by_cases hc30 : (IntKind.i64.wrap (Int.fdiv (IntKind.u64.wrap (IntKind.i64.wrap (x1 + x3))) (2 ^ 1))) < (IntKind.i64.wrap ((IntKind.i64.wrap ((IntKind.i64.wrap (Int.fdiv (IntKind.u64.wrap (IntKind.i64.wrap (x1 + x3))) (2 ^ 1))) + x2)) - z18))
       ·rw [if_pos hc30] at h
        refine gk 209 (decide ((IntKind.i64.wrap (Int.fdiv (IntKind.u64.wrap (IntKind.i64.wrap (x1 + x3))) (2 ^ 1))) < (IntKind.i64.wrap ((IntKind.i64.wrap ((IntKind.i64.wrap (Int.fdiv (IntKind.u64.wrap (IntKind.i64.wrap (x1 + x3))) (2 ^ 1))) + x2)) - z18)))) true (decide_eq_true hc30) ?_
        refine gb0 [4, 5, 6, 7] [(213, .bool (decide ((IntKind.i64.wrap ((IntKind.i64.wrap ((IntKind.i64.wrap (Int.fdiv (IntKind.u64.wrap (IntKind.i64.wrap (x1 + x3))) (2 ^ 1))) + x2)) - z18)) < x3))), (212, .bool (decide ((IntKind.i64.wrap ((IntKind.i64.wrap ((IntKind.i64.wrap (Int.fdiv (IntKind.u64.wrap (IntKind.i64.wrap (x1 + x3))) (2 ^ 1))) + x2)) - z18)) < x3))), (211, vI x3), (210, vI (IntKind.i64.wrap ((IntKind.i64.wrap ((IntKind.i64.wrap (Int.fdiv (IntKind.u64.wrap (IntKind.i64.wrap (x1 + x3))) (2 ^ 1))) + x2)) - z18)))] ?_
        refine gn hK49 ?_
        by_cases hc31 : (IntKind.i64.wrap ((IntKind.i64.wrap ((IntKind.i64.wrap (Int.fdiv (IntKind.u64.wrap (IntKind.i64.wrap (x1 + x3))) (2 ^ 1))) + x2)) - z18)) < x3
        ·rw [if_pos hc31] at h
         refine wk 213 (decide ((IntKind.i64.wrap ((IntKind.i64.wrap ((IntKind.i64.wrap (Int.fdiv (IntKind.u64.wrap (IntKind.i64.wrap (x1 + x3))) (2 ^ 1))) + x2)) - z18)) < x3)) true (decide_eq_true hc31) ?_
         refine we_true (by kernel_rfl) ?_
         refine wr [(0, 0), (1, 0), (2, 0), (3, 0), (4, 0), (5, 2)] ?_
         refine gb0 [0, 1, 2, 3, 4] [(218, .func (.func 41) #[] #[]), (217, vI x3), (216, vI (IntKind.i64.wrap ((IntKind.i64.wrap ((IntKind.i64.wrap (Int.fdiv (IntKind.u64.wrap (IntKind.i64.wrap (x1 + x3))) (2 ^ 1))) + x2)) - z18))), (215, vI (IntKind.i64.wrap (Int.fdiv (IntKind.u64.wrap (IntKind.i64.wrap (x1 + x3))) (2 ^ 1)))), (214, (.slice A0 m8.length c0))] ?_
         rcases hq15 : recf m8 (IntKind.i64.wrap (Int.fdiv (IntKind.u64.wrap (IntKind.i64.wrap (x1 + x3))) (2 ^ 1))) (IntKind.i64.wrap ((IntKind.i64.wrap ((IntKind.i64.wrap (Int.fdiv (IntKind.u64.wrap (IntKind.i64.wrap (x1 + x3))) (2 ^ 1))) + x2)) - z18)) x3 with _ | r5
         ·rw [hq15] at h; cases h
         rw [hq15] at h
         simp only [] at h
         have hS106 : St w0 w15 [Own.of (.slice A0 m8.length c0) 53 m8, Own.all [Own.all LT]] := hS83.packN 1
         refine ge_call2 (m := 0) (d := some 219) (f := 68) (args := #[.slice A0 m8.length c0, vI (IntKind.i64.wrap (Int.fdiv (IntKind.u64.wrap (IntKind.i64.wrap (x1 + x3))) (2 ^ 1))), vI (IntKind.i64.wrap ((IntKind.i64.wrap ((IntKind.i64.wrap (Int.fdiv (IntKind.u64.wrap (IntKind.i64.wrap (x1 + x3))) (2 ^ 1))) + x2)) - z18)), vI x3, .func (.func 41) #[] #[]]) (by kernel_rfl) (hrec m8 A0 c0 (IntKind.i64.wrap (Int.fdiv (IntKind.u64.wrap (IntKind.i64.wrap (x1 + x3))) (2 ^ 1))) (IntKind.i64.wrap ((IntKind.i64.wrap ((IntKind.i64.wrap (Int.fdiv (IntKind.u64.wrap (IntKind.i64.wrap (x1 + x3))) (2 ^ 1))) + x2)) - z18)) x3 _ _ _ hS106 _ hq15) ?_
         rintro _ w19 ⟨rfl, hE9, hS105⟩
         refine ⟨_, rfl, ?_⟩
         have hS107 : St w0 w19 [Own.of (.slice A0 r5.length c0) 53 r5, Own.all LT] := hS105.unpack [Own.of (.slice A0 r5.length c0) 53 r5]
         refine ge_same (t := 0) (v := (.slice A0 m8.length c0)) (v' := (.slice A0 r5.length c0)) (by kernel_rfl) (by rw [show m8.length = r5.length from hE9]) ?_
         refine ge_same (t := 214) (v := (.slice A0 m8.length c0)) (v' := (.slice A0 r5.length c0)) (by kernel_rfl) (by rw [show m8.length = r5.length from hE9]) ?_
         have hLio10 : l0.length = r5.length := Eq.trans hRz3 hE9
         have hS108 := hS107.bring 1 rfl
         have hS109 := hS108.bring 1 rfl
         obtain rfl := si h
         exact ge_nil (pe0 [] [] ⟨rfl, hLio10, hS109⟩)
        ·rw [if_neg hc31] at h
         refine wk 213 (decide ((IntKind.i64.wrap ((IntKind.i64.wrap ((IntKind.i64.wrap (Int.fdiv (IntKind.u64.wrap (IntKind.i64.wrap (x1 + x3))) (2 ^ 1))) + x2)) - z18)) < x3)) false (decide_eq_false hc31) ?_
         refine we_false (by kernel_rfl) ?_
         have hS110 := hS83.bring 1 rfl
         have hS111 := hS110.bring 1 rfl
         obtain rfl := si h
         exact we_skip (pe0 [] [] ⟨rfl, hRz3, hS111⟩)
       ·rw [if_neg hc30] at h
        refine gk 209 (decide ((IntKind.i64.wrap (Int.fdiv (IntKind.u64.wrap (IntKind.i64.wrap (x1 + x3))) (2 ^ 1))) < (IntKind.i64.wrap ((IntKind.i64.wrap ((IntKind.i64.wrap (Int.fdiv (IntKind.u64.wrap (IntKind.i64.wrap (x1 + x3))) (2 ^ 1))) + x2)) - z18)))) false (decide_eq_false hc30) ?_
        refine gb0 [4, 5, 6, 7] [(213, .bool false), (212, undef), (211, undef), (210, undef)] ?_
        refine gn hK49 ?_
        refine we_false (by kernel_rfl) ?_
        have hS112 := hS83.bring 1 rfl
        have hS113 := hS112.bring 1 rfl
        obtain rfl := si h
        exact we_skip (pe0 [] [] ⟨rfl, hRz3, hS113⟩)
     ·rw [hq11] at h
      simp only [] at h
      refine we_keep (e' := [(0, (.slice A0 l0.length c0)), (1, vI x1), (2, vI x2), (3, vI x3), (4, .func (.func 41) #[] #[]), (18, vI (IntKind.i64.wrap (Int.fdiv (IntKind.u64.wrap (IntKind.i64.wrap (x1 + x3))) (2 ^ 1)))), (19, vI (IntKind.i64.wrap ((IntKind.i64.wrap (Int.fdiv (IntKind.u64.wrap (IntKind.i64.wrap (x1 + x3))) (2 ^ 1))) + x2))), (20, vI z18), (24, vI (IntKind.i64.wrap ((IntKind.i64.wrap ((IntKind.i64.wrap (Int.fdiv (IntKind.u64.wrap (IntKind.i64.wrap (x1 + x3))) (2 ^ 1))) + x2)) - z18))), (175, vI (IntKind.i64.wrap ((IntKind.i64.wrap (Int.fdiv (IntKind.u64.wrap (IntKind.i64.wrap (x1 + x3))) (2 ^ 1))) + x2))), (176, vI z18), (177, vI (IntKind.i64.wrap ((IntKind.i64.wrap ((IntKind.i64.wrap (Int.fdiv (IntKind.u64.wrap (IntKind.i64.wrap (x1 + x3))) (2 ^ 1))) + x2)) - z18)))]) ea (slices_symMergeCmpFunc_api_Come_p6 K w0 l0 A0 c0 x1 x2 x3 LT recf hrec hc1 hc9 z13 z14 z18 _ hq11 _ hS73 _ ?_)
      rintro _ a w1 ⟨_, rfl, hb⟩
      obtain rfl := si h
      exact hb
    ·rw [hq9] at h
     simp only [] at h
     refine we_iter (A := slices_symMergeCmpFunc_api_Come.A5 w0 l0 A0 c0 x1 x2 x3 LT) (B := slices_symMergeCmpFunc_api_Come.B5 w0 l0 A0 c0 x1 x2 x3 LT) hq9 (fun a hF => ⟨hS63, hF.weaken ea⟩) (fun s o hf a w hA Q hQ => slices_symMergeCmpFunc_api_Come_r5 K w0 l0 A0 c0 x1 x2 x3 LT recf hrec hc1 hc9 z13 z14 s o hf a w hA Q hQ) ?_
     rintro _ a w1 _ ⟨rfl, hb⟩
     obtain rfl := si h
     exact hb
   ·rw [hq7] at h
    simp only [] at h
    refine we_keep (e' := [(0, (.slice A0 l0.length c0)), (1, vI x1), (2, vI x2), (3, vI x3), (4, .func (.func 41) #[] #[]), (18, vI (IntKind.i64.wrap (Int.fdiv (IntKind.u64.wrap (IntKind.i64.wrap (x1 + x3))) (2 ^ 1)))), (19, vI (IntKind.i64.wrap ((IntKind.i64.wrap (Int.fdiv (IntKind.u64.wrap (IntKind.i64.wrap (x1 + x3))) (2 ^ 1))) + x2))), (20, vI 0), (21, vI 0), (25, vI x2), (26, vI x1), (27, vI (IntKind.i64.wrap (x2 - x1))), (28, .bool false), (77, vI x3), (78, vI x2), (79, vI (IntKind.i64.wrap (x3 - x2))), (80, .bool false), (129, vI x1), (130, vI x3), (131, vI (IntKind.i64.wrap (x1 + x3))), (132, .int .u64 (IntKind.u64.wrap (IntKind.i64.wrap (x1 + x3)))), (133, .int .u64 (Int.fdiv (IntKind.u64.wrap (IntKind.i64.wrap (x1 + x3))) (2 ^ 1))), (134, vI (IntKind.i64.wrap (Int.fdiv (IntKind.u64.wrap (IntKind.i64.wrap (x1 + x3))) (2 ^ 1)))), (135, vI (IntKind.i64.wrap (Int.fdiv (IntKind.u64.wrap (IntKind.i64.wrap (x1 + x3))) (2 ^ 1)))), (136, vI x2), (137, vI (IntKind.i64.wrap ((IntKind.i64.wrap (Int.fdiv (IntKind.u64.wrap (IntKind.i64.wrap (x1 + x3))) (2 ^ 1))) + x2)))]) ea (slices_symMergeCmpFunc_api_Come_p4 K w0 l0 A0 c0 x1 x2 x3 LT recf hrec hc1 hc9 _ hq7 _ hS _ ?_)
    rintro _ a w1 ⟨_, rfl, hb⟩
    obtain rfl := si h
    exact hb
def slices_symMergeCmpFunc_api_Come.rec (K : Nat) : Nat → (List SCome) → Int → Int → Int → Option (List SCome)
 | 0 => fun _ _ _ _ => none
 | n + 1 => fun l0 x1 x2 x3 => slices_symMergeCmpFunc_api_Come.b K (slices_symMergeCmpFunc_api_Come.rec K n) l0 x1 x2 x3
def slices_symMergeCmpFunc_api_Come.f (K : Nat) (l0 : List SCome) (x1 : Int) (x2 : Int) (x3 : Int) : Option (List SCome) := slices_symMergeCmpFunc_api_Come.rec K K l0 x1 x2 x3
theorem slices_symMergeCmpFunc_api_Come_ok (K : Nat) (l0 : List SCome) (A0 : Option Addr) (c0 : Nat) (x1 : Int) (x2 : Int) (x3 : Int) (w0 wE : World) (LT : List Own) (hS : St w0 wE [Own.of (.slice A0 l0.length c0) 53 l0, Own.all LT]) (r : List SCome) (h : slices_symMergeCmpFunc_api_Come.f K l0 x1 x2 x3 = some r) :
  Calls Try.prog 68 #[(.slice A0 l0.length c0), vI x1, vI x2, vI x3, .func (.func 41) #[] #[]] wE (slices_symMergeCmpFunc_api_Come.Post w0 l0 A0 c0 x1 x2 x3 LT r) := by
 have key : ∀ (n : Nat) (l0 : List SCome) (A0 : Option Addr) (c0 : Nat) (x1 : Int) (x2 : Int) (x3 : Int) (w0 wE : World) (LT : List Own) (hS : St w0 wE [Own.of (.slice A0 l0.length c0) 53 l0, Own.all LT]) (r : List SCome) (h : slices_symMergeCmpFunc_api_Come.rec K n l0 x1 x2 x3 = some r), Calls Try.prog 68 #[(.slice A0 l0.length c0), vI x1, vI x2, vI x3, .func (.func 41) #[] #[]] wE (slices_symMergeCmpFunc_api_Come.Post w0 l0 A0 c0 x1 x2 x3 LT r) := by
  intro n
  induction n with
  | zero => intros; rename_i h; cases h
  | succ n ih => exact fun l0 A0 c0 x1 x2 x3 w0 wE LT hS  r h => slices_symMergeCmpFunc_api_Come_step K (slices_symMergeCmpFunc_api_Come.rec K n) ih l0 A0 c0 x1 x2 x3 w0 wE LT hS  r h
 exact key K l0 A0 c0 x1 x2 x3 w0 wE LT hS  r h

/-! slices.stableCmpFunc[punctual/api.Come] -/
abbrev slices_stableCmpFunc_api_Come.Post (w0 : World) (l0 : List SCome) (A0 : Option Addr) (c0 : Nat) (x1 : Int) (LT : List Own) (r : List SCome) (e : Ending) (w : World) : Prop := e = .returned (.tuple #[]) ∧ l0.length = r.length ∧ St w0 w [Own.of (.slice A0 r.length c0) 53 r, Own.all LT]
def slices_stableCmpFunc_api_Come.r0 (K : Nat) (x1 : Int) : Int × Int × (List SCome) → Option ((Int × Int × (List SCome)) ⊕ ((Int × (List SCome)) ⊕ (List SCome)))
 | (z1, z2, m1) =>
  if z2 ≤ x1 then
   match slices_insertionSortCmpFunc_api_Come.f K m1 z1 z2 with
   | none => none
   | some r1 =>
    some (.inl (z2, IntKind.i64.wrap (z2 + 20), r1))
  else
   some (.inr (.inl (z1, m1)))
def slices_stableCmpFunc_api_Come.r2 (K : Nat) (x1 : Int) (z5 : Int) : Int × Int × (List SCome) → Option ((Int × Int × (List SCome)) ⊕ ((Int × (List SCome)) ⊕ (List SCome)))
 | (z6, z7, m6) =>
  if z7 ≤ x1 then
   match slices_symMergeCmpFunc_api_Come.f K m6 z6 (IntKind.i64.wrap (z6 + z5)) z7 with
   | none => none
   | some r3 =>
    some (.inl (z7, IntKind.i64.wrap (z7 + (IntKind.i64.wrap (2 * z5))), r3))
  else
   some (.inr (.inl (z6, m6)))
def slices_stableCmpFunc_api_Come.r1 (K : Nat) (x1 : Int) (r2 : List SCome) : Int × (List SCome) → Option ((Int × (List SCome)) ⊕ ((List SCome) ⊕ (List SCome)))
 | (z5, m4) =>
  if z5 < x1 then
   match iter (slices_stableCmpFunc_api_Come.r2 K x1 z5) K (0, IntKind.i64.wrap (2 * z5), m4) with
   | none => none
   | some (.inl (z9, m8)) =>
    if (IntKind.i64.wrap (z9 + z5)) < x1 then
     match slices_symMergeCmpFunc_api_Come.f K m8 z9 (IntKind.i64.wrap (z9 + z5)) x1 with
     | none => none
     | some r4 =>
      some (.inl (IntKind.i64.wrap (z5 * 2), r4))
    else
     some (.inl (IntKind.i64.wrap (z5 * 2), m8))
   | some (.inr rr1) =>
    some (.inr (.inr rr1))
  else
   some (.inr (.inl m4))
def slices_stableCmpFunc_api_Come.f (K : Nat) (l0 : List SCome) (x1 : Int) : Option (List SCome) :=
 match iter (slices_stableCmpFunc_api_Come.r0 K x1) K (0, 20, l0) with
 | none => none
 | some (.inl (z4, m3)) =>
  match slices_insertionSortCmpFunc_api_Come.f K m3 z4 x1 with
  | none => none
  | some r2 =>
   match iter (slices_stableCmpFunc_api_Come.r1 K x1 r2) K (20, r2) with
   | none => none
   | some (.inl m9) =>
    some m9
   | some (.inr rr2) =>
    some rr2
 | some (.inr rr3) =>
  some rr3
abbrev slices_stableCmpFunc_api_Come.A0 (w0 : World) (l0 : List SCome) (A0 : Option Addr) (c0 : Nat) (x1 : Int) (LT : List Own) : (Int × Int × (List SCome)) → Act → World → Prop := fun (s : Int × Int × (List SCome)) a w => l0.length = s.2.2.length ∧ St w0 w [Own.of (.slice A0 s.2.2.length c0) 53 s.2.2, Own.all LT] ∧ Frm 63 a [(0, (.slice A0 s.2.2.length c0)), (1, vI x1), (2, .func (.func 41) #[] #[]), (6, vI 20), (7, vI s.1), (8, vI s.2.1)]
abbrev slices_stableCmpFunc_api_Come.B0 (w0 : World) (l0 : List SCome) (A0 : Option Addr) (c0 : Nat) (x1 : Int) (LT : List Own) : ((Int × (List SCome)) ⊕ (List SCome)) → Exit → Act → World → Prop := Exits 0 (fun (s : Int × (List SCome)) a w => l0.length = s.2.length ∧ St w0 w [Own.of (.slice A0 s.2.length c0) 53 s.2, Own.all LT] ∧ Frm 63 a [(0, (.slice A0 s.2.length c0)), (1, vI x1), (2, .func (.func 41) #[] #[]), (6, vI 20), (7, vI s.1)]) (Rets Try.prog Try.f61 (slices_stableCmpFunc_api_Come.Post w0 l0 A0 c0 x1 LT))
theorem slices_stableCmpFunc_api_Come_r0 (K : Nat) (w0 : World) (l0 : List SCome) (A0 : Option Addr) (c0 : Nat) (x1 : Int) (LT : List Own) (s : Int × Int × (List SCome)) (o : (Int × Int × (List SCome)) ⊕ ((Int × (List SCome)) ⊕ (List SCome))) (h : slices_stableCmpFunc_api_Come.r0 K x1 s = some o) (a : Act) (w : World) (hA : slices_stableCmpFunc_api_Come.A0 w0 l0 A0 c0 x1 LT s a w) (Q : Exit → Act → World → Prop) (hQ : ∀ x a w, Outs (slices_stableCmpFunc_api_Come.A0 w0 l0 A0 c0 x1 LT) (slices_stableCmpFunc_api_Come.B0 w0 l0 A0 c0 x1 LT) o x a w → Q x a w) : (subF Try.f61 [1, 1, 0, 0, 0]).wp Try.prog Q a w := by
 obtain ⟨z1, z2, m1⟩ := s
 obtain ⟨hLio1, hS, hF⟩ := hA
 replace hS : St w0 w [Own.of (.slice A0 m1.length c0) 53 m1, Own.all LT] := hS
 simp only [slices_stableCmpFunc_api_Come.r0] at h
 refine (?_ : WE Try.prog 63 (subF Try.f61 [1, 1, 0, 0, 0]) Q [(0, (.slice A0 m1.length c0)), (1, vI x1), (2, .func (.func 41) #[] #[]), (6, vI 20), (7, vI z1), (8, vI z2)] w) a hF
 clear hF a
 refine ws fun K4 hK4 => ?_
 refine ws fun K5 hK5 => ?_
 refine wr [(0, 0), (1, 0), (2, 0)] ?_
 refine gb0 [0, 1, 2] [(13, .bool (decide (z2 ≤ x1))), (12, vI x1), (11, vI z2)] ?_
 refine gn hK5 ?_
 by_cases hc1 : z2 ≤ x1
 ·rw [if_pos hc1] at h
  refine wk 13 (decide (z2 ≤ x1)) true (decide_eq_true hc1) ?_
  refine we_true (by kernel_rfl) ?_
  refine we_skip fun a hF => hK4 _ _ ?_ a hF
  refine we_block ?_
  refine ws fun K6 hK6 => ?_
  refine wr [(0, 0), (1, 0), (2, 0), (3, 0), (4, 2)] ?_
  refine gb0 [0, 1, 2, 3] [(17, .func (.func 41) #[] #[]), (16, vI z2), (15, vI z1), (14, (.slice A0 m1.length c0))] ?_
  rcases hq1 : slices_insertionSortCmpFunc_api_Come.f K m1 z1 z2 with _ | r1
  ·rw [hq1] at h; cases h
  rw [hq1] at h
  simp only [] at h
  have hS4 : St w0 w [Own.of (.slice A0 m1.length c0) 53 m1, Own.all [Own.all LT]] := hS.packN 1
  refine ge_call2 (m := 0) (d := some 18) (f := 67) (args := #[.slice A0 m1.length c0, vI z1, vI z2, .func (.func 41) #[] #[]]) (by kernel_rfl) (slices_insertionSortCmpFunc_api_Come_ok K m1 A0 c0 z1 z2 _ _ _ hS4 _ hq1) ?_
  rintro _ w1 ⟨rfl, hE1, hS3⟩
  refine ⟨_, rfl, ?_⟩
  have hS5 : St w0 w1 [Own.of (.slice A0 r1.length c0) 53 r1, Own.all LT] := hS3.unpack [Own.of (.slice A0 r1.length c0) 53 r1]
  refine ge_same (t := 0) (v := (.slice A0 m1.length c0)) (v' := (.slice A0 r1.length c0)) (by kernel_rfl) (by rw [show m1.length = r1.length from hE1]) ?_
  refine ge_same (t := 14) (v := (.slice A0 m1.length c0)) (v' := (.slice A0 r1.length c0)) (by kernel_rfl) (by rw [show m1.length = r1.length from hE1]) ?_
  have hLio3 : l0.length = r1.length := Eq.trans hLio1 hE1
  refine gn hK6 ?_
  refine ws fun K7 hK7 => ?_
  refine wr [(0, 0), (1, 0)] ?_
  refine gb0 [0, 1] [(7, vI z2), (19, vI z2)] ?_
  refine gn hK7 ?_
  refine wr [(0, 0), (1, 0), (2, 0), (3, 0)] ?_
  refine gb0 [0, 1, 2, 3] [(8, vI (IntKind.i64.wrap (z2 + 20))), (22, vI (IntKind.i64.wrap (z2 + 20))), (21, vI 20), (20, vI z2)] ?_
  have hS6 := hS5.bring 1 rfl
  have hS7 := hS6.bring 1 rfl
  obtain rfl := si h
  exact ge_nil fun a hF => hQ _ _ _ (Outs.again ⟨hLio3, hS7, hF.weaken ea⟩)
 ·rw [if_neg hc1] at h
  refine wk 13 (decide (z2 ≤ x1)) false (decide_eq_false hc1) ?_
  refine we_false (by kernel_rfl) ?_
  have hS8 := hS.bring 1 rfl
  have hS9 := hS8.bring 1 rfl
  obtain rfl := si h
  exact we_exit fun a hF => hQ _ _ _ (Outs.out nofun (Exits.here ⟨hLio1, hS9, hF.weaken ea⟩))
abbrev slices_stableCmpFunc_api_Come.A2 (w0 : World) (l0 : List SCome) (A0 : Option Addr) (c0 : Nat) (x1 : Int) (LT : List Own) (z5 : Int) : (Int × Int × (List SCome)) → Act → World → Prop := fun (s : Int × Int × (List SCome)) a w => l0.length = s.2.2.length ∧ St w0 w [Own.of (.slice A0 s.2.2.length c0) 53 s.2.2, Own.all LT] ∧ Frm 63 a [(0, (.slice A0 s.2.2.length c0)), (1, vI x1), (2, .func (.func 41) #[] #[]), (6, vI z5), (7, vI s.1), (8, vI s.2.1)]
abbrev slices_stableCmpFunc_api_Come.B2 (w0 : World) (l0 : List SCome) (A0 : Option Addr) (c0 : Nat) (x1 : Int) (LT : List Own) (z5 : Int) : ((Int × (List SCome)) ⊕ (List SCome)) → Exit → Act → World → Prop := Exits 4 (fun (s : Int × (List SCome)) a w => l0.length = s.2.length ∧ St w0 w [Own.of (.slice A0 s.2.length c0) 53 s.2, Own.all LT] ∧ Frm 63 a [(0, (.slice A0 s.2.length c0)), (1, vI x1), (2, .func (.func 41) #[] #[]), (6, vI z5), (7, vI s.1)]) (Rets Try.prog Try.f61 (slices_stableCmpFunc_api_Come.Post w0 l0 A0 c0 x1 LT))
theorem slices_stableCmpFunc_api_Come_r2 (K : Nat) (w0 : World) (l0 : List SCome) (A0 : Option Addr) (c0 : Nat) (x1 : Int) (LT : List Own) (z4 : Int) (m3 : List SCome) (hRz1 : l0.length = m3.length) (r2 : List SCome) (hLio4 : l0.length = r2.length) (z5 : Int) (m4 : List SCome) (hLio5 : l0.length = m4.length) (hc2 : z5 < x1) (s : Int × Int × (List SCome)) (o : (Int × Int × (List SCome)) ⊕ ((Int × (List SCome)) ⊕ (List SCome))) (h : slices_stableCmpFunc_api_Come.r2 K x1 z5 s = some o) (a : Act) (w : World) (hA : slices_stableCmpFunc_api_Come.A2 w0 l0 A0 c0 x1 LT z5 s a w) (Q : Exit → Act → World → Prop) (hQ : ∀ x a w, Outs (slices_stableCmpFunc_api_Come.A2 w0 l0 A0 c0 x1 LT z5) (slices_stableCmpFunc_api_Come.B2 w0 l0 A0 c0 x1 LT z5) o x a w → Q x a w) : (subF Try.f61 [1, 1, 1, 1, 0, 0, 1, 0, 1, 0, 0, 0]).wp Try.prog Q a w := by
 obtain ⟨z6, z7, m6⟩ := s
 obtain ⟨hLio7, hS, hF⟩ := hA
 replace hS : St w0 w [Own.of (.slice A0 m6.length c0) 53 m6, Own.all LT] := hS
 simp only [slices_stableCmpFunc_api_Come.r2] at h
 refine (?_ : WE Try.prog 63 (subF Try.f61 [1, 1, 1, 1, 0, 0, 1, 0, 1, 0, 0, 0]) Q [(0, (.slice A0 m6.length c0)), (1, vI x1), (2, .func (.func 41) #[] #[]), (6, vI z5), (7, vI z6), (8, vI z7)] w) a hF
 clear hF a
 refine ws fun K13 hK13 => ?_
 refine ws fun K14 hK14 => ?_
 refine wr [(0, 0), (1, 0), (2, 0)] ?_
 refine gb0 [0, 1, 2] [(35, .bool (decide (z7 ≤ x1))), (34, vI x1), (33, vI z7)] ?_
 refine gn hK14 ?_
 by_cases hc3 : z7 ≤ x1
 ·rw [if_pos hc3] at h
  refine wk 35 (decide (z7 ≤ x1)) true (decide_eq_true hc3) ?_
  refine we_true (by kernel_rfl) ?_
  refine we_skip fun a hF => hK13 _ _ ?_ a hF
  refine we_block ?_
  refine ws fun K15 hK15 => ?_
  refine wr [(0, 0), (1, 0), (2, 0), (3, 0), (4, 0), (5, 0), (6, 0), (7, 2)] ?_
  refine gb0 [0, 1, 2, 3, 4, 5, 6] [(42, .func (.func 41) #[] #[]), (41, vI z7), (40, vI (IntKind.i64.wrap (z6 + z5))), (39, vI z5), (38, vI z6), (37, vI z6), (36, (.slice A0 m6.length c0))] ?_
  rcases hq4 : slices_symMergeCmpFunc_api_Come.f K m6 z6 (IntKind.i64.wrap (z6 + z5)) z7 with _ | r3
  ·rw [hq4] at h; cases h
  rw [hq4] at h
  simp only [] at h
  have hS19 : St w0 w [Own.of (.slice A0 m6.length c0) 53 m6, Own.all [Own.all LT]] := hS.packN 1
  refine ge_call2 (m := 0) (d := some 43) (f := 68) (args := #[.slice A0 m6.length c0, vI z6, vI (IntKind.i64.wrap (z6 + z5)), vI z7, .func (.func 41) #[] #[]]) (by kernel_rfl) (slices_symMergeCmpFunc_api_Come_ok K m6 A0 c0 z6 (IntKind.i64.wrap (z6 + z5)) z7 _ _ _ hS19 _ hq4) ?_
  rintro _ w4 ⟨rfl, hE3, hS18⟩
  refine ⟨_, rfl, ?_⟩
  have hS20 : St w0 w4 [Own.of (.slice A0 r3.length c0) 53 r3, Own.all LT] := hS18.unpack [Own.of (.slice A0 r3.length c0) 53 r3]
  refine ge_same (t := 0) (v := (.slice A0 m6.length c0)) (v' := (.slice A0 r3.length c0)) (by kernel_rfl) (by rw [show m6.length = r3.length from hE3]) ?_
  refine ge_same (t := 36) (v := (.slice A0 m6.length c0)) (v' := (.slice A0 r3.length c0)) (by kernel_rfl) (by rw [show m6.length = r3.length from hE3]) ?_
  have hLio9 : l0.length = r3.length := Eq.trans hLio7 hE3
  refine gn hK15 ?_
  refine ws fun K16 hK16 => ?_
  refine wr [(0, 0), (1, 0)] ?_
  refine gb0 [0, 1] [(7, vI z7), (44, vI z7)] ?_
  refine gn hK16 ?_
  refine wr [(0, 0), (1, 0), (2, 0), (3, 0), (4, 0)] ?_
  refine gb0 [0, 1, 2, 3, 4] [(8, vI (IntKind.i64.wrap (z7 + (IntKind.i64.wrap (2 * z5))))), (48, vI (IntKind.i64.wrap (z7 + (IntKind.i64.wrap (2 * z5))))), (47, vI (IntKind.i64.wrap (2 * z5))), (46, vI z5), (45, vI z7)] ?_
  have hS21 := hS20.bring 1 rfl
  have hS22 := hS21.bring 1 rfl
  obtain rfl := si h
  exact ge_nil fun a hF => hQ _ _ _ (Outs.again ⟨hLio9, hS22, hF.weaken ea⟩)
 ·rw [if_neg hc3] at h
  refine wk 35 (decide (z7 ≤ x1)) false (decide_eq_false hc3) ?_
  refine we_false (by kernel_rfl) ?_
  have hS23 := hS.bring 1 rfl
  have hS24 := hS23.bring 1 rfl
  obtain rfl := si h
  exact we_exit fun a hF => hQ _ _ _ (Outs.out nofun (Exits.here ⟨hLio7, hS24, hF.weaken ea⟩))
abbrev slices_stableCmpFunc_api_Come.A1 (w0 : World) (l0 : List SCome) (A0 : Option Addr) (c0 : Nat) (x1 : Int) (LT : List Own) : (Int × (List SCome)) → Act → World → Prop := fun (s : Int × (List SCome)) a w => l0.length = s.2.length ∧ St w0 w [Own.of (.slice A0 s.2.length c0) 53 s.2, Own.all LT] ∧ Frm 63 a [(0, (.slice A0 s.2.length c0)), (1, vI x1), (2, .func (.func 41) #[] #[]), (6, vI s.1)]
abbrev slices_stableCmpFunc_api_Come.B1 (w0 : World) (l0 : List SCome) (A0 : Option Addr) (c0 : Nat) (x1 : Int) (LT : List Own) : ((List SCome) ⊕ (List SCome)) → Exit → Act → World → Prop := Exits 2 (fun (s : (List SCome)) a w => l0.length = s.length ∧ St w0 w [Own.of (.slice A0 s.length c0) 53 s, Own.all LT] ∧ Frm 63 a [(0, (.slice A0 s.length c0)), (2, .func (.func 41) #[] #[])]) (Rets Try.prog Try.f61 (slices_stableCmpFunc_api_Come.Post w0 l0 A0 c0 x1 LT))
theorem slices_stableCmpFunc_api_Come_r1 (K : Nat) (w0 : World) (l0 : List SCome) (A0 : Option Addr) (c0 : Nat) (x1 : Int) (LT : List Own) (z4 : Int) (m3 : List SCome) (hRz1 : l0.length = m3.length) (r2 : List SCome) (hLio4 : l0.length = r2.length) (s : Int × (List SCome)) (o : (Int × (List SCome)) ⊕ ((List SCome) ⊕ (List SCome))) (h : slices_stableCmpFunc_api_Come.r1 K x1 r2 s = some o) (a : Act) (w : World) (hA : slices_stableCmpFunc_api_Come.A1 w0 l0 A0 c0 x1 LT s a w) (Q : Exit → Act → World → Prop) (hQ : ∀ x a w, Outs (slices_stableCmpFunc_api_Come.A1 w0 l0 A0 c0 x1 LT) (slices_stableCmpFunc_api_Come.B1 w0 l0 A0 c0 x1 LT) o x a w → Q x a w) : (subF Try.f61 [1, 1, 1, 1, 0, 0]).wp Try.prog Q a w := by
 obtain ⟨z5, m4⟩ := s
 obtain ⟨hLio5, hS, hF⟩ := hA
 replace hS : St w0 w [Own.of (.slice A0 m4.length c0) 53 m4, Own.all LT] := hS
 simp only [slices_stableCmpFunc_api_Come.r1] at h
 refine (?_ : WE Try.prog 63 (subF Try.f61 [1, 1, 1, 1, 0, 0]) Q [(0, (.slice A0 m4.length c0)), (1, vI x1), (2, .func (.func 41) #[] #[]), (6, vI z5)] w) a hF
 clear hF a
 refine ws fun K9 hK9 => ?_
 refine ws fun K10 hK10 => ?_
 refine wr [(0, 0), (1, 0), (2, 0)] ?_
 refine gb0 [0, 1, 2] [(30, .bool (decide (z5 < x1))), (29, vI x1), (28, vI z5)] ?_
 refine gn hK10 ?_
 by_cases hc2 : z5 < x1
 ·rw [if_pos hc2] at h
  refine wk 30 (decide (z5 < x1)) true (decide_eq_true hc2) ?_
  refine we_true (by kernel_rfl) ?_
  refine we_skip fun a hF => hK9 _ _ ?_ a hF
  refine we_block ?_
  refine ws fun K11 hK11 => ?_
  refine wr [(0, 0), (1, 0), (2, 0), (3, 0)] ?_
  refine gb0 [0, 1, 2, 3] [(8, vI (IntKind.i64.wrap (2 * z5))), (7, vI 0), (32, vI (IntKind.i64.wrap (2 * z5))), (31, vI z5)] ?_
  refine gn hK11 ?_
  refine ws fun K12 hK12 => ?_
  refine we_block ?_
  have hS16 := hS.bring 1 rfl
  have hS17 := hS16.bring 1 rfl
  rcases hq5 : iter (slices_stableCmpFunc_api_Come.r2 K x1 z5) K (0, IntKind.i64.wrap (2 * z5), m4) with _ | (⟨z9, m8⟩ | rr1)
  ·rw [hq5] at h; cases h
  ·rw [hq5] at h
   simp only [] at h
   refine we_iter (A := slices_stableCmpFunc_api_Come.A2 w0 l0 A0 c0 x1 LT z5) (B := slices_stableCmpFunc_api_Come.B2 w0 l0 A0 c0 x1 LT z5) hq5 (fun a hF => ⟨hLio5, hS17, hF.weaken ea⟩) (fun s o hf a w hA Q hQ => slices_stableCmpFunc_api_Come_r2 K w0 l0 A0 c0 x1 LT z4 m3 hRz1 r2 hLio4 z5 m4 hLio5 hc2 s o hf a w hA Q hQ) ?_
   rintro _ a w5 _ ⟨rfl, hRz2, hS25, hF⟩
   replace hS25 : St w0 w5 [Own.of (.slice A0 m8.length c0) 53 m8, Own.all LT] := hS25
   refine hK12 [(0, (.slice A0 m8.length c0)), (1, vI x1), (2, .func (.func 41) #[] #[]), (6, vI z5), (7, vI z9)] w5 ?_ a hF
   refine ws fun K17 hK17 => ?_
   refine ws fun K18 hK18 => ?_
   refine wr [(0, 0), (1, 0), (2, 0), (3, 0)] ?_
   refine gb0 [0, 1, 2, 3] [(9, vI (IntKind.i64.wrap (z9 + z5))), (51, vI (IntKind.i64.wrap (z9 + z5))), (50, vI z5), (49, vI z9)] ?_
   refine gn hK18 ?_
   refine ws fun K19 hK19 => ?_
   refine wr [(0, 0), (1, 0), (2, 0)] ?_
   refine gb0 [0, 1, 2] [(54, .bool (decide ((IntKind.i64.wrap (z9 + z5)) < x1))), (53, vI x1), (52, vI (IntKind.i64.wrap (z9 + z5)))] ?_
   refine gn hK19 ?_
   by_cases hc4 : (IntKind.i64.wrap (z9 + z5)) < x1
   ·rw [if_pos hc4] at h
    refine wk 54 (decide ((IntKind.i64.wrap (z9 + z5)) < x1)) true (decide_eq_true hc4) ?_
    refine we_true (by kernel_rfl) ?_
    refine wr [(0, 0), (1, 0), (2, 0), (3, 0), (4, 0), (5, 2)] ?_
    refine gb0 [0, 1, 2, 3, 4] [(59, .func (.func 41) #[] #[]), (58, vI x1), (57, vI (IntKind.i64.wrap (z9 + z5))), (56, vI z9), (55, (.slice A0 m8.length c0))] ?_
    rcases hq6 : slices_symMergeCmpFunc_api_Come.f K m8 z9 (IntKind.i64.wrap (z9 + z5)) x1 with _ | r4
    ·rw [hq6] at h; cases h
    rw [hq6] at h
    simp only [] at h
    have hS27 : St w0 w5 [Own.of (.slice A0 m8.length c0) 53 m8, Own.all [Own.all LT]] := hS25.packN 1
    refine ge_call2 (m := 0) (d := some 60) (f := 68) (args := #[.slice A0 m8.length c0, vI z9, vI (IntKind.i64.wrap (z9 + z5)), vI x1, .func (.func 41) #[] #[]]) (by kernel_rfl) (slices_symMergeCmpFunc_api_Come_ok K m8 A0 c0 z9 (IntKind.i64.wrap (z9 + z5)) x1 _ _ _ hS27 _ hq6) ?_
    rintro _ w6 ⟨rfl, hE4, hS26⟩
    refine ⟨_, rfl, ?_⟩
    have hS28 : St w0 w6 [Own.of (.slice A0 r4.length c0) 53 r4, Own.all LT] := hS26.unpack [Own.of (.slice A0 r4.length c0) 53 r4]
    refine ge_same (t := 0) (v := (.slice A0 m8.length c0)) (v' := (.slice A0 r4.length c0)) (by kernel_rfl) (by rw [show m8.length = r4.length from hE4]) ?_
    refine ge_same (t := 55) (v := (.slice A0 m8.length c0)) (v' := (.slice A0 r4.length c0)) (by kernel_rfl) (by rw [show m8.length = r4.length from hE4]) ?_
    have hLio10 : l0.length = r4.length := Eq.trans hRz2 hE4
    refine gn hK17 ?_
    refine wr [(0, 0), (1, 0), (2, 0)] ?_
    refine gb0 [0, 1, 2] [(6, vI (IntKind.i64.wrap (z5 * 2))), (62, vI (IntKind.i64.wrap (z5 * 2))), (61, vI z5)] ?_
    have hS29 := hS28.bring 1 rfl
    have hS30 := hS29.bring 1 rfl
    obtain rfl := si h
    exact ge_nil fun a hF => hQ _ _ _ (Outs.again ⟨hLio10, hS30, hF.weaken ea⟩)
   ·rw [if_neg hc4] at h
    refine wk 54 (decide ((IntKind.i64.wrap (z9 + z5)) < x1)) false (decide_eq_false hc4) ?_
    refine we_false (by kernel_rfl) ?_
    refine we_skip fun a hF => hK17 _ _ ?_ a hF
    refine wr [(0, 0), (1, 0), (2, 0)] ?_
    refine gb0 [0, 1, 2] [(6, vI (IntKind.i64.wrap (z5 * 2))), (62, vI (IntKind.i64.wrap (z5 * 2))), (61, vI z5)] ?_
    have hS31 := hS25.bring 1 rfl
    have hS32 := hS31.bring 1 rfl
    obtain rfl := si h
    exact ge_nil fun a hF => hQ _ _ _ (Outs.again ⟨hRz2, hS32, hF.weaken ea⟩)
  ·rw [hq5] at h
   simp only [] at h
   refine we_iter (A := slices_stableCmpFunc_api_Come.A2 w0 l0 A0 c0 x1 LT z5) (B := slices_stableCmpFunc_api_Come.B2 w0 l0 A0 c0 x1 LT z5) hq5 (fun a hF => ⟨hLio5, hS17, hF.weaken ea⟩) (fun s o hf a w hA Q hQ => slices_stableCmpFunc_api_Come_r2 K w0 l0 A0 c0 x1 LT z4 m3 hRz1 r2 hLio4 z5 m4 hLio5 hc2 s o hf a w hA Q hQ) ?_
   rintro _ a w1 _ ⟨rfl, hb⟩
   obtain rfl := si h
   exact hQ _ _ _ (Outs.out nofun (Exits.on ⟨rfl, hb⟩))
 ·rw [if_neg hc2] at h
  refine wk 30 (decide (z5 < x1)) false (decide_eq_false hc2) ?_
  refine we_false (by kernel_rfl) ?_
  have hS33 := hS.bring 1 rfl
  have hS34 := hS33.bring 1 rfl
  obtain rfl := si h
  exact we_exit fun a hF => hQ _ _ _ (Outs.out nofun (Exits.here ⟨hLio5, hS34, hF.weaken ea⟩))
theorem slices_stableCmpFunc_api_Come_ok (K : Nat) (l0 : List SCome) (A0 : Option Addr) (c0 : Nat) (x1 : Int) (w0 wE : World) (LT : List Own) (hS : St w0 wE [Own.of (.slice A0 l0.length c0) 53 l0, Own.all LT]) (r : List SCome) (h : slices_stableCmpFunc_api_Come.f K l0 x1 = some r) :
  Calls Try.prog 61 #[(.slice A0 l0.length c0), vI x1, .func (.func 41) #[] #[]] wE (slices_stableCmpFunc_api_Come.Post w0 l0 A0 c0 x1 LT r) := by
 unfold slices_stableCmpFunc_api_Come.f at h
 refine calls_enter (n := 63) (args := [(.slice A0 l0.length c0), vI x1, .func (.func 41) #[] #[]]) (fn := Try.f61) rfl rfl rfl rfl ?_
 show WE _ _ _ _ [(0, (.slice A0 l0.length c0)), (1, vI x1), (2, .func (.func 41) #[] #[])] _
 refine ws fun K1 hK1 => ?_
 refine wr [(0, 0)] ?_
 refine gb0 [0] [(6, vI 20)] ?_
 refine gn hK1 ?_
 refine ws fun K2 hK2 => ?_
 refine wr [(0, 0), (1, 0), (2, 0)] ?_
 refine gb0 [0, 1, 2] [(8, vI 20), (7, vI 0), (10, vI 20)] ?_
 refine gn hK2 ?_
 refine ws fun K3 hK3 => ?_
 refine we_block ?_
 have hS1 := hS.bring 1 rfl
 have hS2 := hS1.bring 1 rfl
 rcases hq2 : iter (slices_stableCmpFunc_api_Come.r0 K x1) K (0, 20, l0) with _ | (⟨z4, m3⟩ | rr3)
 ·rw [hq2] at h; cases h
 ·rw [hq2] at h
  simp only [] at h
  refine we_iter (A := slices_stableCmpFunc_api_Come.A0 w0 l0 A0 c0 x1 LT) (B := slices_stableCmpFunc_api_Come.B0 w0 l0 A0 c0 x1 LT) hq2 (fun a hF => ⟨rfl, hS2, hF.weaken ea⟩) (fun s o hf a w hA Q hQ => slices_stableCmpFunc_api_Come_r0 K w0 l0 A0 c0 x1 LT s o hf a w hA Q hQ) ?_
  rintro _ a w2 _ ⟨rfl, hRz1, hS10, hF⟩
  replace hS10 : St w0 w2 [Own.of (.slice A0 m3.length c0) 53 m3, Own.all LT] := hS10
  refine hK3 [(0, (.slice A0 m3.length c0)), (1, vI x1), (2, .func (.func 41) #[] #[]), (6, vI 20), (7, vI z4)] w2 ?_ a hF
  refine ws fun K8 hK8 => ?_
  refine wr [(0, 0), (1, 0), (2, 0), (3, 0), (4, 2)] ?_
  refine gb0 [0, 1, 2, 3] [(26, .func (.func 41) #[] #[]), (25, vI x1), (24, vI z4), (23, (.slice A0 m3.length c0))] ?_
  rcases hq3 : slices_insertionSortCmpFunc_api_Come.f K m3 z4 x1 with _ | r2
  ·rw [hq3] at h; cases h
  rw [hq3] at h
  simp only [] at h
  have hS12 : St w0 w2 [Own.of (.slice A0 m3.length c0) 53 m3, Own.all [Own.all LT]] := hS10.packN 1
  refine ge_call2 (m := 0) (d := some 27) (f := 67) (args := #[.slice A0 m3.length c0, vI z4, vI x1, .func (.func 41) #[] #[]]) (by kernel_rfl) (slices_insertionSortCmpFunc_api_Come_ok K m3 A0 c0 z4 x1 _ _ _ hS12 _ hq3) ?_
  rintro _ w3 ⟨rfl, hE2, hS11⟩
  refine ⟨_, rfl, ?_⟩
  have hS13 : St w0 w3 [Own.of (.slice A0 r2.length c0) 53 r2, Own.all LT] := hS11.unpack [Own.of (.slice A0 r2.length c0) 53 r2]
  refine ge_same (t := 0) (v := (.slice A0 m3.length c0)) (v' := (.slice A0 r2.length c0)) (by kernel_rfl) (by rw [show m3.length = r2.length from hE2]) ?_
  refine ge_same (t := 23) (v := (.slice A0 m3.length c0)) (v' := (.slice A0 r2.length c0)) (by kernel_rfl) (by rw [show m3.length = r2.length from hE2]) ?_
  have hLio4 : l0.length = r2.length := Eq.trans hRz1 hE2
  refine gn hK8 ?_
  refine we_block ?_
  have hS14 := hS13.bring 1 rfl
  have hS15 := hS14.bring 1 rfl
  rcases hq7 : iter (slices_stableCmpFunc_api_Come.r1 K x1 r2) K (20, r2) with _ | (m9 | rr2)
  ·rw [hq7] at h; cases h
  ·rw [hq7] at h
   simp only [] at h
   refine we_iter (A := slices_stableCmpFunc_api_Come.A1 w0 l0 A0 c0 x1 LT) (B := slices_stableCmpFunc_api_Come.B1 w0 l0 A0 c0 x1 LT) hq7 (fun a hF => ⟨hLio4, hS15, hF.weaken ea⟩) (fun s o hf a w hA Q hQ => slices_stableCmpFunc_api_Come_r1 K w0 l0 A0 c0 x1 LT z4 m3 hRz1 r2 hLio4 s o hf a w hA Q hQ) ?_
   rintro _ a w7 _ ⟨rfl, hRz3, hS35, hF⟩
   replace hS35 : St w0 w7 [Own.of (.slice A0 m9.length c0) 53 m9, Own.all LT] := hS35
   have hS36 := hS35.bring 1 rfl
   have hS37 := hS36.bring 1 rfl
   obtain rfl := si h
   exact (pe0 [] [] ⟨rfl, hRz3, hS37⟩) a hF
  ·rw [hq7] at h
   simp only [] at h
   refine we_iter (A := slices_stableCmpFunc_api_Come.A1 w0 l0 A0 c0 x1 LT) (B := slices_stableCmpFunc_api_Come.B1 w0 l0 A0 c0 x1 LT) hq7 (fun a hF => ⟨hLio4, hS15, hF.weaken ea⟩) (fun s o hf a w hA Q hQ => slices_stableCmpFunc_api_Come_r1 K w0 l0 A0 c0 x1 LT z4 m3 hRz1 r2 hLio4 s o hf a w hA Q hQ) ?_
   rintro _ a w1 _ ⟨rfl, hb⟩
   obtain rfl := si h
   exact hb
 ·rw [hq2] at h
  simp only [] at h
  refine we_iter (A := slices_stableCmpFunc_api_Come.A0 w0 l0 A0 c0 x1 LT) (B := slices_stableCmpFunc_api_Come.B0 w0 l0 A0 c0 x1 LT) hq2 (fun a hF => ⟨rfl, hS2, hF.weaken ea⟩) (fun s o hf a w hA Q hQ => slices_stableCmpFunc_api_Come_r0 K w0 l0 A0 c0 x1 LT s o hf a w hA Q hQ) ?_
  rintro _ a w1 _ ⟨rfl, hb⟩
  obtain rfl := si h
  exact hb

/-! slices.SortStableFunc[[]punctual/api.Come,punctual/api.Come] -/
abbrev slices_SortStableFunc_api_Come_api_Come.Post (w0 : World) (l0 : List SCome) (A0 : Option Addr) (c0 : Nat) (LT : List Own) (r : List SCome) (e : Ending) (w : World) : Prop := e = .returned (.tuple #[]) ∧ l0.length = r.length ∧ St w0 w [Own.of (.slice A0 r.length c0) 53 r, Own.all LT]
def slices_SortStableFunc_api_Come_api_Come.f (K : Nat) (l0 : List SCome) : Option (List SCome) :=
 match slices_stableCmpFunc_api_Come.f K l0 (l0.length : Int) with
 | none => none
 | some r1 =>
  some r1
theorem slices_SortStableFunc_api_Come_api_Come_ok (K : Nat) (l0 : List SCome) (A0 : Option Addr) (c0 : Nat) (w0 wE : World) (LT : List Own) (hS : St w0 wE [Own.of (.slice A0 l0.length c0) 53 l0, Own.all LT]) (r : List SCome) (h : slices_SortStableFunc_api_Come_api_Come.f K l0 = some r) :
  Calls Try.prog 40 #[(.slice A0 l0.length c0), .func (.func 41) #[] #[]] wE (slices_SortStableFunc_api_Come_api_Come.Post w0 l0 A0 c0 LT r) := by
 unfold slices_SortStableFunc_api_Come_api_Come.f at h
 refine calls_enter (n := 9) (args := [(.slice A0 l0.length c0), .func (.func 41) #[] #[]]) (fn := Try.f40) rfl rfl rfl rfl ?_
 show WE _ _ _ _ [(0, (.slice A0 l0.length c0)), (1, .func (.func 41) #[] #[])] _
 refine wr [(0, 0), (1, 0), (2, 0), (3, 0), (4, 2)] ?_
 refine gb0 [0, 1, 2, 3] [(7, .func (.func 41) #[] #[]), (6, vI (l0.length : Int)), (5, (.slice A0 l0.length c0)), (4, (.slice A0 l0.length c0))] ?_
 rcases hq1 : slices_stableCmpFunc_api_Come.f K l0 (l0.length : Int) with _ | r1
 ·rw [hq1] at h; cases h
 rw [hq1] at h
 simp only [] at h
 have hS2 : St w0 wE [Own.of (.slice A0 l0.length c0) 53 l0, Own.all [Own.all LT]] := hS.packN 1
 refine ge_call2 (m := 0) (d := some 8) (f := 61) (args := #[.slice A0 l0.length c0, vI (l0.length : Int), .func (.func 41) #[] #[]]) (by kernel_rfl) (slices_stableCmpFunc_api_Come_ok K l0 A0 c0 (l0.length : Int) _ _ _ hS2 _ hq1) ?_
 rintro _ w1 ⟨rfl, hE1, hS1⟩
 refine ⟨_, rfl, ?_⟩
 have hS3 : St w0 w1 [Own.of (.slice A0 r1.length c0) 53 r1, Own.all LT] := hS1.unpack [Own.of (.slice A0 r1.length c0) 53 r1]
 refine ge_same (t := 0) (v := (.slice A0 l0.length c0)) (v' := (.slice A0 r1.length c0)) (by kernel_rfl) (by rw [show l0.length = r1.length from hE1]) ?_
 refine ge_same (t := 4) (v := (.slice A0 l0.length c0)) (v' := (.slice A0 r1.length c0)) (by kernel_rfl) (by rw [show l0.length = r1.length from hE1]) ?_
 refine ge_same (t := 5) (v := (.slice A0 l0.length c0)) (v' := (.slice A0 r1.length c0)) (by kernel_rfl) (by rw [show l0.length = r1.length from hE1]) ?_
 have hLio1 : l0.length = r1.length := Eq.trans rfl hE1
 have hS4 := hS3.bring 1 rfl
 have hS5 := hS4.bring 1 rfl
 obtain rfl := si h
 exact ge_nil (pe0 [] [] ⟨rfl, hLio1, hS5⟩)

/-! punctual/tasks.Comes -/
abbrev tasks_Comes.Post (w0 : World) (r : (List SCome) × SFault) (e : Ending) (w : World) : Prop := ∃ (v0 : Value), e = .returned (.tuple #[v0, .agg #[vI r.2.Code, vI r.2.At]]) ∧ St w0 w [Own.of v0 53 r.1]
def tasks_Comes.p0 (x1 : Int) : Option (Unit ⊕ ((List SCome) × SFault)) :=
  if x1 < 0 then
   some (.inr (([] : List SCome), (⟨3, 0⟩ : SFault)))
  else
   if x1 > 20000 then
    some (.inr (([] : List SCome), (⟨3, 0⟩ : SFault)))
   else
    some (.inl ())
def tasks_Comes.r2 (x1 : Int) (i1 : Nat) (e1 : STask) : (List SCome) × Int → Option (((List SCome) × Int) ⊕ ((List SCome) ⊕ ((List SCome) × SFault)))
 | (m3, z1) =>
  if z1 < x1 then
   if m3.length < 8796093022208 then
    if ((m3 ++ [(⟨(i1 : Int), z1⟩ : SCome)]).length : Int) > 4000 then
     some (.inr (.inr (([] : List SCome), (⟨2, 0⟩ : SFault))))
    else
     some (.inl ((m3 ++ [(⟨(i1 : Int), z1⟩ : SCome)]), IntKind.i64.wrap (z1 + e1.T)))
   else
    none
  else
   some (.inr (.inl m3))
def tasks_Comes.r1 (K : Nat) (l0 : List STask) (x1 : Int) : (List SCome) × Nat → Option (((List SCome) × Nat) ⊕ ((List SCome) ⊕ ((List SCome) × SFault)))
 | (m1, i1) =>
  if (i1 : Int) < (l0.length : Int) then
   match l0[i1]? with
   | none => none
   | some e1 =>
    match iter (tasks_Comes.r2 x1 i1 e1) K (m1, e1.O) with
    | none => none
    | some (.inl m5) =>
     some (.inl (m5, (i1 + 1)))
    | some (.inr rr1) =>
     some (.inr (.inr rr1))
  else
   some (.inr (.inl m1))
def tasks_Comes.f (K : Nat) (l0 : List STask) (x1 : Int) : Option ((List SCome) × SFault) :=
 match tasks_Check.f K l0 with
 | none => none
 | some r1 =>
  if r1.Code = 0 then
   match tasks_Comes.p0 x1 with
   | none => none
   | some (.inl _) =>
    match iter (tasks_Comes.r1 K l0 x1) K (([] : List SCome), 0) with
    | none => none
    | some (.inl m6) =>
     match slices_SortStableFunc_api_Come_api_Come.f K m6 with
     | none => none
     | some r2 =>
      some (r2, (⟨0, 0⟩ : SFault))
    | some (.inr rr2) =>
     some rr2
   | some (.inr rr3) =>
    some rr3
  else
   some (([] : List SCome), r1)
abbrev tasks_Comes.A0 (w0 : World) (l0 : List STask) (A0 : Option Addr) (c0 : Nat) (x1 : Int) (b1 : Nat) : Unit → Act → World → Prop := fun (s : Unit) a w => St w0 w [Own.blk b1 (.cells #[vI 0, vI 0] 29 (0, 0))] ∧ Frm 55 a [(0, .slice A0 l0.length c0), (1, vI x1), (5, pP b1 0)]
abbrev tasks_Comes.B0 (w0 : World) : ((List SCome) × SFault) → Exit → Act → World → Prop := Rets Try.prog Try.f19 (tasks_Comes.Post w0)
theorem tasks_Comes_p0 (K : Nat) (w0 : World) (l0 : List STask) (A0 : Option Addr) (c0 : Nat) (x1 : Int) (hR0 : RdL w0 A0 l0) (hL0 : l0.length ≤ c0) (b1 : Nat) (r1 : SFault) (b2 : Nat) (hc1 : r1.Code = 0) (o : Unit ⊕ ((List SCome) × SFault)) (h : tasks_Comes.p0 x1 = some o) (w : World) (hS : St w0 w [Own.blk b2 (.cells #[vI r1.Code, vI r1.At] 29 (0, 0)), Own.blk b1 (.cells #[vI 0, vI 0] 29 (0, 0))]) (Q : Exit → Act → World → Prop) (hQ : ∀ x a w, Outs (tasks_Comes.A0 w0 l0 A0 c0 x1 b1) (tasks_Comes.B0 w0) o x a w → Q x a w) : WE Try.prog 55 (subF Try.f19 [1, 1, 0]) Q [(0, .slice A0 l0.length c0), (1, vI x1), (4, .slice none 0 0), (5, pP b1 0), (6, pP b2 0), (11, .slice A0 l0.length c0), (12, .agg #[vI r1.Code, vI r1.At]), (13, pP b2 0), (14, vI r1.Code), (15, .bool false)] w := by
 simp only [tasks_Comes.p0] at h
 refine ws fun K6 hK6 => ?_
 refine wr [(0, 0), (1, 0), (2, 0), (3, 0), (4, 0), (5, 0)] ?_
 refine gb0 [0, 1, 2] [(19, .bool (decide (x1 < 0))), (18, .bool (decide (x1 < 0))), (17, vI x1)] ?_
 by_cases hc2 : x1 < 0
 ·rw [if_pos hc2] at h
  refine gk 19 (decide (x1 < 0)) true (decide_eq_true hc2) ?_
  refine gb0 [3, 4, 5] [(22, .bool true), (21, undef), (20, undef)] ?_
  refine gn hK6 ?_
  refine we_true (by kernel_rfl) ?_
  refine ws fun K7 hK7 => ?_
  refine wr [(0, 0), (1, 0), (2, 2)] ?_
  refine gb0 [0, 1] [(4, .slice none 0 0), (23, .agg #[vI 3, vI 0])] ?_
  have hS7 := hS.bring 1 rfl
  refine gs b1 0 #[vI 0, vI 0] 29 [vI 3, vI 0] hS7 fun w5 hS8 => ?_
  have hS9 : St w0 w5 [Own.blk b1 (.cells #[vI 3, vI 0] 29 (0, 0)), Own.blk b2 (.cells #[vI r1.Code, vI r1.At] 29 (0, 0))] := hS8
  refine gn hK7 ?_
  have hS10 := hS9.nil (α := SCome) 53
  have hS11 := hS10.takeN 1
  obtain rfl := si h
  exact we_ret fun a hF => hQ _ _ _ (Outs.out nofun ⟨rfl, (pr [.tmp 4, .cell 5 29] [(.slice none 0 0), .agg #[vI 3, vI 0]] [.loaded ⟨b1, 0, none⟩ (vI 3), .loaded ⟨b1, 1, none⟩ (vI 0)] ⟨hS10.c 1, hS10.c 1, trivial⟩ ⟨(.slice none 0 0), rfl, hS11⟩) a hF⟩)
 ·rw [if_neg hc2] at h
  refine gk 19 (decide (x1 < 0)) false (decide_eq_false hc2) ?_
  refine gb0 [3, 4, 5] [(22, .bool (decide (x1 > 20000))), (21, .bool (decide (x1 > 20000))), (20, vI x1)] ?_
  refine gn hK6 ?_
  by_cases hc3 : x1 > 20000
  ·rw [if_pos hc3] at h
   refine wk 22 (decide (x1 > 20000)) true (decide_eq_true hc3) ?_
   refine we_true (by kernel_rfl) ?_
   refine ws fun K8 hK8 => ?_
   refine wr [(0, 0), (1, 0), (2, 2)] ?_
   refine gb0 [0, 1] [(4, .slice none 0 0), (23, .agg #[vI 3, vI 0])] ?_
   have hS12 := hS.bring 1 rfl
   refine gs b1 0 #[vI 0, vI 0] 29 [vI 3, vI 0] hS12 fun w6 hS13 => ?_
   have hS14 : St w0 w6 [Own.blk b1 (.cells #[vI 3, vI 0] 29 (0, 0)), Own.blk b2 (.cells #[vI r1.Code, vI r1.At] 29 (0, 0))] := hS13
   refine gn hK8 ?_
   have hS15 := hS14.nil (α := SCome) 53
   have hS16 := hS15.takeN 1
   obtain rfl := si h
   exact we_ret fun a hF => hQ _ _ _ (Outs.out nofun ⟨rfl, (pr [.tmp 4, .cell 5 29] [(.slice none 0 0), .agg #[vI 3, vI 0]] [.loaded ⟨b1, 0, none⟩ (vI 3), .loaded ⟨b1, 1, none⟩ (vI 0)] ⟨hS15.c 1, hS15.c 1, trivial⟩ ⟨(.slice none 0 0), rfl, hS16⟩) a hF⟩)
  ·rw [if_neg hc3] at h
   refine wk 22 (decide (x1 > 20000)) false (decide_eq_false hc3) ?_
   refine we_false (by kernel_rfl) ?_
   have hS17 := hS.bring 1 rfl
   have hS18 := hS17.takeN 1
   obtain rfl := si h
   exact we_skip fun a hF => hQ _ _ _ (Outs.again ⟨hS18, hF.weaken ea⟩)
abbrev tasks_Comes.A2 (w0 : World) (l0 : List STask) (A0 : Option Addr) (c0 : Nat) (x1 : Int) (b1 : Nat) (i1 : Nat) (e1 : STask) (b3 : Nat) : ((List SCome) × Int) → Act → World → Prop := fun (s : (List SCome) × Int) a w => ∃ (v3 : Value), St w0 w [Own.blk b3 (.cells #[.string e1.Name, vI e1.C, vI e1.T, vI e1.D, vI e1.J, vI e1.O, vI e1.P] 46 (0, 0)), Own.blk b1 (.cells #[vI 0, vI 0] 29 (0, 0)), Own.of v3 53 s.1] ∧ Frm 55 a [(1, vI x1), (5, pP b1 0), (7, v3), (8, vI (i1 : Int)), (9, pP b3 0), (10, vI s.2), (24, .slice A0 l0.length c0), (25, vI (l0.length : Int)), (26, vI (i1 : Int))]
abbrev tasks_Comes.B2 (w0 : World) (l0 : List STask) (A0 : Option Addr) (c0 : Nat) (x1 : Int) (b1 : Nat) (i1 : Nat) : ((List SCome) ⊕ ((List SCome) × SFault)) → Exit → Act → World → Prop := Exits 2 (fun (s : (List SCome)) a w => ∃ (v4 : Value), St w0 w [Own.blk b1 (.cells #[vI 0, vI 0] 29 (0, 0)), Own.of v4 53 s] ∧ Frm 55 a [(1, vI x1), (5, pP b1 0), (7, v4), (24, .slice A0 l0.length c0), (25, vI (l0.length : Int)), (26, vI (i1 : Int))]) (Rets Try.prog Try.f19 (tasks_Comes.Post w0))
theorem tasks_Comes_r2 (K : Nat) (w0 : World) (l0 : List STask) (A0 : Option Addr) (c0 : Nat) (x1 : Int) (hR0 : RdL w0 A0 l0) (hL0 : l0.length ≤ c0) (b1 : Nat) (r1 : SFault) (b2 : Nat) (hc1 : r1.Code = 0) (m1 : List SCome) (i1 : Nat) (hc4 : (i1 : Int) < (l0.length : Int)) (e1 : STask) (hx3 : l0[i1]? = some e1) (b3 : Nat) (Z1 : Option Addr) (cz1 : Nat) (s : (List SCome) × Int) (o : ((List SCome) × Int) ⊕ ((List SCome) ⊕ ((List SCome) × SFault))) (h : tasks_Comes.r2 x1 i1 e1 s = some o) (a : Act) (w : World) (hA : tasks_Comes.A2 w0 l0 A0 c0 x1 b1 i1 e1 b3 s a w) (Q : Exit → Act → World → Prop) (hQ : ∀ x a w, Outs (tasks_Comes.A2 w0 l0 A0 c0 x1 b1 i1 e1 b3) (tasks_Comes.B2 w0 l0 A0 c0 x1 b1 i1) o x a w → Q x a w) : (subF Try.f19 [1, 1, 1, 1, 0, 1, 0, 0, 1, 1, 0, 0, 1, 1, 0, 0]).wp Try.prog Q a w := by
 obtain ⟨m3, z1⟩ := s
 obtain ⟨v3, hS, hF⟩ := hA
 replace hS : St w0 w [Own.blk b3 (.cells #[.string e1.Name, vI e1.C, vI e1.T, vI e1.D, vI e1.J, vI e1.O, vI e1.P] 46 (0, 0)), Own.blk b1 (.cells #[vI 0, vI 0] 29 (0, 0)), Own.of v3 53 m3] := hS
 simp only [tasks_Comes.r2] at h
 refine (?_ : WE Try.prog 55 (subF Try.f19 [1, 1, 1, 1, 0, 1, 0, 0, 1, 1, 0, 0, 1, 1, 0, 0]) Q [(1, vI x1), (5, pP b1 0), (7, v3), (8, vI (i1 : Int)), (9, pP b3 0), (10, vI z1), (24, .slice A0 l0.length c0), (25, vI (l0.length : Int)), (26, vI (i1 : Int))] w) a hF
 clear hF a
 refine ws fun K17 hK17 => ?_
 refine ws fun K18 hK18 => ?_
 refine wr [(0, 0), (1, 0), (2, 0)] ?_
 refine gb0 [0, 1, 2] [(35, .bool (decide (z1 < x1))), (34, vI x1), (33, vI z1)] ?_
 refine gn hK18 ?_
 by_cases hc5 : z1 < x1
 ·rw [if_pos hc5] at h
  refine wk 35 (decide (z1 < x1)) true (decide_eq_true hc5) ?_
  refine we_true (by kernel_rfl) ?_
  refine we_skip fun a hF => hK17 _ _ ?_ a hF
  refine ws fun K19 hK19 => ?_
  refine we_block ?_
  refine ws fun K20 hK20 => ?_
  refine wr [(0, 0), (1, 0), (2, 0), (3, 0), (4, 1), (5, 2), (6, 0)] ?_
  refine gb0 [0, 1, 2, 3] [(43, .agg #[vI (i1 : Int), vI z1]), (42, vI z1), (41, vI (i1 : Int)), (40, v3)] ?_
  refine gw (some 44) (.cells #[vI (i1 : Int), vI z1] 53) (fun b => .slice (some ⟨b, 0, none⟩) 1 1) hS fun b4 w10 hx5 hS28 => ?_
  have hS29 := hS28.bring 3 rfl
  by_cases hc6 : m3.length < 8796093022208
  ·rw [if_pos hc6] at h
   refine ge_append (α := SCome) (m := 0) (d := 45) (t := 23) (el := 53) (bytes := 16) (c1 := 1) (b1 := b4) (x := (.tmp 40)) (y := (.tmp 44)) (ty := 23) (v := v3) (z := .agg #[vI 0, vI 0]) (l := m3) (u := (⟨(i1 : Int), z1⟩ : SCome)) (by kernel_rfl) (by kernel_rfl) (by kernel_rfl) (by kernel_rfl) (by kernel_rfl) rfl hS29 rfl (by omega) fun v5 w11 hS30 => ?_
   refine gb0 [6] [(7, v5)] ?_
   refine gn hK20 ?_
   refine ws fun K21 hK21 => ?_
   refine wr [(0, 0), (1, 0), (2, 0)] ?_
   refine gb0 [0] [(46, v5)] ?_
   obtain ⟨Z2, cz2, rfl⟩ := hS30.open 0 rfl
   refine gb0 [1, 2] [(48, .bool (decide (((m3 ++ [(⟨(i1 : Int), z1⟩ : SCome)]).length : Int) > 4000))), (47, vI ((m3 ++ [(⟨(i1 : Int), z1⟩ : SCome)]).length : Int))] ?_
   refine gn hK21 ?_
   by_cases hc7 : ((m3 ++ [(⟨(i1 : Int), z1⟩ : SCome)]).length : Int) > 4000
   ·rw [if_pos hc7] at h
    refine wk 48 (decide (((m3 ++ [(⟨(i1 : Int), z1⟩ : SCome)]).length : Int) > 4000)) true (decide_eq_true hc7) ?_
    refine we_true (by kernel_rfl) ?_
    refine ws fun K22 hK22 => ?_
    refine wr [(0, 0), (1, 0), (2, 2)] ?_
    refine gb0 [0, 1] [(4, .slice none 0 0), (49, .agg #[vI 2, vI 0])] ?_
    have hS31 := hS30.bring 2 rfl
    refine gs b1 0 #[vI 0, vI 0] 29 [vI 2, vI 0] hS31 fun w12 hS32 => ?_
    have hS33 : St w0 w12 [Own.blk b1 (.cells #[vI 2, vI 0] 29 (0, 0)), Own.of (.slice Z2 (m3 ++ [(⟨(i1 : Int), z1⟩ : SCome)]).length cz2) 53 (m3 ++ [(⟨(i1 : Int), z1⟩ : SCome)]), Own.blk b3 (.cells #[.string e1.Name, vI e1.C, vI e1.T, vI e1.D, vI e1.J, vI e1.O, vI e1.P] 46 (0, 0))] := hS32
    refine gn hK22 ?_
    have hS34 := hS33.nil (α := SCome) 53
    have hS35 := hS34.takeN 1
    obtain rfl := si h
    exact we_ret fun a hF => hQ _ _ _ (Outs.out nofun (Exits.on ⟨rfl, (pr [.tmp 4, .cell 5 29] [(.slice none 0 0), .agg #[vI 2, vI 0]] [.loaded ⟨b1, 0, none⟩ (vI 2), .loaded ⟨b1, 1, none⟩ (vI 0)] ⟨hS34.c 1, hS34.c 1, trivial⟩ ⟨(.slice none 0 0), rfl, hS35⟩) a hF⟩))
   ·rw [if_neg hc7] at h
    refine wk 48 (decide (((m3 ++ [(⟨(i1 : Int), z1⟩ : SCome)]).length : Int) > 4000)) false (decide_eq_false hc7) ?_
    refine we_false (by kernel_rfl) ?_
    refine we_skip fun a hF => hK19 _ _ ?_ a hF
    refine wr [(0, 0), (1, 0), (2, 0), (3, 0), (4, 0)] ?_
    refine gb [0, 1, 2, 3, 4] [(10, vI (IntKind.i64.wrap (z1 + e1.T))), (39, vI (IntKind.i64.wrap (z1 + e1.T))), (38, vI e1.T), (37, pP b3 2), (36, vI z1)] [.loaded ⟨b3, 2, none⟩ (vI e1.T)] ⟨hS30.c 1, trivial⟩ ?_
    have hS36 := hS30.bring 2 rfl
    have hS37 := hS36.bring 2 rfl
    obtain rfl := si h
    exact ge_nil fun a hF => hQ _ _ _ (Outs.again ⟨(.slice Z2 (m3 ++ [(⟨(i1 : Int), z1⟩ : SCome)]).length cz2), hS37, hF.weaken ea⟩)
  ·rw [if_neg hc6] at h
   cases h
 ·rw [if_neg hc5] at h
  refine wk 35 (decide (z1 < x1)) false (decide_eq_false hc5) ?_
  refine we_false (by kernel_rfl) ?_
  have hS38 := hS.bring 2 rfl
  have hS39 := hS38.bring 2 rfl
  have hS40 := hS39.takeN 2
  obtain rfl := si h
  exact we_exit fun a hF => hQ _ _ _ (Outs.out nofun (Exits.here ⟨v3, hS40, hF.weaken ea⟩))
abbrev tasks_Comes.A1 (w0 : World) (l0 : List STask) (A0 : Option Addr) (c0 : Nat) (x1 : Int) (b1 : Nat) : ((List SCome) × Nat) → Act → World → Prop := fun (s : (List SCome) × Nat) a w => ∃ (v1 : Value), St w0 w [Own.blk b1 (.cells #[vI 0, vI 0] 29 (0, 0)), Own.of v1 53 s.1] ∧ Frm 55 a [(1, vI x1), (5, pP b1 0), (7, v1), (24, .slice A0 l0.length c0), (25, vI (l0.length : Int)), (26, vI (s.2 : Int))]
abbrev tasks_Comes.B1 (w0 : World) (b1 : Nat) : ((List SCome) ⊕ ((List SCome) × SFault)) → Exit → Act → World → Prop := Exits 0 (fun (s : (List SCome)) a w => ∃ (v2 : Value), St w0 w [Own.blk b1 (.cells #[vI 0, vI 0] 29 (0, 0)), Own.of v2 53 s] ∧ Frm 55 a [(5, pP b1 0), (7, v2)]) (Rets Try.prog Try.f19 (tasks_Comes.Post w0))
theorem tasks_Comes_r1 (K : Nat) (w0 : World) (l0 : List STask) (A0 : Option Addr) (c0 : Nat) (x1 : Int) (hR0 : RdL w0 A0 l0) (hL0 : l0.length ≤ c0) (b1 : Nat) (r1 : SFault) (b2 : Nat) (hc1 : r1.Code = 0) (s : (List SCome) × Nat) (o : ((List SCome) × Nat) ⊕ ((List SCome) ⊕ ((List SCome) × SFault))) (h : tasks_Comes.r1 K l0 x1 s = some o) (a : Act) (w : World) (hA : tasks_Comes.A1 w0 l0 A0 c0 x1 b1 s a w) (Q : Exit → Act → World → Prop) (hQ : ∀ x a w, Outs (tasks_Comes.A1 w0 l0 A0 c0 x1 b1) (tasks_Comes.B1 w0 b1) o x a w → Q x a w) : (subF Try.f19 [1, 1, 1, 1, 0, 1, 0, 0]).wp Try.prog Q a w := by
 obtain ⟨m1, i1⟩ := s
 obtain ⟨v1, hS, hF⟩ := hA
 replace hS : St w0 w [Own.blk b1 (.cells #[vI 0, vI 0] 29 (0, 0)), Own.of v1 53 m1] := hS
 simp only [tasks_Comes.r1] at h
 refine (?_ : WE Try.prog 55 (subF Try.f19 [1, 1, 1, 1, 0, 1, 0, 0]) Q [(1, vI x1), (5, pP b1 0), (7, v1), (24, .slice A0 l0.length c0), (25, vI (l0.length : Int)), (26, vI (i1 : Int))] w) a hF
 clear hF a
 refine ws fun K12 hK12 => ?_
 refine wr [(0, 0)] ?_
 refine gb0 [0] [(27, .bool (decide ((i1 : Int) < (l0.length : Int))))] ?_
 refine gn hK12 ?_
 refine ws fun K13 hK13 => ?_
 by_cases hc4 : (i1 : Int) < (l0.length : Int)
 ·rw [if_pos hc4] at h
  refine wk 27 (decide ((i1 : Int) < (l0.length : Int))) true (decide_eq_true hc4) ?_
  refine we_true (by kernel_rfl) ?_
  refine we_skip fun a hF => hK13 _ _ ?_ a hF
  refine ws fun K14 hK14 => ?_
  refine we_block ?_
  refine ws fun K15 hK15 => ?_
  refine wr [(0, 0), (1, 0), (2, 0), (3, 1), (4, 0), (5, 2)] ?_
  refine gb0 [0] [(28, vI (i1 : Int))] ?_
  rcases hx3 : l0[i1]? with _ | e1
  ·rw [hx3] at h; cases h
  rw [hx3] at h
  simp only [] at h
  refine gi 29 0 22 46 7 l0.length c0 (.tmp 24) (.tmp 26) A0 .i64 (i1 : Int) i1 ((hS.rd hR0).eqSome (pos_of_get hx3)) rfl (lt_of_get hx3) ?_
  refine gb [2] [(30, .agg #[.string e1.Name, vI e1.C, vI e1.T, vI e1.D, vI e1.J, vI e1.O, vI e1.P])] [.loaded ⟨blkOf A0, offOf A0 + i1 * 7, none⟩ (.string e1.Name), .loaded ⟨blkOf A0, offOf A0 + i1 * 7 + 1, none⟩ (vI e1.C), .loaded ⟨blkOf A0, offOf A0 + i1 * 7 + 2, none⟩ (vI e1.T), .loaded ⟨blkOf A0, offOf A0 + i1 * 7 + 3, none⟩ (vI e1.D), .loaded ⟨blkOf A0, offOf A0 + i1 * 7 + 4, none⟩ (vI e1.J), .loaded ⟨blkOf A0, offOf A0 + i1 * 7 + 5, none⟩ (vI e1.O), .loaded ⟨blkOf A0, offOf A0 + i1 * 7 + 6, none⟩ (vI e1.P)] ⟨RdL.cell (j := 0) (hS.rd hR0) hx3 rfl, RdL.cell (j := 1) (hS.rd hR0) hx3 rfl, RdL.cell (j := 2) (hS.rd hR0) hx3 rfl, RdL.cell (j := 3) (hS.rd hR0) hx3 rfl, RdL.cell (j := 4) (hS.rd hR0) hx3 rfl, RdL.cell (j := 5) (hS.rd hR0) hx3 rfl, RdL.cell (j := 6) (hS.rd hR0) hx3 rfl, trivial⟩ ?_
  refine gw (some 9) (.cells #[.string (⟨#[]⟩), vI 0, vI 0, vI 0, vI 0, vI 0, vI 0] 46) (fun b => pP b 0) hS fun b3 w8 hx4 hS22 => ?_
  refine gb0 [4] [(8, vI (i1 : Int))] ?_
  refine gs b3 0 #[.string (⟨#[]⟩), vI 0, vI 0, vI 0, vI 0, vI 0, vI 0] 46 [.string e1.Name, vI e1.C, vI e1.T, vI e1.D, vI e1.J, vI e1.O, vI e1.P] hS22 fun w9 hS23 => ?_
  have hS24 : St w0 w9 [Own.blk b3 (.cells #[.string e1.Name, vI e1.C, vI e1.T, vI e1.D, vI e1.J, vI e1.O, vI e1.P] 46 (0, 0)), Own.blk b1 (.cells #[vI 0, vI 0] 29 (0, 0)), Own.of v1 53 m1] := hS23
  refine gn hK15 ?_
  refine ws fun K16 hK16 => ?_
  refine wr [(0, 0), (1, 0), (2, 0)] ?_
  refine gb [0, 1, 2] [(10, vI e1.O), (32, vI e1.O), (31, pP b3 5)] [.loaded ⟨b3, 5, none⟩ (vI e1.O)] ⟨hS24.c 0, trivial⟩ ?_
  refine gn hK16 ?_
  refine we_block ?_
  obtain ⟨Z1, cz1, rfl⟩ := hS24.open 2 rfl
  have hS25 := hS24.bring 2 rfl
  have hS26 := hS25.bring 2 rfl
  have hS27 := hS26.bring 2 rfl
  rcases hq3 : iter (tasks_Comes.r2 x1 i1 e1) K (m1, e1.O) with _ | (m5 | rr1)
  ·rw [hq3] at h; cases h
  ·rw [hq3] at h
   simp only [] at h
   refine we_iter (A := tasks_Comes.A2 w0 l0 A0 c0 x1 b1 i1 e1 b3) (B := tasks_Comes.B2 w0 l0 A0 c0 x1 b1 i1) hq3 (fun a hF => ⟨(.slice Z1 m1.length cz1), hS27, hF.weaken ea⟩) (fun s o hf a w hA Q hQ => tasks_Comes_r2 K w0 l0 A0 c0 x1 hR0 hL0 b1 r1 b2 hc1 m1 i1 hc4 e1 hx3 b3 Z1 cz1 s o hf a w hA Q hQ) ?_
   rintro _ a w13 _ ⟨rfl, v6, hS41, hF⟩
   replace hS41 : St w0 w13 [Own.blk b1 (.cells #[vI 0, vI 0] 29 (0, 0)), Own.of v6 53 m5] := hS41
   refine hK14 [(1, vI x1), (5, pP b1 0), (7, v6), (24, .slice A0 l0.length c0), (25, vI (l0.length : Int)), (26, vI (i1 : Int))] w13 ?_ a hF
   refine wr [(0, 0), (1, 0)] ?_
   refine ge_addn (d := 50) (ty := 3) (x := (.tmp 26)) (y := (.const (vI 1))) (t := 3) (t2 := 3) (k := .i64) (m := i1) (by kernel_rfl) (by kernel_rfl) (by kernel_rfl) (by have h0 := hR0.small; omega) ?_
   refine gb0 [1] [(26, vI ((i1 + 1 : Nat) : Int))] ?_
   have hS42 := hS41.bring 1 rfl
   have hS43 := hS42.bring 1 rfl
   obtain rfl := si h
   exact ge_nil fun a hF => hQ _ _ _ (Outs.again ⟨v6, hS43, hF.weaken ea⟩)
  ·rw [hq3] at h
   simp only [] at h
   refine we_iter (A := tasks_Comes.A2 w0 l0 A0 c0 x1 b1 i1 e1 b3) (B := tasks_Comes.B2 w0 l0 A0 c0 x1 b1 i1) hq3 (fun a hF => ⟨(.slice Z1 m1.length cz1), hS27, hF.weaken ea⟩) (fun s o hf a w hA Q hQ => tasks_Comes_r2 K w0 l0 A0 c0 x1 hR0 hL0 b1 r1 b2 hc1 m1 i1 hc4 e1 hx3 b3 Z1 cz1 s o hf a w hA Q hQ) ?_
   rintro _ a w1 _ ⟨rfl, hb⟩
   obtain rfl := si h
   exact hQ _ _ _ (Outs.out nofun (Exits.on ⟨rfl, hb⟩))
 ·rw [if_neg hc4] at h
  refine wk 27 (decide ((i1 : Int) < (l0.length : Int))) false (decide_eq_false hc4) ?_
  refine we_false (by kernel_rfl) ?_
  have hS44 := hS.bring 1 rfl
  have hS45 := hS44.bring 1 rfl
  obtain rfl := si h
  exact we_exit fun a hF => hQ _ _ _ (Outs.out nofun (Exits.here ⟨v1, hS45, hF.weaken ea⟩))
theorem tasks_Comes_ok (K : Nat) (l0 : List STask) (A0 : Option Addr) (c0 : Nat) (x1 : Int) (w0 : World) (hR0 : RdL w0 A0 l0) (hL0 : l0.length ≤ c0) (r : (List SCome) × SFault) (h : tasks_Comes.f K l0 x1 = some r) :
  Calls Try.prog 19 #[.slice A0 l0.length c0, vI x1] w0 (tasks_Comes.Post w0 r) := by
 have hS := St.start w0
 unfold tasks_Comes.f at h
 refine calls_enter (n := 55) (args := [.slice A0 l0.length c0, vI x1]) (fn := Try.f19) rfl rfl rfl rfl ?_
 show WE _ _ _ _ [(0, .slice A0 l0.length c0), (1, vI x1)] _
 refine ws fun K1 hK1 => ?_
 refine wr [(0, 0), (1, 1)] ?_
 refine gb0 [0] [(4, .slice none 0 0)] ?_
 refine gw (some 5) (.cells #[vI 0, vI 0] 29) (fun b => pP b 0) hS fun b1 w1 hx1 hS1 => ?_
 refine gn hK1 ?_
 refine ws fun K2 hK2 => ?_
 refine ws fun K3 hK3 => ?_
 refine wr [(0, 0), (1, 1), (2, 1), (3, 2)] ?_
 rcases hq1 : tasks_Check.f K l0 with _ | r1
 ·rw [hq1] at h; cases h
 rw [hq1] at h
 simp only [] at h
 refine gb0 [0] [(11, .slice A0 l0.length c0)] ?_
 refine ge_call (d := some 12) (f := 35) (args := #[.slice A0 l0.length c0]) (by kernel_rfl) (tasks_Check_ok K l0 A0 c0 _ (hS1.rd hR0) hL0 _ hq1) ?_
 rintro _ w2 ⟨rfl, hS2⟩
 refine ⟨_, rfl, hS2.below, ?_⟩
 have hS3 := hS1.call hS2
 refine gw (some 6) (.cells #[vI 0, vI 0] 29) (fun b => pP b 0) hS3 fun b2 w3 hx2 hS4 => ?_
 refine gs b2 0 #[vI 0, vI 0] 29 [vI r1.Code, vI r1.At] hS4 fun w4 hS5 => ?_
 have hS6 : St w0 w4 [Own.blk b2 (.cells #[vI r1.Code, vI r1.At] 29 (0, 0)), Own.blk b1 (.cells #[vI 0, vI 0] 29 (0, 0))] := hS5
 refine gn hK3 ?_
 refine ws fun K4 hK4 => ?_
 refine wr [(0, 0), (1, 0), (2, 0)] ?_
 refine gb [0, 1, 2] [(15, .bool (r1.Code != 0)), (14, vI r1.Code), (13, pP b2 0)] [.loaded ⟨b2, 0, none⟩ (vI r1.Code)] ⟨hS6.c 0, trivial⟩ ?_
 refine gn hK4 ?_
 by_cases hc1 : r1.Code = 0
 ·rw [if_pos hc1] at h
  refine wk 15 (r1.Code != 0) false (bne_eq_false_iff_eq.2 hc1) ?_
  refine we_false (by kernel_rfl) ?_
  refine we_skip fun a hF => hK2 _ _ ?_ a hF
  refine ws fun K5 hK5 => ?_
  rcases hq2 : tasks_Comes.p0 x1 with _ | (_ | rr3)
  ·rw [hq2] at h; cases h
  ·rw [hq2] at h
   simp only [] at h
   refine we_keep (e' := [(0, .slice A0 l0.length c0), (1, vI x1), (4, .slice none 0 0), (5, pP b1 0), (6, pP b2 0), (11, .slice A0 l0.length c0), (12, .agg #[vI r1.Code, vI r1.At]), (13, pP b2 0), (14, vI r1.Code), (15, .bool false)]) ea (tasks_Comes_p0 K w0 l0 A0 c0 x1 hR0 hL0 b1 r1 b2 hc1 _ hq2 _ hS6 _ ?_)
   rintro _ a w7 ⟨rfl, hS19, hF⟩
   replace hS19 : St w0 w7 [Own.blk b1 (.cells #[vI 0, vI 0] 29 (0, 0))] := hS19
   refine hK5 [(0, .slice A0 l0.length c0), (1, vI x1), (5, pP b1 0)] w7 ?_ a hF
   refine ws fun K9 hK9 => ?_
   refine wr [(0, 0)] ?_
   refine gb0 [0] [(7, .slice none 0 0)] ?_
   refine gn hK9 ?_
   refine ws fun K10 hK10 => ?_
   refine ws fun K11 hK11 => ?_
   refine wr [(0, 0), (1, 0), (2, 0)] ?_
   refine gb0 [0, 1, 2] [(26, vI 0), (25, vI (l0.length : Int)), (24, .slice A0 l0.length c0)] ?_
   refine gn hK11 ?_
   refine we_block ?_
   have hS20 := hS19.nil (α := SCome) 53
   have hS21 := hS20.bring 1 rfl
   rcases hq4 : iter (tasks_Comes.r1 K l0 x1) K (([] : List SCome), 0) with _ | (m6 | rr2)
   ·rw [hq4] at h; cases h
   ·rw [hq4] at h
    simp only [] at h
    refine we_iter (A := tasks_Comes.A1 w0 l0 A0 c0 x1 b1) (B := tasks_Comes.B1 w0 b1) hq4 (fun a hF => ⟨(.slice none 0 0), hS21, hF.weaken ea⟩) (fun s o hf a w hA Q hQ => tasks_Comes_r1 K w0 l0 A0 c0 x1 hR0 hL0 b1 r1 b2 hc1 s o hf a w hA Q hQ) ?_
    rintro _ a w14 _ ⟨rfl, v7, hS46, hF⟩
    replace hS46 : St w0 w14 [Own.blk b1 (.cells #[vI 0, vI 0] 29 (0, 0)), Own.of v7 53 m6] := hS46
    refine hK10 [(5, pP b1 0), (7, v7)] w14 ?_ a hF
    refine ws fun K23 hK23 => ?_
    refine wr [(0, 0), (1, 2)] ?_
    refine gb0 [0] [(51, v7)] ?_
    obtain ⟨Z3, cz3, rfl⟩ := hS46.open 1 rfl
    rcases hq5 : slices_SortStableFunc_api_Come_api_Come.f K m6 with _ | r2
    ·rw [hq5] at h; cases h
    rw [hq5] at h
    simp only [] at h
    have hS47 := hS46.bring 1 rfl
    have hS49 : St w0 w14 [Own.of (.slice Z3 m6.length cz3) 53 m6, Own.all [Own.blk b1 (.cells #[vI 0, vI 0] 29 (0, 0))]] := hS47.packN 1
    refine ge_call2 (m := 0) (d := some 52) (f := 40) (args := #[.slice Z3 m6.length cz3, .func (.func 41) #[] #[]]) (by kernel_rfl) (slices_SortStableFunc_api_Come_api_Come_ok K m6 Z3 cz3 _ _ _ hS49 _ hq5) ?_
    rintro _ w15 ⟨rfl, hE1, hS48⟩
    refine ⟨_, rfl, ?_⟩
    have hS50 : St w0 w15 [Own.of (.slice Z3 r2.length cz3) 53 r2, Own.blk b1 (.cells #[vI 0, vI 0] 29 (0, 0))] := hS48.unpack [Own.of (.slice Z3 r2.length cz3) 53 r2]
    refine ge_same (t := 7) (v := (.slice Z3 m6.length cz3)) (v' := (.slice Z3 r2.length cz3)) (by kernel_rfl) (by rw [show m6.length = r2.length from hE1]) ?_
    refine ge_same (t := 51) (v := (.slice Z3 m6.length cz3)) (v' := (.slice Z3 r2.length cz3)) (by kernel_rfl) (by rw [show m6.length = r2.length from hE1]) ?_
    refine gn hK23 ?_
    refine ws fun K24 hK24 => ?_
    refine wr [(0, 0), (1, 0), (2, 0), (3, 2)] ?_
    refine gb0 [0, 1, 2] [(4, (.slice Z3 r2.length cz3)), (54, .agg #[vI 0, vI 0]), (53, (.slice Z3 r2.length cz3))] ?_
    have hS51 := hS50.bring 1 rfl
    refine gs b1 0 #[vI 0, vI 0] 29 [vI 0, vI 0] hS51 fun w16 hS52 => ?_
    have hS53 : St w0 w16 [Own.blk b1 (.cells #[vI 0, vI 0] 29 (0, 0)), Own.of (.slice Z3 r2.length cz3) 53 r2] := hS52
    refine gn hK24 ?_
    have hS54 := hS53.bring 1 rfl
    have hS55 := hS54.takeN 1
    obtain rfl := si h
    exact we_ret (pr [.tmp 4, .cell 5 29] [(.slice Z3 r2.length cz3), .agg #[vI 0, vI 0]] [.loaded ⟨b1, 0, none⟩ (vI 0), .loaded ⟨b1, 1, none⟩ (vI 0)] ⟨hS53.c 0, hS53.c 0, trivial⟩ ⟨(.slice Z3 r2.length cz3), rfl, hS55⟩)
   ·rw [hq4] at h
    simp only [] at h
    refine we_iter (A := tasks_Comes.A1 w0 l0 A0 c0 x1 b1) (B := tasks_Comes.B1 w0 b1) hq4 (fun a hF => ⟨(.slice none 0 0), hS21, hF.weaken ea⟩) (fun s o hf a w hA Q hQ => tasks_Comes_r1 K w0 l0 A0 c0 x1 hR0 hL0 b1 r1 b2 hc1 s o hf a w hA Q hQ) ?_
    rintro _ a w1 _ ⟨rfl, hb⟩
    obtain rfl := si h
    exact hb
  ·rw [hq2] at h
   simp only [] at h
   refine we_keep (e' := [(0, .slice A0 l0.length c0), (1, vI x1), (4, .slice none 0 0), (5, pP b1 0), (6, pP b2 0), (11, .slice A0 l0.length c0), (12, .agg #[vI r1.Code, vI r1.At]), (13, pP b2 0), (14, vI r1.Code), (15, .bool false)]) ea (tasks_Comes_p0 K w0 l0 A0 c0 x1 hR0 hL0 b1 r1 b2 hc1 _ hq2 _ hS6 _ ?_)
   rintro _ a w1 ⟨_, rfl, hb⟩
   obtain rfl := si h
   exact hb
 ·rw [if_neg hc1] at h
  refine wk 15 (r1.Code != 0) true (bne_iff_ne.2 hc1) ?_
  refine we_true (by kernel_rfl) ?_
  refine ws fun K25 hK25 => ?_
  refine we_draws (by kernel_rfl) [(0, 0), (1, 0), (2, 2)] (by kernel_rfl) ?_
  have hS56 := hS6.drew
  refine gb [0, 1] [(4, .slice none 0 0), (16, .agg #[vI r1.Code, vI r1.At])] [.loaded ⟨b2, 0, none⟩ (vI r1.Code), .loaded ⟨b2, 1, none⟩ (vI r1.At)] ⟨hS56.c 0, hS56.c 0, trivial⟩ ?_
  have hS57 := hS56.bring 1 rfl
  refine gs b1 0 #[vI 0, vI 0] 29 [vI r1.Code, vI r1.At] hS57 fun w17 hS58 => ?_
  have hS59 : St w0 w17 [Own.blk b1 (.cells #[vI r1.Code, vI r1.At] 29 (0, 0)), Own.blk b2 (.cells #[vI r1.Code, vI r1.At] 29 (0, 0))] := hS58
  refine gn hK25 ?_
  have hS60 := hS59.nil (α := SCome) 53
  have hS61 := hS60.takeN 1
  obtain rfl := si h
  exact we_ret (pr [.tmp 4, .cell 5 29] [(.slice none 0 0), .agg #[vI r1.Code, vI r1.At]] [.loaded ⟨b1, 0, none⟩ (vI r1.Code), .loaded ⟨b1, 1, none⟩ (vI r1.At)] ⟨hS60.c 1, hS60.c 1, trivial⟩ ⟨(.slice none 0 0), rfl, hS61⟩)

/-! punctual/tasks.Legal -/
abbrev tasks_Legal.Post (w0 : World) (r : SFault) (e : Ending) (w : World) : Prop := e = .returned (.agg #[vI r.Code, vI r.At]) ∧ St w0 w []
def tasks_Legal.p1 (l0 : List STask) (l1 : List SCome) (i1 : Nat) (m1 : List Int) (e1 : SCome) : Option (Unit ⊕ SFault) :=
  if e1.Task < 0 then
   some (.inr (⟨4, (i1 : Int)⟩ : SFault))
  else
   if e1.Task ≥ (l0.length : Int) then
    some (.inr (⟨4, (i1 : Int)⟩ : SFault))
   else
    if e1.At < 0 then
     some (.inr (⟨3, (i1 : Int)⟩ : SFault))
    else
     if e1.At > 20000 then
      some (.inr (⟨3, (i1 : Int)⟩ : SFault))
     else
      if (i1 : Int) > 0 then
       if 0 ≤ (IntKind.i64.wrap ((i1 : Int) - 1)) then
        match l1[(IntKind.i64.wrap ((i1 : Int) - 1)).toNat]? with
        | none => none
        | some e2 =>
         if e1.At < e2.At then
          some (.inr (⟨12, (i1 : Int)⟩ : SFault))
         else
          if 0 ≤ e1.Task then
           match m1[(e1.Task).toNat]? with
           | none => none
           | some e3 =>
            if e1.At < e3 then
             some (.inr (⟨12, (i1 : Int)⟩ : SFault))
            else
             some (.inl ())
          else
           none
       else
        none
      else
       if 0 ≤ e1.Task then
        match m1[(e1.Task).toNat]? with
        | none => none
        | some e4 =>
         if e1.At < e4 then
          some (.inr (⟨12, (i1 : Int)⟩ : SFault))
         else
          some (.inl ())
       else
        none
def tasks_Legal.r0 (l0 : List STask) (l1 : List SCome) : Nat × (List Int) → Option ((Nat × (List Int)) ⊕ (Unit ⊕ SFault))
 | (i1, m1) =>
  if (i1 : Int) < (l1.length : Int) then
   match l1[i1]? with
   | none => none
   | some e1 =>
    match tasks_Legal.p1 l0 l1 i1 m1 e1 with
    | none => none
    | some (.inl _) =>
     if 0 ≤ e1.Task then
      match l0[(e1.Task).toNat]? with
      | none => none
      | some e5 =>
       match m1[(e1.Task).toNat]? with
       | none => none
       | some e6 =>
        some (.inl ((i1 + 1), (m1.set ((e1.Task).toNat) (IntKind.i64.wrap (e1.At + e5.T)))))
     else
      none
    | some (.inr rr1) =>
     some (.inr (.inr rr1))
  else
   some (.inr (.inl ()))
def tasks_Legal.f (K : Nat) (l0 : List STask) (l1 : List SCome) : Option SFault :=
 match tasks_Check.f K l0 with
 | none => none
 | some r1 =>
  if r1.Code = 0 then
   if (l1.length : Int) > 4000 then
    some (⟨2, 0⟩ : SFault)
   else
    if l0.length ≤ 17592186044416 then
     match iter (tasks_Legal.r0 l0 l1) K (0, (List.replicate l0.length (0 : Int))) with
     | none => none
     | some (.inl _) =>
      some (⟨0, 0⟩ : SFault)
     | some (.inr rr2) =>
      some rr2
    else
     none
  else
   some r1
abbrev tasks_Legal.A1 (w0 : World) (l0 : List STask) (A0 : Option Addr) (c0 : Nat) (l1 : List SCome) (A1 : Option Addr) (c1 : Nat) (b1 : Nat) (Z1 : Option Addr) (cz1 : Nat) (i1 : Nat) (m1 : List Int) (e1 : SCome) (b3 : Nat) : Unit → Act → World → Prop := fun (s : Unit) a w => St w0 w [Own.blk b3 (.cells #[vI e1.Task, vI e1.At] 53 (0, 0)), Own.blk b1 (.cells #[vI 0, vI 0] 29 (0, 0)), Own.of (.slice Z1 m1.length cz1) 3 m1] ∧ Frm 94 a [(0, .slice A0 l0.length c0), (1, .slice A1 l1.length c1), (4, pP b1 0), (6, (.slice Z1 m1.length cz1)), (8, pP b3 0), (22, .slice A1 l1.length c1), (23, vI (l1.length : Int)), (24, vI (i1 : Int))]
abbrev tasks_Legal.B1 (w0 : World) : SFault → Exit → Act → World → Prop := Rets Try.prog Try.f27 (tasks_Legal.Post w0)
theorem tasks_Legal_p1 (K : Nat) (w0 : World) (l0 : List STask) (A0 : Option Addr) (c0 : Nat) (l1 : List SCome) (A1 : Option Addr) (c1 : Nat) (hR0 : RdL w0 A0 l0) (hL0 : l0.length ≤ c0) (hR1 : RdL w0 A1 l1) (hL1 : l1.length ≤ c1) (b1 : Nat) (r1 : SFault) (b2 : Nat) (hc1 : r1.Code = 0) (hc2 : ¬ ((l1.length : Int) > 4000)) (hc3 : l0.length ≤ 17592186044416) (Z1 : Option Addr) (cz1 : Nat) (i1 : Nat) (m1 : List Int) (hc4 : (i1 : Int) < (l1.length : Int)) (e1 : SCome) (hx3 : l1[i1]? = some e1) (b3 : Nat) (o : Unit ⊕ SFault) (h : tasks_Legal.p1 l0 l1 i1 m1 e1 = some o) (w : World) (hS : St w0 w [Own.blk b3 (.cells #[vI e1.Task, vI e1.At] 53 (0, 0)), Own.blk b1 (.cells #[vI 0, vI 0] 29 (0, 0)), Own.of (.slice Z1 m1.length cz1) 3 m1]) (Q : Exit → Act → World → Prop) (hQ : ∀ x a w, Outs (tasks_Legal.A1 w0 l0 A0 c0 l1 A1 c1 b1 Z1 cz1 i1 m1 e1 b3) (tasks_Legal.B1 w0) o x a w → Q x a w) : WE Try.prog 94 (subF Try.f27 [1, 1, 1, 1, 0, 1, 0, 0, 1, 1, 0, 0, 1, 0]) Q [(0, .slice A0 l0.length c0), (1, .slice A1 l1.length c1), (4, pP b1 0), (6, (.slice Z1 m1.length cz1)), (7, vI (i1 : Int)), (8, pP b3 0), (22, .slice A1 l1.length c1), (23, vI (l1.length : Int)), (24, vI (i1 : Int)), (25, .bool true), (26, vI (i1 : Int)), (27, .pointer (some ⟨blkOf A1, offOf A1 + i1 * 2, none⟩)), (28, .agg #[vI e1.Task, vI e1.At])] w := by
 simp only [tasks_Legal.p1] at h
 refine we_block ?_
 refine ws fun K16 hK16 => ?_
 refine wr [(0, 0), (1, 0), (2, 0), (3, 0), (4, 0), (5, 0), (6, 0), (7, 0), (8, 0), (9, 0), (10, 0)] ?_
 refine gb [0, 1, 2, 3] [(33, .bool (decide (e1.Task < 0))), (32, .bool (decide (e1.Task < 0))), (31, vI e1.Task), (30, pP b3 0)] [.loaded ⟨b3, 0, none⟩ (vI e1.Task)] ⟨hS.c 0, trivial⟩ ?_
 by_cases hc5 : e1.Task < 0
 ·rw [if_pos hc5] at h
  refine gk 33 (decide (e1.Task < 0)) true (decide_eq_true hc5) ?_
  refine gb0 [4, 5, 6, 7, 8, 9, 10] [(29, .bool true), (39, .bool true), (38, undef), (37, undef), (36, undef), (35, undef), (34, undef)] ?_
  refine gn hK16 ?_
  refine we_true (by kernel_rfl) ?_
  refine ws fun K17 hK17 => ?_
  refine wr [(0, 0), (1, 0), (2, 2)] ?_
  refine gb0 [0, 1] [(41, .agg #[vI 4, vI (i1 : Int)]), (40, vI (i1 : Int))] ?_
  have hS17 := hS.bring 1 rfl
  refine gs b1 0 #[vI 0, vI 0] 29 [vI 4, vI (i1 : Int)] hS17 fun w9 hS18 => ?_
  have hS19 : St w0 w9 [Own.blk b1 (.cells #[vI 4, vI (i1 : Int)] 29 (0, 0)), Own.blk b3 (.cells #[vI e1.Task, vI e1.At] 53 (0, 0)), Own.of (.slice Z1 m1.length cz1) 3 m1] := hS18
  refine gn hK17 ?_
  have hS20 := hS19.takeN 0
  obtain rfl := si h
  exact we_ret fun a hF => hQ _ _ _ (Outs.out nofun ⟨rfl, (pr [.cell 4 29] [.agg #[vI 4, vI (i1 : Int)]] [.loaded ⟨b1, 0, none⟩ (vI 4), .loaded ⟨b1, 1, none⟩ (vI (i1 : Int))] ⟨hS19.c 0, hS19.c 0, trivial⟩ ⟨rfl, hS20⟩) a hF⟩)
 ·rw [if_neg hc5] at h
  refine gk 33 (decide (e1.Task < 0)) false (decide_eq_false hc5) ?_
  refine gb [4, 5, 6, 7, 8, 9, 10] [(29, .bool (decide (e1.Task ≥ (l0.length : Int)))), (39, .bool (decide (e1.Task ≥ (l0.length : Int)))), (38, .bool (decide (e1.Task ≥ (l0.length : Int)))), (37, vI (l0.length : Int)), (36, .slice A0 l0.length c0), (35, vI e1.Task), (34, pP b3 0)] [.loaded ⟨b3, 0, none⟩ (vI e1.Task)] ⟨hS.c 0, trivial⟩ ?_
  refine gn hK16 ?_
  by_cases hc6 : e1.Task ≥ (l0.length : Int)
  ·rw [if_pos hc6] at h
   refine wk 29 (decide (e1.Task ≥ (l0.length : Int))) true (decide_eq_true hc6) ?_
   refine we_true (by kernel_rfl) ?_
   refine ws fun K18 hK18 => ?_
   refine wr [(0, 0), (1, 0), (2, 2)] ?_
   refine gb0 [0, 1] [(41, .agg #[vI 4, vI (i1 : Int)]), (40, vI (i1 : Int))] ?_
   have hS21 := hS.bring 1 rfl
   refine gs b1 0 #[vI 0, vI 0] 29 [vI 4, vI (i1 : Int)] hS21 fun w10 hS22 => ?_
   have hS23 : St w0 w10 [Own.blk b1 (.cells #[vI 4, vI (i1 : Int)] 29 (0, 0)), Own.blk b3 (.cells #[vI e1.Task, vI e1.At] 53 (0, 0)), Own.of (.slice Z1 m1.length cz1) 3 m1] := hS22
   refine gn hK18 ?_
   have hS24 := hS23.takeN 0
   obtain rfl := si h
   exact we_ret fun a hF => hQ _ _ _ (Outs.out nofun ⟨rfl, (pr [.cell 4 29] [.agg #[vI 4, vI (i1 : Int)]] [.loaded ⟨b1, 0, none⟩ (vI 4), .loaded ⟨b1, 1, none⟩ (vI (i1 : Int))] ⟨hS23.c 0, hS23.c 0, trivial⟩ ⟨rfl, hS24⟩) a hF⟩)
  ·rw [if_neg hc6] at h
   refine wk 29 (decide (e1.Task ≥ (l0.length : Int))) false (decide_eq_false hc6) ?_
   refine we_false (by kernel_rfl) ?_
   refine ws fun K19 hK19 => ?_
   refine wr [(0, 0), (1, 0), (2, 0), (3, 0), (4, 0), (5, 0), (6, 0), (7, 0), (8, 0)] ?_
   refine gb [0, 1, 2, 3] [(46, .bool (decide (e1.At < 0))), (45, .bool (decide (e1.At < 0))), (44, vI e1.At), (43, pP b3 1)] [.loaded ⟨b3, 1, none⟩ (vI e1.At)] ⟨hS.c 0, trivial⟩ ?_
   by_cases hc7 : e1.At < 0
   ·rw [if_pos hc7] at h
    refine gk 46 (decide (e1.At < 0)) true (decide_eq_true hc7) ?_
    refine gb0 [4, 5, 6, 7, 8] [(42, .bool true), (50, .bool true), (49, undef), (48, undef), (47, undef)] ?_
    refine gn hK19 ?_
    refine we_true (by kernel_rfl) ?_
    refine ws fun K20 hK20 => ?_
    refine wr [(0, 0), (1, 0), (2, 2)] ?_
    refine gb0 [0, 1] [(52, .agg #[vI 3, vI (i1 : Int)]), (51, vI (i1 : Int))] ?_
    have hS25 := hS.bring 1 rfl
    refine gs b1 0 #[vI 0, vI 0] 29 [vI 3, vI (i1 : Int)] hS25 fun w11 hS26 => ?_
    have hS27 : St w0 w11 [Own.blk b1 (.cells #[vI 3, vI (i1 : Int)] 29 (0, 0)), Own.blk b3 (.cells #[vI e1.Task, vI e1.At] 53 (0, 0)), Own.of (.slice Z1 m1.length cz1) 3 m1] := hS26
    refine gn hK20 ?_
    have hS28 := hS27.takeN 0
    obtain rfl := si h
    exact we_ret fun a hF => hQ _ _ _ (Outs.out nofun ⟨rfl, (pr [.cell 4 29] [.agg #[vI 3, vI (i1 : Int)]] [.loaded ⟨b1, 0, none⟩ (vI 3), .loaded ⟨b1, 1, none⟩ (vI (i1 : Int))] ⟨hS27.c 0, hS27.c 0, trivial⟩ ⟨rfl, hS28⟩) a hF⟩)
   ·rw [if_neg hc7] at h
    refine gk 46 (decide (e1.At < 0)) false (decide_eq_false hc7) ?_
    refine gb [4, 5, 6, 7, 8] [(42, .bool (decide (e1.At > 20000))), (50, .bool (decide (e1.At > 20000))), (49, .bool (decide (e1.At > 20000))), (48, vI e1.At), (47, pP b3 1)] [.loaded ⟨b3, 1, none⟩ (vI e1.At)] ⟨hS.c 0, trivial⟩ ?_
    refine gn hK19 ?_
    by_cases hc8 : e1.At > 20000
    ·rw [if_pos hc8] at h
     refine wk 42 (decide (e1.At > 20000)) true (decide_eq_true hc8) ?_
     refine we_true (by kernel_rfl) ?_
     refine ws fun K21 hK21 => ?_
     refine wr [(0, 0), (1, 0), (2, 2)] ?_
     refine gb0 [0, 1] [(52, .agg #[vI 3, vI (i1 : Int)]), (51, vI (i1 : Int))] ?_
     have hS29 := hS.bring 1 rfl
     refine gs b1 0 #[vI 0, vI 0] 29 [vI 3, vI (i1 : Int)] hS29 fun w12 hS30 => ?_
     have hS31 : St w0 w12 [Own.blk b1 (.cells #[vI 3, vI (i1 : Int)] 29 (0, 0)), Own.blk b3 (.cells #[vI e1.Task, vI e1.At] 53 (0, 0)), Own.of (.slice Z1 m1.length cz1) 3 m1] := hS30
     refine gn hK21 ?_
     have hS32 := hS31.takeN 0
     obtain rfl := si h
     exact we_ret fun a hF => hQ _ _ _ (Outs.out nofun ⟨rfl, (pr [.cell 4 29] [.agg #[vI 3, vI (i1 : Int)]] [.loaded ⟨b1, 0, none⟩ (vI 3), .loaded ⟨b1, 1, none⟩ (vI (i1 : Int))] ⟨hS31.c 0, hS31.c 0, trivial⟩ ⟨rfl, hS32⟩) a hF⟩)
    ·rw [if_neg hc8] at h
     refine wk 42 (decide (e1.At > 20000)) false (decide_eq_false hc8) ?_
     refine we_false (by kernel_rfl) ?_
     refine ws fun K22 hK22 => ?_
     refine we_draws (by kernel_rfl) [(0, 0), (1, 0), (2, 0), (3, 0), (4, 0), (5, 0), (6, 0), (7, 0), (8, 0), (9, 0), (10, 0), (11, 0), (12, 0), (13, 0), (14, 0), (15, 0), (16, 0), (17, 0), (18, 0), (19, 0), (20, 0), (21, 0), (22, 0), (23, 0)] (by kernel_rfl) ?_
     have hS33 := hS.drew
     refine gb0 [0, 1, 2] [(56, .bool (decide ((i1 : Int) > 0))), (55, .bool (decide ((i1 : Int) > 0))), (54, vI (i1 : Int))] ?_
     by_cases hc9 : (i1 : Int) > 0
     ·rw [if_pos hc9] at h
      refine gk 56 (decide ((i1 : Int) > 0)) true (decide_eq_true hc9) ?_
      refine gb [3, 4, 5, 6, 7] [(61, vI (IntKind.i64.wrap ((i1 : Int) - 1))), (60, vI (i1 : Int)), (59, .slice A1 l1.length c1), (58, vI e1.At), (57, pP b3 1)] [.loaded ⟨b3, 1, none⟩ (vI e1.At)] ⟨hS33.c 0, trivial⟩ ?_
      by_cases hc10 : 0 ≤ (IntKind.i64.wrap ((i1 : Int) - 1))
      ·rw [if_pos hc10] at h
       rcases hx5 : l1[(IntKind.i64.wrap ((i1 : Int) - 1)).toNat]? with _ | e2
       ·rw [hx5] at h; cases h
       rw [hx5] at h
       simp only [] at h
       refine gi 62 0 23 53 2 l1.length c1 (.tmp 59) (.tmp 61) A1 .i64 (IntKind.i64.wrap ((i1 : Int) - 1)) ((IntKind.i64.wrap ((i1 : Int) - 1)).toNat) ((hS33.rd hR1).eqSome (pos_of_get hx5)) (Int.toNat_of_nonneg hc10).symm (lt_of_get hx5) ?_
       refine gb [9, 10, 11, 12, 13] [(67, .bool (decide (e1.At < e2.At))), (66, .bool (decide (e1.At < e2.At))), (65, .bool (decide (e1.At < e2.At))), (64, vI e2.At), (63, .pointer (some ⟨blkOf A1, offOf A1 + (IntKind.i64.wrap ((i1 : Int) - 1)).toNat * 2 + 1, none⟩))] [.loaded ⟨blkOf A1, offOf A1 + ((IntKind.i64.wrap ((i1 : Int) - 1)).toNat) * 2 + 1, none⟩ (vI e2.At)] ⟨RdL.cell (j := 1) (hS33.rd hR1) hx5 rfl, trivial⟩ ?_
       by_cases hc11 : e1.At < e2.At
       ·rw [if_pos hc11] at h
        refine gk 67 (decide (e1.At < e2.At)) true (decide_eq_true hc11) ?_
        refine gb0 [14, 15, 16, 17, 18, 19, 20, 21, 22, 23] [(53, .bool true), (76, .bool true), (75, undef), (74, undef), (73, undef), (72, undef), (71, undef), (70, undef), (69, undef), (68, undef)] ?_
        refine gn hK22 ?_
        refine we_true (by kernel_rfl) ?_
        refine ws fun K23 hK23 => ?_
        refine wr [(0, 0), (1, 0), (2, 2)] ?_
        refine gb0 [0, 1] [(78, .agg #[vI 12, vI (i1 : Int)]), (77, vI (i1 : Int))] ?_
        have hS34 := hS33.bring 1 rfl
        refine gs b1 0 #[vI 0, vI 0] 29 [vI 12, vI (i1 : Int)] hS34 fun w13 hS35 => ?_
        have hS36 : St w0 w13 [Own.blk b1 (.cells #[vI 12, vI (i1 : Int)] 29 (0, 0)), Own.blk b3 (.cells #[vI e1.Task, vI e1.At] 53 (0, 0)), Own.of (.slice Z1 m1.length cz1) 3 m1] := hS35
        refine gn hK23 ?_
        have hS37 := hS36.takeN 0
        obtain rfl := si h
        exact we_ret fun a hF => hQ _ _ _ (Outs.out nofun ⟨rfl, (pr [.cell 4 29] [.agg #[vI 12, vI (i1 : Int)]] [.loaded ⟨b1, 0, none⟩ (vI 12), .loaded ⟨b1, 1, none⟩ (vI (i1 : Int))] ⟨hS36.c 0, hS36.c 0, trivial⟩ ⟨rfl, hS37⟩) a hF⟩)
       ·rw [if_neg hc11] at h
        refine gk 67 (decide (e1.At < e2.At)) false (decide_eq_false hc11) ?_
        refine gb [14, 15, 16, 17, 18] [(72, vI e1.Task), (71, pP b3 0), (70, (.slice Z1 m1.length cz1)), (69, vI e1.At), (68, pP b3 1)] [.loaded ⟨b3, 1, none⟩ (vI e1.At), .loaded ⟨b3, 0, none⟩ (vI e1.Task)] ⟨hS33.c 0, hS33.c 0, trivial⟩ ?_
        by_cases hc12 : 0 ≤ e1.Task
        ·rw [if_pos hc12] at h
         rcases hx6 : m1[(e1.Task).toNat]? with _ | e3
         ·rw [hx6] at h; cases h
         rw [hx6] at h
         simp only [] at h
         refine gi 73 0 24 3 1 m1.length cz1 (.tmp 70) (.tmp 72) Z1 .i64 e1.Task ((e1.Task).toNat) ((hS33.rdAt 2 rfl).eqSome (pos_of_get hx6)) (Int.toNat_of_nonneg hc12).symm (lt_of_get hx6) ?_
         refine gb [20, 21, 22, 23] [(53, .bool (decide (e1.At < e3))), (76, .bool (decide (e1.At < e3))), (75, .bool (decide (e1.At < e3))), (74, vI e3)] [.loaded ⟨blkOf Z1, offOf Z1 + ((e1.Task).toNat) * 1, none⟩ (vI e3)] ⟨RdL.cell (j := 0) (hS33.rdAt 2 rfl) hx6 rfl, trivial⟩ ?_
         refine gn hK22 ?_
         by_cases hc13 : e1.At < e3
         ·rw [if_pos hc13] at h
          refine wk 53 (decide (e1.At < e3)) true (decide_eq_true hc13) ?_
          refine we_true (by kernel_rfl) ?_
          refine ws fun K24 hK24 => ?_
          refine wr [(0, 0), (1, 0), (2, 2)] ?_
          refine gb0 [0, 1] [(78, .agg #[vI 12, vI (i1 : Int)]), (77, vI (i1 : Int))] ?_
          have hS38 := hS33.bring 1 rfl
          refine gs b1 0 #[vI 0, vI 0] 29 [vI 12, vI (i1 : Int)] hS38 fun w14 hS39 => ?_
          have hS40 : St w0 w14 [Own.blk b1 (.cells #[vI 12, vI (i1 : Int)] 29 (0, 0)), Own.blk b3 (.cells #[vI e1.Task, vI e1.At] 53 (0, 0)), Own.of (.slice Z1 m1.length cz1) 3 m1] := hS39
          refine gn hK24 ?_
          have hS41 := hS40.takeN 0
          obtain rfl := si h
          exact we_ret fun a hF => hQ _ _ _ (Outs.out nofun ⟨rfl, (pr [.cell 4 29] [.agg #[vI 12, vI (i1 : Int)]] [.loaded ⟨b1, 0, none⟩ (vI 12), .loaded ⟨b1, 1, none⟩ (vI (i1 : Int))] ⟨hS40.c 0, hS40.c 0, trivial⟩ ⟨rfl, hS41⟩) a hF⟩)
         ·rw [if_neg hc13] at h
          refine wk 53 (decide (e1.At < e3)) false (decide_eq_false hc13) ?_
          refine we_false (by kernel_rfl) ?_
          have hS42 := hS33.bring 2 rfl
          have hS43 := hS42.bring 2 rfl
          have hS44 := hS43.bring 2 rfl
          obtain rfl := si h
          exact we_skip fun a hF => hQ _ _ _ (Outs.again ⟨hS44, hF.weaken ea⟩)
        ·rw [if_neg hc12] at h
         cases h
      ·rw [if_neg hc10] at h
       cases h
     ·rw [if_neg hc9] at h
      refine gk 56 (decide ((i1 : Int) > 0)) false (decide_eq_false hc9) ?_
      refine gb [3, 4, 5, 6, 7, 8, 9, 10, 11, 12, 13, 14, 15, 16, 17, 18] [(72, vI e1.Task), (71, pP b3 0), (70, (.slice Z1 m1.length cz1)), (69, vI e1.At), (68, pP b3 1), (67, .bool false), (66, .bool false), (65, undef), (64, undef), (63, undef), (62, undef), (61, undef), (60, undef), (59, undef), (58, undef), (57, undef)] [.loaded ⟨b3, 1, none⟩ (vI e1.At), .loaded ⟨b3, 0, none⟩ (vI e1.Task)] ⟨hS33.c 0, hS33.c 0, trivial⟩ ?_
      by_cases hc14 : 0 ≤ e1.Task
      ·rw [if_pos hc14] at h
       rcases hx7 : m1[(e1.Task).toNat]? with _ | e4
       ·rw [hx7] at h; cases h
       rw [hx7] at h
       simp only [] at h
       refine gi 73 0 24 3 1 m1.length cz1 (.tmp 70) (.tmp 72) Z1 .i64 e1.Task ((e1.Task).toNat) ((hS33.rdAt 2 rfl).eqSome (pos_of_get hx7)) (Int.toNat_of_nonneg hc14).symm (lt_of_get hx7) ?_
       refine gb [20, 21, 22, 23] [(53, .bool (decide (e1.At < e4))), (76, .bool (decide (e1.At < e4))), (75, .bool (decide (e1.At < e4))), (74, vI e4)] [.loaded ⟨blkOf Z1, offOf Z1 + ((e1.Task).toNat) * 1, none⟩ (vI e4)] ⟨RdL.cell (j := 0) (hS33.rdAt 2 rfl) hx7 rfl, trivial⟩ ?_
       refine gn hK22 ?_
       by_cases hc15 : e1.At < e4
       ·rw [if_pos hc15] at h
        refine wk 53 (decide (e1.At < e4)) true (decide_eq_true hc15) ?_
        refine we_true (by kernel_rfl) ?_
        refine ws fun K25 hK25 => ?_
        refine wr [(0, 0), (1, 0), (2, 2)] ?_
        refine gb0 [0, 1] [(78, .agg #[vI 12, vI (i1 : Int)]), (77, vI (i1 : Int))] ?_
        have hS45 := hS33.bring 1 rfl
        refine gs b1 0 #[vI 0, vI 0] 29 [vI 12, vI (i1 : Int)] hS45 fun w15 hS46 => ?_
        have hS47 : St w0 w15 [Own.blk b1 (.cells #[vI 12, vI (i1 : Int)] 29 (0, 0)), Own.blk b3 (.cells #[vI e1.Task, vI e1.At] 53 (0, 0)), Own.of (.slice Z1 m1.length cz1) 3 m1] := hS46
        refine gn hK25 ?_
        have hS48 := hS47.takeN 0
        obtain rfl := si h
        exact we_ret fun a hF => hQ _ _ _ (Outs.out nofun ⟨rfl, (pr [.cell 4 29] [.agg #[vI 12, vI (i1 : Int)]] [.loaded ⟨b1, 0, none⟩ (vI 12), .loaded ⟨b1, 1, none⟩ (vI (i1 : Int))] ⟨hS47.c 0, hS47.c 0, trivial⟩ ⟨rfl, hS48⟩) a hF⟩)
       ·rw [if_neg hc15] at h
        refine wk 53 (decide (e1.At < e4)) false (decide_eq_false hc15) ?_
        refine we_false (by kernel_rfl) ?_
        have hS49 := hS33.bring 2 rfl
        have hS50 := hS49.bring 2 rfl
        have hS51 := hS50.bring 2 rfl
        obtain rfl := si h
        exact we_skip fun a hF => hQ _ _ _ (Outs.again ⟨hS51, hF.weaken ea⟩)
      ·rw [if_neg hc14] at h
       cases h
abbrev tasks_Legal.A0 (w0 : World) (l0 : List STask) (A0 : Option Addr) (c0 : Nat) (l1 : List SCome) (A1 : Option Addr) (c1 : Nat) (b1 : Nat) (Z1 : Option Addr) (cz1 : Nat) : (Nat × (List Int)) → Act → World → Prop := fun (s : Nat × (List Int)) a w => St w0 w [Own.blk b1 (.cells #[vI 0, vI 0] 29 (0, 0)), Own.of (.slice Z1 s.2.length cz1) 3 s.2] ∧ Frm 94 a [(0, .slice A0 l0.length c0), (1, .slice A1 l1.length c1), (4, pP b1 0), (6, (.slice Z1 s.2.length cz1)), (22, .slice A1 l1.length c1), (23, vI (l1.length : Int)), (24, vI (s.1 : Int))]
abbrev tasks_Legal.B0 (w0 : World) (b1 : Nat) : (Unit ⊕ SFault) → Exit → Act → World → Prop := Exits 0 (fun (s : Unit) a w => St w0 w [Own.blk b1 (.cells #[vI 0, vI 0] 29 (0, 0))] ∧ Frm 94 a [(4, pP b1 0)]) (Rets Try.prog Try.f27 (tasks_Legal.Post w0))
theorem tasks_Legal_r0 (K : Nat) (w0 : World) (l0 : List STask) (A0 : Option Addr) (c0 : Nat) (l1 : List SCome) (A1 : Option Addr) (c1 : Nat) (hR0 : RdL w0 A0 l0) (hL0 : l0.length ≤ c0) (hR1 : RdL w0 A1 l1) (hL1 : l1.length ≤ c1) (b1 : Nat) (r1 : SFault) (b2 : Nat) (hc1 : r1.Code = 0) (hc2 : ¬ ((l1.length : Int) > 4000)) (hc3 : l0.length ≤ 17592186044416) (Z1 : Option Addr) (cz1 : Nat) (s : Nat × (List Int)) (o : (Nat × (List Int)) ⊕ (Unit ⊕ SFault)) (h : tasks_Legal.r0 l0 l1 s = some o) (a : Act) (w : World) (hA : tasks_Legal.A0 w0 l0 A0 c0 l1 A1 c1 b1 Z1 cz1 s a w) (Q : Exit → Act → World → Prop) (hQ : ∀ x a w, Outs (tasks_Legal.A0 w0 l0 A0 c0 l1 A1 c1 b1 Z1 cz1) (tasks_Legal.B0 w0 b1) o x a w → Q x a w) : (subF Try.f27 [1, 1, 1, 1, 0, 1, 0, 0]).wp Try.prog Q a w := by
 obtain ⟨i1, m1⟩ := s
 obtain ⟨hS, hF⟩ := hA
 replace hS : St w0 w [Own.blk b1 (.cells #[vI 0, vI 0] 29 (0, 0)), Own.of (.slice Z1 m1.length cz1) 3 m1] := hS
 simp only [tasks_Legal.r0] at h
 refine (?_ : WE Try.prog 94 (subF Try.f27 [1, 1, 1, 1, 0, 1, 0, 0]) Q [(0, .slice A0 l0.length c0), (1, .slice A1 l1.length c1), (4, pP b1 0), (6, (.slice Z1 m1.length cz1)), (22, .slice A1 l1.length c1), (23, vI (l1.length : Int)), (24, vI (i1 : Int))] w) a hF
 clear hF a
 refine ws fun K11 hK11 => ?_
 refine wr [(0, 0)] ?_
 refine gb0 [0] [(25, .bool (decide ((i1 : Int) < (l1.length : Int))))] ?_
 refine gn hK11 ?_
 refine ws fun K12 hK12 => ?_
 by_cases hc4 : (i1 : Int) < (l1.length : Int)
 ·rw [if_pos hc4] at h
  refine wk 25 (decide ((i1 : Int) < (l1.length : Int))) true (decide_eq_true hc4) ?_
  refine we_true (by kernel_rfl) ?_
  refine we_skip fun a hF => hK12 _ _ ?_ a hF
  refine ws fun K13 hK13 => ?_
  refine we_block ?_
  refine ws fun K14 hK14 => ?_
  refine wr [(0, 0), (1, 0), (2, 0), (3, 1), (4, 0), (5, 2)] ?_
  refine gb0 [0] [(26, vI (i1 : Int))] ?_
  rcases hx3 : l1[i1]? with _ | e1
  ·rw [hx3] at h; cases h
  rw [hx3] at h
  simp only [] at h
  refine gi 27 0 23 53 2 l1.length c1 (.tmp 22) (.tmp 24) A1 .i64 (i1 : Int) i1 ((hS.rd hR1).eqSome (pos_of_get hx3)) rfl (lt_of_get hx3) ?_
  refine gb [2] [(28, .agg #[vI e1.Task, vI e1.At])] [.loaded ⟨blkOf A1, offOf A1 + i1 * 2, none⟩ (vI e1.Task), .loaded ⟨blkOf A1, offOf A1 + i1 * 2 + 1, none⟩ (vI e1.At)] ⟨RdL.cell (j := 0) (hS.rd hR1) hx3 rfl, RdL.cell (j := 1) (hS.rd hR1) hx3 rfl, trivial⟩ ?_
  refine gw (some 8) (.cells #[vI 0, vI 0] 53) (fun b => pP b 0) hS fun b3 w7 hx4 hS14 => ?_
  refine gb0 [4] [(7, vI (i1 : Int))] ?_
  refine gs b3 0 #[vI 0, vI 0] 53 [vI e1.Task, vI e1.At] hS14 fun w8 hS15 => ?_
  have hS16 : St w0 w8 [Own.blk b3 (.cells #[vI e1.Task, vI e1.At] 53 (0, 0)), Own.blk b1 (.cells #[vI 0, vI 0] 29 (0, 0)), Own.of (.slice Z1 m1.length cz1) 3 m1] := hS15
  refine gn hK14 ?_
  refine ws fun K15 hK15 => ?_
  rcases hq2 : tasks_Legal.p1 l0 l1 i1 m1 e1 with _ | (_ | rr1)
  ·rw [hq2] at h; cases h
  ·rw [hq2] at h
   simp only [] at h
   refine we_keep (e' := [(0, .slice A0 l0.length c0), (1, .slice A1 l1.length c1), (4, pP b1 0), (6, (.slice Z1 m1.length cz1)), (7, vI (i1 : Int)), (8, pP b3 0), (22, .slice A1 l1.length c1), (23, vI (l1.length : Int)), (24, vI (i1 : Int)), (25, .bool true), (26, vI (i1 : Int)), (27, .pointer (some ⟨blkOf A1, offOf A1 + i1 * 2, none⟩)), (28, .agg #[vI e1.Task, vI e1.At])]) ea (tasks_Legal_p1 K w0 l0 A0 c0 l1 A1 c1 hR0 hL0 hR1 hL1 b1 r1 b2 hc1 hc2 hc3 Z1 cz1 i1 m1 hc4 e1 hx3 b3 _ hq2 _ hS16 _ ?_)
   rintro _ a w16 ⟨rfl, hS52, hF⟩
   replace hS52 : St w0 w16 [Own.blk b3 (.cells #[vI e1.Task, vI e1.At] 53 (0, 0)), Own.blk b1 (.cells #[vI 0, vI 0] 29 (0, 0)), Own.of (.slice Z1 m1.length cz1) 3 m1] := hS52
   refine hK15 [(0, .slice A0 l0.length c0), (1, .slice A1 l1.length c1), (4, pP b1 0), (6, (.slice Z1 m1.length cz1)), (8, pP b3 0), (22, .slice A1 l1.length c1), (23, vI (l1.length : Int)), (24, vI (i1 : Int))] w16 ?_ a hF
   refine we_draws (by kernel_rfl) [(0, 0), (1, 0), (2, 0), (3, 0), (4, 0), (5, 0), (6, 0), (7, 0), (8, 0), (9, 0), (10, 0), (11, 0), (12, 0), (13, 2)] (by kernel_rfl) ?_
   have hS53 := hS52.drew
   refine gb [0, 1, 2, 3, 4, 5, 6, 7] [(86, vI e1.Task), (85, pP b3 0), (84, .slice A0 l0.length c0), (83, vI e1.At), (82, pP b3 1), (81, vI e1.Task), (80, pP b3 0), (79, (.slice Z1 m1.length cz1))] [.loaded ⟨b3, 0, none⟩ (vI e1.Task), .loaded ⟨b3, 1, none⟩ (vI e1.At), .loaded ⟨b3, 0, none⟩ (vI e1.Task)] ⟨hS53.c 0, hS53.c 0, hS53.c 0, trivial⟩ ?_
   by_cases hc16 : 0 ≤ e1.Task
   ·rw [if_pos hc16] at h
    rcases hx8 : l0[(e1.Task).toNat]? with _ | e5
    ·rw [hx8] at h; cases h
    rw [hx8] at h
    simp only [] at h
    refine gi 87 0 22 46 7 l0.length c0 (.tmp 84) (.tmp 86) A0 .i64 e1.Task ((e1.Task).toNat) ((hS53.rd hR0).eqSome (pos_of_get hx8)) (Int.toNat_of_nonneg hc16).symm (lt_of_get hx8) ?_
    refine gb [9, 10, 11] [(90, vI (IntKind.i64.wrap (e1.At + e5.T))), (89, vI e5.T), (88, .pointer (some ⟨blkOf A0, offOf A0 + (e1.Task).toNat * 7 + 2, none⟩))] [.loaded ⟨blkOf A0, offOf A0 + ((e1.Task).toNat) * 7 + 2, none⟩ (vI e5.T)] ⟨RdL.cell (j := 2) (hS53.rd hR0) hx8 rfl, trivial⟩ ?_
    rcases hx9 : m1[(e1.Task).toNat]? with _ | e6
    ·rw [hx9] at h; cases h
    rw [hx9] at h
    simp only [] at h
    refine gi 91 0 24 3 1 m1.length cz1 (.tmp 79) (.tmp 81) Z1 .i64 e1.Task ((e1.Task).toNat) ((hS53.rdAt 2 rfl).eqSome (pos_of_get hx9)) (Int.toNat_of_nonneg hc16).symm (lt_of_get hx9) ?_
    have hS54 := hS53.bring 2 rfl
    refine ge_seti (α := Int) (A := Z1) (nn := m1.length) (c := cz1) (t := 3) (l := m1) (x := e6) (x' := (IntKind.i64.wrap (e1.At + e5.T))) (jn := ((e1.Task).toNat)) (j := 0) (vs := [vI (IntKind.i64.wrap (e1.At + e5.T))]) (l' := [.stored ⟨blkOf Z1, offOf Z1 + ((e1.Task).toNat) * 1, none⟩ (vI (IntKind.i64.wrap (e1.At + e5.T)))]) hS54 (by kernel_rfl) (by kernel_rfl) hx9 rfl rfl rfl fun w17 hS55 => ?_
    have hS56 : St w0 w17 [Own.of (.slice Z1 m1.length cz1) 3 (m1.set ((e1.Task).toNat) (IntKind.i64.wrap (e1.At + e5.T))), Own.blk b3 (.cells #[vI e1.Task, vI e1.At] 53 (0, 0)), Own.blk b1 (.cells #[vI 0, vI 0] 29 (0, 0))] := hS55
    have hE1 : m1.length = (m1.set ((e1.Task).toNat) (IntKind.i64.wrap (e1.At + e5.T))).length := hS56.lenAt 0 rfl
    have hS57 : St w0 w17 [Own.of (.slice Z1 (m1.set ((e1.Task).toNat) (IntKind.i64.wrap (e1.At + e5.T))).length cz1) 3 (m1.set ((e1.Task).toNat) (IntKind.i64.wrap (e1.At + e5.T))), Own.blk b3 (.cells #[vI e1.Task, vI e1.At] 53 (0, 0)), Own.blk b1 (.cells #[vI 0, vI 0] 29 (0, 0))] := by rw [← hE1]; exact hS56
    refine ge_same (t := 6) (v := (.slice Z1 m1.length cz1)) (v' := (.slice Z1 (m1.set ((e1.Task).toNat) (IntKind.i64.wrap (e1.At + e5.T))).length cz1)) (by kernel_rfl) (by rw [hE1]) ?_
    refine ge_same (t := 79) (v := (.slice Z1 m1.length cz1)) (v' := (.slice Z1 (m1.set ((e1.Task).toNat) (IntKind.i64.wrap (e1.At + e5.T))).length cz1)) (by kernel_rfl) (by rw [hE1]) ?_
    refine gn hK13 ?_
    refine wr [(0, 0), (1, 0)] ?_
    refine ge_addn (d := 92) (ty := 3) (x := (.tmp 24)) (y := (.const (vI 1))) (t := 3) (t2 := 3) (k := .i64) (m := i1) (by kernel_rfl) (by kernel_rfl) (by kernel_rfl) (by have h0 := hR1.small; omega) ?_
    refine gb0 [1] [(24, vI ((i1 + 1 : Nat) : Int))] ?_
    have hS58 := hS57.bring 2 rfl
    have hS59 := hS58.takeN 2
    obtain rfl := si h
    exact ge_nil fun a hF => hQ _ _ _ (Outs.again ⟨hS59, hF.weaken ea⟩)
   ·rw [if_neg hc16] at h
    cases h
  ·rw [hq2] at h
   simp only [] at h
   refine we_keep (e' := [(0, .slice A0 l0.length c0), (1, .slice A1 l1.length c1), (4, pP b1 0), (6, (.slice Z1 m1.length cz1)), (7, vI (i1 : Int)), (8, pP b3 0), (22, .slice A1 l1.length c1), (23, vI (l1.length : Int)), (24, vI (i1 : Int)), (25, .bool true), (26, vI (i1 : Int)), (27, .pointer (some ⟨blkOf A1, offOf A1 + i1 * 2, none⟩)), (28, .agg #[vI e1.Task, vI e1.At])]) ea (tasks_Legal_p1 K w0 l0 A0 c0 l1 A1 c1 hR0 hL0 hR1 hL1 b1 r1 b2 hc1 hc2 hc3 Z1 cz1 i1 m1 hc4 e1 hx3 b3 _ hq2 _ hS16 _ ?_)
   rintro _ a w1 ⟨_, rfl, hb⟩
   obtain rfl := si h
   exact hQ _ _ _ (Outs.out nofun (Exits.on ⟨rfl, hb⟩))
 ·rw [if_neg hc4] at h
  refine wk 25 (decide ((i1 : Int) < (l1.length : Int))) false (decide_eq_false hc4) ?_
  refine we_false (by kernel_rfl) ?_
  have hS60 := hS.takeN 1
  obtain rfl := si h
  exact we_exit fun a hF => hQ _ _ _ (Outs.out nofun (Exits.here ⟨hS60, hF.weaken ea⟩))
theorem tasks_Legal_ok (K : Nat) (l0 : List STask) (A0 : Option Addr) (c0 : Nat) (l1 : List SCome) (A1 : Option Addr) (c1 : Nat) (w0 : World) (hR0 : RdL w0 A0 l0) (hL0 : l0.length ≤ c0) (hR1 : RdL w0 A1 l1) (hL1 : l1.length ≤ c1) (r : SFault) (h : tasks_Legal.f K l0 l1 = some r) :
  Calls Try.prog 27 #[.slice A0 l0.length c0, .slice A1 l1.length c1] w0 (tasks_Legal.Post w0 r) := by
 have hS := St.start w0
 unfold tasks_Legal.f at h
 refine calls_enter (n := 94) (args := [.slice A0 l0.length c0, .slice A1 l1.length c1]) (fn := Try.f27) rfl rfl rfl rfl ?_
 show WE _ _ _ _ [(0, .slice A0 l0.length c0), (1, .slice A1 l1.length c1)] _
 refine ws fun K1 hK1 => ?_
 refine wr [(0, 1)] ?_
 refine gw (some 4) (.cells #[vI 0, vI 0] 29) (fun b => pP b 0) hS fun b1 w1 hx1 hS1 => ?_
 refine gn hK1 ?_
 refine ws fun K2 hK2 => ?_
 refine ws fun K3 hK3 => ?_
 refine wr [(0, 0), (1, 1), (2, 1), (3, 2)] ?_
 rcases hq1 : tasks_Check.f K l0 with _ | r1
 ·rw [hq1] at h; cases h
 rw [hq1] at h
 simp only [] at h
 refine gb0 [0] [(9, .slice A0 l0.length c0)] ?_
 refine ge_call (d := some 10) (f := 35) (args := #[.slice A0 l0.length c0]) (by kernel_rfl) (tasks_Check_ok K l0 A0 c0 _ (hS1.rd hR0) hL0 _ hq1) ?_
 rintro _ w2 ⟨rfl, hS2⟩
 refine ⟨_, rfl, hS2.below, ?_⟩
 have hS3 := hS1.call hS2
 refine gw (some 5) (.cells #[vI 0, vI 0] 29) (fun b => pP b 0) hS3 fun b2 w3 hx2 hS4 => ?_
 refine gs b2 0 #[vI 0, vI 0] 29 [vI r1.Code, vI r1.At] hS4 fun w4 hS5 => ?_
 have hS6 : St w0 w4 [Own.blk b2 (.cells #[vI r1.Code, vI r1.At] 29 (0, 0)), Own.blk b1 (.cells #[vI 0, vI 0] 29 (0, 0))] := hS5
 refine gn hK3 ?_
 refine ws fun K4 hK4 => ?_
 refine wr [(0, 0), (1, 0), (2, 0)] ?_
 refine gb [0, 1, 2] [(13, .bool (r1.Code != 0)), (12, vI r1.Code), (11, pP b2 0)] [.loaded ⟨b2, 0, none⟩ (vI r1.Code)] ⟨hS6.c 0, trivial⟩ ?_
 refine gn hK4 ?_
 by_cases hc1 : r1.Code = 0
 ·rw [if_pos hc1] at h
  refine wk 13 (r1.Code != 0) false (bne_eq_false_iff_eq.2 hc1) ?_
  refine we_false (by kernel_rfl) ?_
  refine we_skip fun a hF => hK2 _ _ ?_ a hF
  refine ws fun K5 hK5 => ?_
  refine ws fun K6 hK6 => ?_
  refine wr [(0, 0), (1, 0), (2, 0)] ?_
  refine gb0 [0, 1, 2] [(17, .bool (decide ((l1.length : Int) > 4000))), (16, vI (l1.length : Int)), (15, .slice A1 l1.length c1)] ?_
  refine gn hK6 ?_
  by_cases hc2 : (l1.length : Int) > 4000
  ·rw [if_pos hc2] at h
   refine wk 17 (decide ((l1.length : Int) > 4000)) true (decide_eq_true hc2) ?_
   refine we_true (by kernel_rfl) ?_
   refine ws fun K7 hK7 => ?_
   refine wr [(0, 0), (1, 2)] ?_
   refine gb0 [0] [(18, .agg #[vI 2, vI 0])] ?_
   have hS7 := hS6.bring 1 rfl
   refine gs b1 0 #[vI 0, vI 0] 29 [vI 2, vI 0] hS7 fun w5 hS8 => ?_
   have hS9 : St w0 w5 [Own.blk b1 (.cells #[vI 2, vI 0] 29 (0, 0)), Own.blk b2 (.cells #[vI r1.Code, vI r1.At] 29 (0, 0))] := hS8
   refine gn hK7 ?_
   have hS10 := hS9.takeN 0
   obtain rfl := si h
   exact we_ret (pr [.cell 4 29] [.agg #[vI 2, vI 0]] [.loaded ⟨b1, 0, none⟩ (vI 2), .loaded ⟨b1, 1, none⟩ (vI 0)] ⟨hS9.c 0, hS9.c 0, trivial⟩ ⟨rfl, hS10⟩)
  ·rw [if_neg hc2] at h
   refine wk 17 (decide ((l1.length : Int) > 4000)) false (decide_eq_false hc2) ?_
   refine we_false (by kernel_rfl) ?_
   refine we_skip fun a hF => hK5 _ _ ?_ a hF
   refine ws fun K8 hK8 => ?_
   refine wr [(0, 0), (1, 0), (2, 1), (3, 0)] ?_
   refine gb0 [0, 1] [(20, vI (l0.length : Int)), (19, .slice A0 l0.length c0)] ?_
   by_cases hc3 : l0.length ≤ 17592186044416
   ·rw [if_pos hc3] at h
    refine ge_make (α := Int) (d := 21) (t := 24) (el := 3) (bytes := 8) (l := l0.length) (c := l0.length) (x := (.tmp 20)) (y := (.tmp 20)) (ty := 24) (k1 := .i64) (k2 := .i64) (li := (l0.length : Int)) (ci := (l0.length : Int)) (z := vI 0) (z' := (0 : Int)) (by kernel_rfl) (by kernel_rfl) (by kernel_rfl) rfl rfl (by kernel_rfl) (by kernel_rfl) rfl hS6 (Nat.le_refl _) rfl (by omega) fun v1 w6 _ hS11 => ?_
    refine gb0 [3] [(6, v1)] ?_
    refine gn hK8 ?_
    refine ws fun K9 hK9 => ?_
    refine ws fun K10 hK10 => ?_
    refine wr [(0, 0), (1, 0), (2, 0)] ?_
    refine gb0 [0, 1, 2] [(24, vI 0), (23, vI (l1.length : Int)), (22, .slice A1 l1.length c1)] ?_
    refine gn hK10 ?_
    refine we_block ?_
    obtain ⟨Z1, cz1, rfl⟩ := hS11.open 0 rfl
    have hS12 := hS11.bring 2 rfl
    have hS13 := hS12.takeN 2
    rcases hq3 : iter (tasks_Legal.r0 l0 l1) K (0, (List.replicate l0.length (0 : Int))) with _ | (_ | rr2)
    ·rw [hq3] at h; cases h
    ·rw [hq3] at h
     simp only [] at h
     refine we_iter (A := tasks_Legal.A0 w0 l0 A0 c0 l1 A1 c1 b1 Z1 cz1) (B := tasks_Legal.B0 w0 b1) hq3 (fun a hF => ⟨hS13, hF.weaken ea⟩) (fun s o hf a w hA Q hQ => tasks_Legal_r0 K w0 l0 A0 c0 l1 A1 c1 hR0 hL0 hR1 hL1 b1 r1 b2 hc1 hc2 hc3 Z1 cz1 s o hf a w hA Q hQ) ?_
     rintro _ a w18 _ ⟨rfl, hS61, hF⟩
     replace hS61 : St w0 w18 [Own.blk b1 (.cells #[vI 0, vI 0] 29 (0, 0))] := hS61
     refine hK9 [(4, pP b1 0)] w18 ?_ a hF
     refine ws fun K26 hK26 => ?_
     refine wr [(0, 0), (1, 2)] ?_
     refine gb0 [0] [(93, .agg #[vI 0, vI 0])] ?_
     refine gs b1 0 #[vI 0, vI 0] 29 [vI 0, vI 0] hS61 fun w19 hS62 => ?_
     have hS63 : St w0 w19 [Own.blk b1 (.cells #[vI 0, vI 0] 29 (0, 0))] := hS62
     refine gn hK26 ?_
     have hS64 := hS63.takeN 0
     obtain rfl := si h
     exact we_ret (pr [.cell 4 29] [.agg #[vI 0, vI 0]] [.loaded ⟨b1, 0, none⟩ (vI 0), .loaded ⟨b1, 1, none⟩ (vI 0)] ⟨hS63.c 0, hS63.c 0, trivial⟩ ⟨rfl, hS64⟩)
    ·rw [hq3] at h
     simp only [] at h
     refine we_iter (A := tasks_Legal.A0 w0 l0 A0 c0 l1 A1 c1 b1 Z1 cz1) (B := tasks_Legal.B0 w0 b1) hq3 (fun a hF => ⟨hS13, hF.weaken ea⟩) (fun s o hf a w hA Q hQ => tasks_Legal_r0 K w0 l0 A0 c0 l1 A1 c1 hR0 hL0 hR1 hL1 b1 r1 b2 hc1 hc2 hc3 Z1 cz1 s o hf a w hA Q hQ) ?_
     rintro _ a w1 _ ⟨rfl, hb⟩
     obtain rfl := si h
     exact hb
   ·rw [if_neg hc3] at h
    cases h
 ·rw [if_neg hc1] at h
  refine wk 13 (r1.Code != 0) true (bne_iff_ne.2 hc1) ?_
  refine we_true (by kernel_rfl) ?_
  refine ws fun K27 hK27 => ?_
  refine wr [(0, 0), (1, 2)] ?_
  refine gb [0] [(14, .agg #[vI r1.Code, vI r1.At])] [.loaded ⟨b2, 0, none⟩ (vI r1.Code), .loaded ⟨b2, 1, none⟩ (vI r1.At)] ⟨hS6.c 0, hS6.c 0, trivial⟩ ?_
  have hS65 := hS6.bring 1 rfl
  refine gs b1 0 #[vI 0, vI 0] 29 [vI r1.Code, vI r1.At] hS65 fun w20 hS66 => ?_
  have hS67 : St w0 w20 [Own.blk b1 (.cells #[vI r1.Code, vI r1.At] 29 (0, 0)), Own.blk b2 (.cells #[vI r1.Code, vI r1.At] 29 (0, 0))] := hS66
  refine gn hK27 ?_
  have hS68 := hS67.takeN 0
  obtain rfl := si h
  exact we_ret (pr [.cell 4 29] [.agg #[vI r1.Code, vI r1.At]] [.loaded ⟨b1, 0, none⟩ (vI r1.Code), .loaded ⟨b1, 1, none⟩ (vI r1.At)] ⟨hS67.c 0, hS67.c 0, trivial⟩ ⟨rfl, hS68⟩)
end Go.Proofs.Ytlipdmblinjjaaa.GV
