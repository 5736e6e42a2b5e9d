/- MeaningJoins: for every input the law returns true, and each argument reads behind the call as it read before. Where what it reads is of bulk at most 1048576. -/
import Derived.Test.YtcjphfmmmlgcbaaGLMeaningJoins
import Derived.Test.YtcjphfmmmlgcbaaGv41
import Derived.Test.YtcjphfmmmlgcbaaGv30
import Derived.Test.YtcjphfmmmlgcbaaRows
import Derived.OpenShut
import Derived.Deep.DeepHandedRow
namespace Go.Proofs.Ytcjphfmmmlgcbaa.GV
open Go Go.RowKit Go.ChangeShapes Go.WideShapes Go.ChangeAt Go.Proofs.Ytcjphfmmmlgcbaa
set_option linter.unusedVariables false
set_option linter.unusedSimpArgs false
namespace MeaningJoinsEnd
theorem bulkAll {H : Type} : ∀ l : List (DataW H), Rows.uptoBulkAll l = (l.map Rows.uptoBulk).sum
  | [] => by simp [Rows.uptoBulkAll]
  | d :: l => by simp [Rows.uptoBulkAll, bulkAll l]
theorem bulk {H : Type} : BulkOf (Rows.uptoBulk (H := H)) where
  one d := by
    cases d with
    | lit l => cases l <;> simp [Rows.uptoBulk]
    | _ => simp [Rows.uptoBulk]
  agg ds := by simp [Rows.uptoBulk, bulkAll]
  slice es sp := by simp only [Rows.uptoBulk, bulkAll]; omega
  str bs := by simp [Rows.uptoBulk]
set_option maxRecDepth 100000 in
theorem gate_SExpr {H : Type} {enc : TypeId × Value → H} {w : World} {base : Nat} {spare : Nat → Bool} {held : Bool} : ∀ (N : Nat) (fuel : Nat) (cs : List Value) (x : DataW H × List MemPlace), SizeOf.sizeOf x.1 = N → DataW.trod enc Try.prog w base spare held fuel 66 cs = some x → (∀ n ∈ x.1.weights Try.prog 66, n ≤ reachBytes) → ∃ (g : DRep.H SExpr) (z : SExpr), cs = Flat.cells g ∧ DRep.rel (Zof w) g z ∧ Ok.ok z ∧ SExpr.blk z ≤ Rows.uptoBulk x.1 := by
  intro N
  induction N using Nat.strongRecOn with
  | _ N ih =>
  intro fuel cs x hN hx hw
  obtain ⟨kk, hkk, hf⟩ := deepK_lessN bulk (Q := (fun t v b => (t = 64 → ∃ (l : List SExpr) (A : Option Addr) (c : Nat), v = .slice A l.length c ∧ l.length ≤ c ∧ RdZ (Zof w) A l ∧ l.length * 40 ≤ 140737488351232 ∧ (∀ y ∈ l, Ok.ok y) ∧ (l.map SExpr.blk).sum ≤ b) ∧ True)) (d := 7) (ks := [.lit (.int .i64), .lit (.int .i64), .row 64]) (by kernel_rfl) (by kernel_rfl) hx hw (fun s hs m t v y he hy hsz hwy => ⟨fun ht => by subst ht; exact gate_rowDN (α := SExpr) bulk SExpr.blk (show Try.prog.underlying 64 = some (.slice 66) from by kernel_rfl) (by kernel_rfl) (by kernel_rfl) hy hwy (fun m2 cs2 y2 h2 hlt hw2 => ih _ (by omega) m2 cs2 y2 rfl h2 hw2), trivial⟩)
  obtain ⟨_, _, b_0, m_0, rfl, e_0, ⟨⟨a0, rfl, k0⟩, g_0⟩, ⟨_, _, b_1, m_1, rfl, e_1, ⟨⟨a1, rfl, k1⟩, g_1⟩, ⟨_, _, b_2, m_2, rfl, e_2, q2, rfl⟩⟩⟩ := hf
  obtain ⟨l2, A2, c2, rfl, hL2, hR2, b2, o2, s_2⟩ := q2.1 rfl
  refine ⟨(⟨a0, a1, ⟨A2, l2.length, c2⟩⟩ : HExpr), (⟨a0, a1, l2⟩ : SExpr), rfl, SExpr.mkZ (⟨a0, a1, l2⟩ : SExpr) hL2 hR2, (OkExpr.mk _ (In64.of_wf k0) (In64.of_wf k1) b2 o2), ?_⟩
  show SExpr.blk (⟨a0, a1, l2⟩ : SExpr) ≤ _
  simp only [SExpr.blk, SExpr.blkL_sum]
  omega
set_option maxRecDepth 100000 in
theorem gate_SStmt {H : Type} {enc : TypeId × Value → H} {w : World} {base : Nat} {spare : Nat → Bool} {held : Bool} : ∀ (N : Nat) (fuel : Nat) (cs : List Value) (x : DataW H × List MemPlace), SizeOf.sizeOf x.1 = N → DataW.trod enc Try.prog w base spare held fuel 70 cs = some x → (∀ n ∈ x.1.weights Try.prog 70, n ≤ reachBytes) → ∃ (g : DRep.H SStmt) (z : SStmt), cs = Flat.cells g ∧ DRep.rel (Zof w) g z ∧ Ok.ok z ∧ SStmt.blk z ≤ Rows.uptoBulk x.1 := by
  intro N
  induction N using Nat.strongRecOn with
  | _ N ih =>
  intro fuel cs x hN hx hw
  obtain ⟨kk, hkk, hf⟩ := deepK_lessN bulk (Q := (fun t v b => (t = 64 → ∃ (l : List SExpr) (A : Option Addr) (c : Nat), v = .slice A l.length c ∧ l.length ≤ c ∧ RdZ (Zof w) A l ∧ l.length * 40 ≤ 140737488351232 ∧ (∀ y ∈ l, Ok.ok y) ∧ (l.map SExpr.blk).sum ≤ b) ∧ (t = 22 → ∃ (l : List SStmt) (A : Option Addr) (c : Nat), v = .slice A l.length c ∧ l.length ≤ c ∧ RdZ (Zof w) A l ∧ l.length * 192 ≤ 140737488351232 ∧ (∀ y ∈ l, Ok.ok y) ∧ (l.map SStmt.blk).sum ≤ b) ∧ True)) (d := 7) (ks := [.lit (.int .i64), .lit (.int .i64), .lit (.int .i64), .lit (.int .i64), .row 64, .lit (.int .i64), .lit (.int .i64), .lit (.int .i64), .row 64, .lit (.int .i64), .lit (.int .i64), .row 64, .row 22, .row 22]) (by kernel_rfl) (by kernel_rfl) hx hw (fun s hs m t v y he hy hsz hwy => ⟨fun ht => by subst ht; exact gate_rowDN (α := SExpr) bulk SExpr.blk (show Try.prog.underlying 64 = some (.slice 66) from by kernel_rfl) (by kernel_rfl) (by kernel_rfl) hy hwy (fun m2 cs2 y2 h2 _ hw2 => gate_SExpr _ m2 cs2 y2 rfl h2 hw2), fun ht => by subst ht; exact gate_rowDN (α := SStmt) bulk SStmt.blk (show Try.prog.underlying 22 = some (.slice 70) from by kernel_rfl) (by kernel_rfl) (by kernel_rfl) hy hwy (fun m2 cs2 y2 h2 hlt hw2 => ih _ (by omega) m2 cs2 y2 rfl h2 hw2), trivial⟩)
  obtain ⟨_, _, b_0, m_0, rfl, e_0, ⟨⟨a0, rfl, k0⟩, g_0⟩, ⟨_, _, b_1, m_1, rfl, e_1, ⟨⟨a1, rfl, k1⟩, g_1⟩, ⟨_, _, b_2, m_2, rfl, e_2, ⟨⟨a2, rfl, k2⟩, g_2⟩, ⟨_, _, b_3, m_3, rfl, e_3, ⟨⟨a3, rfl, k3⟩, g_3⟩, ⟨_, _, b_4, m_4, rfl, e_4, q4, ⟨_, _, b_5, m_5, rfl, e_5, ⟨⟨a5, rfl, k5⟩, g_5⟩, ⟨_, _, b_6, m_6, rfl, e_6, ⟨⟨a6, rfl, k6⟩, g_6⟩, ⟨_, _, b_7, m_7, rfl, e_7, ⟨⟨a7, rfl, k7⟩, g_7⟩, ⟨_, _, b_8, m_8, rfl, e_8, q8, ⟨_, _, b_9, m_9, rfl, e_9, ⟨⟨a9, rfl, k9⟩, g_9⟩, ⟨_, _, b_10, m_10, rfl, e_10, ⟨⟨a10, rfl, k10⟩, g_10⟩, ⟨_, _, b_11, m_11, rfl, e_11, q11, ⟨_, _, b_12, m_12, rfl, e_12, q12, ⟨_, _, b_13, m_13, rfl, e_13, q13, rfl⟩⟩⟩⟩⟩⟩⟩⟩⟩⟩⟩⟩⟩⟩ := hf
  obtain ⟨l4, A4, c4, rfl, hL4, hR4, b4, o4, s_4⟩ := q4.1 rfl
  obtain ⟨l8, A8, c8, rfl, hL8, hR8, b8, o8, s_8⟩ := q8.1 rfl
  obtain ⟨l11, A11, c11, rfl, hL11, hR11, b11, o11, s_11⟩ := q11.1 rfl
  obtain ⟨l12, A12, c12, rfl, hL12, hR12, b12, o12, s_12⟩ := q12.2.1 rfl
  obtain ⟨l13, A13, c13, rfl, hL13, hR13, b13, o13, s_13⟩ := q13.2.1 rfl
  refine ⟨(⟨a0, a1, a2, a3, ⟨A4, l4.length, c4⟩, a5, a6, a7, ⟨A8, l8.length, c8⟩, a9, a10, ⟨A11, l11.length, c11⟩, ⟨A12, l12.length, c12⟩, ⟨A13, l13.length, c13⟩⟩ : HStmt), (⟨a0, a1, ⟨a2, a3, l4⟩, ⟨a5, ⟨a6, a7, l8⟩, ⟨a9, a10, l11⟩⟩, l12, l13⟩ : SStmt), rfl, SStmt.mkZ (⟨a0, a1, ⟨a2, a3, l4⟩, ⟨a5, ⟨a6, a7, l8⟩, ⟨a9, a10, l11⟩⟩, l12, l13⟩ : SStmt) hL4 hR4 hL8 hR8 hL11 hR11 hL12 hR12 hL13 hR13, (OkStmt.mk _ (In64.of_wf k0) (In64.of_wf k1) (In64.of_wf k2) (In64.of_wf k3) b4 o4 (In64.of_wf k5) (In64.of_wf k6) (In64.of_wf k7) b8 o8 (In64.of_wf k9) (In64.of_wf k10) b11 o11 b12 o12 b13 o13), ?_⟩
  show SStmt.blk (⟨a0, a1, ⟨a2, a3, l4⟩, ⟨a5, ⟨a6, a7, l8⟩, ⟨a9, a10, l11⟩⟩, l12, l13⟩ : SStmt) ≤ _
  simp only [SStmt.blk, SExpr.blkL_sum, SStmt.blkL_sum]
  omega
theorem own : ownKnob Try.prog.godebug = none := by kernel_rfl
theorem laidOut : laidOutB Try.prog = true := by kernel_rfl
theorem params : Try.f4.params = #[22, 22, 23, 23] := by kernel_rfl
theorem u4 : Try.prog.underlying 4 = some (.bool) := by kernel_rfl
theorem u22 : Try.prog.underlying 22 = some (.slice 70) := by kernel_rfl
theorem u23 : Try.prog.underlying 23 = some (.slice 3) := by kernel_rfl
theorem func : Try.prog.funcs[4]? = some Try.f4 := by kernel_rfl
set_option maxRecDepth 100000 in
theorem contract (H : Type) (enc : TypeId × Value → H) (W : World) (base : Nat) (args : Array Value) (ds gs : List (DataW H)) (before : List MemPlace)
    (hval : ∀ (j : Nat) t v, Try.f4.params[j]? = some t → args[j]? = some v → Value.okWide Try.prog W .any base t v)
    (hW : DataW.Whole enc Try.prog Try.f4.params.toList Rows.meaningJoinsSpec.vars false W args.toList ds gs before)
    (hwt : (DataW.weightsEach Try.prog (Try.f4.params.toList ++ Rows.meaningJoinsSpec.plain.varTypes Try.prog) (ds ++ gs)).all (· ≤ reachBytes) = true) (hL : laidMetH Try.prog Rows.meaningJoinsUptoRow.laid W) (hk : Rows.uptoSmall H (ds ++ gs) = true) :
    Calls Try.prog 4 args W fun e W' => ∃ v, e = .returned v ∧ Rows.meaningJoinsSpec.post enc Try.prog Try.f4 false true false false W args v W' := by
  have hW' := hW
  obtain ⟨p, q, hA0, hV, rfl, hfz, hnd⟩ := hW
  obtain ⟨rfl, rfl⟩ := trodVars_none hV
  have hlt := hW'.lt
  have hA := hA0
  rw [params] at hA hwt hval
  have hargs : args = args.toList.toArray := by simp
  generalize args.toList = vs at hA hargs
  subst hargs
  simp only [] at hA
  obtain ⟨v0, vs0, d0, ds0, p0, q0, rfl, rfl, rfl, h0, hA⟩ := trodAll_cons hA
  obtain ⟨v1, vs1, d1, ds1, p1, q1, rfl, rfl, rfl, h1, hA⟩ := trodAll_cons hA
  obtain ⟨v2, vs2, d2, ds2, p2, q2, rfl, rfl, rfl, h2, hA⟩ := trodAll_cons hA
  obtain ⟨v3, vs3, d3, ds3, p3, q3, rfl, rfl, rfl, h3, hA⟩ := trodAll_cons hA
  obtain ⟨rfl, rfl, rfl⟩ := trodAll_nil hA
  have hwt' := fun n hn => of_decide_eq_true (List.all_eq_true.1 hwt n hn)
  have hsm := of_decide_eq_true hk
  simp only [List.cons_append, List.nil_append, Rows.uptoBulkAll] at hsm
  have k0 : Value.okWide Try.prog W .any base 22 v0 := hval 0 22 v0 (by simp) (by simp)
  obtain ⟨a0, n0, cc0, rfl⟩ := okWide_slice u22 k0
  obtain ⟨fu0, hu0⟩ := h0
  obtain ⟨l0, A0, c0, he0, rl0, r0, -, ok0, sz0⟩ := gate_rowDN (α := SStmt) bulk SStmt.blk u22 (by kernel_rfl) (by kernel_rfl) hu0 (fun n hn => hwt' n (DataW.weights_mem_each (j := 0) (t := 22) (d := d0) (by simp) (by simp) n hn)) (fun m cs y hy _ hw => gate_SStmt _ m cs y rfl hy hw)
  injection he0 with hA0 hN0 hC0; subst hA0; subst hN0; subst hC0
  have sy0 : (l0.map SStmt.blk).sum ≤ Rows.uptoBulk d0 := sz0
  have hb0 : SStmt.blkL l0 ≤ 1048576 := by
    rw [SStmt.blkL_sum]; omega
  have k1 : Value.okWide Try.prog W .any base 22 v1 := hval 1 22 v1 (by simp) (by simp)
  obtain ⟨a1, n1, cc1, rfl⟩ := okWide_slice u22 k1
  obtain ⟨fu1, hu1⟩ := h1
  obtain ⟨l1, A1, c1, he1, rl1, r1, -, ok1, sz1⟩ := gate_rowDN (α := SStmt) bulk SStmt.blk u22 (by kernel_rfl) (by kernel_rfl) hu1 (fun n hn => hwt' n (DataW.weights_mem_each (j := 1) (t := 22) (d := d1) (by simp) (by simp) n hn)) (fun m cs y hy _ hw => gate_SStmt _ m cs y rfl hy hw)
  injection he1 with hA1 hN1 hC1; subst hA1; subst hN1; subst hC1
  have sy1 : (l1.map SStmt.blk).sum ≤ Rows.uptoBulk d1 := sz1
  have hb1 : SStmt.blkL l1 ≤ 1048576 := by
    rw [SStmt.blkL_sum]; omega
  have k2 : Value.okWide Try.prog W .any base 23 v2 := hval 2 23 v2 (by simp) (by simp)
  have s2 := okWide_slice u23 k2
  obtain ⟨l2, A2, c2, rfl, r2, rl2, ok2⟩ := gate_row2 (α := Int) u23 _ (by kernel_rfl) Int.of_fits2 (by kernel_rfl) (by kernel_rfl) h2 (fun n hn => hwt' n (DataW.weights_mem_each (j := 2) (t := 23) (d := d2) (by simp) (by simp) n hn)) s2
  have len2 := gate_len (k := 8) u23 (by kernel_rfl) h2 (fun n hn => hwt' n (DataW.weights_mem_each (j := 2) (t := 23) (d := d2) (by simp) (by simp) n hn))
  have k3 : Value.okWide Try.prog W .any base 23 v3 := hval 3 23 v3 (by simp) (by simp)
  have s3 := okWide_slice u23 k3
  obtain ⟨l3, A3, c3, rfl, r3, rl3, ok3⟩ := gate_row2 (α := Int) u23 _ (by kernel_rfl) Int.of_fits2 (by kernel_rfl) (by kernel_rfl) h3 (fun n hn => hwt' n (DataW.weights_mem_each (j := 3) (t := 23) (d := d3) (by simp) (by simp) n hn)) s3
  have len3 := gate_len (k := 8) u23 (by kernel_rfl) h3 (fun n hn => hwt' n (DataW.weights_mem_each (j := 3) (t := 23) (d := d3) (by simp) (by simp) n hn))
  have hbt : SStmt.blkL l0 + SStmt.blkL l1 ≤ 1048576 := by
    rw [SStmt.blkL_sum, SStmt.blkL_sum]; omega
  obtain ⟨K, hK⟩ := MeaningJoins_law l0 l1 l2 l3 ok0 hb0 ok1 hb1 ok2 len2 ok3 len3 hbt
  refine (MeaningJoins_ok K (Zof W) l0 _ _ l1 _ _ l2 A2 c2 l3 A3 c3 W (fun w k => k) r0 rl0 r1 rl1 r2 rl2 r3 rl3 true hK).mono fun e W' ⟨he, hS⟩ => ?_
  subst he
  have hb : Below W.heap.size W W' := hS.below
  refine ⟨_, rfl, _, _, _, [], _, [], hW', ?_, gate_args laidOut hb (by kernel_rfl) hA0 (fun x hx => hlt x (List.mem_append_left _ hx)), rfl, hb.frame _, fun h => by cases h⟩
  exact trodAll_mk1 (shut_bool u4 true)
noncomputable def laidWorld (os : Os) : World := World.holding Try.prog os ⟨#[], #[], []⟩
theorem laid_met (os : Os) : laidMet Try.prog Rows.meaningJoinsUptoRow.laid ((laidWorld os).forCall (fun _ _ => 0) ⟨#[], #[.slice none 0 0, .slice none 0 0, .slice none 0 0, .slice none 0 0], []⟩).memory :=
  laidMet_of_run' 8 (by kernel_rfl) (by kernel_rfl)
theorem reads (os : Os) {H : Type} (enc : TypeId × Value → H) : ∃ places, DataW.whole enc Try.prog ((laidWorld os).forCall (fun _ _ => 0) ⟨#[], #[.slice none 0 0, .slice none 0 0, .slice none 0 0, .slice none 0 0], []⟩).memory Try.f4.params.toList Rows.meaningJoinsSpec.vars false (#[.slice none 0 0, .slice none 0 0, .slice none 0 0, .slice none 0 0] : Array Value).toList 8 = some ([.nil, .nil, .nil, .nil], [], places) :=
  ⟨[], by kernel_rfl⟩
set_option maxRecDepth 100000 in
theorem lifted (os : Os) (started : os.Started) (H : Type) (enc : TypeId × Value → H) (F : Stop.Interp) :
    ReturnsInHanded {} Try.checked os 4 .any ((Rows.OpenSpec.upto Rows.meaningJoinsSpec).preRow enc Try.prog Try.f4 Rows.meaningJoinsUptoRow.domain false Rows.meaningJoinsUptoRow.laid) (((Rows.OpenSpec.upto Rows.meaningJoinsSpec).at F).post enc Try.prog Try.f4 false true false false) := by
  obtain ⟨places, hx⟩ := reads os enc
  refine returnsInHanded_of_row (C := Try.checked) (s := Rows.OpenSpec.upto Rows.meaningJoinsSpec) own started (by kernel_rfl) func
    (witness_row_at (enc := enc) (C := Try.checked) false (laidWorld os) #[.slice none 0 0, .slice none 0 0, .slice none 0 0, .slice none 0 0] rfl (by kernel_rfl) (by kernel_rfl) (by kernel_rfl)
      (OpenSpec.preRow_of_cond 8 hx (by kernel_rfl) (fun k hk => by cases hk; kernel_rfl) (by kernel_rfl) (laid_met os))) ?_
  intro W base args ds gs before hval hW _ hcond hwt hL _ _
  exact contract H enc W base args ds gs before hval hW hwt hL (hcond _ rfl)
theorem said : Rows.MeaningJoinsUptoSaid :=
  OpenClaim.holds_of_cond 4 Try.f4 rfl rfl rfl rfl rfl rfl rfl ⟨rfl, rfl, rfl, rfl, rfl⟩ rfl rfl rfl rfl rfl (by kernel_rfl) func (by kernel_rfl)
    (of_decide_eq_true (by kernel_rfl)) (by unfold Func.isWrapper; first | (rw [if_pos (by decide +kernel)]; kernel_rfl) | (rw [if_neg (by decide +kernel)]; exact ⟨rfl, rfl⟩))
    (fun os started H enc _ F => by rw [OpenClaim.pre_eq_preRow]; exact lifted os started H enc F)
end MeaningJoinsEnd
#print axioms MeaningJoinsEnd.said
end Go.Proofs.Ytcjphfmmmlgcbaa.GV
