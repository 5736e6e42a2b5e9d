/- ClockClose: for every input the law returns true, and each argument reads behind the call as it read before. No condition. -/
import Derived.Test.YtchcdadpahakfaaGLClockClose
import Derived.Test.YtchcdadpahakfaaGv22
import Derived.Test.YtchcdadpahakfaaRows
import Derived.OpenShut
import Derived.Deep.DeepHandedRow
namespace Go.Proofs.Ytchcdadpahakfaa.GV
open Go Go.RowKit Go.ChangeShapes Go.WideShapes Go.ChangeAt Go.Proofs.Ytchcdadpahakfaa
set_option linter.unusedVariables false
set_option linter.unusedSimpArgs false
namespace ClockCloseEnd
theorem own : ownKnob Try.prog.godebug = none := by kernel_rfl
theorem laidOut : laidOutB Try.prog = true := by kernel_rfl
theorem params : Try.f5.params = #[26, 3, 51, 3, 26, 3, 3] := by kernel_rfl
theorem u3 : Try.prog.underlying 3 = some (.int .i64) := by kernel_rfl
theorem u4 : Try.prog.underlying 4 = some (.bool) := by kernel_rfl
theorem u26 : Try.prog.underlying 26 = some (.slice 3) := by kernel_rfl
theorem u51 : Try.prog.underlying 51 = some (.slice 26) := by kernel_rfl
theorem func : Try.prog.funcs[5]? = some Try.f5 := by kernel_rfl
set_option maxRecDepth 100000 in
theorem contract (H : Type) (enc : TypeId × Value → H) (W : World) (base : Nat) (args : Array Value) (ds gs : List (DataW H)) (before : List MemPlace)
    (hval : ∀ (j : Nat) t v, Try.f5.params[j]? = some t → args[j]? = some v → Value.okWide Try.prog W .any base t v)
    (hW : DataW.Whole enc Try.prog Try.f5.params.toList Rows.clockCloseSpec.vars false W args.toList ds gs before)
    (hwt : (DataW.weightsEach Try.prog (Try.f5.params.toList ++ Rows.clockCloseSpec.plain.varTypes Try.prog) (ds ++ gs)).all (· ≤ reachBytes) = true) (hL : laidMetH Try.prog Rows.clockCloseRow.laid W) :
    Calls Try.prog 5 args W fun e W' => ∃ v, e = .returned v ∧ Rows.clockCloseSpec.post enc Try.prog Try.f5 false true false false W args v W' := by
  have hW' := hW
  obtain ⟨p, q, hA0, hV, rfl, hfz, hnd⟩ := hW
  obtain ⟨rfl, rfl⟩ := trodVars_none hV
  have hlt := hW'.lt
  have hA := hA0
  rw [params] at hA hwt hval
  have hargs : args = args.toList.toArray := by simp
  generalize args.toList = vs at hA hargs
  subst hargs
  simp only [] at hA
  obtain ⟨v0, vs0, d0, ds0, p0, q0, rfl, rfl, rfl, h0, hA⟩ := trodAll_cons hA
  obtain ⟨v1, vs1, d1, ds1, p1, q1, rfl, rfl, rfl, h1, hA⟩ := trodAll_cons hA
  obtain ⟨v2, vs2, d2, ds2, p2, q2, rfl, rfl, rfl, h2, hA⟩ := trodAll_cons hA
  obtain ⟨v3, vs3, d3, ds3, p3, q3, rfl, rfl, rfl, h3, hA⟩ := trodAll_cons hA
  obtain ⟨v4, vs4, d4, ds4, p4, q4, rfl, rfl, rfl, h4, hA⟩ := trodAll_cons hA
  obtain ⟨v5, vs5, d5, ds5, p5, q5, rfl, rfl, rfl, h5, hA⟩ := trodAll_cons hA
  obtain ⟨v6, vs6, d6, ds6, p6, q6, rfl, rfl, rfl, h6, hA⟩ := trodAll_cons hA
  obtain ⟨rfl, rfl, rfl⟩ := trodAll_nil hA
  have hwt' := fun n hn => of_decide_eq_true (List.all_eq_true.1 hwt n hn)
  have k0 : Value.okWide Try.prog W .any base 26 v0 := hval 0 26 v0 (by simp) (by simp)
  have s0 := okWide_slice u26 k0
  obtain ⟨l0, A0, c0, rfl, r0, rl0, ok0⟩ := gate_row2 (α := Int) u26 _ (by kernel_rfl) Int.of_fits2 (by kernel_rfl) (by kernel_rfl) h0 (fun n hn => hwt' n (DataW.weights_mem_each (j := 0) (t := 26) (d := d0) (by simp) (by simp) n hn)) s0
  have k1 : Value.okWide Try.prog W .any base 3 v1 := hval 1 3 v1 (by simp) (by simp)
  obtain ⟨x1, rfl⟩ := okWide_int u3 k1
  have ok1 := gate_int u3 h1
  have k2 : Value.okWide Try.prog W .any base 51 v2 := hval 2 51 v2 (by simp) (by simp)
  have s2 := okWide_slice u51 k2
  obtain ⟨l2, hd2, A2, c2, rfl, r2, rl2, rn2, ok2⟩ := gate_nest (α := Int) u51 u26 _ (by kernel_rfl) Int.of_fits2 (by kernel_rfl) (by kernel_rfl) (by kernel_rfl) (by kernel_rfl) h2 (fun n hn => hwt' n (DataW.weights_mem_each (j := 2) (t := 51) (d := d2) (by simp) (by simp) n hn)) s2
  have k3 : Value.okWide Try.prog W .any base 3 v3 := hval 3 3 v3 (by simp) (by simp)
  obtain ⟨x3, rfl⟩ := okWide_int u3 k3
  have ok3 := gate_int u3 h3
  have k4 : Value.okWide Try.prog W .any base 26 v4 := hval 4 26 v4 (by simp) (by simp)
  have s4 := okWide_slice u26 k4
  obtain ⟨l4, A4, c4, rfl, r4, rl4, ok4⟩ := gate_row2 (α := Int) u26 _ (by kernel_rfl) Int.of_fits2 (by kernel_rfl) (by kernel_rfl) h4 (fun n hn => hwt' n (DataW.weights_mem_each (j := 4) (t := 26) (d := d4) (by simp) (by simp) n hn)) s4
  have k5 : Value.okWide Try.prog W .any base 3 v5 := hval 5 3 v5 (by simp) (by simp)
  obtain ⟨x5, rfl⟩ := okWide_int u3 k5
  have ok5 := gate_int u3 h5
  have k6 : Value.okWide Try.prog W .any base 3 v6 := hval 6 3 v6 (by simp) (by simp)
  obtain ⟨x6, rfl⟩ := okWide_int u3 k6
  have ok6 := gate_int u3 h6
  obtain ⟨K, hK⟩ := ClockClose_law l0 x1 l2 x3 l4 x5 x6 ok0 ok1 ok2 ok3 ok4 ok5 ok6
  refine (ClockClose_ok K l0 A0 c0 x1 l2 hd2 A2 c2 x3 l4 A4 c4 x5 x6 W r0 rl0 r2 rl2 rn2 r4 rl4 true hK).mono fun e W' ⟨he, hS⟩ => ?_
  subst he
  have hb : Below W.heap.size W W' := hS.below
  refine ⟨_, rfl, _, _, _, [], _, [], hW', ?_, gate_args laidOut hb (by kernel_rfl) hA0 (fun x hx => hlt x (List.mem_append_left _ hx)), rfl, hb.frame _, fun h => by cases h⟩
  exact trodAll_mk1 (shut_bool u4 true)
noncomputable def laidWorld (os : Os) : World := World.holding Try.prog os ⟨#[], #[], []⟩
theorem laid_met (os : Os) : laidMet Try.prog Rows.clockCloseRow.laid ((laidWorld os).forCall (fun _ _ => 0) ⟨#[], #[.slice none 0 0, .int .i64 0, .slice none 0 0, .int .i64 0, .slice none 0 0, .int .i64 0, .int .i64 0], []⟩).memory :=
  laidMet_of_run' 8 (by kernel_rfl) (by kernel_rfl)
theorem reads (os : Os) {H : Type} (enc : TypeId × Value → H) : ∃ places, DataW.whole enc Try.prog ((laidWorld os).forCall (fun _ _ => 0) ⟨#[], #[.slice none 0 0, .int .i64 0, .slice none 0 0, .int .i64 0, .slice none 0 0, .int .i64 0, .int .i64 0], []⟩).memory Try.f5.params.toList Rows.clockCloseSpec.vars false (#[.slice none 0 0, .int .i64 0, .slice none 0 0, .int .i64 0, .slice none 0 0, .int .i64 0, .int .i64 0] : Array Value).toList 8 = some ([.nil, .lit (.int .i64 0), .nil, .lit (.int .i64 0), .nil, .lit (.int .i64 0), .lit (.int .i64 0)], [], places) :=
  ⟨[], by kernel_rfl⟩
set_option maxRecDepth 100000 in
theorem lifted (os : Os) (started : os.Started) (H : Type) (enc : TypeId × Value → H) (F : Stop.Interp) :
    ReturnsInHanded {} Try.checked os 5 .any ((OpenSpec.ofChange Rows.clockCloseSpec).preRow enc Try.prog Try.f5 Rows.clockCloseRow.domain false Rows.clockCloseRow.laid) (((OpenSpec.ofChange Rows.clockCloseSpec).at F).post enc Try.prog Try.f5 false true false false) := by
  obtain ⟨places, hx⟩ := reads os enc
  refine returnsInHanded_of_row (C := Try.checked) (s := OpenSpec.ofChange Rows.clockCloseSpec) own started (by kernel_rfl) func
    (witness_row_at (enc := enc) (C := Try.checked) false (laidWorld os) #[.slice none 0 0, .int .i64 0, .slice none 0 0, .int .i64 0, .slice none 0 0, .int .i64 0, .int .i64 0] rfl (by kernel_rfl) (by kernel_rfl) (by kernel_rfl)
      (OpenSpec.preRow_of_cond 8 hx (by kernel_rfl) (fun k hk => by cases hk) (by kernel_rfl) (laid_met os))) ?_
  intro W base args ds gs before hval hW _ _ hwt hL _ _
  exact contract H enc W base args ds gs before hval hW hwt hL
theorem said : Rows.ClockCloseSaid :=
  OpenClaim.holds_of_cond 5 Try.f5 rfl rfl rfl rfl rfl rfl rfl ⟨rfl, rfl, rfl, rfl, rfl⟩ rfl rfl rfl rfl rfl (by kernel_rfl) func (by kernel_rfl)
    (of_decide_eq_true (by kernel_rfl)) (by unfold Func.isWrapper; first | (rw [if_pos (by decide +kernel)]; kernel_rfl) | (rw [if_neg (by decide +kernel)]; exact ⟨rfl, rfl⟩))
    (fun os started H enc _ F => by rw [OpenClaim.pre_eq_preRow]; exact lifted os started H enc F)
end ClockCloseEnd
#print axioms ClockCloseEnd.said
end Go.Proofs.Ytchcdadpahakfaa.GV
