/- ClockRounds: for every input the law returns true, and each argument reads behind the call as it read before. No condition. -/
import Derived.Test.YtchcdadpahakfaaGLClockRounds
import Derived.Test.YtchcdadpahakfaaGv22
import Derived.Test.YtchcdadpahakfaaGv30
import Derived.Test.YtchcdadpahakfaaGv44
import Derived.Test.YtchcdadpahakfaaRows
import Derived.OpenShut
import Derived.Deep.DeepHandedRow
namespace Go.Proofs.Ytchcdadpahakfaa.GV
open Go Go.RowKit Go.ChangeShapes Go.WideShapes Go.ChangeAt Go.Proofs.Ytchcdadpahakfaa
set_option linter.unusedVariables false
set_option linter.unusedSimpArgs false
namespace ClockRoundsEnd
theorem own : ownKnob Try.prog.godebug = none := by kernel_rfl
theorem laidOut : laidOutB Try.prog = true := by kernel_rfl
theorem params : Try.f6.params = #[51, 3, 26] := by kernel_rfl
theorem u3 : Try.prog.underlying 3 = some (.int .i64) := by kernel_rfl
theorem u4 : Try.prog.underlying 4 = some (.bool) := by kernel_rfl
theorem u26 : Try.prog.underlying 26 = some (.slice 3) := by kernel_rfl
theorem u51 : Try.prog.underlying 51 = some (.slice 26) := by kernel_rfl
theorem func : Try.prog.funcs[6]? = some Try.f6 := by kernel_rfl
set_option maxRecDepth 100000 in
theorem contract (H : Type) (enc : TypeId × Value → H) (W : World) (base : Nat) (args : Array Value) (ds gs : List (DataW H)) (before : List MemPlace)
    (hval : ∀ (j : Nat) t v, Try.f6.params[j]? = some t → args[j]? = some v → Value.okWide Try.prog W .any base t v)
    (hW : DataW.Whole enc Try.prog Try.f6.params.toList Rows.clockRoundsSpec.vars false W args.toList ds gs before)
    (hwt : (DataW.weightsEach Try.prog (Try.f6.params.toList ++ Rows.clockRoundsSpec.plain.varTypes Try.prog) (ds ++ gs)).all (· ≤ reachBytes) = true) (hL : laidMetH Try.prog Rows.clockRoundsRow.laid W) :
    Calls Try.prog 6 args W fun e W' => ∃ v, e = .returned v ∧ Rows.clockRoundsSpec.post enc Try.prog Try.f6 false true false false W args v W' := by
  have hW' := hW
  obtain ⟨p, q, hA0, hV, rfl, hfz, hnd⟩ := hW
  obtain ⟨rfl, rfl⟩ := trodVars_none hV
  have hlt := hW'.lt
  have hA := hA0
  rw [params] at hA hwt hval
  have hargs : args = args.toList.toArray := by simp
  generalize args.toList = vs at hA hargs
  subst hargs
  simp only [] at hA
  obtain ⟨v0, vs0, d0, ds0, p0, q0, rfl, rfl, rfl, h0, hA⟩ := trodAll_cons hA
  obtain ⟨v1, vs1, d1, ds1, p1, q1, rfl, rfl, rfl, h1, hA⟩ := trodAll_cons hA
  obtain ⟨v2, vs2, d2, ds2, p2, q2, rfl, rfl, rfl, h2, hA⟩ := trodAll_cons hA
  obtain ⟨rfl, rfl, rfl⟩ := trodAll_nil hA
  have hwt' := fun n hn => of_decide_eq_true (List.all_eq_true.1 hwt n hn)
  have k0 : Value.okWide Try.prog W .any base 51 v0 := hval 0 51 v0 (by simp) (by simp)
  have s0 := okWide_slice u51 k0
  obtain ⟨l0, hd0, A0, c0, rfl, r0, rl0, rn0, ok0, len0⟩ := gate_nest2 (α := Int) u51 u26 _ (by kernel_rfl) Int.of_fits2 (by kernel_rfl) (by kernel_rfl) (by kernel_rfl) (by kernel_rfl) h0 (fun n hn => hwt' n (DataW.weights_mem_each (j := 0) (t := 51) (d := d0) (by simp) (by simp) n hn)) s0
  replace len0 : ∀ l ∈ l0, l.length * 8 ≤ 140737488351232 := fun l hl => by
    have h9 := len0 l hl
    rw [(by kernel_rfl : Try.prog.bytesOf 3 = 8)] at h9
    exact h9
  have k1 : Value.okWide Try.prog W .any base 3 v1 := hval 1 3 v1 (by simp) (by simp)
  obtain ⟨x1, rfl⟩ := okWide_int u3 k1
  have ok1 := gate_int u3 h1
  have k2 : Value.okWide Try.prog W .any base 26 v2 := hval 2 26 v2 (by simp) (by simp)
  have s2 := okWide_slice u26 k2
  obtain ⟨l2, A2, c2, rfl, r2, rl2, ok2⟩ := gate_row2 (α := Int) u26 _ (by kernel_rfl) Int.of_fits2 (by kernel_rfl) (by kernel_rfl) h2 (fun n hn => hwt' n (DataW.weights_mem_each (j := 2) (t := 26) (d := d2) (by simp) (by simp) n hn)) s2
  obtain ⟨K, hK⟩ := ClockRounds_law l0 x1 l2 ok0 len0 ok1 ok2
  refine (ClockRounds_ok K l0 hd0 A0 c0 x1 l2 A2 c2 W r0 rl0 rn0 r2 rl2 true hK).mono fun e W' ⟨he, hS⟩ => ?_
  subst he
  have hb : Below W.heap.size W W' := hS.below
  refine ⟨_, rfl, _, _, _, [], _, [], hW', ?_, gate_args laidOut hb (by kernel_rfl) hA0 (fun x hx => hlt x (List.mem_append_left _ hx)), rfl, hb.frame _, fun h => by cases h⟩
  exact trodAll_mk1 (shut_bool u4 true)
noncomputable def laidWorld (os : Os) : World := World.holding Try.prog os ⟨#[], #[], []⟩
theorem laid_met (os : Os) : laidMet Try.prog Rows.clockRoundsRow.laid ((laidWorld os).forCall (fun _ _ => 0) ⟨#[], #[.slice none 0 0, .int .i64 0, .slice none 0 0], []⟩).memory :=
  laidMet_of_run' 8 (by kernel_rfl) (by kernel_rfl)
theorem reads (os : Os) {H : Type} (enc : TypeId × Value → H) : ∃ places, DataW.whole enc Try.prog ((laidWorld os).forCall (fun _ _ => 0) ⟨#[], #[.slice none 0 0, .int .i64 0, .slice none 0 0], []⟩).memory Try.f6.params.toList Rows.clockRoundsSpec.vars false (#[.slice none 0 0, .int .i64 0, .slice none 0 0] : Array Value).toList 8 = some ([.nil, .lit (.int .i64 0), .nil], [], places) :=
  ⟨[], by kernel_rfl⟩
set_option maxRecDepth 100000 in
theorem lifted (os : Os) (started : os.Started) (H : Type) (enc : TypeId × Value → H) (F : Stop.Interp) :
    ReturnsInHanded {} Try.checked os 6 .any ((OpenSpec.ofChange Rows.clockRoundsSpec).preRow enc Try.prog Try.f6 Rows.clockRoundsRow.domain false Rows.clockRoundsRow.laid) (((OpenSpec.ofChange Rows.clockRoundsSpec).at F).post enc Try.prog Try.f6 false true false false) := by
  obtain ⟨places, hx⟩ := reads os enc
  refine returnsInHanded_of_row (C := Try.checked) (s := OpenSpec.ofChange Rows.clockRoundsSpec) own started (by kernel_rfl) func
    (witness_row_at (enc := enc) (C := Try.checked) false (laidWorld os) #[.slice none 0 0, .int .i64 0, .slice none 0 0] rfl (by kernel_rfl) (by kernel_rfl) (by kernel_rfl)
      (OpenSpec.preRow_of_cond 8 hx (by kernel_rfl) (fun k hk => by cases hk) (by kernel_rfl) (laid_met os))) ?_
  intro W base args ds gs before hval hW _ _ hwt hL _ _
  exact contract H enc W base args ds gs before hval hW hwt hL
theorem said : Rows.ClockRoundsSaid :=
  OpenClaim.holds_of_cond 6 Try.f6 rfl rfl rfl rfl rfl rfl rfl ⟨rfl, rfl, rfl, rfl, rfl⟩ rfl rfl rfl rfl rfl (by kernel_rfl) func (by kernel_rfl)
    (of_decide_eq_true (by kernel_rfl)) (by unfold Func.isWrapper; first | (rw [if_pos (by decide +kernel)]; kernel_rfl) | (rw [if_neg (by decide +kernel)]; exact ⟨rfl, rfl⟩))
    (fun os started H enc _ F => by rw [OpenClaim.pre_eq_preRow]; exact lifted os started H enc F)
end ClockRoundsEnd
#print axioms ClockRoundsEnd.said
end Go.Proofs.Ytchcdadpahakfaa.GV
