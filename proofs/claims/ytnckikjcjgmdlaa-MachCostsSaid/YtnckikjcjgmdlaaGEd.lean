/- MachCosts: for every input the law returns true, and each argument reads behind the call as it read before. No condition. -/
import Derived.Test.YtnckikjcjgmdlaaGLd
import Derived.Test.YtnckikjcjgmdlaaGv9
import Derived.Test.YtnckikjcjgmdlaaRows
import Derived.OpenShut
import Derived.Deep.DeepHandedRow
namespace Go.Proofs.Ytnckikjcjgmdlaa.GV
open Go Go.RowKit Go.ChangeShapes Go.WideShapes Go.ChangeAt Go.Proofs.Ytnckikjcjgmdlaa
set_option linter.unusedVariables false
set_option linter.unusedSimpArgs false
namespace MachCostsEnd
theorem of_fits_SIns (cs : List Value) (h : fitsAll [.int .i64, .int .i64, .int .i64] cs) : ∃ y : SIns, cs = Flat.cells y := by
  obtain ⟨_, _, rfl, ⟨a1, rfl⟩, ⟨_, _, rfl, ⟨a2, rfl⟩, ⟨_, _, rfl, ⟨a3, rfl⟩, rfl⟩⟩⟩ := h
  exact ⟨⟨a1, a2, a3⟩, rfl⟩
theorem own : ownKnob Try.prog.godebug = none := by kernel_rfl
theorem laidOut : laidOutB Try.prog = true := by kernel_rfl
theorem params : Try.f4.params = #[29, 4] := by kernel_rfl
theorem u4 : Try.prog.underlying 4 = some (.bool) := by kernel_rfl
theorem func : Try.prog.funcs[4]? = some Try.f4 := by kernel_rfl
set_option maxRecDepth 100000 in
theorem contract (H : Type) (enc : TypeId × Value → H) (W : World) (base : Nat) (args : Array Value) (ds gs : List (DataW H)) (before : List MemPlace)
    (hval : ∀ (j : Nat) t v, Try.f4.params[j]? = some t → args[j]? = some v → Value.okWide Try.prog W .any base t v)
    (hW : DataW.Whole enc Try.prog Try.f4.params.toList Rows.machCostsSpec.vars false W args.toList ds gs before)
    (hwt : (DataW.weightsEach Try.prog (Try.f4.params.toList ++ Rows.machCostsSpec.plain.varTypes Try.prog) (ds ++ gs)).all (· ≤ reachBytes) = true) (hL : laidMetH Try.prog Rows.machCostsRow.laid W) :
    Calls Try.prog 4 args W fun e W' => ∃ v, e = .returned v ∧ Rows.machCostsSpec.post enc Try.prog Try.f4 false true false false W args v W' := by
  have hW' := hW
  obtain ⟨p, q, hA0, hV, rfl, hfz, hnd⟩ := hW
  obtain ⟨rfl, rfl⟩ := trodVars_none hV
  have hlt := hW'.lt
  have hA := hA0
  rw [params] at hA hwt hval
  have hargs : args = args.toList.toArray := by simp
  generalize args.toList = vs at hA hargs
  subst hargs
  simp only [] at hA
  obtain ⟨v0, vs0, d0, ds0, p0, q0, rfl, rfl, rfl, h0, hA⟩ := trodAll_cons hA
  obtain ⟨v1, vs1, d1, ds1, p1, q1, rfl, rfl, rfl, h1, hA⟩ := trodAll_cons hA
  obtain ⟨rfl, rfl, rfl⟩ := trodAll_nil hA
  have hwt' := fun n hn => of_decide_eq_true (List.all_eq_true.1 hwt n hn)
  have k0 : Value.okWide Try.prog W .any base 29 v0 := hval 0 29 v0 (by simp) (by simp)
  have us0 : ∃ fs, Try.prog.underlying 29 = some (.struct fs) := by
    cases hu : Try.prog.underlying 29 with
    | none => exact absurd (show (Try.prog.underlying 29).isSome = true by kernel_rfl) (by simp [hu])
    | some dd => cases dd <;> first | exact ⟨_, rfl⟩ | exact absurd (show (match Try.prog.underlying 29 with | some (.struct _) => true | _ => false) = true by kernel_rfl) (by simp [hu])
  obtain ⟨fs0, us0⟩ := us0
  obtain ⟨⟨x0_1, x0_2, x0_3⟩, rfl⟩ := gate_struct (α := SIns) _ (by kernel_rfl) of_fits_SIns h0 (okWide_struct us0 k0)
  have k1 : Value.okWide Try.prog W .any base 4 v1 := hval 1 4 v1 (by simp) (by simp)
  obtain ⟨x1, rfl⟩ := okWide_bool u4 k1
  have hK := MachCosts_law x0_1 x0_2 x0_3 x1
  refine (MachCosts_ok x0_1 x0_2 x0_3 x1 W  true hK).mono fun e W' ⟨he, hS⟩ => ?_
  subst he
  have hb : Below W.heap.size W W' := hS.below
  refine ⟨_, rfl, _, _, _, [], _, [], hW', ?_, gate_args laidOut hb (by kernel_rfl) hA0 (fun x hx => hlt x (List.mem_append_left _ hx)), rfl, hb.frame _, fun h => by cases h⟩
  exact trodAll_mk1 (shut_bool u4 true)
noncomputable def laidWorld (os : Os) : World := World.holding Try.prog os ⟨#[], #[], []⟩
theorem laid_met (os : Os) : laidMet Try.prog Rows.machCostsRow.laid ((laidWorld os).forCall (fun _ _ => 0) ⟨#[], #[.agg #[.int .i64 0, .int .i64 0, .int .i64 0], .bool false], []⟩).memory :=
  laidMet_of_run' 8 (by kernel_rfl) (by kernel_rfl)
theorem reads (os : Os) {H : Type} (enc : TypeId × Value → H) : ∃ places, DataW.whole enc Try.prog ((laidWorld os).forCall (fun _ _ => 0) ⟨#[], #[.agg #[.int .i64 0, .int .i64 0, .int .i64 0], .bool false], []⟩).memory Try.f4.params.toList Rows.machCostsSpec.vars false (#[.agg #[.int .i64 0, .int .i64 0, .int .i64 0], .bool false] : Array Value).toList 8 = some ([.agg [.lit (.int .i64 0), .lit (.int .i64 0), .lit (.int .i64 0)], .lit (.bool false)], [], places) :=
  ⟨[], by kernel_rfl⟩
set_option maxRecDepth 100000 in
theorem lifted (os : Os) (started : os.Started) (H : Type) (enc : TypeId × Value → H) (F : Stop.Interp) :
    ReturnsInHanded {} Try.checked os 4 .any ((OpenSpec.ofChange Rows.machCostsSpec).preRow enc Try.prog Try.f4 Rows.machCostsRow.domain false Rows.machCostsRow.laid) (((OpenSpec.ofChange Rows.machCostsSpec).at F).post enc Try.prog Try.f4 false true false false) := by
  obtain ⟨places, hx⟩ := reads os enc
  refine returnsInHanded_of_row (C := Try.checked) (s := OpenSpec.ofChange Rows.machCostsSpec) own started (by kernel_rfl) func
    (witness_row_at (enc := enc) (C := Try.checked) false (laidWorld os) #[.agg #[.int .i64 0, .int .i64 0, .int .i64 0], .bool false] rfl (by kernel_rfl) (by kernel_rfl) (by kernel_rfl)
      (OpenSpec.preRow_of_cond 8 hx (by kernel_rfl) (fun k hk => by cases hk) (by kernel_rfl) (laid_met os))) ?_
  intro W base args ds gs before hval hW _ _ hwt hL _ _
  exact contract H enc W base args ds gs before hval hW hwt hL
theorem said : Rows.MachCostsSaid :=
  OpenClaim.holds_of_cond 4 Try.f4 rfl rfl rfl rfl rfl rfl rfl ⟨rfl, rfl, rfl, rfl, rfl⟩ rfl rfl rfl rfl rfl (by kernel_rfl) func (by kernel_rfl)
    (of_decide_eq_true (by kernel_rfl)) (by unfold Func.isWrapper; first | (rw [if_pos (by decide +kernel)]; kernel_rfl) | (rw [if_neg (by decide +kernel)]; exact ⟨rfl, rfl⟩))
    (fun os started H enc _ F => by rw [OpenClaim.pre_eq_preRow]; exact lifted os started H enc F)
end MachCostsEnd
#print axioms MachCostsEnd.said
end Go.Proofs.Ytnckikjcjgmdlaa.GV
