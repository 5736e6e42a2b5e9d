/- ModesResponds: for every input the law returns true, and each argument reads behind the call as it read before. Condition: the package-level variables that the row lists hold what the program lays (the tied card). -/
import Derived.Test.YtchcdadpahakfaaDoorGLModesResponds
import Derived.Test.YtchcdadpahakfaaDoorCards
import Derived.Test.YtchcdadpahakfaaDoorTie
import Derived.OpenShut
import Derived.Deep.DeepHandedRow
namespace Go.Proofs.YtchcdadpahakfaaDoor.GV
open Go Go.RowKit Go.ChangeShapes Go.WideShapes Go.ChangeAt Go.Proofs.YtchcdadpahakfaaDoor
set_option linter.unusedVariables false
set_option linter.unusedSimpArgs false
namespace ModesRespondsEnd
theorem of_fits_SCrit (cs : List Value) (h : fitsAll2 [.int .i64, .int .i64, .int .i64, .int .i64, .bool, .int .i64] cs) : ∃ y : SCrit, cs = Flat.cells y ∧ Ok.ok y := by
  obtain ⟨_, _, rfl, ⟨a1, rfl, k1⟩, ⟨_, _, rfl, ⟨a2, rfl, k2⟩, ⟨_, _, rfl, ⟨a3, rfl, k3⟩, ⟨_, _, rfl, ⟨a4, rfl, k4⟩, ⟨_, _, rfl, ⟨a5, rfl⟩, ⟨_, _, rfl, ⟨a6, rfl, k6⟩, rfl⟩⟩⟩⟩⟩⟩ := h
  exact ⟨⟨a1, a2, a3, a4, a5, a6⟩, rfl, ⟨In64.of_wf k1, In64.of_wf k2, In64.of_wf k3, In64.of_wf k4, trivial, In64.of_wf k6, trivial⟩⟩
theorem own : ownKnob Tryd.prog.godebug = none := by kernel_rfl
theorem laidOut : laidOutB Tryd.prog = true := by kernel_rfl
theorem params : Tryd.f3.params = #[22] := by kernel_rfl
theorem u4 : Tryd.prog.underlying 4 = some (.bool) := by kernel_rfl
theorem u22 : Tryd.prog.underlying 22 = some (.slice 27) := by kernel_rfl
theorem func : Tryd.prog.funcs[3]? = some Tryd.f3 := by kernel_rfl
set_option maxRecDepth 100000 in
theorem contract (H : Type) (enc : TypeId × Value → H) (W : World) (base : Nat) (args : Array Value) (ds gs : List (DataW H)) (before : List MemPlace)
    (hval : ∀ (j : Nat) t v, Tryd.f3.params[j]? = some t → args[j]? = some v → Value.okWide Tryd.prog W .any base t v)
    (hW : DataW.Whole enc Tryd.prog Tryd.f3.params.toList Rows.modesRespondsSpec.vars false W args.toList ds gs before)
    (hwt : (DataW.weightsEach Tryd.prog (Tryd.f3.params.toList ++ Rows.modesRespondsSpec.plain.varTypes Tryd.prog) (ds ++ gs)).all (· ≤ reachBytes) = true) (hL : laidMetH Tryd.prog Rows.modesRespondsRow.laid W) :
    Calls Tryd.prog 3 args W fun e W' => ∃ v, e = .returned v ∧ Rows.modesRespondsSpec.post enc Tryd.prog Tryd.f3 false true false false W args v W' := by
  have hW' := hW
  obtain ⟨p, q, hA0, hV, rfl, hfz, hnd⟩ := hW
  obtain ⟨rfl, rfl⟩ := trodVars_none hV
  have hlt := hW'.lt
  have hA := hA0
  rw [params] at hA hwt hval
  have hargs : args = args.toList.toArray := by simp
  generalize args.toList = vs at hA hargs
  subst hargs
  simp only [] at hA
  obtain ⟨v0, vs0, d0, ds0, p0, q0, rfl, rfl, rfl, h0, hA⟩ := trodAll_cons hA
  obtain ⟨rfl, rfl, rfl⟩ := trodAll_nil hA
  have hwt' := fun n hn => of_decide_eq_true (List.all_eq_true.1 hwt n hn)
  have k0 : Value.okWide Tryd.prog W .any base 22 v0 := hval 0 22 v0 (by simp) (by simp)
  have s0 := okWide_slice u22 k0
  obtain ⟨l0, A0, c0, rfl, r0, rl0, ok0⟩ := gate_row2 (α := SCrit) u22 _ (by kernel_rfl) of_fits_SCrit (by kernel_rfl) (by kernel_rfl) h0 (fun n hn => hwt' n (DataW.weights_mem_each (j := 0) (t := 22) (d := d0) (by simp) (by simp) n hn)) s0
  have hG0 : Glob W 0 [.int .i64 (-9), .int .i64 0, .int .i64 0, .int .i64 0, .bool false, .int .i64 0] := laid_glob (P := Tryd.prog) (laid := Rows.modesRespondsRow.laid) (t := 27) (n := "punctual/punctuallaw.noCrit") (d := Rows.laid_punctual_punctuallaw_noCrit) (laidMetH_plain hL (by kernel_rfl)) 0 (by kernel_rfl) (by kernel_rfl) (by kernel_rfl) (by kernel_rfl) (by kernel_rfl)
  obtain ⟨K, hK⟩ := ModesResponds_law l0 ok0
  refine (ModesResponds_ok K l0 A0 c0 W r0 rl0 hG0 true hK).mono fun e W' ⟨he, hS⟩ => ?_
  subst he
  have hb : Below W.heap.size W W' := hS.below
  refine ⟨_, rfl, _, _, _, [], _, [], hW', ?_, gate_args laidOut hb (by kernel_rfl) hA0 (fun x hx => hlt x (List.mem_append_left _ hx)), rfl, hb.frame _, fun h => by cases h⟩
  exact trodAll_mk1 (shut_bool u4 true)
noncomputable def laidWorld (os : Os) : World :=
  { World.holding Tryd.prog os ⟨#[], #[], []⟩ with heap := ((World.holding Tryd.prog os ⟨#[], #[], []⟩).heap.modify 0 fun
      | .cells _ t frozen => .cells #[.int .i64 (-9), .int .i64 0, .int .i64 0, .int .i64 0, .bool false, .int .i64 0] t frozen
      | o => o) }
theorem laid_met (os : Os) : laidMet Tryd.prog Rows.modesRespondsRow.laid ((laidWorld os).forCall (fun _ _ => 0) ⟨#[], #[.slice none 0 0], []⟩).memory :=
  laidMet_of_run' 8 (by kernel_rfl) (by kernel_rfl)
theorem reads (os : Os) {H : Type} (enc : TypeId × Value → H) : ∃ places, DataW.whole enc Tryd.prog ((laidWorld os).forCall (fun _ _ => 0) ⟨#[], #[.slice none 0 0], []⟩).memory Tryd.f3.params.toList Rows.modesRespondsSpec.vars false (#[.slice none 0 0] : Array Value).toList 8 = some ([.nil], [], places) :=
  ⟨[], by kernel_rfl⟩
set_option maxRecDepth 100000 in
theorem lifted (os : Os) (started : os.Started) (H : Type) (enc : TypeId × Value → H) (F : Stop.Interp) :
    ReturnsInHanded {} Tryd.checked os 3 .any ((OpenSpec.ofChange Rows.modesRespondsSpec).preRow enc Tryd.prog Tryd.f3 Rows.modesRespondsRow.domain false Rows.modesRespondsRow.laid) (((OpenSpec.ofChange Rows.modesRespondsSpec).at F).post enc Tryd.prog Tryd.f3 false true false false) := by
  obtain ⟨places, hx⟩ := reads os enc
  refine returnsInHanded_of_row (C := Tryd.checked) (s := OpenSpec.ofChange Rows.modesRespondsSpec) own started (by kernel_rfl) func
    (witness_row_at (enc := enc) (C := Tryd.checked) false (laidWorld os) #[.slice none 0 0] rfl (by kernel_rfl) (by kernel_rfl) (by kernel_rfl)
      (OpenSpec.preRow_of_cond 8 hx (by kernel_rfl) (fun k hk => by cases hk) (by kernel_rfl) (laid_met os))) ?_
  intro W base args ds gs before hval hW _ _ hwt hL _ _
  exact contract H enc W base args ds gs before hval hW hwt hL
theorem said : Rows.ModesRespondsSaid :=
  OpenClaim.holds_of_cond 3 Tryd.f3 rfl rfl rfl rfl rfl rfl rfl ⟨rfl, rfl, rfl, rfl, rfl⟩ rfl rfl rfl rfl rfl (by kernel_rfl) func (by kernel_rfl)
    (of_decide_eq_true (by kernel_rfl)) (by unfold Func.isWrapper; first | (rw [if_pos (by decide +kernel)]; kernel_rfl) | (rw [if_neg (by decide +kernel)]; exact ⟨rfl, rfl⟩))
    (fun os started H enc _ F => by rw [OpenClaim.pre_eq_preRow]; exact lifted os started H enc F)
theorem plain (f : FuncId) (fn : Func) (hf : Tryd.pinned.checked.prog.funcNamed "punctual/punctuallaw.ModesResponds" = some f) (hfn : Tryd.pinned.checked.prog.funcs[f]? = some fn) :
    false = Tryd.pinned.checked.prog.looks [] ∧ ∀ (j : Nat) t, fn.params[j]? = some t → Tryd.pinned.checked.prog.wantsStandIn t = false := by
  obtain rfl : f = 3 := Option.some.inj ((show Tryd.prog.funcNamed "punctual/punctuallaw.ModesResponds" = some 3 by kernel_rfl).symm.trans hf) |>.symm
  obtain rfl : fn = Tryd.f3 := (Option.some.inj (func.symm.trans hfn)).symm
  refine ⟨by kernel_rfl, fun j t ht => ?_⟩
  have hall : (Tryd.f3.params.toList.all fun t => !Tryd.prog.wantsStandIn t) = true := by kernel_rfl
  have := List.all_eq_true.1 hall t (by simpa using Array.mem_of_getElem? ht)
  show Tryd.prog.wantsStandIn t = false
  simpa using this
theorem card : Rows.ModesRespondsCardSaid :=
  Claim7.holds_tied_plain_at .later [] _ _ _ _ said (fun _ h => by cases h) (by kernel_rfl) (fun _ h => by cases h) modesResponds_row_tie rfl ⟨rfl, rfl⟩ (by kernel_rfl) rfl plain (by kernel_rfl)
end ModesRespondsEnd
#print axioms ModesRespondsEnd.card
end Go.Proofs.YtchcdadpahakfaaDoor.GV
