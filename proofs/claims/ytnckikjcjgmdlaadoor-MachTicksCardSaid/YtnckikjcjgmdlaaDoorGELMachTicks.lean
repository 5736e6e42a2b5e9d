/- MachTicks: for every input the law returns true, and each argument reads behind the call as it read before. Condition: the package-level variables that the row lists hold what the program lays (the tied card). -/
import Derived.Test.YtnckikjcjgmdlaaDoorGLMachTicks
import Derived.Test.YtnckikjcjgmdlaaDoorGv30
import Derived.Test.YtnckikjcjgmdlaaDoorCards
import Derived.Test.YtnckikjcjgmdlaaDoorTie
import Derived.OpenShut
import Derived.Deep.DeepHandedRow
namespace Go.Proofs.YtnckikjcjgmdlaaDoor.GV
open Go Go.RowKit Go.ChangeShapes Go.WideShapes Go.ChangeAt Go.Proofs.YtnckikjcjgmdlaaDoor
set_option linter.unusedVariables false
set_option linter.unusedSimpArgs false
namespace MachTicksEnd
theorem of_fits_SIns (cs : List Value) (h : fitsAll2 [.int .i64, .int .i64, .int .i64] cs) : ∃ y : SIns, cs = Flat.cells y ∧ Ok.ok y := by
  obtain ⟨_, _, rfl, ⟨a1, rfl, k1⟩, ⟨_, _, rfl, ⟨a2, rfl, k2⟩, ⟨_, _, rfl, ⟨a3, rfl, k3⟩, rfl⟩⟩⟩ := h
  exact ⟨⟨a1, a2, a3⟩, rfl, ⟨In64.of_wf k1, In64.of_wf k2, In64.of_wf k3, trivial⟩⟩
theorem own : ownKnob Tryd.prog.godebug = none := by kernel_rfl
theorem laidOut : laidOutB Tryd.prog = true := by kernel_rfl
theorem params : Tryd.f6.params = #[22, 37, 37, 37, 3] := by kernel_rfl
theorem u3 : Tryd.prog.underlying 3 = some (.int .i64) := by kernel_rfl
theorem u4 : Tryd.prog.underlying 4 = some (.bool) := by kernel_rfl
theorem u22 : Tryd.prog.underlying 22 = some (.slice 29) := by kernel_rfl
theorem u37 : Tryd.prog.underlying 37 = some (.slice 3) := by kernel_rfl
theorem func : Tryd.prog.funcs[6]? = some Tryd.f6 := by kernel_rfl
set_option maxRecDepth 100000 in
theorem contract (H : Type) (enc : TypeId × Value → H) (W : World) (base : Nat) (args : Array Value) (ds gs : List (DataW H)) (before : List MemPlace)
    (hval : ∀ (j : Nat) t v, Tryd.f6.params[j]? = some t → args[j]? = some v → Value.okWide Tryd.prog W .any base t v)
    (hW : DataW.Whole enc Tryd.prog Tryd.f6.params.toList Rows.machTicksSpec.vars false W args.toList ds gs before)
    (hwt : (DataW.weightsEach Tryd.prog (Tryd.f6.params.toList ++ Rows.machTicksSpec.plain.varTypes Tryd.prog) (ds ++ gs)).all (· ≤ reachBytes) = true) (hL : laidMetH Tryd.prog Rows.machTicksRow.laid W) :
    Calls Tryd.prog 6 args W fun e W' => ∃ v, e = .returned v ∧ Rows.machTicksSpec.post enc Tryd.prog Tryd.f6 false true false false W args v W' := by
  have hW' := hW
  obtain ⟨p, q, hA0, hV, rfl, hfz, hnd⟩ := hW
  obtain ⟨rfl, rfl⟩ := trodVars_none hV
  have hlt := hW'.lt
  have hA := hA0
  rw [params] at hA hwt hval
  have hargs : args = args.toList.toArray := by simp
  generalize args.toList = vs at hA hargs
  subst hargs
  simp only [] at hA
  obtain ⟨v0, vs0, d0, ds0, p0, q0, rfl, rfl, rfl, h0, hA⟩ := trodAll_cons hA
  obtain ⟨v1, vs1, d1, ds1, p1, q1, rfl, rfl, rfl, h1, hA⟩ := trodAll_cons hA
  obtain ⟨v2, vs2, d2, ds2, p2, q2, rfl, rfl, rfl, h2, hA⟩ := trodAll_cons hA
  obtain ⟨v3, vs3, d3, ds3, p3, q3, rfl, rfl, rfl, h3, hA⟩ := trodAll_cons hA
  obtain ⟨v4, vs4, d4, ds4, p4, q4, rfl, rfl, rfl, h4, hA⟩ := trodAll_cons hA
  obtain ⟨rfl, rfl, rfl⟩ := trodAll_nil hA
  have hwt' := fun n hn => of_decide_eq_true (List.all_eq_true.1 hwt n hn)
  have k0 : Value.okWide Tryd.prog W .any base 22 v0 := hval 0 22 v0 (by simp) (by simp)
  have s0 := okWide_slice u22 k0
  obtain ⟨l0, A0, c0, rfl, r0, rl0, ok0⟩ := gate_row2 (α := SIns) u22 _ (by kernel_rfl) of_fits_SIns (by kernel_rfl) (by kernel_rfl) h0 (fun n hn => hwt' n (DataW.weights_mem_each (j := 0) (t := 22) (d := d0) (by simp) (by simp) n hn)) s0
  have k1 : Value.okWide Tryd.prog W .any base 37 v1 := hval 1 37 v1 (by simp) (by simp)
  have s1 := okWide_slice u37 k1
  obtain ⟨l1, A1, c1, rfl, r1, rl1, ok1⟩ := gate_row2 (α := Int) u37 _ (by kernel_rfl) Int.of_fits2 (by kernel_rfl) (by kernel_rfl) h1 (fun n hn => hwt' n (DataW.weights_mem_each (j := 1) (t := 37) (d := d1) (by simp) (by simp) n hn)) s1
  have len1 := gate_len (k := 8) u37 (by kernel_rfl) h1 (fun n hn => hwt' n (DataW.weights_mem_each (j := 1) (t := 37) (d := d1) (by simp) (by simp) n hn))
  have k2 : Value.okWide Tryd.prog W .any base 37 v2 := hval 2 37 v2 (by simp) (by simp)
  have s2 := okWide_slice u37 k2
  obtain ⟨l2, A2, c2, rfl, r2, rl2, ok2⟩ := gate_row2 (α := Int) u37 _ (by kernel_rfl) Int.of_fits2 (by kernel_rfl) (by kernel_rfl) h2 (fun n hn => hwt' n (DataW.weights_mem_each (j := 2) (t := 37) (d := d2) (by simp) (by simp) n hn)) s2
  have len2 := gate_len (k := 8) u37 (by kernel_rfl) h2 (fun n hn => hwt' n (DataW.weights_mem_each (j := 2) (t := 37) (d := d2) (by simp) (by simp) n hn))
  have k3 : Value.okWide Tryd.prog W .any base 37 v3 := hval 3 37 v3 (by simp) (by simp)
  have s3 := okWide_slice u37 k3
  obtain ⟨l3, A3, c3, rfl, r3, rl3, ok3⟩ := gate_row2 (α := Int) u37 _ (by kernel_rfl) Int.of_fits2 (by kernel_rfl) (by kernel_rfl) h3 (fun n hn => hwt' n (DataW.weights_mem_each (j := 3) (t := 37) (d := d3) (by simp) (by simp) n hn)) s3
  have len3 := gate_len (k := 8) u37 (by kernel_rfl) h3 (fun n hn => hwt' n (DataW.weights_mem_each (j := 3) (t := 37) (d := d3) (by simp) (by simp) n hn))
  have k4 : Value.okWide Tryd.prog W .any base 3 v4 := hval 4 3 v4 (by simp) (by simp)
  obtain ⟨x4, rfl⟩ := okWide_int u3 k4
  have ok4 := gate_int u3 h4
  have hG0 : Glob W 0 [.int .i64 (-1), .int .i64 (-2), .int .i64 (-3)] := laid_glob (P := Tryd.prog) (laid := Rows.machTicksRow.laid) (t := 29) (n := "punctual/punctuallaw.noIns") (d := Rows.laid_punctual_punctuallaw_noIns) (laidMetH_plain hL (by kernel_rfl)) 0 (by kernel_rfl) (by kernel_rfl) (by kernel_rfl) (by kernel_rfl) (by kernel_rfl)
  obtain ⟨K, hK⟩ := MachTicks_law l0 l1 l2 l3 x4 ok0 ok1 len1 ok2 len2 ok3 len3 ok4
  refine (MachTicks_ok K l0 A0 c0 l1 A1 c1 l2 A2 c2 l3 A3 c3 x4 W r0 rl0 r1 rl1 r2 rl2 r3 rl3 hG0 true hK).mono fun e W' ⟨he, hS⟩ => ?_
  subst he
  have hb : Below W.heap.size W W' := hS.below
  refine ⟨_, rfl, _, _, _, [], _, [], hW', ?_, gate_args laidOut hb (by kernel_rfl) hA0 (fun x hx => hlt x (List.mem_append_left _ hx)), rfl, hb.frame _, fun h => by cases h⟩
  exact trodAll_mk1 (shut_bool u4 true)
noncomputable def laidWorld (os : Os) : World :=
  { World.holding Tryd.prog os ⟨#[], #[], []⟩ with heap := ((World.holding Tryd.prog os ⟨#[], #[], []⟩).heap.modify 0 fun
      | .cells _ t frozen => .cells #[.int .i64 (-1), .int .i64 (-2), .int .i64 (-3)] t frozen
      | o => o) }
theorem laid_met (os : Os) : laidMet Tryd.prog Rows.machTicksRow.laid ((laidWorld os).forCall (fun _ _ => 0) ⟨#[], #[.slice none 0 0, .slice none 0 0, .slice none 0 0, .slice none 0 0, .int .i64 0], []⟩).memory :=
  laidMet_of_run' 8 (by kernel_rfl) (by kernel_rfl)
theorem reads (os : Os) {H : Type} (enc : TypeId × Value → H) : ∃ places, DataW.whole enc Tryd.prog ((laidWorld os).forCall (fun _ _ => 0) ⟨#[], #[.slice none 0 0, .slice none 0 0, .slice none 0 0, .slice none 0 0, .int .i64 0], []⟩).memory Tryd.f6.params.toList Rows.machTicksSpec.vars false (#[.slice none 0 0, .slice none 0 0, .slice none 0 0, .slice none 0 0, .int .i64 0] : Array Value).toList 8 = some ([.nil, .nil, .nil, .nil, .lit (.int .i64 0)], [], places) :=
  ⟨[], by kernel_rfl⟩
set_option maxRecDepth 100000 in
theorem lifted (os : Os) (started : os.Started) (H : Type) (enc : TypeId × Value → H) (F : Stop.Interp) :
    ReturnsInHanded {} Tryd.checked os 6 .any ((OpenSpec.ofChange Rows.machTicksSpec).preRow enc Tryd.prog Tryd.f6 Rows.machTicksRow.domain false Rows.machTicksRow.laid) (((OpenSpec.ofChange Rows.machTicksSpec).at F).post enc Tryd.prog Tryd.f6 false true false false) := by
  obtain ⟨places, hx⟩ := reads os enc
  refine returnsInHanded_of_row (C := Tryd.checked) (s := OpenSpec.ofChange Rows.machTicksSpec) own started (by kernel_rfl) func
    (witness_row_at (enc := enc) (C := Tryd.checked) false (laidWorld os) #[.slice none 0 0, .slice none 0 0, .slice none 0 0, .slice none 0 0, .int .i64 0] rfl (by kernel_rfl) (by kernel_rfl) (by kernel_rfl)
      (OpenSpec.preRow_of_cond 8 hx (by kernel_rfl) (fun k hk => by cases hk) (by kernel_rfl) (laid_met os))) ?_
  intro W base args ds gs before hval hW _ _ hwt hL _ _
  exact contract H enc W base args ds gs before hval hW hwt hL
theorem said : Rows.MachTicksSaid :=
  OpenClaim.holds_of_cond 6 Tryd.f6 rfl rfl rfl rfl rfl rfl rfl ⟨rfl, rfl, rfl, rfl, rfl⟩ rfl rfl rfl rfl rfl (by kernel_rfl) func (by kernel_rfl)
    (of_decide_eq_true (by kernel_rfl)) (by unfold Func.isWrapper; first | (rw [if_pos (by decide +kernel)]; kernel_rfl) | (rw [if_neg (by decide +kernel)]; exact ⟨rfl, rfl⟩))
    (fun os started H enc _ F => by rw [OpenClaim.pre_eq_preRow]; exact lifted os started H enc F)
theorem plain (f : FuncId) (fn : Func) (hf : Tryd.pinned.checked.prog.funcNamed "punctual/punctuallaw.MachTicks" = some f) (hfn : Tryd.pinned.checked.prog.funcs[f]? = some fn) :
    false = Tryd.pinned.checked.prog.looks [] ∧ ∀ (j : Nat) t, fn.params[j]? = some t → Tryd.pinned.checked.prog.wantsStandIn t = false := by
  obtain rfl : f = 6 := Option.some.inj ((show Tryd.prog.funcNamed "punctual/punctuallaw.MachTicks" = some 6 by kernel_rfl).symm.trans hf) |>.symm
  obtain rfl : fn = Tryd.f6 := (Option.some.inj (func.symm.trans hfn)).symm
  refine ⟨by kernel_rfl, fun j t ht => ?_⟩
  have hall : (Tryd.f6.params.toList.all fun t => !Tryd.prog.wantsStandIn t) = true := by kernel_rfl
  have := List.all_eq_true.1 hall t (by simpa using Array.mem_of_getElem? ht)
  show Tryd.prog.wantsStandIn t = false
  simpa using this
theorem card : Rows.MachTicksCardSaid :=
  Claim7.holds_tied_plain_at .later [] _ _ _ _ said (fun _ h => by cases h) (by kernel_rfl) (fun _ h => by cases h) machTicks_row_tie rfl ⟨rfl, rfl⟩ (by kernel_rfl) rfl plain (by kernel_rfl)
end MachTicksEnd
#print axioms MachTicksEnd.card
end Go.Proofs.YtnckikjcjgmdlaaDoor.GV
