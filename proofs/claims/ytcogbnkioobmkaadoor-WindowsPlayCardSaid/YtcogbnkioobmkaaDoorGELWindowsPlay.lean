/- WindowsPlay: for every input the law returns true, and each argument reads behind the call as it read before. Condition: the package-level variables that the row lists hold what the program lays (the tied card). -/
import Derived.Test.YtcogbnkioobmkaaDoorGLWindowsPlay
import Derived.Test.YtcogbnkioobmkaaDoorCards
import Derived.Test.YtcogbnkioobmkaaDoorTie
import Derived.OpenShut
import Derived.Deep.DeepHandedRow
namespace Go.Proofs.YtcogbnkioobmkaaDoor.GV
open Go Go.RowKit Go.ChangeShapes Go.WideShapes Go.ChangeAt Go.Proofs.YtcogbnkioobmkaaDoor
set_option linter.unusedVariables false
set_option linter.unusedSimpArgs false
namespace WindowsPlayEnd
theorem of_fits_STask (cs : List Value) (h : fitsAll2 [.str, .int .i64, .int .i64, .int .i64, .int .i64, .int .i64, .int .i64] cs) : ∃ y : STask, cs = Flat.cells y ∧ Ok.ok y := by
  obtain ⟨_, _, rfl, ⟨a1, rfl, k1⟩, ⟨_, _, rfl, ⟨a2, rfl, k2⟩, ⟨_, _, rfl, ⟨a3, rfl, k3⟩, ⟨_, _, rfl, ⟨a4, rfl, k4⟩, ⟨_, _, rfl, ⟨a5, rfl, k5⟩, ⟨_, _, rfl, ⟨a6, rfl, k6⟩, ⟨_, _, rfl, ⟨a7, rfl, k7⟩, rfl⟩⟩⟩⟩⟩⟩⟩ := h
  exact ⟨⟨a1, a2, a3, a4, a5, a6, a7⟩, rfl, ⟨k1, In64.of_wf k2, In64.of_wf k3, In64.of_wf k4, In64.of_wf k5, In64.of_wf k6, In64.of_wf k7, trivial⟩⟩
theorem of_fits_SWindow (cs : List Value) (h : fitsAll2 [.int .i64, .int .i64] cs) : ∃ y : SWindow, cs = Flat.cells y ∧ Ok.ok y := by
  obtain ⟨_, _, rfl, ⟨a1, rfl, k1⟩, ⟨_, _, rfl, ⟨a2, rfl, k2⟩, rfl⟩⟩ := h
  exact ⟨⟨a1, a2⟩, rfl, ⟨In64.of_wf k1, In64.of_wf k2, trivial⟩⟩
theorem of_fits_SJob (cs : List Value) (h : fitsAll2 [.int .i64, .int .i64, .int .i64, .int .i64, .int .i64] cs) : ∃ y : SJob, cs = Flat.cells y ∧ Ok.ok y := by
  obtain ⟨_, _, rfl, ⟨a1, rfl, k1⟩, ⟨_, _, rfl, ⟨a2, rfl, k2⟩, ⟨_, _, rfl, ⟨a3, rfl, k3⟩, ⟨_, _, rfl, ⟨a4, rfl, k4⟩, ⟨_, _, rfl, ⟨a5, rfl, k5⟩, rfl⟩⟩⟩⟩⟩ := h
  exact ⟨⟨a1, a2, a3, a4, a5⟩, rfl, ⟨In64.of_wf k1, In64.of_wf k2, In64.of_wf k3, In64.of_wf k4, In64.of_wf k5, trivial⟩⟩
theorem own : ownKnob Tryd.prog.godebug = none := by kernel_rfl
theorem laidOut : laidOutB Tryd.prog = true := by kernel_rfl
theorem params : Tryd.f4.params = #[47, 3, 3, 48, 49, 3] := by kernel_rfl
theorem u3 : Tryd.prog.underlying 3 = some (.int .i64) := by kernel_rfl
theorem u4 : Tryd.prog.underlying 4 = some (.bool) := by kernel_rfl
theorem u47 : Tryd.prog.underlying 47 = some (.slice 51) := by kernel_rfl
theorem u48 : Tryd.prog.underlying 48 = some (.slice 55) := by kernel_rfl
theorem u49 : Tryd.prog.underlying 49 = some (.slice 58) := by kernel_rfl
theorem func : Tryd.prog.funcs[4]? = some Tryd.f4 := by kernel_rfl
set_option maxRecDepth 100000 in
theorem contract (H : Type) (enc : TypeId × Value → H) (W : World) (base : Nat) (args : Array Value) (ds gs : List (DataW H)) (before : List MemPlace)
    (hval : ∀ (j : Nat) t v, Tryd.f4.params[j]? = some t → args[j]? = some v → Value.okWide Tryd.prog W .any base t v)
    (hW : DataW.Whole enc Tryd.prog Tryd.f4.params.toList Rows.windowsPlaySpec.vars false W args.toList ds gs before)
    (hwt : (DataW.weightsEach Tryd.prog (Tryd.f4.params.toList ++ Rows.windowsPlaySpec.plain.varTypes Tryd.prog) (ds ++ gs)).all (· ≤ reachBytes) = true) (hL : laidMetH Tryd.prog Rows.windowsPlayRow.laid W) :
    Calls Tryd.prog 4 args W fun e W' => ∃ v, e = .returned v ∧ Rows.windowsPlaySpec.post enc Tryd.prog Tryd.f4 false true false false W args v W' := by
  have hW' := hW
  obtain ⟨p, q, hA0, hV, rfl, hfz, hnd⟩ := hW
  obtain ⟨rfl, rfl⟩ := trodVars_none hV
  have hlt := hW'.lt
  have hA := hA0
  rw [params] at hA hwt hval
  have hargs : args = args.toList.toArray := by simp
  generalize args.toList = vs at hA hargs
  subst hargs
  simp only [] at hA
  obtain ⟨v0, vs0, d0, ds0, p0, q0, rfl, rfl, rfl, h0, hA⟩ := trodAll_cons hA
  obtain ⟨v1, vs1, d1, ds1, p1, q1, rfl, rfl, rfl, h1, hA⟩ := trodAll_cons hA
  obtain ⟨v2, vs2, d2, ds2, p2, q2, rfl, rfl, rfl, h2, hA⟩ := trodAll_cons hA
  obtain ⟨v3, vs3, d3, ds3, p3, q3, rfl, rfl, rfl, h3, hA⟩ := trodAll_cons hA
  obtain ⟨v4, vs4, d4, ds4, p4, q4, rfl, rfl, rfl, h4, hA⟩ := trodAll_cons hA
  obtain ⟨v5, vs5, d5, ds5, p5, q5, rfl, rfl, rfl, h5, hA⟩ := trodAll_cons hA
  obtain ⟨rfl, rfl, rfl⟩ := trodAll_nil hA
  have hwt' := fun n hn => of_decide_eq_true (List.all_eq_true.1 hwt n hn)
  have k0 : Value.okWide Tryd.prog W .any base 47 v0 := hval 0 47 v0 (by simp) (by simp)
  have s0 := okWide_slice u47 k0
  obtain ⟨l0, A0, c0, rfl, r0, rl0, ok0⟩ := gate_row2 (α := STask) u47 _ (by kernel_rfl) of_fits_STask (by kernel_rfl) (by kernel_rfl) h0 (fun n hn => hwt' n (DataW.weights_mem_each (j := 0) (t := 47) (d := d0) (by simp) (by simp) n hn)) s0
  have k1 : Value.okWide Tryd.prog W .any base 3 v1 := hval 1 3 v1 (by simp) (by simp)
  obtain ⟨x1, rfl⟩ := okWide_int u3 k1
  have ok1 := gate_int u3 h1
  have k2 : Value.okWide Tryd.prog W .any base 3 v2 := hval 2 3 v2 (by simp) (by simp)
  obtain ⟨x2, rfl⟩ := okWide_int u3 k2
  have ok2 := gate_int u3 h2
  have k3 : Value.okWide Tryd.prog W .any base 48 v3 := hval 3 48 v3 (by simp) (by simp)
  have s3 := okWide_slice u48 k3
  obtain ⟨l3, A3, c3, rfl, r3, rl3, ok3⟩ := gate_row2 (α := SWindow) u48 _ (by kernel_rfl) of_fits_SWindow (by kernel_rfl) (by kernel_rfl) h3 (fun n hn => hwt' n (DataW.weights_mem_each (j := 3) (t := 48) (d := d3) (by simp) (by simp) n hn)) s3
  have k4 : Value.okWide Tryd.prog W .any base 49 v4 := hval 4 49 v4 (by simp) (by simp)
  have s4 := okWide_slice u49 k4
  obtain ⟨l4, A4, c4, rfl, r4, rl4, ok4⟩ := gate_row2 (α := SJob) u49 _ (by kernel_rfl) of_fits_SJob (by kernel_rfl) (by kernel_rfl) h4 (fun n hn => hwt' n (DataW.weights_mem_each (j := 4) (t := 49) (d := d4) (by simp) (by simp) n hn)) s4
  have k5 : Value.okWide Tryd.prog W .any base 3 v5 := hval 5 3 v5 (by simp) (by simp)
  obtain ⟨x5, rfl⟩ := okWide_int u3 k5
  have ok5 := gate_int u3 h5
  have hG2 : Glob W 2 [.string (⟨#[63]⟩), .int .i64 (-9), .int .i64 0, .int .i64 0, .int .i64 0, .int .i64 0, .int .i64 0] := laid_glob (P := Tryd.prog) (laid := Rows.windowsPlayRow.laid) (t := 51) (n := "punctual/punctuallaw.noTask") (d := Rows.laid_punctual_punctuallaw_noTask) (laidMetH_plain hL (by kernel_rfl)) 1 (by kernel_rfl) (by kernel_rfl) (by kernel_rfl) (by kernel_rfl) (by kernel_rfl)
  have hG3 : Glob W 3 [.int .i64 (-9), .int .i64 0] := laid_glob (P := Tryd.prog) (laid := Rows.windowsPlayRow.laid) (t := 55) (n := "punctual/punctuallaw.noWindow") (d := Rows.laid_punctual_punctuallaw_noWindow) (laidMetH_plain hL (by kernel_rfl)) 0 (by kernel_rfl) (by kernel_rfl) (by kernel_rfl) (by kernel_rfl) (by kernel_rfl)
  have hG4 : Glob W 4 [.int .i64 (-9), .int .i64 0, .int .i64 0, .int .i64 0, .int .i64 0] := laid_glob (P := Tryd.prog) (laid := Rows.windowsPlayRow.laid) (t := 58) (n := "punctual/punctuallaw.noJob") (d := Rows.laid_punctual_punctuallaw_noJob) (laidMetH_plain hL (by kernel_rfl)) 2 (by kernel_rfl) (by kernel_rfl) (by kernel_rfl) (by kernel_rfl) (by kernel_rfl)
  obtain ⟨K, hK⟩ := WindowsPlay_law l0 x1 x2 l3 l4 x5 ok0 ok1 ok2 ok3 ok4 ok5
  refine (WindowsPlay_ok K l0 A0 c0 x1 x2 l3 A3 c3 l4 A4 c4 x5 W r0 rl0 r3 rl3 r4 rl4 hG2 hG3 hG4 true hK).mono fun e W' ⟨he, hS⟩ => ?_
  subst he
  have hb : Below W.heap.size W W' := hS.below
  refine ⟨_, rfl, _, _, _, [], _, [], hW', ?_, gate_args laidOut hb (by kernel_rfl) hA0 (fun x hx => hlt x (List.mem_append_left _ hx)), rfl, hb.frame _, fun h => by cases h⟩
  exact trodAll_mk1 (shut_bool u4 true)
noncomputable def laidWorld (os : Os) : World :=
  { World.holding Tryd.prog os ⟨#[], #[], []⟩ with heap := ((((World.holding Tryd.prog os ⟨#[], #[], []⟩).heap.modify 3 fun
      | .cells _ t frozen => .cells #[.int .i64 (-9), .int .i64 0] t frozen
      | o => o).modify 2 fun
      | .cells _ t frozen => .cells #[.string (⟨#[63]⟩), .int .i64 (-9), .int .i64 0, .int .i64 0, .int .i64 0, .int .i64 0, .int .i64 0] t frozen
      | o => o).modify 4 fun
      | .cells _ t frozen => .cells #[.int .i64 (-9), .int .i64 0, .int .i64 0, .int .i64 0, .int .i64 0] t frozen
      | o => o) }
theorem laid_met (os : Os) : laidMet Tryd.prog Rows.windowsPlayRow.laid ((laidWorld os).forCall (fun _ _ => 0) ⟨#[], #[.slice none 0 0, .int .i64 0, .int .i64 0, .slice none 0 0, .slice none 0 0, .int .i64 0], []⟩).memory :=
  laidMet_of_run' 8 (by kernel_rfl) (by kernel_rfl)
theorem reads (os : Os) {H : Type} (enc : TypeId × Value → H) : ∃ places, DataW.whole enc Tryd.prog ((laidWorld os).forCall (fun _ _ => 0) ⟨#[], #[.slice none 0 0, .int .i64 0, .int .i64 0, .slice none 0 0, .slice none 0 0, .int .i64 0], []⟩).memory Tryd.f4.params.toList Rows.windowsPlaySpec.vars false (#[.slice none 0 0, .int .i64 0, .int .i64 0, .slice none 0 0, .slice none 0 0, .int .i64 0] : Array Value).toList 8 = some ([.nil, .lit (.int .i64 0), .lit (.int .i64 0), .nil, .nil, .lit (.int .i64 0)], [], places) :=
  ⟨[], by kernel_rfl⟩
set_option maxRecDepth 100000 in
theorem lifted (os : Os) (started : os.Started) (H : Type) (enc : TypeId × Value → H) (F : Stop.Interp) :
    ReturnsInHanded {} Tryd.checked os 4 .any ((OpenSpec.ofChange Rows.windowsPlaySpec).preRow enc Tryd.prog Tryd.f4 Rows.windowsPlayRow.domain false Rows.windowsPlayRow.laid) (((OpenSpec.ofChange Rows.windowsPlaySpec).at F).post enc Tryd.prog Tryd.f4 false true false false) := by
  obtain ⟨places, hx⟩ := reads os enc
  refine returnsInHanded_of_row (C := Tryd.checked) (s := OpenSpec.ofChange Rows.windowsPlaySpec) own started (by kernel_rfl) func
    (witness_row_at (enc := enc) (C := Tryd.checked) false (laidWorld os) #[.slice none 0 0, .int .i64 0, .int .i64 0, .slice none 0 0, .slice none 0 0, .int .i64 0] rfl (by kernel_rfl) (by kernel_rfl) (by kernel_rfl)
      (OpenSpec.preRow_of_cond 8 hx (by kernel_rfl) (fun k hk => by cases hk) (by kernel_rfl) (laid_met os))) ?_
  intro W base args ds gs before hval hW _ _ hwt hL _ _
  exact contract H enc W base args ds gs before hval hW hwt hL
theorem said : Rows.WindowsPlaySaid :=
  OpenClaim.holds_of_cond 4 Tryd.f4 rfl rfl rfl rfl rfl rfl rfl ⟨rfl, rfl, rfl, rfl, rfl⟩ rfl rfl rfl rfl rfl (by kernel_rfl) func (by kernel_rfl)
    (of_decide_eq_true (by kernel_rfl)) (by unfold Func.isWrapper; first | (rw [if_pos (by decide +kernel)]; kernel_rfl) | (rw [if_neg (by decide +kernel)]; exact ⟨rfl, rfl⟩))
    (fun os started H enc _ F => by rw [OpenClaim.pre_eq_preRow]; exact lifted os started H enc F)
theorem plain (f : FuncId) (fn : Func) (hf : Tryd.pinned.checked.prog.funcNamed "punctual/punctuallaw.WindowsPlay" = some f) (hfn : Tryd.pinned.checked.prog.funcs[f]? = some fn) :
    false = Tryd.pinned.checked.prog.looks [] ∧ ∀ (j : Nat) t, fn.params[j]? = some t → Tryd.pinned.checked.prog.wantsStandIn t = false := by
  obtain rfl : f = 4 := Option.some.inj ((show Tryd.prog.funcNamed "punctual/punctuallaw.WindowsPlay" = some 4 by kernel_rfl).symm.trans hf) |>.symm
  obtain rfl : fn = Tryd.f4 := (Option.some.inj (func.symm.trans hfn)).symm
  refine ⟨by kernel_rfl, fun j t ht => ?_⟩
  have hall : (Tryd.f4.params.toList.all fun t => !Tryd.prog.wantsStandIn t) = true := by kernel_rfl
  have := List.all_eq_true.1 hall t (by simpa using Array.mem_of_getElem? ht)
  show Tryd.prog.wantsStandIn t = false
  simpa using this
theorem card : Rows.WindowsPlayCardSaid :=
  Claim7.holds_tied_plain_at .later [] _ _ _ _ said (fun _ h => by cases h) (by kernel_rfl) (fun _ h => by cases h) windowsPlay_row_tie rfl ⟨rfl, rfl⟩ (by kernel_rfl) rfl plain (by kernel_rfl)
end WindowsPlayEnd
#print axioms WindowsPlayEnd.card
end Go.Proofs.YtcogbnkioobmkaaDoor.GV
