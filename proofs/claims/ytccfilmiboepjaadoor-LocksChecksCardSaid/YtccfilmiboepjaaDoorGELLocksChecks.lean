/- LocksChecks: for every input the law returns true, and each argument reads behind the call as it read before. Condition: the package-level variables that the row lists hold what the program lays (the tied card). -/
import Derived.Test.YtccfilmiboepjaaDoorGLLocksChecks
import Derived.Test.YtccfilmiboepjaaDoorGv39
import Derived.Test.YtccfilmiboepjaaDoorCards
import Derived.Test.YtccfilmiboepjaaDoorTie
import Derived.OpenShut
import Derived.Deep.DeepHandedRow
namespace Go.Proofs.YtccfilmiboepjaaDoor.GV
open Go Go.RowKit Go.ChangeShapes Go.WideShapes Go.ChangeAt Go.Proofs.YtccfilmiboepjaaDoor
set_option linter.unusedVariables false
set_option linter.unusedSimpArgs false
namespace LocksChecksEnd
theorem of_fits_SAct (cs : List Value) (h : fitsAll2 [.int .i64, .int .i64] cs) : ∃ y : SAct, cs = Flat.cells y ∧ Ok.ok y := by
  obtain ⟨_, _, rfl, ⟨a1, rfl, k1⟩, ⟨_, _, rfl, ⟨a2, rfl, k2⟩, rfl⟩⟩ := h
  exact ⟨⟨a1, a2⟩, rfl, ⟨In64.of_wf k1, In64.of_wf k2, trivial⟩⟩
set_option maxRecDepth 100000 in
theorem gate_SLocked {H : Type} {enc : TypeId × Value → H} {w : World} {base : Nat} {spare : Nat → Bool} {held : Bool} : ∀ (fuel : Nat) (cs : List Value) (x : DataW H × List MemPlace), DataW.trod enc Tryd.prog w base spare held fuel 34 cs = some x → (∀ n ∈ x.1.weights Tryd.prog 34, n ≤ reachBytes) → ∃ (g : DRep.H SLocked) (z : SLocked), cs = Flat.cells g ∧ DRep.rel (Zof w) g z ∧ Ok.ok z := by
  intro fuel cs x hx hw
  have hf := deepK_less (Q := (fun t v => (t = 22 → ∃ (l : List SAct) (A : Option Addr) (c : Nat), v = .slice A l.length c ∧ l.length ≤ c ∧ RdF (Zof w) A l ∧ l.length * 16 ≤ 140737488351232 ∧ ∀ y ∈ l, Ok.ok y) ∧ True)) (d := 7) (ks := [.lit (.int .i64), .lit (.int .i64), .row 22]) (by kernel_rfl) (by kernel_rfl) hx hw (fun s hs m t v y he hy hsz hwy => ⟨fun ht => by subst ht; exact gate_rowF (α := SAct) (show Tryd.prog.underlying 22 = some (.slice 39) from by kernel_rfl) _ (by kernel_rfl) of_fits_SAct (by kernel_rfl) (by kernel_rfl) hy hwy, trivial⟩)
  obtain ⟨_, _, rfl, ⟨a0, rfl, k0⟩, ⟨_, _, rfl, ⟨a1, rfl, k1⟩, ⟨_, _, rfl, q2, rfl⟩⟩⟩ := hf
  obtain ⟨l2, A2, c2, rfl, hL2, hR2, b2, o2⟩ := q2.1 rfl
  exact ⟨(⟨a0, a1, ⟨A2, l2.length, c2⟩⟩ : HLocked), (⟨a0, a1, l2⟩ : SLocked), rfl, SLocked.mkZ (⟨a0, a1, l2⟩ : SLocked) hL2 hR2, ⟨In64.of_wf k0, In64.of_wf k1, ⟨b2, o2⟩, trivial⟩⟩
theorem own : ownKnob Tryd.prog.godebug = none := by kernel_rfl
theorem laidOut : laidOutB Tryd.prog = true := by kernel_rfl
theorem params : Tryd.f3.params = #[22, 23] := by kernel_rfl
theorem u4 : Tryd.prog.underlying 4 = some (.bool) := by kernel_rfl
theorem u22 : Tryd.prog.underlying 22 = some (.slice 39) := by kernel_rfl
theorem u23 : Tryd.prog.underlying 23 = some (.slice 34) := by kernel_rfl
theorem func : Tryd.prog.funcs[3]? = some Tryd.f3 := by kernel_rfl
set_option maxRecDepth 100000 in
theorem contract (H : Type) (enc : TypeId × Value → H) (W : World) (base : Nat) (args : Array Value) (ds gs : List (DataW H)) (before : List MemPlace)
    (hval : ∀ (j : Nat) t v, Tryd.f3.params[j]? = some t → args[j]? = some v → Value.okWide Tryd.prog W .any base t v)
    (hW : DataW.Whole enc Tryd.prog Tryd.f3.params.toList Rows.locksChecksSpec.vars false W args.toList ds gs before)
    (hwt : (DataW.weightsEach Tryd.prog (Tryd.f3.params.toList ++ Rows.locksChecksSpec.plain.varTypes Tryd.prog) (ds ++ gs)).all (· ≤ reachBytes) = true) (hL : laidMetH Tryd.prog Rows.locksChecksRow.laid W) :
    Calls Tryd.prog 3 args W fun e W' => ∃ v, e = .returned v ∧ Rows.locksChecksSpec.post enc Tryd.prog Tryd.f3 false true false false W args v W' := by
  have hW' := hW
  obtain ⟨p, q, hA0, hV, rfl, hfz, hnd⟩ := hW
  obtain ⟨rfl, rfl⟩ := trodVars_none hV
  have hlt := hW'.lt
  have hA := hA0
  rw [params] at hA hwt hval
  have hargs : args = args.toList.toArray := by simp
  generalize args.toList = vs at hA hargs
  subst hargs
  simp only [] at hA
  obtain ⟨v0, vs0, d0, ds0, p0, q0, rfl, rfl, rfl, h0, hA⟩ := trodAll_cons hA
  obtain ⟨v1, vs1, d1, ds1, p1, q1, rfl, rfl, rfl, h1, hA⟩ := trodAll_cons hA
  obtain ⟨rfl, rfl, rfl⟩ := trodAll_nil hA
  have hwt' := fun n hn => of_decide_eq_true (List.all_eq_true.1 hwt n hn)
  have k0 : Value.okWide Tryd.prog W .any base 22 v0 := hval 0 22 v0 (by simp) (by simp)
  have s0 := okWide_slice u22 k0
  obtain ⟨l0, A0, c0, rfl, r0, rl0, ok0⟩ := gate_row2 (α := SAct) u22 _ (by kernel_rfl) of_fits_SAct (by kernel_rfl) (by kernel_rfl) h0 (fun n hn => hwt' n (DataW.weights_mem_each (j := 0) (t := 22) (d := d0) (by simp) (by simp) n hn)) s0
  have k1 : Value.okWide Tryd.prog W .any base 23 v1 := hval 1 23 v1 (by simp) (by simp)
  obtain ⟨a1, n1, cc1, rfl⟩ := okWide_slice u23 k1
  obtain ⟨fu1, hu1⟩ := h1
  obtain ⟨l1, A1, c1, he1, rl1, r1, -, ok1⟩ := gate_rowD (α := SLocked) u23 (by kernel_rfl) (by kernel_rfl) hu1 (fun n hn => hwt' n (DataW.weights_mem_each (j := 1) (t := 23) (d := d1) (by simp) (by simp) n hn)) (fun m cs y hy _ hw => gate_SLocked m cs y hy hw)
  injection he1 with hA1 hN1 hC1; subst hA1; subst hN1; subst hC1
  have hG0 : Glob W 0 [.int .i64 (-9), .int .i64 0] := laid_glob (P := Tryd.prog) (laid := Rows.locksChecksRow.laid) (t := 39) (n := "punctual/punctuallaw.noAct") (d := Rows.laid_punctual_punctuallaw_noAct) (laidMetH_plain hL (by kernel_rfl)) 0 (by kernel_rfl) (by kernel_rfl) (by kernel_rfl) (by kernel_rfl) (by kernel_rfl)
  obtain ⟨K, hK⟩ := LocksChecks_law l0 l1 ok0 ok1
  refine (LocksChecks_ok K (Zof W) l0 A0 c0 l1 _ _ W (fun w k => k) r0 rl0 r1 rl1 hG0 true hK).mono fun e W' ⟨he, hS⟩ => ?_
  subst he
  have hb : Below W.heap.size W W' := hS.below
  refine ⟨_, rfl, _, _, _, [], _, [], hW', ?_, gate_args laidOut hb (by kernel_rfl) hA0 (fun x hx => hlt x (List.mem_append_left _ hx)), rfl, hb.frame _, fun h => by cases h⟩
  exact trodAll_mk1 (shut_bool u4 true)
noncomputable def laidWorld (os : Os) : World :=
  { World.holding Tryd.prog os ⟨#[], #[], []⟩ with heap := ((World.holding Tryd.prog os ⟨#[], #[], []⟩).heap.modify 0 fun
      | .cells _ t frozen => .cells #[.int .i64 (-9), .int .i64 0] t frozen
      | o => o) }
theorem laid_met (os : Os) : laidMet Tryd.prog Rows.locksChecksRow.laid ((laidWorld os).forCall (fun _ _ => 0) ⟨#[], #[.slice none 0 0, .slice none 0 0], []⟩).memory :=
  laidMet_of_run' 8 (by kernel_rfl) (by kernel_rfl)
theorem reads (os : Os) {H : Type} (enc : TypeId × Value → H) : ∃ places, DataW.whole enc Tryd.prog ((laidWorld os).forCall (fun _ _ => 0) ⟨#[], #[.slice none 0 0, .slice none 0 0], []⟩).memory Tryd.f3.params.toList Rows.locksChecksSpec.vars false (#[.slice none 0 0, .slice none 0 0] : Array Value).toList 8 = some ([.nil, .nil], [], places) :=
  ⟨[], by kernel_rfl⟩
set_option maxRecDepth 100000 in
theorem lifted (os : Os) (started : os.Started) (H : Type) (enc : TypeId × Value → H) (F : Stop.Interp) :
    ReturnsInHanded {} Tryd.checked os 3 .any ((OpenSpec.ofChange Rows.locksChecksSpec).preRow enc Tryd.prog Tryd.f3 Rows.locksChecksRow.domain false Rows.locksChecksRow.laid) (((OpenSpec.ofChange Rows.locksChecksSpec).at F).post enc Tryd.prog Tryd.f3 false true false false) := by
  obtain ⟨places, hx⟩ := reads os enc
  refine returnsInHanded_of_row (C := Tryd.checked) (s := OpenSpec.ofChange Rows.locksChecksSpec) own started (by kernel_rfl) func
    (witness_row_at (enc := enc) (C := Tryd.checked) false (laidWorld os) #[.slice none 0 0, .slice none 0 0] rfl (by kernel_rfl) (by kernel_rfl) (by kernel_rfl)
      (OpenSpec.preRow_of_cond 8 hx (by kernel_rfl) (fun k hk => by cases hk) (by kernel_rfl) (laid_met os))) ?_
  intro W base args ds gs before hval hW _ _ hwt hL _ _
  exact contract H enc W base args ds gs before hval hW hwt hL
theorem said : Rows.LocksChecksSaid :=
  OpenClaim.holds_of_cond 3 Tryd.f3 rfl rfl rfl rfl rfl rfl rfl ⟨rfl, rfl, rfl, rfl, rfl⟩ rfl rfl rfl rfl rfl (by kernel_rfl) func (by kernel_rfl)
    (of_decide_eq_true (by kernel_rfl)) (by unfold Func.isWrapper; first | (rw [if_pos (by decide +kernel)]; kernel_rfl) | (rw [if_neg (by decide +kernel)]; exact ⟨rfl, rfl⟩))
    (fun os started H enc _ F => by rw [OpenClaim.pre_eq_preRow]; exact lifted os started H enc F)
theorem plain (f : FuncId) (fn : Func) (hf : Tryd.pinned.checked.prog.funcNamed "punctual/punctuallaw.LocksChecks" = some f) (hfn : Tryd.pinned.checked.prog.funcs[f]? = some fn) :
    false = Tryd.pinned.checked.prog.looks [] ∧ ∀ (j : Nat) t, fn.params[j]? = some t → Tryd.pinned.checked.prog.wantsStandIn t = false := by
  obtain rfl : f = 3 := Option.some.inj ((show Tryd.prog.funcNamed "punctual/punctuallaw.LocksChecks" = some 3 by kernel_rfl).symm.trans hf) |>.symm
  obtain rfl : fn = Tryd.f3 := (Option.some.inj (func.symm.trans hfn)).symm
  refine ⟨by kernel_rfl, fun j t ht => ?_⟩
  have hall : (Tryd.f3.params.toList.all fun t => !Tryd.prog.wantsStandIn t) = true := by kernel_rfl
  have := List.all_eq_true.1 hall t (by simpa using Array.mem_of_getElem? ht)
  show Tryd.prog.wantsStandIn t = false
  simpa using this
theorem card : Rows.LocksChecksCardSaid :=
  Claim7.holds_tied_plain_at .later [] _ _ _ _ said (fun _ h => by cases h) (by kernel_rfl) (fun _ h => by cases h) locksChecks_row_tie rfl ⟨rfl, rfl⟩ (by kernel_rfl) rfl plain (by kernel_rfl)
end LocksChecksEnd
#print axioms LocksChecksEnd.card
end Go.Proofs.YtccfilmiboepjaaDoor.GV
