/- The walker's core, 40th part: calls that are put off. Written for this work. -/
import Derived.Test.YtcjphfmmmlgcbaaGv39
import Derived.Defers
namespace Go.Proofs.Ytcjphfmmmlgcbaa.GV
open Go Go.RowKit
set_option linter.unusedVariables false
set_option linter.unusedSimpArgs false
section
variable {P : Program} {n : Nat} {ops : Array Oper} {Q : Exit → Act → World → Prop} [D : Dfs]
/-- a call is put off -/
theorem ge_defer {i m : Nat} {d : Deferred} {e : Env} {rest : List (Nat × Nat)} {w : World} (hs : step1 P n ops e i [] = some (none, .defer d, [], [])) (k : ∀ D' : Dfs, D'.d = d :: D.d → @GE D' P n ops Q rest e w) : GE P n ops Q ((i, m + 2) :: rest) e w := by
  obtain ⟨o, ho, hd, hb, hr⟩ := step1_sound hs
  intro a hF
  obtain ⟨hw, hrun⟩ := hr a hF
  unfold wpG wpOp
  simp only [ho, hw, if_true]
  refine .inl ?_
  unfold Oper.wp
  rw [hrun w w rfl]
  simp only [Oper.upon, hd, Act.put]
  exact k ⟨d :: D.d⟩ rfl { a with defers := d :: a.defers } (@Frm.mk ⟨d :: D.d⟩ n { a with defers := d :: a.defers } e hF.size (congrArg (d :: ·) hF.defers) hF.get)
end
section
variable {P : Program} {n : Nat} {R : Ending → World → Prop}
theorem calls_enterD {f : FuncId} {fn : Func} {c : Code} {args : List Value} {w : World} (hf : P.funcs[f]? = some fn) (hb : fn.body = some c) (hn : fn.ntmps = n) (hl : Nat.ble args.length n = true)
    (h : @WE noDfs P n c (bodyPostD P fn R) (envOf args 0) w) : Calls P f args.toArray w R := by
  have hl' : args.length ≤ n := by simpa using hl
  refine calls_of_wp_defers hf hb (h _ ⟨?_, rfl, fun t v hv => ?_⟩)
  · simp [hn]; omega
  · obtain ⟨_, h2⟩ := envOf_get args 0 t v hv
    simp only [Nat.sub_zero] at h2
    have hlt : t < args.length := (List.getElem?_eq_some_iff.1 h2).1
    simp only []
    rw [Array.getElem?_append_left (by simpa using hlt)]
    simpa using h2
/-- the same function, put off -/
theorem callsD_enter {f : FuncId} {fn : Func} {c : Code} {args : List Value} {u : FrameMode} {w : World} (hf : P.funcs[f]? = some fn) (hb : fn.body = some c) (hn : fn.ntmps = n) (hl : Nat.ble args.length n = true)
    (h : @WE noDfs P n c (bodyPost P fn R) (envOf args 0) w) : CallsD P f args.toArray u w fun e u' w' => u' = u ∧ R e w' := by
  have hl' : args.length ≤ n := by simpa using hl
  refine callsD_of_wp hf hb (h _ ⟨?_, rfl, fun t v hv => ?_⟩)
  · simp [hn]; omega
  · obtain ⟨_, h2⟩ := envOf_get args 0 t v hv
    simp only [Nat.sub_zero] at h2
    have hlt : t < args.length := (List.getElem?_eq_some_iff.1 h2).1
    simp only []
    rw [Array.getElem?_append_left (by simpa using hlt)]
    simpa using h2
theorem results_run [Dfs] {fn : Func} {e : Env} {w : World} {a : Act} {rs : List ResultVar} {ans : List Ans} {vs : List Value} {l : List Did} (hr : fn.results.toList = rs) (h : resE P e rs ans = some (vs, l)) (hl : Loads l w) (hF : Frm n a e) : (results fn a.tmps).run P w = .ok (resV vs) w := by
  have hm := mapM_res hF rs h hl
  rw [results_eq, ← Array.toArray_toList (xs := fn.results), hr]
  simp only [List.mapM_toArray, Sem.run_bind, Sem.run_map, hm, Result.andThen_ok, Sem.run_pure]
  match vs with
  | [] => rfl
  | [v] => rfl
  | v :: u :: vs => simp [resV]
theorem post_retD {fn : Func} {e : Env} {w : World} {rs : List ResultVar} {ans : List Ans} {vs : List Value} {l : List Did} (hr : fn.results.toList = rs) (h : resE P e rs ans = some (vs, l)) (hl : Loads l w) (hR : R (.returned (resV vs)) w) :
    ∀ a, @Frm noDfs n a e → bodyPostD P fn R .ret a w := by
  intro a hF
  have hd : a.defers = [] := hF.defers
  show Leaves P fn a.tmps R a.defers .returning w
  rw [hd]
  exact ⟨_, results_run hr h hl hF, hR⟩
/-- one call that was put off, a closure's, and then the results -/
theorem leaves_one [D : Dfs] {f : FuncId} {caps : Array Value} {as : Array Value} {fn : Func} {e : Env} {w : World} {R' : Ending → World → Prop} {rs : List ResultVar} {ans : List Ans} {vs : List Value} {l : List Did} (hD : D.d = [⟨.fn (.func f) caps, as⟩]) (hr : fn.results.toList = rs) (h : resE P e rs ans = some (vs, l))
    (hi : (invoke (.fn (.func f) caps) as).run P w = .ok (.enter f (as ++ caps)) w) (hc : CallsD P f (as ++ caps) .returning w fun e' u' w' => u' = .returning ∧ R' e' w') (hk : ∀ e' w', R' e' w' → (∃ v, e' = .returned v) ∧ Loads l w' ∧ R (.returned (resV vs)) w') :
    ∀ a, Frm n a e → Leaves P fn a.tmps R a.defers .returning w := by
  intro a hF
  have hd : a.defers = [⟨.fn (.func f) caps, as⟩] := hF.defers.trans hD
  rw [hd]
  refine ⟨(by simp), .func f, caps, f, as ++ caps, rfl, hi, ?_⟩
  intro c cs hm
  obtain ⟨e', u', w', fr, ⟨hu, hR'⟩, hs, hk', hg⟩ := hc c cs hm
  obtain ⟨⟨v, rfl⟩, hl, hRR⟩ := hk e' w' hR'
  subst hu
  exact ⟨.returned v, .returning, w', fr, (show Leaves P fn a.tmps R [] .returning w' from ⟨_, results_run hr h hl hF, hRR⟩), hs, hk', hg⟩
theorem post_retL [D : Dfs] {f : FuncId} {caps : Array Value} {as : Array Value} {fn : Func} {e : Env} {w : World} {R' : Ending → World → Prop} {rs : List ResultVar} {ans : List Ans} {vs : List Value} {l : List Did} (hD : D.d = [⟨.fn (.func f) caps, as⟩]) (hr : fn.results.toList = rs) (h : resE P e rs ans = some (vs, l))
    (hi : (invoke (.fn (.func f) caps) as).run P w = .ok (.enter f (as ++ caps)) w) (hc : CallsD P f (as ++ caps) .returning w fun e' u' w' => u' = .returning ∧ R' e' w') (hk : ∀ e' w', R' e' w' → (∃ v, e' = .returned v) ∧ Loads l w' ∧ R (.returned (resV vs)) w') :
    ∀ a, Frm n a e → bodyPostD P fn R .ret a w := leaves_one hD hr h hi hc hk
/-- out of a piece of code, with calls that were put off -/
def RetsD {X : Type} (P : Program) (fn : Func) (Post : X → Ending → World → Prop) (r : X) (x : Exit) (a : Act) (w : World) : Prop := x = .ret ∧ bodyPostD P fn (Post r) .ret a w
end
/-- arrays of bools that are stored into by place -/
def arrLB : Nat → Nat → List Bool → List Bool
  | 0, _, _ => []
  | n + 1, k, a => (a[k]?).getD false :: arrLB n (k + 1) a
def arrB (n : Nat) (a : List Bool) : List Bool := arrLB n 0 a
theorem arrLB_length : ∀ (n k : Nat) (a : List Bool), (arrLB n k a).length = n
  | 0, _, _ => rfl
  | n + 1, k, a => by simp [arrLB, arrLB_length n (k + 1) a]
theorem arrLB_get : ∀ (n k : Nat) (a : List Bool) (j : Nat), j < n → (arrLB n k a)[j]? = some ((a[k + j]?).getD false)
  | 0, _, _, _, h => absurd h (Nat.not_lt_zero _)
  | n + 1, k, a, 0, _ => rfl
  | n + 1, k, a, j + 1, h => by
    simp only [arrLB, List.getElem?_cons_succ]
    rw [arrLB_get n (k + 1) a j (by omega)]
    congr 3; omega
theorem arrB_eq {n : Nat} {a : List Bool} (h : a.length = n) : arrB n a = a := by
  apply List.ext_getElem?
  intro j
  have hl : (arrB n a).length = n := arrLB_length n 0 a
  by_cases hj : j < n
  · have h0 : (arrB n a)[j]? = some ((a[j]?).getD false) := by
      have := arrLB_get n 0 a j hj
      simpa [arrB] using this
    rw [h0, List.getElem?_eq_getElem (by omega)]; rfl
  · rw [List.getElem?_eq_none (by omega), List.getElem?_eq_none (by omega)]
theorem cells_setB {pre post : List Value} {l : List Bool} {k : Nat} {v : Bool} (hk : k < l.length) : ((pre ++ (cellsOf l ++ post)).toArray).setIfInBounds (pre.length + k) (.bool v) = (pre ++ (cellsOf (l.set k v) ++ post)).toArray := by
  have e1 : ∀ l : List Bool, cellsOf l = l.map (fun x => (.bool x : Value)) := by
    intro l
    induction l with
    | nil => rfl
    | cons x r ih =>
      have h0 : cellsOf (x :: r) = Flat.cells x ++ cellsOf r := rfl
      rw [h0, ih]; rfl
  rw [e1, e1, List.map_set, List.setIfInBounds_toArray, List.set_append_right _ _ (by omega), Nat.add_sub_cancel_left, List.set_append_left _ _ (by simpa using hk)]
section
variable {P : Program} {n : Nat} {ops : Array Oper} {Q : Exit → Act → World → Prop} [Dfs]
theorem ge_setB {i m b off jn nn : Nat} {t : TypeId} {pre post : List Value} {l : List Bool} {u v : Bool} {cs : Array Value} {e : Env} {rest : List (Nat × Nat)} {w0 w : World} {L : List Own} (hS : St w0 w (Own.blk b (.cells cs t (0, 0)) :: L))
    (hs : step1 P n ops e i [] = some (none, .skip, didStores b (off + jn * 1) [.bool v], [])) (hc : cs = (pre ++ (cellsOf l ++ post)).toArray) (hp : pre.length = off) (hl : l.length = nn) (hx : l[jn]? = some u)
    (k : ∀ w1, St w0 w1 (Own.blk b (.cells (pre ++ (cellsOf (arrB nn (l.set jn v)) ++ post)).toArray t (0, 0)) :: L) → GE P n ops Q rest e w1) : GE P n ops Q ((i, m + 2) :: rest) e w := by
  have hlt := lt_of_get hx
  have hsz : cs.size = pre.length + (l.length + post.length) := by
    have h1 : Flat.sz Bool = 1 := rfl
    rw [hc]; simp [cellsOf_length, h1]
  refine ge_store (d := none) hs (goes_stores [.bool v] (off + jn * 1) hS (by simp only [List.length_cons, List.length_nil]; omega) rfl) (k _ ?_)
  have h := hS.sets [.bool v] (off + jn * 1)
  simp only [setArr, setCells] at h ⊢
  rw [arrB_eq (by simpa using hl), ← cells_setB hlt, ← hc, hp]
  rw [Nat.mul_one] at h ⊢
  exact h
end
end Go.Proofs.Ytcjphfmmmlgcbaa.GV
