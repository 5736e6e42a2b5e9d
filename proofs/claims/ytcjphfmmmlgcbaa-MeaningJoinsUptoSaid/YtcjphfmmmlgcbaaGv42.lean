/- The walker's core, 42nd part: panics. Written for this work. -/
import Derived.Test.YtcjphfmmmlgcbaaGv40
import Derived.Test.YtcjphfmmmlgcbaaGv41
import Derived.WalkSmall
import Derived.Recover
namespace Go.Proofs.Ytcjphfmmmlgcbaa.GV
open Go Go.RowKit
set_option linter.unusedVariables false
set_option linter.unusedSimpArgs false
section
variable {P : Program} {n : Nat} {ops : Array Oper} {Q : Exit → Act → World → Prop} [Dfs]
/-- a panic of the text's own, its value an interface's -/
theorem ge_panic {i m : Nat} {o : Oper} {x : Operand} {t : TypeId} {v : Value} {e : Env} {rest : List (Nat × Nat)} {w : World} (ho : ops[i]? = some o) (hop : o.op = .panic x) (hw : wantE ops e o = some true) (hx : e.ev x = some (.iface t v))
    (k : ∀ a, Frm n a e → Q (.panic [{ v := .iface t v, recovered := false }]) a w) : GE P n ops Q ((i, m + 2) :: rest) e w := by
  intro a hF
  unfold wpG wpOp
  simp only [ho, wantE_sound hF hw, if_true]
  refine .inl ?_
  have hr : (execOp a.eval o).run P w = .halt (.panic (.iface t v)) w := by
    unfold execOp
    rw [hop]
    show (do let y ← Instr.panic (a.eval x); pure (Next.value y) : Sem Next).run P w = _
    rw [hF.ev hx, Sem.run_bind, run_panic_iface]
    rfl
  unfold Oper.wp
  rw [hr]
  exact k a hF
/-- a call of what may panic -/
theorem ge_callP {i m : Nat} {d : Option Nat} {f : FuncId} {args : Array Value} {e : Env} {rest : List (Nat × Nat)} {w : World} {R : Ending → World → Prop} (hs : step1 P n ops e i [] = some (d, .enter f args, [], [])) (hc : Calls P f args w R)
    (k : ∀ r w', R r w' → (∃ v, r = .returned v ∧ GE P n ops Q rest (putE d v e) w') ∨ ∃ c, r = .panicked c ∧ ∀ a, Frm n a e → Q (.panic c) a w') : GE P n ops Q ((i, m + 2) :: rest) e w := by
  obtain ⟨o, ho, hd, hb, hr⟩ := step1_sound hs
  intro a hF
  obtain ⟨hw, hrun⟩ := hr a hF
  unfold wpG wpOp
  simp only [ho, hw, if_true]
  refine .inl ?_
  unfold Oper.wp
  rw [hrun w w rfl]
  simp only [Oper.upon]
  refine hc.mono fun r w' hR => ?_
  rcases k r w' hR with ⟨v, rfl, k⟩ | ⟨c, rfl, k⟩
  · rw [hd]; exact k _ (hF.putE hb v)
  · exact k a hF
end
/-- out of a piece of code by a return or by a panic -/
def RetsP {R : Type} (P : Program) (fn : Func) (Post : R → Ending → World → Prop) (r : R) (x : Exit) (a : Act) (w : World) : Prop := (x = .ret ∨ ∃ c, x = .panic c) ∧ bodyPost P fn (Post r) x a w
theorem post_panic {n : Nat} {P : Program} {fn : Func} {e : Env} {w : World} {R : Ending → World → Prop} {c : List PanicEntry} (hR : R (.panicked c) w) : ∀ a, @Frm noDfs n a e → bodyPost P fn R (.panic c) a w := fun a hF => ⟨hF.defers, hR⟩
/-- what recover gives: in a frame that returns nothing, in one that panics the value -/
def recMode : FrameMode → Value × FrameMode
  | .panicking ({ v, recovered := false, goexit := false } :: older) => (v, .panicking ({ v, recovered := true } :: older))
  | u => (.nilIface, u)
/-- a panic, and one call that was put off which recovers; then the results -/
theorem leaves_rec {P : Program} {n : Nat} {R : Ending → World → Prop} [D : Dfs] {f : FuncId} {caps : Array Value} {as : Array Value} {fn : Func} {e : Env} {w : World} {R' : Ending → World → Prop} {rs : List ResultVar} {c : List PanicEntry} (hD : D.d = [⟨.fn (.func f) caps, as⟩]) (hr : fn.results.toList = rs)
    (hi : (invoke (.fn (.func f) caps) as).run P w = .ok (.enter f (as ++ caps)) w) (hc : CallsD P f (as ++ caps) (.panicking c) w fun e' u' w' => settle u' = .returning ∧ R' e' w') (hk : ∀ e' w', R' e' w' → (∃ v, e' = .returned v) ∧ ∃ ans vs l, resE P e rs ans = some (vs, l) ∧ Loads l w' ∧ R (.returned (resV vs)) w') :
    ∀ a, Frm n a e → bodyPostD P fn R (.panic c) a w := by
  intro a hF
  have hd : a.defers = [⟨.fn (.func f) caps, as⟩] := hF.defers.trans hD
  show Leaves P fn a.tmps R a.defers (.panicking c) w
  rw [hd]
  refine ⟨(by simp), .func f, caps, f, as ++ caps, rfl, hi, ?_⟩
  intro c0 cs hm
  obtain ⟨e', u', w', fr, ⟨hu, hR'⟩, hs, hk', hg⟩ := hc c0 cs hm
  obtain ⟨⟨v, rfl⟩, ans, vs, l, h, hl, hRR⟩ := hk e' w' hR'
  refine ⟨.returned v, u', w', fr, ?_, hs, hk', hg⟩
  show Leaves P fn a.tmps R [] (settle u') w'
  rw [hu]
  exact ⟨_, results_run hr h hl hF, hRR⟩
theorem recoverD_mode (c : Frame) (cs : List Frame) : (match recoverD (c :: cs) with | some (v, cs') => (v, cs') | none => (.nilIface, c :: cs)) = ((recMode c.mode).1, { c with mode := (recMode c.mode).2 } :: cs) := by
  obtain ⟨f, tmps, todo, defers, mode, kind, ro⟩ := c
  cases mode with
  | run => rfl
  | returning => rfl
  | panicking ch =>
    rcases ch with _ | ⟨⟨v, r, g⟩, older⟩
    · rfl
    · cases r <;> cases g <;> rfl
/-- a closure that begins with x := recover(), put off -/
theorem callsD_rec {P : Program} {n : Nat} {f : FuncId} {fn : Func} {id : Nat} {ops : Array Oper} {o0 o1 : Oper} {t0 t1 : Nat} {rest : Code} {args : List Value} {u : FrameMode} {w : World} {R : Ending → World → Prop}
    (hf : P.funcs[f]? = some fn) (hb : fn.body = some (.seq (.region id ops false) rest)) (hn : fn.ntmps = n) (hl : Nat.ble args.length n = true) (hops : ops = #[o0, o1])
    (hr0 : ∀ (ρ : Operand → Value) (w : World), (execOp ρ o0).run P w = .ok .recover w) (hg0 : o0.guard = none) (hd0 : o0.dst = some t0) (ho1 : o1.op = .assign (.tmp t0)) (hg1 : o1.guard = none) (hd1 : o1.dst = some t1) (ht0 : Nat.blt t0 n = true) (ht1 : Nat.blt t1 n = true)
    (h : @WE noDfs P n rest (bodyPost P fn R) ((t1, (recMode u).1) :: (t0, (recMode u).1) :: envOf args 0) w) : CallsD P f args.toArray u w fun e u' w' => u' = (recMode u).2 ∧ R e w' := by
  subst hops
  have hl' : args.length ≤ n := by simpa using hl
  refine callsD_of_wpS hf hb fun c₀ cs hu => wpS_seq (wpS_region ?_)
  have hF0 : @Frm noDfs n { tmps := args.toArray ++ Array.replicate (fn.ntmps - args.toArray.size) undef, defers := [] } (envOf args 0) := ⟨by simp [hn]; omega, rfl, fun t v hv => by
    obtain ⟨_, h2⟩ := envOf_get args 0 t v hv
    simp only [Nat.sub_zero] at h2
    have hlt : t < args.length := (List.getElem?_eq_some_iff.1 h2).1
    simp only []
    rw [Array.getElem?_append_left (by simpa using hlt)]
    simpa using h2⟩
  generalize ({ tmps := args.toArray ++ Array.replicate (fn.ntmps - args.toArray.size) undef, defers := [] } : Act) = a0 at hF0
  have hF1 := @Frm.put noDfs _ _ _ hF0 _ ht0 (recMode u).1
  have hF2 := @Frm.put noDfs _ _ _ hF1 _ ht1 (recMode u).1
  have hrest := h _ hF2
  have w0 : ∀ a : Act, Region.wanted o0 (yielded #[o0, o1] a.tmps) = true := fun a => by simp [Region.wanted, hg0]
  have w1 : ∀ a : Act, Region.wanted o1 (yielded #[o0, o1] a.tmps) = true := fun a => by simp [Region.wanted, hg1]
  have hr1 : (execOp (a0.put (some t0) (recMode u).1).eval o1).run P w = .ok (.value (recMode u).1) w := by
    unfold execOp
    rw [ho1]
    have he : (a0.put (some t0) (recMode u).1).eval (.tmp t0) = (recMode u).1 := @Frm.ev noDfs _ _ _ hF1 (.tmp t0) _ (by simp [Env.ev, Env.get])
    show (pure (Next.value ((a0.put (some t0) (recMode u).1).eval (.tmp t0))) : Sem Next).run P w = _
    rw [he]; rfl
  have key : wpOpsS P #[o0, o1] (Exit.thenS (rest.wpS P (bodyPostS P fn c₀ cs fun e u' w' => u' = (recMode u).2 ∧ R e w')) (bodyPostS P fn c₀ cs fun e u' w' => u' = (recMode u).2 ∧ R e w')) [1] (a0.put (some t0) (recMode u).1) ({ c₀ with mode := (recMode u).2 } :: cs) w := by
    unfold wpOpsS
    simp only [show (#[o0, o1] : Array Oper)[1]? = some o1 from rfl, w1, if_true, hr1, Oper.upon, hd1]
    unfold wpOpsS
    show rest.wpS P _ _ _ w
    refine wpS_of_wp (wp_mono hrest fun x a w' hx => ?_)
    cases x with
    | normal => obtain ⟨hd, v, hv, hR⟩ := hx; exact ⟨hd, _, rfl, v, hv, rfl, hR⟩
    | ret => obtain ⟨hd, v, hv, hR⟩ := hx; exact ⟨hd, _, rfl, v, hv, rfl, hR⟩
    | panic c => obtain ⟨hd, hR⟩ := hx; exact ⟨hd, _, rfl, rfl, hR⟩
    | outgrown => exact ⟨_, rfl, hx⟩
    | exit id => exact hx.elim
    | goto l => exact hx.elim
  have hm := recoverD_mode c₀ cs
  rw [hu] at hm
  show wpOpsS P #[o0, o1] _ [0, 1] a0 (c₀ :: cs) w
  unfold wpOpsS
  simp only [show (#[o0, o1] : Array Oper)[0]? = some o0 from rfl, w0, if_true, hr0, hd0]
  cases hrec : recoverD (c₀ :: cs) with
  | none =>
    rw [hrec] at hm
    obtain ⟨e1, e2⟩ := Prod.mk.inj hm
    simp only
    rw [e1, e2]; exact key
  | some y =>
    rw [hrec] at hm
    obtain ⟨v, cs'⟩ := y
    obtain ⟨e1, e2⟩ := Prod.mk.inj hm
    simp only
    rw [e1, e2]; exact key
section
variable {P : Program} {ops : Array Oper} {Q : Exit → Act → World → Prop}
theorem we_orders3P [Dfs] {n : Nat} {id : Nat} {e : Env} {w : World} (hm : P.follows .mixedOrders = true) (al : List Al) (o : Ord) (hal : alOk ops al = true) (hc : canonAllO ops o = true) (hQ : ∀ c a w d v, Q (.panic c) (a.put d v) w → Q (.panic c) a w) (h : GO3 P n ops al Q o e w.drew) : WE P n (.region id ops true) Q e w :=
  fun a hF => wp_region_orders3P hm hQ al o hal hc (h a hF)
theorem post_put {fn : Func} {R : Ending → World → Prop} {c : List PanicEntry} {a : Act} {w : World} {d : Option Nat} {v : Value} (h : bodyPost P fn R (.panic c) (a.put d v) w) : bodyPost P fn R (.panic c) a w := by
  cases d <;> exact h
end
/-- the same, the value and the mode spelled out -/
theorem callsD_recS {P : Program} {n : Nat} {f : FuncId} {fn : Func} {id : Nat} {ops : Array Oper} {o0 o1 : Oper} {t0 t1 : Nat} {rest : Code} {args : List Value} {u : FrameMode} {w : World} {R : Ending → World → Prop} {U : FrameMode → Prop} {v : Value}
    (hf : P.funcs[f]? = some fn) (hb : fn.body = some (.seq (.region id ops false) rest)) (hn : fn.ntmps = n) (hl : Nat.ble args.length n = true) (hops : ops = #[o0, o1])
    (hr0 : ∀ (ρ : Operand → Value) (w : World), (execOp ρ o0).run P w = .ok .recover w) (hg0 : o0.guard = none) (hd0 : o0.dst = some t0) (ho1 : o1.op = .assign (.tmp t0)) (hg1 : o1.guard = none) (hd1 : o1.dst = some t1) (ht0 : Nat.blt t0 n = true) (ht1 : Nat.blt t1 n = true)
    (hv : (recMode u).1 = v) (hU : ∀ u', u' = (recMode u).2 → U u')
    (h : @WE noDfs P n rest (bodyPost P fn R) ((t1, v) :: (t0, v) :: envOf args 0) w) : CallsD P f args.toArray u w fun e u' w' => U u' ∧ R e w' := by
  subst hv
  intro c cs hm
  obtain ⟨e', u', w', fr, ⟨hu, hR'⟩, hs⟩ := callsD_rec hf hb hn hl hops hr0 hg0 hd0 ho1 hg1 hd1 ht0 ht1 h c cs hm
  exact ⟨e', u', w', fr, ⟨hU _ hu, hR'⟩, hs⟩
end Go.Proofs.Ytcjphfmmmlgcbaa.GV
