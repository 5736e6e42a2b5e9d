/- The walker's core, tenth part: values that don't look at the world, in regions of several orders. Written for this work (statements by program from the third, fourth and seventh part). -/
import Derived.Test.YtlipdmblinjjaaaGD9
namespace Go.Proofs.Ytlipdmblinjjaaa.GV.D
open Go Go.RowKit
set_option linter.unusedVariables false
set_option linter.unusedSimpArgs false
section
variable {P : Program} {n : Nat} {ops : Array Oper} {S : List Addr} {Q : Exit → Act → World → Prop}
theorem go_pv {i d : Nat} {op : Op} {ty : TypeId} {v : Value} {e : Env} {r : Ord} {w : World} (h : opAt n ops e i = some (d, op, ty))
    (hv : ∀ o w', o.op = op → o.type = ty → (execOp e.evD o).run P w' = .ok (.value v) w') (k : GO P n ops S Q r ((d, v) :: e) w) : GO P n ops S Q (.vals [i] r) e w := by
  obtain ⟨o, ho, hd, hdn, hw, hp, hk, hop, hty⟩ := opAt_sound h
  intro a hF
  refine ⟨v, ⟨o, ho, .inl ⟨wantE_sound hF hw, fun w' hx => ?_⟩⟩, ?_⟩
  · rw [execOp_env hF hp hk]; exact hv o w' hop hty
  · have hdst : dstOf ops i = some d := by simp [dstOf, ho, hd]
    rw [hdst]; exact k _ (hF.put hdn _)
theorem go_nest {r : Ord} : ∀ (l : List Nat) {e : Env} {w : World}, GO P n ops S Q (.vals l r) e w → GO P n ops S Q (nestV l r) e w := by
  intro l e w h a hF
  have key : ∀ (l : List Nat) (a : Act) (w : World), valsR P ops S (wpO P ops S Q r) l a w → wpO P ops S Q (nestV l r) a w := by
    intro l
    induction l with
    | nil => intro a w h; exact h
    | cons i l ih =>
      intro a w h
      obtain ⟨v, hy, h⟩ := h
      exact ⟨v, hy, ih _ _ h⟩
  exact key l a w (h a hF)
theorem go_batch {r : Ord} (is : List Nat) {ans : List Ans} {e : Env} {vs : Env} {l : List Did} {w : World} (hb : batch P n ops is e ans = some (vs ++ e, l)) (hl : Loads l w) (hs : ∀ a ∈ didAddrs l, a ∈ S)
    (k : GO P n ops S Q r (vs ++ e) w) : GO P n ops S Q (nestV is r) e w := go_nest is (go_vals is hb hl hs k)
theorem go_same {t : Nat} {v v' : Value} {e : Env} {r : Ord} {w : World} (he : e.get t = some v) (h : v = v') (k : GO P n ops S Q r ((t, v') :: e) w) : GO P n ops S Q r e w := by
  subst h
  intro a hF
  refine k a ⟨hF.size, hF.defers, fun s u hs => ?_⟩
  simp only [Env.get] at hs
  cases hb : Nat.beq t s with
  | true =>
    rw [hb] at hs
    have : t = s := Nat.eq_of_beq_eq_true hb
    subst this
    simp only [Option.some.injEq] at hs
    subst hs
    exact hF.get t _ he
  | false => rw [hb] at hs; exact hF.get s u hs
theorem go_known {t : Nat} {b c : Bool} {e : Env} {r : Ord} {w : World} (he : e.get t = some (.bool b)) (h : b = c) (k : GO P n ops S Q r ((t, .bool c) :: e) w) : GO P n ops S Q r e w :=
  go_same he (by rw [h]) k
theorem go_index {i d t el sz m c : Nat} {x y : Operand} {ty : TypeId} {A : Option Addr} {k' : IntKind} {j : Int} {jn b0 o0 : Nat} {e : Env} {r0 : Ord} {w : World} (h : opAt n ops e i = some (d, .indexAddr t x y, ty))
    (hx : e.ev x = some (.slice A m c)) (hy : e.ev y = some (.int k' j)) (ht : P.underlying t = some (.slice el)) (hs : (P.info? el).map (·.size) = some sz) (hA : A = some ⟨b0, o0, none⟩) (hj : j = (jn : Int)) (hm : jn < m)
    (k : GO P n ops S Q r0 ((d, .pointer (some ⟨b0, o0 + jn * sz, none⟩)) :: e) w) : GO P n ops S Q (.vals [i] r0) e w := by
  refine go_pv h (fun o w' hop hty => ?_) k
  subst hA
  subst hj
  obtain ⟨inf, hi, hsz⟩ := Option.map_eq_some_iff.1 hs
  have h1 : (Instr.indexAt t (.slice (some ⟨b0, o0, none⟩) m c) (.int k' (jn : Int))).run P w' = .ok (.pointer (some (Addr.add ⟨b0, o0, none⟩ (jn * sz)))) w' := by
    have hlt : (jn : Int) < (m : Int) := by omega
    have hu : (underlying t).run P w' = .ok (.slice el) w' := by simp [underlying, ht]
    have hz : (sizeOf el).run P w' = .ok sz w' := by simp [sizeOf, typeInfo, hi, hsz]
    simp [Instr.indexAt, asIntOf, hu, hz]
    intro hh; omega
  have h2 : Addr.add ⟨b0, o0, none⟩ (jn * sz) = ⟨b0, o0 + jn * sz, none⟩ := by
    unfold Addr.add; split <;> simp_all
  simp only [execOp, hop, Env.evD, hx, hy, Option.getD_some, Sem.run_bind, h1, h2, Result.andThen_ok, Sem.run_pure]
theorem go_addn {i d m : Nat} {t t2 ty : TypeId} {x y : Operand} {k : IntKind} {e : Env} {r0 : Ord} {w : World} (h : opAt n ops e i = some (d, .binOp .add t x y t2, ty))
    (hx : e.ev x = some (.int .i64 (m : Int))) (hy : e.ev y = some (.int .i64 1)) (hm : m + 1 ≤ 9223372036854775807) (kk : GO P n ops S Q r0 ((d, .int .i64 ((m + 1 : Nat) : Int)) :: e) w) : GO P n ops S Q (.vals [i] r0) e w := by
  refine go_pv h (fun o w' hop hty => ?_) kk
  have hw : IntKind.i64.wrap ((m : Int) + 1) = ((m + 1 : Nat) : Int) := by rw [IntKind.wrap_i64]; omega
  simp only [execOp, hop, Env.evD, hx, hy, Option.getD_some, Sem.run_bind, eqGuard_add, Sem.run_pure, Result.andThen_ok, binOp_add, Op.intArith, hw]
theorem go_div {i d : Nat} {t t2 ty : TypeId} {op : BinOp} {x y : Operand} {k : IntKind} {p q : Int} {v : Value} {e : Env} {r0 : Ord} {w : World} (h : opAt n ops e i = some (d, .binOp op t x y t2, ty))
    (hx : e.ev x = some (.int k p)) (hy : e.ev y = some (.int k q)) (hq : ¬ q = 0) (hv : (match op with | .quo => some (.int k (k.wrap (p.tdiv q))) | .rem => some (.int k (p.tmod q)) | _ => none) = some v)
    (kk : GO P n ops S Q r0 ((d, v) :: e) w) : GO P n ops S Q (.vals [i] r0) e w := by
  refine go_pv h (fun o w' hop hty => ?_) kk
  cases op <;> simp only [Option.some.injEq] at hv <;> first | (cases hv; done) | skip
  · subst hv; simp [execOp, hop, Env.evD, hx, hy, eqGuard_quo, binOp_quo, Op.intDiv, hq]
  · subst hv; simp [execOp, hop, Env.evD, hx, hy, eqGuard_rem, binOp_rem, Op.intDiv, hq]
theorem go_eqs {i d : Nat} {t t2 ty : TypeId} {op : BinOp} {x y : Operand} {xs ys : Array Value} {r : Bool} {v : Bool} {e : Env} {r0 : Ord} {w : World} (h : opAt n ops e i = some (d, .binOp op t x y t2, ty))
    (hx : e.ev x = some (.agg xs)) (hy : e.ev y = some (.agg ys)) (hg : P.eqGuardType P.depth t = false) (hr : eqB P 10000 t (.agg xs) (.agg ys) = some r) (hv : (match op with | .eql => some r | .neq => some (!r) | _ => none) = some v)
    (kk : GO P n ops S Q r0 ((d, .bool v) :: e) w) : GO P n ops S Q (.vals [i] r0) e w := by
  refine go_pv h (fun o w' hop hty => ?_) kk
  have hrun := run_of_eqB (P := P) 10000 t _ _ r w' hr
  cases op <;> simp only [Option.some.injEq] at hv <;> first | (cases hv; done) | skip
  · subst hv
    have h2 : (binOp .eql t (.agg xs) (.agg ys)).run P w' = .ok (.bool r) w' := by rw [run_eql_struct, hrun]; rfl
    simp only [execOp, hop, Env.evD, hx, hy, Option.getD_some, Sem.run_bind, run_eqGuard_agg w' .eql t x y xs ys hg, h2, Result.andThen_ok, Sem.run_pure]
  · subst hv
    have h2 : (binOp .neq t (.agg xs) (.agg ys)).run P w' = .ok (.bool (!r)) w' := by rw [run_neq_struct, hrun]; rfl
    simp only [execOp, hop, Env.evD, hx, hy, Option.getD_some, Sem.run_bind, run_eqGuard_agg w' .neq t x y xs ys hg, h2, Result.andThen_ok, Sem.run_pure]
theorem go_sliceHi {i d t el sz m c hn : Nat} {x y : Operand} {ty : TypeId} {A : Option Addr} {k' : IntKind} {hi : Int} {e : Env} {r0 : Ord} {w : World} (h : opAt n ops e i = some (d, .slice t x none (some y) none, ty))
    (hx : e.ev x = some (.slice A m c)) (hy : e.ev y = some (.int k' hi)) (hh : hi = (hn : Int)) (ht : P.underlying t = some (.slice el)) (hs : (P.info? el).map (·.size) = some sz) (hle : hn ≤ c)
    (k : GO P n ops S Q r0 ((d, .slice A hn c) :: e) w) : GO P n ops S Q (.vals [i] r0) e w := by
  refine go_pv h (fun o w' hop hty => ?_) k
  subst hh
  obtain ⟨inf, hi, hsz⟩ := Option.map_eq_some_iff.1 hs
  have hu : (underlying t).run P w' = .ok (.slice el) w' := by simp [underlying, ht]
  have hz : (sizeOf el).run P w' = .ok sz w' := by simp [sizeOf, typeInfo, hi, hsz]
  have hle' : (hn : Int) ≤ (c : Int) := by omega
  have hA : (if c = 0 then A else A.map (·.add (0 * sz))) = A := by
    split
    · rfl
    · rw [Nat.zero_mul]; cases A <;> rfl
  have h1 : (Instr.sliceAt t (.slice A m c) none (some (.int k' (hn : Int))) none).run P w' = .ok (.slice A hn c) w' := by
    rw [Nat.zero_mul] at hA
    simp [Instr.sliceAt, Instr.slice, Instr.sliceBounds, Instr.sliceBound, asIntOf, hu, hz, hle, hA]
  simp only [execOp, hop, Env.evD, hx, hy, Option.getD_some, Option.map_some, Option.map_none, Sem.run_bind, h1, Result.andThen_ok, Sem.run_pure]
end
end Go.Proofs.Ytlipdmblinjjaaa.GV.D
