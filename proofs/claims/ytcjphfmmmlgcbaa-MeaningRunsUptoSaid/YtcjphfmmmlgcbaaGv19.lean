/- The walker's core, nineteenth part: maps that are owned. Written for this work. -/
import Derived.Test.YtcjphfmmmlgcbaaGv18
namespace Go.Proofs.Ytcjphfmmmlgcbaa.GV
open Go Go.RowKit
set_option linter.unusedVariables false
set_option linter.unusedSimpArgs false
/-- keys of maps -/
class MKey (κ : Type) where
  dec : DecidableEq κ
  enc : κ → Value
  kind : TypeDesc
  same : ∀ a b, Instr.sameNow kind (enc a) (enc b) = some (decide (a = b))
  bits : ∀ a, Instr.sameBits 10000 (enc a) (enc a) = true
  chk : ∀ (P : Program) (w : World) (t : TypeId) (e : Bool) (a : κ), P.underlying t = some kind → (Instr.checkKey e 10000 t (enc a)).run P w = .ok () w
instance (κ : Type) [h : MKey κ] : DecidableEq κ := h.dec
instance : MKey Int where
  dec := inferInstance
  enc x := .int .i64 x
  kind := .int .i64
  same a b := by simp [Instr.sameNow]; rfl
  bits a := by simp [Instr.sameBits]
  chk P w t e a h := by
    unfold Instr.checkKey
    simp [underlying, h]
def mget {κ ν : Type} [DecidableEq κ] : List (κ × ν) → κ → Option ν
  | [], _ => none
  | (a, b) :: r, k => if k = a then some b else mget r k
def mset {κ ν : Type} [DecidableEq κ] : List (κ × ν) → κ → ν → List (κ × ν)
  | [], k, v => [(k, v)]
  | (a, b) :: r, k, v => if k = a then (k, v) :: r else (a, b) :: mset r k v
def entOf {κ ν : Type} [MKey κ] [Flat ν] (e : κ × ν) : Value × Option Value := (MKey.enc e.1, (Flat.cells e.2)[0]?)
def Own.map {κ ν : Type} [MKey κ] [Flat ν] (b : Nat) (m : List (κ × ν)) : Own :=
  ⟨[b], fun h => ∃ es clock, h b = some (.map es clock) ∧ es.toList.map (fun e => (e.key, some e.val)) = m.map entOf, fun h h' k ⟨es, c, h1, h2⟩ => ⟨es, c, (k b (by simp)).trans h1, h2⟩⟩
theorem findNow_eq {κ ν : Type} [MKey κ] [Flat ν] (k : κ) : ∀ (es : List MapEntry) (m : List (κ × ν)) (i : Nat), es.map (fun e => (e.key, some e.val)) = m.map entOf →
    (mget m k = none ∧ Instr.findNow (MKey.kind κ) (MKey.enc k) es i = some none) ∨ (∃ v j val, mget m k = some v ∧ (Flat.cells v)[0]? = some val ∧ Instr.findNow (MKey.kind κ) (MKey.enc k) es i = some (some (i + j, val)) ∧ j < es.length ∧
      (∀ v', mset m k v' = m.set j (k, v')) ∧ (es[j]?).map (·.key) = some (MKey.enc k))
  | [], [], i, _ => .inl ⟨rfl, rfl⟩
  | [], _ :: _, _, h => by simp at h
  | _ :: _, [], _, h => by simp at h
  | e :: es, (a, b) :: m, i, h => by
    simp only [List.map_cons, List.cons.injEq, entOf, Prod.mk.injEq] at h
    obtain ⟨⟨h1, h2⟩, h3⟩ := h
    by_cases hk : k = a
    · subst hk
      right
      refine ⟨b, 0, e.val, by simp [mget], h2.symm, ?_, by simp, fun v' => by simp [mset], by simp [h1]⟩
      simp only [Instr.findNow, h1, MKey.same, decide_true, Nat.add_zero]
    · rcases findNow_eq k es m (i + 1) h3 with ⟨g1, g2⟩ | ⟨v, j, val, g1, g2, g3, g4, g5, g6⟩
      · left
        refine ⟨by simp [mget, hk, g1], ?_⟩
        simp only [Instr.findNow, h1, MKey.same, hk, decide_false, g2]
      · right
        refine ⟨v, j + 1, val, by simp [mget, hk, g1], g2, ?_, by simp; omega, fun v' => by simp [mset, hk, g5], by simpa using g6⟩
        simp only [Instr.findNow, h1, MKey.same, hk, decide_false, g3]
        congr 3; omega
theorem mset_none {κ ν : Type} [DecidableEq κ] {k : κ} : ∀ {m : List (κ × ν)}, mget m k = none → ∀ v, mset m k v = m ++ [(k, v)]
  | [], _, v => rfl
  | (a, b) :: m, h, v => by
    simp only [mget] at h
    split at h
    · cases h
    · rename_i hk; simp only [mset, if_neg hk, mset_none h v, List.cons_append]
theorem findKey_eq {κ ν : Type} [MKey κ] [Flat ν] {P : Program} {w : World} {kt : TypeId} (hk : P.underlying kt = some (MKey.kind κ)) (k : κ) (es : List MapEntry) (m : List (κ × ν)) (h : es.map (fun e => (e.key, some e.val)) = m.map entOf) :
    (mget m k = none ∧ (Instr.findKey kt (MKey.enc k) es).run P w = .ok none w) ∨ (∃ v j val, mget m k = some v ∧ (Flat.cells v)[0]? = some val ∧ (Instr.findKey kt (MKey.enc k) es).run P w = .ok (some (j, val)) w ∧ j < es.length ∧
      (∀ v', mset m k v' = m.set j (k, v')) ∧ (es[j]?).map (·.key) = some (MKey.enc k)) := by
  rcases findNow_eq k es m 0 h with ⟨g1, g2⟩ | ⟨v, j, val, g1, g2, g3, g4, g5, g6⟩
  · left
    exact ⟨g1, by unfold Instr.findKey; simp [underlying, hk, g2]⟩
  · right
    rw [Nat.zero_add] at g3
    exact ⟨v, j, val, g1, g2, by unfold Instr.findKey; simp [underlying, hk, g3], g4, g5, g6⟩
theorem St.newMap {κ ν : Type} [MKey κ] [Flat ν] {w0 w : World} {L : List Own} {b : Nat} (h : St w0 w (Own.blk b (.map #[] 0) :: L)) : St w0 w (Own.map (κ := κ) (ν := ν) b [] :: L) := by
  have hb := h.holds _ (List.mem_cons_self ..)
  refine ⟨h.below, fun r hr => ?_, fun r hr => ?_, ?_⟩
  · rcases List.mem_cons.1 hr with rfl | hr
    · exact ⟨#[], 0, hb, rfl⟩
    · exact h.holds r (List.mem_cons_of_mem _ hr)
  · rcases List.mem_cons.1 hr with rfl | hr
    · exact h.base (Own.blk b (.map #[] 0)) (by simp)
    · exact h.base r (List.mem_cons_of_mem _ hr)
  · exact List.Pairwise.cons (List.pairwise_cons.1 h.apart).1 (List.pairwise_cons.1 h.apart).2
section
variable {P : Program} {n : Nat} {ops : Array Oper} {Q : Exit → Act → World → Prop} [Dfs]
/-- m[k] -/
theorem ge_lookup {κ ν : Type} [MKey κ] [Flat ν] {i d b q : Nat} {t kt et : TypeId} {x y : Operand} {ty : TypeId} {m : List (κ × ν)} {k : κ} {z v : ν} {zv vv : Value} {e : Env} {rest : List (Nat × Nat)} {w0 w : World} {L : List Own}
    (h : opAt n ops e i = some (d, .lookup t x y false, ty)) (hx : e.ev x = some (.map (some b))) (hy : e.ev y = some (MKey.enc k)) (ht : P.underlying t = some (.map kt et)) (hk : P.underlying kt = some (MKey.kind κ))
    (hz : ∀ w', (zeroValue et).run P w' = .ok zv w') (hzc : Flat.cells z = [zv]) (hS : St w0 w L) (hq : L[q]? = some (Own.map b m)) (hv : (mget m k).getD z = v) (hvc : Flat.cells v = [vv])
    (kk : GE P n ops Q rest ((d, vv) :: e) w) : GE P n ops Q ((i, 0) :: rest) e w := by
  obtain ⟨es, c, hb, hes⟩ := hS.holds _ (List.mem_of_getElem? hq)
  have hlt := (hS.base _ (List.mem_of_getElem? hq) b (by simp [Own.map])).2
  refine ge_val h (fun o w' hop hty hxt => ?_) kk
  have hb' : w'.heap[b]? = some (.map es c) := by rw [hxt.block b hlt]; exact hb
  have hg : (getObj b).run P w' = .ok (.map es c) w' := by simp [getObj, Sem.run, hb']
  have hu : (underlying t).run P w' = .ok (.map kt et) w' := by simp [underlying, ht]
  have hc := MKey.chk P w' kt es.isEmpty k hk
  have hx' : e.evD x = .map (some b) := by simp [Env.evD, hx]
  have hy' : e.evD y = MKey.enc k := by simp [Env.evD, hy]
  rcases findKey_eq (P := P) (w := w') hk k es.toList m hes with ⟨g1, g2⟩ | ⟨v', j, val, g1, g2, g3, _⟩
  · have : v = z := by rw [← hv, g1]; rfl
    subst this
    rw [hzc] at hvc
    cases hvc
    simp only [execOp, hop, hx', hy', Instr.lookup, Sem.run_bind, hu, Result.andThen_ok, hg, Sem.run_pure, hc, g2, hz w']
    rfl
  · have : v = v' := by rw [← hv, g1]; rfl
    subst this
    rw [hvc] at g2
    simp only [List.getElem?_cons_zero, Option.some.injEq] at g2
    subst g2
    simp only [execOp, hop, hx', hy', Instr.lookup, Sem.run_bind, hu, Result.andThen_ok, hg, Sem.run_pure, hc, g3]
    rfl
/-- v, ok := m[k] -/
theorem ge_lookup2 {κ ν : Type} [MKey κ] [Flat ν] {i d b q : Nat} {t kt et : TypeId} {x y : Operand} {ty : TypeId} {m : List (κ × ν)} {k : κ} {z v : ν} {zv vv : Value} {e : Env} {rest : List (Nat × Nat)} {w0 w : World} {L : List Own}
    (h : opAt n ops e i = some (d, .lookup t x y true, ty)) (hx : e.ev x = some (.map (some b))) (hy : e.ev y = some (MKey.enc k)) (ht : P.underlying t = some (.map kt et)) (hk : P.underlying kt = some (MKey.kind κ))
    (hz : ∀ w', (zeroValue et).run P w' = .ok zv w') (hzc : Flat.cells z = [zv]) (hS : St w0 w L) (hq : L[q]? = some (Own.map b m)) (hv : (mget m k).getD z = v) (hvc : Flat.cells v = [vv])
    (kk : GE P n ops Q rest ((d, .tuple #[vv, .bool (mget m k).isSome]) :: e) w) : GE P n ops Q ((i, 0) :: rest) e w := by
  obtain ⟨es, c, hb, hes⟩ := hS.holds _ (List.mem_of_getElem? hq)
  have hlt := (hS.base _ (List.mem_of_getElem? hq) b (by simp [Own.map])).2
  refine ge_val h (fun o w' hop hty hxt => ?_) kk
  have hb' : w'.heap[b]? = some (.map es c) := by rw [hxt.block b hlt]; exact hb
  have hg : (getObj b).run P w' = .ok (.map es c) w' := by simp [getObj, Sem.run, hb']
  have hu : (underlying t).run P w' = .ok (.map kt et) w' := by simp [underlying, ht]
  have hc := MKey.chk P w' kt es.isEmpty k hk
  have hx' : e.evD x = .map (some b) := by simp [Env.evD, hx]
  have hy' : e.evD y = MKey.enc k := by simp [Env.evD, hy]
  rcases findKey_eq (P := P) (w := w') hk k es.toList m hes with ⟨g1, g2⟩ | ⟨v', j, val, g1, g2, g3, _⟩
  · have : v = z := by rw [← hv, g1]; rfl
    subst this
    rw [hzc] at hvc
    cases hvc
    simp only [execOp, hop, hx', hy', Instr.lookup, Sem.run_bind, hu, Result.andThen_ok, hg, Sem.run_pure, hc, g2, hz w', g1, Option.isSome_none]
    rfl
  · have : v = v' := by rw [← hv, g1]; rfl
    subst this
    rw [hvc] at g2
    simp only [List.getElem?_cons_zero, Option.some.injEq] at g2
    subst g2
    simp only [execOp, hop, hx', hy', Instr.lookup, Sem.run_bind, hu, Result.andThen_ok, hg, Sem.run_pure, hc, g3, g1, Option.isSome_some]
    rfl
/-- what stands at i, without a value -/
theorem ge_opNo {i m : Nat} {op : Op} {ty : TypeId} {e : Env} {rest : List (Nat × Nat)} {w w1 : World} (h : opNo ops e i = some (op, ty)) (hr : ∀ o, o.op = op → o.type = ty → (execOp e.evD o).run P w = .ok .skip w1) (k : GE P n ops Q rest e w1) : GE P n ops Q ((i, m + 2) :: rest) e w := by
  obtain ⟨o, ho, hd, hw, hp, hk, hop, hty⟩ := opNo_sound h
  intro a hF
  unfold wpG wpOp
  simp only [ho, wantE_sound hF hw, if_true]
  refine .inl ?_
  unfold Oper.wp
  rw [execOp_env hF hp hk, hr o hop hty]
  simp only [Oper.upon, hd, Act.put]
  exact k a hF
/-- m[k] = v -/
theorem ge_mapSet {κ ν : Type} [MKey κ] [Flat ν] {i b mm : Nat} {ins : Bool} {t kt et : TypeId} {x y u : Operand} {ty : TypeId} {m : List (κ × ν)} {k : κ} {v : ν} {vv : Value} {e : Env} {rest : List (Nat × Nat)} {w0 w : World} {L : List Own}
    (h : opNo ops e i = some (if ins then .insert t x y u else .mapUpdate t x y u, ty)) (hx : e.ev x = some (.map (some b))) (hy : e.ev y = some (MKey.enc k)) (hu : e.ev u = some vv) (hvc : Flat.cells v = [vv]) (ht : P.underlying t = some (.map kt et)) (hk : P.underlying kt = some (MKey.kind κ))
    (hS : St w0 w (Own.map b m :: L)) (kk : ∀ w1, St w0 w1 (Own.map b (mset m k v) :: L) → GE P n ops Q rest e w1) : GE P n ops Q ((i, mm + 2) :: rest) e w := by
  obtain ⟨es, c, hb, hes⟩ := hS.holds _ (List.mem_cons_self ..)
  have hlt := (hS.base _ (List.mem_cons_self ..) b (by simp [Own.map])).2
  have hg : (getObj b).run P w = .ok (.map es c) w := by simp [getObj, Sem.run, hb]
  have hut : (underlying t).run P w = .ok (.map kt et) w := by simp [underlying, ht]
  have hc := MKey.chk P w kt false k hk
  have hx' : e.evD x = .map (some b) := by simp [Env.evD, hx]
  have hy' : e.evD y = MKey.enc k := by simp [Env.evD, hy]
  have hu' : e.evD u = vv := by simp [Env.evD, hu]
  have setO : ∀ es' c', (setObj b (.map es' c')).run P w = .ok () { w with heap := w.heap.setIfInBounds b (.map es' c') } := fun es' c' => by simp [setObj, Sem.run, hb]
  have hup : ∀ es' c', es'.toList.map (fun e => (e.key, some e.val)) = (mset m k v).map entOf → St w0 { w with heap := w.heap.setIfInBounds b (.map es' c') } (Own.map b (mset m k v) :: L) := fun es' c' he => by
    refine hS.upd rfl rfl rfl (by simp) (fun k hk hne => ?_) ?_ (fun b' hb' => ?_)
    · have : b ≠ k := fun e => hne (by simp [Own.map, e])
      simp [Array.getElem?_setIfInBounds, this]
    · exact ⟨es', c', by simp [hlt], he⟩
    · have : b' = b := by simpa [Own.map] using hb'
      subst this
      exact ⟨.inl (by simp [Own.map]), by simpa using hlt⟩
  have hval : (Flat.cells v)[0]? = some vv := by rw [hvc]; rfl
  rcases findKey_eq (P := P) (w := w) hk k es.toList m hes with ⟨g1, g2⟩ | ⟨v', j, val, g1, g2, g3, g4, g5, g6⟩
  · have hr : (Instr.mapUpdate t (.map (some b)) (MKey.enc k) vv).run P w = .ok () { w with heap := w.heap.setIfInBounds b (.map (es.push { key := MKey.enc k, val := vv, born := c }) (c + 1)) } := by
      simp only [Instr.mapUpdate, Sem.run_bind, hut, Result.andThen_ok, hg, hc, g2, setO]
    refine ge_opNo h (fun o hop hty => ?_) (kk _ (hup (es.push { key := MKey.enc k, val := vv, born := c }) (c + 1) ?_))
    · cases ins <;> simp only [if_true, Bool.false_eq_true, if_false] at hop <;> simp only [execOp, hop, hx', hy', hu', Sem.run_bind, hr, Result.andThen_ok, Sem.run_pure]
    · rw [mset_none g1, List.map_append, ← hes]
      simp [entOf, hval]
  · have hkey : ((es[j]?).map (·.key)).getD (MKey.enc k) = MKey.enc k := by
      have : es[j]? = es.toList[j]? := by simp
      rw [this, g6]; rfl
    have hr : (Instr.mapUpdate t (.map (some b)) (MKey.enc k) vv).run P w = .ok () { w with heap := w.heap.setIfInBounds b (.map (es.modify j fun e => { e with key := MKey.enc k, val := vv }) c) } := by
      simp only [Instr.mapUpdate, Sem.run_bind, hut, Result.andThen_ok, hg, hc, g3, hkey, Instr.keyThatStays, MKey.bits, if_true, Sem.run_pure, setO]
    refine ge_opNo h (fun o hop hty => ?_) (kk _ (hup (es.modify j fun e => { e with key := MKey.enc k, val := vv }) c ?_))
    · cases ins <;> simp only [if_true, Bool.false_eq_true, if_false] at hop <;> simp only [execOp, hop, hx', hy', hu', Sem.run_bind, hr, Result.andThen_ok, Sem.run_pure]
    · rw [g5 v]
      apply List.ext_getElem?
      intro q
      have hq := congrArg (fun l => l[q]?) hes
      simp only [List.getElem?_map] at hq
      simp only [List.getElem?_map, Array.getElem?_toList, Array.getElem?_modify, List.getElem?_set]
      have hlen : j < m.length := by
        have := congrArg List.length hes
        simp at this
        simp at g4
        omega
      by_cases hjq : j = q
      · subst hjq
        rw [if_pos rfl, if_pos rfl, if_pos hlen]
        have : j < es.size := by simpa using g4
        simp [this, entOf, hval]
      · rw [if_neg hjq, if_neg hjq]
        simpa using hq
end
end Go.Proofs.Ytcjphfmmmlgcbaa.GV
