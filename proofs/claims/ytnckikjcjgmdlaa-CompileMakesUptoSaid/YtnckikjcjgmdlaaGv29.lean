/- The walker's core, 29th part: arrays that are stored into by place; maps known by what they answer. Written for this work. -/
import Derived.Test.YtnckikjcjgmdlaaGv28
namespace Go.Proofs.Ytnckikjcjgmdlaa.GV
open Go Go.RowKit
set_option linter.unusedVariables false
set_option linter.unusedSimpArgs false
section
variable {P : Program} {n : Nat} {ops : Array Oper} {Q : Exit → Act → World → Prop} [Dfs]
end
section
variable {P : Program} {n : Nat} {ops : Array Oper} [Dfs]
theorem ge_val2 {i : Nat} {e : Env} {w : World} {Q : Exit → Act → World → Prop} (h : GE P n ops Q [(i, 0)] e w) : GE P n ops Q [(i, 2)] e w := fun a hF => by
  obtain ⟨v, h1, h2⟩ := h a hF
  exact h1.wpOp h2
end
/-- a map known by what it answers -/
def Own.mapE {κ ν : Type} [MKey κ] [Flat ν] (b : Nat) (m : List (κ × ν)) : Own :=
  ⟨[b], fun h => ∃ m' : List (κ × ν), (∀ k, mget m' k = mget m k) ∧ (Own.map b m').holds h, fun h h' k ⟨m', h1, h2⟩ => ⟨m', h1, (Own.map b m').loc h h' k h2⟩⟩
theorem St.toE {κ ν : Type} [MKey κ] [Flat ν] {w0 w : World} {L : List Own} {b : Nat} {m' m : List (κ × ν)} (h : St w0 w (Own.map b m' :: L)) (he : ∀ k, mget m' k = mget m k) : St w0 w (Own.mapE b m :: L) := by
  have h0 := h.holds _ (List.mem_cons_self ..)
  refine ⟨h.below, fun r hr => ?_, fun r hr => ?_, ?_⟩
  · rcases List.mem_cons.1 hr with rfl | hr
    · exact ⟨m', he, h0⟩
    · exact h.holds r (List.mem_cons_of_mem _ hr)
  · rcases List.mem_cons.1 hr with rfl | hr
    · exact h.base (Own.map b m') (by simp)
    · exact h.base r (List.mem_cons_of_mem _ hr)
  · exact List.Pairwise.cons (List.pairwise_cons.1 h.apart).1 (List.pairwise_cons.1 h.apart).2
theorem mget_mset {κ ν : Type} [DecidableEq κ] (m : List (κ × ν)) (k k' : κ) (v : ν) : mget (mset m k v) k' = if k' = k then some v else mget m k' := by
  induction m with
  | nil => simp only [mset, mget]
  | cons a r ih =>
    obtain ⟨a, b⟩ := a
    simp only [mset]
    by_cases h : k = a
    · subst h
      simp only [if_true, mget]
      by_cases h2 : k' = k
      · rw [if_pos h2, if_pos h2]
      · rw [if_neg h2, if_neg h2, if_neg h2]
    · rw [if_neg h]
      simp only [mget, ih]
      by_cases h2 : k' = a
      · rw [if_pos h2, if_neg (fun e => h (e.symm.trans h2)), if_pos h2]
      · rw [if_neg h2, if_neg h2]
section
variable {P : Program} {n : Nat} {ops : Array Oper} {Q : Exit → Act → World → Prop} [Dfs]
theorem ge_lookupE {κ ν : Type} [MKey κ] [Flat ν] {i d b q : Nat} {t kt et : TypeId} {x y : Operand} {ty : TypeId} {m : List (κ × ν)} {k : κ} {z v : ν} {zv vv : Value} {e : Env} {rest : List (Nat × Nat)} {w0 w : World} {L : List Own}
    (h : opAt n ops e i = some (d, .lookup t x y false, ty)) (hx : e.ev x = some (.map (some b))) (hy : e.ev y = some (MKey.enc k)) (ht : P.underlying t = some (.map kt et)) (hk : P.underlying kt = some (MKey.kind κ))
    (hz : ∀ w', (zeroValue et).run P w' = .ok zv w') (hzc : Flat.cells z = [zv]) (hS : St w0 w L) (hq : L[q]? = some (Own.mapE b m)) (hv : (mget m k).getD z = v) (hvc : Flat.cells v = [vv])
    (kk : GE P n ops Q rest ((d, vv) :: e) w) : GE P n ops Q ((i, 0) :: rest) e w := by
  obtain ⟨m', hm, es, c, hb, hes⟩ := hS.holds _ (List.mem_of_getElem? hq)
  have hlt := (hS.base _ (List.mem_of_getElem? hq) b (by simp [Own.mapE])).2
  exact ge_lookupR (b := some b) (m := m') h hx hy ht hk hz hzc ⟨hlt, es, c, hb, hes⟩ (by rw [hm]; exact hv) hvc kk
end
end Go.Proofs.Ytnckikjcjgmdlaa.GV
