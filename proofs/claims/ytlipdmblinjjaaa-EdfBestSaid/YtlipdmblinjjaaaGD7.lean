/- The walker's core, seventh part: rows appended to rows; slices of slices; rows lent. Written for this work. -/
import Derived.Test.YtlipdmblinjjaaaGD6
import Derived.Laws.StructEq
namespace Go.Proofs.Ytlipdmblinjjaaa.GV.D
open Go Go.RowKit
set_option linter.unusedVariables false
set_option linter.unusedSimpArgs false

section
variable {P : Program} {n : Nat} {ops : Array Oper} {Q : Exit → Act → World → Prop}
end

/-! ### 15. Structs compared -/
section
variable {P : Program}
theorem run_of_eqBF {d : Nat} {rec : TypeId → Value → Value → Option Bool} (hrec : ∀ t x y r (w : World), rec t x y = some r → (Op.equalIn d t x y).run P w = .ok r w) {xs ys : Array Value} :
    ∀ (fs : List Field) (r : Bool) (w : World), eqBF P rec xs ys fs = some r → (Op.eqFields d xs ys fs).run P w = .ok r w
  | [], r, w, h => by simp only [eqBF, Option.some.injEq] at h; subst h; simp [Op.eqFields]
  | f :: fs, r, w, h => by
    simp only [eqBF] at h
    split at h
    · cases h
    · rename_i hn
      have hn' : f.name ≠ "_" := by intro e; simp [e] at hn
      split at h
      · rename_i a b ha hb
        split at h
        · rename_i r1 s1 hr hs
          simp only [Option.some.injEq] at h
          have h1 := run_of_trace _ ha (rfl : Goes [] w w)
          have h2 := run_of_trace _ hb (rfl : Goes [] w w)
          have h3 := hrec _ _ _ _ w hr
          have h4 := run_of_eqBF hrec fs s1 w hs
          rw [Op.eqFields]
          simp only [if_pos hn', Sem.run_bind, h1, h2, h3, Result.andThen_ok]
          subst h
          cases r1
          · simp
          · simpa using h4
        · cases h
      · cases h
theorem run_of_eqB : ∀ (d : Nat) (t : TypeId) (x y : Value) (r : Bool) (w : World), eqB P d t x y = some r → (Op.equalIn d t x y).run P w = .ok r w
  | 0, t, x, y, r, w, h => by simp [eqB] at h
  | d + 1, t, x, y, r, w, h => by
    simp only [eqB] at h
    split at h
    · rename_i a b hu
      simp only [Option.some.injEq] at h
      subst h
      exact run_equalIn_bool' w d t a b hu
    · rename_i k0 k a k' b hu
      split at h
      · rename_i hk _
        subst hk
        simp only [Option.some.injEq] at h
        subst h
        exact run_equalIn_int w d t k k0 a b hu
      · cases h
    · rename_i a b hu
      simp only [Option.some.injEq] at h
      subst h
      exact run_equalIn_string w d t a b hu
    · rename_i fs xs ys hu
      split at h
      · cases h
      · rename_i hp
        have hf : P.fieldsOf t = fs := by simp [Program.fieldsOf, hu]
        rw [run_equalIn_struct (P := P) w d t xs ys (by rw [hf]; exact hu) hp, hf]
        exact run_of_eqBF (fun t x y r w h => run_of_eqB d t x y r w h) _ r w h
    · cases h
end
section
variable {P : Program} {n : Nat} {ops : Array Oper} {Q : Exit → Act → World → Prop}
theorem ge_eqs {i d : Nat} {t t2 ty : TypeId} {op : BinOp} {x y : Operand} {xs ys : Array Value} {r : Bool} {v : Bool} {e : Env} {rest : List (Nat × Nat)} {w : World} (h : opAt n ops e i = some (d, .binOp op t x y t2, ty))
    (hx : e.ev x = some (.agg xs)) (hy : e.ev y = some (.agg ys)) (hg : P.eqGuardType P.depth t = false) (hr : eqB P 10000 t (.agg xs) (.agg ys) = some r) (hv : (match op with | .eql => some r | .neq => some (!r) | _ => none) = some v)
    (kk : GE P n ops Q rest ((d, .bool v) :: e) w) : GE P n ops Q ((i, 0) :: rest) e w := by
  refine ge_val h (fun o w' hop hty hxt => ?_) kk
  have hrun := run_of_eqB (P := P) 10000 t _ _ r w' hr
  cases op <;> simp only [Option.some.injEq] at hv <;> first | (cases hv; done) | skip
  · subst hv
    have h2 : (binOp .eql t (.agg xs) (.agg ys)).run P w' = .ok (.bool r) w' := by rw [run_eql_struct, hrun]; rfl
    simp only [execOp, hop, Env.evD, hx, hy, Option.getD_some, Sem.run_bind, run_eqGuard_agg w' .eql t x y xs ys hg, h2, Result.andThen_ok, Sem.run_pure]
  · subst hv
    have h2 : (binOp .neq t (.agg xs) (.agg ys)).run P w' = .ok (.bool (!r)) w' := by rw [run_neq_struct, hrun]; rfl
    simp only [execOp, hop, Env.evD, hx, hy, Option.getD_some, Sem.run_bind, run_eqGuard_agg w' .neq t x y xs ys hg, h2, Result.andThen_ok, Sem.run_pure]
theorem ge_sliceHi {i d t el sz m c hn : Nat} {x y : Operand} {ty : TypeId} {A : Option Addr} {k' : IntKind} {hi : Int} {e : Env} {rest : List (Nat × Nat)} {w : World} (h : opAt n ops e i = some (d, .slice t x none (some y) none, ty))
    (hx : e.ev x = some (.slice A m c)) (hy : e.ev y = some (.int k' hi)) (hh : hi = (hn : Int)) (ht : P.underlying t = some (.slice el)) (hs : (P.info? el).map (·.size) = some sz) (hle : hn ≤ c)
    (k : GE P n ops Q rest ((d, .slice A hn c) :: e) w) : GE P n ops Q ((i, 0) :: rest) e w := by
  refine ge_val h (fun o w' hop hty hxt => ?_) k
  subst hh
  obtain ⟨inf, hi, hsz⟩ := Option.map_eq_some_iff.1 hs
  have hu : (underlying t).run P w' = .ok (.slice el) w' := by simp [underlying, ht]
  have hz : (sizeOf el).run P w' = .ok sz w' := by simp [sizeOf, typeInfo, hi, hsz]
  have hle' : (hn : Int) ≤ (c : Int) := by omega
  have hA : (if c = 0 then A else A.map (·.add (0 * sz))) = A := by
    split
    · rfl
    · rw [Nat.zero_mul]; cases A <;> rfl
  have h1 : (Instr.sliceAt t (.slice A m c) none (some (.int k' (hn : Int))) none).run P w' = .ok (.slice A hn c) w' := by
    rw [Nat.zero_mul] at hA
    simp [Instr.sliceAt, Instr.slice, Instr.sliceBounds, Instr.sliceBound, asIntOf, hu, hz, hle, hA]
  simp only [execOp, hop, Env.evD, hx, hy, Option.getD_some, Option.map_some, Option.map_none, Sem.run_bind, h1, Result.andThen_ok, Sem.run_pure]
end
theorem RdL.pre {α : Type} [Flat α] {w : World} {A : Option Addr} {l r : List α} (h : RdL w A (l ++ r)) : RdL w A l := by
  refine ⟨by have := h.small; simp at this; omega, fun hn => h.at_ (by simp; omega), fun b o e i j hi hj => ?_⟩
  have := Rd.cell h b o e i j (by simp; omega) hj
  rw [this]
  simp only [flatF]
  rw [List.getElem?_append_left hi]
theorem St.open2 {α : Type} [Flat α] {w0 w : World} {L : List Own} (h : St w0 w L) (m : Nat) {v : Value} {t : Nat} {l : List α} (hm : L[m]? = some (Own.of v t l)) : ∃ A c, v = .slice A l.length c ∧ l.length ≤ c := by
  have hh := h.holds _ (List.mem_of_getElem? hm)
  rcases hh.2 with ⟨rfl, h0⟩ | ⟨g, cap, cur, rfl, hg, hn, hc⟩
  · exact ⟨none, 0, by rw [h0], by omega⟩
  · exact ⟨_, cap, rfl, hn⟩
theorem St.glob {w0 w : World} {L : List Own} (h : St w0 w L) {g : Nat} {cs : List Value} (hg : Glob w0 g cs) {j : Nat} {v : Value} (hj : cs[j]? = some v) : w.cell? ⟨g, j, none⟩ = some v := by
  have h0 := hg j v hj
  rw [h.below.cell (World.block_lt_of_cell? w0 _ h0)]
  exact h0
theorem Glob.ext {w w' : World} {g : Nat} {cs : List Value} (hg : Glob w g cs) (k : Ext w w') : Glob w' g cs := fun j v hj => by
  have h0 := hg j v hj
  rw [k.cell (World.block_lt_of_cell? w _ h0)]
  exact h0
end Go.Proofs.Ytlipdmblinjjaaa.GV.D
