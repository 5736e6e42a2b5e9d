/- The walker's core, 29th part: arrays that are stored into by place; maps known by what they answer. Written for this work. -/
import Derived.Test.YtnckikjcjgmdlaaDoorGv28
namespace Go.Proofs.YtnckikjcjgmdlaaDoor.GV
open Go Go.RowKit
set_option linter.unusedVariables false
set_option linter.unusedSimpArgs false
/-- the first n of a list, 0 where there are fewer -/
def arrL : Nat → Nat → List Int → List Int
  | 0, _, _ => []
  | n + 1, k, a => (a[k]?).getD 0 :: arrL n (k + 1) a
def arrN (n : Nat) (a : List Int) : List Int := arrL n 0 a
theorem arrL_length : ∀ (n k : Nat) (a : List Int), (arrL n k a).length = n
  | 0, _, _ => rfl
  | n + 1, k, a => by simp [arrL, arrL_length n (k + 1) a]
theorem arrL_get : ∀ (n k : Nat) (a : List Int) (j : Nat), j < n → (arrL n k a)[j]? = some ((a[k + j]?).getD 0)
  | 0, _, _, _, h => absurd h (Nat.not_lt_zero _)
  | n + 1, k, a, 0, _ => rfl
  | n + 1, k, a, j + 1, h => by
    simp only [arrL, List.getElem?_cons_succ]
    rw [arrL_get n (k + 1) a j (by omega)]
    congr 3; omega
theorem arrN_length (n : Nat) (a : List Int) : (arrN n a).length = n := arrL_length n 0 a
theorem arrN_get {n : Nat} {a : List Int} {j : Nat} (h : j < n) : (arrN n a)[j]? = some ((a[j]?).getD 0) := by
  have := arrL_get n 0 a j h
  simpa [arrN] using this
theorem arrN_eq {n : Nat} {a : List Int} (h : a.length = n) : arrN n a = a := by
  apply List.ext_getElem?
  intro j
  by_cases hj : j < n
  · rw [arrN_get hj, List.getElem?_eq_getElem (by omega)]; rfl
  · rw [List.getElem?_eq_none (by rw [arrN_length]; omega), List.getElem?_eq_none (by omega)]
theorem cells_set {pre post : List Value} {l : List Int} {k : Nat} {v : Int} (hk : k < l.length) : ((pre ++ (cellsOf l ++ post)).toArray).setIfInBounds (pre.length + k) (.int .i64 v) = (pre ++ (cellsOf (l.set k v) ++ post)).toArray := by
  have e1 : ∀ l : List Int, cellsOf l = l.map (fun x => (.int .i64 x : Value)) := by
    intro l
    induction l with
    | nil => rfl
    | cons x r ih =>
      have h0 : cellsOf (x :: r) = Flat.cells x ++ cellsOf r := rfl
      rw [h0, ih]; rfl
  rw [e1, e1, List.map_set, List.setIfInBounds_toArray, List.set_append_right _ _ (by omega), Nat.add_sub_cancel_left, List.set_append_left _ _ (by simpa using hk)]
section
variable {P : Program} {n : Nat} {ops : Array Oper} {Q : Exit → Act → World → Prop}
/-- a store into an array by place, in a block that is owned -/
theorem ge_setA {i m b off jn nn : Nat} {t : TypeId} {pre post : List Value} {l : List Int} {u v : Int} {cs : Array Value} {e : Env} {rest : List (Nat × Nat)} {w0 w : World} {L : List Own} (hS : St w0 w (Own.blk b (.cells cs t (0, 0)) :: L))
    (hs : step1 P n ops e i [] = some (none, .skip, didStores b (off + jn * 1) [.int .i64 v], [])) (hc : cs = (pre ++ (cellsOf l ++ post)).toArray) (hp : pre.length = off) (hl : l.length = nn) (hx : l[jn]? = some u)
    (k : ∀ w1, St w0 w1 (Own.blk b (.cells (pre ++ (cellsOf (arrN nn (l.set jn v)) ++ post)).toArray t (0, 0)) :: L) → GE P n ops Q rest e w1) : GE P n ops Q ((i, m + 2) :: rest) e w := by
  have hlt := lt_of_get hx
  have hsz : cs.size = pre.length + (l.length + post.length) := by
    have h1 : Flat.sz Int = 1 := rfl
    rw [hc]; simp [cellsOf_length, h1]
  refine ge_store (d := none) hs (goes_stores [.int .i64 v] (off + jn * 1) hS (by simp only [List.length_cons, List.length_nil]; omega) rfl) (k _ ?_)
  have h := hS.sets [.int .i64 v] (off + jn * 1)
  simp only [setArr, setCells] at h ⊢
  rw [arrN_eq (by simpa using hl), ← cells_set hlt, ← hc, hp]
  rw [Nat.mul_one] at h ⊢
  exact h
end
section
variable {P : Program} {n : Nat} {ops : Array Oper}
theorem ge_offN {P : Program} {n : Nat} {ops : Array Oper} {Q : Exit → Act → World → Prop} {i m : Nat} {o : Oper} {e : Env} {rest : List (Nat × Nat)} {w : World} (ho : ops[i]? = some o) (hd : o.dst = none) (hw : wantE ops e o = some false) (k : GE P n ops Q rest e w) : GE P n ops Q ((i, m + 1) :: rest) e w := by
  intro a hF
  have hwant := wantE_sound hF hw
  cases m with
  | zero =>
    unfold wpG wpOp
    simp only [ho, hwant, Bool.false_eq_true, if_false, hd]
    exact ⟨Ext.refl w, k _ (hF.put_none _)⟩
  | succ m =>
    unfold wpG wpOp
    simp only [ho, hwant, Bool.false_eq_true, if_false, hd]
    exact k _ (hF.put_none _)
theorem ge_val2 {i : Nat} {e : Env} {w : World} {Q : Exit → Act → World → Prop} (h : GE P n ops Q [(i, 0)] e w) : GE P n ops Q [(i, 2)] e w := fun a hF => by
  obtain ⟨v, h1, h2⟩ := h a hF
  exact h1.wpOp h2
end
/-- a map known by what it answers -/
def Own.mapE {κ ν : Type} [MKey κ] [Flat ν] (b : Nat) (m : List (κ × ν)) : Own :=
  ⟨[b], fun h => ∃ m' : List (κ × ν), (∀ k, mget m' k = mget m k) ∧ (Own.map b m').holds h, fun h h' k ⟨m', h1, h2⟩ => ⟨m', h1, (Own.map b m').loc h h' k h2⟩⟩
theorem St.toE {κ ν : Type} [MKey κ] [Flat ν] {w0 w : World} {L : List Own} {b : Nat} {m' m : List (κ × ν)} (h : St w0 w (Own.map b m' :: L)) (he : ∀ k, mget m' k = mget m k) : St w0 w (Own.mapE b m :: L) := by
  have h0 := h.holds _ (List.mem_cons_self ..)
  refine ⟨h.below, fun r hr => ?_, fun r hr => ?_, ?_⟩
  · rcases List.mem_cons.1 hr with rfl | hr
    · exact ⟨m', he, h0⟩
    · exact h.holds r (List.mem_cons_of_mem _ hr)
  · rcases List.mem_cons.1 hr with rfl | hr
    · exact h.base (Own.map b m') (by simp)
    · exact h.base r (List.mem_cons_of_mem _ hr)
  · exact List.Pairwise.cons (List.pairwise_cons.1 h.apart).1 (List.pairwise_cons.1 h.apart).2
theorem mget_mset {κ ν : Type} [DecidableEq κ] (m : List (κ × ν)) (k k' : κ) (v : ν) : mget (mset m k v) k' = if k' = k then some v else mget m k' := by
  induction m with
  | nil => simp only [mset, mget]
  | cons a r ih =>
    obtain ⟨a, b⟩ := a
    simp only [mset]
    by_cases h : k = a
    · subst h
      simp only [if_true, mget]
      by_cases h2 : k' = k
      · rw [if_pos h2, if_pos h2]
      · rw [if_neg h2, if_neg h2, if_neg h2]
    · rw [if_neg h]
      simp only [mget, ih]
      by_cases h2 : k' = a
      · rw [if_pos h2, if_neg (fun e => h (e.symm.trans h2)), if_pos h2]
      · rw [if_neg h2, if_neg h2]
section
variable {P : Program} {n : Nat} {ops : Array Oper} {Q : Exit → Act → World → Prop}
theorem ge_lookupE {κ ν : Type} [MKey κ] [Flat ν] {i d b q : Nat} {t kt et : TypeId} {x y : Operand} {ty : TypeId} {m : List (κ × ν)} {k : κ} {z v : ν} {zv vv : Value} {e : Env} {rest : List (Nat × Nat)} {w0 w : World} {L : List Own}
    (h : opAt n ops e i = some (d, .lookup t x y false, ty)) (hx : e.ev x = some (.map (some b))) (hy : e.ev y = some (MKey.enc k)) (ht : P.underlying t = some (.map kt et)) (hk : P.underlying kt = some (MKey.kind κ))
    (hz : ∀ w', (zeroValue et).run P w' = .ok zv w') (hzc : Flat.cells z = [zv]) (hS : St w0 w L) (hq : L[q]? = some (Own.mapE b m)) (hv : (mget m k).getD z = v) (hvc : Flat.cells v = [vv])
    (kk : GE P n ops Q rest ((d, vv) :: e) w) : GE P n ops Q ((i, 0) :: rest) e w := by
  obtain ⟨m', hm, es, c, hb, hes⟩ := hS.holds _ (List.mem_of_getElem? hq)
  have hlt := (hS.base _ (List.mem_of_getElem? hq) b (by simp [Own.mapE])).2
  exact ge_lookupR (b := some b) (m := m') h hx hy ht hk hz hzc ⟨hlt, es, c, hb, hes⟩ (by rw [hm]; exact hv) hvc kk
end
end Go.Proofs.YtnckikjcjgmdlaaDoor.GV
