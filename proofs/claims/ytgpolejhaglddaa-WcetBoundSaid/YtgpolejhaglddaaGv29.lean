/- The walker's core, 29th part: arrays that are stored into by place; maps known by what they answer. Written for this work. -/
import Derived.Test.YtgpolejhaglddaaGv28
namespace Go.Proofs.Ytgpolejhaglddaa.GV
open Go Go.RowKit
set_option linter.unusedVariables false
set_option linter.unusedSimpArgs false
/-- the first n of a list, 0 where there are fewer -/
def arrL : Nat → Nat → List Int → List Int
  | 0, _, _ => []
  | n + 1, k, a => (a[k]?).getD 0 :: arrL n (k + 1) a
def arrN (n : Nat) (a : List Int) : List Int := arrL n 0 a
theorem arrL_length : ∀ (n k : Nat) (a : List Int), (arrL n k a).length = n
  | 0, _, _ => rfl
  | n + 1, k, a => by simp [arrL, arrL_length n (k + 1) a]
theorem arrL_get : ∀ (n k : Nat) (a : List Int) (j : Nat), j < n → (arrL n k a)[j]? = some ((a[k + j]?).getD 0)
  | 0, _, _, _, h => absurd h (Nat.not_lt_zero _)
  | n + 1, k, a, 0, _ => rfl
  | n + 1, k, a, j + 1, h => by
    simp only [arrL, List.getElem?_cons_succ]
    rw [arrL_get n (k + 1) a j (by omega)]
    congr 3; omega
theorem arrN_length (n : Nat) (a : List Int) : (arrN n a).length = n := arrL_length n 0 a
theorem arrN_get {n : Nat} {a : List Int} {j : Nat} (h : j < n) : (arrN n a)[j]? = some ((a[j]?).getD 0) := by
  have := arrL_get n 0 a j h
  simpa [arrN] using this
theorem arrN_eq {n : Nat} {a : List Int} (h : a.length = n) : arrN n a = a := by
  apply List.ext_getElem?
  intro j
  by_cases hj : j < n
  · rw [arrN_get hj, List.getElem?_eq_getElem (by omega)]; rfl
  · rw [List.getElem?_eq_none (by rw [arrN_length]; omega), List.getElem?_eq_none (by omega)]
theorem cells_set {pre post : List Value} {l : List Int} {k : Nat} {v : Int} (hk : k < l.length) : ((pre ++ (cellsOf l ++ post)).toArray).setIfInBounds (pre.length + k) (.int .i64 v) = (pre ++ (cellsOf (l.set k v) ++ post)).toArray := by
  have e1 : ∀ l : List Int, cellsOf l = l.map (fun x => (.int .i64 x : Value)) := by
    intro l
    induction l with
    | nil => rfl
    | cons x r ih =>
      have h0 : cellsOf (x :: r) = Flat.cells x ++ cellsOf r := rfl
      rw [h0, ih]; rfl
  rw [e1, e1, List.map_set, List.setIfInBounds_toArray, List.set_append_right _ _ (by omega), Nat.add_sub_cancel_left, List.set_append_left _ _ (by simpa using hk)]
section
variable {P : Program} {n : Nat} {ops : Array Oper} {Q : Exit → Act → World → Prop}
/-- a store into an array by place, in a block that is owned -/
theorem ge_setA {i m b off jn nn : Nat} {t : TypeId} {pre post : List Value} {l : List Int} {u v : Int} {cs : Array Value} {e : Env} {rest : List (Nat × Nat)} {w0 w : World} {L : List Own} (hS : St w0 w (Own.blk b (.cells cs t (0, 0)) :: L))
    (hs : step1 P n ops e i [] = some (none, .skip, didStores b (off + jn * 1) [.int .i64 v], [])) (hc : cs = (pre ++ (cellsOf l ++ post)).toArray) (hp : pre.length = off) (hl : l.length = nn) (hx : l[jn]? = some u)
    (k : ∀ w1, St w0 w1 (Own.blk b (.cells (pre ++ (cellsOf (arrN nn (l.set jn v)) ++ post)).toArray t (0, 0)) :: L) → GE P n ops Q rest e w1) : GE P n ops Q ((i, m + 2) :: rest) e w := by
  have hlt := lt_of_get hx
  have hsz : cs.size = pre.length + (l.length + post.length) := by
    have h1 : Flat.sz Int = 1 := rfl
    rw [hc]; simp [cellsOf_length, h1]
  refine ge_store (d := none) hs (goes_stores [.int .i64 v] (off + jn * 1) hS (by simp only [List.length_cons, List.length_nil]; omega) rfl) (k _ ?_)
  have h := hS.sets [.int .i64 v] (off + jn * 1)
  simp only [setArr, setCells] at h ⊢
  rw [arrN_eq (by simpa using hl), ← cells_set hlt, ← hc, hp]
  rw [Nat.mul_one] at h ⊢
  exact h
end
section
variable {P : Program} {n : Nat} {ops : Array Oper}
end
section
variable {P : Program} {n : Nat} {ops : Array Oper} {Q : Exit → Act → World → Prop}
end
end Go.Proofs.Ytgpolejhaglddaa.GV
