/- The walker's core, fifteenth part: arrays by place. Written for this work. -/
import Derived.Test.YtcjphfmmmlgcbaaGv14
namespace Go.Proofs.Ytcjphfmmmlgcbaa.GV
open Go Go.RowKit
set_option linter.unusedVariables false
set_option linter.unusedSimpArgs false
theorem lit_get {α : Type} [Flat α] {pre post : List Value} {l : List α} {k : Nat} {u : α} {v : Value} (hx : l[k]? = some u) (h1 : Flat.sz α = 1) (hv : Flat.cells u = [v]) : (pre ++ (cellsOf l ++ post)).toArray[pre.length + k]? = some v := by
  have hlt := lt_of_get hx
  have h2 := cellsOf_get l k 0 u hx (by omega)
  rw [h1, Nat.mul_one, Nat.add_zero, hv] at h2
  have hlen : (cellsOf l).length = l.length := by rw [cellsOf_length, h1, Nat.mul_one]
  rw [List.getElem?_toArray, List.getElem?_append_right (by omega), Nat.add_sub_cancel_left, List.getElem?_append_left (by omega), h2]
  rfl
/-- a cell of an array that lies in a block that is owned -/
theorem St.cellA {α : Type} [Flat α] {w0 w : World} {L : List Own} (h : St w0 w L) (m : Nat) {b : Nat} {cs : Array Value} {t : TypeId} {fr : Nat × Nat} {pre post : List Value} {l : List α} {k : Nat} {u : α} {v : Value} (hm : L[m]? = some (Own.blk b (.cells cs t fr)))
    (hc : cs = (pre ++ (cellsOf l ++ post)).toArray) (h1 : Flat.sz α = 1) (hx : l[k]? = some u) (hv : Flat.cells u = [v]) {n : Nat} (hn : pre.length = n) : w.cell? ⟨b, n + k * 1, none⟩ = some v := by
  subst hn
  rw [Nat.mul_one]
  exact h.cell m hm (by rw [hc]; exact lit_get hx h1 hv)
section
variable {P : Program} {n : Nat} {ops : Array Oper} {Q : Exit → Act → World → Prop} [Dfs]
end
end Go.Proofs.Ytcjphfmmmlgcbaa.GV
