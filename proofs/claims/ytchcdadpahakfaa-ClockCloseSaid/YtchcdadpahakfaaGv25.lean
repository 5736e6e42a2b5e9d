/- The walker's core, 25th part: short words for the texts that the walker prints. Written for this work. -/
import Derived.Test.YtchcdadpahakfaaGv24
namespace Go.Proofs.Ytchcdadpahakfaa.GV
open Go Go.RowKit
set_option linter.unusedVariables false
set_option linter.unusedSimpArgs false
def ansOf : List Did → List Ans
  | [] => []
  | .loaded _ v :: r => .val v :: ansOf r
  | _ :: r => ansOf r
theorem St.c {w0 w : World} {L : List Own} (h : St w0 w L) (m : Nat) {b : Nat} {cs : Array Value} {t : TypeId} {fr : Nat × Nat} {j : Nat} {v : Value} (hm : L[m]? = some (Own.blk b (.cells cs t fr)) := by rfl) (hj : cs[j]? = some v := by rfl) : w.cell? ⟨b, j, none⟩ = some v := h.cell m hm hj
section
variable {P : Program} {n : Nat} {ops : Array Oper} {Q : Exit → Act → World → Prop} [Dfs]
theorem gb (is : List Nat) (vs : Env) (l : List Did) {e : Env} {rest : List (Nat × Nat)} {w : World} (hl : Loads l w) (k : GE P n ops Q rest (vs ++ e) w) (h : batch P n ops is e (ansOf l) = some (vs ++ e, l) := by kernel_rfl) : GE P n ops Q (is.map (fun i => (i, 0)) ++ rest) e w := ge_batch is h hl k
theorem wr {id : Nat} {e : Env} {w : World} (order : List (Nat × Nat)) (h : GE P n ops Q order e w) (ho : order.map (·.1) = List.range ops.size := by rfl) : WE P n (.region id ops false) Q e w := we_region order ho h
theorem ws {x y : Code} {e : Env} {w : World} (h : ∀ K : Act → World → Prop, (∀ [Dfs] e w, WE P n y Q e w → KE n K e w) → WE P n x (Exit.then K Q) e w) : WE P n (.seq x y) Q e w := we_seq h
end
section
variable {P : Program} {n : Nat} {ops : Array Oper} {Q : Exit → Act → World → Prop}
end
section
variable {P : Program} {n : Nat} {ops : Array Oper} {Q : Exit → Act → World → Prop} [Dfs]
end
section
variable {P : Program} {n : Nat} {ops : Array Oper} {Q : Exit → Act → World → Prop}
end
section
variable {P : Program} {n : Nat} {ops : Array Oper} {Q : Exit → Act → World → Prop} [Dfs]
end
section
variable {P : Program} {n : Nat} {ops : Array Oper} {Q : Exit → Act → World → Prop}
end
section
variable {P : Program} {n : Nat} {ops : Array Oper} {Q : Exit → Act → World → Prop} [Dfs]
end
section
variable {P : Program} {n : Nat} {ops : Array Oper} {Q : Exit → Act → World → Prop}
end
section
variable {P : Program} {n : Nat} {ops : Array Oper} {Q : Exit → Act → World → Prop} [Dfs]
theorem gs (b j : Nat) (cs : Array Value) (t : TypeId) (vs : List Value) {i m : Nat} {e : Env} {rest : List (Nat × Nat)} {w0 w : World} {L : List Own} (hS : St w0 w (Own.blk b (.cells cs t (0, 0)) :: L)) (k : ∀ w1, St w0 w1 (Own.blk b (.cells (setArr cs j vs) t (0, 0)) :: L) → GE P n ops Q rest e w1)
    (hs : step1 P n ops e i [] = some (none, .skip, didStores b j vs, []) := by kernel_rfl) (hj : Nat.ble (j + vs.length) cs.size = true := by rfl) (ho : oneCells vs = true := by rfl) : GE P n ops Q ((i, m + 2) :: rest) e w := ge_set hS hs hj ho k
end
end Go.Proofs.Ytchcdadpahakfaa.GV
