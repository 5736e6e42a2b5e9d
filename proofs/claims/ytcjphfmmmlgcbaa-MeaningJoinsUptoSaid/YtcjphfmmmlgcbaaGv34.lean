/- The walker's core, 34th part: more short words. Written for this work. -/
import Derived.Test.YtcjphfmmmlgcbaaGv33
namespace Go.Proofs.Ytcjphfmmmlgcbaa.GV
open Go Go.RowKit
set_option linter.unusedVariables false
set_option linter.unusedSimpArgs false
theorem St.b {w0 w : World} {L : List Own} (h : St w0 w L) (m : Nat) {r : Own} (hm : L[m]? = some r := by rfl) : St w0 w (r :: L.eraseIdx m) := h.bring m hm
section
variable {P : Program} {n : Nat} {ops : Array Oper} {al : List Al} {Q : Exit → Act → World → Prop} [Dfs]
theorem g2 {r : Ord} {i : Nat} {K : Act → World → Prop} {e : Env} {w w' : World} (hK : ∀ e w', RS (Sof3 ops al i) w w' → GO3 P n ops al Q r e w' → KE n K e w') (h : GO3 P n ops al Q r e w') (hS : Sof3 ops al i = didAddrs [] := by kernel_rfl) : GE P n ops (Exit.then K Q) [] e w' :=
  ge_nil fun a hF => hK _ _ (RS.of2 (l := []) hS trivial trivial) h a hF
theorem g30 {r : Ord} (is : List Nat) (vs : Env) {e : Env} {w : World} (k : GO3 P n ops al Q r (vs ++ e) w) (h : batch P n ops is e [] = some (vs ++ e, []) := by kernel_rfl) : GO3 P n ops al Q (nestV is r) e w := go3_batch is h trivial mem_nil3 k
theorem g3 {r : Ord} (i : Nat) (vs : Env) (l : List Did) {e : Env} {w : World} (hl : Loads l w) (k : GO3 P n ops al Q r (vs ++ e) w) (h : batch P n ops [i] e (ansOf l) = some (vs ++ e, l) := by kernel_rfl) (hm : adr3 al i = didAddrs l := by kernel_rfl) : GO3 P n ops al Q (nestV [i] r) e w :=
  go3_batch [i] h hl (mem_one3 hm) k
end
end Go.Proofs.Ytcjphfmmmlgcbaa.GV
