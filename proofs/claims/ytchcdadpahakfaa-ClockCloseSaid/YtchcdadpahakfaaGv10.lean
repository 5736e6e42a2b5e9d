/- The walker's core, tenth part: values that don't look at the world, in regions of several orders. Written for this work (statements by program from the third, fourth and seventh part). -/
import Derived.Test.YtchcdadpahakfaaGv9
namespace Go.Proofs.Ytchcdadpahakfaa.GV
open Go Go.RowKit
set_option linter.unusedVariables false
set_option linter.unusedSimpArgs false
section
variable {P : Program} {n : Nat} {ops : Array Oper} {S : List Addr} {Q : Exit → Act → World → Prop} [Dfs]
def nestV : List Nat → Ord → Ord
  | [], r => r
  | i :: l, r => .vals [i] (nestV l r)
end
end Go.Proofs.Ytchcdadpahakfaa.GV
