/- The walker's core, 24th part: a part of a slice, in a region of several orders. Written for this work. -/
import Derived.Test.YtchcdadpahakfaaGv23
namespace Go.Proofs.Ytchcdadpahakfaa.GV
open Go Go.RowKit
set_option linter.unusedVariables false
set_option linter.unusedSimpArgs false
section
variable {P : Program} {n : Nat} {ops : Array Oper} {al : List (Nat × List Addr)} {Q : Exit → Act → World → Prop} [Dfs]
end
end Go.Proofs.Ytchcdadpahakfaa.GV
