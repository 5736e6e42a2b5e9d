/- The walker's core, twelfth part: strings ranged over. Written for this work. -/
import Derived.Test.YtchcdadpahakfaaGv11
namespace Go.Proofs.Ytchcdadpahakfaa.GV
open Go Go.RowKit
set_option linter.unusedVariables false
set_option linter.unusedSimpArgs false
section
variable {P : Program} {n : Nat} {ops : Array Oper} {Q : Exit → Act → World → Prop} [Dfs]
end
end Go.Proofs.Ytchcdadpahakfaa.GV
