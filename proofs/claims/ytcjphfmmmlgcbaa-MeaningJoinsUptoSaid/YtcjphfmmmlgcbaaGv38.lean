/- The walker's core, 38th part: strings put together and cut. Written for this work. -/
import Derived.Test.YtcjphfmmmlgcbaaGv37
namespace Go.Proofs.Ytcjphfmmmlgcbaa.GV
open Go Go.RowKit
set_option linter.unusedVariables false
set_option linter.unusedSimpArgs false
section
variable {P : Program} {n : Nat} {ops : Array Oper} {Q : Exit → Act → World → Prop} [Dfs]
end
end Go.Proofs.Ytcjphfmmmlgcbaa.GV
