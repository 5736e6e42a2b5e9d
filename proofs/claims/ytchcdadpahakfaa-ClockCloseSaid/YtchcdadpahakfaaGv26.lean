/- The walker's core, 26th part: functions that change a row of their caller's. Written for this work. -/
import Derived.Test.YtchcdadpahakfaaGv25
namespace Go.Proofs.Ytchcdadpahakfaa.GV
open Go Go.RowKit
set_option linter.unusedVariables false
set_option linter.unusedSimpArgs false
end Go.Proofs.Ytchcdadpahakfaa.GV
