/- The walker's core, 27th part: maps that may be nil among what is handed back. Written for this work. -/
import Derived.Test.YtchcdadpahakfaaGv26
namespace Go.Proofs.Ytchcdadpahakfaa.GV
open Go Go.RowKit
set_option linter.unusedVariables false
set_option linter.unusedSimpArgs false
end Go.Proofs.Ytchcdadpahakfaa.GV
