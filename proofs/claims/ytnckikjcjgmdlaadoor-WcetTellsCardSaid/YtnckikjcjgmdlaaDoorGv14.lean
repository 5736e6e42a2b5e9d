/- The walker's core, fourteenth part: letters of strings; places of arrays. Written for this work. -/
import Derived.Test.YtnckikjcjgmdlaaDoorGv13
namespace Go.Proofs.YtnckikjcjgmdlaaDoor.GV
open Go Go.RowKit
set_option linter.unusedVariables false
set_option linter.unusedSimpArgs false
section
variable {P : Program} {n : Nat} {ops : Array Oper} {Q : Exit → Act → World → Prop}
end
end Go.Proofs.YtnckikjcjgmdlaaDoor.GV
