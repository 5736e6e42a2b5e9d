/- The walker's core, 22nd part: rows of rows as arguments of a row. Written for this work. -/
import Derived.Test.YtnckikjcjgmdlaaDoorGv21
namespace Go.Proofs.YtnckikjcjgmdlaaDoor.GV
open Go Go.RowKit Go.ChangeShapes Go.WideShapes
set_option linter.unusedVariables false
set_option linter.unusedSimpArgs false
section
variable {H : Type} {enc : TypeId × Value → H} {P : Program} {w : World} {base : Nat} {spare : Nat → Bool} {held : Bool}
end
end Go.Proofs.YtnckikjcjgmdlaaDoor.GV
