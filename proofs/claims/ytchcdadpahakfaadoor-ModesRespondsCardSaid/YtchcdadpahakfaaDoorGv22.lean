/- The walker's core, 22nd part: rows of rows as arguments of a row. Written for this work. -/
import Derived.Test.YtchcdadpahakfaaDoorGv21
namespace Go.Proofs.YtchcdadpahakfaaDoor.GV
open Go Go.RowKit Go.ChangeShapes Go.WideShapes
set_option linter.unusedVariables false
set_option linter.unusedSimpArgs false
section
variable {H : Type} {enc : TypeId × Value → H} {P : Program} {w : World} {base : Nat} {spare : Nat → Bool} {held : Bool}
end
end Go.Proofs.YtchcdadpahakfaaDoor.GV
