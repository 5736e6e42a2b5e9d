/- The walker's core, eighteenth part: the greater and the lesser. Written for this work. -/
import Derived.Test.YtchcdadpahakfaaGv16
namespace Go.Proofs.Ytchcdadpahakfaa.GV
open Go Go.RowKit
set_option linter.unusedVariables false
set_option linter.unusedSimpArgs false
def gmax (x y : Int) : Int := if y > x then y else x
def gmin (x y : Int) : Int := if y < x then y else x
end Go.Proofs.Ytchcdadpahakfaa.GV
