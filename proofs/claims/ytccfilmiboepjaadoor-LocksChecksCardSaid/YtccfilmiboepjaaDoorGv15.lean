/- The walker's core, fifteenth part: arrays by place. Written for this work. -/
import Derived.Test.YtccfilmiboepjaaDoorGv14
namespace Go.Proofs.YtccfilmiboepjaaDoor.GV
open Go Go.RowKit
set_option linter.unusedVariables false
set_option linter.unusedSimpArgs false
section
variable {P : Program} {n : Nat} {ops : Array Oper} {Q : Exit → Act → World → Prop}
end
end Go.Proofs.YtccfilmiboepjaaDoor.GV
