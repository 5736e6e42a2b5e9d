/- The walker's core, 33rd part: where orders meet again. Written for this work. -/
import Derived.Test.YtchcdadpahakfaaGv32
namespace Go.Proofs.Ytchcdadpahakfaa.GV
open Go Go.RowKit
set_option linter.unusedVariables false
set_option linter.unusedSimpArgs false
section
variable {P : Program} {n : Nat} {ops : Array Oper} {al : List Al} {Q : Exit → Act → World → Prop} [Dfs]
end
/-- the cells of a block that is owned, spelt out -/
theorem St.nc {w0 w : World} {L : List Own} {b : Nat} {cs : Array Value} {t : TypeId} {fr : Nat × Nat} (h : St w0 w (Own.blk b (.cells cs t fr) :: L)) (cs' : Array Value) (e : cs = cs') : St w0 w (Own.blk b (.cells cs' t fr) :: L) := e ▸ h
end Go.Proofs.Ytchcdadpahakfaa.GV
