/- The plain law of Names: what it computes is true. -/
import Derived.Test.YtnckikjcjgmdlaaGN
namespace Go.Proofs.Ytnckikjcjgmdlaa.GV
open Go Go.RowKit
theorem Names_law : ∃ K, Names.f K = some true := ⟨20, by kernel_rfl⟩
end Go.Proofs.Ytnckikjcjgmdlaa.GV
