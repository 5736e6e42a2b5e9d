/- The walker's core, seventeenth part: plain words on rounds: the first place at which something is said. Written for this work. -/
import Derived.Test.YtnckikjcjgmdlaaGv16
namespace Go.Proofs.Ytnckikjcjgmdlaa.GV
open Go Go.RowKit
set_option linter.unusedVariables false
set_option linter.unusedSimpArgs false
/-- out of rounds: with what was said, or at their end -/
def leave {τ ρ : Type} (t : τ) : Option ρ → τ ⊕ ρ
  | none => .inl t
  | some r => .inr r
end Go.Proofs.Ytnckikjcjgmdlaa.GV
