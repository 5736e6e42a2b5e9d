/- The walker's core, eighteenth part: the greater and the lesser. Written for this work. -/
import Derived.Test.YtcjphfmmmlgcbaaGv16
namespace Go.Proofs.Ytcjphfmmmlgcbaa.GV
open Go Go.RowKit
set_option linter.unusedVariables false
set_option linter.unusedSimpArgs false
def gmax (x y : Int) : Int := if y > x then y else x
theorem RdL.nil_of {α : Type} [Flat α] {w : World} {l : List α} (h : RdL w none l) : l = [] := by
  cases l with
  | nil => rfl
  | cons x l => obtain ⟨b, o, h⟩ := h.at_ (by simp); cases h
end Go.Proofs.Ytcjphfmmmlgcbaa.GV
