/- The walker's core, 35th part: rows of pointers of which each is known. Written for this work. -/
import Derived.Test.YtcjphfmmmlgcbaaGv34
namespace Go.Proofs.Ytcjphfmmmlgcbaa.GV
open Go Go.RowKit
set_option linter.unusedVariables false
set_option linter.unusedSimpArgs false
/-- a pointer to a block, or none -/
structure Pt where
  b : Option Nat
instance : Flat Pt := ⟨1, fun x => [.pointer (x.b.map fun b => ⟨b, 0, none⟩)], fun _ => rfl, fun _ => rfl, by decide⟩
end Go.Proofs.Ytcjphfmmmlgcbaa.GV
