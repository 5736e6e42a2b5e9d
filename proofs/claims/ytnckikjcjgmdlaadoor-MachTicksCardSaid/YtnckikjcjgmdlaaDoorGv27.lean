/- The walker's core, 27th part: maps that may be nil among what is handed back. Written for this work. -/
import Derived.Test.YtnckikjcjgmdlaaDoorGv26
namespace Go.Proofs.YtnckikjcjgmdlaaDoor.GV
open Go Go.RowKit
set_option linter.unusedVariables false
set_option linter.unusedSimpArgs false
def Own.mapv {κ ν : Type} [MKey κ] [Flat ν] (v : Option Nat) (m : List (κ × ν)) : Own := match v with
  | some b => Own.map b m
  | none => Own.only (m = [])
theorem St.nilMap {κ ν : Type} [MKey κ] [Flat ν] {w0 w : World} {L : List Own} (h : St w0 w L) : St w0 w (Own.mapv (κ := κ) (ν := ν) none [] :: L) := h.only rfl
end Go.Proofs.YtnckikjcjgmdlaaDoor.GV
