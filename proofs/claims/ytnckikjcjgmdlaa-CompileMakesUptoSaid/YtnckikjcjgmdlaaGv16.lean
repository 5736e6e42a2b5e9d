/- The walker's core, sixteenth part: a row's arguments opened, their sizes known. Written for this work. -/
import Derived.Test.YtnckikjcjgmdlaaGv15
namespace Go.Proofs.Ytnckikjcjgmdlaa.GV
open Go Go.RowKit Go.ChangeShapes Go.WideShapes
set_option linter.unusedVariables false
set_option linter.unusedSimpArgs false
/-- what every value of a type is -/
class Ok (α : Type) where
  ok : α → Prop
abbrev In64 (n : Int) : Prop := -9223372036854775808 ≤ n ∧ n ≤ 9223372036854775807
abbrev Small (s : ByteArray) : Prop := s.size ≤ 9223372036854775807
instance : Ok Int := ⟨In64⟩
instance : Ok Bool := ⟨fun _ => True⟩
instance : Ok ByteArray := ⟨Small⟩
def CK.fits2 : CK → Value → Prop
  | .int k, v => ∃ n, v = .int k n ∧ (Lit.int k n).wf = true
  | .bool, v => ∃ b, v = .bool b
  | .str, v => ∃ s, v = .string s ∧ s.size ≤ maxLen
theorem In64.of_wf {n : Int} (h : (Lit.int .i64 n).wf = true) : In64 n := by
  simp only [Lit.wf, Bool.and_eq_true, decide_eq_true_eq] at h
  have h1 : IntKind.i64.min = -9223372036854775808 := by decide
  have h2 : IntKind.i64.max = 9223372036854775807 := by decide
  rw [h1, h2] at h
  exact h
section
variable {H : Type} {enc : TypeId × Value → H} {P : Program} {w : World} {base : Nat} {spare : Nat → Bool} {held : Bool}
end
end Go.Proofs.Ytnckikjcjgmdlaa.GV
