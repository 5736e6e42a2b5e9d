/- The walker's core, 35th part: rows of pointers of which each is known. Written for this work. -/
import Derived.Test.YtnckikjcjgmdlaaDoorGv34
namespace Go.Proofs.YtnckikjcjgmdlaaDoor.GV
open Go Go.RowKit
set_option linter.unusedVariables false
set_option linter.unusedSimpArgs false
/-- a pointer to a block, or none -/
structure Pt where
  b : Option Nat
instance : Flat Pt := ⟨1, fun x => [.pointer (x.b.map fun b => ⟨b, 0, none⟩)], fun _ => rfl, fun _ => rfl, by decide⟩
/-- the front of a row alone -/
theorem St.cutN {α : Type} [Flat α] {w0 w : World} {L : List Own} {A : Option Addr} {c e : Nat} {l : List α} (h : St w0 w (Own.of (.slice A l.length c) e l :: L)) (k : Nat) (hk : k ≤ l.length) : St w0 w (Own.of (.slice A k c) e (l.take k) :: L) := by
  have h1 := h.shrink k
  rwa [List.length_take, Nat.min_eq_left hk] at h1
end Go.Proofs.YtnckikjcjgmdlaaDoor.GV
