/- The walker's core, seventh part: rows appended to rows; slices of slices; rows lent. Written for this work. -/
import Derived.Test.YtchcdadpahakfaaGv6
import Derived.Laws.StructEq
namespace Go.Proofs.Ytchcdadpahakfaa.GV
open Go Go.RowKit
set_option linter.unusedVariables false
set_option linter.unusedSimpArgs false

section
variable {P : Program} {n : Nat} {ops : Array Oper} {Q : Exit → Act → World → Prop} [Dfs]
end

section
variable {P : Program}
end
section
variable {P : Program} {n : Nat} {ops : Array Oper} {Q : Exit → Act → World → Prop} [Dfs]
end
theorem RdL.pre {α : Type} [Flat α] {w : World} {A : Option Addr} {l r : List α} (h : RdL w A (l ++ r)) : RdL w A l := by
  refine ⟨by have := h.small; simp at this; omega, fun hn => h.at_ (by simp; omega), fun b o e i j hi hj => ?_⟩
  have := Rd.cell h b o e i j (by simp; omega) hj
  rw [this]
  simp only [flatF]
  rw [List.getElem?_append_left hi]
/-- what a package-level variable holds -/
def Glob (w : World) (g : Nat) (cs : List Value) : Prop := ∀ j v, cs[j]? = some v → w.cell? ⟨g, j, none⟩ = some v
theorem St.glob {w0 w : World} {L : List Own} (h : St w0 w L) {g : Nat} {cs : List Value} (hg : Glob w0 g cs) {j : Nat} {v : Value} (hj : cs[j]? = some v) : w.cell? ⟨g, j, none⟩ = some v := by
  have h0 := hg j v hj
  rw [h.below.cell (World.block_lt_of_cell? w0 _ h0)]
  exact h0
theorem Glob.ext {w w' : World} {g : Nat} {cs : List Value} (hg : Glob w g cs) (k : Ext w w') : Glob w' g cs := fun j v hj => by
  have h0 := hg j v hj
  rw [k.cell (World.block_lt_of_cell? w _ h0)]
  exact h0
end Go.Proofs.Ytchcdadpahakfaa.GV
