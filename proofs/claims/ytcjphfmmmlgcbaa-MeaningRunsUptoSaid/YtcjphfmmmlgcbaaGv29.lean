/- The walker's core, 29th part: arrays that are stored into by place; maps known by what they answer. Written for this work. -/
import Derived.Test.YtcjphfmmmlgcbaaGv28
namespace Go.Proofs.Ytcjphfmmmlgcbaa.GV
open Go Go.RowKit
set_option linter.unusedVariables false
set_option linter.unusedSimpArgs false
section
variable {P : Program} {n : Nat} {ops : Array Oper} {Q : Exit → Act → World → Prop} [Dfs]
end
section
variable {P : Program} {n : Nat} {ops : Array Oper} [Dfs]
end
theorem mget_mset {κ ν : Type} [DecidableEq κ] (m : List (κ × ν)) (k k' : κ) (v : ν) : mget (mset m k v) k' = if k' = k then some v else mget m k' := by
  induction m with
  | nil => simp only [mset, mget]
  | cons a r ih =>
    obtain ⟨a, b⟩ := a
    simp only [mset]
    by_cases h : k = a
    · subst h
      simp only [if_true, mget]
      by_cases h2 : k' = k
      · rw [if_pos h2, if_pos h2]
      · rw [if_neg h2, if_neg h2, if_neg h2]
    · rw [if_neg h]
      simp only [mget, ih]
      by_cases h2 : k' = a
      · rw [if_pos h2, if_neg (fun e => h (e.symm.trans h2)), if_pos h2]
      · rw [if_neg h2, if_neg h2]
section
variable {P : Program} {n : Nat} {ops : Array Oper} {Q : Exit → Act → World → Prop} [Dfs]
end
end Go.Proofs.Ytcjphfmmmlgcbaa.GV
