/- The plain law of MachCosts: what it computes is true, of any instruction. -/
import Derived.Test.YtnckikjcjgmdlaaGD
import Derived.Test.YtnckikjcjgmdlaaGv9
namespace Go.Proofs.Ytnckikjcjgmdlaa.GV
open Go Go.RowKit
theorem MachCosts_law (a b c : Int) (over : Bool) : MachCosts.f a b c over = true := by
  have h0 : Cost.f 6 0 0 false = 3 := by simp [Cost.f]
  unfold MachCosts.f
  rw [if_pos h0]
  split
  · rename_i h
    have : Cost.f a b c over = 1 := by
      unfold Cost.f
      rw [if_neg (by omega), if_neg (by omega), if_neg (by omega), if_neg (by omega), if_neg (by omega), if_neg (by omega), if_neg (by omega)]
    simp [this]
  · split
    · rename_i h
      have : Cost.f a b c over = 1 := by
        unfold Cost.f
        rw [if_neg (by omega), if_neg (by omega), if_neg (by omega), if_neg (by omega), if_neg (by omega), if_neg (by omega), if_neg (by omega)]
      simp [this]
    · have : Cost.f a b c over = Ticks.f a b c over := by
        unfold Cost.f Ticks.f
        cases over <;> simp
        all_goals (repeat' split) <;> first | rfl | omega
      simp [this]
end Go.Proofs.Ytnckikjcjgmdlaa.GV
