/- The walker's core, 26th part: functions that change a row of their caller's. Written for this work. -/
import Derived.Test.YtchcdadpahakfaaGv25
namespace Go.Proofs.Ytchcdadpahakfaa.GV
open Go Go.RowKit
set_option linter.unusedVariables false
set_option linter.unusedSimpArgs false
/-- all behind the first n as one -/
theorem St.packN {w0 w : World} {L : List Own} (h : St w0 w L) (n : Nat) : St w0 w (L.take n ++ [Own.all (L.drop n)]) := by
  have h1 : St w0 w (L.drop n ++ L.take n) := by
    refine h.perm ?_
    have h0 : L.Perm (L.take n ++ L.drop n) := by rw [List.take_append_drop]
    exact h0.trans List.perm_append_comm
  refine h1.gather.perm ?_
  exact List.perm_append_comm (l₁ := [Own.all (L.drop n)]) (l₂ := L.take n)
theorem St.unpack {w0 w : World} (pre : List Own) {R : List Own} (h : St w0 w (pre ++ [Own.all R])) : St w0 w (pre ++ R) := by
  have h1 : St w0 w (Own.all R :: pre) := h.perm (List.perm_append_comm (l₁ := pre) (l₂ := [Own.all R]))
  exact h1.spread.perm List.perm_append_comm
end Go.Proofs.Ytchcdadpahakfaa.GV
