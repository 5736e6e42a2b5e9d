/- The walker's core, 23rd part: rows of rows that are owned. Written for this work. -/
import Derived.Test.YtcjphfmmmlgcbaaGv22
namespace Go.Proofs.Ytcjphfmmmlgcbaa.GV
open Go Go.RowKit
set_option linter.unusedVariables false
set_option linter.unusedSimpArgs false
/-- a row of rows: its head, and the heads of its rows -/
structure Rows where
  A : Option Addr
  n : Nat
  c : Nat
  hs : List Hdr
def Rows.val (x : Rows) : Value := .slice x.A x.n x.c
def Rows.none : Rows := ⟨Option.none, 0, 0, []⟩
def Rows.put (x : Rows) (t : Nat) (A : Option Addr) (n c : Nat) : Rows := ⟨x.A, x.n, x.c, x.hs.set t ⟨A, n, c⟩⟩
/-- a plain fact beside what is owned -/
def Own.only (P : Prop) : Own := ⟨[], fun _ => P, fun _ _ _ h => h⟩
theorem St.only {w0 w : World} {L : List Own} {P : Prop} (h : St w0 w L) (p : P) : St w0 w (Own.only P :: L) := by
  refine ⟨h.below, fun r hr => ?_, fun r hr b hb => ?_, List.Pairwise.cons (fun s _ b hb => ?_) h.apart⟩
  · rcases List.mem_cons.1 hr with rfl | hr
    · exact p
    · exact h.holds r hr
  · rcases List.mem_cons.1 hr with rfl | hr
    · simp [Own.only] at hb
    · exact h.base r hr b hb
  · simp [Own.only] at hb
section
variable {P : Program} {n : Nat} {ops : Array Oper} {Q : Exit → Act → World → Prop} [Dfs]
end
end Go.Proofs.Ytcjphfmmmlgcbaa.GV
