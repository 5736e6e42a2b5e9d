/-
  NARROWER THAN 'FOR EVERY INPUT', by the rows' own cells (each row's printed sentence says how): MeaningRuns: loops · MeaningJoins: loops · CompileMeans: loops.
  DERIVED. THE GIVEN ROWS OF THIS SEAT. 3 by the template 'for every input the law returns true; each argument reads behind the call as it read before'; 0 by the template 'total and deterministic' (their statements: YtcjphfmmmlgcbaaTotals.lean).
  GIVEN WITH THE SEED: the statements are not yours to turn. If you find one false, say at which input.
  Laid BY PROGRAM, IN A SANDBOX (cutbox-rows.mjs): the forced cells as the released guide's own fill.sh prints them over the translation 0f5a6485ad854f4d… (all of the seat's roots in one cut). By AI agents, Wed Nov 11 2026. No macro, syntax, notation, axiom, sorry.
-/
import Derived.Test.YtcjphfmmmlgcbaaChecked
import GoSem.Claim
import GoSem.ClaimJoined
import GoSem.ClaimMapViews
import Derived.JoinedTies
import Derived.KernelRfl
namespace Go.Proofs.Ytcjphfmmmlgcbaa
/- THE CELL 'sum', in the pinned program and in every row, IS THE sha256 OF THE DUMP (.gsa) THAT YtcjphfmmmlgcbaaProg.lean LOADS. Nothing in Lean hashes anything: it is a label: what it is worth is what the hold of that sum in a sandbox is worth. -/
noncomputable def Try.pinned : Pinned := { name := "ytcjphfmmmlgcbaa", sum := "0f5a6485ad854f4d7b73fcb45ad8cf10803bfeb8a45f4d1127de791ee5515ad7", checked := Try.checked }
namespace Rows
def none {H : Type} : Left H := { results := [], args := [] }

/-- 'punctuallaw.MeaningRuns': WHATEVER THE INPUT: true; the input reads as it did. -/
def meaningRunsSpec : ChangeSpec := { name := "meaningRuns", fn := fun _ => fun
  | [d1, d2, d3] => { results := [.lit (.bool true)], args := [d1, d2, d3] }
  | _ => none }
def meaningRunsRow : OpenClaim := { program := "ytcjphfmmmlgcbaa", sum := "0f5a6485ad854f4d7b73fcb45ad8cf10803bfeb8a45f4d1127de791ee5515ad7", func := "punctual/punctuallaw.MeaningRuns", spec := "meaningRuns", unfollowed := true, recurses := true, loops := true, apart := false }
def MeaningRunsSaid : Prop := meaningRunsRow.holds Try.pinned (OpenSpec.ofChange meaningRunsSpec)

/-- ITS FALSE NEIGHBOUR: 'it returns false'. Refute it at one input. -/
def meaningRunsWrong : ChangeSpec := { name := "meaningRuns", fn := fun _ => fun
  | [d1, d2, d3] => { results := [.lit (.bool false)], args := [d1, d2, d3] }
  | _ => none }
def MeaningRunsWrongFalsely : Prop := meaningRunsRow.holds Try.pinned (OpenSpec.ofChange meaningRunsWrong)

/-- 'punctuallaw.MeaningJoins': WHATEVER THE INPUT: true; the input reads as it did. -/
def meaningJoinsSpec : ChangeSpec := { name := "meaningJoins", fn := fun _ => fun
  | [d1, d2, d3, d4] => { results := [.lit (.bool true)], args := [d1, d2, d3, d4] }
  | _ => none }
def meaningJoinsRow : OpenClaim := { program := "ytcjphfmmmlgcbaa", sum := "0f5a6485ad854f4d7b73fcb45ad8cf10803bfeb8a45f4d1127de791ee5515ad7", func := "punctual/punctuallaw.MeaningJoins", spec := "meaningJoins", unfollowed := true, recurses := true, loops := true, apart := false }
def MeaningJoinsSaid : Prop := meaningJoinsRow.holds Try.pinned (OpenSpec.ofChange meaningJoinsSpec)

/-- ITS FALSE NEIGHBOUR: 'it returns false'. Refute it at one input. -/
def meaningJoinsWrong : ChangeSpec := { name := "meaningJoins", fn := fun _ => fun
  | [d1, d2, d3, d4] => { results := [.lit (.bool false)], args := [d1, d2, d3, d4] }
  | _ => none }
def MeaningJoinsWrongFalsely : Prop := meaningJoinsRow.holds Try.pinned (OpenSpec.ofChange meaningJoinsWrong)

/-- 'punctuallaw.CompileMeans': WHATEVER THE INPUT: true; the input reads as it did. -/
def compileMeansSpec : ChangeSpec := { name := "compileMeans", fn := fun _ => fun
  | [d1, d2, d3] => { results := [.lit (.bool true)], args := [d1, d2, d3] }
  | _ => none }
def compileMeansRow : OpenClaim := { program := "ytcjphfmmmlgcbaa", sum := "0f5a6485ad854f4d7b73fcb45ad8cf10803bfeb8a45f4d1127de791ee5515ad7", func := "punctual/punctuallaw.CompileMeans", spec := "compileMeans", unfollowed := true, recurses := true, loops := true, apart := false }
def CompileMeansSaid : Prop := compileMeansRow.holds Try.pinned (OpenSpec.ofChange compileMeansSpec)

/-- ITS FALSE NEIGHBOUR: 'it returns false'. Refute it at one input. -/
def compileMeansWrong : ChangeSpec := { name := "compileMeans", fn := fun _ => fun
  | [d1, d2, d3] => { results := [.lit (.bool false)], args := [d1, d2, d3] }
  | _ => none }
def CompileMeansWrongFalsely : Prop := compileMeansRow.holds Try.pinned (OpenSpec.ofChange compileMeansWrong)

/- THE SECOND FORM. 'bulk': how many values and letters a reading holds, each counted each time it is reached (what is shared counts as often as it is met; a slice's spare places count too). A statement '..UptoSaid' is the law's where the arguments, and the package variables that the reading takes, are together of bulk at most 1048576: NARROWER than '..Said'. Prove '..Said' where nothing that the law and all that it calls make is longer than what came in: it says more and counts as full. Else prove '..UptoSaid'. A law counts once. -/
mutual
def uptoBulk {H : Type} : DataW H → Nat
  | .lit (.string bytes) => bytes.length + 1
  | .lit _ => 1
  | .nil => 1
  | .ptr d => uptoBulk d + 1
  | .slice elems spare => uptoBulkAll elems + uptoBulkAll spare + 1
  | .agg parts => uptoBulkAll parts + 1
  | .iface _ d => uptoBulk d + 1
  | .map entries => uptoBulkEntries entries + 1
  | .held _ => 1
def uptoBulkAll {H : Type} : List (DataW H) → Nat
  | [] => 0
  | d :: r => uptoBulk d + uptoBulkAll r
def uptoBulkEntries {H : Type} : List (Lit × DataW H) → Nat
  | [] => 0
  | x :: r => uptoBulkEntry x + uptoBulkEntries r
def uptoBulkEntry {H : Type} : Lit × DataW H → Nat
  | (.string bytes, d) => bytes.length + uptoBulk d + 1
  | (_, d) => uptoBulk d + 1
 end
def uptoSmall : (H : Type) → List (DataW H) → Bool := fun _ ds => decide (uptoBulkAll ds ≤ 1048576)
def OpenSpec.upto (s : _root_.Go.ChangeSpec) : _root_.Go.OpenSpec := { _root_.Go.OpenSpec.ofChange s with cond := some uptoSmall }

/-- 'punctuallaw.MeaningRuns', WHERE WHAT IT READS IS OF BULK AT MOST 1048576: true; the input reads as it did. -/
def meaningRunsUptoRow : OpenClaim := { program := "ytcjphfmmmlgcbaa", sum := "0f5a6485ad854f4d7b73fcb45ad8cf10803bfeb8a45f4d1127de791ee5515ad7", func := "punctual/punctuallaw.MeaningRuns", spec := "meaningRuns", unfollowed := true, recurses := true, loops := true, apart := false, narrowed := true }
def MeaningRunsUptoSaid : Prop := meaningRunsUptoRow.holds Try.pinned (OpenSpec.upto meaningRunsSpec)

/-- 'punctuallaw.MeaningJoins', WHERE WHAT IT READS IS OF BULK AT MOST 1048576: true; the input reads as it did. -/
def meaningJoinsUptoRow : OpenClaim := { program := "ytcjphfmmmlgcbaa", sum := "0f5a6485ad854f4d7b73fcb45ad8cf10803bfeb8a45f4d1127de791ee5515ad7", func := "punctual/punctuallaw.MeaningJoins", spec := "meaningJoins", unfollowed := true, recurses := true, loops := true, apart := false, narrowed := true }
def MeaningJoinsUptoSaid : Prop := meaningJoinsUptoRow.holds Try.pinned (OpenSpec.upto meaningJoinsSpec)

/-- 'punctuallaw.CompileMeans', WHERE WHAT IT READS IS OF BULK AT MOST 1048576: true; the input reads as it did. -/
def compileMeansUptoRow : OpenClaim := { program := "ytcjphfmmmlgcbaa", sum := "0f5a6485ad854f4d7b73fcb45ad8cf10803bfeb8a45f4d1127de791ee5515ad7", func := "punctual/punctuallaw.CompileMeans", spec := "compileMeans", unfollowed := true, recurses := true, loops := true, apart := false, narrowed := true }
def CompileMeansUptoSaid : Prop := compileMeansUptoRow.holds Try.pinned (OpenSpec.upto compileMeansSpec)

end Rows
end Go.Proofs.Ytcjphfmmmlgcbaa
