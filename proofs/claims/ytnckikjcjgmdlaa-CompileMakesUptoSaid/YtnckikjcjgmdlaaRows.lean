/-
  NARROWER THAN 'FOR EVERY INPUT', by the rows' own cells (each row's printed sentence says how): BodyChecks: loops · MeaningRuns: loops · MeaningJoins: loops · CompileMakes: loops.
  DERIVED. THE GIVEN ROWS OF THIS SEAT. 8 by the template 'for every input the law returns true; each argument reads behind the call as it read before'; 0 by the template 'total and deterministic' (their statements: YtnckikjcjgmdlaaTotals.lean).
  GIVEN WITH THE SEED: the statements are not yours to turn. If you find one false, say at which input.
  Laid BY PROGRAM, IN A SANDBOX (cutbox-rows.mjs): the forced cells as the released guide's own fill.sh prints them over the translation 9b1a2ff9df3ab8fa… (all of the seat's roots in one cut). By AI agents, Wed Nov 11 2026. No macro, syntax, notation, axiom, sorry.
-/
import Derived.Test.YtnckikjcjgmdlaaChecked
import GoSem.Claim
import GoSem.ClaimJoined
import GoSem.ClaimMapViews
import Derived.JoinedTies
import Derived.KernelRfl
namespace Go.Proofs.Ytnckikjcjgmdlaa
/- THE CELL 'sum', in the pinned program and in every row, IS THE sha256 OF THE DUMP (.gsa) THAT YtnckikjcjgmdlaaProg.lean LOADS. Nothing in Lean hashes anything: it is a label: what it is worth is what the hold of that sum in a sandbox is worth. -/
noncomputable def Try.pinned : Pinned := { name := "ytnckikjcjgmdlaa", sum := "9b1a2ff9df3ab8fa4aaa885a22b468f800bd2fc9c3f26eb4101770ee3b9dc41e", checked := Try.checked }
namespace Rows
def none {H : Type} : Left H := { results := [], args := [] }

/-- 'punctuallaw.Names': WHATEVER THE INPUT: true; the input reads as it did. -/
def namesSpec : ChangeSpec := { name := "names", fn := fun _ => fun
  | [] => { results := [.lit (.bool true)], args := [] }
  | _ => none }
def namesRow : OpenClaim := { program := "ytnckikjcjgmdlaa", sum := "9b1a2ff9df3ab8fa4aaa885a22b468f800bd2fc9c3f26eb4101770ee3b9dc41e", func := "punctual/punctuallaw.Names", spec := "names", apart := false }
def NamesSaid : Prop := namesRow.holds Try.pinned (OpenSpec.ofChange namesSpec)

/-- ITS FALSE NEIGHBOUR: 'it returns false'. Refute it at one input. -/
def namesWrong : ChangeSpec := { name := "names", fn := fun _ => fun
  | [] => { results := [.lit (.bool false)], args := [] }
  | _ => none }
def NamesWrongFalsely : Prop := namesRow.holds Try.pinned (OpenSpec.ofChange namesWrong)

/-- 'punctuallaw.MachCosts': WHATEVER THE INPUT: true; the input reads as it did. -/
def machCostsSpec : ChangeSpec := { name := "machCosts", fn := fun _ => fun
  | [d1, d2] => { results := [.lit (.bool true)], args := [d1, d2] }
  | _ => none }
def machCostsRow : OpenClaim := { program := "ytnckikjcjgmdlaa", sum := "9b1a2ff9df3ab8fa4aaa885a22b468f800bd2fc9c3f26eb4101770ee3b9dc41e", func := "punctual/punctuallaw.MachCosts", spec := "machCosts", apart := false }
def MachCostsSaid : Prop := machCostsRow.holds Try.pinned (OpenSpec.ofChange machCostsSpec)

/-- ITS FALSE NEIGHBOUR: 'it returns false'. Refute it at one input. -/
def machCostsWrong : ChangeSpec := { name := "machCosts", fn := fun _ => fun
  | [d1, d2] => { results := [.lit (.bool false)], args := [d1, d2] }
  | _ => none }
def MachCostsWrongFalsely : Prop := machCostsRow.holds Try.pinned (OpenSpec.ofChange machCostsWrong)

/-- 'punctuallaw.FracMultiples': WHATEVER THE INPUT: true; the input reads as it did. -/
def fracMultiplesSpec : ChangeSpec := { name := "fracMultiples", fn := fun _ => fun
  | [d1, d2, d3, d4] => { results := [.lit (.bool true)], args := [d1, d2, d3, d4] }
  | _ => none }
def fracMultiplesRow : OpenClaim := { program := "ytnckikjcjgmdlaa", sum := "9b1a2ff9df3ab8fa4aaa885a22b468f800bd2fc9c3f26eb4101770ee3b9dc41e", func := "punctual/punctuallaw.FracMultiples", spec := "fracMultiples", recurses := true, apart := false }
def FracMultiplesSaid : Prop := fracMultiplesRow.holds Try.pinned (OpenSpec.ofChange fracMultiplesSpec)

/-- ITS FALSE NEIGHBOUR: 'it returns false'. Refute it at one input. -/
def fracMultiplesWrong : ChangeSpec := { name := "fracMultiples", fn := fun _ => fun
  | [d1, d2, d3, d4] => { results := [.lit (.bool false)], args := [d1, d2, d3, d4] }
  | _ => none }
def FracMultiplesWrongFalsely : Prop := fracMultiplesRow.holds Try.pinned (OpenSpec.ofChange fracMultiplesWrong)

/-- 'punctuallaw.BodyChecks': WHATEVER THE INPUT: true; the input reads as it did. -/
def bodyChecksSpec : ChangeSpec := { name := "bodyChecks", fn := fun _ => fun
  | [d] => { results := [.lit (.bool true)], args := [d] }
  | _ => none }
def bodyChecksRow : OpenClaim := { program := "ytnckikjcjgmdlaa", sum := "9b1a2ff9df3ab8fa4aaa885a22b468f800bd2fc9c3f26eb4101770ee3b9dc41e", func := "punctual/punctuallaw.BodyChecks", spec := "bodyChecks", unfollowed := true, recurses := true, loops := true, apart := false }
def BodyChecksSaid : Prop := bodyChecksRow.holds Try.pinned (OpenSpec.ofChange bodyChecksSpec)

/-- ITS FALSE NEIGHBOUR: 'it returns false'. Refute it at one input. -/
def bodyChecksWrong : ChangeSpec := { name := "bodyChecks", fn := fun _ => fun
  | [d] => { results := [.lit (.bool false)], args := [d] }
  | _ => none }
def BodyChecksWrongFalsely : Prop := bodyChecksRow.holds Try.pinned (OpenSpec.ofChange bodyChecksWrong)

/-- 'punctuallaw.MeaningRuns': WHATEVER THE INPUT: true; the input reads as it did. -/
def meaningRunsSpec : ChangeSpec := { name := "meaningRuns", fn := fun _ => fun
  | [d1, d2, d3] => { results := [.lit (.bool true)], args := [d1, d2, d3] }
  | _ => none }
def meaningRunsRow : OpenClaim := { program := "ytnckikjcjgmdlaa", sum := "9b1a2ff9df3ab8fa4aaa885a22b468f800bd2fc9c3f26eb4101770ee3b9dc41e", func := "punctual/punctuallaw.MeaningRuns", spec := "meaningRuns", unfollowed := true, recurses := true, loops := true, apart := false }
def MeaningRunsSaid : Prop := meaningRunsRow.holds Try.pinned (OpenSpec.ofChange meaningRunsSpec)

/-- ITS FALSE NEIGHBOUR: 'it returns false'. Refute it at one input. -/
def meaningRunsWrong : ChangeSpec := { name := "meaningRuns", fn := fun _ => fun
  | [d1, d2, d3] => { results := [.lit (.bool false)], args := [d1, d2, d3] }
  | _ => none }
def MeaningRunsWrongFalsely : Prop := meaningRunsRow.holds Try.pinned (OpenSpec.ofChange meaningRunsWrong)

/-- 'punctuallaw.MeaningJoins': WHATEVER THE INPUT: true; the input reads as it did. -/
def meaningJoinsSpec : ChangeSpec := { name := "meaningJoins", fn := fun _ => fun
  | [d1, d2, d3, d4] => { results := [.lit (.bool true)], args := [d1, d2, d3, d4] }
  | _ => none }
def meaningJoinsRow : OpenClaim := { program := "ytnckikjcjgmdlaa", sum := "9b1a2ff9df3ab8fa4aaa885a22b468f800bd2fc9c3f26eb4101770ee3b9dc41e", func := "punctual/punctuallaw.MeaningJoins", spec := "meaningJoins", unfollowed := true, recurses := true, loops := true, apart := false }
def MeaningJoinsSaid : Prop := meaningJoinsRow.holds Try.pinned (OpenSpec.ofChange meaningJoinsSpec)

/-- ITS FALSE NEIGHBOUR: 'it returns false'. Refute it at one input. -/
def meaningJoinsWrong : ChangeSpec := { name := "meaningJoins", fn := fun _ => fun
  | [d1, d2, d3, d4] => { results := [.lit (.bool false)], args := [d1, d2, d3, d4] }
  | _ => none }
def MeaningJoinsWrongFalsely : Prop := meaningJoinsRow.holds Try.pinned (OpenSpec.ofChange meaningJoinsWrong)

/-- 'punctuallaw.WcetLeast': WHATEVER THE INPUT: true; the input reads as it did. -/
def wcetLeastSpec : ChangeSpec := { name := "wcetLeast", fn := fun _ => fun
  | [d1, d2, d3] => { results := [.lit (.bool true)], args := [d1, d2, d3] }
  | _ => none }
def wcetLeastRow : OpenClaim := { program := "ytnckikjcjgmdlaa", sum := "9b1a2ff9df3ab8fa4aaa885a22b468f800bd2fc9c3f26eb4101770ee3b9dc41e", func := "punctual/punctuallaw.WcetLeast", spec := "wcetLeast", unfollowed := true, recurses := true, apart := false }
def WcetLeastSaid : Prop := wcetLeastRow.holds Try.pinned (OpenSpec.ofChange wcetLeastSpec)

/-- ITS FALSE NEIGHBOUR: 'it returns false'. Refute it at one input. -/
def wcetLeastWrong : ChangeSpec := { name := "wcetLeast", fn := fun _ => fun
  | [d1, d2, d3] => { results := [.lit (.bool false)], args := [d1, d2, d3] }
  | _ => none }
def WcetLeastWrongFalsely : Prop := wcetLeastRow.holds Try.pinned (OpenSpec.ofChange wcetLeastWrong)

/-- 'punctuallaw.CompileMakes': WHATEVER THE INPUT: true; the input reads as it did. -/
def compileMakesSpec : ChangeSpec := { name := "compileMakes", fn := fun _ => fun
  | [d] => { results := [.lit (.bool true)], args := [d] }
  | _ => none }
def compileMakesRow : OpenClaim := { program := "ytnckikjcjgmdlaa", sum := "9b1a2ff9df3ab8fa4aaa885a22b468f800bd2fc9c3f26eb4101770ee3b9dc41e", func := "punctual/punctuallaw.CompileMakes", spec := "compileMakes", unfollowed := true, recurses := true, loops := true, apart := false }
def CompileMakesSaid : Prop := compileMakesRow.holds Try.pinned (OpenSpec.ofChange compileMakesSpec)

/-- ITS FALSE NEIGHBOUR: 'it returns false'. Refute it at one input. -/
def compileMakesWrong : ChangeSpec := { name := "compileMakes", fn := fun _ => fun
  | [d] => { results := [.lit (.bool false)], args := [d] }
  | _ => none }
def CompileMakesWrongFalsely : Prop := compileMakesRow.holds Try.pinned (OpenSpec.ofChange compileMakesWrong)

/- THE SECOND FORM. 'bulk': how many values and letters a reading holds, each counted each time it is reached (what is shared counts as often as it is met; a slice's spare places count too). A statement '..UptoSaid' is the law's where the arguments, and the package variables that the reading takes, are together of bulk at most 1048576: NARROWER than '..Said'. Prove '..Said' where nothing that the law and all that it calls make is longer than what came in: it says more and counts as full. Else prove '..UptoSaid'. A law counts once. -/
mutual
def uptoBulk {H : Type} : DataW H → Nat
  | .lit (.string bytes) => bytes.length + 1
  | .lit _ => 1
  | .nil => 1
  | .ptr d => uptoBulk d + 1
  | .slice elems spare => uptoBulkAll elems + uptoBulkAll spare + 1
  | .agg parts => uptoBulkAll parts + 1
  | .iface _ d => uptoBulk d + 1
  | .map entries => uptoBulkEntries entries + 1
  | .held _ => 1
def uptoBulkAll {H : Type} : List (DataW H) → Nat
  | [] => 0
  | d :: r => uptoBulk d + uptoBulkAll r
def uptoBulkEntries {H : Type} : List (Lit × DataW H) → Nat
  | [] => 0
  | x :: r => uptoBulkEntry x + uptoBulkEntries r
def uptoBulkEntry {H : Type} : Lit × DataW H → Nat
  | (.string bytes, d) => bytes.length + uptoBulk d + 1
  | (_, d) => uptoBulk d + 1
 end
def uptoSmall : (H : Type) → List (DataW H) → Bool := fun _ ds => decide (uptoBulkAll ds ≤ 1048576)
def OpenSpec.upto (s : _root_.Go.ChangeSpec) : _root_.Go.OpenSpec := { _root_.Go.OpenSpec.ofChange s with cond := some uptoSmall }

/-- 'punctuallaw.Names', WHERE WHAT IT READS IS OF BULK AT MOST 1048576: true; the input reads as it did. -/
def namesUptoRow : OpenClaim := { program := "ytnckikjcjgmdlaa", sum := "9b1a2ff9df3ab8fa4aaa885a22b468f800bd2fc9c3f26eb4101770ee3b9dc41e", func := "punctual/punctuallaw.Names", spec := "names", apart := false, narrowed := true }
def NamesUptoSaid : Prop := namesUptoRow.holds Try.pinned (OpenSpec.upto namesSpec)

/-- 'punctuallaw.MachCosts', WHERE WHAT IT READS IS OF BULK AT MOST 1048576: true; the input reads as it did. -/
def machCostsUptoRow : OpenClaim := { program := "ytnckikjcjgmdlaa", sum := "9b1a2ff9df3ab8fa4aaa885a22b468f800bd2fc9c3f26eb4101770ee3b9dc41e", func := "punctual/punctuallaw.MachCosts", spec := "machCosts", apart := false, narrowed := true }
def MachCostsUptoSaid : Prop := machCostsUptoRow.holds Try.pinned (OpenSpec.upto machCostsSpec)

/-- 'punctuallaw.FracMultiples', WHERE WHAT IT READS IS OF BULK AT MOST 1048576: true; the input reads as it did. -/
def fracMultiplesUptoRow : OpenClaim := { program := "ytnckikjcjgmdlaa", sum := "9b1a2ff9df3ab8fa4aaa885a22b468f800bd2fc9c3f26eb4101770ee3b9dc41e", func := "punctual/punctuallaw.FracMultiples", spec := "fracMultiples", recurses := true, apart := false, narrowed := true }
def FracMultiplesUptoSaid : Prop := fracMultiplesUptoRow.holds Try.pinned (OpenSpec.upto fracMultiplesSpec)

/-- 'punctuallaw.BodyChecks', WHERE WHAT IT READS IS OF BULK AT MOST 1048576: true; the input reads as it did. -/
def bodyChecksUptoRow : OpenClaim := { program := "ytnckikjcjgmdlaa", sum := "9b1a2ff9df3ab8fa4aaa885a22b468f800bd2fc9c3f26eb4101770ee3b9dc41e", func := "punctual/punctuallaw.BodyChecks", spec := "bodyChecks", unfollowed := true, recurses := true, loops := true, apart := false, narrowed := true }
def BodyChecksUptoSaid : Prop := bodyChecksUptoRow.holds Try.pinned (OpenSpec.upto bodyChecksSpec)

/-- 'punctuallaw.MeaningRuns', WHERE WHAT IT READS IS OF BULK AT MOST 1048576: true; the input reads as it did. -/
def meaningRunsUptoRow : OpenClaim := { program := "ytnckikjcjgmdlaa", sum := "9b1a2ff9df3ab8fa4aaa885a22b468f800bd2fc9c3f26eb4101770ee3b9dc41e", func := "punctual/punctuallaw.MeaningRuns", spec := "meaningRuns", unfollowed := true, recurses := true, loops := true, apart := false, narrowed := true }
def MeaningRunsUptoSaid : Prop := meaningRunsUptoRow.holds Try.pinned (OpenSpec.upto meaningRunsSpec)

/-- 'punctuallaw.MeaningJoins', WHERE WHAT IT READS IS OF BULK AT MOST 1048576: true; the input reads as it did. -/
def meaningJoinsUptoRow : OpenClaim := { program := "ytnckikjcjgmdlaa", sum := "9b1a2ff9df3ab8fa4aaa885a22b468f800bd2fc9c3f26eb4101770ee3b9dc41e", func := "punctual/punctuallaw.MeaningJoins", spec := "meaningJoins", unfollowed := true, recurses := true, loops := true, apart := false, narrowed := true }
def MeaningJoinsUptoSaid : Prop := meaningJoinsUptoRow.holds Try.pinned (OpenSpec.upto meaningJoinsSpec)

/-- 'punctuallaw.WcetLeast', WHERE WHAT IT READS IS OF BULK AT MOST 1048576: true; the input reads as it did. -/
def wcetLeastUptoRow : OpenClaim := { program := "ytnckikjcjgmdlaa", sum := "9b1a2ff9df3ab8fa4aaa885a22b468f800bd2fc9c3f26eb4101770ee3b9dc41e", func := "punctual/punctuallaw.WcetLeast", spec := "wcetLeast", unfollowed := true, recurses := true, apart := false, narrowed := true }
def WcetLeastUptoSaid : Prop := wcetLeastUptoRow.holds Try.pinned (OpenSpec.upto wcetLeastSpec)

/-- 'punctuallaw.CompileMakes', WHERE WHAT IT READS IS OF BULK AT MOST 1048576: true; the input reads as it did. -/
def compileMakesUptoRow : OpenClaim := { program := "ytnckikjcjgmdlaa", sum := "9b1a2ff9df3ab8fa4aaa885a22b468f800bd2fc9c3f26eb4101770ee3b9dc41e", func := "punctual/punctuallaw.CompileMakes", spec := "compileMakes", unfollowed := true, recurses := true, loops := true, apart := false, narrowed := true }
def CompileMakesUptoSaid : Prop := compileMakesUptoRow.holds Try.pinned (OpenSpec.upto compileMakesSpec)

end Rows
end Go.Proofs.Ytnckikjcjgmdlaa
