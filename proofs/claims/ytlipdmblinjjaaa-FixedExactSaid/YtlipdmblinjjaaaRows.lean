/-
  No cell of these rows narrows 'for every input' (looked for: loops, veiled, ifaces, maps, wideKeys, modest, calm, conditions, laid).
  DERIVED. THE GIVEN ROWS OF THIS SEAT. 4 by the template 'for every input the law returns true; each argument reads behind the call as it read before'; 0 by the template 'total and deterministic' (their statements: YtlipdmblinjjaaaTotals.lean).
  GIVEN WITH THE SEED: the statements are not yours to turn. If you find one false, say at which input.
  Laid BY PROGRAM, IN A SANDBOX (cutbox-rows.mjs): the forced cells as the released guide's own fill.sh prints them over the translation 7a7a01567708fb2f… (all of the seat's roots in one cut). By AI agents, Wed Nov 11 2026. No macro, syntax, notation, axiom, sorry.
-/
import Derived.Test.YtlipdmblinjjaaaChecked
import GoSem.Claim
import GoSem.ClaimJoined
import GoSem.ClaimMapViews
import Derived.JoinedTies
import Derived.KernelRfl
namespace Go.Proofs.Ytlipdmblinjjaaa
/- THE CELL 'sum', in the pinned program and in every row, IS THE sha256 OF THE DUMP (.gsa) THAT YtlipdmblinjjaaaProg.lean LOADS. Nothing in Lean hashes anything: it is a label: what it is worth is what the hold of that sum in a sandbox is worth. -/
noncomputable def Try.pinned : Pinned := { name := "ytlipdmblinjjaaa", sum := "7a7a01567708fb2f74c79cd5e7c7d1df710e074ead0ee190f8e552ff84297556", checked := Try.checked }
namespace Rows
def none {H : Type} : Left H := { results := [], args := [] }

/-- 'punctuallaw.FixedKeeps': WHATEVER THE INPUT: true; the input reads as it did. -/
def fixedKeepsSpec : ChangeSpec := { name := "fixedKeeps", fn := fun _ => fun
  | [d1, d2, d3, d4] => { results := [.lit (.bool true)], args := [d1, d2, d3, d4] }
  | _ => none }
def fixedKeepsRow : OpenClaim := { program := "ytlipdmblinjjaaa", sum := "7a7a01567708fb2f74c79cd5e7c7d1df710e074ead0ee190f8e552ff84297556", func := "punctual/punctuallaw.FixedKeeps", spec := "fixedKeeps", unfollowed := true, recurses := true, apart := false }
def FixedKeepsSaid : Prop := fixedKeepsRow.holds Try.pinned (OpenSpec.ofChange fixedKeepsSpec)

/-- ITS FALSE NEIGHBOUR: 'it returns false'. Refute it at one input. -/
def fixedKeepsWrong : ChangeSpec := { name := "fixedKeeps", fn := fun _ => fun
  | [d1, d2, d3, d4] => { results := [.lit (.bool false)], args := [d1, d2, d3, d4] }
  | _ => none }
def FixedKeepsWrongFalsely : Prop := fixedKeepsRow.holds Try.pinned (OpenSpec.ofChange fixedKeepsWrong)

/-- 'punctuallaw.FixedBest': WHATEVER THE INPUT: true; the input reads as it did. -/
def fixedBestSpec : ChangeSpec := { name := "fixedBest", fn := fun _ => fun
  | [d1, d2] => { results := [.lit (.bool true)], args := [d1, d2] }
  | _ => none }
def fixedBestRow : OpenClaim := { program := "ytlipdmblinjjaaa", sum := "7a7a01567708fb2f74c79cd5e7c7d1df710e074ead0ee190f8e552ff84297556", func := "punctual/punctuallaw.FixedBest", spec := "fixedBest", unfollowed := true, recurses := true, apart := false }
def FixedBestSaid : Prop := fixedBestRow.holds Try.pinned (OpenSpec.ofChange fixedBestSpec)

/-- ITS FALSE NEIGHBOUR: 'it returns false'. Refute it at one input. -/
def fixedBestWrong : ChangeSpec := { name := "fixedBest", fn := fun _ => fun
  | [d1, d2] => { results := [.lit (.bool false)], args := [d1, d2] }
  | _ => none }
def FixedBestWrongFalsely : Prop := fixedBestRow.holds Try.pinned (OpenSpec.ofChange fixedBestWrong)

/-- 'punctuallaw.FixedExact': WHATEVER THE INPUT: true; the input reads as it did. -/
def fixedExactSpec : ChangeSpec := { name := "fixedExact", fn := fun _ => fun
  | [d] => { results := [.lit (.bool true)], args := [d] }
  | _ => none }
def fixedExactRow : OpenClaim := { program := "ytlipdmblinjjaaa", sum := "7a7a01567708fb2f74c79cd5e7c7d1df710e074ead0ee190f8e552ff84297556", func := "punctual/punctuallaw.FixedExact", spec := "fixedExact", unfollowed := true, recurses := true, apart := false }
def FixedExactSaid : Prop := fixedExactRow.holds Try.pinned (OpenSpec.ofChange fixedExactSpec)

/-- ITS FALSE NEIGHBOUR: 'it returns false'. Refute it at one input. -/
def fixedExactWrong : ChangeSpec := { name := "fixedExact", fn := fun _ => fun
  | [d] => { results := [.lit (.bool false)], args := [d] }
  | _ => none }
def FixedExactWrongFalsely : Prop := fixedExactRow.holds Try.pinned (OpenSpec.ofChange fixedExactWrong)

/-- 'punctuallaw.EdfBest': WHATEVER THE INPUT: true; the input reads as it did. -/
def edfBestSpec : ChangeSpec := { name := "edfBest", fn := fun _ => fun
  | [d1, d2] => { results := [.lit (.bool true)], args := [d1, d2] }
  | _ => none }
def edfBestRow : OpenClaim := { program := "ytlipdmblinjjaaa", sum := "7a7a01567708fb2f74c79cd5e7c7d1df710e074ead0ee190f8e552ff84297556", func := "punctual/punctuallaw.EdfBest", spec := "edfBest", unfollowed := true, recurses := true, apart := false }
def EdfBestSaid : Prop := edfBestRow.holds Try.pinned (OpenSpec.ofChange edfBestSpec)

/-- ITS FALSE NEIGHBOUR: 'it returns false'. Refute it at one input. -/
def edfBestWrong : ChangeSpec := { name := "edfBest", fn := fun _ => fun
  | [d1, d2] => { results := [.lit (.bool false)], args := [d1, d2] }
  | _ => none }
def EdfBestWrongFalsely : Prop := edfBestRow.holds Try.pinned (OpenSpec.ofChange edfBestWrong)

/- THE SECOND FORM. 'bulk': how many values and letters a reading holds, each counted each time it is reached (what is shared counts as often as it is met; a slice's spare places count too). A statement '..UptoSaid' is the law's where the arguments, and the package variables that the reading takes, are together of bulk at most 1048576: NARROWER than '..Said'. Prove '..Said' where nothing that the law and all that it calls make is longer than what came in: it says more and counts as full. Else prove '..UptoSaid'. A law counts once. -/
mutual
def uptoBulk {H : Type} : DataW H → Nat
  | .lit (.string bytes) => bytes.length + 1
  | .lit _ => 1
  | .nil => 1
  | .ptr d => uptoBulk d + 1
  | .slice elems spare => uptoBulkAll elems + uptoBulkAll spare + 1
  | .agg parts => uptoBulkAll parts + 1
  | .iface _ d => uptoBulk d + 1
  | .map entries => uptoBulkEntries entries + 1
  | .held _ => 1
def uptoBulkAll {H : Type} : List (DataW H) → Nat
  | [] => 0
  | d :: r => uptoBulk d + uptoBulkAll r
def uptoBulkEntries {H : Type} : List (Lit × DataW H) → Nat
  | [] => 0
  | x :: r => uptoBulkEntry x + uptoBulkEntries r
def uptoBulkEntry {H : Type} : Lit × DataW H → Nat
  | (.string bytes, d) => bytes.length + uptoBulk d + 1
  | (_, d) => uptoBulk d + 1
 end
def uptoSmall : (H : Type) → List (DataW H) → Bool := fun _ ds => decide (uptoBulkAll ds ≤ 1048576)
def OpenSpec.upto (s : _root_.Go.ChangeSpec) : _root_.Go.OpenSpec := { _root_.Go.OpenSpec.ofChange s with cond := some uptoSmall }

/-- 'punctuallaw.FixedKeeps', WHERE WHAT IT READS IS OF BULK AT MOST 1048576: true; the input reads as it did. -/
def fixedKeepsUptoRow : OpenClaim := { program := "ytlipdmblinjjaaa", sum := "7a7a01567708fb2f74c79cd5e7c7d1df710e074ead0ee190f8e552ff84297556", func := "punctual/punctuallaw.FixedKeeps", spec := "fixedKeeps", unfollowed := true, recurses := true, apart := false, narrowed := true }
def FixedKeepsUptoSaid : Prop := fixedKeepsUptoRow.holds Try.pinned (OpenSpec.upto fixedKeepsSpec)

/-- 'punctuallaw.FixedBest', WHERE WHAT IT READS IS OF BULK AT MOST 1048576: true; the input reads as it did. -/
def fixedBestUptoRow : OpenClaim := { program := "ytlipdmblinjjaaa", sum := "7a7a01567708fb2f74c79cd5e7c7d1df710e074ead0ee190f8e552ff84297556", func := "punctual/punctuallaw.FixedBest", spec := "fixedBest", unfollowed := true, recurses := true, apart := false, narrowed := true }
def FixedBestUptoSaid : Prop := fixedBestUptoRow.holds Try.pinned (OpenSpec.upto fixedBestSpec)

/-- 'punctuallaw.FixedExact', WHERE WHAT IT READS IS OF BULK AT MOST 1048576: true; the input reads as it did. -/
def fixedExactUptoRow : OpenClaim := { program := "ytlipdmblinjjaaa", sum := "7a7a01567708fb2f74c79cd5e7c7d1df710e074ead0ee190f8e552ff84297556", func := "punctual/punctuallaw.FixedExact", spec := "fixedExact", unfollowed := true, recurses := true, apart := false, narrowed := true }
def FixedExactUptoSaid : Prop := fixedExactUptoRow.holds Try.pinned (OpenSpec.upto fixedExactSpec)

/-- 'punctuallaw.EdfBest', WHERE WHAT IT READS IS OF BULK AT MOST 1048576: true; the input reads as it did. -/
def edfBestUptoRow : OpenClaim := { program := "ytlipdmblinjjaaa", sum := "7a7a01567708fb2f74c79cd5e7c7d1df710e074ead0ee190f8e552ff84297556", func := "punctual/punctuallaw.EdfBest", spec := "edfBest", unfollowed := true, recurses := true, apart := false, narrowed := true }
def EdfBestUptoSaid : Prop := edfBestUptoRow.holds Try.pinned (OpenSpec.upto edfBestSpec)

end Rows
end Go.Proofs.Ytlipdmblinjjaaa
