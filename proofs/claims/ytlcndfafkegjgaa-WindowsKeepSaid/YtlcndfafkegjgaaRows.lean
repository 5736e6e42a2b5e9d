/-
  NARROWER THAN 'FOR EVERY INPUT', by the rows' own cells (each row's printed sentence says how): CompileMeans: loops.
  DERIVED. THE GIVEN ROWS OF THIS SEAT. 7 by the template 'for every input the law returns true; each argument reads behind the call as it read before'; 0 by the template 'total and deterministic' (their statements: YtlcndfafkegjgaaTotals.lean).
  GIVEN WITH THE SEED: the statements are not yours to turn. If you find one false, say at which input.
  Laid BY PROGRAM, IN A SANDBOX (cutbox-rows.mjs): the forced cells as the released guide's own fill.sh prints them over the translation 0bc34bd467408985… (all of the seat's roots in one cut). By AI agents, Wed Nov 11 2026. No macro, syntax, notation, axiom, sorry.
-/
import Derived.Test.YtlcndfafkegjgaaChecked
import GoSem.Claim
import GoSem.ClaimJoined
import GoSem.ClaimMapViews
import Derived.JoinedTies
import Derived.KernelRfl
namespace Go.Proofs.Ytlcndfafkegjgaa
/- THE CELL 'sum', in the pinned program and in every row, IS THE sha256 OF THE DUMP (.gsa) THAT YtlcndfafkegjgaaProg.lean LOADS. Nothing in Lean hashes anything: it is a label: what it is worth is what the hold of that sum in a sandbox is worth. -/
noncomputable def Try.pinned : Pinned := { name := "ytlcndfafkegjgaa", sum := "0bc34bd467408985d9aa1eef642641b275f862af98a2b129de1e1cb04ffb469a", checked := Try.checked }
namespace Rows
def none {H : Type} : Left H := { results := [], args := [] }

/-- 'punctuallaw.WindowsKeep': WHATEVER THE INPUT: true; the input reads as it did. -/
def windowsKeepSpec : ChangeSpec := { name := "windowsKeep", fn := fun _ => fun
  | [d1, d2, d3, d4, d5, d6] => { results := [.lit (.bool true)], args := [d1, d2, d3, d4, d5, d6] }
  | _ => none }
def windowsKeepRow : OpenClaim := { program := "ytlcndfafkegjgaa", sum := "0bc34bd467408985d9aa1eef642641b275f862af98a2b129de1e1cb04ffb469a", func := "punctual/punctuallaw.WindowsKeep", spec := "windowsKeep", unfollowed := true, recurses := true, apart := false }
def WindowsKeepSaid : Prop := windowsKeepRow.holds Try.pinned (OpenSpec.ofChange windowsKeepSpec)

/-- ITS FALSE NEIGHBOUR: 'it returns false'. Refute it at one input. -/
def windowsKeepWrong : ChangeSpec := { name := "windowsKeep", fn := fun _ => fun
  | [d1, d2, d3, d4, d5, d6] => { results := [.lit (.bool false)], args := [d1, d2, d3, d4, d5, d6] }
  | _ => none }
def WindowsKeepWrongFalsely : Prop := windowsKeepRow.holds Try.pinned (OpenSpec.ofChange windowsKeepWrong)

/-- 'punctuallaw.WcetBound': WHATEVER THE INPUT: true; the input reads as it did. -/
def wcetBoundSpec : ChangeSpec := { name := "wcetBound", fn := fun _ => fun
  | [d1, d2, d3, d4, d5] => { results := [.lit (.bool true)], args := [d1, d2, d3, d4, d5] }
  | _ => none }
def wcetBoundRow : OpenClaim := { program := "ytlcndfafkegjgaa", sum := "0bc34bd467408985d9aa1eef642641b275f862af98a2b129de1e1cb04ffb469a", func := "punctual/punctuallaw.WcetBound", spec := "wcetBound", unfollowed := true, recurses := true, apart := false }
def WcetBoundSaid : Prop := wcetBoundRow.holds Try.pinned (OpenSpec.ofChange wcetBoundSpec)

/-- ITS FALSE NEIGHBOUR: 'it returns false'. Refute it at one input. -/
def wcetBoundWrong : ChangeSpec := { name := "wcetBound", fn := fun _ => fun
  | [d1, d2, d3, d4, d5] => { results := [.lit (.bool false)], args := [d1, d2, d3, d4, d5] }
  | _ => none }
def WcetBoundWrongFalsely : Prop := wcetBoundRow.holds Try.pinned (OpenSpec.ofChange wcetBoundWrong)

/-- 'punctuallaw.WcetMet': WHATEVER THE INPUT: true; the input reads as it did. -/
def wcetMetSpec : ChangeSpec := { name := "wcetMet", fn := fun _ => fun
  | [d1, d2, d3] => { results := [.lit (.bool true)], args := [d1, d2, d3] }
  | _ => none }
def wcetMetRow : OpenClaim := { program := "ytlcndfafkegjgaa", sum := "0bc34bd467408985d9aa1eef642641b275f862af98a2b129de1e1cb04ffb469a", func := "punctual/punctuallaw.WcetMet", spec := "wcetMet", unfollowed := true, recurses := true, apart := false }
def WcetMetSaid : Prop := wcetMetRow.holds Try.pinned (OpenSpec.ofChange wcetMetSpec)

/-- ITS FALSE NEIGHBOUR: 'it returns false'. Refute it at one input. -/
def wcetMetWrong : ChangeSpec := { name := "wcetMet", fn := fun _ => fun
  | [d1, d2, d3] => { results := [.lit (.bool false)], args := [d1, d2, d3] }
  | _ => none }
def WcetMetWrongFalsely : Prop := wcetMetRow.holds Try.pinned (OpenSpec.ofChange wcetMetWrong)

/-- 'punctuallaw.ClockClose': WHATEVER THE INPUT: true; the input reads as it did. -/
def clockCloseSpec : ChangeSpec := { name := "clockClose", fn := fun _ => fun
  | [d1, d2, d3, d4, d5, d6, d7] => { results := [.lit (.bool true)], args := [d1, d2, d3, d4, d5, d6, d7] }
  | _ => none }
def clockCloseRow : OpenClaim := { program := "ytlcndfafkegjgaa", sum := "0bc34bd467408985d9aa1eef642641b275f862af98a2b129de1e1cb04ffb469a", func := "punctual/punctuallaw.ClockClose", spec := "clockClose", unfollowed := true, recurses := true, apart := false }
def ClockCloseSaid : Prop := clockCloseRow.holds Try.pinned (OpenSpec.ofChange clockCloseSpec)

/-- ITS FALSE NEIGHBOUR: 'it returns false'. Refute it at one input. -/
def clockCloseWrong : ChangeSpec := { name := "clockClose", fn := fun _ => fun
  | [d1, d2, d3, d4, d5, d6, d7] => { results := [.lit (.bool false)], args := [d1, d2, d3, d4, d5, d6, d7] }
  | _ => none }
def ClockCloseWrongFalsely : Prop := clockCloseRow.holds Try.pinned (OpenSpec.ofChange clockCloseWrong)

/-- 'punctuallaw.ClockRounds': WHATEVER THE INPUT: true; the input reads as it did. -/
def clockRoundsSpec : ChangeSpec := { name := "clockRounds", fn := fun _ => fun
  | [d1, d2, d3] => { results := [.lit (.bool true)], args := [d1, d2, d3] }
  | _ => none }
def clockRoundsRow : OpenClaim := { program := "ytlcndfafkegjgaa", sum := "0bc34bd467408985d9aa1eef642641b275f862af98a2b129de1e1cb04ffb469a", func := "punctual/punctuallaw.ClockRounds", spec := "clockRounds", unfollowed := true, recurses := true, apart := false }
def ClockRoundsSaid : Prop := clockRoundsRow.holds Try.pinned (OpenSpec.ofChange clockRoundsSpec)

/-- ITS FALSE NEIGHBOUR: 'it returns false'. Refute it at one input. -/
def clockRoundsWrong : ChangeSpec := { name := "clockRounds", fn := fun _ => fun
  | [d1, d2, d3] => { results := [.lit (.bool false)], args := [d1, d2, d3] }
  | _ => none }
def ClockRoundsWrongFalsely : Prop := clockRoundsRow.holds Try.pinned (OpenSpec.ofChange clockRoundsWrong)

/-- 'punctuallaw.ChainKeeps': WHATEVER THE INPUT: true; the input reads as it did. -/
def chainKeepsSpec : ChangeSpec := { name := "chainKeeps", fn := fun _ => fun
  | [d1, d2, d3] => { results := [.lit (.bool true)], args := [d1, d2, d3] }
  | _ => none }
def chainKeepsRow : OpenClaim := { program := "ytlcndfafkegjgaa", sum := "0bc34bd467408985d9aa1eef642641b275f862af98a2b129de1e1cb04ffb469a", func := "punctual/punctuallaw.ChainKeeps", spec := "chainKeeps", unfollowed := true, recurses := true, apart := false }
def ChainKeepsSaid : Prop := chainKeepsRow.holds Try.pinned (OpenSpec.ofChange chainKeepsSpec)

/-- ITS FALSE NEIGHBOUR: 'it returns false'. Refute it at one input. -/
def chainKeepsWrong : ChangeSpec := { name := "chainKeeps", fn := fun _ => fun
  | [d1, d2, d3] => { results := [.lit (.bool false)], args := [d1, d2, d3] }
  | _ => none }
def ChainKeepsWrongFalsely : Prop := chainKeepsRow.holds Try.pinned (OpenSpec.ofChange chainKeepsWrong)

/-- 'punctuallaw.CompileMeans': WHATEVER THE INPUT: true; the input reads as it did. -/
def compileMeansSpec : ChangeSpec := { name := "compileMeans", fn := fun _ => fun
  | [d1, d2, d3] => { results := [.lit (.bool true)], args := [d1, d2, d3] }
  | _ => none }
def compileMeansRow : OpenClaim := { program := "ytlcndfafkegjgaa", sum := "0bc34bd467408985d9aa1eef642641b275f862af98a2b129de1e1cb04ffb469a", func := "punctual/punctuallaw.CompileMeans", spec := "compileMeans", unfollowed := true, recurses := true, loops := true, apart := false }
def CompileMeansSaid : Prop := compileMeansRow.holds Try.pinned (OpenSpec.ofChange compileMeansSpec)

/-- ITS FALSE NEIGHBOUR: 'it returns false'. Refute it at one input. -/
def compileMeansWrong : ChangeSpec := { name := "compileMeans", fn := fun _ => fun
  | [d1, d2, d3] => { results := [.lit (.bool false)], args := [d1, d2, d3] }
  | _ => none }
def CompileMeansWrongFalsely : Prop := compileMeansRow.holds Try.pinned (OpenSpec.ofChange compileMeansWrong)

/- THE SECOND FORM. 'bulk': how many values and letters a reading holds, each counted each time it is reached (what is shared counts as often as it is met; a slice's spare places count too). A statement '..UptoSaid' is the law's where the arguments, and the package variables that the reading takes, are together of bulk at most 1048576: NARROWER than '..Said'. Prove '..Said' where nothing that the law and all that it calls make is longer than what came in: it says more and counts as full. Else prove '..UptoSaid'. A law counts once. -/
mutual
def uptoBulk {H : Type} : DataW H → Nat
  | .lit (.string bytes) => bytes.length + 1
  | .lit _ => 1
  | .nil => 1
  | .ptr d => uptoBulk d + 1
  | .slice elems spare => uptoBulkAll elems + uptoBulkAll spare + 1
  | .agg parts => uptoBulkAll parts + 1
  | .iface _ d => uptoBulk d + 1
  | .map entries => uptoBulkEntries entries + 1
  | .held _ => 1
def uptoBulkAll {H : Type} : List (DataW H) → Nat
  | [] => 0
  | d :: r => uptoBulk d + uptoBulkAll r
def uptoBulkEntries {H : Type} : List (Lit × DataW H) → Nat
  | [] => 0
  | x :: r => uptoBulkEntry x + uptoBulkEntries r
def uptoBulkEntry {H : Type} : Lit × DataW H → Nat
  | (.string bytes, d) => bytes.length + uptoBulk d + 1
  | (_, d) => uptoBulk d + 1
 end
def uptoSmall : (H : Type) → List (DataW H) → Bool := fun _ ds => decide (uptoBulkAll ds ≤ 1048576)
def OpenSpec.upto (s : _root_.Go.ChangeSpec) : _root_.Go.OpenSpec := { _root_.Go.OpenSpec.ofChange s with cond := some uptoSmall }

/-- 'punctuallaw.WindowsKeep', WHERE WHAT IT READS IS OF BULK AT MOST 1048576: true; the input reads as it did. -/
def windowsKeepUptoRow : OpenClaim := { program := "ytlcndfafkegjgaa", sum := "0bc34bd467408985d9aa1eef642641b275f862af98a2b129de1e1cb04ffb469a", func := "punctual/punctuallaw.WindowsKeep", spec := "windowsKeep", unfollowed := true, recurses := true, apart := false, narrowed := true }
def WindowsKeepUptoSaid : Prop := windowsKeepUptoRow.holds Try.pinned (OpenSpec.upto windowsKeepSpec)

/-- 'punctuallaw.WcetBound', WHERE WHAT IT READS IS OF BULK AT MOST 1048576: true; the input reads as it did. -/
def wcetBoundUptoRow : OpenClaim := { program := "ytlcndfafkegjgaa", sum := "0bc34bd467408985d9aa1eef642641b275f862af98a2b129de1e1cb04ffb469a", func := "punctual/punctuallaw.WcetBound", spec := "wcetBound", unfollowed := true, recurses := true, apart := false, narrowed := true }
def WcetBoundUptoSaid : Prop := wcetBoundUptoRow.holds Try.pinned (OpenSpec.upto wcetBoundSpec)

/-- 'punctuallaw.WcetMet', WHERE WHAT IT READS IS OF BULK AT MOST 1048576: true; the input reads as it did. -/
def wcetMetUptoRow : OpenClaim := { program := "ytlcndfafkegjgaa", sum := "0bc34bd467408985d9aa1eef642641b275f862af98a2b129de1e1cb04ffb469a", func := "punctual/punctuallaw.WcetMet", spec := "wcetMet", unfollowed := true, recurses := true, apart := false, narrowed := true }
def WcetMetUptoSaid : Prop := wcetMetUptoRow.holds Try.pinned (OpenSpec.upto wcetMetSpec)

/-- 'punctuallaw.ClockClose', WHERE WHAT IT READS IS OF BULK AT MOST 1048576: true; the input reads as it did. -/
def clockCloseUptoRow : OpenClaim := { program := "ytlcndfafkegjgaa", sum := "0bc34bd467408985d9aa1eef642641b275f862af98a2b129de1e1cb04ffb469a", func := "punctual/punctuallaw.ClockClose", spec := "clockClose", unfollowed := true, recurses := true, apart := false, narrowed := true }
def ClockCloseUptoSaid : Prop := clockCloseUptoRow.holds Try.pinned (OpenSpec.upto clockCloseSpec)

/-- 'punctuallaw.ClockRounds', WHERE WHAT IT READS IS OF BULK AT MOST 1048576: true; the input reads as it did. -/
def clockRoundsUptoRow : OpenClaim := { program := "ytlcndfafkegjgaa", sum := "0bc34bd467408985d9aa1eef642641b275f862af98a2b129de1e1cb04ffb469a", func := "punctual/punctuallaw.ClockRounds", spec := "clockRounds", unfollowed := true, recurses := true, apart := false, narrowed := true }
def ClockRoundsUptoSaid : Prop := clockRoundsUptoRow.holds Try.pinned (OpenSpec.upto clockRoundsSpec)

/-- 'punctuallaw.ChainKeeps', WHERE WHAT IT READS IS OF BULK AT MOST 1048576: true; the input reads as it did. -/
def chainKeepsUptoRow : OpenClaim := { program := "ytlcndfafkegjgaa", sum := "0bc34bd467408985d9aa1eef642641b275f862af98a2b129de1e1cb04ffb469a", func := "punctual/punctuallaw.ChainKeeps", spec := "chainKeeps", unfollowed := true, recurses := true, apart := false, narrowed := true }
def ChainKeepsUptoSaid : Prop := chainKeepsUptoRow.holds Try.pinned (OpenSpec.upto chainKeepsSpec)

/-- 'punctuallaw.CompileMeans', WHERE WHAT IT READS IS OF BULK AT MOST 1048576: true; the input reads as it did. -/
def compileMeansUptoRow : OpenClaim := { program := "ytlcndfafkegjgaa", sum := "0bc34bd467408985d9aa1eef642641b275f862af98a2b129de1e1cb04ffb469a", func := "punctual/punctuallaw.CompileMeans", spec := "compileMeans", unfollowed := true, recurses := true, loops := true, apart := false, narrowed := true }
def CompileMeansUptoSaid : Prop := compileMeansUptoRow.holds Try.pinned (OpenSpec.upto compileMeansSpec)

end Rows
end Go.Proofs.Ytlcndfafkegjgaa
