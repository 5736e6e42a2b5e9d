/-
  No cell of these rows narrows 'for every input' (looked for: loops, veiled, ifaces, maps, wideKeys, modest, calm, conditions, laid).
  DERIVED. THE GIVEN ROWS OF THIS SEAT. 5 by the template 'for every input the law returns true; each argument reads behind the call as it read before'; 0 by the template 'total and deterministic' (their statements: YtchcdadpahakfaaTotals.lean).
  GIVEN WITH THE SEED: the statements are not yours to turn. If you find one false, say at which input.
  Laid BY PROGRAM, IN A SANDBOX (cutbox-rows.mjs): the forced cells as the released guide's own fill.sh prints them over the translation 4a48b38943c4c208… (all of the seat's roots in one cut). By AI agents, Wed Nov 11 2026. No macro, syntax, notation, axiom, sorry.
-/
import Derived.Test.YtchcdadpahakfaaChecked
import GoSem.Claim
import GoSem.ClaimJoined
import GoSem.ClaimMapViews
import Derived.JoinedTies
import Derived.KernelRfl
namespace Go.Proofs.Ytchcdadpahakfaa
/- THE CELL 'sum', in the pinned program and in every row, IS THE sha256 OF THE DUMP (.gsa) THAT YtchcdadpahakfaaProg.lean LOADS. Nothing in Lean hashes anything: it is a label: what it is worth is what the hold of that sum in a sandbox is worth. -/
noncomputable def Try.pinned : Pinned := { name := "ytchcdadpahakfaa", sum := "4a48b38943c4c208ad0d41ca2050c6f0df1a9c7d5e170a638032476d868f67b5", checked := Try.checked }
namespace Rows
def none {H : Type} : Left H := { results := [], args := [] }

/-- 'punctuallaw.LocksPlays': WHATEVER THE INPUT: true; the input reads as it did. -/
def locksPlaysSpec : ChangeSpec := { name := "locksPlays", fn := fun _ => fun
  | [d1, d2, d3] => { results := [.lit (.bool true)], args := [d1, d2, d3] }
  | _ => none }
def locksPlaysRow : OpenClaim := { program := "ytchcdadpahakfaa", sum := "4a48b38943c4c208ad0d41ca2050c6f0df1a9c7d5e170a638032476d868f67b5", func := "punctual/punctuallaw.LocksPlays", spec := "locksPlays", unfollowed := true, recurses := true, apart := false }
def LocksPlaysSaid : Prop := locksPlaysRow.holds Try.pinned (OpenSpec.ofChange locksPlaysSpec)

/-- ITS FALSE NEIGHBOUR: 'it returns false'. Refute it at one input. -/
def locksPlaysWrong : ChangeSpec := { name := "locksPlays", fn := fun _ => fun
  | [d1, d2, d3] => { results := [.lit (.bool false)], args := [d1, d2, d3] }
  | _ => none }
def LocksPlaysWrongFalsely : Prop := locksPlaysRow.holds Try.pinned (OpenSpec.ofChange locksPlaysWrong)

/-- 'punctuallaw.LocksOnce': WHATEVER THE INPUT: true; the input reads as it did. -/
def locksOnceSpec : ChangeSpec := { name := "locksOnce", fn := fun _ => fun
  | [d1, d2] => { results := [.lit (.bool true)], args := [d1, d2] }
  | _ => none }
def locksOnceRow : OpenClaim := { program := "ytchcdadpahakfaa", sum := "4a48b38943c4c208ad0d41ca2050c6f0df1a9c7d5e170a638032476d868f67b5", func := "punctual/punctuallaw.LocksOnce", spec := "locksOnce", unfollowed := true, recurses := true, apart := false }
def LocksOnceSaid : Prop := locksOnceRow.holds Try.pinned (OpenSpec.ofChange locksOnceSpec)

/-- ITS FALSE NEIGHBOUR: 'it returns false'. Refute it at one input. -/
def locksOnceWrong : ChangeSpec := { name := "locksOnce", fn := fun _ => fun
  | [d1, d2] => { results := [.lit (.bool false)], args := [d1, d2] }
  | _ => none }
def LocksOnceWrongFalsely : Prop := locksOnceRow.holds Try.pinned (OpenSpec.ofChange locksOnceWrong)

/-- 'punctuallaw.ClockClose': WHATEVER THE INPUT: true; the input reads as it did. -/
def clockCloseSpec : ChangeSpec := { name := "clockClose", fn := fun _ => fun
  | [d1, d2, d3, d4, d5, d6, d7] => { results := [.lit (.bool true)], args := [d1, d2, d3, d4, d5, d6, d7] }
  | _ => none }
def clockCloseRow : OpenClaim := { program := "ytchcdadpahakfaa", sum := "4a48b38943c4c208ad0d41ca2050c6f0df1a9c7d5e170a638032476d868f67b5", func := "punctual/punctuallaw.ClockClose", spec := "clockClose", unfollowed := true, recurses := true, apart := false }
def ClockCloseSaid : Prop := clockCloseRow.holds Try.pinned (OpenSpec.ofChange clockCloseSpec)

/-- ITS FALSE NEIGHBOUR: 'it returns false'. Refute it at one input. -/
def clockCloseWrong : ChangeSpec := { name := "clockClose", fn := fun _ => fun
  | [d1, d2, d3, d4, d5, d6, d7] => { results := [.lit (.bool false)], args := [d1, d2, d3, d4, d5, d6, d7] }
  | _ => none }
def ClockCloseWrongFalsely : Prop := clockCloseRow.holds Try.pinned (OpenSpec.ofChange clockCloseWrong)

/-- 'punctuallaw.ClockRounds': WHATEVER THE INPUT: true; the input reads as it did. -/
def clockRoundsSpec : ChangeSpec := { name := "clockRounds", fn := fun _ => fun
  | [d1, d2, d3] => { results := [.lit (.bool true)], args := [d1, d2, d3] }
  | _ => none }
def clockRoundsRow : OpenClaim := { program := "ytchcdadpahakfaa", sum := "4a48b38943c4c208ad0d41ca2050c6f0df1a9c7d5e170a638032476d868f67b5", func := "punctual/punctuallaw.ClockRounds", spec := "clockRounds", unfollowed := true, recurses := true, apart := false }
def ClockRoundsSaid : Prop := clockRoundsRow.holds Try.pinned (OpenSpec.ofChange clockRoundsSpec)

/-- ITS FALSE NEIGHBOUR: 'it returns false'. Refute it at one input. -/
def clockRoundsWrong : ChangeSpec := { name := "clockRounds", fn := fun _ => fun
  | [d1, d2, d3] => { results := [.lit (.bool false)], args := [d1, d2, d3] }
  | _ => none }
def ClockRoundsWrongFalsely : Prop := clockRoundsRow.holds Try.pinned (OpenSpec.ofChange clockRoundsWrong)

/-- 'punctuallaw.ChainKeeps': WHATEVER THE INPUT: true; the input reads as it did. -/
def chainKeepsSpec : ChangeSpec := { name := "chainKeeps", fn := fun _ => fun
  | [d1, d2, d3] => { results := [.lit (.bool true)], args := [d1, d2, d3] }
  | _ => none }
def chainKeepsRow : OpenClaim := { program := "ytchcdadpahakfaa", sum := "4a48b38943c4c208ad0d41ca2050c6f0df1a9c7d5e170a638032476d868f67b5", func := "punctual/punctuallaw.ChainKeeps", spec := "chainKeeps", unfollowed := true, recurses := true, apart := false }
def ChainKeepsSaid : Prop := chainKeepsRow.holds Try.pinned (OpenSpec.ofChange chainKeepsSpec)

/-- ITS FALSE NEIGHBOUR: 'it returns false'. Refute it at one input. -/
def chainKeepsWrong : ChangeSpec := { name := "chainKeeps", fn := fun _ => fun
  | [d1, d2, d3] => { results := [.lit (.bool false)], args := [d1, d2, d3] }
  | _ => none }
def ChainKeepsWrongFalsely : Prop := chainKeepsRow.holds Try.pinned (OpenSpec.ofChange chainKeepsWrong)

/- THE SECOND FORM. 'bulk': how many values and letters a reading holds, each counted each time it is reached (what is shared counts as often as it is met; a slice's spare places count too). A statement '..UptoSaid' is the law's where the arguments, and the package variables that the reading takes, are together of bulk at most 1048576: NARROWER than '..Said'. Prove '..Said' where nothing that the law and all that it calls make is longer than what came in: it says more and counts as full. Else prove '..UptoSaid'. A law counts once. -/
mutual
def uptoBulk {H : Type} : DataW H → Nat
  | .lit (.string bytes) => bytes.length + 1
  | .lit _ => 1
  | .nil => 1
  | .ptr d => uptoBulk d + 1
  | .slice elems spare => uptoBulkAll elems + uptoBulkAll spare + 1
  | .agg parts => uptoBulkAll parts + 1
  | .iface _ d => uptoBulk d + 1
  | .map entries => uptoBulkEntries entries + 1
  | .held _ => 1
def uptoBulkAll {H : Type} : List (DataW H) → Nat
  | [] => 0
  | d :: r => uptoBulk d + uptoBulkAll r
def uptoBulkEntries {H : Type} : List (Lit × DataW H) → Nat
  | [] => 0
  | x :: r => uptoBulkEntry x + uptoBulkEntries r
def uptoBulkEntry {H : Type} : Lit × DataW H → Nat
  | (.string bytes, d) => bytes.length + uptoBulk d + 1
  | (_, d) => uptoBulk d + 1
 end
def uptoSmall : (H : Type) → List (DataW H) → Bool := fun _ ds => decide (uptoBulkAll ds ≤ 1048576)
def OpenSpec.upto (s : _root_.Go.ChangeSpec) : _root_.Go.OpenSpec := { _root_.Go.OpenSpec.ofChange s with cond := some uptoSmall }

/-- 'punctuallaw.LocksPlays', WHERE WHAT IT READS IS OF BULK AT MOST 1048576: true; the input reads as it did. -/
def locksPlaysUptoRow : OpenClaim := { program := "ytchcdadpahakfaa", sum := "4a48b38943c4c208ad0d41ca2050c6f0df1a9c7d5e170a638032476d868f67b5", func := "punctual/punctuallaw.LocksPlays", spec := "locksPlays", unfollowed := true, recurses := true, apart := false, narrowed := true }
def LocksPlaysUptoSaid : Prop := locksPlaysUptoRow.holds Try.pinned (OpenSpec.upto locksPlaysSpec)

/-- 'punctuallaw.LocksOnce', WHERE WHAT IT READS IS OF BULK AT MOST 1048576: true; the input reads as it did. -/
def locksOnceUptoRow : OpenClaim := { program := "ytchcdadpahakfaa", sum := "4a48b38943c4c208ad0d41ca2050c6f0df1a9c7d5e170a638032476d868f67b5", func := "punctual/punctuallaw.LocksOnce", spec := "locksOnce", unfollowed := true, recurses := true, apart := false, narrowed := true }
def LocksOnceUptoSaid : Prop := locksOnceUptoRow.holds Try.pinned (OpenSpec.upto locksOnceSpec)

/-- 'punctuallaw.ClockClose', WHERE WHAT IT READS IS OF BULK AT MOST 1048576: true; the input reads as it did. -/
def clockCloseUptoRow : OpenClaim := { program := "ytchcdadpahakfaa", sum := "4a48b38943c4c208ad0d41ca2050c6f0df1a9c7d5e170a638032476d868f67b5", func := "punctual/punctuallaw.ClockClose", spec := "clockClose", unfollowed := true, recurses := true, apart := false, narrowed := true }
def ClockCloseUptoSaid : Prop := clockCloseUptoRow.holds Try.pinned (OpenSpec.upto clockCloseSpec)

/-- 'punctuallaw.ClockRounds', WHERE WHAT IT READS IS OF BULK AT MOST 1048576: true; the input reads as it did. -/
def clockRoundsUptoRow : OpenClaim := { program := "ytchcdadpahakfaa", sum := "4a48b38943c4c208ad0d41ca2050c6f0df1a9c7d5e170a638032476d868f67b5", func := "punctual/punctuallaw.ClockRounds", spec := "clockRounds", unfollowed := true, recurses := true, apart := false, narrowed := true }
def ClockRoundsUptoSaid : Prop := clockRoundsUptoRow.holds Try.pinned (OpenSpec.upto clockRoundsSpec)

/-- 'punctuallaw.ChainKeeps', WHERE WHAT IT READS IS OF BULK AT MOST 1048576: true; the input reads as it did. -/
def chainKeepsUptoRow : OpenClaim := { program := "ytchcdadpahakfaa", sum := "4a48b38943c4c208ad0d41ca2050c6f0df1a9c7d5e170a638032476d868f67b5", func := "punctual/punctuallaw.ChainKeeps", spec := "chainKeeps", unfollowed := true, recurses := true, apart := false, narrowed := true }
def ChainKeepsUptoSaid : Prop := chainKeepsUptoRow.holds Try.pinned (OpenSpec.upto chainKeepsSpec)

end Rows
end Go.Proofs.Ytchcdadpahakfaa
