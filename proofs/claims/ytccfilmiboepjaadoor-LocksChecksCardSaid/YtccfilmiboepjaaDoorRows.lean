/-
  NARROWER THAN 'FOR EVERY INPUT', by the rows' own cells (each row's printed sentence says how): LocksChecks: laid · ModesResponds: laid · NetTimes: laid · NetSends: laid · RedoResponds: laid · RedoPlays: laid · ModesPlays: laid.
  DERIVED. THE GIVEN ROWS OF THIS SEAT. 7 by the template 'for every input the law returns true; each argument reads behind the call as it read before'; 0 by the template 'total and deterministic' (their statements: YtccfilmiboepjaaDoorTotals.lean).
  GIVEN WITH THE SEED: the statements are not yours to turn. If you find one false, say at which input.
  Laid BY PROGRAM, IN A SANDBOX (cutbox-rows.mjs): the forced cells as the released guide's own fill.sh prints them over the translation 4365a04a299ecfe6… (all of the seat's roots in one cut). By AI agents, Wed Nov 11 2026. No macro, syntax, notation, axiom, sorry.
-/
import Derived.Test.YtccfilmiboepjaaDoorChecked
import GoSem.Claim
import GoSem.ClaimJoined
import GoSem.ClaimMapViews
import Derived.JoinedTies
import Derived.KernelRfl
namespace Go.Proofs.YtccfilmiboepjaaDoor
/- THE CELL 'sum', in the pinned program and in every row, IS THE sha256 OF THE DUMP (.gsa) THAT YtccfilmiboepjaaDoorProg.lean LOADS. Nothing in Lean hashes anything: it is a label: what it is worth is what the hold of that sum in a sandbox is worth. -/
noncomputable def Tryd.pinned : Pinned := { name := "ytccfilmiboepjaadoor", sum := "4365a04a299ecfe6e1925ec7fb791716b526ba0518ec3e285b0e43b956ae63e4", checked := Tryd.checked }
namespace Rows
def none {H : Type} : Left H := { results := [], args := [] }

/- WHAT THE LISTED PACKAGE-LEVEL VARIABLES READ AS WHEN THE CALL BEGINS. Each datum BY PROGRAM (the guide's laid-datum.mjs) off the statement by which the dump's own 'gosem.cut.vars' lays the variable. In a bare row this is a premise. The card (YtccfilmiboepjaaDoorCards.lean) ties it to the program's text. -/
def laid_punctual_punctuallaw_noAct {H : Type} : DataW H := .agg [.lit (.int .i64 (-9)), .lit (.int .i64 0)]
def laid_punctual_punctuallaw_noCrit {H : Type} : DataW H := .agg [.lit (.int .i64 (-9)), .lit (.int .i64 0), .lit (.int .i64 0), .lit (.int .i64 0), .lit (.bool false), .lit (.int .i64 0)]
def laid_punctual_punctuallaw_noFrame {H : Type} : DataW H := .agg [.lit (.int .i64 (-9)), .lit (.int .i64 0), .lit (.int .i64 0), .lit (.int .i64 0)]
def laid_punctual_punctuallaw_noCome {H : Type} : DataW H := .agg [.lit (.int .i64 (-9)), .lit (.int .i64 0)]
def laid_punctual_punctuallaw_noTask {H : Type} : DataW H := .agg [.lit (.string [63]), .lit (.int .i64 (-9)), .lit (.int .i64 0), .lit (.int .i64 0), .lit (.int .i64 0), .lit (.int .i64 0), .lit (.int .i64 0)]
def laid_punctual_punctuallaw_noJob {H : Type} : DataW H := .agg [.lit (.int .i64 (-9)), .lit (.int .i64 0), .lit (.int .i64 0), .lit (.int .i64 0), .lit (.int .i64 0)]

/-- 'punctuallaw.LocksChecks': WHATEVER THE INPUT: true; the input reads as it did. -/
def locksChecksSpec : ChangeSpec := { name := "locksChecks", fn := fun _ => fun
  | [d1, d2] => { results := [.lit (.bool true)], args := [d1, d2] }
  | _ => none }
def locksChecksRow : OpenClaim := { program := "ytccfilmiboepjaadoor", sum := "4365a04a299ecfe6e1925ec7fb791716b526ba0518ec3e285b0e43b956ae63e4", func := "punctual/punctuallaw.LocksChecks", spec := "locksChecks", unfollowed := true, recurses := true, named := ["punctual/punctuallaw.noAct"], apart := false, laid := [("punctual/punctuallaw.noAct", laid_punctual_punctuallaw_noAct)] }
def LocksChecksSaid : Prop := locksChecksRow.holds Tryd.pinned (OpenSpec.ofChange locksChecksSpec)

/-- ITS FALSE NEIGHBOUR: 'it returns false'. Refute it at one input. -/
def locksChecksWrong : ChangeSpec := { name := "locksChecks", fn := fun _ => fun
  | [d1, d2] => { results := [.lit (.bool false)], args := [d1, d2] }
  | _ => none }
def LocksChecksWrongFalsely : Prop := locksChecksRow.holds Tryd.pinned (OpenSpec.ofChange locksChecksWrong)

/-- 'punctuallaw.ModesResponds': WHATEVER THE INPUT: true; the input reads as it did. -/
def modesRespondsSpec : ChangeSpec := { name := "modesResponds", fn := fun _ => fun
  | [d] => { results := [.lit (.bool true)], args := [d] }
  | _ => none }
def modesRespondsRow : OpenClaim := { program := "ytccfilmiboepjaadoor", sum := "4365a04a299ecfe6e1925ec7fb791716b526ba0518ec3e285b0e43b956ae63e4", func := "punctual/punctuallaw.ModesResponds", spec := "modesResponds", unfollowed := true, recurses := true, named := ["punctual/punctuallaw.noCrit"], apart := false, laid := [("punctual/punctuallaw.noCrit", laid_punctual_punctuallaw_noCrit)] }
def ModesRespondsSaid : Prop := modesRespondsRow.holds Tryd.pinned (OpenSpec.ofChange modesRespondsSpec)

/-- ITS FALSE NEIGHBOUR: 'it returns false'. Refute it at one input. -/
def modesRespondsWrong : ChangeSpec := { name := "modesResponds", fn := fun _ => fun
  | [d] => { results := [.lit (.bool false)], args := [d] }
  | _ => none }
def ModesRespondsWrongFalsely : Prop := modesRespondsRow.holds Tryd.pinned (OpenSpec.ofChange modesRespondsWrong)

/-- 'punctuallaw.NetTimes': WHATEVER THE INPUT: true; the input reads as it did. -/
def netTimesSpec : ChangeSpec := { name := "netTimes", fn := fun _ => fun
  | [d] => { results := [.lit (.bool true)], args := [d] }
  | _ => none }
def netTimesRow : OpenClaim := { program := "ytccfilmiboepjaadoor", sum := "4365a04a299ecfe6e1925ec7fb791716b526ba0518ec3e285b0e43b956ae63e4", func := "punctual/punctuallaw.NetTimes", spec := "netTimes", unfollowed := true, recurses := true, named := ["punctual/punctuallaw.noFrame"], apart := false, laid := [("punctual/punctuallaw.noFrame", laid_punctual_punctuallaw_noFrame)] }
def NetTimesSaid : Prop := netTimesRow.holds Tryd.pinned (OpenSpec.ofChange netTimesSpec)

/-- ITS FALSE NEIGHBOUR: 'it returns false'. Refute it at one input. -/
def netTimesWrong : ChangeSpec := { name := "netTimes", fn := fun _ => fun
  | [d] => { results := [.lit (.bool false)], args := [d] }
  | _ => none }
def NetTimesWrongFalsely : Prop := netTimesRow.holds Tryd.pinned (OpenSpec.ofChange netTimesWrong)

/-- 'punctuallaw.NetSends': WHATEVER THE INPUT: true; the input reads as it did. -/
def netSendsSpec : ChangeSpec := { name := "netSends", fn := fun _ => fun
  | [d1, d2, d3, d4] => { results := [.lit (.bool true)], args := [d1, d2, d3, d4] }
  | _ => none }
def netSendsRow : OpenClaim := { program := "ytccfilmiboepjaadoor", sum := "4365a04a299ecfe6e1925ec7fb791716b526ba0518ec3e285b0e43b956ae63e4", func := "punctual/punctuallaw.NetSends", spec := "netSends", unfollowed := true, recurses := true, named := ["punctual/punctuallaw.noFrame", "punctual/punctuallaw.noCome"], apart := false, laid := [("punctual/punctuallaw.noFrame", laid_punctual_punctuallaw_noFrame), ("punctual/punctuallaw.noCome", laid_punctual_punctuallaw_noCome)] }
def NetSendsSaid : Prop := netSendsRow.holds Tryd.pinned (OpenSpec.ofChange netSendsSpec)

/-- ITS FALSE NEIGHBOUR: 'it returns false'. Refute it at one input. -/
def netSendsWrong : ChangeSpec := { name := "netSends", fn := fun _ => fun
  | [d1, d2, d3, d4] => { results := [.lit (.bool false)], args := [d1, d2, d3, d4] }
  | _ => none }
def NetSendsWrongFalsely : Prop := netSendsRow.holds Tryd.pinned (OpenSpec.ofChange netSendsWrong)

/-- 'punctuallaw.RedoResponds': WHATEVER THE INPUT: true; the input reads as it did. -/
def redoRespondsSpec : ChangeSpec := { name := "redoResponds", fn := fun _ => fun
  | [d1, d2, d3, d4] => { results := [.lit (.bool true)], args := [d1, d2, d3, d4] }
  | _ => none }
def redoRespondsRow : OpenClaim := { program := "ytccfilmiboepjaadoor", sum := "4365a04a299ecfe6e1925ec7fb791716b526ba0518ec3e285b0e43b956ae63e4", func := "punctual/punctuallaw.RedoResponds", spec := "redoResponds", unfollowed := true, recurses := true, named := ["punctual/punctuallaw.noTask"], apart := false, laid := [("punctual/punctuallaw.noTask", laid_punctual_punctuallaw_noTask)] }
def RedoRespondsSaid : Prop := redoRespondsRow.holds Tryd.pinned (OpenSpec.ofChange redoRespondsSpec)

/-- ITS FALSE NEIGHBOUR: 'it returns false'. Refute it at one input. -/
def redoRespondsWrong : ChangeSpec := { name := "redoResponds", fn := fun _ => fun
  | [d1, d2, d3, d4] => { results := [.lit (.bool false)], args := [d1, d2, d3, d4] }
  | _ => none }
def RedoRespondsWrongFalsely : Prop := redoRespondsRow.holds Tryd.pinned (OpenSpec.ofChange redoRespondsWrong)

/-- 'punctuallaw.RedoPlays': WHATEVER THE INPUT: true; the input reads as it did. -/
def redoPlaysSpec : ChangeSpec := { name := "redoPlays", fn := fun _ => fun
  | [d1, d2, d3, d4] => { results := [.lit (.bool true)], args := [d1, d2, d3, d4] }
  | _ => none }
def redoPlaysRow : OpenClaim := { program := "ytccfilmiboepjaadoor", sum := "4365a04a299ecfe6e1925ec7fb791716b526ba0518ec3e285b0e43b956ae63e4", func := "punctual/punctuallaw.RedoPlays", spec := "redoPlays", unfollowed := true, recurses := true, named := ["punctual/punctuallaw.noJob"], apart := false, laid := [("punctual/punctuallaw.noJob", laid_punctual_punctuallaw_noJob)] }
def RedoPlaysSaid : Prop := redoPlaysRow.holds Tryd.pinned (OpenSpec.ofChange redoPlaysSpec)

/-- ITS FALSE NEIGHBOUR: 'it returns false'. Refute it at one input. -/
def redoPlaysWrong : ChangeSpec := { name := "redoPlays", fn := fun _ => fun
  | [d1, d2, d3, d4] => { results := [.lit (.bool false)], args := [d1, d2, d3, d4] }
  | _ => none }
def RedoPlaysWrongFalsely : Prop := redoPlaysRow.holds Tryd.pinned (OpenSpec.ofChange redoPlaysWrong)

/-- 'punctuallaw.ModesPlays': WHATEVER THE INPUT: true; the input reads as it did. -/
def modesPlaysSpec : ChangeSpec := { name := "modesPlays", fn := fun _ => fun
  | [d1, d2, d3, d4] => { results := [.lit (.bool true)], args := [d1, d2, d3, d4] }
  | _ => none }
def modesPlaysRow : OpenClaim := { program := "ytccfilmiboepjaadoor", sum := "4365a04a299ecfe6e1925ec7fb791716b526ba0518ec3e285b0e43b956ae63e4", func := "punctual/punctuallaw.ModesPlays", spec := "modesPlays", inPlace := ["internal/reflectlite.ValueOf", "internal/reflectlite.Swapper", "(internal/reflectlite.Value).Len"], unfollowed := true, recurses := true, named := ["punctual/punctuallaw.noCrit", "punctual/punctuallaw.noCome"], apart := false, laid := [("punctual/punctuallaw.noCrit", laid_punctual_punctuallaw_noCrit), ("punctual/punctuallaw.noCome", laid_punctual_punctuallaw_noCome)] }
def ModesPlaysSaid : Prop := modesPlaysRow.holds Tryd.pinned (OpenSpec.ofChange modesPlaysSpec)

/-- ITS FALSE NEIGHBOUR: 'it returns false'. Refute it at one input. -/
def modesPlaysWrong : ChangeSpec := { name := "modesPlays", fn := fun _ => fun
  | [d1, d2, d3, d4] => { results := [.lit (.bool false)], args := [d1, d2, d3, d4] }
  | _ => none }
def ModesPlaysWrongFalsely : Prop := modesPlaysRow.holds Tryd.pinned (OpenSpec.ofChange modesPlaysWrong)

/- THE SECOND FORM. 'bulk': how many values and letters a reading holds, each counted each time it is reached (what is shared counts as often as it is met; a slice's spare places count too). A statement '..UptoSaid' is the law's where the arguments, and the package variables that the reading takes, are together of bulk at most 1048576: NARROWER than '..Said'. Prove '..Said' where nothing that the law and all that it calls make is longer than what came in: it says more and counts as full. Else prove '..UptoSaid'. A law counts once. -/
mutual
def uptoBulk {H : Type} : DataW H → Nat
  | .lit (.string bytes) => bytes.length + 1
  | .lit _ => 1
  | .nil => 1
  | .ptr d => uptoBulk d + 1
  | .slice elems spare => uptoBulkAll elems + uptoBulkAll spare + 1
  | .agg parts => uptoBulkAll parts + 1
  | .iface _ d => uptoBulk d + 1
  | .map entries => uptoBulkEntries entries + 1
  | .held _ => 1
def uptoBulkAll {H : Type} : List (DataW H) → Nat
  | [] => 0
  | d :: r => uptoBulk d + uptoBulkAll r
def uptoBulkEntries {H : Type} : List (Lit × DataW H) → Nat
  | [] => 0
  | x :: r => uptoBulkEntry x + uptoBulkEntries r
def uptoBulkEntry {H : Type} : Lit × DataW H → Nat
  | (.string bytes, d) => bytes.length + uptoBulk d + 1
  | (_, d) => uptoBulk d + 1
 end
def uptoSmall : (H : Type) → List (DataW H) → Bool := fun _ ds => decide (uptoBulkAll ds ≤ 1048576)
def OpenSpec.upto (s : _root_.Go.ChangeSpec) : _root_.Go.OpenSpec := { _root_.Go.OpenSpec.ofChange s with cond := some uptoSmall }

/-- 'punctuallaw.LocksChecks', WHERE WHAT IT READS IS OF BULK AT MOST 1048576: true; the input reads as it did. -/
def locksChecksUptoRow : OpenClaim := { program := "ytccfilmiboepjaadoor", sum := "4365a04a299ecfe6e1925ec7fb791716b526ba0518ec3e285b0e43b956ae63e4", func := "punctual/punctuallaw.LocksChecks", spec := "locksChecks", unfollowed := true, recurses := true, named := ["punctual/punctuallaw.noAct"], apart := false, laid := [("punctual/punctuallaw.noAct", laid_punctual_punctuallaw_noAct)], narrowed := true }
def LocksChecksUptoSaid : Prop := locksChecksUptoRow.holds Tryd.pinned (OpenSpec.upto locksChecksSpec)

/-- 'punctuallaw.ModesResponds', WHERE WHAT IT READS IS OF BULK AT MOST 1048576: true; the input reads as it did. -/
def modesRespondsUptoRow : OpenClaim := { program := "ytccfilmiboepjaadoor", sum := "4365a04a299ecfe6e1925ec7fb791716b526ba0518ec3e285b0e43b956ae63e4", func := "punctual/punctuallaw.ModesResponds", spec := "modesResponds", unfollowed := true, recurses := true, named := ["punctual/punctuallaw.noCrit"], apart := false, laid := [("punctual/punctuallaw.noCrit", laid_punctual_punctuallaw_noCrit)], narrowed := true }
def ModesRespondsUptoSaid : Prop := modesRespondsUptoRow.holds Tryd.pinned (OpenSpec.upto modesRespondsSpec)

/-- 'punctuallaw.NetTimes', WHERE WHAT IT READS IS OF BULK AT MOST 1048576: true; the input reads as it did. -/
def netTimesUptoRow : OpenClaim := { program := "ytccfilmiboepjaadoor", sum := "4365a04a299ecfe6e1925ec7fb791716b526ba0518ec3e285b0e43b956ae63e4", func := "punctual/punctuallaw.NetTimes", spec := "netTimes", unfollowed := true, recurses := true, named := ["punctual/punctuallaw.noFrame"], apart := false, laid := [("punctual/punctuallaw.noFrame", laid_punctual_punctuallaw_noFrame)], narrowed := true }
def NetTimesUptoSaid : Prop := netTimesUptoRow.holds Tryd.pinned (OpenSpec.upto netTimesSpec)

/-- 'punctuallaw.NetSends', WHERE WHAT IT READS IS OF BULK AT MOST 1048576: true; the input reads as it did. -/
def netSendsUptoRow : OpenClaim := { program := "ytccfilmiboepjaadoor", sum := "4365a04a299ecfe6e1925ec7fb791716b526ba0518ec3e285b0e43b956ae63e4", func := "punctual/punctuallaw.NetSends", spec := "netSends", unfollowed := true, recurses := true, named := ["punctual/punctuallaw.noFrame", "punctual/punctuallaw.noCome"], apart := false, laid := [("punctual/punctuallaw.noFrame", laid_punctual_punctuallaw_noFrame), ("punctual/punctuallaw.noCome", laid_punctual_punctuallaw_noCome)], narrowed := true }
def NetSendsUptoSaid : Prop := netSendsUptoRow.holds Tryd.pinned (OpenSpec.upto netSendsSpec)

/-- 'punctuallaw.RedoResponds', WHERE WHAT IT READS IS OF BULK AT MOST 1048576: true; the input reads as it did. -/
def redoRespondsUptoRow : OpenClaim := { program := "ytccfilmiboepjaadoor", sum := "4365a04a299ecfe6e1925ec7fb791716b526ba0518ec3e285b0e43b956ae63e4", func := "punctual/punctuallaw.RedoResponds", spec := "redoResponds", unfollowed := true, recurses := true, named := ["punctual/punctuallaw.noTask"], apart := false, laid := [("punctual/punctuallaw.noTask", laid_punctual_punctuallaw_noTask)], narrowed := true }
def RedoRespondsUptoSaid : Prop := redoRespondsUptoRow.holds Tryd.pinned (OpenSpec.upto redoRespondsSpec)

/-- 'punctuallaw.RedoPlays', WHERE WHAT IT READS IS OF BULK AT MOST 1048576: true; the input reads as it did. -/
def redoPlaysUptoRow : OpenClaim := { program := "ytccfilmiboepjaadoor", sum := "4365a04a299ecfe6e1925ec7fb791716b526ba0518ec3e285b0e43b956ae63e4", func := "punctual/punctuallaw.RedoPlays", spec := "redoPlays", unfollowed := true, recurses := true, named := ["punctual/punctuallaw.noJob"], apart := false, laid := [("punctual/punctuallaw.noJob", laid_punctual_punctuallaw_noJob)], narrowed := true }
def RedoPlaysUptoSaid : Prop := redoPlaysUptoRow.holds Tryd.pinned (OpenSpec.upto redoPlaysSpec)

/-- 'punctuallaw.ModesPlays', WHERE WHAT IT READS IS OF BULK AT MOST 1048576: true; the input reads as it did. -/
def modesPlaysUptoRow : OpenClaim := { program := "ytccfilmiboepjaadoor", sum := "4365a04a299ecfe6e1925ec7fb791716b526ba0518ec3e285b0e43b956ae63e4", func := "punctual/punctuallaw.ModesPlays", spec := "modesPlays", inPlace := ["internal/reflectlite.ValueOf", "internal/reflectlite.Swapper", "(internal/reflectlite.Value).Len"], unfollowed := true, recurses := true, named := ["punctual/punctuallaw.noCrit", "punctual/punctuallaw.noCome"], apart := false, laid := [("punctual/punctuallaw.noCrit", laid_punctual_punctuallaw_noCrit), ("punctual/punctuallaw.noCome", laid_punctual_punctuallaw_noCome)], narrowed := true }
def ModesPlaysUptoSaid : Prop := modesPlaysUptoRow.holds Tryd.pinned (OpenSpec.upto modesPlaysSpec)

end Rows
end Go.Proofs.YtccfilmiboepjaaDoor
