/-
  No cell of these rows narrows 'for every input' (looked for: loops, veiled, ifaces, maps, wideKeys, modest, calm, conditions, laid).
  DERIVED. THE GIVEN ROWS OF THIS SEAT. 5 by the template 'for every input the law returns true; each argument reads behind the call as it read before'; 0 by the template 'total and deterministic' (their statements: YtccfilmiboepjaaTotals.lean).
  GIVEN WITH THE SEED: the statements are not yours to turn. If you find one false, say at which input.
  Laid BY PROGRAM, IN A SANDBOX (cutbox-rows.mjs): the forced cells as the released guide's own fill.sh prints them over the translation 46d18b8f65656bdc… (all of the seat's roots in one cut). By AI agents, Wed Nov 11 2026. No macro, syntax, notation, axiom, sorry.
-/
import Derived.Test.YtccfilmiboepjaaChecked
import GoSem.Claim
import GoSem.ClaimJoined
import GoSem.ClaimMapViews
import Derived.JoinedTies
import Derived.KernelRfl
namespace Go.Proofs.Ytccfilmiboepjaa
/- THE CELL 'sum', in the pinned program and in every row, IS THE sha256 OF THE DUMP (.gsa) THAT YtccfilmiboepjaaProg.lean LOADS. Nothing in Lean hashes anything: it is a label: what it is worth is what the hold of that sum in a sandbox is worth. -/
noncomputable def Try.pinned : Pinned := { name := "ytccfilmiboepjaa", sum := "46d18b8f65656bdc89111f407f68921a892d6ba5959373182d43f66b9f6ef62f", checked := Try.checked }
namespace Rows
def none {H : Type} : Left H := { results := [], args := [] }

/-- 'punctuallaw.ModesKeep': WHATEVER THE INPUT: true; the input reads as it did. -/
def modesKeepSpec : ChangeSpec := { name := "modesKeep", fn := fun _ => fun
  | [d1, d2, d3] => { results := [.lit (.bool true)], args := [d1, d2, d3] }
  | _ => none }
def modesKeepRow : OpenClaim := { program := "ytccfilmiboepjaa", sum := "46d18b8f65656bdc89111f407f68921a892d6ba5959373182d43f66b9f6ef62f", func := "punctual/punctuallaw.ModesKeep", spec := "modesKeep", unfollowed := true, recurses := true, apart := false }
def ModesKeepSaid : Prop := modesKeepRow.holds Try.pinned (OpenSpec.ofChange modesKeepSpec)

/-- ITS FALSE NEIGHBOUR: 'it returns false'. Refute it at one input. -/
def modesKeepWrong : ChangeSpec := { name := "modesKeep", fn := fun _ => fun
  | [d1, d2, d3] => { results := [.lit (.bool false)], args := [d1, d2, d3] }
  | _ => none }
def ModesKeepWrongFalsely : Prop := modesKeepRow.holds Try.pinned (OpenSpec.ofChange modesKeepWrong)

/-- 'punctuallaw.NetKeeps': WHATEVER THE INPUT: true; the input reads as it did. -/
def netKeepsSpec : ChangeSpec := { name := "netKeeps", fn := fun _ => fun
  | [d1, d2, d3] => { results := [.lit (.bool true)], args := [d1, d2, d3] }
  | _ => none }
def netKeepsRow : OpenClaim := { program := "ytccfilmiboepjaa", sum := "46d18b8f65656bdc89111f407f68921a892d6ba5959373182d43f66b9f6ef62f", func := "punctual/punctuallaw.NetKeeps", spec := "netKeeps", unfollowed := true, recurses := true, apart := false }
def NetKeepsSaid : Prop := netKeepsRow.holds Try.pinned (OpenSpec.ofChange netKeepsSpec)

/-- ITS FALSE NEIGHBOUR: 'it returns false'. Refute it at one input. -/
def netKeepsWrong : ChangeSpec := { name := "netKeeps", fn := fun _ => fun
  | [d1, d2, d3] => { results := [.lit (.bool false)], args := [d1, d2, d3] }
  | _ => none }
def NetKeepsWrongFalsely : Prop := netKeepsRow.holds Try.pinned (OpenSpec.ofChange netKeepsWrong)

/-- 'punctuallaw.LocksPlays': WHATEVER THE INPUT: true; the input reads as it did. -/
def locksPlaysSpec : ChangeSpec := { name := "locksPlays", fn := fun _ => fun
  | [d1, d2, d3] => { results := [.lit (.bool true)], args := [d1, d2, d3] }
  | _ => none }
def locksPlaysRow : OpenClaim := { program := "ytccfilmiboepjaa", sum := "46d18b8f65656bdc89111f407f68921a892d6ba5959373182d43f66b9f6ef62f", func := "punctual/punctuallaw.LocksPlays", spec := "locksPlays", unfollowed := true, recurses := true, apart := false }
def LocksPlaysSaid : Prop := locksPlaysRow.holds Try.pinned (OpenSpec.ofChange locksPlaysSpec)

/-- ITS FALSE NEIGHBOUR: 'it returns false'. Refute it at one input. -/
def locksPlaysWrong : ChangeSpec := { name := "locksPlays", fn := fun _ => fun
  | [d1, d2, d3] => { results := [.lit (.bool false)], args := [d1, d2, d3] }
  | _ => none }
def LocksPlaysWrongFalsely : Prop := locksPlaysRow.holds Try.pinned (OpenSpec.ofChange locksPlaysWrong)

/-- 'punctuallaw.LocksOnce': WHATEVER THE INPUT: true; the input reads as it did. -/
def locksOnceSpec : ChangeSpec := { name := "locksOnce", fn := fun _ => fun
  | [d1, d2] => { results := [.lit (.bool true)], args := [d1, d2] }
  | _ => none }
def locksOnceRow : OpenClaim := { program := "ytccfilmiboepjaa", sum := "46d18b8f65656bdc89111f407f68921a892d6ba5959373182d43f66b9f6ef62f", func := "punctual/punctuallaw.LocksOnce", spec := "locksOnce", unfollowed := true, recurses := true, apart := false }
def LocksOnceSaid : Prop := locksOnceRow.holds Try.pinned (OpenSpec.ofChange locksOnceSpec)

/-- ITS FALSE NEIGHBOUR: 'it returns false'. Refute it at one input. -/
def locksOnceWrong : ChangeSpec := { name := "locksOnce", fn := fun _ => fun
  | [d1, d2] => { results := [.lit (.bool false)], args := [d1, d2] }
  | _ => none }
def LocksOnceWrongFalsely : Prop := locksOnceRow.holds Try.pinned (OpenSpec.ofChange locksOnceWrong)

/-- 'punctuallaw.RedoKeeps': WHATEVER THE INPUT: true; the input reads as it did. -/
def redoKeepsSpec : ChangeSpec := { name := "redoKeeps", fn := fun _ => fun
  | [d1, d2, d3, d4, d5, d6, d7] => { results := [.lit (.bool true)], args := [d1, d2, d3, d4, d5, d6, d7] }
  | _ => none }
def redoKeepsRow : OpenClaim := { program := "ytccfilmiboepjaa", sum := "46d18b8f65656bdc89111f407f68921a892d6ba5959373182d43f66b9f6ef62f", func := "punctual/punctuallaw.RedoKeeps", spec := "redoKeeps", unfollowed := true, recurses := true, apart := false }
def RedoKeepsSaid : Prop := redoKeepsRow.holds Try.pinned (OpenSpec.ofChange redoKeepsSpec)

/-- ITS FALSE NEIGHBOUR: 'it returns false'. Refute it at one input. -/
def redoKeepsWrong : ChangeSpec := { name := "redoKeeps", fn := fun _ => fun
  | [d1, d2, d3, d4, d5, d6, d7] => { results := [.lit (.bool false)], args := [d1, d2, d3, d4, d5, d6, d7] }
  | _ => none }
def RedoKeepsWrongFalsely : Prop := redoKeepsRow.holds Try.pinned (OpenSpec.ofChange redoKeepsWrong)

/- THE SECOND FORM. 'bulk': how many values and letters a reading holds, each counted each time it is reached (what is shared counts as often as it is met; a slice's spare places count too). A statement '..UptoSaid' is the law's where the arguments, and the package variables that the reading takes, are together of bulk at most 1048576: NARROWER than '..Said'. Prove '..Said' where nothing that the law and all that it calls make is longer than what came in: it says more and counts as full. Else prove '..UptoSaid'. A law counts once. -/
mutual
def uptoBulk {H : Type} : DataW H → Nat
  | .lit (.string bytes) => bytes.length + 1
  | .lit _ => 1
  | .nil => 1
  | .ptr d => uptoBulk d + 1
  | .slice elems spare => uptoBulkAll elems + uptoBulkAll spare + 1
  | .agg parts => uptoBulkAll parts + 1
  | .iface _ d => uptoBulk d + 1
  | .map entries => uptoBulkEntries entries + 1
  | .held _ => 1
def uptoBulkAll {H : Type} : List (DataW H) → Nat
  | [] => 0
  | d :: r => uptoBulk d + uptoBulkAll r
def uptoBulkEntries {H : Type} : List (Lit × DataW H) → Nat
  | [] => 0
  | x :: r => uptoBulkEntry x + uptoBulkEntries r
def uptoBulkEntry {H : Type} : Lit × DataW H → Nat
  | (.string bytes, d) => bytes.length + uptoBulk d + 1
  | (_, d) => uptoBulk d + 1
 end
def uptoSmall : (H : Type) → List (DataW H) → Bool := fun _ ds => decide (uptoBulkAll ds ≤ 1048576)
def OpenSpec.upto (s : _root_.Go.ChangeSpec) : _root_.Go.OpenSpec := { _root_.Go.OpenSpec.ofChange s with cond := some uptoSmall }

/-- 'punctuallaw.ModesKeep', WHERE WHAT IT READS IS OF BULK AT MOST 1048576: true; the input reads as it did. -/
def modesKeepUptoRow : OpenClaim := { program := "ytccfilmiboepjaa", sum := "46d18b8f65656bdc89111f407f68921a892d6ba5959373182d43f66b9f6ef62f", func := "punctual/punctuallaw.ModesKeep", spec := "modesKeep", unfollowed := true, recurses := true, apart := false, narrowed := true }
def ModesKeepUptoSaid : Prop := modesKeepUptoRow.holds Try.pinned (OpenSpec.upto modesKeepSpec)

/-- 'punctuallaw.NetKeeps', WHERE WHAT IT READS IS OF BULK AT MOST 1048576: true; the input reads as it did. -/
def netKeepsUptoRow : OpenClaim := { program := "ytccfilmiboepjaa", sum := "46d18b8f65656bdc89111f407f68921a892d6ba5959373182d43f66b9f6ef62f", func := "punctual/punctuallaw.NetKeeps", spec := "netKeeps", unfollowed := true, recurses := true, apart := false, narrowed := true }
def NetKeepsUptoSaid : Prop := netKeepsUptoRow.holds Try.pinned (OpenSpec.upto netKeepsSpec)

/-- 'punctuallaw.LocksPlays', WHERE WHAT IT READS IS OF BULK AT MOST 1048576: true; the input reads as it did. -/
def locksPlaysUptoRow : OpenClaim := { program := "ytccfilmiboepjaa", sum := "46d18b8f65656bdc89111f407f68921a892d6ba5959373182d43f66b9f6ef62f", func := "punctual/punctuallaw.LocksPlays", spec := "locksPlays", unfollowed := true, recurses := true, apart := false, narrowed := true }
def LocksPlaysUptoSaid : Prop := locksPlaysUptoRow.holds Try.pinned (OpenSpec.upto locksPlaysSpec)

/-- 'punctuallaw.LocksOnce', WHERE WHAT IT READS IS OF BULK AT MOST 1048576: true; the input reads as it did. -/
def locksOnceUptoRow : OpenClaim := { program := "ytccfilmiboepjaa", sum := "46d18b8f65656bdc89111f407f68921a892d6ba5959373182d43f66b9f6ef62f", func := "punctual/punctuallaw.LocksOnce", spec := "locksOnce", unfollowed := true, recurses := true, apart := false, narrowed := true }
def LocksOnceUptoSaid : Prop := locksOnceUptoRow.holds Try.pinned (OpenSpec.upto locksOnceSpec)

/-- 'punctuallaw.RedoKeeps', WHERE WHAT IT READS IS OF BULK AT MOST 1048576: true; the input reads as it did. -/
def redoKeepsUptoRow : OpenClaim := { program := "ytccfilmiboepjaa", sum := "46d18b8f65656bdc89111f407f68921a892d6ba5959373182d43f66b9f6ef62f", func := "punctual/punctuallaw.RedoKeeps", spec := "redoKeeps", unfollowed := true, recurses := true, apart := false, narrowed := true }
def RedoKeepsUptoSaid : Prop := redoKeepsUptoRow.holds Try.pinned (OpenSpec.upto redoKeepsSpec)

end Rows
end Go.Proofs.Ytccfilmiboepjaa
