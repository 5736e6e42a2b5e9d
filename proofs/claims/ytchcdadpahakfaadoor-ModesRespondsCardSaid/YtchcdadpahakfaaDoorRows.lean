/-
  NARROWER THAN 'FOR EVERY INPUT', by the rows' own cells (each row's printed sentence says how): ModesResponds: laid · ModesPlays: laid · ChainResponds: laid · ChainPlays: laid.
  DERIVED. THE GIVEN ROWS OF THIS SEAT. 4 by the template 'for every input the law returns true; each argument reads behind the call as it read before'; 0 by the template 'total and deterministic' (their statements: YtchcdadpahakfaaDoorTotals.lean).
  GIVEN WITH THE SEED: the statements are not yours to turn. If you find one false, say at which input.
  Laid BY PROGRAM, IN A SANDBOX (cutbox-rows.mjs): the forced cells as the released guide's own fill.sh prints them over the translation d22076425f7a6899… (all of the seat's roots in one cut). By AI agents, Wed Nov 11 2026. No macro, syntax, notation, axiom, sorry.
-/
import Derived.Test.YtchcdadpahakfaaDoorChecked
import GoSem.Claim
import GoSem.ClaimJoined
import GoSem.ClaimMapViews
import Derived.JoinedTies
import Derived.KernelRfl
namespace Go.Proofs.YtchcdadpahakfaaDoor
/- THE CELL 'sum', in the pinned program and in every row, IS THE sha256 OF THE DUMP (.gsa) THAT YtchcdadpahakfaaDoorProg.lean LOADS. Nothing in Lean hashes anything: it is a label: what it is worth is what the hold of that sum in a sandbox is worth. -/
noncomputable def Tryd.pinned : Pinned := { name := "ytchcdadpahakfaadoor", sum := "d22076425f7a6899a368233d175e4c19134cc2308664e4058e891eafc76eafd1", checked := Tryd.checked }
namespace Rows
def none {H : Type} : Left H := { results := [], args := [] }

/- WHAT THE LISTED PACKAGE-LEVEL VARIABLES READ AS WHEN THE CALL BEGINS. Each datum BY PROGRAM (the guide's laid-datum.mjs) off the statement by which the dump's own 'gosem.cut.vars' lays the variable. In a bare row this is a premise. The card (YtchcdadpahakfaaDoorCards.lean) ties it to the program's text. -/
def laid_punctual_punctuallaw_noCrit {H : Type} : DataW H := .agg [.lit (.int .i64 (-9)), .lit (.int .i64 0), .lit (.int .i64 0), .lit (.int .i64 0), .lit (.bool false), .lit (.int .i64 0)]
def laid_punctual_punctuallaw_noCome {H : Type} : DataW H := .agg [.lit (.int .i64 (-9)), .lit (.int .i64 0)]
def laid_punctual_punctuallaw_noPart {H : Type} : DataW H := .agg [.lit (.int .i64 0), .lit (.int .i64 0), .lit (.int .i64 0), .lit (.int .i64 (-9)), .lit (.int .i64 0), .lit (.int .i64 0), .lit (.int .i64 0)]

/-- 'punctuallaw.ModesResponds': WHATEVER THE INPUT: true; the input reads as it did. -/
def modesRespondsSpec : ChangeSpec := { name := "modesResponds", fn := fun _ => fun
  | [d] => { results := [.lit (.bool true)], args := [d] }
  | _ => none }
def modesRespondsRow : OpenClaim := { program := "ytchcdadpahakfaadoor", sum := "d22076425f7a6899a368233d175e4c19134cc2308664e4058e891eafc76eafd1", func := "punctual/punctuallaw.ModesResponds", spec := "modesResponds", unfollowed := true, recurses := true, named := ["punctual/punctuallaw.noCrit"], apart := false, laid := [("punctual/punctuallaw.noCrit", laid_punctual_punctuallaw_noCrit)] }
def ModesRespondsSaid : Prop := modesRespondsRow.holds Tryd.pinned (OpenSpec.ofChange modesRespondsSpec)

/-- ITS FALSE NEIGHBOUR: 'it returns false'. Refute it at one input. -/
def modesRespondsWrong : ChangeSpec := { name := "modesResponds", fn := fun _ => fun
  | [d] => { results := [.lit (.bool false)], args := [d] }
  | _ => none }
def ModesRespondsWrongFalsely : Prop := modesRespondsRow.holds Tryd.pinned (OpenSpec.ofChange modesRespondsWrong)

/-- 'punctuallaw.ModesPlays': WHATEVER THE INPUT: true; the input reads as it did. -/
def modesPlaysSpec : ChangeSpec := { name := "modesPlays", fn := fun _ => fun
  | [d1, d2, d3, d4] => { results := [.lit (.bool true)], args := [d1, d2, d3, d4] }
  | _ => none }
def modesPlaysRow : OpenClaim := { program := "ytchcdadpahakfaadoor", sum := "d22076425f7a6899a368233d175e4c19134cc2308664e4058e891eafc76eafd1", func := "punctual/punctuallaw.ModesPlays", spec := "modesPlays", inPlace := ["internal/reflectlite.ValueOf", "internal/reflectlite.Swapper", "(internal/reflectlite.Value).Len"], unfollowed := true, recurses := true, named := ["punctual/punctuallaw.noCrit", "punctual/punctuallaw.noCome"], apart := false, laid := [("punctual/punctuallaw.noCrit", laid_punctual_punctuallaw_noCrit), ("punctual/punctuallaw.noCome", laid_punctual_punctuallaw_noCome)] }
def ModesPlaysSaid : Prop := modesPlaysRow.holds Tryd.pinned (OpenSpec.ofChange modesPlaysSpec)

/-- ITS FALSE NEIGHBOUR: 'it returns false'. Refute it at one input. -/
def modesPlaysWrong : ChangeSpec := { name := "modesPlays", fn := fun _ => fun
  | [d1, d2, d3, d4] => { results := [.lit (.bool false)], args := [d1, d2, d3, d4] }
  | _ => none }
def ModesPlaysWrongFalsely : Prop := modesPlaysRow.holds Tryd.pinned (OpenSpec.ofChange modesPlaysWrong)

/-- 'punctuallaw.ChainResponds': WHATEVER THE INPUT: true; the input reads as it did. -/
def chainRespondsSpec : ChangeSpec := { name := "chainResponds", fn := fun _ => fun
  | [d1, d2] => { results := [.lit (.bool true)], args := [d1, d2] }
  | _ => none }
def chainRespondsRow : OpenClaim := { program := "ytchcdadpahakfaadoor", sum := "d22076425f7a6899a368233d175e4c19134cc2308664e4058e891eafc76eafd1", func := "punctual/punctuallaw.ChainResponds", spec := "chainResponds", unfollowed := true, recurses := true, named := ["punctual/punctuallaw.noPart"], apart := false, laid := [("punctual/punctuallaw.noPart", laid_punctual_punctuallaw_noPart)] }
def ChainRespondsSaid : Prop := chainRespondsRow.holds Tryd.pinned (OpenSpec.ofChange chainRespondsSpec)

/-- ITS FALSE NEIGHBOUR: 'it returns false'. Refute it at one input. -/
def chainRespondsWrong : ChangeSpec := { name := "chainResponds", fn := fun _ => fun
  | [d1, d2] => { results := [.lit (.bool false)], args := [d1, d2] }
  | _ => none }
def ChainRespondsWrongFalsely : Prop := chainRespondsRow.holds Tryd.pinned (OpenSpec.ofChange chainRespondsWrong)

/-- 'punctuallaw.ChainPlays': WHATEVER THE INPUT: true; the input reads as it did. -/
def chainPlaysSpec : ChangeSpec := { name := "chainPlays", fn := fun _ => fun
  | [d1, d2, d3, d4] => { results := [.lit (.bool true)], args := [d1, d2, d3, d4] }
  | _ => none }
def chainPlaysRow : OpenClaim := { program := "ytchcdadpahakfaadoor", sum := "d22076425f7a6899a368233d175e4c19134cc2308664e4058e891eafc76eafd1", func := "punctual/punctuallaw.ChainPlays", spec := "chainPlays", inPlace := ["internal/reflectlite.ValueOf", "internal/reflectlite.Swapper", "(internal/reflectlite.Value).Len"], unfollowed := true, recurses := true, named := ["punctual/punctuallaw.noPart", "punctual/punctuallaw.noCome"], apart := false, laid := [("punctual/punctuallaw.noPart", laid_punctual_punctuallaw_noPart), ("punctual/punctuallaw.noCome", laid_punctual_punctuallaw_noCome)] }
def ChainPlaysSaid : Prop := chainPlaysRow.holds Tryd.pinned (OpenSpec.ofChange chainPlaysSpec)

/-- ITS FALSE NEIGHBOUR: 'it returns false'. Refute it at one input. -/
def chainPlaysWrong : ChangeSpec := { name := "chainPlays", fn := fun _ => fun
  | [d1, d2, d3, d4] => { results := [.lit (.bool false)], args := [d1, d2, d3, d4] }
  | _ => none }
def ChainPlaysWrongFalsely : Prop := chainPlaysRow.holds Tryd.pinned (OpenSpec.ofChange chainPlaysWrong)

/- THE SECOND FORM. 'bulk': how many values and letters a reading holds, each counted each time it is reached (what is shared counts as often as it is met; a slice's spare places count too). A statement '..UptoSaid' is the law's where the arguments, and the package variables that the reading takes, are together of bulk at most 1048576: NARROWER than '..Said'. Prove '..Said' where nothing that the law and all that it calls make is longer than what came in: it says more and counts as full. Else prove '..UptoSaid'. A law counts once. -/
mutual
def uptoBulk {H : Type} : DataW H → Nat
  | .lit (.string bytes) => bytes.length + 1
  | .lit _ => 1
  | .nil => 1
  | .ptr d => uptoBulk d + 1
  | .slice elems spare => uptoBulkAll elems + uptoBulkAll spare + 1
  | .agg parts => uptoBulkAll parts + 1
  | .iface _ d => uptoBulk d + 1
  | .map entries => uptoBulkEntries entries + 1
  | .held _ => 1
def uptoBulkAll {H : Type} : List (DataW H) → Nat
  | [] => 0
  | d :: r => uptoBulk d + uptoBulkAll r
def uptoBulkEntries {H : Type} : List (Lit × DataW H) → Nat
  | [] => 0
  | x :: r => uptoBulkEntry x + uptoBulkEntries r
def uptoBulkEntry {H : Type} : Lit × DataW H → Nat
  | (.string bytes, d) => bytes.length + uptoBulk d + 1
  | (_, d) => uptoBulk d + 1
 end
def uptoSmall : (H : Type) → List (DataW H) → Bool := fun _ ds => decide (uptoBulkAll ds ≤ 1048576)
def OpenSpec.upto (s : _root_.Go.ChangeSpec) : _root_.Go.OpenSpec := { _root_.Go.OpenSpec.ofChange s with cond := some uptoSmall }

/-- 'punctuallaw.ModesResponds', WHERE WHAT IT READS IS OF BULK AT MOST 1048576: true; the input reads as it did. -/
def modesRespondsUptoRow : OpenClaim := { program := "ytchcdadpahakfaadoor", sum := "d22076425f7a6899a368233d175e4c19134cc2308664e4058e891eafc76eafd1", func := "punctual/punctuallaw.ModesResponds", spec := "modesResponds", unfollowed := true, recurses := true, named := ["punctual/punctuallaw.noCrit"], apart := false, laid := [("punctual/punctuallaw.noCrit", laid_punctual_punctuallaw_noCrit)], narrowed := true }
def ModesRespondsUptoSaid : Prop := modesRespondsUptoRow.holds Tryd.pinned (OpenSpec.upto modesRespondsSpec)

/-- 'punctuallaw.ModesPlays', WHERE WHAT IT READS IS OF BULK AT MOST 1048576: true; the input reads as it did. -/
def modesPlaysUptoRow : OpenClaim := { program := "ytchcdadpahakfaadoor", sum := "d22076425f7a6899a368233d175e4c19134cc2308664e4058e891eafc76eafd1", func := "punctual/punctuallaw.ModesPlays", spec := "modesPlays", inPlace := ["internal/reflectlite.ValueOf", "internal/reflectlite.Swapper", "(internal/reflectlite.Value).Len"], unfollowed := true, recurses := true, named := ["punctual/punctuallaw.noCrit", "punctual/punctuallaw.noCome"], apart := false, laid := [("punctual/punctuallaw.noCrit", laid_punctual_punctuallaw_noCrit), ("punctual/punctuallaw.noCome", laid_punctual_punctuallaw_noCome)], narrowed := true }
def ModesPlaysUptoSaid : Prop := modesPlaysUptoRow.holds Tryd.pinned (OpenSpec.upto modesPlaysSpec)

/-- 'punctuallaw.ChainResponds', WHERE WHAT IT READS IS OF BULK AT MOST 1048576: true; the input reads as it did. -/
def chainRespondsUptoRow : OpenClaim := { program := "ytchcdadpahakfaadoor", sum := "d22076425f7a6899a368233d175e4c19134cc2308664e4058e891eafc76eafd1", func := "punctual/punctuallaw.ChainResponds", spec := "chainResponds", unfollowed := true, recurses := true, named := ["punctual/punctuallaw.noPart"], apart := false, laid := [("punctual/punctuallaw.noPart", laid_punctual_punctuallaw_noPart)], narrowed := true }
def ChainRespondsUptoSaid : Prop := chainRespondsUptoRow.holds Tryd.pinned (OpenSpec.upto chainRespondsSpec)

/-- 'punctuallaw.ChainPlays', WHERE WHAT IT READS IS OF BULK AT MOST 1048576: true; the input reads as it did. -/
def chainPlaysUptoRow : OpenClaim := { program := "ytchcdadpahakfaadoor", sum := "d22076425f7a6899a368233d175e4c19134cc2308664e4058e891eafc76eafd1", func := "punctual/punctuallaw.ChainPlays", spec := "chainPlays", inPlace := ["internal/reflectlite.ValueOf", "internal/reflectlite.Swapper", "(internal/reflectlite.Value).Len"], unfollowed := true, recurses := true, named := ["punctual/punctuallaw.noPart", "punctual/punctuallaw.noCome"], apart := false, laid := [("punctual/punctuallaw.noPart", laid_punctual_punctuallaw_noPart), ("punctual/punctuallaw.noCome", laid_punctual_punctuallaw_noCome)], narrowed := true }
def ChainPlaysUptoSaid : Prop := chainPlaysUptoRow.holds Tryd.pinned (OpenSpec.upto chainPlaysSpec)

end Rows
end Go.Proofs.YtchcdadpahakfaaDoor
