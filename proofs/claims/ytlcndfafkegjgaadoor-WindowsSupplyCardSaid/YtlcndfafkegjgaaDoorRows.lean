/-
  NARROWER THAN 'FOR EVERY INPUT', by the rows' own cells (each row's printed sentence says how): WindowsSupply: laid · MachRuns: laid · WindowsPlay: laid · ChainResponds: laid · ChainPlays: laid.
  DERIVED. THE GIVEN ROWS OF THIS SEAT. 5 by the template 'for every input the law returns true; each argument reads behind the call as it read before'; 0 by the template 'total and deterministic' (their statements: YtlcndfafkegjgaaDoorTotals.lean).
  GIVEN WITH THE SEED: the statements are not yours to turn. If you find one false, say at which input.
  Laid BY PROGRAM, IN A SANDBOX (cutbox-rows.mjs): the forced cells as the released guide's own fill.sh prints them over the translation e7bd297664a31471… (all of the seat's roots in one cut). By AI agents, Wed Nov 11 2026. No macro, syntax, notation, axiom, sorry.
-/
import Derived.Test.YtlcndfafkegjgaaDoorChecked
import GoSem.Claim
import GoSem.ClaimJoined
import GoSem.ClaimMapViews
import Derived.JoinedTies
import Derived.KernelRfl
namespace Go.Proofs.YtlcndfafkegjgaaDoor
/- THE CELL 'sum', in the pinned program and in every row, IS THE sha256 OF THE DUMP (.gsa) THAT YtlcndfafkegjgaaDoorProg.lean LOADS. Nothing in Lean hashes anything: it is a label: what it is worth is what the hold of that sum in a sandbox is worth. -/
noncomputable def Tryd.pinned : Pinned := { name := "ytlcndfafkegjgaadoor", sum := "e7bd297664a31471e032d133ad3c0dc79db64ec0e0f9c18a024973a080756b0a", checked := Tryd.checked }
namespace Rows
def none {H : Type} : Left H := { results := [], args := [] }

/- WHAT THE LISTED PACKAGE-LEVEL VARIABLES READ AS WHEN THE CALL BEGINS. Each datum BY PROGRAM (the guide's laid-datum.mjs) off the statement by which the dump's own 'gosem.cut.vars' lays the variable. In a bare row this is a premise. The card (YtlcndfafkegjgaaDoorCards.lean) ties it to the program's text. -/
def laid_punctual_punctuallaw_noWindow {H : Type} : DataW H := .agg [.lit (.int .i64 (-9)), .lit (.int .i64 0)]
def laid_punctual_punctuallaw_noIns {H : Type} : DataW H := .agg [.lit (.int .i64 (-1)), .lit (.int .i64 (-2)), .lit (.int .i64 (-3))]
def laid_punctual_punctuallaw_noTask {H : Type} : DataW H := .agg [.lit (.string [63]), .lit (.int .i64 (-9)), .lit (.int .i64 0), .lit (.int .i64 0), .lit (.int .i64 0), .lit (.int .i64 0), .lit (.int .i64 0)]
def laid_punctual_punctuallaw_noJob {H : Type} : DataW H := .agg [.lit (.int .i64 (-9)), .lit (.int .i64 0), .lit (.int .i64 0), .lit (.int .i64 0), .lit (.int .i64 0)]
def laid_punctual_punctuallaw_noPart {H : Type} : DataW H := .agg [.lit (.int .i64 0), .lit (.int .i64 0), .lit (.int .i64 0), .lit (.int .i64 (-9)), .lit (.int .i64 0), .lit (.int .i64 0), .lit (.int .i64 0)]
def laid_punctual_punctuallaw_noCome {H : Type} : DataW H := .agg [.lit (.int .i64 (-9)), .lit (.int .i64 0)]

/-- 'punctuallaw.WindowsSupply': WHATEVER THE INPUT: true; the input reads as it did. -/
def windowsSupplySpec : ChangeSpec := { name := "windowsSupply", fn := fun _ => fun
  | [d1, d2, d3, d4] => { results := [.lit (.bool true)], args := [d1, d2, d3, d4] }
  | _ => none }
def windowsSupplyRow : OpenClaim := { program := "ytlcndfafkegjgaadoor", sum := "e7bd297664a31471e032d133ad3c0dc79db64ec0e0f9c18a024973a080756b0a", func := "punctual/punctuallaw.WindowsSupply", spec := "windowsSupply", unfollowed := true, recurses := true, named := ["punctual/punctuallaw.noWindow"], apart := false, laid := [("punctual/punctuallaw.noWindow", laid_punctual_punctuallaw_noWindow)] }
def WindowsSupplySaid : Prop := windowsSupplyRow.holds Tryd.pinned (OpenSpec.ofChange windowsSupplySpec)

/-- ITS FALSE NEIGHBOUR: 'it returns false'. Refute it at one input. -/
def windowsSupplyWrong : ChangeSpec := { name := "windowsSupply", fn := fun _ => fun
  | [d1, d2, d3, d4] => { results := [.lit (.bool false)], args := [d1, d2, d3, d4] }
  | _ => none }
def WindowsSupplyWrongFalsely : Prop := windowsSupplyRow.holds Tryd.pinned (OpenSpec.ofChange windowsSupplyWrong)

/-- 'punctuallaw.MachRuns': WHATEVER THE INPUT: true; the input reads as it did. -/
def machRunsSpec : ChangeSpec := { name := "machRuns", fn := fun _ => fun
  | [d1, d2, d3] => { results := [.lit (.bool true)], args := [d1, d2, d3] }
  | _ => none }
def machRunsRow : OpenClaim := { program := "ytlcndfafkegjgaadoor", sum := "e7bd297664a31471e032d133ad3c0dc79db64ec0e0f9c18a024973a080756b0a", func := "punctual/punctuallaw.MachRuns", spec := "machRuns", unfollowed := true, recurses := true, named := ["punctual/punctuallaw.noIns"], apart := false, laid := [("punctual/punctuallaw.noIns", laid_punctual_punctuallaw_noIns)] }
def MachRunsSaid : Prop := machRunsRow.holds Tryd.pinned (OpenSpec.ofChange machRunsSpec)

/-- ITS FALSE NEIGHBOUR: 'it returns false'. Refute it at one input. -/
def machRunsWrong : ChangeSpec := { name := "machRuns", fn := fun _ => fun
  | [d1, d2, d3] => { results := [.lit (.bool false)], args := [d1, d2, d3] }
  | _ => none }
def MachRunsWrongFalsely : Prop := machRunsRow.holds Tryd.pinned (OpenSpec.ofChange machRunsWrong)

/-- 'punctuallaw.WindowsPlay': WHATEVER THE INPUT: true; the input reads as it did. -/
def windowsPlaySpec : ChangeSpec := { name := "windowsPlay", fn := fun _ => fun
  | [d1, d2, d3, d4, d5, d6] => { results := [.lit (.bool true)], args := [d1, d2, d3, d4, d5, d6] }
  | _ => none }
def windowsPlayRow : OpenClaim := { program := "ytlcndfafkegjgaadoor", sum := "e7bd297664a31471e032d133ad3c0dc79db64ec0e0f9c18a024973a080756b0a", func := "punctual/punctuallaw.WindowsPlay", spec := "windowsPlay", unfollowed := true, recurses := true, named := ["punctual/punctuallaw.noTask", "punctual/punctuallaw.noWindow", "punctual/punctuallaw.noJob"], apart := false, laid := [("punctual/punctuallaw.noWindow", laid_punctual_punctuallaw_noWindow), ("punctual/punctuallaw.noTask", laid_punctual_punctuallaw_noTask), ("punctual/punctuallaw.noJob", laid_punctual_punctuallaw_noJob)] }
def WindowsPlaySaid : Prop := windowsPlayRow.holds Tryd.pinned (OpenSpec.ofChange windowsPlaySpec)

/-- ITS FALSE NEIGHBOUR: 'it returns false'. Refute it at one input. -/
def windowsPlayWrong : ChangeSpec := { name := "windowsPlay", fn := fun _ => fun
  | [d1, d2, d3, d4, d5, d6] => { results := [.lit (.bool false)], args := [d1, d2, d3, d4, d5, d6] }
  | _ => none }
def WindowsPlayWrongFalsely : Prop := windowsPlayRow.holds Tryd.pinned (OpenSpec.ofChange windowsPlayWrong)

/-- 'punctuallaw.ChainResponds': WHATEVER THE INPUT: true; the input reads as it did. -/
def chainRespondsSpec : ChangeSpec := { name := "chainResponds", fn := fun _ => fun
  | [d1, d2] => { results := [.lit (.bool true)], args := [d1, d2] }
  | _ => none }
def chainRespondsRow : OpenClaim := { program := "ytlcndfafkegjgaadoor", sum := "e7bd297664a31471e032d133ad3c0dc79db64ec0e0f9c18a024973a080756b0a", func := "punctual/punctuallaw.ChainResponds", spec := "chainResponds", unfollowed := true, recurses := true, named := ["punctual/punctuallaw.noPart"], apart := false, laid := [("punctual/punctuallaw.noPart", laid_punctual_punctuallaw_noPart)] }
def ChainRespondsSaid : Prop := chainRespondsRow.holds Tryd.pinned (OpenSpec.ofChange chainRespondsSpec)

/-- ITS FALSE NEIGHBOUR: 'it returns false'. Refute it at one input. -/
def chainRespondsWrong : ChangeSpec := { name := "chainResponds", fn := fun _ => fun
  | [d1, d2] => { results := [.lit (.bool false)], args := [d1, d2] }
  | _ => none }
def ChainRespondsWrongFalsely : Prop := chainRespondsRow.holds Tryd.pinned (OpenSpec.ofChange chainRespondsWrong)

/-- 'punctuallaw.ChainPlays': WHATEVER THE INPUT: true; the input reads as it did. -/
def chainPlaysSpec : ChangeSpec := { name := "chainPlays", fn := fun _ => fun
  | [d1, d2, d3, d4] => { results := [.lit (.bool true)], args := [d1, d2, d3, d4] }
  | _ => none }
def chainPlaysRow : OpenClaim := { program := "ytlcndfafkegjgaadoor", sum := "e7bd297664a31471e032d133ad3c0dc79db64ec0e0f9c18a024973a080756b0a", func := "punctual/punctuallaw.ChainPlays", spec := "chainPlays", inPlace := ["internal/reflectlite.ValueOf", "internal/reflectlite.Swapper", "(internal/reflectlite.Value).Len"], unfollowed := true, recurses := true, named := ["punctual/punctuallaw.noPart", "punctual/punctuallaw.noCome"], apart := false, laid := [("punctual/punctuallaw.noPart", laid_punctual_punctuallaw_noPart), ("punctual/punctuallaw.noCome", laid_punctual_punctuallaw_noCome)] }
def ChainPlaysSaid : Prop := chainPlaysRow.holds Tryd.pinned (OpenSpec.ofChange chainPlaysSpec)

/-- ITS FALSE NEIGHBOUR: 'it returns false'. Refute it at one input. -/
def chainPlaysWrong : ChangeSpec := { name := "chainPlays", fn := fun _ => fun
  | [d1, d2, d3, d4] => { results := [.lit (.bool false)], args := [d1, d2, d3, d4] }
  | _ => none }
def ChainPlaysWrongFalsely : Prop := chainPlaysRow.holds Tryd.pinned (OpenSpec.ofChange chainPlaysWrong)

/- THE SECOND FORM. 'bulk': how many values and letters a reading holds, each counted each time it is reached (what is shared counts as often as it is met; a slice's spare places count too). A statement '..UptoSaid' is the law's where the arguments, and the package variables that the reading takes, are together of bulk at most 1048576: NARROWER than '..Said'. Prove '..Said' where nothing that the law and all that it calls make is longer than what came in: it says more and counts as full. Else prove '..UptoSaid'. A law counts once. -/
mutual
def uptoBulk {H : Type} : DataW H → Nat
  | .lit (.string bytes) => bytes.length + 1
  | .lit _ => 1
  | .nil => 1
  | .ptr d => uptoBulk d + 1
  | .slice elems spare => uptoBulkAll elems + uptoBulkAll spare + 1
  | .agg parts => uptoBulkAll parts + 1
  | .iface _ d => uptoBulk d + 1
  | .map entries => uptoBulkEntries entries + 1
  | .held _ => 1
def uptoBulkAll {H : Type} : List (DataW H) → Nat
  | [] => 0
  | d :: r => uptoBulk d + uptoBulkAll r
def uptoBulkEntries {H : Type} : List (Lit × DataW H) → Nat
  | [] => 0
  | x :: r => uptoBulkEntry x + uptoBulkEntries r
def uptoBulkEntry {H : Type} : Lit × DataW H → Nat
  | (.string bytes, d) => bytes.length + uptoBulk d + 1
  | (_, d) => uptoBulk d + 1
 end
def uptoSmall : (H : Type) → List (DataW H) → Bool := fun _ ds => decide (uptoBulkAll ds ≤ 1048576)
def OpenSpec.upto (s : _root_.Go.ChangeSpec) : _root_.Go.OpenSpec := { _root_.Go.OpenSpec.ofChange s with cond := some uptoSmall }

/-- 'punctuallaw.WindowsSupply', WHERE WHAT IT READS IS OF BULK AT MOST 1048576: true; the input reads as it did. -/
def windowsSupplyUptoRow : OpenClaim := { program := "ytlcndfafkegjgaadoor", sum := "e7bd297664a31471e032d133ad3c0dc79db64ec0e0f9c18a024973a080756b0a", func := "punctual/punctuallaw.WindowsSupply", spec := "windowsSupply", unfollowed := true, recurses := true, named := ["punctual/punctuallaw.noWindow"], apart := false, laid := [("punctual/punctuallaw.noWindow", laid_punctual_punctuallaw_noWindow)], narrowed := true }
def WindowsSupplyUptoSaid : Prop := windowsSupplyUptoRow.holds Tryd.pinned (OpenSpec.upto windowsSupplySpec)

/-- 'punctuallaw.MachRuns', WHERE WHAT IT READS IS OF BULK AT MOST 1048576: true; the input reads as it did. -/
def machRunsUptoRow : OpenClaim := { program := "ytlcndfafkegjgaadoor", sum := "e7bd297664a31471e032d133ad3c0dc79db64ec0e0f9c18a024973a080756b0a", func := "punctual/punctuallaw.MachRuns", spec := "machRuns", unfollowed := true, recurses := true, named := ["punctual/punctuallaw.noIns"], apart := false, laid := [("punctual/punctuallaw.noIns", laid_punctual_punctuallaw_noIns)], narrowed := true }
def MachRunsUptoSaid : Prop := machRunsUptoRow.holds Tryd.pinned (OpenSpec.upto machRunsSpec)

/-- 'punctuallaw.WindowsPlay', WHERE WHAT IT READS IS OF BULK AT MOST 1048576: true; the input reads as it did. -/
def windowsPlayUptoRow : OpenClaim := { program := "ytlcndfafkegjgaadoor", sum := "e7bd297664a31471e032d133ad3c0dc79db64ec0e0f9c18a024973a080756b0a", func := "punctual/punctuallaw.WindowsPlay", spec := "windowsPlay", unfollowed := true, recurses := true, named := ["punctual/punctuallaw.noTask", "punctual/punctuallaw.noWindow", "punctual/punctuallaw.noJob"], apart := false, laid := [("punctual/punctuallaw.noWindow", laid_punctual_punctuallaw_noWindow), ("punctual/punctuallaw.noTask", laid_punctual_punctuallaw_noTask), ("punctual/punctuallaw.noJob", laid_punctual_punctuallaw_noJob)], narrowed := true }
def WindowsPlayUptoSaid : Prop := windowsPlayUptoRow.holds Tryd.pinned (OpenSpec.upto windowsPlaySpec)

/-- 'punctuallaw.ChainResponds', WHERE WHAT IT READS IS OF BULK AT MOST 1048576: true; the input reads as it did. -/
def chainRespondsUptoRow : OpenClaim := { program := "ytlcndfafkegjgaadoor", sum := "e7bd297664a31471e032d133ad3c0dc79db64ec0e0f9c18a024973a080756b0a", func := "punctual/punctuallaw.ChainResponds", spec := "chainResponds", unfollowed := true, recurses := true, named := ["punctual/punctuallaw.noPart"], apart := false, laid := [("punctual/punctuallaw.noPart", laid_punctual_punctuallaw_noPart)], narrowed := true }
def ChainRespondsUptoSaid : Prop := chainRespondsUptoRow.holds Tryd.pinned (OpenSpec.upto chainRespondsSpec)

/-- 'punctuallaw.ChainPlays', WHERE WHAT IT READS IS OF BULK AT MOST 1048576: true; the input reads as it did. -/
def chainPlaysUptoRow : OpenClaim := { program := "ytlcndfafkegjgaadoor", sum := "e7bd297664a31471e032d133ad3c0dc79db64ec0e0f9c18a024973a080756b0a", func := "punctual/punctuallaw.ChainPlays", spec := "chainPlays", inPlace := ["internal/reflectlite.ValueOf", "internal/reflectlite.Swapper", "(internal/reflectlite.Value).Len"], unfollowed := true, recurses := true, named := ["punctual/punctuallaw.noPart", "punctual/punctuallaw.noCome"], apart := false, laid := [("punctual/punctuallaw.noPart", laid_punctual_punctuallaw_noPart), ("punctual/punctuallaw.noCome", laid_punctual_punctuallaw_noCome)], narrowed := true }
def ChainPlaysUptoSaid : Prop := chainPlaysUptoRow.holds Tryd.pinned (OpenSpec.upto chainPlaysSpec)

end Rows
end Go.Proofs.YtlcndfafkegjgaaDoor
