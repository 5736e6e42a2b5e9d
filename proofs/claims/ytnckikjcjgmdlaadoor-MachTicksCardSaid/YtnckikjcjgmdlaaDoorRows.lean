/-
  NARROWER THAN 'FOR EVERY INPUT', by the rows' own cells (each row's printed sentence says how): MachChecks: laid · WcetProves: laid · WcetTells: laid · MachTicks: laid.
  DERIVED. THE GIVEN ROWS OF THIS SEAT. 4 by the template 'for every input the law returns true; each argument reads behind the call as it read before'; 0 by the template 'total and deterministic' (their statements: YtnckikjcjgmdlaaDoorTotals.lean).
  GIVEN WITH THE SEED: the statements are not yours to turn. If you find one false, say at which input.
  Laid BY PROGRAM, IN A SANDBOX (cutbox-rows.mjs): the forced cells as the released guide's own fill.sh prints them over the translation f7ef1dd470a862f8… (all of the seat's roots in one cut). By AI agents, Wed Nov 11 2026. No macro, syntax, notation, axiom, sorry.
-/
import Derived.Test.YtnckikjcjgmdlaaDoorChecked
import GoSem.Claim
import GoSem.ClaimJoined
import GoSem.ClaimMapViews
import Derived.JoinedTies
import Derived.KernelRfl
namespace Go.Proofs.YtnckikjcjgmdlaaDoor
/- THE CELL 'sum', in the pinned program and in every row, IS THE sha256 OF THE DUMP (.gsa) THAT YtnckikjcjgmdlaaDoorProg.lean LOADS. Nothing in Lean hashes anything: it is a label: what it is worth is what the hold of that sum in a sandbox is worth. -/
noncomputable def Tryd.pinned : Pinned := { name := "ytnckikjcjgmdlaadoor", sum := "f7ef1dd470a862f84010df283fb7fa97e1911ffbbcb4f575fa233f87c58c3628", checked := Tryd.checked }
namespace Rows
def none {H : Type} : Left H := { results := [], args := [] }

/- WHAT THE LISTED PACKAGE-LEVEL VARIABLES READ AS WHEN THE CALL BEGINS. Each datum BY PROGRAM (the guide's laid-datum.mjs) off the statement by which the dump's own 'gosem.cut.vars' lays the variable. In a bare row this is a premise. The card (YtnckikjcjgmdlaaDoorCards.lean) ties it to the program's text. -/
def laid_punctual_punctuallaw_noIns {H : Type} : DataW H := .agg [.lit (.int .i64 (-1)), .lit (.int .i64 (-2)), .lit (.int .i64 (-3))]

/-- 'punctuallaw.MachChecks': WHATEVER THE INPUT: true; the input reads as it did. -/
def machChecksSpec : ChangeSpec := { name := "machChecks", fn := fun _ => fun
  | [d] => { results := [.lit (.bool true)], args := [d] }
  | _ => none }
def machChecksRow : OpenClaim := { program := "ytnckikjcjgmdlaadoor", sum := "f7ef1dd470a862f84010df283fb7fa97e1911ffbbcb4f575fa233f87c58c3628", func := "punctual/punctuallaw.MachChecks", spec := "machChecks", unfollowed := true, recurses := true, named := ["punctual/punctuallaw.noIns"], apart := false, laid := [("punctual/punctuallaw.noIns", laid_punctual_punctuallaw_noIns)] }
def MachChecksSaid : Prop := machChecksRow.holds Tryd.pinned (OpenSpec.ofChange machChecksSpec)

/-- ITS FALSE NEIGHBOUR: 'it returns false'. Refute it at one input. -/
def machChecksWrong : ChangeSpec := { name := "machChecks", fn := fun _ => fun
  | [d] => { results := [.lit (.bool false)], args := [d] }
  | _ => none }
def MachChecksWrongFalsely : Prop := machChecksRow.holds Tryd.pinned (OpenSpec.ofChange machChecksWrong)

/-- 'punctuallaw.WcetProves': WHATEVER THE INPUT: true; the input reads as it did. -/
def wcetProvesSpec : ChangeSpec := { name := "wcetProves", fn := fun _ => fun
  | [d1, d2, d3] => { results := [.lit (.bool true)], args := [d1, d2, d3] }
  | _ => none }
def wcetProvesRow : OpenClaim := { program := "ytnckikjcjgmdlaadoor", sum := "f7ef1dd470a862f84010df283fb7fa97e1911ffbbcb4f575fa233f87c58c3628", func := "punctual/punctuallaw.WcetProves", spec := "wcetProves", unfollowed := true, recurses := true, named := ["punctual/punctuallaw.noIns"], apart := false, laid := [("punctual/punctuallaw.noIns", laid_punctual_punctuallaw_noIns)] }
def WcetProvesSaid : Prop := wcetProvesRow.holds Tryd.pinned (OpenSpec.ofChange wcetProvesSpec)

/-- ITS FALSE NEIGHBOUR: 'it returns false'. Refute it at one input. -/
def wcetProvesWrong : ChangeSpec := { name := "wcetProves", fn := fun _ => fun
  | [d1, d2, d3] => { results := [.lit (.bool false)], args := [d1, d2, d3] }
  | _ => none }
def WcetProvesWrongFalsely : Prop := wcetProvesRow.holds Tryd.pinned (OpenSpec.ofChange wcetProvesWrong)

/-- 'punctuallaw.WcetTells': WHATEVER THE INPUT: true; the input reads as it did. -/
def wcetTellsSpec : ChangeSpec := { name := "wcetTells", fn := fun _ => fun
  | [d] => { results := [.lit (.bool true)], args := [d] }
  | _ => none }
def wcetTellsRow : OpenClaim := { program := "ytnckikjcjgmdlaadoor", sum := "f7ef1dd470a862f84010df283fb7fa97e1911ffbbcb4f575fa233f87c58c3628", func := "punctual/punctuallaw.WcetTells", spec := "wcetTells", unfollowed := true, recurses := true, named := ["punctual/punctuallaw.noIns"], apart := false, laid := [("punctual/punctuallaw.noIns", laid_punctual_punctuallaw_noIns)] }
def WcetTellsSaid : Prop := wcetTellsRow.holds Tryd.pinned (OpenSpec.ofChange wcetTellsSpec)

/-- ITS FALSE NEIGHBOUR: 'it returns false'. Refute it at one input. -/
def wcetTellsWrong : ChangeSpec := { name := "wcetTells", fn := fun _ => fun
  | [d] => { results := [.lit (.bool false)], args := [d] }
  | _ => none }
def WcetTellsWrongFalsely : Prop := wcetTellsRow.holds Tryd.pinned (OpenSpec.ofChange wcetTellsWrong)

/-- 'punctuallaw.MachTicks': WHATEVER THE INPUT: true; the input reads as it did. -/
def machTicksSpec : ChangeSpec := { name := "machTicks", fn := fun _ => fun
  | [d1, d2, d3, d4, d5] => { results := [.lit (.bool true)], args := [d1, d2, d3, d4, d5] }
  | _ => none }
def machTicksRow : OpenClaim := { program := "ytnckikjcjgmdlaadoor", sum := "f7ef1dd470a862f84010df283fb7fa97e1911ffbbcb4f575fa233f87c58c3628", func := "punctual/punctuallaw.MachTicks", spec := "machTicks", unfollowed := true, recurses := true, named := ["punctual/punctuallaw.noIns"], apart := false, laid := [("punctual/punctuallaw.noIns", laid_punctual_punctuallaw_noIns)] }
def MachTicksSaid : Prop := machTicksRow.holds Tryd.pinned (OpenSpec.ofChange machTicksSpec)

/-- ITS FALSE NEIGHBOUR: 'it returns false'. Refute it at one input. -/
def machTicksWrong : ChangeSpec := { name := "machTicks", fn := fun _ => fun
  | [d1, d2, d3, d4, d5] => { results := [.lit (.bool false)], args := [d1, d2, d3, d4, d5] }
  | _ => none }
def MachTicksWrongFalsely : Prop := machTicksRow.holds Tryd.pinned (OpenSpec.ofChange machTicksWrong)

/- THE SECOND FORM. 'bulk': how many values and letters a reading holds, each counted each time it is reached (what is shared counts as often as it is met; a slice's spare places count too). A statement '..UptoSaid' is the law's where the arguments, and the package variables that the reading takes, are together of bulk at most 1048576: NARROWER than '..Said'. Prove '..Said' where nothing that the law and all that it calls make is longer than what came in: it says more and counts as full. Else prove '..UptoSaid'. A law counts once. -/
mutual
def uptoBulk {H : Type} : DataW H → Nat
  | .lit (.string bytes) => bytes.length + 1
  | .lit _ => 1
  | .nil => 1
  | .ptr d => uptoBulk d + 1
  | .slice elems spare => uptoBulkAll elems + uptoBulkAll spare + 1
  | .agg parts => uptoBulkAll parts + 1
  | .iface _ d => uptoBulk d + 1
  | .map entries => uptoBulkEntries entries + 1
  | .held _ => 1
def uptoBulkAll {H : Type} : List (DataW H) → Nat
  | [] => 0
  | d :: r => uptoBulk d + uptoBulkAll r
def uptoBulkEntries {H : Type} : List (Lit × DataW H) → Nat
  | [] => 0
  | x :: r => uptoBulkEntry x + uptoBulkEntries r
def uptoBulkEntry {H : Type} : Lit × DataW H → Nat
  | (.string bytes, d) => bytes.length + uptoBulk d + 1
  | (_, d) => uptoBulk d + 1
 end
def uptoSmall : (H : Type) → List (DataW H) → Bool := fun _ ds => decide (uptoBulkAll ds ≤ 1048576)
def OpenSpec.upto (s : _root_.Go.ChangeSpec) : _root_.Go.OpenSpec := { _root_.Go.OpenSpec.ofChange s with cond := some uptoSmall }

/-- 'punctuallaw.MachChecks', WHERE WHAT IT READS IS OF BULK AT MOST 1048576: true; the input reads as it did. -/
def machChecksUptoRow : OpenClaim := { program := "ytnckikjcjgmdlaadoor", sum := "f7ef1dd470a862f84010df283fb7fa97e1911ffbbcb4f575fa233f87c58c3628", func := "punctual/punctuallaw.MachChecks", spec := "machChecks", unfollowed := true, recurses := true, named := ["punctual/punctuallaw.noIns"], apart := false, laid := [("punctual/punctuallaw.noIns", laid_punctual_punctuallaw_noIns)], narrowed := true }
def MachChecksUptoSaid : Prop := machChecksUptoRow.holds Tryd.pinned (OpenSpec.upto machChecksSpec)

/-- 'punctuallaw.WcetProves', WHERE WHAT IT READS IS OF BULK AT MOST 1048576: true; the input reads as it did. -/
def wcetProvesUptoRow : OpenClaim := { program := "ytnckikjcjgmdlaadoor", sum := "f7ef1dd470a862f84010df283fb7fa97e1911ffbbcb4f575fa233f87c58c3628", func := "punctual/punctuallaw.WcetProves", spec := "wcetProves", unfollowed := true, recurses := true, named := ["punctual/punctuallaw.noIns"], apart := false, laid := [("punctual/punctuallaw.noIns", laid_punctual_punctuallaw_noIns)], narrowed := true }
def WcetProvesUptoSaid : Prop := wcetProvesUptoRow.holds Tryd.pinned (OpenSpec.upto wcetProvesSpec)

/-- 'punctuallaw.WcetTells', WHERE WHAT IT READS IS OF BULK AT MOST 1048576: true; the input reads as it did. -/
def wcetTellsUptoRow : OpenClaim := { program := "ytnckikjcjgmdlaadoor", sum := "f7ef1dd470a862f84010df283fb7fa97e1911ffbbcb4f575fa233f87c58c3628", func := "punctual/punctuallaw.WcetTells", spec := "wcetTells", unfollowed := true, recurses := true, named := ["punctual/punctuallaw.noIns"], apart := false, laid := [("punctual/punctuallaw.noIns", laid_punctual_punctuallaw_noIns)], narrowed := true }
def WcetTellsUptoSaid : Prop := wcetTellsUptoRow.holds Tryd.pinned (OpenSpec.upto wcetTellsSpec)

/-- 'punctuallaw.MachTicks', WHERE WHAT IT READS IS OF BULK AT MOST 1048576: true; the input reads as it did. -/
def machTicksUptoRow : OpenClaim := { program := "ytnckikjcjgmdlaadoor", sum := "f7ef1dd470a862f84010df283fb7fa97e1911ffbbcb4f575fa233f87c58c3628", func := "punctual/punctuallaw.MachTicks", spec := "machTicks", unfollowed := true, recurses := true, named := ["punctual/punctuallaw.noIns"], apart := false, laid := [("punctual/punctuallaw.noIns", laid_punctual_punctuallaw_noIns)], narrowed := true }
def MachTicksUptoSaid : Prop := machTicksUptoRow.holds Tryd.pinned (OpenSpec.upto machTicksSpec)

end Rows
end Go.Proofs.YtnckikjcjgmdlaaDoor
