/-
  NARROWER THAN 'FOR EVERY INPUT', by the rows' own cells (each row's printed sentence says how): SchedLate: laid · TasksChecks: laid · TasksJobs: laid · SchedPlays: laid · FixedResponds: laid · TasksComes: laid · FixedRanks: laid · EdfJudges: laid.
  DERIVED. THE GIVEN ROWS OF THIS SEAT. 8 by the template 'for every input the law returns true; each argument reads behind the call as it read before'; 0 by the template 'total and deterministic' (their statements: YtlipdmblinjjaaaDoorTotals.lean).
  GIVEN WITH THE SEED: the statements are not yours to turn. If you find one false, say at which input.
  Laid BY PROGRAM, IN A SANDBOX (cutbox-rows.mjs): the forced cells as the released guide's own fill.sh prints them over the translation efd0ae81c21a8978… (all of the seat's roots in one cut). By AI agents, Wed Nov 11 2026. No macro, syntax, notation, axiom, sorry.
-/
import Derived.Test.YtlipdmblinjjaaaDoorChecked
import GoSem.Claim
import GoSem.ClaimJoined
import GoSem.ClaimMapViews
import Derived.JoinedTies
import Derived.KernelRfl
namespace Go.Proofs.YtlipdmblinjjaaaDoor
/- THE CELL 'sum', in the pinned program and in every row, IS THE sha256 OF THE DUMP (.gsa) THAT YtlipdmblinjjaaaDoorProg.lean LOADS. Nothing in Lean hashes anything: it is a label: what it is worth is what the hold of that sum in a sandbox is worth. -/
noncomputable def Tryd.pinned : Pinned := { name := "ytlipdmblinjjaaadoor", sum := "efd0ae81c21a8978864ccf79f1b451fa5e3f7170097a253b8ac26f0518bfa97c", checked := Tryd.checked }
namespace Rows
def none {H : Type} : Left H := { results := [], args := [] }

/- WHAT THE LISTED PACKAGE-LEVEL VARIABLES READ AS WHEN THE CALL BEGINS. Each datum BY PROGRAM (the guide's laid-datum.mjs) off the statement by which the dump's own 'gosem.cut.vars' lays the variable. In a bare row this is a premise. The card (YtlipdmblinjjaaaDoorCards.lean) ties it to the program's text. -/
def laid_punctual_punctuallaw_noJob {H : Type} : DataW H := .agg [.lit (.int .i64 (-9)), .lit (.int .i64 0), .lit (.int .i64 0), .lit (.int .i64 0), .lit (.int .i64 0)]
def laid_punctual_punctuallaw_noTask {H : Type} : DataW H := .agg [.lit (.string [63]), .lit (.int .i64 (-9)), .lit (.int .i64 0), .lit (.int .i64 0), .lit (.int .i64 0), .lit (.int .i64 0), .lit (.int .i64 0)]
def laid_punctual_punctuallaw_noCome {H : Type} : DataW H := .agg [.lit (.int .i64 (-9)), .lit (.int .i64 0)]

/-- 'punctuallaw.SchedLate': WHATEVER THE INPUT: true; the input reads as it did. -/
def schedLateSpec : ChangeSpec := { name := "schedLate", fn := fun _ => fun
  | [d1, d2, d3] => { results := [.lit (.bool true)], args := [d1, d2, d3] }
  | _ => none }
def schedLateRow : OpenClaim := { program := "ytlipdmblinjjaaadoor", sum := "efd0ae81c21a8978864ccf79f1b451fa5e3f7170097a253b8ac26f0518bfa97c", func := "punctual/punctuallaw.SchedLate", spec := "schedLate", named := ["punctual/punctuallaw.noJob"], apart := false, laid := [("punctual/punctuallaw.noJob", laid_punctual_punctuallaw_noJob)] }
def SchedLateSaid : Prop := schedLateRow.holds Tryd.pinned (OpenSpec.ofChange schedLateSpec)

/-- ITS FALSE NEIGHBOUR: 'it returns false'. Refute it at one input. -/
def schedLateWrong : ChangeSpec := { name := "schedLate", fn := fun _ => fun
  | [d1, d2, d3] => { results := [.lit (.bool false)], args := [d1, d2, d3] }
  | _ => none }
def SchedLateWrongFalsely : Prop := schedLateRow.holds Tryd.pinned (OpenSpec.ofChange schedLateWrong)

/-- 'punctuallaw.TasksChecks': WHATEVER THE INPUT: true; the input reads as it did. -/
def tasksChecksSpec : ChangeSpec := { name := "tasksChecks", fn := fun _ => fun
  | [d] => { results := [.lit (.bool true)], args := [d] }
  | _ => none }
def tasksChecksRow : OpenClaim := { program := "ytlipdmblinjjaaadoor", sum := "efd0ae81c21a8978864ccf79f1b451fa5e3f7170097a253b8ac26f0518bfa97c", func := "punctual/punctuallaw.TasksChecks", spec := "tasksChecks", unfollowed := true, recurses := true, named := ["punctual/punctuallaw.noTask"], apart := false, laid := [("punctual/punctuallaw.noTask", laid_punctual_punctuallaw_noTask)] }
def TasksChecksSaid : Prop := tasksChecksRow.holds Tryd.pinned (OpenSpec.ofChange tasksChecksSpec)

/-- ITS FALSE NEIGHBOUR: 'it returns false'. Refute it at one input. -/
def tasksChecksWrong : ChangeSpec := { name := "tasksChecks", fn := fun _ => fun
  | [d] => { results := [.lit (.bool false)], args := [d] }
  | _ => none }
def TasksChecksWrongFalsely : Prop := tasksChecksRow.holds Tryd.pinned (OpenSpec.ofChange tasksChecksWrong)

/-- 'punctuallaw.TasksJobs': WHATEVER THE INPUT: true; the input reads as it did. -/
def tasksJobsSpec : ChangeSpec := { name := "tasksJobs", fn := fun _ => fun
  | [d1, d2, d3, d4] => { results := [.lit (.bool true)], args := [d1, d2, d3, d4] }
  | _ => none }
def tasksJobsRow : OpenClaim := { program := "ytlipdmblinjjaaadoor", sum := "efd0ae81c21a8978864ccf79f1b451fa5e3f7170097a253b8ac26f0518bfa97c", func := "punctual/punctuallaw.TasksJobs", spec := "tasksJobs", unfollowed := true, recurses := true, named := ["punctual/punctuallaw.noTask", "punctual/punctuallaw.noCome"], apart := false, laid := [("punctual/punctuallaw.noTask", laid_punctual_punctuallaw_noTask), ("punctual/punctuallaw.noCome", laid_punctual_punctuallaw_noCome)] }
def TasksJobsSaid : Prop := tasksJobsRow.holds Tryd.pinned (OpenSpec.ofChange tasksJobsSpec)

/-- ITS FALSE NEIGHBOUR: 'it returns false'. Refute it at one input. -/
def tasksJobsWrong : ChangeSpec := { name := "tasksJobs", fn := fun _ => fun
  | [d1, d2, d3, d4] => { results := [.lit (.bool false)], args := [d1, d2, d3, d4] }
  | _ => none }
def TasksJobsWrongFalsely : Prop := tasksJobsRow.holds Tryd.pinned (OpenSpec.ofChange tasksJobsWrong)

/-- 'punctuallaw.SchedPlays': WHATEVER THE INPUT: true; the input reads as it did. -/
def schedPlaysSpec : ChangeSpec := { name := "schedPlays", fn := fun _ => fun
  | [d1, d2, d3, d4] => { results := [.lit (.bool true)], args := [d1, d2, d3, d4] }
  | _ => none }
def schedPlaysRow : OpenClaim := { program := "ytlipdmblinjjaaadoor", sum := "efd0ae81c21a8978864ccf79f1b451fa5e3f7170097a253b8ac26f0518bfa97c", func := "punctual/punctuallaw.SchedPlays", spec := "schedPlays", unfollowed := true, recurses := true, named := ["punctual/punctuallaw.noJob"], apart := false, laid := [("punctual/punctuallaw.noJob", laid_punctual_punctuallaw_noJob)] }
def SchedPlaysSaid : Prop := schedPlaysRow.holds Tryd.pinned (OpenSpec.ofChange schedPlaysSpec)

/-- ITS FALSE NEIGHBOUR: 'it returns false'. Refute it at one input. -/
def schedPlaysWrong : ChangeSpec := { name := "schedPlays", fn := fun _ => fun
  | [d1, d2, d3, d4] => { results := [.lit (.bool false)], args := [d1, d2, d3, d4] }
  | _ => none }
def SchedPlaysWrongFalsely : Prop := schedPlaysRow.holds Tryd.pinned (OpenSpec.ofChange schedPlaysWrong)

/-- 'punctuallaw.FixedResponds': WHATEVER THE INPUT: true; the input reads as it did. -/
def fixedRespondsSpec : ChangeSpec := { name := "fixedResponds", fn := fun _ => fun
  | [d1, d2, d3, d4] => { results := [.lit (.bool true)], args := [d1, d2, d3, d4] }
  | _ => none }
def fixedRespondsRow : OpenClaim := { program := "ytlipdmblinjjaaadoor", sum := "efd0ae81c21a8978864ccf79f1b451fa5e3f7170097a253b8ac26f0518bfa97c", func := "punctual/punctuallaw.FixedResponds", spec := "fixedResponds", unfollowed := true, recurses := true, named := ["punctual/punctuallaw.noTask"], apart := false, laid := [("punctual/punctuallaw.noTask", laid_punctual_punctuallaw_noTask)] }
def FixedRespondsSaid : Prop := fixedRespondsRow.holds Tryd.pinned (OpenSpec.ofChange fixedRespondsSpec)

/-- ITS FALSE NEIGHBOUR: 'it returns false'. Refute it at one input. -/
def fixedRespondsWrong : ChangeSpec := { name := "fixedResponds", fn := fun _ => fun
  | [d1, d2, d3, d4] => { results := [.lit (.bool false)], args := [d1, d2, d3, d4] }
  | _ => none }
def FixedRespondsWrongFalsely : Prop := fixedRespondsRow.holds Tryd.pinned (OpenSpec.ofChange fixedRespondsWrong)

/-- 'punctuallaw.TasksComes': WHATEVER THE INPUT: true; the input reads as it did. -/
def tasksComesSpec : ChangeSpec := { name := "tasksComes", fn := fun _ => fun
  | [d1, d2, d3] => { results := [.lit (.bool true)], args := [d1, d2, d3] }
  | _ => none }
def tasksComesRow : OpenClaim := { program := "ytlipdmblinjjaaadoor", sum := "efd0ae81c21a8978864ccf79f1b451fa5e3f7170097a253b8ac26f0518bfa97c", func := "punctual/punctuallaw.TasksComes", spec := "tasksComes", unfollowed := true, recurses := true, named := ["punctual/punctuallaw.noTask", "punctual/punctuallaw.noCome"], apart := false, laid := [("punctual/punctuallaw.noTask", laid_punctual_punctuallaw_noTask), ("punctual/punctuallaw.noCome", laid_punctual_punctuallaw_noCome)] }
def TasksComesSaid : Prop := tasksComesRow.holds Tryd.pinned (OpenSpec.ofChange tasksComesSpec)

/-- ITS FALSE NEIGHBOUR: 'it returns false'. Refute it at one input. -/
def tasksComesWrong : ChangeSpec := { name := "tasksComes", fn := fun _ => fun
  | [d1, d2, d3] => { results := [.lit (.bool false)], args := [d1, d2, d3] }
  | _ => none }
def TasksComesWrongFalsely : Prop := tasksComesRow.holds Tryd.pinned (OpenSpec.ofChange tasksComesWrong)

/-- 'punctuallaw.FixedRanks': WHATEVER THE INPUT: true; the input reads as it did. -/
def fixedRanksSpec : ChangeSpec := { name := "fixedRanks", fn := fun _ => fun
  | [d1, d2] => { results := [.lit (.bool true)], args := [d1, d2] }
  | _ => none }
def fixedRanksRow : OpenClaim := { program := "ytlipdmblinjjaaadoor", sum := "efd0ae81c21a8978864ccf79f1b451fa5e3f7170097a253b8ac26f0518bfa97c", func := "punctual/punctuallaw.FixedRanks", spec := "fixedRanks", unfollowed := true, recurses := true, named := ["punctual/punctuallaw.noTask"], apart := false, laid := [("punctual/punctuallaw.noTask", laid_punctual_punctuallaw_noTask)] }
def FixedRanksSaid : Prop := fixedRanksRow.holds Tryd.pinned (OpenSpec.ofChange fixedRanksSpec)

/-- ITS FALSE NEIGHBOUR: 'it returns false'. Refute it at one input. -/
def fixedRanksWrong : ChangeSpec := { name := "fixedRanks", fn := fun _ => fun
  | [d1, d2] => { results := [.lit (.bool false)], args := [d1, d2] }
  | _ => none }
def FixedRanksWrongFalsely : Prop := fixedRanksRow.holds Tryd.pinned (OpenSpec.ofChange fixedRanksWrong)

/-- 'punctuallaw.EdfJudges': WHATEVER THE INPUT: true; the input reads as it did. -/
def edfJudgesSpec : ChangeSpec := { name := "edfJudges", fn := fun _ => fun
  | [d] => { results := [.lit (.bool true)], args := [d] }
  | _ => none }
def edfJudgesRow : OpenClaim := { program := "ytlipdmblinjjaaadoor", sum := "efd0ae81c21a8978864ccf79f1b451fa5e3f7170097a253b8ac26f0518bfa97c", func := "punctual/punctuallaw.EdfJudges", spec := "edfJudges", unfollowed := true, recurses := true, named := ["punctual/punctuallaw.noJob"], apart := false, laid := [("punctual/punctuallaw.noJob", laid_punctual_punctuallaw_noJob)] }
def EdfJudgesSaid : Prop := edfJudgesRow.holds Tryd.pinned (OpenSpec.ofChange edfJudgesSpec)

/-- ITS FALSE NEIGHBOUR: 'it returns false'. Refute it at one input. -/
def edfJudgesWrong : ChangeSpec := { name := "edfJudges", fn := fun _ => fun
  | [d] => { results := [.lit (.bool false)], args := [d] }
  | _ => none }
def EdfJudgesWrongFalsely : Prop := edfJudgesRow.holds Tryd.pinned (OpenSpec.ofChange edfJudgesWrong)

/- THE SECOND FORM. 'bulk': how many values and letters a reading holds, each counted each time it is reached (what is shared counts as often as it is met; a slice's spare places count too). A statement '..UptoSaid' is the law's where the arguments, and the package variables that the reading takes, are together of bulk at most 1048576: NARROWER than '..Said'. Prove '..Said' where nothing that the law and all that it calls make is longer than what came in: it says more and counts as full. Else prove '..UptoSaid'. A law counts once. -/
mutual
def uptoBulk {H : Type} : DataW H → Nat
  | .lit (.string bytes) => bytes.length + 1
  | .lit _ => 1
  | .nil => 1
  | .ptr d => uptoBulk d + 1
  | .slice elems spare => uptoBulkAll elems + uptoBulkAll spare + 1
  | .agg parts => uptoBulkAll parts + 1
  | .iface _ d => uptoBulk d + 1
  | .map entries => uptoBulkEntries entries + 1
  | .held _ => 1
def uptoBulkAll {H : Type} : List (DataW H) → Nat
  | [] => 0
  | d :: r => uptoBulk d + uptoBulkAll r
def uptoBulkEntries {H : Type} : List (Lit × DataW H) → Nat
  | [] => 0
  | x :: r => uptoBulkEntry x + uptoBulkEntries r
def uptoBulkEntry {H : Type} : Lit × DataW H → Nat
  | (.string bytes, d) => bytes.length + uptoBulk d + 1
  | (_, d) => uptoBulk d + 1
 end
def uptoSmall : (H : Type) → List (DataW H) → Bool := fun _ ds => decide (uptoBulkAll ds ≤ 1048576)
def OpenSpec.upto (s : _root_.Go.ChangeSpec) : _root_.Go.OpenSpec := { _root_.Go.OpenSpec.ofChange s with cond := some uptoSmall }

/-- 'punctuallaw.SchedLate', WHERE WHAT IT READS IS OF BULK AT MOST 1048576: true; the input reads as it did. -/
def schedLateUptoRow : OpenClaim := { program := "ytlipdmblinjjaaadoor", sum := "efd0ae81c21a8978864ccf79f1b451fa5e3f7170097a253b8ac26f0518bfa97c", func := "punctual/punctuallaw.SchedLate", spec := "schedLate", named := ["punctual/punctuallaw.noJob"], apart := false, laid := [("punctual/punctuallaw.noJob", laid_punctual_punctuallaw_noJob)], narrowed := true }
def SchedLateUptoSaid : Prop := schedLateUptoRow.holds Tryd.pinned (OpenSpec.upto schedLateSpec)

/-- 'punctuallaw.TasksChecks', WHERE WHAT IT READS IS OF BULK AT MOST 1048576: true; the input reads as it did. -/
def tasksChecksUptoRow : OpenClaim := { program := "ytlipdmblinjjaaadoor", sum := "efd0ae81c21a8978864ccf79f1b451fa5e3f7170097a253b8ac26f0518bfa97c", func := "punctual/punctuallaw.TasksChecks", spec := "tasksChecks", unfollowed := true, recurses := true, named := ["punctual/punctuallaw.noTask"], apart := false, laid := [("punctual/punctuallaw.noTask", laid_punctual_punctuallaw_noTask)], narrowed := true }
def TasksChecksUptoSaid : Prop := tasksChecksUptoRow.holds Tryd.pinned (OpenSpec.upto tasksChecksSpec)

/-- 'punctuallaw.TasksJobs', WHERE WHAT IT READS IS OF BULK AT MOST 1048576: true; the input reads as it did. -/
def tasksJobsUptoRow : OpenClaim := { program := "ytlipdmblinjjaaadoor", sum := "efd0ae81c21a8978864ccf79f1b451fa5e3f7170097a253b8ac26f0518bfa97c", func := "punctual/punctuallaw.TasksJobs", spec := "tasksJobs", unfollowed := true, recurses := true, named := ["punctual/punctuallaw.noTask", "punctual/punctuallaw.noCome"], apart := false, laid := [("punctual/punctuallaw.noTask", laid_punctual_punctuallaw_noTask), ("punctual/punctuallaw.noCome", laid_punctual_punctuallaw_noCome)], narrowed := true }
def TasksJobsUptoSaid : Prop := tasksJobsUptoRow.holds Tryd.pinned (OpenSpec.upto tasksJobsSpec)

/-- 'punctuallaw.SchedPlays', WHERE WHAT IT READS IS OF BULK AT MOST 1048576: true; the input reads as it did. -/
def schedPlaysUptoRow : OpenClaim := { program := "ytlipdmblinjjaaadoor", sum := "efd0ae81c21a8978864ccf79f1b451fa5e3f7170097a253b8ac26f0518bfa97c", func := "punctual/punctuallaw.SchedPlays", spec := "schedPlays", unfollowed := true, recurses := true, named := ["punctual/punctuallaw.noJob"], apart := false, laid := [("punctual/punctuallaw.noJob", laid_punctual_punctuallaw_noJob)], narrowed := true }
def SchedPlaysUptoSaid : Prop := schedPlaysUptoRow.holds Tryd.pinned (OpenSpec.upto schedPlaysSpec)

/-- 'punctuallaw.FixedResponds', WHERE WHAT IT READS IS OF BULK AT MOST 1048576: true; the input reads as it did. -/
def fixedRespondsUptoRow : OpenClaim := { program := "ytlipdmblinjjaaadoor", sum := "efd0ae81c21a8978864ccf79f1b451fa5e3f7170097a253b8ac26f0518bfa97c", func := "punctual/punctuallaw.FixedResponds", spec := "fixedResponds", unfollowed := true, recurses := true, named := ["punctual/punctuallaw.noTask"], apart := false, laid := [("punctual/punctuallaw.noTask", laid_punctual_punctuallaw_noTask)], narrowed := true }
def FixedRespondsUptoSaid : Prop := fixedRespondsUptoRow.holds Tryd.pinned (OpenSpec.upto fixedRespondsSpec)

/-- 'punctuallaw.TasksComes', WHERE WHAT IT READS IS OF BULK AT MOST 1048576: true; the input reads as it did. -/
def tasksComesUptoRow : OpenClaim := { program := "ytlipdmblinjjaaadoor", sum := "efd0ae81c21a8978864ccf79f1b451fa5e3f7170097a253b8ac26f0518bfa97c", func := "punctual/punctuallaw.TasksComes", spec := "tasksComes", unfollowed := true, recurses := true, named := ["punctual/punctuallaw.noTask", "punctual/punctuallaw.noCome"], apart := false, laid := [("punctual/punctuallaw.noTask", laid_punctual_punctuallaw_noTask), ("punctual/punctuallaw.noCome", laid_punctual_punctuallaw_noCome)], narrowed := true }
def TasksComesUptoSaid : Prop := tasksComesUptoRow.holds Tryd.pinned (OpenSpec.upto tasksComesSpec)

/-- 'punctuallaw.FixedRanks', WHERE WHAT IT READS IS OF BULK AT MOST 1048576: true; the input reads as it did. -/
def fixedRanksUptoRow : OpenClaim := { program := "ytlipdmblinjjaaadoor", sum := "efd0ae81c21a8978864ccf79f1b451fa5e3f7170097a253b8ac26f0518bfa97c", func := "punctual/punctuallaw.FixedRanks", spec := "fixedRanks", unfollowed := true, recurses := true, named := ["punctual/punctuallaw.noTask"], apart := false, laid := [("punctual/punctuallaw.noTask", laid_punctual_punctuallaw_noTask)], narrowed := true }
def FixedRanksUptoSaid : Prop := fixedRanksUptoRow.holds Tryd.pinned (OpenSpec.upto fixedRanksSpec)

/-- 'punctuallaw.EdfJudges', WHERE WHAT IT READS IS OF BULK AT MOST 1048576: true; the input reads as it did. -/
def edfJudgesUptoRow : OpenClaim := { program := "ytlipdmblinjjaaadoor", sum := "efd0ae81c21a8978864ccf79f1b451fa5e3f7170097a253b8ac26f0518bfa97c", func := "punctual/punctuallaw.EdfJudges", spec := "edfJudges", unfollowed := true, recurses := true, named := ["punctual/punctuallaw.noJob"], apart := false, laid := [("punctual/punctuallaw.noJob", laid_punctual_punctuallaw_noJob)], narrowed := true }
def EdfJudgesUptoSaid : Prop := edfJudgesUptoRow.holds Tryd.pinned (OpenSpec.upto edfJudgesSpec)

end Rows
end Go.Proofs.YtlipdmblinjjaaaDoor
