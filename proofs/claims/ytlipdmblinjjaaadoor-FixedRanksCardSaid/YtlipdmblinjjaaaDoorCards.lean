/-
  DERIVED. GIVEN WITH THE SEED: THE CARDS: each row of YtlipdmblinjjaaaDoorRows.lean that lists a variable, with what it lists TIED to the program's text (the seventh form; the later family's looks); each row that meets fmt, with fmt's text TOLD by the authors' own Lean function (tested against real Go, not proved from fmt's source: count such statements apart). THE CARD IS WHAT COUNTS. Prove the row's statement (the work); the ties are given (YtlipdmblinjjaaaDoorTie.lean); close each card by the builder's one call (the guide's Derived/Test/ToyasCard.lean, 'card_holds'). Laid BY PROGRAM, IN A SANDBOX (cutbox-door.mjs). By AI agents, Wed Nov 11 2026. No macro, syntax, notation, axiom, sorry.
-/
import Derived.Test.YtlipdmblinjjaaaDoorRows
import GoSem.ClaimSeven
namespace Go.Proofs.YtlipdmblinjjaaaDoor
namespace Rows

/-- THE TIED CARD OF 'punctuallaw.SchedLate'. -/
def schedLateCard : Claim7 := { stood := { row := schedLateRow, standIns := [], harness := (true, "56ef49634e6176fb5709433775df85187f7fdcd8b03eac27ec0a7df882d6de22"), looks := false }, kinds := [], alts := [], laidByText := true, laidKinds := [.data], laidTests := true, laidLooks := .later }
def SchedLateCardSaid : Prop := Claim7.holds Tryd.pinned (.plain (OpenSpec.ofChange schedLateSpec)) schedLateCard

/-- THE TIED CARD OF 'punctuallaw.TasksChecks'. -/
def tasksChecksCard : Claim7 := { stood := { row := tasksChecksRow, standIns := [], harness := (true, "56ef49634e6176fb5709433775df85187f7fdcd8b03eac27ec0a7df882d6de22"), looks := false }, kinds := [], alts := [], laidByText := true, laidKinds := [.data], laidTests := true, laidLooks := .later }
def TasksChecksCardSaid : Prop := Claim7.holds Tryd.pinned (.plain (OpenSpec.ofChange tasksChecksSpec)) tasksChecksCard

/-- THE TIED CARD OF 'punctuallaw.TasksJobs'. -/
def tasksJobsCard : Claim7 := { stood := { row := tasksJobsRow, standIns := [], harness := (true, "56ef49634e6176fb5709433775df85187f7fdcd8b03eac27ec0a7df882d6de22"), looks := false }, kinds := [], alts := [], laidByText := true, laidKinds := [.data, .data], laidTests := true, laidLooks := .later }
def TasksJobsCardSaid : Prop := Claim7.holds Tryd.pinned (.plain (OpenSpec.ofChange tasksJobsSpec)) tasksJobsCard

/-- THE TIED CARD OF 'punctuallaw.SchedPlays'. -/
def schedPlaysCard : Claim7 := { stood := { row := schedPlaysRow, standIns := [], harness := (true, "56ef49634e6176fb5709433775df85187f7fdcd8b03eac27ec0a7df882d6de22"), looks := false }, kinds := [], alts := [], laidByText := true, laidKinds := [.data], laidTests := true, laidLooks := .later }
def SchedPlaysCardSaid : Prop := Claim7.holds Tryd.pinned (.plain (OpenSpec.ofChange schedPlaysSpec)) schedPlaysCard

/-- THE TIED CARD OF 'punctuallaw.FixedResponds'. -/
def fixedRespondsCard : Claim7 := { stood := { row := fixedRespondsRow, standIns := [], harness := (true, "56ef49634e6176fb5709433775df85187f7fdcd8b03eac27ec0a7df882d6de22"), looks := false }, kinds := [], alts := [], laidByText := true, laidKinds := [.data], laidTests := true, laidLooks := .later }
def FixedRespondsCardSaid : Prop := Claim7.holds Tryd.pinned (.plain (OpenSpec.ofChange fixedRespondsSpec)) fixedRespondsCard

/-- THE TIED CARD OF 'punctuallaw.TasksComes'. -/
def tasksComesCard : Claim7 := { stood := { row := tasksComesRow, standIns := [], harness := (true, "56ef49634e6176fb5709433775df85187f7fdcd8b03eac27ec0a7df882d6de22"), looks := false }, kinds := [], alts := [], laidByText := true, laidKinds := [.data, .data], laidTests := true, laidLooks := .later }
def TasksComesCardSaid : Prop := Claim7.holds Tryd.pinned (.plain (OpenSpec.ofChange tasksComesSpec)) tasksComesCard

/-- THE TIED CARD OF 'punctuallaw.FixedRanks'. -/
def fixedRanksCard : Claim7 := { stood := { row := fixedRanksRow, standIns := [], harness := (true, "56ef49634e6176fb5709433775df85187f7fdcd8b03eac27ec0a7df882d6de22"), looks := false }, kinds := [], alts := [], laidByText := true, laidKinds := [.data], laidTests := true, laidLooks := .later }
def FixedRanksCardSaid : Prop := Claim7.holds Tryd.pinned (.plain (OpenSpec.ofChange fixedRanksSpec)) fixedRanksCard

/-- THE TIED CARD OF 'punctuallaw.EdfJudges'. -/
def edfJudgesCard : Claim7 := { stood := { row := edfJudgesRow, standIns := [], harness := (true, "56ef49634e6176fb5709433775df85187f7fdcd8b03eac27ec0a7df882d6de22"), looks := false }, kinds := [], alts := [], laidByText := true, laidKinds := [.data], laidTests := true, laidLooks := .later }
def EdfJudgesCardSaid : Prop := Claim7.holds Tryd.pinned (.plain (OpenSpec.ofChange edfJudgesSpec)) edfJudgesCard

/-- THE SECOND FORM's CARD OF 'punctuallaw.SchedLate'. -/
def schedLateUptoCard : Claim7 := { stood := { row := schedLateUptoRow, standIns := [], harness := (true, "56ef49634e6176fb5709433775df85187f7fdcd8b03eac27ec0a7df882d6de22"), looks := false }, kinds := [], alts := [], laidByText := true, laidKinds := [.data], laidTests := true, laidLooks := .later }
def SchedLateUptoCardSaid : Prop := Claim7.holds Tryd.pinned (.plain (OpenSpec.upto schedLateSpec)) schedLateUptoCard

/-- THE SECOND FORM's CARD OF 'punctuallaw.TasksChecks'. -/
def tasksChecksUptoCard : Claim7 := { stood := { row := tasksChecksUptoRow, standIns := [], harness := (true, "56ef49634e6176fb5709433775df85187f7fdcd8b03eac27ec0a7df882d6de22"), looks := false }, kinds := [], alts := [], laidByText := true, laidKinds := [.data], laidTests := true, laidLooks := .later }
def TasksChecksUptoCardSaid : Prop := Claim7.holds Tryd.pinned (.plain (OpenSpec.upto tasksChecksSpec)) tasksChecksUptoCard

/-- THE SECOND FORM's CARD OF 'punctuallaw.TasksJobs'. -/
def tasksJobsUptoCard : Claim7 := { stood := { row := tasksJobsUptoRow, standIns := [], harness := (true, "56ef49634e6176fb5709433775df85187f7fdcd8b03eac27ec0a7df882d6de22"), looks := false }, kinds := [], alts := [], laidByText := true, laidKinds := [.data, .data], laidTests := true, laidLooks := .later }
def TasksJobsUptoCardSaid : Prop := Claim7.holds Tryd.pinned (.plain (OpenSpec.upto tasksJobsSpec)) tasksJobsUptoCard

/-- THE SECOND FORM's CARD OF 'punctuallaw.SchedPlays'. -/
def schedPlaysUptoCard : Claim7 := { stood := { row := schedPlaysUptoRow, standIns := [], harness := (true, "56ef49634e6176fb5709433775df85187f7fdcd8b03eac27ec0a7df882d6de22"), looks := false }, kinds := [], alts := [], laidByText := true, laidKinds := [.data], laidTests := true, laidLooks := .later }
def SchedPlaysUptoCardSaid : Prop := Claim7.holds Tryd.pinned (.plain (OpenSpec.upto schedPlaysSpec)) schedPlaysUptoCard

/-- THE SECOND FORM's CARD OF 'punctuallaw.FixedResponds'. -/
def fixedRespondsUptoCard : Claim7 := { stood := { row := fixedRespondsUptoRow, standIns := [], harness := (true, "56ef49634e6176fb5709433775df85187f7fdcd8b03eac27ec0a7df882d6de22"), looks := false }, kinds := [], alts := [], laidByText := true, laidKinds := [.data], laidTests := true, laidLooks := .later }
def FixedRespondsUptoCardSaid : Prop := Claim7.holds Tryd.pinned (.plain (OpenSpec.upto fixedRespondsSpec)) fixedRespondsUptoCard

/-- THE SECOND FORM's CARD OF 'punctuallaw.TasksComes'. -/
def tasksComesUptoCard : Claim7 := { stood := { row := tasksComesUptoRow, standIns := [], harness := (true, "56ef49634e6176fb5709433775df85187f7fdcd8b03eac27ec0a7df882d6de22"), looks := false }, kinds := [], alts := [], laidByText := true, laidKinds := [.data, .data], laidTests := true, laidLooks := .later }
def TasksComesUptoCardSaid : Prop := Claim7.holds Tryd.pinned (.plain (OpenSpec.upto tasksComesSpec)) tasksComesUptoCard

/-- THE SECOND FORM's CARD OF 'punctuallaw.FixedRanks'. -/
def fixedRanksUptoCard : Claim7 := { stood := { row := fixedRanksUptoRow, standIns := [], harness := (true, "56ef49634e6176fb5709433775df85187f7fdcd8b03eac27ec0a7df882d6de22"), looks := false }, kinds := [], alts := [], laidByText := true, laidKinds := [.data], laidTests := true, laidLooks := .later }
def FixedRanksUptoCardSaid : Prop := Claim7.holds Tryd.pinned (.plain (OpenSpec.upto fixedRanksSpec)) fixedRanksUptoCard

/-- THE SECOND FORM's CARD OF 'punctuallaw.EdfJudges'. -/
def edfJudgesUptoCard : Claim7 := { stood := { row := edfJudgesUptoRow, standIns := [], harness := (true, "56ef49634e6176fb5709433775df85187f7fdcd8b03eac27ec0a7df882d6de22"), looks := false }, kinds := [], alts := [], laidByText := true, laidKinds := [.data], laidTests := true, laidLooks := .later }
def EdfJudgesUptoCardSaid : Prop := Claim7.holds Tryd.pinned (.plain (OpenSpec.upto edfJudgesSpec)) edfJudgesUptoCard
end Rows
end Go.Proofs.YtlipdmblinjjaaaDoor
