/-
  DERIVED. GIVEN WITH THE SEED: THE PROGRAM's TIES (one call each: nine closed facts by the kernel) AND EACH ROW's TIE, after the 31st guide's Derived/Test/Toyas{Tie, Card}.lean. No idea stands in it: it is a product of the set-up. Laid BY PROGRAM, IN A SANDBOX (cutbox-door.mjs). By AI agents, Wed Nov 11 2026. No macro, syntax, notation, axiom, sorry.
-/
import Derived.Test.YtlipdmblinjjaaaDoorRows
import Derived.LaidByTextLater
import Derived.SevenTiedAt
import Derived.LaidSub
import Derived.LaidOnce
namespace Go.Proofs.YtlipdmblinjjaaaDoor
open Go
set_option maxRecDepth 100000
theorem seatTie1 : Tryd.prog.laidByTextLater [("punctual/punctuallaw.noTask", Rows.laid_punctual_punctuallaw_noTask), ("punctual/punctuallaw.noCome", Rows.laid_punctual_punctuallaw_noCome), ("punctual/punctuallaw.noJob", Rows.laid_punctual_punctuallaw_noJob)] [.data, .data, .data] true :=
  Program.laidByTextLater_by_one 24 8 8 (by kernel_rfl) (by kernel_rfl) (by kernel_rfl) (by kernel_rfl) (by kernel_rfl) (by kernel_rfl) (fun _ _ => by kernel_rfl)
theorem noOwnUnsafe : Tryd.pinned.checked.prog.headLifts.contains "ownunsafe" = false := by kernel_rfl
theorem tie : Tryd.prog.laidByTextLater [("punctual/punctuallaw.noJob", Rows.laid_punctual_punctuallaw_noJob)] [.data] true :=
  Program.laidByTextLater.sub seatTie1 ["punctual/punctuallaw.noJob"] (by kernel_rfl) (by kernel_rfl)
theorem schedLate_row_tie : Rows.schedLateRow.laidByTextAt .later Tryd.pinned [.data] true :=
  OpenClaim.laidByTextAt_later rfl rfl tie noOwnUnsafe
theorem schedPlays_row_tie : Rows.schedPlaysRow.laidByTextAt .later Tryd.pinned [.data] true :=
  OpenClaim.laidByTextAt_later rfl rfl tie noOwnUnsafe
theorem edfJudges_row_tie : Rows.edfJudgesRow.laidByTextAt .later Tryd.pinned [.data] true :=
  OpenClaim.laidByTextAt_later rfl rfl tie noOwnUnsafe
theorem tie2 : Tryd.prog.laidByTextLater [("punctual/punctuallaw.noTask", Rows.laid_punctual_punctuallaw_noTask)] [.data] true :=
  Program.laidByTextLater.sub seatTie1 ["punctual/punctuallaw.noTask"] (by kernel_rfl) (by kernel_rfl)
theorem tasksChecks_row_tie : Rows.tasksChecksRow.laidByTextAt .later Tryd.pinned [.data] true :=
  OpenClaim.laidByTextAt_later rfl rfl tie2 noOwnUnsafe
theorem fixedResponds_row_tie : Rows.fixedRespondsRow.laidByTextAt .later Tryd.pinned [.data] true :=
  OpenClaim.laidByTextAt_later rfl rfl tie2 noOwnUnsafe
theorem fixedRanks_row_tie : Rows.fixedRanksRow.laidByTextAt .later Tryd.pinned [.data] true :=
  OpenClaim.laidByTextAt_later rfl rfl tie2 noOwnUnsafe
theorem tie3 : Tryd.prog.laidByTextLater [("punctual/punctuallaw.noTask", Rows.laid_punctual_punctuallaw_noTask), ("punctual/punctuallaw.noCome", Rows.laid_punctual_punctuallaw_noCome)] [.data, .data] true :=
  Program.laidByTextLater.sub seatTie1 ["punctual/punctuallaw.noTask", "punctual/punctuallaw.noCome"] (by kernel_rfl) (by kernel_rfl)
theorem tasksJobs_row_tie : Rows.tasksJobsRow.laidByTextAt .later Tryd.pinned [.data, .data] true :=
  OpenClaim.laidByTextAt_later rfl rfl tie3 noOwnUnsafe
theorem tasksComes_row_tie : Rows.tasksComesRow.laidByTextAt .later Tryd.pinned [.data, .data] true :=
  OpenClaim.laidByTextAt_later rfl rfl tie3 noOwnUnsafe
theorem schedLateUpto_row_tie : Rows.schedLateUptoRow.laidByTextAt .later Tryd.pinned [.data] true :=
  OpenClaim.laidByTextAt_later rfl rfl tie noOwnUnsafe
theorem tasksChecksUpto_row_tie : Rows.tasksChecksUptoRow.laidByTextAt .later Tryd.pinned [.data] true :=
  OpenClaim.laidByTextAt_later rfl rfl tie2 noOwnUnsafe
theorem tasksJobsUpto_row_tie : Rows.tasksJobsUptoRow.laidByTextAt .later Tryd.pinned [.data, .data] true :=
  OpenClaim.laidByTextAt_later rfl rfl tie3 noOwnUnsafe
theorem schedPlaysUpto_row_tie : Rows.schedPlaysUptoRow.laidByTextAt .later Tryd.pinned [.data] true :=
  OpenClaim.laidByTextAt_later rfl rfl tie noOwnUnsafe
theorem fixedRespondsUpto_row_tie : Rows.fixedRespondsUptoRow.laidByTextAt .later Tryd.pinned [.data] true :=
  OpenClaim.laidByTextAt_later rfl rfl tie2 noOwnUnsafe
theorem tasksComesUpto_row_tie : Rows.tasksComesUptoRow.laidByTextAt .later Tryd.pinned [.data, .data] true :=
  OpenClaim.laidByTextAt_later rfl rfl tie3 noOwnUnsafe
theorem fixedRanksUpto_row_tie : Rows.fixedRanksUptoRow.laidByTextAt .later Tryd.pinned [.data] true :=
  OpenClaim.laidByTextAt_later rfl rfl tie2 noOwnUnsafe
theorem edfJudgesUpto_row_tie : Rows.edfJudgesUptoRow.laidByTextAt .later Tryd.pinned [.data] true :=
  OpenClaim.laidByTextAt_later rfl rfl tie noOwnUnsafe
end Go.Proofs.YtlipdmblinjjaaaDoor
