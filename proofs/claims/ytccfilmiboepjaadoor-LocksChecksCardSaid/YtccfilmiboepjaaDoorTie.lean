/-
  DERIVED. GIVEN WITH THE SEED: THE PROGRAM's TIES (one call each: nine closed facts by the kernel) AND EACH ROW's TIE, after the 31st guide's Derived/Test/Toyas{Tie, Card}.lean. No idea stands in it: it is a product of the set-up. Laid BY PROGRAM, IN A SANDBOX (cutbox-door.mjs). By AI agents, Wed Nov 11 2026. No macro, syntax, notation, axiom, sorry.
-/
import Derived.Test.YtccfilmiboepjaaDoorRows
import Derived.LaidByTextLater
import Derived.SevenTiedAt
import Derived.LaidSub
import Derived.LaidOnce
namespace Go.Proofs.YtccfilmiboepjaaDoor
open Go
set_option maxRecDepth 100000
theorem seatTie1 : Tryd.prog.laidByTextLater [("punctual/punctuallaw.noAct", Rows.laid_punctual_punctuallaw_noAct), ("punctual/punctuallaw.noCrit", Rows.laid_punctual_punctuallaw_noCrit), ("punctual/punctuallaw.noFrame", Rows.laid_punctual_punctuallaw_noFrame), ("punctual/punctuallaw.noTask", Rows.laid_punctual_punctuallaw_noTask), ("punctual/punctuallaw.noCome", Rows.laid_punctual_punctuallaw_noCome), ("punctual/punctuallaw.noJob", Rows.laid_punctual_punctuallaw_noJob)] [.data, .data, .data, .data, .data, .data] true :=
  Program.laidByTextLater_by_one 39 8 8 (by kernel_rfl) (by kernel_rfl) (by kernel_rfl) (by kernel_rfl) (by kernel_rfl) (by kernel_rfl) (fun _ _ => by kernel_rfl)
theorem noOwnUnsafe : Tryd.pinned.checked.prog.headLifts.contains "ownunsafe" = false := by kernel_rfl
theorem tie : Tryd.prog.laidByTextLater [("punctual/punctuallaw.noAct", Rows.laid_punctual_punctuallaw_noAct)] [.data] true :=
  Program.laidByTextLater.sub seatTie1 ["punctual/punctuallaw.noAct"] (by kernel_rfl) (by kernel_rfl)
theorem locksChecks_row_tie : Rows.locksChecksRow.laidByTextAt .later Tryd.pinned [.data] true :=
  OpenClaim.laidByTextAt_later rfl rfl tie noOwnUnsafe
theorem tie2 : Tryd.prog.laidByTextLater [("punctual/punctuallaw.noCrit", Rows.laid_punctual_punctuallaw_noCrit)] [.data] true :=
  Program.laidByTextLater.sub seatTie1 ["punctual/punctuallaw.noCrit"] (by kernel_rfl) (by kernel_rfl)
theorem modesResponds_row_tie : Rows.modesRespondsRow.laidByTextAt .later Tryd.pinned [.data] true :=
  OpenClaim.laidByTextAt_later rfl rfl tie2 noOwnUnsafe
theorem tie3 : Tryd.prog.laidByTextLater [("punctual/punctuallaw.noFrame", Rows.laid_punctual_punctuallaw_noFrame)] [.data] true :=
  Program.laidByTextLater.sub seatTie1 ["punctual/punctuallaw.noFrame"] (by kernel_rfl) (by kernel_rfl)
theorem netTimes_row_tie : Rows.netTimesRow.laidByTextAt .later Tryd.pinned [.data] true :=
  OpenClaim.laidByTextAt_later rfl rfl tie3 noOwnUnsafe
theorem tie4 : Tryd.prog.laidByTextLater [("punctual/punctuallaw.noFrame", Rows.laid_punctual_punctuallaw_noFrame), ("punctual/punctuallaw.noCome", Rows.laid_punctual_punctuallaw_noCome)] [.data, .data] true :=
  Program.laidByTextLater.sub seatTie1 ["punctual/punctuallaw.noFrame", "punctual/punctuallaw.noCome"] (by kernel_rfl) (by kernel_rfl)
theorem netSends_row_tie : Rows.netSendsRow.laidByTextAt .later Tryd.pinned [.data, .data] true :=
  OpenClaim.laidByTextAt_later rfl rfl tie4 noOwnUnsafe
theorem tie5 : Tryd.prog.laidByTextLater [("punctual/punctuallaw.noTask", Rows.laid_punctual_punctuallaw_noTask)] [.data] true :=
  Program.laidByTextLater.sub seatTie1 ["punctual/punctuallaw.noTask"] (by kernel_rfl) (by kernel_rfl)
theorem redoResponds_row_tie : Rows.redoRespondsRow.laidByTextAt .later Tryd.pinned [.data] true :=
  OpenClaim.laidByTextAt_later rfl rfl tie5 noOwnUnsafe
theorem tie6 : Tryd.prog.laidByTextLater [("punctual/punctuallaw.noJob", Rows.laid_punctual_punctuallaw_noJob)] [.data] true :=
  Program.laidByTextLater.sub seatTie1 ["punctual/punctuallaw.noJob"] (by kernel_rfl) (by kernel_rfl)
theorem redoPlays_row_tie : Rows.redoPlaysRow.laidByTextAt .later Tryd.pinned [.data] true :=
  OpenClaim.laidByTextAt_later rfl rfl tie6 noOwnUnsafe
theorem tie7 : Tryd.prog.laidByTextLater [("punctual/punctuallaw.noCrit", Rows.laid_punctual_punctuallaw_noCrit), ("punctual/punctuallaw.noCome", Rows.laid_punctual_punctuallaw_noCome)] [.data, .data] true :=
  Program.laidByTextLater.sub seatTie1 ["punctual/punctuallaw.noCrit", "punctual/punctuallaw.noCome"] (by kernel_rfl) (by kernel_rfl)
theorem modesPlays_row_tie : Rows.modesPlaysRow.laidByTextAt .later Tryd.pinned [.data, .data] true :=
  OpenClaim.laidByTextAt_later rfl rfl tie7 noOwnUnsafe
theorem locksChecksUpto_row_tie : Rows.locksChecksUptoRow.laidByTextAt .later Tryd.pinned [.data] true :=
  OpenClaim.laidByTextAt_later rfl rfl tie noOwnUnsafe
theorem modesRespondsUpto_row_tie : Rows.modesRespondsUptoRow.laidByTextAt .later Tryd.pinned [.data] true :=
  OpenClaim.laidByTextAt_later rfl rfl tie2 noOwnUnsafe
theorem netTimesUpto_row_tie : Rows.netTimesUptoRow.laidByTextAt .later Tryd.pinned [.data] true :=
  OpenClaim.laidByTextAt_later rfl rfl tie3 noOwnUnsafe
theorem netSendsUpto_row_tie : Rows.netSendsUptoRow.laidByTextAt .later Tryd.pinned [.data, .data] true :=
  OpenClaim.laidByTextAt_later rfl rfl tie4 noOwnUnsafe
theorem redoRespondsUpto_row_tie : Rows.redoRespondsUptoRow.laidByTextAt .later Tryd.pinned [.data] true :=
  OpenClaim.laidByTextAt_later rfl rfl tie5 noOwnUnsafe
theorem redoPlaysUpto_row_tie : Rows.redoPlaysUptoRow.laidByTextAt .later Tryd.pinned [.data] true :=
  OpenClaim.laidByTextAt_later rfl rfl tie6 noOwnUnsafe
theorem modesPlaysUpto_row_tie : Rows.modesPlaysUptoRow.laidByTextAt .later Tryd.pinned [.data, .data] true :=
  OpenClaim.laidByTextAt_later rfl rfl tie7 noOwnUnsafe
end Go.Proofs.YtccfilmiboepjaaDoor
