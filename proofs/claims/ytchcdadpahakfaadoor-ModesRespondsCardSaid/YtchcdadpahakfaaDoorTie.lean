/-
  DERIVED. GIVEN WITH THE SEED: THE PROGRAM's TIES (one call each: nine closed facts by the kernel) AND EACH ROW's TIE, after the 31st guide's Derived/Test/Toyas{Tie, Card}.lean. No idea stands in it: it is a product of the set-up. Laid BY PROGRAM, IN A SANDBOX (cutbox-door.mjs). By AI agents, Wed Nov 11 2026. No macro, syntax, notation, axiom, sorry.
-/
import Derived.Test.YtchcdadpahakfaaDoorRows
import Derived.LaidByTextLater
import Derived.SevenTiedAt
import Derived.LaidSub
import Derived.LaidOnce
namespace Go.Proofs.YtchcdadpahakfaaDoor
open Go
set_option maxRecDepth 100000
theorem seatTie1 : Tryd.prog.laidByTextLater [("punctual/punctuallaw.noCrit", Rows.laid_punctual_punctuallaw_noCrit), ("punctual/punctuallaw.noPart", Rows.laid_punctual_punctuallaw_noPart), ("punctual/punctuallaw.noCome", Rows.laid_punctual_punctuallaw_noCome)] [.data, .data, .data] true :=
  Program.laidByTextLater_by_one 24 8 8 (by kernel_rfl) (by kernel_rfl) (by kernel_rfl) (by kernel_rfl) (by kernel_rfl) (by kernel_rfl) (fun _ _ => by kernel_rfl)
theorem noOwnUnsafe : Tryd.pinned.checked.prog.headLifts.contains "ownunsafe" = false := by kernel_rfl
theorem tie : Tryd.prog.laidByTextLater [("punctual/punctuallaw.noCrit", Rows.laid_punctual_punctuallaw_noCrit)] [.data] true :=
  Program.laidByTextLater.sub seatTie1 ["punctual/punctuallaw.noCrit"] (by kernel_rfl) (by kernel_rfl)
theorem modesResponds_row_tie : Rows.modesRespondsRow.laidByTextAt .later Tryd.pinned [.data] true :=
  OpenClaim.laidByTextAt_later rfl rfl tie noOwnUnsafe
theorem tie2 : Tryd.prog.laidByTextLater [("punctual/punctuallaw.noCrit", Rows.laid_punctual_punctuallaw_noCrit), ("punctual/punctuallaw.noCome", Rows.laid_punctual_punctuallaw_noCome)] [.data, .data] true :=
  Program.laidByTextLater.sub seatTie1 ["punctual/punctuallaw.noCrit", "punctual/punctuallaw.noCome"] (by kernel_rfl) (by kernel_rfl)
theorem modesPlays_row_tie : Rows.modesPlaysRow.laidByTextAt .later Tryd.pinned [.data, .data] true :=
  OpenClaim.laidByTextAt_later rfl rfl tie2 noOwnUnsafe
theorem tie3 : Tryd.prog.laidByTextLater [("punctual/punctuallaw.noPart", Rows.laid_punctual_punctuallaw_noPart)] [.data] true :=
  Program.laidByTextLater.sub seatTie1 ["punctual/punctuallaw.noPart"] (by kernel_rfl) (by kernel_rfl)
theorem chainResponds_row_tie : Rows.chainRespondsRow.laidByTextAt .later Tryd.pinned [.data] true :=
  OpenClaim.laidByTextAt_later rfl rfl tie3 noOwnUnsafe
theorem tie4 : Tryd.prog.laidByTextLater [("punctual/punctuallaw.noPart", Rows.laid_punctual_punctuallaw_noPart), ("punctual/punctuallaw.noCome", Rows.laid_punctual_punctuallaw_noCome)] [.data, .data] true :=
  Program.laidByTextLater.sub seatTie1 ["punctual/punctuallaw.noPart", "punctual/punctuallaw.noCome"] (by kernel_rfl) (by kernel_rfl)
theorem chainPlays_row_tie : Rows.chainPlaysRow.laidByTextAt .later Tryd.pinned [.data, .data] true :=
  OpenClaim.laidByTextAt_later rfl rfl tie4 noOwnUnsafe
theorem modesRespondsUpto_row_tie : Rows.modesRespondsUptoRow.laidByTextAt .later Tryd.pinned [.data] true :=
  OpenClaim.laidByTextAt_later rfl rfl tie noOwnUnsafe
theorem modesPlaysUpto_row_tie : Rows.modesPlaysUptoRow.laidByTextAt .later Tryd.pinned [.data, .data] true :=
  OpenClaim.laidByTextAt_later rfl rfl tie2 noOwnUnsafe
theorem chainRespondsUpto_row_tie : Rows.chainRespondsUptoRow.laidByTextAt .later Tryd.pinned [.data] true :=
  OpenClaim.laidByTextAt_later rfl rfl tie3 noOwnUnsafe
theorem chainPlaysUpto_row_tie : Rows.chainPlaysUptoRow.laidByTextAt .later Tryd.pinned [.data, .data] true :=
  OpenClaim.laidByTextAt_later rfl rfl tie4 noOwnUnsafe
end Go.Proofs.YtchcdadpahakfaaDoor
