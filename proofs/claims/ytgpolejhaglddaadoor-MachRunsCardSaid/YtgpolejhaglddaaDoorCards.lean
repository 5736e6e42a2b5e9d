/-
  DERIVED. GIVEN WITH THE SEED: THE CARDS: each row of YtgpolejhaglddaaDoorRows.lean that lists a variable, with what it lists TIED to the program's text (the seventh form; the later family's looks); each row that meets fmt, with fmt's text TOLD by the authors' own Lean function (tested against real Go, not proved from fmt's source: count such statements apart). THE CARD IS WHAT COUNTS. Prove the row's statement (the work); the ties are given (YtgpolejhaglddaaDoorTie.lean); close each card by the builder's one call (the guide's Derived/Test/ToyasCard.lean, 'card_holds'). Laid BY PROGRAM, IN A SANDBOX (cutbox-door.mjs). By AI agents, Wed Nov 11 2026. No macro, syntax, notation, axiom, sorry.
-/
import Derived.Test.YtgpolejhaglddaaDoorRows
import GoSem.ClaimSeven
namespace Go.Proofs.YtgpolejhaglddaaDoor
namespace Rows

/-- THE TIED CARD OF 'punctuallaw.MachRuns'. -/
def machRunsCard : Claim7 := { stood := { row := machRunsRow, standIns := [], harness := (true, "8f32b0aca2732fe69a58c5bfc4f5659aae2de586f06ac588c21ee97e81fd8b9b"), looks := false }, kinds := [], alts := [], laidByText := true, laidKinds := [.data], laidTests := true, laidLooks := .later }
def MachRunsCardSaid : Prop := Claim7.holds Tryd.pinned (.plain (OpenSpec.ofChange machRunsSpec)) machRunsCard

/-- THE SECOND FORM's CARD OF 'punctuallaw.MachRuns'. -/
def machRunsUptoCard : Claim7 := { stood := { row := machRunsUptoRow, standIns := [], harness := (true, "8f32b0aca2732fe69a58c5bfc4f5659aae2de586f06ac588c21ee97e81fd8b9b"), looks := false }, kinds := [], alts := [], laidByText := true, laidKinds := [.data], laidTests := true, laidLooks := .later }
def MachRunsUptoCardSaid : Prop := Claim7.holds Tryd.pinned (.plain (OpenSpec.upto machRunsSpec)) machRunsUptoCard
end Rows
end Go.Proofs.YtgpolejhaglddaaDoor
