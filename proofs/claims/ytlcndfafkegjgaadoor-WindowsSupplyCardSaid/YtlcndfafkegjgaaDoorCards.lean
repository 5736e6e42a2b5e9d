/-
  DERIVED. GIVEN WITH THE SEED: THE CARDS: each row of YtlcndfafkegjgaaDoorRows.lean that lists a variable, with what it lists TIED to the program's text (the seventh form; the later family's looks); each row that meets fmt, with fmt's text TOLD by the authors' own Lean function (tested against real Go, not proved from fmt's source: count such statements apart). THE CARD IS WHAT COUNTS. Prove the row's statement (the work); the ties are given (YtlcndfafkegjgaaDoorTie.lean); close each card by the builder's one call (the guide's Derived/Test/ToyasCard.lean, 'card_holds'). Laid BY PROGRAM, IN A SANDBOX (cutbox-door.mjs). By AI agents, Wed Nov 11 2026. No macro, syntax, notation, axiom, sorry.
-/
import Derived.Test.YtlcndfafkegjgaaDoorRows
import GoSem.ClaimSeven
namespace Go.Proofs.YtlcndfafkegjgaaDoor
namespace Rows

/-- THE TIED CARD OF 'punctuallaw.WindowsSupply'. -/
def windowsSupplyCard : Claim7 := { stood := { row := windowsSupplyRow, standIns := [], harness := (true, "0f6e84d00472392e1a0d4ac5ca75209cac546dbd4eb184dec948bee6bcee562a"), looks := false }, kinds := [], alts := [], laidByText := true, laidKinds := [.data], laidTests := true, laidLooks := .later }
def WindowsSupplyCardSaid : Prop := Claim7.holds Tryd.pinned (.plain (OpenSpec.ofChange windowsSupplySpec)) windowsSupplyCard

/-- THE TIED CARD OF 'punctuallaw.MachRuns'. -/
def machRunsCard : Claim7 := { stood := { row := machRunsRow, standIns := [], harness := (true, "0f6e84d00472392e1a0d4ac5ca75209cac546dbd4eb184dec948bee6bcee562a"), looks := false }, kinds := [], alts := [], laidByText := true, laidKinds := [.data], laidTests := true, laidLooks := .later }
def MachRunsCardSaid : Prop := Claim7.holds Tryd.pinned (.plain (OpenSpec.ofChange machRunsSpec)) machRunsCard

/-- THE TIED CARD OF 'punctuallaw.WindowsPlay'. -/
def windowsPlayCard : Claim7 := { stood := { row := windowsPlayRow, standIns := [], harness := (true, "0f6e84d00472392e1a0d4ac5ca75209cac546dbd4eb184dec948bee6bcee562a"), looks := false }, kinds := [], alts := [], laidByText := true, laidKinds := [.data, .data, .data], laidTests := true, laidLooks := .later }
def WindowsPlayCardSaid : Prop := Claim7.holds Tryd.pinned (.plain (OpenSpec.ofChange windowsPlaySpec)) windowsPlayCard

/-- THE TIED CARD OF 'punctuallaw.ChainResponds'. -/
def chainRespondsCard : Claim7 := { stood := { row := chainRespondsRow, standIns := [], harness := (true, "0f6e84d00472392e1a0d4ac5ca75209cac546dbd4eb184dec948bee6bcee562a"), looks := false }, kinds := [], alts := [], laidByText := true, laidKinds := [.data], laidTests := true, laidLooks := .later }
def ChainRespondsCardSaid : Prop := Claim7.holds Tryd.pinned (.plain (OpenSpec.ofChange chainRespondsSpec)) chainRespondsCard

/-- THE TIED CARD OF 'punctuallaw.ChainPlays'. -/
def chainPlaysCard : Claim7 := { stood := { row := chainPlaysRow, standIns := [], harness := (true, "0f6e84d00472392e1a0d4ac5ca75209cac546dbd4eb184dec948bee6bcee562a"), looks := false }, kinds := [], alts := [], laidByText := true, laidKinds := [.data, .data], laidTests := true, laidLooks := .later }
def ChainPlaysCardSaid : Prop := Claim7.holds Tryd.pinned (.plain (OpenSpec.ofChange chainPlaysSpec)) chainPlaysCard

/-- THE SECOND FORM's CARD OF 'punctuallaw.WindowsSupply'. -/
def windowsSupplyUptoCard : Claim7 := { stood := { row := windowsSupplyUptoRow, standIns := [], harness := (true, "0f6e84d00472392e1a0d4ac5ca75209cac546dbd4eb184dec948bee6bcee562a"), looks := false }, kinds := [], alts := [], laidByText := true, laidKinds := [.data], laidTests := true, laidLooks := .later }
def WindowsSupplyUptoCardSaid : Prop := Claim7.holds Tryd.pinned (.plain (OpenSpec.upto windowsSupplySpec)) windowsSupplyUptoCard

/-- THE SECOND FORM's CARD OF 'punctuallaw.MachRuns'. -/
def machRunsUptoCard : Claim7 := { stood := { row := machRunsUptoRow, standIns := [], harness := (true, "0f6e84d00472392e1a0d4ac5ca75209cac546dbd4eb184dec948bee6bcee562a"), looks := false }, kinds := [], alts := [], laidByText := true, laidKinds := [.data], laidTests := true, laidLooks := .later }
def MachRunsUptoCardSaid : Prop := Claim7.holds Tryd.pinned (.plain (OpenSpec.upto machRunsSpec)) machRunsUptoCard

/-- THE SECOND FORM's CARD OF 'punctuallaw.WindowsPlay'. -/
def windowsPlayUptoCard : Claim7 := { stood := { row := windowsPlayUptoRow, standIns := [], harness := (true, "0f6e84d00472392e1a0d4ac5ca75209cac546dbd4eb184dec948bee6bcee562a"), looks := false }, kinds := [], alts := [], laidByText := true, laidKinds := [.data, .data, .data], laidTests := true, laidLooks := .later }
def WindowsPlayUptoCardSaid : Prop := Claim7.holds Tryd.pinned (.plain (OpenSpec.upto windowsPlaySpec)) windowsPlayUptoCard

/-- THE SECOND FORM's CARD OF 'punctuallaw.ChainResponds'. -/
def chainRespondsUptoCard : Claim7 := { stood := { row := chainRespondsUptoRow, standIns := [], harness := (true, "0f6e84d00472392e1a0d4ac5ca75209cac546dbd4eb184dec948bee6bcee562a"), looks := false }, kinds := [], alts := [], laidByText := true, laidKinds := [.data], laidTests := true, laidLooks := .later }
def ChainRespondsUptoCardSaid : Prop := Claim7.holds Tryd.pinned (.plain (OpenSpec.upto chainRespondsSpec)) chainRespondsUptoCard

/-- THE SECOND FORM's CARD OF 'punctuallaw.ChainPlays'. -/
def chainPlaysUptoCard : Claim7 := { stood := { row := chainPlaysUptoRow, standIns := [], harness := (true, "0f6e84d00472392e1a0d4ac5ca75209cac546dbd4eb184dec948bee6bcee562a"), looks := false }, kinds := [], alts := [], laidByText := true, laidKinds := [.data, .data], laidTests := true, laidLooks := .later }
def ChainPlaysUptoCardSaid : Prop := Claim7.holds Tryd.pinned (.plain (OpenSpec.upto chainPlaysSpec)) chainPlaysUptoCard
end Rows
end Go.Proofs.YtlcndfafkegjgaaDoor
