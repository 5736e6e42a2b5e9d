/-
  DERIVED. GIVEN WITH THE SEED: THE CARDS: each row of YtcogbnkioobmkaaDoorRows.lean that lists a variable, with what it lists TIED to the program's text (the seventh form; the later family's looks); each row that meets fmt, with fmt's text TOLD by the authors' own Lean function (tested against real Go, not proved from fmt's source: count such statements apart). THE CARD IS WHAT COUNTS. Prove the row's statement (the work); the ties are given (YtcogbnkioobmkaaDoorTie.lean); close each card by the builder's one call (the guide's Derived/Test/ToyasCard.lean, 'card_holds'). Laid BY PROGRAM, IN A SANDBOX (cutbox-door.mjs). By AI agents, Wed Nov 11 2026. No macro, syntax, notation, axiom, sorry.
-/
import Derived.Test.YtcogbnkioobmkaaDoorRows
import GoSem.ClaimSeven
namespace Go.Proofs.YtcogbnkioobmkaaDoor
namespace Rows

/-- THE TIED CARD OF 'punctuallaw.NetSends'. -/
def netSendsCard : Claim7 := { stood := { row := netSendsRow, standIns := [], harness := (true, "ba38b674174eb5871b60f4af9ed7b79aba7a7202f4670fefe0e2e0e5cb14297b"), looks := false }, kinds := [], alts := [], laidByText := true, laidKinds := [.data, .data], laidTests := true, laidLooks := .later }
def NetSendsCardSaid : Prop := Claim7.holds Tryd.pinned (.plain (OpenSpec.ofChange netSendsSpec)) netSendsCard

/-- THE TIED CARD OF 'punctuallaw.WindowsPlay'. -/
def windowsPlayCard : Claim7 := { stood := { row := windowsPlayRow, standIns := [], harness := (true, "ba38b674174eb5871b60f4af9ed7b79aba7a7202f4670fefe0e2e0e5cb14297b"), looks := false }, kinds := [], alts := [], laidByText := true, laidKinds := [.data, .data, .data], laidTests := true, laidLooks := .later }
def WindowsPlayCardSaid : Prop := Claim7.holds Tryd.pinned (.plain (OpenSpec.ofChange windowsPlaySpec)) windowsPlayCard

/-- THE TIED CARD OF 'punctuallaw.ModesResponds'. -/
def modesRespondsCard : Claim7 := { stood := { row := modesRespondsRow, standIns := [], harness := (true, "ba38b674174eb5871b60f4af9ed7b79aba7a7202f4670fefe0e2e0e5cb14297b"), looks := false }, kinds := [], alts := [], laidByText := true, laidKinds := [.data], laidTests := true, laidLooks := .later }
def ModesRespondsCardSaid : Prop := Claim7.holds Tryd.pinned (.plain (OpenSpec.ofChange modesRespondsSpec)) modesRespondsCard

/-- THE TIED CARD OF 'punctuallaw.LocksChecks'. -/
def locksChecksCard : Claim7 := { stood := { row := locksChecksRow, standIns := [], harness := (true, "ba38b674174eb5871b60f4af9ed7b79aba7a7202f4670fefe0e2e0e5cb14297b"), looks := false }, kinds := [], alts := [], laidByText := true, laidKinds := [.data], laidTests := true, laidLooks := .later }
def LocksChecksCardSaid : Prop := Claim7.holds Tryd.pinned (.plain (OpenSpec.ofChange locksChecksSpec)) locksChecksCard

/-- THE TIED CARD OF 'punctuallaw.ChainResponds'. -/
def chainRespondsCard : Claim7 := { stood := { row := chainRespondsRow, standIns := [], harness := (true, "ba38b674174eb5871b60f4af9ed7b79aba7a7202f4670fefe0e2e0e5cb14297b"), looks := false }, kinds := [], alts := [], laidByText := true, laidKinds := [.data], laidTests := true, laidLooks := .later }
def ChainRespondsCardSaid : Prop := Claim7.holds Tryd.pinned (.plain (OpenSpec.ofChange chainRespondsSpec)) chainRespondsCard

/-- THE TIED CARD OF 'punctuallaw.ChainPlays'. -/
def chainPlaysCard : Claim7 := { stood := { row := chainPlaysRow, standIns := [], harness := (true, "ba38b674174eb5871b60f4af9ed7b79aba7a7202f4670fefe0e2e0e5cb14297b"), looks := false }, kinds := [], alts := [], laidByText := true, laidKinds := [.data, .data], laidTests := true, laidLooks := .later }
def ChainPlaysCardSaid : Prop := Claim7.holds Tryd.pinned (.plain (OpenSpec.ofChange chainPlaysSpec)) chainPlaysCard

/-- THE TIED CARD OF 'punctuallaw.RedoPlays'. -/
def redoPlaysCard : Claim7 := { stood := { row := redoPlaysRow, standIns := [], harness := (true, "ba38b674174eb5871b60f4af9ed7b79aba7a7202f4670fefe0e2e0e5cb14297b"), looks := false }, kinds := [], alts := [], laidByText := true, laidKinds := [.data], laidTests := true, laidLooks := .later }
def RedoPlaysCardSaid : Prop := Claim7.holds Tryd.pinned (.plain (OpenSpec.ofChange redoPlaysSpec)) redoPlaysCard

/-- THE SECOND FORM's CARD OF 'punctuallaw.NetSends'. -/
def netSendsUptoCard : Claim7 := { stood := { row := netSendsUptoRow, standIns := [], harness := (true, "ba38b674174eb5871b60f4af9ed7b79aba7a7202f4670fefe0e2e0e5cb14297b"), looks := false }, kinds := [], alts := [], laidByText := true, laidKinds := [.data, .data], laidTests := true, laidLooks := .later }
def NetSendsUptoCardSaid : Prop := Claim7.holds Tryd.pinned (.plain (OpenSpec.upto netSendsSpec)) netSendsUptoCard

/-- THE SECOND FORM's CARD OF 'punctuallaw.WindowsPlay'. -/
def windowsPlayUptoCard : Claim7 := { stood := { row := windowsPlayUptoRow, standIns := [], harness := (true, "ba38b674174eb5871b60f4af9ed7b79aba7a7202f4670fefe0e2e0e5cb14297b"), looks := false }, kinds := [], alts := [], laidByText := true, laidKinds := [.data, .data, .data], laidTests := true, laidLooks := .later }
def WindowsPlayUptoCardSaid : Prop := Claim7.holds Tryd.pinned (.plain (OpenSpec.upto windowsPlaySpec)) windowsPlayUptoCard

/-- THE SECOND FORM's CARD OF 'punctuallaw.ModesResponds'. -/
def modesRespondsUptoCard : Claim7 := { stood := { row := modesRespondsUptoRow, standIns := [], harness := (true, "ba38b674174eb5871b60f4af9ed7b79aba7a7202f4670fefe0e2e0e5cb14297b"), looks := false }, kinds := [], alts := [], laidByText := true, laidKinds := [.data], laidTests := true, laidLooks := .later }
def ModesRespondsUptoCardSaid : Prop := Claim7.holds Tryd.pinned (.plain (OpenSpec.upto modesRespondsSpec)) modesRespondsUptoCard

/-- THE SECOND FORM's CARD OF 'punctuallaw.LocksChecks'. -/
def locksChecksUptoCard : Claim7 := { stood := { row := locksChecksUptoRow, standIns := [], harness := (true, "ba38b674174eb5871b60f4af9ed7b79aba7a7202f4670fefe0e2e0e5cb14297b"), looks := false }, kinds := [], alts := [], laidByText := true, laidKinds := [.data], laidTests := true, laidLooks := .later }
def LocksChecksUptoCardSaid : Prop := Claim7.holds Tryd.pinned (.plain (OpenSpec.upto locksChecksSpec)) locksChecksUptoCard

/-- THE SECOND FORM's CARD OF 'punctuallaw.ChainResponds'. -/
def chainRespondsUptoCard : Claim7 := { stood := { row := chainRespondsUptoRow, standIns := [], harness := (true, "ba38b674174eb5871b60f4af9ed7b79aba7a7202f4670fefe0e2e0e5cb14297b"), looks := false }, kinds := [], alts := [], laidByText := true, laidKinds := [.data], laidTests := true, laidLooks := .later }
def ChainRespondsUptoCardSaid : Prop := Claim7.holds Tryd.pinned (.plain (OpenSpec.upto chainRespondsSpec)) chainRespondsUptoCard

/-- THE SECOND FORM's CARD OF 'punctuallaw.ChainPlays'. -/
def chainPlaysUptoCard : Claim7 := { stood := { row := chainPlaysUptoRow, standIns := [], harness := (true, "ba38b674174eb5871b60f4af9ed7b79aba7a7202f4670fefe0e2e0e5cb14297b"), looks := false }, kinds := [], alts := [], laidByText := true, laidKinds := [.data, .data], laidTests := true, laidLooks := .later }
def ChainPlaysUptoCardSaid : Prop := Claim7.holds Tryd.pinned (.plain (OpenSpec.upto chainPlaysSpec)) chainPlaysUptoCard

/-- THE SECOND FORM's CARD OF 'punctuallaw.RedoPlays'. -/
def redoPlaysUptoCard : Claim7 := { stood := { row := redoPlaysUptoRow, standIns := [], harness := (true, "ba38b674174eb5871b60f4af9ed7b79aba7a7202f4670fefe0e2e0e5cb14297b"), looks := false }, kinds := [], alts := [], laidByText := true, laidKinds := [.data], laidTests := true, laidLooks := .later }
def RedoPlaysUptoCardSaid : Prop := Claim7.holds Tryd.pinned (.plain (OpenSpec.upto redoPlaysSpec)) redoPlaysUptoCard
end Rows
end Go.Proofs.YtcogbnkioobmkaaDoor
