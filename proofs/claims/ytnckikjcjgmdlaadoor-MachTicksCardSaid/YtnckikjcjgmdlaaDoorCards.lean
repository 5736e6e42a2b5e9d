/-
  DERIVED. GIVEN WITH THE SEED: THE CARDS: each row of YtnckikjcjgmdlaaDoorRows.lean that lists a variable, with what it lists TIED to the program's text (the seventh form; the later family's looks); each row that meets fmt, with fmt's text TOLD by the authors' own Lean function (tested against real Go, not proved from fmt's source: count such statements apart). THE CARD IS WHAT COUNTS. Prove the row's statement (the work); the ties are given (YtnckikjcjgmdlaaDoorTie.lean); close each card by the builder's one call (the guide's Derived/Test/ToyasCard.lean, 'card_holds'). Laid BY PROGRAM, IN A SANDBOX (cutbox-door.mjs). By AI agents, Wed Nov 11 2026. No macro, syntax, notation, axiom, sorry.
-/
import Derived.Test.YtnckikjcjgmdlaaDoorRows
import GoSem.ClaimSeven
namespace Go.Proofs.YtnckikjcjgmdlaaDoor
namespace Rows

/-- THE TIED CARD OF 'punctuallaw.MachChecks'. -/
def machChecksCard : Claim7 := { stood := { row := machChecksRow, standIns := [], harness := (true, "87857ce4f2dd38074b68672408abcebd7c250f3b0cbbf6c5be3a163a64a0a6ca"), looks := false }, kinds := [], alts := [], laidByText := true, laidKinds := [.data], laidTests := true, laidLooks := .later }
def MachChecksCardSaid : Prop := Claim7.holds Tryd.pinned (.plain (OpenSpec.ofChange machChecksSpec)) machChecksCard

/-- THE TIED CARD OF 'punctuallaw.WcetProves'. -/
def wcetProvesCard : Claim7 := { stood := { row := wcetProvesRow, standIns := [], harness := (true, "87857ce4f2dd38074b68672408abcebd7c250f3b0cbbf6c5be3a163a64a0a6ca"), looks := false }, kinds := [], alts := [], laidByText := true, laidKinds := [.data], laidTests := true, laidLooks := .later }
def WcetProvesCardSaid : Prop := Claim7.holds Tryd.pinned (.plain (OpenSpec.ofChange wcetProvesSpec)) wcetProvesCard

/-- THE TIED CARD OF 'punctuallaw.WcetTells'. -/
def wcetTellsCard : Claim7 := { stood := { row := wcetTellsRow, standIns := [], harness := (true, "87857ce4f2dd38074b68672408abcebd7c250f3b0cbbf6c5be3a163a64a0a6ca"), looks := false }, kinds := [], alts := [], laidByText := true, laidKinds := [.data], laidTests := true, laidLooks := .later }
def WcetTellsCardSaid : Prop := Claim7.holds Tryd.pinned (.plain (OpenSpec.ofChange wcetTellsSpec)) wcetTellsCard

/-- THE TIED CARD OF 'punctuallaw.MachTicks'. -/
def machTicksCard : Claim7 := { stood := { row := machTicksRow, standIns := [], harness := (true, "87857ce4f2dd38074b68672408abcebd7c250f3b0cbbf6c5be3a163a64a0a6ca"), looks := false }, kinds := [], alts := [], laidByText := true, laidKinds := [.data], laidTests := true, laidLooks := .later }
def MachTicksCardSaid : Prop := Claim7.holds Tryd.pinned (.plain (OpenSpec.ofChange machTicksSpec)) machTicksCard

/-- THE SECOND FORM's CARD OF 'punctuallaw.MachChecks'. -/
def machChecksUptoCard : Claim7 := { stood := { row := machChecksUptoRow, standIns := [], harness := (true, "87857ce4f2dd38074b68672408abcebd7c250f3b0cbbf6c5be3a163a64a0a6ca"), looks := false }, kinds := [], alts := [], laidByText := true, laidKinds := [.data], laidTests := true, laidLooks := .later }
def MachChecksUptoCardSaid : Prop := Claim7.holds Tryd.pinned (.plain (OpenSpec.upto machChecksSpec)) machChecksUptoCard

/-- THE SECOND FORM's CARD OF 'punctuallaw.WcetProves'. -/
def wcetProvesUptoCard : Claim7 := { stood := { row := wcetProvesUptoRow, standIns := [], harness := (true, "87857ce4f2dd38074b68672408abcebd7c250f3b0cbbf6c5be3a163a64a0a6ca"), looks := false }, kinds := [], alts := [], laidByText := true, laidKinds := [.data], laidTests := true, laidLooks := .later }
def WcetProvesUptoCardSaid : Prop := Claim7.holds Tryd.pinned (.plain (OpenSpec.upto wcetProvesSpec)) wcetProvesUptoCard

/-- THE SECOND FORM's CARD OF 'punctuallaw.WcetTells'. -/
def wcetTellsUptoCard : Claim7 := { stood := { row := wcetTellsUptoRow, standIns := [], harness := (true, "87857ce4f2dd38074b68672408abcebd7c250f3b0cbbf6c5be3a163a64a0a6ca"), looks := false }, kinds := [], alts := [], laidByText := true, laidKinds := [.data], laidTests := true, laidLooks := .later }
def WcetTellsUptoCardSaid : Prop := Claim7.holds Tryd.pinned (.plain (OpenSpec.upto wcetTellsSpec)) wcetTellsUptoCard

/-- THE SECOND FORM's CARD OF 'punctuallaw.MachTicks'. -/
def machTicksUptoCard : Claim7 := { stood := { row := machTicksUptoRow, standIns := [], harness := (true, "87857ce4f2dd38074b68672408abcebd7c250f3b0cbbf6c5be3a163a64a0a6ca"), looks := false }, kinds := [], alts := [], laidByText := true, laidKinds := [.data], laidTests := true, laidLooks := .later }
def MachTicksUptoCardSaid : Prop := Claim7.holds Tryd.pinned (.plain (OpenSpec.upto machTicksSpec)) machTicksUptoCard
end Rows
end Go.Proofs.YtnckikjcjgmdlaaDoor
