/-
  DERIVED. GIVEN WITH THE SEED: THE CARDS: each row of YtccfilmiboepjaaDoorRows.lean that lists a variable, with what it lists TIED to the program's text (the seventh form; the later family's looks); each row that meets fmt, with fmt's text TOLD by the authors' own Lean function (tested against real Go, not proved from fmt's source: count such statements apart). THE CARD IS WHAT COUNTS. Prove the row's statement (the work); the ties are given (YtccfilmiboepjaaDoorTie.lean); close each card by the builder's one call (the guide's Derived/Test/ToyasCard.lean, 'card_holds'). Laid BY PROGRAM, IN A SANDBOX (cutbox-door.mjs). By AI agents, Wed Nov 11 2026. No macro, syntax, notation, axiom, sorry.
-/
import Derived.Test.YtccfilmiboepjaaDoorRows
import GoSem.ClaimSeven
namespace Go.Proofs.YtccfilmiboepjaaDoor
namespace Rows

/-- THE TIED CARD OF 'punctuallaw.LocksChecks'. -/
def locksChecksCard : Claim7 := { stood := { row := locksChecksRow, standIns := [], harness := (true, "dd05894b1e03a4a65aedf80a29714db5f463d911d23fd2525aee3e03ab2c8590"), looks := false }, kinds := [], alts := [], laidByText := true, laidKinds := [.data], laidTests := true, laidLooks := .later }
def LocksChecksCardSaid : Prop := Claim7.holds Tryd.pinned (.plain (OpenSpec.ofChange locksChecksSpec)) locksChecksCard

/-- THE TIED CARD OF 'punctuallaw.ModesResponds'. -/
def modesRespondsCard : Claim7 := { stood := { row := modesRespondsRow, standIns := [], harness := (true, "dd05894b1e03a4a65aedf80a29714db5f463d911d23fd2525aee3e03ab2c8590"), looks := false }, kinds := [], alts := [], laidByText := true, laidKinds := [.data], laidTests := true, laidLooks := .later }
def ModesRespondsCardSaid : Prop := Claim7.holds Tryd.pinned (.plain (OpenSpec.ofChange modesRespondsSpec)) modesRespondsCard

/-- THE TIED CARD OF 'punctuallaw.NetTimes'. -/
def netTimesCard : Claim7 := { stood := { row := netTimesRow, standIns := [], harness := (true, "dd05894b1e03a4a65aedf80a29714db5f463d911d23fd2525aee3e03ab2c8590"), looks := false }, kinds := [], alts := [], laidByText := true, laidKinds := [.data], laidTests := true, laidLooks := .later }
def NetTimesCardSaid : Prop := Claim7.holds Tryd.pinned (.plain (OpenSpec.ofChange netTimesSpec)) netTimesCard

/-- THE TIED CARD OF 'punctuallaw.NetSends'. -/
def netSendsCard : Claim7 := { stood := { row := netSendsRow, standIns := [], harness := (true, "dd05894b1e03a4a65aedf80a29714db5f463d911d23fd2525aee3e03ab2c8590"), looks := false }, kinds := [], alts := [], laidByText := true, laidKinds := [.data, .data], laidTests := true, laidLooks := .later }
def NetSendsCardSaid : Prop := Claim7.holds Tryd.pinned (.plain (OpenSpec.ofChange netSendsSpec)) netSendsCard

/-- THE TIED CARD OF 'punctuallaw.RedoResponds'. -/
def redoRespondsCard : Claim7 := { stood := { row := redoRespondsRow, standIns := [], harness := (true, "dd05894b1e03a4a65aedf80a29714db5f463d911d23fd2525aee3e03ab2c8590"), looks := false }, kinds := [], alts := [], laidByText := true, laidKinds := [.data], laidTests := true, laidLooks := .later }
def RedoRespondsCardSaid : Prop := Claim7.holds Tryd.pinned (.plain (OpenSpec.ofChange redoRespondsSpec)) redoRespondsCard

/-- THE TIED CARD OF 'punctuallaw.RedoPlays'. -/
def redoPlaysCard : Claim7 := { stood := { row := redoPlaysRow, standIns := [], harness := (true, "dd05894b1e03a4a65aedf80a29714db5f463d911d23fd2525aee3e03ab2c8590"), looks := false }, kinds := [], alts := [], laidByText := true, laidKinds := [.data], laidTests := true, laidLooks := .later }
def RedoPlaysCardSaid : Prop := Claim7.holds Tryd.pinned (.plain (OpenSpec.ofChange redoPlaysSpec)) redoPlaysCard

/-- THE TIED CARD OF 'punctuallaw.ModesPlays'. -/
def modesPlaysCard : Claim7 := { stood := { row := modesPlaysRow, standIns := [], harness := (true, "dd05894b1e03a4a65aedf80a29714db5f463d911d23fd2525aee3e03ab2c8590"), looks := false }, kinds := [], alts := [], laidByText := true, laidKinds := [.data, .data], laidTests := true, laidLooks := .later }
def ModesPlaysCardSaid : Prop := Claim7.holds Tryd.pinned (.plain (OpenSpec.ofChange modesPlaysSpec)) modesPlaysCard

/-- THE SECOND FORM's CARD OF 'punctuallaw.LocksChecks'. -/
def locksChecksUptoCard : Claim7 := { stood := { row := locksChecksUptoRow, standIns := [], harness := (true, "dd05894b1e03a4a65aedf80a29714db5f463d911d23fd2525aee3e03ab2c8590"), looks := false }, kinds := [], alts := [], laidByText := true, laidKinds := [.data], laidTests := true, laidLooks := .later }
def LocksChecksUptoCardSaid : Prop := Claim7.holds Tryd.pinned (.plain (OpenSpec.upto locksChecksSpec)) locksChecksUptoCard

/-- THE SECOND FORM's CARD OF 'punctuallaw.ModesResponds'. -/
def modesRespondsUptoCard : Claim7 := { stood := { row := modesRespondsUptoRow, standIns := [], harness := (true, "dd05894b1e03a4a65aedf80a29714db5f463d911d23fd2525aee3e03ab2c8590"), looks := false }, kinds := [], alts := [], laidByText := true, laidKinds := [.data], laidTests := true, laidLooks := .later }
def ModesRespondsUptoCardSaid : Prop := Claim7.holds Tryd.pinned (.plain (OpenSpec.upto modesRespondsSpec)) modesRespondsUptoCard

/-- THE SECOND FORM's CARD OF 'punctuallaw.NetTimes'. -/
def netTimesUptoCard : Claim7 := { stood := { row := netTimesUptoRow, standIns := [], harness := (true, "dd05894b1e03a4a65aedf80a29714db5f463d911d23fd2525aee3e03ab2c8590"), looks := false }, kinds := [], alts := [], laidByText := true, laidKinds := [.data], laidTests := true, laidLooks := .later }
def NetTimesUptoCardSaid : Prop := Claim7.holds Tryd.pinned (.plain (OpenSpec.upto netTimesSpec)) netTimesUptoCard

/-- THE SECOND FORM's CARD OF 'punctuallaw.NetSends'. -/
def netSendsUptoCard : Claim7 := { stood := { row := netSendsUptoRow, standIns := [], harness := (true, "dd05894b1e03a4a65aedf80a29714db5f463d911d23fd2525aee3e03ab2c8590"), looks := false }, kinds := [], alts := [], laidByText := true, laidKinds := [.data, .data], laidTests := true, laidLooks := .later }
def NetSendsUptoCardSaid : Prop := Claim7.holds Tryd.pinned (.plain (OpenSpec.upto netSendsSpec)) netSendsUptoCard

/-- THE SECOND FORM's CARD OF 'punctuallaw.RedoResponds'. -/
def redoRespondsUptoCard : Claim7 := { stood := { row := redoRespondsUptoRow, standIns := [], harness := (true, "dd05894b1e03a4a65aedf80a29714db5f463d911d23fd2525aee3e03ab2c8590"), looks := false }, kinds := [], alts := [], laidByText := true, laidKinds := [.data], laidTests := true, laidLooks := .later }
def RedoRespondsUptoCardSaid : Prop := Claim7.holds Tryd.pinned (.plain (OpenSpec.upto redoRespondsSpec)) redoRespondsUptoCard

/-- THE SECOND FORM's CARD OF 'punctuallaw.RedoPlays'. -/
def redoPlaysUptoCard : Claim7 := { stood := { row := redoPlaysUptoRow, standIns := [], harness := (true, "dd05894b1e03a4a65aedf80a29714db5f463d911d23fd2525aee3e03ab2c8590"), looks := false }, kinds := [], alts := [], laidByText := true, laidKinds := [.data], laidTests := true, laidLooks := .later }
def RedoPlaysUptoCardSaid : Prop := Claim7.holds Tryd.pinned (.plain (OpenSpec.upto redoPlaysSpec)) redoPlaysUptoCard

/-- THE SECOND FORM's CARD OF 'punctuallaw.ModesPlays'. -/
def modesPlaysUptoCard : Claim7 := { stood := { row := modesPlaysUptoRow, standIns := [], harness := (true, "dd05894b1e03a4a65aedf80a29714db5f463d911d23fd2525aee3e03ab2c8590"), looks := false }, kinds := [], alts := [], laidByText := true, laidKinds := [.data, .data], laidTests := true, laidLooks := .later }
def ModesPlaysUptoCardSaid : Prop := Claim7.holds Tryd.pinned (.plain (OpenSpec.upto modesPlaysSpec)) modesPlaysUptoCard
end Rows
end Go.Proofs.YtccfilmiboepjaaDoor
