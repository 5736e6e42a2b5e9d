/-
  DERIVED. GIVEN WITH THE SEED: THE CARDS: each row of YtchcdadpahakfaaDoorRows.lean that lists a variable, with what it lists TIED to the program's text (the seventh form; the later family's looks); each row that meets fmt, with fmt's text TOLD by the authors' own Lean function (tested against real Go, not proved from fmt's source: count such statements apart). THE CARD IS WHAT COUNTS. Prove the row's statement (the work); the ties are given (YtchcdadpahakfaaDoorTie.lean); close each card by the builder's one call (the guide's Derived/Test/ToyasCard.lean, 'card_holds'). Laid BY PROGRAM, IN A SANDBOX (cutbox-door.mjs). By AI agents, Wed Nov 11 2026. No macro, syntax, notation, axiom, sorry.
-/
import Derived.Test.YtchcdadpahakfaaDoorRows
import GoSem.ClaimSeven
namespace Go.Proofs.YtchcdadpahakfaaDoor
namespace Rows

/-- THE TIED CARD OF 'punctuallaw.ModesResponds'. -/
def modesRespondsCard : Claim7 := { stood := { row := modesRespondsRow, standIns := [], harness := (true, "a7626c795a2ce65d11b017349193d1850bbd3e327600af22a8dc33167805b904"), looks := false }, kinds := [], alts := [], laidByText := true, laidKinds := [.data], laidTests := true, laidLooks := .later }
def ModesRespondsCardSaid : Prop := Claim7.holds Tryd.pinned (.plain (OpenSpec.ofChange modesRespondsSpec)) modesRespondsCard

/-- THE TIED CARD OF 'punctuallaw.ModesPlays'. -/
def modesPlaysCard : Claim7 := { stood := { row := modesPlaysRow, standIns := [], harness := (true, "a7626c795a2ce65d11b017349193d1850bbd3e327600af22a8dc33167805b904"), looks := false }, kinds := [], alts := [], laidByText := true, laidKinds := [.data, .data], laidTests := true, laidLooks := .later }
def ModesPlaysCardSaid : Prop := Claim7.holds Tryd.pinned (.plain (OpenSpec.ofChange modesPlaysSpec)) modesPlaysCard

/-- THE TIED CARD OF 'punctuallaw.ChainResponds'. -/
def chainRespondsCard : Claim7 := { stood := { row := chainRespondsRow, standIns := [], harness := (true, "a7626c795a2ce65d11b017349193d1850bbd3e327600af22a8dc33167805b904"), looks := false }, kinds := [], alts := [], laidByText := true, laidKinds := [.data], laidTests := true, laidLooks := .later }
def ChainRespondsCardSaid : Prop := Claim7.holds Tryd.pinned (.plain (OpenSpec.ofChange chainRespondsSpec)) chainRespondsCard

/-- THE TIED CARD OF 'punctuallaw.ChainPlays'. -/
def chainPlaysCard : Claim7 := { stood := { row := chainPlaysRow, standIns := [], harness := (true, "a7626c795a2ce65d11b017349193d1850bbd3e327600af22a8dc33167805b904"), looks := false }, kinds := [], alts := [], laidByText := true, laidKinds := [.data, .data], laidTests := true, laidLooks := .later }
def ChainPlaysCardSaid : Prop := Claim7.holds Tryd.pinned (.plain (OpenSpec.ofChange chainPlaysSpec)) chainPlaysCard

/-- THE SECOND FORM's CARD OF 'punctuallaw.ModesResponds'. -/
def modesRespondsUptoCard : Claim7 := { stood := { row := modesRespondsUptoRow, standIns := [], harness := (true, "a7626c795a2ce65d11b017349193d1850bbd3e327600af22a8dc33167805b904"), looks := false }, kinds := [], alts := [], laidByText := true, laidKinds := [.data], laidTests := true, laidLooks := .later }
def ModesRespondsUptoCardSaid : Prop := Claim7.holds Tryd.pinned (.plain (OpenSpec.upto modesRespondsSpec)) modesRespondsUptoCard

/-- THE SECOND FORM's CARD OF 'punctuallaw.ModesPlays'. -/
def modesPlaysUptoCard : Claim7 := { stood := { row := modesPlaysUptoRow, standIns := [], harness := (true, "a7626c795a2ce65d11b017349193d1850bbd3e327600af22a8dc33167805b904"), looks := false }, kinds := [], alts := [], laidByText := true, laidKinds := [.data, .data], laidTests := true, laidLooks := .later }
def ModesPlaysUptoCardSaid : Prop := Claim7.holds Tryd.pinned (.plain (OpenSpec.upto modesPlaysSpec)) modesPlaysUptoCard

/-- THE SECOND FORM's CARD OF 'punctuallaw.ChainResponds'. -/
def chainRespondsUptoCard : Claim7 := { stood := { row := chainRespondsUptoRow, standIns := [], harness := (true, "a7626c795a2ce65d11b017349193d1850bbd3e327600af22a8dc33167805b904"), looks := false }, kinds := [], alts := [], laidByText := true, laidKinds := [.data], laidTests := true, laidLooks := .later }
def ChainRespondsUptoCardSaid : Prop := Claim7.holds Tryd.pinned (.plain (OpenSpec.upto chainRespondsSpec)) chainRespondsUptoCard

/-- THE SECOND FORM's CARD OF 'punctuallaw.ChainPlays'. -/
def chainPlaysUptoCard : Claim7 := { stood := { row := chainPlaysUptoRow, standIns := [], harness := (true, "a7626c795a2ce65d11b017349193d1850bbd3e327600af22a8dc33167805b904"), looks := false }, kinds := [], alts := [], laidByText := true, laidKinds := [.data, .data], laidTests := true, laidLooks := .later }
def ChainPlaysUptoCardSaid : Prop := Claim7.holds Tryd.pinned (.plain (OpenSpec.upto chainPlaysSpec)) chainPlaysUptoCard
end Rows
end Go.Proofs.YtchcdadpahakfaaDoor
