/-
  DERIVED. GIVEN WITH THE SEED: THE CARDS: each row of YtigopdlofamhlaaDoorRows.lean that lists a variable, with what it lists TIED to the program's text (the seventh form; the later family's looks); each row that meets fmt, with fmt's text TOLD by the authors' own Lean function (tested against real Go, not proved from fmt's source: count such statements apart). THE CARD IS WHAT COUNTS. Prove the row's statement (the work); the ties are given (YtigopdlofamhlaaDoorTie.lean); close each card by the builder's one call (the guide's Derived/Test/ToyasCard.lean, 'card_holds'). Laid BY PROGRAM, IN A SANDBOX (cutbox-door.mjs). By AI agents, Wed Nov 11 2026. No macro, syntax, notation, axiom, sorry.
-/
import Derived.Test.YtigopdlofamhlaaDoorRows
import GoSem.ClaimSeven
namespace Go.Proofs.YtigopdlofamhlaaDoor
namespace Rows

/-- THE TIED CARD OF 'alibilaw08.TextParses'. -/
def textParsesCard : Claim7 := { stood := { row := textParsesRow, standIns := [], harness := (true, "00be20b34cf211dbd186f80d50860ec7bb35977f62968564e2b4d80714c8e10d"), looks := false }, kinds := [], alts := [], laidByText := true, laidKinds := [.data, .widerDeep, .pinned], laidTests := true, laidLooks := .later }
def TextParsesCardSaid : Prop := Claim7.holds Tryd.pinned (.plain (OpenSpec.ofChange textParsesSpec)) textParsesCard

/-- THE TIED CARD OF 'alibilaw08.TextPlaces'. -/
def textPlacesCard : Claim7 := { stood := { row := textPlacesRow, standIns := [], harness := (true, "00be20b34cf211dbd186f80d50860ec7bb35977f62968564e2b4d80714c8e10d"), looks := false }, kinds := [], alts := [], laidByText := true, laidKinds := [.data, .widerDeep, .pinned], laidTests := true, laidLooks := .later }
def TextPlacesCardSaid : Prop := Claim7.holds Tryd.pinned (.plain (OpenSpec.ofChange textPlacesSpec)) textPlacesCard

/-- THE TIED CARD OF 'alibilaw08.TextPrints'. -/
def textPrintsCard : Claim7 := { stood := { row := textPrintsRow, standIns := [], harness := (true, "00be20b34cf211dbd186f80d50860ec7bb35977f62968564e2b4d80714c8e10d"), looks := false }, kinds := [], alts := [], laidByText := true, laidKinds := [.data, .data, .data, .data, .widerDeep, .pinned], laidTests := true, laidLooks := .later }
def TextPrintsCardSaid : Prop := Claim7.holds Tryd.pinned (.plain (OpenSpec.ofChange textPrintsSpec)) textPrintsCard

/-- THE TIED CARD OF 'alibilaw08.TextBack'. -/
def textBackCard : Claim7 := { stood := { row := textBackRow, standIns := [], harness := (true, "00be20b34cf211dbd186f80d50860ec7bb35977f62968564e2b4d80714c8e10d"), looks := false }, kinds := [], alts := [], laidByText := true, laidKinds := [.data, .data, .data, .data, .widerDeep, .pinned], laidTests := true, laidLooks := .later }
def TextBackCardSaid : Prop := Claim7.holds Tryd.pinned (.plain (OpenSpec.ofChange textBackSpec)) textBackCard

/-- THE TIED CARD OF 'alibilaw08.TextCode'. -/
def textCodeCard : Claim7 := { stood := { row := textCodeRow, standIns := [], harness := (true, "00be20b34cf211dbd186f80d50860ec7bb35977f62968564e2b4d80714c8e10d"), looks := false }, kinds := [], alts := [], laidByText := true, laidKinds := [.data, .data, .data, .data, .widerDeep, .pinned], laidTests := true, laidLooks := .later }
def TextCodeCardSaid : Prop := Claim7.holds Tryd.pinned (.plain (OpenSpec.ofChange textCodeSpec)) textCodeCard

/-- THE SECOND FORM's CARD OF 'alibilaw08.TextParses'. -/
def textParsesUptoCard : Claim7 := { stood := { row := textParsesUptoRow, standIns := [], harness := (true, "00be20b34cf211dbd186f80d50860ec7bb35977f62968564e2b4d80714c8e10d"), looks := false }, kinds := [], alts := [], laidByText := true, laidKinds := [.data, .widerDeep, .pinned], laidTests := true, laidLooks := .later }
def TextParsesUptoCardSaid : Prop := Claim7.holds Tryd.pinned (.plain (OpenSpec.upto textParsesSpec)) textParsesUptoCard

/-- THE SECOND FORM's CARD OF 'alibilaw08.TextPlaces'. -/
def textPlacesUptoCard : Claim7 := { stood := { row := textPlacesUptoRow, standIns := [], harness := (true, "00be20b34cf211dbd186f80d50860ec7bb35977f62968564e2b4d80714c8e10d"), looks := false }, kinds := [], alts := [], laidByText := true, laidKinds := [.data, .widerDeep, .pinned], laidTests := true, laidLooks := .later }
def TextPlacesUptoCardSaid : Prop := Claim7.holds Tryd.pinned (.plain (OpenSpec.upto textPlacesSpec)) textPlacesUptoCard

/-- THE SECOND FORM's CARD OF 'alibilaw08.TextPrints'. -/
def textPrintsUptoCard : Claim7 := { stood := { row := textPrintsUptoRow, standIns := [], harness := (true, "00be20b34cf211dbd186f80d50860ec7bb35977f62968564e2b4d80714c8e10d"), looks := false }, kinds := [], alts := [], laidByText := true, laidKinds := [.data, .data, .data, .data, .widerDeep, .pinned], laidTests := true, laidLooks := .later }
def TextPrintsUptoCardSaid : Prop := Claim7.holds Tryd.pinned (.plain (OpenSpec.upto textPrintsSpec)) textPrintsUptoCard

/-- THE SECOND FORM's CARD OF 'alibilaw08.TextBack'. -/
def textBackUptoCard : Claim7 := { stood := { row := textBackUptoRow, standIns := [], harness := (true, "00be20b34cf211dbd186f80d50860ec7bb35977f62968564e2b4d80714c8e10d"), looks := false }, kinds := [], alts := [], laidByText := true, laidKinds := [.data, .data, .data, .data, .widerDeep, .pinned], laidTests := true, laidLooks := .later }
def TextBackUptoCardSaid : Prop := Claim7.holds Tryd.pinned (.plain (OpenSpec.upto textBackSpec)) textBackUptoCard

/-- THE SECOND FORM's CARD OF 'alibilaw08.TextCode'. -/
def textCodeUptoCard : Claim7 := { stood := { row := textCodeUptoRow, standIns := [], harness := (true, "00be20b34cf211dbd186f80d50860ec7bb35977f62968564e2b4d80714c8e10d"), looks := false }, kinds := [], alts := [], laidByText := true, laidKinds := [.data, .data, .data, .data, .widerDeep, .pinned], laidTests := true, laidLooks := .later }
def TextCodeUptoCardSaid : Prop := Claim7.holds Tryd.pinned (.plain (OpenSpec.upto textCodeSpec)) textCodeUptoCard
end Rows
end Go.Proofs.YtigopdlofamhlaaDoor
