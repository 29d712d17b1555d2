/-
  DERIVED. GIVEN WITH THE SEED: THE CARDS: each row of YtdifolgbppffpaaDoorRows.lean that lists a variable, with what it lists TIED to the program's text (the seventh form; the later family's looks); each row that meets fmt, with fmt's text TOLD by the authors' own Lean function (tested against real Go, not proved from fmt's source: count such statements apart). THE CARD IS WHAT COUNTS. Prove the row's statement (the work); the ties are given (YtdifolgbppffpaaDoorTie.lean); close each card by the builder's one call (the guide's Derived/Test/ToyasCard.lean, 'card_holds'). Laid BY PROGRAM, IN A SANDBOX (cutbox-door.mjs). By AI agents, Wed Nov 11 2026. No macro, syntax, notation, axiom, sorry.
-/
import Derived.Test.YtdifolgbppffpaaDoorRows
import GoSem.ClaimSeven
namespace Go.Proofs.YtdifolgbppffpaaDoor
namespace Rows

/-- THE TIED CARD OF 'alibilaw25.ClassNests'. -/
def classNestsCard : Claim7 := { stood := { row := classNestsRow, standIns := [], harness := (true, "66643173b13518cd256b56b1c868a84e449978324f9f46d03d5288f333879d0d"), looks := true }, kinds := [], alts := [], laidByText := true, laidKinds := [.data], laidTests := true, laidLooks := .later }
def ClassNestsCardSaid : Prop := Claim7.holds Tryd.pinned (.plain (OpenSpec.ofChange classNestsSpec)) classNestsCard

/-- THE TIED CARD OF 'alibilaw08.TextParses'. -/
def textParsesCard : Claim7 := { stood := { row := textParsesRow, standIns := [], harness := (true, "66643173b13518cd256b56b1c868a84e449978324f9f46d03d5288f333879d0d"), looks := true }, kinds := [], alts := [], laidByText := true, laidKinds := [.data, .widerDeep, .pinned], laidTests := true, laidLooks := .later }
def TextParsesCardSaid : Prop := Claim7.holds Tryd.pinned (.plain (OpenSpec.ofChange textParsesSpec)) textParsesCard

/-- THE TIED CARD OF 'alibilaw08.TextPlaces'. -/
def textPlacesCard : Claim7 := { stood := { row := textPlacesRow, standIns := [], harness := (true, "66643173b13518cd256b56b1c868a84e449978324f9f46d03d5288f333879d0d"), looks := true }, kinds := [], alts := [], laidByText := true, laidKinds := [.data, .widerDeep, .pinned], laidTests := true, laidLooks := .later }
def TextPlacesCardSaid : Prop := Claim7.holds Tryd.pinned (.plain (OpenSpec.ofChange textPlacesSpec)) textPlacesCard

/-- THE TIED CARD OF 'alibilaw20.CheckLess'. -/
def checkLessCard : Claim7 := { stood := { row := checkLessRow, standIns := [], harness := (true, "66643173b13518cd256b56b1c868a84e449978324f9f46d03d5288f333879d0d"), looks := true }, kinds := [], alts := [], laidByText := true, laidKinds := [.data], laidTests := true, laidLooks := .later }
def CheckLessCardSaid : Prop := Claim7.holds Tryd.pinned (.plain (OpenSpec.ofChange checkLessSpec)) checkLessCard

/-- THE TIED CARD OF 'alibilaw20.CheckFirst'. -/
def checkFirstCard : Claim7 := { stood := { row := checkFirstRow, standIns := [], harness := (true, "66643173b13518cd256b56b1c868a84e449978324f9f46d03d5288f333879d0d"), looks := true }, kinds := [], alts := [], laidByText := true, laidKinds := [.data], laidTests := true, laidLooks := .later }
def CheckFirstCardSaid : Prop := Claim7.holds Tryd.pinned (.plain (OpenSpec.ofChange checkFirstSpec)) checkFirstCard

/-- THE SECOND FORM's CARD OF 'alibilaw25.ClassNests'. -/
def classNestsUptoCard : Claim7 := { stood := { row := classNestsUptoRow, standIns := [], harness := (true, "66643173b13518cd256b56b1c868a84e449978324f9f46d03d5288f333879d0d"), looks := true }, kinds := [], alts := [], laidByText := true, laidKinds := [.data], laidTests := true, laidLooks := .later }
def ClassNestsUptoCardSaid : Prop := Claim7.holds Tryd.pinned (.plain (OpenSpec.upto classNestsSpec)) classNestsUptoCard

/-- THE SECOND FORM's CARD OF 'alibilaw08.TextParses'. -/
def textParsesUptoCard : Claim7 := { stood := { row := textParsesUptoRow, standIns := [], harness := (true, "66643173b13518cd256b56b1c868a84e449978324f9f46d03d5288f333879d0d"), looks := true }, kinds := [], alts := [], laidByText := true, laidKinds := [.data, .widerDeep, .pinned], laidTests := true, laidLooks := .later }
def TextParsesUptoCardSaid : Prop := Claim7.holds Tryd.pinned (.plain (OpenSpec.upto textParsesSpec)) textParsesUptoCard

/-- THE SECOND FORM's CARD OF 'alibilaw08.TextPlaces'. -/
def textPlacesUptoCard : Claim7 := { stood := { row := textPlacesUptoRow, standIns := [], harness := (true, "66643173b13518cd256b56b1c868a84e449978324f9f46d03d5288f333879d0d"), looks := true }, kinds := [], alts := [], laidByText := true, laidKinds := [.data, .widerDeep, .pinned], laidTests := true, laidLooks := .later }
def TextPlacesUptoCardSaid : Prop := Claim7.holds Tryd.pinned (.plain (OpenSpec.upto textPlacesSpec)) textPlacesUptoCard

/-- THE SECOND FORM's CARD OF 'alibilaw20.CheckLess'. -/
def checkLessUptoCard : Claim7 := { stood := { row := checkLessUptoRow, standIns := [], harness := (true, "66643173b13518cd256b56b1c868a84e449978324f9f46d03d5288f333879d0d"), looks := true }, kinds := [], alts := [], laidByText := true, laidKinds := [.data], laidTests := true, laidLooks := .later }
def CheckLessUptoCardSaid : Prop := Claim7.holds Tryd.pinned (.plain (OpenSpec.upto checkLessSpec)) checkLessUptoCard

/-- THE SECOND FORM's CARD OF 'alibilaw20.CheckFirst'. -/
def checkFirstUptoCard : Claim7 := { stood := { row := checkFirstUptoRow, standIns := [], harness := (true, "66643173b13518cd256b56b1c868a84e449978324f9f46d03d5288f333879d0d"), looks := true }, kinds := [], alts := [], laidByText := true, laidKinds := [.data], laidTests := true, laidLooks := .later }
def CheckFirstUptoCardSaid : Prop := Claim7.holds Tryd.pinned (.plain (OpenSpec.upto checkFirstSpec)) checkFirstUptoCard
end Rows
end Go.Proofs.YtdifolgbppffpaaDoor
