/-
  DERIVED. GIVEN WITH THE SEED: THE CARDS: each row of YtipjbmnfnmlkfaaDoorRows.lean that lists a variable, with what it lists TIED to the program's text (the seventh form; the later family's looks); each row that meets fmt, with fmt's text TOLD by the authors' own Lean function (tested against real Go, not proved from fmt's source: count such statements apart). THE CARD IS WHAT COUNTS. Prove the row's statement (the work); the ties are given (YtipjbmnfnmlkfaaDoorTie.lean); close each card by the builder's one call (the guide's Derived/Test/ToyasCard.lean, 'card_holds'). Laid BY PROGRAM, IN A SANDBOX (cutbox-door.mjs). By AI agents, Wed Nov 11 2026. No macro, syntax, notation, axiom, sorry.
-/
import Derived.Test.YtipjbmnfnmlkfaaDoorRows
import GoSem.ClaimSeven
namespace Go.Proofs.YtipjbmnfnmlkfaaDoor
namespace Rows

/-- THE TIED CARD OF 'alibilaw20.CheckLess'. -/
def checkLessCard : Claim7 := { stood := { row := checkLessRow, standIns := [], harness := (true, "747e508ece33e2e961a149dc3c6538bf1b3fa6b8823e57eaf4eccda346e2bf5a"), looks := true }, kinds := [], alts := [], laidByText := true, laidKinds := [.data], laidTests := true, laidLooks := .later }
def CheckLessCardSaid : Prop := Claim7.holds Tryd.pinned (.plain (OpenSpec.ofChange checkLessSpec)) checkLessCard

/-- THE TIED CARD OF 'alibilaw20.CheckFirst'. -/
def checkFirstCard : Claim7 := { stood := { row := checkFirstRow, standIns := [], harness := (true, "747e508ece33e2e961a149dc3c6538bf1b3fa6b8823e57eaf4eccda346e2bf5a"), looks := true }, kinds := [], alts := [], laidByText := true, laidKinds := [.data], laidTests := true, laidLooks := .later }
def CheckFirstCardSaid : Prop := Claim7.holds Tryd.pinned (.plain (OpenSpec.ofChange checkFirstSpec)) checkFirstCard

/-- THE TIED CARD OF 'alibilaw25.ClassBuilds'. -/
def classBuildsCard : Claim7 := { stood := { row := classBuildsRow, standIns := [], harness := (true, "747e508ece33e2e961a149dc3c6538bf1b3fa6b8823e57eaf4eccda346e2bf5a"), looks := true }, kinds := [], alts := [], laidByText := true, laidKinds := [.data, .data], laidTests := true, laidLooks := .later }
def ClassBuildsCardSaid : Prop := Claim7.holds Tryd.pinned (.plain (OpenSpec.ofChange classBuildsSpec)) classBuildsCard

/-- THE TIED CARD OF 'alibilaw25.ClassHas'. -/
def classHasCard : Claim7 := { stood := { row := classHasRow, standIns := [], harness := (true, "747e508ece33e2e961a149dc3c6538bf1b3fa6b8823e57eaf4eccda346e2bf5a"), looks := true }, kinds := [], alts := [], laidByText := true, laidKinds := [.data, .data], laidTests := true, laidLooks := .later }
def ClassHasCardSaid : Prop := Claim7.holds Tryd.pinned (.plain (OpenSpec.ofChange classHasSpec)) classHasCard

/-- THE SECOND FORM's CARD OF 'alibilaw20.CheckLess'. -/
def checkLessUptoCard : Claim7 := { stood := { row := checkLessUptoRow, standIns := [], harness := (true, "747e508ece33e2e961a149dc3c6538bf1b3fa6b8823e57eaf4eccda346e2bf5a"), looks := true }, kinds := [], alts := [], laidByText := true, laidKinds := [.data], laidTests := true, laidLooks := .later }
def CheckLessUptoCardSaid : Prop := Claim7.holds Tryd.pinned (.plain (OpenSpec.upto checkLessSpec)) checkLessUptoCard

/-- THE SECOND FORM's CARD OF 'alibilaw20.CheckFirst'. -/
def checkFirstUptoCard : Claim7 := { stood := { row := checkFirstUptoRow, standIns := [], harness := (true, "747e508ece33e2e961a149dc3c6538bf1b3fa6b8823e57eaf4eccda346e2bf5a"), looks := true }, kinds := [], alts := [], laidByText := true, laidKinds := [.data], laidTests := true, laidLooks := .later }
def CheckFirstUptoCardSaid : Prop := Claim7.holds Tryd.pinned (.plain (OpenSpec.upto checkFirstSpec)) checkFirstUptoCard

/-- THE SECOND FORM's CARD OF 'alibilaw25.ClassBuilds'. -/
def classBuildsUptoCard : Claim7 := { stood := { row := classBuildsUptoRow, standIns := [], harness := (true, "747e508ece33e2e961a149dc3c6538bf1b3fa6b8823e57eaf4eccda346e2bf5a"), looks := true }, kinds := [], alts := [], laidByText := true, laidKinds := [.data, .data], laidTests := true, laidLooks := .later }
def ClassBuildsUptoCardSaid : Prop := Claim7.holds Tryd.pinned (.plain (OpenSpec.upto classBuildsSpec)) classBuildsUptoCard

/-- THE SECOND FORM's CARD OF 'alibilaw25.ClassHas'. -/
def classHasUptoCard : Claim7 := { stood := { row := classHasUptoRow, standIns := [], harness := (true, "747e508ece33e2e961a149dc3c6538bf1b3fa6b8823e57eaf4eccda346e2bf5a"), looks := true }, kinds := [], alts := [], laidByText := true, laidKinds := [.data, .data], laidTests := true, laidLooks := .later }
def ClassHasUptoCardSaid : Prop := Claim7.holds Tryd.pinned (.plain (OpenSpec.upto classHasSpec)) classHasUptoCard
end Rows
end Go.Proofs.YtipjbmnfnmlkfaaDoor
