/-
  DERIVED. GIVEN WITH THE SEED: THE CARDS: each row of YtipjbmnfnmlkfaaGreatDoorRows.lean that lists a variable, with what it lists TIED to the program's text (the seventh form; the later family's looks); each row that meets fmt, with fmt's text TOLD by the authors' own Lean function (tested against real Go, not proved from fmt's source: count such statements apart). THE CARD IS WHAT COUNTS. Prove the row's statement (the work); the ties are given (YtipjbmnfnmlkfaaGreatDoorTie.lean); close each card by the builder's one call (the guide's Derived/Test/ToyasCard.lean, 'card_holds'). Laid BY PROGRAM, IN A SANDBOX (cutbox-door.mjs). By AI agents, Wed Nov 11 2026. No macro, syntax, notation, axiom, sorry.
-/
import Derived.Test.YtipjbmnfnmlkfaaGreatDoorRows
import GoSem.ClaimSeven
namespace Go.Proofs.YtipjbmnfnmlkfaaGreatDoor
namespace Rows

/-- THE TIED CARD OF 'alibilaw20.CheckTells'. -/
def checkTellsCard : Claim7 := { stood := { row := checkTellsRow, standIns := [], harness := (true, "db49c2c4c3313caa93da4afa961e333dd2746149499a4db4d38b5ba38ffbe2ad"), looks := true }, kinds := [], alts := [], laidByText := true, laidKinds := [.data], laidTests := true, laidLooks := .later }
def CheckTellsCardSaid : Prop := Claim7.holds Tryz.pinned (.plain (OpenSpec.ofChange checkTellsSpec)) checkTellsCard

/-- THE TIED CARD OF 'alibilaw24.EmitTells'. -/
def emitTellsCard : Claim7 := { stood := { row := emitTellsRow, standIns := [], harness := (true, "db49c2c4c3313caa93da4afa961e333dd2746149499a4db4d38b5ba38ffbe2ad"), looks := true }, kinds := [], alts := [], laidByText := true, laidKinds := [.data, .data], laidTests := true, laidLooks := .later }
def EmitTellsCardSaid : Prop := Claim7.holds Tryz.pinned (.plain (OpenSpec.ofChange emitTellsSpec)) emitTellsCard

/-- THE TIED CARD OF 'alibilaw24.EmitMakes'. -/
def emitMakesCard : Claim7 := { stood := { row := emitMakesRow, standIns := [], harness := (true, "db49c2c4c3313caa93da4afa961e333dd2746149499a4db4d38b5ba38ffbe2ad"), looks := true }, kinds := [], alts := [], laidByText := true, laidKinds := [.data, .data], laidTests := true, laidLooks := .later }
def EmitMakesCardSaid : Prop := Claim7.holds Tryz.pinned (.plain (OpenSpec.ofChange emitMakesSpec)) emitMakesCard

/-- THE TIED CARD OF 'alibilaw24.EmitBest'. -/
def emitBestCard : Claim7 := { stood := { row := emitBestRow, standIns := [], harness := (true, "db49c2c4c3313caa93da4afa961e333dd2746149499a4db4d38b5ba38ffbe2ad"), looks := true }, kinds := [], alts := [], laidByText := true, laidKinds := [.data, .data], laidTests := true, laidLooks := .later }
def EmitBestCardSaid : Prop := Claim7.holds Tryz.pinned (.plain (OpenSpec.ofChange emitBestSpec)) emitBestCard

/-- THE TIED CARD OF 'alibilaw25.ClassAccepted'. -/
def classAcceptedCard : Claim7 := { stood := { row := classAcceptedRow, standIns := [], harness := (true, "db49c2c4c3313caa93da4afa961e333dd2746149499a4db4d38b5ba38ffbe2ad"), looks := true }, kinds := [], alts := [], laidByText := true, laidKinds := [.data, .data], laidTests := true, laidLooks := .later }
def ClassAcceptedCardSaid : Prop := Claim7.holds Tryz.pinned (.plain (OpenSpec.ofChange classAcceptedSpec)) classAcceptedCard

/-- THE TIED CARD OF 'alibilaw24.EmitAccepted'. -/
def emitAcceptedCard : Claim7 := { stood := { row := emitAcceptedRow, standIns := [], harness := (true, "db49c2c4c3313caa93da4afa961e333dd2746149499a4db4d38b5ba38ffbe2ad"), looks := true }, kinds := [], alts := [], laidByText := true, laidKinds := [.data, .data], laidTests := true, laidLooks := .later }
def EmitAcceptedCardSaid : Prop := Claim7.holds Tryz.pinned (.plain (OpenSpec.ofChange emitAcceptedSpec)) emitAcceptedCard

/-- THE TIED CARD OF 'alibilaw24.EmitNone'. -/
def emitNoneCard : Claim7 := { stood := { row := emitNoneRow, standIns := [], harness := (true, "db49c2c4c3313caa93da4afa961e333dd2746149499a4db4d38b5ba38ffbe2ad"), looks := true }, kinds := [], alts := [], laidByText := true, laidKinds := [.data, .data], laidTests := true, laidLooks := .later }
def EmitNoneCardSaid : Prop := Claim7.holds Tryz.pinned (.plain (OpenSpec.ofChange emitNoneSpec)) emitNoneCard

/-- THE TIED CARD OF 'alibilaw25.ClassMade'. -/
def classMadeCard : Claim7 := { stood := { row := classMadeRow, standIns := [], harness := (true, "db49c2c4c3313caa93da4afa961e333dd2746149499a4db4d38b5ba38ffbe2ad"), looks := true }, kinds := [], alts := [], laidByText := true, laidKinds := [.data, .data], laidTests := true, laidLooks := .later }
def ClassMadeCardSaid : Prop := Claim7.holds Tryz.pinned (.plain (OpenSpec.ofChange classMadeSpec)) classMadeCard

/-- THE SECOND FORM's CARD OF 'alibilaw20.CheckTells'. -/
def checkTellsUptoCard : Claim7 := { stood := { row := checkTellsUptoRow, standIns := [], harness := (true, "db49c2c4c3313caa93da4afa961e333dd2746149499a4db4d38b5ba38ffbe2ad"), looks := true }, kinds := [], alts := [], laidByText := true, laidKinds := [.data], laidTests := true, laidLooks := .later }
def CheckTellsUptoCardSaid : Prop := Claim7.holds Tryz.pinned (.plain (OpenSpec.upto checkTellsSpec)) checkTellsUptoCard

/-- THE SECOND FORM's CARD OF 'alibilaw24.EmitTells'. -/
def emitTellsUptoCard : Claim7 := { stood := { row := emitTellsUptoRow, standIns := [], harness := (true, "db49c2c4c3313caa93da4afa961e333dd2746149499a4db4d38b5ba38ffbe2ad"), looks := true }, kinds := [], alts := [], laidByText := true, laidKinds := [.data, .data], laidTests := true, laidLooks := .later }
def EmitTellsUptoCardSaid : Prop := Claim7.holds Tryz.pinned (.plain (OpenSpec.upto emitTellsSpec)) emitTellsUptoCard

/-- THE SECOND FORM's CARD OF 'alibilaw24.EmitMakes'. -/
def emitMakesUptoCard : Claim7 := { stood := { row := emitMakesUptoRow, standIns := [], harness := (true, "db49c2c4c3313caa93da4afa961e333dd2746149499a4db4d38b5ba38ffbe2ad"), looks := true }, kinds := [], alts := [], laidByText := true, laidKinds := [.data, .data], laidTests := true, laidLooks := .later }
def EmitMakesUptoCardSaid : Prop := Claim7.holds Tryz.pinned (.plain (OpenSpec.upto emitMakesSpec)) emitMakesUptoCard

/-- THE SECOND FORM's CARD OF 'alibilaw24.EmitBest'. -/
def emitBestUptoCard : Claim7 := { stood := { row := emitBestUptoRow, standIns := [], harness := (true, "db49c2c4c3313caa93da4afa961e333dd2746149499a4db4d38b5ba38ffbe2ad"), looks := true }, kinds := [], alts := [], laidByText := true, laidKinds := [.data, .data], laidTests := true, laidLooks := .later }
def EmitBestUptoCardSaid : Prop := Claim7.holds Tryz.pinned (.plain (OpenSpec.upto emitBestSpec)) emitBestUptoCard

/-- THE SECOND FORM's CARD OF 'alibilaw25.ClassAccepted'. -/
def classAcceptedUptoCard : Claim7 := { stood := { row := classAcceptedUptoRow, standIns := [], harness := (true, "db49c2c4c3313caa93da4afa961e333dd2746149499a4db4d38b5ba38ffbe2ad"), looks := true }, kinds := [], alts := [], laidByText := true, laidKinds := [.data, .data], laidTests := true, laidLooks := .later }
def ClassAcceptedUptoCardSaid : Prop := Claim7.holds Tryz.pinned (.plain (OpenSpec.upto classAcceptedSpec)) classAcceptedUptoCard

/-- THE SECOND FORM's CARD OF 'alibilaw24.EmitAccepted'. -/
def emitAcceptedUptoCard : Claim7 := { stood := { row := emitAcceptedUptoRow, standIns := [], harness := (true, "db49c2c4c3313caa93da4afa961e333dd2746149499a4db4d38b5ba38ffbe2ad"), looks := true }, kinds := [], alts := [], laidByText := true, laidKinds := [.data, .data], laidTests := true, laidLooks := .later }
def EmitAcceptedUptoCardSaid : Prop := Claim7.holds Tryz.pinned (.plain (OpenSpec.upto emitAcceptedSpec)) emitAcceptedUptoCard

/-- THE SECOND FORM's CARD OF 'alibilaw24.EmitNone'. -/
def emitNoneUptoCard : Claim7 := { stood := { row := emitNoneUptoRow, standIns := [], harness := (true, "db49c2c4c3313caa93da4afa961e333dd2746149499a4db4d38b5ba38ffbe2ad"), looks := true }, kinds := [], alts := [], laidByText := true, laidKinds := [.data, .data], laidTests := true, laidLooks := .later }
def EmitNoneUptoCardSaid : Prop := Claim7.holds Tryz.pinned (.plain (OpenSpec.upto emitNoneSpec)) emitNoneUptoCard

/-- THE SECOND FORM's CARD OF 'alibilaw25.ClassMade'. -/
def classMadeUptoCard : Claim7 := { stood := { row := classMadeUptoRow, standIns := [], harness := (true, "db49c2c4c3313caa93da4afa961e333dd2746149499a4db4d38b5ba38ffbe2ad"), looks := true }, kinds := [], alts := [], laidByText := true, laidKinds := [.data, .data], laidTests := true, laidLooks := .later }
def ClassMadeUptoCardSaid : Prop := Claim7.holds Tryz.pinned (.plain (OpenSpec.upto classMadeSpec)) classMadeUptoCard
end Rows
end Go.Proofs.YtipjbmnfnmlkfaaGreatDoor
