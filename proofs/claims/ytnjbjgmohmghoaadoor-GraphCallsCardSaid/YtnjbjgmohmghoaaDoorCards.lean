/-
  DERIVED. GIVEN WITH THE SEED: THE CARDS: each row of YtnjbjgmohmghoaaDoorRows.lean that lists a variable, with what it lists TIED to the program's text (the seventh form; the later family's looks); each row that meets fmt, with fmt's text TOLD by the authors' own Lean function (tested against real Go, not proved from fmt's source: count such statements apart). THE CARD IS WHAT COUNTS. Prove the row's statement (the work); the ties are given (YtnjbjgmohmghoaaDoorTie.lean); close each card by the builder's one call (the guide's Derived/Test/ToyasCard.lean, 'card_holds'). Laid BY PROGRAM, IN A SANDBOX (cutbox-door.mjs). By AI agents, Wed Nov 11 2026. No macro, syntax, notation, axiom, sorry.
-/
import Derived.Test.YtnjbjgmohmghoaaDoorRows
import GoSem.ClaimSeven
namespace Go.Proofs.YtnjbjgmohmghoaaDoor
namespace Rows

/-- THE TIED CARD OF 'alibilaw06.GraphReaches'. -/
def graphReachesCard : Claim7 := { stood := { row := graphReachesRow, standIns := [], harness := (true, "10494168f2f43cadc1e4d14d4e3090e89dfbbc461c9a869c1a136516a12c6e6d"), looks := true }, kinds := [], alts := [], laidByText := true, laidKinds := [.data], laidTests := true, laidLooks := .later }
def GraphReachesCardSaid : Prop := Claim7.holds Tryd.pinned (.plain (OpenSpec.ofChange graphReachesSpec)) graphReachesCard

/-- THE TIED CARD OF 'alibilaw06.GraphCalls'. -/
def graphCallsCard : Claim7 := { stood := { row := graphCallsRow, standIns := [], harness := (true, "10494168f2f43cadc1e4d14d4e3090e89dfbbc461c9a869c1a136516a12c6e6d"), looks := true }, kinds := [], alts := [], laidByText := true, laidKinds := [.data], laidTests := true, laidLooks := .later }
def GraphCallsCardSaid : Prop := Claim7.holds Tryd.pinned (.plain (OpenSpec.ofChange graphCallsSpec)) graphCallsCard

/-- THE SECOND FORM's CARD OF 'alibilaw06.GraphReaches'. -/
def graphReachesUptoCard : Claim7 := { stood := { row := graphReachesUptoRow, standIns := [], harness := (true, "10494168f2f43cadc1e4d14d4e3090e89dfbbc461c9a869c1a136516a12c6e6d"), looks := true }, kinds := [], alts := [], laidByText := true, laidKinds := [.data], laidTests := true, laidLooks := .later }
def GraphReachesUptoCardSaid : Prop := Claim7.holds Tryd.pinned (.plain (OpenSpec.upto graphReachesSpec)) graphReachesUptoCard

/-- THE SECOND FORM's CARD OF 'alibilaw06.GraphCalls'. -/
def graphCallsUptoCard : Claim7 := { stood := { row := graphCallsUptoRow, standIns := [], harness := (true, "10494168f2f43cadc1e4d14d4e3090e89dfbbc461c9a869c1a136516a12c6e6d"), looks := true }, kinds := [], alts := [], laidByText := true, laidKinds := [.data], laidTests := true, laidLooks := .later }
def GraphCallsUptoCardSaid : Prop := Claim7.holds Tryd.pinned (.plain (OpenSpec.upto graphCallsSpec)) graphCallsUptoCard
end Rows
end Go.Proofs.YtnjbjgmohmghoaaDoor
