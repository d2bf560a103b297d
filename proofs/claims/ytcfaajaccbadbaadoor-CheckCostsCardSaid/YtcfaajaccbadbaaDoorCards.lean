/-
  DERIVED. GIVEN WITH THE SEED: THE CARDS: each row of YtcfaajaccbadbaaDoorRows.lean that lists a variable, with what it lists TIED to the program's text (the seventh form; the later family's looks); each row that meets fmt, with fmt's text TOLD by the authors' own Lean function (tested against real Go, not proved from fmt's source: count such statements apart). THE CARD IS WHAT COUNTS. Prove the row's statement (the work); the ties are given (YtcfaajaccbadbaaDoorTie.lean); close each card by the builder's one call (the guide's Derived/Test/ToyasCard.lean, 'card_holds'). Laid BY PROGRAM, IN A SANDBOX (cutbox-door.mjs). By AI agents, Wed Nov 11 2026. No macro, syntax, notation, axiom, sorry.
-/
import Derived.Test.YtcfaajaccbadbaaDoorRows
import GoSem.ClaimSeven
namespace Go.Proofs.YtcfaajaccbadbaaDoor
namespace Rows

/-- THE TIED CARD OF 'lodgelaw18.OrderWeights'. -/
def orderWeightsCard : Claim7 := { stood := { row := orderWeightsRow, standIns := [], harness := (true, "a74a5cac601abc5111c616edfbe1add30818add2b3296bdeb3eb4950253f9565"), looks := true }, kinds := [], alts := [], laidByText := true, laidKinds := [.handle, .sentinel, .sentinel, .sentinel, .sentinel, .sentinel, .sentinel, .sentinel, .sentinel, .sentinel, .sentinel, .sentinel, .sentinel, .sentinel, .sentinel, .sentinel, .sentinel, .sentinel, .sentinel, .sentinel, .sentinel, .sentinel], laidTests := true, laidLooks := .later }
def OrderWeightsCardSaid : Prop := Claim7.holds Tryd.pinned (.plain (OpenSpec.ofChange orderWeightsSpec)) orderWeightsCard

/-- THE TIED CARD OF 'lodgelaw15.CheckApart'. -/
def checkApartCard : Claim7 := { stood := { row := checkApartRow, standIns := [], harness := (true, "a74a5cac601abc5111c616edfbe1add30818add2b3296bdeb3eb4950253f9565"), looks := true }, kinds := [], alts := [], laidByText := true, laidKinds := [.handle, .sentinel, .sentinel, .sentinel, .sentinel, .sentinel, .sentinel, .sentinel, .sentinel, .sentinel, .sentinel, .sentinel, .sentinel, .sentinel, .sentinel, .sentinel, .sentinel, .sentinel, .sentinel, .sentinel, .sentinel, .sentinel], laidTests := true, laidLooks := .later }
def CheckApartCardSaid : Prop := Claim7.holds Tryd.pinned (.plain (OpenSpec.ofChange checkApartSpec)) checkApartCard

/-- THE TIED CARD OF 'lodgelaw15.CheckTurned'. -/
def checkTurnedCard : Claim7 := { stood := { row := checkTurnedRow, standIns := [], harness := (true, "a74a5cac601abc5111c616edfbe1add30818add2b3296bdeb3eb4950253f9565"), looks := true }, kinds := [], alts := [], laidByText := true, laidKinds := [.handle, .sentinel, .sentinel, .sentinel, .sentinel, .sentinel, .sentinel, .sentinel, .sentinel, .sentinel, .sentinel, .sentinel, .sentinel, .sentinel, .sentinel, .sentinel, .sentinel, .sentinel, .sentinel, .sentinel, .sentinel, .sentinel], laidTests := true, laidLooks := .later }
def CheckTurnedCardSaid : Prop := Claim7.holds Tryd.pinned (.plain (OpenSpec.ofChange checkTurnedSpec)) checkTurnedCard

/-- THE TIED CARD OF 'lodgelaw15.CheckBounds'. -/
def checkBoundsCard : Claim7 := { stood := { row := checkBoundsRow, standIns := [], harness := (true, "a74a5cac601abc5111c616edfbe1add30818add2b3296bdeb3eb4950253f9565"), looks := true }, kinds := [], alts := [], laidByText := true, laidKinds := [.handle, .sentinel, .sentinel, .sentinel, .sentinel, .sentinel, .sentinel, .sentinel, .sentinel, .sentinel, .sentinel, .sentinel, .sentinel, .sentinel, .sentinel, .sentinel, .sentinel, .sentinel, .sentinel, .sentinel, .sentinel, .sentinel], laidTests := true, laidLooks := .later }
def CheckBoundsCardSaid : Prop := Claim7.holds Tryd.pinned (.plain (OpenSpec.ofChange checkBoundsSpec)) checkBoundsCard

/-- THE TIED CARD OF 'lodgelaw15.CheckCosts'. -/
def checkCostsCard : Claim7 := { stood := { row := checkCostsRow, standIns := [], harness := (true, "a74a5cac601abc5111c616edfbe1add30818add2b3296bdeb3eb4950253f9565"), looks := true }, kinds := [], alts := [], laidByText := true, laidKinds := [.handle, .sentinel, .sentinel, .sentinel, .sentinel, .sentinel, .sentinel, .sentinel, .sentinel, .sentinel, .sentinel, .sentinel, .sentinel, .sentinel, .sentinel, .sentinel, .sentinel, .sentinel, .sentinel, .sentinel, .sentinel, .sentinel], laidTests := true, laidLooks := .later }
def CheckCostsCardSaid : Prop := Claim7.holds Tryd.pinned (.plain (OpenSpec.ofChange checkCostsSpec)) checkCostsCard

/-- THE SECOND FORM's CARD OF 'lodgelaw18.OrderWeights'. -/
def orderWeightsUptoCard : Claim7 := { stood := { row := orderWeightsUptoRow, standIns := [], harness := (true, "a74a5cac601abc5111c616edfbe1add30818add2b3296bdeb3eb4950253f9565"), looks := true }, kinds := [], alts := [], laidByText := true, laidKinds := [.handle, .sentinel, .sentinel, .sentinel, .sentinel, .sentinel, .sentinel, .sentinel, .sentinel, .sentinel, .sentinel, .sentinel, .sentinel, .sentinel, .sentinel, .sentinel, .sentinel, .sentinel, .sentinel, .sentinel, .sentinel, .sentinel], laidTests := true, laidLooks := .later }
def OrderWeightsUptoCardSaid : Prop := Claim7.holds Tryd.pinned (.plain (OpenSpec.upto orderWeightsSpec)) orderWeightsUptoCard

/-- THE SECOND FORM's CARD OF 'lodgelaw15.CheckApart'. -/
def checkApartUptoCard : Claim7 := { stood := { row := checkApartUptoRow, standIns := [], harness := (true, "a74a5cac601abc5111c616edfbe1add30818add2b3296bdeb3eb4950253f9565"), looks := true }, kinds := [], alts := [], laidByText := true, laidKinds := [.handle, .sentinel, .sentinel, .sentinel, .sentinel, .sentinel, .sentinel, .sentinel, .sentinel, .sentinel, .sentinel, .sentinel, .sentinel, .sentinel, .sentinel, .sentinel, .sentinel, .sentinel, .sentinel, .sentinel, .sentinel, .sentinel], laidTests := true, laidLooks := .later }
def CheckApartUptoCardSaid : Prop := Claim7.holds Tryd.pinned (.plain (OpenSpec.upto checkApartSpec)) checkApartUptoCard

/-- THE SECOND FORM's CARD OF 'lodgelaw15.CheckTurned'. -/
def checkTurnedUptoCard : Claim7 := { stood := { row := checkTurnedUptoRow, standIns := [], harness := (true, "a74a5cac601abc5111c616edfbe1add30818add2b3296bdeb3eb4950253f9565"), looks := true }, kinds := [], alts := [], laidByText := true, laidKinds := [.handle, .sentinel, .sentinel, .sentinel, .sentinel, .sentinel, .sentinel, .sentinel, .sentinel, .sentinel, .sentinel, .sentinel, .sentinel, .sentinel, .sentinel, .sentinel, .sentinel, .sentinel, .sentinel, .sentinel, .sentinel, .sentinel], laidTests := true, laidLooks := .later }
def CheckTurnedUptoCardSaid : Prop := Claim7.holds Tryd.pinned (.plain (OpenSpec.upto checkTurnedSpec)) checkTurnedUptoCard

/-- THE SECOND FORM's CARD OF 'lodgelaw15.CheckBounds'. -/
def checkBoundsUptoCard : Claim7 := { stood := { row := checkBoundsUptoRow, standIns := [], harness := (true, "a74a5cac601abc5111c616edfbe1add30818add2b3296bdeb3eb4950253f9565"), looks := true }, kinds := [], alts := [], laidByText := true, laidKinds := [.handle, .sentinel, .sentinel, .sentinel, .sentinel, .sentinel, .sentinel, .sentinel, .sentinel, .sentinel, .sentinel, .sentinel, .sentinel, .sentinel, .sentinel, .sentinel, .sentinel, .sentinel, .sentinel, .sentinel, .sentinel, .sentinel], laidTests := true, laidLooks := .later }
def CheckBoundsUptoCardSaid : Prop := Claim7.holds Tryd.pinned (.plain (OpenSpec.upto checkBoundsSpec)) checkBoundsUptoCard

/-- THE SECOND FORM's CARD OF 'lodgelaw15.CheckCosts'. -/
def checkCostsUptoCard : Claim7 := { stood := { row := checkCostsUptoRow, standIns := [], harness := (true, "a74a5cac601abc5111c616edfbe1add30818add2b3296bdeb3eb4950253f9565"), looks := true }, kinds := [], alts := [], laidByText := true, laidKinds := [.handle, .sentinel, .sentinel, .sentinel, .sentinel, .sentinel, .sentinel, .sentinel, .sentinel, .sentinel, .sentinel, .sentinel, .sentinel, .sentinel, .sentinel, .sentinel, .sentinel, .sentinel, .sentinel, .sentinel, .sentinel, .sentinel], laidTests := true, laidLooks := .later }
def CheckCostsUptoCardSaid : Prop := Claim7.holds Tryd.pinned (.plain (OpenSpec.upto checkCostsSpec)) checkCostsUptoCard
end Rows
end Go.Proofs.YtcfaajaccbadbaaDoor
