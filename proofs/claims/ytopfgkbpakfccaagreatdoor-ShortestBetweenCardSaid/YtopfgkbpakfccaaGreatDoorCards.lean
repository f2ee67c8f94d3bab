/-
  DERIVED. GIVEN WITH THE SEED: THE CARDS: each row of YtopfgkbpakfccaaGreatDoorRows.lean that lists a variable, with what it lists TIED to the program's text (the seventh form; the later family's looks); each row that meets fmt, with fmt's text TOLD by the authors' own Lean function (tested against real Go, not proved from fmt's source: count such statements apart). THE CARD IS WHAT COUNTS. Prove the row's statement (the work); the ties are given (YtopfgkbpakfccaaGreatDoorTie.lean); close each card by the builder's one call (the guide's Derived/Test/ToyasCard.lean, 'card_holds'). Laid BY PROGRAM, IN A SANDBOX (cutbox-door.mjs). By AI agents, Wed Nov 11 2026. No macro, syntax, notation, axiom, sorry.
-/
import Derived.Test.YtopfgkbpakfccaaGreatDoorRows
import GoSem.ClaimSeven
namespace Go.Proofs.YtopfgkbpakfccaaGreatDoor
namespace Rows

/-- THE TIED CARD OF 'viatorlaw21.ShortestRoutes'. -/
def shortestRoutesCard : Claim7 := { stood := { row := shortestRoutesRow, standIns := [], harness := (true, "3ac3567102209af332ac1e946194643033ac7e7345e06bb640401bf781a8615c"), looks := true }, kinds := [], alts := [], laidByText := true, laidKinds := [.data, .pinned], laidTests := true, laidLooks := .later }
def ShortestRoutesCardSaid : Prop := Claim7.holds Tryz.pinned (.plain (OpenSpec.ofChange shortestRoutesSpec)) shortestRoutesCard

/-- THE TIED CARD OF 'viatorlaw21.ShortestNodes'. -/
def shortestNodesCard : Claim7 := { stood := { row := shortestNodesRow, standIns := [], harness := (true, "3ac3567102209af332ac1e946194643033ac7e7345e06bb640401bf781a8615c"), looks := true }, kinds := [], alts := [], laidByText := true, laidKinds := [.data, .pinned], laidTests := true, laidLooks := .later }
def ShortestNodesCardSaid : Prop := Claim7.holds Tryz.pinned (.plain (OpenSpec.ofChange shortestNodesSpec)) shortestNodesCard

/-- THE TIED CARD OF 'viatorlaw21.ShortestTriangle'. -/
def shortestTriangleCard : Claim7 := { stood := { row := shortestTriangleRow, standIns := [], harness := (true, "3ac3567102209af332ac1e946194643033ac7e7345e06bb640401bf781a8615c"), looks := true }, kinds := [], alts := [], laidByText := true, laidKinds := [.data, .pinned], laidTests := true, laidLooks := .later }
def ShortestTriangleCardSaid : Prop := Claim7.holds Tryz.pinned (.plain (OpenSpec.ofChange shortestTriangleSpec)) shortestTriangleCard

/-- THE TIED CARD OF 'viatorlaw21.ShortestReverses'. -/
def shortestReversesCard : Claim7 := { stood := { row := shortestReversesRow, standIns := [], harness := (true, "3ac3567102209af332ac1e946194643033ac7e7345e06bb640401bf781a8615c"), looks := true }, kinds := [], alts := [], laidByText := true, laidKinds := [.data, .pinned], laidTests := true, laidLooks := .later }
def ShortestReversesCardSaid : Prop := Claim7.holds Tryz.pinned (.plain (OpenSpec.ofChange shortestReversesSpec)) shortestReversesCard

/-- THE TIED CARD OF 'viatorlaw21.ShortestLengths'. -/
def shortestLengthsCard : Claim7 := { stood := { row := shortestLengthsRow, standIns := [], harness := (true, "3ac3567102209af332ac1e946194643033ac7e7345e06bb640401bf781a8615c"), looks := true }, kinds := [], alts := [], laidByText := true, laidKinds := [.data, .pinned], laidTests := true, laidLooks := .later }
def ShortestLengthsCardSaid : Prop := Claim7.holds Tryz.pinned (.plain (OpenSpec.ofChange shortestLengthsSpec)) shortestLengthsCard

/-- THE TIED CARD OF 'viatorlaw21.ShortestCertifies'. -/
def shortestCertifiesCard : Claim7 := { stood := { row := shortestCertifiesRow, standIns := [], harness := (true, "3ac3567102209af332ac1e946194643033ac7e7345e06bb640401bf781a8615c"), looks := true }, kinds := [], alts := [], laidByText := true, laidKinds := [.data, .pinned], laidTests := true, laidLooks := .later }
def ShortestCertifiesCardSaid : Prop := Claim7.holds Tryz.pinned (.plain (OpenSpec.ofChange shortestCertifiesSpec)) shortestCertifiesCard

/-- THE TIED CARD OF 'viatorlaw21.ShortestChanged'. -/
def shortestChangedCard : Claim7 := { stood := { row := shortestChangedRow, standIns := [], harness := (true, "3ac3567102209af332ac1e946194643033ac7e7345e06bb640401bf781a8615c"), looks := true }, kinds := [], alts := [], laidByText := true, laidKinds := [.data, .pinned], laidTests := true, laidLooks := .later }
def ShortestChangedCardSaid : Prop := Claim7.holds Tryz.pinned (.plain (OpenSpec.ofChange shortestChangedSpec)) shortestChangedCard

/-- THE TIED CARD OF 'viatorlaw21.ShortestAlong'. -/
def shortestAlongCard : Claim7 := { stood := { row := shortestAlongRow, standIns := [], harness := (true, "3ac3567102209af332ac1e946194643033ac7e7345e06bb640401bf781a8615c"), looks := true }, kinds := [], alts := [], laidByText := true, laidKinds := [.data, .pinned], laidTests := true, laidLooks := .later }
def ShortestAlongCardSaid : Prop := Claim7.holds Tryz.pinned (.plain (OpenSpec.ofChange shortestAlongSpec)) shortestAlongCard

/-- THE TIED CARD OF 'viatorlaw21.ShortestBetween'. -/
def shortestBetweenCard : Claim7 := { stood := { row := shortestBetweenRow, standIns := [], harness := (true, "3ac3567102209af332ac1e946194643033ac7e7345e06bb640401bf781a8615c"), looks := true }, kinds := [], alts := [], laidByText := true, laidKinds := [.data, .pinned], laidTests := true, laidLooks := .later }
def ShortestBetweenCardSaid : Prop := Claim7.holds Tryz.pinned (.plain (OpenSpec.ofChange shortestBetweenSpec)) shortestBetweenCard

/-- THE TIED CARD OF 'viatorlaw21.ShortestChecks'. -/
def shortestChecksCard : Claim7 := { stood := { row := shortestChecksRow, standIns := [], harness := (true, "3ac3567102209af332ac1e946194643033ac7e7345e06bb640401bf781a8615c"), looks := true }, kinds := [], alts := [], laidByText := true, laidKinds := [.data, .pinned], laidTests := true, laidLooks := .later }
def ShortestChecksCardSaid : Prop := Claim7.holds Tryz.pinned (.plain (OpenSpec.ofChange shortestChecksSpec)) shortestChecksCard

/-- THE TIED CARD OF 'viatorlaw21.ShortestWithin'. -/
def shortestWithinCard : Claim7 := { stood := { row := shortestWithinRow, standIns := [], harness := (true, "3ac3567102209af332ac1e946194643033ac7e7345e06bb640401bf781a8615c"), looks := true }, kinds := [], alts := [], laidByText := true, laidKinds := [.data, .pinned], laidTests := true, laidLooks := .later }
def ShortestWithinCardSaid : Prop := Claim7.holds Tryz.pinned (.plain (OpenSpec.ofChange shortestWithinSpec)) shortestWithinCard

/-- THE SECOND FORM's CARD OF 'viatorlaw21.ShortestRoutes'. -/
def shortestRoutesUptoCard : Claim7 := { stood := { row := shortestRoutesUptoRow, standIns := [], harness := (true, "3ac3567102209af332ac1e946194643033ac7e7345e06bb640401bf781a8615c"), looks := true }, kinds := [], alts := [], laidByText := true, laidKinds := [.data, .pinned], laidTests := true, laidLooks := .later }
def ShortestRoutesUptoCardSaid : Prop := Claim7.holds Tryz.pinned (.plain (OpenSpec.upto shortestRoutesSpec)) shortestRoutesUptoCard

/-- THE SECOND FORM's CARD OF 'viatorlaw21.ShortestNodes'. -/
def shortestNodesUptoCard : Claim7 := { stood := { row := shortestNodesUptoRow, standIns := [], harness := (true, "3ac3567102209af332ac1e946194643033ac7e7345e06bb640401bf781a8615c"), looks := true }, kinds := [], alts := [], laidByText := true, laidKinds := [.data, .pinned], laidTests := true, laidLooks := .later }
def ShortestNodesUptoCardSaid : Prop := Claim7.holds Tryz.pinned (.plain (OpenSpec.upto shortestNodesSpec)) shortestNodesUptoCard

/-- THE SECOND FORM's CARD OF 'viatorlaw21.ShortestTriangle'. -/
def shortestTriangleUptoCard : Claim7 := { stood := { row := shortestTriangleUptoRow, standIns := [], harness := (true, "3ac3567102209af332ac1e946194643033ac7e7345e06bb640401bf781a8615c"), looks := true }, kinds := [], alts := [], laidByText := true, laidKinds := [.data, .pinned], laidTests := true, laidLooks := .later }
def ShortestTriangleUptoCardSaid : Prop := Claim7.holds Tryz.pinned (.plain (OpenSpec.upto shortestTriangleSpec)) shortestTriangleUptoCard

/-- THE SECOND FORM's CARD OF 'viatorlaw21.ShortestReverses'. -/
def shortestReversesUptoCard : Claim7 := { stood := { row := shortestReversesUptoRow, standIns := [], harness := (true, "3ac3567102209af332ac1e946194643033ac7e7345e06bb640401bf781a8615c"), looks := true }, kinds := [], alts := [], laidByText := true, laidKinds := [.data, .pinned], laidTests := true, laidLooks := .later }
def ShortestReversesUptoCardSaid : Prop := Claim7.holds Tryz.pinned (.plain (OpenSpec.upto shortestReversesSpec)) shortestReversesUptoCard

/-- THE SECOND FORM's CARD OF 'viatorlaw21.ShortestLengths'. -/
def shortestLengthsUptoCard : Claim7 := { stood := { row := shortestLengthsUptoRow, standIns := [], harness := (true, "3ac3567102209af332ac1e946194643033ac7e7345e06bb640401bf781a8615c"), looks := true }, kinds := [], alts := [], laidByText := true, laidKinds := [.data, .pinned], laidTests := true, laidLooks := .later }
def ShortestLengthsUptoCardSaid : Prop := Claim7.holds Tryz.pinned (.plain (OpenSpec.upto shortestLengthsSpec)) shortestLengthsUptoCard

/-- THE SECOND FORM's CARD OF 'viatorlaw21.ShortestCertifies'. -/
def shortestCertifiesUptoCard : Claim7 := { stood := { row := shortestCertifiesUptoRow, standIns := [], harness := (true, "3ac3567102209af332ac1e946194643033ac7e7345e06bb640401bf781a8615c"), looks := true }, kinds := [], alts := [], laidByText := true, laidKinds := [.data, .pinned], laidTests := true, laidLooks := .later }
def ShortestCertifiesUptoCardSaid : Prop := Claim7.holds Tryz.pinned (.plain (OpenSpec.upto shortestCertifiesSpec)) shortestCertifiesUptoCard

/-- THE SECOND FORM's CARD OF 'viatorlaw21.ShortestChanged'. -/
def shortestChangedUptoCard : Claim7 := { stood := { row := shortestChangedUptoRow, standIns := [], harness := (true, "3ac3567102209af332ac1e946194643033ac7e7345e06bb640401bf781a8615c"), looks := true }, kinds := [], alts := [], laidByText := true, laidKinds := [.data, .pinned], laidTests := true, laidLooks := .later }
def ShortestChangedUptoCardSaid : Prop := Claim7.holds Tryz.pinned (.plain (OpenSpec.upto shortestChangedSpec)) shortestChangedUptoCard

/-- THE SECOND FORM's CARD OF 'viatorlaw21.ShortestAlong'. -/
def shortestAlongUptoCard : Claim7 := { stood := { row := shortestAlongUptoRow, standIns := [], harness := (true, "3ac3567102209af332ac1e946194643033ac7e7345e06bb640401bf781a8615c"), looks := true }, kinds := [], alts := [], laidByText := true, laidKinds := [.data, .pinned], laidTests := true, laidLooks := .later }
def ShortestAlongUptoCardSaid : Prop := Claim7.holds Tryz.pinned (.plain (OpenSpec.upto shortestAlongSpec)) shortestAlongUptoCard

/-- THE SECOND FORM's CARD OF 'viatorlaw21.ShortestBetween'. -/
def shortestBetweenUptoCard : Claim7 := { stood := { row := shortestBetweenUptoRow, standIns := [], harness := (true, "3ac3567102209af332ac1e946194643033ac7e7345e06bb640401bf781a8615c"), looks := true }, kinds := [], alts := [], laidByText := true, laidKinds := [.data, .pinned], laidTests := true, laidLooks := .later }
def ShortestBetweenUptoCardSaid : Prop := Claim7.holds Tryz.pinned (.plain (OpenSpec.upto shortestBetweenSpec)) shortestBetweenUptoCard

/-- THE SECOND FORM's CARD OF 'viatorlaw21.ShortestChecks'. -/
def shortestChecksUptoCard : Claim7 := { stood := { row := shortestChecksUptoRow, standIns := [], harness := (true, "3ac3567102209af332ac1e946194643033ac7e7345e06bb640401bf781a8615c"), looks := true }, kinds := [], alts := [], laidByText := true, laidKinds := [.data, .pinned], laidTests := true, laidLooks := .later }
def ShortestChecksUptoCardSaid : Prop := Claim7.holds Tryz.pinned (.plain (OpenSpec.upto shortestChecksSpec)) shortestChecksUptoCard

/-- THE SECOND FORM's CARD OF 'viatorlaw21.ShortestWithin'. -/
def shortestWithinUptoCard : Claim7 := { stood := { row := shortestWithinUptoRow, standIns := [], harness := (true, "3ac3567102209af332ac1e946194643033ac7e7345e06bb640401bf781a8615c"), looks := true }, kinds := [], alts := [], laidByText := true, laidKinds := [.data, .pinned], laidTests := true, laidLooks := .later }
def ShortestWithinUptoCardSaid : Prop := Claim7.holds Tryz.pinned (.plain (OpenSpec.upto shortestWithinSpec)) shortestWithinUptoCard
end Rows
end Go.Proofs.YtopfgkbpakfccaaGreatDoor
