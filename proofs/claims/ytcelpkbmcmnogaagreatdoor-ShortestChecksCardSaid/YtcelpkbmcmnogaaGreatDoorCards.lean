/-
  DERIVED. GIVEN WITH THE SEED: THE CARDS: each row of YtcelpkbmcmnogaaGreatDoorRows.lean that lists a variable, with what it lists TIED to the program's text (the seventh form; the later family's looks); each row that meets fmt, with fmt's text TOLD by the authors' own Lean function (tested against real Go, not proved from fmt's source: count such statements apart). THE CARD IS WHAT COUNTS. Prove the row's statement (the work); the ties are given (YtcelpkbmcmnogaaGreatDoorTie.lean); close each card by the builder's one call (the guide's Derived/Test/ToyasCard.lean, 'card_holds'). Laid BY PROGRAM, IN A SANDBOX (cutbox-door.mjs). By AI agents, Wed Nov 11 2026. No macro, syntax, notation, axiom, sorry.
-/
import Derived.Test.YtcelpkbmcmnogaaGreatDoorRows
import GoSem.ClaimSeven
namespace Go.Proofs.YtcelpkbmcmnogaaGreatDoor
namespace Rows

/-- THE TIED CARD OF 'viatorlaw21.ShortestChecks'. -/
def shortestChecksCard : Claim7 := { stood := { row := shortestChecksRow, standIns := [], harness := (true, "5b16435c6d24ff8376df51cb687e11f76b386e20eca111c9da33cbe84e6389dc"), looks := true }, kinds := [], alts := [], laidByText := true, laidKinds := [.data, .pinned], laidTests := true, laidLooks := .later }
def ShortestChecksCardSaid : Prop := Claim7.holds Tryz.pinned (.plain (OpenSpec.ofChange shortestChecksSpec)) shortestChecksCard

/-- THE SECOND FORM's CARD OF 'viatorlaw21.ShortestChecks'. -/
def shortestChecksUptoCard : Claim7 := { stood := { row := shortestChecksUptoRow, standIns := [], harness := (true, "5b16435c6d24ff8376df51cb687e11f76b386e20eca111c9da33cbe84e6389dc"), looks := true }, kinds := [], alts := [], laidByText := true, laidKinds := [.data, .pinned], laidTests := true, laidLooks := .later }
def ShortestChecksUptoCardSaid : Prop := Claim7.holds Tryz.pinned (.plain (OpenSpec.upto shortestChecksSpec)) shortestChecksUptoCard
end Rows
end Go.Proofs.YtcelpkbmcmnogaaGreatDoor
