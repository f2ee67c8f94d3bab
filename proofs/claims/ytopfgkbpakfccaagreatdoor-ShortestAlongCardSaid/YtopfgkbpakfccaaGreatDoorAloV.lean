/-
  The law ShortestAlong holds: for every grid and any two places and any part that come in, the law returns true, and all read behind the call as they read before. The listed package-level variables (unicode/utf8's tables) start as the program's text lays them.
-/
import Derived.Test.YtopfgkbpakfccaaGreatDoorAloW
import Derived.Test.YtopfgkbpakfccaaGreatDoorAloF
set_option linter.unusedSimpArgs false
set_option linter.unusedVariables false
namespace Go.Proofs.YtopfgkbpakfccaaGreatDoor
open Go Go.RowKit Go.Vi
theorem shortestAlong_holds : Rows.ShortestAlongCardSaid := cardOver aloLaw
#print axioms shortestAlong_holds
end Go.Proofs.YtopfgkbpakfccaaGreatDoor
