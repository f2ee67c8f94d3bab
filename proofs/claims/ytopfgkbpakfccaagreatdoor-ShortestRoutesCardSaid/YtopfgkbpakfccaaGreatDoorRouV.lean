/-
  The law ShortestRoutes holds: for every grid and any two ids that come in, the law returns true, and all read behind the call as they read before. The listed package-level variables (unicode/utf8's tables) start as the program's text lays them.
-/
import Derived.Test.YtopfgkbpakfccaaGreatDoorRouW
import Derived.Test.YtopfgkbpakfccaaGreatDoorRouF
set_option linter.unusedSimpArgs false
set_option linter.unusedVariables false
namespace Go.Proofs.YtopfgkbpakfccaaGreatDoor
open Go Go.RowKit Go.Vi
theorem shortestRoutes_holds : Rows.ShortestRoutesCardSaid := cardOver rouLaw
#print axioms shortestRoutes_holds
end Go.Proofs.YtopfgkbpakfccaaGreatDoor
