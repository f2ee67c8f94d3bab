/-
  The law ShortestTriangle holds: for every grid and any three places that come in, the law returns true, and all read behind the call as they read before. The listed package-level variables (unicode/utf8's tables) start as the program's text lays them.
-/
import Derived.Test.YtopfgkbpakfccaaGreatDoorTriW
import Derived.Test.YtopfgkbpakfccaaGreatDoorTriF
set_option linter.unusedSimpArgs false
set_option linter.unusedVariables false
namespace Go.Proofs.YtopfgkbpakfccaaGreatDoor
open Go Go.RowKit Go.Vi
theorem shortestTriangle_holds : Rows.ShortestTriangleCardSaid := cardOver triLaw
#print axioms shortestTriangle_holds
end Go.Proofs.YtopfgkbpakfccaaGreatDoor
