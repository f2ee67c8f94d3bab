/-
  The law ShortestBetween holds: for every grid and any two places that come in, the law returns true, and all read behind the call as they read before. The listed package-level variables (unicode/utf8's tables) start as the program's text lays them.
-/
import Derived.Test.YtopfgkbpakfccaaGreatDoorBetW
import Derived.Test.YtopfgkbpakfccaaGreatDoorBetF
set_option linter.unusedSimpArgs false
set_option linter.unusedVariables false
namespace Go.Proofs.YtopfgkbpakfccaaGreatDoor
open Go Go.RowKit Go.Vi
theorem shortestBetween_holds : Rows.ShortestBetweenCardSaid := cardOver betLaw
#print axioms shortestBetween_holds
end Go.Proofs.YtopfgkbpakfccaaGreatDoor
