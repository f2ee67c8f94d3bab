/-
  The law ShortestWithin holds: for every grid, any id and any length that come in, the law returns true, and all read behind the call as they read before. The listed package-level variables (unicode/utf8's tables) start as the program's text lays them.
-/
import Derived.Test.YtopfgkbpakfccaaGreatDoorWitW
import Derived.Test.YtopfgkbpakfccaaGreatDoorWitF
set_option linter.unusedSimpArgs false
set_option linter.unusedVariables false
namespace Go.Proofs.YtopfgkbpakfccaaGreatDoor
open Go Go.RowKit Go.Vi
theorem shortestWithin_holds : Rows.ShortestWithinCardSaid := cardOver witLaw
#print axioms shortestWithin_holds
end Go.Proofs.YtopfgkbpakfccaaGreatDoor
