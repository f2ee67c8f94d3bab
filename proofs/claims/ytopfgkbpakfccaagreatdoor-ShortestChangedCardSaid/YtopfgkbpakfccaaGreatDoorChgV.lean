/-
  The law ShortestChanged holds: for every grid and every change that come in, the law returns true, and both read behind the call as they read before. The listed package-level variables (unicode/utf8's tables) start as the program's text lays them.
-/
import Derived.Test.YtopfgkbpakfccaaGreatDoorChgW
import Derived.Test.YtopfgkbpakfccaaGreatDoorChgF
set_option linter.unusedSimpArgs false
set_option linter.unusedVariables false
namespace Go.Proofs.YtopfgkbpakfccaaGreatDoor
open Go Go.RowKit Go.Vi
theorem shortestChanged_holds : Rows.ShortestChangedCardSaid := cardOver chgLaw
#print axioms shortestChanged_holds
end Go.Proofs.YtopfgkbpakfccaaGreatDoor
