/-
  The law ShortestLengths holds: for every grid and every id that come in, the law returns true, and both read behind the call as they read before. The listed package-level variables (unicode/utf8's tables) start as the program's text lays them.
-/
import Derived.Test.YtopfgkbpakfccaaGreatDoorLenW
import Derived.Test.YtopfgkbpakfccaaGreatDoorLenF
set_option linter.unusedSimpArgs false
set_option linter.unusedVariables false
namespace Go.Proofs.YtopfgkbpakfccaaGreatDoor
open Go Go.RowKit Go.Vi
theorem shortestLengths_holds : Rows.ShortestLengthsCardSaid := cardOver lenLaw
#print axioms shortestLengths_holds
end Go.Proofs.YtopfgkbpakfccaaGreatDoor
