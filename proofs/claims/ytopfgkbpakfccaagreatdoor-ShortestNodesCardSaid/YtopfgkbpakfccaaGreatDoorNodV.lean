/-
  The law ShortestNodes holds: for every grid and any two bytes that come in, the law returns true, and all read behind the call as they read before. The listed package-level variables (unicode/utf8's tables) start as the program's text lays them.
-/
import Derived.Test.YtopfgkbpakfccaaGreatDoorNodW
import Derived.Test.YtopfgkbpakfccaaGreatDoorNodF
set_option linter.unusedSimpArgs false
set_option linter.unusedVariables false
namespace Go.Proofs.YtopfgkbpakfccaaGreatDoor
open Go Go.RowKit Go.Vi
theorem shortestNodes_holds : Rows.ShortestNodesCardSaid := cardOver nodLaw
#print axioms shortestNodes_holds
end Go.Proofs.YtopfgkbpakfccaaGreatDoor
