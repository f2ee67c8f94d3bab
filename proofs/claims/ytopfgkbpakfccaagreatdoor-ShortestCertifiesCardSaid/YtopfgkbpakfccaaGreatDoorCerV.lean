/-
  The law ShortestCertifies holds: for every grid, every node and every list that come in, the law returns true, and all read behind the call as they read before. The listed package-level variables (unicode/utf8's tables) start as the program's text lays them.
-/
import Derived.Test.YtopfgkbpakfccaaGreatDoorCerW
import Derived.Test.YtopfgkbpakfccaaGreatDoorCerF
set_option linter.unusedSimpArgs false
set_option linter.unusedVariables false
namespace Go.Proofs.YtopfgkbpakfccaaGreatDoor
open Go Go.RowKit Go.Vi
theorem shortestCertifies_holds : Rows.ShortestCertifiesCardSaid := cardOver cerLaw
#print axioms shortestCertifies_holds
end Go.Proofs.YtopfgkbpakfccaaGreatDoor
