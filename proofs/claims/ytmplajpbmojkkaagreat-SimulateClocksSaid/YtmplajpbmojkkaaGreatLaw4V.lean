/-
  The law SimulateClocks holds: for every story that comes in, the law returns true, and the story reads behind the call as it read before.
-/
import Derived.Test.YtmplajpbmojkkaaGreatScnW
import Derived.Test.YtmplajpbmojkkaaGreatRgtA
import Derived.Test.YtmplajpbmojkkaaGreatLaw4F
set_option linter.unusedSimpArgs false
set_option linter.unusedVariables false
namespace Go.Proofs.YtmplajpbmojkkaaGreat
open Go Go.RowKit Go.Vi
theorem scnSays : ScnSays := fun x vp vq vd va w hX hF hs => (scenario_any x vp vq vd va w hX hF hs).mono (by
  rintro e w' ⟨⟨v1, v2, v3, v4, v5, gap, N, R, V, T, C, Y, he, hSR, g1, g2, g3, g4, g5, g6, g7, g8⟩, hb⟩
  exact ⟨⟨v1, v2, v3, v4, v5, V, ⟨⟨N, R⟩, gap, T, C, Y⟩, he, hSR, ⟨g1, g2, g3, g4, g5, g6, g7, g8⟩⟩, hb⟩)
theorem rightSays : RightSays := fun x vp vq vd va hF hs W hX => right_of scnSays x vp vq vd va W hX hF hs
theorem simulateClocks_holds : Rows.SimulateClocksSaid := lawOver rightSays
#print axioms simulateClocks_holds
end Go.Proofs.YtmplajpbmojkkaaGreat
