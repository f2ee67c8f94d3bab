/-
  The law SimulateDelivers holds: for every story, size and fates that come in, the law returns true, and they read behind the call as they read before.
-/
import Derived.Test.YthkhgfdjdpfoiaaGreatScnW
import Derived.Test.YthkhgfdjdpfoiaaGreatRgtA
import Derived.Test.YthkhgfdjdpfoiaaGreatLaw3F
set_option linter.unusedSimpArgs false
set_option linter.unusedVariables false
namespace Go.Proofs.YthkhgfdjdpfoiaaGreat
open Go Go.RowKit Go.Vi
theorem scnSays : ScnSays := fun x vp vq vd va w hX hF hs => (scenario_any x vp vq vd va w hX hF hs).mono (by
  rintro e w' ⟨⟨v1, v2, v3, v4, v5, gap, N, R, V, T, C, Y, he, hSR, g1, g2, g3, g4, g5, g6, g7, g8⟩, hb⟩
  exact ⟨⟨v1, v2, v3, v4, v5, V, ⟨⟨N, R⟩, gap, T, C, Y⟩, he, hSR, ⟨g1, g2, g3, g4, g5, g6, g7, g8⟩⟩, hb⟩)
theorem rightSays : RightSays := fun x vp vq vd va hF hs W hX => right_of scnSays x vp vq vd va W hX hF hs
theorem simulateDelivers_holds : Rows.SimulateDeliversSaid := lawOver rightSays
#print axioms simulateDelivers_holds
end Go.Proofs.YthkhgfdjdpfoiaaGreat
