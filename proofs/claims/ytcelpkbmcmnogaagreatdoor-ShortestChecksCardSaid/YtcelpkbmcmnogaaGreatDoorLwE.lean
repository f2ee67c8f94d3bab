/-
 The law's lengths, walked.
-/
import Derived.Test.YtcelpkbmcmnogaaGreatDoorLwD
import Derived.Test.YtcelpkbmcmnogaaGreatDoorNetP
import Derived.Test.YtcelpkbmcmnogaaGreatDoorJnkA
import Derived.OwnWalk
import Derived.Laws.OwnMore
import Derived.Deep.DeepCutAuto
import Derived.Deep.CutBlock
set_option linter.unusedSimpArgs false
set_option linter.unusedVariables false
namespace Go.Proofs.YtcelpkbmcmnogaaGreatDoor
open Go Go.RowKit Go.Vi
attribute [local go_sem ↓] lo_lt lo_ne lo_ne'
attribute [local go_sem] junk_cell junk_frozen junk_setCell junk_drew drew_junk
theorem bw_set {W X : World} [h : Bw W X] {g k : Nat} {v : Value} (hg : W.heap.size ≤ g) : Bw W (X.setCell ⟨g, k, none⟩ v) := ⟨h.b.setCell hg v⟩
def idsN (n : Net) : List Int := n.nodes.map Nd.id
theorem idsN_at (n : Net) {k : Nat} (h : k < n.nodes.length) : (idsN n)[k]! = (n.nodes[k]!).id := by
 unfold idsN
 rw [getElem!_pos (n.nodes.map Nd.id) k (by simpa using h), List.getElem_map, getElem!_pos n.nodes k h]
theorem idsN_len (n : Net) : (idsN n).length = n.nodes.length := by simp [idsN]
theorem hop_len (n : Net) (a b : Int) (hl : ∀ r ∈ n.roads, 1 ≤ r.len ∧ r.len ≤ 1073741824) : 0 ≤ (hopN n a b).len ∧ (hopN n a b).len ≤ 1073741824 := by
 have : ∀ (rs : List Rd) (h : Hst), (∀ r ∈ rs, r ∈ n.roads) → (0 ≤ h.len ∧ h.len ≤ 1073741824) → 0 ≤ (rs.foldl (hopS a b) h).len ∧ (rs.foldl (hopS a b) h).len ≤ 1073741824 := by
  intro rs
  induction rs with
  | nil => intro h _ h0; exact h0
  | cons x rs ih =>
   intro h hm h0
   rw [List.foldl_cons]
   refine ih _ (fun r hr => hm r (List.mem_cons_of_mem _ hr)) ?_
   unfold hopS
   split
   ·have := hl x (hm x List.mem_cons_self)
    simp only
    omega
   ·exact h0
 exact this n.roads _ (fun _ h => h) (by decide)
end Go.Proofs.YtcelpkbmcmnogaaGreatDoor
