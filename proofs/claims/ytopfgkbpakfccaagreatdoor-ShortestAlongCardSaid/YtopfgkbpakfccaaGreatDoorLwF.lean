/-
  The law's lengths are the program's.
-/
import Derived.Test.YtopfgkbpakfccaaGreatDoorLwE
import Derived.Test.YtopfgkbpakfccaaGreatDoorLwA
set_option linter.unusedSimpArgs false
set_option linter.unusedVariables false
namespace Go.Proofs.YtopfgkbpakfccaaGreatDoor
open Go Go.RowKit Go.Vi
theorem fin_ex (L : List Hp) : ∃ L', Fin L L' := by
  refine ⟨_, L.mergeSort (fun a b => decide (a.dst < b.dst ∨ (a.dst = b.dst ∧ (a.len < b.len ∨ (a.len = b.len ∧ a.road ≤ b.road))))), List.mergeSort_perm _ _, ?_, rfl⟩
  refine List.Pairwise.imp ?_ (List.pairwise_mergeSort ?_ ?_ L)
  · intro a b h
    simp only [decide_eq_true_eq] at h
    unfold hpLt
    omega
  · intro a b c h1 h2
    simp only [decide_eq_true_eq] at h1 h2 ⊢
    omega
  · intro a b
    simp only [Bool.or_eq_true, decide_eq_true_eq]
    omega
/-- What is left of each node's hops. -/
noncomputable def finA (n : Net) (u : Int) : List Hp := (fin_ex (hopsG n.roads u)).choose
theorem finA_of (n : Net) (u : Int) : Fin (hopsG n.roads u) (finA n u) := (fin_ex (hopsG n.roads u)).choose_spec
theorem node_ids {n : Net} {x : Int} (h : (nodeOf n.nodes x).isSome = true) : x ∈ idsN n := by
  unfold nodeOf at h
  rw [List.find?_isSome] at h
  obtain ⟨y, hy, e⟩ := h
  unfold idsN
  rw [List.mem_map]
  exact ⟨y, hy, by simpa using e⟩
theorem ids_node {n : Net} {x : Int} (h : x ∈ idsN n) : (nodeOf n.nodes x).isSome = true := by
  unfold idsN at h
  obtain ⟨y, hy, e⟩ := List.mem_map.1 h
  unfold nodeOf
  rw [List.find?_isSome]
  exact ⟨y, hy, by simpa using e⟩
theorem hop_ends {n : Net} (hK : NetOK n) {A : Int → List Hp} (hA : ∀ k, Fin (hopsG n.roads k) (A k)) {u : Int} {h : Hp} (hh : h ∈ A u) : u ∈ idsN n ∧ h.dst ∈ idsN n := by
  obtain ⟨r, hr, _, _, h1⟩ := hop_road hA hh
  obtain ⟨_, _, ⟨e1, e2⟩, _⟩ := roadErr_zero (hK.road r hr).2
  rcases h1 with ⟨rfl, h2⟩ | ⟨rfl, h2⟩
  · rw [h2]; exact ⟨node_ids e1, node_ids e2⟩
  · rw [h2]; exact ⟨node_ids e2, node_ids e1⟩
theorem lnN_eq {n : Net} (hK : NetOK n) {ds : Int → Int → Option Int} (hds : DsOf n ds) {s : Int} (hs : (nodeOf n.nodes s).isSome = true) : lnN n s = (lensN n ds s).1 := by
  have hA := finA_of n
  have h := lnL_least (A := finA n) (hp := hpN n) (ids := idsN n) (s := s) (ds := ds s) (fun u h hh => (hK.hop hA u h hh).1) (fun a b l h => by
    unfold hpN at h
    split at h
    · rename_i ho
      obtain ⟨i1, i2⟩ := hopN_fin hK.roads (a := a) (b := b) (hA a)
      obtain ⟨g, hg, e⟩ := i1.1 ho
      injection h with h
      exact ⟨g, hg, e, by rw [← (i2 g hg e).2]; exact h⟩
    · cases h) (fun a h hh => by
    obtain ⟨i1, i2⟩ := hopN_fin hK.roads (a := a) (b := h.dst) (hA a)
    refine ⟨h.len, ?_, Int.le_refl _⟩
    unfold hpN
    rw [if_pos (i1.2 ⟨h, hh, rfl⟩), (i2 h hh rfl).2]) (fun a h hh => (hop_ends hK hA hh).1) (fun x d => hds (finA n) hA s x d)
  unfold lnN
  rw [h]
  unfold lensN
  rw [if_pos hs]
  unfold idsN
  rw [List.map_map]
  rfl
theorem any_node (n : Net) (x : Int) : (nodeOf n.nodes x).isSome = n.nodes.any fun y => y.id == x := by
  unfold nodeOf
  exact List.isSome_find?
theorem idx_some {n : Net} {x : Int} : 0 ≤ idxN n x ↔ (nodeOf n.nodes x).isSome = true := by
  unfold idxN
  rw [idxL_nonneg, ← any_node]
theorem ckLens_no {n : Net} {ds : Int → Int → Option Int} {s : Int} (hs : (nodeOf n.nodes s).isSome = false) (L : List Int) : ckLens n ds s L = 9 := by
  have e : (lensN n ds s).2 = 9 := by unfold lensN; rw [if_neg (by rw [hs]; simp)]
  unfold ckLens
  rw [if_pos (by rw [e]; decide), e]
theorem ckLens_yes {n : Net} {ds : Int → Int → Option Int} {s : Int} (hs : (nodeOf n.nodes s).isSome = true) (L : List Int) : ckLens n ds s L = if L.length ≠ n.nodes.length then 12 else if L = (lensN n ds s).1 then 0 else 30 := by
  unfold ckLens
  have e : (lensN n ds s).2 = 0 := by unfold lensN; rw [if_pos hs]
  have e2 : (lensN n ds s).1.length = n.nodes.length := by unfold lensN; rw [if_pos hs]; simp
  rw [if_neg (by simp [e]), e2]
end Go.Proofs.YtopfgkbpakfccaaGreatDoor
