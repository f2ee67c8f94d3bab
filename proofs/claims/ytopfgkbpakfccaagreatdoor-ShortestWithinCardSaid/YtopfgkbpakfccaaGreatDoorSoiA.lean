/-
  slices.Sort at ints that the call owns.
-/
import Derived.Test.YtopfgkbpakfccaaGreatDoorSiLay
import Derived.Shelf.Slices.In.SortNone
import Derived.Test.YtopfgkbpakfccaaGreatDoorSrtA
import Derived.Test.YtopfgkbpakfccaaGreatDoorLwF
set_option linter.unusedSimpArgs false
set_option linter.unusedVariables false
namespace Go.Proofs.YtopfgkbpakfccaaGreatDoor
open Go Go.RowKit Go.Vi Go.Sort Go.Shelf
theorem i1_flat (L : List Int) : (L.map i1).flatten = L.map (Value.int .i64) := by
  induction L with
  | nil => rfl
  | cons x L ih => rw [List.map_cons, List.flatten_cons, ih]; rfl
theorem i1_rows (L : List Int) : ∀ r ∈ L.map i1, r.length = 1 := fun r hr => by obtain ⟨x, _, rfl⟩ := List.mem_map.1 hr; rfl
theorem take_put1 (d : Array Int) (cur : Array Value) (h : d.size ≤ cur.size) : (putCells (Value.int .i64) 0 d cur).toList.take d.size = d.toList.map (Value.int .i64) := by
  apply List.ext_getElem?
  intro j
  by_cases hj : j < d.size
  · rw [List.getElem?_take_of_lt hj, Array.getElem?_toList, List.getElem?_map, Array.getElem?_toList]
    simp [putCells, hj, show j < cur.size by omega]
  · rw [List.getElem?_take_eq_none (by omega), List.getElem?_eq_none (by simp; omega)]
theorem grown_sort1 (w : World) (g n : Nat) (d : Array Int) (os : Array Obj) : w.grownBy (grow (putRow (Value.int .i64) (Sort.ahead w n) g 0 d) os) (some g) := by
  refine ⟨rfl, rfl, rfl, by simp [putRow, mapBlock, Sort.ahead], fun j hj hne => ?_⟩
  rw [heap_grow_old _ _ (by simpa [putRow, mapBlock, Sort.ahead] using hj)]
  have : g ≠ j := fun e => hne (by rw [e])
  simp [putRow, mapBlock, Sort.ahead, Array.getElem?_modify, this]
theorem ow_sort1 {B : Nat} {w : World} {e g m cap : Nat} {L : List Int} (h : Ow B w e 1 (.slice (some ⟨g, 0, none⟩) m cap) (L.map i1)) (n : Nat) (d : Array Int) (os : Array Obj) (hd : d.size = L.length) :
    Ow B (grow (putRow (Value.int .i64) (Sort.ahead w n) g 0 d) os) e 1 (.slice (some ⟨g, 0, none⟩) m cap) (d.toList.map i1) := by
  refine ⟨?_, i1_rows _⟩
  refine ⟨flatten_len (i1_rows _), .inr ?_⟩
  rcases h.1.2 with ⟨e0, _⟩ | ⟨g', cap', cur, e0, hb, hg, hn, hm, hs, ht⟩
  · cases e0
  · injection e0 with e1 e2 e3
    injection e1 with e1
    injection e1 with e1
    subst e1; subst e3; subst e2
    have hlt := obj_lt hg
    have hdk : d.size ≤ cur.size := by
      rw [hd, hs]
      simpa using hn
    refine ⟨g, cap, putCells (Value.int .i64) 0 d cur, by simp [hd], hb, ?_, by simpa [hd] using hn, hm, by simpa [putCells] using hs, ?_⟩
    · rw [heap_grow_old _ _ (by simpa [putRow, mapBlock, Sort.ahead] using hlt)]
      simp [putRow, mapBlock, Sort.ahead, Array.getElem?_modify, hg, onCells]
    · have := take_put1 d cur hdk
      rw [i1_flat, ← this]
      simp
theorem sortInts_any (L : List Int) {B e m g cap : Nat} (w : World) (h : Ow B w e 1 (.slice (some ⟨g, 0, none⟩) m cap) (L.map i1)) (hL : L.length < 4611686018427387904) :
    Calls Tryz.prog 85 #[.slice (some ⟨g, 0, none⟩) m cap] w fun e' w' => e' = .returned (.tuple #[]) ∧ Ow B w' e 1 (.slice (some ⟨g, 0, none⟩) m cap) ((L.mergeSort fun x y => decide (x ≤ y)).map i1) ∧ w.grownBy w' (some g) := by
  have hm : m = L.length := by
    rcases h.shape with ⟨h1, _⟩ | ⟨g', cap', h1, _⟩
    · cases h1
    · injection h1 with _ h2 _; simpa using h2
  subst hm
  have hH : Holds (Value.int .i64) w g 0 L.toArray := fun j hj => by
    have hj' : j < L.length := by simpa using hj
    refine ⟨?_, by rw [Nat.zero_add]; exact h.free j⟩
    rw [Nat.zero_add]
    have := h.cell j (by simpa using hj') 0 (by omega)
    simpa [i1, getElem!_pos L j hj'] using this
  have hcon := Any.slices_Sort_int Tryz.sortInts g 0 cap L w hH (h.blk g rfl).2 hL
  change Calls Tryz.prog 85 _ _ _ at hcon
  refine hcon.mono ?_
  rintro e' w' ⟨rfl, n, os, rfl⟩
  refine ⟨rfl, ?_, grown_sort1 _ _ _ _ _⟩
  exact ow_sort1 h n _ os (by simp)
theorem sortInts_ow (L : List Int) {B e : Nat} {v : Value} (w : World) (h : Ow B w e 1 v (L.map i1)) (hL : L.length < 4611686018427387904) :
    Calls Tryz.prog 85 #[v] w fun e' w' => e' = .returned (.tuple #[]) ∧ Ow B w' e 1 v ((L.mergeSort fun x y => decide (x ≤ y)).map i1) ∧ w.grownBy w' v.ownBlock := by
  rcases h.shape with ⟨rfl, h2⟩ | ⟨g, cap, rfl, _⟩
  · have hL0 : L = [] := by simpa using h2
    subst hL0
    have hcon := Any.slices_Sort_int_none Tryz.sortInts none 0 w
    change Calls Tryz.prog 85 _ _ _ at hcon
    refine hcon.mono ?_
    rintro e' w' ⟨rfl, rfl⟩
    exact ⟨rfl, by simpa using h, grown_of (Below.refl _ _)⟩
  · exact sortInts_any L w h hL
end Go.Proofs.YtopfgkbpakfccaaGreatDoor
