/-
 The position on a way behind some length, exactly: Along.
-/
import Derived.Test.YtcelpkbmcmnogaaGreatDoorCwA
import Derived.Test.YtcelpkbmcmnogaaGreatDoorPlcM
set_option linter.unusedSimpArgs false
set_option linter.unusedVariables false
namespace Go.Proofs.YtcelpkbmcmnogaaGreatDoor
open Go Go.RowKit Go.Vi
attribute [local go_sem ↓] lo_lt lo_ne lo_ne'
attribute [local go_sem] junk_cell junk_frozen junk_setCell junk_drew drew_junk
theorem lg_cells {B : Nat} {w : World} {a : Option Addr} {n cap : Nat} {L : List Lg} (h : Sl B w 9 (.slice a n cap) (L.map Lg.cs)) (i : Nat) (hi : i < L.length) :
  ∃ b off, a = some ⟨b, off, none⟩ ∧ b < B ∧ w.cell? ⟨b, off + i * 9, none⟩ = some (.int .i64 L[i]!.road) ∧ w.cell? ⟨b, off + i * 9 + 1, none⟩ = some (.bool (zs L[i]!.a.num)) ∧ w.cell? ⟨b, off + i * 9 + 2, none⟩ = some (.string (zx L[i]!.a.num)) ∧ w.cell? ⟨b, off + i * 9 + 3, none⟩ = some (.bool false) ∧ w.cell? ⟨b, off + i * 9 + 4, none⟩ = some (.string (ry L[i]!.a.den)) ∧ w.cell? ⟨b, off + i * 9 + 5, none⟩ = some (.bool (zs L[i]!.b.num)) ∧ w.cell? ⟨b, off + i * 9 + 6, none⟩ = some (.string (zx L[i]!.b.num)) ∧ w.cell? ⟨b, off + i * 9 + 7, none⟩ = some (.bool false) ∧ w.cell? ⟨b, off + i * 9 + 8, none⟩ = some (.string (ry L[i]!.b.den)) := by
 obtain ⟨b, off, h1, h2, h3⟩ := h.cells (cs := Lg.cs) i hi
 exact ⟨b, off, h1, h2, h3 i hi 0 _ rfl, h3 i hi 1 _ rfl, h3 i hi 2 _ rfl, h3 i hi 3 _ rfl, h3 i hi 4 _ rfl, h3 i hi 5 _ rfl, h3 i hi 6 _ rfl, h3 i hi 7 _ rfl, h3 i hi 8 _ rfl⟩
theorem bw_set4 {w V : World} [h : Bw w V] {g : Nat} (hg : w.heap.size ≤ g) (a b c d : Value) : Bw w ((((V.setCell ⟨g, 0, none⟩ a).setCell ⟨g, 1, none⟩ b).setCell ⟨g, 2, none⟩ c).setCell ⟨g, 3, none⟩ d) := by
 haveI := bw_set3 (W := w) (X := V) hg a b c
 exact bw_set hg
theorem obj_set4o {w : World} {b g : Nat} {o : Obj} (h : w.heap[b]? = some o) (hne : b ≠ g) (v0 v1 v2 v3 : Value) : ((((w.setCell ⟨g, 0, none⟩ v0).setCell ⟨g, 1, none⟩ v1).setCell ⟨g, 2, none⟩ v2).setCell ⟨g, 3, none⟩ v3).heap[b]? = some o :=
 obj_setOther (obj_setOther (obj_setOther (obj_setOther h hne) hne) hne) hne
theorem obj_set4' {w : World} {b : Nat} {T : TypeId} {fr : Nat × Nat} {c0 c1 c2 c3 : Value} (h : w.heap[b]? = some (.cells #[c0, c1, c2, c3] T fr)) (v0 v1 v2 v3 : Value) : ((((w.setCell ⟨b, 0, none⟩ v0).setCell ⟨b, 1, none⟩ v1).setCell ⟨b, 2, none⟩ v2).setCell ⟨b, 3, none⟩ v3).heap[b]? = some (.cells #[v0, v1, v2, v3] T fr) := by
 rw [obj_set (obj_set (obj_set (obj_set h)))]
 simp
end Go.Proofs.YtcelpkbmcmnogaaGreatDoor
