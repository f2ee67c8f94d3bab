/-
  container/heap's Push and Pop over the queue.
-/
import Derived.Test.YthkhgfdjdpfoiaaHeapU
set_option linter.unusedSimpArgs false
set_option linter.unusedVariables false
namespace Go.Vi
open Go
variable {α : Type} [Inhabited α]
theorem heap_append {f : α → Int} {L : List α} (x : α) (h : HeapOK f L) : Rising f (L ++ [x]) L.length := by
  refine ⟨by simp, fun k hk hn he => ?_, fun k hk hn hp _ => ?_⟩
  · simp at hn
    have hkl : k < L.length := by omega
    have hpl : par k < L.length := by unfold par; omega
    rw [getElem!_pos _ _ (by simp; omega), getElem!_pos _ _ (by simp; omega), List.getElem_append_left hkl, List.getElem_append_left hpl, ← getElem!_pos L k hkl, ← getElem!_pos L (par k) hpl]
    exact h k hk hkl (fun e => e)
  · simp at hn
    unfold par at hp
    omega
theorem heap_swapped {f : α → Int} {L : List α} {m : Nat} (h : HeapOK f L) (hm : L.length = m + 1) : Sinking f (swpL L 0 m) m 0 := by
  have h0 : 0 < L.length := by omega
  have h1 : m < L.length := by omega
  refine ⟨by rw [swpL_len]; omega, fun k hk hn he => ?_, fun k _ _ _ h => absurd h (Nat.lt_irrefl _)⟩
  have hp : par k ≠ 0 := he
  have hp2 : par k < k := by unfold par; omega
  rw [swpL_get h0 h1, swpL_get h0 h1, if_neg (by omega), if_neg hp, if_neg (by omega), if_neg (by omega)]
  exact h k hk (by omega) (fun e => e)
theorem heap_popped {f : α → Int} {L M : List α} {m : Nat} (h : HeapOK f L) (hm : L.length = m + 1) (hM : HeapBut f M m fun _ => False) (hp : M.Perm (swpL L 0 m)) (hl : M[m]! = (swpL L 0 m)[m]!) :
    M[m]! = L[0]! ∧ HeapOK f (M.take m) ∧ (L[0]! :: M.take m).Perm L := by
  have h0 : 0 < L.length := by omega
  have h1 : m < L.length := by omega
  have e : M[m]! = L[0]! := by rw [hl, swpL_get h0 h1, if_pos rfl]
  have hML : M.length = m + 1 := by rw [hp.length_eq, swpL_len, hm]
  refine ⟨e, fun k hk hn _ => ?_, ?_⟩
  · rw [List.length_take, Nat.min_eq_left (by omega)] at hn
    have hpk : par k < m := by unfold par; omega
    have q := hM k hk hn (fun e => e)
    have g : ∀ i, i < m → (M.take m)[i]! = M[i]! := fun i hi => by
      rw [getElem!_pos _ _ (by simp; omega), getElem!_pos _ _ (by omega), List.getElem_take]
    rw [g _ hpk, g _ hn]; exact q
  · have hsp : M.take m ++ [M[m]!] = M := by
      have := List.take_succ_eq_append_getElem (l := M) (i := m) (by omega)
      rw [getElem!_pos _ _ (by omega), ← this, List.take_of_length_le (by omega)]
    have p1 : (L[0]! :: M.take m).Perm (M.take m ++ [M[m]!]) := by rw [e]; exact (List.perm_append_singleton _ _).symm
    rw [hsp] at p1
    exact (p1.trans hp).trans (swpL_perm h0 h1)
end Go.Vi
namespace Go.Proofs.Ythkhgfdjdpfoiaa
open Go Go.RowKit Go.Vi
theorem pushAt {w : World} {qb : Nat} (fuel : Nat) : (method (fuel + 1) 167 (.pointer (some ⟨qb, 0, none⟩)) "Push").run Try.prog w = .ok (115, .pointer (some ⟨qb, 0, none⟩)) w := method_ptr uQP mPush
theorem popAt {w : World} {qb : Nat} (fuel : Nat) : (method (fuel + 1) 167 (.pointer (some ⟨qb, 0, none⟩)) "Pop").run Try.prog w = .ok (114, .pointer (some ⟨qb, 0, none⟩)) w := method_ptr uQP mPop
set_option maxRecDepth 100000 in
set_option maxHeartbeats 1000000 in
theorem hpush_any {B g qb n cap : Nat} {L : List Hp} (x : Hp) (w : World) (h : QAt w B qb (.slice (some ⟨g, 0, none⟩) n cap) L) (hn : L.length = n) (hn1 : n ≤ 90000) (hB : B ≤ w.heap.size) (hH : HeapOK Hp.len L) :
    Calls Try.prog 66 #[.iface 167 (.pointer (some ⟨qb, 0, none⟩)), .iface 162 x.v] w fun e w' => e = .returned (.tuple #[]) ∧ ∃ g' cap' L', QAt w' B qb (.slice (some ⟨g', 0, none⟩) (n + 1) cap') L' ∧ L'.Perm (x :: L) ∧ HeapOK Hp.len L' ∧ QF w w' qb (some g) ∧ (g' = g ∨ w.heap.size ≤ g') := by
  have HQ := Lib.hid h
  have HN := Lib.hid hn
  have HH := Lib.hid hH
  have hpa := fun (W : World) fuel => pushAt (w := W) (qb := qb) fuel
  have q1 : ((n + 1 : Nat) : Int) - 1 = (n : Int) := by omega
  have q2 : (n : Int) + 1 - 1 = (n : Int) := by omega
  have q3 : IntKind.i64.wrap (n : Int) = (n : Int) := IntWalk.i64_in _ (by omega)
  clear h hn hH
  go_enter Try.func66, Try.ntmps66
  go_wp2_with (first
    | (go_at_call 115; refine (qpush_any x _ HQ.out HN.out (by omega) hB).mono ?_; rintro e' w1 ⟨rfl, g1, cap1, hQ1, hF1, hg1⟩; have hl := lenAt hQ1; have HQ1 := Lib.hid hQ1; have HF1 := Lib.hid hF1; have HG1 := Lib.hid hg1; clear hQ1 hF1 hg1)
    | (go_at_call 64; refine (qlen_any _ _ _ _).mono ?_; rintro e' w2 ⟨rfl, rfl⟩)
    | (go_at_call 77; refine (up_any n _ HQ1.out (by rw [List.length_append, HN.out]; rfl) (by omega) (by have := heap_append x HH.out; rw [HN.out] at this; exact this)).mono ?_; rintro e' w3 ⟨rfl, L', hQ3, hP3, hH3, hF3⟩; have H3 := Lib.hid (⟨hQ3, hP3, hH3, hF3⟩ : _ ∧ _ ∧ _ ∧ _); clear hQ3 hP3 hH3 hF3))
  go_end0
  obtain ⟨a, b, c, d⟩ := H3.out
  exact ⟨rfl, g1, cap1, L', a, b.trans (List.perm_append_singleton _ _), c, HF1.out.trans d (HG1.out.elim (fun e => .inl (by rw [e])) (fun e => .inr (fun g2 hg2 => by injection hg2 with hg2; omega))), HG1.out⟩
set_option maxRecDepth 100000 in
set_option maxHeartbeats 1000000 in
theorem hpop_any {B g qb n cap : Nat} {L : List Hp} (w : World) (h : QAt w B qb (.slice (some ⟨g, 0, none⟩) (n + 1) cap) L) (hn : L.length = n + 1) (hn1 : n ≤ 90000) (hH : HeapOK Hp.len L) :
    Calls Try.prog 65 #[.iface 167 (.pointer (some ⟨qb, 0, none⟩))] w fun e w' => e = .returned (.iface 162 L[0]!.v) ∧ ∃ L', QAt w' B qb (.slice (some ⟨g, 0, none⟩) n cap) L' ∧ (L[0]! :: L').Perm L ∧ HeapOK Hp.len L' ∧ QF w w' qb (some g) := by
  have HQ := Lib.hid h
  have HN := Lib.hid hn
  have HH := Lib.hid hH
  have hl := lenAt h
  have hs := swapAt h
  have hpa := fun (W : World) fuel => popAt (w := W) (qb := qb) fuel
  have q1 : ((n + 1 : Nat) : Int) - 1 = (n : Int) := by omega
  have q2 : (n : Int) + 1 - 1 = (n : Int) := by omega
  have q3 : IntKind.i64.wrap (n : Int) = (n : Int) := IntWalk.i64_in _ (by omega)
  clear h hn hH
  obtain ⟨y, hy⟩ : ∃ y, y = L[0]! := ⟨_, rfl⟩
  rw [← hy]
  have HY := Lib.hid hy
  clear hy
  go_enter Try.func65, Try.ntmps65
  go_wp2_with (first
    | (go_at_call 64; refine (qlen_any _ _ _ _).mono ?_; rintro e' w2 ⟨rfl, rfl⟩)
    | (go_at_call 116; refine (qswap_any 0 n _ HQ.out.own HN.out (by omega) (by omega) (by omega)).mono ?_; rintro e' w4 ⟨rfl, hO3, hg3⟩; have HQ4 := Lib.hid (HQ.out.swapped hO3 hg3); have HG4 := Lib.hid hg3; clear hO3 hg3)
    | (go_at_call 76; refine (down_any 0 n _ HQ4.out (by rw [swpL_len]; exact HN.out) (by omega) (by omega) (by omega) (heap_swapped HH.out HN.out)).mono ?_; rintro e' w3 ⟨⟨bb, rfl⟩, M, hQ3, hP3, hH3, hT3, hF3⟩; have HQ3 := Lib.hid hQ3; have H3 := Lib.hid (⟨hP3, hH3, hT3, hF3⟩ : _ ∧ _ ∧ _ ∧ _); clear hQ3 hP3 hH3 hT3 hF3)
    | (go_at_call 114; refine (qpop_any _ HQ3.out (by rw [H3.out.1.length_eq, swpL_len]; exact HN.out) (by omega) (by omega)).mono ?_; rintro e' w5 ⟨he, hQ5, hF5⟩; have hpp := heap_popped HH.out HN.out H3.out.2.1 H3.out.1 (H3.out.2.2.1 n (Nat.le_refl _) (Nat.lt_succ_self _)); rw [Nat.add_sub_cancel, hpp.1, ← HY.out] at he; subst he; have HPP := Lib.hid hpp; clear hpp; have HQ5 := Lib.hid hQ5; have HF5 := Lib.hid hF5; clear hQ5 hF5))
  go_ret
  obtain ⟨a, b, c, d⟩ := H3.out
  obtain ⟨e1, e2, e3⟩ := HPP.out
  simp only [Nat.add_sub_cancel] at HQ5
  rw [← HY.out] at e3
  exact ⟨rfl, M.take n, HQ5.out, e3, e2, ((QF.of_grown HG4.out qb).trans d (.inl rfl)).trans HF5.out (.inl rfl)⟩
end Go.Proofs.Ythkhgfdjdpfoiaa
