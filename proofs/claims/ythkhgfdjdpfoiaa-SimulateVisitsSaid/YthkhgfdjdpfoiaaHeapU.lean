/-
  container/heap's up, down, Push, Pop over the queue.
-/
import Derived.Test.YthkhgfdjdpfoiaaP04
set_option linter.unusedSimpArgs false
set_option linter.unusedVariables false
namespace Go.Proofs.Ythkhgfdjdpfoiaa
open Go Go.RowKit Go.Vi
theorem aggQue (w : World) : (isAgg 168).run Try.prog w = .ok false w := by kernel_rfl
theorem loadQ {qb : Nat} {w : World} {v : Value} (h : w.cell? ⟨qb, 0, none⟩ = some v) : (loadVar 168 ⟨qb, 0, none⟩).run Try.prog w = .ok v w := by
  simp [loadVar, aggQue, go_sem, h]
theorem QAt.cell {w : World} {B qb : Nat} {v : Value} {L : List Hp} (h : QAt w B qb v L) : w.cell? ⟨qb, 0, none⟩ = some v := by
  have := obj_cell h.var 0; simpa using this
theorem QAt.keep {w w' : World} {B qb : Nat} {v : Value} {L : List Hp} (h : QAt w B qb v L) (hb : Below w.heap.size w w') : QAt w' B qb v L := ⟨keepObj hb h.var, h.own.keep hb⟩
/-- What the walk asks ahead of and at a call of a method of the queue. -/
theorem lessAt {w : World} {B qb : Nat} {v : Value} {L : List Hp} (h : QAt w B qb v L) (fuel : Nat) : (method (fuel + 1) 167 (.pointer (some ⟨qb, 0, none⟩)) "Less").run Try.prog w = .ok (113, v) w := method_val uQP mLess (loadQ h.cell)
theorem swapAt {w : World} {B qb : Nat} {v : Value} {L : List Hp} (h : QAt w B qb v L) (fuel : Nat) : (method (fuel + 1) 167 (.pointer (some ⟨qb, 0, none⟩)) "Swap").run Try.prog w = .ok (116, v) w := method_val uQP mSwap (loadQ h.cell)
theorem lenAt {w : World} {B qb : Nat} {v : Value} {L : List Hp} (h : QAt w B qb v L) (fuel : Nat) : (method (fuel + 1) 167 (.pointer (some ⟨qb, 0, none⟩)) "Len").run Try.prog w = .ok (64, v) w := method_val uQP mLen (loadQ h.cell)
theorem QAt.swapped {w w' : World} {B qb g n cap : Nat} {M : List Hp} {i k : Nat} (h : QAt w B qb (.slice (some ⟨g, 0, none⟩) n cap) M) (hO : Ow B w' 162 3 (.slice (some ⟨g, 0, none⟩) n cap) ((swpL M i k).map Hp.cs)) (hg : w.grownBy w' (some g)) : QAt w' B qb (.slice (some ⟨g, 0, none⟩) n cap) (swpL M i k) :=
  ⟨by rw [hg.block qb (obj_lt h.var) (fun e => h.apart (by injection e with e; exact e.symm))]; exact h.var, hO⟩
theorem par_quo {j : Nat} (h : 0 < j) : ((j : Int) - 1) / 2 = (par j : Int) := by unfold par; omega
set_option maxRecDepth 100000 in
set_option maxHeartbeats 1000000 in
theorem up_any {B g qb n cap : Nat} {L : List Hp} (j : Nat) (w : World) (h : QAt w B qb (.slice (some ⟨g, 0, none⟩) n cap) L) (hn : L.length = n) (hn1 : n ≤ 100000) (hR : Rising Hp.len L j) :
    Calls Try.prog 77 #[.iface 167 (.pointer (some ⟨qb, 0, none⟩)), .int .i64 j] w fun e w' => e = .returned (.tuple #[]) ∧ ∃ L', QAt w' B qb (.slice (some ⟨g, 0, none⟩) n cap) L' ∧ L'.Perm L ∧ HeapOK Hp.len L' ∧ QF w w' qb (some g) := by
  have HQ := Lib.hid h
  have HN := Lib.hid hn
  have HR := Lib.hid hR
  clear h hn hR
  go_enter Try.func77, Try.ntmps77
  go_wp2_with fail
  go_loopw [1] (fun s1 wr => ∃ (k : Nat) (M : List Hp), s1 = .int .i64 k ∧ Hid (QAt wr B qb (.slice (some ⟨g, 0, none⟩) n cap) M) ∧ Hid (M.Perm L) ∧ Hid (Rising Hp.len M k) ∧ Hid (QF w wr qb (some g))) (fun s1 _ => (intOf s1).toNat)
  case atStart => exact ⟨j, L, rfl, HQ.out, List.Perm.refl _, HR.out, QF.refl _ _ _⟩
  case round =>
    obtain ⟨k, M, rfl, hQ, hP, hR, hF⟩ := hrel
    have hMn : M.length = n := by rw [hP.out.length_eq]; exact HN.out
    have hkn : k < n := by have := hR.out.1; omega
    rcases Nat.eq_zero_or_pos k with rfl | hk
    · go_wp2_with fail
      go_end0
      exact ⟨rfl, M, hQ.out, hP.out, rising_done hR.out (.inl rfl), hF.out⟩
    · have q1 := par_quo hk
      have hpk : par k < k := by unfold par; omega
      have hne : (((par k : Nat) : Int) == (k : Int)) = false := by simpa using (by omega : ¬((par k : Nat) : Int) = (k : Int))
      have hl := lessAt hQ.out
      have HMN := Lib.hid hMn
      clear hMn
      by_cases hlt : M[k]!.len < M[par k]!.len
      · have hd : decide (M[k]!.len < M[par k]!.len) = true := by simpa using hlt
        have HLT := Lib.hid hlt
        clear hlt
        go_wp2_with (first
          | (go_at_call 113; refine (qless_any k (par k) _ hQ.out.own HMN.out hn1 hkn (by omega)).mono ?_; rintro e' w2 ⟨rfl, z, rfl⟩; rw [hd]; have hQ2 := hQ.out.keep (w' := wr.drewN z) (by (repeat (first | with_reducible exact Below.refl _ _ | with_reducible assumption | ((with_reducible refine Below.setCell ?_ ?_ _); rotate_left; focus (first | exact Nat.le_refl _ | omega | exact Below.size (by assumption) | (simp; done) | (simp; omega))) | ((with_reducible refine Below.alloc ?_ ?_ _); rotate_left; focus (first | exact Nat.le_refl _ | omega | exact Below.size (by assumption) | (simp; done) | (simp; omega))) | (with_reducible refine Below.drew ?_) | (with_reducible refine drewN_ ?_ _)))); have hs := swapAt hQ2; have HQ2 := Lib.hid hQ2; clear hQ2)
          | (go_at_call 116; refine (qswap_any (par k) k _ HQ2.out.own HMN.out hn1 (by omega) hkn).mono ?_; rintro e' w3 ⟨rfl, hO3, hg3⟩; have HQ3 := Lib.hid (HQ2.out.swapped hO3 hg3); have HG3 := Lib.hid hg3; clear hO3 hg3))
        go_roundw
        case rel =>
          have hkM : k < M.length := by rw [HMN.out]; exact hkn
          exact ⟨par k, _, rfl, HQ3.out, (swpL_perm (by omega) hkM).trans hP.out, rising_step hR.out hk HLT.out, (hF.out.trans (below_qf (w := wr) (w' := wr.drewN z) (by (repeat (first | with_reducible exact Below.refl _ _ | with_reducible assumption | ((with_reducible refine Below.setCell ?_ ?_ _); rotate_left; focus (first | exact Nat.le_refl _ | omega | exact Below.size (by assumption) | (simp; done) | (simp; omega))) | ((with_reducible refine Below.alloc ?_ ?_ _); rotate_left; focus (first | exact Nat.le_refl _ | omega | exact Below.size (by assumption) | (simp; done) | (simp; omega))) | (with_reducible refine Below.drew ?_) | (with_reducible refine drewN_ ?_ _)))) qb (some g)) (.inl rfl)).trans (QF.of_grown HG3.out qb) (.inl rfl)⟩
        case measure => simp [intOf]; omega
      · have hd : decide (M[k]!.len < M[par k]!.len) = false := by simpa using hlt
        have HLT := Lib.hid hlt
        clear hlt
        go_wp2_with (first
          | (go_at_call 113; refine (qless_any k (par k) _ hQ.out.own HMN.out hn1 hkn (by omega)).mono ?_; rintro e' w2 ⟨rfl, z, rfl⟩; rw [hd]))
        go_end0
        exact ⟨rfl, M, hQ.out.keep (by (repeat (first | with_reducible exact Below.refl _ _ | with_reducible assumption | ((with_reducible refine Below.setCell ?_ ?_ _); rotate_left; focus (first | exact Nat.le_refl _ | omega | exact Below.size (by assumption) | (simp; done) | (simp; omega))) | ((with_reducible refine Below.alloc ?_ ?_ _); rotate_left; focus (first | exact Nat.le_refl _ | omega | exact Below.size (by assumption) | (simp; done) | (simp; omega))) | (with_reducible refine Below.drew ?_) | (with_reducible refine drewN_ ?_ _)))), hP.out, rising_done hR.out (.inr (by have := HLT.out; omega)), hF.out.trans (below_qf (w := wr) (w' := wr.drewN z) (by (repeat (first | with_reducible exact Below.refl _ _ | with_reducible assumption | ((with_reducible refine Below.setCell ?_ ?_ _); rotate_left; focus (first | exact Nat.le_refl _ | omega | exact Below.size (by assumption) | (simp; done) | (simp; omega))) | ((with_reducible refine Below.alloc ?_ ?_ _); rotate_left; focus (first | exact Nat.le_refl _ | omega | exact Below.size (by assumption) | (simp; done) | (simp; omega))) | (with_reducible refine Below.drew ?_) | (with_reducible refine drewN_ ?_ _)))) qb (some g)) (.inl rfl)⟩
set_option maxRecDepth 100000 in
set_option maxHeartbeats 2000000 in
theorem down_any {B g qb n cap : Nat} {L : List Hp} (i0 m : Nat) (w : World) (h : QAt w B qb (.slice (some ⟨g, 0, none⟩) n cap) L) (hn : L.length = n) (hn1 : n ≤ 100000) (hm : m ≤ n) (hi0 : i0 ≤ 100000) (hR : Sinking Hp.len L m i0) :
    Calls Try.prog 76 #[.iface 167 (.pointer (some ⟨qb, 0, none⟩)), .int .i64 i0, .int .i64 m] w fun e w' => (∃ b, e = .returned (.bool b)) ∧ ∃ L', QAt w' B qb (.slice (some ⟨g, 0, none⟩) n cap) L' ∧ L'.Perm L ∧ HeapBut Hp.len L' m (fun _ => False) ∧ (∀ k, m ≤ k → k < n → L'[k]! = L[k]!) ∧ QF w w' qb (some g) := by
  have HQ := Lib.hid h
  have HN := Lib.hid hn
  have HR := Lib.hid hR
  clear h hn hR
  go_enter Try.func76, Try.ntmps76
  go_wp2_with fail
  go_loopw [7] (fun s7 wr => ∃ (k : Nat) (M : List Hp), s7 = .int .i64 k ∧ k ≤ 100000 ∧ Hid (QAt wr B qb (.slice (some ⟨g, 0, none⟩) n cap) M) ∧ Hid (M.Perm L) ∧ Hid (Sinking Hp.len M m k) ∧ Hid (∀ k, m ≤ k → k < n → M[k]! = L[k]!) ∧ Hid (QF w wr qb (some g))) (fun s7 _ => m - (intOf s7).toNat)
  case atStart => exact ⟨i0, L, rfl, hi0, HQ.out, List.Perm.refl _, HR.out, fun _ _ _ => rfl, QF.refl _ _ _⟩
  case round =>
    obtain ⟨k, M, rfl, hk, hQ, hP, hS, hT, hF⟩ := hrel
    have HMN : Hid (M.length = n) := by rw [hP.out.length_eq]; exact HN.out
    have r0 : IntKind.i64.wrap (2 * (k : Int)) = 2 * (k : Int) := IntWalk.i64_in _ (by omega)
    have r1 : 2 * (k : Int) + 1 = ((2 * k + 1 : Nat) : Int) := by omega
    obtain ⟨j, hj⟩ : ∃ j, j = 2 * k + 1 := ⟨_, rfl⟩
    rw [← hj] at r1
    have r2 : IntKind.i64.wrap (j : Int) = (j : Int) := IntWalk.i64_in _ (by omega)
    have hjp : par j = k := by unfold par; omega
    have HJ := Lib.hid hj
    clear hj
    by_cases hjm : j < m
    · have r3 : ¬(m : Int) ≤ (j : Int) := by omega
      have r4 : ¬(j : Int) < 0 := by omega
      have hkn : k < n := by have := HJ.out; omega
      have hjn : j < n := by omega
      have r5 : (j : Int) + 1 = ((j + 1 : Nat) : Int) := by omega
      obtain ⟨j2, hj2⟩ : ∃ j2, j2 = j + 1 := ⟨_, rfl⟩
      rw [← hj2] at r5
      have r6 : IntKind.i64.wrap (j2 : Int) = (j2 : Int) := IntWalk.i64_in _ (by omega)
      have HJ2 := Lib.hid hj2
      have HJP := Lib.hid hjp
      clear hj2 hjp
      have hl := lessAt hQ.out
      -- the lesser child
      by_cases hc1 : j2 < m
      · have r7 : (j2 : Int) < (m : Int) := by omega
        by_cases hc2 : M[j2]!.len < M[j]!.len
        · have hd1 : decide (M[j2]!.len < M[j]!.len) = true := by simpa using hc2
          have HMIN : Hid (∀ x, 0 < x → x < m → par x = k → M[j2]!.len ≤ M[x]!.len) := by
            intro x hx hxm hpx
            have h1 := HJ.out
            have h2 := HJ2.out
            have : x = j ∨ x = j2 := by unfold par at hpx; omega
            rcases this with rfl | rfl <;> omega
          clear hc2
          by_cases hlt : M[j2]!.len < M[k]!.len
          · have hd2 : decide (M[j2]!.len < M[k]!.len) = true := by simpa using hlt
            have HLT := Lib.hid hlt
            clear hlt
            go_wp2_with (first
              | (go_at_call 113; have gg := hl; clear gg; refine (qless_any j2 j _ hQ.out.own HMN.out hn1 (by omega) (by omega)).mono ?_; rintro e' w2 ⟨rfl, z, rfl⟩; rw [hd1]; have hQ2 := hQ.out.keep (w' := wr.drewN z) (by (repeat (first | with_reducible exact Below.refl _ _ | with_reducible assumption | ((with_reducible refine Below.setCell ?_ ?_ _); rotate_left; focus (first | exact Nat.le_refl _ | omega | exact Below.size (by assumption) | (simp; done) | (simp; omega))) | ((with_reducible refine Below.alloc ?_ ?_ _); rotate_left; focus (first | exact Nat.le_refl _ | omega | exact Below.size (by assumption) | (simp; done) | (simp; omega))) | (with_reducible refine Below.drew ?_) | (with_reducible refine drewN_ ?_ _)))); have hl2 := lessAt hQ2; have HQ2 := Lib.hid hQ2; clear hQ2 hl)
              | (go_at_call 113; have gg := hl2; clear gg; refine (qless_any j2 k _ HQ2.out.own HMN.out hn1 (by omega) (by omega)).mono ?_; rintro e' w3 ⟨rfl, z2, rfl⟩; rw [hd2]; have hQ3 := hQ.out.keep (w' := wr.drewN (z + z2)) (by (repeat (first | with_reducible exact Below.refl _ _ | with_reducible assumption | ((with_reducible refine Below.setCell ?_ ?_ _); rotate_left; focus (first | exact Nat.le_refl _ | omega | exact Below.size (by assumption) | (simp; done) | (simp; omega))) | ((with_reducible refine Below.alloc ?_ ?_ _); rotate_left; focus (first | exact Nat.le_refl _ | omega | exact Below.size (by assumption) | (simp; done) | (simp; omega))) | (with_reducible refine Below.drew ?_) | (with_reducible refine drewN_ ?_ _)))); have hs := swapAt hQ3; have HQ3 := Lib.hid hQ3; clear hQ3 hl2)
              | (go_at_call 116; refine (qswap_any k j2 _ HQ3.out.own HMN.out hn1 (by omega) (by omega)).mono ?_; rintro e' w4 ⟨rfl, hO3, hg3⟩; have HQ4 := Lib.hid (HQ3.out.swapped hO3 hg3); have HG3 := Lib.hid hg3; clear hO3 hg3))
            go_roundw
            case rel =>
              have h1 := HJ.out
              have h2 := HJ2.out
              refine ⟨j2, _, rfl, by omega, HQ4.out, (swpL_perm (by rw [HMN.out]; omega) (by rw [HMN.out]; omega)).trans hP.out, sinking_step hS.out (by omega) (by omega) (by have := HJP.out; unfold par at *; omega) HMIN.out HLT.out, fun x hx hxn => ?_, (hF.out.trans (below_qf (w := wr) (w' := wr.drewN (z + z2)) (by (repeat (first | with_reducible exact Below.refl _ _ | with_reducible assumption | ((with_reducible refine Below.setCell ?_ ?_ _); rotate_left; focus (first | exact Nat.le_refl _ | omega | exact Below.size (by assumption) | (simp; done) | (simp; omega))) | ((with_reducible refine Below.alloc ?_ ?_ _); rotate_left; focus (first | exact Nat.le_refl _ | omega | exact Below.size (by assumption) | (simp; done) | (simp; omega))) | (with_reducible refine Below.drew ?_) | (with_reducible refine drewN_ ?_ _)))) qb (some g)) (.inl rfl)).trans (QF.of_grown HG3.out qb) (.inl rfl)⟩
              rw [swpL_get (by rw [HMN.out]; omega) (by rw [HMN.out]; omega), if_neg (by omega), if_neg (by omega)]
              exact hT.out x hx hxn
            case measure =>
              have h1 := HJ.out
              have h2 := HJ2.out
              simp [intOf]; omega
          · have hd2 : decide (M[j2]!.len < M[k]!.len) = false := by simpa using hlt
            have HLT := Lib.hid hlt
            clear hlt
            go_wp2_with (first
              | (go_at_call 113; have gg := hl; clear gg; refine (qless_any j2 j _ hQ.out.own HMN.out hn1 (by omega) (by omega)).mono ?_; rintro e' w2 ⟨rfl, z, rfl⟩; rw [hd1]; have hQ2 := hQ.out.keep (w' := wr.drewN z) (by (repeat (first | with_reducible exact Below.refl _ _ | with_reducible assumption | ((with_reducible refine Below.setCell ?_ ?_ _); rotate_left; focus (first | exact Nat.le_refl _ | omega | exact Below.size (by assumption) | (simp; done) | (simp; omega))) | ((with_reducible refine Below.alloc ?_ ?_ _); rotate_left; focus (first | exact Nat.le_refl _ | omega | exact Below.size (by assumption) | (simp; done) | (simp; omega))) | (with_reducible refine Below.drew ?_) | (with_reducible refine drewN_ ?_ _)))); have hl2 := lessAt hQ2; have HQ2 := Lib.hid hQ2; clear hQ2 hl)
              | (go_at_call 113; have gg := hl2; clear gg; refine (qless_any j2 k _ HQ2.out.own HMN.out hn1 (by omega) (by omega)).mono ?_; rintro e' w3 ⟨rfl, z2, rfl⟩; rw [hd2]; have hQ3 := hQ.out.keep (w' := wr.drewN (z + z2)) (by (repeat (first | with_reducible exact Below.refl _ _ | with_reducible assumption | ((with_reducible refine Below.setCell ?_ ?_ _); rotate_left; focus (first | exact Nat.le_refl _ | omega | exact Below.size (by assumption) | (simp; done) | (simp; omega))) | ((with_reducible refine Below.alloc ?_ ?_ _); rotate_left; focus (first | exact Nat.le_refl _ | omega | exact Below.size (by assumption) | (simp; done) | (simp; omega))) | (with_reducible refine Below.drew ?_) | (with_reducible refine drewN_ ?_ _)))); have hs := swapAt hQ3; have HQ3 := Lib.hid hQ3; clear hQ3 hl2))
            go_ret
            exact ⟨⟨_, rfl⟩, M, hQ.out.keep (by (repeat (first | with_reducible exact Below.refl _ _ | with_reducible assumption | ((with_reducible refine Below.setCell ?_ ?_ _); rotate_left; focus (first | exact Nat.le_refl _ | omega | exact Below.size (by assumption) | (simp; done) | (simp; omega))) | ((with_reducible refine Below.alloc ?_ ?_ _); rotate_left; focus (first | exact Nat.le_refl _ | omega | exact Below.size (by assumption) | (simp; done) | (simp; omega))) | (with_reducible refine Below.drew ?_) | (with_reducible refine drewN_ ?_ _)))), hP.out, sinking_done hS.out HMIN.out (by have := HLT.out; omega), hT.out, hF.out.trans (below_qf (w := wr) (w' := wr.drewN (z + z2)) (by (repeat (first | with_reducible exact Below.refl _ _ | with_reducible assumption | ((with_reducible refine Below.setCell ?_ ?_ _); rotate_left; focus (first | exact Nat.le_refl _ | omega | exact Below.size (by assumption) | (simp; done) | (simp; omega))) | ((with_reducible refine Below.alloc ?_ ?_ _); rotate_left; focus (first | exact Nat.le_refl _ | omega | exact Below.size (by assumption) | (simp; done) | (simp; omega))) | (with_reducible refine Below.drew ?_) | (with_reducible refine drewN_ ?_ _)))) qb (some g)) (.inl rfl)⟩
        · have hd1 : decide (M[j2]!.len < M[j]!.len) = false := by simpa using hc2
          have HMIN : Hid (∀ x, 0 < x → x < m → par x = k → M[j]!.len ≤ M[x]!.len) := by
            intro x hx hxm hpx
            have h1 := HJ.out
            have h2 := HJ2.out
            have : x = j ∨ x = j2 := by unfold par at hpx; omega
            rcases this with rfl | rfl <;> omega
          clear hc2
          by_cases hlt : M[j]!.len < M[k]!.len
          · have hd2 : decide (M[j]!.len < M[k]!.len) = true := by simpa using hlt
            have HLT := Lib.hid hlt
            clear hlt
            go_wp2_with (first
              | (go_at_call 113; have gg := hl; clear gg; refine (qless_any j2 j _ hQ.out.own HMN.out hn1 (by omega) (by omega)).mono ?_; rintro e' w2 ⟨rfl, z, rfl⟩; rw [hd1]; have hQ2 := hQ.out.keep (w' := wr.drewN z) (by (repeat (first | with_reducible exact Below.refl _ _ | with_reducible assumption | ((with_reducible refine Below.setCell ?_ ?_ _); rotate_left; focus (first | exact Nat.le_refl _ | omega | exact Below.size (by assumption) | (simp; done) | (simp; omega))) | ((with_reducible refine Below.alloc ?_ ?_ _); rotate_left; focus (first | exact Nat.le_refl _ | omega | exact Below.size (by assumption) | (simp; done) | (simp; omega))) | (with_reducible refine Below.drew ?_) | (with_reducible refine drewN_ ?_ _)))); have hl2 := lessAt hQ2; have HQ2 := Lib.hid hQ2; clear hQ2 hl)
              | (go_at_call 113; have gg := hl2; clear gg; refine (qless_any j k _ HQ2.out.own HMN.out hn1 (by omega) (by omega)).mono ?_; rintro e' w3 ⟨rfl, z2, rfl⟩; rw [hd2]; have hQ3 := hQ.out.keep (w' := wr.drewN (z + z2)) (by (repeat (first | with_reducible exact Below.refl _ _ | with_reducible assumption | ((with_reducible refine Below.setCell ?_ ?_ _); rotate_left; focus (first | exact Nat.le_refl _ | omega | exact Below.size (by assumption) | (simp; done) | (simp; omega))) | ((with_reducible refine Below.alloc ?_ ?_ _); rotate_left; focus (first | exact Nat.le_refl _ | omega | exact Below.size (by assumption) | (simp; done) | (simp; omega))) | (with_reducible refine Below.drew ?_) | (with_reducible refine drewN_ ?_ _)))); have hs := swapAt hQ3; have HQ3 := Lib.hid hQ3; clear hQ3 hl2)
              | (go_at_call 116; refine (qswap_any k j _ HQ3.out.own HMN.out hn1 (by omega) (by omega)).mono ?_; rintro e' w4 ⟨rfl, hO3, hg3⟩; have HQ4 := Lib.hid (HQ3.out.swapped hO3 hg3); have HG3 := Lib.hid hg3; clear hO3 hg3))
            go_roundw
            case rel =>
              have h1 := HJ.out
              have h2 := HJ2.out
              refine ⟨j, _, rfl, by omega, HQ4.out, (swpL_perm (by rw [HMN.out]; omega) (by rw [HMN.out]; omega)).trans hP.out, sinking_step hS.out (by omega) (by omega) (by have := HJP.out; unfold par at *; omega) HMIN.out HLT.out, fun x hx hxn => ?_, (hF.out.trans (below_qf (w := wr) (w' := wr.drewN (z + z2)) (by (repeat (first | with_reducible exact Below.refl _ _ | with_reducible assumption | ((with_reducible refine Below.setCell ?_ ?_ _); rotate_left; focus (first | exact Nat.le_refl _ | omega | exact Below.size (by assumption) | (simp; done) | (simp; omega))) | ((with_reducible refine Below.alloc ?_ ?_ _); rotate_left; focus (first | exact Nat.le_refl _ | omega | exact Below.size (by assumption) | (simp; done) | (simp; omega))) | (with_reducible refine Below.drew ?_) | (with_reducible refine drewN_ ?_ _)))) qb (some g)) (.inl rfl)).trans (QF.of_grown HG3.out qb) (.inl rfl)⟩
              rw [swpL_get (by rw [HMN.out]; omega) (by rw [HMN.out]; omega), if_neg (by omega), if_neg (by omega)]
              exact hT.out x hx hxn
            case measure =>
              have h1 := HJ.out
              have h2 := HJ2.out
              simp [intOf]; omega
          · have hd2 : decide (M[j]!.len < M[k]!.len) = false := by simpa using hlt
            have HLT := Lib.hid hlt
            clear hlt
            go_wp2_with (first
              | (go_at_call 113; have gg := hl; clear gg; refine (qless_any j2 j _ hQ.out.own HMN.out hn1 (by omega) (by omega)).mono ?_; rintro e' w2 ⟨rfl, z, rfl⟩; rw [hd1]; have hQ2 := hQ.out.keep (w' := wr.drewN z) (by (repeat (first | with_reducible exact Below.refl _ _ | with_reducible assumption | ((with_reducible refine Below.setCell ?_ ?_ _); rotate_left; focus (first | exact Nat.le_refl _ | omega | exact Below.size (by assumption) | (simp; done) | (simp; omega))) | ((with_reducible refine Below.alloc ?_ ?_ _); rotate_left; focus (first | exact Nat.le_refl _ | omega | exact Below.size (by assumption) | (simp; done) | (simp; omega))) | (with_reducible refine Below.drew ?_) | (with_reducible refine drewN_ ?_ _)))); have hl2 := lessAt hQ2; have HQ2 := Lib.hid hQ2; clear hQ2 hl)
              | (go_at_call 113; have gg := hl2; clear gg; refine (qless_any j k _ HQ2.out.own HMN.out hn1 (by omega) (by omega)).mono ?_; rintro e' w3 ⟨rfl, z2, rfl⟩; rw [hd2]; have hQ3 := hQ.out.keep (w' := wr.drewN (z + z2)) (by (repeat (first | with_reducible exact Below.refl _ _ | with_reducible assumption | ((with_reducible refine Below.setCell ?_ ?_ _); rotate_left; focus (first | exact Nat.le_refl _ | omega | exact Below.size (by assumption) | (simp; done) | (simp; omega))) | ((with_reducible refine Below.alloc ?_ ?_ _); rotate_left; focus (first | exact Nat.le_refl _ | omega | exact Below.size (by assumption) | (simp; done) | (simp; omega))) | (with_reducible refine Below.drew ?_) | (with_reducible refine drewN_ ?_ _)))); have hs := swapAt hQ3; have HQ3 := Lib.hid hQ3; clear hQ3 hl2))
            go_ret
            exact ⟨⟨_, rfl⟩, M, hQ.out.keep (by (repeat (first | with_reducible exact Below.refl _ _ | with_reducible assumption | ((with_reducible refine Below.setCell ?_ ?_ _); rotate_left; focus (first | exact Nat.le_refl _ | omega | exact Below.size (by assumption) | (simp; done) | (simp; omega))) | ((with_reducible refine Below.alloc ?_ ?_ _); rotate_left; focus (first | exact Nat.le_refl _ | omega | exact Below.size (by assumption) | (simp; done) | (simp; omega))) | (with_reducible refine Below.drew ?_) | (with_reducible refine drewN_ ?_ _)))), hP.out, sinking_done hS.out HMIN.out (by have := HLT.out; omega), hT.out, hF.out.trans (below_qf (w := wr) (w' := wr.drewN (z + z2)) (by (repeat (first | with_reducible exact Below.refl _ _ | with_reducible assumption | ((with_reducible refine Below.setCell ?_ ?_ _); rotate_left; focus (first | exact Nat.le_refl _ | omega | exact Below.size (by assumption) | (simp; done) | (simp; omega))) | ((with_reducible refine Below.alloc ?_ ?_ _); rotate_left; focus (first | exact Nat.le_refl _ | omega | exact Below.size (by assumption) | (simp; done) | (simp; omega))) | (with_reducible refine Below.drew ?_) | (with_reducible refine drewN_ ?_ _)))) qb (some g)) (.inl rfl)⟩
      · have r7 : ¬(j2 : Int) < (m : Int) := by omega
        have HMIN : Hid (∀ x, 0 < x → x < m → par x = k → M[j]!.len ≤ M[x]!.len) := by
          intro x hx hxm hpx
          have h1 := HJ.out
          have h2 := HJ2.out
          have : x = j := by unfold par at hpx; omega
          rw [this]; exact Int.le_refl _
        by_cases hlt : M[j]!.len < M[k]!.len
        · have hd2 : decide (M[j]!.len < M[k]!.len) = true := by simpa using hlt
          have HLT := Lib.hid hlt
          clear hlt
          go_wp2_with (first
            | (go_at_call 113; have gg := hl; clear gg; refine (qless_any j k _ hQ.out.own HMN.out hn1 (by omega) (by omega)).mono ?_; rintro e' w3 ⟨rfl, z2, rfl⟩; rw [hd2]; have hQ3 := hQ.out.keep (w' := wr.drewN z2) (by (repeat (first | with_reducible exact Below.refl _ _ | with_reducible assumption | ((with_reducible refine Below.setCell ?_ ?_ _); rotate_left; focus (first | exact Nat.le_refl _ | omega | exact Below.size (by assumption) | (simp; done) | (simp; omega))) | ((with_reducible refine Below.alloc ?_ ?_ _); rotate_left; focus (first | exact Nat.le_refl _ | omega | exact Below.size (by assumption) | (simp; done) | (simp; omega))) | (with_reducible refine Below.drew ?_) | (with_reducible refine drewN_ ?_ _)))); have hs := swapAt hQ3; have HQ3 := Lib.hid hQ3; clear hQ3 hl)
            | (go_at_call 116; refine (qswap_any k j _ HQ3.out.own HMN.out hn1 (by omega) (by omega)).mono ?_; rintro e' w4 ⟨rfl, hO3, hg3⟩; have HQ4 := Lib.hid (HQ3.out.swapped hO3 hg3); have HG3 := Lib.hid hg3; clear hO3 hg3))
          go_roundw
          case rel =>
            have h1 := HJ.out
            have h2 := HJ2.out
            refine ⟨j, _, rfl, by omega, HQ4.out, (swpL_perm (by rw [HMN.out]; omega) (by rw [HMN.out]; omega)).trans hP.out, sinking_step hS.out (by omega) (by omega) (by have := HJP.out; unfold par at *; omega) HMIN.out HLT.out, fun x hx hxn => ?_, (hF.out.trans (below_qf (w := wr) (w' := wr.drewN z2) (by (repeat (first | with_reducible exact Below.refl _ _ | with_reducible assumption | ((with_reducible refine Below.setCell ?_ ?_ _); rotate_left; focus (first | exact Nat.le_refl _ | omega | exact Below.size (by assumption) | (simp; done) | (simp; omega))) | ((with_reducible refine Below.alloc ?_ ?_ _); rotate_left; focus (first | exact Nat.le_refl _ | omega | exact Below.size (by assumption) | (simp; done) | (simp; omega))) | (with_reducible refine Below.drew ?_) | (with_reducible refine drewN_ ?_ _)))) qb (some g)) (.inl rfl)).trans (QF.of_grown HG3.out qb) (.inl rfl)⟩
            rw [swpL_get (by rw [HMN.out]; omega) (by rw [HMN.out]; omega), if_neg (by omega), if_neg (by omega)]
            exact hT.out x hx hxn
          case measure =>
            have h1 := HJ.out
            have h2 := HJ2.out
            simp [intOf]; omega
        · have hd2 : decide (M[j]!.len < M[k]!.len) = false := by simpa using hlt
          have HLT := Lib.hid hlt
          clear hlt
          go_wp2_with (first
            | (go_at_call 113; have gg := hl; clear gg; refine (qless_any j k _ hQ.out.own HMN.out hn1 (by omega) (by omega)).mono ?_; rintro e' w3 ⟨rfl, z2, rfl⟩; rw [hd2]; have hQ3 := hQ.out.keep (w' := wr.drewN z2) (by (repeat (first | with_reducible exact Below.refl _ _ | with_reducible assumption | ((with_reducible refine Below.setCell ?_ ?_ _); rotate_left; focus (first | exact Nat.le_refl _ | omega | exact Below.size (by assumption) | (simp; done) | (simp; omega))) | ((with_reducible refine Below.alloc ?_ ?_ _); rotate_left; focus (first | exact Nat.le_refl _ | omega | exact Below.size (by assumption) | (simp; done) | (simp; omega))) | (with_reducible refine Below.drew ?_) | (with_reducible refine drewN_ ?_ _)))); have hs := swapAt hQ3; have HQ3 := Lib.hid hQ3; clear hQ3 hl))
          go_ret
          exact ⟨⟨_, rfl⟩, M, hQ.out.keep (by (repeat (first | with_reducible exact Below.refl _ _ | with_reducible assumption | ((with_reducible refine Below.setCell ?_ ?_ _); rotate_left; focus (first | exact Nat.le_refl _ | omega | exact Below.size (by assumption) | (simp; done) | (simp; omega))) | ((with_reducible refine Below.alloc ?_ ?_ _); rotate_left; focus (first | exact Nat.le_refl _ | omega | exact Below.size (by assumption) | (simp; done) | (simp; omega))) | (with_reducible refine Below.drew ?_) | (with_reducible refine drewN_ ?_ _)))), hP.out, sinking_done hS.out HMIN.out (by have := HLT.out; omega), hT.out, hF.out.trans (below_qf (w := wr) (w' := wr.drewN z2) (by (repeat (first | with_reducible exact Below.refl _ _ | with_reducible assumption | ((with_reducible refine Below.setCell ?_ ?_ _); rotate_left; focus (first | exact Nat.le_refl _ | omega | exact Below.size (by assumption) | (simp; done) | (simp; omega))) | ((with_reducible refine Below.alloc ?_ ?_ _); rotate_left; focus (first | exact Nat.le_refl _ | omega | exact Below.size (by assumption) | (simp; done) | (simp; omega))) | (with_reducible refine Below.drew ?_) | (with_reducible refine drewN_ ?_ _)))) qb (some g)) (.inl rfl)⟩
    · have r3 : (m : Int) ≤ (j : Int) := by omega
      go_wp2_with fail
      go_ret
      exact ⟨⟨_, rfl⟩, M, hQ.out, hP.out, sinking_leaf hS.out (by have := HJ.out; omega), hT.out, hF.out⟩
end Go.Proofs.Ythkhgfdjdpfoiaa
