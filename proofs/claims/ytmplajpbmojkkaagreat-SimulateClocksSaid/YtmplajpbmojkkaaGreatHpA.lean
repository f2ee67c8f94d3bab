/-
  container/heap's up, down, Push, Pop over the queue.
  container/heap's Push and Pop over the queue.
-/
import Derived.Test.YtmplajpbmojkkaaGreatQueA
set_option linter.unusedSimpArgs false
set_option linter.unusedVariables false
namespace Go.Proofs.YtmplajpbmojkkaaGreat
open Go Go.RowKit Go.Vi
theorem aggQue (w : World) : (isAgg 202).run Tryz.prog w = .ok false w := by kernel_rfl
theorem loadQ {qb : Nat} {w : World} {v : Value} (h : w.cell? ⟨qb, 0, none⟩ = some v) : (loadVar 202 ⟨qb, 0, none⟩).run Tryz.prog w = .ok v w := by
  simp [loadVar, aggQue, go_sem, h]
theorem QAt.cell {w : World} {B qb : Nat} {v : Value} {L : List Hp} (h : QAt w B qb v L) : w.cell? ⟨qb, 0, none⟩ = some v := by
  have := obj_cell h.var 0; simpa using this
theorem QAt.keep {w w' : World} {B qb : Nat} {v : Value} {L : List Hp} (h : QAt w B qb v L) (hb : Below w.heap.size w w') : QAt w' B qb v L := ⟨keepObj hb h.var, h.own.keep hb⟩
/-- What the walk asks ahead of and at a call of a method of the queue. -/
theorem lessAt {w : World} {B qb : Nat} {v : Value} {L : List Hp} (h : QAt w B qb v L) (fuel : Nat) : (method (fuel + 1) 201 (.pointer (some ⟨qb, 0, none⟩)) "Less").run Tryz.prog w = .ok (147, v) w := method_val uQP mLess (loadQ h.cell)
theorem swapAt {w : World} {B qb : Nat} {v : Value} {L : List Hp} (h : QAt w B qb v L) (fuel : Nat) : (method (fuel + 1) 201 (.pointer (some ⟨qb, 0, none⟩)) "Swap").run Tryz.prog w = .ok (150, v) w := method_val uQP mSwap (loadQ h.cell)
theorem lenAt {w : World} {B qb : Nat} {v : Value} {L : List Hp} (h : QAt w B qb v L) (fuel : Nat) : (method (fuel + 1) 201 (.pointer (some ⟨qb, 0, none⟩)) "Len").run Tryz.prog w = .ok (87, v) w := method_val uQP mLen (loadQ h.cell)
theorem QAt.swapped {w w' : World} {B qb g n cap : Nat} {M : List Hp} {i k : Nat} (h : QAt w B qb (.slice (some ⟨g, 0, none⟩) n cap) M) (hO : Ow B w' 193 3 (.slice (some ⟨g, 0, none⟩) n cap) ((swpL M i k).map Hp.cs)) (hg : w.grownBy w' (some g)) : QAt w' B qb (.slice (some ⟨g, 0, none⟩) n cap) (swpL M i k) :=
  ⟨by rw [hg.block qb (obj_lt h.var) (fun e => h.apart (by injection e with e; exact e.symm))]; exact h.var, hO⟩
theorem par_quo {j : Nat} (h : 0 < j) : ((j : Int) - 1) / 2 = (par j : Int) := by unfold par; omega
set_option maxRecDepth 100000 in
set_option maxHeartbeats 1000000 in
theorem up_any {B g qb n cap : Nat} {L : List Hp} (j : Nat) (w : World) (h : QAt w B qb (.slice (some ⟨g, 0, none⟩) n cap) L) (hn : L.length = n) (hn1 : n ≤ 100000) (hR : Rising Hp.len L j) :
    Calls Tryz.prog 110 #[.iface 201 (.pointer (some ⟨qb, 0, none⟩)), .int .i64 j] w fun e w' => e = .returned (.tuple #[]) ∧ ∃ L', QAt w' B qb (.slice (some ⟨g, 0, none⟩) n cap) L' ∧ L'.Perm L ∧ HeapOK Hp.len L' ∧ QF w w' qb (some g) := by
  have HQ := Lib.hid h
  have HN := Lib.hid hn
  have HR := Lib.hid hR
  clear h hn hR
  go_enter Tryz.func110, Tryz.ntmps110
  go_wp2_with fail
  go_loopw [1] (fun s1 wr => ∃ (k : Nat) (M : List Hp), s1 = .int .i64 k ∧ Hid (QAt wr B qb (.slice (some ⟨g, 0, none⟩) n cap) M) ∧ Hid (M.Perm L) ∧ Hid (Rising Hp.len M k) ∧ Hid (QF w wr qb (some g))) (fun s1 _ => (intOf s1).toNat)
  case atStart => exact ⟨j, L, rfl, HQ.out, List.Perm.refl _, HR.out, QF.refl _ _ _⟩
  case round =>
    obtain ⟨k, M, rfl, hQ, hP, hR, hF⟩ := hrel
    have hMn : M.length = n := by rw [hP.out.length_eq]; exact HN.out
    have hkn : k < n := by have := hR.out.1; omega
    rcases Nat.eq_zero_or_pos k with rfl | hk
    · go_wp2_with fail
      go_end0
      exact ⟨rfl, M, hQ.out, hP.out, rising_done hR.out (.inl rfl), hF.out⟩
    · have q1 := par_quo hk
      have hpk : par k < k := by unfold par; omega
      have hne : (((par k : Nat) : Int) == (k : Int)) = false := by simpa using (by omega : ¬((par k : Nat) : Int) = (k : Int))
      have hl := lessAt hQ.out
      have HMN := Lib.hid hMn
      clear hMn
      by_cases hlt : M[k]!.len < M[par k]!.len
      · have hd : decide (M[k]!.len < M[par k]!.len) = true := by simpa using hlt
        have HLT := Lib.hid hlt
        clear hlt
        go_wp2_with (first
          | (go_at_call 147; refine (qless_any k (par k) _ hQ.out.own HMN.out hn1 hkn (by omega)).mono ?_; rintro e' w2 ⟨rfl, z, rfl⟩; rw [hd]; have hQ2 := hQ.out.keep (w' := wr.drewN z) (by (repeat (first | with_reducible exact Below.refl _ _ | with_reducible assumption | ((with_reducible refine Below.setCell ?_ ?_ _); rotate_left; focus (first | exact Nat.le_refl _ | omega | exact Below.size (by assumption) | (simp; done) | (simp; omega))) | ((with_reducible refine Below.alloc ?_ ?_ _); rotate_left; focus (first | exact Nat.le_refl _ | omega | exact Below.size (by assumption) | (simp; done) | (simp; omega))) | (with_reducible refine Below.drew ?_) | (with_reducible refine drewN_ ?_ _)))); have hs := swapAt hQ2; have HQ2 := Lib.hid hQ2; clear hQ2)
          | (go_at_call 150; refine (qswap_any (par k) k _ HQ2.out.own HMN.out hn1 (by omega) hkn).mono ?_; rintro e' w3 ⟨rfl, hO3, hg3⟩; have HQ3 := Lib.hid (HQ2.out.swapped hO3 hg3); have HG3 := Lib.hid hg3; clear hO3 hg3))
        go_roundw
        case rel =>
          have hkM : k < M.length := by rw [HMN.out]; exact hkn
          exact ⟨par k, _, rfl, HQ3.out, (swpL_perm (by omega) hkM).trans hP.out, rising_step hR.out hk HLT.out, (hF.out.trans (below_qf (w := wr) (w' := wr.drewN z) (by (repeat (first | with_reducible exact Below.refl _ _ | with_reducible assumption | ((with_reducible refine Below.setCell ?_ ?_ _); rotate_left; focus (first | exact Nat.le_refl _ | omega | exact Below.size (by assumption) | (simp; done) | (simp; omega))) | ((with_reducible refine Below.alloc ?_ ?_ _); rotate_left; focus (first | exact Nat.le_refl _ | omega | exact Below.size (by assumption) | (simp; done) | (simp; omega))) | (with_reducible refine Below.drew ?_) | (with_reducible refine drewN_ ?_ _)))) qb (some g)) (.inl rfl)).trans (QF.of_grown HG3.out qb) (.inl rfl)⟩
        case measure => simp [intOf]; omega
      · have hd : decide (M[k]!.len < M[par k]!.len) = false := by simpa using hlt
        have HLT := Lib.hid hlt
        clear hlt
        go_wp2_with (first
          | (go_at_call 147; refine (qless_any k (par k) _ hQ.out.own HMN.out hn1 hkn (by omega)).mono ?_; rintro e' w2 ⟨rfl, z, rfl⟩; rw [hd]))
        go_end0
        exact ⟨rfl, M, hQ.out.keep (by (repeat (first | with_reducible exact Below.refl _ _ | with_reducible assumption | ((with_reducible refine Below.setCell ?_ ?_ _); rotate_left; focus (first | exact Nat.le_refl _ | omega | exact Below.size (by assumption) | (simp; done) | (simp; omega))) | ((with_reducible refine Below.alloc ?_ ?_ _); rotate_left; focus (first | exact Nat.le_refl _ | omega | exact Below.size (by assumption) | (simp; done) | (simp; omega))) | (with_reducible refine Below.drew ?_) | (with_reducible refine drewN_ ?_ _)))), hP.out, rising_done hR.out (.inr (by have := HLT.out; omega)), hF.out.trans (below_qf (w := wr) (w' := wr.drewN z) (by (repeat (first | with_reducible exact Below.refl _ _ | with_reducible assumption | ((with_reducible refine Below.setCell ?_ ?_ _); rotate_left; focus (first | exact Nat.le_refl _ | omega | exact Below.size (by assumption) | (simp; done) | (simp; omega))) | ((with_reducible refine Below.alloc ?_ ?_ _); rotate_left; focus (first | exact Nat.le_refl _ | omega | exact Below.size (by assumption) | (simp; done) | (simp; omega))) | (with_reducible refine Below.drew ?_) | (with_reducible refine drewN_ ?_ _)))) qb (some g)) (.inl rfl)⟩
set_option maxRecDepth 100000 in
set_option maxHeartbeats 2000000 in
theorem down_any {B g qb n cap : Nat} {L : List Hp} (i0 m : Nat) (w : World) (h : QAt w B qb (.slice (some ⟨g, 0, none⟩) n cap) L) (hn : L.length = n) (hn1 : n ≤ 100000) (hm : m ≤ n) (hi0 : i0 ≤ 100000) (hR : Sinking Hp.len L m i0) :
    Calls Tryz.prog 109 #[.iface 201 (.pointer (some ⟨qb, 0, none⟩)), .int .i64 i0, .int .i64 m] w fun e w' => (∃ b, e = .returned (.bool b)) ∧ ∃ L', QAt w' B qb (.slice (some ⟨g, 0, none⟩) n cap) L' ∧ L'.Perm L ∧ HeapBut Hp.len L' m (fun _ => False) ∧ (∀ k, m ≤ k → k < n → L'[k]! = L[k]!) ∧ QF w w' qb (some g) := by
  have HQ := Lib.hid h
  have HN := Lib.hid hn
  have HR := Lib.hid hR
  clear h hn hR
  go_enter Tryz.func109, Tryz.ntmps109
  go_wp2_with fail
  go_loopw [7] (fun s7 wr => ∃ (k : Nat) (M : List Hp), s7 = .int .i64 k ∧ k ≤ 100000 ∧ Hid (QAt wr B qb (.slice (some ⟨g, 0, none⟩) n cap) M) ∧ Hid (M.Perm L) ∧ Hid (Sinking Hp.len M m k) ∧ Hid (∀ k, m ≤ k → k < n → M[k]! = L[k]!) ∧ Hid (QF w wr qb (some g))) (fun s7 _ => m - (intOf s7).toNat)
  case atStart => exact ⟨i0, L, rfl, hi0, HQ.out, List.Perm.refl _, HR.out, fun _ _ _ => rfl, QF.refl _ _ _⟩
  case round =>
    obtain ⟨k, M, rfl, hk, hQ, hP, hS, hT, hF⟩ := hrel
    have HMN : Hid (M.length = n) := by rw [hP.out.length_eq]; exact HN.out
    have r0 : IntKind.i64.wrap (2 * (k : Int)) = 2 * (k : Int) := IntWalk.i64_in _ (by omega)
    have r1 : 2 * (k : Int) + 1 = ((2 * k + 1 : Nat) : Int) := by omega
    obtain ⟨j, hj⟩ : ∃ j, j = 2 * k + 1 := ⟨_, rfl⟩
    rw [← hj] at r1
    have r2 : IntKind.i64.wrap (j : Int) = (j : Int) := IntWalk.i64_in _ (by omega)
    have hjp : par j = k := by unfold par; omega
    have HJ := Lib.hid hj
    clear hj
    by_cases hjm : j < m
    · have r3 : ¬(m : Int) ≤ (j : Int) := by omega
      have r4 : ¬(j : Int) < 0 := by omega
      have hkn : k < n := by have := HJ.out; omega
      have hjn : j < n := by omega
      have r5 : (j : Int) + 1 = ((j + 1 : Nat) : Int) := by omega
      obtain ⟨j2, hj2⟩ : ∃ j2, j2 = j + 1 := ⟨_, rfl⟩
      rw [← hj2] at r5
      have r6 : IntKind.i64.wrap (j2 : Int) = (j2 : Int) := IntWalk.i64_in _ (by omega)
      have HJ2 := Lib.hid hj2
      have HJP := Lib.hid hjp
      clear hj2 hjp
      have hl := lessAt hQ.out
      -- the lesser child
      by_cases hc1 : j2 < m
      · have r7 : (j2 : Int) < (m : Int) := by omega
        by_cases hc2 : M[j2]!.len < M[j]!.len
        · have hd1 : decide (M[j2]!.len < M[j]!.len) = true := by simpa using hc2
          have HMIN : Hid (∀ x, 0 < x → x < m → par x = k → M[j2]!.len ≤ M[x]!.len) := by
            intro x hx hxm hpx
            have h1 := HJ.out
            have h2 := HJ2.out
            have : x = j ∨ x = j2 := by unfold par at hpx; omega
            rcases this with rfl | rfl <;> omega
          clear hc2
          by_cases hlt : M[j2]!.len < M[k]!.len
          · have hd2 : decide (M[j2]!.len < M[k]!.len) = true := by simpa using hlt
            have HLT := Lib.hid hlt
            clear hlt
            go_wp2_with (first
              | (go_at_call 147; have gg := hl; clear gg; refine (qless_any j2 j _ hQ.out.own HMN.out hn1 (by omega) (by omega)).mono ?_; rintro e' w2 ⟨rfl, z, rfl⟩; rw [hd1]; have hQ2 := hQ.out.keep (w' := wr.drewN z) (by (repeat (first | with_reducible exact Below.refl _ _ | with_reducible assumption | ((with_reducible refine Below.setCell ?_ ?_ _); rotate_left; focus (first | exact Nat.le_refl _ | omega | exact Below.size (by assumption) | (simp; done) | (simp; omega))) | ((with_reducible refine Below.alloc ?_ ?_ _); rotate_left; focus (first | exact Nat.le_refl _ | omega | exact Below.size (by assumption) | (simp; done) | (simp; omega))) | (with_reducible refine Below.drew ?_) | (with_reducible refine drewN_ ?_ _)))); have hl2 := lessAt hQ2; have HQ2 := Lib.hid hQ2; clear hQ2 hl)
              | (go_at_call 147; have gg := hl2; clear gg; refine (qless_any j2 k _ HQ2.out.own HMN.out hn1 (by omega) (by omega)).mono ?_; rintro e' w3 ⟨rfl, z2, rfl⟩; rw [hd2]; have hQ3 := hQ.out.keep (w' := wr.drewN (z + z2)) (by (repeat (first | with_reducible exact Below.refl _ _ | with_reducible assumption | ((with_reducible refine Below.setCell ?_ ?_ _); rotate_left; focus (first | exact Nat.le_refl _ | omega | exact Below.size (by assumption) | (simp; done) | (simp; omega))) | ((with_reducible refine Below.alloc ?_ ?_ _); rotate_left; focus (first | exact Nat.le_refl _ | omega | exact Below.size (by assumption) | (simp; done) | (simp; omega))) | (with_reducible refine Below.drew ?_) | (with_reducible refine drewN_ ?_ _)))); have hs := swapAt hQ3; have HQ3 := Lib.hid hQ3; clear hQ3 hl2)
              | (go_at_call 150; refine (qswap_any k j2 _ HQ3.out.own HMN.out hn1 (by omega) (by omega)).mono ?_; rintro e' w4 ⟨rfl, hO3, hg3⟩; have HQ4 := Lib.hid (HQ3.out.swapped hO3 hg3); have HG3 := Lib.hid hg3; clear hO3 hg3))
            go_roundw
            case rel =>
              have h1 := HJ.out
              have h2 := HJ2.out
              refine ⟨j2, _, rfl, by omega, HQ4.out, (swpL_perm (by rw [HMN.out]; omega) (by rw [HMN.out]; omega)).trans hP.out, sinking_step hS.out (by omega) (by omega) (by have := HJP.out; unfold par at *; omega) HMIN.out HLT.out, fun x hx hxn => ?_, (hF.out.trans (below_qf (w := wr) (w' := wr.drewN (z + z2)) (by (repeat (first | with_reducible exact Below.refl _ _ | with_reducible assumption | ((with_reducible refine Below.setCell ?_ ?_ _); rotate_left; focus (first | exact Nat.le_refl _ | omega | exact Below.size (by assumption) | (simp; done) | (simp; omega))) | ((with_reducible refine Below.alloc ?_ ?_ _); rotate_left; focus (first | exact Nat.le_refl _ | omega | exact Below.size (by assumption) | (simp; done) | (simp; omega))) | (with_reducible refine Below.drew ?_) | (with_reducible refine drewN_ ?_ _)))) qb (some g)) (.inl rfl)).trans (QF.of_grown HG3.out qb) (.inl rfl)⟩
              rw [swpL_get (by rw [HMN.out]; omega) (by rw [HMN.out]; omega), if_neg (by omega), if_neg (by omega)]
              exact hT.out x hx hxn
            case measure =>
              have h1 := HJ.out
              have h2 := HJ2.out
              simp [intOf]; omega
          · have hd2 : decide (M[j2]!.len < M[k]!.len) = false := by simpa using hlt
            have HLT := Lib.hid hlt
            clear hlt
            go_wp2_with (first
              | (go_at_call 147; have gg := hl; clear gg; refine (qless_any j2 j _ hQ.out.own HMN.out hn1 (by omega) (by omega)).mono ?_; rintro e' w2 ⟨rfl, z, rfl⟩; rw [hd1]; have hQ2 := hQ.out.keep (w' := wr.drewN z) (by (repeat (first | with_reducible exact Below.refl _ _ | with_reducible assumption | ((with_reducible refine Below.setCell ?_ ?_ _); rotate_left; focus (first | exact Nat.le_refl _ | omega | exact Below.size (by assumption) | (simp; done) | (simp; omega))) | ((with_reducible refine Below.alloc ?_ ?_ _); rotate_left; focus (first | exact Nat.le_refl _ | omega | exact Below.size (by assumption) | (simp; done) | (simp; omega))) | (with_reducible refine Below.drew ?_) | (with_reducible refine drewN_ ?_ _)))); have hl2 := lessAt hQ2; have HQ2 := Lib.hid hQ2; clear hQ2 hl)
              | (go_at_call 147; have gg := hl2; clear gg; refine (qless_any j2 k _ HQ2.out.own HMN.out hn1 (by omega) (by omega)).mono ?_; rintro e' w3 ⟨rfl, z2, rfl⟩; rw [hd2]; have hQ3 := hQ.out.keep (w' := wr.drewN (z + z2)) (by (repeat (first | with_reducible exact Below.refl _ _ | with_reducible assumption | ((with_reducible refine Below.setCell ?_ ?_ _); rotate_left; focus (first | exact Nat.le_refl _ | omega | exact Below.size (by assumption) | (simp; done) | (simp; omega))) | ((with_reducible refine Below.alloc ?_ ?_ _); rotate_left; focus (first | exact Nat.le_refl _ | omega | exact Below.size (by assumption) | (simp; done) | (simp; omega))) | (with_reducible refine Below.drew ?_) | (with_reducible refine drewN_ ?_ _)))); have hs := swapAt hQ3; have HQ3 := Lib.hid hQ3; clear hQ3 hl2))
            go_ret
            exact ⟨⟨_, rfl⟩, M, hQ.out.keep (by (repeat (first | with_reducible exact Below.refl _ _ | with_reducible assumption | ((with_reducible refine Below.setCell ?_ ?_ _); rotate_left; focus (first | exact Nat.le_refl _ | omega | exact Below.size (by assumption) | (simp; done) | (simp; omega))) | ((with_reducible refine Below.alloc ?_ ?_ _); rotate_left; focus (first | exact Nat.le_refl _ | omega | exact Below.size (by assumption) | (simp; done) | (simp; omega))) | (with_reducible refine Below.drew ?_) | (with_reducible refine drewN_ ?_ _)))), hP.out, sinking_done hS.out HMIN.out (by have := HLT.out; omega), hT.out, hF.out.trans (below_qf (w := wr) (w' := wr.drewN (z + z2)) (by (repeat (first | with_reducible exact Below.refl _ _ | with_reducible assumption | ((with_reducible refine Below.setCell ?_ ?_ _); rotate_left; focus (first | exact Nat.le_refl _ | omega | exact Below.size (by assumption) | (simp; done) | (simp; omega))) | ((with_reducible refine Below.alloc ?_ ?_ _); rotate_left; focus (first | exact Nat.le_refl _ | omega | exact Below.size (by assumption) | (simp; done) | (simp; omega))) | (with_reducible refine Below.drew ?_) | (with_reducible refine drewN_ ?_ _)))) qb (some g)) (.inl rfl)⟩
        · have hd1 : decide (M[j2]!.len < M[j]!.len) = false := by simpa using hc2
          have HMIN : Hid (∀ x, 0 < x → x < m → par x = k → M[j]!.len ≤ M[x]!.len) := by
            intro x hx hxm hpx
            have h1 := HJ.out
            have h2 := HJ2.out
            have : x = j ∨ x = j2 := by unfold par at hpx; omega
            rcases this with rfl | rfl <;> omega
          clear hc2
          by_cases hlt : M[j]!.len < M[k]!.len
          · have hd2 : decide (M[j]!.len < M[k]!.len) = true := by simpa using hlt
            have HLT := Lib.hid hlt
            clear hlt
            go_wp2_with (first
              | (go_at_call 147; have gg := hl; clear gg; refine (qless_any j2 j _ hQ.out.own HMN.out hn1 (by omega) (by omega)).mono ?_; rintro e' w2 ⟨rfl, z, rfl⟩; rw [hd1]; have hQ2 := hQ.out.keep (w' := wr.drewN z) (by (repeat (first | with_reducible exact Below.refl _ _ | with_reducible assumption | ((with_reducible refine Below.setCell ?_ ?_ _); rotate_left; focus (first | exact Nat.le_refl _ | omega | exact Below.size (by assumption) | (simp; done) | (simp; omega))) | ((with_reducible refine Below.alloc ?_ ?_ _); rotate_left; focus (first | exact Nat.le_refl _ | omega | exact Below.size (by assumption) | (simp; done) | (simp; omega))) | (with_reducible refine Below.drew ?_) | (with_reducible refine drewN_ ?_ _)))); have hl2 := lessAt hQ2; have HQ2 := Lib.hid hQ2; clear hQ2 hl)
              | (go_at_call 147; have gg := hl2; clear gg; refine (qless_any j k _ HQ2.out.own HMN.out hn1 (by omega) (by omega)).mono ?_; rintro e' w3 ⟨rfl, z2, rfl⟩; rw [hd2]; have hQ3 := hQ.out.keep (w' := wr.drewN (z + z2)) (by (repeat (first | with_reducible exact Below.refl _ _ | with_reducible assumption | ((with_reducible refine Below.setCell ?_ ?_ _); rotate_left; focus (first | exact Nat.le_refl _ | omega | exact Below.size (by assumption) | (simp; done) | (simp; omega))) | ((with_reducible refine Below.alloc ?_ ?_ _); rotate_left; focus (first | exact Nat.le_refl _ | omega | exact Below.size (by assumption) | (simp; done) | (simp; omega))) | (with_reducible refine Below.drew ?_) | (with_reducible refine drewN_ ?_ _)))); have hs := swapAt hQ3; have HQ3 := Lib.hid hQ3; clear hQ3 hl2)
              | (go_at_call 150; refine (qswap_any k j _ HQ3.out.own HMN.out hn1 (by omega) (by omega)).mono ?_; rintro e' w4 ⟨rfl, hO3, hg3⟩; have HQ4 := Lib.hid (HQ3.out.swapped hO3 hg3); have HG3 := Lib.hid hg3; clear hO3 hg3))
            go_roundw
            case rel =>
              have h1 := HJ.out
              have h2 := HJ2.out
              refine ⟨j, _, rfl, by omega, HQ4.out, (swpL_perm (by rw [HMN.out]; omega) (by rw [HMN.out]; omega)).trans hP.out, sinking_step hS.out (by omega) (by omega) (by have := HJP.out; unfold par at *; omega) HMIN.out HLT.out, fun x hx hxn => ?_, (hF.out.trans (below_qf (w := wr) (w' := wr.drewN (z + z2)) (by (repeat (first | with_reducible exact Below.refl _ _ | with_reducible assumption | ((with_reducible refine Below.setCell ?_ ?_ _); rotate_left; focus (first | exact Nat.le_refl _ | omega | exact Below.size (by assumption) | (simp; done) | (simp; omega))) | ((with_reducible refine Below.alloc ?_ ?_ _); rotate_left; focus (first | exact Nat.le_refl _ | omega | exact Below.size (by assumption) | (simp; done) | (simp; omega))) | (with_reducible refine Below.drew ?_) | (with_reducible refine drewN_ ?_ _)))) qb (some g)) (.inl rfl)).trans (QF.of_grown HG3.out qb) (.inl rfl)⟩
              rw [swpL_get (by rw [HMN.out]; omega) (by rw [HMN.out]; omega), if_neg (by omega), if_neg (by omega)]
              exact hT.out x hx hxn
            case measure =>
              have h1 := HJ.out
              have h2 := HJ2.out
              simp [intOf]; omega
          · have hd2 : decide (M[j]!.len < M[k]!.len) = false := by simpa using hlt
            have HLT := Lib.hid hlt
            clear hlt
            go_wp2_with (first
              | (go_at_call 147; have gg := hl; clear gg; refine (qless_any j2 j _ hQ.out.own HMN.out hn1 (by omega) (by omega)).mono ?_; rintro e' w2 ⟨rfl, z, rfl⟩; rw [hd1]; have hQ2 := hQ.out.keep (w' := wr.drewN z) (by (repeat (first | with_reducible exact Below.refl _ _ | with_reducible assumption | ((with_reducible refine Below.setCell ?_ ?_ _); rotate_left; focus (first | exact Nat.le_refl _ | omega | exact Below.size (by assumption) | (simp; done) | (simp; omega))) | ((with_reducible refine Below.alloc ?_ ?_ _); rotate_left; focus (first | exact Nat.le_refl _ | omega | exact Below.size (by assumption) | (simp; done) | (simp; omega))) | (with_reducible refine Below.drew ?_) | (with_reducible refine drewN_ ?_ _)))); have hl2 := lessAt hQ2; have HQ2 := Lib.hid hQ2; clear hQ2 hl)
              | (go_at_call 147; have gg := hl2; clear gg; refine (qless_any j k _ HQ2.out.own HMN.out hn1 (by omega) (by omega)).mono ?_; rintro e' w3 ⟨rfl, z2, rfl⟩; rw [hd2]; have hQ3 := hQ.out.keep (w' := wr.drewN (z + z2)) (by (repeat (first | with_reducible exact Below.refl _ _ | with_reducible assumption | ((with_reducible refine Below.setCell ?_ ?_ _); rotate_left; focus (first | exact Nat.le_refl _ | omega | exact Below.size (by assumption) | (simp; done) | (simp; omega))) | ((with_reducible refine Below.alloc ?_ ?_ _); rotate_left; focus (first | exact Nat.le_refl _ | omega | exact Below.size (by assumption) | (simp; done) | (simp; omega))) | (with_reducible refine Below.drew ?_) | (with_reducible refine drewN_ ?_ _)))); have hs := swapAt hQ3; have HQ3 := Lib.hid hQ3; clear hQ3 hl2))
            go_ret
            exact ⟨⟨_, rfl⟩, M, hQ.out.keep (by (repeat (first | with_reducible exact Below.refl _ _ | with_reducible assumption | ((with_reducible refine Below.setCell ?_ ?_ _); rotate_left; focus (first | exact Nat.le_refl _ | omega | exact Below.size (by assumption) | (simp; done) | (simp; omega))) | ((with_reducible refine Below.alloc ?_ ?_ _); rotate_left; focus (first | exact Nat.le_refl _ | omega | exact Below.size (by assumption) | (simp; done) | (simp; omega))) | (with_reducible refine Below.drew ?_) | (with_reducible refine drewN_ ?_ _)))), hP.out, sinking_done hS.out HMIN.out (by have := HLT.out; omega), hT.out, hF.out.trans (below_qf (w := wr) (w' := wr.drewN (z + z2)) (by (repeat (first | with_reducible exact Below.refl _ _ | with_reducible assumption | ((with_reducible refine Below.setCell ?_ ?_ _); rotate_left; focus (first | exact Nat.le_refl _ | omega | exact Below.size (by assumption) | (simp; done) | (simp; omega))) | ((with_reducible refine Below.alloc ?_ ?_ _); rotate_left; focus (first | exact Nat.le_refl _ | omega | exact Below.size (by assumption) | (simp; done) | (simp; omega))) | (with_reducible refine Below.drew ?_) | (with_reducible refine drewN_ ?_ _)))) qb (some g)) (.inl rfl)⟩
      · have r7 : ¬(j2 : Int) < (m : Int) := by omega
        have HMIN : Hid (∀ x, 0 < x → x < m → par x = k → M[j]!.len ≤ M[x]!.len) := by
          intro x hx hxm hpx
          have h1 := HJ.out
          have h2 := HJ2.out
          have : x = j := by unfold par at hpx; omega
          rw [this]; exact Int.le_refl _
        by_cases hlt : M[j]!.len < M[k]!.len
        · have hd2 : decide (M[j]!.len < M[k]!.len) = true := by simpa using hlt
          have HLT := Lib.hid hlt
          clear hlt
          go_wp2_with (first
            | (go_at_call 147; have gg := hl; clear gg; refine (qless_any j k _ hQ.out.own HMN.out hn1 (by omega) (by omega)).mono ?_; rintro e' w3 ⟨rfl, z2, rfl⟩; rw [hd2]; have hQ3 := hQ.out.keep (w' := wr.drewN z2) (by (repeat (first | with_reducible exact Below.refl _ _ | with_reducible assumption | ((with_reducible refine Below.setCell ?_ ?_ _); rotate_left; focus (first | exact Nat.le_refl _ | omega | exact Below.size (by assumption) | (simp; done) | (simp; omega))) | ((with_reducible refine Below.alloc ?_ ?_ _); rotate_left; focus (first | exact Nat.le_refl _ | omega | exact Below.size (by assumption) | (simp; done) | (simp; omega))) | (with_reducible refine Below.drew ?_) | (with_reducible refine drewN_ ?_ _)))); have hs := swapAt hQ3; have HQ3 := Lib.hid hQ3; clear hQ3 hl)
            | (go_at_call 150; refine (qswap_any k j _ HQ3.out.own HMN.out hn1 (by omega) (by omega)).mono ?_; rintro e' w4 ⟨rfl, hO3, hg3⟩; have HQ4 := Lib.hid (HQ3.out.swapped hO3 hg3); have HG3 := Lib.hid hg3; clear hO3 hg3))
          go_roundw
          case rel =>
            have h1 := HJ.out
            have h2 := HJ2.out
            refine ⟨j, _, rfl, by omega, HQ4.out, (swpL_perm (by rw [HMN.out]; omega) (by rw [HMN.out]; omega)).trans hP.out, sinking_step hS.out (by omega) (by omega) (by have := HJP.out; unfold par at *; omega) HMIN.out HLT.out, fun x hx hxn => ?_, (hF.out.trans (below_qf (w := wr) (w' := wr.drewN z2) (by (repeat (first | with_reducible exact Below.refl _ _ | with_reducible assumption | ((with_reducible refine Below.setCell ?_ ?_ _); rotate_left; focus (first | exact Nat.le_refl _ | omega | exact Below.size (by assumption) | (simp; done) | (simp; omega))) | ((with_reducible refine Below.alloc ?_ ?_ _); rotate_left; focus (first | exact Nat.le_refl _ | omega | exact Below.size (by assumption) | (simp; done) | (simp; omega))) | (with_reducible refine Below.drew ?_) | (with_reducible refine drewN_ ?_ _)))) qb (some g)) (.inl rfl)).trans (QF.of_grown HG3.out qb) (.inl rfl)⟩
            rw [swpL_get (by rw [HMN.out]; omega) (by rw [HMN.out]; omega), if_neg (by omega), if_neg (by omega)]
            exact hT.out x hx hxn
          case measure =>
            have h1 := HJ.out
            have h2 := HJ2.out
            simp [intOf]; omega
        · have hd2 : decide (M[j]!.len < M[k]!.len) = false := by simpa using hlt
          have HLT := Lib.hid hlt
          clear hlt
          go_wp2_with (first
            | (go_at_call 147; have gg := hl; clear gg; refine (qless_any j k _ hQ.out.own HMN.out hn1 (by omega) (by omega)).mono ?_; rintro e' w3 ⟨rfl, z2, rfl⟩; rw [hd2]; have hQ3 := hQ.out.keep (w' := wr.drewN z2) (by (repeat (first | with_reducible exact Below.refl _ _ | with_reducible assumption | ((with_reducible refine Below.setCell ?_ ?_ _); rotate_left; focus (first | exact Nat.le_refl _ | omega | exact Below.size (by assumption) | (simp; done) | (simp; omega))) | ((with_reducible refine Below.alloc ?_ ?_ _); rotate_left; focus (first | exact Nat.le_refl _ | omega | exact Below.size (by assumption) | (simp; done) | (simp; omega))) | (with_reducible refine Below.drew ?_) | (with_reducible refine drewN_ ?_ _)))); have hs := swapAt hQ3; have HQ3 := Lib.hid hQ3; clear hQ3 hl))
          go_ret
          exact ⟨⟨_, rfl⟩, M, hQ.out.keep (by (repeat (first | with_reducible exact Below.refl _ _ | with_reducible assumption | ((with_reducible refine Below.setCell ?_ ?_ _); rotate_left; focus (first | exact Nat.le_refl _ | omega | exact Below.size (by assumption) | (simp; done) | (simp; omega))) | ((with_reducible refine Below.alloc ?_ ?_ _); rotate_left; focus (first | exact Nat.le_refl _ | omega | exact Below.size (by assumption) | (simp; done) | (simp; omega))) | (with_reducible refine Below.drew ?_) | (with_reducible refine drewN_ ?_ _)))), hP.out, sinking_done hS.out HMIN.out (by have := HLT.out; omega), hT.out, hF.out.trans (below_qf (w := wr) (w' := wr.drewN z2) (by (repeat (first | with_reducible exact Below.refl _ _ | with_reducible assumption | ((with_reducible refine Below.setCell ?_ ?_ _); rotate_left; focus (first | exact Nat.le_refl _ | omega | exact Below.size (by assumption) | (simp; done) | (simp; omega))) | ((with_reducible refine Below.alloc ?_ ?_ _); rotate_left; focus (first | exact Nat.le_refl _ | omega | exact Below.size (by assumption) | (simp; done) | (simp; omega))) | (with_reducible refine Below.drew ?_) | (with_reducible refine drewN_ ?_ _)))) qb (some g)) (.inl rfl)⟩
    · have r3 : (m : Int) ≤ (j : Int) := by omega
      go_wp2_with fail
      go_ret
      exact ⟨⟨_, rfl⟩, M, hQ.out, hP.out, sinking_leaf hS.out (by have := HJ.out; omega), hT.out, hF.out⟩
end Go.Proofs.YtmplajpbmojkkaaGreat
namespace Go.Vi
open Go
variable {α : Type} [Inhabited α]
theorem heap_append {f : α → Int} {L : List α} (x : α) (h : HeapOK f L) : Rising f (L ++ [x]) L.length := by
  refine ⟨by simp, fun k hk hn he => ?_, fun k hk hn hp _ => ?_⟩
  · simp at hn
    have hkl : k < L.length := by omega
    have hpl : par k < L.length := by unfold par; omega
    rw [getElem!_pos _ _ (by simp; omega), getElem!_pos _ _ (by simp; omega), List.getElem_append_left hkl, List.getElem_append_left hpl, ← getElem!_pos L k hkl, ← getElem!_pos L (par k) hpl]
    exact h k hk hkl (fun e => e)
  · simp at hn
    unfold par at hp
    omega
theorem heap_swapped {f : α → Int} {L : List α} {m : Nat} (h : HeapOK f L) (hm : L.length = m + 1) : Sinking f (swpL L 0 m) m 0 := by
  have h0 : 0 < L.length := by omega
  have h1 : m < L.length := by omega
  refine ⟨by rw [swpL_len]; omega, fun k hk hn he => ?_, fun k _ _ _ h => absurd h (Nat.lt_irrefl _)⟩
  have hp : par k ≠ 0 := he
  have hp2 : par k < k := by unfold par; omega
  rw [swpL_get h0 h1, swpL_get h0 h1, if_neg (by omega), if_neg hp, if_neg (by omega), if_neg (by omega)]
  exact h k hk (by omega) (fun e => e)
theorem heap_popped {f : α → Int} {L M : List α} {m : Nat} (h : HeapOK f L) (hm : L.length = m + 1) (hM : HeapBut f M m fun _ => False) (hp : M.Perm (swpL L 0 m)) (hl : M[m]! = (swpL L 0 m)[m]!) :
    M[m]! = L[0]! ∧ HeapOK f (M.take m) ∧ (L[0]! :: M.take m).Perm L := by
  have h0 : 0 < L.length := by omega
  have h1 : m < L.length := by omega
  have e : M[m]! = L[0]! := by rw [hl, swpL_get h0 h1, if_pos rfl]
  have hML : M.length = m + 1 := by rw [hp.length_eq, swpL_len, hm]
  refine ⟨e, fun k hk hn _ => ?_, ?_⟩
  · rw [List.length_take, Nat.min_eq_left (by omega)] at hn
    have hpk : par k < m := by unfold par; omega
    have q := hM k hk hn (fun e => e)
    have g : ∀ i, i < m → (M.take m)[i]! = M[i]! := fun i hi => by
      rw [getElem!_pos _ _ (by simp; omega), getElem!_pos _ _ (by omega), List.getElem_take]
    rw [g _ hpk, g _ hn]; exact q
  · have hsp : M.take m ++ [M[m]!] = M := by
      have := List.take_succ_eq_append_getElem (l := M) (i := m) (by omega)
      rw [getElem!_pos _ _ (by omega), ← this, List.take_of_length_le (by omega)]
    have p1 : (L[0]! :: M.take m).Perm (M.take m ++ [M[m]!]) := by rw [e]; exact (List.perm_append_singleton _ _).symm
    rw [hsp] at p1
    exact (p1.trans hp).trans (swpL_perm h0 h1)
end Go.Vi
namespace Go.Proofs.YtmplajpbmojkkaaGreat
open Go Go.RowKit Go.Vi
theorem pushAt {w : World} {qb : Nat} (fuel : Nat) : (method (fuel + 1) 201 (.pointer (some ⟨qb, 0, none⟩)) "Push").run Tryz.prog w = .ok (149, .pointer (some ⟨qb, 0, none⟩)) w := method_ptr uQP mPush
theorem popAt {w : World} {qb : Nat} (fuel : Nat) : (method (fuel + 1) 201 (.pointer (some ⟨qb, 0, none⟩)) "Pop").run Tryz.prog w = .ok (148, .pointer (some ⟨qb, 0, none⟩)) w := method_ptr uQP mPop
set_option maxRecDepth 100000 in
set_option maxHeartbeats 1000000 in
theorem hpush_any {B g qb n cap : Nat} {L : List Hp} (x : Hp) (w : World) (h : QAt w B qb (.slice (some ⟨g, 0, none⟩) n cap) L) (hn : L.length = n) (hn1 : n ≤ 90000) (hB : B ≤ w.heap.size) (hH : HeapOK Hp.len L) :
    Calls Tryz.prog 89 #[.iface 201 (.pointer (some ⟨qb, 0, none⟩)), .iface 193 x.v] w fun e w' => e = .returned (.tuple #[]) ∧ ∃ g' cap' L', QAt w' B qb (.slice (some ⟨g', 0, none⟩) (n + 1) cap') L' ∧ L'.Perm (x :: L) ∧ HeapOK Hp.len L' ∧ QF w w' qb (some g) ∧ (g' = g ∨ w.heap.size ≤ g') := by
  have HQ := Lib.hid h
  have HN := Lib.hid hn
  have HH := Lib.hid hH
  have hpa := fun (W : World) fuel => pushAt (w := W) (qb := qb) fuel
  have q1 : ((n + 1 : Nat) : Int) - 1 = (n : Int) := by omega
  have q2 : (n : Int) + 1 - 1 = (n : Int) := by omega
  have q3 : IntKind.i64.wrap (n : Int) = (n : Int) := IntWalk.i64_in _ (by omega)
  clear h hn hH
  go_enter Tryz.func89, Tryz.ntmps89
  go_wp2_with (first
    | (go_at_call 149; refine (qpush_any x _ HQ.out HN.out (by omega) hB).mono ?_; rintro e' w1 ⟨rfl, g1, cap1, hQ1, hF1, hg1⟩; have hl := lenAt hQ1; have HQ1 := Lib.hid hQ1; have HF1 := Lib.hid hF1; have HG1 := Lib.hid hg1; clear hQ1 hF1 hg1)
    | (go_at_call 87; refine (qlen_any _ _ _ _).mono ?_; rintro e' w2 ⟨rfl, rfl⟩)
    | (go_at_call 110; refine (up_any n _ HQ1.out (by rw [List.length_append, HN.out]; rfl) (by omega) (by have := heap_append x HH.out; rw [HN.out] at this; exact this)).mono ?_; rintro e' w3 ⟨rfl, L', hQ3, hP3, hH3, hF3⟩; have H3 := Lib.hid (⟨hQ3, hP3, hH3, hF3⟩ : _ ∧ _ ∧ _ ∧ _); clear hQ3 hP3 hH3 hF3))
  go_end0
  obtain ⟨a, b, c, d⟩ := H3.out
  exact ⟨rfl, g1, cap1, L', a, b.trans (List.perm_append_singleton _ _), c, HF1.out.trans d (HG1.out.elim (fun e => .inl (by rw [e])) (fun e => .inr (fun g2 hg2 => by injection hg2 with hg2; omega))), HG1.out⟩
set_option maxRecDepth 100000 in
set_option maxHeartbeats 1000000 in
theorem hpop_any {B g qb n cap : Nat} {L : List Hp} (w : World) (h : QAt w B qb (.slice (some ⟨g, 0, none⟩) (n + 1) cap) L) (hn : L.length = n + 1) (hn1 : n ≤ 90000) (hH : HeapOK Hp.len L) :
    Calls Tryz.prog 88 #[.iface 201 (.pointer (some ⟨qb, 0, none⟩))] w fun e w' => e = .returned (.iface 193 L[0]!.v) ∧ ∃ L', QAt w' B qb (.slice (some ⟨g, 0, none⟩) n cap) L' ∧ (L[0]! :: L').Perm L ∧ HeapOK Hp.len L' ∧ QF w w' qb (some g) := by
  have HQ := Lib.hid h
  have HN := Lib.hid hn
  have HH := Lib.hid hH
  have hl := lenAt h
  have hs := swapAt h
  have hpa := fun (W : World) fuel => popAt (w := W) (qb := qb) fuel
  have q1 : ((n + 1 : Nat) : Int) - 1 = (n : Int) := by omega
  have q2 : (n : Int) + 1 - 1 = (n : Int) := by omega
  have q3 : IntKind.i64.wrap (n : Int) = (n : Int) := IntWalk.i64_in _ (by omega)
  clear h hn hH
  obtain ⟨y, hy⟩ : ∃ y, y = L[0]! := ⟨_, rfl⟩
  rw [← hy]
  have HY := Lib.hid hy
  clear hy
  go_enter Tryz.func88, Tryz.ntmps88
  go_wp2_with (first
    | (go_at_call 87; refine (qlen_any _ _ _ _).mono ?_; rintro e' w2 ⟨rfl, rfl⟩)
    | (go_at_call 150; refine (qswap_any 0 n _ HQ.out.own HN.out (by omega) (by omega) (by omega)).mono ?_; rintro e' w4 ⟨rfl, hO3, hg3⟩; have HQ4 := Lib.hid (HQ.out.swapped hO3 hg3); have HG4 := Lib.hid hg3; clear hO3 hg3)
    | (go_at_call 109; refine (down_any 0 n _ HQ4.out (by rw [swpL_len]; exact HN.out) (by omega) (by omega) (by omega) (heap_swapped HH.out HN.out)).mono ?_; rintro e' w3 ⟨⟨bb, rfl⟩, M, hQ3, hP3, hH3, hT3, hF3⟩; have HQ3 := Lib.hid hQ3; have H3 := Lib.hid (⟨hP3, hH3, hT3, hF3⟩ : _ ∧ _ ∧ _ ∧ _); clear hQ3 hP3 hH3 hT3 hF3)
    | (go_at_call 148; refine (qpop_any _ HQ3.out (by rw [H3.out.1.length_eq, swpL_len]; exact HN.out) (by omega) (by omega)).mono ?_; rintro e' w5 ⟨he, hQ5, hF5⟩; have hpp := heap_popped HH.out HN.out H3.out.2.1 H3.out.1 (H3.out.2.2.1 n (Nat.le_refl _) (Nat.lt_succ_self _)); rw [Nat.add_sub_cancel, hpp.1, ← HY.out] at he; subst he; have HPP := Lib.hid hpp; clear hpp; have HQ5 := Lib.hid hQ5; have HF5 := Lib.hid hF5; clear hQ5 hF5))
  go_ret
  obtain ⟨a, b, c, d⟩ := H3.out
  obtain ⟨e1, e2, e3⟩ := HPP.out
  simp only [Nat.add_sub_cancel] at HQ5
  rw [← HY.out] at e3
  exact ⟨rfl, M.take n, HQ5.out, e3, e2, ((QF.of_grown HG4.out qb).trans d (.inl rfl)).trans HF5.out (.inl rfl)⟩
end Go.Proofs.YtmplajpbmojkkaaGreat
