/-
  The model's checkClocks: what it accepts.
-/
import Derived.Test.YthkhgfdjdpfoiaaTripC
import Derived.Deep.RegionHeld3
set_option linter.unusedSimpArgs false
set_option linter.unusedVariables false
namespace Go.Proofs.Ythkhgfdjdpfoiaa
open Go Go.RowKit Go.Vi
def clkOK (C : List Clk) (k : Nat) : Prop := (1 ≤ C[k]!.dev ∧ C[k]!.dev ≤ 1073741824) ∧ (0 < k → C[k - 1]!.dev < C[k]!.dev) ∧ (-1048576 ≤ C[k]!.off ∧ C[k]!.off ≤ 1048576)
def sncOK (C : List Clk) (x : Snc) : Prop := hasOff C x.dev = true ∧ x.dev ≠ 0 ∧ (0 ≤ x.sent ∧ x.sent ≤ 1073741824) ∧ (0 ≤ x.out ∧ x.out ≤ 1073741824) ∧ (0 ≤ x.back ∧ x.back ≤ 1073741824) ∧ (0 ≤ x.so ∧ x.so ≤ x.out) ∧ (0 ≤ x.sb ∧ x.sb ≤ x.back)
def gapOK (X : List Snc) (c : Clk) : Prop := c.off = 0 ∨ ∃ x ∈ X, x.dev = c.dev
structure ClocksOK (S : Scn) : Prop where
  clk : ∀ k, k < S.clocks.length → clkOK S.clocks k
  dev : ∀ k, k < S.trips.length → hasOff S.clocks S.trips[k]!.dev = true
  snc : ∀ k, k < S.syncs.length → sncOK S.clocks S.syncs[k]!
  gap : ∀ k, k < S.clocks.length → gapOK S.syncs S.clocks[k]!
theorem inB_from {n lo hi : Int} (h : (!inB n lo hi) = false) : inB n lo hi = true := by simpa using h
theorem not_from {b : Bool} (h : (!b) = false) : b = true := by simpa using h
set_option maxRecDepth 100000 in
set_option maxHeartbeats 8000000 in
theorem checkClocks_any (S : Scn) (v1 v2 v3 v4 v5 : Value) (w : World) (hS : ScnAt w.heap.size w v1 v2 v3 v4 v5 S) (hz1 : S.clocks.length ≤ 1000) (hz2 : S.trips.length ≤ 1000) (hz3 : S.syncs.length ≤ 1000) :
    Calls Try.prog 33 #[S.v v1 v2 v3 v4 v5] w fun e w' => (∃ c : Int, e = .returned (.int .i64 c) ∧ (c = 0 → ClocksOK S)) ∧ Below w.heap.size w w' := by
  obtain ⟨a3, n3, c3, rfl, hn3, hn31, hn32⟩ := hS.trips.open
  obtain ⟨a4, n4, c4, rfl, hn4, hn41, hn42⟩ := hS.clocks.open
  obtain ⟨a5, n5, c5, rfl, hn5, hn51, hn52⟩ := hS.syncs.open
  rw [List.length_map] at hn4 hn5
  rw [hn4] at hz1
  rw [hn3] at hz2
  rw [hn5] at hz3
  have HS := Lib.hid hS
  have HN3 := Lib.hid hn3
  have HN4 := Lib.hid hn4
  have HN5 := Lib.hid hn5
  clear hS hn3 hn4 hn5 hn32 hn42 hn52 hn31 hn41 hn51
  go_enter Try.func33, Try.ntmps33
  go_wp2
  obtain ⟨W0, hW0⟩ : ∃ W0, W0 = w.alloc (.cells #[v1, v2, .int .i64 S.gap, .slice a3 n3 c3, .slice a4 n4 c4, .slice a5 n5 c5] 40) := ⟨_, rfl⟩
  have hP := obj_last w (.cells #[v1, v2, .int .i64 S.gap, .slice a3 n3 c3, .slice a4 n4 c4, .slice a5 n5 c5] 40)
  have hB0 := (Below.refl w.heap.size w).alloc (Nat.le_refl _) (.cells #[v1, v2, .int .i64 S.gap, .slice a3 n3 c3, .slice a4 n4 c4, .slice a5 n5 c5] 40)
  rw [← hW0] at hP hB0 ⊢
  have P := Lib.hid hP
  have B0 := Lib.hid hB0
  clear hP hB0 hW0
  go_loopw [3] (fun s3 wr => ∃ k : Nat, s3 = .int .i64 k ∧ k ≤ n4 ∧ Hid (∀ j, j < k → clkOK S.clocks j) ∧ Hid (Below W0.heap.size W0 wr)) (fun s3 _ => n4 - (intOf s3).toNat)
  case atStart => exact ⟨0, rfl, Nat.zero_le _, fun j hj => absurd hj (Nat.not_lt_zero _), Below.refl _ _⟩
  case round =>
    obtain ⟨k, rfl, hk, hQ, hB⟩ := hrel
    have hPw := keepObj hB.out P.out
    have l3 := obj_cell hPw 3
    have l4 := obj_cell hPw 4
    have l5 := obj_cell hPw 5
    simp at l3 l4 l5
    have zb := obj_lt hPw
    have PW := Lib.hid hPw
    have BW := Lib.hid (B0.out.trans (hB.out.mono B0.out.size))
    clear hPw
    by_cases hlt : k < n4
    · have hkl : k < S.clocks.length := by rw [HN4.out]; exact hlt
      obtain ⟨b, off, rfl, hb, hcs⟩ := HS.out.clocks.cells k hkl
      have k0 : w.cell? ⟨b, off + k * 2, none⟩ = _ := hcs k hkl 0 _ rfl
      have k1 : w.cell? ⟨b, off + k * 2 + 1, none⟩ = _ := hcs k hkl 1 _ rfl
      rw [← BW.out.cell (p := ⟨b, _, none⟩) hb] at k0 k1
      have hzb : b < wr.heap.size := by have := BW.out.size; omega
      obtain ⟨x, hx⟩ : ∃ x, x = S.clocks[k]! := ⟨_, rfl⟩
      rw [← hx] at k0 k1
      have HX := Lib.hid hx
      by_cases hk0 : k = 0
      · have hk0' : decide (0 < k) = false := by simp; omega
        have hk1' : decide ((0 : Int) < (k : Int)) = false := by simp; omega
        have HK0 := Lib.hid hk0
        clear hcs hx hk0
        go_wp2_with (go_at_call 31; refine (within_any _ _ _ _).mono ?_; rintro e w' ⟨rfl, rfl⟩)
        · go_ret
          exact ⟨⟨_, rfl, fun h => absurd h (by decide)⟩, by have h := BW.out; (repeat (first | with_reducible exact Below.refl _ _ | with_reducible assumption | ((with_reducible refine Below.setCell ?_ ?_ _); rotate_left; focus (first | exact Nat.le_refl _ | omega | exact Below.size (by assumption) | (simp; done) | (simp; omega))) | ((with_reducible refine Below.alloc ?_ ?_ _); rotate_left; focus (first | exact Nat.le_refl _ | omega | exact Below.size (by assumption) | (simp; done) | (simp; omega))) | (with_reducible refine Below.drew ?_) | (with_reducible refine drewN_ ?_ _)))⟩
        · have q1 : inB x.dev 1 1073741824 = true := inB_from (by assumption)
          go_quiet (fail)
          go_wp2_with (go_at_call 31; refine (within_any _ _ _ _).mono ?_; rintro e w' ⟨rfl, rfl⟩)
          · go_ret
            exact ⟨⟨_, rfl, fun h => absurd h (by decide)⟩, by have h := BW.out; (repeat (first | with_reducible exact Below.refl _ _ | with_reducible assumption | ((with_reducible refine Below.setCell ?_ ?_ _); rotate_left; focus (first | exact Nat.le_refl _ | omega | exact Below.size (by assumption) | (simp; done) | (simp; omega))) | ((with_reducible refine Below.alloc ?_ ?_ _); rotate_left; focus (first | exact Nat.le_refl _ | omega | exact Below.size (by assumption) | (simp; done) | (simp; omega))) | (with_reducible refine Below.drew ?_) | (with_reducible refine drewN_ ?_ _)))⟩
          · have q2 : inB x.off (-1048576) 1048576 = true := inB_from (by assumption)
            go_roundw
            case rel =>
              refine ⟨k + 1, by go_num, by omega, fun j hj => ?_, by have h := hB.out; show Below _ _ _; (repeat (first | with_reducible exact Below.refl _ _ | with_reducible assumption | ((with_reducible refine Below.setCell ?_ ?_ _); rotate_left; focus (first | exact Nat.le_refl _ | omega | exact Below.size (by assumption) | (simp; done) | (simp; omega))) | ((with_reducible refine Below.alloc ?_ ?_ _); rotate_left; focus (first | exact Nat.le_refl _ | omega | exact Below.size (by assumption) | (simp; done) | (simp; omega))) | (with_reducible refine Below.drew ?_) | (with_reducible refine drewN_ ?_ _)))⟩
              rcases Nat.lt_succ_iff_lt_or_eq.1 hj with h1 | h1
              · exact hQ.out j h1
              · subst h1
                rw [inB_iff] at q1 q2
                exact ⟨by rw [← HX.out]; exact q1, fun h => absurd HK0.out (by omega), by rw [← HX.out]; exact q2⟩
            case measure => simp [intOf]; omega
      · obtain ⟨j, hj⟩ : ∃ j, j + 1 = k := ⟨k - 1, by omega⟩
        have y0 : w.cell? ⟨b, off + j * 2, none⟩ = _ := hcs j (by omega) 0 _ rfl
        rw [← BW.out.cell (p := ⟨b, _, none⟩) hb] at y0
        obtain ⟨y, hy⟩ : ∃ y, y = S.clocks[j]! := ⟨_, rfl⟩
        rw [← hy] at y0
        have hj1 : (k : Int) - 1 = (j : Int) := by omega
        have hj2 : IntKind.i64.wrap (j : Int) = (j : Int) := IntWalk.i64_in _ (by omega)
        have hj3 : (0 : Int) < (k : Int) := by omega
        have hj4 : (j : Int) < (n4 : Int) := by omega
        have hj5 : j < n4 := by omega
        have hj6 : 0 < k := by omega
        have HJ := Lib.hid hj
        have HY := Lib.hid hy
        clear hcs hx hy hj
        go_wp2_with (go_at_call 31; refine (within_any _ _ _ _).mono ?_; rintro e w' ⟨rfl, rfl⟩)
        · go_ret
          exact ⟨⟨_, rfl, fun h => absurd h (by decide)⟩, by have h := BW.out; (repeat (first | with_reducible exact Below.refl _ _ | with_reducible assumption | ((with_reducible refine Below.setCell ?_ ?_ _); rotate_left; focus (first | exact Nat.le_refl _ | omega | exact Below.size (by assumption) | (simp; done) | (simp; omega))) | ((with_reducible refine Below.alloc ?_ ?_ _); rotate_left; focus (first | exact Nat.le_refl _ | omega | exact Below.size (by assumption) | (simp; done) | (simp; omega))) | (with_reducible refine Below.drew ?_) | (with_reducible refine drewN_ ?_ _)))⟩
        · have q1 : inB x.dev 1 1073741824 = true := inB_from (by assumption)
          go_quiet (fail)
          by_cases hd : x.dev ≤ y.dev
          · go_wp2
            go_ret
            exact ⟨⟨_, rfl, fun h => absurd h (by decide)⟩, by have h := BW.out; (repeat (first | with_reducible exact Below.refl _ _ | with_reducible assumption | ((with_reducible refine Below.setCell ?_ ?_ _); rotate_left; focus (first | exact Nat.le_refl _ | omega | exact Below.size (by assumption) | (simp; done) | (simp; omega))) | ((with_reducible refine Below.alloc ?_ ?_ _); rotate_left; focus (first | exact Nat.le_refl _ | omega | exact Below.size (by assumption) | (simp; done) | (simp; omega))) | (with_reducible refine Below.drew ?_) | (with_reducible refine drewN_ ?_ _)))⟩
          · go_wp2_with (go_at_call 31; refine (within_any _ _ _ _).mono ?_; rintro e w' ⟨rfl, rfl⟩)
            · go_ret
              exact ⟨⟨_, rfl, fun h => absurd h (by decide)⟩, by have h := BW.out; (repeat (first | with_reducible exact Below.refl _ _ | with_reducible assumption | ((with_reducible refine Below.setCell ?_ ?_ _); rotate_left; focus (first | exact Nat.le_refl _ | omega | exact Below.size (by assumption) | (simp; done) | (simp; omega))) | ((with_reducible refine Below.alloc ?_ ?_ _); rotate_left; focus (first | exact Nat.le_refl _ | omega | exact Below.size (by assumption) | (simp; done) | (simp; omega))) | (with_reducible refine Below.drew ?_) | (with_reducible refine drewN_ ?_ _)))⟩
            · have q2 : inB x.off (-1048576) 1048576 = true := inB_from (by assumption)
              go_roundw
              case rel =>
                refine ⟨k + 1, by go_num, by omega, fun i hi => ?_, by have h := hB.out; show Below _ _ _; (repeat (first | with_reducible exact Below.refl _ _ | with_reducible assumption | ((with_reducible refine Below.setCell ?_ ?_ _); rotate_left; focus (first | exact Nat.le_refl _ | omega | exact Below.size (by assumption) | (simp; done) | (simp; omega))) | ((with_reducible refine Below.alloc ?_ ?_ _); rotate_left; focus (first | exact Nat.le_refl _ | omega | exact Below.size (by assumption) | (simp; done) | (simp; omega))) | (with_reducible refine Below.drew ?_) | (with_reducible refine drewN_ ?_ _)))⟩
                rcases Nat.lt_succ_iff_lt_or_eq.1 hi with h1 | h1
                · exact hQ.out i h1
                · subst h1
                  rw [inB_iff] at q1 q2
                  refine ⟨by rw [← HX.out]; exact q1, fun h => ?_, by rw [← HX.out]; exact q2⟩
                  have hj := HJ.out
                  subst hj
                  rw [Nat.add_sub_cancel, ← HX.out, ← HY.out]; omega
              case measure => simp [intOf]; omega
    · obtain rfl : k = n4 := by omega
      have HQ1 := Lib.hid (fun j (hj : j < S.clocks.length) => hQ.out j (by have := HN4.out; omega))
      obtain ⟨wo, rfl⟩ : ∃ wo : World, wo = wr := ⟨_, rfl⟩
      go_wp2_with fail
      go_loopw [5] (fun s5 wr => ∃ k2 : Nat, s5 = .int .i64 k2 ∧ k2 ≤ n3 ∧ Hid (∀ j, j < k2 → hasOff S.clocks S.trips[j]!.dev = true) ∧ Hid (Below wo.heap.size wo wr)) (fun s5 _ => n3 - (intOf s5).toNat)
      case atStart => exact ⟨0, rfl, Nat.zero_le _, fun j hj => absurd hj (Nat.not_lt_zero _), Below.refl _ _⟩
      case round =>
        obtain ⟨k2, rfl, hk2, hQ2, hB2⟩ := hrel
        have hPw := keepObj hB2.out PW.out
        have l0 := obj_cell hPw 0
        have l1 := obj_cell hPw 1
        have l2 := obj_cell hPw 2
        have m3 := obj_cell hPw 3
        have m4 := obj_cell hPw 4
        have m5 := obj_cell hPw 5
        simp at l0 l1 l2 m3 m4 m5
        have zb2 := obj_lt hPw
        have PW2 := Lib.hid hPw
        have BW2 := Lib.hid (BW.out.trans (hB2.out.mono BW.out.size))
        clear hPw l3 l4 l5 zb
        by_cases hlt2 : k2 < n3
        · have hkl : k2 < S.trips.length := by rw [HN3.out]; exact hlt2
          obtain ⟨b, off, rfl, hb, hcs⟩ := HS.out.trips.at k2 hkl
          obtain ⟨v, _, t0, t1, _, _, _⟩ := hcs k2 hkl
          rw [← BW2.out.cell (p := ⟨b, _, none⟩) hb] at t1
          have hzb : b < wr.heap.size := by have := BW2.out.size; omega
          obtain ⟨d, hd⟩ : ∃ d, d = S.trips[k2]!.dev := ⟨_, rfl⟩
          rw [← hd] at t1
          have HD := Lib.hid hd
          clear hd hcs t0
          go_wp2_with fail
          go_region_held3 (fun w' => w'.cell? ⟨w.heap.size, 0, none⟩ = some v1 ∧ w'.cell? ⟨w.heap.size, 1, none⟩ = some v2 ∧ w'.cell? ⟨w.heap.size, 2, none⟩ = some (.int .i64 S.gap) ∧ w'.cell? ⟨w.heap.size, 3, none⟩ = some (.slice (some ⟨b, off, none⟩) n3 c3) ∧ w'.cell? ⟨w.heap.size, 4, none⟩ = some (.slice a4 k c4) ∧ w'.cell? ⟨w.heap.size, 5, none⟩ = some (.slice a5 n5 c5) ∧ w'.cell? ⟨b, off + k2 * 5 + 1, none⟩ = some (.int .i64 d))
            ((first | (go_split_ands; refine ⟨?_, ?_, ?_, ?_, ?_, ?_, ?_⟩ <;> assumption) | (go_split_ands; exact ⟨y0, y1, y2, y3, y4, y5, y6⟩)))
            ((go_at_call 35; refine (offset_any S v1 v2 _ _ _ d _ (HS.out.clocks.later (by have h := BW2.out; (repeat (first | with_reducible exact Below.refl _ _ | with_reducible assumption | ((with_reducible refine Below.setCell ?_ ?_ _); rotate_left; focus (first | exact Nat.le_refl _ | omega | exact Below.size (by assumption) | (simp; done) | (simp; omega))) | ((with_reducible refine Below.alloc ?_ ?_ _); rotate_left; focus (first | exact Nat.le_refl _ | omega | exact Below.size (by assumption) | (simp; done) | (simp; omega))) | (with_reducible refine Below.drew ?_) | (with_reducible refine drewN_ ?_ _))))) (by rw [HN4.out]; exact hz1)).mono ?_; rintro e w2 ⟨rfl, hb2⟩; have hq := keepObj hb2 (obj_drew PW2.out); have y0 := obj_cell hq 0; have y1 := obj_cell hq 1; have y2 := obj_cell hq 2; have y3 := obj_cell hq 3; have y4 := obj_cell hq 4; have y5 := obj_cell hq 5; simp at y0 y1 y2 y3 y4 y5; have y6 := (hb2.cell (p := ⟨b, off + k2 * 5 + 1, none⟩) (show b < wr.heap.size from hzb)).trans t1; have B3 := Lib.hid (from_ (w := wo) hb2 (by have h := hB2.out; (repeat (first | with_reducible exact Below.refl _ _ | with_reducible assumption | ((with_reducible refine Below.setCell ?_ ?_ _); rotate_left; focus (first | exact Nat.le_refl _ | omega | exact Below.size (by assumption) | (simp; done) | (simp; omega))) | ((with_reducible refine Below.alloc ?_ ?_ _); rotate_left; focus (first | exact Nat.le_refl _ | omega | exact Below.size (by assumption) | (simp; done) | (simp; omega))) | (with_reducible refine Below.drew ?_) | (with_reducible refine drewN_ ?_ _))))); clear hb2 hq))
          go_wp2_with fail
          · go_ret
            exact ⟨⟨_, rfl, fun h => absurd h (by decide)⟩, by have h := BW.out.trans (B3.out.mono BW.out.size); (repeat (first | with_reducible exact Below.refl _ _ | with_reducible assumption | ((with_reducible refine Below.setCell ?_ ?_ _); rotate_left; focus (first | exact Nat.le_refl _ | omega | exact Below.size (by assumption) | (simp; done) | (simp; omega))) | ((with_reducible refine Below.alloc ?_ ?_ _); rotate_left; focus (first | exact Nat.le_refl _ | omega | exact Below.size (by assumption) | (simp; done) | (simp; omega))) | (with_reducible refine Below.drew ?_) | (with_reducible refine drewN_ ?_ _)))⟩
          · have q1 : hasOff S.clocks d = true := not_from (by assumption)
            go_roundw
            case rel =>
              refine ⟨k2 + 1, by go_num, by omega, fun i hi => ?_, by have h := B3.out; show Below _ _ _; (repeat (first | with_reducible exact Below.refl _ _ | with_reducible assumption | ((with_reducible refine Below.setCell ?_ ?_ _); rotate_left; focus (first | exact Nat.le_refl _ | omega | exact Below.size (by assumption) | (simp; done) | (simp; omega))) | ((with_reducible refine Below.alloc ?_ ?_ _); rotate_left; focus (first | exact Nat.le_refl _ | omega | exact Below.size (by assumption) | (simp; done) | (simp; omega))) | (with_reducible refine Below.drew ?_) | (with_reducible refine drewN_ ?_ _)))⟩
              rcases Nat.lt_succ_iff_lt_or_eq.1 hi with h1 | h1
              · exact hQ2.out i h1
              · subst h1; rw [← HD.out]; exact q1
            case measure => simp [intOf]; omega
        · obtain rfl : k2 = n3 := by omega
          have HQ2 := Lib.hid (fun j (hj : j < S.trips.length) => hQ2.out j (by have := HN3.out; omega))
          obtain ⟨wq, rfl⟩ : ∃ wq : World, wq = wr := ⟨_, rfl⟩
          go_wp2_with fail
          go_loopw [8] (fun s8 wr => ∃ k3 : Nat, s8 = .int .i64 k3 ∧ k3 ≤ n5 ∧ Hid (∀ j, j < k3 → sncOK S.clocks S.syncs[j]!) ∧ Hid (Below wq.heap.size wq wr)) (fun s8 _ => n5 - (intOf s8).toNat)
          case atStart => exact ⟨0, rfl, Nat.zero_le _, fun j hj => absurd hj (Nat.not_lt_zero _), Below.refl _ _⟩
          case round =>
            obtain ⟨k3, rfl, hk3, hQ3, hB3⟩ := hrel
            have hPw := keepObj hB3.out PW2.out
            have x0 := obj_cell hPw 0
            have x1 := obj_cell hPw 1
            have x2 := obj_cell hPw 2
            have x3 := obj_cell hPw 3
            have x4 := obj_cell hPw 4
            have x5 := obj_cell hPw 5
            simp at x0 x1 x2 x3 x4 x5
            have zb3 := obj_lt hPw
            have PW3 := Lib.hid hPw
            have BW3 := Lib.hid (BW2.out.trans (hB3.out.mono BW2.out.size))
            clear hPw l0 l1 l2 m3 m4 m5
            by_cases hlt3 : k3 < n5
            · have hkl : k3 < S.syncs.length := by rw [HN5.out]; exact hlt3
              obtain ⟨b, off, rfl, hb, hcs⟩ := HS.out.syncs.cells k3 hkl
              have t0 : w.cell? ⟨b, off + k3 * 6, none⟩ = _ := hcs k3 hkl 0 _ rfl
              have t1 : w.cell? ⟨b, off + k3 * 6 + 1, none⟩ = _ := hcs k3 hkl 1 _ rfl
              have t2 : w.cell? ⟨b, off + k3 * 6 + 2, none⟩ = _ := hcs k3 hkl 2 _ rfl
              have t3 : w.cell? ⟨b, off + k3 * 6 + 3, none⟩ = _ := hcs k3 hkl 3 _ rfl
              have t4 : w.cell? ⟨b, off + k3 * 6 + 4, none⟩ = _ := hcs k3 hkl 4 _ rfl
              have t5 : w.cell? ⟨b, off + k3 * 6 + 5, none⟩ = _ := hcs k3 hkl 5 _ rfl
              rw [← BW3.out.cell (p := ⟨b, _, none⟩) hb] at t0 t1 t2 t3 t4 t5
              have hzb : b < wr.heap.size := by have := BW3.out.size; omega
              obtain ⟨x, hx⟩ : ∃ x, x = S.syncs[k3]! := ⟨_, rfl⟩
              rw [← hx] at t0 t1 t2 t3 t4 t5
              have HX := Lib.hid hx
              clear hcs hx
              go_wp2_with (first | (go_at_call 31; refine (within_any _ _ _ _).mono ?_; rintro e w' ⟨rfl, rfl⟩) | (go_at_call 35; refine (offset_any S v1 v2 _ _ _ x.dev _ (HS.out.clocks.later (by have h := BW3.out; (repeat (first | with_reducible exact Below.refl _ _ | with_reducible assumption | ((with_reducible refine Below.setCell ?_ ?_ _); rotate_left; focus (first | exact Nat.le_refl _ | omega | exact Below.size (by assumption) | (simp; done) | (simp; omega))) | ((with_reducible refine Below.alloc ?_ ?_ _); rotate_left; focus (first | exact Nat.le_refl _ | omega | exact Below.size (by assumption) | (simp; done) | (simp; omega))) | (with_reducible refine Below.drew ?_) | (with_reducible refine drewN_ ?_ _))))) (by rw [HN4.out]; exact hz1)).mono ?_; rintro e w2 ⟨rfl, hb2⟩; have hq := keepObj hb2 (obj_last wr (.cells #[.int .i64 x.dev, .int .i64 x.sent, .int .i64 x.out, .int .i64 x.back, .int .i64 x.so, .int .i64 x.sb] 62)); have y0 := obj_cell hq 0; have y1 := obj_cell hq 1; have y2 := obj_cell hq 2; have y3 := obj_cell hq 3; have y4 := obj_cell hq 4; have y5 := obj_cell hq 5; simp at y0 y1 y2 y3 y4 y5; have zq := obj_lt hq; have B4 := Lib.hid (from_ (w := wq) hb2 (by have h := hB3.out; (repeat (first | with_reducible exact Below.refl _ _ | with_reducible assumption | ((with_reducible refine Below.setCell ?_ ?_ _); rotate_left; focus (first | exact Nat.le_refl _ | omega | exact Below.size (by assumption) | (simp; done) | (simp; omega))) | ((with_reducible refine Below.alloc ?_ ?_ _); rotate_left; focus (first | exact Nat.le_refl _ | omega | exact Below.size (by assumption) | (simp; done) | (simp; omega))) | (with_reducible refine Below.drew ?_) | (with_reducible refine drewN_ ?_ _))))); clear hb2 hq))
              all_goals first
                | (go_ret; exact ⟨⟨_, rfl, fun h => absurd h (by decide)⟩, by have h := BW2.out.trans (B4.out.mono BW2.out.size); (repeat (first | with_reducible exact Below.refl _ _ | with_reducible assumption | ((with_reducible refine Below.setCell ?_ ?_ _); rotate_left; focus (first | exact Nat.le_refl _ | omega | exact Below.size (by assumption) | (simp; done) | (simp; omega))) | ((with_reducible refine Below.alloc ?_ ?_ _); rotate_left; focus (first | exact Nat.le_refl _ | omega | exact Below.size (by assumption) | (simp; done) | (simp; omega))) | (with_reducible refine Below.drew ?_) | (with_reducible refine drewN_ ?_ _)))⟩)
                | skip
              have q0 : hasOff S.clocks x.dev = true := by first | assumption | exact not_from (by assumption)
              have q1 : (x.dev == 0) = false := by assumption
              have q2 : inB x.sent 0 1073741824 = true := by first | assumption | exact inB_from (by assumption)
              have q3 : inB x.out 0 1073741824 = true := by first | assumption | exact inB_from (by assumption)
              have q4 : inB x.back 0 1073741824 = true := by first | assumption | exact inB_from (by assumption)
              have q5 : inB x.so 0 x.out = true := by first | assumption | exact inB_from (by assumption)
              have q6 : inB x.sb 0 x.back = true := by first | assumption | exact inB_from (by assumption)
              go_roundw
              case rel =>
                refine ⟨k3 + 1, by go_num, by omega, fun i hi => ?_, by have h := B4.out; show Below _ _ _; (repeat (first | with_reducible exact Below.refl _ _ | with_reducible assumption | ((with_reducible refine Below.setCell ?_ ?_ _); rotate_left; focus (first | exact Nat.le_refl _ | omega | exact Below.size (by assumption) | (simp; done) | (simp; omega))) | ((with_reducible refine Below.alloc ?_ ?_ _); rotate_left; focus (first | exact Nat.le_refl _ | omega | exact Below.size (by assumption) | (simp; done) | (simp; omega))) | (with_reducible refine Below.drew ?_) | (with_reducible refine drewN_ ?_ _)))⟩
                rcases Nat.lt_succ_iff_lt_or_eq.1 hi with h1 | h1
                · exact hQ3.out i h1
                · subst h1
                  rw [inB_iff] at q2 q3 q4 q5 q6
                  rw [← HX.out]
                  exact ⟨q0, by simpa using q1, q2, q3, q4, q5, q6⟩
              case measure => simp [intOf]; omega
            · obtain rfl : k3 = n5 := by omega
              have HQ3 := Lib.hid (fun j (hj : j < S.syncs.length) => hQ3.out j (by have := HN5.out; omega))
              obtain ⟨wz, rfl⟩ : ∃ wz : World, wz = wr := ⟨_, rfl⟩
              go_wp2_with fail
              go_loopw [12] (fun s12 wr => ∃ k4 : Nat, s12 = .int .i64 k4 ∧ k4 ≤ k ∧ Hid (∀ j, j < k4 → gapOK S.syncs S.clocks[j]!) ∧ Hid (Below wz.heap.size wz wr)) (fun s12 _ => k - (intOf s12).toNat)
              case atStart => exact ⟨0, rfl, Nat.zero_le _, fun j hj => absurd hj (Nat.not_lt_zero _), Below.refl _ _⟩
              case round =>
                obtain ⟨k4, rfl, hk4, hQ4, hB4⟩ := hrel
                have hPw := keepObj hB4.out PW3.out
                have r4 := obj_cell hPw 4
                have r5 := obj_cell hPw 5
                simp at r4 r5
                have zb4 := obj_lt hPw
                have PW4 := Lib.hid hPw
                have BW4 := Lib.hid (BW3.out.trans (hB4.out.mono BW3.out.size))
                clear hPw x0 x1 x2 x3 x4 x5
                by_cases hlt4 : k4 < k
                · have hkl : k4 < S.clocks.length := by rw [HN4.out]; exact hlt4
                  obtain ⟨b, off, rfl, hb, hcs⟩ := HS.out.clocks.cells k4 hkl
                  have t0 : w.cell? ⟨b, off + k4 * 2, none⟩ = _ := hcs k4 hkl 0 _ rfl
                  have t1 : w.cell? ⟨b, off + k4 * 2 + 1, none⟩ = _ := hcs k4 hkl 1 _ rfl
                  rw [← BW4.out.cell (p := ⟨b, _, none⟩) hb] at t0 t1
                  have hzb : b < wr.heap.size := by have := BW4.out.size; omega
                  obtain ⟨x, hx⟩ : ∃ x, x = S.clocks[k4]! := ⟨_, rfl⟩
                  rw [← hx] at t0 t1
                  have HX := Lib.hid hx
                  clear hcs hx
                  obtain ⟨wy, rfl⟩ : ∃ wy : World, wy = wr := ⟨_, rfl⟩
                  go_wp2_with fail
                  go_loopw [13, 14] (fun s13 s14 wr => ∃ (k5 : Nat) (h : Bool), s14 = .int .i64 k5 ∧ s13 = .bool h ∧ k5 ≤ k3 ∧ Hid (h = true → gapOK S.syncs x) ∧ Hid (Below wy.heap.size wy wr)) (fun _ s14 _ => k3 - (intOf s14).toNat)
                  case atStart => exact ⟨0, _, rfl, rfl, Nat.zero_le _, fun h => .inl (by simpa using h), Below.refl _ _⟩
                  case round =>
                    obtain ⟨k5, hh, rfl, rfl, hk5, hQ5, hB5⟩ := hrel
                    have hPv := keepObj hB5.out PW4.out
                    have v4 := obj_cell hPv 4
                    have v5 := obj_cell hPv 5
                    simp at v4 v5
                    have zb5 := obj_lt hPv
                    have PW5 := Lib.hid hPv
                    have BW5 := Lib.hid (BW4.out.trans (hB5.out.mono BW4.out.size))
                    have u0 := (hB5.out.cell (p := ⟨b, off + k4 * 2, none⟩) hzb).trans t0
                    clear hPv r4 r5
                    by_cases hlt5 : k5 < k3
                    · have hkl5 : k5 < S.syncs.length := by rw [HN5.out]; exact hlt5
                      obtain ⟨b5, off5, rfl, hb5, hcs5⟩ := HS.out.syncs.cells k5 hkl5
                      have e0 : w.cell? ⟨b5, off5 + k5 * 6, none⟩ = _ := hcs5 k5 hkl5 0 _ rfl
                      rw [← BW5.out.cell (p := ⟨b5, _, none⟩) hb5] at e0
                      obtain ⟨y, hy⟩ : ∃ y, y = S.syncs[k5]! := ⟨_, rfl⟩
                      rw [← hy] at e0
                      have hmem : y ∈ S.syncs := by rw [hy, getElem!_pos S.syncs k5 hkl5]; exact List.getElem_mem hkl5
                      have HM := Lib.hid hmem
                      clear hcs5 hy hmem
                      cases hh with
                      | true =>
                        go_wp2_with fail
                        go_quiet (fail)
                        go_wp2
                        go_roundw
                        case rel => exact ⟨k5 + 1, true, by go_num, rfl, by omega, fun _ => hQ5.out (by first | rfl | trivial), by have h := hB5.out; show Below _ _ _; (repeat (first | with_reducible exact Below.refl _ _ | with_reducible assumption | ((with_reducible refine Below.setCell ?_ ?_ _); rotate_left; focus (first | exact Nat.le_refl _ | omega | exact Below.size (by assumption) | (simp; done) | (simp; omega))) | ((with_reducible refine Below.alloc ?_ ?_ _); rotate_left; focus (first | exact Nat.le_refl _ | omega | exact Below.size (by assumption) | (simp; done) | (simp; omega))) | (with_reducible refine Below.drew ?_) | (with_reducible refine drewN_ ?_ _)))⟩
                        case measure => simp [intOf]; omega
                      | false =>
                        go_wp2_with fail
                        go_quiet (fail)
                        go_wp2
                        go_roundw
                        case rel => exact ⟨k5 + 1, _, by go_num, rfl, by omega, fun h => .inr ⟨y, HM.out, by simpa using h⟩, by have h := hB5.out; show Below _ _ _; (repeat (first | with_reducible exact Below.refl _ _ | with_reducible assumption | ((with_reducible refine Below.setCell ?_ ?_ _); rotate_left; focus (first | exact Nat.le_refl _ | omega | exact Below.size (by assumption) | (simp; done) | (simp; omega))) | ((with_reducible refine Below.alloc ?_ ?_ _); rotate_left; focus (first | exact Nat.le_refl _ | omega | exact Below.size (by assumption) | (simp; done) | (simp; omega))) | (with_reducible refine Below.drew ?_) | (with_reducible refine drewN_ ?_ _)))⟩
                        case measure => simp [intOf]; omega
                    · obtain rfl : k5 = k3 := by omega
                      cases hh with
                      | true =>
                        go_wp2
                        go_roundw
                        case rel =>
                          refine ⟨k4 + 1, by go_num, by omega, fun i hi => ?_, by have h := hB4.out.trans (hB5.out.mono hB4.out.size); show Below _ _ _; (repeat (first | with_reducible exact Below.refl _ _ | with_reducible assumption | ((with_reducible refine Below.setCell ?_ ?_ _); rotate_left; focus (first | exact Nat.le_refl _ | omega | exact Below.size (by assumption) | (simp; done) | (simp; omega))) | ((with_reducible refine Below.alloc ?_ ?_ _); rotate_left; focus (first | exact Nat.le_refl _ | omega | exact Below.size (by assumption) | (simp; done) | (simp; omega))) | (with_reducible refine Below.drew ?_) | (with_reducible refine drewN_ ?_ _)))⟩
                          rcases Nat.lt_succ_iff_lt_or_eq.1 hi with h1 | h1
                          · exact hQ4.out i h1
                          · subst h1; rw [← HX.out]; exact hQ5.out rfl
                        case measure => simp [intOf]; omega
                      | false =>
                        go_wp2
                        go_ret
                        exact ⟨⟨_, rfl, fun h => absurd h (by decide)⟩, by have h := BW5.out; (repeat (first | with_reducible exact Below.refl _ _ | with_reducible assumption | ((with_reducible refine Below.setCell ?_ ?_ _); rotate_left; focus (first | exact Nat.le_refl _ | omega | exact Below.size (by assumption) | (simp; done) | (simp; omega))) | ((with_reducible refine Below.alloc ?_ ?_ _); rotate_left; focus (first | exact Nat.le_refl _ | omega | exact Below.size (by assumption) | (simp; done) | (simp; omega))) | (with_reducible refine Below.drew ?_) | (with_reducible refine drewN_ ?_ _)))⟩
                · obtain rfl : k4 = k := by omega
                  go_wp2
                  go_ret
                  exact ⟨⟨_, rfl, fun _ => ⟨HQ1.out, HQ2.out, HQ3.out, fun j hj => hQ4.out j (by have := HN4.out; omega)⟩⟩, by have h := BW4.out; (repeat (first | with_reducible exact Below.refl _ _ | with_reducible assumption | ((with_reducible refine Below.setCell ?_ ?_ _); rotate_left; focus (first | exact Nat.le_refl _ | omega | exact Below.size (by assumption) | (simp; done) | (simp; omega))) | ((with_reducible refine Below.alloc ?_ ?_ _); rotate_left; focus (first | exact Nat.le_refl _ | omega | exact Below.size (by assumption) | (simp; done) | (simp; omega))) | (with_reducible refine Below.drew ?_) | (with_reducible refine drewN_ ?_ _)))⟩
end Go.Proofs.Ythkhgfdjdpfoiaa
