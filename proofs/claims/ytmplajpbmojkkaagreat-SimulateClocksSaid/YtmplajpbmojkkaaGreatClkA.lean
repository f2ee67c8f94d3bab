/-
  The model's checkClocks: what it accepts.
  simulate's offsets: a map of the clocks' offsets.
  simulate's checkClocks and checkSyncs at what the model accepts.
  simulate's checkSyncs at what the model accepts.
-/
import Derived.Test.YtmplajpbmojkkaaGreatOffA
import Derived.Deep.RegionHeld3
import Derived.Test.YtmplajpbmojkkaaGreatLens
set_option linter.unusedSimpArgs false
set_option linter.unusedVariables false
namespace Go.Proofs.YtmplajpbmojkkaaGreat
open Go Go.RowKit Go.Vi
def clkOK (C : List Clk) (k : Nat) : Prop := (1 ≤ C[k]!.dev ∧ C[k]!.dev ≤ 1073741824) ∧ (0 < k → C[k - 1]!.dev < C[k]!.dev) ∧ (-1048576 ≤ C[k]!.off ∧ C[k]!.off ≤ 1048576)
def sncOK (C : List Clk) (x : Snc) : Prop := hasOff C x.dev = true ∧ x.dev ≠ 0 ∧ (0 ≤ x.sent ∧ x.sent ≤ 1073741824) ∧ (0 ≤ x.out ∧ x.out ≤ 1073741824) ∧ (0 ≤ x.back ∧ x.back ≤ 1073741824) ∧ (0 ≤ x.so ∧ x.so ≤ x.out) ∧ (0 ≤ x.sb ∧ x.sb ≤ x.back)
def gapOK (X : List Snc) (c : Clk) : Prop := c.off = 0 ∨ ∃ x ∈ X, x.dev = c.dev
structure ClocksOK (S : Scn) : Prop where
  clk : ∀ k, k < S.clocks.length → clkOK S.clocks k
  dev : ∀ k, k < S.trips.length → hasOff S.clocks S.trips[k]!.dev = true
  snc : ∀ k, k < S.syncs.length → sncOK S.clocks S.syncs[k]!
  gap : ∀ k, k < S.clocks.length → gapOK S.syncs S.clocks[k]!
theorem inB_from {n lo hi : Int} (h : (!inB n lo hi) = false) : inB n lo hi = true := by simpa using h
theorem not_from {b : Bool} (h : (!b) = false) : b = true := by simpa using h
set_option maxRecDepth 100000 in
set_option maxHeartbeats 8000000 in
theorem checkClocks_any (S : Scn) (v1 v2 v3 v4 v5 : Value) (w : World) (hS : ScnAt w.heap.size w v1 v2 v3 v4 v5 S) (hz1 : S.clocks.length ≤ 1000) (hz2 : S.trips.length ≤ 1000) (hz3 : S.syncs.length ≤ 1000) :
    Calls Tryz.prog 34 #[S.v v1 v2 v3 v4 v5] w fun e w' => (∃ c : Int, e = .returned (.int .i64 c) ∧ (c = 0 → ClocksOK S)) ∧ Below w.heap.size w w' := by
  obtain ⟨a3, n3, c3, rfl, hn3, hn31, hn32⟩ := hS.trips.open
  obtain ⟨a4, n4, c4, rfl, hn4, hn41, hn42⟩ := hS.clocks.open
  obtain ⟨a5, n5, c5, rfl, hn5, hn51, hn52⟩ := hS.syncs.open
  rw [List.length_map] at hn4 hn5
  rw [hn4] at hz1
  rw [hn3] at hz2
  rw [hn5] at hz3
  have HS := Lib.hid hS
  have HN3 := Lib.hid hn3
  have HN4 := Lib.hid hn4
  have HN5 := Lib.hid hn5
  clear hS hn3 hn4 hn5 hn32 hn42 hn52 hn31 hn41 hn51
  go_enter Tryz.func34, Tryz.ntmps34
  go_wp2
  obtain ⟨W0, hW0⟩ : ∃ W0, W0 = w.alloc (.cells #[v1, v2, .int .i64 S.gap, .slice a3 n3 c3, .slice a4 n4 c4, .slice a5 n5 c5] 40) := ⟨_, rfl⟩
  have hP := obj_last w (.cells #[v1, v2, .int .i64 S.gap, .slice a3 n3 c3, .slice a4 n4 c4, .slice a5 n5 c5] 40)
  have hB0 := (Below.refl w.heap.size w).alloc (Nat.le_refl _) (.cells #[v1, v2, .int .i64 S.gap, .slice a3 n3 c3, .slice a4 n4 c4, .slice a5 n5 c5] 40)
  rw [← hW0] at hP hB0 ⊢
  have P := Lib.hid hP
  have B0 := Lib.hid hB0
  clear hP hB0 hW0
  go_loopw [3] (fun s3 wr => ∃ k : Nat, s3 = .int .i64 k ∧ k ≤ n4 ∧ Hid (∀ j, j < k → clkOK S.clocks j) ∧ Hid (Below W0.heap.size W0 wr)) (fun s3 _ => n4 - (intOf s3).toNat)
  case atStart => exact ⟨0, rfl, Nat.zero_le _, fun j hj => absurd hj (Nat.not_lt_zero _), Below.refl _ _⟩
  case round =>
    obtain ⟨k, rfl, hk, hQ, hB⟩ := hrel
    have hPw := keepObj hB.out P.out
    have l3 := obj_cell hPw 3
    have l4 := obj_cell hPw 4
    have l5 := obj_cell hPw 5
    simp at l3 l4 l5
    have zb := obj_lt hPw
    have PW := Lib.hid hPw
    have BW := Lib.hid (B0.out.trans (hB.out.mono B0.out.size))
    clear hPw
    by_cases hlt : k < n4
    · have hkl : k < S.clocks.length := by rw [HN4.out]; exact hlt
      obtain ⟨b, off, rfl, hb, hcs⟩ := HS.out.clocks.cells k hkl
      have k0 : w.cell? ⟨b, off + k * 2, none⟩ = _ := hcs k hkl 0 _ rfl
      have k1 : w.cell? ⟨b, off + k * 2 + 1, none⟩ = _ := hcs k hkl 1 _ rfl
      rw [← BW.out.cell (p := ⟨b, _, none⟩) hb] at k0 k1
      have hzb : b < wr.heap.size := by have := BW.out.size; omega
      obtain ⟨x, hx⟩ : ∃ x, x = S.clocks[k]! := ⟨_, rfl⟩
      rw [← hx] at k0 k1
      have HX := Lib.hid hx
      by_cases hk0 : k = 0
      · have hk0' : decide (0 < k) = false := by simp; omega
        have hk1' : decide ((0 : Int) < (k : Int)) = false := by simp; omega
        have HK0 := Lib.hid hk0
        clear hcs hx hk0
        go_wp2_with (go_at_call 32; refine (within_any _ _ _ _).mono ?_; rintro e w' ⟨rfl, rfl⟩)
        · go_ret
          exact ⟨⟨_, rfl, fun h => absurd h (by decide)⟩, by have h := BW.out; (repeat (first | with_reducible exact Below.refl _ _ | with_reducible assumption | ((with_reducible refine Below.setCell ?_ ?_ _); rotate_left; focus (first | exact Nat.le_refl _ | omega | exact Below.size (by assumption) | (simp; done) | (simp; omega))) | ((with_reducible refine Below.alloc ?_ ?_ _); rotate_left; focus (first | exact Nat.le_refl _ | omega | exact Below.size (by assumption) | (simp; done) | (simp; omega))) | (with_reducible refine Below.drew ?_) | (with_reducible refine drewN_ ?_ _)))⟩
        · have q1 : inB x.dev 1 1073741824 = true := inB_from (by assumption)
          go_quiet (fail)
          go_wp2_with (go_at_call 32; refine (within_any _ _ _ _).mono ?_; rintro e w' ⟨rfl, rfl⟩)
          · go_ret
            exact ⟨⟨_, rfl, fun h => absurd h (by decide)⟩, by have h := BW.out; (repeat (first | with_reducible exact Below.refl _ _ | with_reducible assumption | ((with_reducible refine Below.setCell ?_ ?_ _); rotate_left; focus (first | exact Nat.le_refl _ | omega | exact Below.size (by assumption) | (simp; done) | (simp; omega))) | ((with_reducible refine Below.alloc ?_ ?_ _); rotate_left; focus (first | exact Nat.le_refl _ | omega | exact Below.size (by assumption) | (simp; done) | (simp; omega))) | (with_reducible refine Below.drew ?_) | (with_reducible refine drewN_ ?_ _)))⟩
          · have q2 : inB x.off (-1048576) 1048576 = true := inB_from (by assumption)
            go_roundw
            case rel =>
              refine ⟨k + 1, by go_num, by omega, fun j hj => ?_, by have h := hB.out; show Below _ _ _; (repeat (first | with_reducible exact Below.refl _ _ | with_reducible assumption | ((with_reducible refine Below.setCell ?_ ?_ _); rotate_left; focus (first | exact Nat.le_refl _ | omega | exact Below.size (by assumption) | (simp; done) | (simp; omega))) | ((with_reducible refine Below.alloc ?_ ?_ _); rotate_left; focus (first | exact Nat.le_refl _ | omega | exact Below.size (by assumption) | (simp; done) | (simp; omega))) | (with_reducible refine Below.drew ?_) | (with_reducible refine drewN_ ?_ _)))⟩
              rcases Nat.lt_succ_iff_lt_or_eq.1 hj with h1 | h1
              · exact hQ.out j h1
              · subst h1
                rw [inB_iff] at q1 q2
                exact ⟨by rw [← HX.out]; exact q1, fun h => absurd HK0.out (by omega), by rw [← HX.out]; exact q2⟩
            case measure => simp [intOf]; omega
      · obtain ⟨j, hj⟩ : ∃ j, j + 1 = k := ⟨k - 1, by omega⟩
        have y0 : w.cell? ⟨b, off + j * 2, none⟩ = _ := hcs j (by omega) 0 _ rfl
        rw [← BW.out.cell (p := ⟨b, _, none⟩) hb] at y0
        obtain ⟨y, hy⟩ : ∃ y, y = S.clocks[j]! := ⟨_, rfl⟩
        rw [← hy] at y0
        have hj1 : (k : Int) - 1 = (j : Int) := by omega
        have hj2 : IntKind.i64.wrap (j : Int) = (j : Int) := IntWalk.i64_in _ (by omega)
        have hj3 : (0 : Int) < (k : Int) := by omega
        have hj4 : (j : Int) < (n4 : Int) := by omega
        have hj5 : j < n4 := by omega
        have hj6 : 0 < k := by omega
        have HJ := Lib.hid hj
        have HY := Lib.hid hy
        clear hcs hx hy hj
        go_wp2_with (go_at_call 32; refine (within_any _ _ _ _).mono ?_; rintro e w' ⟨rfl, rfl⟩)
        · go_ret
          exact ⟨⟨_, rfl, fun h => absurd h (by decide)⟩, by have h := BW.out; (repeat (first | with_reducible exact Below.refl _ _ | with_reducible assumption | ((with_reducible refine Below.setCell ?_ ?_ _); rotate_left; focus (first | exact Nat.le_refl _ | omega | exact Below.size (by assumption) | (simp; done) | (simp; omega))) | ((with_reducible refine Below.alloc ?_ ?_ _); rotate_left; focus (first | exact Nat.le_refl _ | omega | exact Below.size (by assumption) | (simp; done) | (simp; omega))) | (with_reducible refine Below.drew ?_) | (with_reducible refine drewN_ ?_ _)))⟩
        · have q1 : inB x.dev 1 1073741824 = true := inB_from (by assumption)
          go_quiet (fail)
          by_cases hd : x.dev ≤ y.dev
          · go_wp2
            go_ret
            exact ⟨⟨_, rfl, fun h => absurd h (by decide)⟩, by have h := BW.out; (repeat (first | with_reducible exact Below.refl _ _ | with_reducible assumption | ((with_reducible refine Below.setCell ?_ ?_ _); rotate_left; focus (first | exact Nat.le_refl _ | omega | exact Below.size (by assumption) | (simp; done) | (simp; omega))) | ((with_reducible refine Below.alloc ?_ ?_ _); rotate_left; focus (first | exact Nat.le_refl _ | omega | exact Below.size (by assumption) | (simp; done) | (simp; omega))) | (with_reducible refine Below.drew ?_) | (with_reducible refine drewN_ ?_ _)))⟩
          · go_wp2_with (go_at_call 32; refine (within_any _ _ _ _).mono ?_; rintro e w' ⟨rfl, rfl⟩)
            · go_ret
              exact ⟨⟨_, rfl, fun h => absurd h (by decide)⟩, by have h := BW.out; (repeat (first | with_reducible exact Below.refl _ _ | with_reducible assumption | ((with_reducible refine Below.setCell ?_ ?_ _); rotate_left; focus (first | exact Nat.le_refl _ | omega | exact Below.size (by assumption) | (simp; done) | (simp; omega))) | ((with_reducible refine Below.alloc ?_ ?_ _); rotate_left; focus (first | exact Nat.le_refl _ | omega | exact Below.size (by assumption) | (simp; done) | (simp; omega))) | (with_reducible refine Below.drew ?_) | (with_reducible refine drewN_ ?_ _)))⟩
            · have q2 : inB x.off (-1048576) 1048576 = true := inB_from (by assumption)
              go_roundw
              case rel =>
                refine ⟨k + 1, by go_num, by omega, fun i hi => ?_, by have h := hB.out; show Below _ _ _; (repeat (first | with_reducible exact Below.refl _ _ | with_reducible assumption | ((with_reducible refine Below.setCell ?_ ?_ _); rotate_left; focus (first | exact Nat.le_refl _ | omega | exact Below.size (by assumption) | (simp; done) | (simp; omega))) | ((with_reducible refine Below.alloc ?_ ?_ _); rotate_left; focus (first | exact Nat.le_refl _ | omega | exact Below.size (by assumption) | (simp; done) | (simp; omega))) | (with_reducible refine Below.drew ?_) | (with_reducible refine drewN_ ?_ _)))⟩
                rcases Nat.lt_succ_iff_lt_or_eq.1 hi with h1 | h1
                · exact hQ.out i h1
                · subst h1
                  rw [inB_iff] at q1 q2
                  refine ⟨by rw [← HX.out]; exact q1, fun h => ?_, by rw [← HX.out]; exact q2⟩
                  have hj := HJ.out
                  subst hj
                  rw [Nat.add_sub_cancel, ← HX.out, ← HY.out]; omega
              case measure => simp [intOf]; omega
    · obtain rfl : k = n4 := by omega
      have HQ1 := Lib.hid (fun j (hj : j < S.clocks.length) => hQ.out j (by have := HN4.out; omega))
      obtain ⟨wo, rfl⟩ : ∃ wo : World, wo = wr := ⟨_, rfl⟩
      go_wp2_with fail
      go_loopw [5] (fun s5 wr => ∃ k2 : Nat, s5 = .int .i64 k2 ∧ k2 ≤ n3 ∧ Hid (∀ j, j < k2 → hasOff S.clocks S.trips[j]!.dev = true) ∧ Hid (Below wo.heap.size wo wr)) (fun s5 _ => n3 - (intOf s5).toNat)
      case atStart => exact ⟨0, rfl, Nat.zero_le _, fun j hj => absurd hj (Nat.not_lt_zero _), Below.refl _ _⟩
      case round =>
        obtain ⟨k2, rfl, hk2, hQ2, hB2⟩ := hrel
        have hPw := keepObj hB2.out PW.out
        have l0 := obj_cell hPw 0
        have l1 := obj_cell hPw 1
        have l2 := obj_cell hPw 2
        have m3 := obj_cell hPw 3
        have m4 := obj_cell hPw 4
        have m5 := obj_cell hPw 5
        simp at l0 l1 l2 m3 m4 m5
        have zb2 := obj_lt hPw
        have PW2 := Lib.hid hPw
        have BW2 := Lib.hid (BW.out.trans (hB2.out.mono BW.out.size))
        clear hPw l3 l4 l5 zb
        by_cases hlt2 : k2 < n3
        · have hkl : k2 < S.trips.length := by rw [HN3.out]; exact hlt2
          obtain ⟨b, off, rfl, hb, hcs⟩ := HS.out.trips.at k2 hkl
          obtain ⟨v, _, t0, t1, _, _, _⟩ := hcs k2 hkl
          rw [← BW2.out.cell (p := ⟨b, _, none⟩) hb] at t1
          have hzb : b < wr.heap.size := by have := BW2.out.size; omega
          obtain ⟨d, hd⟩ : ∃ d, d = S.trips[k2]!.dev := ⟨_, rfl⟩
          rw [← hd] at t1
          have HD := Lib.hid hd
          clear hd hcs t0
          go_wp2_with fail
          go_region_held3 (fun w' => w'.cell? ⟨w.heap.size, 0, none⟩ = some v1 ∧ w'.cell? ⟨w.heap.size, 1, none⟩ = some v2 ∧ w'.cell? ⟨w.heap.size, 2, none⟩ = some (.int .i64 S.gap) ∧ w'.cell? ⟨w.heap.size, 3, none⟩ = some (.slice (some ⟨b, off, none⟩) n3 c3) ∧ w'.cell? ⟨w.heap.size, 4, none⟩ = some (.slice a4 k c4) ∧ w'.cell? ⟨w.heap.size, 5, none⟩ = some (.slice a5 n5 c5) ∧ w'.cell? ⟨b, off + k2 * 5 + 1, none⟩ = some (.int .i64 d))
            ((first | (go_split_ands; refine ⟨?_, ?_, ?_, ?_, ?_, ?_, ?_⟩ <;> assumption) | (go_split_ands; exact ⟨y0, y1, y2, y3, y4, y5, y6⟩)))
            ((go_at_call 36; refine (offset_any S v1 v2 _ _ _ d _ (HS.out.clocks.later (by have h := BW2.out; (repeat (first | with_reducible exact Below.refl _ _ | with_reducible assumption | ((with_reducible refine Below.setCell ?_ ?_ _); rotate_left; focus (first | exact Nat.le_refl _ | omega | exact Below.size (by assumption) | (simp; done) | (simp; omega))) | ((with_reducible refine Below.alloc ?_ ?_ _); rotate_left; focus (first | exact Nat.le_refl _ | omega | exact Below.size (by assumption) | (simp; done) | (simp; omega))) | (with_reducible refine Below.drew ?_) | (with_reducible refine drewN_ ?_ _))))) (by rw [HN4.out]; exact hz1)).mono ?_; rintro e w2 ⟨rfl, hb2⟩; have hq := keepObj hb2 (obj_drew PW2.out); have y0 := obj_cell hq 0; have y1 := obj_cell hq 1; have y2 := obj_cell hq 2; have y3 := obj_cell hq 3; have y4 := obj_cell hq 4; have y5 := obj_cell hq 5; simp at y0 y1 y2 y3 y4 y5; have y6 := (hb2.cell (p := ⟨b, off + k2 * 5 + 1, none⟩) (show b < wr.heap.size from hzb)).trans t1; have B3 := Lib.hid (from_ (w := wo) hb2 (by have h := hB2.out; (repeat (first | with_reducible exact Below.refl _ _ | with_reducible assumption | ((with_reducible refine Below.setCell ?_ ?_ _); rotate_left; focus (first | exact Nat.le_refl _ | omega | exact Below.size (by assumption) | (simp; done) | (simp; omega))) | ((with_reducible refine Below.alloc ?_ ?_ _); rotate_left; focus (first | exact Nat.le_refl _ | omega | exact Below.size (by assumption) | (simp; done) | (simp; omega))) | (with_reducible refine Below.drew ?_) | (with_reducible refine drewN_ ?_ _))))); clear hb2 hq))
          go_wp2_with fail
          · go_ret
            exact ⟨⟨_, rfl, fun h => absurd h (by decide)⟩, by have h := BW.out.trans (B3.out.mono BW.out.size); (repeat (first | with_reducible exact Below.refl _ _ | with_reducible assumption | ((with_reducible refine Below.setCell ?_ ?_ _); rotate_left; focus (first | exact Nat.le_refl _ | omega | exact Below.size (by assumption) | (simp; done) | (simp; omega))) | ((with_reducible refine Below.alloc ?_ ?_ _); rotate_left; focus (first | exact Nat.le_refl _ | omega | exact Below.size (by assumption) | (simp; done) | (simp; omega))) | (with_reducible refine Below.drew ?_) | (with_reducible refine drewN_ ?_ _)))⟩
          · have q1 : hasOff S.clocks d = true := not_from (by assumption)
            go_roundw
            case rel =>
              refine ⟨k2 + 1, by go_num, by omega, fun i hi => ?_, by have h := B3.out; show Below _ _ _; (repeat (first | with_reducible exact Below.refl _ _ | with_reducible assumption | ((with_reducible refine Below.setCell ?_ ?_ _); rotate_left; focus (first | exact Nat.le_refl _ | omega | exact Below.size (by assumption) | (simp; done) | (simp; omega))) | ((with_reducible refine Below.alloc ?_ ?_ _); rotate_left; focus (first | exact Nat.le_refl _ | omega | exact Below.size (by assumption) | (simp; done) | (simp; omega))) | (with_reducible refine Below.drew ?_) | (with_reducible refine drewN_ ?_ _)))⟩
              rcases Nat.lt_succ_iff_lt_or_eq.1 hi with h1 | h1
              · exact hQ2.out i h1
              · subst h1; rw [← HD.out]; exact q1
            case measure => simp [intOf]; omega
        · obtain rfl : k2 = n3 := by omega
          have HQ2 := Lib.hid (fun j (hj : j < S.trips.length) => hQ2.out j (by have := HN3.out; omega))
          obtain ⟨wq, rfl⟩ : ∃ wq : World, wq = wr := ⟨_, rfl⟩
          go_wp2_with fail
          go_loopw [8] (fun s8 wr => ∃ k3 : Nat, s8 = .int .i64 k3 ∧ k3 ≤ n5 ∧ Hid (∀ j, j < k3 → sncOK S.clocks S.syncs[j]!) ∧ Hid (Below wq.heap.size wq wr)) (fun s8 _ => n5 - (intOf s8).toNat)
          case atStart => exact ⟨0, rfl, Nat.zero_le _, fun j hj => absurd hj (Nat.not_lt_zero _), Below.refl _ _⟩
          case round =>
            obtain ⟨k3, rfl, hk3, hQ3, hB3⟩ := hrel
            have hPw := keepObj hB3.out PW2.out
            have x0 := obj_cell hPw 0
            have x1 := obj_cell hPw 1
            have x2 := obj_cell hPw 2
            have x3 := obj_cell hPw 3
            have x4 := obj_cell hPw 4
            have x5 := obj_cell hPw 5
            simp at x0 x1 x2 x3 x4 x5
            have zb3 := obj_lt hPw
            have PW3 := Lib.hid hPw
            have BW3 := Lib.hid (BW2.out.trans (hB3.out.mono BW2.out.size))
            clear hPw l0 l1 l2 m3 m4 m5
            by_cases hlt3 : k3 < n5
            · have hkl : k3 < S.syncs.length := by rw [HN5.out]; exact hlt3
              obtain ⟨b, off, rfl, hb, hcs⟩ := HS.out.syncs.cells k3 hkl
              have t0 : w.cell? ⟨b, off + k3 * 6, none⟩ = _ := hcs k3 hkl 0 _ rfl
              have t1 : w.cell? ⟨b, off + k3 * 6 + 1, none⟩ = _ := hcs k3 hkl 1 _ rfl
              have t2 : w.cell? ⟨b, off + k3 * 6 + 2, none⟩ = _ := hcs k3 hkl 2 _ rfl
              have t3 : w.cell? ⟨b, off + k3 * 6 + 3, none⟩ = _ := hcs k3 hkl 3 _ rfl
              have t4 : w.cell? ⟨b, off + k3 * 6 + 4, none⟩ = _ := hcs k3 hkl 4 _ rfl
              have t5 : w.cell? ⟨b, off + k3 * 6 + 5, none⟩ = _ := hcs k3 hkl 5 _ rfl
              rw [← BW3.out.cell (p := ⟨b, _, none⟩) hb] at t0 t1 t2 t3 t4 t5
              have hzb : b < wr.heap.size := by have := BW3.out.size; omega
              obtain ⟨x, hx⟩ : ∃ x, x = S.syncs[k3]! := ⟨_, rfl⟩
              rw [← hx] at t0 t1 t2 t3 t4 t5
              have HX := Lib.hid hx
              clear hcs hx
              go_wp2_with (first | (go_at_call 32; refine (within_any _ _ _ _).mono ?_; rintro e w' ⟨rfl, rfl⟩) | (go_at_call 36; refine (offset_any S v1 v2 _ _ _ x.dev _ (HS.out.clocks.later (by have h := BW3.out; (repeat (first | with_reducible exact Below.refl _ _ | with_reducible assumption | ((with_reducible refine Below.setCell ?_ ?_ _); rotate_left; focus (first | exact Nat.le_refl _ | omega | exact Below.size (by assumption) | (simp; done) | (simp; omega))) | ((with_reducible refine Below.alloc ?_ ?_ _); rotate_left; focus (first | exact Nat.le_refl _ | omega | exact Below.size (by assumption) | (simp; done) | (simp; omega))) | (with_reducible refine Below.drew ?_) | (with_reducible refine drewN_ ?_ _))))) (by rw [HN4.out]; exact hz1)).mono ?_; rintro e w2 ⟨rfl, hb2⟩; have hq := keepObj hb2 (obj_last wr (.cells #[.int .i64 x.dev, .int .i64 x.sent, .int .i64 x.out, .int .i64 x.back, .int .i64 x.so, .int .i64 x.sb] 58)); have y0 := obj_cell hq 0; have y1 := obj_cell hq 1; have y2 := obj_cell hq 2; have y3 := obj_cell hq 3; have y4 := obj_cell hq 4; have y5 := obj_cell hq 5; simp at y0 y1 y2 y3 y4 y5; have zq := obj_lt hq; have B4 := Lib.hid (from_ (w := wq) hb2 (by have h := hB3.out; (repeat (first | with_reducible exact Below.refl _ _ | with_reducible assumption | ((with_reducible refine Below.setCell ?_ ?_ _); rotate_left; focus (first | exact Nat.le_refl _ | omega | exact Below.size (by assumption) | (simp; done) | (simp; omega))) | ((with_reducible refine Below.alloc ?_ ?_ _); rotate_left; focus (first | exact Nat.le_refl _ | omega | exact Below.size (by assumption) | (simp; done) | (simp; omega))) | (with_reducible refine Below.drew ?_) | (with_reducible refine drewN_ ?_ _))))); clear hb2 hq))
              all_goals first
                | (go_ret; exact ⟨⟨_, rfl, fun h => absurd h (by decide)⟩, by have h := BW2.out.trans (B4.out.mono BW2.out.size); (repeat (first | with_reducible exact Below.refl _ _ | with_reducible assumption | ((with_reducible refine Below.setCell ?_ ?_ _); rotate_left; focus (first | exact Nat.le_refl _ | omega | exact Below.size (by assumption) | (simp; done) | (simp; omega))) | ((with_reducible refine Below.alloc ?_ ?_ _); rotate_left; focus (first | exact Nat.le_refl _ | omega | exact Below.size (by assumption) | (simp; done) | (simp; omega))) | (with_reducible refine Below.drew ?_) | (with_reducible refine drewN_ ?_ _)))⟩)
                | skip
              have q0 : hasOff S.clocks x.dev = true := by first | assumption | exact not_from (by assumption)
              have q1 : (x.dev == 0) = false := by assumption
              have q2 : inB x.sent 0 1073741824 = true := by first | assumption | exact inB_from (by assumption)
              have q3 : inB x.out 0 1073741824 = true := by first | assumption | exact inB_from (by assumption)
              have q4 : inB x.back 0 1073741824 = true := by first | assumption | exact inB_from (by assumption)
              have q5 : inB x.so 0 x.out = true := by first | assumption | exact inB_from (by assumption)
              have q6 : inB x.sb 0 x.back = true := by first | assumption | exact inB_from (by assumption)
              go_roundw
              case rel =>
                refine ⟨k3 + 1, by go_num, by omega, fun i hi => ?_, by have h := B4.out; show Below _ _ _; (repeat (first | with_reducible exact Below.refl _ _ | with_reducible assumption | ((with_reducible refine Below.setCell ?_ ?_ _); rotate_left; focus (first | exact Nat.le_refl _ | omega | exact Below.size (by assumption) | (simp; done) | (simp; omega))) | ((with_reducible refine Below.alloc ?_ ?_ _); rotate_left; focus (first | exact Nat.le_refl _ | omega | exact Below.size (by assumption) | (simp; done) | (simp; omega))) | (with_reducible refine Below.drew ?_) | (with_reducible refine drewN_ ?_ _)))⟩
                rcases Nat.lt_succ_iff_lt_or_eq.1 hi with h1 | h1
                · exact hQ3.out i h1
                · subst h1
                  rw [inB_iff] at q2 q3 q4 q5 q6
                  rw [← HX.out]
                  exact ⟨q0, by simpa using q1, q2, q3, q4, q5, q6⟩
              case measure => simp [intOf]; omega
            · obtain rfl : k3 = n5 := by omega
              have HQ3 := Lib.hid (fun j (hj : j < S.syncs.length) => hQ3.out j (by have := HN5.out; omega))
              obtain ⟨wz, rfl⟩ : ∃ wz : World, wz = wr := ⟨_, rfl⟩
              go_wp2_with fail
              go_loopw [12] (fun s12 wr => ∃ k4 : Nat, s12 = .int .i64 k4 ∧ k4 ≤ k ∧ Hid (∀ j, j < k4 → gapOK S.syncs S.clocks[j]!) ∧ Hid (Below wz.heap.size wz wr)) (fun s12 _ => k - (intOf s12).toNat)
              case atStart => exact ⟨0, rfl, Nat.zero_le _, fun j hj => absurd hj (Nat.not_lt_zero _), Below.refl _ _⟩
              case round =>
                obtain ⟨k4, rfl, hk4, hQ4, hB4⟩ := hrel
                have hPw := keepObj hB4.out PW3.out
                have r4 := obj_cell hPw 4
                have r5 := obj_cell hPw 5
                simp at r4 r5
                have zb4 := obj_lt hPw
                have PW4 := Lib.hid hPw
                have BW4 := Lib.hid (BW3.out.trans (hB4.out.mono BW3.out.size))
                clear hPw x0 x1 x2 x3 x4 x5
                by_cases hlt4 : k4 < k
                · have hkl : k4 < S.clocks.length := by rw [HN4.out]; exact hlt4
                  obtain ⟨b, off, rfl, hb, hcs⟩ := HS.out.clocks.cells k4 hkl
                  have t0 : w.cell? ⟨b, off + k4 * 2, none⟩ = _ := hcs k4 hkl 0 _ rfl
                  have t1 : w.cell? ⟨b, off + k4 * 2 + 1, none⟩ = _ := hcs k4 hkl 1 _ rfl
                  rw [← BW4.out.cell (p := ⟨b, _, none⟩) hb] at t0 t1
                  have hzb : b < wr.heap.size := by have := BW4.out.size; omega
                  obtain ⟨x, hx⟩ : ∃ x, x = S.clocks[k4]! := ⟨_, rfl⟩
                  rw [← hx] at t0 t1
                  have HX := Lib.hid hx
                  clear hcs hx
                  obtain ⟨wy, rfl⟩ : ∃ wy : World, wy = wr := ⟨_, rfl⟩
                  go_wp2_with fail
                  go_loopw [13, 14] (fun s13 s14 wr => ∃ (k5 : Nat) (h : Bool), s14 = .int .i64 k5 ∧ s13 = .bool h ∧ k5 ≤ k3 ∧ Hid (h = true → gapOK S.syncs x) ∧ Hid (Below wy.heap.size wy wr)) (fun _ s14 _ => k3 - (intOf s14).toNat)
                  case atStart => exact ⟨0, _, rfl, rfl, Nat.zero_le _, fun h => .inl (by simpa using h), Below.refl _ _⟩
                  case round =>
                    obtain ⟨k5, hh, rfl, rfl, hk5, hQ5, hB5⟩ := hrel
                    have hPv := keepObj hB5.out PW4.out
                    have v4 := obj_cell hPv 4
                    have v5 := obj_cell hPv 5
                    simp at v4 v5
                    have zb5 := obj_lt hPv
                    have PW5 := Lib.hid hPv
                    have BW5 := Lib.hid (BW4.out.trans (hB5.out.mono BW4.out.size))
                    have u0 := (hB5.out.cell (p := ⟨b, off + k4 * 2, none⟩) hzb).trans t0
                    clear hPv r4 r5
                    by_cases hlt5 : k5 < k3
                    · have hkl5 : k5 < S.syncs.length := by rw [HN5.out]; exact hlt5
                      obtain ⟨b5, off5, rfl, hb5, hcs5⟩ := HS.out.syncs.cells k5 hkl5
                      have e0 : w.cell? ⟨b5, off5 + k5 * 6, none⟩ = _ := hcs5 k5 hkl5 0 _ rfl
                      rw [← BW5.out.cell (p := ⟨b5, _, none⟩) hb5] at e0
                      obtain ⟨y, hy⟩ : ∃ y, y = S.syncs[k5]! := ⟨_, rfl⟩
                      rw [← hy] at e0
                      have hmem : y ∈ S.syncs := by rw [hy, getElem!_pos S.syncs k5 hkl5]; exact List.getElem_mem hkl5
                      have HM := Lib.hid hmem
                      clear hcs5 hy hmem
                      cases hh with
                      | true =>
                        go_wp2_with fail
                        go_quiet (fail)
                        go_wp2
                        go_roundw
                        case rel => exact ⟨k5 + 1, true, by go_num, rfl, by omega, fun _ => hQ5.out (by first | rfl | trivial), by have h := hB5.out; show Below _ _ _; (repeat (first | with_reducible exact Below.refl _ _ | with_reducible assumption | ((with_reducible refine Below.setCell ?_ ?_ _); rotate_left; focus (first | exact Nat.le_refl _ | omega | exact Below.size (by assumption) | (simp; done) | (simp; omega))) | ((with_reducible refine Below.alloc ?_ ?_ _); rotate_left; focus (first | exact Nat.le_refl _ | omega | exact Below.size (by assumption) | (simp; done) | (simp; omega))) | (with_reducible refine Below.drew ?_) | (with_reducible refine drewN_ ?_ _)))⟩
                        case measure => simp [intOf]; omega
                      | false =>
                        go_wp2_with fail
                        go_quiet (fail)
                        go_wp2
                        go_roundw
                        case rel => exact ⟨k5 + 1, _, by go_num, rfl, by omega, fun h => .inr ⟨y, HM.out, by simpa using h⟩, by have h := hB5.out; show Below _ _ _; (repeat (first | with_reducible exact Below.refl _ _ | with_reducible assumption | ((with_reducible refine Below.setCell ?_ ?_ _); rotate_left; focus (first | exact Nat.le_refl _ | omega | exact Below.size (by assumption) | (simp; done) | (simp; omega))) | ((with_reducible refine Below.alloc ?_ ?_ _); rotate_left; focus (first | exact Nat.le_refl _ | omega | exact Below.size (by assumption) | (simp; done) | (simp; omega))) | (with_reducible refine Below.drew ?_) | (with_reducible refine drewN_ ?_ _)))⟩
                        case measure => simp [intOf]; omega
                    · obtain rfl : k5 = k3 := by omega
                      cases hh with
                      | true =>
                        go_wp2
                        go_roundw
                        case rel =>
                          refine ⟨k4 + 1, by go_num, by omega, fun i hi => ?_, by have h := hB4.out.trans (hB5.out.mono hB4.out.size); show Below _ _ _; (repeat (first | with_reducible exact Below.refl _ _ | with_reducible assumption | ((with_reducible refine Below.setCell ?_ ?_ _); rotate_left; focus (first | exact Nat.le_refl _ | omega | exact Below.size (by assumption) | (simp; done) | (simp; omega))) | ((with_reducible refine Below.alloc ?_ ?_ _); rotate_left; focus (first | exact Nat.le_refl _ | omega | exact Below.size (by assumption) | (simp; done) | (simp; omega))) | (with_reducible refine Below.drew ?_) | (with_reducible refine drewN_ ?_ _)))⟩
                          rcases Nat.lt_succ_iff_lt_or_eq.1 hi with h1 | h1
                          · exact hQ4.out i h1
                          · subst h1; rw [← HX.out]; exact hQ5.out rfl
                        case measure => simp [intOf]; omega
                      | false =>
                        go_wp2
                        go_ret
                        exact ⟨⟨_, rfl, fun h => absurd h (by decide)⟩, by have h := BW5.out; (repeat (first | with_reducible exact Below.refl _ _ | with_reducible assumption | ((with_reducible refine Below.setCell ?_ ?_ _); rotate_left; focus (first | exact Nat.le_refl _ | omega | exact Below.size (by assumption) | (simp; done) | (simp; omega))) | ((with_reducible refine Below.alloc ?_ ?_ _); rotate_left; focus (first | exact Nat.le_refl _ | omega | exact Below.size (by assumption) | (simp; done) | (simp; omega))) | (with_reducible refine Below.drew ?_) | (with_reducible refine drewN_ ?_ _)))⟩
                · obtain rfl : k4 = k := by omega
                  go_wp2
                  go_ret
                  exact ⟨⟨_, rfl, fun _ => ⟨HQ1.out, HQ2.out, HQ3.out, fun j hj => hQ4.out j (by have := HN4.out; omega)⟩⟩, by have h := BW4.out; (repeat (first | with_reducible exact Below.refl _ _ | with_reducible assumption | ((with_reducible refine Below.setCell ?_ ?_ _); rotate_left; focus (first | exact Nat.le_refl _ | omega | exact Below.size (by assumption) | (simp; done) | (simp; omega))) | ((with_reducible refine Below.alloc ?_ ?_ _); rotate_left; focus (first | exact Nat.le_refl _ | omega | exact Below.size (by assumption) | (simp; done) | (simp; omega))) | (with_reducible refine Below.drew ?_) | (with_reducible refine drewN_ ?_ _)))⟩
end Go.Proofs.YtmplajpbmojkkaaGreat
namespace Go.Proofs.YtmplajpbmojkkaaGreat
open Go Go.RowKit Go.Vi
def offE (C : List Clk) : List (Int × Int) := C.foldl (fun E c => put E c.dev c.off) [(0, 0)]
theorem offE_look (C : List Clk) (d : Int) : ∀ (E : List (Int × Int)), C.Pairwise (fun a b => a.dev ≠ b.dev) → Vi.look (C.foldl (fun E c => put E c.dev c.off) E) d = match clkOf C d with
    | some c => some c.off
    | none => Vi.look E d := by
  induction C with
  | nil => intro E _; rfl
  | cons c C ih =>
    intro E hp
    obtain ⟨h1, h2⟩ := List.pairwise_cons.1 hp
    rw [List.foldl_cons, ih _ h2, look_put]
    unfold clkOf
    rw [List.find?_cons]
    by_cases hd : c.dev = d
    · have hn : C.find? (fun x => x.dev == d) = none := by
        rw [List.find?_eq_none]
        intro x hx
        have := h1 x hx
        simp; omega
      rw [hn]
      simp [hd]
    · have hd' : (c.dev == d) = false := by simpa using hd
      rw [hd']
      simp only
      cases C.find? (fun x => x.dev == d) with
      | some x => rfl
      | none => simp only; rw [if_neg (fun e => hd e.symm)]
theorem ClocksOK.pairwise {S : Scn} (h : ClocksOK S) : S.clocks.Pairwise (fun a b => a.dev ≠ b.dev) ∧ ∀ c ∈ S.clocks, 1 ≤ c.dev := by
  have hinc : ∀ j i, i < j → j < S.clocks.length → S.clocks[i]!.dev < S.clocks[j]!.dev := by
    intro j
    induction j with
    | zero => intro i hi; omega
    | succ j ih =>
      intro i hi hj
      have h1 := (h.clk (j + 1) hj).2.1 (by omega)
      rw [Nat.add_sub_cancel] at h1
      rcases Nat.lt_succ_iff_lt_or_eq.1 hi with h2 | h2
      · have := ih i h2 (by omega); omega
      · subst h2; exact h1
  refine ⟨?_, fun c hc => ?_⟩
  · rw [List.pairwise_iff_getElem]
    intro i j hi hj hij
    have := hinc j i hij hj
    rw [getElem!_pos S.clocks i hi, getElem!_pos S.clocks j hj] at this
    omega
  · obtain ⟨i, hi, rfl⟩ := List.getElem_of_mem hc
    have := (h.clk i hi).1.1
    rw [getElem!_pos S.clocks i hi] at this; exact this
/-- What the map says of a device. -/
theorem off_look {S : Scn} (h : ClocksOK S) (d : Int) : Vi.look (offE S.clocks) d = if hasOff S.clocks d then some (offOf S.clocks d) else none := by
  obtain ⟨h1, h2⟩ := h.pairwise
  unfold offE
  rw [offE_look _ _ _ h1]
  unfold hasOff offOf
  cases hc : clkOf S.clocks d with
  | some c => rfl
  | none =>
    by_cases hd : d = 0
    · subst hd; rfl
    · have hd' : (d == 0) = false := by simpa using hd
      simp [Vi.look, hd']
      omega
set_option maxRecDepth 100000 in
set_option maxHeartbeats 2000000 in
theorem offsets_any (S : Scn) (v1 v2 v3 v4 v5 : Value) (w : World) (hC : Sl w.heap.size w 2 v4 (S.clocks.map Clk.cs)) (hsz : S.clocks.length ≤ 1000) :
    Calls Tryz.prog 15 #[S.v v1 v2 v3 v4 v5] w fun e w' => (∃ b, e = .returned (.map (some b)) ∧ w.heap.size ≤ b ∧ IMap w' b (ivI (offE S.clocks))) ∧ Below w.heap.size w w' := by
  obtain ⟨a, n, c, rfl, hn, hn1, hn2⟩ := hC.open
  rw [List.length_map] at hn
  rw [hn] at hsz
  have HC := Lib.hid hC
  have HN := Lib.hid hn
  have hmm := @run_makeMap Tryz.prog
  clear hC hn hn2
  obtain ⟨W0, hW0⟩ : ∃ W0, W0 = (w.alloc (.cells #[v1, v2, .int .i64 S.gap, v3, .slice a n c, v5] 40)).alloc (.map #[] 0) := ⟨_, rfl⟩
  have hI0 : IMap W0 (w.heap.size + 1) (ivI []) := by
    have q := IMap.made (w.alloc (.cells #[v1, v2, .int .i64 S.gap, v3, .slice a n c, v5] 40))
    have e : (w.alloc (.cells #[v1, v2, .int .i64 S.gap, v3, .slice a n c, v5] 40)).heap.size = w.heap.size + 1 := by simp
    rw [e, ← hW0] at q
    exact q
  have hup0 := hI0.update (P := Tryz.prog) uLens uInt 0 (.int .i64 0)
  have hI1 := hI0.updated 0 (.int .i64 0)
  rw [put_ivI] at hI1
  have hP0 : W0.heap[w.heap.size]? = some (.cells #[v1, v2, .int .i64 S.gap, v3, .slice a n c, v5] 40) := by
    rw [hW0]; exact obj_old (obj_last w _)
  have hB0 : Below w.heap.size w W0 := by rw [hW0]; (repeat (first | with_reducible exact Below.refl _ _ | with_reducible assumption | ((with_reducible refine Below.setCell ?_ ?_ _); rotate_left; focus (first | exact Nat.le_refl _ | omega | exact Below.size (by assumption) | (simp; done) | (simp; omega))) | ((with_reducible refine Below.alloc ?_ ?_ _); rotate_left; focus (first | exact Nat.le_refl _ | omega | exact Below.size (by assumption) | (simp; done) | (simp; omega))) | (with_reducible refine Below.drew ?_) | (with_reducible refine drewN_ ?_ _)))
  have hz0 : W0.heap.size = w.heap.size + 2 := by rw [hW0]; simp
  have hG := mset_grown W0 (w.heap.size + 1) 0 (.int .i64 0)
  have hP1 : (mset W0 (w.heap.size + 1) 0 (.int .i64 0)).heap[w.heap.size]? = some (.cells #[v1, v2, .int .i64 S.gap, v3, .slice a n c, v5] 40) := by
    rw [hG.block _ (by omega) (fun e => by injection e with e; omega)]; exact hP0
  have l4 := obj_cell hP1 4
  simp at l4
  have P1 := Lib.hid hP1
  have HB1 := Lib.hid (hB0.grown hG (by omega) (fun b hb => by injection hb with hb; omega))
  have HI1 := Lib.hid hI1
  have hz1 := hG.size
  have hz2 : w.heap.size + 2 ≤ (mset W0 (w.heap.size + 1) 0 (.int .i64 0)).heap.size := by omega
  clear hI0 hI1 hP0 hB0 hG hP1 hz1 hz0
  subst hW0
  go_enter Tryz.func15, Tryz.ntmps15
  go_wp2
  clear hup0
  generalize mset ((w.alloc (.cells #[v1, v2, .int .i64 S.gap, v3, .slice a n c, v5] 40)).alloc (.map #[] 0)) (w.heap.size + 1) 0 (.int .i64 0) = W1 at HB1 HI1 P1 l4 hz2 ⊢
  go_loopw [11] (fun s11 wr => ∃ k : Nat, s11 = .int .i64 k ∧ k ≤ n ∧ Hid (IMap wr (w.heap.size + 1) (ivI (offE (S.clocks.take k)))) ∧ Hid (Below w.heap.size w wr) ∧ w.heap.size + 2 ≤ wr.heap.size) (fun s11 _ => n - (intOf s11).toNat)
  case atStart => exact ⟨0, rfl, Nat.zero_le _, HI1.out, HB1.out, hz2⟩
  case round =>
    obtain ⟨k, rfl, hk, hI, hB, hz⟩ := hrel
    by_cases hlt : k < n
    · have hkl : k < S.clocks.length := by rw [HN.out]; exact hlt
      obtain ⟨b, off, rfl, hb, hcs⟩ := HC.out.cells k hkl
      have k0 : w.cell? ⟨b, off + k * 2, none⟩ = _ := hcs k hkl 0 _ rfl
      have k1 : w.cell? ⟨b, off + k * 2 + 1, none⟩ = _ := hcs k hkl 1 _ rfl
      rw [← hB.out.cell (p := ⟨b, _, none⟩) hb] at k0 k1
      have hzb : b < wr.heap.size := by omega
      obtain ⟨x, hx⟩ : ∃ x, x = S.clocks[k]! := ⟨_, rfl⟩
      rw [← hx] at k0 k1
      have HX := Lib.hid hx
      clear hcs hx
      have hI2 := hI.out.keep ((Below.refl wr.heap.size wr).alloc (Nat.le_refl _) (.cells #[.int .i64 x.dev, .int .i64 x.off] 48))
      have hup := hI2.update (P := Tryz.prog) uLens uInt x.dev (.int .i64 x.off)
      have hI3 := hI2.updated x.dev (.int .i64 x.off)
      have HI3 := Lib.hid hI3
      clear hI2 hI3
      go_wp2_with fail
      go_roundw
      case rel =>
        have hG := mset_grown (wr.alloc (.cells #[.int .i64 x.dev, .int .i64 x.off] 48)) (w.heap.size + 1) x.dev (.int .i64 x.off)
        have hgz := hG.size
        simp at hgz
        refine ⟨k + 1, by go_num, by omega, ?_, ?_, by omega⟩
        · show IMap _ _ _
          have e : offE (S.clocks.take (k + 1)) = put (offE (S.clocks.take k)) x.dev x.off := by
            unfold offE
            rw [List.take_succ_eq_append_getElem hkl, List.foldl_append, HX.out, getElem!_pos S.clocks k hkl]; rfl
          rw [e, ← put_ivI]; exact HI3.out
        · exact (hB.out.alloc (by omega) _).grown hG (by simp; omega) (fun b hb => by injection hb with hb; omega)
      case measure => simp [intOf]; omega
    · obtain rfl : k = n := by omega
      go_wp2
      go_ret
      have hI := hI.out
      rw [List.take_of_length_le (by rw [HN.out]; exact Nat.le_refl _)] at hI
      exact ⟨⟨_, rfl, by omega, hI⟩, hB.out⟩
end Go.Proofs.YtmplajpbmojkkaaGreat
namespace Go.Proofs.YtmplajpbmojkkaaGreat
open Go Go.RowKit Go.Vi
theorem inB_ok {n lo hi : Int} (h : lo ≤ n ∧ n ≤ hi) : inB n lo hi = true := inB_iff.2 h
theorem lens_two {w : World} {b : Nat} {E : List (Int × Int)} (h : IMap w b (ivI E)) (a d : Int) (ha : Vi.look E a = some d) : (Instr.lookup 78 (.map (some b)) (.int .i64 a) true).run Tryz.prog w = .ok (.tuple #[.int .i64 d, .bool true]) w := by
  have := h.lookup (P := Tryz.prog) uLens uInt (zInt w) a true
  rw [look_ivI, ha] at this
  exact this
set_option maxRecDepth 100000 in
set_option maxHeartbeats 4000000 in
theorem checkClocksS_any (S : Scn) (v1 v2 v3 v4 v5 : Value) (w : World) (hS : ScnAt w.heap.size w v1 v2 v3 v4 v5 S) (hK : ClocksOK S) (hz4 : S.clocks.length ≤ 1000) (hz3 : S.trips.length ≤ 1000) :
    Calls Tryz.prog 28 #[S.v v1 v2 v3 v4 v5] w fun e w' => e = .returned (.int .i64 0) ∧ Below w.heap.size w w' := by
  obtain ⟨a3, n3, c3, rfl, hn3, hn31, hn32⟩ := hS.trips.open
  obtain ⟨a4, n4, c4, rfl, hn4, hn41, hn42⟩ := hS.clocks.open
  rw [List.length_map] at hn4
  rw [hn4] at hz4
  rw [hn3] at hz3
  have HS := Lib.hid hS
  have HK := Lib.hid hK
  have HN3 := Lib.hid hn3
  have HN4 := Lib.hid hn4
  clear hS hK hn3 hn4 hn32 hn31 hn41 hn42
  have P0 := Lib.hid (obj_last w (.cells #[v1, v2, .int .i64 S.gap, .slice a3 n3 c3, .slice a4 n4 c4, v5] 40))
  go_enter Tryz.func28, Tryz.ntmps28
  go_wp2
  obtain ⟨W0, hW0⟩ : ∃ W0, W0 = w.alloc (.cells #[v1, v2, .int .i64 S.gap, .slice a3 n3 c3, .slice a4 n4 c4, v5] 40) := ⟨_, rfl⟩
  have B0 := Lib.hid ((Below.refl w.heap.size w).alloc (Nat.le_refl _) (.cells #[v1, v2, .int .i64 S.gap, .slice a3 n3 c3, .slice a4 n4 c4, v5] 40))
  rw [← hW0] at P0 B0 ⊢
  clear hW0
  go_loopw [13] (fun s13 wr => ∃ k : Nat, s13 = .int .i64 k ∧ k ≤ n4 ∧ Hid (Below W0.heap.size W0 wr)) (fun s13 _ => n4 - (intOf s13).toNat)
  case atStart => exact ⟨0, rfl, Nat.zero_le _, Below.refl _ _⟩
  case round =>
    obtain ⟨k, rfl, hk, hB⟩ := hrel
    have hPw := keepObj hB.out P0.out
    have l0 := obj_cell hPw 0
    have l1 := obj_cell hPw 1
    have l2 := obj_cell hPw 2
    have l3 := obj_cell hPw 3
    have l4 := obj_cell hPw 4
    have l5 := obj_cell hPw 5
    simp at l0 l1 l2 l3 l4 l5
    have zb := obj_lt hPw
    have PW := Lib.hid hPw
    have BW := Lib.hid (B0.out.trans (hB.out.mono B0.out.size))
    clear hPw
    by_cases hlt : k < n4
    · have hkl : k < S.clocks.length := by rw [HN4.out]; exact hlt
      obtain ⟨b, off, rfl, hb, hcs⟩ := HS.out.clocks.cells k hkl
      have k0 : w.cell? ⟨b, off + k * 2, none⟩ = _ := hcs k hkl 0 _ rfl
      have k1 : w.cell? ⟨b, off + k * 2 + 1, none⟩ = _ := hcs k hkl 1 _ rfl
      rw [← BW.out.cell (p := ⟨b, _, none⟩) hb] at k0 k1
      have hzb : b < wr.heap.size := by have := BW.out.size; omega
      obtain ⟨g1, g2, g3⟩ := HK.out.clk k hkl
      obtain ⟨x, hx⟩ : ∃ x, x = S.clocks[k]! := ⟨_, rfl⟩
      rw [← hx] at k0 k1 g1 g2 g3
      have q1 := inB_ok g1
      have q2 := inB_ok g3
      by_cases hk0 : k = 0
      · have hk0' : decide (0 < k) = false := by simp; omega
        have hk1' : decide ((0 : Int) < (k : Int)) = false := by simp; omega
        clear hcs hx hk0 g1 g2 g3
        go_wp2_with (go_at_call 26; refine (between_any _ _ _ _).mono ?_; rintro e w' ⟨rfl, rfl⟩)
        go_quiet (fail)
        go_wp2_with (go_at_call 26; refine (between_any _ _ _ _).mono ?_; rintro e w' ⟨rfl, rfl⟩)
        go_roundw
        case rel => exact ⟨k + 1, by go_num, by omega, by have h := hB.out; show Below _ _ _; (repeat (first | with_reducible exact Below.refl _ _ | with_reducible assumption | ((with_reducible refine Below.setCell ?_ ?_ _); rotate_left; focus (first | exact Nat.le_refl _ | omega | exact Below.size (by assumption) | (simp; done) | (simp; omega))) | ((with_reducible refine Below.alloc ?_ ?_ _); rotate_left; focus (first | exact Nat.le_refl _ | omega | exact Below.size (by assumption) | (simp; done) | (simp; omega))) | (with_reducible refine Below.drew ?_) | (with_reducible refine drewN_ ?_ _)))⟩
        case measure => simp [intOf]; omega
      · obtain ⟨j, hj⟩ : ∃ j, j + 1 = k := ⟨k - 1, by omega⟩
        have y0 : w.cell? ⟨b, off + j * 2, none⟩ = _ := hcs j (by omega) 0 _ rfl
        rw [← BW.out.cell (p := ⟨b, _, none⟩) hb] at y0
        have hlt3 := g2 (by omega)
        have hkj : k - 1 = j := by omega
        rw [hkj] at hlt3
        obtain ⟨y, hy⟩ : ∃ y, y = S.clocks[j]! := ⟨_, rfl⟩
        rw [← hy] at y0 hlt3
        have hd' : decide (x.dev ≤ y.dev) = false := by simp; omega
        have hj1 : (k : Int) - 1 = (j : Int) := by omega
        have hj2 : IntKind.i64.wrap (j : Int) = (j : Int) := IntWalk.i64_in _ (by omega)
        have hj3 : (0 : Int) < (k : Int) := by omega
        have hj4 : (j : Int) < (n4 : Int) := by omega
        have hj5 : j < n4 := by omega
        have hj6 : 0 < k := by omega
        clear hcs hx hk0 g1 g2 g3 hy hkj hj
        go_wp2_with (go_at_call 26; refine (between_any _ _ _ _).mono ?_; rintro e w' ⟨rfl, rfl⟩)
        go_quiet (fail)
        go_wp2_with (go_at_call 26; refine (between_any _ _ _ _).mono ?_; rintro e w' ⟨rfl, rfl⟩)
        go_roundw
        case rel => exact ⟨k + 1, by go_num, by omega, by have h := hB.out; show Below _ _ _; (repeat (first | with_reducible exact Below.refl _ _ | with_reducible assumption | ((with_reducible refine Below.setCell ?_ ?_ _); rotate_left; focus (first | exact Nat.le_refl _ | omega | exact Below.size (by assumption) | (simp; done) | (simp; omega))) | ((with_reducible refine Below.alloc ?_ ?_ _); rotate_left; focus (first | exact Nat.le_refl _ | omega | exact Below.size (by assumption) | (simp; done) | (simp; omega))) | (with_reducible refine Below.drew ?_) | (with_reducible refine drewN_ ?_ _)))⟩
        case measure => simp [intOf]; omega
    · obtain rfl : k = n4 := by omega
      obtain ⟨wo, rfl⟩ : ∃ wo : World, wo = wr := ⟨_, rfl⟩
      go_wp2_with (go_at_call 15; refine (offsets_any S v1 v2 _ _ v5 _ (HS.out.clocks.later BW.out) (by rw [HN4.out]; exact hz4)).mono ?_; rintro e w2 ⟨⟨bm, rfl, hbm, hI⟩, hb2⟩; have hP2 := keepObj hb2 PW.out; have m3 := obj_cell hP2 3; simp at m3; have B2 := Lib.hid (BW.out.trans (hb2.mono BW.out.size)); have HI := Lib.hid hI; have zb2 := obj_lt hP2; clear hb2 hI hP2)
      go_loopw [49] (fun s49 wr => ∃ k2 : Nat, s49 = .int .i64 k2 ∧ k2 ≤ n3 ∧ Hid (Below w2.heap.size w2 wr)) (fun s49 _ => n3 - (intOf s49).toNat)
      case atStart => exact ⟨0, rfl, Nat.zero_le _, Below.refl _ _⟩
      case round =>
        obtain ⟨k2, rfl, hk2, hB3⟩ := hrel
        have BX := Lib.hid (B2.out.trans (hB3.out.mono B2.out.size))
        by_cases hlt2 : k2 < n3
        · have hkl2 : k2 < S.trips.length := by rw [HN3.out]; exact hlt2
          obtain ⟨b, off, rfl, hb, hcs⟩ := HS.out.trips.at k2 hkl2
          obtain ⟨v, hv, t0, t1, t2, t3, t4⟩ := hcs k2 hkl2
          rw [← BX.out.cell (p := ⟨b, _, none⟩) hb] at t0 t1 t2 t3 t4
          have hzb : b < wr.heap.size := by have := BX.out.size; omega
          have hd := HK.out.dev k2 hkl2
          have hlo := off_look HK.out S.trips[k2]!.dev
          rw [if_pos hd] at hlo
          obtain ⟨t, ht⟩ : ∃ t, t = S.trips[k2]! := ⟨_, rfl⟩
          rw [← ht] at t0 t1 t2 t3 hlo
          obtain ⟨av, m, cv, rfl, _, _, _⟩ := hv.open
          have hlk := lens_two (w := wr.alloc (.cells #[.int .i64 t.obj, .int .i64 t.dev, .int .i64 t.start, .int .i64 t.speed, .slice av m cv] 61)) ((HI.out.keep hB3.out).keep (by (repeat (first | with_reducible exact Below.refl _ _ | with_reducible assumption | ((with_reducible refine Below.setCell ?_ ?_ _); rotate_left; focus (first | exact Nat.le_refl _ | omega | exact Below.size (by assumption) | (simp; done) | (simp; omega))) | ((with_reducible refine Below.alloc ?_ ?_ _); rotate_left; focus (first | exact Nat.le_refl _ | omega | exact Below.size (by assumption) | (simp; done) | (simp; omega))) | (with_reducible refine Below.drew ?_) | (with_reducible refine drewN_ ?_ _))))) t.dev _ hlo
          clear hcs hv hd hlo ht
          go_wp2_with fail
          go_roundw
          case rel => exact ⟨k2 + 1, by go_num, by omega, by have h := hB3.out; show Below _ _ _; (repeat (first | with_reducible exact Below.refl _ _ | with_reducible assumption | ((with_reducible refine Below.setCell ?_ ?_ _); rotate_left; focus (first | exact Nat.le_refl _ | omega | exact Below.size (by assumption) | (simp; done) | (simp; omega))) | ((with_reducible refine Below.alloc ?_ ?_ _); rotate_left; focus (first | exact Nat.le_refl _ | omega | exact Below.size (by assumption) | (simp; done) | (simp; omega))) | (with_reducible refine Below.drew ?_) | (with_reducible refine drewN_ ?_ _)))⟩
          case measure => simp [intOf]; omega
        · obtain rfl : k2 = n3 := by omega
          go_wp2
          go_ret
          exact ⟨rfl, BX.out⟩
end Go.Proofs.YtmplajpbmojkkaaGreat
namespace Go.Proofs.YtmplajpbmojkkaaGreat
open Go Go.RowKit Go.Vi
def synE (X : List Snc) : List (Int × Value) := X.foldl (fun E x => put E x.dev (.bool true)) []
theorem syn_keep (X : List Snc) (d : Int) : ∀ E : List (Int × Value), Vi.look E d = some (.bool true) → Vi.look (X.foldl (fun E x => put E x.dev (.bool true)) E) d = some (.bool true) := by
  induction X with
  | nil => intro E h; exact h
  | cons x X ih =>
    intro E h
    rw [List.foldl_cons]
    apply ih
    rw [look_put]
    split
    · rfl
    · exact h
theorem syn_mem (X : List Snc) {x : Snc} (hx : x ∈ X) : ∀ E : List (Int × Value), Vi.look (X.foldl (fun E x => put E x.dev (.bool true)) E) x.dev = some (.bool true) := by
  induction X with
  | nil => cases hx
  | cons y X ih =>
    intro E
    rw [List.foldl_cons]
    rcases List.mem_cons.1 hx with rfl | h
    · apply syn_keep
      rw [look_put, if_pos rfl]
    · exact ih h _
theorem uSyn : Tryz.prog.underlying 143 = some (.map 3 4) := by kernel_rfl
theorem zBool (w : World) : (zeroValue 4).run Tryz.prog w = .ok (.bool false) w := by kernel_rfl
set_option maxRecDepth 100000 in
set_option maxHeartbeats 4000000 in
theorem checkSyncs_any (S : Scn) (v1 v2 v3 v4 v5 : Value) (w : World) (hS : ScnAt w.heap.size w v1 v2 v3 v4 v5 S) (hK : ClocksOK S) (hz4 : S.clocks.length ≤ 1000) (hz5 : S.syncs.length ≤ 1000) :
    Calls Tryz.prog 29 #[S.v v1 v2 v3 v4 v5] w fun e w' => e = .returned (.int .i64 0) ∧ Below w.heap.size w w' := by
  obtain ⟨a4, n4, c4, rfl, hn4, hn41, hn42⟩ := hS.clocks.open
  obtain ⟨a5, n5, c5, rfl, hn5, hn51, hn52⟩ := hS.syncs.open
  rw [List.length_map] at hn4 hn5
  rw [hn4] at hz4
  rw [hn5] at hz5
  have HS := Lib.hid hS
  have HK := Lib.hid hK
  have HN4 := Lib.hid hn4
  have HN5 := Lib.hid hn5
  have hmm := @run_makeMap Tryz.prog
  clear hS hK hn4 hn5 hn52 hn51 hn41 hn42
  have P0 := Lib.hid (obj_last w (.cells #[v1, v2, .int .i64 S.gap, v3, .slice a4 n4 c4, .slice a5 n5 c5] 40))
  go_enter Tryz.func29, Tryz.ntmps29
  go_wp2_with (go_at_call 15; refine (offsets_any S v1 v2 v3 _ _ _ (HS.out.clocks.later (by (repeat (first | with_reducible exact Below.refl _ _ | with_reducible assumption | ((with_reducible refine Below.setCell ?_ ?_ _); rotate_left; focus (first | exact Nat.le_refl _ | omega | exact Below.size (by assumption) | (simp; done) | (simp; omega))) | ((with_reducible refine Below.alloc ?_ ?_ _); rotate_left; focus (first | exact Nat.le_refl _ | omega | exact Below.size (by assumption) | (simp; done) | (simp; omega))) | (with_reducible refine Below.drew ?_) | (with_reducible refine drewN_ ?_ _))))) (by rw [HN4.out]; exact hz4)).mono ?_; rintro e w2 ⟨⟨bm, rfl, hbm, hI⟩, hb2⟩; have hP2 := keepObj hb2 P0.out; have m4 := obj_cell hP2 4; have m5 := obj_cell hP2 5; simp at m4 m5; have B2 := Lib.hid (from_ (w := w) hb2 (by (repeat (first | with_reducible exact Below.refl _ _ | with_reducible assumption | ((with_reducible refine Below.setCell ?_ ?_ _); rotate_left; focus (first | exact Nat.le_refl _ | omega | exact Below.size (by assumption) | (simp; done) | (simp; omega))) | ((with_reducible refine Below.alloc ?_ ?_ _); rotate_left; focus (first | exact Nat.le_refl _ | omega | exact Below.size (by assumption) | (simp; done) | (simp; omega))) | (with_reducible refine Below.drew ?_) | (with_reducible refine drewN_ ?_ _))))); have HI := Lib.hid hI; have zb2 := obj_lt hP2; have PW := Lib.hid hP2; clear hb2 hI hP2)
  go_loopw [17] (fun s17 wr => ∃ k : Nat, s17 = .int .i64 k ∧ k ≤ n5 ∧ Hid (IMap wr w2.heap.size (synE (S.syncs.take k))) ∧ Hid (Below w2.heap.size w2 wr)) (fun s17 _ => n5 - (intOf s17).toNat)
  case atStart => exact ⟨0, rfl, Nat.zero_le _, IMap.made w2, by show Below _ _ _; (repeat (first | with_reducible exact Below.refl _ _ | with_reducible assumption | ((with_reducible refine Below.setCell ?_ ?_ _); rotate_left; focus (first | exact Nat.le_refl _ | omega | exact Below.size (by assumption) | (simp; done) | (simp; omega))) | ((with_reducible refine Below.alloc ?_ ?_ _); rotate_left; focus (first | exact Nat.le_refl _ | omega | exact Below.size (by assumption) | (simp; done) | (simp; omega))) | (with_reducible refine Below.drew ?_) | (with_reducible refine drewN_ ?_ _)))⟩
  case round =>
    obtain ⟨k, rfl, hk, hY, hB⟩ := hrel
    have hPw := keepObj hB.out PW.out
    have l4 := obj_cell hPw 4
    have l5 := obj_cell hPw 5
    simp at l4 l5
    have zb := obj_lt hPw
    have BW := Lib.hid (B2.out.trans (hB.out.mono B2.out.size))
    clear hPw
    by_cases hlt : k < n5
    · have hkl : k < S.syncs.length := by rw [HN5.out]; exact hlt
      obtain ⟨b, off, rfl, hb, hcs⟩ := HS.out.syncs.cells k hkl
      have t0 : w.cell? ⟨b, off + k * 6, none⟩ = _ := hcs k hkl 0 _ rfl
      have t1 : w.cell? ⟨b, off + k * 6 + 1, none⟩ = _ := hcs k hkl 1 _ rfl
      have t2 : w.cell? ⟨b, off + k * 6 + 2, none⟩ = _ := hcs k hkl 2 _ rfl
      have t3 : w.cell? ⟨b, off + k * 6 + 3, none⟩ = _ := hcs k hkl 3 _ rfl
      have t4 : w.cell? ⟨b, off + k * 6 + 4, none⟩ = _ := hcs k hkl 4 _ rfl
      have t5 : w.cell? ⟨b, off + k * 6 + 5, none⟩ = _ := hcs k hkl 5 _ rfl
      rw [← BW.out.cell (p := ⟨b, _, none⟩) hb] at t0 t1 t2 t3 t4 t5
      have hzb : b < wr.heap.size := by have := BW.out.size; omega
      obtain ⟨g0, g1, g2, g3, g4, g5, g6⟩ := HK.out.snc k hkl
      have hlo := off_look HK.out S.syncs[k]!.dev
      rw [if_pos g0] at hlo
      obtain ⟨x, hx⟩ : ∃ x, x = S.syncs[k]! := ⟨_, rfl⟩
      rw [← hx] at t0 t1 t2 t3 t4 t5 g1 g2 g3 g4 g5 g6 hlo
      have HX := Lib.hid hx
      have g1' : (x.dev == 0) = false := by simpa using g1
      have q2 := inB_ok g2
      have q3 := inB_ok g3
      have q4 := inB_ok g4
      have q5 := inB_ok g5
      have q6 := inB_ok g6
      have hlk := lens_two (w := wr.alloc (.cells #[.int .i64 x.dev, .int .i64 x.sent, .int .i64 x.out, .int .i64 x.back, .int .i64 x.so, .int .i64 x.sb] 58)) ((HI.out.keep hB.out).keep (by (repeat (first | with_reducible exact Below.refl _ _ | with_reducible assumption | ((with_reducible refine Below.setCell ?_ ?_ _); rotate_left; focus (first | exact Nat.le_refl _ | omega | exact Below.size (by assumption) | (simp; done) | (simp; omega))) | ((with_reducible refine Below.alloc ?_ ?_ _); rotate_left; focus (first | exact Nat.le_refl _ | omega | exact Below.size (by assumption) | (simp; done) | (simp; omega))) | (with_reducible refine Below.drew ?_) | (with_reducible refine drewN_ ?_ _))))) x.dev _ hlo
      have hY2 := hY.out.keep ((Below.refl wr.heap.size wr).alloc (Nat.le_refl _) (.cells #[.int .i64 x.dev, .int .i64 x.sent, .int .i64 x.out, .int .i64 x.back, .int .i64 x.so, .int .i64 x.sb] 58))
      have hup := hY2.update (P := Tryz.prog) uSyn uInt x.dev (.bool true)
      have hY3 := hY2.updated x.dev (.bool true)
      have HY3 := Lib.hid hY3
      clear hcs hx g0 g1 g2 g3 g4 g5 g6 hlo hY2 hY3
      go_wp2_with (go_at_call 26; refine (between_any _ _ _ _).mono ?_; rintro e w' ⟨rfl, rfl⟩)
      go_roundw
      case rel =>
        have hG := mset_grown (wr.alloc (.cells #[.int .i64 x.dev, .int .i64 x.sent, .int .i64 x.out, .int .i64 x.back, .int .i64 x.so, .int .i64 x.sb] 58)) w2.heap.size x.dev (.bool true)
        have hbz := hB.out.size
        refine ⟨k + 1, by go_num, by omega, ?_, ?_⟩
        · show IMap _ _ _
          have e : synE (S.syncs.take (k + 1)) = put (synE (S.syncs.take k)) x.dev (.bool true) := by
            unfold synE
            rw [List.take_succ_eq_append_getElem hkl, List.foldl_append, HX.out, getElem!_pos S.syncs k hkl]; rfl
          rw [e]; exact HY3.out
        · exact (hB.out.alloc hbz _).grown hG (by simp; omega) (fun b hb => by injection hb with hb; omega)
      case measure => simp [intOf]; omega
    · obtain rfl : k = n5 := by omega
      have hY := hY.out
      rw [List.take_of_length_le (by rw [HN5.out]; exact Nat.le_refl _)] at hY
      have HY := Lib.hid hY
      clear hY
      obtain ⟨wo, rfl⟩ : ∃ wo : World, wo = wr := ⟨_, rfl⟩
      go_wp2
      go_loopw [75] (fun s75 wr => ∃ k2 : Nat, s75 = .int .i64 k2 ∧ k2 ≤ n4 ∧ Hid (Below wo.heap.size wo wr)) (fun s75 _ => n4 - (intOf s75).toNat)
      case atStart => exact ⟨0, rfl, Nat.zero_le _, Below.refl _ _⟩
      case round =>
        obtain ⟨k2, rfl, hk2, hB3⟩ := hrel
        have BX := Lib.hid (BW.out.trans (hB3.out.mono BW.out.size))
        by_cases hlt2 : k2 < n4
        · have hkl2 : k2 < S.clocks.length := by rw [HN4.out]; exact hlt2
          obtain ⟨b, off, rfl, hb, hcs⟩ := HS.out.clocks.cells k2 hkl2
          have k0 : w.cell? ⟨b, off + k2 * 2, none⟩ = _ := hcs k2 hkl2 0 _ rfl
          have k1 : w.cell? ⟨b, off + k2 * 2 + 1, none⟩ = _ := hcs k2 hkl2 1 _ rfl
          rw [← BX.out.cell (p := ⟨b, _, none⟩) hb] at k0 k1
          have hzb : b < wr.heap.size := by have := BX.out.size; omega
          have hg := HK.out.gap k2 hkl2
          obtain ⟨x, hx⟩ : ∃ x, x = S.clocks[k2]! := ⟨_, rfl⟩
          rw [← hx] at k0 k1 hg
          have hY4 := (HY.out.keep hB3.out).keep ((Below.refl wr.heap.size wr).alloc (Nat.le_refl _) (.cells #[.int .i64 x.dev, .int .i64 x.off] 48))
          have hlk := hY4.lookup (P := Tryz.prog) uSyn uInt (zBool _) x.dev false
          by_cases ho : x.off = 0
          · have ho' : (x.off != 0) = false := by simpa using ho
            clear hcs hx hY4 hlk hg ho
            go_wp2_with fail
            go_roundw
            case rel => exact ⟨k2 + 1, by go_num, by omega, by have h := hB3.out; show Below _ _ _; (repeat (first | with_reducible exact Below.refl _ _ | with_reducible assumption | ((with_reducible refine Below.setCell ?_ ?_ _); rotate_left; focus (first | exact Nat.le_refl _ | omega | exact Below.size (by assumption) | (simp; done) | (simp; omega))) | ((with_reducible refine Below.alloc ?_ ?_ _); rotate_left; focus (first | exact Nat.le_refl _ | omega | exact Below.size (by assumption) | (simp; done) | (simp; omega))) | (with_reducible refine Below.drew ?_) | (with_reducible refine drewN_ ?_ _)))⟩
            case measure => simp [intOf]; omega
          · have ho' : (x.off != 0) = true := by simpa using ho
            obtain ⟨y, hy, hyd⟩ := hg.resolve_left ho
            have hm := syn_mem S.syncs hy []
            rw [hyd] at hm
            have hm2 : Vi.look (synE S.syncs) x.dev = some (.bool true) := hm
            rw [hm2] at hlk
            have hlk2 : (Instr.lookup 143 (.map (some w2.heap.size)) (.int .i64 x.dev) false).run Tryz.prog (wr.alloc (.cells #[.int .i64 x.dev, .int .i64 x.off] 48)) = .ok (.bool true) (wr.alloc (.cells #[.int .i64 x.dev, .int .i64 x.off] 48)) := hlk
            clear hcs hx hY4 hlk hg ho hm hm2 hyd hy
            go_wp2_with fail
            go_roundw
            case rel => exact ⟨k2 + 1, by go_num, by omega, by have h := hB3.out; show Below _ _ _; (repeat (first | with_reducible exact Below.refl _ _ | with_reducible assumption | ((with_reducible refine Below.setCell ?_ ?_ _); rotate_left; focus (first | exact Nat.le_refl _ | omega | exact Below.size (by assumption) | (simp; done) | (simp; omega))) | ((with_reducible refine Below.alloc ?_ ?_ _); rotate_left; focus (first | exact Nat.le_refl _ | omega | exact Below.size (by assumption) | (simp; done) | (simp; omega))) | (with_reducible refine Below.drew ?_) | (with_reducible refine drewN_ ?_ _)))⟩
            case measure => simp [intOf]; omega
        · obtain rfl : k2 = n4 := by omega
          go_wp2
          go_ret
          exact ⟨rfl, BX.out⟩
end Go.Proofs.YtmplajpbmojkkaaGreat
