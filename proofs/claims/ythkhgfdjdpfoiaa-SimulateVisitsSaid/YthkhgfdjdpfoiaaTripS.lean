/-
  simulate's checkTrips at trips that the model accepts.
-/
import Derived.Test.YthkhgfdjdpfoiaaTripC
set_option linter.unusedSimpArgs false
set_option linter.unusedVariables false
namespace Go.Proofs.Ythkhgfdjdpfoiaa
open Go Go.RowKit Go.Vi
theorem tripErr_zero {n : Net} {t : Trp} {last : Int} (h : tripErr n t last = 0) : inB t.obj 1 1073741824 = true ∧ last < t.obj ∧ inB t.start 0 1073741824 = true ∧ inB t.speed 1 1048576 = true ∧ t.vis.length ≠ 0 ∧ t.vis.length ≤ 32 ∧ visErr n.nodes none t.vis = 0 := by
  unfold tripErr at h
  by_cases c1 : inB t.obj 1 1073741824 = false
  · rw [if_pos c1] at h; simp at h
  rw [if_neg c1] at h
  by_cases c2 : t.obj ≤ last
  · rw [if_pos c2] at h; simp at h
  rw [if_neg c2] at h
  by_cases c3 : inB t.start 0 1073741824 = false
  · rw [if_pos c3] at h; simp at h
  rw [if_neg c3] at h
  by_cases c4 : inB t.speed 1 1048576 = false
  · rw [if_pos c4] at h; simp at h
  rw [if_neg c4] at h
  by_cases c5 : t.vis.length = 0
  · rw [if_pos c5] at h; simp at h
  rw [if_neg c5] at h
  by_cases c6 : 32 < t.vis.length
  · rw [if_pos c6] at h; simp at h
  rw [if_neg c6] at h
  exact ⟨by simpa using c1, by omega, by simpa using c3, by simpa using c4, c5, by omega, h⟩
theorem visErr_zero {q : List Nd} : ∀ (l : List Vis) (p : Option Int), visErr q p l = 0 → ∀ k, k < l.length → (nodeOf q l[k]!.node).isSome = true ∧ inB l[k]!.wait 0 1073741824 = true ∧ (k = 0 → p ≠ some l[0]!.node) ∧ (∀ j, j + 1 = k → l[j]!.node ≠ l[k]!.node)
  | [], _, _ => fun k hk => by simp at hk
  | v :: vs, p, h => fun k hk => by
    unfold visErr at h
    by_cases c1 : (nodeOf q v.node).isSome = false
    · rw [if_pos c1] at h; simp at h
    rw [if_neg c1] at h
    by_cases c2 : inB v.wait 0 1073741824 = false
    · rw [if_pos c2] at h; simp at h
    rw [if_neg c2] at h
    by_cases c3 : p = some v.node
    · rw [if_pos c3] at h; simp at h
    rw [if_neg c3] at h
    cases k with
    | zero => exact ⟨by cases hq : (nodeOf q v.node).isSome with | true => exact hq | false => exact absurd hq c1, by simpa using c2, fun _ => c3, fun j hj => by omega⟩
    | succ k =>
      obtain ⟨g1, g2, g3, g4⟩ := visErr_zero vs (some v.node) h k (by simpa using hk)
      refine ⟨g1, g2, fun h => by omega, fun j hj => ?_⟩
      cases j with
      | zero =>
        have hk0 : k = 0 := by omega
        subst hk0
        have := g3 rfl
        intro e
        exact this (by rw [show (v :: vs)[0]!.node = v.node from rfl] at e; rw [e]; rfl)
      | succ j => exact g4 j (by omega)
def lastOf (T : List Trp) (i : Nat) : Int := match i with | 0 => 0 | j + 1 => T[j]!.obj
def TripsOK (S : Scn) : Prop := ∀ i, i < S.trips.length → tripErr S.net S.trips[i]! (lastOf S.trips i) = 0
set_option maxRecDepth 100000 in
set_option maxHeartbeats 4000000 in
theorem checkTrips_any (S : Scn) (v1 v2 v3 v4 v5 : Value) (w : World) (hS : ScnAt w.heap.size w v1 v2 v3 v4 v5 S) (hs : SrtN S.net.nodes) (hsz : S.net.nodes.length ≤ 1000000) (hT : TripsOK S) (hz : S.trips.length ≤ 1000) :
    Calls Try.prog 26 #[S.v v1 v2 v3 v4 v5] w fun e w' => e = .returned (.int .i64 0) ∧ Below w.heap.size w w' := by
  obtain ⟨a3, n3, c3, rfl, hn3, hn31, hn32⟩ := hS.trips.open
  rw [hn3] at hz
  have HS := Lib.hid hS
  have HSR := Lib.hid hs
  have HT := Lib.hid hT
  have HN3 := Lib.hid hn3
  clear hS hn3 hn32 hn31 hs hT
  have P0 := Lib.hid (obj_last w (.cells #[v1, v2, .int .i64 S.gap, .slice a3 n3 c3, v4, v5] 40))
  go_enter Try.func26, Try.ntmps26
  go_wp2
  obtain ⟨W0, hW0⟩ : ∃ W0, W0 = w.alloc (.cells #[v1, v2, .int .i64 S.gap, .slice a3 n3 c3, v4, v5] 40) := ⟨_, rfl⟩
  have B0 := Lib.hid ((Below.refl w.heap.size w).alloc (Nat.le_refl _) (.cells #[v1, v2, .int .i64 S.gap, .slice a3 n3 c3, v4, v5] 40))
  rw [← hW0] at P0 B0 ⊢
  clear hW0
  go_loopw [12] (fun s12 wr => ∃ k : Nat, s12 = .int .i64 k ∧ k ≤ n3 ∧ Hid (Below W0.heap.size W0 wr)) (fun s12 _ => n3 - (intOf s12).toNat)
  case atStart => exact ⟨0, rfl, Nat.zero_le _, Below.refl _ _⟩
  case round =>
    obtain ⟨k, rfl, hk, hB⟩ := hrel
    have hPw := keepObj hB.out P0.out
    have l0 := obj_cell hPw 0
    have l1 := obj_cell hPw 1
    have l3 := obj_cell hPw 3
    simp at l0 l1 l3
    have zb := obj_lt hPw
    have PW := Lib.hid hPw
    have BW := Lib.hid (B0.out.trans (hB.out.mono B0.out.size))
    clear hPw
    by_cases hlt : k < n3
    · have hkl : k < S.trips.length := by rw [HN3.out]; exact hlt
      obtain ⟨b, off, rfl, hb, hcs⟩ := HS.out.trips.at k hkl
      obtain ⟨v, hv, t0, t1, t2, t3, t4⟩ := hcs k hkl
      have herr := tripErr_zero (HT.out k hkl)
      obtain ⟨t, ht⟩ : ∃ t, t = S.trips[k]! := ⟨_, rfl⟩
      rw [← ht] at hv t0 t1 t2 t3 herr
      obtain ⟨av, m, cv, rfl, hm, hm1, hm2⟩ := hv.open
      rw [List.length_map] at hm
      obtain ⟨q1, q2, q3, q4, q5, q6, q7⟩ := herr
      rw [hm] at q5 q6
      rw [← BW.out.cell (p := ⟨b, _, none⟩) hb] at t0 t1 t2 t3 t4
      have hzb : b < wr.heap.size := by have := BW.out.size; omega
      have q5' : ((m : Int) == 0) = false := by simpa using q5
      have q6' : ¬(32 : Int) < (m : Int) := by omega
      have HV := Lib.hid hv
      have HM := Lib.hid hm
      have HE := Lib.hid (visErr_zero _ _ q7)
      have PT := Lib.hid (obj_last wr (.cells #[.int .i64 t.obj, .int .i64 t.dev, .int .i64 t.start, .int .i64 t.speed, .slice av m cv] 45))
      have PS := Lib.hid (obj_old (o' := .cells #[.int .i64 t.obj, .int .i64 t.dev, .int .i64 t.start, .int .i64 t.speed, .slice av m cv] 45) PW.out)
      have BT := Lib.hid ((Below.refl wr.heap.size wr).alloc (Nat.le_refl _) (.cells #[.int .i64 t.obj, .int .i64 t.dev, .int .i64 t.start, .int .i64 t.speed, .slice av m cv] 45))
      have HJ : Hid (∀ j, j + 1 = k → S.trips[j]!.obj < t.obj) := fun j hj => by subst hj; exact q2
      clear hv hm hm2 q7 q2
      by_cases hk0 : k = 0
      · have hk0' : decide (0 < k) = false := by simp; omega
        have hk1' : decide ((0 : Int) < (k : Int)) = false := by simp; omega
        have HK0 := Lib.hid hk0
        clear hcs ht hk0
        obtain ⟨wo, rfl⟩ : ∃ wo : World, wo = wr := ⟨_, rfl⟩
        go_wp2_with (go_at_call 25; refine (between_any _ _ _ _).mono ?_; rintro e w' ⟨rfl, rfl⟩)
        go_quiet (fail)
        go_wp2_with (go_at_call 25; refine (between_any _ _ _ _).mono ?_; rintro e w' ⟨rfl, rfl⟩)
        go_loopw [60] (fun s60 wx => ∃ k2 : Nat, s60 = .int .i64 k2 ∧ k2 ≤ m ∧ Hid (Below wo.heap.size wo wx) ∧ Hid (wx.heap[wo.heap.size]? = some (.cells #[.int .i64 t.obj, .int .i64 t.dev, .int .i64 t.start, .int .i64 t.speed, .slice av m cv] 45))) (fun s60 _ => m - (intOf s60).toNat)
        case atStart => exact ⟨0, rfl, Nat.zero_le _, by show Below _ _ _; (repeat (first | with_reducible exact Below.refl _ _ | with_reducible assumption | ((with_reducible refine Below.setCell ?_ ?_ _); rotate_left; focus (first | exact Nat.le_refl _ | omega | exact Below.size (by assumption) | (simp; done) | (simp; omega))) | ((with_reducible refine Below.alloc ?_ ?_ _); rotate_left; focus (first | exact Nat.le_refl _ | omega | exact Below.size (by assumption) | (simp; done) | (simp; omega))) | (with_reducible refine Below.drew ?_) | (with_reducible refine drewN_ ?_ _))), obj_drewN (obj_last _ _)⟩
        case round =>
          obtain ⟨k2, rfl, hk2, hB2, hPT⟩ := hrel
          have hPs := keepObj hB2.out PW.out
          have hPt := hPT.out
          have e0 := obj_cell hPs 0
          have e1 := obj_cell hPs 1
          have f4 := obj_cell hPt 4
          simp at e0 e1 f4
          have ze := obj_lt hPs
          have zf := obj_lt hPt
          have BX := Lib.hid (BW.out.trans (hB2.out.mono BW.out.size))
          clear hPs hPt
          by_cases hlt2 : k2 < m
          · have hkl2 : k2 < t.vis.length := by rw [HM.out]; exact hlt2
            obtain ⟨bv, ov, rfl, hbv, hcv⟩ := HV.out.cells k2 hkl2
            have x0 : w.cell? ⟨bv, ov + k2 * 2, none⟩ = _ := hcv k2 hkl2 0 _ rfl
            have x1 : w.cell? ⟨bv, ov + k2 * 2 + 1, none⟩ = _ := hcv k2 hkl2 1 _ rfl
            rw [← BX.out.cell (p := ⟨bv, _, none⟩) hbv] at x0 x1
            have hzv : bv < wr.heap.size := by have := BX.out.size; omega
            obtain ⟨g1, g2, _, g4⟩ := HE.out k2 hkl2
            obtain ⟨x, hx⟩ : ∃ x, x = t.vis[k2]! := ⟨_, rfl⟩
            rw [← hx] at x0 x1 g1 g2
            have HX := Lib.hid hx
            have HG4 := Lib.hid g4
            by_cases hk20 : k2 = 0
            · have hk0' : decide (0 < k2) = false := by simp; omega
              have hk1' : decide ((0 : Int) < (k2 : Int)) = false := by simp; omega
              clear hcv hx g4 hk20
              go_wp2_with (first | (go_at_call 25; refine (between_any _ _ _ _).mono ?_; rintro e w' ⟨rfl, rfl⟩) | (go_at_call 8; refine (node_any S.net v1 v2 _ _ (HS.out.net.later (by have h := BX.out; (repeat (first | with_reducible exact Below.refl _ _ | with_reducible assumption | ((with_reducible refine Below.setCell ?_ ?_ _); rotate_left; focus (first | exact Nat.le_refl _ | omega | exact Below.size (by assumption) | (simp; done) | (simp; omega))) | ((with_reducible refine Below.alloc ?_ ?_ _); rotate_left; focus (first | exact Nat.le_refl _ | omega | exact Below.size (by assumption) | (simp; done) | (simp; omega))) | (with_reducible refine Below.drew ?_) | (with_reducible refine drewN_ ?_ _))))) HSR.out hsz).mono ?_; rintro e w4 ⟨rfl, hb4⟩; have B4 := Lib.hid (from_ (w := wo) hb4 (by have h := hB2.out; (repeat (first | with_reducible exact Below.refl _ _ | with_reducible assumption | ((with_reducible refine Below.setCell ?_ ?_ _); rotate_left; focus (first | exact Nat.le_refl _ | omega | exact Below.size (by assumption) | (simp; done) | (simp; omega))) | ((with_reducible refine Below.alloc ?_ ?_ _); rotate_left; focus (first | exact Nat.le_refl _ | omega | exact Below.size (by assumption) | (simp; done) | (simp; omega))) | (with_reducible refine Below.drew ?_) | (with_reducible refine drewN_ ?_ _))))); have T4 := Lib.hid (keepObj hb4 (obj_old (o' := (.cells #[.int .i64 x.node, .int .i64 x.wait] 53)) hPT.out)); have hz4 := hb4.size; simp at hz4; have y1 : wr.heap.size < w4.heap.size := (by omega); have y2 : w.heap.size < w4.heap.size := (by omega); have y3 : wo.heap.size < w4.heap.size := (by omega); have y4 : bv < w4.heap.size := (by omega); obtain ⟨hc4, hf4⟩ := bcell hb4; clear hb4))
              go_quiet (fail)
              go_wp2_with (go_at_call 25; refine (between_any _ _ _ _).mono ?_; rintro e w' ⟨rfl, rfl⟩)
              go_roundw
              case rel => exact ⟨k2 + 1, by go_num, by omega, by have h := B4.out; show Below _ _ _; (repeat (first | with_reducible exact Below.refl _ _ | with_reducible assumption | ((with_reducible refine Below.setCell ?_ ?_ _); rotate_left; focus (first | exact Nat.le_refl _ | omega | exact Below.size (by assumption) | (simp; done) | (simp; omega))) | ((with_reducible refine Below.alloc ?_ ?_ _); rotate_left; focus (first | exact Nat.le_refl _ | omega | exact Below.size (by assumption) | (simp; done) | (simp; omega))) | (with_reducible refine Below.drew ?_) | (with_reducible refine drewN_ ?_ _))), obj_drewN (obj_old T4.out)⟩
              case measure => simp [intOf]; omega
            · obtain ⟨j, hj⟩ : ∃ j, j + 1 = k2 := ⟨k2 - 1, by omega⟩
              have y0 : w.cell? ⟨bv, ov + j * 2, none⟩ = _ := hcv j (by omega) 0 _ rfl
              rw [← BX.out.cell (p := ⟨bv, _, none⟩) hbv] at y0
              have hne := HG4.out j hj
              rw [← HX.out] at hne
              obtain ⟨y, hy⟩ : ∃ y, y = t.vis[j]! := ⟨_, rfl⟩
              rw [← hy] at y0 hne
              have hd' : (x.node == y.node) = false := by simpa using fun e => hne e.symm
              have hj1 : (k2 : Int) - 1 = (j : Int) := by omega
              have hj2 : IntKind.i64.wrap (j : Int) = (j : Int) := IntWalk.i64_in _ (by omega)
              have hj3 : (0 : Int) < (k2 : Int) := by omega
              have hj4 : (j : Int) < (m : Int) := by omega
              have hj5 : j < m := by omega
              have hj6 : 0 < k2 := by omega
              clear hcv hx g4 hy hne hj
              go_wp2_with (first | (go_at_call 25; refine (between_any _ _ _ _).mono ?_; rintro e w' ⟨rfl, rfl⟩) | (go_at_call 8; refine (node_any S.net v1 v2 _ _ (HS.out.net.later (by have h := BX.out; (repeat (first | with_reducible exact Below.refl _ _ | with_reducible assumption | ((with_reducible refine Below.setCell ?_ ?_ _); rotate_left; focus (first | exact Nat.le_refl _ | omega | exact Below.size (by assumption) | (simp; done) | (simp; omega))) | ((with_reducible refine Below.alloc ?_ ?_ _); rotate_left; focus (first | exact Nat.le_refl _ | omega | exact Below.size (by assumption) | (simp; done) | (simp; omega))) | (with_reducible refine Below.drew ?_) | (with_reducible refine drewN_ ?_ _))))) HSR.out hsz).mono ?_; rintro e w4 ⟨rfl, hb4⟩; have B4 := Lib.hid (from_ (w := wo) hb4 (by have h := hB2.out; (repeat (first | with_reducible exact Below.refl _ _ | with_reducible assumption | ((with_reducible refine Below.setCell ?_ ?_ _); rotate_left; focus (first | exact Nat.le_refl _ | omega | exact Below.size (by assumption) | (simp; done) | (simp; omega))) | ((with_reducible refine Below.alloc ?_ ?_ _); rotate_left; focus (first | exact Nat.le_refl _ | omega | exact Below.size (by assumption) | (simp; done) | (simp; omega))) | (with_reducible refine Below.drew ?_) | (with_reducible refine drewN_ ?_ _))))); have T4 := Lib.hid (keepObj hb4 (obj_old (o' := (.cells #[.int .i64 x.node, .int .i64 x.wait] 53)) hPT.out)); have hz4 := hb4.size; simp at hz4; have y1 : wr.heap.size < w4.heap.size := (by omega); have y2 : w.heap.size < w4.heap.size := (by omega); have y3 : wo.heap.size < w4.heap.size := (by omega); have y4 : bv < w4.heap.size := (by omega); obtain ⟨hc4, hf4⟩ := bcell hb4; clear hb4))
              go_quiet (fail)
              go_wp2_with (go_at_call 25; refine (between_any _ _ _ _).mono ?_; rintro e w' ⟨rfl, rfl⟩)
              go_roundw
              case rel => exact ⟨k2 + 1, by go_num, by omega, by have h := B4.out; show Below _ _ _; (repeat (first | with_reducible exact Below.refl _ _ | with_reducible assumption | ((with_reducible refine Below.setCell ?_ ?_ _); rotate_left; focus (first | exact Nat.le_refl _ | omega | exact Below.size (by assumption) | (simp; done) | (simp; omega))) | ((with_reducible refine Below.alloc ?_ ?_ _); rotate_left; focus (first | exact Nat.le_refl _ | omega | exact Below.size (by assumption) | (simp; done) | (simp; omega))) | (with_reducible refine Below.drew ?_) | (with_reducible refine drewN_ ?_ _))), obj_drewN (obj_old T4.out)⟩
              case measure => simp [intOf]; omega
          · obtain rfl : k2 = m := by omega
            go_wp2
            go_roundw
            case rel => exact ⟨k + 1, by go_num, by omega, hB.out.trans (hB2.out.mono hB.out.size)⟩
            case measure => simp [intOf]; omega
      · obtain ⟨j, hj⟩ : ∃ j, j + 1 = k := ⟨k - 1, by omega⟩
        obtain ⟨_, _, y0, _⟩ := hcs j (by have := HN3.out; omega)
        rw [← BW.out.cell (p := ⟨b, _, none⟩) hb] at y0
        have hlt3 := HJ.out j hj
        obtain ⟨y, hy⟩ : ∃ y, y = S.trips[j]!.obj := ⟨_, rfl⟩
        rw [← hy] at y0 hlt3
        have hd' : decide (t.obj ≤ y) = false := by simp; omega
        have hj1 : (k : Int) - 1 = (j : Int) := by omega
        have hj2 : IntKind.i64.wrap (j : Int) = (j : Int) := IntWalk.i64_in _ (by omega)
        have hj3 : (0 : Int) < (k : Int) := by omega
        have hj4 : (j : Int) < (n3 : Int) := by omega
        have hj5 : j < n3 := by omega
        have hj6 : 0 < k := by omega
        clear hcs ht hy hj hk0
        obtain ⟨wo, rfl⟩ : ∃ wo : World, wo = wr := ⟨_, rfl⟩
        go_wp2_with (go_at_call 25; refine (between_any _ _ _ _).mono ?_; rintro e w' ⟨rfl, rfl⟩)
        go_quiet (fail)
        go_wp2_with (go_at_call 25; refine (between_any _ _ _ _).mono ?_; rintro e w' ⟨rfl, rfl⟩)
        go_loopw [60] (fun s60 wx => ∃ k2 : Nat, s60 = .int .i64 k2 ∧ k2 ≤ m ∧ Hid (Below wo.heap.size wo wx) ∧ Hid (wx.heap[wo.heap.size]? = some (.cells #[.int .i64 t.obj, .int .i64 t.dev, .int .i64 t.start, .int .i64 t.speed, .slice av m cv] 45))) (fun s60 _ => m - (intOf s60).toNat)
        case atStart => exact ⟨0, rfl, Nat.zero_le _, by show Below _ _ _; (repeat (first | with_reducible exact Below.refl _ _ | with_reducible assumption | ((with_reducible refine Below.setCell ?_ ?_ _); rotate_left; focus (first | exact Nat.le_refl _ | omega | exact Below.size (by assumption) | (simp; done) | (simp; omega))) | ((with_reducible refine Below.alloc ?_ ?_ _); rotate_left; focus (first | exact Nat.le_refl _ | omega | exact Below.size (by assumption) | (simp; done) | (simp; omega))) | (with_reducible refine Below.drew ?_) | (with_reducible refine drewN_ ?_ _))), obj_drewN (obj_last _ _)⟩
        case round =>
          obtain ⟨k2, rfl, hk2, hB2, hPT⟩ := hrel
          have hPs := keepObj hB2.out PW.out
          have hPt := hPT.out
          have e0 := obj_cell hPs 0
          have e1 := obj_cell hPs 1
          have f4 := obj_cell hPt 4
          simp at e0 e1 f4
          have ze := obj_lt hPs
          have zf := obj_lt hPt
          have BX := Lib.hid (BW.out.trans (hB2.out.mono BW.out.size))
          clear hPs hPt
          by_cases hlt2 : k2 < m
          · have hkl2 : k2 < t.vis.length := by rw [HM.out]; exact hlt2
            obtain ⟨bv, ov, rfl, hbv, hcv⟩ := HV.out.cells k2 hkl2
            have x0 : w.cell? ⟨bv, ov + k2 * 2, none⟩ = _ := hcv k2 hkl2 0 _ rfl
            have x1 : w.cell? ⟨bv, ov + k2 * 2 + 1, none⟩ = _ := hcv k2 hkl2 1 _ rfl
            rw [← BX.out.cell (p := ⟨bv, _, none⟩) hbv] at x0 x1
            have hzv : bv < wr.heap.size := by have := BX.out.size; omega
            obtain ⟨g1, g2, _, g4⟩ := HE.out k2 hkl2
            obtain ⟨x, hx⟩ : ∃ x, x = t.vis[k2]! := ⟨_, rfl⟩
            rw [← hx] at x0 x1 g1 g2
            have HX := Lib.hid hx
            have HG4 := Lib.hid g4
            by_cases hk20 : k2 = 0
            · have hk0' : decide (0 < k2) = false := by simp; omega
              have hk1' : decide ((0 : Int) < (k2 : Int)) = false := by simp; omega
              clear hcv hx g4 hk20
              go_wp2_with (first | (go_at_call 25; refine (between_any _ _ _ _).mono ?_; rintro e w' ⟨rfl, rfl⟩) | (go_at_call 8; refine (node_any S.net v1 v2 _ _ (HS.out.net.later (by have h := BX.out; (repeat (first | with_reducible exact Below.refl _ _ | with_reducible assumption | ((with_reducible refine Below.setCell ?_ ?_ _); rotate_left; focus (first | exact Nat.le_refl _ | omega | exact Below.size (by assumption) | (simp; done) | (simp; omega))) | ((with_reducible refine Below.alloc ?_ ?_ _); rotate_left; focus (first | exact Nat.le_refl _ | omega | exact Below.size (by assumption) | (simp; done) | (simp; omega))) | (with_reducible refine Below.drew ?_) | (with_reducible refine drewN_ ?_ _))))) HSR.out hsz).mono ?_; rintro e w4 ⟨rfl, hb4⟩; have B4 := Lib.hid (from_ (w := wo) hb4 (by have h := hB2.out; (repeat (first | with_reducible exact Below.refl _ _ | with_reducible assumption | ((with_reducible refine Below.setCell ?_ ?_ _); rotate_left; focus (first | exact Nat.le_refl _ | omega | exact Below.size (by assumption) | (simp; done) | (simp; omega))) | ((with_reducible refine Below.alloc ?_ ?_ _); rotate_left; focus (first | exact Nat.le_refl _ | omega | exact Below.size (by assumption) | (simp; done) | (simp; omega))) | (with_reducible refine Below.drew ?_) | (with_reducible refine drewN_ ?_ _))))); have T4 := Lib.hid (keepObj hb4 (obj_old (o' := (.cells #[.int .i64 x.node, .int .i64 x.wait] 53)) hPT.out)); have hz4 := hb4.size; simp at hz4; have y1 : wr.heap.size < w4.heap.size := (by omega); have y2 : w.heap.size < w4.heap.size := (by omega); have y3 : wo.heap.size < w4.heap.size := (by omega); have y4 : bv < w4.heap.size := (by omega); obtain ⟨hc4, hf4⟩ := bcell hb4; clear hb4))
              go_quiet (fail)
              go_wp2_with (go_at_call 25; refine (between_any _ _ _ _).mono ?_; rintro e w' ⟨rfl, rfl⟩)
              go_roundw
              case rel => exact ⟨k2 + 1, by go_num, by omega, by have h := B4.out; show Below _ _ _; (repeat (first | with_reducible exact Below.refl _ _ | with_reducible assumption | ((with_reducible refine Below.setCell ?_ ?_ _); rotate_left; focus (first | exact Nat.le_refl _ | omega | exact Below.size (by assumption) | (simp; done) | (simp; omega))) | ((with_reducible refine Below.alloc ?_ ?_ _); rotate_left; focus (first | exact Nat.le_refl _ | omega | exact Below.size (by assumption) | (simp; done) | (simp; omega))) | (with_reducible refine Below.drew ?_) | (with_reducible refine drewN_ ?_ _))), obj_drewN (obj_old T4.out)⟩
              case measure => simp [intOf]; omega
            · obtain ⟨j, hj⟩ : ∃ j, j + 1 = k2 := ⟨k2 - 1, by omega⟩
              have y0 : w.cell? ⟨bv, ov + j * 2, none⟩ = _ := hcv j (by omega) 0 _ rfl
              rw [← BX.out.cell (p := ⟨bv, _, none⟩) hbv] at y0
              have hne := HG4.out j hj
              rw [← HX.out] at hne
              obtain ⟨y, hy⟩ : ∃ y, y = t.vis[j]! := ⟨_, rfl⟩
              rw [← hy] at y0 hne
              have hd' : (x.node == y.node) = false := by simpa using fun e => hne e.symm
              have hj1 : (k2 : Int) - 1 = (j : Int) := by omega
              have hj2 : IntKind.i64.wrap (j : Int) = (j : Int) := IntWalk.i64_in _ (by omega)
              have hj3 : (0 : Int) < (k2 : Int) := by omega
              have hj4 : (j : Int) < (m : Int) := by omega
              have hj5 : j < m := by omega
              have hj6 : 0 < k2 := by omega
              clear hcv hx g4 hy hne hj
              go_wp2_with (first | (go_at_call 25; refine (between_any _ _ _ _).mono ?_; rintro e w' ⟨rfl, rfl⟩) | (go_at_call 8; refine (node_any S.net v1 v2 _ _ (HS.out.net.later (by have h := BX.out; (repeat (first | with_reducible exact Below.refl _ _ | with_reducible assumption | ((with_reducible refine Below.setCell ?_ ?_ _); rotate_left; focus (first | exact Nat.le_refl _ | omega | exact Below.size (by assumption) | (simp; done) | (simp; omega))) | ((with_reducible refine Below.alloc ?_ ?_ _); rotate_left; focus (first | exact Nat.le_refl _ | omega | exact Below.size (by assumption) | (simp; done) | (simp; omega))) | (with_reducible refine Below.drew ?_) | (with_reducible refine drewN_ ?_ _))))) HSR.out hsz).mono ?_; rintro e w4 ⟨rfl, hb4⟩; have B4 := Lib.hid (from_ (w := wo) hb4 (by have h := hB2.out; (repeat (first | with_reducible exact Below.refl _ _ | with_reducible assumption | ((with_reducible refine Below.setCell ?_ ?_ _); rotate_left; focus (first | exact Nat.le_refl _ | omega | exact Below.size (by assumption) | (simp; done) | (simp; omega))) | ((with_reducible refine Below.alloc ?_ ?_ _); rotate_left; focus (first | exact Nat.le_refl _ | omega | exact Below.size (by assumption) | (simp; done) | (simp; omega))) | (with_reducible refine Below.drew ?_) | (with_reducible refine drewN_ ?_ _))))); have T4 := Lib.hid (keepObj hb4 (obj_old (o' := (.cells #[.int .i64 x.node, .int .i64 x.wait] 53)) hPT.out)); have hz4 := hb4.size; simp at hz4; have y1 : wr.heap.size < w4.heap.size := (by omega); have y2 : w.heap.size < w4.heap.size := (by omega); have y3 : wo.heap.size < w4.heap.size := (by omega); have y4 : bv < w4.heap.size := (by omega); obtain ⟨hc4, hf4⟩ := bcell hb4; clear hb4))
              go_quiet (fail)
              go_wp2_with (go_at_call 25; refine (between_any _ _ _ _).mono ?_; rintro e w' ⟨rfl, rfl⟩)
              go_roundw
              case rel => exact ⟨k2 + 1, by go_num, by omega, by have h := B4.out; show Below _ _ _; (repeat (first | with_reducible exact Below.refl _ _ | with_reducible assumption | ((with_reducible refine Below.setCell ?_ ?_ _); rotate_left; focus (first | exact Nat.le_refl _ | omega | exact Below.size (by assumption) | (simp; done) | (simp; omega))) | ((with_reducible refine Below.alloc ?_ ?_ _); rotate_left; focus (first | exact Nat.le_refl _ | omega | exact Below.size (by assumption) | (simp; done) | (simp; omega))) | (with_reducible refine Below.drew ?_) | (with_reducible refine drewN_ ?_ _))), obj_drewN (obj_old T4.out)⟩
              case measure => simp [intOf]; omega
          · obtain rfl : k2 = m := by omega
            go_wp2
            go_roundw
            case rel => exact ⟨k + 1, by go_num, by omega, hB.out.trans (hB2.out.mono hB.out.size)⟩
            case measure => simp [intOf]; omega
    · obtain rfl : k = n3 := by omega
      go_wp2
      go_ret
      exact ⟨rfl, BW.out⟩
end Go.Proofs.Ythkhgfdjdpfoiaa
