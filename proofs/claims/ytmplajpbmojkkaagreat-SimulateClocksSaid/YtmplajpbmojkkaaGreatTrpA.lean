/-
  simulate's checkTrips at trips that the model accepts.
  simulate's drive with the closure of stops.
  Memory while a drive yields, and the plain laws of its rounds.
-/
import Derived.Test.YtmplajpbmojkkaaGreatOffA
import Derived.Test.YtmplajpbmojkkaaGreatYldA
set_option linter.unusedSimpArgs false
set_option linter.unusedVariables false
namespace Go.Proofs.YtmplajpbmojkkaaGreat
open Go Go.RowKit Go.Vi
theorem tripErr_zero {n : Net} {t : Trp} {last : Int} (h : tripErr n t last = 0) : inB t.obj 1 1073741824 = true ∧ last < t.obj ∧ inB t.start 0 1073741824 = true ∧ inB t.speed 1 1048576 = true ∧ t.vis.length ≠ 0 ∧ t.vis.length ≤ 32 ∧ visErr n.nodes none t.vis = 0 := by
  unfold tripErr at h
  by_cases c1 : inB t.obj 1 1073741824 = false
  · rw [if_pos c1] at h; simp at h
  rw [if_neg c1] at h
  by_cases c2 : t.obj ≤ last
  · rw [if_pos c2] at h; simp at h
  rw [if_neg c2] at h
  by_cases c3 : inB t.start 0 1073741824 = false
  · rw [if_pos c3] at h; simp at h
  rw [if_neg c3] at h
  by_cases c4 : inB t.speed 1 1048576 = false
  · rw [if_pos c4] at h; simp at h
  rw [if_neg c4] at h
  by_cases c5 : t.vis.length = 0
  · rw [if_pos c5] at h; simp at h
  rw [if_neg c5] at h
  by_cases c6 : 32 < t.vis.length
  · rw [if_pos c6] at h; simp at h
  rw [if_neg c6] at h
  exact ⟨by simpa using c1, by omega, by simpa using c3, by simpa using c4, c5, by omega, h⟩
theorem visErr_zero {q : List Nd} : ∀ (l : List Vis) (p : Option Int), visErr q p l = 0 → ∀ k, k < l.length → (nodeOf q l[k]!.node).isSome = true ∧ inB l[k]!.wait 0 1073741824 = true ∧ (k = 0 → p ≠ some l[0]!.node) ∧ (∀ j, j + 1 = k → l[j]!.node ≠ l[k]!.node)
  | [], _, _ => fun k hk => by simp at hk
  | v :: vs, p, h => fun k hk => by
    unfold visErr at h
    by_cases c1 : (nodeOf q v.node).isSome = false
    · rw [if_pos c1] at h; simp at h
    rw [if_neg c1] at h
    by_cases c2 : inB v.wait 0 1073741824 = false
    · rw [if_pos c2] at h; simp at h
    rw [if_neg c2] at h
    by_cases c3 : p = some v.node
    · rw [if_pos c3] at h; simp at h
    rw [if_neg c3] at h
    cases k with
    | zero => exact ⟨by cases hq : (nodeOf q v.node).isSome with | true => exact hq | false => exact absurd hq c1, by simpa using c2, fun _ => c3, fun j hj => by omega⟩
    | succ k =>
      obtain ⟨g1, g2, g3, g4⟩ := visErr_zero vs (some v.node) h k (by simpa using hk)
      refine ⟨g1, g2, fun h => by omega, fun j hj => ?_⟩
      cases j with
      | zero =>
        have hk0 : k = 0 := by omega
        subst hk0
        have := g3 rfl
        intro e
        exact this (by rw [show (v :: vs)[0]!.node = v.node from rfl] at e; rw [e]; rfl)
      | succ j => exact g4 j (by omega)
def lastOf (T : List Trp) (i : Nat) : Int := match i with | 0 => 0 | j + 1 => T[j]!.obj
def TripsOK (S : Scn) : Prop := ∀ i, i < S.trips.length → tripErr S.net S.trips[i]! (lastOf S.trips i) = 0
set_option maxRecDepth 100000 in
set_option maxHeartbeats 4000000 in
theorem checkTrips_any (S : Scn) (v1 v2 v3 v4 v5 : Value) (w : World) (hS : ScnAt w.heap.size w v1 v2 v3 v4 v5 S) (hs : SrtN S.net.nodes) (hsz : S.net.nodes.length ≤ 1000000) (hT : TripsOK S) (hz : S.trips.length ≤ 1000) :
    Calls Tryz.prog 27 #[S.v v1 v2 v3 v4 v5] w fun e w' => e = .returned (.int .i64 0) ∧ Below w.heap.size w w' := by
  obtain ⟨a3, n3, c3, rfl, hn3, hn31, hn32⟩ := hS.trips.open
  rw [hn3] at hz
  have HS := Lib.hid hS
  have HSR := Lib.hid hs
  have HT := Lib.hid hT
  have HN3 := Lib.hid hn3
  clear hS hn3 hn32 hn31 hs hT
  have P0 := Lib.hid (obj_last w (.cells #[v1, v2, .int .i64 S.gap, .slice a3 n3 c3, v4, v5] 40))
  go_enter Tryz.func27, Tryz.ntmps27
  go_wp2
  obtain ⟨W0, hW0⟩ : ∃ W0, W0 = w.alloc (.cells #[v1, v2, .int .i64 S.gap, .slice a3 n3 c3, v4, v5] 40) := ⟨_, rfl⟩
  have B0 := Lib.hid ((Below.refl w.heap.size w).alloc (Nat.le_refl _) (.cells #[v1, v2, .int .i64 S.gap, .slice a3 n3 c3, v4, v5] 40))
  rw [← hW0] at P0 B0 ⊢
  clear hW0
  go_loopw [12] (fun s12 wr => ∃ k : Nat, s12 = .int .i64 k ∧ k ≤ n3 ∧ Hid (Below W0.heap.size W0 wr)) (fun s12 _ => n3 - (intOf s12).toNat)
  case atStart => exact ⟨0, rfl, Nat.zero_le _, Below.refl _ _⟩
  case round =>
    obtain ⟨k, rfl, hk, hB⟩ := hrel
    have hPw := keepObj hB.out P0.out
    have l0 := obj_cell hPw 0
    have l1 := obj_cell hPw 1
    have l3 := obj_cell hPw 3
    simp at l0 l1 l3
    have zb := obj_lt hPw
    have PW := Lib.hid hPw
    have BW := Lib.hid (B0.out.trans (hB.out.mono B0.out.size))
    clear hPw
    by_cases hlt : k < n3
    · have hkl : k < S.trips.length := by rw [HN3.out]; exact hlt
      obtain ⟨b, off, rfl, hb, hcs⟩ := HS.out.trips.at k hkl
      obtain ⟨v, hv, t0, t1, t2, t3, t4⟩ := hcs k hkl
      have herr := tripErr_zero (HT.out k hkl)
      obtain ⟨t, ht⟩ : ∃ t, t = S.trips[k]! := ⟨_, rfl⟩
      rw [← ht] at hv t0 t1 t2 t3 herr
      obtain ⟨av, m, cv, rfl, hm, hm1, hm2⟩ := hv.open
      rw [List.length_map] at hm
      obtain ⟨q1, q2, q3, q4, q5, q6, q7⟩ := herr
      rw [hm] at q5 q6
      rw [← BW.out.cell (p := ⟨b, _, none⟩) hb] at t0 t1 t2 t3 t4
      have hzb : b < wr.heap.size := by have := BW.out.size; omega
      have q5' : ((m : Int) == 0) = false := by simpa using q5
      have q6' : ¬(32 : Int) < (m : Int) := by omega
      have HV := Lib.hid hv
      have HM := Lib.hid hm
      have HE := Lib.hid (visErr_zero _ _ q7)
      have PT := Lib.hid (obj_last wr (.cells #[.int .i64 t.obj, .int .i64 t.dev, .int .i64 t.start, .int .i64 t.speed, .slice av m cv] 61))
      have PS := Lib.hid (obj_old (o' := .cells #[.int .i64 t.obj, .int .i64 t.dev, .int .i64 t.start, .int .i64 t.speed, .slice av m cv] 61) PW.out)
      have BT := Lib.hid ((Below.refl wr.heap.size wr).alloc (Nat.le_refl _) (.cells #[.int .i64 t.obj, .int .i64 t.dev, .int .i64 t.start, .int .i64 t.speed, .slice av m cv] 61))
      have HJ : Hid (∀ j, j + 1 = k → S.trips[j]!.obj < t.obj) := fun j hj => by subst hj; exact q2
      clear hv hm hm2 q7 q2
      by_cases hk0 : k = 0
      · have hk0' : decide (0 < k) = false := by simp; omega
        have hk1' : decide ((0 : Int) < (k : Int)) = false := by simp; omega
        have HK0 := Lib.hid hk0
        clear hcs ht hk0
        obtain ⟨wo, rfl⟩ : ∃ wo : World, wo = wr := ⟨_, rfl⟩
        go_wp2_with (go_at_call 26; refine (between_any _ _ _ _).mono ?_; rintro e w' ⟨rfl, rfl⟩)
        go_quiet (fail)
        go_wp2_with (go_at_call 26; refine (between_any _ _ _ _).mono ?_; rintro e w' ⟨rfl, rfl⟩)
        go_loopw [60] (fun s60 wx => ∃ k2 : Nat, s60 = .int .i64 k2 ∧ k2 ≤ m ∧ Hid (Below wo.heap.size wo wx) ∧ Hid (wx.heap[wo.heap.size]? = some (.cells #[.int .i64 t.obj, .int .i64 t.dev, .int .i64 t.start, .int .i64 t.speed, .slice av m cv] 61))) (fun s60 _ => m - (intOf s60).toNat)
        case atStart => exact ⟨0, rfl, Nat.zero_le _, by show Below _ _ _; (repeat (first | with_reducible exact Below.refl _ _ | with_reducible assumption | ((with_reducible refine Below.setCell ?_ ?_ _); rotate_left; focus (first | exact Nat.le_refl _ | omega | exact Below.size (by assumption) | (simp; done) | (simp; omega))) | ((with_reducible refine Below.alloc ?_ ?_ _); rotate_left; focus (first | exact Nat.le_refl _ | omega | exact Below.size (by assumption) | (simp; done) | (simp; omega))) | (with_reducible refine Below.drew ?_) | (with_reducible refine drewN_ ?_ _))), obj_drewN (obj_last _ _)⟩
        case round =>
          obtain ⟨k2, rfl, hk2, hB2, hPT⟩ := hrel
          have hPs := keepObj hB2.out PW.out
          have hPt := hPT.out
          have e0 := obj_cell hPs 0
          have e1 := obj_cell hPs 1
          have f4 := obj_cell hPt 4
          simp at e0 e1 f4
          have ze := obj_lt hPs
          have zf := obj_lt hPt
          have BX := Lib.hid (BW.out.trans (hB2.out.mono BW.out.size))
          clear hPs hPt
          by_cases hlt2 : k2 < m
          · have hkl2 : k2 < t.vis.length := by rw [HM.out]; exact hlt2
            obtain ⟨bv, ov, rfl, hbv, hcv⟩ := HV.out.cells k2 hkl2
            have x0 : w.cell? ⟨bv, ov + k2 * 2, none⟩ = _ := hcv k2 hkl2 0 _ rfl
            have x1 : w.cell? ⟨bv, ov + k2 * 2 + 1, none⟩ = _ := hcv k2 hkl2 1 _ rfl
            rw [← BX.out.cell (p := ⟨bv, _, none⟩) hbv] at x0 x1
            have hzv : bv < wr.heap.size := by have := BX.out.size; omega
            obtain ⟨g1, g2, _, g4⟩ := HE.out k2 hkl2
            obtain ⟨x, hx⟩ : ∃ x, x = t.vis[k2]! := ⟨_, rfl⟩
            rw [← hx] at x0 x1 g1 g2
            have HX := Lib.hid hx
            have HG4 := Lib.hid g4
            by_cases hk20 : k2 = 0
            · have hk0' : decide (0 < k2) = false := by simp; omega
              have hk1' : decide ((0 : Int) < (k2 : Int)) = false := by simp; omega
              clear hcv hx g4 hk20
              go_wp2_with (first | (go_at_call 26; refine (between_any _ _ _ _).mono ?_; rintro e w' ⟨rfl, rfl⟩) | (go_at_call 47; refine (node_any S.net v1 v2 _ _ (HS.out.net.later (by have h := BX.out; (repeat (first | with_reducible exact Below.refl _ _ | with_reducible assumption | ((with_reducible refine Below.setCell ?_ ?_ _); rotate_left; focus (first | exact Nat.le_refl _ | omega | exact Below.size (by assumption) | (simp; done) | (simp; omega))) | ((with_reducible refine Below.alloc ?_ ?_ _); rotate_left; focus (first | exact Nat.le_refl _ | omega | exact Below.size (by assumption) | (simp; done) | (simp; omega))) | (with_reducible refine Below.drew ?_) | (with_reducible refine drewN_ ?_ _))))) HSR.out hsz).mono ?_; rintro e w4 ⟨rfl, hb4⟩; have B4 := Lib.hid (from_ (w := wo) hb4 (by have h := hB2.out; (repeat (first | with_reducible exact Below.refl _ _ | with_reducible assumption | ((with_reducible refine Below.setCell ?_ ?_ _); rotate_left; focus (first | exact Nat.le_refl _ | omega | exact Below.size (by assumption) | (simp; done) | (simp; omega))) | ((with_reducible refine Below.alloc ?_ ?_ _); rotate_left; focus (first | exact Nat.le_refl _ | omega | exact Below.size (by assumption) | (simp; done) | (simp; omega))) | (with_reducible refine Below.drew ?_) | (with_reducible refine drewN_ ?_ _))))); have T4 := Lib.hid (keepObj hb4 (obj_old (o' := (.cells #[.int .i64 x.node, .int .i64 x.wait] 92)) hPT.out)); have hz4 := hb4.size; simp at hz4; have y1 : wr.heap.size < w4.heap.size := (by omega); have y2 : w.heap.size < w4.heap.size := (by omega); have y3 : wo.heap.size < w4.heap.size := (by omega); have y4 : bv < w4.heap.size := (by omega); obtain ⟨hc4, hf4⟩ := bcell hb4; clear hb4))
              go_quiet (fail)
              go_wp2_with (go_at_call 26; refine (between_any _ _ _ _).mono ?_; rintro e w' ⟨rfl, rfl⟩)
              go_roundw
              case rel => exact ⟨k2 + 1, by go_num, by omega, by have h := B4.out; show Below _ _ _; (repeat (first | with_reducible exact Below.refl _ _ | with_reducible assumption | ((with_reducible refine Below.setCell ?_ ?_ _); rotate_left; focus (first | exact Nat.le_refl _ | omega | exact Below.size (by assumption) | (simp; done) | (simp; omega))) | ((with_reducible refine Below.alloc ?_ ?_ _); rotate_left; focus (first | exact Nat.le_refl _ | omega | exact Below.size (by assumption) | (simp; done) | (simp; omega))) | (with_reducible refine Below.drew ?_) | (with_reducible refine drewN_ ?_ _))), obj_drewN (obj_old T4.out)⟩
              case measure => simp [intOf]; omega
            · obtain ⟨j, hj⟩ : ∃ j, j + 1 = k2 := ⟨k2 - 1, by omega⟩
              have y0 : w.cell? ⟨bv, ov + j * 2, none⟩ = _ := hcv j (by omega) 0 _ rfl
              rw [← BX.out.cell (p := ⟨bv, _, none⟩) hbv] at y0
              have hne := HG4.out j hj
              rw [← HX.out] at hne
              obtain ⟨y, hy⟩ : ∃ y, y = t.vis[j]! := ⟨_, rfl⟩
              rw [← hy] at y0 hne
              have hd' : (x.node == y.node) = false := by simpa using fun e => hne e.symm
              have hj1 : (k2 : Int) - 1 = (j : Int) := by omega
              have hj2 : IntKind.i64.wrap (j : Int) = (j : Int) := IntWalk.i64_in _ (by omega)
              have hj3 : (0 : Int) < (k2 : Int) := by omega
              have hj4 : (j : Int) < (m : Int) := by omega
              have hj5 : j < m := by omega
              have hj6 : 0 < k2 := by omega
              clear hcv hx g4 hy hne hj
              go_wp2_with (first | (go_at_call 26; refine (between_any _ _ _ _).mono ?_; rintro e w' ⟨rfl, rfl⟩) | (go_at_call 47; refine (node_any S.net v1 v2 _ _ (HS.out.net.later (by have h := BX.out; (repeat (first | with_reducible exact Below.refl _ _ | with_reducible assumption | ((with_reducible refine Below.setCell ?_ ?_ _); rotate_left; focus (first | exact Nat.le_refl _ | omega | exact Below.size (by assumption) | (simp; done) | (simp; omega))) | ((with_reducible refine Below.alloc ?_ ?_ _); rotate_left; focus (first | exact Nat.le_refl _ | omega | exact Below.size (by assumption) | (simp; done) | (simp; omega))) | (with_reducible refine Below.drew ?_) | (with_reducible refine drewN_ ?_ _))))) HSR.out hsz).mono ?_; rintro e w4 ⟨rfl, hb4⟩; have B4 := Lib.hid (from_ (w := wo) hb4 (by have h := hB2.out; (repeat (first | with_reducible exact Below.refl _ _ | with_reducible assumption | ((with_reducible refine Below.setCell ?_ ?_ _); rotate_left; focus (first | exact Nat.le_refl _ | omega | exact Below.size (by assumption) | (simp; done) | (simp; omega))) | ((with_reducible refine Below.alloc ?_ ?_ _); rotate_left; focus (first | exact Nat.le_refl _ | omega | exact Below.size (by assumption) | (simp; done) | (simp; omega))) | (with_reducible refine Below.drew ?_) | (with_reducible refine drewN_ ?_ _))))); have T4 := Lib.hid (keepObj hb4 (obj_old (o' := (.cells #[.int .i64 x.node, .int .i64 x.wait] 92)) hPT.out)); have hz4 := hb4.size; simp at hz4; have y1 : wr.heap.size < w4.heap.size := (by omega); have y2 : w.heap.size < w4.heap.size := (by omega); have y3 : wo.heap.size < w4.heap.size := (by omega); have y4 : bv < w4.heap.size := (by omega); obtain ⟨hc4, hf4⟩ := bcell hb4; clear hb4))
              go_quiet (fail)
              go_wp2_with (go_at_call 26; refine (between_any _ _ _ _).mono ?_; rintro e w' ⟨rfl, rfl⟩)
              go_roundw
              case rel => exact ⟨k2 + 1, by go_num, by omega, by have h := B4.out; show Below _ _ _; (repeat (first | with_reducible exact Below.refl _ _ | with_reducible assumption | ((with_reducible refine Below.setCell ?_ ?_ _); rotate_left; focus (first | exact Nat.le_refl _ | omega | exact Below.size (by assumption) | (simp; done) | (simp; omega))) | ((with_reducible refine Below.alloc ?_ ?_ _); rotate_left; focus (first | exact Nat.le_refl _ | omega | exact Below.size (by assumption) | (simp; done) | (simp; omega))) | (with_reducible refine Below.drew ?_) | (with_reducible refine drewN_ ?_ _))), obj_drewN (obj_old T4.out)⟩
              case measure => simp [intOf]; omega
          · obtain rfl : k2 = m := by omega
            go_wp2
            go_roundw
            case rel => exact ⟨k + 1, by go_num, by omega, hB.out.trans (hB2.out.mono hB.out.size)⟩
            case measure => simp [intOf]; omega
      · obtain ⟨j, hj⟩ : ∃ j, j + 1 = k := ⟨k - 1, by omega⟩
        obtain ⟨_, _, y0, _⟩ := hcs j (by have := HN3.out; omega)
        rw [← BW.out.cell (p := ⟨b, _, none⟩) hb] at y0
        have hlt3 := HJ.out j hj
        obtain ⟨y, hy⟩ : ∃ y, y = S.trips[j]!.obj := ⟨_, rfl⟩
        rw [← hy] at y0 hlt3
        have hd' : decide (t.obj ≤ y) = false := by simp; omega
        have hj1 : (k : Int) - 1 = (j : Int) := by omega
        have hj2 : IntKind.i64.wrap (j : Int) = (j : Int) := IntWalk.i64_in _ (by omega)
        have hj3 : (0 : Int) < (k : Int) := by omega
        have hj4 : (j : Int) < (n3 : Int) := by omega
        have hj5 : j < n3 := by omega
        have hj6 : 0 < k := by omega
        clear hcs ht hy hj hk0
        obtain ⟨wo, rfl⟩ : ∃ wo : World, wo = wr := ⟨_, rfl⟩
        go_wp2_with (go_at_call 26; refine (between_any _ _ _ _).mono ?_; rintro e w' ⟨rfl, rfl⟩)
        go_quiet (fail)
        go_wp2_with (go_at_call 26; refine (between_any _ _ _ _).mono ?_; rintro e w' ⟨rfl, rfl⟩)
        go_loopw [60] (fun s60 wx => ∃ k2 : Nat, s60 = .int .i64 k2 ∧ k2 ≤ m ∧ Hid (Below wo.heap.size wo wx) ∧ Hid (wx.heap[wo.heap.size]? = some (.cells #[.int .i64 t.obj, .int .i64 t.dev, .int .i64 t.start, .int .i64 t.speed, .slice av m cv] 61))) (fun s60 _ => m - (intOf s60).toNat)
        case atStart => exact ⟨0, rfl, Nat.zero_le _, by show Below _ _ _; (repeat (first | with_reducible exact Below.refl _ _ | with_reducible assumption | ((with_reducible refine Below.setCell ?_ ?_ _); rotate_left; focus (first | exact Nat.le_refl _ | omega | exact Below.size (by assumption) | (simp; done) | (simp; omega))) | ((with_reducible refine Below.alloc ?_ ?_ _); rotate_left; focus (first | exact Nat.le_refl _ | omega | exact Below.size (by assumption) | (simp; done) | (simp; omega))) | (with_reducible refine Below.drew ?_) | (with_reducible refine drewN_ ?_ _))), obj_drewN (obj_last _ _)⟩
        case round =>
          obtain ⟨k2, rfl, hk2, hB2, hPT⟩ := hrel
          have hPs := keepObj hB2.out PW.out
          have hPt := hPT.out
          have e0 := obj_cell hPs 0
          have e1 := obj_cell hPs 1
          have f4 := obj_cell hPt 4
          simp at e0 e1 f4
          have ze := obj_lt hPs
          have zf := obj_lt hPt
          have BX := Lib.hid (BW.out.trans (hB2.out.mono BW.out.size))
          clear hPs hPt
          by_cases hlt2 : k2 < m
          · have hkl2 : k2 < t.vis.length := by rw [HM.out]; exact hlt2
            obtain ⟨bv, ov, rfl, hbv, hcv⟩ := HV.out.cells k2 hkl2
            have x0 : w.cell? ⟨bv, ov + k2 * 2, none⟩ = _ := hcv k2 hkl2 0 _ rfl
            have x1 : w.cell? ⟨bv, ov + k2 * 2 + 1, none⟩ = _ := hcv k2 hkl2 1 _ rfl
            rw [← BX.out.cell (p := ⟨bv, _, none⟩) hbv] at x0 x1
            have hzv : bv < wr.heap.size := by have := BX.out.size; omega
            obtain ⟨g1, g2, _, g4⟩ := HE.out k2 hkl2
            obtain ⟨x, hx⟩ : ∃ x, x = t.vis[k2]! := ⟨_, rfl⟩
            rw [← hx] at x0 x1 g1 g2
            have HX := Lib.hid hx
            have HG4 := Lib.hid g4
            by_cases hk20 : k2 = 0
            · have hk0' : decide (0 < k2) = false := by simp; omega
              have hk1' : decide ((0 : Int) < (k2 : Int)) = false := by simp; omega
              clear hcv hx g4 hk20
              go_wp2_with (first | (go_at_call 26; refine (between_any _ _ _ _).mono ?_; rintro e w' ⟨rfl, rfl⟩) | (go_at_call 47; refine (node_any S.net v1 v2 _ _ (HS.out.net.later (by have h := BX.out; (repeat (first | with_reducible exact Below.refl _ _ | with_reducible assumption | ((with_reducible refine Below.setCell ?_ ?_ _); rotate_left; focus (first | exact Nat.le_refl _ | omega | exact Below.size (by assumption) | (simp; done) | (simp; omega))) | ((with_reducible refine Below.alloc ?_ ?_ _); rotate_left; focus (first | exact Nat.le_refl _ | omega | exact Below.size (by assumption) | (simp; done) | (simp; omega))) | (with_reducible refine Below.drew ?_) | (with_reducible refine drewN_ ?_ _))))) HSR.out hsz).mono ?_; rintro e w4 ⟨rfl, hb4⟩; have B4 := Lib.hid (from_ (w := wo) hb4 (by have h := hB2.out; (repeat (first | with_reducible exact Below.refl _ _ | with_reducible assumption | ((with_reducible refine Below.setCell ?_ ?_ _); rotate_left; focus (first | exact Nat.le_refl _ | omega | exact Below.size (by assumption) | (simp; done) | (simp; omega))) | ((with_reducible refine Below.alloc ?_ ?_ _); rotate_left; focus (first | exact Nat.le_refl _ | omega | exact Below.size (by assumption) | (simp; done) | (simp; omega))) | (with_reducible refine Below.drew ?_) | (with_reducible refine drewN_ ?_ _))))); have T4 := Lib.hid (keepObj hb4 (obj_old (o' := (.cells #[.int .i64 x.node, .int .i64 x.wait] 92)) hPT.out)); have hz4 := hb4.size; simp at hz4; have y1 : wr.heap.size < w4.heap.size := (by omega); have y2 : w.heap.size < w4.heap.size := (by omega); have y3 : wo.heap.size < w4.heap.size := (by omega); have y4 : bv < w4.heap.size := (by omega); obtain ⟨hc4, hf4⟩ := bcell hb4; clear hb4))
              go_quiet (fail)
              go_wp2_with (go_at_call 26; refine (between_any _ _ _ _).mono ?_; rintro e w' ⟨rfl, rfl⟩)
              go_roundw
              case rel => exact ⟨k2 + 1, by go_num, by omega, by have h := B4.out; show Below _ _ _; (repeat (first | with_reducible exact Below.refl _ _ | with_reducible assumption | ((with_reducible refine Below.setCell ?_ ?_ _); rotate_left; focus (first | exact Nat.le_refl _ | omega | exact Below.size (by assumption) | (simp; done) | (simp; omega))) | ((with_reducible refine Below.alloc ?_ ?_ _); rotate_left; focus (first | exact Nat.le_refl _ | omega | exact Below.size (by assumption) | (simp; done) | (simp; omega))) | (with_reducible refine Below.drew ?_) | (with_reducible refine drewN_ ?_ _))), obj_drewN (obj_old T4.out)⟩
              case measure => simp [intOf]; omega
            · obtain ⟨j, hj⟩ : ∃ j, j + 1 = k2 := ⟨k2 - 1, by omega⟩
              have y0 : w.cell? ⟨bv, ov + j * 2, none⟩ = _ := hcv j (by omega) 0 _ rfl
              rw [← BX.out.cell (p := ⟨bv, _, none⟩) hbv] at y0
              have hne := HG4.out j hj
              rw [← HX.out] at hne
              obtain ⟨y, hy⟩ : ∃ y, y = t.vis[j]! := ⟨_, rfl⟩
              rw [← hy] at y0 hne
              have hd' : (x.node == y.node) = false := by simpa using fun e => hne e.symm
              have hj1 : (k2 : Int) - 1 = (j : Int) := by omega
              have hj2 : IntKind.i64.wrap (j : Int) = (j : Int) := IntWalk.i64_in _ (by omega)
              have hj3 : (0 : Int) < (k2 : Int) := by omega
              have hj4 : (j : Int) < (m : Int) := by omega
              have hj5 : j < m := by omega
              have hj6 : 0 < k2 := by omega
              clear hcv hx g4 hy hne hj
              go_wp2_with (first | (go_at_call 26; refine (between_any _ _ _ _).mono ?_; rintro e w' ⟨rfl, rfl⟩) | (go_at_call 47; refine (node_any S.net v1 v2 _ _ (HS.out.net.later (by have h := BX.out; (repeat (first | with_reducible exact Below.refl _ _ | with_reducible assumption | ((with_reducible refine Below.setCell ?_ ?_ _); rotate_left; focus (first | exact Nat.le_refl _ | omega | exact Below.size (by assumption) | (simp; done) | (simp; omega))) | ((with_reducible refine Below.alloc ?_ ?_ _); rotate_left; focus (first | exact Nat.le_refl _ | omega | exact Below.size (by assumption) | (simp; done) | (simp; omega))) | (with_reducible refine Below.drew ?_) | (with_reducible refine drewN_ ?_ _))))) HSR.out hsz).mono ?_; rintro e w4 ⟨rfl, hb4⟩; have B4 := Lib.hid (from_ (w := wo) hb4 (by have h := hB2.out; (repeat (first | with_reducible exact Below.refl _ _ | with_reducible assumption | ((with_reducible refine Below.setCell ?_ ?_ _); rotate_left; focus (first | exact Nat.le_refl _ | omega | exact Below.size (by assumption) | (simp; done) | (simp; omega))) | ((with_reducible refine Below.alloc ?_ ?_ _); rotate_left; focus (first | exact Nat.le_refl _ | omega | exact Below.size (by assumption) | (simp; done) | (simp; omega))) | (with_reducible refine Below.drew ?_) | (with_reducible refine drewN_ ?_ _))))); have T4 := Lib.hid (keepObj hb4 (obj_old (o' := (.cells #[.int .i64 x.node, .int .i64 x.wait] 92)) hPT.out)); have hz4 := hb4.size; simp at hz4; have y1 : wr.heap.size < w4.heap.size := (by omega); have y2 : w.heap.size < w4.heap.size := (by omega); have y3 : wo.heap.size < w4.heap.size := (by omega); have y4 : bv < w4.heap.size := (by omega); obtain ⟨hc4, hf4⟩ := bcell hb4; clear hb4))
              go_quiet (fail)
              go_wp2_with (go_at_call 26; refine (between_any _ _ _ _).mono ?_; rintro e w' ⟨rfl, rfl⟩)
              go_roundw
              case rel => exact ⟨k2 + 1, by go_num, by omega, by have h := B4.out; show Below _ _ _; (repeat (first | with_reducible exact Below.refl _ _ | with_reducible assumption | ((with_reducible refine Below.setCell ?_ ?_ _); rotate_left; focus (first | exact Nat.le_refl _ | omega | exact Below.size (by assumption) | (simp; done) | (simp; omega))) | ((with_reducible refine Below.alloc ?_ ?_ _); rotate_left; focus (first | exact Nat.le_refl _ | omega | exact Below.size (by assumption) | (simp; done) | (simp; omega))) | (with_reducible refine Below.drew ?_) | (with_reducible refine drewN_ ?_ _))), obj_drewN (obj_old T4.out)⟩
              case measure => simp [intOf]; omega
          · obtain rfl : k2 = m := by omega
            go_wp2
            go_roundw
            case rel => exact ⟨k + 1, by go_num, by omega, hB.out.trans (hB2.out.mono hB.out.size)⟩
            case measure => simp [intOf]; omega
    · obtain rfl : k = n3 := by omega
      go_wp2
      go_ret
      exact ⟨rfl, BW.out⟩
end Go.Proofs.YtmplajpbmojkkaaGreat
namespace Go.Proofs.YtmplajpbmojkkaaGreat
open Go Go.RowKit Go.Vi
/-- FindRoute where there is a route, and where there is none. -/
theorem findRoute_ok (n : Net) (a b : Int) (v1 v2 : Value) (w : World) (hN : NetAt w.heap.size w v1 v2 n) (hK : NetOK n) (hsz : n.roads.length ≤ 100) {R : List Hp} {l : Int} (hR : IsRoute n a b R l) :
    Calls Tryz.prog 63 #[.agg #[v1, v2], .int .i64 a, .int .i64 b] w fun e w' => (∃ vn vr, e = .returned (.tuple #[.agg #[vn, vr, .int .i64 l], .int .i64 0]) ∧ Ow w.heap.size w' 3 1 vn ((a :: R.map Hp.dst).map i1) ∧ Ow w.heap.size w' 3 1 vr ((R.map Hp.road).map i1)) ∧ Below w.heap.size w w' := by
  refine (findRoute_any n a b v1 v2 w hN hK hsz).mono ?_
  rintro e w' ⟨h | ⟨c, _, _, hno⟩, hb⟩
  · obtain ⟨R', l', vn, vr, he, hR', _, _, h1, h2⟩ := h
    obtain ⟨e1, e2⟩ := hR'.unique hR
    subst e1; subst e2
    exact ⟨⟨vn, vr, he, h1, h2⟩, hb⟩
  · exact absurd hR (hno _ _)
theorem findRoute_no (n : Net) (a b : Int) (v1 v2 : Value) (w : World) (hN : NetAt w.heap.size w v1 v2 n) (hK : NetOK n) (hsz : n.roads.length ≤ 100) (hR : ∀ R l, ¬IsRoute n a b R l) :
    Calls Tryz.prog 63 #[.agg #[v1, v2], .int .i64 a, .int .i64 b] w fun e w' => (∃ c : Int, e = .returned (.tuple #[.agg #[.slice none 0 0, .slice none 0 0, .int .i64 0], .int .i64 c]) ∧ (c != 0) = true) ∧ Below w.heap.size w w' := by
  refine (findRoute_any n a b v1 v2 w hN hK hsz).mono ?_
  rintro e w' ⟨h | ⟨c, he, hc, _⟩, hb⟩
  · obtain ⟨R', l', vn, vr, he, hR', _⟩ := h
    exact absurd hR' (hR _ _)
  · exact ⟨⟨c, he, by rw [hc]; simpa using routeErr_ne n a b⟩, hb⟩
/-- The hops of a route as a drive counts them. -/
def hopsT (S : Scn) (speed : Int) (R : List Hp) : List (Int × Int) := R.map fun h => (h.dst, hopTime S.net speed h.road)
def Full (L0 W L : List Stp) : Prop := (L0.length + W.length ≤ 256 → L = L0 ++ W) ∧ (256 < L0.length + W.length → 256 < L.length)
theorem Full.nil (L0 : List Stp) : Full L0 [] L0 := ⟨fun _ => by simp, fun h => by simpa using h⟩
theorem Full.wait {L0 W L W2 L2 : List Stp} (h : Full L0 W L) (h2 : Waited L W2 L2) (hL : 256 < L.length → 256 < L2.length) : Full L0 (W ++ W2) L2 := by
  constructor
  · intro hl
    simp at hl
    have e := h.1 (by omega)
    have e2 := h2.1 (by rw [e]; simp; omega)
    rw [e2, e]; simp
  · intro hl
    simp at hl
    by_cases hc : 256 < L0.length + W.length
    · exact hL (h.2 hc)
    · have e := h.1 (by omega)
      exact h2.2.1 (by rw [e]; simp; omega)
theorem Full.one {L0 W L : List Stp} (h : Full L0 W L) (x : Stp) : Full L0 (W ++ [x]) (L ++ [x]) := by
  constructor
  · intro hl
    simp at hl
    rw [h.1 (by omega)]; simp
  · intro hl
    simp at hl
    by_cases hc : 256 < L0.length + W.length
    · have := h.2 hc; simp; omega
    · rw [h.1 (by omega)]; simp; omega
theorem moves_take (l : List (Int × Int)) (now : Int) {k : Nat} (hk : k < l.length) : moves now (l.take (k + 1)) = moves now (l.take k) ++ [⟨gone now (l.take k) + l[k].2, l[k].1⟩] ∧ gone now (l.take (k + 1)) = gone now (l.take k) + l[k].2 := by
  rw [List.take_succ_eq_append_getElem hk, moves_append, gone_append]
  exact ⟨rfl, rfl⟩
theorem gone_le (l : List (Int × Int)) (g : Int) (h : ∀ p ∈ l, 1 ≤ p.2 ∧ p.2 ≤ g) : ∀ now, now ≤ gone now l ∧ gone now l ≤ now + l.length * g := by
  induction l with
  | nil => intro now; simp [gone]
  | cons p l ih =>
    intro now
    obtain ⟨d, t⟩ := p
    have h1 := h (d, t) List.mem_cons_self
    have h2 := ih (fun q hq => h q (List.mem_cons_of_mem _ hq)) (now + t)
    simp only [gone, List.length_cons]
    rw [show ((l.length + 1 : Nat) : Int) * g = l.length * g + g from by rw [Int.natCast_add, Int.add_mul]; simp]
    simp at h1
    omega
end Go.Proofs.YtmplajpbmojkkaaGreat
namespace Go.Proofs.YtmplajpbmojkkaaGreat
open Go Go.RowKit Go.Vi
/-- Memory while a drive yields: W0 is the world behind the drive's own boxes. -/
structure DM (C : Nat) (W0 : World) (bo : Nat) (v0 v : Value) (L : List Stp) (wx : World) : Prop where
  qf : QF W0 wx bo v0.ownBlock
  oat : OAt wx C bo v L
  own : v.ownBlock = v0.ownBlock ∨ ∀ g, v.ownBlock = some g → W0.heap.size ≤ g
section
variable {C bo : Nat} {W0 W1 wx w' : World} {v0 v v' : Value} {L L' : List Stp}
theorem DM.keep (h : DM C W0 bo v0 v L wx) (hb : Below wx.heap.size wx w') : DM C W0 bo v0 v L w' :=
  ⟨h.qf.trans (below_qf hb bo v0.ownBlock) (.inl rfl), h.oat.keep hb, h.own⟩
theorem DM.yield (h : DM C W0 bo v0 v L wx) (hO : OAt w' C bo v' L') (hF : QF wx w' bo v.ownBlock) (hw : v'.ownBlock = v.ownBlock ∨ ∀ g, v'.ownBlock = some g → wx.heap.size ≤ g) : DM C W0 bo v0 v' L' w' := by
  refine ⟨h.qf.trans hF h.own, hO, ?_⟩
  have hz := h.qf.size
  rcases hw with e | e
  · rw [e]; exact h.own
  · exact .inr fun g hg => Nat.le_trans hz (e g hg)
theorem DM.trans (h : DM C W0 bo v0 v L W1) (h2 : DM C W1 bo v v' L' wx) : DM C W0 bo v0 v' L' wx := by
  refine ⟨h.qf.trans h2.qf h.own, h2.oat, ?_⟩
  rcases h2.own with e | e
  · rw [e]; exact h.own
  · exact .inr fun g hg => Nat.le_trans h.qf.size (e g hg)
theorem DM.block (h : DM C W0 bo v0 v L wx) {b : Nat} {o : Obj} (ho : W0.heap[b]? = some o) (h1 : b ≠ bo) (h2 : ∀ g, v0.ownBlock = some g → g ≠ b) : wx.heap[b]? = some o := by
  rw [h.qf.block b (obj_lt ho) h1 (fun e => h2 b e.symm rfl)]; exact ho
theorem DM.low (h : DM C W0 bo v0 v L wx) {w : World} (hb : Below C w W0) (hz : C ≤ W0.heap.size) (hq : C ≤ bo) (hr : ∀ g, v0.ownBlock = some g → C ≤ g) : Below C w wx := QF.below hb h.qf hz hq hr
/-- The row of a drive, apart from a block of the beginning. -/
theorem DM.off (h : DM C W0 bo v0 v L wx) {b : Nat} (hb : b < W0.heap.size) (h2 : ∀ g, v0.ownBlock = some g → g ≠ b) : ∀ g, v.ownBlock = some g → g ≠ b := by
  intro g hg
  rcases h.own with e | e
  · rw [e] at hg; exact h2 g hg
  · have := e g hg; omega
end
/-- What a drive hands back, and what it leaves. -/
def DriveRes (r : Except Int (List Stp)) (C bo : Nat) (v0 : Value) (L0 : List Stp) (w : World) (e : Ending) (w' : World) : Prop :=
  ∃ c : Int, e = .returned (.int .i64 c) ∧ QF w w' bo v0.ownBlock ∧ match r with
    | .error c' => c = c' ∧ c' ≠ 0
    | .ok rest => c = 0 ∧ ∃ v' L', Full L0 rest L' ∧ OAt w' C bo v' L' ∧ L'.length ≤ 10000
/-- The rest of a tour: what a round does to it. -/
abbrev TourAt (S : Scn) (speed : Int) (p : Option Int) (now : Int) (x : Vis) (vs : List Vis) (i : Nat) : Prop :=
  tour S speed p now (vs.drop i) = match driveIf S speed p x.node with
    | .error e => .error e
    | .ok m => cont (tour S speed (some x.node) (gone now m + x.wait) (vs.drop (i + 1))) (moves now m ++ waits S.gap x.node x.wait.toNat (gone now m) (gone now m + x.wait))
theorem tour_next {S : Scn} {speed now : Int} {vs : List Vis} {i : Nat} {p : Option Int} {x : Vis} {Pre : List Stp} {l : List (Int × Int)} {T : Except Int (List Stp)} (hT : T = cont (tour S speed p now (vs.drop i)) Pre) (ha : TourAt S speed p now x vs i) (hx : x = vs[i]!) (hd : driveIf S speed p x.node = .ok l) :
    T = cont (tour S speed (prevOf vs (i + 1)) (gone now l + x.wait) (vs.drop (i + 1))) ((Pre ++ moves now l) ++ waits S.gap x.node x.wait.toNat (gone now l) (gone now l + x.wait)) := by
  unfold TourAt at ha
  rw [hT, ha, hd]
  show cont (cont _ _) Pre = _
  rw [cont_cont, List.append_assoc, hx]
  rfl
theorem tour_fail {S : Scn} {speed now : Int} {vs : List Vis} {i : Nat} {p : Option Int} {x : Vis} {Pre : List Stp} {c : Int} {T : Except Int (List Stp)} (hT : T = cont (tour S speed p now (vs.drop i)) Pre) (ha : TourAt S speed p now x vs i) (hd : driveIf S speed p x.node = .error c) : T = .error c := by
  unfold TourAt at ha
  rw [hT, ha, hd]
  rfl
/-- The hops of a route, part of which is driven. -/
theorem hopsT_len (S : Scn) (speed : Int) (R : List Hp) : (hopsT S speed R).length = R.length := by simp [hopsT]
theorem hopsT_at (S : Scn) (speed : Int) (R : List Hp) {k : Nat} (hk : k < R.length) : (hopsT S speed R)[k]'(by rw [hopsT_len]; exact hk) = (R[k]!.dst, hopTime S.net speed R[k]!.road) := by
  simp [hopsT, getElem!_pos R k hk]
theorem moves_step (S : Scn) (speed now : Int) (R : List Hp) {k : Nat} (hk : k < R.length) :
    moves now ((hopsT S speed R).take (k + 1)) = moves now ((hopsT S speed R).take k) ++ [⟨gone now ((hopsT S speed R).take k) + hopTime S.net speed R[k]!.road, R[k]!.dst⟩] ∧ gone now ((hopsT S speed R).take (k + 1)) = gone now ((hopsT S speed R).take k) + hopTime S.net speed R[k]!.road := by
  have h := moves_take (hopsT S speed R) now (k := k) (by rw [hopsT_len]; exact hk)
  rw [hopsT_at S speed R hk] at h
  exact h
theorem moves_all (S : Scn) (speed : Int) (R : List Hp) : (hopsT S speed R).take R.length = hopsT S speed R := List.take_of_length_le (by rw [hopsT_len]; exact Nat.le_refl _)
theorem drive_ok {S : Scn} {speed a b l : Int} {R : List Hp} (hR : IsRoute S.net a b R l) (hg : ∀ j, j < R.length → hopTime S.net speed R[j]!.road ≤ S.gap) : driveTo S speed a b = .ok (hopsT S speed R) := by
  unfold driveTo
  rw [routeOf_some hR]
  refine if_neg ?_
  rintro ⟨h, hh, hlt⟩
  obtain ⟨i, hi, rfl⟩ := List.getElem_of_mem hh
  have := hg i hi
  rw [getElem!_pos R i hi] at this
  omega
theorem drive_late {S : Scn} {speed a b l : Int} {R : List Hp} (hR : IsRoute S.net a b R l) {k : Nat} (hk : k < R.length) (hg : S.gap < hopTime S.net speed R[k]!.road) : driveTo S speed a b = .error 25 := by
  unfold driveTo
  rw [routeOf_some hR]
  exact if_pos ⟨R[k]!, by rw [getElem!_pos R k hk]; exact List.getElem_mem hk, hg⟩
theorem drive_none {S : Scn} {speed a b : Int} (h : ¬∃ R l, IsRoute S.net a b R l) : driveTo S speed a b = .error 31 := by
  unfold driveTo
  rw [routeOf_none (fun R l hr => h ⟨R, l, hr⟩)]
/-- An owned row of numbers: its cells. -/
theorem int_own {B n cap : Nat} {w : World} {a : Option Addr} {L : List Int} (h : Ow B w 3 1 (.slice a n cap) (L.map i1)) (i : Nat) (hi : i < L.length) : ∃ g, a = some ⟨g, 0, none⟩ ∧ B ≤ g ∧ g < w.heap.size ∧ ∀ j, j < L.length → w.cell? ⟨g, j, none⟩ = some (.int .i64 L[j]!) := by
  rcases h.shape with ⟨_, e⟩ | ⟨g, c, e, h1, h2, _⟩
  · rw [List.map_eq_nil_iff] at e; rw [e] at hi; simp at hi
  · injection e with e1 e2 e3
    subst e1
    refine ⟨g, rfl, h1, h2, fun j hj => ?_⟩
    have := h.cell j (by rw [List.length_map]; exact hj) 0 (by omega)
    rw [Nat.mul_one, Nat.add_zero] at this
    rw [this, List.getElem_map, getElem!_pos L j hj]
    rfl
theorem roadOf_id {l : List Rd} {id : Int} {r : Rd} (h : roadOf l id = some r) : r.id = id := by
  have := List.find?_some h
  simpa using this
theorem cell_blk {w w' : World} {b : Nat} (h : w'.heap[b]? = w.heap[b]?) (o : Nat) : w'.cell? ⟨b, o, none⟩ = w.cell? ⟨b, o, none⟩ := by simp [World.cell?, h]
theorem obj_set3 {w : World} {b : Nat} {T : TypeId} {fr : Nat × Nat} {c0 c1 c2 v0 v1 v2 : Value} (h : w.heap[b]? = some (.cells #[c0, c1, c2] T fr)) : (((w.setCell ⟨b, 0, none⟩ v0).setCell ⟨b, 1, none⟩ v1).setCell ⟨b, 2, none⟩ v2).heap[b]? = some (.cells #[v0, v1, v2] T fr) := by
  rw [obj_set (obj_set (obj_set h))]
  simp
theorem own_set3 {B B' b e k : Nat} {w : World} {v u0 u1 u2 : Value} {R : List (List Value)} (h : Ow B w e k v R) (hb : b < B) (hB : B' ≤ B) : Ow B' (((w.setCell ⟨b, 0, none⟩ u0).setCell ⟨b, 1, none⟩ u1).setCell ⟨b, 2, none⟩ u2) e k v R := by
  have hne : v.ownBlock ≠ some b := fun h1 => by have := (h.blk _ h1).1; omega
  exact (((h.keepSet ⟨b, 0, none⟩ hne u0).keepSet ⟨b, 1, none⟩ hne u1).keepSet ⟨b, 2, none⟩ hne u2).mono hB
theorem own_alloc {B B' e k : Nat} {w : World} {v : Value} {R : List (List Value)} {o : Obj} (h : Ow B w e k v R) (hB : B' ≤ B) : Ow B' (w.alloc o) e k v R := (h.keep ((Below.refl w.heap.size w).alloc (Nat.le_refl _) o)).mono hB
end Go.Proofs.YtmplajpbmojkkaaGreat
