/-
 The model's check: what it accepts.
-/
import Derived.Test.YtmplajpbmojkkaaGreatWlkA
set_option linter.unusedSimpArgs false
set_option linter.unusedVariables false
namespace Go.Proofs.YtmplajpbmojkkaaGreat
open Go Go.RowKit Go.Vi
theorem WalkRes.shape {r : Except Int (List Stp)} {B : Nat} {e : Ending} {w' : World} (h : WalkRes r B e w') : ∃ x y z, e = .returned (.tuple #[x, y, z]) := by
 unfold WalkRes at h
 split at h
 ·exact ⟨_, _, _, h.2⟩
 ·obtain ⟨vo, vl, he, _⟩ := h
  exact ⟨_, _, _, he⟩
theorem wayErrT_all {S : Scn} : ∀ (T : List Trp), (∀ t ∈ T, ∃ L, stopsS S t = .ok L ∧ ∀ x ∈ L, inB (x.time + offOf S.clocks t.dev) 0 1073741824 = true) → wayErrT S T = 0
 | [], _ => rfl
 | t :: T, h => by
  obtain ⟨L, hL, ha⟩ := h t List.mem_cons_self
  unfold wayErrT
  rw [hL]
  show (if L.all _ = true then _ else _) = _
  rw [if_pos (List.all_eq_true.2 ha)]
  exact wayErrT_all T fun u hu => h u (List.mem_cons_of_mem _ hu)
theorem obj_set10 {w : World} {b : Nat} {T : TypeId} {fr : Nat × Nat} {c0 c1 c2 c3 c4 c5 c6 c7 c8 c9 v0 v1 v2 v3 v4 v5 v6 v7 v8 v9 : Value} (h : w.heap[b]? = some (.cells #[c0, c1, c2, c3, c4, c5, c6, c7, c8, c9] T fr)) : ((((((((((w.setCell ⟨b, 0, none⟩ v0).setCell ⟨b, 1, none⟩ v1).setCell ⟨b, 2, none⟩ v2).setCell ⟨b, 3, none⟩ v3).setCell ⟨b, 4, none⟩ v4).setCell ⟨b, 5, none⟩ v5).setCell ⟨b, 6, none⟩ v6).setCell ⟨b, 7, none⟩ v7).setCell ⟨b, 8, none⟩ v8).setCell ⟨b, 9, none⟩ v9).heap[b]? = some (.cells #[v0, v1, v2, v3, v4, v5, v6, v7, v8, v9] T fr) := by
 rw [obj_set (obj_set (obj_set (obj_set (obj_set (obj_set (obj_set (obj_set (obj_set (obj_set h)))))))))]
 simp
set_option maxRecDepth 100000 in
set_option maxHeartbeats 8000000 in
theorem modelCheck_any (S : Scn) (v1 v2 v3 v4 v5 : Value) (w : World) (hS : ScnAt w.heap.size w v1 v2 v3 v4 v5 S) (hsz : S.net.roads.length ≤ 100) (hz3 : S.trips.length ≤ 1000) (hz4 : S.clocks.length ≤ 1000) (hz5 : S.syncs.length ≤ 1000) (hvis : ∀ i, i < S.trips.length → S.trips[i]!.vis.length ≤ 1000000) :
  Calls Tryz.prog 14 #[S.v v1 v2 v3 v4 v5] w fun e w' => (∃ c : Int, e = .returned (.int .i64 c) ∧ (c = 0 → Fit S ∧ wayErr S = 0)) ∧ Below w.heap.size w w' := by
 obtain ⟨a3, n3, c3, rfl, hn3, hn31, hn32⟩ := hS.trips.open
 obtain ⟨a4, n4, c4, rfl, hn4, hn41, hn42⟩ := hS.clocks.open
 obtain ⟨a5, n5, c5, rfl, hn5, hn51, hn52⟩ := hS.syncs.open
 rw [List.length_map] at hn4 hn5
 have HZ3 := Lib.hid hz3
 have HZ4 := Lib.hid hz4
 have HZ5 := Lib.hid hz5
 rw [hn3] at hz3
 rw [hn4] at hz4
 rw [hn5] at hz5
 have HS := Lib.hid hS
 have HVIS := Lib.hid hvis
 have HN3 := Lib.hid hn3
 have HN4 := Lib.hid hn4
 have HN5 := Lib.hid hn5
 clear hS hvis hn3 hn4 hn5 hn31 hn32 hn41 hn42 hn51 hn52
 have P0 := Lib.hid (obj_last w (.cells #[v1, v2, .int .i64 S.gap, .slice a3 n3 c3, .slice a4 n4 c4, .slice a5 n5 c5] 40))
 go_enter Tryz.func14, Tryz.ntmps14
 go_wp2_with fail
 refine (check_any S.net v1 v2 _ (HS.out.net.later (by (repeat (first | with_reducible exact Below.refl _ _ | with_reducible assumption | ((with_reducible first | refine Below.setCell ?_ ?_ _ | refine Below.alloc ?_ ?_ _); rotate_left; focus (first | exact Nat.le_refl _ | omega | exact Below.size (by assumption) | (simp <;> omega))) | with_reducible refine Below.drew ?_ | with_reducible refine drewN_ ?_ _))))).mono ?_
 rintro e w2 ⟨rfl, hb2⟩
 have P2 := Lib.hid (keepObj hb2 P0.out)
 have B2 := Lib.hid (from_ (w := w) hb2 (by (repeat (first | with_reducible exact Below.refl _ _ | with_reducible assumption | ((with_reducible first | refine Below.setCell ?_ ?_ _ | refine Below.alloc ?_ ?_ _); rotate_left; focus (first | exact Nat.le_refl _ | omega | exact Below.size (by assumption) | (simp <;> omega))) | with_reducible refine Below.drew ?_ | with_reducible refine drewN_ ?_ _))))
 clear hb2
 have l0 := obj_cell P2.out 0
 have l1 := obj_cell P2.out 1
 have l2 := obj_cell P2.out 2
 have l3 := obj_cell P2.out 3
 have l4 := obj_cell P2.out 4
 have l5 := obj_cell P2.out 5
 simp at l0 l1 l2 l3 l4 l5
 have z2 := obj_lt P2.out
 by_cases hnet : netErr S.net = 0
 case neg =>
  have hnet' : (netErr S.net != 0) = true := by simpa using hnet
  go_wp2_with fail
  go_ret
  exact ⟨⟨_, rfl, fun h => absurd h hnet⟩, B2.out⟩
 have HNET := Lib.hid hnet
 have HK := Lib.hid (netOK_of hnet)
 rw [hnet]
 clear hnet
 by_cases hgap : inB S.gap 1 1073741824 = true
 case neg =>
  replace hgap : inB S.gap 1 1073741824 = false := by simpa using hgap
  go_wp2_with (go_at_call 32; refine (within_any _ _ _ _).mono ?_; rintro e w' ⟨rfl, rfl⟩)
  go_ret
  exact ⟨⟨_, rfl, (fun h => by simp at h)⟩, B2.out⟩
 have hg := inB_iff.1 hgap
 by_cases hnt : n3 ≤ 64
 case neg =>
  have hnt' : (64 : Int) < (n3 : Int) := by omega
  go_wp2_with (go_at_call 32; refine (within_any _ _ _ _).mono ?_; rintro e w' ⟨rfl, rfl⟩)
  go_ret
  exact ⟨⟨_, rfl, (fun h => by simp at h)⟩, B2.out⟩
 have hnt' : ¬(64 : Int) < (n3 : Int) := by omega
 go_wp2_with (go_at_call 32; refine (within_any _ _ _ _).mono ?_; rintro e w' ⟨rfl, rfl⟩)
 clear l0 l1 l2 l3 l4 l5
 go_loopw [4, 5] (fun s4 s5 wr => ∃ k : Nat, s5 = .int .i64 k ∧ s4 = .int .i64 (lastOf S.trips k) ∧ k ≤ n3 ∧ Hid (∀ i, i < k → tripErr S.net S.trips[i]! (lastOf S.trips i) = 0) ∧ Hid (Below w2.heap.size w2 wr)) (fun _ s5 _ => n3 - (intOf s5).toNat)
 case atStart => exact ⟨0, rfl, rfl, Nat.zero_le _, (fun i hi => absurd hi (Nat.not_lt_zero _)), Below.refl _ _⟩
 case round =>
  obtain ⟨k, rfl, rfl, hk, hTE, hB⟩ := hrel
  have hPw := keepObj hB.out P2.out
  have l0 := obj_cell hPw 0
  have l1 := obj_cell hPw 1
  have l2 := obj_cell hPw 2
  have l3 := obj_cell hPw 3
  have l4 := obj_cell hPw 4
  have l5 := obj_cell hPw 5
  simp at l0 l1 l2 l3 l4 l5
  have zp := obj_lt hPw
  have BX := Lib.hid (B2.out.trans (hB.out.mono B2.out.size))
  have PX := Lib.hid hPw
  clear hPw
  by_cases hlt : k < n3
  ·have hkl : k < S.trips.length := by rw [HN3.out]; exact hlt
   obtain ⟨b, off, rfl, hb, hcs⟩ := HS.out.trips.at k hkl
   obtain ⟨v, hv, t0, t1, t2, t3, t4⟩ := hcs k hkl
   rw [← BX.out.cell (p := ⟨b, _, none⟩) hb] at t0 t1 t2 t3 t4
   have hzb : b < wr.heap.size := by have := BX.out.size; omega
   have hvk := HVIS.out k hkl
   obtain ⟨t, ht⟩ : ∃ t, t = S.trips[k]! := ⟨_, rfl⟩
   rw [← ht] at t0 t1 t2 t3 hv hvk
   have HT := Lib.hid ht
   obtain ⟨av, m, cv, rfl, _, _, _⟩ := hv.open
   have HV := Lib.hid ((hv.keep BX.out (Nat.le_refl _)).mono (B' := wr.heap.size) (by have := BX.out.size; omega))
   have HNW := Lib.hid ((HS.out.net.keep BX.out (Nat.le_refl _)).mono (B' := wr.heap.size) (by have := BX.out.size; omega))
   obtain ⟨la, hla⟩ : ∃ z, z = lastOf S.trips k := ⟨_, rfl⟩
   rw [← hla]
   have HLA := Lib.hid hla
   have hk1 : (0 : Int) ≤ (k : Int) := by omega
   have hk2 : (k : Int) < (n3 : Int) := by omega
   clear hcs ht hla hv
   go_wp2_with fail
   go_cut [6] (fun s6 wx => s6 = .int .i64 (tripErr S.net t la) ∧ Hid (Below wr.heap.size wr wx))
   case first =>
    go_region_held3 (fun w' => w'.cell? ⟨w.heap.size, 0, none⟩ = some v1 ∧ w'.cell? ⟨w.heap.size, 1, none⟩ = some v2 ∧ w'.cell? ⟨w.heap.size, 3, none⟩ = some (.slice (some ⟨b, off, none⟩) n3 c3) ∧ w'.cell? ⟨b, off + k * 5, none⟩ = some (.int .i64 t.obj) ∧ w'.cell? ⟨b, off + k * 5 + 1, none⟩ = some (.int .i64 t.dev) ∧ w'.cell? ⟨b, off + k * 5 + 2, none⟩ = some (.int .i64 t.start) ∧ w'.cell? ⟨b, off + k * 5 + 3, none⟩ = some (.int .i64 t.speed) ∧ w'.cell? ⟨b, off + k * 5 + 4, none⟩ = some (.slice av m cv))
     (((go_split_ands; refine ⟨?_, ?_, ?_, ?_, ?_, ?_, ?_, ?_⟩ <;> first | with_reducible assumption | exact ((show Below wr.heap.size wr _ from (by (repeat (first | with_reducible exact Below.refl _ _ | with_reducible assumption | ((with_reducible first | refine Below.setCell ?_ ?_ _ | refine Below.alloc ?_ ?_ _); rotate_left; focus (first | exact Nat.le_refl _ | omega | exact Below.size (by assumption) | (simp <;> omega))) | with_reducible refine Below.drew ?_ | with_reducible refine drewN_ ?_ _)))).cell (p := ⟨_, _, none⟩) (by first | with_reducible assumption | omega)).trans (by with_reducible assumption))))
     ((go_at_call 33; refine (checkTrip_any S.net v1 v2 _ t la _ (HNW.out.later (by (repeat (first | with_reducible exact Below.refl _ _ | with_reducible assumption | ((with_reducible first | refine Below.setCell ?_ ?_ _ | refine Below.alloc ?_ ?_ _); rotate_left; focus (first | exact Nat.le_refl _ | omega | exact Below.size (by assumption) | (simp <;> omega))) | with_reducible refine Below.drew ?_ | with_reducible refine drewN_ ?_ _)))) HK.out.nodes (by have := HK.out.few; omega) (HV.out.later (by (repeat (first | with_reducible exact Below.refl _ _ | with_reducible assumption | ((with_reducible first | refine Below.setCell ?_ ?_ _ | refine Below.alloc ?_ ?_ _); rotate_left; focus (first | exact Nat.le_refl _ | omega | exact Below.size (by assumption) | (simp <;> omega))) | with_reducible refine Below.drew ?_ | with_reducible refine drewN_ ?_ _)))) hvk).mono ?_; rintro e w3 ⟨rfl, hb3⟩; have B3 := from_ (w := wr) hb3 (by (repeat (first | with_reducible exact Below.refl _ _ | with_reducible assumption | ((with_reducible first | refine Below.setCell ?_ ?_ _ | refine Below.alloc ?_ ?_ _); rotate_left; focus (first | exact Nat.le_refl _ | omega | exact Below.size (by assumption) | (simp <;> omega))) | with_reducible refine Below.drew ?_ | with_reducible refine drewN_ ?_ _))); clear hb3))
    all_goals
     go_wp2_with fail
     go_meet
     exact ⟨rfl, by show Below _ _ _; (repeat (first | with_reducible exact Below.refl _ _ | with_reducible assumption | ((with_reducible first | refine Below.setCell ?_ ?_ _ | refine Below.alloc ?_ ?_ _); rotate_left; focus (first | exact Nat.le_refl _ | omega | exact Below.size (by assumption) | (simp <;> omega))) | with_reducible refine Below.drew ?_ | with_reducible refine drewN_ ?_ _))⟩
   case rest =>
    obtain ⟨rfl, hBc⟩ := hcut
    have hBX := hBc.out
    by_cases hte : tripErr S.net t la = 0
    ·have HTE := Lib.hid hte
     have m3 := (hBc.out.cell (p := ⟨w.heap.size, 3, none⟩) zp).trans l3
     have s0 := (hBc.out.cell (p := ⟨b, off + k * 5, none⟩) hzb).trans t0
     have zc := hBc.out.size
     have y1 : w.heap.size < wc.heap.size := by omega
     have y2 : b < wc.heap.size := by omega
     rw [hte]
     clear hte t0 t1 t2 t3 t4 l0 l1 l2 l3 l4 l5 hBX
     go_wp2_with fail
     go_roundw
     case rel =>
      refine ⟨k + 1, by go_num, by show _ = Value.int .i64 (S.trips[k]!.obj); rw [← HT.out], by omega, ?_, hB.out.trans (hBc.out.mono hB.out.size)⟩
      intro i hi
      rcases Nat.lt_succ_iff_lt_or_eq.1 hi with h1 | h1
      ·exact hTE.out i h1
      ·subst h1; rw [← HT.out, ← HLA.out]; exact HTE.out
     case measure => simp [intOf]; omega
    ·have hte' : (tripErr S.net t la != 0) = true := by simpa using hte
     go_wp2_with fail
     go_ret
     exact ⟨⟨_, rfl, (fun h => absurd h hte)⟩, BX.out.trans (hBX.mono BX.out.size)⟩
  ·obtain rfl : n3 = k := by omega
   have HTR := Lib.hid (show TripsOK S from fun i hi => hTE.out i (by rw [← HN3.out]; exact hi))
   obtain ⟨wo, rfl⟩ : ∃ wo : World, wo = wr := ⟨_, rfl⟩
   go_wp2_with fail
   refine (checkClocks_any S v1 v2 _ _ _ _ (HS.out.later BX.out) HZ4.out HZ3.out HZ5.out).mono ?_
   rintro e w4 ⟨⟨cc, rfl, hcc⟩, hb4⟩
   have P4 := Lib.hid (keepObj hb4 PX.out)
   have B4 := Lib.hid (BX.out.trans (hb4.mono BX.out.size))
   clear hb4 l0 l1 l2 l3 l4 l5
   by_cases hc0 : cc = 0
   case neg =>
    have hc0' : (cc != 0) = true := by simpa using hc0
    go_wp2_with fail
    go_ret
    exact ⟨⟨_, rfl, (fun h => absurd h hc0)⟩, B4.out⟩
   have HC := Lib.hid (hcc hc0)
   subst hc0
   clear hcc
   go_wp2_with fail
   go_loopw [8] (fun s8 wr => ∃ k2 : Nat, s8 = .int .i64 k2 ∧ k2 ≤ n3 ∧ Hid (∀ i, i < k2 → ∃ L, stopsS S S.trips[i]! = .ok L ∧ ∀ x ∈ L, inB (x.time + offOf S.clocks S.trips[i]!.dev) 0 1073741824 = true) ∧ Hid (Below w4.heap.size w4 wr)) (fun s8 _ => n3 - (intOf s8).toNat)
   case atStart => exact ⟨0, rfl, Nat.zero_le _, (fun i hi => absurd hi (Nat.not_lt_zero _)), Below.refl _ _⟩
   case round =>
    obtain ⟨k2, rfl, hk2, hWY, hB4⟩ := hrel
    have hPw := keepObj hB4.out P4.out
    have l0 := obj_cell hPw 0
    have l1 := obj_cell hPw 1
    have l2 := obj_cell hPw 2
    have l3 := obj_cell hPw 3
    have l4 := obj_cell hPw 4
    have l5 := obj_cell hPw 5
    simp at l0 l1 l2 l3 l4 l5
    have zp := obj_lt hPw
    have BX4 := Lib.hid (B4.out.trans (hB4.out.mono B4.out.size))
    have PX4 := Lib.hid hPw
    clear hPw
    by_cases hlt2 : k2 < n3
    ·have hkl : k2 < S.trips.length := by rw [HN3.out]; exact hlt2
     obtain ⟨b, off, rfl, hb, hcs⟩ := HS.out.trips.at k2 hkl
     obtain ⟨v, hv, t0, t1, t2, t3, t4⟩ := hcs k2 hkl
     rw [← BX4.out.cell (p := ⟨b, _, none⟩) hb] at t0 t1 t2 t3 t4
     have hzb : b < wr.heap.size := by have := BX4.out.size; omega
     have hfit := tripFit_of (HTR.out k2 hkl)
     obtain ⟨t, ht⟩ : ∃ t, t = S.trips[k2]! := ⟨_, rfl⟩
     rw [← ht] at t0 t1 t2 t3 hv hfit
     have HT := Lib.hid ht
     have HFIT := Lib.hid hfit
     have hob := off_bound HC.out t.dev
     obtain ⟨o, ho⟩ : ∃ o, o = offOf S.clocks t.dev := ⟨_, rfl⟩
     rw [← ho] at hob
     have HOO := Lib.hid ho
     obtain ⟨ho1, ho2⟩ := hob
     obtain ⟨av, m, cv, rfl, _, _, _⟩ := hv.open
     have HV := Lib.hid ((hv.keep BX4.out (Nat.le_refl _)).mono (B' := wr.heap.size) (by have := BX4.out.size; omega))
     have HNW := Lib.hid ((HS.out.net.keep BX4.out (Nat.le_refl _)).mono (B' := wr.heap.size) (by have := BX4.out.size; omega))
     have hk1 : (0 : Int) ≤ (k2 : Int) := by omega
     have hk3 : (k2 : Int) < (n3 : Int) := by omega
     clear hcs ht hfit ho hv
     go_wp2_with fail
     go_cut [9, 10, 11] (fun s9 s10 s11 wx => Hid (WalkRes (stopsS S t) wr.heap.size (.returned (.tuple #[s9, s10, s11])) wx) ∧ Hid (Below wr.heap.size wr wx))
     case first =>
      go_region_held3 (fun w' => w'.cell? ⟨w.heap.size, 0, none⟩ = some v1 ∧ w'.cell? ⟨w.heap.size, 1, none⟩ = some v2 ∧ w'.cell? ⟨w.heap.size, 2, none⟩ = some (.int .i64 S.gap) ∧ w'.cell? ⟨w.heap.size, 3, none⟩ = some (.slice (some ⟨b, off, none⟩) n3 c3) ∧ w'.cell? ⟨w.heap.size, 4, none⟩ = some (.slice a4 n4 c4) ∧ w'.cell? ⟨w.heap.size, 5, none⟩ = some (.slice a5 n5 c5) ∧ w'.cell? ⟨b, off + k2 * 5, none⟩ = some (.int .i64 t.obj) ∧ w'.cell? ⟨b, off + k2 * 5 + 1, none⟩ = some (.int .i64 t.dev) ∧ w'.cell? ⟨b, off + k2 * 5 + 2, none⟩ = some (.int .i64 t.start) ∧ w'.cell? ⟨b, off + k2 * 5 + 3, none⟩ = some (.int .i64 t.speed) ∧ w'.cell? ⟨b, off + k2 * 5 + 4, none⟩ = some (.slice av m cv))
       (((go_split_ands; refine ⟨?_, ?_, ?_, ?_, ?_, ?_, ?_, ?_, ?_, ?_, ?_⟩ <;> first | with_reducible assumption | exact ((show Below wr.heap.size wr _ from (by (repeat (first | with_reducible exact Below.refl _ _ | with_reducible assumption | ((with_reducible first | refine Below.setCell ?_ ?_ _ | refine Below.alloc ?_ ?_ _); rotate_left; focus (first | exact Nat.le_refl _ | omega | exact Below.size (by assumption) | (simp <;> omega))) | with_reducible refine Below.drew ?_ | with_reducible refine drewN_ ?_ _)))).cell (p := ⟨_, _, none⟩) (by first | with_reducible assumption | omega)).trans (by with_reducible assumption))))
       ((go_at_call 35; refine (walk_any S t v1 v2 _ _ _ _ _ (HNW.out.later (by (repeat (first | with_reducible exact Below.refl _ _ | with_reducible assumption | ((with_reducible first | refine Below.setCell ?_ ?_ _ | refine Below.alloc ?_ ?_ _); rotate_left; focus (first | exact Nat.le_refl _ | omega | exact Below.size (by assumption) | (simp <;> omega))) | with_reducible refine Below.drew ?_ | with_reducible refine drewN_ ?_ _)))) (HV.out.later (by (repeat (first | with_reducible exact Below.refl _ _ | with_reducible assumption | ((with_reducible first | refine Below.setCell ?_ ?_ _ | refine Below.alloc ?_ ?_ _); rotate_left; focus (first | exact Nat.le_refl _ | omega | exact Below.size (by assumption) | (simp <;> omega))) | with_reducible refine Below.drew ?_ | with_reducible refine drewN_ ?_ _)))) HK.out hsz hg HFIT.out).mono ?_; rintro e w3 ⟨hR, hb3⟩; obtain ⟨x1, x2, x3, rfl⟩ := hR.shape; have HR := Lib.hid hR; have B3 := from_ (w := wr) hb3 (by (repeat (first | with_reducible exact Below.refl _ _ | with_reducible assumption | ((with_reducible first | refine Below.setCell ?_ ?_ _ | refine Below.alloc ?_ ?_ _); rotate_left; focus (first | exact Nat.le_refl _ | omega | exact Below.size (by assumption) | (simp <;> omega))) | with_reducible refine Below.drew ?_ | with_reducible refine drewN_ ?_ _))); clear hb3 hR))
      all_goals
       go_wp2_with fail
       go_meet
       exact ⟨HR.out, by show Below _ _ _; (repeat (first | with_reducible exact Below.refl _ _ | with_reducible assumption | ((with_reducible first | refine Below.setCell ?_ ?_ _ | refine Below.alloc ?_ ?_ _); rotate_left; focus (first | exact Nat.le_refl _ | omega | exact Below.size (by assumption) | (simp <;> omega))) | with_reducible refine Below.drew ?_ | with_reducible refine drewN_ ?_ _))⟩
     case rest =>
      obtain ⟨hR, hBc⟩ := hcut
      obtain ⟨wd, rfl⟩ : ∃ z : World, z = wc := ⟨_, rfl⟩
      have hR2 := hR.out
      have BD := Lib.hid (BX4.out.trans (hBc.out.mono BX4.out.size))
      have hzd := hBc.out.size
      have m0 := (hBc.out.cell (p := ⟨w.heap.size, 0, none⟩) zp).trans l0
      have m1 := (hBc.out.cell (p := ⟨w.heap.size, 1, none⟩) zp).trans l1
      have m2 := (hBc.out.cell (p := ⟨w.heap.size, 2, none⟩) zp).trans l2
      have m3 := (hBc.out.cell (p := ⟨w.heap.size, 3, none⟩) zp).trans l3
      have m4 := (hBc.out.cell (p := ⟨w.heap.size, 4, none⟩) zp).trans l4
      have m5 := (hBc.out.cell (p := ⟨w.heap.size, 5, none⟩) zp).trans l5
      have td := (hBc.out.cell (p := ⟨b, off + k2 * 5 + 1, none⟩) hzb).trans t1
      have y1 : w.heap.size < wd.heap.size := by omega
      have y2 : b < wd.heap.size := by omega
      clear l0 l1 l2 l3 l4 l5 t0 t1 t2 t3 t4
      cases hst : stopsS S t with
      | error c =>
       rw [hst] at hR2
       obtain ⟨hc, he⟩ := hR2
       cases he
       have hc' : (c != 0) = true := by simpa using hc
       clear hst hR
       go_wp2_with fail
       go_ret
       exact ⟨⟨_, rfl, (fun h => absurd h hc)⟩, BD.out⟩
      | ok L =>
       rw [hst] at hR2
       obtain ⟨vo, vl, he, hO⟩ := hR2
       cases he
       obtain ⟨al, nl, cl, rfl⟩ := hO.val
       have hnl := hO.sl.len
       rw [List.length_map] at hnl
       obtain ⟨hRise, ⟨rest, hrest⟩, h256⟩ := stops_rise HK.out hsz hg HFIT.out hst
       have hl0 : 0 < L.length := by rw [hrest]; simp
       rw [hnl] at h256
       obtain ⟨bl, ol, rfl, hbl, hcl⟩ := hO.sl.cells 0 hl0
       obtain ⟨jl, hjl⟩ : ∃ j, nl = j + 1 := ⟨nl - 1, by omega⟩
       have f0 : wd.cell? ⟨bl, ol + 0 * 2, none⟩ = _ := hcl 0 hl0 0 _ rfl
       rw [Nat.zero_mul, Nat.add_zero] at f0
       have f1 : wd.cell? ⟨bl, ol + jl * 2, none⟩ = _ := hcl jl (by omega) 0 _ rfl
       have hx0 : L[0]!.time = t.start := by rw [hrest]; rfl
       have hxj := rise_last hRise
       rw [show L.length - 1 = jl by omega] at hxj
       have hzm : L[jl]! ∈ L := by rw [getElem!_pos L jl (by omega)]; exact List.getElem_mem _
       have hzt := hRise.2 _ hzm
       obtain ⟨xz, hxz⟩ : ∃ z, z = (L[jl]!).time := ⟨_, rfl⟩
       rw [hx0] at f0
       rw [← hxz] at f1 hzt hxj
       have HXJ := Lib.hid hxj
       have HRS := Lib.hid hRise
       have HST := Lib.hid hst
       have hts := HFIT.out.start
       obtain ⟨hz1, hz2⟩ := hzt
       have hp0 : (0 : Int) < (nl : Int) := by omega
       have hp1 : (nl : Int) - 1 = (jl : Int) := by omega
       have hp2 : IntKind.i64.wrap (jl : Int) = (jl : Int) := IntWalk.i64_in _ (by omega)
       have hp3 : (0 : Int) ≤ (jl : Int) := by omega
       have hp4 : (jl : Int) < (nl : Int) := by omega
       have hp5 : jl < nl := by omega
       have hp6 : 0 < nl := by omega
       have hs1 : IntKind.i64.wrap (t.start + o) = t.start + o := IntWalk.i64_in _ (by omega)
       have hs2 : IntKind.i64.wrap (xz + o) = xz + o := IntWalk.i64_in _ (by omega)
       clear hR hO hnl hRise hrest hcl hjl hx0 hxj hzm hxz hst hl0
       go_wp2_with fail
       go_cut [12, 13] (fun s12 s13 wx => s12 = .int .i64 o ∧ Hid (Below wd.heap.size wd wx))
       case first =>
        go_region_held3 (fun w' => w'.cell? ⟨w.heap.size, 0, none⟩ = some v1 ∧ w'.cell? ⟨w.heap.size, 1, none⟩ = some v2 ∧ w'.cell? ⟨w.heap.size, 2, none⟩ = some (.int .i64 S.gap) ∧ w'.cell? ⟨w.heap.size, 3, none⟩ = some (.slice (some ⟨b, off, none⟩) n3 c3) ∧ w'.cell? ⟨w.heap.size, 4, none⟩ = some (.slice a4 n4 c4) ∧ w'.cell? ⟨w.heap.size, 5, none⟩ = some (.slice a5 n5 c5) ∧ w'.cell? ⟨b, off + k2 * 5 + 1, none⟩ = some (.int .i64 t.dev))
         (((go_split_ands; refine ⟨?_, ?_, ?_, ?_, ?_, ?_, ?_⟩ <;> first | with_reducible assumption | exact ((show Below wd.heap.size wd _ from (by (repeat (first | with_reducible exact Below.refl _ _ | with_reducible assumption | ((with_reducible first | refine Below.setCell ?_ ?_ _ | refine Below.alloc ?_ ?_ _); rotate_left; focus (first | exact Nat.le_refl _ | omega | exact Below.size (by assumption) | (simp <;> omega))) | with_reducible refine Below.drew ?_ | with_reducible refine drewN_ ?_ _)))).cell (p := ⟨_, _, none⟩) (by first | with_reducible assumption | omega)).trans (by with_reducible assumption))))
         ((go_at_call 36; refine (offset_any S v1 v2 _ _ _ t.dev _ (HS.out.clocks.later (by have h := BD.out; (repeat (first | with_reducible exact Below.refl _ _ | with_reducible assumption | ((with_reducible first | refine Below.setCell ?_ ?_ _ | refine Below.alloc ?_ ?_ _); rotate_left; focus (first | exact Nat.le_refl _ | omega | exact Below.size (by assumption) | (simp <;> omega))) | with_reducible refine Below.drew ?_ | with_reducible refine drewN_ ?_ _)))) HZ4.out).mono ?_; rintro e w3 ⟨rfl, hb3⟩; rw [← HOO.out]; have B3 := from_ (w := wd) hb3 (by (repeat (first | with_reducible exact Below.refl _ _ | with_reducible assumption | ((with_reducible first | refine Below.setCell ?_ ?_ _ | refine Below.alloc ?_ ?_ _); rotate_left; focus (first | exact Nat.le_refl _ | omega | exact Below.size (by assumption) | (simp <;> omega))) | with_reducible refine Below.drew ?_ | with_reducible refine drewN_ ?_ _))); clear hb3))
        all_goals
         go_wp2_with fail
         go_meet
         exact ⟨rfl, by show Below _ _ _; (repeat (first | with_reducible exact Below.refl _ _ | with_reducible assumption | ((with_reducible first | refine Below.setCell ?_ ?_ _ | refine Below.alloc ?_ ?_ _); rotate_left; focus (first | exact Nat.le_refl _ | omega | exact Below.size (by assumption) | (simp <;> omega))) | with_reducible refine Below.drew ?_ | with_reducible refine drewN_ ?_ _))⟩
       case rest =>
        obtain ⟨rfl, hBe⟩ := hcut
        have hze := hBe.out.size
        rw [← hBe.out.cell (p := ⟨bl, _, none⟩) hbl] at f0 f1
        have y3 : bl < wc.heap.size := by omega
        have BE := Lib.hid (BD.out.trans (hBe.out.mono BD.out.size))
        clear m0 m1 m2 m3 m4 m5 td
        by_cases in1 : inB (t.start + o) 0 1073741824 = true
        ·by_cases in2 : inB (xz + o) 0 1073741824 = true
         ·go_wp2_with (go_at_call 32; refine (within_any _ _ _ _).mono ?_; rintro e w' ⟨rfl, rfl⟩)
          go_roundw
          case rel =>
           refine ⟨k2 + 1, by go_num, by omega, ?_, hB4.out.trans ((hBc.out.trans (hBe.out.mono hBc.out.size)).mono hB4.out.size)⟩
           intro i hi
           rcases Nat.lt_succ_iff_lt_or_eq.1 hi with h1 | h1
           ·exact hWY.out i h1
           ·subst h1
            rw [← HT.out, ← HOO.out]
            refine ⟨L, HST.out, fun x hx => inB_ok ?_⟩
            have q1 := HRS.out.2 x hx
            have q2 := HXJ.out x hx
            have q3 := inB_iff.1 in1
            have q4 := inB_iff.1 in2
            omega
          case measure => simp [intOf]; omega
         ·replace in2 : inB (xz + o) 0 1073741824 = false := by simpa using in2
          go_wp2_with (go_at_call 32; refine (within_any _ _ _ _).mono ?_; rintro e w' ⟨rfl, rfl⟩)
          go_ret
          exact ⟨⟨_, rfl, (fun h => by simp at h)⟩, BE.out⟩
        ·replace in1 : inB (t.start + o) 0 1073741824 = false := by simpa using in1
         go_wp2_with (go_at_call 32; refine (within_any _ _ _ _).mono ?_; rintro e w' ⟨rfl, rfl⟩)
         go_ret
         exact ⟨⟨_, rfl, (fun h => by simp at h)⟩, BE.out⟩
    ·obtain rfl : n3 = k2 := by omega
     have HWT := Lib.hid (show wayErrT S S.trips = 0 from wayErrT_all _ (fun t ht => by
      obtain ⟨i, hi, rfl⟩ := List.getElem_of_mem ht
      have := hWY.out i (by rw [← HN3.out]; exact hi)
      rw [getElem!_pos S.trips i hi] at this
      exact this))
     obtain ⟨wp, rfl⟩ : ∃ z : World, z = wr := ⟨_, rfl⟩
     go_wp2_with fail
     clear l0 l1 l2 l3 l4 l5
     go_loopw [14] (fun s14 wr => ∃ k3 : Nat, s14 = .int .i64 k3 ∧ k3 ≤ n5 ∧ Hid (∀ i, i < k3 → sncIn S.clocks S.syncs[i]! = true) ∧ Hid (Below wp.heap.size wp wr)) (fun s14 _ => n5 - (intOf s14).toNat)
     case atStart => exact ⟨0, rfl, Nat.zero_le _, (fun i hi => absurd hi (Nat.not_lt_zero _)), Below.refl _ _⟩
     case round =>
      obtain ⟨k, rfl, hk, hSI, hB5⟩ := hrel
      have hPw := keepObj hB5.out PX4.out
      have l0 := obj_cell hPw 0
      have l1 := obj_cell hPw 1
      have l2 := obj_cell hPw 2
      have l3 := obj_cell hPw 3
      have l4 := obj_cell hPw 4
      have l5 := obj_cell hPw 5
      simp at l0 l1 l2 l3 l4 l5
      have zp := obj_lt hPw
      have BX5 := Lib.hid (BX4.out.trans (hB5.out.mono BX4.out.size))
      clear hPw
      by_cases hlt3 : k < n5
      ·have hkl3 : k < S.syncs.length := by rw [HN5.out]; exact hlt3
       obtain ⟨b, off, rfl, hb, hcs⟩ := HS.out.syncs.cells k hkl3
       have t0 : w.cell? ⟨b, off + k * 6, none⟩ = _ := hcs k hkl3 0 _ rfl
       have t1 : w.cell? ⟨b, off + k * 6 + 1, none⟩ = _ := hcs k hkl3 1 _ rfl
       have t2 : w.cell? ⟨b, off + k * 6 + 2, none⟩ = _ := hcs k hkl3 2 _ rfl
       have t3 : w.cell? ⟨b, off + k * 6 + 3, none⟩ = _ := hcs k hkl3 3 _ rfl
       have t4 : w.cell? ⟨b, off + k * 6 + 4, none⟩ = _ := hcs k hkl3 4 _ rfl
       have t5 : w.cell? ⟨b, off + k * 6 + 5, none⟩ = _ := hcs k hkl3 5 _ rfl
       rw [← BX5.out.cell (p := ⟨b, _, none⟩) hb] at t0 t1 t2 t3 t4 t5
       have hzb : b < wr.heap.size := by have := BX5.out.size; omega
       obtain ⟨g0, g1, g2, g3, g4, g5, g6⟩ := HC.out.snc k hkl3
       have hob := off_bound HC.out S.syncs[k]!.dev
       obtain ⟨x, hx⟩ : ∃ x, x = S.syncs[k]! := ⟨_, rfl⟩
       rw [← hx] at t0 t1 t2 t3 t4 t5 g1 g2 g3 g4 g5 g6 hob
       have HX := Lib.hid hx
       have hG := Lib.hid (show exchV S x = .agg #[.int .i64 0, .int .i64 x.dev, .int .i64 x.sent, .int .i64 (gotOut S x), .int .i64 (x.out - x.so), .int .i64 x.dev, .int .i64 0, .int .i64 (gotOut S x), .int .i64 (gotBack x), .int .i64 (x.back - x.sb)] from rfl)
       have hsn := Lib.hid (show sncIn S.clocks x = (inB (gotOut S x) 0 1073741824 && inB (gotBack x) 0 1073741824) from rfl)
       have G2 := Lib.hid g2
       have G3 := Lib.hid g3
       have G4 := Lib.hid g4
       have G5 := Lib.hid g5
       have G6 := Lib.hid g6
       have HOB := Lib.hid hob
       obtain ⟨go, hgo⟩ : ∃ z, z = gotOut S x := ⟨_, rfl⟩
       obtain ⟨gb, hgb⟩ : ∃ z, z = gotBack x := ⟨_, rfl⟩
       rw [← hgo, ← hgb] at hG hsn
       have hk1 : (0 : Int) ≤ (k : Int) := by omega
       have hk2' : (k : Int) < (n5 : Int) := by omega
       clear hcs hx g0 g1 g2 g3 g4 g5 g6 hob hgo hgb
       go_wp2_with fail
       go_cut [15] (fun s15 wx => ∃ be : Nat, s15 = .pointer (some ⟨be, 0, none⟩) ∧ Hid (wx.heap[be]? = some (.cells #[.int .i64 0, .int .i64 x.dev, .int .i64 x.sent, .int .i64 go, .int .i64 (x.out - x.so), .int .i64 x.dev, .int .i64 0, .int .i64 go, .int .i64 gb, .int .i64 (x.back - x.sb)] 118 (0, 0))) ∧ Hid (Below wr.heap.size wr wx))
       case first =>
        go_region_held3 (fun w' => w'.cell? ⟨w.heap.size, 0, none⟩ = some v1 ∧ w'.cell? ⟨w.heap.size, 1, none⟩ = some v2 ∧ w'.cell? ⟨w.heap.size, 2, none⟩ = some (.int .i64 S.gap) ∧ w'.cell? ⟨w.heap.size, 3, none⟩ = some (.slice a3 n3 c3) ∧ w'.cell? ⟨w.heap.size, 4, none⟩ = some (.slice a4 n4 c4) ∧ w'.cell? ⟨w.heap.size, 5, none⟩ = some (.slice (some ⟨b, off, none⟩) n5 c5) ∧ w'.cell? ⟨b, off + k * 6, none⟩ = some (.int .i64 x.dev) ∧ w'.cell? ⟨b, off + k * 6 + 1, none⟩ = some (.int .i64 x.sent) ∧ w'.cell? ⟨b, off + k * 6 + 2, none⟩ = some (.int .i64 x.out) ∧ w'.cell? ⟨b, off + k * 6 + 3, none⟩ = some (.int .i64 x.back) ∧ w'.cell? ⟨b, off + k * 6 + 4, none⟩ = some (.int .i64 x.so) ∧ w'.cell? ⟨b, off + k * 6 + 5, none⟩ = some (.int .i64 x.sb))
         (((go_split_ands; refine ⟨?_, ?_, ?_, ?_, ?_, ?_, ?_, ?_, ?_, ?_, ?_, ?_⟩ <;> first | with_reducible assumption | exact ((show Below wr.heap.size wr _ from (by (repeat (first | with_reducible exact Below.refl _ _ | with_reducible assumption | ((with_reducible first | refine Below.setCell ?_ ?_ _ | refine Below.alloc ?_ ?_ _); rotate_left; focus (first | exact Nat.le_refl _ | omega | exact Below.size (by assumption) | (simp <;> omega))) | with_reducible refine Below.drew ?_ | with_reducible refine drewN_ ?_ _)))).cell (p := ⟨_, _, none⟩) (by first | with_reducible assumption | omega)).trans (by with_reducible assumption))))
         ((go_at_call 37; refine (exchanges_any S v1 v2 _ _ _ x _ (HS.out.clocks.later (by have h := BX5.out; (repeat (first | with_reducible exact Below.refl _ _ | with_reducible assumption | ((with_reducible first | refine Below.setCell ?_ ?_ _ | refine Below.alloc ?_ ?_ _); rotate_left; focus (first | exact Nat.le_refl _ | omega | exact Below.size (by assumption) | (simp <;> omega))) | with_reducible refine Below.drew ?_ | with_reducible refine drewN_ ?_ _)))) HZ4.out ⟨by have := HOB.out; omega, by have := HOB.out; omega⟩ G2.out G3.out G4.out G5.out G6.out).mono ?_; rintro e w3 ⟨rfl, hb3⟩; rw [hG.out]; have B3 := from_ (w := wr) hb3 (by (repeat (first | with_reducible exact Below.refl _ _ | with_reducible assumption | ((with_reducible first | refine Below.setCell ?_ ?_ _ | refine Below.alloc ?_ ?_ _); rotate_left; focus (first | exact Nat.le_refl _ | omega | exact Below.size (by assumption) | (simp <;> omega))) | with_reducible refine Below.drew ?_ | with_reducible refine drewN_ ?_ _))); (first | (have LL := keepObj hb3 (b := wr.heap.size) (o := (.cells #[.int .i64 0, .int .i64 0, .int .i64 0, .int .i64 0, .int .i64 0, .int .i64 0, .int .i64 0, .int .i64 0, .int .i64 0, .int .i64 0] 118)) (by first | exact obj_last wr (.cells #[.int .i64 0, .int .i64 0, .int .i64 0, .int .i64 0, .int .i64 0, .int .i64 0, .int .i64 0, .int .i64 0, .int .i64 0, .int .i64 0] 118) | exact obj_drew (obj_last wr (.cells #[.int .i64 0, .int .i64 0, .int .i64 0, .int .i64 0, .int .i64 0, .int .i64 0, .int .i64 0, .int .i64 0, .int .i64 0, .int .i64 0] 118)) | exact obj_last wr.drew (.cells #[.int .i64 0, .int .i64 0, .int .i64 0, .int .i64 0, .int .i64 0, .int .i64 0, .int .i64 0, .int .i64 0, .int .i64 0, .int .i64 0] 118) | exact obj_drew (obj_last wr.drew (.cells #[.int .i64 0, .int .i64 0, .int .i64 0, .int .i64 0, .int .i64 0, .int .i64 0, .int .i64 0, .int .i64 0, .int .i64 0, .int .i64 0] 118))); have e0 := obj_cell LL 0; have e1 := obj_cell LL 1; have e2 := obj_cell LL 2; have e3 := obj_cell LL 3; have e4 := obj_cell LL 4; have e5 := obj_cell LL 5; have e6 := obj_cell LL 6; have e7 := obj_cell LL 7; have e8 := obj_cell LL 8; have e9 := obj_cell LL 9; have f0 := obj_free LL 0; have f1 := obj_free LL 1; have f2 := obj_free LL 2; have f3 := obj_free LL 3; have f4 := obj_free LL 4; have f5 := obj_free LL 5; have f6 := obj_free LL 6; have f7 := obj_free LL 7; have f8 := obj_free LL 8; have f9 := obj_free LL 9; simp at e0 e1 e2 e3 e4 e5 e6 e7 e8 e9; have ze := obj_lt LL) | (guard_hyp hb3 : Below wr.drew.heap.size wr.drew w3) | (guard_hyp hb3 : Below wr.heap.size wr w3)); have zz3 := hb3.size; (try simp at zz3); clear hb3))
        all_goals
         go_wp2_with fail
         go_meet
         refine ⟨_, rfl, ?_, by show Below _ _ _; (repeat (first | with_reducible exact Below.refl _ _ | with_reducible assumption | ((with_reducible first | refine Below.setCell ?_ ?_ _ | refine Below.alloc ?_ ?_ _); rotate_left; focus (first | exact Nat.le_refl _ | omega | exact Below.size (by assumption) | (simp <;> omega))) | with_reducible refine Below.drew ?_ | with_reducible refine drewN_ ?_ _))⟩
         show _ = _
         first
          | with_reducible exact obj_last _ _
          | with_reducible exact obj_set10 LL
       case rest =>
        obtain ⟨be, rfl, hXE, hBf⟩ := hcut
        have e3 := obj_cell hXE.out 3
        have e8 := obj_cell hXE.out 8
        simp at e3 e8
        have ze := obj_lt hXE.out
        have BF := Lib.hid (BX5.out.trans (hBf.out.mono BX5.out.size))
        clear l0 l1 l2 l3 l4 l5 t0 t1 t2 t3 t4 t5
        by_cases in1 : inB go 0 1073741824 = true
        ·by_cases in2 : inB gb 0 1073741824 = true
         ·go_wp2_with (go_at_call 32; refine (within_any _ _ _ _).mono ?_; rintro e w' ⟨rfl, rfl⟩)
          go_roundw
          case rel =>
           refine ⟨k + 1, by go_num, by omega, ?_, hB5.out.trans (hBf.out.mono hB5.out.size)⟩
           intro i hi
           rcases Nat.lt_succ_iff_lt_or_eq.1 hi with h1 | h1
           ·exact hSI.out i h1
           ·subst h1
            rw [← HX.out, hsn.out, in1, in2]; rfl
          case measure => simp [intOf]; omega
         ·replace in2 : inB gb 0 1073741824 = false := by simpa using in2
          go_wp2_with (go_at_call 32; refine (within_any _ _ _ _).mono ?_; rintro e w' ⟨rfl, rfl⟩)
          go_ret
          exact ⟨⟨_, rfl, (fun h => by simp at h)⟩, BF.out⟩
        ·replace in1 : inB go 0 1073741824 = false := by simpa using in1
         go_wp2_with (go_at_call 32; refine (within_any _ _ _ _).mono ?_; rintro e w' ⟨rfl, rfl⟩)
         go_ret
         exact ⟨⟨_, rfl, (fun h => by simp at h)⟩, BF.out⟩
      ·obtain rfl : n5 = k := by omega
       have HW0 := Lib.hid (show wayErr S = 0 from by
        unfold wayErr
        rw [if_pos HWT.out, if_pos (all_at (fun i hi => by have := hSI.out i (by rw [← HN5.out]; exact hi); rw [getElem!_pos S.syncs i hi] at this; exact this))])
       go_wp2_with fail
       go_ret
       exact ⟨⟨_, rfl, fun _ => ⟨⟨HNET.out, hsz, hg, by rw [HN3.out]; exact hnt, HTR.out, HC.out, HZ4.out, HZ5.out⟩, HW0.out⟩⟩, BX5.out⟩
end Go.Proofs.YtmplajpbmojkkaaGreat
