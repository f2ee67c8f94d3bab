/-
  simulate's Check, where all but the ways is right.
-/
import Derived.Test.YthkhgfdjdpfoiaaWaysW
set_option linter.unusedSimpArgs false
set_option linter.unusedVariables false
namespace Go.Proofs.Ythkhgfdjdpfoiaa
open Go Go.RowKit Go.Vi
/-- A scenario of which all but the ways is right. -/
structure Fit (S : Scn) : Prop where
  net : netErr S.net = 0
  few : S.net.roads.length ≤ 100
  gap : 1 ≤ S.gap ∧ S.gap ≤ 1073741824
  ntrips : S.trips.length ≤ 64
  trips : TripsOK S
  clocks : ClocksOK S
  nclocks : S.clocks.length ≤ 1000
  nsyncs : S.syncs.length ≤ 1000
set_option maxRecDepth 100000 in
set_option maxHeartbeats 4000000 in
theorem checkW_any (S : Scn) (v1 v2 v3 v4 v5 : Value) (w : World) (hS : ScnAt w.heap.size w v1 v2 v3 v4 v5 S) (hF : Fit S) :
    Calls Try.prog 11 #[S.v v1 v2 v3 v4 v5] w fun e w' => e = .returned (.int .i64 (wayErr S)) ∧ Below w.heap.size w w' := by
  obtain ⟨a3, n3, c3, rfl, hn3, hn31, hn32⟩ := hS.trips.open
  have hnt := hF.ntrips
  rw [hn3] at hnt
  have hgap := inB_ok hF.gap
  have HS := Lib.hid hS
  have HF := Lib.hid hF
  have HK := Lib.hid (netOK_of hF.net)
  clear hS hF hn3 hn31 hn32
  have P0 := Lib.hid (obj_last w (.cells #[v1, v2, .int .i64 S.gap, .slice a3 n3 c3, v4, v5] 40))
  go_enter Try.func11, Try.ntmps11
  go_wp2_with fail
  refine (check_any S.net v1 v2 _ (HS.out.net.later (by (repeat (first | with_reducible exact Below.refl _ _ | with_reducible assumption | ((with_reducible refine Below.setCell ?_ ?_ _); rotate_left; focus (first | exact Nat.le_refl _ | omega | exact Below.size (by assumption) | (simp; done) | (simp; omega))) | ((with_reducible refine Below.alloc ?_ ?_ _); rotate_left; focus (first | exact Nat.le_refl _ | omega | exact Below.size (by assumption) | (simp; done) | (simp; omega))) | (with_reducible refine Below.drew ?_) | (with_reducible refine drewN_ ?_ _)))))).mono ?_
  rintro e w2 ⟨rfl, hb2⟩
  rw [HF.out.net]
  have P2 := Lib.hid (keepObj hb2 P0.out)
  have B2 := Lib.hid (from_ (w := w) hb2 (by (repeat (first | with_reducible exact Below.refl _ _ | with_reducible assumption | ((with_reducible refine Below.setCell ?_ ?_ _); rotate_left; focus (first | exact Nat.le_refl _ | omega | exact Below.size (by assumption) | (simp; done) | (simp; omega))) | ((with_reducible refine Below.alloc ?_ ?_ _); rotate_left; focus (first | exact Nat.le_refl _ | omega | exact Below.size (by assumption) | (simp; done) | (simp; omega))) | (with_reducible refine Below.drew ?_) | (with_reducible refine drewN_ ?_ _)))))
  have l0 := obj_cell P2.out 0
  have l1 := obj_cell P2.out 1
  have l2 := obj_cell P2.out 2
  have l3 := obj_cell P2.out 3
  have l4 := obj_cell P2.out 4
  have l5 := obj_cell P2.out 5
  simp at l0 l1 l2 l3 l4 l5
  have z2 := obj_lt P2.out
  have hnt' : ¬(64 : Int) < (n3 : Int) := by omega
  clear hb2
  go_wp2_with (go_at_call 25; refine (between_any _ _ _ _).mono ?_; rintro e w' ⟨rfl, rfl⟩)
  go_loopw [33] (fun s33 wr => ∃ k : Nat, s33 = .int .i64 k ∧ k ≤ 4 ∧ (k = 4 → wayErr S = 0) ∧ Hid (wr.heap[w2.heap.size]? = some (.cells #[.func (.func 26) #[(.agg #[v1, v2, .int .i64 S.gap, .slice a3 n3 c3, v4, v5])] #[], .func (.func 27) #[(.agg #[v1, v2, .int .i64 S.gap, .slice a3 n3 c3, v4, v5])] #[], .func (.func 28) #[(.agg #[v1, v2, .int .i64 S.gap, .slice a3 n3 c3, v4, v5])] #[], .func (.func 29) #[(.agg #[v1, v2, .int .i64 S.gap, .slice a3 n3 c3, v4, v5])] #[]] 98)) ∧ Hid (Below w2.heap.size w2 wr)) (fun s33 _ => 4 - (intOf s33).toNat)
  case atStart => exact ⟨0, rfl, by omega, fun h => by omega, obj_last _ _, by show Below _ _ _; (repeat (first | with_reducible exact Below.refl _ _ | with_reducible assumption | ((with_reducible refine Below.setCell ?_ ?_ _); rotate_left; focus (first | exact Nat.le_refl _ | omega | exact Below.size (by assumption) | (simp; done) | (simp; omega))) | ((with_reducible refine Below.alloc ?_ ?_ _); rotate_left; focus (first | exact Nat.le_refl _ | omega | exact Below.size (by assumption) | (simp; done) | (simp; omega))) | (with_reducible refine Below.drew ?_) | (with_reducible refine drewN_ ?_ _)))⟩
  case round =>
    obtain ⟨k, rfl, hk, hE, hA, hB⟩ := hrel
    have BX := Lib.hid (B2.out.trans (hB.out.mono B2.out.size))
    have zA := obj_lt hA.out
    rcases (by omega : k = 0 ∨ k = 1 ∨ k = 2 ∨ k = 3 ∨ k = 4) with rfl | rfl | rfl | rfl | rfl
    · have c0 := obj_cell hA.out 0
      simp at c0
      go_wp2_with fail
      refine (checkTrips_any S v1 v2 _ v4 v5 _ (HS.out.later BX.out) HK.out.nodes (by have := HK.out.few; omega) HF.out.trips (by have := HF.out.ntrips; omega)).mono ?_
      rintro e w3 ⟨rfl, hb3⟩
      have HA3 := Lib.hid (keepObj hb3 hA.out)
      have B3 := Lib.hid (hB.out.trans (hb3.mono hB.out.size))
      have hB3 := Lib.hid (BX.out.trans (hb3.mono BX.out.size))
      clear hb3
      go_wp2_with fail
      go_roundw
      case rel => exact ⟨1, by go_num, by omega, fun h => by omega, HA3.out, B3.out⟩
      case measure => simp [intOf]
    · have c0 := obj_cell hA.out 1
      simp at c0
      go_wp2_with fail
      refine (checkClocksS_any S v1 v2 _ v4 v5 _ (HS.out.later BX.out) HF.out.clocks HF.out.nclocks (by have := HF.out.ntrips; omega)).mono ?_
      rintro e w3 ⟨rfl, hb3⟩
      have HA3 := Lib.hid (keepObj hb3 hA.out)
      have B3 := Lib.hid (hB.out.trans (hb3.mono hB.out.size))
      have hB3 := Lib.hid (BX.out.trans (hb3.mono BX.out.size))
      clear hb3
      go_wp2_with fail
      go_roundw
      case rel => exact ⟨2, by go_num, by omega, fun h => by omega, HA3.out, B3.out⟩
      case measure => simp [intOf]
    · have c0 := obj_cell hA.out 2
      simp at c0
      go_wp2_with fail
      refine (checkSyncs_any S v1 v2 _ v4 v5 _ (HS.out.later BX.out) HF.out.clocks HF.out.nclocks HF.out.nsyncs).mono ?_
      rintro e w3 ⟨rfl, hb3⟩
      have HA3 := Lib.hid (keepObj hb3 hA.out)
      have B3 := Lib.hid (hB.out.trans (hb3.mono hB.out.size))
      have hB3 := Lib.hid (BX.out.trans (hb3.mono BX.out.size))
      clear hb3
      go_wp2_with fail
      go_roundw
      case rel => exact ⟨3, by go_num, by omega, fun h => by omega, HA3.out, B3.out⟩
      case measure => simp [intOf]
    · have c0 := obj_cell hA.out 3
      simp at c0
      go_wp2_with fail
      refine (checkWays_any S v1 v2 _ v4 v5 _ (HS.out.later BX.out) HK.out HF.out.few HF.out.clocks (fun i hi => tripFit_of (HF.out.trips i hi)) HF.out.gap HF.out.nclocks (by have := HF.out.ntrips; omega) HF.out.nsyncs).mono ?_
      rintro e w3 ⟨rfl, hb3⟩
      have HA3 := Lib.hid (keepObj hb3 hA.out)
      have B3 := Lib.hid (hB.out.trans (hb3.mono hB.out.size))
      have hB3 := Lib.hid (BX.out.trans (hb3.mono BX.out.size))
      clear hb3
      by_cases hz : wayErr S = 0
      · have HZ := Lib.hid hz
        rw [hz]
        clear hz
        go_wp2_with fail
        go_roundw
        case rel => exact ⟨4, by go_num, by omega, fun h => HZ.out, HA3.out, B3.out⟩
        case measure => simp [intOf]
      · have hz' : (wayErr S != 0) = true := by simpa using hz
        go_wp2_with fail
        go_ret
        exact ⟨rfl, hB3.out⟩
    · have HZ := hE rfl
      go_wp2_with fail
      go_ret
      exact ⟨rfl, BX.out⟩
end Go.Proofs.Ythkhgfdjdpfoiaa
