/-
  simulate's checkWays: the first error of the ways and of the times.
-/
import Derived.Test.YthkhgfdjdpfoiaaStopW
import Derived.Test.YthkhgfdjdpfoiaaP09
set_option linter.unusedSimpArgs false
set_option linter.unusedVariables false
namespace Go.Proofs.Ythkhgfdjdpfoiaa
open Go Go.RowKit Go.Vi
theorem lens_one {w : World} {b : Nat} {E : List (Int × Int)} (h : IMap w b (ivI E)) (a d : Int) (ha : Vi.look E a = some d) : (Instr.lookup 87 (.map (some b)) (.int .i64 a) false).run Try.prog w = .ok (.int .i64 d) w := by
  have := h.lookup (P := Try.prog) uLens uInt (zInt w) a false
  rw [look_ivI, ha] at this
  exact this
set_option maxRecDepth 100000 in
set_option maxHeartbeats 4000000 in
theorem checkWays_any (S : Scn) (v1 v2 v3 v4 v5 : Value) (w : World) (hS : ScnAt w.heap.size w v1 v2 v3 v4 v5 S) (hK : NetOK S.net) (hsz : S.net.roads.length ≤ 100) (hC : ClocksOK S) (hT : ∀ i, i < S.trips.length → TripFit S.trips[i]!) (hg : 1 ≤ S.gap ∧ S.gap ≤ 1073741824) (hz4 : S.clocks.length ≤ 1000) (hz3 : S.trips.length ≤ 1000) (hz5 : S.syncs.length ≤ 1000) :
    Calls Try.prog 29 #[S.v v1 v2 v3 v4 v5] w fun e w' => e = .returned (.int .i64 (wayErr S)) ∧ Below w.heap.size w w' := by
  obtain ⟨a3, n3, c3, rfl, hn3, hn31, hn32⟩ := hS.trips.open
  obtain ⟨a4, n4, c4, rfl, hn4, hn41, hn42⟩ := hS.clocks.open
  obtain ⟨a5, n5, c5, rfl, hn5, hn51, hn52⟩ := hS.syncs.open
  rw [List.length_map] at hn4 hn5
  rw [hn3] at hz3
  rw [hn4] at hz4
  rw [hn5] at hz5
  have HS := Lib.hid hS
  have HK := Lib.hid hK
  have HC := Lib.hid hC
  have HT := Lib.hid hT
  have HN3 := Lib.hid hn3
  have HN4 := Lib.hid hn4
  have HN5 := Lib.hid hn5
  clear hS hK hC hT hn3 hn4 hn5 hn31 hn32 hn41 hn42 hn51 hn52
  have P0 := Lib.hid (obj_last w (.cells #[v1, v2, .int .i64 S.gap, .slice a3 n3 c3, .slice a4 n4 c4, .slice a5 n5 c5] 40))
  go_enter Try.func29, Try.ntmps29
  go_wp2_with (go_at_call 19; refine (offsets_any S v1 v2 _ _ _ _ (HS.out.clocks.later (by (repeat (first | with_reducible exact Below.refl _ _ | with_reducible assumption | ((with_reducible refine Below.setCell ?_ ?_ _); rotate_left; focus (first | exact Nat.le_refl _ | omega | exact Below.size (by assumption) | (simp; done) | (simp; omega))) | ((with_reducible refine Below.alloc ?_ ?_ _); rotate_left; focus (first | exact Nat.le_refl _ | omega | exact Below.size (by assumption) | (simp; done) | (simp; omega))) | (with_reducible refine Below.drew ?_) | (with_reducible refine drewN_ ?_ _))))) (by rw [HN4.out]; exact hz4)).mono ?_; rintro e w2 ⟨⟨bm, rfl, hbm, hI⟩, hb2⟩; have hP2 := keepObj hb2 P0.out; have m3 := obj_cell hP2 3; simp at m3; have B2 := Lib.hid (from_ (w := w) hb2 (by (repeat (first | with_reducible exact Below.refl _ _ | with_reducible assumption | ((with_reducible refine Below.setCell ?_ ?_ _); rotate_left; focus (first | exact Nat.le_refl _ | omega | exact Below.size (by assumption) | (simp; done) | (simp; omega))) | ((with_reducible refine Below.alloc ?_ ?_ _); rotate_left; focus (first | exact Nat.le_refl _ | omega | exact Below.size (by assumption) | (simp; done) | (simp; omega))) | (with_reducible refine Below.drew ?_) | (with_reducible refine drewN_ ?_ _))))); have HI := Lib.hid hI; have zb2 := obj_lt hP2; have PW := Lib.hid hP2; clear hb2 hI hP2)
  go_loopw [18] (fun s18 wr => ∃ k : Nat, s18 = .int .i64 k ∧ k ≤ n3 ∧ Hid (wayErrT S S.trips = wayErrT S (S.trips.drop k)) ∧ Hid (Below w2.heap.size w2 wr)) (fun s18 _ => n3 - (intOf s18).toNat)
  case atStart => exact ⟨0, rfl, Nat.zero_le _, rfl, Below.refl _ _⟩
  case round =>
    obtain ⟨k, rfl, hk, hE, hB⟩ := hrel
    have hPw := keepObj hB.out PW.out
    have l0 := obj_cell hPw 0
    have l1 := obj_cell hPw 1
    have l2 := obj_cell hPw 2
    have l3 := obj_cell hPw 3
    have l4 := obj_cell hPw 4
    have l5 := obj_cell hPw 5
    simp at l0 l1 l2 l3 l4 l5
    have zb := obj_lt hPw
    have BX := Lib.hid (B2.out.trans (hB.out.mono B2.out.size))
    have PX := Lib.hid hPw
    clear hPw
    by_cases hlt : k < n3
    · have hkl : k < S.trips.length := by rw [HN3.out]; exact hlt
      obtain ⟨b, off, rfl, hb, hcs⟩ := HS.out.trips.at k hkl
      obtain ⟨v, hv, t0, t1, t2, t3, t4⟩ := hcs k hkl
      rw [← BX.out.cell (p := ⟨b, _, none⟩) hb] at t0 t1 t2 t3 t4
      have hzb : b < wr.heap.size := by have := BX.out.size; omega
      have hd := HC.out.dev k hkl
      have hlo := off_look HC.out S.trips[k]!.dev
      rw [if_pos hd] at hlo
      have hob := off_bound HC.out S.trips[k]!.dev
      have hfit := HT.out k hkl
      have hat := wayErrT_at (S := S) hkl
      obtain ⟨t, ht⟩ : ∃ t, t = S.trips[k]! := ⟨_, rfl⟩
      rw [← ht] at t0 t1 t2 t3 hlo hob hfit hat hv
      obtain ⟨o, ho⟩ : ∃ o, o = offOf S.clocks t.dev := ⟨_, rfl⟩
      rw [← ho] at hlo hob hat
      obtain ⟨av, m, cv, rfl, _, _, _⟩ := hv.open
      have HV := Lib.hid hv
      have HLO := Lib.hid hlo
      have HAT := Lib.hid hat
      have HFIT := Lib.hid hfit
      obtain ⟨ho1, ho2⟩ := hob
      clear hcs hd ht hlo hat hfit hv ho
      go_wp2_with fail
      obtain ⟨W1, hW1⟩ : ∃ W1, W1 = wr.alloc (.cells #[.int .i64 t.obj, .int .i64 t.dev, .int .i64 t.start, .int .i64 t.speed, .slice av m cv] 45) := ⟨_, rfl⟩
      obtain ⟨bt, hbt⟩ : ∃ z, wr.heap.size = z := ⟨_, rfl⟩
      have PT := Lib.hid (obj_last wr (.cells #[.int .i64 t.obj, .int .i64 t.dev, .int .i64 t.start, .int .i64 t.speed, .slice av m cv] 45))
      have BT := Lib.hid (BX.out.trans (((Below.refl wr.heap.size wr).alloc (Nat.le_refl _) (.cells #[.int .i64 t.obj, .int .i64 t.dev, .int .i64 t.start, .int .i64 t.speed, .slice av m cv] 45)).mono BX.out.size))
      have B2T := Lib.hid (hB.out.trans (((Below.refl wr.heap.size wr).alloc (Nat.le_refl _) (.cells #[.int .i64 t.obj, .int .i64 t.dev, .int .i64 t.start, .int .i64 t.speed, .slice av m cv] 45)).mono hB.out.size))
      have zW1 : bt < W1.heap.size := by rw [hW1, ← hbt]; simp
      have zW1' : W1.heap.size ≤ bt + 1 := by rw [hW1, ← hbt]; simp
      rw [← hW1, hbt] at PT ⊢
      rw [← hW1] at BT B2T
      have PX1 := Lib.hid (keepObj ((Below.refl wr.heap.size wr).alloc (Nat.le_refl _) (.cells #[.int .i64 t.obj, .int .i64 t.dev, .int .i64 t.start, .int .i64 t.speed, .slice av m cv] 45)) PX.out)
      rw [← hW1] at PX1
      clear hW1
      refine (stopsW_any S t v1 v2 _ _ _ _ W1 ((HS.out.net.keep BT.out (Nat.le_refl _)).mono (by omega)) ((HV.out.keep BT.out (Nat.le_refl _)).mono (by omega)) HFIT.out.vis HK.out hsz hg HFIT.out.speed HFIT.out.start HFIT.out.few HFIT.out.wait).mono ?_
      rintro e w3 ⟨hR, hb3⟩
      have BT3 := Lib.hid (BT.out.trans (hb3.mono BT.out.size))
      have B23 := Lib.hid (B2T.out.trans (hb3.mono B2T.out.size))
      have PT3 := Lib.hid (keepObj hb3 PT.out)
      have PX3 := Lib.hid (keepObj hb3 PX1.out)
      have hz3' := hb3.size
      clear hb3 t0 t1 t2 t3 t4 l0 l1 l2 l3 l4 l5
      cases hst : stopsS S t with
      | error c =>
        rw [hst] at hR
        obtain ⟨hc, rfl⟩ := hR
        have hc' : (c != 0) = true := by simpa using hc
        have HE := Lib.hid (show wayErr S = c from by
          have h1 := hE.out
          rw [HAT.out, hst] at h1
          unfold wayErr
          rw [h1, if_neg hc])
        clear hst
        go_wp2_with fail
        go_ret
        exact ⟨by (rw [HE.out]; first | done | rfl), BT3.out⟩
      | ok L =>
        rw [hst] at hR
        obtain ⟨vl, rfl, hO, hL256⟩ := hR
        obtain ⟨al, nl, cl, rfl⟩ := hO.val
        have hnl := hO.sl.len
        rw [List.length_map] at hnl
        have HNL := Lib.hid hnl
        have hRise := (stops_rise HK.out hsz hg HFIT.out hst).1
        have HR := Lib.hid hRise
        have hstart := HFIT.out.start
        have HSL := Lib.hid hO.sl
        have HA2 := Lib.hid (show wayErrT S S.trips = if L.all (fun x => inB (x.time + o) 0 1073741824) then wayErrT S (S.trips.drop (k + 1)) else 26 from by
          have h1 := hE.out
          rw [HAT.out, hst] at h1
          exact h1)
        rw [hnl] at hL256
        have t1 := obj_cell PT3.out 1
        simp at t1
        have zt1 := obj_lt PT3.out
        clear hO hnl hRise hst
        go_wp2_with fail
        go_loopw [33] (fun s33 wx => ∃ q : Nat, s33 = .int .i64 q ∧ q ≤ nl ∧ Hid (∀ i, i < q → inB (L[i]!.time + o) 0 1073741824 = true) ∧ Hid (Below w3.heap.size w3 wx)) (fun s33 _ => nl - (intOf s33).toNat)
        case atStart => exact ⟨0, rfl, Nat.zero_le _, fun i hi => absurd hi (Nat.not_lt_zero _), Below.refl _ _⟩
        case round =>
          obtain ⟨q, rfl, hq, hQ, hBq⟩ := hrel
          by_cases hlq : q < nl
          · have hql : q < L.length := by rw [HNL.out]; exact hlq
            obtain ⟨b2, off2, rfl, hb2, hcs⟩ := HSL.out.cells q hql
            have x0 : w3.cell? ⟨b2, off2 + q * 2, none⟩ = _ := hcs q hql 0 _ rfl
            have x1 : w3.cell? ⟨b2, off2 + q * 2 + 1, none⟩ = _ := hcs q hql 1 _ rfl
            have y1 := (hBq.out.cell (p := ⟨bt, 1, none⟩) zt1).trans t1
            rw [← hBq.out.cell (p := ⟨b2, _, none⟩) hb2] at x0 x1
            have zq := hBq.out.size
            have hzb2 : b2 < wr.heap.size := by omega
            have hzt2 : bt < wr.heap.size := by omega
            obtain ⟨x, hx⟩ : ∃ x, x = L[q]! := ⟨_, rfl⟩
            have hxm : L[q]! ∈ L := by rw [getElem!_pos L q hql]; exact List.getElem_mem hql
            have hxt := HR.out.2 _ hxm
            rw [← hx] at x0 x1 hxt
            have HX := Lib.hid hx
            obtain ⟨hx1, hx2⟩ := hxt
            have hsum : IntKind.i64.wrap (x.time + o) = x.time + o := IntWalk.i64_in _ (by omega)
            have hlk := lens_one (w := wr.alloc (.cells #[.int .i64 x.time, .int .i64 x.node] 51)) (((HI.out.keep B23.out).keep (hBq.out.mono (by omega))).keep (by (repeat (first | with_reducible exact Below.refl _ _ | with_reducible assumption | ((with_reducible refine Below.setCell ?_ ?_ _); rotate_left; focus (first | exact Nat.le_refl _ | omega | exact Below.size (by assumption) | (simp; done) | (simp; omega))) | ((with_reducible refine Below.alloc ?_ ?_ _); rotate_left; focus (first | exact Nat.le_refl _ | omega | exact Below.size (by assumption) | (simp; done) | (simp; omega))) | (with_reducible refine Below.drew ?_) | (with_reducible refine drewN_ ?_ _))))) t.dev _ HLO.out
            clear hcs hx hxm
            by_cases hin : inB (x.time + o) 0 1073741824 = true
            · go_wp2_with (go_at_call 25; refine (between_any _ _ _ _).mono ?_; rintro e w' ⟨rfl, rfl⟩)
              go_roundw
              case rel =>
                refine ⟨q + 1, by go_num, by omega, fun i hi => ?_, by have h := hBq.out; show Below _ _ _; (repeat (first | with_reducible exact Below.refl _ _ | with_reducible assumption | ((with_reducible refine Below.setCell ?_ ?_ _); rotate_left; focus (first | exact Nat.le_refl _ | omega | exact Below.size (by assumption) | (simp; done) | (simp; omega))) | ((with_reducible refine Below.alloc ?_ ?_ _); rotate_left; focus (first | exact Nat.le_refl _ | omega | exact Below.size (by assumption) | (simp; done) | (simp; omega))) | (with_reducible refine Below.drew ?_) | (with_reducible refine drewN_ ?_ _)))⟩
                rcases Nat.lt_succ_iff_lt_or_eq.1 hi with h1 | h1
                · exact hQ.out i h1
                · subst h1; rw [← HX.out]; exact hin
              case measure => simp [intOf]; omega
            · replace hin : inB (x.time + o) 0 1073741824 = false := by simpa using hin
              have HE := Lib.hid (show wayErr S = 26 from by
                have h1 := HA2.out
                rw [if_neg (not_all_at hql (by rw [← getElem!_pos L q hql, ← HX.out]; exact hin))] at h1
                unfold wayErr
                rw [h1]
                rfl)
              go_wp2_with (go_at_call 25; refine (between_any _ _ _ _).mono ?_; rintro e w' ⟨rfl, rfl⟩)
              go_ret
              exact ⟨by (rw [HE.out]; first | done | rfl), by have h := BT3.out.trans (hBq.out.mono BT3.out.size); (repeat (first | with_reducible exact Below.refl _ _ | with_reducible assumption | ((with_reducible refine Below.setCell ?_ ?_ _); rotate_left; focus (first | exact Nat.le_refl _ | omega | exact Below.size (by assumption) | (simp; done) | (simp; omega))) | ((with_reducible refine Below.alloc ?_ ?_ _); rotate_left; focus (first | exact Nat.le_refl _ | omega | exact Below.size (by assumption) | (simp; done) | (simp; omega))) | (with_reducible refine Below.drew ?_) | (with_reducible refine drewN_ ?_ _)))⟩
          · obtain rfl : q = nl := by omega
            have HE2 := Lib.hid (show wayErrT S S.trips = wayErrT S (S.trips.drop (k + 1)) from by
              have h1 := HA2.out
              rw [if_pos (all_at (fun i hi => by have := hQ.out i (by rw [← HNL.out]; exact hi); rw [getElem!_pos L i hi] at this; exact this))] at h1
              exact h1)
            go_wp2_with fail
            go_roundw
            case rel => exact ⟨k + 1, by go_num, by omega, HE2.out, by have h := B23.out.trans (hBq.out.mono B23.out.size); show Below _ _ _; (repeat (first | with_reducible exact Below.refl _ _ | with_reducible assumption | ((with_reducible refine Below.setCell ?_ ?_ _); rotate_left; focus (first | exact Nat.le_refl _ | omega | exact Below.size (by assumption) | (simp; done) | (simp; omega))) | ((with_reducible refine Below.alloc ?_ ?_ _); rotate_left; focus (first | exact Nat.le_refl _ | omega | exact Below.size (by assumption) | (simp; done) | (simp; omega))) | (with_reducible refine Below.drew ?_) | (with_reducible refine drewN_ ?_ _)))⟩
            case measure => simp [intOf]; omega
    · obtain rfl : k = n3 := by omega
      have HE0 := Lib.hid (show wayErrT S S.trips = 0 from by
        rw [hE.out, List.drop_eq_nil_of_le (by rw [HN3.out]; exact Nat.le_refl _)]; rfl)
      obtain ⟨wo, rfl⟩ : ∃ wo : World, wo = wr := ⟨_, rfl⟩
      go_wp2_with fail
      go_loopw [51] (fun s51 wr => ∃ k2 : Nat, s51 = .int .i64 k2 ∧ k2 ≤ n5 ∧ Hid (∀ i, i < k2 → sncIn S.clocks S.syncs[i]! = true) ∧ Hid (Below wo.heap.size wo wr)) (fun s51 _ => n5 - (intOf s51).toNat)
      case atStart => exact ⟨0, rfl, Nat.zero_le _, fun i hi => absurd hi (Nat.not_lt_zero _), Below.refl _ _⟩
      case round =>
        obtain ⟨k2, rfl, hk2, hQ, hB3⟩ := hrel
        have BX3 := Lib.hid (BX.out.trans (hB3.out.mono BX.out.size))
        by_cases hlt2 : k2 < n5
        · have hkl2 : k2 < S.syncs.length := by rw [HN5.out]; exact hlt2
          obtain ⟨b, off, rfl, hb, hcs⟩ := HS.out.syncs.cells k2 hkl2
          have t0 : w.cell? ⟨b, off + k2 * 6, none⟩ = _ := hcs k2 hkl2 0 _ rfl
          have t1 : w.cell? ⟨b, off + k2 * 6 + 1, none⟩ = _ := hcs k2 hkl2 1 _ rfl
          have t2 : w.cell? ⟨b, off + k2 * 6 + 2, none⟩ = _ := hcs k2 hkl2 2 _ rfl
          have t3 : w.cell? ⟨b, off + k2 * 6 + 3, none⟩ = _ := hcs k2 hkl2 3 _ rfl
          have t4 : w.cell? ⟨b, off + k2 * 6 + 4, none⟩ = _ := hcs k2 hkl2 4 _ rfl
          have t5 : w.cell? ⟨b, off + k2 * 6 + 5, none⟩ = _ := hcs k2 hkl2 5 _ rfl
          rw [← BX3.out.cell (p := ⟨b, _, none⟩) hb] at t0 t1 t2 t3 t4 t5
          have hzb : b < wr.heap.size := by have := BX3.out.size; omega
          obtain ⟨g0, g1, g2, g3, g4, g5, g6⟩ := HC.out.snc k2 hkl2
          have hlo := off_look HC.out S.syncs[k2]!.dev
          rw [if_pos g0] at hlo
          have hob := off_bound HC.out S.syncs[k2]!.dev
          obtain ⟨x, hx⟩ : ∃ x, x = S.syncs[k2]! := ⟨_, rfl⟩
          rw [← hx] at t0 t1 t2 t3 t4 t5 g1 g2 g3 g4 g5 g6 hlo hob
          have HX := Lib.hid hx
          obtain ⟨o, ho⟩ : ∃ o, o = offOf S.clocks x.dev := ⟨_, rfl⟩
          rw [← ho] at hlo hob
          obtain ⟨ho1, ho2⟩ := hob
          have hsn : sncIn S.clocks x = (inB (x.sent + x.out + o) 0 1073741824 && inB (x.sent + x.out + x.back) 0 1073741824) := by rw [ho]; rfl
          have HSN := Lib.hid hsn
          have hlk := lens_one (w := wr.alloc (.cells #[.int .i64 x.dev, .int .i64 x.sent, .int .i64 x.out, .int .i64 x.back, .int .i64 x.so, .int .i64 x.sb] 62)) (((HI.out.keep hB.out).keep hB3.out).keep (by (repeat (first | with_reducible exact Below.refl _ _ | with_reducible assumption | ((with_reducible refine Below.setCell ?_ ?_ _); rotate_left; focus (first | exact Nat.le_refl _ | omega | exact Below.size (by assumption) | (simp; done) | (simp; omega))) | ((with_reducible refine Below.alloc ?_ ?_ _); rotate_left; focus (first | exact Nat.le_refl _ | omega | exact Below.size (by assumption) | (simp; done) | (simp; omega))) | (with_reducible refine Below.drew ?_) | (with_reducible refine drewN_ ?_ _))))) x.dev _ hlo
          clear hcs hx g0 g1 g5 g6 hlo ho hsn
          obtain ⟨g21, g22⟩ := g2
          obtain ⟨g31, g32⟩ := g3
          obtain ⟨g41, g42⟩ := g4
          have s1 : IntKind.i64.wrap (x.sent + x.out) = x.sent + x.out := IntWalk.i64_in _ (by omega)
          have s2 : IntKind.i64.wrap (x.sent + x.out + o) = x.sent + x.out + o := IntWalk.i64_in _ (by omega)
          have s3 : IntKind.i64.wrap (x.sent + x.out + x.back) = x.sent + x.out + x.back := IntWalk.i64_in _ (by omega)
          by_cases hi1 : inB (x.sent + x.out + o) 0 1073741824 = true
          · by_cases hi2 : inB (x.sent + x.out + x.back) 0 1073741824 = true
            · go_wp2_with (go_at_call 25; refine (between_any _ _ _ _).mono ?_; rintro e w' ⟨rfl, rfl⟩)
              go_roundw
              case rel =>
                refine ⟨k2 + 1, by go_num, by omega, fun i hi => ?_, by have h := hB3.out; show Below _ _ _; (repeat (first | with_reducible exact Below.refl _ _ | with_reducible assumption | ((with_reducible refine Below.setCell ?_ ?_ _); rotate_left; focus (first | exact Nat.le_refl _ | omega | exact Below.size (by assumption) | (simp; done) | (simp; omega))) | ((with_reducible refine Below.alloc ?_ ?_ _); rotate_left; focus (first | exact Nat.le_refl _ | omega | exact Below.size (by assumption) | (simp; done) | (simp; omega))) | (with_reducible refine Below.drew ?_) | (with_reducible refine drewN_ ?_ _)))⟩
                rcases Nat.lt_succ_iff_lt_or_eq.1 hi with h1 | h1
                · exact hQ.out i h1
                · subst h1; rw [← HX.out, HSN.out, hi1, hi2]; rfl
              case measure => simp [intOf]; omega
            · replace hi2 : inB (x.sent + x.out + x.back) 0 1073741824 = false := by simpa using hi2
              have HE := Lib.hid (show wayErr S = 26 from by
                unfold wayErr
                rw [if_pos HE0.out, if_neg (not_all_at hkl2 (by rw [← getElem!_pos S.syncs k2 hkl2, ← HX.out, HSN.out, hi1, hi2]; rfl))])
              go_wp2_with (go_at_call 25; refine (between_any _ _ _ _).mono ?_; rintro e w' ⟨rfl, rfl⟩)
              go_ret
              exact ⟨by (rw [HE.out]; first | done | rfl), by have h := BX3.out; (repeat (first | with_reducible exact Below.refl _ _ | with_reducible assumption | ((with_reducible refine Below.setCell ?_ ?_ _); rotate_left; focus (first | exact Nat.le_refl _ | omega | exact Below.size (by assumption) | (simp; done) | (simp; omega))) | ((with_reducible refine Below.alloc ?_ ?_ _); rotate_left; focus (first | exact Nat.le_refl _ | omega | exact Below.size (by assumption) | (simp; done) | (simp; omega))) | (with_reducible refine Below.drew ?_) | (with_reducible refine drewN_ ?_ _)))⟩
          · replace hi1 : inB (x.sent + x.out + o) 0 1073741824 = false := by simpa using hi1
            have HE := Lib.hid (show wayErr S = 26 from by
              unfold wayErr
              rw [if_pos HE0.out, if_neg (not_all_at hkl2 (by rw [← getElem!_pos S.syncs k2 hkl2, ← HX.out, HSN.out, hi1]; rfl))])
            go_wp2_with (go_at_call 25; refine (between_any _ _ _ _).mono ?_; rintro e w' ⟨rfl, rfl⟩)
            go_ret
            exact ⟨by (rw [HE.out]; first | done | rfl), by have h := BX3.out; (repeat (first | with_reducible exact Below.refl _ _ | with_reducible assumption | ((with_reducible refine Below.setCell ?_ ?_ _); rotate_left; focus (first | exact Nat.le_refl _ | omega | exact Below.size (by assumption) | (simp; done) | (simp; omega))) | ((with_reducible refine Below.alloc ?_ ?_ _); rotate_left; focus (first | exact Nat.le_refl _ | omega | exact Below.size (by assumption) | (simp; done) | (simp; omega))) | (with_reducible refine Below.drew ?_) | (with_reducible refine drewN_ ?_ _)))⟩
        · obtain rfl : k2 = n5 := by omega
          have HE := Lib.hid (show wayErr S = 0 from by
            unfold wayErr
            rw [if_pos HE0.out, if_pos (all_at (fun i hi => by have := hQ.out i (by rw [← HN5.out]; exact hi); rw [getElem!_pos S.syncs i hi] at this; exact this))])
          go_wp2_with fail
          go_ret
          exact ⟨by (rw [HE.out]; first | done | rfl), BX3.out⟩
end Go.Proofs.Ythkhgfdjdpfoiaa
