/-
  The law of visits, walked.
-/
import Derived.Test.YthkhgfdjdpfoiaaP12
import Derived.Test.YthkhgfdjdpfoiaaP11
set_option linter.unusedSimpArgs false
set_option linter.unusedVariables false
namespace Go.Proofs.Ythkhgfdjdpfoiaa
open Go Go.RowKit Go.Vi
set_option maxRecDepth 100000 in
set_option maxHeartbeats 20000000 in
theorem law_of (x : Sto) (vp vq vd va : Value) (w : World) (hX : StoAt w.heap.size w vp vq vd va x)
    (hR : x.short = true → ∀ W : World, StoAt W.heap.size W vp vq vd va x → Calls Try.prog 6 #[x.v vp vq vd va] W fun e w' => RightOut x W.heap.size e w' ∧ Below W.heap.size W w') :
    Calls Try.prog 3 #[x.v vp vq vd va] w fun e w' => e = .returned (.bool true) ∧ Below w.heap.size w w' := by
  obtain ⟨ad, nd, cd, rfl, _, _, _⟩ := hX.dr.open
  obtain ⟨aa, na, ca, rfl, _, _, _⟩ := hX.wa.open
  obtain ⟨ap, np, cp, rfl, _, _, _⟩ := hX.sp.open
  obtain ⟨aq, nq, cq, rfl, _, _, _⟩ := hX.ln.open
  have HX := Lib.hid hX
  have HR := Lib.hid hR
  clear hX hR
  have P0 := Lib.hid (obj_last w (.cells #[.slice ap np cp, .slice aq nq cq, .slice ad nd cd, .slice aa na ca, .int .u8 x.gap, .bool x.un] 29))
  go_enter Try.func3, Try.ntmps3
  go_wp2_with fail
  refine (known_any _).mono ?_
  rintro e w2 ⟨rfl, hb2⟩
  have P2 := Lib.hid (keepObj hb2 P0.out)
  have B2 := Lib.hid (from_ (w := w) hb2 (by (repeat (first | with_reducible exact Below.refl _ _ | with_reducible assumption | ((with_reducible refine Below.setCell ?_ ?_ _); rotate_left; focus (first | exact Nat.le_refl _ | omega | exact Below.size (by assumption) | (simp; done) | (simp; omega))) | ((with_reducible refine Below.alloc ?_ ?_ _); rotate_left; focus (first | exact Nat.le_refl _ | omega | exact Below.size (by assumption) | (simp; done) | (simp; omega))) | (with_reducible refine Below.drew ?_) | (with_reducible refine drewN_ ?_ _)))))
  have HX2 := Lib.hid (HX.out.later B2.out)
  have p0 := obj_cell P2.out 0
  have p1 := obj_cell P2.out 1
  have p2 := obj_cell P2.out 2
  have p3 := obj_cell P2.out 3
  have p4 := obj_cell P2.out 4
  have p5 := obj_cell P2.out 5
  simp at p0 p1 p2 p3 p4 p5
  clear hb2
  go_wp2_with fail
  refine (short_any x _ _ _ _ _ HX2.out).mono ?_
  rintro e w3 ⟨rfl, hb3⟩
  have P3 := Lib.hid (keepObj hb3 P2.out)
  have B3 := Lib.hid (B2.out.trans (hb3.mono B2.out.size))
  have HX3 := Lib.hid (HX2.out.later hb3)
  clear hb3 p0 p1 p2 p3 p4 p5
  cases hsh : x.short with
  | false =>
    clear hsh
    go_wp2_with fail
    refine (known_any _).mono ?_
    rintro e w4 ⟨rfl, hb4⟩
    have B4 := Lib.hid (B3.out.trans (hb4.mono B3.out.size))
    clear hb4
    go_wp2_with fail
    go_ret
    exact ⟨rfl, B4.out⟩
  | true =>
    have HRS := Lib.hid (HR.out hsh)
    clear hsh
    have p0 := obj_cell P3.out 0
    have p1 := obj_cell P3.out 1
    have p2 := obj_cell P3.out 2
    have p3 := obj_cell P3.out 3
    have p4 := obj_cell P3.out 4
    have p5 := obj_cell P3.out 5
    simp at p0 p1 p2 p3 p4 p5
    go_wp2_with fail
    refine (HRS.out _ HX3.out).mono ?_
    rintro e w4 ⟨hO, hb4⟩
    have B4 := Lib.hid (B3.out.trans (hb4.mono B3.out.size))
    obtain ⟨v1, v2, v3, v4, v5, S, ok, rfl, hS, hSm, hok, _⟩ := hO
    obtain ⟨a1, a2, a3, a4, a5, n1, n2, n3, n4, n5, c1, c2, c3, c4, c5, rfl, rfl, rfl, rfl, rfl⟩ := hS.vals
    have HS := Lib.hid hS
    have HOK := Lib.hid hok
    have HSM := Lib.hid hSm
    clear hb4 hS hok hSm p0 p1 p2 p3 p4 p5
    cases ok with
    | false =>
      go_wp2_with fail
      go_ret
      exact ⟨rfl, by have h := B4.out; (repeat (first | with_reducible exact Below.refl _ _ | with_reducible assumption | ((with_reducible refine Below.setCell ?_ ?_ _); rotate_left; focus (first | exact Nat.le_refl _ | omega | exact Below.size (by assumption) | (simp; done) | (simp; omega))) | ((with_reducible refine Below.alloc ?_ ?_ _); rotate_left; focus (first | exact Nat.le_refl _ | omega | exact Below.size (by assumption) | (simp; done) | (simp; omega))) | (with_reducible refine Below.drew ?_) | (with_reducible refine drewN_ ?_ _)))⟩
    | true =>
      obtain ⟨hFit, hWay⟩ := HOK.out rfl
      have HF := Lib.hid hFit
      have HW := Lib.hid hWay
      have HK := Lib.hid (netOK_of hFit.net)
      have hn3 : S.trips.length = n3 := by
        obtain ⟨a, n, c, e, h, _⟩ := HS.out.trips.open
        injection e with e1 e2 e3
        rw [h, e2]
      have HN3 := Lib.hid hn3
      have hnt := HSM.out.trips
      rw [hn3] at hnt
      clear hFit hWay hn3
      go_wp2_with fail
      obtain ⟨W5, hW5⟩ : ∃ W, W = w4.alloc (.cells #[.slice a1 n1 c1, .slice a2 n2 c2, .int .i64 S.gap, .slice a3 n3 c3, .slice a4 n4 c4, .slice a5 n5 c5] 40) := ⟨_, rfl⟩
      have PS := Lib.hid (obj_last w4 (.cells #[.slice a1 n1 c1, .slice a2 n2 c2, .int .i64 S.gap, .slice a3 n3 c3, .slice a4 n4 c4, .slice a5 n5 c5] 40))
      have BS := Lib.hid ((Below.refl w4.heap.size w4).alloc (Nat.le_refl _) (.cells #[.slice a1 n1 c1, .slice a2 n2 c2, .int .i64 S.gap, .slice a3 n3 c3, .slice a4 n4 c4, .slice a5 n5 c5] 40))
      obtain ⟨bs, hbs⟩ : ∃ z, w4.heap.size = z := ⟨_, rfl⟩
      rw [hbs] at PS ⊢
      rw [← hW5] at PS BS ⊢
      have HS5 := Lib.hid (HS.out.later BS.out)
      have B5 := Lib.hid (B4.out.trans (BS.out.mono B4.out.size))
      clear hW5 hbs HS BS
      go_loopw [5] (fun s5 wx => ∃ i : Nat, s5 = .int .i64 i ∧ i ≤ n3 ∧ Hid (Below W5.heap.size W5 wx)) (fun s5 _ => n3 - (intOf s5).toNat)
      case atStart => exact ⟨0, rfl, Nat.zero_le _, Below.refl _ _⟩
      case round =>
        obtain ⟨i, rfl, hi, hB⟩ := hrel
        have PX := Lib.hid (keepObj hB.out PS.out)
        have s0 := obj_cell PX.out 0
        have s1 := obj_cell PX.out 1
        have s2 := obj_cell PX.out 2
        have s3 := obj_cell PX.out 3
        have s4 := obj_cell PX.out 4
        have s5 := obj_cell PX.out 5
        simp at s0 s1 s2 s3 s4 s5
        have zs := obj_lt PX.out
        by_cases hlt : i < n3
        · have hil : i < S.trips.length := by rw [HN3.out]; exact hlt
          obtain ⟨b, off, rfl, hb, hcs⟩ := HS5.out.trips.at i hil
          obtain ⟨v, hv, t0, t1, t2, t3, t4⟩ := hcs i hil
          rw [← hB.out.cell (p := ⟨b, _, none⟩) hb] at t0 t1 t2 t3 t4
          have hzb : b < wr.heap.size := by have := hB.out.size; omega
          have hfit := tripFit_of (HF.out.trips i hil)
          have hte := (tripErr_zero (HF.out.trips i hil)).2.2.2.2.2.2
          have hve := visErr_zero _ _ hte
          obtain ⟨t, ht⟩ : ∃ t, t = S.trips[i]! := ⟨_, rfl⟩
          rw [← ht] at t0 t1 t2 t3 hfit hve hv
          have HT := Lib.hid ht
          obtain ⟨av, m, cv, rfl, hm, _, _⟩ := hv.open
          rw [List.length_map] at hm
          have HM := Lib.hid hm
          have HV := Lib.hid hv
          have HFIT := Lib.hid hfit
          have HVE := Lib.hid hve
          have hk1 : (0 : Int) ≤ (i : Int) := by omega
          have hk2 : (i : Int) < (n3 : Int) := by omega
          have hm0 : 0 < m := by rw [← hm]; exact hfit.vis
          have hm32 : m ≤ 32 := by rw [← hm]; exact hfit.few
          have HSW := Lib.hid (HS5.out.later hB.out)
          clear hcs hte hfit hve hv ht hm
          go_wp2_with fail
          obtain ⟨W6, hW6⟩ : ∃ W, W = wr.alloc (.cells #[.int .i64 t.obj, .int .i64 t.dev, .int .i64 t.start, .int .i64 t.speed, .slice av m cv] 45) := ⟨_, rfl⟩
          have PT := Lib.hid (obj_last wr (.cells #[.int .i64 t.obj, .int .i64 t.dev, .int .i64 t.start, .int .i64 t.speed, .slice av m cv] 45))
          have BT := Lib.hid ((Below.refl wr.heap.size wr).alloc (Nat.le_refl _) (.cells #[.int .i64 t.obj, .int .i64 t.dev, .int .i64 t.start, .int .i64 t.speed, .slice av m cv] 45))
          obtain ⟨bt, hbt⟩ : ∃ z, wr.heap.size = z := ⟨_, rfl⟩
          rw [hbt] at PT ⊢
          rw [← hW6] at PT BT ⊢
          clear hW6 hbt
          refine (stopsF_any S _ _ _ _ _ i W6 (HSW.out.later BT.out) HF.out HW.out hil).mono ?_
          rintro e w7 ⟨⟨L, vl, hL, rfl, hOL, hL256⟩, hb7⟩
          rw [← HT.out] at hL
          obtain ⟨hinv, rest, hLr⟩ := inv_start hL
          have hrise := (stops_rise HK.out HF.out.few HF.out.gap HFIT.out hL).1
          have hstart := HFIT.out.start
          obtain ⟨gl, cl, rfl⟩ : ∃ g cap, vl = .slice (some ⟨g, 0, none⟩) L.length cap := by
            rcases hOL.shape with ⟨_, e⟩ | ⟨g, cap, e, _⟩
            · rw [List.map_eq_nil_iff] at e; rw [e] at hLr; cases hLr
            · rw [List.length_map] at e; exact ⟨g, cap, e⟩
          have hl0 : 0 < L.length := by rw [hLr]; simp
          have hL0 : L[0]! = ⟨t.start, t.vis[0]!.node⟩ := by rw [hLr]; rfl
          obtain ⟨nl, hnl⟩ : ∃ z, L.length = z := ⟨_, rfl⟩
          rw [hnl] at hOL hL256 hl0 ⊢
          have HNL := Lib.hid hnl
          have HINV := Lib.hid hinv
          have HRI := Lib.hid hrise
          have HOL := Lib.hid hOL
          have HL0 := Lib.hid hL0
          have PT7 := Lib.hid (keepObj hb7 PT.out)
          have B67 := Lib.hid (BT.out.trans (hb7.mono BT.out.size))
          have B57 := Lib.hid (hB.out.trans (B67.out.mono hB.out.size))
          have PX7 := Lib.hid (keepObj B67.out PX.out)
          have HV7 := Lib.hid (HV.out.keep B57.out (Nat.le_refl _))
          have HCELL : Hid (∀ W, Below w7.heap.size w7 W → ∀ q, q < nl → W.cell? ⟨gl, q * 2, none⟩ = some (.int .i64 L[q]!.time) ∧ W.cell? ⟨gl, q * 2 + 1, none⟩ = some (.int .i64 L[q]!.node)) := fun W hW q hq => by
            have hqL : q < L.length := by rw [HNL.out]; exact hq
            have e1 := (HOL.out.keep hW).cell q (by rw [List.length_map]; exact hqL) 0 (by omega)
            have e2 := (HOL.out.keep hW).cell q (by rw [List.length_map]; exact hqL) 1 (by omega)
            simp only [List.getElem_map, Stp.cs, List.getElem?_cons_succ, List.getElem?_cons_zero, Nat.add_zero] at e1 e2
            rw [getElem!_pos L q hqL]
            exact ⟨e1, e2⟩
          have HTIME : Hid (∀ q, q < nl → t.start ≤ L[q]!.time ∧ L[q]!.time ≤ t.start + 6906307411968) := fun q hq => by
            have hqL : q < L.length := by rw [HNL.out]; exact hq
            exact HRI.out.2 _ (by rw [getElem!_pos L q hqL]; exact List.getElem_mem hqL)
          have zgl := (HOL.out.blk gl rfl).2
          clear hb7 hOL hL hinv hrise hLr hnl hL0 t0 t1 t2 t3 t4 s0 s1 s2 s3 s4 s5 PT BT hzb
          obtain ⟨Wr, rfl⟩ : ∃ z : World, z = wr := ⟨_, rfl⟩
          obtain ⟨bv, ov, rfl, hbv, hcv⟩ := HV7.out.cells 0 (by rw [HM.out]; exact hm0)
          have HCV : Hid (∀ W, Below w7.heap.size w7 W → ∀ k, k < m → W.cell? ⟨bv, ov + k * 2, none⟩ = some (.int .i64 t.vis[k]!.node) ∧ W.cell? ⟨bv, ov + k * 2 + 1, none⟩ = some (.int .i64 t.vis[k]!.wait)) := fun W hW k hk => by
            have hz := B57.out.size
            have e1 : w7.cell? ⟨bv, ov + k * 2 + 0, none⟩ = _ := hcv k (by rw [HM.out]; exact hk) 0 _ rfl
            have e2 : w7.cell? ⟨bv, ov + k * 2 + 1, none⟩ = _ := hcv k (by rw [HM.out]; exact hk) 1 _ rfl
            exact ⟨(hW.cell (p := ⟨bv, _, none⟩) (by show bv < _; omega)).trans e1, (hW.cell (p := ⟨bv, _, none⟩) (by show bv < _; omega)).trans e2⟩
          have zbv : bv < w7.heap.size := by have := B57.out.size; omega
          clear hcv
          have l0 := (HCELL.out w7 (Below.refl _ _) 0 hl0).1
          have l1 := (HCELL.out w7 (Below.refl _ _) 0 hl0).2
          have c0 := (HCV.out w7 (Below.refl _ _) 0 hm0).1
          rw [HL0.out] at l0 l1
          simp at l0 l1 c0
          obtain ⟨nd0', hnd0⟩ : ∃ z, t.vis[0]!.node = z := ⟨_, rfl⟩
          have hnd0' : (t.vis[0]?.getD default).node = nd0' := by rw [← hnd0]; simp
          (try rw [hnd0'] at l1 c0)
          (try rw [hnd0] at l1 c0)
          clear hnd0 hnd0'
          have r0 := obj_cell PT7.out 2
          have r4 := obj_cell PT7.out 4
          simp at r0 r4
          have zt7 := obj_lt PT7.out
          have hml : (0 : Int) < (m : Int) := by omega
          have hll : (0 : Int) < (nl : Int) := by omega
          have hl00 : ((nl : Int) == 0) = false := by simp; omega
          have hl01 : (nl == 0) = false := by simp; omega
          go_wp2_with fail
          go_quiet (fail)
          go_wp2_with fail
          clear l0 l1 c0 r0 r4 zt7
          go_loopw [9, 10] (fun s9 s10 wx => ∃ k at_ : Nat, s9 = .int .i64 at_ ∧ s10 = .int .i64 k ∧ k ≤ m ∧ Hid (Inv S t L k at_) ∧ Hid (Below w7.heap.size w7 wx)) (fun _ s10 _ => m - (intOf s10).toNat)
          case atStart => exact ⟨0, 0, rfl, rfl, Nat.zero_le _, HINV.out, by show Below _ _ _; (repeat (first | with_reducible exact Below.refl _ _ | with_reducible assumption | ((with_reducible refine Below.setCell ?_ ?_ _); rotate_left; focus (first | exact Nat.le_refl _ | omega | exact Below.size (by assumption) | (simp; done) | (simp; omega))) | ((with_reducible refine Below.alloc ?_ ?_ _); rotate_left; focus (first | exact Nat.le_refl _ | omega | exact Below.size (by assumption) | (simp; done) | (simp; omega))) | (with_reducible refine Below.drew ?_) | (with_reducible refine drewN_ ?_ _)))⟩
          case round =>
            obtain ⟨k, at_, rfl, rfl, hk, hIk, hBk⟩ := hrel
            have PTk := Lib.hid (keepObj hBk.out PT7.out)
            have r4 := obj_cell PTk.out 4
            simp at r4
            have zt7 := obj_lt PTk.out
            have hatl := inv_lt hIk.out
            rw [HNL.out] at hatl
            by_cases hkm : k < m
            · have hkv : k < t.vis.length := by rw [HM.out]; exact hkm
              obtain ⟨e1, e2, e3, e4⟩ := HVE.out k hkv
              have hwt := inB_iff.1 e2
              obtain ⟨p, c, i1, i2, i3, i4, i5, i6, i7⟩ := inv_step HF.out.gap.1 hkv hwt.1 (fun j hj => e4 j hj) hIk.out
              rw [HNL.out] at i2
              have I3 := Lib.hid i3
              have I4 := Lib.hid i4
              have I5 := Lib.hid i5
              have I6 := Lib.hid i6
              have I7 := Lib.hid i7
              have htp := HTIME.out p (by omega)
              obtain ⟨vn, hvn⟩ : ∃ z, t.vis[k]!.node = z := ⟨_, rfl⟩
              obtain ⟨vw, hvw⟩ : ∃ z, t.vis[k]!.wait = z := ⟨_, rfl⟩
              obtain ⟨tp, htpe⟩ : ∃ z, L[p]!.time = z := ⟨_, rfl⟩
              have HCVk : Hid (∀ W, Below w7.heap.size w7 W → W.cell? ⟨bv, ov + k * 2, none⟩ = some (.int .i64 vn) ∧ W.cell? ⟨bv, ov + k * 2 + 1, none⟩ = some (.int .i64 vw)) := fun W hW => by
                have h := HCV.out W hW k hkm
                rw [hvn, hvw] at h
                exact h
              rw [hvw] at hwt I5 I6
              rw [hvn] at I3 I4
              rw [htpe] at I5 I6 htp
              have HTPE := Lib.hid htpe
              have HKM := Lib.hid hkm
              have hk3 : (0 : Int) ≤ (k : Int) := by omega
              have hk4 : (k : Int) < (m : Int) := by omega
              have hsum : IntKind.i64.wrap (tp + vw) = tp + vw := IntWalk.i64_in _ (by omega)
              clear e1 e2 e3 e4 i3 i4 i5 i6 i7 hvn hvw htpe hIk
              obtain ⟨Wk, rfl⟩ : ∃ z : World, z = wr := ⟨_, rfl⟩
              go_wp2_with fail
              go_loopw [9] (fun s9 wx => ∃ q : Nat, s9 = .int .i64 q ∧ at_ ≤ q ∧ q ≤ p ∧ Hid (Below w7.heap.size w7 wx)) (fun s9 _ => p - (intOf s9).toNat)
              case atStart => exact ⟨at_, rfl, Nat.le_refl _, i1, hBk.out⟩
              case round =>
                obtain ⟨q, rfl, hq1, hq2, hBq⟩ := hrel
                have PTq := Lib.hid (keepObj hBq.out PT7.out)
                have r4 := obj_cell PTq.out 4
                simp at r4
                have zt7 := obj_lt PTq.out
                have hqn : q < nl := by omega
                obtain ⟨x0, x1⟩ := HCELL.out wr hBq.out q hqn
                obtain ⟨y0, y1⟩ := HCVk.out wr hBq.out
                have hBz := hBq.out.size
                have zgl' : gl < wr.heap.size := by omega
                have zbv' : bv < wr.heap.size := by omega
                have hq3 : (0 : Int) ≤ (q : Int) := by omega
                have hq4 : (q : Int) < (nl : Int) := by omega
                by_cases hqp : q < p
                · have hne := I3.out q hq1 hqp
                  obtain ⟨u, hu⟩ : ∃ z, L[q]!.node = z := ⟨_, rfl⟩
                  rw [hu] at x1 hne
                  have hne' : (u != vn) = true := by simpa using hne
                  clear hne hu x0
                  go_wp2_with fail
                  go_quiet (fail)
                  go_wp2_with fail
                  go_roundw
                  case rel => exact ⟨q + 1, by go_num, by omega, by omega, by have h := hBq.out; show Below _ _ _; (repeat (first | with_reducible exact Below.refl _ _ | with_reducible assumption | ((with_reducible refine Below.setCell ?_ ?_ _); rotate_left; focus (first | exact Nat.le_refl _ | omega | exact Below.size (by assumption) | (simp; done) | (simp; omega))) | ((with_reducible refine Below.alloc ?_ ?_ _); rotate_left; focus (first | exact Nat.le_refl _ | omega | exact Below.size (by assumption) | (simp; done) | (simp; omega))) | (with_reducible refine Below.drew ?_) | (with_reducible refine drewN_ ?_ _)))⟩
                  case measure => simp [intOf]; omega
                · obtain rfl : q = p := by omega
                  have heq := I4.out q (Nat.le_refl _) (by omega)
                  rw [heq] at x1
                  rw [HTPE.out] at x0
                  have hne' : (vn != vn) = false := by simp
                  have hqe : ((q : Int) == (nl : Int)) = false := by simp; omega
                  have hqe' : (q == nl) = false := by simp; omega
                  clear heq
                  go_wp2_with fail
                  go_quiet (fail)
                  go_wp2_with fail
                  clear x0 x1 y0 y1 hq1 hq2 hqn hq3 hq4 hqe hqe' r4 zt7
                  obtain ⟨Wq, rfl⟩ : ∃ z : World, z = wr := ⟨_, rfl⟩
                  go_loopw [9] (fun s9 wx => ∃ r : Nat, s9 = .int .i64 r ∧ q ≤ r ∧ r ≤ q + c ∧ Hid (Below w7.heap.size w7 wx)) (fun s9 _ => q + c - (intOf s9).toNat)
                  case atStart => exact ⟨q, rfl, Nat.le_refl _, by omega, by have h := hBq.out; show Below _ _ _; (repeat (first | with_reducible exact Below.refl _ _ | with_reducible assumption | ((with_reducible refine Below.setCell ?_ ?_ _); rotate_left; focus (first | exact Nat.le_refl _ | omega | exact Below.size (by assumption) | (simp; done) | (simp; omega))) | ((with_reducible refine Below.alloc ?_ ?_ _); rotate_left; focus (first | exact Nat.le_refl _ | omega | exact Below.size (by assumption) | (simp; done) | (simp; omega))) | (with_reducible refine Below.drew ?_) | (with_reducible refine drewN_ ?_ _)))⟩
                  case round =>
                    obtain ⟨r, rfl, hr1, hr2, hBr⟩ := hrel
                    have PTr := Lib.hid (keepObj hBr.out PT7.out)
                    have r4 := obj_cell PTr.out 4
                    simp at r4
                    have zt7 := obj_lt PTr.out
                    have hrn : r < nl := by omega
                    obtain ⟨x0, x1⟩ := HCELL.out wr hBr.out r hrn
                    obtain ⟨y0, y1⟩ := HCVk.out wr hBr.out
                    have heq := I4.out r hr1 hr2
                    rw [heq] at x1
                    have hBz2 := hBr.out.size
                    have zgl2 : gl < wr.heap.size := by omega
                    have zbv2 : bv < wr.heap.size := by omega
                    have hr3 : (0 : Int) ≤ (r : Int) := by omega
                    have hr4 : (r : Int) < (nl : Int) := by omega
                    have hre : ((r : Int) == (nl : Int)) = false := by simp; omega
                    have hre' : (r == nl) = false := by simp; omega
                    by_cases hrc : r < q + c
                    · have hlt2 := I5.out r hr1 hrc
                      obtain ⟨u, hu⟩ : ∃ z, L[r]!.time = z := ⟨_, rfl⟩
                      rw [hu] at x0 hlt2
                      clear hu heq
                      go_wp2_with fail
                      go_quiet (fail)
                      go_wp2_with fail
                      go_quiet (fail)
                      go_wp2_with fail
                      go_roundw
                      case rel => exact ⟨r + 1, by go_num, by omega, by omega, by have h := hBr.out; show Below _ _ _; (repeat (first | with_reducible exact Below.refl _ _ | with_reducible assumption | ((with_reducible refine Below.setCell ?_ ?_ _); rotate_left; focus (first | exact Nat.le_refl _ | omega | exact Below.size (by assumption) | (simp; done) | (simp; omega))) | ((with_reducible refine Below.alloc ?_ ?_ _); rotate_left; focus (first | exact Nat.le_refl _ | omega | exact Below.size (by assumption) | (simp; done) | (simp; omega))) | (with_reducible refine Below.drew ?_) | (with_reducible refine drewN_ ?_ _)))⟩
                      case measure => simp [intOf]; omega
                    · have hrq : q + c = r := by omega
                      have h6 : L[r]!.time = tp + vw := by rw [← hrq]; exact I6.out
                      have HI7 := Lib.hid (show Inv S t L (k + 1) r by rw [← hrq]; exact I7.out)
                      rw [h6] at x0
                      have hlt2 : ¬(tp + vw < tp + vw) := by omega
                      have hee : (tp + vw != tp + vw) = false := by simp
                      clear heq h6 hrq hrc hr2
                      go_wp2_with fail
                      go_quiet (fail)
                      go_wp2_with fail
                      go_quiet (fail)
                      go_wp2_with fail
                      go_roundw
                      case rel => exact ⟨k + 1, r, rfl, by go_num, by have := HKM.out; omega, HI7.out, by have h := hBr.out; show Below _ _ _; (repeat (first | with_reducible exact Below.refl _ _ | with_reducible assumption | ((with_reducible refine Below.setCell ?_ ?_ _); rotate_left; focus (first | exact Nat.le_refl _ | omega | exact Below.size (by assumption) | (simp; done) | (simp; omega))) | ((with_reducible refine Below.alloc ?_ ?_ _); rotate_left; focus (first | exact Nat.le_refl _ | omega | exact Below.size (by assumption) | (simp; done) | (simp; omega))) | (with_reducible refine Below.drew ?_) | (with_reducible refine drewN_ ?_ _)))⟩
                      case measure =>
                        have := HKM.out
                        simp [intOf]; omega
            · obtain rfl : k = m := by omega
              obtain ⟨i1, i2⟩ := inv_end (by rw [HM.out]; exact Nat.le_refl _) hIk.out
              rw [HNL.out] at i1
              obtain ⟨j, hj⟩ : ∃ j, k = j + 1 := ⟨k - 1, by omega⟩
              have hnode := i2 j hj
              have hjv : j < t.vis.length := by rw [HM.out]; omega
              have hsome := (HVE.out j hjv).1
              obtain ⟨vn, hvn⟩ : ∃ z, t.vis[j]!.node = z := ⟨_, rfl⟩
              rw [hvn] at hnode hsome
              obtain ⟨x0, x1⟩ := HCELL.out wr hBk.out at_ hatl
              rw [hnode] at x1
              have g1 : (nl : Int) - 1 = (at_ : Int) := by omega
              have g2 : IntKind.i64.wrap (at_ : Int) = (at_ : Int) := IntWalk.i64_in _ (by omega)
              have g3 : (0 : Int) ≤ (at_ : Int) := by omega
              have g4 : (at_ : Int) < (nl : Int) := by omega
              have g5 : ((at_ : Int) != (at_ : Int)) = false := by simp
              have hkm' : ¬(k : Int) < (k : Int) := by omega
              have PXk := Lib.hid (keepObj hBk.out PX7.out)
              have s0 := obj_cell PXk.out 0
              have s1 := obj_cell PXk.out 1
              simp at s0 s1
              have zs7 := obj_lt PXk.out
              have hBz := hBk.out.size
              have zgl' : gl < wr.heap.size := by omega
              have HNWk := Lib.hid ((HSW.out.net.keep (B67.out.trans (hBk.out.mono B67.out.size)) (Nat.le_refl _)).mono (B' := wr.heap.size) (by have := B67.out.size; omega))
              obtain ⟨nd, hnd⟩ : ∃ z, (nodeOf S.net.nodes vn).getD nd0 = z := ⟨_, rfl⟩
              have HND := Lib.hid hnd
              have HSO := Lib.hid hsome
              clear i1 i2 hj hnode hvn hnd hsome x0 hIk
              go_wp2_with fail
              go_cut [13] (fun s13 wx => s13 = .bool true ∧ Hid (Below wr.heap.size wr wx))
              case first =>
                go_region_held3 (fun w' => w'.cell? ⟨bs, 0, none⟩ = some (.slice a1 n1 c1) ∧ w'.cell? ⟨bs, 1, none⟩ = some (.slice a2 n2 c2) ∧ w'.cell? ⟨gl, at_ * 2 + 1, none⟩ = some (.int .i64 vn))
                  ((go_split_ands; refine ⟨?_, ?_, ?_⟩ <;> first | with_reducible assumption | exact ((show Below wr.heap.size wr _ from (by (repeat (first | with_reducible exact Below.refl _ _ | with_reducible assumption | ((with_reducible refine Below.setCell ?_ ?_ _); rotate_left; focus (first | exact Nat.le_refl _ | omega | exact Below.size (by assumption) | (simp; done) | (simp; omega))) | ((with_reducible refine Below.alloc ?_ ?_ _); rotate_left; focus (first | exact Nat.le_refl _ | omega | exact Below.size (by assumption) | (simp; done) | (simp; omega))) | (with_reducible refine Below.drew ?_) | (with_reducible refine drewN_ ?_ _))))).cell (p := ⟨_, _, none⟩) (by first | with_reducible assumption | omega)).trans (by with_reducible assumption)))
                  ((go_at_call 8; refine (node_any S.net _ _ _ _ (HNWk.out.later (by (repeat (first | with_reducible exact Below.refl _ _ | with_reducible assumption | ((with_reducible refine Below.setCell ?_ ?_ _); rotate_left; focus (first | exact Nat.le_refl _ | omega | exact Below.size (by assumption) | (simp; done) | (simp; omega))) | ((with_reducible refine Below.alloc ?_ ?_ _); rotate_left; focus (first | exact Nat.le_refl _ | omega | exact Below.size (by assumption) | (simp; done) | (simp; omega))) | (with_reducible refine Below.drew ?_) | (with_reducible refine drewN_ ?_ _))))) HK.out.nodes (by have := HK.out.few; omega)).mono ?_; rintro e w9 ⟨rfl, hb9⟩; rw [HND.out, HSO.out]; have B9 := from_ (w := wr) hb9 (by (repeat (first | with_reducible exact Below.refl _ _ | with_reducible assumption | ((with_reducible refine Below.setCell ?_ ?_ _); rotate_left; focus (first | exact Nat.le_refl _ | omega | exact Below.size (by assumption) | (simp; done) | (simp; omega))) | ((with_reducible refine Below.alloc ?_ ?_ _); rotate_left; focus (first | exact Nat.le_refl _ | omega | exact Below.size (by assumption) | (simp; done) | (simp; omega))) | (with_reducible refine Below.drew ?_) | (with_reducible refine drewN_ ?_ _)))); (first | (have LL := keepObj hb9 (b := wr.heap.size) (o := (.cells #[.int .i64 0, .int .i64 0, .int .i64 0] 55)) (by first | exact obj_last wr _ | exact obj_drew (obj_last wr _) | exact obj_last wr.drew _ | exact obj_drew (obj_last wr.drew _)); have y0 := obj_cell LL 0; have y1 := obj_cell LL 1; have y2 := obj_cell LL 2; have f0 := obj_free LL 0; have f1 := obj_free LL 1; have f2 := obj_free LL 2; simp at y0 y1 y2; clear LL) | skip); clear hb9))
                all_goals
                  go_wp2_with fail
                  go_meet
                  exact ⟨rfl, by show Below _ _ _; (repeat (first | with_reducible exact Below.refl _ _ | with_reducible assumption | ((with_reducible refine Below.setCell ?_ ?_ _); rotate_left; focus (first | exact Nat.le_refl _ | omega | exact Below.size (by assumption) | (simp; done) | (simp; omega))) | ((with_reducible refine Below.alloc ?_ ?_ _); rotate_left; focus (first | exact Nat.le_refl _ | omega | exact Below.size (by assumption) | (simp; done) | (simp; omega))) | (with_reducible refine Below.drew ?_) | (with_reducible refine drewN_ ?_ _)))⟩
              case rest =>
                obtain ⟨rfl, hBn⟩ := hcut
                go_wp2_with fail
                go_roundw
                case rel => exact ⟨i + 1, by go_num, by omega, by have h := B57.out.trans ((hBk.out.trans (hBn.out.mono hBk.out.size)).mono B57.out.size); show Below _ _ _; (repeat (first | with_reducible exact Below.refl _ _ | with_reducible assumption | ((with_reducible refine Below.setCell ?_ ?_ _); rotate_left; focus (first | exact Nat.le_refl _ | omega | exact Below.size (by assumption) | (simp; done) | (simp; omega))) | ((with_reducible refine Below.alloc ?_ ?_ _); rotate_left; focus (first | exact Nat.le_refl _ | omega | exact Below.size (by assumption) | (simp; done) | (simp; omega))) | (with_reducible refine Below.drew ?_) | (with_reducible refine drewN_ ?_ _)))⟩
                case measure => simp [intOf]; omega
        · obtain rfl : i = n3 := by omega
          have hlt' : ¬(i : Int) < (i : Int) := by omega
          go_wp2_with fail
          go_ret
          exact ⟨rfl, B5.out.trans (hB.out.mono B5.out.size)⟩
end Go.Proofs.Ythkhgfdjdpfoiaa
