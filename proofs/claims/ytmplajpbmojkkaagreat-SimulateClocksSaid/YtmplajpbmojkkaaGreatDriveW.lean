/-
  simulate's drive, walked with the closure of stops.
-/
import Derived.Test.YtmplajpbmojkkaaGreatTrpA
import Derived.Deep.RegionHeld3
import Derived.Deep.DeepCutAuto
set_option linter.unusedSimpArgs false
set_option linter.unusedVariables false
namespace Go.Proofs.YtmplajpbmojkkaaGreat
open Go Go.RowKit Go.Vi
set_option maxRecDepth 100000 in
set_option maxHeartbeats 8000000 in
theorem driveS_any (S : Scn) (t : Trp) (v1 v2 v3 v4 v5 vt v0 : Value) {C bo bs : Nat} {L0 : List Stp} (w : World) (hN : NetAt C w v1 v2 S.net) (hV : Sl C w 2 vt (t.vis.map Vis.cs)) (hs : w.heap[bs]? = some (.cells #[v1, v2, .int .i64 S.gap, v3, v4, v5] 40)) (hO : OAt w C bo v0 L0)
    (hbs : bs ≠ bo) (hbr : ∀ g, v0.ownBlock = some g → g ≠ bs) (hC : C ≤ bo) (hK : NetOK S.net) (hsz : S.net.roads.length ≤ 100) (hg : 1 ≤ S.gap ∧ S.gap ≤ 1073741824) (hsp : 1 ≤ t.speed ∧ t.speed ≤ 1048576) (hst : 0 ≤ t.start ∧ t.start ≤ 1073741824) (hvl : t.vis.length ≤ 32)
    (hw : ∀ k, k < t.vis.length → 0 ≤ t.vis[k]!.wait ∧ t.vis[k]!.wait ≤ 1073741824) (hL0 : L0.length ≤ 1000) :
    Calls Tryz.prog 45 #[S.v v1 v2 v3 v4 v5, t.v vt, .func (.func 46) #[] #[.pointer (some ⟨bs, 0, none⟩), .pointer (some ⟨bo, 0, none⟩)]] w fun e w' => DriveRes (tour S t.speed none t.start t.vis) C bo v0 L0 w e w' := by
  obtain ⟨av, m, cv, rfl, hm, hm1, hm2⟩ := hV.open
  rw [List.length_map] at hm
  rw [hm] at hvl
  have hCz : C ≤ w.heap.size := by have := obj_lt hO.var; omega
  have hrow := fun g hg => (hO.own.blk g hg).1
  have hrow2 := fun g hg => (hO.own.blk g hg).2
  have hzo := obj_lt hO.var
  have hzs := obj_lt hs
  have HN := Lib.hid hN
  have HV := Lib.hid hV
  have HO := Lib.hid hO
  have HS := Lib.hid hs
  have HM := Lib.hid hm
  have HK := Lib.hid hK
  have HW := Lib.hid hw
  have HR1 := Lib.hid hrow
  have HR2 := Lib.hid hrow2
  have HBR := Lib.hid hbr
  clear hN hV hO hs hm hm1 hm2 hK hw hrow hrow2 hbr
  have P0 := Lib.hid (obj_old (o' := .cells #[.int .i64 t.obj, .int .i64 t.dev, .int .i64 t.start, .int .i64 t.speed, .slice av m cv] 61) (obj_last w (.cells #[v1, v2, .int .i64 S.gap, v3, v4, v5] 40)))
  have T0 := Lib.hid (obj_last2 w (.cells #[v1, v2, .int .i64 S.gap, v3, v4, v5] 40) (.cells #[.int .i64 t.obj, .int .i64 t.dev, .int .i64 t.start, .int .i64 t.speed, .slice av m cv] 61))
  have B0 := Lib.hid (((Below.refl w.heap.size w).alloc (Nat.le_refl _) (.cells #[v1, v2, .int .i64 S.gap, v3, v4, v5] 40)).alloc (by simp) (.cells #[.int .i64 t.obj, .int .i64 t.dev, .int .i64 t.start, .int .i64 t.speed, .slice av m cv] 61))
  go_enter Tryz.func45, Tryz.ntmps45
  go_wp2
  obtain ⟨W0, hW0⟩ : ∃ W0, W0 = (w.alloc (.cells #[v1, v2, .int .i64 S.gap, v3, v4, v5] 40)).alloc (.cells #[.int .i64 t.obj, .int .i64 t.dev, .int .i64 t.start, .int .i64 t.speed, .slice av m cv] 61) := ⟨_, rfl⟩
  have hz0 : W0.heap.size = w.heap.size + 2 := by rw [hW0]; simp
  rw [← hW0] at P0 T0 B0 ⊢
  clear hW0
  have S0 := Lib.hid (keepObj B0.out HS.out)
  have BC := Lib.hid ((B0.out.mono hCz))
  have D0 := Lib.hid (⟨QF.refl _ _ _, HO.out.keep B0.out, .inl rfl⟩ : DM C W0 bo v0 v0 L0 W0)
  go_loopw [7, 23] (fun s7 s23 wx => ∃ (i : Nat) (now : Int) (Pre : List Stp) (v : Value) (L : List Stp), s23 = .int .i64 i ∧ s7 = .int .i64 now ∧ i ≤ m ∧ 0 ≤ now ∧ now ≤ 1073741824 + i * 217969590272 ∧ L.length ≤ 1258 + 210 * i ∧ Hid (DM C W0 bo v0 v L wx) ∧ Hid (tour S t.speed none t.start t.vis = cont (tour S t.speed (prevOf t.vis i) now (t.vis.drop i)) Pre) ∧ Hid (Full L0 Pre L)) (fun _ s23 _ => m - (intOf s23).toNat)
  case atStart => exact ⟨0, t.start, [], v0, L0, rfl, rfl, Nat.zero_le _, hst.1, by simp; exact hst.2, by omega, D0.out, (cont_nil _).symm, Full.nil _⟩
  case round =>
    obtain ⟨i, now, Pre, v, L, rfl, rfl, hi, hn0, hn1, hLl, hD, hT, hF⟩ := hrel
    have hP := hD.out.block P0.out (by omega) (fun g hg => by have := HR2.out g hg; omega)
    have hTr := hD.out.block T0.out (by omega) (fun g hg => by have := HR2.out g hg; omega)
    have p0 := obj_cell hP 0
    have p1 := obj_cell hP 1
    have p2 := obj_cell hP 2
    have r3 := obj_cell hTr 3
    have r4 := obj_cell hTr 4
    simp at p0 p1 p2 r3 r4
    have zp := obj_lt hP
    have zt := obj_lt hTr
    have BX := Lib.hid (hD.out.low BC.out (by omega) hC HR1.out)
    have hzx := hD.out.qf.size
    have PX := Lib.hid hP
    have TX := Lib.hid hTr
    clear hP hTr
    by_cases hlt : i < m
    · have hil : i < t.vis.length := by rw [HM.out]; exact hlt
      obtain ⟨b, off, rfl, hb, hcs⟩ := HV.out.cells i hil
      have x0 : w.cell? ⟨b, off + i * 2, none⟩ = _ := hcs i hil 0 _ rfl
      have x1 : w.cell? ⟨b, off + i * 2 + 1, none⟩ = _ := hcs i hil 1 _ rfl
      rw [← BX.out.cell (p := ⟨b, _, none⟩) hb] at x0 x1
      have hzb : b < wr.heap.size := by omega
      have hwi := HW.out i hil
      have hta := tour_at (S := S) (speed := t.speed) hil (prevOf t.vis i) now
      obtain ⟨x, hx⟩ : ∃ x, x = t.vis[i]! := ⟨_, rfl⟩
      rw [← hx] at x0 x1 hwi hta
      have HX := Lib.hid hx
      have HTA := Lib.hid hta
      clear hx hta
      obtain ⟨hw1, hw2⟩ := hwi
      by_cases hi0 : i = 0
      · have hi0' : decide (0 < i) = false := by rw [hi0]; rfl
        have HI0 := Lib.hid hi0
        have hk1 : (0 : Int) ≤ (i : Int) := by omega
        have hk2 : (i : Int) < (m : Int) := by omega
        clear hi0
        by_cases hwz : 0 < x.wait
        · go_wp2_with fail
          have hzs0 : bs < W0.heap.size := obj_lt S0.out
          have zbo := obj_lt hD.out.oat.var
          have hzq := hD.out.qf.size
          have hb1 : Below wr.heap.size wr (wr.alloc (.cells #[.int .i64 x.node, .int .i64 x.wait] 92)) := (Below.refl wr.heap.size wr).alloc (Nat.le_refl _) _
          have HSb := Lib.hid (obj_old (o' := .cells #[.int .i64 x.node, .int .i64 x.wait] 92) (hD.out.block S0.out hbs (fun g hg => HBR.out g hg)))
          have HD1 := Lib.hid (hD.out.keep hb1)
          have HOFF := Lib.hid (hD.out.off hzs0 (fun g hg => HBR.out g hg))
          have HROW := Lib.hid (fun (g : Nat) (hg : v.ownBlock = some g) => (hD.out.oat.own.blk g hg).2)
          clear hb1
          refine (yieldWait_any x.node x.node now x.wait S.gap v1 v2 v3 v4 v5 v _ HSb.out HD1.out.oat (by omega) (by simp; omega) hbs HOFF.out ⟨by omega, by omega⟩ ⟨by omega, by omega⟩ hg).mono ?_
          rintro e w2 ⟨rfl, v', L', hWt, hO1, hF1, hW1⟩
          have HVB := Lib.hid ((hF1.block wr.heap.size (by simp) (by omega) (fun e => by have := HROW.out _ e.symm; omega)).trans (obj_last wr _))
          have vb1 := obj_cell HVB.out 1
          simp at vb1
          have zvb := obj_lt HVB.out
          have HD2 := Lib.hid (HD1.out.yield hO1 hF1 hW1)
          have HWT := Lib.hid hWt
          clear hO1 hF1 hW1 hWt
          go_wp2_with fail
          go_roundw
          case rel =>
            have q := tour_next hT.out HTA.out HX.out (l := []) (by rw [HI0.out]; rfl)
            have hl1 := HWT.out.2.2
            refine ⟨i + 1, now + x.wait, _, v', L', by go_num, rfl, by omega, by omega, by omega, by omega, HD2.out, q, (show Full L0 (Pre ++ moves now []) L by simpa [moves] using hF.out).wait HWT.out (fun h => HWT.out.2.1 (by omega))⟩
          case measure => simp [intOf]; omega
        · go_wp2_with fail
          go_roundw
          case rel =>
            have q := tour_next hT.out HTA.out HX.out (l := []) (by rw [HI0.out]; rfl)
            have hxw : x.wait = 0 := by omega
            rw [waits_none (by omega), List.append_nil, hxw, Int.add_zero] at q
            refine ⟨i + 1, now, _, v, L, by go_num, rfl, by omega, by omega, by omega, by omega, hD.out.keep (by (repeat (first | with_reducible exact Below.refl _ _ | with_reducible assumption | ((with_reducible refine Below.setCell ?_ ?_ _); rotate_left; focus (first | exact Nat.le_refl _ | omega | exact Below.size (by assumption) | (simp; done) | (simp; omega))) | ((with_reducible refine Below.alloc ?_ ?_ _); rotate_left; focus (first | exact Nat.le_refl _ | omega | exact Below.size (by assumption) | (simp; done) | (simp; omega))) | (with_reducible refine Below.drew ?_) | (with_reducible refine drewN_ ?_ _)))), q, (show Full L0 (Pre ++ moves now []) L by simpa [moves] using hF.out)⟩
          case measure => simp [intOf]; omega
      · have hip : 0 < i := by omega
        obtain ⟨j, hj⟩ : ∃ j, i = j + 1 := ⟨i - 1, by omega⟩
        have hjm : j < m := by omega
        have hjl : j < t.vis.length := by rw [HM.out]; exact hjm
        have ej : ((i : Int) - 1) = (j : Int) := by omega
        have ew : IntKind.i64.wrap (j : Int) = (j : Int) := IntWalk.i64_in _ (by omega)
        have hj1 : (0 : Int) ≤ (j : Int) := by omega
        have hj2 : (j : Int) < (m : Int) := by omega
        have hk1 : (0 : Int) ≤ (i : Int) := by omega
        have hk2 : (i : Int) < (m : Int) := by omega
        have hk3 : (0 : Int) < (i : Int) := by omega
        have y0 : w.cell? ⟨b, off + j * 2, none⟩ = _ := hcs j hjl 0 _ rfl
        rw [← BX.out.cell (p := ⟨b, _, none⟩) hb] at y0
        obtain ⟨y, hy⟩ : ∃ y, y = t.vis[j]! := ⟨_, rfl⟩
        rw [← hy] at y0
        have HPREV := Lib.hid (show prevOf t.vis i = some y.node by rw [hj, hy]; rfl)
        clear hi0 hj hy
        go_wp2_with fail
        obtain ⟨W1, hW1⟩ : ∃ W1, W1 = wr.alloc (.cells #[.int .i64 x.node, .int .i64 x.wait] 92) := ⟨_, rfl⟩
        obtain ⟨bv, hbv⟩ : ∃ bv, wr.heap.size = bv := ⟨_, rfl⟩
        have PV := Lib.hid (obj_last wr (.cells #[.int .i64 x.node, .int .i64 x.wait] 92))
        have BV := Lib.hid ((Below.refl wr.heap.size wr).alloc (Nat.le_refl _) (.cells #[.int .i64 x.node, .int .i64 x.wait] 92))
        have zW1 : bv < W1.heap.size ∧ W1.heap.size ≤ bv + 1 := by rw [hW1, ← hbv]; simp
        rw [← hW1, hbv] at PV ⊢
        rw [← hW1] at BV
        have q0 := (BV.out.cell (p := ⟨w.heap.size, 0, none⟩) zp).trans p0
        have q1 := (BV.out.cell (p := ⟨w.heap.size, 1, none⟩) zp).trans p1
        have q4 := (BV.out.cell (p := ⟨w.heap.size + 1, 4, none⟩) zt).trans r4
        have q5 := (BV.out.cell (p := ⟨b, off + j * 2, none⟩) hzb).trans y0
        have q6 : W1.cell? ⟨bv, 0, none⟩ = some (.int .i64 x.node) := by have := obj_cell PV.out 0; simpa using this
        have zp1 : w.heap.size < W1.heap.size := by omega
        have zt1 : w.heap.size + 1 < W1.heap.size := by omega
        have zb1 : b < W1.heap.size := by omega
        have zv1 : bv < W1.heap.size := by omega
        have zW1' := zW1.2
        clear zW1
        have PX1 := Lib.hid (keepObj BV.out PX.out)
        have TX1 := Lib.hid (keepObj BV.out TX.out)
        have HROW := Lib.hid (fun (g : Nat) (hg : v.ownBlock = some g) => (show g < bv by have := (hD.out.oat.own.blk g hg).2; omega))
        have HOF := Lib.hid (fun (c : Nat) (hc : c < W0.heap.size) (hcv : ∀ g, v0.ownBlock = some g → g ≠ c) => hD.out.off hc hcv)
        have D1 := Lib.hid (hD.out.keep BV.out)
        have HNW := Lib.hid (((HN.out.keep BX.out (Nat.le_refl _)).keep BV.out (by omega)).mono (B' := W1.heap.size) (by omega))
        have zbo : bo < bv := by have := obj_lt hD.out.oat.var; omega
        clear hW1 hbv p0 p1 p2 r3 r4 x0 x1 y0 hcs
        by_cases hex : ∃ R l, IsRoute S.net y.node x.node R l
        · obtain ⟨R, len, hR⟩ := hex
          have HR := Lib.hid hR
          have HRD := Lib.hid (route_rd hR HK.out)
          have hfew := route_few hR HK.out hsz
          have HTM := Lib.hid (hop_time HK.out hR hsp)
          clear hR
          go_cut [10, 11] (fun s10 s11 wx => ∃ (b10 : Nat) (vn vr : Value), s10 = .pointer (some ⟨b10, 0, none⟩) ∧ s11 = .int .i64 0 ∧ W1.heap.size ≤ b10 ∧ Hid (wx.heap[b10]? = some (.cells #[vn, vr, .int .i64 len] 174)) ∧ Hid (Ow W1.heap.size wx 3 1 vn ((y.node :: R.map Hp.dst).map i1)) ∧ Hid (Ow W1.heap.size wx 3 1 vr ((R.map Hp.road).map i1)) ∧ Hid (Below W1.heap.size W1 wx))
          case first =>
            go_region_held3 (fun w' => w'.cell? ⟨w.heap.size, 0, none⟩ = some v1 ∧ w'.cell? ⟨w.heap.size, 1, none⟩ = some v2 ∧ w'.cell? ⟨w.heap.size + 1, 4, none⟩ = some (.slice (some ⟨b, off, none⟩) m cv) ∧ w'.cell? ⟨b, off + j * 2, none⟩ = some (.int .i64 y.node) ∧ w'.cell? ⟨bv, 0, none⟩ = some (.int .i64 x.node))
              (((go_split_ands; refine ⟨?_, ?_, ?_, ?_, ?_⟩ <;> first | with_reducible assumption | exact ((show Below W1.heap.size W1 _ from (by (repeat (first | with_reducible exact Below.refl _ _ | with_reducible assumption | ((with_reducible refine Below.setCell ?_ ?_ _); rotate_left; focus (first | exact Nat.le_refl _ | omega | exact Below.size (by assumption) | (simp; done) | (simp; omega))) | ((with_reducible refine Below.alloc ?_ ?_ _); rotate_left; focus (first | exact Nat.le_refl _ | omega | exact Below.size (by assumption) | (simp; done) | (simp; omega))) | (with_reducible refine Below.drew ?_) | (with_reducible refine drewN_ ?_ _))))).cell (p := ⟨_, _, none⟩) (by first | with_reducible assumption | omega)).trans (by with_reducible assumption))))
              ((go_at_call 63; refine (findRoute_ok S.net y.node x.node v1 v2 _ (HNW.out.later (by (repeat (first | with_reducible exact Below.refl _ _ | with_reducible assumption | ((with_reducible refine Below.setCell ?_ ?_ _); rotate_left; focus (first | exact Nat.le_refl _ | omega | exact Below.size (by assumption) | (simp; done) | (simp; omega))) | ((with_reducible refine Below.alloc ?_ ?_ _); rotate_left; focus (first | exact Nat.le_refl _ | omega | exact Below.size (by assumption) | (simp; done) | (simp; omega))) | (with_reducible refine Below.drew ?_) | (with_reducible refine drewN_ ?_ _))))) HK.out hsz HR.out).mono ?_; rintro e w2 ⟨⟨vn, vr, rfl, hS1, hS2⟩, hb2⟩; obtain ⟨an, nn, cn, rfl⟩ := hS1.val; obtain ⟨ar, nr, cr, rfl⟩ := hS2.val; have B2 := from_ (w := W1) hb2 (by (repeat (first | with_reducible exact Below.refl _ _ | with_reducible assumption | ((with_reducible refine Below.setCell ?_ ?_ _); rotate_left; focus (first | exact Nat.le_refl _ | omega | exact Below.size (by assumption) | (simp; done) | (simp; omega))) | ((with_reducible refine Below.alloc ?_ ?_ _); rotate_left; focus (first | exact Nat.le_refl _ | omega | exact Below.size (by assumption) | (simp; done) | (simp; omega))) | (with_reducible refine Below.drew ?_) | (with_reducible refine drewN_ ?_ _)))); (first | (guard_hyp hb2 : Below W1.drew.heap.size W1.drew w2) | (guard_hyp hb2 : Below W1.heap.size W1 w2) | (have LL := keepObj hb2 (b := W1.heap.size) (o := (.cells #[.slice none 0 0, .slice none 0 0, .int .i64 0] 174)) (by first | exact obj_last W1 (.cells #[.slice none 0 0, .slice none 0 0, .int .i64 0] 174) | exact obj_drew (obj_last W1 (.cells #[.slice none 0 0, .slice none 0 0, .int .i64 0] 174)) | exact obj_last W1.drew (.cells #[.slice none 0 0, .slice none 0 0, .int .i64 0] 174) | exact obj_drew (obj_last W1.drew (.cells #[.slice none 0 0, .slice none 0 0, .int .i64 0] 174))); have l0 := obj_cell LL 0; have l1 := obj_cell LL 1; have l2 := obj_cell LL 2; have m0 := obj_free LL 0; have m1 := obj_free LL 1; have m2 := obj_free LL 2; simp at l0 l1 l2; have zl := obj_lt LL)); have zz2 := hb2.size; (try simp at zz2); clear hb2))
            all_goals
              go_wp2_with fail
              go_meet
              refine ⟨_, .slice an nn cn, .slice ar nr cr, rfl, rfl, by omega, ?_, ?_, ?_, by show Below _ _ _; (repeat (first | with_reducible exact Below.refl _ _ | with_reducible assumption | ((with_reducible refine Below.setCell ?_ ?_ _); rotate_left; focus (first | exact Nat.le_refl _ | omega | exact Below.size (by assumption) | (simp; done) | (simp; omega))) | ((with_reducible refine Below.alloc ?_ ?_ _); rotate_left; focus (first | exact Nat.le_refl _ | omega | exact Below.size (by assumption) | (simp; done) | (simp; omega))) | (with_reducible refine Below.drew ?_) | (with_reducible refine drewN_ ?_ _)))⟩
              · show _ = _
                first
                  | with_reducible exact obj_last _ _
                  | with_reducible exact obj_set3 LL
              · show Ow _ _ _ _ _ _
                first
                  | with_reducible exact own_alloc hS1 (by first | exact Nat.le_refl _ | (simp; done))
                  | with_reducible exact own_set3 hS1 (by simp) (by simp)
              · show Ow _ _ _ _ _ _
                first
                  | with_reducible exact own_alloc hS2 (by first | exact Nat.le_refl _ | (simp; done))
                  | with_reducible exact own_set3 hS2 (by simp) (by simp)
          case rest =>
            obtain ⟨b10, vn, vr, rfl, rfl, hb10, hRB, hVN, hVR, hBc⟩ := hcut
            obtain ⟨an, nn, cn, rfl⟩ := hVN.out.val
            obtain ⟨ar, nr, cr, rfl⟩ := hVR.out.val
            have hnn := hVN.out.sl.len
            have hnr := hVR.out.sl.len
            rw [List.length_map] at hnn hnr
            rw [List.length_map] at hnr
            rw [hnr] at hfew
            have HNN := Lib.hid hnn
            have HNR := Lib.hid hnr
            have rr1 := obj_cell hRB.out 1
            simp at rr1
            have zrb := obj_lt hRB.out
            have zc1 := hBc.out.size
            have D2 := Lib.hid (D1.out.keep hBc.out)
            have PC := Lib.hid (keepObj hBc.out PX1.out)
            have TC := Lib.hid (keepObj hBc.out TX1.out)
            have VC := Lib.hid (keepObj hBc.out PV.out)
            clear hnn hnr q0 q1 q4 q5 q6
            go_wp2_with fail
            go_loopw [7, 50] (fun s7 s50 wx => ∃ (k : Nat) (nk : Int) (vk : Value) (Lk : List Stp), s50 = .int .i64 k ∧ s7 = .int .i64 nk ∧ k ≤ nr ∧ now ≤ nk ∧ nk ≤ now + k * 1073741824 ∧ Lk.length ≤ L.length + k ∧ Hid (nk = gone now ((hopsT S t.speed R).take k)) ∧ Hid (∀ q, q < k → hopTime S.net t.speed R[q]!.road ≤ S.gap) ∧ Hid (DM C wc bo v vk Lk wx) ∧ Hid (Full L0 (Pre ++ moves now ((hopsT S t.speed R).take k)) Lk)) (fun _ s50 _ => nr - (intOf s50).toNat)
            case atStart => exact ⟨0, now, v, L, rfl, rfl, Nat.zero_le _, by omega, by omega, by omega, rfl, fun q hq => absurd hq (Nat.not_lt_zero _), ⟨QF.refl _ _ _, D2.out.oat, .inl rfl⟩, by show Full _ _ _; simpa [moves] using hF.out⟩
            case round =>
              obtain ⟨k, nk, vk, Lk, rfl, rfl, hk, hnk1, hnk2, hLk, hNK, hGP, hDk, hFk⟩ := hrel
              have DK := Lib.hid (D2.out.trans hDk.out)
              have hPk := hDk.out.block PC.out (by omega) (HOF.out _ (by omega) (fun g hg => by have := HR2.out g hg; omega))
              have hTk := hDk.out.block TC.out (by omega) (HOF.out _ (by omega) (fun g hg => by have := HR2.out g hg; omega))
              have hRk := hDk.out.block hRB.out (by omega) (fun g hg => by have := HROW.out g hg; omega)
              have hVk := hDk.out.block VC.out (by omega) (fun g hg => by have := HROW.out g hg; omega)
              have p0 := obj_cell hPk 0
              have p1 := obj_cell hPk 1
              have p2 := obj_cell hPk 2
              have r3 := obj_cell hTk 3
              have g0 := obj_cell hRk 0
              have vv0 := obj_cell hVk 0
              have vv1 := obj_cell hVk 1
              simp at p0 p1 p2 r3 g0 vv0 vv1
              have zp' := obj_lt hPk
              have zt' := obj_lt hTk
              have zr' := obj_lt hRk
              have zv' := obj_lt hVk
              have zw' := hDk.out.qf.size
              have BXk := Lib.hid (DK.out.low BC.out (by omega) hC HR1.out)
              clear hPk hTk hRk hVk
              by_cases hlt : k < nr
              · have hkR : k < R.length := by rw [HNR.out]; exact hlt
                obtain ⟨gr, rfl, hgr1, hgr2, hcr⟩ := int_own hVR.out k (by rw [List.length_map]; exact hkR)
                obtain ⟨gn, rfl, hgn1, hgn2, hcn⟩ := int_own hVN.out k (by simp; omega)
                have er := hcr k (by rw [List.length_map]; exact hkR)
                have en := hcn k (by simp; omega)
                have em := hcn (k + 1) (by simp; omega)
                rw [← cell_blk (hDk.out.qf.block gr hgr2 (by omega) (fun e => by have := HROW.out _ e.symm; omega))] at er
                rw [← cell_blk (hDk.out.qf.block gn hgn2 (by omega) (fun e => by have := HROW.out _ e.symm; omega))] at en em
                have zgr : gr < wr.heap.size := by omega
                have zgn : gn < wr.heap.size := by omega
                have eR : (R.map Hp.road)[k]! = R[k]!.road := by rw [getElem!_pos _ _ (by rw [List.length_map]; exact hkR), getElem!_pos R k hkR, List.getElem_map]
                have eN : (y.node :: R.map Hp.dst)[k + 1]! = R[k]!.dst := by
                  rw [getElem!_pos _ _ (by simp; omega), getElem!_pos R k hkR, List.getElem_cons_succ, List.getElem_map]
                rw [eR] at er
                rw [eN] at em
                obtain ⟨u, hu⟩ : ∃ u, u = hpmOf S t.speed y.node R k := ⟨_, rfl⟩
                have hu1 : R[k]!.road = u.road := by rw [hu]; rfl
                have hu2 : (y.node :: R.map Hp.dst)[k]! = u.src := by rw [hu]; rfl
                have hu3 : R[k]!.dst = u.dst := by rw [hu]; rfl
                have hu4 : hopTime S.net t.speed R[k]!.road = u.time := by rw [hu]; rfl
                have hRk := List.getElem_mem hkR
                rw [← getElem!_pos R k hkR] at hRk
                have hmv := moves_step S t.speed now R hkR
                rw [hu3, hu4, ← hNK.out] at hmv
                have htm := HTM.out _ hRk
                rw [hu4] at htm
                obtain ⟨r, hrm, hro, _⟩ := HRD.out _ hRk
                rw [hu1] at er hro
                rw [hu2] at en
                rw [hu3] at em
                have hrz := roadErr_zero (HK.out.road r hrm).2
                have hu5 : rdTime t.speed r = u.time := by rw [← hu4, hu1]; unfold hopTime; rw [hro]; rfl
                have hrid : u.road ≠ 0 := by
                  have h1 := (HK.out.road r hrm).1
                  have h2 := roadOf_id hro
                  omega
                have HRO := Lib.hid hro
                have HU4 := Lib.hid hu4
                have HMV := Lib.hid hmv
                obtain ⟨hl1, hl2⟩ := hrz.1
                obtain ⟨hn1, hn2⟩ := hrz.2.1
                obtain ⟨mm, hm⟩ : ∃ mm, min t.speed r.lim = mm := ⟨_, rfl⟩
                have hm1 : 1 ≤ mm ∧ mm ≤ 1048576 := by omega
                have hu5' : (r.len + mm - 1).tdiv mm = u.time := by rw [← hm]; exact hu5
                have hmz : (mm == 0) = false := by simp; omega
                obtain ⟨hm1a, hm1b⟩ := hm1
                have ht := tdiv_time r.len mm hn1 hm1a
                rw [hu5'] at ht
                obtain ⟨ht1, ht2⟩ := ht
                have hmz2 : ¬mm = 0 := by omega
                have hwt : IntKind.i64.wrap u.time = u.time := IntWalk.i64_in _ (by omega)
                have hk1 : (0 : Int) ≤ (k : Int) := by omega
                have hk2 : (k : Int) < (nr : Int) := by omega
                have hk3 : (0 : Int) ≤ (k : Int) + 1 := by omega
                have hk4 : (k : Int) + 1 < (nn : Int) := by have h1 := HNN.out; have h2 := HNR.out; simp at h1; omega
                have hk5 : k < nn := by omega
                have hk6 : (k : Int) < (nn : Int) := by omega
                have hk7 : IntKind.i64.wrap ((k : Int) + 1) = (k : Int) + 1 := IntWalk.i64_in _ (by omega)
                have hk8 : k + 1 < nn := by omega
                have HNI := Lib.hid ((HN.out.keep BXk.out (Nat.le_refl _)).mono (B' := wr.heap.size) (by omega))
                clear hcr hcn eR eN hu hu1 hu2 hu3 hu4 hu5 hRk hmv htm hrm hro hrz
                go_wp2_with (go_at_call 64; refine (road_any S.net v1 v2 _ _ (HNI.out.later (by (repeat (first | with_reducible exact Below.refl _ _ | with_reducible assumption | ((with_reducible refine Below.setCell ?_ ?_ _); rotate_left; focus (first | exact Nat.le_refl _ | omega | exact Below.size (by assumption) | (simp; done) | (simp; omega))) | ((with_reducible refine Below.alloc ?_ ?_ _); rotate_left; focus (first | exact Nat.le_refl _ | omega | exact Below.size (by assumption) | (simp; done) | (simp; omega))) | (with_reducible refine Below.drew ?_) | (with_reducible refine drewN_ ?_ _))))) HK.out.roads (by have := HK.out.few; omega)).mono ?_; rintro e w3 ⟨rfl, hb3⟩; rw [HRO.out]; have HB3 := Lib.hid hb3; have r3' := (hb3.cell (p := ⟨w.heap.size + 1, 3, none⟩) zt').trans r3; have zz3 := hb3.size; have zt3 : w.heap.size + 1 < w3.heap.size := (by omega); clear hb3)
                obtain ⟨W3, hW3⟩ : ∃ W3, W3 = w3.alloc (.cells #[.int .i64 r.id, .int .i64 r.src, .int .i64 r.dst, .int .i64 r.len, .int .i64 r.lim, .bool r.one] 90) := ⟨_, rfl⟩
                obtain ⟨b14, hb14⟩ : ∃ z, w3.heap.size = z := ⟨_, rfl⟩
                have P14 := Lib.hid (obj_last w3 (.cells #[.int .i64 r.id, .int .i64 r.src, .int .i64 r.dst, .int .i64 r.len, .int .i64 r.lim, .bool r.one] 90))
                have B3 := Lib.hid (HB3.out.trans (((Below.refl w3.heap.size w3).alloc (Nat.le_refl _) (.cells #[.int .i64 r.id, .int .i64 r.src, .int .i64 r.dst, .int .i64 r.len, .int .i64 r.lim, .bool r.one] 90)).mono HB3.out.size))
                have zW3 : b14 < W3.heap.size := by rw [hW3, ← hb14]; simp
                rw [← hW3, hb14] at P14 ⊢
                rw [← hW3] at B3
                have k3 := obj_cell P14.out 3
                simp at k3
                have g0' := (B3.out.cell (p := ⟨b10, 0, none⟩) zr').trans g0
                have en' := (B3.out.cell (p := ⟨gn, k, none⟩) zgn).trans en
                have em' := (B3.out.cell (p := ⟨gn, k + 1, none⟩) zgn).trans em
                have p2' := (B3.out.cell (p := ⟨w.heap.size, 2, none⟩) zp').trans p2
                have zz := B3.out.size
                have c1 : w.heap.size < W3.heap.size := by omega
                have c2 : b10 < W3.heap.size := by omega
                have c3 : gn < W3.heap.size := by omega
                clear hW3 er en em g0 p0 p1 r3 r3'
                go_region_held3 (fun w' => w'.cell? ⟨b10, 0, none⟩ = some (.slice (some ⟨gn, 0, none⟩) nn cn) ∧ w'.cell? ⟨gn, k, none⟩ = some (.int .i64 u.src) ∧ w'.cell? ⟨gn, k + 1, none⟩ = some (.int .i64 u.dst) ∧ w'.cell? ⟨b14, 3, none⟩ = some (.int .i64 r.len))
                  (((go_split_ands; refine ⟨?_, ?_, ?_, ?_⟩ <;> first | with_reducible assumption | exact ((show Below W3.heap.size W3 _ from (by (repeat (first | with_reducible exact Below.refl _ _ | with_reducible assumption | ((with_reducible refine Below.setCell ?_ ?_ _); rotate_left; focus (first | exact Nat.le_refl _ | omega | exact Below.size (by assumption) | (simp; done) | (simp; omega))) | ((with_reducible refine Below.alloc ?_ ?_ _); rotate_left; focus (first | exact Nat.le_refl _ | omega | exact Below.size (by assumption) | (simp; done) | (simp; omega))) | (with_reducible refine Below.drew ?_) | (with_reducible refine drewN_ ?_ _))))).cell (p := ⟨_, _, none⟩) (by first | with_reducible assumption | omega)).trans (by with_reducible assumption))))
                  ((fail))
                by_cases hgt : S.gap < u.time
                · go_wp2_with fail
                  go_ret
                  refine ⟨25, rfl, (below_qf B0.out bo v0.ownBlock).trans (DK.out.keep ?_).qf (.inl rfl), ?_⟩
                  · have h := B3.out
                    (repeat (first | with_reducible exact Below.refl _ _ | with_reducible assumption | ((with_reducible refine Below.setCell ?_ ?_ _); rotate_left; focus (first | exact Nat.le_refl _ | omega | exact Below.size (by assumption) | (simp; done) | (simp; omega))) | ((with_reducible refine Below.alloc ?_ ?_ _); rotate_left; focus (first | exact Nat.le_refl _ | omega | exact Below.size (by assumption) | (simp; done) | (simp; omega))) | (with_reducible refine Below.drew ?_) | (with_reducible refine drewN_ ?_ _)))
                  · rw [tour_fail hT.out HTA.out (c := 25) (by rw [HPREV.out]; exact drive_late HR.out hkR (by rw [HU4.out]; exact hgt))]
                    show _ = _ ∧ _
                    exact ⟨rfl, by decide⟩
                · go_wp2_with fail
                  obtain ⟨W4, hW4⟩ : ∃ W4, W4 = (W3.alloc (.cells #[.int .i64 u.src, .int .i64 u.dst, .int .i64 u.road, .int .i64 nk, .int .i64 u.time] 135)).drew := ⟨_, rfl⟩
                  obtain ⟨b17, hb17⟩ : ∃ z, W3.heap.size = z := ⟨_, rfl⟩
                  have P17 := Lib.hid (obj_drew (obj_last W3 (.cells #[.int .i64 u.src, .int .i64 u.dst, .int .i64 u.road, .int .i64 nk, .int .i64 u.time] 135)))
                  have B4 := Lib.hid (show Below wr.heap.size wr (W3.alloc (.cells #[.int .i64 u.src, .int .i64 u.dst, .int .i64 u.road, .int .i64 nk, .int .i64 u.time] 135)).drew from by have h := B3.out; (repeat (first | with_reducible exact Below.refl _ _ | with_reducible assumption | ((with_reducible refine Below.setCell ?_ ?_ _); rotate_left; focus (first | exact Nat.le_refl _ | omega | exact Below.size (by assumption) | (simp; done) | (simp; omega))) | ((with_reducible refine Below.alloc ?_ ?_ _); rotate_left; focus (first | exact Nat.le_refl _ | omega | exact Below.size (by assumption) | (simp; done) | (simp; omega))) | (with_reducible refine Below.drew ?_) | (with_reducible refine drewN_ ?_ _))))
                  rw [← hW4, hb17] at P17 ⊢
                  rw [← hW4] at B4
                  have zW4 := obj_lt P17.out
                  have HD4 := Lib.hid (hDk.out.keep B4.out)
                  have HS4 := Lib.hid (keepObj B4.out (DK.out.block S0.out hbs (fun g hg => HBR.out g hg)))
                  have HRK := Lib.hid (fun (g : Nat) (hg : vk.ownBlock = some g) => (hDk.out.oat.own.blk g hg).2)
                  refine (yieldRoad_any ⟨u.src, u.dst, u.road, nk, u.time⟩ hrid S.gap v1 v2 v3 v4 v5 vk W4 HS4.out HD4.out.oat (by omega) (by omega) ⟨by show _ ≤ nk; omega, by show nk ≤ _; omega⟩ ⟨by show _ ≤ u.time; omega, by show u.time ≤ _; omega⟩).mono ?_
                  rintro e w5 ⟨rfl, v', hO1, hF1, hW1⟩
                  have HP5 := Lib.hid ((hF1.block b17 zW4 (by omega) (fun e => by have := HRK.out _ e.symm; omega)).trans P17.out)
                  have h4 := obj_cell HP5.out 4
                  simp at h4
                  have zh := obj_lt HP5.out
                  have HD5 := Lib.hid (HD4.out.yield hO1 hF1 hW1)
                  clear hO1 hF1 hW1
                  go_wp2_with fail
                  go_roundw
                  case rel =>
                    refine ⟨k + 1, nk + u.time, v', Lk ++ [(⟨nk + u.time, u.dst⟩ : Stp)], by go_num, rfl, by omega, by omega, by omega, by simp; omega, ?_, ?_, HD5.out, ?_⟩
                    · show _ = _
                      exact HMV.out.2.symm
                    · intro q hq
                      rcases Nat.lt_succ_iff_lt_or_eq.1 hq with h1 | h1
                      · exact hGP.out q h1
                      · subst h1; rw [HU4.out]; omega
                    · show Full _ _ _
                      rw [HMV.out.1, ← List.append_assoc]
                      exact hFk.out.one _
                  case measure => simp [intOf]; omega
              · obtain rfl : k = nr := by omega
                have hall : (hopsT S t.speed R).take k = hopsT S t.speed R := by rw [← HNR.out]; exact moves_all S t.speed R
                have hNK2 := hNK.out
                have hFk2 := hFk.out
                rw [hall] at hNK2 hFk2
                have HNK := Lib.hid hNK2
                have HFK := Lib.hid hFk2
                have HDR := Lib.hid (show driveIf S t.speed (prevOf t.vis i) x.node = .ok (hopsT S t.speed R) from by rw [HPREV.out]; exact drive_ok HR.out (fun q hq => hGP.out q (by have := HNR.out; omega)))
                have VKW := Lib.hid (hDk.out.block VC.out (by omega) (fun g hg => by have := HROW.out g hg; omega))
                clear hNK2 hFk2 hall
                by_cases hwz : 0 < x.wait
                · go_wp2_with fail
                  have HSb := Lib.hid (DK.out.block S0.out hbs (fun g hg => HBR.out g hg))
                  have HOFF := Lib.hid (DK.out.off (obj_lt S0.out) (fun g hg => HBR.out g hg))
                  have HOFV := Lib.hid (hDk.out.off (obj_lt VC.out) (fun g hg => by have := HROW.out g hg; omega))
                  refine (yieldWait_any x.node x.node nk x.wait S.gap v1 v2 v3 v4 v5 vk _ HSb.out DK.out.oat (by omega) (by omega) hbs HOFF.out ⟨by omega, by omega⟩ ⟨by omega, by omega⟩ hg).mono ?_
                  rintro e w2 ⟨rfl, v', L', hWt, hO1, hF1, hW1⟩
                  have HVB := Lib.hid ((hF1.block bv zv' (by omega) (fun e => HOFV.out _ e.symm rfl)).trans VKW.out)
                  have vb1 := obj_cell HVB.out 1
                  simp at vb1
                  have zvb := obj_lt HVB.out
                  have HD2 := Lib.hid (DK.out.yield hO1 hF1 hW1)
                  have HWT := Lib.hid hWt
                  clear hO1 hF1 hW1 hWt
                  go_wp2_with fail
                  go_roundw
                  case rel =>
                    have q := tour_next hT.out HTA.out HX.out HDR.out
                    rw [← HNK.out] at q
                    have hl1 := HWT.out.2.2
                    refine ⟨i + 1, nk + x.wait, _, v', L', by go_num, rfl, by omega, by omega, by omega, by omega, HD2.out, q, HFK.out.wait HWT.out (fun h => HWT.out.2.1 (by omega))⟩
                  case measure => simp [intOf]; omega
                · go_wp2_with fail
                  go_roundw
                  case rel =>
                    have q := tour_next hT.out HTA.out HX.out HDR.out
                    have hxw : x.wait = 0 := by omega
                    rw [← HNK.out, waits_none (by omega), List.append_nil, hxw, Int.add_zero] at q
                    refine ⟨i + 1, nk, _, vk, Lk, by go_num, rfl, by omega, by omega, by omega, by omega, DK.out, q, HFK.out⟩
                  case measure => simp [intOf]; omega
        · have HNO := Lib.hid (show ∀ R l, ¬IsRoute S.net y.node x.node R l from fun R l h => hex ⟨R, l, h⟩)
          have HER := Lib.hid (show driveIf S t.speed (prevOf t.vis i) x.node = .error 31 from by rw [HPREV.out]; exact drive_none hex)
          clear hex
          go_cut [10, 11] (fun s10 s11 wx => ∃ c : Int, s11 = .int .i64 c ∧ (c != 0) = true ∧ Hid (Below W1.heap.size W1 wx))
          case first =>
            go_region_held3 (fun w' => w'.cell? ⟨w.heap.size, 0, none⟩ = some v1 ∧ w'.cell? ⟨w.heap.size, 1, none⟩ = some v2 ∧ w'.cell? ⟨w.heap.size + 1, 4, none⟩ = some (.slice (some ⟨b, off, none⟩) m cv) ∧ w'.cell? ⟨b, off + j * 2, none⟩ = some (.int .i64 y.node) ∧ w'.cell? ⟨bv, 0, none⟩ = some (.int .i64 x.node))
              (((go_split_ands; refine ⟨?_, ?_, ?_, ?_, ?_⟩ <;> first | with_reducible assumption | exact ((show Below W1.heap.size W1 _ from (by (repeat (first | with_reducible exact Below.refl _ _ | with_reducible assumption | ((with_reducible refine Below.setCell ?_ ?_ _); rotate_left; focus (first | exact Nat.le_refl _ | omega | exact Below.size (by assumption) | (simp; done) | (simp; omega))) | ((with_reducible refine Below.alloc ?_ ?_ _); rotate_left; focus (first | exact Nat.le_refl _ | omega | exact Below.size (by assumption) | (simp; done) | (simp; omega))) | (with_reducible refine Below.drew ?_) | (with_reducible refine drewN_ ?_ _))))).cell (p := ⟨_, _, none⟩) (by first | with_reducible assumption | omega)).trans (by with_reducible assumption))))
              ((go_at_call 63; refine (findRoute_no S.net y.node x.node v1 v2 _ (HNW.out.later (by (repeat (first | with_reducible exact Below.refl _ _ | with_reducible assumption | ((with_reducible refine Below.setCell ?_ ?_ _); rotate_left; focus (first | exact Nat.le_refl _ | omega | exact Below.size (by assumption) | (simp; done) | (simp; omega))) | ((with_reducible refine Below.alloc ?_ ?_ _); rotate_left; focus (first | exact Nat.le_refl _ | omega | exact Below.size (by assumption) | (simp; done) | (simp; omega))) | (with_reducible refine Below.drew ?_) | (with_reducible refine drewN_ ?_ _))))) HK.out hsz HNO.out).mono ?_; rintro e w2 ⟨⟨c, rfl, hc⟩, hb2⟩; have B2 := from_ (w := W1) hb2 (by (repeat (first | with_reducible exact Below.refl _ _ | with_reducible assumption | ((with_reducible refine Below.setCell ?_ ?_ _); rotate_left; focus (first | exact Nat.le_refl _ | omega | exact Below.size (by assumption) | (simp; done) | (simp; omega))) | ((with_reducible refine Below.alloc ?_ ?_ _); rotate_left; focus (first | exact Nat.le_refl _ | omega | exact Below.size (by assumption) | (simp; done) | (simp; omega))) | (with_reducible refine Below.drew ?_) | (with_reducible refine drewN_ ?_ _)))); (first | (have LL := keepObj hb2 (b := W1.heap.size) (o := (.cells #[.slice none 0 0, .slice none 0 0, .int .i64 0] 174)) (by first | exact obj_last W1 (.cells #[.slice none 0 0, .slice none 0 0, .int .i64 0] 174) | exact obj_drew (obj_last W1 (.cells #[.slice none 0 0, .slice none 0 0, .int .i64 0] 174)) | exact obj_last W1.drew (.cells #[.slice none 0 0, .slice none 0 0, .int .i64 0] 174) | exact obj_drew (obj_last W1.drew (.cells #[.slice none 0 0, .slice none 0 0, .int .i64 0] 174))); have l0 := obj_cell LL 0; have l1 := obj_cell LL 1; have l2 := obj_cell LL 2; have m0 := obj_free LL 0; have m1 := obj_free LL 1; have m2 := obj_free LL 2; simp at l0 l1 l2; have zl := obj_lt LL) | (guard_hyp hb2 : Below W1.drew.heap.size W1.drew w2) | (guard_hyp hb2 : Below W1.heap.size W1 w2)); have zz2 := hb2.size; (try simp at zz2); clear hb2))
            all_goals
              go_wp2_with fail
              go_meet
              refine ⟨c, rfl, hc, by show Below _ _ _; (repeat (first | with_reducible exact Below.refl _ _ | with_reducible assumption | ((with_reducible refine Below.setCell ?_ ?_ _); rotate_left; focus (first | exact Nat.le_refl _ | omega | exact Below.size (by assumption) | (simp; done) | (simp; omega))) | ((with_reducible refine Below.alloc ?_ ?_ _); rotate_left; focus (first | exact Nat.le_refl _ | omega | exact Below.size (by assumption) | (simp; done) | (simp; omega))) | (with_reducible refine Below.drew ?_) | (with_reducible refine drewN_ ?_ _)))⟩
          case rest =>
            obtain ⟨c, rfl, hc, hBc⟩ := hcut
            go_wp2_with fail
            go_ret
            refine ⟨31, rfl, (below_qf B0.out bo v0.ownBlock).trans (D1.out.keep hBc.out).qf (.inl rfl), ?_⟩
            rw [tour_fail hT.out HTA.out (c := 31) HER.out]
            show _ = _ ∧ _
            exact ⟨rfl, by decide⟩
    · obtain rfl : i = m := by omega
      go_wp2
      go_ret
      refine ⟨0, rfl, (below_qf B0.out bo v0.ownBlock).trans hD.out.qf (.inl rfl), ?_⟩
      rw [hT.out, List.drop_eq_nil_of_le (by rw [HM.out]; exact Nat.le_refl _)]
      show _ = _ ∧ _
      exact ⟨rfl, v, L, by simpa using hF.out, hD.out.oat, by omega⟩
end Go.Proofs.YtmplajpbmojkkaaGreat
