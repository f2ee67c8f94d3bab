/-
 simulate.Reports, walked: any number of reports.
-/
import Derived.Test.YthkhgfdjdpfoiaaGreatRepA
import Derived.Test.YthkhgfdjdpfoiaaGreatStabW
import Derived.Shelf.SlSortCmp.NoneTotal
set_option linter.unusedSimpArgs false
set_option linter.unusedVariables false
namespace Go.Proofs.YthkhgfdjdpfoiaaGreat
open Go Go.RowKit Go.Vi Go.Sort
theorem sortNil_any (w : World) : Calls Tryz.prog 25 #[.slice none 0 0, cmpV] w fun e' w' => e' = .returned (.tuple #[]) ∧ w' = w := by
 have HI := Lib.hid (fun W : World => show Calls Tryz.prog 58 #[.slice none 0 0, .int .i64 0, .int .i64 0, cmpV] W fun e w' => e = .returned (.tuple #[]) ∧ w' = W from AnyF.insertionSortCmpFunc_none Tryz.insSent none 0 cmpV W)
 have HC : Hid (Calls Tryz.prog 45 #[.slice none 0 0, .int .i64 0, cmpV] w fun e' w' => e' = .returned (.tuple #[]) ∧ w' = w) := by
  show Calls Tryz.prog 45 _ _ _
  have h1 : ¬(20 : Int) ≤ 0 := by omega
  have h2 : ¬(20 : Int) < 0 := by omega
  go_enter Tryz.func45, Tryz.ntmps45
  go_wp2_with fail
  go_loopw [7, 8] (fun s7 s8 wr => s7 = .int .i64 0 ∧ s8 = .int .i64 20 ∧ wr = w) (fun _ _ _ => 0)
  case atStart => exact ⟨rfl, rfl, rfl⟩
  case round =>
   obtain ⟨rfl, rfl, rfl⟩ := hrel
   go_wp2_with fail
   refine (HI.out _).mono ?_
   rintro e' w' ⟨rfl, rfl⟩
   go_wp2_with fail
   go_loopw [6] (fun s6 wx => s6 = .int .i64 20 ∧ wx = w') (fun _ _ => 0)
   case atStart => exact ⟨rfl, rfl⟩
   case round =>
    obtain ⟨rfl, rfl⟩ := hrel
    go_wp2_with fail
    go_end0
    exact ⟨rfl, rfl⟩
 go_enter Tryz.func25, Tryz.ntmps25
 go_wp2_with fail
 refine HC.out.mono ?_
 rintro e' w' ⟨rfl, rfl⟩
 go_wp2_with fail
 go_end0
 exact ⟨rfl, rfl⟩
theorem sortAny_any (A : List Snt) {B e n cap : Nat} {a : Option Addr} (w : World) (h : Ow B w e 9 (.slice a n cap) (A.map Snt.cs)) (hn : A.length = n) (hA : A.length ≤ 1000000) :
  Calls Tryz.prog 25 #[.slice a n cap, cmpV] w fun e' w' => e' = .returned (.tuple #[]) ∧ ∃ M : List Snt, M.Perm A ∧ M.Pairwise (fun a b => ¬sntLt b a) ∧ Ow B w' e 9 (.slice a n cap) (M.map Snt.cs) ∧ w.grownBy w' (Value.ownBlock (.slice a n cap)) := by
 subst hn
 rcases h.shape with ⟨e1, e2⟩ | ⟨g, cap', e1, _⟩
 ·injection e1 with e3 e4 e5
  subst e3 e5
  rw [e4]
  refine (sortNil_any w).mono ?_
  rintro e' w' ⟨rfl, rfl⟩
  rw [List.map_eq_nil_iff] at e2
  subst e2
  exact ⟨rfl, [], List.Perm.refl _, List.Pairwise.nil, Ow.nil _ _ _ _, grown_of (Below.refl _ _)⟩
 ·injection e1 with e3 e4 e5
  subst e3
  exact sortStable_any A w h hA
set_option maxRecDepth 100000 in
set_option maxHeartbeats 20000000 in
theorem reportsG_any (S : Scn) (v1 v2 v3 v4 v5 : Value) (w : World) (hS : ScnAt w.heap.size w v1 v2 v3 v4 v5 S) (hF : Fit S) (hW : wayErr S = 0) :
  Calls Tryz.prog 8 #[S.v v1 v2 v3 v4 v5] w fun e w' => (∃ v, e = .returned (.tuple #[v, .int .i64 0]) ∧ Ow w.heap.size w' 77 8 v ((insAll (sentS S S.trips.length)).map fun s => s.r.cs)) ∧ Below w.heap.size w w' := by
 obtain ⟨a3, n3, c3, rfl, hn3, hn31, hn32⟩ := hS.trips.open
 obtain ⟨a4, n4, c4, rfl, hn4, hn41, hn42⟩ := hS.clocks.open
 obtain ⟨a5, n5, c5, rfl, hn5, hn51, hn52⟩ := hS.syncs.open
 have hnt := hF.ntrips
 rw [hn3] at hnt
 have HS := Lib.hid hS
 have HF := Lib.hid hF
 have HW := Lib.hid hW
 have HN3 := Lib.hid hn3
 have HK := Lib.hid (netOK_of hF.net)
 clear hS hF hW hn3 hn4 hn5 hn31 hn32 hn41 hn42 hn51 hn52
 have P0 := Lib.hid (obj_last w (.cells #[v1, v2, .int .i64 S.gap, .slice a3 n3 c3, .slice a4 n4 c4, .slice a5 n5 c5] 40))
 obtain ⟨sn0_, sni, sn0, sn1, sn2⟩ := info_parts iSentT
 obtain ⟨rp0_, rpi, rp0, rp1, rp2⟩ := info_parts iRptT
 go_enter Tryz.func8, Tryz.ntmps8
 go_wp2_with fail
 refine (checkW_any S _ _ _ _ _ _ (HS.out.later (by (repeat (first | with_reducible exact Below.refl _ _ | with_reducible assumption | ((with_reducible first | refine Below.setCell ?_ ?_ _ | refine Below.alloc ?_ ?_ _); rotate_left; focus (first | exact Nat.le_refl _ | omega | exact Below.size (by assumption) | (simp <;> omega))) | with_reducible refine Below.drew ?_ | with_reducible refine drewN_ ?_ _)))) HF.out).mono ?_
 rintro e w1 ⟨rfl, hb1⟩
 rw [HW.out]
 have P1 := Lib.hid (keepObj hb1 P0.out)
 have B1 := Lib.hid (from_ (w := w) hb1 (by (repeat (first | with_reducible exact Below.refl _ _ | with_reducible assumption | ((with_reducible first | refine Below.setCell ?_ ?_ _ | refine Below.alloc ?_ ?_ _); rotate_left; focus (first | exact Nat.le_refl _ | omega | exact Below.size (by assumption) | (simp <;> omega))) | with_reducible refine Below.drew ?_ | with_reducible refine drewN_ ?_ _))))
 have l0 := obj_cell P1.out 0
 have l1 := obj_cell P1.out 1
 have l2 := obj_cell P1.out 2
 have l3 := obj_cell P1.out 3
 have l4 := obj_cell P1.out 4
 have l5 := obj_cell P1.out 5
 simp at l0 l1 l2 l3 l4 l5
 clear hb1
 go_wp2_with fail
 refine (offsets_any S _ _ _ _ _ _ (HS.out.clocks.later B1.out) HF.out.nclocks).mono ?_
 rintro e w2 ⟨⟨bm, rfl, hbm, hI⟩, hb2⟩
 have hP2 := keepObj hb2 P1.out
 have m3 := obj_cell hP2 3
 simp at m3
 have B2 := Lib.hid (B1.out.trans (hb2.mono B1.out.size))
 have HI := Lib.hid hI
 have zb2 := obj_lt hP2
 have PW := Lib.hid hP2
 clear hb2 hI hP2 l0 l1 l2 l3 l4 l5 P1 B1
 go_wp2_with fail
 go_loopw [5, 27] (fun s5 s27 wx => ∃ (k : Nat) (va : Value) (na : Nat), s27 = .int .i64 k ∧ va = s5 ∧ k ≤ n3 ∧ na ≤ 256 * k ∧ (sentS S k).length = na ∧ Hid (Ow w2.heap.size wx 94 9 va ((sentS S k).map Snt.cs)) ∧ Hid (Below w2.heap.size w2 wx)) (fun _ s27 _ => n3 - (intOf s27).toNat)
 case atStart => exact ⟨0, _, 0, rfl, rfl, Nat.zero_le _, by omega, rfl, Ow.nil _ _ _ _, Below.refl _ _⟩
 case round =>
  obtain ⟨k, va, na, rfl, rfl, hk, hna, hlen, hO, hB⟩ := hrel
  have HLEN := Lib.hid hlen
  have hPw := keepObj hB.out PW.out
  have l0 := obj_cell hPw 0
  have l1 := obj_cell hPw 1
  have l2 := obj_cell hPw 2
  have l3 := obj_cell hPw 3
  have l4 := obj_cell hPw 4
  have l5 := obj_cell hPw 5
  simp at l0 l1 l2 l3 l4 l5
  have zb := obj_lt hPw
  have BX := Lib.hid (B2.out.trans (hB.out.mono B2.out.size))
  have PX := Lib.hid hPw
  clear hPw hlen
  by_cases hlt : k < n3
  ·have hkl : k < S.trips.length := by rw [HN3.out]; exact hlt
   obtain ⟨b, off, rfl, hb, hcs⟩ := HS.out.trips.at k hkl
   obtain ⟨v, hv, t0, t1, t2, t3, t4⟩ := hcs k hkl
   rw [← BX.out.cell (p := ⟨b, _, none⟩) hb] at t0 t1 t2 t3 t4
   have hzb : b < wr.heap.size := by have := BX.out.size; omega
   have hd := HF.out.clocks.dev k hkl
   have hlo := off_look HF.out.clocks S.trips[k]!.dev
   rw [if_pos hd] at hlo
   have hob := off_bound HF.out.clocks S.trips[k]!.dev
   have hfit := tripFit_of (HF.out.trips k hkl)
   have hss := sentS_succ S hkl
   have hok := wayErrT_zero S.trips (wayErr_zero HW.out) S.trips[k]! (by rw [getElem!_pos S.trips k hkl]; exact List.getElem_mem hkl)
   obtain ⟨t, ht⟩ : ∃ t, t = S.trips[k]! := ⟨_, rfl⟩
   rw [← ht] at t0 t1 t2 t3 hlo hob hfit hss hok hv
   obtain ⟨L, hst, _⟩ := hok
   obtain ⟨o, ho⟩ : ∃ o, o = offOf S.clocks t.dev := ⟨_, rfl⟩
   rw [← ho] at hlo hob
   obtain ⟨av, m, cv, rfl, _, _, _⟩ := hv.open
   have HV := Lib.hid hv
   have HLO := Lib.hid hlo
   have HFIT := Lib.hid hfit
   have HST := Lib.hid hst
   have HOO := Lib.hid ho
   have hso : sentOf S t = sentT S t L L.length := by unfold sentOf; rw [hst]
   rw [hso] at hss
   have HSS := Lib.hid hss
   obtain ⟨ho1, ho2⟩ := hob
   have hk1 : (0 : Int) ≤ (k : Int) := by omega
   have hk2 : (k : Int) < (n3 : Int) := by omega
   clear hcs hd ht hlo hfit hv ho hst hss hso
   go_wp2_with fail
   obtain ⟨W1, hW1⟩ : ∃ W1, W1 = wr.alloc (.cells #[.int .i64 t.obj, .int .i64 t.dev, .int .i64 t.start, .int .i64 t.speed, .slice av m cv] 73) := ⟨_, rfl⟩
   obtain ⟨bt, hbt⟩ : ∃ z, wr.heap.size = z := ⟨_, rfl⟩
   have PT := Lib.hid (obj_last wr (.cells #[.int .i64 t.obj, .int .i64 t.dev, .int .i64 t.start, .int .i64 t.speed, .slice av m cv] 73))
   have BW := Lib.hid ((Below.refl wr.heap.size wr).alloc (Nat.le_refl _) (.cells #[.int .i64 t.obj, .int .i64 t.dev, .int .i64 t.start, .int .i64 t.speed, .slice av m cv] 73))
   have zW1 : bt < W1.heap.size := by rw [hW1, ← hbt]; simp
   have hbt2 : w2.heap.size ≤ bt := by have := hB.out.size; omega
   rw [hbt] at PT ⊢
   rw [← hW1] at PT BW ⊢
   have BT := Lib.hid (BX.out.trans (BW.out.mono BX.out.size))
   have B2T := Lib.hid (hB.out.trans (BW.out.mono hB.out.size))
   have PX1 := Lib.hid (keepObj BW.out PX.out)
   have HO1 := Lib.hid (hO.out.keep BW.out)
   have zW2 := BW.out.size
   clear hW1 hbt
   refine (stopsW_any S t v1 v2 _ _ _ _ W1 ((HS.out.net.keep BT.out (Nat.le_refl _)).mono (by have := BT.out.size; omega)) ((HV.out.keep BT.out (Nat.le_refl _)).mono (by have := BT.out.size; omega)) HFIT.out.vis HK.out HF.out.few HF.out.gap HFIT.out.speed HFIT.out.start HFIT.out.few HFIT.out.wait).mono ?_
   rintro e w3 ⟨hR, hb3⟩
   rw [HST.out] at hR
   obtain ⟨vl, rfl, hOL, hL256⟩ := hR
   have BT3 := Lib.hid (BT.out.trans (hb3.mono BT.out.size))
   have B23 := Lib.hid (B2T.out.trans (hb3.mono B2T.out.size))
   have PT3 := Lib.hid (keepObj hb3 PT.out)
   have PX3 := Lib.hid (keepObj hb3 PX1.out)
   have HO3 := Lib.hid (HO1.out.keep hb3)
   have hOL2 := hOL.mono (B' := w2.heap.size) (by have := B2T.out.size; omega)
   obtain ⟨al, nl, cl, rfl⟩ := hOL2.val
   have hnl := hOL2.sl.len
   rw [List.length_map] at hnl
   have HNL := Lib.hid hnl
   have HR := Lib.hid (stops_rise HK.out HF.out.few HF.out.gap HFIT.out HST.out).1
   have HOL := Lib.hid hOL2
   rw [hnl] at hL256
   have hstart := HFIT.out.start
   clear hb3 hOL hOL2 hnl t0 t1 t2 t3 t4 l0 l1 l2 l3 l4 l5 PT PX1 HO1 BW B2T BT zW1 zW2 hzb
   obtain ⟨Wp, rfl⟩ : ∃ z : World, z = wr := ⟨_, rfl⟩
   go_wp2_with fail
   go_loopw [5, 39] (fun s5 s39 wx => ∃ (q : Nat) (vb : Value) (nb : Nat), s39 = .int .i64 q ∧ vb = s5 ∧ q ≤ nl ∧ nb = na + q ∧ Hid (Ow w2.heap.size wx 94 9 vb ((sentS S k ++ sentT S t L q).map Snt.cs)) ∧ Hid (Ow w2.heap.size wx 75 2 (.slice al nl cl) (L.map Stp.cs)) ∧ Hid (wx.heap[bt]? = some (.cells #[.int .i64 t.obj, .int .i64 t.dev, .int .i64 t.start, .int .i64 t.speed, .slice av m cv] 73)) ∧ Hid (Below w2.heap.size w2 wx)) (fun _ s39 _ => nl - (intOf s39).toNat)
   case atStart => exact ⟨0, _, na, rfl, rfl, Nat.zero_le _, rfl, by show Ow _ _ _ _ _ _; simpa [sentT] using HO3.out, HOL.out, PT3.out, B23.out⟩
   case round =>
    obtain ⟨q, vb, nb, rfl, rfl, hq, hnb, hOq, hLq, hTq, hBq⟩ := hrel
    by_cases hlq : q < nl
    ·have hql : q < L.length := by rw [HNL.out]; exact hlq
     obtain ⟨gl, rfl⟩ : ∃ g, al = some ⟨g, 0, none⟩ := by
      rcases hLq.out.shape with ⟨_, e⟩ | ⟨g, cap, e, _⟩
      ·rw [List.map_eq_nil_iff] at e; rw [e] at hql; simp at hql
      ·injection e with e1; exact ⟨g, e1⟩
     have x0 := hLq.out.cell q (by rw [List.length_map]; exact hql) 0 (by omega)
     have x1 := hLq.out.cell q (by rw [List.length_map]; exact hql) 1 (by omega)
     simp only [List.getElem_map] at x0 x1
     have hxm : L[q] ∈ L := List.getElem_mem hql
     have hxt := HR.out.2 _ hxm
     obtain ⟨x, hx⟩ : ∃ z, L[q] = z := ⟨_, rfl⟩
     rw [hx] at x0 x1 hxt
     simp only [Stp.cs, List.getElem?_cons_succ, List.getElem?_cons_zero, Nat.add_zero] at x0 x1
     have HX := Lib.hid (show L[q]! = x by rw [getElem!_pos L q hql]; exact hx)
     obtain ⟨hx1, hx2⟩ := hxt
     have hsum : IntKind.i64.wrap (x.time + o) = x.time + o := IntWalk.i64_in _ (by omega)
     have zgl := (hLq.out.blk gl rfl).2
     have t0 := obj_cell hTq.out 0
     have t1 := obj_cell hTq.out 1
     simp at t0 t1
     have zt := obj_lt hTq.out
     have PXq := keepObj hBq.out PW.out
     have l0 := obj_cell PXq 0
     have l1 := obj_cell PXq 1
     have l2 := obj_cell PXq 2
     have l3 := obj_cell PXq 3
     have l4 := obj_cell PXq 4
     have l5 := obj_cell PXq 5
     simp at l0 l1 l2 l3 l4 l5
     have zbq := obj_lt PXq
     have hBw := hBq.out.size
     have BXq := Lib.hid (B2.out.trans (hBq.out.mono B2.out.size))
     have HNWq := Lib.hid ((HS.out.net.keep BXq.out (Nat.le_refl _)).mono (B' := wr.heap.size) (by have := BXq.out.size; omega))
     have hlk := lens_one (w := wr.alloc (.cells #[.int .i64 x.time, .int .i64 x.node] 75)) ((HI.out.keep hBq.out).keep ((Below.refl wr.heap.size wr).alloc (Nat.le_refl _) (.cells #[.int .i64 x.time, .int .i64 x.node] 75))) t.dev _ HLO.out
     have hq1 : (0 : Int) ≤ (q : Int) := by omega
     have hq2 : (q : Int) < (nl : Int) := by omega
     have wq : IntKind.i64.wrap (q : Int) = (q : Int) := IntWalk.i64_in _ (by omega)
     obtain ⟨ab, n', cb, rfl⟩ := hOq.out.val
     have hnb' := hOq.out.sl.len
     have hnn : n' = nb := by
      rw [List.length_map, List.length_append, HLEN.out] at hnb'
      unfold sentT at hnb'
      simp at hnb'
      omega
     subst hnn
     have HNB := Lib.hid (show n' = (sentS S k ++ sentT S t L q).length by rw [List.length_append, HLEN.out]; unfold sentT; simp; omega)
     have hnbb : n' ≤ 20000 := by omega
     have HNBQ := Lib.hid hnb
     clear hxm hx PXq hnb' hnb
     go_wp2_with fail
     refine (point_any S _ _ _ _ _ _ _ (HNWq.out.later (by (repeat (first | with_reducible exact Below.refl _ _ | with_reducible assumption | ((with_reducible first | refine Below.setCell ?_ ?_ _ | refine Below.alloc ?_ ?_ _); rotate_left; focus (first | exact Nat.le_refl _ | omega | exact Below.size (by assumption) | (simp <;> omega))) | with_reducible refine Below.drew ?_ | with_reducible refine drewN_ ?_ _)))) HK.out ⟨_, _, _, rfl⟩ ⟨_, _, _, rfl⟩ ⟨_, _, _, rfl⟩).mono ?_
     rintro e w4 ⟨rfl, hb4⟩
     have PX4 := Lib.hid (keepObj hb4 (obj_old (o' := .cells #[.int .i64 t.obj, .int .i64 q, .int .i64 0, .int .i64 t.dev, .int .i64 (x.time + o), .int .i64 0, .int .i64 0, .bool false] 77) (obj_last wr (.cells #[.int .i64 x.time, .int .i64 x.node] 75))))
     have PR4 := Lib.hid (keepObj hb4 (obj_last2 wr (.cells #[.int .i64 x.time, .int .i64 x.node] 75) (.cells #[.int .i64 t.obj, .int .i64 q, .int .i64 0, .int .i64 t.dev, .int .i64 (x.time + o), .int .i64 0, .int .i64 0, .bool false] 77)))
     have B4 := from_ (w := wr) hb4 (by (repeat (first | with_reducible exact Below.refl _ _ | with_reducible assumption | ((with_reducible first | refine Below.setCell ?_ ?_ _ | refine Below.alloc ?_ ?_ _); rotate_left; focus (first | exact Nat.le_refl _ | omega | exact Below.size (by assumption) | (simp <;> omega))) | with_reducible refine Below.drew ?_ | with_reducible refine drewN_ ?_ _)))
     obtain ⟨px, hpx⟩ : ∃ z, ((nodeOf S.net.nodes x.node).getD nd0).x = z := ⟨_, rfl⟩
     obtain ⟨py, hpy⟩ : ∃ z, ((nodeOf S.net.nodes x.node).getD nd0).y = z := ⟨_, rfl⟩
     rw [hpx, hpy]
     have HPX := Lib.hid hpx
     have HPY := Lib.hid hpy
     obtain ⟨b13, hb13⟩ : ∃ z, wr.heap.size + 1 = z := ⟨_, rfl⟩
     obtain ⟨b12, hb12⟩ : ∃ z, wr.heap.size = z := ⟨_, rfl⟩
     have h12 : wr.heap.size ≤ b12 := by omega
     have h13 : wr.heap.size ≤ b13 := by omega
     have h1213 : b12 ≠ b13 := by omega
     rw [hb13] at PR4 ⊢
     rw [hb12] at PX4 ⊢
     clear hb4 hb12 hb13 hpx hpy hlk l0 l1 l2 l3 l4 l5 x0 x1 t0 t1
     have y0 := obj_cell PR4.out 0
     have y1 := obj_cell PR4.out 1
     have y2 := obj_cell PR4.out 2
     have y3 := obj_cell PR4.out 3
     have y4 := obj_cell PR4.out 4
     have y5 := obj_cell PR4.out 5
     have y6 := obj_cell PR4.out 6
     have y7 := obj_cell PR4.out 7
     have y5f := obj_free PR4.out 5
     have y6f := obj_free PR4.out 6
     have x0 := obj_cell PX4.out 0
     simp at y0 y1 y2 y3 y4 y5 y6 y7 x0
     have z12 := obj_lt PX4.out
     have z13 := obj_lt PR4.out
     have HOWN : Hid (∀ W, Below wr.heap.size wr W → W.ownsRow w2.heap.size 94 9 (.slice ab n' cb) n' ((sentS S k ++ sentT S t L q).map Snt.cs).flatten) := fun W hW => by
      have qq := (hOq.out.keep hW).1
      rw [List.length_map, ← HNB.out] at qq
      exact qq
     have hBw4 : w2.heap.size ≤ w4.heap.size := by have := B4.size; omega
     go_wp2_with (at_builtin; refine wpList_append_lies _ (by rfl) _ _ _ (by rfl) w2.heap.size 94 sn0_ _ 9 72 uSentT sni sn0 sn1 sn2 rfl (by decide) (.slice ab n' cb) n' ((sentS S k ++ sentT S t L q).map Snt.cs).flatten (by rfl) (HOWN.out _ (by (repeat (first | with_reducible exact Below.refl _ _ | with_reducible assumption | ((with_reducible first | refine Below.setCell ?_ ?_ _ | refine Below.alloc ?_ ?_ _); rotate_left; focus (first | exact Nat.le_refl _ | omega | exact Below.size (by assumption) | (simp <;> omega))) | with_reducible refine Below.drew ?_ | with_reducible refine drewN_ ?_ _)))) ⟨w4.heap.size, 0, none⟩ 1 1 ((⟨x.time, ⟨t.obj, q, 0, t.dev, x.time + o, px, py, false⟩⟩ : Snt).cs) (by rfl) rfl (World.news_of_block (cs := #[.int .i64 x.time, .int .i64 t.obj, .int .i64 q, .int .i64 0, .int .i64 t.dev, .int .i64 (x.time + o), .int .i64 px, .int .i64 py, .bool false]) (t := 94) (fr := (0, 0)) (obj_lastS _ _ _ _ _ _)) (snt_cell1 _) (by omega) (by unfold maxLen; omega) (by omega) (by have := hBw4; first | omega | (simp; omega)) _ rfl ?_; intro g2 cap2 w7 hown2 hgrow2 hat2 hlt2; have hall2 : wr.grownBy w7 (Value.ownBlock (.slice ab n' cb)) := (grown_of (by (repeat (first | with_reducible exact Below.refl _ _ | with_reducible assumption | ((with_reducible first | refine Below.setCell ?_ ?_ _ | refine Below.alloc ?_ ?_ _); rotate_left; focus (first | exact Nat.le_refl _ | omega | exact Below.size (by assumption) | (simp <;> omega))) | with_reducible refine Below.drew ?_ | with_reducible refine drewN_ ?_ _)))).trans hgrow2; have HALL2 := Lib.hid hall2; have HOWN2 := Lib.hid hown2; clear hgrow2 hat2 hall2 hown2)
     go_roundw
     case rel =>
      have e : sentS S k ++ sentT S t L (q + 1) = (sentS S k ++ sentT S t L q) ++ [(⟨x.time, ⟨t.obj, q, 0, t.dev, x.time + o, px, py, false⟩⟩ : Snt)] := by
       rw [sentT_succ, ← List.append_assoc, HX.out]
       unfold rptOf
       rw [HPX.out, HPY.out, ← HOO.out]
      refine ⟨q + 1, _, n' + 1, by go_num, rfl, by omega, by have := HNBQ.out; omega, ?_, ?_, ?_, ?_⟩
      ·show Ow _ _ _ _ _ _
       rw [e]
       exact snt_add HNB.out HOWN2.out
      ·exact hLq.out.kept HALL2.out (rows_apart hOq.out hLq.out (by decide))
      ·exact (HALL2.out.block bt zt (fun e => absurd (hOq.out.type _ e.symm _ _ _ hTq.out) (by decide))).trans hTq.out
      ·exact hBq.out.grown HALL2.out hBq.out.size (fun b hb => (hOq.out.blk b hb).1)
     case measure => simp [intOf]; omega
    ·obtain rfl : q = nl := by omega
     have hlq' : ¬(q : Int) < (q : Int) := by omega
     go_wp2_with fail
     go_roundw
     case rel =>
      have e : sentS S (k + 1) = sentS S k ++ sentT S t L q := by rw [HSS.out, HNL.out]
      refine ⟨k + 1, _, na + q, by go_num, rfl, by omega, by omega, ?_, ?_, hBq.out⟩
      ·rw [e, List.length_append, HLEN.out]; unfold sentT; simp
      ·show Ow _ _ _ _ _ _; rw [e]; exact hOq.out
     case measure => simp [intOf]; omega
  ·obtain rfl : k = n3 := by omega
   have hlt' : ¬(k : Int) < (k : Int) := by omega
   have hO' := hO.out
   rw [← HN3.out] at hO'
   obtain ⟨A, hA⟩ : ∃ A, sentS S S.trips.length = A := ⟨_, rfl⟩
   rw [hA] at hO'
   obtain ⟨sa, n', sc, rfl⟩ := hO'.val
   have hn' := hO'.sl.len
   rw [List.length_map] at hn'
   have hnaa : A.length ≤ 1000000 := by
    have e1 := HLEN.out
    rw [← HN3.out, hA] at e1
    omega
   have HONE := Lib.hid (fun (M : List Snt) (hp : M.Perm A) (hs : M.Pairwise (fun a b => ¬sntLt b a)) => show M = insAll A by rw [← hA] at hp ⊢; exact reports_one HF.out HW.out hp hs)
   have HO' := Lib.hid hO'
   have HA := Lib.hid hA
   clear l0 l1 l2 l3 l4 l5 hO' hA
   obtain ⟨Wp, rfl⟩ : ∃ z : World, z = wr := ⟨_, rfl⟩
   have HSTB := Lib.hid (sortAny_any A Wp HO'.out hn' hnaa)
   obtain ⟨nA, hnA⟩ : ∃ z, n' = z := ⟨_, rfl⟩
   have hnb0 : nA ≤ 1000000 := by omega
   rw [hnA] at HSTB HO' ⊢
   have HNA := Lib.hid (show A.length = nA by omega)
   clear hnA hn' hnaa
   go_wp2_with fail
   refine HSTB.out.mono ?_
   rintro e' w4 ⟨rfl, M, hM1, hM2, hS4, hg4⟩
   have hMA := HONE.out M hM1 hM2
   have HL4 := Lib.hid (show M.length = nA by rw [hM1.length_eq]; exact HNA.out)
   have HMA := Lib.hid hMA
   have HS4 := Lib.hid (hS4.mono (B' := w2.heap.size) (Nat.le_refl _))
   have B4 := Lib.hid (hB.out.grown hg4 hB.out.size (fun b hb => (HO'.out.blk b hb).1))
   clear hS4 hg4 hM1 hM2 hMA
   go_wp2_with fail
   go_loopw [14, 79] (fun s14 s79 wx => ∃ (q : Nat) (vo : Value), s79 = .int .i64 q ∧ vo = s14 ∧ q ≤ nA ∧ Hid (Ow w2.heap.size wx 77 8 vo ((M.take q).map fun s => s.r.cs)) ∧ Hid (Ow w2.heap.size wx 94 9 (.slice sa nA sc) (M.map Snt.cs)) ∧ Hid (Below w2.heap.size w2 wx)) (fun _ s79 _ => nA - (intOf s79).toNat)
   case atStart => exact ⟨0, _, rfl, rfl, Nat.zero_le _, Ow.nil _ _ _ _, HS4.out, B4.out⟩
   case round =>
    obtain ⟨q, vo, rfl, rfl, hq, hOo, hOs, hBq⟩ := hrel
    by_cases hlq : q < nA
    ·have hql : q < M.length := by rw [HL4.out]; exact hlq
     obtain ⟨g, rfl⟩ : ∃ g, sa = some ⟨g, 0, none⟩ := by
      rcases hOs.out.shape with ⟨_, e⟩ | ⟨g, cap, e, _⟩
      ·rw [List.map_eq_nil_iff] at e; rw [e] at hql; simp at hql
      ·injection e with e1; exact ⟨g, e1⟩
     have x0 := hOs.out.cell q (by rw [List.length_map]; exact hql) 0 (by omega)
     have x1 := hOs.out.cell q (by rw [List.length_map]; exact hql) 1 (by omega)
     have x2 := hOs.out.cell q (by rw [List.length_map]; exact hql) 2 (by omega)
     have x3 := hOs.out.cell q (by rw [List.length_map]; exact hql) 3 (by omega)
     have x4 := hOs.out.cell q (by rw [List.length_map]; exact hql) 4 (by omega)
     have x5 := hOs.out.cell q (by rw [List.length_map]; exact hql) 5 (by omega)
     have x6 := hOs.out.cell q (by rw [List.length_map]; exact hql) 6 (by omega)
     have x7 := hOs.out.cell q (by rw [List.length_map]; exact hql) 7 (by omega)
     have x8 := hOs.out.cell q (by rw [List.length_map]; exact hql) 8 (by omega)
     simp only [List.getElem_map] at x0 x1 x2 x3 x4 x5 x6 x7 x8
     obtain ⟨y, hy⟩ : ∃ z, M[q] = z := ⟨_, rfl⟩
     rw [hy] at x0 x1 x2 x3 x4 x5 x6 x7 x8
     have HY := Lib.hid hy
     simp only [Snt.cs, List.getElem?_cons_succ, List.getElem?_cons_zero, Nat.add_zero] at x0 x1 x2 x3 x4 x5 x6 x7 x8
     have zg := (hOs.out.blk g rfl).2
     have hBw := hBq.out.size
     obtain ⟨ab, n', cb, rfl⟩ := hOo.out.val
     have hn' := hOo.out.sl.len
     rw [List.length_map, List.length_take, HL4.out] at hn'
     have hnn : n' = q := by omega
     subst hnn
     have HNB := Lib.hid (show n' = (M.take n').length by rw [List.length_take, HL4.out]; omega)
     have hq1 : (0 : Int) ≤ (n' : Int) := by omega
     have hq2 : (n' : Int) < (nA : Int) := by omega
     have HOWN : Hid (∀ W, Below wr.heap.size wr W → W.ownsRow w2.heap.size 77 8 (.slice ab n' cb) n' ((M.take n').map fun s => s.r.cs).flatten) := fun W hW => by
      have qq := (hOo.out.keep hW).1
      rw [List.length_map, ← HNB.out] at qq
      exact qq
     clear hn' hy
     go_wp2_with (at_builtin; refine wpList_append_lies _ (by rfl) _ _ _ (by rfl) w2.heap.size 77 rp0_ _ 8 64 uRptT rpi rp0 rp1 rp2 rfl (by decide) (.slice ab n' cb) n' ((M.take n').map fun s => s.r.cs).flatten (by rfl) (HOWN.out _ (by (repeat (first | with_reducible exact Below.refl _ _ | with_reducible assumption | ((with_reducible first | refine Below.setCell ?_ ?_ _ | refine Below.alloc ?_ ?_ _); rotate_left; focus (first | exact Nat.le_refl _ | omega | exact Below.size (by assumption) | (simp <;> omega))) | with_reducible refine Below.drew ?_ | with_reducible refine drewN_ ?_ _)))) ⟨wr.heap.size + 1, 0, none⟩ 1 1 (y.r.cs) (by rfl) rfl (World.news_of_block (cs := #[.int .i64 y.r.obj, .int .i64 y.r.seq, .int .i64 y.r.ver, .int .i64 y.r.dev, .int .i64 y.r.at_, .int .i64 y.r.x, .int .i64 y.r.y, .bool y.r.cancel]) (t := 77) (fr := (0, 0)) (obj_last2 _ _ _)) (rpt_cell1 _) (by omega) (by unfold maxLen; omega) (by omega) (by have := hBw; first | omega | (simp; omega)) _ rfl ?_; intro g2 cap2 w7 hown2 hgrow2 hat2 hlt2; have hall2 : wr.grownBy w7 (Value.ownBlock (.slice ab n' cb)) := (grown_of (by (repeat (first | with_reducible exact Below.refl _ _ | with_reducible assumption | ((with_reducible first | refine Below.setCell ?_ ?_ _ | refine Below.alloc ?_ ?_ _); rotate_left; focus (first | exact Nat.le_refl _ | omega | exact Below.size (by assumption) | (simp <;> omega))) | with_reducible refine Below.drew ?_ | with_reducible refine drewN_ ?_ _)))).trans hgrow2; have HALL2 := Lib.hid hall2; have HOWN2 := Lib.hid hown2; clear hgrow2 hat2 hall2 hown2)
     go_roundw
     case rel =>
      refine ⟨n' + 1, _, by go_num, rfl, by omega, ?_, ?_, ?_⟩
      ·show Ow _ _ _ _ _ _
       rw [List.take_add_one, List.getElem?_eq_getElem hql, HY.out]
       exact rpt_add HNB.out HOWN2.out
      ·exact hOs.out.kept HALL2.out (rows_apart hOo.out hOs.out (by decide))
      ·exact hBq.out.grown HALL2.out hBq.out.size (fun b hb => (hOo.out.blk b hb).1)
     case measure => simp [intOf]; omega
    ·obtain rfl : q = nA := by omega
     have hlq' : ¬(q : Int) < (q : Int) := by omega
     have HOF := hOo.out
     rw [List.take_of_length_le (by rw [HL4.out]; exact Nat.le_refl _)] at HOF
     have HOFH := Lib.hid HOF
     clear HOF
     go_wp2_with fail
     go_ret2
     exact ⟨⟨_, rfl, by rw [HA.out, ← HMA.out]; exact HOFH.out.mono B2.out.size⟩, B2.out.trans (hBq.out.mono B2.out.size)⟩
end Go.Proofs.YthkhgfdjdpfoiaaGreat
