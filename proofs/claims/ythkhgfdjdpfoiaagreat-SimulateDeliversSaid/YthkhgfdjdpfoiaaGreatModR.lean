/-
 The model's reports: insertion by time.
-/
import Derived.Test.YthkhgfdjdpfoiaaGreatRepA
import Derived.Test.YthkhgfdjdpfoiaaGreatWlkA
import Derived.Deep.RegionLawGrows
import Derived.Deep.CutBlock
import Derived.Deep.CutRange
import Derived.Deep.DeepCutAuto
set_option linter.unusedSimpArgs false
set_option linter.unusedVariables false
namespace Go.Proofs.YthkhgfdjdpfoiaaGreat
open Go Go.RowKit Go.Vi
theorem uMsnT : Tryz.prog.underlying 101 = some (.slice 110) := by kernel_rfl
theorem iMsnT : (Tryz.prog.info? 110).map (fun i => (i.zero, i.size, i.bytes)) = some (some (.agg #[.int .i64 0, .int .i64 0, .int .i64 0, .int .i64 0, .int .i64 0, .int .i64 0, .int .i64 0, .int .i64 0, .bool false]), 9, 72) := by kernel_rfl
/-- What the two appends of an insertion leave. -/
theorem own_ins {B e p n m : Nat} {w' : World} {v' : Value} {l : List Snt} {x : Snt} (hp : p ≤ n) (hn : l.length = n) (hm : m = 1 + (n - p)) (h : w'.ownsRow B e 9 v' (p + m) (((l.take p).map Snt.cs).flatten ++ (x.cs ++ ((l.drop p).map Snt.cs).flatten))) : Ow B w' e 9 v' ((l.take p ++ x :: l.drop p).map Snt.cs) := by
 refine ⟨?_, fun r hr => by obtain ⟨y, _, rfl⟩ := List.mem_map.1 hr; rfl⟩
 have e1 : ((l.take p ++ x :: l.drop p).map Snt.cs).length = p + m := by simp; omega
 rw [e1, List.map_append, List.flatten_append, List.map_cons, List.flatten_cons]
 exact h
theorem obj_set9 {w : World} {b : Nat} {T : TypeId} {fr : Nat × Nat} {c0 c1 c2 c3 c4 c5 c6 c7 c8 v0 v1 v2 v3 v4 v5 v6 v7 v8 : Value} (h : w.heap[b]? = some (.cells #[c0, c1, c2, c3, c4, c5, c6, c7, c8] T fr)) : (((((((((w.setCell ⟨b, 0, none⟩ v0).setCell ⟨b, 1, none⟩ v1).setCell ⟨b, 2, none⟩ v2).setCell ⟨b, 3, none⟩ v3).setCell ⟨b, 4, none⟩ v4).setCell ⟨b, 5, none⟩ v5).setCell ⟨b, 6, none⟩ v6).setCell ⟨b, 7, none⟩ v7).setCell ⟨b, 8, none⟩ v8).heap[b]? = some (.cells #[v0, v1, v2, v3, v4, v5, v6, v7, v8] T fr) := by
 rw [obj_set (obj_set (obj_set (obj_set (obj_set (obj_set (obj_set (obj_set (obj_set h))))))))]
 simp
set_option maxRecDepth 100000 in
set_option maxHeartbeats 20000000 in
theorem reportsM_any (S : Scn) (v1 v2 v3 v4 v5 : Value) (w : World) (hS : ScnAt w.heap.size w v1 v2 v3 v4 v5 S) (hF : Fit S) (hW : wayErr S = 0) :
  Calls Tryz.prog 12 #[S.v v1 v2 v3 v4 v5] w fun e w' => (∃ v, e = .returned v ∧ Ow w.heap.size w' 77 8 v ((insAll (sentS S S.trips.length)).map fun s => s.r.cs)) ∧ Below w.heap.size w w' := by
 obtain ⟨a3, n3, c3, rfl, hn3, hn31, hn32⟩ := hS.trips.open
 obtain ⟨a4, n4, c4, rfl, hn4, hn41, hn42⟩ := hS.clocks.open
 obtain ⟨a5, n5, c5, rfl, hn5, hn51, hn52⟩ := hS.syncs.open
 have hnt := hF.ntrips
 rw [hn3] at hnt
 have HS := Lib.hid hS
 have HF := Lib.hid hF
 have HW := Lib.hid hW
 have HN3 := Lib.hid hn3
 have HK := Lib.hid (netOK_of hF.net)
 clear hS hF hW hn3 hn4 hn5 hn31 hn32 hn41 hn42 hn51 hn52
 obtain ⟨sn0_, sni, sn0, sn1, sn2⟩ := info_parts iMsnT
 obtain ⟨rp0_, rpi, rp0, rp1, rp2⟩ := info_parts iRptT
 go_enter Tryz.func12, Tryz.ntmps12
 go_wp2_with fail
 obtain ⟨W0, hW0⟩ : ∃ W0, W0 = w.alloc (.cells #[v1, v2, .int .i64 S.gap, .slice a3 n3 c3, .slice a4 n4 c4, .slice a5 n5 c5] 40) := ⟨_, rfl⟩
 have P0 := Lib.hid (obj_last w (.cells #[v1, v2, .int .i64 S.gap, .slice a3 n3 c3, .slice a4 n4 c4, .slice a5 n5 c5] 40))
 have B0 := Lib.hid ((Below.refl w.heap.size w).alloc (Nat.le_refl _) (.cells #[v1, v2, .int .i64 S.gap, .slice a3 n3 c3, .slice a4 n4 c4, .slice a5 n5 c5] 40))
 rw [← hW0] at P0 B0 ⊢
 obtain ⟨bs, hbs⟩ : ∃ z, w.heap.size = z := ⟨_, rfl⟩
 rw [hbs] at P0 ⊢
 clear hW0
 have HBS := Lib.hid hbs
 have zb0 := obj_lt P0.out
 clear hbs
 go_loopw [3, 4] (fun s3 s4 wx => ∃ (k : Nat) (va : Value) (na : Nat), s4 = .int .i64 k ∧ va = s3 ∧ k ≤ n3 ∧ na ≤ 256 * k ∧ (sentS S k).length = na ∧ Hid (Ow W0.heap.size wx 110 9 va ((insAll (sentS S k)).map Snt.cs)) ∧ Hid (Below W0.heap.size W0 wx)) (fun _ s4 _ => n3 - (intOf s4).toNat)
 case atStart => exact ⟨0, _, 0, rfl, rfl, Nat.zero_le _, by omega, rfl, Ow.nil _ _ _ _, Below.refl _ _⟩
 case round =>
  obtain ⟨k, va, na, rfl, rfl, hk, hna, hlen, hO, hB⟩ := hrel
  have HLEN := Lib.hid hlen
  have hPw := keepObj hB.out P0.out
  have l0 := obj_cell hPw 0
  have l1 := obj_cell hPw 1
  have l2 := obj_cell hPw 2
  have l3 := obj_cell hPw 3
  have l4 := obj_cell hPw 4
  have l5 := obj_cell hPw 5
  simp at l0 l1 l2 l3 l4 l5
  have zb := obj_lt hPw
  have BX := Lib.hid (B0.out.trans (hB.out.mono B0.out.size))
  have PX := Lib.hid hPw
  clear hPw hlen
  by_cases hlt : k < n3
  ·have hkl : k < S.trips.length := by rw [HN3.out]; exact hlt
   obtain ⟨b, off, rfl, hb, hcs⟩ := HS.out.trips.at k hkl
   obtain ⟨v, hv, t0, t1, t2, t3, t4⟩ := hcs k hkl
   rw [← BX.out.cell (p := ⟨b, _, none⟩) hb] at t0 t1 t2 t3 t4
   have hzb : b < wr.heap.size := by have := BX.out.size; omega
   have hob := off_bound HF.out.clocks S.trips[k]!.dev
   have hfit := tripFit_of (HF.out.trips k hkl)
   have hss := sentS_succ S hkl
   have hok := wayErrT_zero S.trips (wayErr_zero HW.out) S.trips[k]! (by rw [getElem!_pos S.trips k hkl]; exact List.getElem_mem hkl)
   obtain ⟨t, ht⟩ : ∃ t, t = S.trips[k]! := ⟨_, rfl⟩
   rw [← ht] at t0 t1 t2 t3 hob hfit hss hok hv
   obtain ⟨L, hst, _⟩ := hok
   obtain ⟨o, ho⟩ : ∃ o, o = offOf S.clocks t.dev := ⟨_, rfl⟩
   rw [← ho] at hob
   obtain ⟨av, m, cv, rfl, _, _, _⟩ := hv.open
   have HV := Lib.hid hv
   have HFIT := Lib.hid hfit
   have HST := Lib.hid hst
   have HOO := Lib.hid ho
   have hso : sentOf S t = sentT S t L L.length := by unfold sentOf; rw [hst]
   rw [hso] at hss
   have HSS := Lib.hid hss
   obtain ⟨ho1, ho2⟩ := hob
   have hk1 : (0 : Int) ≤ (k : Int) := by omega
   have hk2 : (k : Int) < (n3 : Int) := by omega
   clear hcs ht hfit hv ho hst hss hso
   go_wp2_with fail
   obtain ⟨W1, hW1⟩ : ∃ W1, W1 = wr.alloc (.cells #[.int .i64 t.obj, .int .i64 t.dev, .int .i64 t.start, .int .i64 t.speed, .slice av m cv] 73) := ⟨_, rfl⟩
   obtain ⟨bt, hbt⟩ : ∃ z, wr.heap.size = z := ⟨_, rfl⟩
   have PT := Lib.hid (obj_last wr (.cells #[.int .i64 t.obj, .int .i64 t.dev, .int .i64 t.start, .int .i64 t.speed, .slice av m cv] 73))
   have BW := Lib.hid ((Below.refl wr.heap.size wr).alloc (Nat.le_refl _) (.cells #[.int .i64 t.obj, .int .i64 t.dev, .int .i64 t.start, .int .i64 t.speed, .slice av m cv] 73))
   have zW1 : bt < W1.heap.size := by rw [hW1, ← hbt]; simp
   have hbt2 : W0.heap.size ≤ bt := by have := hB.out.size; omega
   rw [hbt] at PT ⊢
   rw [← hW1] at PT BW ⊢
   have BT := Lib.hid (BX.out.trans (BW.out.mono BX.out.size))
   have B2T := Lib.hid (hB.out.trans (BW.out.mono hB.out.size))
   have PX1 := Lib.hid (keepObj BW.out PX.out)
   have HO1 := Lib.hid (hO.out.keep BW.out)
   have zW2 := BW.out.size
   clear hW1 hbt
   refine (walk_any S t v1 v2 _ _ _ _ W1 ((HS.out.net.keep BT.out (Nat.le_refl _)).mono (by have := BT.out.size; omega)) ((HV.out.keep BT.out (Nat.le_refl _)).mono (by have := BT.out.size; omega)) HK.out HF.out.few HF.out.gap HFIT.out).mono ?_
   rintro e w3 ⟨hR, hb3⟩
   rw [HST.out] at hR
   obtain ⟨vl, vg, rfl, hOL⟩ := hR
   have hst3 := stops_rise HK.out HF.out.few HF.out.gap HFIT.out HST.out
   have hL256 := hst3.2.2
   have BT3 := Lib.hid (BT.out.trans (hb3.mono BT.out.size))
   have B23 := Lib.hid (B2T.out.trans (hb3.mono B2T.out.size))
   have PT3 := Lib.hid (keepObj hb3 PT.out)
   have PX3 := Lib.hid (keepObj hb3 PX1.out)
   have HO3 := Lib.hid (HO1.out.keep hb3)
   have hOL2 := hOL.mono (B' := W0.heap.size) (by have := B2T.out.size; omega)
   obtain ⟨al, nl, cl, rfl⟩ := hOL2.val
   have hnl := hOL2.sl.len
   rw [List.length_map] at hnl
   have HNL := Lib.hid hnl
   have HR := Lib.hid hst3.1
   have HOL := Lib.hid hOL2
   rw [hnl] at hL256
   have hstart := HFIT.out.start
   have td := obj_cell PT3.out 1
   have m0 := obj_cell PX3.out 0
   have m1 := obj_cell PX3.out 1
   have m2 := obj_cell PX3.out 2
   have m3 := obj_cell PX3.out 3
   have m4 := obj_cell PX3.out 4
   have m5 := obj_cell PX3.out 5
   simp at td m0 m1 m2 m3 m4 m5
   have zt3 := obj_lt PT3.out
   have zs3 := obj_lt PX3.out
   clear hb3 hOL hOL2 hnl hst3 t0 t1 t2 t3 t4 l0 l1 l2 l3 l4 l5 PT PX1 HO1 BW B2T BT zW1 zW2 hzb
   go_wp2_with fail
   refine (offset_any S v1 v2 _ _ _ _ w3 ((HS.out.clocks.keep BT3.out (Nat.le_refl _)).mono (by have := BT3.out.size; omega)) HF.out.nclocks).mono ?_
   rintro e w4 ⟨rfl, hb4⟩
   rw [← HOO.out]
   have BT4 := Lib.hid (BT3.out.trans (hb4.mono BT3.out.size))
   have B24 := Lib.hid (B23.out.trans (hb4.mono B23.out.size))
   have PT4 := Lib.hid (keepObj hb4 PT3.out)
   have HO4 := Lib.hid (HO3.out.keep hb4)
   have HOL4 := Lib.hid (HOL.out.keep hb4)
   clear hb4 PT3 PX3 HO3 HOL B23 td m0 m1 m2 m3 m4 m5 zt3 zs3
   obtain ⟨Wp, rfl⟩ : ∃ z : World, z = wr := ⟨_, rfl⟩
   go_wp2_with fail
   go_loopw [3, 11] (fun s3 s11 wx => ∃ (q : Nat) (vb : Value) (nb : Nat), s11 = .int .i64 q ∧ vb = s3 ∧ q ≤ nl ∧ nb = na + q ∧ Hid (Ow W0.heap.size wx 110 9 vb ((insAll (sentS S k ++ sentT S t L q)).map Snt.cs)) ∧ Hid (Ow W0.heap.size wx 75 2 (.slice al nl cl) (L.map Stp.cs)) ∧ Hid (wx.heap[bt]? = some (.cells #[.int .i64 t.obj, .int .i64 t.dev, .int .i64 t.start, .int .i64 t.speed, .slice av m cv] 73)) ∧ Hid (Below W0.heap.size W0 wx)) (fun _ s11 _ => nl - (intOf s11).toNat)
   case atStart => exact ⟨0, _, na, rfl, rfl, Nat.zero_le _, rfl, by show Ow _ _ _ _ _ _; simpa [sentT] using HO4.out, HOL4.out, PT4.out, B24.out⟩
   case round =>
    obtain ⟨q, vb, nb, rfl, rfl, hq, hnb, hOq, hLq, hTq, hBq⟩ := hrel
    by_cases hlq : q < nl
    ·have hql : q < L.length := by rw [HNL.out]; exact hlq
     obtain ⟨gl, rfl⟩ : ∃ g, al = some ⟨g, 0, none⟩ := by
      rcases hLq.out.shape with ⟨_, e⟩ | ⟨g, cap, e, _⟩
      ·rw [List.map_eq_nil_iff] at e; rw [e] at hql; simp at hql
      ·injection e with e1; exact ⟨g, e1⟩
     have x0 := hLq.out.cell q (by rw [List.length_map]; exact hql) 0 (by omega)
     have x1 := hLq.out.cell q (by rw [List.length_map]; exact hql) 1 (by omega)
     simp only [List.getElem_map] at x0 x1
     have hxm : L[q] ∈ L := List.getElem_mem hql
     have hxt := HR.out.2 _ hxm
     obtain ⟨x, hx⟩ : ∃ z, L[q] = z := ⟨_, rfl⟩
     rw [hx] at x0 x1 hxt
     simp only [Stp.cs, List.getElem?_cons_succ, List.getElem?_cons_zero, Nat.add_zero] at x0 x1
     have HX := Lib.hid (show L[q]! = x by rw [getElem!_pos L q hql]; exact hx)
     obtain ⟨hx1, hx2⟩ := hxt
     have hsum : IntKind.i64.wrap (x.time + o) = x.time + o := IntWalk.i64_in _ (by omega)
     have zgl := (hLq.out.blk gl rfl).2
     have t0 := obj_cell hTq.out 0
     have t1 := obj_cell hTq.out 1
     simp at t0 t1
     have zt := obj_lt hTq.out
     have PXq := keepObj hBq.out P0.out
     have l0 := obj_cell PXq 0
     have l1 := obj_cell PXq 1
     simp at l0 l1
     have zbq := obj_lt PXq
     have hBw := hBq.out.size
     have BXq := Lib.hid (B0.out.trans (hBq.out.mono B0.out.size))
     have HNWq := Lib.hid ((HS.out.net.keep BXq.out (Nat.le_refl _)).mono (B' := wr.heap.size) (by have := BXq.out.size; omega))
     have hq1 : (0 : Int) ≤ (q : Int) := by omega
     have hq2 : (q : Int) < (nl : Int) := by omega
     obtain ⟨ab, n', cb, rfl⟩ := hOq.out.val
     have hnb' := hOq.out.sl.len
     obtain ⟨l, hl⟩ : ∃ z, z = insAll (sentS S k ++ sentT S t L q) := ⟨_, rfl⟩
     have hll : l.length = nb := by
      rw [hl, (insAll_perm _).length_eq, List.length_append, HLEN.out]
      unfold sentT
      simp
      omega
     rw [← hl] at hOq hnb'
     rw [List.length_map] at hnb'
     obtain rfl : n' = nb := by omega
     have HLL := Lib.hid hll
     have HL := Lib.hid hl
     have hnbb : n' ≤ 20000 := by omega
     have HNBQ := Lib.hid hnb
     obtain ⟨nd, hnd⟩ : ∃ z, (nodeOf S.net.nodes x.node).getD nd0 = z := ⟨_, rfl⟩
     have HND := Lib.hid hnd
     clear hxm hx PXq hnb' hnb hl hll hnd
     go_upto_region 11 with fail
     go_cut [12, 13] (fun s12 s13 wx => ∃ bn : Nat, s12 = .pointer (some ⟨bn, 0, none⟩) ∧ wr.heap.size ≤ bn ∧ Hid (wx.heap[bn]? = some (.cells #[.int .i64 nd.id, .int .i64 nd.x, .int .i64 nd.y] 106)) ∧ Hid (Below wr.heap.size wr wx))
     case first =>
      go_region_held3 (fun w' => w'.cell? ⟨bs, 0, none⟩ = some v1 ∧ w'.cell? ⟨bs, 1, none⟩ = some v2 ∧ w'.cell? ⟨gl, q * 2 + 1, none⟩ = some (.int .i64 x.node))
       (((go_split_ands; refine ⟨?_, ?_, ?_⟩ <;> first | with_reducible assumption | exact ((show Below wr.heap.size wr _ from (by (repeat (first | with_reducible exact Below.refl _ _ | with_reducible assumption | ((with_reducible first | refine Below.setCell ?_ ?_ _ | refine Below.alloc ?_ ?_ _); rotate_left; focus (first | exact Nat.le_refl _ | omega | exact Below.size (by assumption) | (simp <;> omega))) | with_reducible refine Below.drew ?_ | with_reducible refine drewN_ ?_ _)))).cell (p := ⟨_, _, none⟩) (by first | with_reducible assumption | omega)).trans (by with_reducible assumption))))
       ((go_at_call 31; refine (node_any S.net v1 v2 _ _ (HNWq.out.later (by (repeat (first | with_reducible exact Below.refl _ _ | with_reducible assumption | ((with_reducible first | refine Below.setCell ?_ ?_ _ | refine Below.alloc ?_ ?_ _); rotate_left; focus (first | exact Nat.le_refl _ | omega | exact Below.size (by assumption) | (simp <;> omega))) | with_reducible refine Below.drew ?_ | with_reducible refine drewN_ ?_ _)))) HK.out.nodes (by have := HK.out.few; omega)).mono ?_; rintro e w5 ⟨rfl, hb5⟩; rw [HND.out]; have B5 := from_ (w := wr) hb5 (by (repeat (first | with_reducible exact Below.refl _ _ | with_reducible assumption | ((with_reducible first | refine Below.setCell ?_ ?_ _ | refine Below.alloc ?_ ?_ _); rotate_left; focus (first | exact Nat.le_refl _ | omega | exact Below.size (by assumption) | (simp <;> omega))) | with_reducible refine Below.drew ?_ | with_reducible refine drewN_ ?_ _))); (first | (have LL := keepObj hb5 (b := wr.heap.size) (o := (.cells #[.int .i64 0, .int .i64 0, .int .i64 0] 106)) (by first | exact obj_last wr (.cells #[.int .i64 0, .int .i64 0, .int .i64 0] 106) | exact obj_drew (obj_last wr (.cells #[.int .i64 0, .int .i64 0, .int .i64 0] 106)) | exact obj_last wr.drew (.cells #[.int .i64 0, .int .i64 0, .int .i64 0] 106) | exact obj_drew (obj_last wr.drew (.cells #[.int .i64 0, .int .i64 0, .int .i64 0] 106))); have e0 := obj_cell LL 0; have e1 := obj_cell LL 1; have e2 := obj_cell LL 2; have f0 := obj_free LL 0; have f1 := obj_free LL 1; have f2 := obj_free LL 2; simp at e0 e1 e2; have ze := obj_lt LL) | (guard_hyp hb5 : Below wr.drew.heap.size wr.drew w5) | (guard_hyp hb5 : Below wr.heap.size wr w5)); have zz5 := hb5.size; (try simp at zz5); clear hb5))
      all_goals
       go_wp2_with fail
       go_meet
       refine ⟨_, rfl, ?_, ?_, by show Below _ _ _; (repeat (first | with_reducible exact Below.refl _ _ | with_reducible assumption | ((with_reducible first | refine Below.setCell ?_ ?_ _ | refine Below.alloc ?_ ?_ _); rotate_left; focus (first | exact Nat.le_refl _ | omega | exact Below.size (by assumption) | (simp <;> omega))) | with_reducible refine Below.drew ?_ | with_reducible refine drewN_ ?_ _))⟩
       ·first | exact Nat.le_refl _ | omega | (simp; omega)
       ·show _ = _
        first
         | with_reducible exact obj_last _ _
         | with_reducible exact obj_set3 LL
     case rest =>
      obtain ⟨bn, rfl, hbn, hNB, hBc⟩ := hcut
      obtain ⟨wd, rfl⟩ : ∃ z : World, z = wc := ⟨_, rfl⟩
      have hOd := Lib.hid (hOq.out.keep hBc.out)
      have hLd := Lib.hid (hLq.out.keep hBc.out)
      have hTd := Lib.hid (keepObj hBc.out hTq.out)
      have BRd := Lib.hid (hBq.out.trans (hBc.out.mono hBq.out.size))
      have y0 := (hBc.out.cell (p := ⟨gl, q * 2, none⟩) zgl).trans x0
      have u0 := obj_cell hTd.out 0
      have u1 := obj_cell hTd.out 1
      have e0 := obj_cell hNB.out 0
      have e1 := obj_cell hNB.out 1
      have e2 := obj_cell hNB.out 2
      simp at u0 u1 e0 e1 e2
      have zgd : gl < wd.heap.size := by have := hBc.out.size; omega
      have ztd := obj_lt hTd.out
      have znd := obj_lt hNB.out
      clear x0 x1 t0 t1 l0 l1 zt zgl zbq hOq hLq hTq hBq hbn
      go_upto_region 12 with fail
      go_cut [14] (fun s14 wx => ∃ bx : Nat, s14 = .pointer (some ⟨bx, 0, none⟩) ∧ wd.heap.size ≤ bx ∧ Hid (wx.heap[bx]? = some (.cells #[.int .i64 x.time, .int .i64 t.obj, .int .i64 q, .int .i64 0, .int .i64 t.dev, .int .i64 (x.time + o), .int .i64 nd.x, .int .i64 nd.y, .bool false] 110)) ∧ Hid (Below wd.heap.size wd wx))
      case first =>
       go_region_held3 (fun w' => w'.cell? ⟨gl, q * 2, none⟩ = some (.int .i64 x.time) ∧ w'.cell? ⟨bt, 0, none⟩ = some (.int .i64 t.obj) ∧ w'.cell? ⟨bt, 1, none⟩ = some (.int .i64 t.dev) ∧ w'.cell? ⟨bn, 1, none⟩ = some (.int .i64 nd.x) ∧ w'.cell? ⟨bn, 2, none⟩ = some (.int .i64 nd.y))
        (((go_split_ands; refine ⟨?_, ?_, ?_, ?_, ?_⟩ <;> first | with_reducible assumption | exact ((show Below wd.heap.size wd _ from (by (repeat (first | with_reducible exact Below.refl _ _ | with_reducible assumption | ((with_reducible first | refine Below.setCell ?_ ?_ _ | refine Below.alloc ?_ ?_ _); rotate_left; focus (first | exact Nat.le_refl _ | omega | exact Below.size (by assumption) | (simp <;> omega))) | with_reducible refine Below.drew ?_ | with_reducible refine drewN_ ?_ _)))).cell (p := ⟨_, _, none⟩) (by first | with_reducible assumption | omega)).trans (by with_reducible assumption))))
        (fail)
       all_goals
        go_wp2_with fail
        go_meet
        refine ⟨_, rfl, ?_, ?_, by show Below _ _ _; (repeat (first | with_reducible exact Below.refl _ _ | with_reducible assumption | ((with_reducible first | refine Below.setCell ?_ ?_ _ | refine Below.alloc ?_ ?_ _); rotate_left; focus (first | exact Nat.le_refl _ | omega | exact Below.size (by assumption) | (simp <;> omega))) | with_reducible refine Below.drew ?_ | with_reducible refine drewN_ ?_ _))⟩
        ·first | exact Nat.le_refl _ | omega | (simp; omega)
        ·show _ = _
         first
          | with_reducible exact obj_last _ _
          | with_reducible exact obj_drew (obj_last _ _)
          | with_reducible exact obj_set9 (obj_last _ _)
          | with_reducible exact obj_set9 (obj_drew (obj_last _ _))
      case rest =>
       obtain ⟨bx, rfl, hbx, hXB, hBe⟩ := hcut
       obtain ⟨wf, rfl⟩ : ∃ z : World, z = wc := ⟨_, rfl⟩
       have hOf := Lib.hid (hOd.out.keep hBe.out)
       have hLf := Lib.hid (hLd.out.keep hBe.out)
       have hTf := Lib.hid (keepObj hBe.out hTd.out)
       have BRf := Lib.hid (BRd.out.trans (hBe.out.mono BRd.out.size))
       obtain ⟨X, hXX⟩ : ∃ X : Snt, X = ⟨x.time, ⟨t.obj, q, 0, t.dev, x.time + o, nd.x, nd.y, false⟩⟩ := ⟨_, rfl⟩
       have HXX := Lib.hid hXX
       have zxf := obj_lt hXB.out
       clear y0 u0 u1 e0 e1 e2 zgd ztd znd hNB hXX
       go_upto_block 4 with fail
       go_cut [15] (fun s15 wx => ∃ p : Nat, s15 = .int .i64 p ∧ p ≤ n' ∧ Hid (posT l x.time n' = p) ∧ Hid (Below wf.heap.size wf wx))
       case first =>
        go_wp2_with fail
        go_loopw [15] (fun s15 wx => ∃ p : Nat, s15 = .int .i64 p ∧ p ≤ n' ∧ Hid (posT l x.time n' = posT l x.time p) ∧ Hid (Below wf.heap.size wf wx)) (fun s15 _ => (intOf s15).toNat)
        case atStart => exact ⟨n', rfl, Nat.le_refl _, rfl, Below.refl _ _⟩
        case round =>
         obtain ⟨p, rfl, hp, hPE, hBp⟩ := hrel
         rcases Nat.eq_zero_or_pos p with hp0 | hp0
         ·subst hp0
          have hPE0 : Hid (posT l x.time n' = 0) := hPE
          have hd0 : decide ((0 : Int) < ((0 : Nat) : Int)) = false := by decide
          go_wp2_with fail
          go_quiet (fail)
          go_wp2_with fail
          go_meet
          exact ⟨0, rfl, Nat.zero_le _, hPE0, by have h := hBp.out; show Below _ _ _; (repeat (first | with_reducible exact Below.refl _ _ | with_reducible assumption | ((with_reducible first | refine Below.setCell ?_ ?_ _ | refine Below.alloc ?_ ?_ _); rotate_left; focus (first | exact Nat.le_refl _ | omega | exact Below.size (by assumption) | (simp <;> omega))) | with_reducible refine Below.drew ?_ | with_reducible refine drewN_ ?_ _))⟩
         ·have hd1 : decide ((0 : Int) < (p : Int)) = true := by simpa using hp0
          obtain ⟨j, hj⟩ : ∃ j, j = p - 1 := ⟨_, rfl⟩
          have hjl : j < l.length := by rw [HLL.out]; omega
          obtain ⟨gb, rfl⟩ : ∃ g, ab = some ⟨g, 0, none⟩ := by
           rcases hOf.out.shape with ⟨_, e⟩ | ⟨g, cap, e, _⟩
           ·rw [List.map_eq_nil_iff] at e; rw [e] at hjl; simp at hjl
           ·injection e with e1; exact ⟨g, e1⟩
          have hOr := hOf.out.keep hBp.out
          have c0 := hOr.cell j (by rw [List.length_map]; exact hjl) 0 (by omega)
          simp only [List.getElem_map] at c0
          have hgz := (hOr.blk gb rfl).2
          have hxb := keepObj hBp.out hXB.out
          have d0 := obj_cell hxb 0
          simp at d0
          have hbz := obj_lt hxb
          have hpx : posT l x.time p = if x.time < l[j]!.time then posT l x.time j else p := by
           rw [show p = j + 1 by omega]; rfl
          obtain ⟨y, hy⟩ : ∃ z, l[j] = z := ⟨_, rfl⟩
          rw [getElem!_pos l j hjl, hy] at hpx
          rw [hy] at c0
          simp only [Snt.cs, List.getElem?_cons_zero, Nat.add_zero] at c0
          have HPX := Lib.hid hpx
          have hjp : j < p := by omega
          have j1 : (0 : Int) ≤ (j : Int) := by omega
          have j2 : (j : Int) < (n' : Int) := by omega
          have HJ := Lib.hid hj
          have hpj : (p : Int) - 1 = (j : Int) := by omega
          have hwj : IntKind.i64.wrap (j : Int) = (j : Int) := IntWalk.i64_in _ (by omega)
          clear hj hpx hy hOr hxb
          by_cases hlt : x.time < y.time
          ·have hd2 : decide (x.time < y.time) = true := by simpa using hlt
           go_wp2_with fail
           go_quiet (fail)
           go_wp2_with fail
           go_roundw
           case rel => exact ⟨j, by go_num, by omega, by show _ = _; rw [hPE.out, HPX.out, if_pos hlt], by have h := hBp.out; show Below _ _ _; (repeat (first | with_reducible exact Below.refl _ _ | with_reducible assumption | ((with_reducible first | refine Below.setCell ?_ ?_ _ | refine Below.alloc ?_ ?_ _); rotate_left; focus (first | exact Nat.le_refl _ | omega | exact Below.size (by assumption) | (simp <;> omega))) | with_reducible refine Below.drew ?_ | with_reducible refine drewN_ ?_ _))⟩
           case measure => simp [intOf]; omega
          ·have hd2 : decide (x.time < y.time) = false := by simpa using hlt
           go_wp2_with fail
           go_quiet (fail)
           go_wp2_with fail
           go_meet
           exact ⟨p, rfl, hp, by show _ = _; rw [hPE.out, HPX.out, if_neg (by omega)], by have h := hBp.out; show Below _ _ _; (repeat (first | with_reducible exact Below.refl _ _ | with_reducible assumption | ((with_reducible first | refine Below.setCell ?_ ?_ _ | refine Below.alloc ?_ ?_ _); rotate_left; focus (first | exact Nat.le_refl _ | omega | exact Below.size (by assumption) | (simp <;> omega))) | with_reducible refine Below.drew ?_ | with_reducible refine drewN_ ?_ _))⟩
       case rest =>
        obtain ⟨p, rfl, hp, hPE, hBp⟩ := hcut
        obtain ⟨wg, rfl⟩ : ∃ z : World, z = wc := ⟨_, rfl⟩
        have hOg := Lib.hid (hOf.out.keep hBp.out)
        have hLg := Lib.hid (hLf.out.keep hBp.out)
        have hTg := Lib.hid (keepObj hBp.out hTf.out)
        have hXg := Lib.hid (keepObj hBp.out hXB.out)
        have BRg := Lib.hid (BRf.out.trans (hBp.out.mono BRf.out.size))
        have zxg := obj_lt hXg.out
        have e0 := obj_cell hXg.out 0
        have e1 := obj_cell hXg.out 1
        have e2 := obj_cell hXg.out 2
        have e3 := obj_cell hXg.out 3
        have e4 := obj_cell hXg.out 4
        have e5 := obj_cell hXg.out 5
        have e6 := obj_cell hXg.out 6
        have e7 := obj_cell hXg.out 7
        have e8 := obj_cell hXg.out 8
        simp at e0 e1 e2 e3 e4 e5 e6 e7 e8
        have hcb : n' ≤ cb := by
         rcases hOg.out.shape with ⟨e, _⟩ | ⟨g, cap, e, _, _, h⟩
         ·injection e with _ e1 _; omega
         ·injection e with _ e1 e2; rw [List.length_map, HLL.out] at h; omega
        have HKG : Hid (∀ W, wg.grownBy W none → Ow W0.heap.size W 110 9 (.slice ab n' cb) (l.map Snt.cs)) := fun W hW => hOg.out.kept hW (by cases Value.ownBlock (.slice ab n' cb) <;> simp)
        have HOLD : Hid (∀ W, wg.grownBy W none → (ab = none → p = 0 ∧ p = 0) ∧ (((l.map Snt.cs).take p).flatten).length = p * 9 ∧ ∀ b, ab = some b → ∀ j u, (((l.map Snt.cs).take p).flatten)[j]? = some u → W.cell? (b.add j) = some u) := fun W hW => (HKG.out W hW).headOlds (by omega) hp
        have hp1 : (0 : Int) ≤ (p : Int) := by omega
        have hp2 : (p : Int) ≤ (cb : Int) := by omega
        have hp3 : (p : Int) ≤ (n' : Int) := by omega
        have HB0 := Lib.hid BRg.out.size
        clear hOf hLf hTf hXB BRf hBp zxf
        rcases Nat.lt_or_ge p n' with hpn | hpn
        ·have HT := Lib.hid (fun W (hW : wg.grownBy W none) => (HKG.out W hW).tailNews (by omega) hpn)
         obtain ⟨gb, rfl, _⟩ := HT.out wg (grown_of (Below.refl _ _))
         have hpc : ¬(p = cb) := by omega
         have HT2 : Hid (∀ W, wg.grownBy W none → (((l.map Snt.cs).drop p).flatten).length = (n' - p) * 9 ∧ ∀ j u, (((l.map Snt.cs).drop p).flatten)[j]? = some u → W.cell? ((⟨gb, p * 9, none⟩ : Addr).add j) = some u) := fun W hW => by
          obtain ⟨g, e, h1, h2⟩ := HT.out W hW
          injection e with e; injection e with e
          subst e
          exact ⟨h1, h2⟩
         clear HT
         obtain ⟨mm, hm⟩ : ∃ z, n' - p = z := ⟨_, rfl⟩
         have hm0 : 0 < mm := by omega
         have hpm : p + mm = n' := by omega
         rw [hm] at HT2
         have hpc2 : ¬(cb = p) := by omega
         have HT3 : Hid (∀ u ∈ (((l.map Snt.cs).drop p).flatten), u.oneCell' = true) := fun u hu => by
          obtain ⟨r, hr, hur⟩ := List.mem_flatten.1 hu
          obtain ⟨y, _, rfl⟩ := List.mem_map.1 (List.mem_of_mem_drop hr)
          exact snt_cell1 y u hur
         have HX3 : Hid (∀ u ∈ X.cs ++ (((l.map Snt.cs).drop p).flatten), u.oneCell' = true) := fun u hu => by
          rcases List.mem_append.1 hu with h | h
          ·exact snt_cell1 X u h
          ·exact HT3.out u h
         have HLN : Hid ((X.cs ++ ((l.map Snt.cs).drop p).flatten).length = (1 + mm) * 9) := by
          show _ = _
          rw [List.length_append, (HT2.out wg (grown_of (Below.refl _ _))).1]
          show 9 + mm * 9 = _
          omega
         have HPM := Lib.hid hpm
         have hpm2 : p + (1 + mm) ≤ 20001 := by omega
         clear hpm
         go_upto_region 16 with fail
         go_region_law
          ((first
           | ((refine step_append_grows (by rfl) _ _ 101 (by rfl) 110 sn0_ _ 9 72 uMsnT sni sn0 sn1 sn2 rfl (by decide) (some ⟨wg.heap.size, 0, none⟩) 1 1 X.cs (by rfl) (fun h => by cases h) (by rfl) (fun b hb => by cases hb; rw [HXX.out]; exact World.news_of_block (cs := #[.int .i64 x.time, .int .i64 t.obj, .int .i64 q, .int .i64 0, .int .i64 t.dev, .int .i64 (x.time + o), .int .i64 nd.x, .int .i64 nd.y, .bool false]) (t := 110) (fr := (0, 0)) (by first | exact obj_last _ _ | exact obj_drew (obj_last _ _))) ⟨gb, p * 9, none⟩ mm (cb - p) (((l.map Snt.cs).drop p).flatten) (by rfl) (HT2.out _ (grown_of (by (repeat (first | with_reducible exact Below.refl _ _ | with_reducible assumption | ((with_reducible first | refine Below.setCell ?_ ?_ _ | refine Below.alloc ?_ ?_ _); rotate_left; focus (first | exact Nat.le_refl _ | omega | exact Below.size (by assumption) | (simp <;> omega))) | with_reducible refine Below.drew ?_ | with_reducible refine drewN_ ?_ _))))).1 (HT2.out _ (grown_of (by (repeat (first | with_reducible exact Below.refl _ _ | with_reducible assumption | ((with_reducible first | refine Below.setCell ?_ ?_ _ | refine Below.alloc ?_ ?_ _); rotate_left; focus (first | exact Nat.le_refl _ | omega | exact Below.size (by assumption) | (simp <;> omega))) | with_reducible refine Below.drew ?_ | with_reducible refine drewN_ ?_ _))))).2 HT3.out (by omega) (by unfold maxLen; omega) (by omega) ?_; intro v1' wi hown1 hgrow1; obtain ⟨g1, c1, rfl, hg1, hlt1, hle1, hmx1, hcl1⟩ := ownsRow_out hown1 (by omega); have hgr1 : wg.grownBy wi none := (grown_of (by (repeat (first | with_reducible exact Below.refl _ _ | with_reducible assumption | ((with_reducible first | refine Below.setCell ?_ ?_ _ | refine Below.alloc ?_ ?_ _); rotate_left; focus (first | exact Nat.le_refl _ | omega | exact Below.size (by assumption) | (simp <;> omega))) | with_reducible refine Below.drew ?_ | with_reducible refine drewN_ ?_ _)))).trans hgrow1; have HGR1 := Lib.hid hgr1; have HCL1 := Lib.hid hcl1; clear hown1 hgrow1 hcl1 hgr1))
           | ((refine step_append_grows (by rfl) _ _ 101 (by rfl) 110 sn0_ _ 9 72 uMsnT sni sn0 sn1 sn2 rfl (by decide) (some ⟨gb, 0, none⟩) p p (((l.map Snt.cs).take p).flatten) (by rfl) (HOLD.out _ HGR1.out).1 (HOLD.out _ HGR1.out).2.1 (HOLD.out _ HGR1.out).2.2 ⟨g1, 0, none⟩ (1 + mm) c1 (X.cs ++ ((l.map Snt.cs).drop p).flatten) (by rfl) HLN.out HCL1.out HX3.out (by omega) (by unfold maxLen; omega) (by omega) ?_; intro v2' w9 hown2 hgrow2; have HO2 := Lib.hid hown2; have HG2 := Lib.hid (HGR1.out.trans hgrow2); clear hown2 hgrow2))
           | fail))
         have HO2' := Lib.hid (show w9.ownsRow wi.heap.size 110 9 v2' (p + (1 + mm)) (((l.take p).map Snt.cs).flatten ++ (X.cs ++ ((l.drop p).map Snt.cs).flatten)) by rw [List.map_take, List.map_drop]; exact HO2.out)
         all_goals
          go_wp2_with fail
          go_roundw
          case rel =>
           have hins : insAll (sentS S k ++ sentT S t L (q + 1)) = l.take p ++ X :: l.drop p := by
            rw [sentT_succ, ← List.append_assoc, insAll_snoc, ← HL.out, HX.out]
            have hxx : rptOf S t q x = X := by
             rw [HXX.out]; unfold rptOf
             rw [HND.out, ← HOO.out]
            rw [hxx]
            have hpp : posT l X.time l.length = p := by rw [HXX.out, HLL.out]; exact hPE.out
            unfold insT
            rw [hpp]
           refine ⟨q + 1, _, n' + 1, by go_num, rfl, by omega, by have := HNBQ.out; omega, ?_, ?_, ?_, ?_⟩
           ·show Ow _ _ _ _ _ _
            rw [hins]
            refine Ow.mono (own_ins hp HLL.out (m := 1 + mm) (by have := HPM.out; omega) HO2'.out) ?_
            have := HB0.out
            first | (have := HGR1.out.size; omega) | (simp; omega)
           ·exact hLg.out.kept HG2.out (by cases Value.ownBlock (.slice (some ⟨gl, 0, none⟩) nl cl) <;> simp)
           ·exact (HG2.out.block bt (obj_lt hTg.out) (by simp)).trans hTg.out
           ·exact BRg.out.grown HG2.out BRg.out.size (fun b hb => by cases hb)
          case measure => simp [intOf]; omega
        ·obtain rfl : p = n' := by omega
         have hrz := fun (w' : World) (b c : Nat) (a2 : Option Addr) (ty : TypeId) => run_append_zero (P := Tryz.prog) w' 101 ty 110 sn0_ uMsnT sni b 0 1 1 a2 c (Nat.le_refl _)
         have hpp0 : p - p = 0 := Nat.sub_self p
         have hsh : (ab = none ∧ p = 0 ∧ cb = 0) ∨ ∃ g, ab = some ⟨g, 0, none⟩ := by
          rcases hOg.out.shape with ⟨e, _⟩ | ⟨g, cap, e, _⟩
          ·injection e with e1 e2 e3; exact .inl ⟨e1, e2, e3⟩
          ·injection e with e1 _ _; exact .inr ⟨g, e1⟩
         rcases hsh with ⟨rfl, hz1, hz2⟩ | ⟨ga, rfl⟩
         ·subst hz2
          subst hz1
          have hpm2 : 0 + 1 ≤ 20001 := by omega
          go_upto_region 16 with fail
          go_region_law
           ((first | ((refine step_append_grows (by rfl) _ _ 101 (by rfl) 110 sn0_ _ 9 72 uMsnT sni sn0 sn1 sn2 rfl (by decide) none 0 0 (((l.map Snt.cs).take 0).flatten) (by rfl) (HOLD.out _ (grown_of (by (repeat (first | with_reducible exact Below.refl _ _ | with_reducible assumption | ((with_reducible first | refine Below.setCell ?_ ?_ _ | refine Below.alloc ?_ ?_ _); rotate_left; focus (first | exact Nat.le_refl _ | omega | exact Below.size (by assumption) | (simp <;> omega))) | with_reducible refine Below.drew ?_ | with_reducible refine drewN_ ?_ _))))).1 (HOLD.out _ (grown_of (by (repeat (first | with_reducible exact Below.refl _ _ | with_reducible assumption | ((with_reducible first | refine Below.setCell ?_ ?_ _ | refine Below.alloc ?_ ?_ _); rotate_left; focus (first | exact Nat.le_refl _ | omega | exact Below.size (by assumption) | (simp <;> omega))) | with_reducible refine Below.drew ?_ | with_reducible refine drewN_ ?_ _))))).2.1 (HOLD.out _ (grown_of (by (repeat (first | with_reducible exact Below.refl _ _ | with_reducible assumption | ((with_reducible first | refine Below.setCell ?_ ?_ _ | refine Below.alloc ?_ ?_ _); rotate_left; focus (first | exact Nat.le_refl _ | omega | exact Below.size (by assumption) | (simp <;> omega))) | with_reducible refine Below.drew ?_ | with_reducible refine drewN_ ?_ _))))).2.2 ⟨wg.heap.size, 0, none⟩ 1 1 X.cs (by rfl) (by rfl) (by rw [HXX.out]; exact World.news_of_block (cs := #[.int .i64 x.time, .int .i64 t.obj, .int .i64 q, .int .i64 0, .int .i64 t.dev, .int .i64 (x.time + o), .int .i64 nd.x, .int .i64 nd.y, .bool false]) (t := 110) (fr := (0, 0)) (by first | exact obj_last _ _ | exact obj_drew (obj_last _ _))) (snt_cell1 X) (by omega) (by unfold maxLen; omega) (by omega) ?_; intro v2' w9 hown2 hgrow2; have HO2 := Lib.hid hown2; have HG2 := Lib.hid ((grown_of (w := wg) (by (repeat (first | with_reducible exact Below.refl _ _ | with_reducible assumption | ((with_reducible first | refine Below.setCell ?_ ?_ _ | refine Below.alloc ?_ ?_ _); rotate_left; focus (first | exact Nat.le_refl _ | omega | exact Below.size (by assumption) | (simp <;> omega))) | with_reducible refine Below.drew ?_ | with_reducible refine drewN_ ?_ _)))).trans hgrow2); clear hown2 hgrow2)) | fail))
          have HO2' := Lib.hid (show w9.ownsRow _ 110 9 v2' (0 + 1) (((l.take 0).map Snt.cs).flatten ++ (X.cs ++ ((l.drop 0).map Snt.cs).flatten)) by rw [List.map_take, List.drop_eq_nil_of_le (by rw [HLL.out]; exact Nat.le_refl _)]; simpa using HO2.out)
          all_goals
           go_wp2_with fail
           go_roundw
           case rel =>
            have hins : insAll (sentS S k ++ sentT S t L (q + 1)) = l.take 0 ++ X :: l.drop 0 := by
             rw [sentT_succ, ← List.append_assoc, insAll_snoc, ← HL.out, HX.out]
             have hxx : rptOf S t q x = X := by
              rw [HXX.out]; unfold rptOf
              rw [HND.out, ← HOO.out]
             rw [hxx]
             have hpp : posT l X.time l.length = 0 := by rw [HXX.out, HLL.out]; exact hPE.out
             unfold insT
             rw [hpp]
            refine ⟨q + 1, _, 0 + 1, by go_num, rfl, by omega, by have := HNBQ.out; omega, ?_, ?_, ?_, ?_⟩
            ·show Ow _ _ _ _ _ _
             rw [hins]
             refine Ow.mono (own_ins hp HLL.out (m := 1) (by omega) HO2'.out) ?_
             have := HB0.out
             first | (have := HGR1.out.size; omega) | (simp; omega)
            ·exact hLg.out.kept HG2.out (by cases Value.ownBlock (.slice (some ⟨gl, 0, none⟩) nl cl) <;> simp)
            ·exact (HG2.out.block bt (obj_lt hTg.out) (by simp)).trans hTg.out
            ·exact BRg.out.grown HG2.out BRg.out.size (fun b hb => by cases hb)
           case measure => simp [intOf]; omega
         ·have hpm2 : p + 1 ≤ 20001 := by omega
          by_cases hcp : cb = p
          all_goals
           go_upto_region 16 with fail
           go_region_law
            ((first | ((refine step_append_grows (by rfl) _ _ 101 (by rfl) 110 sn0_ _ 9 72 uMsnT sni sn0 sn1 sn2 rfl (by decide) (some ⟨ga, 0, none⟩) p p (((l.map Snt.cs).take p).flatten) (by rfl) (HOLD.out _ (grown_of (by (repeat (first | with_reducible exact Below.refl _ _ | with_reducible assumption | ((with_reducible first | refine Below.setCell ?_ ?_ _ | refine Below.alloc ?_ ?_ _); rotate_left; focus (first | exact Nat.le_refl _ | omega | exact Below.size (by assumption) | (simp <;> omega))) | with_reducible refine Below.drew ?_ | with_reducible refine drewN_ ?_ _))))).1 (HOLD.out _ (grown_of (by (repeat (first | with_reducible exact Below.refl _ _ | with_reducible assumption | ((with_reducible first | refine Below.setCell ?_ ?_ _ | refine Below.alloc ?_ ?_ _); rotate_left; focus (first | exact Nat.le_refl _ | omega | exact Below.size (by assumption) | (simp <;> omega))) | with_reducible refine Below.drew ?_ | with_reducible refine drewN_ ?_ _))))).2.1 (HOLD.out _ (grown_of (by (repeat (first | with_reducible exact Below.refl _ _ | with_reducible assumption | ((with_reducible first | refine Below.setCell ?_ ?_ _ | refine Below.alloc ?_ ?_ _); rotate_left; focus (first | exact Nat.le_refl _ | omega | exact Below.size (by assumption) | (simp <;> omega))) | with_reducible refine Below.drew ?_ | with_reducible refine drewN_ ?_ _))))).2.2 ⟨wg.heap.size, 0, none⟩ 1 1 X.cs (by rfl) (by rfl) (by rw [HXX.out]; exact World.news_of_block (cs := #[.int .i64 x.time, .int .i64 t.obj, .int .i64 q, .int .i64 0, .int .i64 t.dev, .int .i64 (x.time + o), .int .i64 nd.x, .int .i64 nd.y, .bool false]) (t := 110) (fr := (0, 0)) (by first | exact obj_last _ _ | exact obj_drew (obj_last _ _))) (snt_cell1 X) (by omega) (by unfold maxLen; omega) (by omega) ?_; intro v2' w9 hown2 hgrow2; have HO2 := Lib.hid hown2; have HG2 := Lib.hid ((grown_of (w := wg) (by (repeat (first | with_reducible exact Below.refl _ _ | with_reducible assumption | ((with_reducible first | refine Below.setCell ?_ ?_ _ | refine Below.alloc ?_ ?_ _); rotate_left; focus (first | exact Nat.le_refl _ | omega | exact Below.size (by assumption) | (simp <;> omega))) | with_reducible refine Below.drew ?_ | with_reducible refine drewN_ ?_ _)))).trans hgrow2); clear hown2 hgrow2)) | fail))
           have HO2' := Lib.hid (show w9.ownsRow _ 110 9 v2' (p + 1) (((l.take p).map Snt.cs).flatten ++ (X.cs ++ ((l.drop p).map Snt.cs).flatten)) by rw [List.map_take, List.drop_eq_nil_of_le (by rw [HLL.out]; exact Nat.le_refl _)]; simpa using HO2.out)
           all_goals
            go_wp2_with fail
            go_roundw
            case rel =>
             have hins : insAll (sentS S k ++ sentT S t L (q + 1)) = l.take p ++ X :: l.drop p := by
              rw [sentT_succ, ← List.append_assoc, insAll_snoc, ← HL.out, HX.out]
              have hxx : rptOf S t q x = X := by
               rw [HXX.out]; unfold rptOf
               rw [HND.out, ← HOO.out]
              rw [hxx]
              have hpp : posT l X.time l.length = p := by rw [HXX.out, HLL.out]; exact hPE.out
              unfold insT
              rw [hpp]
             refine ⟨q + 1, _, p + 1, by go_num, rfl, by omega, by have := HNBQ.out; omega, ?_, ?_, ?_, ?_⟩
             ·show Ow _ _ _ _ _ _
              rw [hins]
              refine Ow.mono (own_ins hp HLL.out (m := 1) (by omega) HO2'.out) ?_
              have := HB0.out
              first | (have := HGR1.out.size; omega) | (simp; omega)
             ·exact hLg.out.kept HG2.out (by cases Value.ownBlock (.slice (some ⟨gl, 0, none⟩) nl cl) <;> simp)
             ·exact (HG2.out.block bt (obj_lt hTg.out) (by simp)).trans hTg.out
             ·exact BRg.out.grown HG2.out BRg.out.size (fun b hb => by cases hb)
            case measure => simp [intOf]; omega
    ·obtain rfl : q = nl := by omega
     have hlq' : ¬(q : Int) < (q : Int) := by omega
     go_wp2_with fail
     go_roundw
     case rel =>
      have e : sentS S (k + 1) = sentS S k ++ sentT S t L q := by rw [HSS.out, HNL.out]
      refine ⟨k + 1, _, na + q, by go_num, rfl, by omega, by omega, ?_, ?_, hBq.out⟩
      ·rw [e, List.length_append, HLEN.out]; unfold sentT; simp
      ·show Ow _ _ _ _ _ _; rw [e]; exact hOq.out
     case measure => simp [intOf]; omega
  ·obtain rfl : k = n3 := by omega
   have hlt' : ¬(k : Int) < (k : Int) := by omega
   have hO' := hO.out
   rw [← HN3.out] at hO'
   obtain ⟨M, hM⟩ : ∃ A, insAll (sentS S S.trips.length) = A := ⟨_, rfl⟩
   rw [hM] at hO'
   obtain ⟨sa, nA, sc, rfl⟩ := hO'.val
   have hn' := hO'.sl.len
   rw [List.length_map] at hn'
   have hnb0 : nA ≤ 1000000 := by
    have e1 := HLEN.out
    rw [← HN3.out] at e1
    rw [← hn', ← hM, (insAll_perm _).length_eq]
    omega
   have HO' := Lib.hid hO'
   have HMA := Lib.hid hM
   have HL4 := Lib.hid hn'
   have HBW := Lib.hid (B0.out.trans (hB.out.mono B0.out.size))
   clear hO' hM hn'
   obtain ⟨Wp, rfl⟩ : ∃ z : World, z = wr := ⟨_, rfl⟩
   go_wp2_with fail
   clear l0 l1 l2 l3 l4 l5
   go_loopw [16, 17] (fun s16 s17 wx => ∃ (q : Nat) (vo : Value), s17 = .int .i64 q ∧ vo = s16 ∧ q ≤ nA ∧ Hid (Ow W0.heap.size wx 77 8 vo ((M.take q).map fun s => s.r.cs)) ∧ Hid (Ow W0.heap.size wx 110 9 (.slice sa nA sc) (M.map Snt.cs)) ∧ Hid (Below W0.heap.size W0 wx)) (fun _ s17 _ => nA - (intOf s17).toNat)
   case atStart => exact ⟨0, _, rfl, rfl, Nat.zero_le _, Ow.nil _ _ _ _, HO'.out, hB.out⟩
   case round =>
    obtain ⟨q, vo, rfl, rfl, hq, hOo, hOs, hBq⟩ := hrel
    by_cases hlq : q < nA
    ·have hql : q < M.length := by rw [HL4.out]; exact hlq
     obtain ⟨g, rfl⟩ : ∃ g, sa = some ⟨g, 0, none⟩ := by
      rcases hOs.out.shape with ⟨_, e⟩ | ⟨g, cap, e, _⟩
      ·rw [List.map_eq_nil_iff] at e; rw [e] at hql; simp at hql
      ·injection e with e1; exact ⟨g, e1⟩
     have x0 := hOs.out.cell q (by rw [List.length_map]; exact hql) 0 (by omega)
     have x1 := hOs.out.cell q (by rw [List.length_map]; exact hql) 1 (by omega)
     have x2 := hOs.out.cell q (by rw [List.length_map]; exact hql) 2 (by omega)
     have x3 := hOs.out.cell q (by rw [List.length_map]; exact hql) 3 (by omega)
     have x4 := hOs.out.cell q (by rw [List.length_map]; exact hql) 4 (by omega)
     have x5 := hOs.out.cell q (by rw [List.length_map]; exact hql) 5 (by omega)
     have x6 := hOs.out.cell q (by rw [List.length_map]; exact hql) 6 (by omega)
     have x7 := hOs.out.cell q (by rw [List.length_map]; exact hql) 7 (by omega)
     have x8 := hOs.out.cell q (by rw [List.length_map]; exact hql) 8 (by omega)
     simp only [List.getElem_map] at x0 x1 x2 x3 x4 x5 x6 x7 x8
     obtain ⟨y, hy⟩ : ∃ z, M[q] = z := ⟨_, rfl⟩
     rw [hy] at x0 x1 x2 x3 x4 x5 x6 x7 x8
     have HY := Lib.hid hy
     simp only [Snt.cs, List.getElem?_cons_succ, List.getElem?_cons_zero, Nat.add_zero] at x0 x1 x2 x3 x4 x5 x6 x7 x8
     have zg := (hOs.out.blk g rfl).2
     have hBw := hBq.out.size
     obtain ⟨ab, n', cb, rfl⟩ := hOo.out.val
     have hn' := hOo.out.sl.len
     rw [List.length_map, List.length_take, HL4.out] at hn'
     have hnn : n' = q := by omega
     subst hnn
     have HNB := Lib.hid (show n' = (M.take n').length by rw [List.length_take, HL4.out]; omega)
     have hq1 : (0 : Int) ≤ (n' : Int) := by omega
     have hq2 : (n' : Int) < (nA : Int) := by omega
     have HOWN : Hid (∀ W, Below wr.heap.size wr W → W.ownsRow W0.heap.size 77 8 (.slice ab n' cb) n' ((M.take n').map fun s => s.r.cs).flatten) := fun W hW => by
      have qq := (hOo.out.keep hW).1
      rw [List.length_map, ← HNB.out] at qq
      exact qq
     clear hn' hy
     go_wp2_with (at_builtin; refine wpList_append_lies _ (by rfl) _ _ _ (by rfl) W0.heap.size 77 rp0_ _ 8 64 uRptT rpi rp0 rp1 rp2 rfl (by decide) (.slice ab n' cb) n' ((M.take n').map fun s => s.r.cs).flatten (by rfl) (HOWN.out _ (by (repeat (first | with_reducible exact Below.refl _ _ | with_reducible assumption | ((with_reducible first | refine Below.setCell ?_ ?_ _ | refine Below.alloc ?_ ?_ _); rotate_left; focus (first | exact Nat.le_refl _ | omega | exact Below.size (by assumption) | (simp <;> omega))) | with_reducible refine Below.drew ?_ | with_reducible refine drewN_ ?_ _)))) ⟨wr.heap.size, 0, none⟩ 1 1 (y.r.cs) (by rfl) rfl (World.news_of_block (cs := #[.int .i64 y.r.obj, .int .i64 y.r.seq, .int .i64 y.r.ver, .int .i64 y.r.dev, .int .i64 y.r.at_, .int .i64 y.r.x, .int .i64 y.r.y, .bool y.r.cancel]) (t := 77) (fr := (0, 0)) (obj_last _ _)) (rpt_cell1 _) (by omega) (by unfold maxLen; omega) (by omega) (by have := hBw; first | omega | (simp; omega)) _ rfl ?_; intro g2 cap2 w7 hown2 hgrow2 hat2 hlt2; have hall2 : wr.grownBy w7 (Value.ownBlock (.slice ab n' cb)) := (grown_of (by (repeat (first | with_reducible exact Below.refl _ _ | with_reducible assumption | ((with_reducible first | refine Below.setCell ?_ ?_ _ | refine Below.alloc ?_ ?_ _); rotate_left; focus (first | exact Nat.le_refl _ | omega | exact Below.size (by assumption) | (simp <;> omega))) | with_reducible refine Below.drew ?_ | with_reducible refine drewN_ ?_ _)))).trans hgrow2; have HALL2 := Lib.hid hall2; have HOWN2 := Lib.hid hown2; clear hgrow2 hat2 hall2 hown2)
     go_roundw
     case rel =>
      refine ⟨n' + 1, _, by go_num, rfl, by omega, ?_, ?_, ?_⟩
      ·show Ow _ _ _ _ _ _
       rw [List.take_add_one, List.getElem?_eq_getElem hql, HY.out]
       exact rpt_add HNB.out HOWN2.out
      ·exact hOs.out.kept HALL2.out (rows_apart hOo.out hOs.out (by decide))
      ·exact hBq.out.grown HALL2.out hBq.out.size (fun b hb => (hOo.out.blk b hb).1)
     case measure => simp [intOf]; omega
    ·obtain rfl : q = nA := by omega
     have hlq' : ¬(q : Int) < (q : Int) := by omega
     have HOF := hOo.out
     rw [List.take_of_length_le (by rw [HL4.out]; exact Nat.le_refl _)] at HOF
     have HOFH := Lib.hid HOF
     clear HOF
     go_wp2_with fail
     go_ret
     exact ⟨⟨_, rfl, by rw [HMA.out]; exact HOFH.out.mono B0.out.size⟩, B0.out.trans (hBq.out.mono B0.out.size)⟩
end Go.Proofs.YthkhgfdjdpfoiaaGreat
