/-
 simulate.Deliver, walked.
-/
import Derived.Test.YthkhgfdjdpfoiaaGreatRepG
import Derived.Deep.CutBlock
import Derived.Deep.CutRange
import Derived.Deep.DeepCutAuto
import Derived.Test.YthkhgfdjdpfoiaaGreatBatW
set_option linter.unusedSimpArgs false
set_option linter.unusedVariables false
namespace Go.Proofs.YthkhgfdjdpfoiaaGreat
open Go Go.RowKit Go.Vi
theorem nil_cell2 : ∀ u ∈ [(.slice none 0 0 : Value), .slice none 0 0], u.oneCell' = true := by
 intro u hu
 simp at hu
 subst hu
 rfl
theorem getD_push {α : Type} (D : List (List α)) (i : Nat) : (D ++ [[]]).getD i [] = D.getD i [] := by
 rw [List.getD_eq_getElem?_getD, List.getD_eq_getElem?_getD]
 rcases Nat.lt_or_ge i D.length with h | h
 ·rw [List.getElem?_append_left h]
 ·rw [List.getElem?_append_right h, List.getElem?_eq_none h]
  cases i - D.length <;> rfl
set_option maxRecDepth 100000 in
set_option maxHeartbeats 20000000 in
theorem deliverW_any (S : Scn) (size : Int) (F : List Fte) (R : List Rpt) (v1 v2 v3 v4 v5 vf : Value) (w : World) (hS : ScnAt w.heap.size w v1 v2 v3 v4 v5 S) (hF : Fit S) (hW : wayErr S = 0) (hV : Sl w.heap.size w 3 vf (F.map Fte.cs))
  (hRR : R = (insAll (sentS S S.trips.length)).map Snt.r) (hlr : R.length ≤ 1000) (hlx : S.syncs.length ≤ 1000) (hlf : F.length ≤ 1000) :
  Calls Tryz.prog 14 #[S.v v1 v2 v3 v4 v5, .int .i64 size, vf] w fun e w' => DelOut size F R (excS S S.syncs.length) w.heap.size e w' ∧ Below w.heap.size w w' := by
 obtain ⟨a3, n3, c3, rfl, hn3, hn31, hn32⟩ := hS.trips.open
 obtain ⟨a4, n4, c4, rfl, hn4, hn41, hn42⟩ := hS.clocks.open
 obtain ⟨a5, n5, c5, rfl, hn5, hn51, hn52⟩ := hS.syncs.open
 obtain ⟨af, nf, cf, rfl, hnf, hnf1, hnf2⟩ := hV.open
 rw [List.length_map] at hnf
 rw [hnf] at hlf
 have HS := Lib.hid hS
 have HF := Lib.hid hF
 have HW := Lib.hid hW
 have HV := Lib.hid hV
 have HNF := Lib.hid hnf
 have HRR := Lib.hid hRR
 clear hS hF hW hV hRR hn3 hn4 hn5 hn31 hn32 hn41 hn42 hn51 hn52 hnf hnf1 hnf2 hlx
 have P0 := Lib.hid (obj_last w (.cells #[v1, v2, .int .i64 S.gap, .slice a3 n3 c3, .slice a4 n4 c4, .slice a5 n5 c5] 40))
 obtain ⟨bt0_, bti, bt0, bt1, bt2⟩ := info_parts iBatT
 have hmk : ∀ w : World, (Instr.makeSlice 60 (.int .i64 1) (.int .i64 1)).run Tryz.prog w = .ok (.slice (some ⟨w.heap.size, 0, none⟩) 1 1) (w.alloc (.cells #[.slice none 0 0, .slice none 0 0] 115)) := fun _ => by kernel_rfl
 obtain ⟨rp0_, rpi, rp0, rp1, rp2⟩ := info_parts iRptT
 go_enter Tryz.func14, Tryz.ntmps14
 go_wp2_with fail
 refine (reportsG_any S _ _ _ _ _ _ (HS.out.later (by (repeat (first | with_reducible exact Below.refl _ _ | with_reducible assumption | ((with_reducible first | refine Below.setCell ?_ ?_ _ | refine Below.alloc ?_ ?_ _); rotate_left; focus (first | exact Nat.le_refl _ | omega | exact Below.size (by assumption) | (simp <;> omega))) | with_reducible refine Below.drew ?_ | with_reducible refine drewN_ ?_ _)))) HF.out HW.out).mono ?_
 rintro e w1 ⟨⟨vr, rfl, hOR⟩, hb1⟩
 have P1 := Lib.hid (keepObj hb1 P0.out)
 have B1 := Lib.hid (from_ (w := w) hb1 (by (repeat (first | with_reducible exact Below.refl _ _ | with_reducible assumption | ((with_reducible first | refine Below.setCell ?_ ?_ _ | refine Below.alloc ?_ ?_ _); rotate_left; focus (first | exact Nat.le_refl _ | omega | exact Below.size (by assumption) | (simp <;> omega))) | with_reducible refine Below.drew ?_ | with_reducible refine drewN_ ?_ _))))
 have hOR2 := hOR.mono (B' := w.heap.size) (by simp)
 rw [show ((insAll (sentS S S.trips.length)).map fun s => s.r.cs) = R.map Rpt.cs by rw [HRR.out, List.map_map]; rfl] at hOR2
 obtain ⟨ar, nr, cr, rfl⟩ := hOR2.val
 have hnr := hOR2.sl.len
 rw [List.length_map] at hnr
 rw [hnr] at hlr
 have HNR := Lib.hid hnr
 have HR := Lib.hid hOR2
 clear hb1 hOR hOR2 hnr
 cases hsz : inB size 1 4096 with
 | false =>
  go_wp2_with (go_at_call 32; refine (between_any _ _ _ _).mono ?_; rintro e w' ⟨rfl, rfl⟩)
  go_ret2
  exact ⟨.inr ⟨by simp [delB, hsz], rfl⟩, B1.out⟩
 | true =>
  obtain ⟨z, rfl, hz1, hz2⟩ : ∃ z : Nat, size = (z : Int) ∧ 1 ≤ z ∧ z ≤ 4096 := by
   have := inB_iff.1 hsz; exact ⟨size.toNat, by omega, by omega, by omega⟩
  have HSZ := Lib.hid hsz
  go_wp2_with (go_at_call 32; refine (between_any _ _ _ _).mono ?_; rintro e w' ⟨rfl, rfl⟩)
  clear hsz
  go_loopw [32] (fun s32 wx => ∃ k : Nat, s32 = .int .i64 k ∧ k ≤ nf ∧ Hid (∀ j, j < k → inB F[j]!.late 0 16 = true) ∧ Hid (Below w1.heap.size w1 wx)) (fun s32 _ => nf - (intOf s32).toNat)
  case atStart => exact ⟨0, rfl, Nat.zero_le _, fun j h => by omega, Below.refl _ _⟩
  case round =>
   obtain ⟨k, rfl, hk, hA, hB⟩ := hrel
   have BX := Lib.hid (B1.out.trans (hB.out.mono B1.out.size))
   by_cases hlt : k < nf
   ·have hkl : k < F.length := by rw [HNF.out]; exact hlt
    obtain ⟨b, off, rfl, hb, hcs⟩ := HV.out.cells k hkl
    have t0 : w.cell? ⟨b, off + k * 3, none⟩ = some (.bool F[k]!.lose) := hcs k hkl 0 _ rfl
    have t1 : w.cell? ⟨b, off + k * 3 + 1, none⟩ = some (.bool F[k]!.twice) := hcs k hkl 1 _ rfl
    have t2 : w.cell? ⟨b, off + k * 3 + 2, none⟩ = some (.int .i64 F[k]!.late) := hcs k hkl 2 _ rfl
    rw [← BX.out.cell (p := ⟨b, _, none⟩) hb] at t0 t1 t2
    have hzb : b < wr.heap.size := by have := BX.out.size; omega
    have hk1 : (0 : Int) ≤ (k : Int) := by omega
    have hk2 : (k : Int) < (nf : Int) := by omega
    cases hx : inB F[k]!.late 0 16 with
    | false =>
     have HBAD := Lib.hid (delB_bad (size := (z : Int)) hkl hx)
     generalize F[k]! = x at t0 t1 t2 hx
     clear hcs
     go_wp2_with (go_at_call 32; refine (between_any _ _ _ _).mono ?_; rintro e w' ⟨rfl, rfl⟩)
     go_ret2
     exact ⟨.inr ⟨HBAD.out, rfl⟩, by have h := BX.out; (repeat (first | with_reducible exact Below.refl _ _ | with_reducible assumption | ((with_reducible first | refine Below.setCell ?_ ?_ _ | refine Below.alloc ?_ ?_ _); rotate_left; focus (first | exact Nat.le_refl _ | omega | exact Below.size (by assumption) | (simp <;> omega))) | with_reducible refine Below.drew ?_ | with_reducible refine drewN_ ?_ _))⟩
    | true =>
     have HA2 : Hid (∀ j, j < k + 1 → inB F[j]!.late 0 16 = true) := fun j hj => by
      rcases Nat.lt_or_ge j k with h | h
      ·exact hA.out j h
      ·rw [show j = k by omega]; exact hx
     generalize F[k]! = x at t0 t1 t2 hx
     clear hcs
     go_wp2_with (go_at_call 32; refine (between_any _ _ _ _).mono ?_; rintro e w' ⟨rfl, rfl⟩)
     go_roundw
     case rel => exact ⟨k + 1, by go_num, by omega, HA2.out, by have h := hB.out; show Below _ _ _; (repeat (first | with_reducible exact Below.refl _ _ | with_reducible assumption | ((with_reducible first | refine Below.setCell ?_ ?_ _ | refine Below.alloc ?_ ?_ _); rotate_left; focus (first | exact Nat.le_refl _ | omega | exact Below.size (by assumption) | (simp <;> omega))) | with_reducible refine Below.drew ?_ | with_reducible refine drewN_ ?_ _))⟩
     case measure => simp [intOf]; omega
   ·obtain rfl : nf = k := by omega
    have hlt' : ¬(nf : Int) < (nf : Int) := by omega
    obtain ⟨hgood, hfok⟩ := delB_good (F := F) HSZ.out (by rw [HNF.out]; exact hA.out)
    have HGD := Lib.hid hgood
    have HFK := Lib.hid hfok
    have PX := Lib.hid (keepObj hB.out P1.out)
    have HRq := Lib.hid (HR.out.keep hB.out)
    have l0 := obj_cell PX.out 0
    have l1 := obj_cell PX.out 1
    have l2 := obj_cell PX.out 2
    have l3 := obj_cell PX.out 3
    have l4 := obj_cell PX.out 4
    have l5 := obj_cell PX.out 5
    simp at l0 l1 l2 l3 l4 l5
    have zp := obj_lt PX.out
    obtain ⟨wq, rfl⟩ : ∃ z : World, z = wr := ⟨_, rfl⟩
    clear hgood hfok
    go_wp2_with fail
    refine (exchangesW_any S _ _ _ _ _ _ (HS.out.later (by have h := BX.out; (repeat (first | with_reducible exact Below.refl _ _ | with_reducible assumption | ((with_reducible first | refine Below.setCell ?_ ?_ _ | refine Below.alloc ?_ ?_ _); rotate_left; focus (first | exact Nat.le_refl _ | omega | exact Below.size (by assumption) | (simp <;> omega))) | with_reducible refine Below.drew ?_ | with_reducible refine drewN_ ?_ _)))) HF.out HW.out).mono ?_
    rintro e w4 ⟨⟨vx, rfl, hOX⟩, hb4⟩
    obtain ⟨ax, nx, cx, rfl⟩ := hOX.val
    have hM := (Bat.made wq 115 77 8 51 5).keep hb4
    have hBX := hM.backX (by decide) (by decide) (by decide) _ rfl (grown_of (Below.refl _ _)) (hOX.mono (B' := wq.heap.size) (by simp))
    have hq4 := keepObj hb4 (obj_last _ _)
    have q1 := obj_cell hq4 1
    have qf := obj_free hq4 1
    simp at q1
    have zq := obj_lt hq4
    have HBX := Lib.hid hBX
    have HB4 := Lib.hid (from_ (w := wq) hb4 (by (repeat (first | with_reducible exact Below.refl _ _ | with_reducible assumption | ((with_reducible first | refine Below.setCell ?_ ?_ _ | refine Below.alloc ?_ ?_ _); rotate_left; focus (first | exact Nat.le_refl _ | omega | exact Below.size (by assumption) | (simp <;> omega))) | with_reducible refine Below.drew ?_ | with_reducible refine drewN_ ?_ _))))
    have HBQ := Lib.hid (BX.out)
    clear hM hBX hq4 hb4 hOX l0 l1 l2 l3 l4 l5 zp PX BX
    go_wp2_with fail
    obtain ⟨W5, hW5⟩ : ∃ W5, W5 = w4.setCell ⟨wq.heap.size, 1, none⟩ (.slice ax nx cx) := ⟨_, rfl⟩
    have hB5 : Below wq.heap.size wq W5 := by rw [hW5]; exact HB4.out.setCell (Nat.le_refl _) _
    have hBX5 := HBX.out
    rw [← hW5] at hBX5 ⊢
    have HB5 := Lib.hid hB5
    have HBX5 := Lib.hid hBX5
    clear hW5 hB5 hBX5 HBX HB4 q1 qf zq
    go_loopw [12, 52] (fun s12 s52 wx => ∃ (k : Nat) (vo : Value) (V : List (Value × Value)), s52 = .int .i64 k ∧ vo = s12 ∧ k ≤ nr ∧ Hid (BatR wx wq.heap.size vo V (delS z F R k) (excS S S.syncs.length)) ∧ Hid (Below wq.heap.size wq wx)) (fun _ s52 _ => nr - (intOf s52).toNat)
    case atStart => exact ⟨0, _, _, rfl, rfl, Nat.zero_le _, HBX5.out, HB5.out⟩
    case round =>
     obtain ⟨k, vo, V, rfl, rfl, hk, hBT, hBB⟩ := hrel
     by_cases hkr : k < nr
     ·have hkR : k < R.length := by rw [HNR.out]; exact hkr
      have HRk := Lib.hid (HRq.out.keep hBB.out)
      obtain ⟨gr, rfl⟩ : ∃ g, ar = some ⟨g, 0, none⟩ := by
       rcases HRk.out.shape with ⟨_, e⟩ | ⟨g, cap, e, _⟩
       ·rw [List.map_eq_nil_iff] at e; rw [e] at hkR; simp at hkR
       ·injection e with e1; exact ⟨g, e1⟩
      have x0 := HRk.out.cell k (by rw [List.length_map]; exact hkR) 0 (by omega)
      have x1 := HRk.out.cell k (by rw [List.length_map]; exact hkR) 1 (by omega)
      have x2 := HRk.out.cell k (by rw [List.length_map]; exact hkR) 2 (by omega)
      have x3 := HRk.out.cell k (by rw [List.length_map]; exact hkR) 3 (by omega)
      have x4 := HRk.out.cell k (by rw [List.length_map]; exact hkR) 4 (by omega)
      have x5 := HRk.out.cell k (by rw [List.length_map]; exact hkR) 5 (by omega)
      have x6 := HRk.out.cell k (by rw [List.length_map]; exact hkR) 6 (by omega)
      have x7 := HRk.out.cell k (by rw [List.length_map]; exact hkR) 7 (by omega)
      simp only [List.getElem_map] at x0 x1 x2 x3 x4 x5 x6 x7
      obtain ⟨r, hr⟩ : ∃ z, R[k] = z := ⟨_, rfl⟩
      rw [hr] at x0 x1 x2 x3 x4 x5 x6 x7
      simp only [Rpt.cs, List.getElem?_cons_succ, List.getElem?_cons_zero, Nat.add_zero] at x0 x1 x2 x3 x4 x5 x6 x7
      have HRK := Lib.hid (show R[k]! = r by rw [getElem!_pos R k hkR]; exact hr)
      have hzr := (HRk.out.blk gr rfl).2
      obtain ⟨f, hf⟩ : ∃ f, fateAt F k = f := ⟨_, rfl⟩
      have hfo := fateAt_ok HFK.out k
      rw [hf] at hfo
      have HFF := Lib.hid hf
      have hk1 : (0 : Int) ≤ (k : Int) := by omega
      have hk2 : (k : Int) < (nr : Int) := by omega
      have hbq := hBB.out.size
      clear hr hf
      go_upto_if 60 with fail
      have h6 : Below wr.heap.size wr ((wr.alloc (.cells #[.int .i64 r.obj, .int .i64 r.seq, .int .i64 r.ver, .int .i64 r.dev, .int .i64 r.at_, .int .i64 r.x, .int .i64 r.y, .bool r.cancel] 77)).alloc (.cells #[.bool false, .bool false, .int .i64 0] 113)) := (by (repeat (first | with_reducible exact Below.refl _ _ | with_reducible assumption | ((with_reducible first | refine Below.setCell ?_ ?_ _ | refine Below.alloc ?_ ?_ _); rotate_left; focus (first | exact Nat.le_refl _ | omega | exact Below.size (by assumption) | (simp <;> omega))) | with_reducible refine Below.drew ?_ | with_reducible refine drewN_ ?_ _)))
      have hR6 : ((wr.alloc (.cells #[.int .i64 r.obj, .int .i64 r.seq, .int .i64 r.ver, .int .i64 r.dev, .int .i64 r.at_, .int .i64 r.x, .int .i64 r.y, .bool r.cancel] 77)).alloc (.cells #[.bool false, .bool false, .int .i64 0] 113)).heap[wr.heap.size]? = _ := obj_old (obj_last _ _)
      have hF6 : ((wr.alloc (.cells #[.int .i64 r.obj, .int .i64 r.seq, .int .i64 r.ver, .int .i64 r.dev, .int .i64 r.at_, .int .i64 r.x, .int .i64 r.y, .bool r.cancel] 77)).alloc (.cells #[.bool false, .bool false, .int .i64 0] 113)).heap[wr.heap.size + 1]? = _ := obj_last2 _ _ _
      have z6 : ((wr.alloc (.cells #[.int .i64 r.obj, .int .i64 r.seq, .int .i64 r.ver, .int .i64 r.dev, .int .i64 r.at_, .int .i64 r.x, .int .i64 r.y, .bool r.cancel] 77)).alloc (.cells #[.bool false, .bool false, .int .i64 0] 113)).heap.size = wr.heap.size + 2 := by simp
      generalize ((wr.alloc (.cells #[.int .i64 r.obj, .int .i64 r.seq, .int .i64 r.ver, .int .i64 r.dev, .int .i64 r.at_, .int .i64 r.x, .int .i64 r.y, .bool r.cancel] 77)).alloc (.cells #[.bool false, .bool false, .int .i64 0] 113)) = W6 at h6 hR6 hF6 z6 ⊢
      obtain ⟨br, hbr⟩ : ∃ z, wr.heap.size = z := ⟨_, rfl⟩
      have HBR := Lib.hid hbr
      rw [hbr] at hR6 hF6 z6 ⊢
      have H6 := Lib.hid h6
      have HR6 := Lib.hid hR6
      have HF6 := Lib.hid hF6
      have hz6 : br + 1 < W6.heap.size := by omega
      clear h6 hR6 hF6 z6 hbr x0 x1 x2 x3 x4 x5 x6 x7 hzr
      go_cut [] (fun wx => Hid (wx.heap[br + 1]? = some (.cells #[.bool f.lose, .bool f.twice, .int .i64 f.late] 113 (0, 0))) ∧ Hid (wx.heap[br]? = some (.cells #[.int .i64 r.obj, .int .i64 r.seq, .int .i64 r.ver, .int .i64 r.dev, .int .i64 r.at_, .int .i64 r.x, .int .i64 r.y, .bool r.cancel] 77 (0, 0))) ∧ Hid (Below br wr wx))
      case first =>
       have H6b : Hid (Below br wr W6) := by have h := H6.out; rw [HBR.out] at h; exact h
       by_cases hkf : k < nf
       ·have hkl : k < F.length := by rw [HNF.out]; exact hkf
        obtain ⟨b, off, rfl, hb, hcs⟩ := HV.out.cells k hkl
        have hfk : f = F[k]! := by
         rw [← HFF.out]; unfold fateAt
         rw [List.getD_eq_getElem?_getD, List.getElem?_eq_getElem hkl, getElem!_pos F k hkl]; rfl
        have t0 : w.cell? ⟨b, off + k * 3, none⟩ = some (.bool F[k]!.lose) := hcs k hkl 0 _ rfl
        have t1 : w.cell? ⟨b, off + k * 3 + 1, none⟩ = some (.bool F[k]!.twice) := hcs k hkl 1 _ rfl
        have t2 : w.cell? ⟨b, off + k * 3 + 2, none⟩ = some (.int .i64 F[k]!.late) := hcs k hkl 2 _ rfl
        rw [← hfk] at t0 t1 t2
        have hw6 : Below w.heap.size w W6 := HBQ.out.trans ((hBB.out.trans (H6.out.mono hBB.out.size)).mono HBQ.out.size)
        rw [← hw6.cell (p := ⟨b, _, none⟩) hb] at t0 t1 t2
        have hzb : b < W6.heap.size := by have := hw6.size; omega
        have hbne : b ≠ br + 1 := by have := hw6.size; have := HBQ.out.size; have := HBR.out; omega
        have e0 := obj_cell HF6.out 0
        have e1 := obj_cell HF6.out 1
        have e2 := obj_cell HF6.out 2
        have f0 := obj_free HF6.out 0
        have f1 := obj_free HF6.out 1
        have f2 := obj_free HF6.out 2
        simp at e0 e1 e2
        have hkf2 : (k : Int) < (nf : Int) := by omega
        clear hcs hfk hw6
        go_wp2_with fail
        go_meet
        refine ⟨obj_set3 HF6.out, ?_, ?_⟩
        ·show _ = _
         exact obj_setOther (obj_setOther (obj_setOther HR6.out (by simp)) (by simp)) (by simp)
        ·show Below _ _ _
         exact ((H6b.out.setCell (by simp) _).setCell (by simp) _).setCell (by simp) _
       ·have hfk : f = ⟨false, false, 0⟩ := by
         rw [← HFF.out]; unfold fateAt
         rw [List.getD_eq_getElem?_getD, List.getElem?_eq_none (by rw [HNF.out]; omega)]; rfl
        subst hfk
        have hkf2 : ¬(k : Int) < (nf : Int) := by omega
        go_wp2_with fail
        go_meet
        exact ⟨HF6.out, HR6.out, H6b.out⟩
      case rest =>
       obtain ⟨hFB, hRB, hB6⟩ := hcut
       obtain ⟨W7, rfl⟩ : ∃ z : World, z = wc := ⟨_, rfl⟩
       have h7 : Below wr.heap.size wr W7 := by have h := hB6.out; rw [← HBR.out] at h; exact h
       have HBT7 := Lib.hid (hBT.out.keep h7)
       have HAV : Hid (Avoid V br) := Avoid.fresh hBT.out (by rw [HBR.out]; exact Nat.le_refl _)
       have HB7 := Lib.hid (hBB.out.trans (h7.mono hBB.out.size))
       have e0 := obj_cell hFB.out 0
       have e1 := obj_cell hFB.out 1
       have e2 := obj_cell hFB.out 2
       simp at e0 e1 e2
       have zf := obj_lt hFB.out
       obtain ⟨lo, tw, la⟩ := f
       obtain ⟨t, rfl⟩ : ∃ t : Nat, la = (t : Int) := ⟨la.toNat, by have := hfo.1; simp only at this; omega⟩
       simp only at e0 e1 e2
       have ht16 : t ≤ 16 := by have := hfo.2; simp only at this; omega
       clear hBT hBB hfo h7 hB6 H6 HR6 HF6 hz6 HRk
       cases lo with
       | true =>
        have hds := delS_lose (z := z) (R := R) (show (fateAt F k).lose = true by rw [HFF.out])
        have HDS := Lib.hid hds
        clear hds
        go_wp2_with fail
        go_roundw
        case rel => exact ⟨k + 1, _, V, by go_num, rfl, by omega, by show BatR _ _ _ _ _ _; rw [HDS.out]; exact HBT7.out, HB7.out⟩
        case measure => simp [intOf]; omega
       | false =>
        obtain ⟨m, hm⟩ : ∃ m, firstD z F k = m := ⟨_, rfl⟩
        have hmm : k / z + t = m := by rw [← hm]; unfold firstD; rw [HFF.out]; simp
        have hml : m ≤ k + 16 := by rw [← hm]; exact firstD_le HFK.out k
        obtain ⟨d, hd⟩ : ∃ d, k / z = d := ⟨_, rfl⟩
        rw [hd] at hmm
        have hdk : d ≤ k := by rw [← hd]; exact Nat.div_le_self _ _
        have hq : (k : Int).tdiv (z : Int) = (d : Int) := by
         rw [Int.tdiv_eq_ediv_of_nonneg (by omega), ← hd]; rfl
        have hwd : IntKind.i64.wrap (d : Int) = (d : Int) := IntWalk.i64_in _ (by omega)
        have hdt : (d : Int) + (t : Int) = (m : Int) := by omega
        have hz1' : (1 : Int) ≤ (z : Int) := by omega
        have HM := Lib.hid hm
        clear hm hd hmm
        go_wp2_with fail
        go_quiet (fail)
        go_upto_if 75 with fail
        obtain ⟨W8, hW8⟩ : ∃ W8, W8 = W7.drewN nq := ⟨_, rfl⟩
        have h8 : Below W7.heap.size W7 W8 := by rw [hW8]; exact drewN_ (Below.refl _ _) _
        rw [← hW8]
        have HBT8 := Lib.hid (HBT7.out.keep h8)
        have HB8 := Lib.hid (HB7.out.trans (h8.mono HB7.out.size))
        have HR8 := Lib.hid (keepObj h8 hRB.out)
        have HF8 := keepObj h8 hFB.out
        have e0 := obj_cell HF8 0
        have e1 := obj_cell HF8 1
        have e2 := obj_cell HF8 2
        simp at e0 e1 e2
        clear hW8 h8 HBT7 HB7 hRB hFB HF8
        obtain ⟨l, hl⟩ : ∃ l, l = if tw = true then m + 1 else m := ⟨_, rfl⟩
        have hlm : m ≤ l ∧ l ≤ m + 1 := by rw [hl]; split <;> omega
        have hds : delS z F R (k + 1) = addFor (ext (delS z F R k) l) m (l + 1 - m) r := by
         cases tw with
         | true =>
          rw [delS_twice (show (fateAt F k).lose = false by rw [HFF.out]) (show (fateAt F k).twice = true by rw [HFF.out]), HM.out, HRK.out, hl]
          simp
          rw [show m + 1 + 1 - m = 2 by omega]
         | false =>
          rw [delS_once (show (fateAt F k).lose = false by rw [HFF.out]) (show (fateAt F k).twice = false by rw [HFF.out]), HM.out, HRK.out, hl]
          simp
        have HL := Lib.hid hl
        have HDS := Lib.hid hds
        obtain ⟨hlm1, hlm2⟩ := hlm
        clear hl hds
        go_cut [17] (fun s17 wx => s17 = .int .i64 l ∧ wx = W8)
        case first =>
         cases tw with
         | true =>
          have hl2 : (m : Int) + 1 = (l : Int) := by have := HL.out; simp at this; omega
          go_wp2_with fail
          go_meet
          exact ⟨rfl, rfl⟩
         | false =>
          have hl2 : l = m := by have := HL.out; simpa using this
          subst hl2
          go_wp2_with fail
          go_meet
          exact ⟨rfl, rfl⟩
        case rest =>
         obtain ⟨rfl, hW9⟩ := hcut
         subst hW9
         obtain ⟨Wz, rfl⟩ : ∃ z : World, z = wr := ⟨_, rfl⟩
         obtain ⟨D0, hD0⟩ : ∃ D, D = delS z F R k := ⟨_, rfl⟩
         have hD1 : D0.length ≤ k + 18 := by rw [hD0]; exact delS_len HFK.out R k
         have hD2 : ∀ i, (D0.getD i []).length ≤ 2 * k := by rw [hD0]; exact delS_get z F R k
         have hD3 := HDS.out
         have hD4 := HBT8.out
         rw [← hD0] at hD3 hD4
         have HD2 := Lib.hid hD2
         have HD3 := Lib.hid hD3
         have HD4 := Lib.hid hD4
         clear hD0 hD2 hD3 hD4 HDS HBT8 e0 e1 e2
         have hbrc : wq.heap.size ≤ br := by rw [← HBR.out]; exact hbq
         go_wp2_with fail
         go_loopw [12] (fun s12 wx => ∃ (vo : Value) (V : List (Value × Value)) (D : List (List Rpt)) (n : Nat), vo = s12 ∧ D.length = n ∧ n ≤ 3000 ∧ Hid (∀ i, (D.getD i []).length ≤ 2 * k) ∧ Hid (BatR wx wq.heap.size vo V D (excS S S.syncs.length)) ∧ Hid (ext D l = ext D0 l) ∧ Hid (Avoid V br) ∧ Hid (wx.heap[br]? = some (.cells #[.int .i64 r.obj, .int .i64 r.seq, .int .i64 r.ver, .int .i64 r.dev, .int .i64 r.at_, .int .i64 r.x, .int .i64 r.y, .bool r.cancel] 77 (0, 0))) ∧ Hid (Below wq.heap.size wq wx)) (fun s12 _ => (match s12 with | .slice _ n _ => 4000 - n | _ => 0))
         case atStart => exact ⟨_, _, D0, _, rfl, rfl, by omega, HD2.out, HD4.out, rfl, HAV.out, HR8.out, HB8.out⟩
         case round =>
          obtain ⟨vo, V, D, n, rfl, hn, hn3, hDg, hBT, hE, hAV, hRb, hBB⟩ := hrel
          obtain ⟨go, co, rfl, hgo1, hgo2, hco⟩ := hBT.out.shape
          have hVn : V.length = n := by rw [← hBT.out.len, LV_len, hn]
          rw [hVn] at hco hBT ⊢
          have HVN := Lib.hid hVn
          have HN := Lib.hid hn
          clear hVn hn
          by_cases hnl : n ≤ l
          ·have hnl2 : (n : Int) ≤ (l : Int) := by omega
           have HOWN : Hid (∀ W, Below wr.heap.size wr W → W.ownsRow wq.heap.size 115 2 (.slice (some ⟨go, 0, none⟩) n co) n ((V.map fun p => [p.1, p.2]).flatten)) := fun W hW => by
            have q := (hBT.out.own.keep hW).1
            rw [List.length_map, HVN.out] at q
            exact q
           have hBw := hBB.out.size
           have hgz := (hBT.out.own.blk go rfl).2
           go_wp2_with (at_builtin; refine wpList_append_lies _ (by rfl) _ _ _ (by rfl) wq.heap.size 115 bt0_ _ 2 48 uBatT bti bt0 bt1 bt2 rfl (by decide) (.slice (some ⟨go, 0, none⟩) n co) n ((V.map fun p => [p.1, p.2]).flatten) (by rfl) (HOWN.out _ (by (repeat (first | with_reducible exact Below.refl _ _ | with_reducible assumption | ((with_reducible first | refine Below.setCell ?_ ?_ _ | refine Below.alloc ?_ ?_ _); rotate_left; focus (first | exact Nat.le_refl _ | omega | exact Below.size (by assumption) | (simp <;> omega))) | with_reducible refine Below.drew ?_ | with_reducible refine drewN_ ?_ _)))) ⟨wr.heap.size, 0, none⟩ 1 1 [.slice none 0 0, .slice none 0 0] (by rfl) rfl (World.news_of_block (cs := #[.slice none 0 0, .slice none 0 0]) (t := 115) (fr := (0, 0)) (obj_last _ _)) nil_cell2 (by omega) (by unfold maxLen; omega) (by omega) (by have := hBw; first | omega | (simp; omega)) _ rfl ?_; intro g2 cap2 w7' hown2 hgrow2 hat2 hlt2; have hall2 : wr.grownBy w7' (some go) := (grown_of (by (repeat (first | with_reducible exact Below.refl _ _ | with_reducible assumption | ((with_reducible first | refine Below.setCell ?_ ?_ _ | refine Below.alloc ?_ ?_ _); rotate_left; focus (first | exact Nat.le_refl _ | omega | exact Below.size (by assumption) | (simp <;> omega))) | with_reducible refine Below.drew ?_ | with_reducible refine drewN_ ?_ _)))).trans hgrow2; have HALL2 := Lib.hid hall2; have HOWN2 := Lib.hid hown2; clear hgrow2 hat2 hall2 hown2)
           go_roundw
           case rel =>
            refine ⟨_, V ++ [(.slice none 0 0, .slice none 0 0)], D ++ [[]], n + 1, rfl, by rw [List.length_append, HN.out]; rfl, by omega, fun i => ?_, ?_, ?_, (show Avoid _ _ from hAV.out.push), ?_, ?_⟩
            ·have := hDg.out i
             rw [getD_push]; exact this
            ·have hp := hBT.out.push (g := g2) (cap := cap2) (by decide) (by decide) HALL2.out (by rw [HVN.out]; exact HOWN2.out)
             rw [HVN.out] at hp
             show Bat _ _ _ _ _ _ _ _ _ _ _
             rw [LV_push]; exact hp
            ·show _ = _
             rw [ext_push _ _ (by rw [HN.out]; exact hnl)]; exact hE.out
            ·refine (HALL2.out.block br (obj_lt hRb.out) (fun e => ?_)).trans hRb.out
             injection e with e
             subst e
             exact absurd (hBT.out.own.type _ rfl _ _ _ hRb.out) (by decide)
            ·exact hBB.out.grown HALL2.out hBB.out.size (fun b hb => by injection hb with hb; subst hb; exact hgo1)
           case measure => simp; omega
          ·have hnl2 : ¬(n : Int) ≤ (l : Int) := by omega
           have hE2 : D = ext D0 l := by rw [← hE.out]; exact (ext_done D l (by rw [HN.out]; omega)).symm
           rw [← hE2] at HD3
           obtain ⟨Wy, rfl⟩ : ∃ z : World, z = wr := ⟨_, rfl⟩
           clear hE hE2
           go_wp2_with fail
           go_loopw [18] (fun s18 wx => ∃ (j : Nat) (V : List (Value × Value)) (D' : List (List Rpt)), s18 = .int .i64 j ∧ m ≤ j ∧ j ≤ l + 1 ∧ Hid (D'.length = n) ∧ Hid (∀ i, (D'.getD i []).length ≤ 2 * k + (j - m)) ∧ Hid (BatR wx wq.heap.size (.slice (some ⟨go, 0, none⟩) n co) V D' (excS S S.syncs.length)) ∧ Hid (addFor D' j (l + 1 - j) r = addFor D m (l + 1 - m) r) ∧ Hid (Avoid V br) ∧ Hid (wx.heap[br]? = some (.cells #[.int .i64 r.obj, .int .i64 r.seq, .int .i64 r.ver, .int .i64 r.dev, .int .i64 r.at_, .int .i64 r.x, .int .i64 r.y, .bool r.cancel] 77 (0, 0))) ∧ Hid (Below wq.heap.size wq wx)) (fun s18 _ => l + 1 - (intOf s18).toNat)
           case atStart => exact ⟨m, V, D, rfl, Nat.le_refl _, by omega, HN.out, fun i => by have := hDg.out i; omega, hBT.out, rfl, hAV.out, hRb.out, hBB.out⟩
           case round =>
            obtain ⟨j, V, D', rfl, hjm, hjl, hn, hDg, hBT, hE, hAV, hRb, hBB⟩ := hrel
            by_cases hj : j ≤ l
            ·have hVn := hBT.out.vlen
             obtain ⟨p, hp⟩ : ∃ p, V[j]? = some p := ⟨_, List.getElem?_eq_getElem (by rw [hVn]; omega)⟩
             have hrep := hBT.out.rep j p hp
             rw [LV_get] at hrep
             obtain ⟨p1, p2⟩ := p
             obtain ⟨ap, np, cp, hpv⟩ := hrep.val
             simp only at hpv
             subst hpv
             have hnp := hrep.sl.len
             rw [List.length_map] at hnp
             have hdj := hDg.out j
             rw [hnp] at hdj
             have c0 := hBT.out.cell0 j _ hp
             have f0 := hBT.out.own.free (j * 2)
             have hgz := (hBT.out.own.blk go rfl).2
             have HNE : Hid (some go ≠ (Value.slice ap np cp).ownBlock) := by
              rcases hrep.apart hBT.out.own (by decide) with h | h
              ·simp only at h; rw [h]; exact fun e => by cases e
              ·exact fun e => h e.symm
             have y0 := obj_cell hRb.out 0
             have y1 := obj_cell hRb.out 1
             have y2 := obj_cell hRb.out 2
             have y3 := obj_cell hRb.out 3
             have y4 := obj_cell hRb.out 4
             have y5 := obj_cell hRb.out 5
             have y6 := obj_cell hRb.out 6
             have y7 := obj_cell hRb.out 7
             simp at y0 y1 y2 y3 y4 y5 y6 y7 c0
             have zb := obj_lt hRb.out
             have HOWN : Hid (∀ W, Below wr.heap.size wr W → W.ownsRow wq.heap.size 77 8 (.slice ap np cp) np (((D'.getD j []).map Rpt.cs).flatten)) := fun W hW => by
              have q := (hrep.keep hW).1
              rw [List.length_map, hnp] at q
              exact q
             have hBw := hBB.out.size
             have hj1 : (0 : Int) ≤ (j : Int) := by omega
             have hj2 : (j : Int) < (n : Int) := by omega
             have hj3 : (j : Int) ≤ (l : Int) := by omega
             have HP := Lib.hid hp
             have HNP := Lib.hid hnp
             have HREP := Lib.hid hrep
             clear hp hnp hrep hVn
             go_wp2_with fail
             go_region_law
              ((first | ((refine step_append_lies _ (by rfl) _ _ _ (by rfl) wq.heap.size 77 rp0_ _ 8 64 uRptT rpi rp0 rp1 rp2 rfl (by decide) (.slice ap np cp) np (((D'.getD j []).map Rpt.cs).flatten) (by rfl) (HOWN.out _ (by (repeat (first | with_reducible exact Below.refl _ _ | with_reducible assumption | ((with_reducible first | refine Below.setCell ?_ ?_ _ | refine Below.alloc ?_ ?_ _); rotate_left; focus (first | exact Nat.le_refl _ | omega | exact Below.size (by assumption) | (simp <;> omega))) | with_reducible refine Below.drew ?_ | with_reducible refine drewN_ ?_ _)))) ⟨wr.heap.size, 0, none⟩ 1 1 r.cs (by rfl) rfl (World.news_of_block (cs := #[.int .i64 r.obj, .int .i64 r.seq, .int .i64 r.ver, .int .i64 r.dev, .int .i64 r.at_, .int .i64 r.x, .int .i64 r.y, .bool r.cancel]) (t := 77) (fr := (0, 0)) (by first | exact obj_last _ _ | exact obj_drew (obj_last _ _))) (rpt_cell1 r) (by omega) (by unfold maxLen; omega) (by omega) (by have := hBw; first | omega | (simp; omega)) _ rfl ?_; intro gg cc w1' hown1 hgrow1 hat1 hlt1; have hall1 : wr.grownBy w1' (Value.slice ap np cp).ownBlock := (grown_of (by (repeat (first | with_reducible exact Below.refl _ _ | with_reducible assumption | ((with_reducible first | refine Below.setCell ?_ ?_ _ | refine Below.alloc ?_ ?_ _); rotate_left; focus (first | exact Nat.le_refl _ | omega | exact Below.size (by assumption) | (simp <;> omega))) | with_reducible refine Below.drew ?_ | with_reducible refine drewN_ ?_ _)))).trans hgrow1; have hc1 := (hall1.cell_far ⟨go, j * 2, none⟩ hgz HNE.out).trans c0; have hf1 := (hall1.frozen_far ⟨go, j * 2, none⟩ hgz HNE.out).trans f0; have HALL1 := Lib.hid hall1; have HOWN1 := Lib.hid hown1; have HAT1 := Lib.hid hat1; clear hall1 hown1 hat1 hgrow1)) | fail))
             all_goals
              have hat : (Value.slice ap np cp).ownBlock = some gg ∨ wr.heap.size ≤ gg := by
               rcases HAT1.out with e | e
               ·exact .inl e
               ·right; rw [e]; first | omega | (simp; done) | (simp; omega)
              have HAT2 := Lib.hid hat
              clear hat
              go_wp2_with fail
              go_roundw
              case rel =>
               refine ⟨j + 1, V.set j (.slice (some ⟨gg, 0, none⟩) (np + 1) cc, p2), addAt D' j r, by go_num, by omega, by omega, ?_, fun i => ?_, ?_, ?_, ?_, ?_, ?_⟩
               ·show _ = _
                rw [addAt_len]; exact hn.out
               ·have h1 := addAt_get D' j i r
                have h2 := hDg.out i
                omega
               ·have ha := hBT.out.add (gg := gg) (np := np) (cc := cc) (by decide) (by decide) (by decide) j _ HP.out (r := r.cs) rfl HALL1.out (by rw [LV_get, List.length_map]; exact HNP.out) (by rw [LV_get]; exact HOWN1.out) HAT2.out
                show Bat _ _ _ _ _ _ _ _ _ _ _
                rw [LV_addAt]; exact ha
               ·show _ = _
                rw [← hE.out, show l + 1 - j = (l + 1 - (j + 1)) + 1 by omega]
                rfl
               ·show Avoid _ _
                refine hAV.out.set ?_
                intro e
                have e2 : gg = br := by simpa [Value.ownBlock] using e
                subst e2
                rcases HAT2.out with h | h
                ·exact hAV.out j _ HP.out h
                ·omega
               ·show _ = _
                refine obj_setOther ((HALL1.out.block br (obj_lt hRb.out) (fun e => hAV.out j _ HP.out e.symm)).trans hRb.out) (fun e => ?_)
                simp only at e
                subst e
                exact absurd (hBT.out.own.type _ rfl _ _ _ hRb.out) (by decide)
               ·show Below _ _ _
                exact (hBB.out.grown HALL1.out hBB.out.size (fun b hb => (HREP.out.blk b hb).1)).setCell hgo1 _
              case measure => simp [intOf]; omega
            ·obtain rfl : j = l + 1 := by omega
             have hj2 : ¬((l + 1 : Nat) : Int) ≤ (l : Int) := by omega
             have hEE := hE.out
             rw [show l + 1 - (l + 1) = 0 by omega] at hEE
             have hEF : delS z F R (k + 1) = D' := by rw [HD3.out]; exact hEE.symm
             have HEF := Lib.hid hEF
             clear hEE hEF
             go_wp2_with fail
             go_roundw
             case rel => exact ⟨k + 1, _, V, by go_num, rfl, by omega, by show BatR _ _ _ _ _ _; rw [HEF.out]; exact hBT.out, hBB.out⟩
             case measure => simp [intOf]; omega
     ·obtain rfl : nr = k := by omega
      have hkr2 : ¬(nr : Int) < (nr : Int) := by omega
      go_wp2_with fail
      go_ret2
      refine ⟨.inl ⟨HGD.out, _, V, rfl, ?_⟩, HBQ.out.trans (hBB.out.mono HBQ.out.size)⟩
      have h := hBT.out.mono (B' := w.heap.size) HBQ.out.size
      rw [HNR.out]
      exact h
end Go.Proofs.YthkhgfdjdpfoiaaGreat
