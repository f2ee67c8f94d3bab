/-
 The model's deliver, walked. Printed by wip/tools/gendelm.py.
-/
import Derived.Test.YthkhgfdjdpfoiaaGreatDelW
import Derived.Test.YthkhgfdjdpfoiaaGreatModR
import Derived.Test.YthkhgfdjdpfoiaaGreatCheckM
set_option linter.unusedSimpArgs false
set_option linter.unusedVariables false
namespace Go.Proofs.YthkhgfdjdpfoiaaGreat
open Go Go.RowKit Go.Vi
theorem avoid_nil (v : Value) (b : Nat) : Avoid [(.slice none 0 0, v)] b := fun i p hp => by
 cases i with
 | zero => simp at hp; subst hp; simp [Value.ownBlock]
 | succ i => simp at hp
theorem addExt_step {α : Type} (D : List (List α)) (a c j : Nat) (r : α) (h : j < c) : addExt D a (c - j) r = addExt (addAt (ext D a) a r) (a + 1) (c - (j + 1)) r := by
 rw [show c - j = (c - (j + 1)) + 1 by omega]
 rfl
set_option maxRecDepth 100000 in
set_option maxHeartbeats 20000000 in
theorem deliverM_any (S : Scn) (size : Int) (F : List Fte) (R : List Rpt) (v1 v2 v3 v4 v5 vf : Value) (w : World) (hS : ScnAt w.heap.size w v1 v2 v3 v4 v5 S) (hF : Fit S) (hW : wayErr S = 0) (hV : Sl w.heap.size w 3 vf (F.map Fte.cs))
  (hRR : R = (insAll (sentS S S.trips.length)).map Snt.r) (hlr : R.length ≤ 1000) (hlx : S.syncs.length ≤ 1000) (hlf : F.length ≤ 1000) :
  Calls Tryz.prog 15 #[S.v v1 v2 v3 v4 v5, .int .i64 size, vf] w fun e w' => DelOut size F R (excS S S.syncs.length) w.heap.size e w' ∧ Below w.heap.size w w' := by
 obtain ⟨a3, n3, c3, rfl, hn3, hn31, hn32⟩ := hS.trips.open
 obtain ⟨a4, n4, c4, rfl, hn4, hn41, hn42⟩ := hS.clocks.open
 obtain ⟨a5, n5, c5, rfl, hn5, hn51, hn52⟩ := hS.syncs.open
 obtain ⟨af, nf, cf, rfl, hnf, hnf1, hnf2⟩ := hV.open
 rw [List.length_map] at hnf hn5
 rw [hnf] at hlf
 rw [hn5] at hlx
 have HS := Lib.hid hS
 have HF := Lib.hid hF
 have HW := Lib.hid hW
 have HV := Lib.hid hV
 have HNF := Lib.hid hnf
 have HN5 := Lib.hid hn5
 have HRR := Lib.hid hRR
 have HLR := Lib.hid hlr
 clear hS hF hW hV hRR hn3 hn4 hn5 hn31 hn32 hn41 hn42 hn51 hn52 hnf hnf1 hnf2 hlr
 obtain ⟨bt0_, bti, bt0, bt1, bt2⟩ := info_parts iBatT
 obtain ⟨rp0_, rpi, rp0, rp1, rp2⟩ := info_parts iRptT
 obtain ⟨exi0, exi, ex0, ex1, ex2⟩ := info_parts iExcT
 have hmk : ∀ w : World, (Instr.makeSlice 60 (.int .i64 1) (.int .i64 1)).run Tryz.prog w = .ok (.slice (some ⟨w.heap.size, 0, none⟩) 1 1) (w.alloc (.cells #[.slice none 0 0, .slice none 0 0] 115)) := fun _ => by kernel_rfl
 cases hsz : inB size 1 4096 with
 | false =>
  go_enter Tryz.func15, Tryz.ntmps15
  go_wp2_with (go_at_call 33; refine (within_any _ _ _ _).mono ?_; rintro e w' ⟨rfl, rfl⟩)
  go_ret2
  exact ⟨.inr ⟨by simp [delB, hsz], rfl⟩, (by (repeat (first | with_reducible exact Below.refl _ _ | with_reducible assumption | ((with_reducible first | refine Below.setCell ?_ ?_ _ | refine Below.alloc ?_ ?_ _); rotate_left; focus (first | exact Nat.le_refl _ | omega | exact Below.size (by assumption) | (simp <;> omega))) | with_reducible refine Below.drew ?_ | with_reducible refine drewN_ ?_ _)))⟩
 | true =>
  obtain ⟨z, rfl, hz1, hz2⟩ : ∃ z : Nat, size = (z : Int) ∧ 1 ≤ z ∧ z ≤ 4096 := by
   have := inB_iff.1 hsz; exact ⟨size.toNat, by omega, by omega, by omega⟩
  have HSZ := Lib.hid hsz
  go_enter Tryz.func15, Tryz.ntmps15
  go_wp2_with (go_at_call 33; refine (within_any _ _ _ _).mono ?_; rintro e w' ⟨rfl, rfl⟩)
  clear hsz
  obtain ⟨W0, hW0⟩ : ∃ W0, W0 = w.alloc (.cells #[v1, v2, .int .i64 S.gap, .slice a3 n3 c3, .slice a4 n4 c4, .slice a5 n5 c5] 40) := ⟨_, rfl⟩
  have P0 := Lib.hid (obj_last w (.cells #[v1, v2, .int .i64 S.gap, .slice a3 n3 c3, .slice a4 n4 c4, .slice a5 n5 c5] 40))
  have B0 := Lib.hid ((Below.refl w.heap.size w).alloc (Nat.le_refl _) (.cells #[v1, v2, .int .i64 S.gap, .slice a3 n3 c3, .slice a4 n4 c4, .slice a5 n5 c5] 40))
  rw [← hW0] at P0 B0 ⊢
  obtain ⟨bs, hbs⟩ : ∃ z, w.heap.size = z := ⟨_, rfl⟩
  have HBS := Lib.hid hbs
  rw [hbs] at P0 ⊢
  have zb0 := obj_lt P0.out
  clear hW0 hbs
  go_loopw [8] (fun s8 wx => ∃ k : Nat, s8 = .int .i64 k ∧ k ≤ nf ∧ Hid (∀ j, j < k → inB F[j]!.late 0 16 = true) ∧ Hid (Below W0.heap.size W0 wx)) (fun s8 _ => nf - (intOf s8).toNat)
  case atStart => exact ⟨0, rfl, Nat.zero_le _, fun j h => by omega, Below.refl _ _⟩
  case round =>
   obtain ⟨k, rfl, hk, hA, hB⟩ := hrel
   have BX := Lib.hid (B0.out.trans (hB.out.mono B0.out.size))
   by_cases hlt : k < nf
   ·have hkl : k < F.length := by rw [HNF.out]; exact hlt
    obtain ⟨b, off, rfl, hb, hcs⟩ := HV.out.cells k hkl
    have t2 : w.cell? ⟨b, off + k * 3 + 2, none⟩ = some (.int .i64 F[k]!.late) := hcs k hkl 2 _ rfl
    rw [← BX.out.cell (p := ⟨b, _, none⟩) hb] at t2
    have hzb : b < wr.heap.size := by have := BX.out.size; omega
    have hk1 : (0 : Int) ≤ (k : Int) := by omega
    have hk2 : (k : Int) < (nf : Int) := by omega
    cases hx : inB F[k]!.late 0 16 with
    | false =>
     have HBAD := Lib.hid (delB_bad (size := (z : Int)) hkl hx)
     generalize F[k]! = x at t2 hx
     clear hcs
     go_wp2_with (go_at_call 33; refine (within_any _ _ _ _).mono ?_; rintro e w' ⟨rfl, rfl⟩)
     go_ret2
     exact ⟨.inr ⟨HBAD.out, rfl⟩, by have h := BX.out; (repeat (first | with_reducible exact Below.refl _ _ | with_reducible assumption | ((with_reducible first | refine Below.setCell ?_ ?_ _ | refine Below.alloc ?_ ?_ _); rotate_left; focus (first | exact Nat.le_refl _ | omega | exact Below.size (by assumption) | (simp <;> omega))) | with_reducible refine Below.drew ?_ | with_reducible refine drewN_ ?_ _))⟩
    | true =>
     have HA2 : Hid (∀ j, j < k + 1 → inB F[j]!.late 0 16 = true) := fun j hj => by
      rcases Nat.lt_or_ge j k with h | h
      ·exact hA.out j h
      ·rw [show j = k by omega]; exact hx
     generalize F[k]! = x at t2 hx
     clear hcs
     go_wp2_with (go_at_call 33; refine (within_any _ _ _ _).mono ?_; rintro e w' ⟨rfl, rfl⟩)
     go_roundw
     case rel => exact ⟨k + 1, by go_num, by omega, HA2.out, by have h := hB.out; show Below _ _ _; (repeat (first | with_reducible exact Below.refl _ _ | with_reducible assumption | ((with_reducible first | refine Below.setCell ?_ ?_ _ | refine Below.alloc ?_ ?_ _); rotate_left; focus (first | exact Nat.le_refl _ | omega | exact Below.size (by assumption) | (simp <;> omega))) | with_reducible refine Below.drew ?_ | with_reducible refine drewN_ ?_ _))⟩
     case measure => simp [intOf]; omega
   ·obtain rfl : nf = k := by omega
    have hlt' : ¬(nf : Int) < (nf : Int) := by omega
    obtain ⟨hgood, hfok⟩ := delB_good (F := F) HSZ.out (by rw [HNF.out]; exact hA.out)
    have HGD := Lib.hid hgood
    have HFK := Lib.hid hfok
    have PX := Lib.hid (keepObj hB.out P0.out)
    have zp := obj_lt PX.out
    have HSQ := Lib.hid (HS.out.later BX.out)
    obtain ⟨wq, rfl⟩ : ∃ z : World, z = wr := ⟨_, rfl⟩
    have HBQ := Lib.hid BX.out
    clear hgood hfok BX hA hB zb0
    go_wp2_with fail
    have hM0 := Bat.made wq 115 77 8 51 5
    have hMB : Below wq.heap.size wq (wq.alloc (.cells #[.slice none 0 0, .slice none 0 0] 115)) := (Below.refl _ _).alloc (Nat.le_refl _) _
    generalize (wq.alloc (.cells #[.slice none 0 0, .slice none 0 0] 115)) = W1 at hM0 hMB ⊢
    have HM0 := Lib.hid hM0
    have HMB := Lib.hid hMB
    obtain ⟨bo, hbo⟩ : ∃ z, wq.heap.size = z := ⟨_, rfl⟩
    have HBO := Lib.hid hbo
    rw [hbo] at HM0 zp ⊢
    clear hM0 hMB hbo
    go_loopw [10] (fun s10 wx => ∃ (k : Nat) (vx : Value), s10 = .int .i64 k ∧ k ≤ n5 ∧ Hid (BatR wx bo (.slice (some ⟨bo, 0, none⟩) 1 1) [(.slice none 0 0, vx)] [[]] (excS S k)) ∧ Hid (Below wq.heap.size wq wx)) (fun s10 _ => n5 - (intOf s10).toNat)
    case atStart => exact ⟨0, _, rfl, Nat.zero_le _, HM0.out, HMB.out⟩
    case round =>
     obtain ⟨k, vx, rfl, hk, hBT, hB⟩ := hrel
     have hPw := keepObj hB.out PX.out
     have l0 := obj_cell hPw 0
     have l1 := obj_cell hPw 1
     have l2 := obj_cell hPw 2
     have l3 := obj_cell hPw 3
     have l4 := obj_cell hPw 4
     have l5 := obj_cell hPw 5
     simp at l0 l1 l2 l3 l4 l5
     have zpw := obj_lt hPw
     have HSR := Lib.hid (HSQ.out.later hB.out)
     have PSR := Lib.hid hPw
     clear hPw
     by_cases hlt : k < n5
     ·have hkl : k < S.syncs.length := by rw [HN5.out]; exact hlt
      obtain ⟨b, off, rfl, hzb, hcs⟩ := HSR.out.syncs.cells k hkl
      have t0 : wr.cell? ⟨b, off + k * 6, none⟩ = _ := hcs k hkl 0 _ rfl
      have t1 : wr.cell? ⟨b, off + k * 6 + 1, none⟩ = _ := hcs k hkl 1 _ rfl
      have t2 : wr.cell? ⟨b, off + k * 6 + 2, none⟩ = _ := hcs k hkl 2 _ rfl
      have t3 : wr.cell? ⟨b, off + k * 6 + 3, none⟩ = _ := hcs k hkl 3 _ rfl
      have t4 : wr.cell? ⟨b, off + k * 6 + 4, none⟩ = _ := hcs k hkl 4 _ rfl
      have t5 : wr.cell? ⟨b, off + k * 6 + 5, none⟩ = _ := hcs k hkl 5 _ rfl
      obtain ⟨g0, g1, g2, g3, g4, g5, g6⟩ := HF.out.clocks.snc k hkl
      have hob := off_bound HF.out.clocks S.syncs[k]!.dev
      have hss := excS_succ S hkl
      obtain ⟨x, hx⟩ : ∃ x, x = S.syncs[k]! := ⟨_, rfl⟩
      rw [← hx] at t0 t1 t2 t3 t4 t5 g1 g2 g3 g4 g5 g6 hob hss
      have hG := Lib.hid (show exchV S x = .agg #[.int .i64 0, .int .i64 x.dev, .int .i64 x.sent, .int .i64 (gotOut S x), .int .i64 (x.out - x.so), .int .i64 x.dev, .int .i64 0, .int .i64 (gotOut S x), .int .i64 (gotBack x), .int .i64 (x.back - x.sb)] from rfl)
      have G2 := Lib.hid g2
      have G3 := Lib.hid g3
      have G4 := Lib.hid g4
      have G5 := Lib.hid g5
      have G6 := Lib.hid g6
      have HOB := Lib.hid hob
      have HSS := Lib.hid hss
      obtain ⟨go, hgo⟩ : ∃ z, z = gotOut S x := ⟨_, rfl⟩
      obtain ⟨gb, hgb⟩ : ∃ z, z = gotBack x := ⟨_, rfl⟩
      rw [← hgo, ← hgb] at hG
      have HA : Hid (excA S x = ⟨0, x.dev, x.sent, go, x.out - x.so⟩) := by show _ = _; simp only [excA, ← hgo]
      have HBB : Hid (excB S x = ⟨x.dev, 0, go, gb, x.back - x.sb⟩) := by show _ = _; simp only [excB, ← hgo, ← hgb]
      have hk1 : (0 : Int) ≤ (k : Int) := by omega
      have hk2' : (k : Int) < (n5 : Int) := by omega
      clear hcs hx g0 g1 g2 g3 g4 g5 g6 hob hgo hgb hss
      go_upto_region 12 with fail
      go_cut [11] (fun s11 wx => ∃ be : Nat, s11 = .pointer (some ⟨be, 0, none⟩) ∧ Hid (wx.heap[be]? = some (.cells #[.int .i64 0, .int .i64 x.dev, .int .i64 x.sent, .int .i64 go, .int .i64 (x.out - x.so), .int .i64 x.dev, .int .i64 0, .int .i64 go, .int .i64 gb, .int .i64 (x.back - x.sb)] 52 (0, 0))) ∧ Hid (Below wr.heap.size wr wx))
      case first =>
       go_region_held3 (fun w' => w'.cell? ⟨bs, 0, none⟩ = some v1 ∧ w'.cell? ⟨bs, 1, none⟩ = some v2 ∧ w'.cell? ⟨bs, 2, none⟩ = some (.int .i64 S.gap) ∧ w'.cell? ⟨bs, 3, none⟩ = some (.slice a3 n3 c3) ∧ w'.cell? ⟨bs, 4, none⟩ = some (.slice a4 n4 c4) ∧ w'.cell? ⟨bs, 5, none⟩ = some (.slice (some ⟨b, off, none⟩) n5 c5) ∧ w'.cell? ⟨b, off + k * 6, none⟩ = some (.int .i64 x.dev) ∧ w'.cell? ⟨b, off + k * 6 + 1, none⟩ = some (.int .i64 x.sent) ∧ w'.cell? ⟨b, off + k * 6 + 2, none⟩ = some (.int .i64 x.out) ∧ w'.cell? ⟨b, off + k * 6 + 3, none⟩ = some (.int .i64 x.back) ∧ w'.cell? ⟨b, off + k * 6 + 4, none⟩ = some (.int .i64 x.so) ∧ w'.cell? ⟨b, off + k * 6 + 5, none⟩ = some (.int .i64 x.sb))
        (((go_split_ands; refine ⟨?_, ?_, ?_, ?_, ?_, ?_, ?_, ?_, ?_, ?_, ?_, ?_⟩ <;> first | with_reducible assumption | exact ((show Below wr.heap.size wr _ from (by (repeat (first | with_reducible exact Below.refl _ _ | with_reducible assumption | ((with_reducible first | refine Below.setCell ?_ ?_ _ | refine Below.alloc ?_ ?_ _); rotate_left; focus (first | exact Nat.le_refl _ | omega | exact Below.size (by assumption) | (simp <;> omega))) | with_reducible refine Below.drew ?_ | with_reducible refine drewN_ ?_ _)))).cell (p := ⟨_, _, none⟩) (by first | with_reducible assumption | omega)).trans (by with_reducible assumption))))
        ((go_at_call 10; refine (exchanges_any S _ _ _ _ _ x _ (HSR.out.clocks.later (by (repeat (first | with_reducible exact Below.refl _ _ | with_reducible assumption | ((with_reducible first | refine Below.setCell ?_ ?_ _ | refine Below.alloc ?_ ?_ _); rotate_left; focus (first | exact Nat.le_refl _ | omega | exact Below.size (by assumption) | (simp <;> omega))) | with_reducible refine Below.drew ?_ | with_reducible refine drewN_ ?_ _)))) HF.out.nclocks ⟨by have := HOB.out; omega, by have := HOB.out; omega⟩ G2.out G3.out G4.out G5.out G6.out).mono ?_; rintro e w3 ⟨rfl, hb3⟩; rw [hG.out]; have B3 := from_ (w := wr) hb3 (by (repeat (first | with_reducible exact Below.refl _ _ | with_reducible assumption | ((with_reducible first | refine Below.setCell ?_ ?_ _ | refine Below.alloc ?_ ?_ _); rotate_left; focus (first | exact Nat.le_refl _ | omega | exact Below.size (by assumption) | (simp <;> omega))) | with_reducible refine Below.drew ?_ | with_reducible refine drewN_ ?_ _))); (first | (have LL := keepObj hb3 (b := wr.heap.size) (o := (.cells #[.int .i64 0, .int .i64 0, .int .i64 0, .int .i64 0, .int .i64 0, .int .i64 0, .int .i64 0, .int .i64 0, .int .i64 0, .int .i64 0] 52)) (by first | exact obj_last wr (.cells #[.int .i64 0, .int .i64 0, .int .i64 0, .int .i64 0, .int .i64 0, .int .i64 0, .int .i64 0, .int .i64 0, .int .i64 0, .int .i64 0] 52) | exact obj_drew (obj_last wr (.cells #[.int .i64 0, .int .i64 0, .int .i64 0, .int .i64 0, .int .i64 0, .int .i64 0, .int .i64 0, .int .i64 0, .int .i64 0, .int .i64 0] 52)) | exact obj_last wr.drew (.cells #[.int .i64 0, .int .i64 0, .int .i64 0, .int .i64 0, .int .i64 0, .int .i64 0, .int .i64 0, .int .i64 0, .int .i64 0, .int .i64 0] 52) | exact obj_drew (obj_last wr.drew (.cells #[.int .i64 0, .int .i64 0, .int .i64 0, .int .i64 0, .int .i64 0, .int .i64 0, .int .i64 0, .int .i64 0, .int .i64 0, .int .i64 0] 52))); have e0 := obj_cell LL 0; have e1 := obj_cell LL 1; have e2 := obj_cell LL 2; have e3 := obj_cell LL 3; have e4 := obj_cell LL 4; have e5 := obj_cell LL 5; have e6 := obj_cell LL 6; have e7 := obj_cell LL 7; have e8 := obj_cell LL 8; have e9 := obj_cell LL 9; have f0 := obj_free LL 0; have f1 := obj_free LL 1; have f2 := obj_free LL 2; have f3 := obj_free LL 3; have f4 := obj_free LL 4; have f5 := obj_free LL 5; have f6 := obj_free LL 6; have f7 := obj_free LL 7; have f8 := obj_free LL 8; have f9 := obj_free LL 9; simp at e0 e1 e2 e3 e4 e5 e6 e7 e8 e9; have ze := obj_lt LL) | (guard_hyp hb3 : Below wr.drew.heap.size wr.drew w3) | (guard_hyp hb3 : Below wr.heap.size wr w3)); have zz3 := hb3.size; (try simp at zz3); clear hb3))
       all_goals
        go_wp2_with fail
        go_meet
        refine ⟨_, rfl, ?_, by show Below _ _ _; (repeat (first | with_reducible exact Below.refl _ _ | with_reducible assumption | ((with_reducible first | refine Below.setCell ?_ ?_ _ | refine Below.alloc ?_ ?_ _); rotate_left; focus (first | exact Nat.le_refl _ | omega | exact Below.size (by assumption) | (simp <;> omega))) | with_reducible refine Below.drew ?_ | with_reducible refine drewN_ ?_ _))⟩
        show _ = _
        first
         | with_reducible exact obj_last _ _
         | with_reducible exact obj_set10 LL
      case rest =>
       obtain ⟨be, rfl, hXE, hBf⟩ := hcut
       obtain ⟨wd, rfl⟩ : ∃ z : World, z = wc := ⟨_, rfl⟩
       have e0 := obj_cell hXE.out 0
       have e1 := obj_cell hXE.out 1
       have e2 := obj_cell hXE.out 2
       have e3 := obj_cell hXE.out 3
       have e4 := obj_cell hXE.out 4
       have e5 := obj_cell hXE.out 5
       have e6 := obj_cell hXE.out 6
       have e7 := obj_cell hXE.out 7
       have e8 := obj_cell hXE.out 8
       have e9 := obj_cell hXE.out 9
       simp at e0 e1 e2 e3 e4 e5 e6 e7 e8 e9
       have ze := obj_lt hXE.out
       have BR := Lib.hid (hB.out.trans (hBf.out.mono hB.out.size))
       have HBD := Lib.hid (hBT.out.keep hBf.out)
       have hexc := HBD.out.exc _ rfl
       simp only at hexc
       obtain ⟨ab, n', cb, rfl⟩ := hexc.val
       have hn' := hexc.sl.len
       rw [List.length_map, excS_len S k (by omega)] at hn'
       have HNB := Lib.hid (show n' = (excS S k).length by rw [excS_len S k (by omega)]; omega)
       have hnbb : n' ≤ 2000 := by omega
       have HOWN : Hid (∀ W, Below wd.heap.size wd W → W.ownsRow bo 51 5 (.slice ab n' cb) n' ((excS S k).map Exc.cs).flatten) := fun W hW => by
        have qq := (hexc.keep hW).1
        rw [List.length_map, ← HNB.out] at qq
        exact qq
       have hBw : bo ≤ wd.heap.size := by have := BR.out.size; have := HBO.out; omega
       have c1 := HBD.out.cell1 0 _ rfl
       have f1 := HBD.out.own.free 1
       have hgz := (HBD.out.own.blk bo rfl).2
       simp at c1
       have HNE : Hid (some bo ≠ (Value.slice ab n' cb).ownBlock) := by
        rcases hexc.apart HBD.out.own (by decide) with h | h
        ·rw [h]; exact fun e => by cases e
        ·exact fun e => h e.symm
       have HEXC := Lib.hid hexc
       clear l0 l1 l2 l3 l4 l5 t0 t1 t2 t3 t4 t5 hn' hexc
       go_wp2_with fail
       go_region_law
        ((first | ((refine step_append_lies _ (by rfl) _ _ _ (by rfl) bo 51 exi0 _ 5 40 uExcT exi ex0 ex1 ex2 rfl (by decide) (.slice ab n' cb) n' ((excS S k).map Exc.cs).flatten (by rfl) (HOWN.out _ (by (repeat (first | with_reducible exact Below.refl _ _ | with_reducible assumption | ((with_reducible first | refine Below.setCell ?_ ?_ _ | refine Below.alloc ?_ ?_ _); rotate_left; focus (first | exact Nat.le_refl _ | omega | exact Below.size (by assumption) | (simp <;> omega))) | with_reducible refine Below.drew ?_ | with_reducible refine drewN_ ?_ _)))) ⟨wd.heap.size, 0, none⟩ 2 2 ((⟨0, x.dev, x.sent, go, x.out - x.so⟩ : Exc).cs ++ (⟨x.dev, 0, go, gb, x.back - x.sb⟩ : Exc).cs) (by rfl) rfl (World.news_of_block (cs := #[.int .i64 0, .int .i64 x.dev, .int .i64 x.sent, .int .i64 go, .int .i64 (x.out - x.so), .int .i64 x.dev, .int .i64 0, .int .i64 go, .int .i64 gb, .int .i64 (x.back - x.sb)]) (t := 51) (fr := (0, 0)) (by first | exact obj_last _ _ | exact obj_drew (obj_last _ _))) (exc_cell1 _ _) (by omega) (by unfold maxLen; omega) (by omega) (by have := hBw; first | omega | (simp; omega)) _ rfl ?_; intro gg cc w1' hown1 hgrow1 hat1 hlt1; have hall1 : wd.grownBy w1' (Value.slice ab n' cb).ownBlock := (grown_of (by (repeat (first | with_reducible exact Below.refl _ _ | with_reducible assumption | ((with_reducible first | refine Below.setCell ?_ ?_ _ | refine Below.alloc ?_ ?_ _); rotate_left; focus (first | exact Nat.le_refl _ | omega | exact Below.size (by assumption) | (simp <;> omega))) | with_reducible refine Below.drew ?_ | with_reducible refine drewN_ ?_ _)))).trans hgrow1; have hc1 := (hall1.cell_far ⟨bo, 1, none⟩ hgz HNE.out).trans c1; have hf1 := (hall1.frozen_far ⟨bo, 1, none⟩ hgz HNE.out).trans f1; have HALL1 := Lib.hid hall1; have HOWN1 := Lib.hid hown1; clear hall1 hown1 hat1 hgrow1)) | fail))
       all_goals
        go_wp2_with fail
        go_roundw
        case rel =>
         refine ⟨k + 1, (.slice (some ⟨gg, 0, none⟩) (n' + 2) cc), by go_num, by omega, ?_, ?_⟩
         ·have hb := HBD.out.backX (by decide) (by decide) (by decide) _ rfl HALL1.out (exc_add HNB.out HOWN1.out)
          show BatR _ _ _ _ _ _
          rw [HSS.out, HA.out, HBB.out]
          exact hb
         ·show Below _ _ _
          exact (BR.out.grown HALL1.out BR.out.size (fun b hb => by have := (HEXC.out.blk b hb).1; have := HBO.out; omega)).setCell (by have := HBO.out; simp only; omega) _
        case measure => simp [intOf]; omega
     ·obtain rfl : n5 = k := by omega
      have hlt2 : ¬(n5 : Int) < (n5 : Int) := by omega
      obtain ⟨w8, rfl⟩ : ∃ z : World, z = wr := ⟨_, rfl⟩
      go_wp2_with fail
      refine (reportsM_any S _ _ _ _ _ w8 HSR.out HF.out HW.out).mono ?_
      rintro e w9 ⟨⟨vr, rfl, hOR⟩, hb9⟩
      have hOR2 := hOR.mono (B' := w.heap.size) (by have := hB.out.size; have := HBQ.out.size; have := HBS.out; omega)
      rw [show ((insAll (sentS S S.trips.length)).map fun s => s.r.cs) = R.map Rpt.cs by rw [HRR.out, List.map_map]; rfl] at hOR2
      obtain ⟨ar, nr, cr, rfl⟩ := hOR2.val
      have hnr := hOR2.sl.len
      rw [List.length_map] at hnr
      have hlr := HLR.out
      rw [hnr] at hlr
      have HNR := Lib.hid hnr
      have HR := Lib.hid hOR2
      have HBT9 := Lib.hid (hBT.out.keep hb9)
      have HB9 := Lib.hid (hB.out.trans (hb9.mono hB.out.size))
      clear hb9 hOR hOR2 hnr l0 l1 l2 l3 l4 l5 hBT hB
      go_wp2_with fail
      go_loopw [9, 13] (fun s9 s13 wx => ∃ (k : Nat) (vo : Value) (V : List (Value × Value)), s13 = .int .i64 k ∧ vo = s9 ∧ k ≤ nr ∧ Hid (BatR wx bo vo V (delS z F R k) (excS S n5)) ∧ Hid (Ow w.heap.size wx 77 8 (.slice ar nr cr) (R.map Rpt.cs)) ∧ Hid (∀ g, (Value.slice ar nr cr).ownBlock = some g → Avoid V g) ∧ Hid (Below wq.heap.size wq wx)) (fun _ s13 _ => nr - (intOf s13).toNat)
      case atStart => exact ⟨0, _, _, rfl, rfl, Nat.zero_le _, HBT9.out, HR.out, fun g _ => avoid_nil _ g, HB9.out⟩
      case round =>
       obtain ⟨k, vo, V, rfl, rfl, hk, hBT, hOR, hAV, hBB⟩ := hrel
       by_cases hkr : k < nr
       ·have hkR : k < R.length := by rw [HNR.out]; exact hkr
        obtain ⟨gr, rfl⟩ : ∃ g, ar = some ⟨g, 0, none⟩ := by
         rcases hOR.out.shape with ⟨_, e⟩ | ⟨g, cap, e, _⟩
         ·rw [List.map_eq_nil_iff] at e; rw [e] at hkR; simp at hkR
         ·injection e with e1; exact ⟨g, e1⟩
        have HAV := Lib.hid (hAV.out gr rfl)
        obtain ⟨r, hr⟩ : ∃ z, R[k] = z := ⟨_, rfl⟩
        have HRK := Lib.hid (show R[k]! = r by rw [getElem!_pos R k hkR]; exact hr)
        have HRG := Lib.hid (show (R.map Rpt.cs)[k]'(by rw [List.length_map]; exact hkR) = r.cs by rw [List.getElem_map, hr])
        obtain ⟨f, hf⟩ : ∃ f, fateAt F k = f := ⟨_, rfl⟩
        have hfo := fateAt_ok HFK.out k
        rw [hf] at hfo
        have HFF := Lib.hid hf
        have hk1 : (0 : Int) ≤ (k : Int) := by omega
        have hk2 : (k : Int) < (nr : Int) := by omega
        have hbq := hBB.out.size
        clear hr hf hAV
        go_upto_if 73 with fail
        have h6 : Below wr.heap.size wr (wr.alloc (.cells #[.bool false, .bool false, .int .i64 0] 113)) := (by (repeat (first | with_reducible exact Below.refl _ _ | with_reducible assumption | ((with_reducible first | refine Below.setCell ?_ ?_ _ | refine Below.alloc ?_ ?_ _); rotate_left; focus (first | exact Nat.le_refl _ | omega | exact Below.size (by assumption) | (simp <;> omega))) | with_reducible refine Below.drew ?_ | with_reducible refine drewN_ ?_ _)))
        have hF6 : (wr.alloc (.cells #[.bool false, .bool false, .int .i64 0] 113)).heap[wr.heap.size]? = _ := obj_last _ _
        generalize (wr.alloc (.cells #[.bool false, .bool false, .int .i64 0] 113)) = W6 at h6 hF6 ⊢
        obtain ⟨bf, hbf⟩ : ∃ z, wr.heap.size = z := ⟨_, rfl⟩
        have HBF := Lib.hid hbf
        rw [hbf] at hF6 ⊢
        have H6 := Lib.hid h6
        have HF6 := Lib.hid hF6
        have hz6 := obj_lt hF6
        clear h6 hF6 hbf
        go_cut [] (fun wx => Hid (wx.heap[bf]? = some (.cells #[.bool f.lose, .bool f.twice, .int .i64 f.late] 113 (0, 0))) ∧ Hid (Below bf wr wx))
        case first =>
         have H6b : Hid (Below bf wr W6) := by have h := H6.out; rw [HBF.out] at h; exact h
         by_cases hkf : k < nf
         ·have hkl : k < F.length := by rw [HNF.out]; exact hkf
          obtain ⟨b, off, rfl, hb, hcs⟩ := HV.out.cells k hkl
          have hfk : f = F[k]! := by
           rw [← HFF.out]; unfold fateAt
           rw [List.getD_eq_getElem?_getD, List.getElem?_eq_getElem hkl, getElem!_pos F k hkl]; rfl
          have t0 : w.cell? ⟨b, off + k * 3, none⟩ = some (.bool F[k]!.lose) := hcs k hkl 0 _ rfl
          have t1 : w.cell? ⟨b, off + k * 3 + 1, none⟩ = some (.bool F[k]!.twice) := hcs k hkl 1 _ rfl
          have t2 : w.cell? ⟨b, off + k * 3 + 2, none⟩ = some (.int .i64 F[k]!.late) := hcs k hkl 2 _ rfl
          rw [← hfk] at t0 t1 t2
          have hw6 : Below w.heap.size w W6 := HBQ.out.trans ((hBB.out.trans (H6.out.mono hBB.out.size)).mono HBQ.out.size)
          rw [← hw6.cell (p := ⟨b, _, none⟩) hb] at t0 t1 t2
          have hzb : b < W6.heap.size := by have := hw6.size; omega
          have hbne : b ≠ bf := by have := HBQ.out.size; have := HBF.out; omega
          have e0 := obj_cell HF6.out 0
          have e1 := obj_cell HF6.out 1
          have e2 := obj_cell HF6.out 2
          have f0 := obj_free HF6.out 0
          have f1 := obj_free HF6.out 1
          have f2 := obj_free HF6.out 2
          simp at e0 e1 e2
          have hkf2 : (k : Int) < (nf : Int) := by omega
          clear hcs hfk hw6
          go_wp2_with fail
          go_meet
          refine ⟨obj_set3 HF6.out, ?_⟩
          show Below _ _ _
          exact ((H6b.out.setCell (by simp) _).setCell (by simp) _).setCell (by simp) _
         ·have hfk : f = ⟨false, false, 0⟩ := by
           rw [← HFF.out]; unfold fateAt
           rw [List.getD_eq_getElem?_getD, List.getElem?_eq_none (by rw [HNF.out]; omega)]; rfl
          subst hfk
          have hkf2 : ¬(k : Int) < (nf : Int) := by omega
          go_wp2_with fail
          go_meet
          exact ⟨HF6.out, H6b.out⟩
        case rest =>
         obtain ⟨hFB, hB6⟩ := hcut
         obtain ⟨W7, rfl⟩ : ∃ z : World, z = wc := ⟨_, rfl⟩
         have h7 : Below wr.heap.size wr W7 := by have h := hB6.out; rw [← HBF.out] at h; exact h
         have HBT7 := Lib.hid (hBT.out.keep h7)
         have HOR7 := Lib.hid (hOR.out.keep h7)
         have HB7 := Lib.hid (hBB.out.trans (h7.mono hBB.out.size))
         have e0 := obj_cell hFB.out 0
         have e1 := obj_cell hFB.out 1
         have e2 := obj_cell hFB.out 2
         simp at e0 e1 e2
         have zf := obj_lt hFB.out
         obtain ⟨lo, tw, la⟩ := f
         obtain ⟨t, rfl⟩ : ∃ t : Nat, la = (t : Int) := ⟨la.toNat, by have := hfo.1; simp only at this; omega⟩
         simp only at e0 e1 e2 hFB
         have ht16 : t ≤ 16 := by have := hfo.2; simp only at this; omega
         obtain ⟨c, hc⟩ : ∃ c, c = (fateAt F k).cnt := ⟨_, rfl⟩
         have hc2 : c ≤ 2 := by rw [hc]; exact Fte.cnt_le _
         have hcv : c = (if lo then 0 else if tw then 2 else 1) := by rw [hc, HFF.out]; rfl
         have HCV := Lib.hid hcv
         obtain ⟨m, hm⟩ : ∃ m, firstD z F k = m := ⟨_, rfl⟩
         have hmm : k / z + t = m := by rw [← hm]; unfold firstD; rw [HFF.out]; simp
         have hml : m ≤ k + 16 := by rw [← hm]; exact firstD_le HFK.out k
         obtain ⟨d, hd⟩ : ∃ d, k / z = d := ⟨_, rfl⟩
         rw [hd] at hmm
         have hdk : d ≤ k := by rw [← hd]; exact Nat.div_le_self _ _
         have hq : (k : Int).tdiv (z : Int) = (d : Int) := by
          rw [Int.tdiv_eq_ediv_of_nonneg (by omega), ← hd]; rfl
         have HQ := Lib.hid hq
         have HWD := Lib.hid (show IntKind.i64.wrap (d : Int) = (d : Int) from IntWalk.i64_in _ (by omega))
         have HDT := Lib.hid (show (d : Int) + (t : Int) = (m : Int) by omega)
         have hz1' : (1 : Int) ≤ (z : Int) := by omega
         obtain ⟨D0, hD0⟩ : ∃ D, D = delS z F R k := ⟨_, rfl⟩
         have hD1 : D0.length ≤ k + 18 := by rw [hD0]; exact delS_len HFK.out R k
         have hD2 : ∀ i, (D0.getD i []).length ≤ 2 * k := by rw [hD0]; exact delS_get z F R k
         have hD3 : delS z F R (k + 1) = addExt D0 m c r := by rw [hD0, hc, ← hm, ← HRK.out]; rfl
         have hD4 := HBT7.out
         rw [← hD0] at hD4
         have HD2 := Lib.hid hD2
         have HD3 := Lib.hid hD3
         have HD4 := Lib.hid hD4
         clear hBT hBB hfo h7 hB6 H6 HF6 hz6 hOR hc hcv hm hmm hd hq hD0 hD2 hD3 hD4 HBT7
         go_upto_if 79 with fail
         go_cut [15] (fun s15 wx => s15 = .int .i64 c ∧ wx = W7)
         case first =>
          cases lo with
          | true =>
           have hl2 : c = 0 := by have := HCV.out; simpa using this
           subst hl2
           go_wp2_with fail
           go_meet
           exact ⟨rfl, rfl⟩
          | false =>
           cases tw with
           | true =>
            have hl2 : c = 2 := by have := HCV.out; simpa using this
            subst hl2
            go_wp2_with fail
            go_meet
            exact ⟨rfl, rfl⟩
           | false =>
            have hl2 : c = 1 := by have := HCV.out; simpa using this
            subst hl2
            go_wp2_with fail
            go_meet
            exact ⟨rfl, rfl⟩
         case rest =>
          obtain ⟨rfl, hW9⟩ := hcut
          subst hW9
          obtain ⟨Wz, rfl⟩ : ∃ z : World, z = wr := ⟨_, rfl⟩
          obtain ⟨W7, rfl⟩ : ∃ z : World, z = wc := ⟨_, rfl⟩
          clear e0 e1 e2
          have hbfc : bo ≤ bf := by have := HBO.out; have := HBF.out; omega
          go_wp2_with fail
          go_loopw [9, 16] (fun s9 s16 wx => ∃ (j : Nat) (vo : Value) (V : List (Value × Value)) (D : List (List Rpt)) (n : Nat), s16 = .int .i64 j ∧ vo = s9 ∧ j ≤ c ∧ Hid (D.length = n) ∧ n ≤ 2000 ∧ Hid (∀ i, (D.getD i []).length ≤ 2 * k + j) ∧ Hid (BatR wx bo vo V D (excS S n5)) ∧ Hid (addExt D (m + j) (c - j) r = addExt D0 m c r) ∧ Hid (Ow w.heap.size wx 77 8 (.slice (some ⟨gr, 0, none⟩) nr cr) (R.map Rpt.cs)) ∧ Hid (Avoid V gr) ∧ Hid (wx.heap[bf]? = some (.cells #[.bool lo, .bool tw, .int .i64 t] 113 (0, 0))) ∧ Hid (Below wq.heap.size wq wx)) (fun _ s16 _ => c - (intOf s16).toNat)
          case atStart => exact ⟨0, _, _, D0, _, rfl, rfl, Nat.zero_le _, rfl, by omega, HD2.out, HD4.out, rfl, HOR7.out, HAV.out, hFB.out, HB7.out⟩
          case round =>
           obtain ⟨j, vo, V, D, n, rfl, rfl, hjc, hn, hn2, hDg, hBT, hE, hOR, hAV, hFb, hBB⟩ := hrel
           by_cases hj : j < c
           ·have hj2 : (j : Int) < (c : Int) := by omega
            have e2 := obj_cell hFb.out 2
            simp at e2
            have zf := obj_lt hFb.out
            obtain ⟨l, hl⟩ : ∃ l, m + j = l := ⟨_, rfl⟩
            have hlv : (m : Int) + (j : Int) = (l : Int) := by omega
            have hq := HQ.out
            have hwd := HWD.out
            have hdt := HDT.out
            rw [hl] at hE
            have hll : l ≤ 1100 := by omega
            have HL := Lib.hid hl
            clear hl
            go_wp2_with fail
            go_quiet (fail)
            obtain ⟨W8, hW8⟩ : ∃ W8, W8 = wr.drewN nq := ⟨_, rfl⟩
            have h8 : Below wr.heap.size wr W8 := by rw [hW8]; exact drewN_ (Below.refl _ _) _
            rw [← hW8]
            have HBT8 := Lib.hid (hBT.out.keep h8)
            have HB8 := Lib.hid (hBB.out.trans (h8.mono hBB.out.size))
            have HO8 := Lib.hid (hOR.out.keep h8)
            have HF8 := Lib.hid (keepObj h8 hFb.out)
            obtain ⟨Wj, rfl⟩ : ∃ z : World, z = wr := ⟨_, rfl⟩
            clear hW8 h8 e2 zf hBT hBB hOR hFb hq hwd hdt hlv
            go_wp2_with fail
            go_loopw [9] (fun s9 wx => ∃ (vo : Value) (V : List (Value × Value)) (D' : List (List Rpt)) (n : Nat), vo = s9 ∧ Hid (D'.length = n) ∧ n ≤ 2000 ∧ Hid (∀ i, (D'.getD i []).length ≤ 2 * k + j) ∧ Hid (BatR wx bo vo V D' (excS S n5)) ∧ Hid (ext D' l = ext D l) ∧ Hid (Ow w.heap.size wx 77 8 (.slice (some ⟨gr, 0, none⟩) nr cr) (R.map Rpt.cs)) ∧ Hid (Avoid V gr) ∧ Hid (wx.heap[bf]? = some (.cells #[.bool lo, .bool tw, .int .i64 t] 113 (0, 0))) ∧ Hid (Below wq.heap.size wq wx)) (fun s9 _ => (match s9 with | .slice _ n _ => 4000 - n | _ => 0))
            case atStart => exact ⟨_, _, D, _, rfl, hn.out, hn2, hDg.out, HBT8.out, rfl, HO8.out, hAV.out, HF8.out, HB8.out⟩
            case round =>
             obtain ⟨vo, V, D', n, rfl, hn, hn2, hDg, hBT, hX, hOR, hAV, hFb, hBB⟩ := hrel
             obtain ⟨gu, co, rfl, hgo1, hgo2, hco⟩ := hBT.out.shape
             have hVn : V.length = n := by rw [← hBT.out.len, LV_len, hn.out]
             rw [hVn] at hco hBT ⊢
             have HVN := Lib.hid hVn
             clear hVn
             have hgo : bo ≤ gu := hgo1
             by_cases hnl : n ≤ l
             ·have hnl2 : (n : Int) ≤ (l : Int) := by omega
              have HOWN : Hid (∀ W, Below wr.heap.size wr W → W.ownsRow bo 115 2 (.slice (some ⟨gu, 0, none⟩) n co) n ((V.map fun p => [p.1, p.2]).flatten)) := fun W hW => by
               have q := (hBT.out.own.keep hW).1
               rw [List.length_map, HVN.out] at q
               exact q
              have hBw : bo ≤ wr.heap.size := by have := hBB.out.size; have := HBO.out; omega
              have hgz := (hBT.out.own.blk gu rfl).2
              go_wp2_with (at_builtin; refine wpList_append_lies _ (by rfl) _ _ _ (by rfl) bo 115 bt0_ _ 2 48 uBatT bti bt0 bt1 bt2 rfl (by decide) (.slice (some ⟨gu, 0, none⟩) n co) n ((V.map fun p => [p.1, p.2]).flatten) (by rfl) (HOWN.out _ (by (repeat (first | with_reducible exact Below.refl _ _ | with_reducible assumption | ((with_reducible first | refine Below.setCell ?_ ?_ _ | refine Below.alloc ?_ ?_ _); rotate_left; focus (first | exact Nat.le_refl _ | omega | exact Below.size (by assumption) | (simp <;> omega))) | with_reducible refine Below.drew ?_ | with_reducible refine drewN_ ?_ _)))) ⟨wr.heap.size, 0, none⟩ 1 1 [.slice none 0 0, .slice none 0 0] (by rfl) rfl (World.news_of_block (cs := #[.slice none 0 0, .slice none 0 0]) (t := 115) (fr := (0, 0)) (obj_last _ _)) nil_cell2 (by omega) (by unfold maxLen; omega) (by omega) (by have := hBw; first | omega | (simp; omega)) _ rfl ?_; intro g2 cap2 w7' hown2 hgrow2 hat2 hlt2; have hall2 : wr.grownBy w7' (some gu) := (grown_of (by (repeat (first | with_reducible exact Below.refl _ _ | with_reducible assumption | ((with_reducible first | refine Below.setCell ?_ ?_ _ | refine Below.alloc ?_ ?_ _); rotate_left; focus (first | exact Nat.le_refl _ | omega | exact Below.size (by assumption) | (simp <;> omega))) | with_reducible refine Below.drew ?_ | with_reducible refine drewN_ ?_ _)))).trans hgrow2; have HALL2 := Lib.hid hall2; have HOWN2 := Lib.hid hown2; clear hgrow2 hat2 hall2 hown2)
              go_roundw
              case rel =>
               refine ⟨_, V ++ [(.slice none 0 0, .slice none 0 0)], D' ++ [[]], n + 1, rfl, Lib.hid (show (D' ++ [[]]).length = n + 1 by rw [List.length_append, hn.out]; rfl), by omega, fun i => ?_, ?_, ?_, ?_, (show Avoid _ _ from hAV.out.push), ?_, ?_⟩
               ·have := hDg.out i
                rw [getD_push]; exact this
               ·have hp := hBT.out.push (g := g2) (cap := cap2) (by decide) (by decide) HALL2.out (by rw [HVN.out]; exact HOWN2.out)
                rw [HVN.out] at hp
                show Bat _ _ _ _ _ _ _ _ _ _ _
                rw [LV_push]; exact hp
               ·show _ = _
                rw [ext_push _ _ (by rw [hn.out]; exact hnl)]; exact hX.out
               ·exact hOR.out.kept HALL2.out (hOR.out.far2 hBT.out.own (by decide))
               ·refine (HALL2.out.block bf (obj_lt hFb.out) (fun e => ?_)).trans hFb.out
                injection e with e
                subst e
                exact absurd (hBT.out.own.type _ rfl _ _ _ hFb.out) (by decide)
               ·exact hBB.out.grown HALL2.out hBB.out.size (fun b hb => by injection hb with hb; subst hb; have := HBO.out; omega)
              case measure => simp; omega
             ·have hnl2 : ¬(n : Int) ≤ (l : Int) := by omega
              have hE2 : D' = ext D l := by rw [← hX.out]; exact (ext_done D' l (by rw [hn.out]; omega)).symm
              have HE2 := Lib.hid hE2
              have hVn := hBT.out.vlen
              obtain ⟨p, hp⟩ : ∃ p, V[l]? = some p := ⟨_, List.getElem?_eq_getElem (by rw [hVn]; omega)⟩
              have hrep := hBT.out.rep l p hp
              rw [LV_get] at hrep
              obtain ⟨p1, p2⟩ := p
              obtain ⟨ap, np, cp, hpv⟩ := hrep.val
              simp only at hpv
              subst hpv
              have hnp := hrep.sl.len
              rw [List.length_map] at hnp
              have hdj := hDg.out l
              rw [hnp] at hdj
              have c0 := hBT.out.cell0 l _ hp
              have f0 := hBT.out.own.free (l * 2)
              have hgz := (hBT.out.own.blk gu rfl).2
              have HNE : Hid (some gu ≠ (Value.slice ap np cp).ownBlock) := by
               rcases hrep.apart hBT.out.own (by decide) with h | h
               ·simp only at h; rw [h]; exact fun e => by cases e
               ·exact fun e => h e.symm
              have y0 := hOR.out.cell k (by rw [List.length_map]; exact hkR) 0 (by omega)
              have y1 := hOR.out.cell k (by rw [List.length_map]; exact hkR) 1 (by omega)
              have y2 := hOR.out.cell k (by rw [List.length_map]; exact hkR) 2 (by omega)
              have y3 := hOR.out.cell k (by rw [List.length_map]; exact hkR) 3 (by omega)
              have y4 := hOR.out.cell k (by rw [List.length_map]; exact hkR) 4 (by omega)
              have y5 := hOR.out.cell k (by rw [List.length_map]; exact hkR) 5 (by omega)
              have y6 := hOR.out.cell k (by rw [List.length_map]; exact hkR) 6 (by omega)
              have y7 := hOR.out.cell k (by rw [List.length_map]; exact hkR) 7 (by omega)
              rw [HRG.out] at y0 y1 y2 y3 y4 y5 y6 y7
              simp only [Rpt.cs, List.getElem?_cons_succ, List.getElem?_cons_zero, Nat.add_zero] at y0 y1 y2 y3 y4 y5 y6 y7
              simp at c0
              have zb := (hOR.out.blk gr rfl).2
              have HOWN : Hid (∀ W, Below wr.heap.size wr W → W.ownsRow bo 77 8 (.slice ap np cp) np (((D'.getD l []).map Rpt.cs).flatten)) := fun W hW => by
               have q := (hrep.keep hW).1
               rw [List.length_map, hnp] at q
               exact q
              have hBw : bo ≤ wr.heap.size := by have := hBB.out.size; have := HBO.out; omega
              have hj1 : (0 : Int) ≤ (l : Int) := by omega
              have hj3 : (l : Int) < (n : Int) := by omega
              have HP := Lib.hid hp
              have HNP := Lib.hid hnp
              have HREP := Lib.hid hrep
              clear hp hnp hrep hVn hE2
              go_wp2_with fail
              go_region_law
               ((first | ((refine step_append_lies _ (by rfl) _ _ _ (by rfl) bo 77 rp0_ _ 8 64 uRptT rpi rp0 rp1 rp2 rfl (by decide) (.slice ap np cp) np (((D'.getD l []).map Rpt.cs).flatten) (by rfl) (HOWN.out _ (by (repeat (first | with_reducible exact Below.refl _ _ | with_reducible assumption | ((with_reducible first | refine Below.setCell ?_ ?_ _ | refine Below.alloc ?_ ?_ _); rotate_left; focus (first | exact Nat.le_refl _ | omega | exact Below.size (by assumption) | (simp <;> omega))) | with_reducible refine Below.drew ?_ | with_reducible refine drewN_ ?_ _)))) ⟨wr.heap.size, 0, none⟩ 1 1 r.cs (by rfl) rfl (World.news_of_block (cs := #[.int .i64 r.obj, .int .i64 r.seq, .int .i64 r.ver, .int .i64 r.dev, .int .i64 r.at_, .int .i64 r.x, .int .i64 r.y, .bool r.cancel]) (t := 77) (fr := (0, 0)) (by first | exact obj_last _ _ | exact obj_drew (obj_last _ _))) (rpt_cell1 r) (by omega) (by unfold maxLen; omega) (by omega) (by have := hBw; first | omega | (simp; omega)) _ rfl ?_; intro gg cc w1' hown1 hgrow1 hat1 hlt1; have hall1 : wr.grownBy w1' (Value.slice ap np cp).ownBlock := (grown_of (by (repeat (first | with_reducible exact Below.refl _ _ | with_reducible assumption | ((with_reducible first | refine Below.setCell ?_ ?_ _ | refine Below.alloc ?_ ?_ _); rotate_left; focus (first | exact Nat.le_refl _ | omega | exact Below.size (by assumption) | (simp <;> omega))) | with_reducible refine Below.drew ?_ | with_reducible refine drewN_ ?_ _)))).trans hgrow1; have hc1 := (hall1.cell_far ⟨gu, l * 2, none⟩ hgz HNE.out).trans c0; have hf1 := (hall1.frozen_far ⟨gu, l * 2, none⟩ hgz HNE.out).trans f0; have HALL1 := Lib.hid hall1; have HOWN1 := Lib.hid hown1; have HAT1 := Lib.hid hat1; clear hall1 hown1 hat1 hgrow1)) | fail))
              all_goals
               have hat : (Value.slice ap np cp).ownBlock = some gg ∨ wr.heap.size ≤ gg := by
                rcases HAT1.out with e | e
                ·exact .inl e
                ·right; rw [e]; first | omega | (simp; done) | (simp; omega)
               have HAT2 := Lib.hid hat
               clear hat
               go_wp2_with fail
               go_roundw
               case rel =>
                refine ⟨j + 1, _, V.set l (.slice (some ⟨gg, 0, none⟩) (np + 1) cc, p2), addAt D' l r, n, by go_num, rfl, by omega, Lib.hid (show (addAt D' l r).length = n by rw [addAt_len]; exact hn.out), hn2, fun i => ?_, ?_, ?_, ?_, ?_, ?_, ?_⟩
                ·have h1 := addAt_get D' l i r
                 have h2 := hDg.out i
                 omega
                ·have ha := hBT.out.add (gg := gg) (np := np) (cc := cc) (by decide) (by decide) (by decide) l _ HP.out (r := r.cs) rfl HALL1.out (by rw [LV_get, List.length_map]; exact HNP.out) (by rw [LV_get]; exact HOWN1.out) HAT2.out
                 show Bat _ _ _ _ _ _ _ _ _ _ _
                 rw [LV_addAt]; exact ha
                ·show _ = _
                 rw [← hE.out, addExt_step D l c j r hj, HE2.out, ← HL.out, Nat.add_assoc]
                ·have hk1 := hOR.out.kept HALL1.out (.inr (fun e => hAV.out l _ HP.out e.symm))
                 exact hk1.keepSet _ (fun e => by
                  have h3 := hBT.out.own.type gu rfl
                  have h4 := hOR.out.type gr rfl
                  have e2 : gr = gu := by simpa [Value.ownBlock] using e
                  subst e2
                  rcases hOR.out.far2 hBT.out.own (by decide) with h | h
                  ·simp [Value.ownBlock] at h
                  ·exact h rfl) _
                ·show Avoid _ _
                 refine hAV.out.set ?_
                 intro e
                 have e2 : gg = gr := by simpa [Value.ownBlock] using e
                 subst e2
                 rcases HAT2.out with h | h
                 ·exact hAV.out l _ HP.out h
                 ·omega
                ·show _ = _
                 refine obj_setOther ((HALL1.out.block bf (obj_lt hFb.out) (fun e => ?_)).trans hFb.out) (fun e => ?_)
                 ·exact absurd (HREP.out.type _ e.symm _ _ _ hFb.out) (by decide)
                 ·simp only at e
                  subst e
                  exact absurd (hBT.out.own.type _ rfl _ _ _ hFb.out) (by decide)
                ·show Below _ _ _
                 exact (hBB.out.grown HALL1.out hBB.out.size (fun b hb => by have := (HREP.out.blk b hb).1; have := HBO.out; omega)).setCell (by have := HBO.out; simp only; omega) _
               case measure => simp [intOf]; omega
           ·obtain rfl : c = j := by omega
            have hj2 : ¬(c : Int) < (c : Int) := by omega
            have hEE := hE.out
            rw [show c - c = 0 by omega] at hEE
            have hEF : delS z F R (k + 1) = D := by rw [HD3.out]; exact hEE.symm
            have HEF := Lib.hid hEF
            clear hEE hEF
            go_wp2_with fail
            go_roundw
            case rel => exact ⟨k + 1, _, V, by go_num, rfl, by omega, by show BatR _ _ _ _ _ _; rw [HEF.out]; exact hBT.out, hOR.out, fun g hg => by
             have e2 : gr = g := by simpa [Value.ownBlock] using hg
             subst e2
             exact hAV.out, hBB.out⟩
            case measure => simp [intOf]; omega
       ·obtain rfl : nr = k := by omega
        have hkr2 : ¬(nr : Int) < (nr : Int) := by omega
        go_wp2_with fail
        go_ret2
        refine ⟨.inl ⟨HGD.out, _, V, rfl, ?_⟩, HBQ.out.trans (hBB.out.mono HBQ.out.size)⟩
        have h := hBT.out.mono (B' := w.heap.size) (by have := HBQ.out.size; have := HBO.out; omega)
        rw [HNR.out, HN5.out]
        exact h
end Go.Proofs.YthkhgfdjdpfoiaaGreat
