/-
  A grid is decoded into a network.
-/
import Derived.Test.YtmplajpbmojkkaaGreatNetA
import Derived.Deep.RegionHeld3
import Derived.Laws.AppendOwnNone
import Derived.Deep.DeepCutAuto
import Derived.Deep.CutBlock
set_option linter.unusedSimpArgs false
set_option linter.unusedVariables false
namespace Go.Proofs.YtmplajpbmojkkaaGreat
open Go Go.RowKit Go.Vi
set_option maxRecDepth 100000 in
set_option maxHeartbeats 8000000 in
theorem network_any (P : List Spt) (Q : List Lne) (vp vq : Value) (w : World) (hP : Sl w.heap.size w 2 vp (P.map Spt.cs)) (hQ : Sl w.heap.size w 5 vq (Q.map Lne.cs)) (hp : ∀ s ∈ P, s.fits) (hq : ∀ l ∈ Q, l.fits) (hq0 : ∀ n c, vq = .slice none n c → c = 0) :
    Calls Tryz.prog 31 #[.agg #[vp, vq]] w fun e w' => (∃ (v1 v2 : Value) (N : List Nd) (R : List Rd), e = .returned (.agg #[v1, v2]) ∧ Ow w.heap.size w' 88 3 v1 (N.map Nd.cs) ∧ Ow w.heap.size w' 90 6 v2 (R.map Rd.cs) ∧ 2 ≤ N.length ∧ N.length ≤ 8 ∧ 1 ≤ R.length ∧ R.length ≤ 13 ∧ NdsIn N ∧ RdsIn N R ∧ ∀ r ∈ R, r.len ≤ 48) ∧ Below w.heap.size w w' := by
  obtain ⟨ap, np, cp, rfl, hnp, hnp1, hnp2⟩ := hP.open
  obtain ⟨aq, nq, cq, rfl, hnq, hnq1, hnq2⟩ := hQ.open
  rw [List.length_map] at hnp hnq
  have HP := Lib.hid hP
  have HQ := Lib.hid hQ
  have Hp := Lib.hid hp
  have Hq := Lib.hid hq
  have HNP := Lib.hid hnp
  have HNQ := Lib.hid hnq
  have HQ0 := Lib.hid hq0
  clear hP hQ hp hq hq0 hnp hnq hnp2 hnq2
  have G0 := Lib.hid (obj_old (o' := .cells #[.slice none 0 0, .slice none 0 0] 35) (obj_last w (.cells #[.slice ap np cp, .slice aq nq cq] 25)))
  have R0 := Lib.hid (obj_last2 w (.cells #[.slice ap np cp, .slice aq nq cq] 25) (.cells #[.slice none 0 0, .slice none 0 0] 35))
  have B0 := Lib.hid (((Below.refl w.heap.size w).alloc (Nat.le_refl _) (.cells #[.slice ap np cp, .slice aq nq cq] 25)).alloc (by simp) (.cells #[.slice none 0 0, .slice none 0 0] 35))
  obtain ⟨i0, hi, hy0, hy1, hy2⟩ := info_parts iNode
  obtain ⟨j0, hj, hr0, hr1, hr2⟩ := info_parts iRoad
  obtain ⟨l0, hl, hl0, hl1, hl2⟩ := info_parts iLane
  go_enter Tryz.func31, Tryz.ntmps31
  go_upto_block 0 with fail
  obtain ⟨W0, hW0⟩ : ∃ W0, W0 = (w.alloc (.cells #[.slice ap np cp, .slice aq nq cq] 25)).alloc (.cells #[.slice none 0 0, .slice none 0 0] 35) := ⟨_, rfl⟩
  have hz0 : w.heap.size + 1 < W0.heap.size := by rw [hW0]; simp
  have hz0e : w.heap.size + 1 + 1 = W0.heap.size := by rw [hW0]; simp
  rw [← hW0] at G0 R0 B0 ⊢
  simp only [hz0e]
  clear hW0 hz0e
  obtain ⟨bx, hbx⟩ : ∃ bx, W0.heap.size + 1 = bx := ⟨_, rfl⟩
  have hM0 : NM W0 bx (.slice (some ⟨W0.heap.size, 0, none⟩) 1 1) (.slice none 0 0) [⟨2, 0, 0⟩] [] ((W0.alloc (.cells #[.int .i64 2, .int .i64 0, .int .i64 0] 88)).alloc (.cells #[.slice (some ⟨W0.heap.size, 0, none⟩) 1 1, .slice none 0 0] 35)) :=
    ⟨by rw [← hbx]; exact obj_last2 _ _ _, own_nd (x := ⟨2, 0, 0⟩) (obj_old (obj_last _ _)) (Nat.le_refl _), Ow.nil _ _ _ _, ((Below.refl W0.heap.size W0).alloc (Nat.le_refl _) _).alloc (by simp) _, by omega⟩
  rw [hbx]
  have HM0 := Lib.hid hM0
  have hbW : W0.heap.size ≤ bx := by omega
  clear hM0 hbx
  go_cut [] (fun wx => ∃ (v1 : Value) (N : List Nd), 1 ≤ N.length ∧ N.length ≤ 8 ∧ Hid (NdsIn N) ∧ Hid (NM W0 bx v1 (.slice none 0 0) N [] wx))
  case first => as_aux_lemma =>
    go_wp2_with fail
    go_loopw [4] (fun s4 wx => ∃ (i : Nat) (v1 : Value) (N : List Nd), s4 = .int .i64 i ∧ i ≤ 7 ∧ 1 ≤ N.length ∧ N.length ≤ i + 1 ∧ Hid (NdsIn N) ∧ Hid (NM W0 bx v1 (.slice none 0 0) N [] wx)) (fun s4 _ => 7 - (intOf s4).toNat)
    case atStart => exact ⟨0, _, _, rfl, by omega, by simp, by simp, NdsIn.one, HM0.out⟩
    case round =>
      obtain ⟨i, v1, N, rfl, hi7, hN1, hN2, hIn, hM⟩ := hrel
      obtain ⟨gn, c, rfl, hgB, hgz, hgc⟩ : ∃ g cap, v1 = .slice (some ⟨g, 0, none⟩) N.length cap ∧ W0.heap.size ≤ g ∧ g < wr.heap.size ∧ N.length ≤ cap := by
        rcases hM.out.own.shape with ⟨_, e⟩ | ⟨g, cap, e, h1, h2, h3⟩
        · rw [List.map_eq_nil_iff] at e; rw [e] at hN1; simp at hN1
        · rw [List.length_map] at e h3; exact ⟨g, cap, e, h1, h2, h3⟩
      obtain ⟨n, hn⟩ : ∃ z, N.length = z := ⟨_, rfl⟩
      rw [hn] at hM hN1 hN2 hgc
      have HNL := Lib.hid hn
      have hGw := keepObj hM.out.low G0.out
      have g0 := obj_cell hGw 0
      have g1 := obj_cell hGw 1
      have b0 := obj_cell hM.out.box 0
      have b0f := obj_free hM.out.box 0
      simp at g0 g1 b0
      have zg := obj_lt hGw
      have zbx := obj_lt hM.out.box
      have hBw := hM.out.low.size
      have HOFF := Lib.hid hM.out.off1
      have BX := Lib.hid (B0.out.trans (hM.out.low.mono B0.out.size))
      clear hGw hn
      by_cases h1 : i < np
      · by_cases h2 : i < 7
        · have hil : i < P.length := by rw [HNP.out]; exact h1
          obtain ⟨b, off, rfl, hb, hcs⟩ := HP.out.cells i hil
          have s0 : w.cell? ⟨b, off + i * 2, none⟩ = _ := hcs i hil 0 _ rfl
          have s1 : w.cell? ⟨b, off + i * 2 + 1, none⟩ = _ := hcs i hil 1 _ rfl
          rw [← BX.out.cell (p := ⟨b, _, none⟩) hb] at s0 s1
          have hzb : b < wr.heap.size := by have := BX.out.size; omega
          have hsm : P[i]! ∈ P := by rw [getElem!_pos P i hil]; exact List.getElem_mem hil
          have hsf := Hp.out _ hsm
          obtain ⟨s, hs⟩ : ∃ s, s = P[i]! := ⟨_, rfl⟩
          rw [← hs] at s0 s1 hsf
          obtain ⟨hx1, hx2, hx3, hx4⟩ := tmodByte (m := 32) hsf.1 (by decide) (by decide)
          obtain ⟨hy1', hy2', hy3, hy4⟩ := tmodByte (m := 32) hsf.2 (by decide) (by decide)
          obtain ⟨px, hpx⟩ : ∃ z, s.x.tmod 32 = z := ⟨_, rfl⟩
          obtain ⟨py, hpy⟩ : ∃ z, s.y.tmod 32 = z := ⟨_, rfl⟩
          rw [hpx] at hx1 hx2 hx3 hx4
          rw [hpy] at hy1' hy2' hy3 hy4
          have hk1 : (0 : Int) ≤ (i : Int) := by omega
          have hk2 : (i : Int) < (np : Int) := by omega
          clear hcs hsm hsf hs
          go_wp2_with fail
          go_quiet (fail)
          go_wp2_with fail
          obtain ⟨wa, rfl⟩ : ∃ z : World, z = wr := ⟨_, rfl⟩
          go_loopw [7, 8] (fun s7 s8 wx => ∃ (k : Nat) (bb : Bool), s8 = .int .i64 k ∧ s7 = .bool bb ∧ k ≤ n ∧ Hid (Below wa.heap.size wa wx)) (fun _ s8 _ => n - (intOf s8).toNat)
          case atStart => exact ⟨0, false, rfl, rfl, Nat.zero_le _, by show Below _ _ _; (repeat (first | with_reducible exact Below.refl _ _ | with_reducible assumption | ((with_reducible refine Below.setCell ?_ ?_ _); rotate_left; focus (first | exact Nat.le_refl _ | omega | exact Below.size (by assumption) | (simp; done) | (simp; omega))) | ((with_reducible refine Below.alloc ?_ ?_ _); rotate_left; focus (first | exact Nat.le_refl _ | omega | exact Below.size (by assumption) | (simp; done) | (simp; omega))) | (with_reducible refine Below.drew ?_) | (with_reducible refine drewN_ ?_ _)))⟩
          case round =>
            obtain ⟨k, bb, rfl, rfl, hk, hBk⟩ := hrel
            have hMk := hM.out.keep hBk.out
            have HMk := Lib.hid hMk
            have b0 := obj_cell hMk.box 0
            have b0f := obj_free hMk.box 0
            simp at b0
            have zbx := obj_lt hMk.box
            have hBw := hMk.low.size
            have HOWN : Hid (∀ W, Below wr.heap.size wr W → W.ownsRow W0.heap.size 88 3 (.slice (some ⟨gn, 0, none⟩) n c) n (N.map Nd.cs).flatten) := fun W hW => by
              have q := (HMk.out.own.keep hW).1
              rw [List.length_map, HNL.out] at q
              exact q
            by_cases hlk : k < n
            · have hkN : k < N.length := by rw [HNL.out]; exact hlk
              have x1 := hMk.own.cell k (by rw [List.length_map]; exact hkN) 1 (by omega)
              have x2 := hMk.own.cell k (by rw [List.length_map]; exact hkN) 2 (by omega)
              simp only [List.getElem_map] at x1 x2
              obtain ⟨nd, hnd⟩ : ∃ z, N[k] = z := ⟨_, rfl⟩
              rw [hnd] at x1 x2
              simp only [Nd.cs, List.getElem?_cons_succ, List.getElem?_cons_zero] at x1 x2
              have zgw := (hMk.own.blk gn rfl).2
              have hk3 : (0 : Int) ≤ (k : Int) := by omega
              have hk4 : (k : Int) < (n : Int) := by omega
              clear hMk hnd
              cases bb with
              | true =>
                go_wp2_with fail
                go_roundw
                case rel => exact ⟨k + 1, _, by go_num, rfl, by omega, by have h := hBk.out; show Below _ _ _; (repeat (first | with_reducible exact Below.refl _ _ | with_reducible assumption | ((with_reducible refine Below.setCell ?_ ?_ _); rotate_left; focus (first | exact Nat.le_refl _ | omega | exact Below.size (by assumption) | (simp; done) | (simp; omega))) | ((with_reducible refine Below.alloc ?_ ?_ _); rotate_left; focus (first | exact Nat.le_refl _ | omega | exact Below.size (by assumption) | (simp; done) | (simp; omega))) | (with_reducible refine Below.drew ?_) | (with_reducible refine drewN_ ?_ _)))⟩
                case measure => simp [intOf]; omega
              | false =>
                by_cases e1 : nd.x = px
                · have e1' : (nd.x == px) = true := by simpa using e1
                  clear e1
                  go_wp2_with fail
                  go_roundw
                  case rel => exact ⟨k + 1, _, by go_num, rfl, by omega, by have h := hBk.out; show Below _ _ _; (repeat (first | with_reducible exact Below.refl _ _ | with_reducible assumption | ((with_reducible refine Below.setCell ?_ ?_ _); rotate_left; focus (first | exact Nat.le_refl _ | omega | exact Below.size (by assumption) | (simp; done) | (simp; omega))) | ((with_reducible refine Below.alloc ?_ ?_ _); rotate_left; focus (first | exact Nat.le_refl _ | omega | exact Below.size (by assumption) | (simp; done) | (simp; omega))) | (with_reducible refine Below.drew ?_) | (with_reducible refine drewN_ ?_ _)))⟩
                  case measure => simp [intOf]; omega
                · have e1' : (nd.x == px) = false := by simpa using e1
                  clear e1
                  go_wp2_with fail
                  go_roundw
                  case rel => exact ⟨k + 1, _, by go_num, rfl, by omega, by have h := hBk.out; show Below _ _ _; (repeat (first | with_reducible exact Below.refl _ _ | with_reducible assumption | ((with_reducible refine Below.setCell ?_ ?_ _); rotate_left; focus (first | exact Nat.le_refl _ | omega | exact Below.size (by assumption) | (simp; done) | (simp; omega))) | ((with_reducible refine Below.alloc ?_ ?_ _); rotate_left; focus (first | exact Nat.le_refl _ | omega | exact Below.size (by assumption) | (simp; done) | (simp; omega))) | (with_reducible refine Below.drew ?_) | (with_reducible refine drewN_ ?_ _)))⟩
                  case measure => simp [intOf]; omega
            · obtain rfl : n = k := by omega
              clear hMk
              cases bb with
              | true =>
                go_wp2_with fail
                go_roundw
                case rel => exact ⟨i + 1, _, N, by go_num, by omega, by have := HNL.out; omega, by have := HNL.out; omega, hIn.out, HMk.out⟩
                case measure => simp [intOf]; omega
              | false =>
                have hm1 : IntKind.i64.wrap (3 * (n : Int)) = 3 * (n : Int) := IntWalk.i64_in _ (by omega)
                have hm2 : IntKind.i64.wrap (2 + 3 * (n : Int)) = 2 + 3 * (n : Int) := IntWalk.i64_in _ (by omega)
                go_wp2_with (at_builtin; refine wpList_append_lies _ (by rfl) _ _ _ (by rfl) W0.heap.size 88 i0 _ 3 24 uNode hi hy0 hy1 hy2 rfl (by decide) (.slice (some ⟨gn, 0, none⟩) n c) n (N.map Nd.cs).flatten (by rfl) (HOWN.out _ (by (repeat (first | with_reducible exact Below.refl _ _ | with_reducible assumption | ((with_reducible refine Below.setCell ?_ ?_ _); rotate_left; focus (first | exact Nat.le_refl _ | omega | exact Below.size (by assumption) | (simp; done) | (simp; omega))) | ((with_reducible refine Below.alloc ?_ ?_ _); rotate_left; focus (first | exact Nat.le_refl _ | omega | exact Below.size (by assumption) | (simp; done) | (simp; omega))) | (with_reducible refine Below.drew ?_) | (with_reducible refine drewN_ ?_ _))))) ⟨wr.heap.size, 0, none⟩ 1 1 (⟨2 + 3 * (n : Int), px, py⟩ : Nd).cs (by rfl) rfl (World.news_of_block (cs := #[.int .i64 (2 + 3 * (n : Int)), .int .i64 px, .int .i64 py]) (t := 88) (fr := (0, 0)) (obj_last _ _)) (nd_cell1 _) (by omega) (by unfold maxLen; omega) (by omega) (by have := hBw; first | omega | (simp; omega)) _ rfl ?_; intro g2 cap2 w7 hown2 hgrow2 hat2 hlt2; have hall2 : wr.grownBy w7 (Value.slice (some ⟨gn, 0, none⟩) n c).ownBlock := (grown_of (by (repeat (first | with_reducible exact Below.refl _ _ | with_reducible assumption | ((with_reducible refine Below.setCell ?_ ?_ _); rotate_left; focus (first | exact Nat.le_refl _ | omega | exact Below.size (by assumption) | (simp; done) | (simp; omega))) | ((with_reducible refine Below.alloc ?_ ?_ _); rotate_left; focus (first | exact Nat.le_refl _ | omega | exact Below.size (by assumption) | (simp; done) | (simp; omega))) | (with_reducible refine Below.drew ?_) | (with_reducible refine drewN_ ?_ _))))).trans hgrow2; have HALL2 := Lib.hid hall2; have HOWN2 := Lib.hid hown2; have HAT2 := Lib.hid (show (Value.slice (some ⟨gn, 0, none⟩) n c).ownBlock = some g2 ∨ wr.heap.size ≤ g2 from hat2.imp id (fun e => by rw [e]; first | exact Nat.le_refl _ | (simp; done) | (simp; omega))); have k0 := (hall2.cell_far ⟨bx, 0, none⟩ zbx (fun e => HOFF.out e.symm)).trans b0; have k0f := (hall2.frozen_far ⟨bx, 0, none⟩ zbx (fun e => HOFF.out e.symm)).trans b0f; clear hgrow2 hat2 hall2 hown2)
                go_roundw
                case rel =>
                  exact ⟨i + 1, _, N ++ [(⟨2 + 3 * (n : Int), px, py⟩ : Nd)], by go_num, by omega, by simp, by have := HNL.out; simp; omega, (show NdsIn (N ++ [(⟨2 + 3 * (n : Int), px, py⟩ : Nd)]) from hIn.out.add HNL.out rfl ⟨hx3, by omega⟩ ⟨hy3, by omega⟩), HMk.out.addN HNL.out.symm HALL2.out HOWN2.out HAT2.out⟩
                case measure => simp [intOf]; omega
        · have h2' : ¬(i : Int) < 7 := by omega
          go_wp2_with fail
          go_meet
          exact ⟨_, N, by have := HNL.out; omega, by have := HNL.out; omega, hIn.out, hM.out⟩
      · go_wp2_with fail
        go_meet
        exact ⟨_, N, by have := HNL.out; omega, by have := HNL.out; omega, hIn.out, hM.out⟩
  case rest =>
    obtain ⟨v1, N, hN1, hN8, hIn, hM⟩ := hcut
    obtain ⟨gn, c, rfl, hgB, hgz, hgc⟩ : ∃ g cap, v1 = .slice (some ⟨g, 0, none⟩) N.length cap ∧ W0.heap.size ≤ g ∧ g < wc.heap.size ∧ N.length ≤ cap := by
      rcases hM.out.own.shape with ⟨_, e⟩ | ⟨g, cap, e, h1, h2, h3⟩
      · rw [List.map_eq_nil_iff] at e; rw [e] at hN1; simp at hN1
      · rw [List.length_map] at e h3; exact ⟨g, cap, e, h1, h2, h3⟩
    obtain ⟨n, hn⟩ : ∃ z, N.length = z := ⟨_, rfl⟩
    rw [hn] at hM hN1 hN8 hgc
    have HNL := Lib.hid hn
    have b0 := obj_cell hM.out.box 0
    have b0f := obj_free hM.out.box 0
    simp at b0
    have zbx := obj_lt hM.out.box
    have hBw := hM.out.low.size
    have HOFF := Lib.hid hM.out.off1
    have HOWN : Hid (∀ W, Below wc.heap.size wc W → W.ownsRow W0.heap.size 88 3 (.slice (some ⟨gn, 0, none⟩) n c) n (N.map Nd.cs).flatten) := fun W hW => by
      have q := (hM.out.own.keep hW).1
      rw [List.length_map, HNL.out] at q
      exact q
    clear hn
    go_upto_if 91 with fail
    go_cut [] (fun wx => ∃ (v1 : Value) (N : List Nd), 2 ≤ N.length ∧ N.length ≤ 8 ∧ Hid (NdsIn N) ∧ Hid (NM W0 bx v1 (.slice none 0 0) N [] wx))
    case first => as_aux_lemma =>
      by_cases h2 : n < 2
      · obtain rfl : n = 1 := by omega
        go_wp2_with (at_builtin; refine wpList_append_lies _ (by rfl) _ _ _ (by rfl) W0.heap.size 88 i0 _ 3 24 uNode hi hy0 hy1 hy2 rfl (by decide) (.slice (some ⟨gn, 0, none⟩) 1 c) 1 (N.map Nd.cs).flatten (by rfl) (HOWN.out _ (by (repeat (first | with_reducible exact Below.refl _ _ | with_reducible assumption | ((with_reducible refine Below.setCell ?_ ?_ _); rotate_left; focus (first | exact Nat.le_refl _ | omega | exact Below.size (by assumption) | (simp; done) | (simp; omega))) | ((with_reducible refine Below.alloc ?_ ?_ _); rotate_left; focus (first | exact Nat.le_refl _ | omega | exact Below.size (by assumption) | (simp; done) | (simp; omega))) | (with_reducible refine Below.drew ?_) | (with_reducible refine drewN_ ?_ _))))) ⟨wc.heap.size, 0, none⟩ 1 1 (⟨5, 3, 4⟩ : Nd).cs (by rfl) rfl (World.news_of_block (cs := #[.int .i64 (5), .int .i64 3, .int .i64 4]) (t := 88) (fr := (0, 0)) (obj_last _ _)) (nd_cell1 _) (by omega) (by unfold maxLen; omega) (by omega) (by have := hBw; first | omega | (simp; omega)) _ rfl ?_; intro g2 cap2 w7 hown2 hgrow2 hat2 hlt2; have hall2 : wc.grownBy w7 (Value.slice (some ⟨gn, 0, none⟩) 1 c).ownBlock := (grown_of (by (repeat (first | with_reducible exact Below.refl _ _ | with_reducible assumption | ((with_reducible refine Below.setCell ?_ ?_ _); rotate_left; focus (first | exact Nat.le_refl _ | omega | exact Below.size (by assumption) | (simp; done) | (simp; omega))) | ((with_reducible refine Below.alloc ?_ ?_ _); rotate_left; focus (first | exact Nat.le_refl _ | omega | exact Below.size (by assumption) | (simp; done) | (simp; omega))) | (with_reducible refine Below.drew ?_) | (with_reducible refine drewN_ ?_ _))))).trans hgrow2; have HALL2 := Lib.hid hall2; have HOWN2 := Lib.hid hown2; have HAT2 := Lib.hid (show (Value.slice (some ⟨gn, 0, none⟩) 1 c).ownBlock = some g2 ∨ wc.heap.size ≤ g2 from hat2.imp id (fun e => by rw [e]; first | exact Nat.le_refl _ | (simp; done) | (simp; omega))); have k0 := (hall2.cell_far ⟨bx, 0, none⟩ zbx (fun e => HOFF.out e.symm)).trans b0; have k0f := (hall2.frozen_far ⟨bx, 0, none⟩ zbx (fun e => HOFF.out e.symm)).trans b0f; clear hgrow2 hat2 hall2 hown2)
        go_meet
        exact ⟨_, N ++ [(⟨5, 3, 4⟩ : Nd)], by have := HNL.out; simp; omega, by have := HNL.out; simp; omega, (show NdsIn (N ++ [(⟨5, 3, 4⟩ : Nd)]) from hIn.out.add HNL.out (by decide) ⟨by decide, by decide⟩ ⟨by decide, by decide⟩), hM.out.addN HNL.out.symm HALL2.out HOWN2.out HAT2.out⟩
      · have h2' : ¬(n : Int) < 2 := by omega
        go_wp2_with fail
        go_meet
        exact ⟨_, N, by have := HNL.out; omega, by have := HNL.out; omega, hIn.out, hM.out⟩
    case rest =>
      clear b0 b0f zbx hBw HOFF HOWN hIn hM hN1 hN8 hgB hgz hgc HNL
      clear n N gn c
      obtain ⟨v1, N, hN2, hN8, hIn, hM⟩ := hcut
      obtain ⟨W1, rfl⟩ : ∃ z : World, z = wc := ⟨_, rfl⟩
      have hGw := keepObj hM.out.low G0.out
      have g1 := obj_cell hGw 1
      simp at g1
      have zg := obj_lt hGw
      have hBw := hM.out.low.size
      have BX := Lib.hid (B0.out.trans (hM.out.low.mono B0.out.size))
      clear hGw
      go_upto_region 14 with fail
      go_cut [9] (fun s9 wx => ∃ (lanes : List Lne) (v9 : Value), v9 = s9 ∧ lanes.length ≤ 12 ∧ Hid (∀ l ∈ lanes, l.fits) ∧ Hid (Ow W0.heap.size wx 147 5 v9 (lanes.map Lne.cs)) ∧ Hid (Below W1.heap.size W1 wx))
      case first => as_aux_lemma =>
        have LIT := Lib.hid (World.ownsRow_lit (base := W0.heap.size) (e := 147) (size := 5) W1 #[] 0 hBw (by decide) rfl)
        cases aq with
        | none =>
          have hQn := HQ.out.none_
          have hc0 := HQ0.out _ _ rfl
          subst hc0
          obtain rfl : nq = 0 := by have := HNQ.out; have h := congrArg List.length hQn; simp at h; rw [h] at this; simpa using this.symm
          go_wp2_with fail
          go_meet
          exact ⟨[], _, rfl, by simp, (fun l hl => by cases hl), by show Ow _ _ _ _ _ _; have h := LIT.out; exact ⟨h, fun r hr => by cases hr⟩, by show Below _ _ _; (repeat (first | with_reducible exact Below.refl _ _ | with_reducible assumption | ((with_reducible refine Below.setCell ?_ ?_ _); rotate_left; focus (first | exact Nat.le_refl _ | omega | exact Below.size (by assumption) | (simp; done) | (simp; omega))) | ((with_reducible refine Below.alloc ?_ ?_ _); rotate_left; focus (first | exact Nat.le_refl _ | omega | exact Below.size (by assumption) | (simp; done) | (simp; omega))) | (with_reducible refine Below.drew ?_) | (with_reducible refine drewN_ ?_ _)))⟩
        | some ad =>
          obtain ⟨b, off, rfl, hb⟩ := HQ.out.addr
          have hnews := ((HQ.out.keep (B' := w.heap.size) (BX.out.trans (((Below.refl W1.heap.size W1).alloc (Nat.le_refl _) (.cells #[] 147)).mono BX.out.size)) (Nat.le_refl _)).news (by decide))
          have HNEW := Lib.hid hnews
          clear hnews
          by_cases h12 : 12 < nq
          · have h12' : (12 : Int) < (nq : Int) := by omega
            have HLN := Lib.hid (show ((Q.take 12).map Lne.cs).flatten.length = 12 * 5 by rw [flatten_len (k := 5) (by intro r hr; obtain ⟨x, _, rfl⟩ := List.mem_map.1 hr; rfl), List.length_map, List.length_take]; have := HNQ.out; omega)
            go_wp2_with (at_builtin; refine wpList_append_own _ (by rfl) _ _ 23 (by rfl) W0.heap.size 147 l0 _ 5 5 uLane hl hl0 hl1 hl2 rfl (by decide) _ _ _ (by rfl) LIT.out ⟨b, off, none⟩ 12 _ ((Q.take 12).map Lne.cs).flatten (by rfl) HLN.out (fun j u h => HNEW.out j u (by rw [List.map_take] at h; exact flat_take _ h)) (lne_one _) (by unfold maxLen; omega) (by omega) (by simp; omega) ?_; intro v' w' ho hg _; have HV := Lib.hid ho; have HB := Lib.hid (Below.grown ((Below.refl W1.heap.size W1).alloc (Nat.le_refl _) _) hg (by simp) (by intro k hk; cases hk; exact Nat.le_refl _)); clear ho hg)
            go_meet
            exact ⟨Q.take 12, _, rfl, by rw [List.length_take]; omega, (fun l hl => Hq.out l (List.mem_of_mem_take hl)), by show Ow _ _ _ _ _ _; exact lane_own (by rw [List.length_take]; have := HNQ.out; omega) HV.out, HB.out⟩
          · have h12' : ¬(12 : Int) < (nq : Int) := by omega
            have HLN := Lib.hid (show ((Q.take nq).map Lne.cs).flatten.length = nq * 5 by rw [flatten_len (k := 5) (by intro r hr; obtain ⟨x, _, rfl⟩ := List.mem_map.1 hr; rfl), List.length_map, List.length_take]; have := HNQ.out; omega)
            go_wp2_with (at_builtin; refine wpList_append_own _ (by rfl) _ _ 23 (by rfl) W0.heap.size 147 l0 _ 5 5 uLane hl hl0 hl1 hl2 rfl (by decide) _ _ _ (by rfl) LIT.out ⟨b, off, none⟩ nq _ ((Q.take nq).map Lne.cs).flatten (by rfl) HLN.out (fun j u h => HNEW.out j u (by rw [List.map_take] at h; exact flat_take _ h)) (lne_one _) (by unfold maxLen; omega) (by omega) (by simp; omega) ?_; intro v' w' ho hg _; have HV := Lib.hid ho; have HB := Lib.hid (Below.grown ((Below.refl W1.heap.size W1).alloc (Nat.le_refl _) _) hg (by simp) (by intro k hk; cases hk; exact Nat.le_refl _)); clear ho hg)
            go_meet
            exact ⟨Q.take nq, _, rfl, by rw [List.length_take]; omega, (fun l hl => Hq.out l (List.mem_of_mem_take hl)), by show Ow _ _ _ _ _ _; exact lane_own (by rw [List.length_take]; have := HNQ.out; omega) HV.out, HB.out⟩
      case rest =>
        obtain ⟨lanes, v9, rfl, hL12, hLf, hLO, hBc⟩ := hcut
        have hMc := hM.out.keep hBc.out
        have HM1 := Lib.hid hMc
        have HL1 := Lib.hid hLO.out
        obtain ⟨W2, rfl⟩ : ∃ z : World, z = wc := ⟨_, rfl⟩
        clear g1 zg hBw BX hM hLO hBc hMc
        obtain ⟨a9, n9, c9, rfl⟩ := HL1.out.val
        have hn9 := HL1.out.sl.len
        rw [List.length_map] at hn9
        have HN9 := Lib.hid hn9
        rw [hn9] at hL12
        obtain ⟨gn, c, rfl, hgB, hgz, hgc⟩ : ∃ g cap, v1 = .slice (some ⟨g, 0, none⟩) N.length cap ∧ W0.heap.size ≤ g ∧ g < W2.heap.size ∧ N.length ≤ cap := by
          rcases HM1.out.own.shape with ⟨_, e⟩ | ⟨g, cap, e, h1, h2, h3⟩
          · rw [List.map_eq_nil_iff] at e; rw [e] at hN2; simp at hN2
          · rw [List.length_map] at e h3; exact ⟨g, cap, e, h1, h2, h3⟩
        obtain ⟨n, hn⟩ : ∃ z, N.length = z := ⟨_, rfl⟩
        rw [hn] at HM1 hN2 hN8 hgc
        have HNL := Lib.hid hn
        clear hn hn9 hgc
        go_wp2_with fail
        go_loopw [10] (fun s10 wx => ∃ (i : Nat) (v2 : Value) (R : List Rd), s10 = .int .i64 i ∧ i ≤ n9 + 1 ∧ R.length ≤ i ∧ (n9 < i → 1 ≤ R.length) ∧ Hid (RdsIn N R) ∧ Hid (∀ r ∈ R, r.len ≤ 48) ∧ Hid (NM W0 bx (.slice (some ⟨gn, 0, none⟩) n c) v2 N R wx) ∧ Hid (Ow W0.heap.size wx 147 5 (.slice a9 n9 c9) (lanes.map Lne.cs))) (fun s10 _ => n9 + 1 - (intOf s10).toNat)
        case atStart => exact ⟨0, _, [], rfl, by omega, by simp, by omega, RdsIn.nil N, (fun r hr => by cases hr), HM1.out, HL1.out⟩
        case round =>
          obtain ⟨i, v2, R, rfl, hi1, hR1, hR2, hRd, hRL, hM, hLO⟩ := hrel
          obtain ⟨ar, nr, cr, rfl⟩ := hM.out.rds.val
          have hnr := hM.out.rds.sl.len
          rw [List.length_map] at hnr
          have HNR := Lib.hid hnr
          rw [hnr] at hR1 hR2
          have zbx := obj_lt hM.out.box
          have hBw := hM.out.low.size
          clear hnr
          by_cases hin : i ≤ n9
          · obtain ⟨bl, hbl⟩ : ∃ z, wr.heap.size = z := ⟨_, rfl⟩
            have hbxl : bx < bl := by omega
            go_upto_if 117 with fail
            obtain ⟨Wl, hWl⟩ : ∃ W, W = wr.alloc (.cells #[.int .u8 0, .int .u8 1, .int .u8 0, .int .u8 0, .bool false] 147) := ⟨_, rfl⟩
            have PL := Lib.hid (obj_last wr (.cells #[.int .u8 0, .int .u8 1, .int .u8 0, .int .u8 0, .bool false] 147))
            have BL := Lib.hid ((Below.refl wr.heap.size wr).alloc (Nat.le_refl _) (.cells #[.int .u8 0, .int .u8 1, .int .u8 0, .int .u8 0, .bool false] 147))
            rw [hbl] at PL
            rw [← hWl] at PL ⊢
            rw [← hWl] at BL
            have zbl := obj_lt PL.out
            have HBL := Lib.hid hbl
            clear hWl hbl
            go_cut [] (fun wx => ∃ l : Lne, (i = n9 → l.src = 0 ∧ l.dst = 1) ∧ Hid l.fits ∧ Hid (wx.heap[bl]? = some (.cells #[.int .u8 l.src, .int .u8 l.dst, .int .u8 l.extra, .int .u8 l.limit, .bool l.one] 147)) ∧ Hid (Below wr.heap.size wr wx))
            case first => as_aux_lemma =>
              by_cases hlt : i < n9
              · have hil : i < lanes.length := by rw [HN9.out]; exact hlt
                obtain ⟨g9, rfl⟩ : ∃ g, a9 = some ⟨g, 0, none⟩ := by
                  rcases hLO.out.shape with ⟨_, e⟩ | ⟨g, cap, e, _⟩
                  · rw [List.map_eq_nil_iff] at e; rw [e] at hil; simp at hil
                  · injection e with e1; exact ⟨g, e1⟩
                have y0 := hLO.out.cell i (by rw [List.length_map]; exact hil) 0 (by omega)
                have y1 := hLO.out.cell i (by rw [List.length_map]; exact hil) 1 (by omega)
                have y2 := hLO.out.cell i (by rw [List.length_map]; exact hil) 2 (by omega)
                have y3 := hLO.out.cell i (by rw [List.length_map]; exact hil) 3 (by omega)
                have y4 := hLO.out.cell i (by rw [List.length_map]; exact hil) 4 (by omega)
                simp only [List.getElem_map] at y0 y1 y2 y3 y4
                have hlf := hLf.out lanes[i] (List.getElem_mem _)
                obtain ⟨l, hl'⟩ : ∃ z, lanes[i] = z := ⟨_, rfl⟩
                rw [hl'] at y0 y1 y2 y3 y4 hlf
                have HLF := Lib.hid hlf
                simp only [Lne.cs, List.getElem?_cons_succ, List.getElem?_cons_zero, Nat.add_zero] at y0 y1 y2 y3 y4
                have zg9 := (hLO.out.blk g9 rfl).2
                rw [← BL.out.cell (p := ⟨g9, _, none⟩) zg9] at y0 y1 y2 y3 y4
                have f0 := obj_free PL.out 0
                have f1 := obj_free PL.out 1
                have f2 := obj_free PL.out 2
                have f3 := obj_free PL.out 3
                have f4 := obj_free PL.out 4
                have l0' := obj_cell PL.out 0
                have l1' := obj_cell PL.out 1
                have l2' := obj_cell PL.out 2
                have l3' := obj_cell PL.out 3
                have l4' := obj_cell PL.out 4
                simp at l0' l1' l2' l3' l4'
                have hk1 : (0 : Int) ≤ (i : Int) := by omega
                have hk2 : (i : Int) < (n9 : Int) := by omega
                clear hl' hlf
                go_wp2_with fail
                go_meet
                have hbl2 : wr.heap.size ≤ bl := by have := HBL.out; omega
                exact ⟨l, (fun h => by omega), HLF.out, obj_setF5 PL.out, by have h := BL.out; show Below _ _ _; (repeat (first | with_reducible exact Below.refl _ _ | with_reducible assumption | ((with_reducible refine Below.setCell ?_ ?_ _); rotate_left; focus (first | exact Nat.le_refl _ | omega | exact Below.size (by assumption) | (simp; done) | (simp; omega))) | ((with_reducible refine Below.alloc ?_ ?_ _); rotate_left; focus (first | exact Nat.le_refl _ | omega | exact Below.size (by assumption) | (simp; done) | (simp; omega))) | (with_reducible refine Below.drew ?_) | (with_reducible refine drewN_ ?_ _)))⟩
              · have hlt' : ¬(i : Int) < (n9 : Int) := by omega
                go_wp2_with fail
                go_meet
                exact ⟨(⟨0, 1, 0, 0, false⟩ : Lne), (fun _ => ⟨rfl, rfl⟩), ⟨⟨by decide, by decide⟩, ⟨by decide, by decide⟩, ⟨by decide, by decide⟩, by decide, by decide⟩, PL.out, BL.out⟩
            case rest =>
              clear zbl PL BL
              obtain ⟨l, hl01, hlf, hLB, hBc⟩ := hcut
              have HM3 := Lib.hid (hM.out.keep hBc.out)
              have HL3 := Lib.hid (hLO.out.keep hBc.out)
              obtain ⟨W3, rfl⟩ : ∃ z : World, z = wc := ⟨_, rfl⟩
              have l0 := obj_cell hLB.out 0
              have l1 := obj_cell hLB.out 1
              simp at l0 l1
              have b0 := obj_cell HM3.out.box 0
              simp at b0
              have zbx3 := obj_lt HM3.out.box
              have zbl := obj_lt hLB.out
              have zgn := (HM3.out.own.blk gn rfl).2
              have hBw3 := HM3.out.low.size
              obtain ⟨ia, hia, hia2⟩ := tmodNat (n := n) hlf.out.1 (by omega)
              obtain ⟨ib, hib, hib2⟩ := tmodNat (n := n) hlf.out.2.1 (by omega)
              have hws : IntKind.i64.wrap l.src = l.src := IntWalk.i64_in _ (by have := hlf.out.1; unfold Byte at this; omega)
              have hwd : IntKind.i64.wrap l.dst = l.dst := IntWalk.i64_in _ (by have := hlf.out.2.1; unfold Byte at this; omega)
              have hn0 : ¬(n : Int) = 0 := by omega
              have hn00 : ¬n = 0 := by omega
              have hwa : IntKind.i64.wrap (ia : Int) = (ia : Int) := IntWalk.i64_in _ (by omega)
              have hwb : IntKind.i64.wrap (ib : Int) = (ib : Int) := IntWalk.i64_in _ (by omega)
              have ia1 : (0 : Int) ≤ (ia : Int) := by omega
              have ia3 : (ia : Int) < (n : Int) := by omega
              have ib1 : (0 : Int) ≤ (ib : Int) := by omega
              have ib3 : (ib : Int) < (n : Int) := by omega
              have hiaN : ia < N.length := by rw [HNL.out]; exact hia2
              have hibN : ib < N.length := by rw [HNL.out]; exact hib2
              have x0 := HM3.out.own.cell ia (by rw [List.length_map]; exact hiaN) 0 (by omega)
              have x1 := HM3.out.own.cell ia (by rw [List.length_map]; exact hiaN) 1 (by omega)
              have x2 := HM3.out.own.cell ia (by rw [List.length_map]; exact hiaN) 2 (by omega)
              have y0 := HM3.out.own.cell ib (by rw [List.length_map]; exact hibN) 0 (by omega)
              have y1 := HM3.out.own.cell ib (by rw [List.length_map]; exact hibN) 1 (by omega)
              have y2 := HM3.out.own.cell ib (by rw [List.length_map]; exact hibN) 2 (by omega)
              simp only [List.getElem_map] at x0 x1 x2 y0 y1 y2
              obtain ⟨p, hp⟩ : ∃ z, N[ia] = z := ⟨_, rfl⟩
              obtain ⟨q, hq⟩ : ∃ z, N[ib] = z := ⟨_, rfl⟩
              rw [hp] at x0 x1 x2
              rw [hq] at y0 y1 y2
              have HP' := Lib.hid (show p = N[ia]! by rw [getElem!_pos N ia hiaN]; exact hp.symm)
              have HQ' := Lib.hid (show q = N[ib]! by rw [getElem!_pos N ib hibN]; exact hq.symm)
              simp only [Nd.cs, List.getElem?_cons_succ, List.getElem?_cons_zero, Nat.add_zero] at x0 x1 x2 y0 y1 y2
              have HAI := Lib.hid (show i = n9 → (ia : Int) = 0 ∧ (ib : Int) = (1 : Int).tmod (n : Int) from fun h => by obtain ⟨e1, e2⟩ := hl01 h; rw [← hia, ← hib, e1, e2]; exact ⟨Int.zero_tmod _, rfl⟩)
              clear hp hq hl01
              go_wp2_with fail
              go_cut [12, 13] (fun s12 s13 wx => ∃ b12 b13 : Nat, s12 = .pointer (some ⟨b12, 0, none⟩) ∧ s13 = .pointer (some ⟨b13, 0, none⟩) ∧ Hid (wx.heap[b12]? = some (.cells #[.int .i64 p.id, .int .i64 p.x, .int .i64 p.y] 88)) ∧ Hid (wx.heap[b13]? = some (.cells #[.int .i64 q.id, .int .i64 q.x, .int .i64 q.y] 88)) ∧ Hid (Below W3.heap.size W3 wx))
              case first => as_aux_lemma =>
                go_region_held3 (fun w' => w'.cell? ⟨bx, 0, none⟩ = some (.slice (some ⟨gn, 0, none⟩) n c) ∧ w'.cell? ⟨bl, 0, none⟩ = some (.int .u8 l.src) ∧ w'.cell? ⟨bl, 1, none⟩ = some (.int .u8 l.dst) ∧ w'.cell? ⟨gn, ia * 3, none⟩ = some (.int .i64 p.id) ∧ w'.cell? ⟨gn, ia * 3 + 1, none⟩ = some (.int .i64 p.x) ∧ w'.cell? ⟨gn, ia * 3 + 2, none⟩ = some (.int .i64 p.y) ∧ w'.cell? ⟨gn, ib * 3, none⟩ = some (.int .i64 q.id) ∧ w'.cell? ⟨gn, ib * 3 + 1, none⟩ = some (.int .i64 q.x) ∧ w'.cell? ⟨gn, ib * 3 + 2, none⟩ = some (.int .i64 q.y))
                  (((go_split_ands; refine ⟨?_, ?_, ?_, ?_, ?_, ?_, ?_, ?_, ?_⟩ <;> first | with_reducible assumption | exact ((show Below W3.heap.size W3 _ from (by (repeat (first | with_reducible exact Below.refl _ _ | with_reducible assumption | ((with_reducible refine Below.setCell ?_ ?_ _); rotate_left; focus (first | exact Nat.le_refl _ | omega | exact Below.size (by assumption) | (simp; done) | (simp; omega))) | ((with_reducible refine Below.alloc ?_ ?_ _); rotate_left; focus (first | exact Nat.le_refl _ | omega | exact Below.size (by assumption) | (simp; done) | (simp; omega))) | (with_reducible refine Below.drew ?_) | (with_reducible refine drewN_ ?_ _))))).cell (p := ⟨_, _, none⟩) (by first | with_reducible assumption | omega)).trans (by with_reducible assumption))))
                  ((fail))
                all_goals
                  go_wp2_with fail
                  go_meet
                  first
                    | exact ⟨W3.heap.size, W3.heap.size + 1, rfl, rfl, obj_drew (obj_old (obj_last _ _)), obj_drew (obj_last2 _ _ _), by show Below _ _ _; (repeat (first | with_reducible exact Below.refl _ _ | with_reducible assumption | ((with_reducible refine Below.setCell ?_ ?_ _); rotate_left; focus (first | exact Nat.le_refl _ | omega | exact Below.size (by assumption) | (simp; done) | (simp; omega))) | ((with_reducible refine Below.alloc ?_ ?_ _); rotate_left; focus (first | exact Nat.le_refl _ | omega | exact Below.size (by assumption) | (simp; done) | (simp; omega))) | (with_reducible refine Below.drew ?_) | (with_reducible refine drewN_ ?_ _)))⟩
                    | exact ⟨W3.heap.size + 1, W3.heap.size, rfl, rfl, obj_drew (obj_last2 _ _ _), obj_drew (obj_old (obj_last _ _)), by show Below _ _ _; (repeat (first | with_reducible exact Below.refl _ _ | with_reducible assumption | ((with_reducible refine Below.setCell ?_ ?_ _); rotate_left; focus (first | exact Nat.le_refl _ | omega | exact Below.size (by assumption) | (simp; done) | (simp; omega))) | ((with_reducible refine Below.alloc ?_ ?_ _); rotate_left; focus (first | exact Nat.le_refl _ | omega | exact Below.size (by assumption) | (simp; done) | (simp; omega))) | (with_reducible refine Below.drew ?_) | (with_reducible refine drewN_ ?_ _)))⟩
              case rest =>
                clear x0 x1 x2 y0 y1 y2 l0 l1 b0 zbx3 zbl zgn hBw3 hia hib hws hwd hn0 hn00 hwa hwb ia1 ia3 ib1 ib3
                obtain ⟨b12, b13, rfl, rfl, h12, h13, hBd⟩ := hcut
                have HM4 := Lib.hid (HM3.out.keep hBd.out)
                have HL4 := Lib.hid (HL3.out.keep hBd.out)
                have HLB4 := Lib.hid (keepObj hBd.out hLB.out)
                obtain ⟨W4, rfl⟩ : ∃ z : World, z = wc := ⟨_, rfl⟩
                have p0 := obj_cell h12.out 0
                have q0 := obj_cell h13.out 0
                have b1 := obj_cell HM4.out.box 1
                simp at p0 q0 b1
                have hPI := hIn.out ia hiaN
                have hQI := hIn.out ib hibN
                rw [← HP'.out] at hPI
                rw [← HQ'.out] at hQI
                obtain ⟨hpid, hpx, hpy⟩ := hPI
                obtain ⟨hqid, hqx, hqy⟩ := hQI
                have HPID := Lib.hid hpid
                have HQID := Lib.hid hqid
                clear hpid hqid hLB HM3 HL3 hBd hBc
                have e4 : i = n9 → ¬p.id = q.id := fun h h' => by
                  obtain ⟨e1, e2⟩ := HAI.out h
                  have e3 : (1 : Int).tmod (n : Int) = 1 := Int.tmod_eq_of_lt (by decide) (by omega)
                  have := HPID.out
                  have := HQID.out
                  omega
                have E4 := Lib.hid e4
                clear e4
                go_upto_region 22 with fail
                go_cut [160] (fun s160 wx => ∃ bb : Bool, s160 = .bool bb ∧ (bb = true → i = n9 → 1 ≤ nr) ∧ Hid (bb = false → ¬p.id = q.id) ∧ wx = W4)
                case first => as_aux_lemma =>
                  by_cases e1 : p.id = q.id
                  · have e1' : (p.id == q.id) = true := by simpa using e1
                    have E1 := Lib.hid e1
                    clear e1
                    go_wp2_with fail
                    go_meet
                    exact ⟨true, rfl, (fun _ h => absurd E1.out (E4.out h)), (fun h => by cases h), rfl⟩
                  · have e1' : (p.id == q.id) = false := by simpa using e1
                    have E1 := Lib.hid e1
                    clear e1
                    by_cases e2 : i = n9
                    · have e2' : ((i : Int) == (n9 : Int)) = true := by simp; omega
                      have E2 := Lib.hid e2
                      clear e2
                      by_cases e3 : 0 < nr
                      · have e3' : (0 : Int) < (nr : Int) := by omega
                        go_wp2_with fail
                        go_meet
                        exact ⟨true, rfl, (fun _ _ => e3), (fun h => by cases h), rfl⟩
                      · have e3' : ¬(0 : Int) < (nr : Int) := by omega
                        go_wp2_with fail
                        go_meet
                        exact ⟨false, rfl, (fun h => by cases h), (fun _ => E1.out), rfl⟩
                    · have e2' : ((i : Int) == (n9 : Int)) = false := by simp; omega
                      go_wp2_with fail
                      go_meet
                      exact ⟨false, rfl, (fun h => by cases h), (fun _ => E1.out), rfl⟩
                case rest =>
                  obtain ⟨bb, rfl, hbb, hne, hww⟩ := hcut
                  subst hww
                  cases bb with
                  | true =>
                    have hbb' := hbb rfl
                    clear hbb
                    go_wp2_with fail
                    go_roundw
                    case rel => exact ⟨i + 1, _, R, by go_num, by omega, by have := HNR.out; omega, (fun h => by have := HNR.out; have := hbb' (by omega); omega), hRd.out, hRL.out, HM4.out, HL4.out⟩
                    case measure => simp [intOf]; omega
                  | false =>
                    have hne' := hne.out rfl
                    have HNE := Lib.hid hne'
                    clear hbb hne hne'
                    have p1 := obj_cell h12.out 1
                    have p2 := obj_cell h12.out 2
                    have q1 := obj_cell h13.out 1
                    have q2 := obj_cell h13.out 2
                    simp at p1 p2 q1 q2
                    have z12 := obj_lt h12.out
                    have z13 := obj_lt h13.out
                    obtain ⟨dx, hdx⟩ : ∃ z, p.x - q.x = z := ⟨_, rfl⟩
                    obtain ⟨dy, hdy⟩ : ∃ z, p.y - q.y = z := ⟨_, rfl⟩
                    have wdx : IntKind.i64.wrap dx = dx := IntWalk.i64_in _ (by omega)
                    have wdy : IntKind.i64.wrap dy = dy := IntWalk.i64_in _ (by omega)
                    have sx1 := sq_le dx 31 (by omega) (by omega)
                    have sy1 := sq_le dy 31 (by omega) (by omega)
                    obtain ⟨sx, hsx⟩ : ∃ z, dx * dx = z := ⟨_, rfl⟩
                    obtain ⟨sy, hsy⟩ : ∃ z, dy * dy = z := ⟨_, rfl⟩
                    rw [hsx] at sx1
                    rw [hsy] at sy1
                    have wsx : IntKind.i64.wrap sx = sx := IntWalk.i64_in _ (by omega)
                    have wsy : IntKind.i64.wrap sy = sy := IntWalk.i64_in _ (by omega)
                    obtain ⟨D, hD⟩ : ∃ z, sx + sy = z := ⟨_, rfl⟩
                    have wD : IntKind.i64.wrap D = D := IntWalk.i64_in _ (by omega)
                    have hD1 : D ≤ 1922 := by omega
                    have HDD := Lib.hid (show (p.x - q.x) * (p.x - q.x) + (p.y - q.y) * (p.y - q.y) = D by rw [hdx, hdy, hsx, hsy, hD])
                    obtain ⟨wq, rfl⟩ : ∃ z : World, z = wr := ⟨_, rfl⟩
                    obtain ⟨W5, hW5⟩ : ∃ z : World, z = wc := ⟨_, rfl⟩
                    subst hW5
                    clear hpx hpy hqx hqy sx1 sy1 b1
                    go_wp2_with fail
                    go_loopw [14] (fun s14 wx => ∃ k : Nat, s14 = .int .i64 k ∧ 1 ≤ k ∧ k ≤ 45 ∧ Hid (Below W5.heap.size W5 wx)) (fun s14 _ => 45 - (intOf s14).toNat)
                    case atStart => exact ⟨1, rfl, by omega, by omega, Below.refl _ _⟩
                    case round =>
                      obtain ⟨k, rfl, hk1, hk2, hBk⟩ := hrel
                      have p1' := (hBk.out.cell (p := ⟨b12, 1, none⟩) z12).trans p1
                      have p2' := (hBk.out.cell (p := ⟨b12, 2, none⟩) z12).trans p2
                      have q1' := (hBk.out.cell (p := ⟨b13, 1, none⟩) z13).trans q1
                      have q2' := (hBk.out.cell (p := ⟨b13, 2, none⟩) z13).trans q2
                      have s1 := sq_le (k : Int) 45 (by omega) (by omega)
                      obtain ⟨kk, hkk⟩ : ∃ z, (k : Int) * (k : Int) = z := ⟨_, rfl⟩
                      rw [hkk] at s1
                      have wkk : IntKind.i64.wrap kk = kk := IntWalk.i64_in _ (by omega)
                      by_cases hlt : kk < D
                      · have hk3 : k ≤ 44 := by
                          rcases Nat.lt_or_ge k 45 with h | h
                          · omega
                          · obtain rfl : k = 45 := by omega
                            simp at hkk
                            omega
                        go_wp2_with fail
                        go_roundw
                        case rel => exact ⟨k + 1, by go_num, by omega, by omega, by have h := hBk.out; show Below _ _ _; (repeat (first | with_reducible exact Below.refl _ _ | with_reducible assumption | ((with_reducible refine Below.setCell ?_ ?_ _); rotate_left; focus (first | exact Nat.le_refl _ | omega | exact Below.size (by assumption) | (simp; done) | (simp; omega))) | ((with_reducible refine Below.alloc ?_ ?_ _); rotate_left; focus (first | exact Nat.le_refl _ | omega | exact Below.size (by assumption) | (simp; done) | (simp; omega))) | (with_reducible refine Below.drew ?_) | (with_reducible refine drewN_ ?_ _)))⟩
                        case measure => simp [intOf]; omega
                      · have HKK := Lib.hid (show D ≤ (k : Int) * (k : Int) by rw [hkk]; omega)
                        have HM5 := Lib.hid (HM4.out.keep hBk.out)
                        have HL5 := Lib.hid (HL4.out.keep hBk.out)
                        have b1 := obj_cell HM5.out.box 1
                        have b1f := obj_free HM5.out.box 1
                        simp at b1
                        have hLB5 := keepObj hBk.out HLB4.out
                        have l2 := obj_cell hLB5 2
                        have l3 := obj_cell hLB5 3
                        have l4 := obj_cell hLB5 4
                        simp at l2 l3 l4
                        have p0' := (hBk.out.cell (p := ⟨b12, 0, none⟩) z12).trans p0
                        have q0' := (hBk.out.cell (p := ⟨b13, 0, none⟩) z13).trans q0
                        have zbx := obj_lt HM5.out.box
                        have hBw := HM5.out.low.size
                        have HOFF := Lib.hid HM5.out.off2
                        obtain ⟨m1, m2, m3, m4⟩ := tmodByte (m := 4) hlf.out.2.2.1 (by decide) (by decide)
                        obtain ⟨n1, n2, n3, n4⟩ := tmodByte (m := 5) hlf.out.2.2.2 (by decide) (by decide)
                        obtain ⟨ex, hex⟩ : ∃ z, l.extra.tmod 4 = z := ⟨_, rfl⟩
                        obtain ⟨li, hli⟩ : ∃ z, l.limit.tmod 5 = z := ⟨_, rfl⟩
                        rw [hex] at m1 m2 m3 m4
                        rw [hli] at n1 n2 n3 n4
                        have r1 : IntKind.i64.wrap (2 * (nr : Int)) = 2 * (nr : Int) := IntWalk.i64_in _ (by omega)
                        have r2 : IntKind.i64.wrap (1 + 2 * (nr : Int)) = 1 + 2 * (nr : Int) := IntWalk.i64_in _ (by omega)
                        have r3 : IntKind.i64.wrap ((k : Int) + ex) = (k : Int) + ex := IntWalk.i64_in _ (by omega)
                        have r4 : IntKind.i64.wrap (1 + li) = 1 + li := IntWalk.i64_in _ (by omega)
                        have HOWN : Hid (∀ W, Below wr.heap.size wr W → W.ownsRow W0.heap.size 90 6 (.slice ar nr cr) nr (R.map Rd.cs).flatten) := fun W hW => by
                          have q := (HM5.out.rds.keep hW).1
                          rw [List.length_map, HNR.out] at q
                          exact q
                        clear hLB5
                        go_wp2_with (at_builtin; refine wpList_append_lies _ (by rfl) _ _ _ (by rfl) W0.heap.size 90 j0 _ 6 48 uRoad hj hr0 hr1 hr2 rfl (by decide) (.slice ar nr cr) nr (R.map Rd.cs).flatten (by rfl) (HOWN.out _ (by (repeat (first | with_reducible exact Below.refl _ _ | with_reducible assumption | ((with_reducible refine Below.setCell ?_ ?_ _); rotate_left; focus (first | exact Nat.le_refl _ | omega | exact Below.size (by assumption) | (simp; done) | (simp; omega))) | ((with_reducible refine Below.alloc ?_ ?_ _); rotate_left; focus (first | exact Nat.le_refl _ | omega | exact Below.size (by assumption) | (simp; done) | (simp; omega))) | (with_reducible refine Below.drew ?_) | (with_reducible refine drewN_ ?_ _))))) ⟨wr.heap.size, 0, none⟩ 1 1 (⟨1 + 2 * (nr : Int), p.id, q.id, (k : Int) + ex, 1 + li, l.one⟩ : Rd).cs (by rfl) rfl (World.news_of_block (cs := #[.int .i64 (1 + 2 * (nr : Int)), .int .i64 p.id, .int .i64 q.id, .int .i64 ((k : Int) + ex), .int .i64 (1 + li), .bool l.one]) (t := 90) (fr := (0, 0)) (obj_last _ _)) (rd_cell1 _) (by omega) (by unfold maxLen; omega) (by omega) (by have := hBw; first | omega | (simp; omega)) _ rfl ?_; intro g2 cap2 w7 hown2 hgrow2 hat2 hlt2; have hall2 : wr.grownBy w7 (Value.slice ar nr cr).ownBlock := (grown_of (by (repeat (first | with_reducible exact Below.refl _ _ | with_reducible assumption | ((with_reducible refine Below.setCell ?_ ?_ _); rotate_left; focus (first | exact Nat.le_refl _ | omega | exact Below.size (by assumption) | (simp; done) | (simp; omega))) | ((with_reducible refine Below.alloc ?_ ?_ _); rotate_left; focus (first | exact Nat.le_refl _ | omega | exact Below.size (by assumption) | (simp; done) | (simp; omega))) | (with_reducible refine Below.drew ?_) | (with_reducible refine drewN_ ?_ _))))).trans hgrow2; have HALL2 := Lib.hid hall2; have HOWN2 := Lib.hid hown2; have HAT2 := Lib.hid (show (Value.slice ar nr cr).ownBlock = some g2 ∨ wr.heap.size ≤ g2 from hat2.imp id (fun e => by rw [e]; first | exact Nat.le_refl _ | (simp; done) | (simp; omega))); have k0 := (hall2.cell_far ⟨bx, 1, none⟩ zbx (fun e => HOFF.out e.symm)).trans b1; have k0f := (hall2.frozen_far ⟨bx, 1, none⟩ zbx (fun e => HOFF.out e.symm)).trans b1f; clear hgrow2 hat2 hall2 hown2)
                        go_roundw
                        case rel =>
                          have hlen : (p.x - q.x) * (p.x - q.x) + (p.y - q.y) * (p.y - q.y) ≤ ((k : Int) + ex) * ((k : Int) + ex) := by
                            have h1 := HDD.out
                            have h2 := HKK.out
                            have h3 : (k : Int) * (k : Int) ≤ ((k : Int) + ex) * ((k : Int) + ex) := Int.mul_le_mul (by omega) (by omega) (by omega) (by omega)
                            omega
                          exact ⟨i + 1, _, R ++ [(⟨1 + 2 * (nr : Int), p.id, q.id, (k : Int) + ex, 1 + li, l.one⟩ : Rd)], by go_num, by omega, by have := HNR.out; simp; omega, (fun _ => by simp), (show RdsIn N (R ++ [(⟨1 + 2 * (nr : Int), p.id, q.id, (k : Int) + ex, 1 + li, l.one⟩ : Rd)]) from hRd.out.add HNR.out rfl (hIn.out.road hiaN hibN HP'.out HQ'.out HNE.out (by omega) (by omega) (by omega) (by omega) hlen)), (fun r hr => by rcases List.mem_append.1 hr with h | h; exact hRL.out r h; (have e := List.mem_singleton.1 h); subst e; show (k : Int) + ex ≤ 48; omega), HM5.out.addR HNR.out.symm HALL2.out HOWN2.out HAT2.out, HM5.out.lane HL5.out HALL2.out _⟩
                        case measure => simp [intOf]; omega
          · obtain rfl : i = n9 + 1 := by omega
            have hR3 := hR2 (by omega)
            have hlt' : ¬((n9 + 1 : Nat) : Int) ≤ (n9 : Int) := by omega
            have r := keepObj hM.out.low R0.out
            have r0 := obj_cell r 0
            have r1 := obj_cell r 1
            have f0 := obj_free r 0
            have f1 := obj_free r 1
            simp at r0 r1
            have b0 := obj_cell hM.out.box 0
            have b1 := obj_cell hM.out.box 1
            simp at b0 b1
            have BX := Lib.hid (B0.out.trans (hM.out.low.mono B0.out.size))
            have hb2 : w.heap.size + 1 ≠ bx := by omega
            clear r
            go_wp2_with fail
            refine bodyPost_ret (v := .agg #[.slice (some ⟨gn, 0, none⟩) n c, .slice ar nr cr]) ?_ rfl ?_
            · simp [results, Tryz.results31, go_sem, r0, r1, f0, f1, hb2, b0, b1]
            · have ob1 : (Value.slice (some ⟨gn, 0, none⟩) n c).ownBlock ≠ some (w.heap.size + 1) := fun h => by have := hM.out.own.blk _ h; omega
              have ob2 : (Value.slice ar nr cr).ownBlock ≠ some (w.heap.size + 1) := fun h => by have := hM.out.rds.blk _ h; omega
              exact ⟨⟨_, _, rfl, N, ((hM.out.own.keepSet _ ob1 _).keepSet _ ob1 _).mono (by omega), R, ((hM.out.rds.keepSet _ ob2 _).keepSet _ ob2 _).mono (by omega), by have := HNL.out; omega, by have := HNL.out; omega, by have := HNR.out; omega, by have := HNR.out; omega, hIn.out, hRd.out, hRL.out⟩, by have h := BX.out; (repeat (first | with_reducible exact Below.refl _ _ | with_reducible assumption | ((with_reducible refine Below.setCell ?_ ?_ _); rotate_left; focus (first | exact Nat.le_refl _ | omega | exact Below.size (by assumption) | (simp; done) | (simp; omega))) | ((with_reducible refine Below.alloc ?_ ?_ _); rotate_left; focus (first | exact Nat.le_refl _ | omega | exact Below.size (by assumption) | (simp; done) | (simp; omega))) | (with_reducible refine Below.drew ?_) | (with_reducible refine drewN_ ?_ _)))⟩
end Go.Proofs.YtmplajpbmojkkaaGreat
