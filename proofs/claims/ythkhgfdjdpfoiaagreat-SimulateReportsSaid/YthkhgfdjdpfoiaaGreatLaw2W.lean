/-
  The law of reports and exchanges, walked.
-/
import Derived.Test.YthkhgfdjdpfoiaaGreatKnwA
import Derived.Test.YthkhgfdjdpfoiaaGreatRgtA
import Derived.Test.YthkhgfdjdpfoiaaGreatCheckM
import Derived.Test.YthkhgfdjdpfoiaaGreatRepG
import Derived.Test.YthkhgfdjdpfoiaaGreatExcA
import Derived.Test.YthkhgfdjdpfoiaaGreatModR
set_option linter.unusedSimpArgs false
set_option linter.unusedVariables false
namespace Go.Proofs.YthkhgfdjdpfoiaaGreat
open Go Go.RowKit Go.Vi
theorem sentS_few {S : Scn} (hF : Fit S) (hW : wayErr S = 0) : ∀ k, k ≤ S.trips.length → (sentS S k).length ≤ 256 * k
  | 0, _ => by simp [sentS]
  | k + 1, h => by
    have hk : k < S.trips.length := h
    rw [sentS_succ S hk, List.length_append]
    have h1 := sentS_few hF hW k (Nat.le_of_lt hk)
    obtain ⟨L, hst, _⟩ := wayErrT_zero S.trips (wayErr_zero hW) S.trips[k]! (by rw [getElem!_pos S.trips k hk]; exact List.getElem_mem hk)
    have h2 := (stops_rise (netOK_of hF.net) hF.few hF.gap (tripFit_of (hF.trips k hk)) hst).2.2
    have e : sentOf S S.trips[k]! = sentT S S.trips[k]! L L.length := by unfold sentOf; rw [hst]
    rw [e, sentT_len]
    omega
set_option maxRecDepth 100000 in
set_option maxHeartbeats 20000000 in
theorem law2_of (x : Sto) (vp vq vd va : Value) (w : World) (hX : StoAt w.heap.size w vp vq vd va x)
    (hR : x.short = true → ∀ W : World, StoAt W.heap.size W vp vq vd va x → Calls Tryz.prog 7 #[x.v vp vq vd va] W fun e w' => RightOut x W.heap.size e w' ∧ Below W.heap.size W w') :
    Calls Tryz.prog 3 #[x.v vp vq vd va] w fun e w' => e = .returned (.bool true) ∧ Below w.heap.size w w' := by
  obtain ⟨ad, nd, cd, rfl, _, _, _⟩ := hX.dr.open
  obtain ⟨aa, na, ca, rfl, _, _, _⟩ := hX.wa.open
  obtain ⟨ap, np, cp, rfl, _, _, _⟩ := hX.sp.open
  obtain ⟨aq, nq, cq, rfl, _, _, _⟩ := hX.ln.open
  have HX := Lib.hid hX
  have HR := Lib.hid hR
  clear hX hR
  have P0 := Lib.hid (obj_last w (.cells #[.slice ap np cp, .slice aq nq cq, .slice ad nd cd, .slice aa na ca, .int .u8 x.gap, .bool x.un] 29))
  go_enter Tryz.func3, Tryz.ntmps3
  go_wp2_with fail
  refine (known_any _).mono ?_
  rintro e w2 ⟨rfl, hb2⟩
  have P2 := Lib.hid (keepObj hb2 P0.out)
  have B2 := Lib.hid (from_ (w := w) hb2 (by (repeat (first | with_reducible exact Below.refl _ _ | with_reducible assumption | ((with_reducible refine Below.setCell ?_ ?_ _); rotate_left; focus (first | exact Nat.le_refl _ | omega | exact Below.size (by assumption) | (simp; done) | (simp; omega))) | ((with_reducible refine Below.alloc ?_ ?_ _); rotate_left; focus (first | exact Nat.le_refl _ | omega | exact Below.size (by assumption) | (simp; done) | (simp; omega))) | (with_reducible refine Below.drew ?_) | (with_reducible refine drewN_ ?_ _)))))
  have HX2 := Lib.hid (HX.out.later B2.out)
  have p0 := obj_cell P2.out 0
  have p1 := obj_cell P2.out 1
  have p2 := obj_cell P2.out 2
  have p3 := obj_cell P2.out 3
  have p4 := obj_cell P2.out 4
  have p5 := obj_cell P2.out 5
  simp at p0 p1 p2 p3 p4 p5
  clear hb2
  go_wp2_with fail
  refine (short_any x _ _ _ _ _ HX2.out).mono ?_
  rintro e w3 ⟨rfl, hb3⟩
  have P3 := Lib.hid (keepObj hb3 P2.out)
  have B3 := Lib.hid (B2.out.trans (hb3.mono B2.out.size))
  have HX3 := Lib.hid (HX2.out.later hb3)
  clear hb3 p0 p1 p2 p3 p4 p5
  cases hsh : x.short with
  | false =>
    clear hsh
    go_wp2_with fail
    refine (known_any _).mono ?_
    rintro e w4 ⟨rfl, hb4⟩
    have B4 := Lib.hid (B3.out.trans (hb4.mono B3.out.size))
    clear hb4
    go_wp2_with fail
    go_ret
    exact ⟨rfl, B4.out⟩
  | true =>
    have HRS := Lib.hid (HR.out hsh)
    clear hsh
    have p0 := obj_cell P3.out 0
    have p1 := obj_cell P3.out 1
    have p2 := obj_cell P3.out 2
    have p3 := obj_cell P3.out 3
    have p4 := obj_cell P3.out 4
    have p5 := obj_cell P3.out 5
    simp at p0 p1 p2 p3 p4 p5
    go_wp2_with fail
    refine (HRS.out _ HX3.out).mono ?_
    rintro e w4 ⟨hO, hb4⟩
    have B4 := Lib.hid (B3.out.trans (hb4.mono B3.out.size))
    obtain ⟨v1, v2, v3, v4, v5, S, ok, rfl, hS, hSm, hok, _⟩ := hO
    obtain ⟨a1, a2, a3, a4, a5, n1, n2, n3, n4, n5, c1, c2, c3, c4, c5, rfl, rfl, rfl, rfl, rfl⟩ := hS.vals
    have HS := Lib.hid hS
    have HOK := Lib.hid hok
    have HSM := Lib.hid hSm
    clear hb4 hS hok hSm p0 p1 p2 p3 p4 p5
    cases ok with
    | false =>
      go_wp2_with fail
      go_ret
      exact ⟨rfl, by have h := B4.out; (repeat (first | with_reducible exact Below.refl _ _ | with_reducible assumption | ((with_reducible refine Below.setCell ?_ ?_ _); rotate_left; focus (first | exact Nat.le_refl _ | omega | exact Below.size (by assumption) | (simp; done) | (simp; omega))) | ((with_reducible refine Below.alloc ?_ ?_ _); rotate_left; focus (first | exact Nat.le_refl _ | omega | exact Below.size (by assumption) | (simp; done) | (simp; omega))) | (with_reducible refine Below.drew ?_) | (with_reducible refine drewN_ ?_ _)))⟩
    | true =>
      obtain ⟨hFit, hWay⟩ := HOK.out rfl
      have HF := Lib.hid hFit
      have HW := Lib.hid hWay
      have HK := Lib.hid (netOK_of hFit.net)
      have hn5 : S.syncs.length = n5 := by
        have := HS.out.syncs.len
        rwa [List.length_map] at this
      have HN5 := Lib.hid hn5
      have hnt := HSM.out.syncs
      rw [hn5] at hnt
      have hsl : (sentS S S.trips.length).length ≤ 1000000 := by
        have h1 := sentS_few hFit hWay S.trips.length (Nat.le_refl _)
        have h2 := HSM.out.trips
        omega
      have HSL := Lib.hid hsl
      clear hFit hWay hn5 hsl
      go_wp2_with fail
      obtain ⟨W5, hW5⟩ : ∃ W, W = w4.alloc (.cells #[.slice a1 n1 c1, .slice a2 n2 c2, .int .i64 S.gap, .slice a3 n3 c3, .slice a4 n4 c4, .slice a5 n5 c5] 40) := ⟨_, rfl⟩
      have PS := Lib.hid (obj_last w4 (.cells #[.slice a1 n1 c1, .slice a2 n2 c2, .int .i64 S.gap, .slice a3 n3 c3, .slice a4 n4 c4, .slice a5 n5 c5] 40))
      have BS := Lib.hid ((Below.refl w4.heap.size w4).alloc (Nat.le_refl _) (.cells #[.slice a1 n1 c1, .slice a2 n2 c2, .int .i64 S.gap, .slice a3 n3 c3, .slice a4 n4 c4, .slice a5 n5 c5] 40))
      obtain ⟨bs, hbs⟩ : ∃ z, w4.heap.size = z := ⟨_, rfl⟩
      rw [hbs] at PS ⊢
      rw [← hW5] at PS BS ⊢
      have HS5 := Lib.hid (HS.out.later BS.out)
      have B5 := Lib.hid (B4.out.trans (BS.out.mono B4.out.size))
      clear hW5 hbs HS BS
      have s0 := obj_cell PS.out 0
      have s1 := obj_cell PS.out 1
      have s2 := obj_cell PS.out 2
      have s3 := obj_cell PS.out 3
      have s4 := obj_cell PS.out 4
      have s5 := obj_cell PS.out 5
      simp at s0 s1 s2 s3 s4 s5
      clear s0 s1 s2 s3 s4 s5
      refine (reportsG_any S _ _ _ _ _ W5 HS5.out HF.out HW.out).mono ?_
      rintro e w6 ⟨⟨vr, rfl, hOR⟩, hb6⟩
      have PS6 := Lib.hid (keepObj hb6 PS.out)
      have HOR := Lib.hid hOR
      have B56 := Lib.hid hb6
      have HS6 := Lib.hid (HS5.out.later hb6)
      have s0 := obj_cell PS6.out 0
      have s1 := obj_cell PS6.out 1
      have s2 := obj_cell PS6.out 2
      have s3 := obj_cell PS6.out 3
      have s4 := obj_cell PS6.out 4
      have s5 := obj_cell PS6.out 5
      simp at s0 s1 s2 s3 s4 s5
      have zs := obj_lt PS6.out
      clear hb6 hOR
      go_wp2_with fail
      refine (exchangesW_any S _ _ _ _ _ w6 HS6.out HF.out HW.out).mono ?_
      rintro e w7 ⟨⟨vm, rfl, hOM⟩, hb7⟩
      have PS7 := Lib.hid (keepObj hb7 PS6.out)
      have HOR7 := Lib.hid (HOR.out.keep hb7)
      have HOM := Lib.hid hOM
      have HS7 := Lib.hid (HS6.out.later hb7)
      have B57 := Lib.hid (B56.out.trans (hb7.mono B56.out.size))
      have B7 := Lib.hid (B5.out.trans (B57.out.mono B5.out.size))
      obtain ⟨exi0, exi, ex0, ex1, ex2⟩ := info_parts iExcT
      clear hb7 hOM s0 s1 s2 s3 s4 s5 zs HOR PS PS6 HS5 HS6 B5 B56 B57
      go_wp2_with fail
      go_loopw [9, 10] (fun s9 s10 wx => ∃ (k : Nat) (vb : Value), s10 = .int .i64 k ∧ vb = s9 ∧ k ≤ n5 ∧ Hid (Ow w7.heap.size wx 51 5 vb ((excS S k).map Exc.cs)) ∧ Hid (Below w7.heap.size w7 wx)) (fun _ s10 _ => n5 - (intOf s10).toNat)
      case atStart => exact ⟨0, _, rfl, rfl, Nat.zero_le _, Ow.nil _ _ _ _, Below.refl _ _⟩
      case round =>
        obtain ⟨k, vb, rfl, rfl, hk, hO, hB⟩ := hrel
        have hPw := keepObj hB.out PS7.out
        have l0 := obj_cell hPw 0
        have l1 := obj_cell hPw 1
        have l2 := obj_cell hPw 2
        have l3 := obj_cell hPw 3
        have l4 := obj_cell hPw 4
        have l5 := obj_cell hPw 5
        simp at l0 l1 l2 l3 l4 l5
        have zp := obj_lt hPw
        have HSR := Lib.hid (HS7.out.later hB.out)
        have PSR := Lib.hid hPw
        clear hPw
        by_cases hlt : k < n5
        · have hkl : k < S.syncs.length := by rw [HN5.out]; exact hlt
          obtain ⟨b, off, rfl, hzb, hcs⟩ := HSR.out.syncs.cells k hkl
          have t0 : wr.cell? ⟨b, off + k * 6, none⟩ = _ := hcs k hkl 0 _ rfl
          have t1 : wr.cell? ⟨b, off + k * 6 + 1, none⟩ = _ := hcs k hkl 1 _ rfl
          have t2 : wr.cell? ⟨b, off + k * 6 + 2, none⟩ = _ := hcs k hkl 2 _ rfl
          have t3 : wr.cell? ⟨b, off + k * 6 + 3, none⟩ = _ := hcs k hkl 3 _ rfl
          have t4 : wr.cell? ⟨b, off + k * 6 + 4, none⟩ = _ := hcs k hkl 4 _ rfl
          have t5 : wr.cell? ⟨b, off + k * 6 + 5, none⟩ = _ := hcs k hkl 5 _ rfl
          obtain ⟨g0, g1, g2, g3, g4, g5, g6⟩ := HF.out.clocks.snc k hkl
          have hob := off_bound HF.out.clocks S.syncs[k]!.dev
          have hss := excS_succ S hkl
          obtain ⟨x, hx⟩ : ∃ x, x = S.syncs[k]! := ⟨_, rfl⟩
          rw [← hx] at t0 t1 t2 t3 t4 t5 g1 g2 g3 g4 g5 g6 hob hss
          have hG := Lib.hid (show exchV S x = .agg #[.int .i64 0, .int .i64 x.dev, .int .i64 x.sent, .int .i64 (gotOut S x), .int .i64 (x.out - x.so), .int .i64 x.dev, .int .i64 0, .int .i64 (gotOut S x), .int .i64 (gotBack x), .int .i64 (x.back - x.sb)] from rfl)
          have G2 := Lib.hid g2
          have G3 := Lib.hid g3
          have G4 := Lib.hid g4
          have G5 := Lib.hid g5
          have G6 := Lib.hid g6
          have HOB := Lib.hid hob
          have HSS := Lib.hid hss
          obtain ⟨go, hgo⟩ : ∃ z, z = gotOut S x := ⟨_, rfl⟩
          obtain ⟨gb, hgb⟩ : ∃ z, z = gotBack x := ⟨_, rfl⟩
          rw [← hgo, ← hgb] at hG
          have HA : Hid (excA S x = ⟨0, x.dev, x.sent, go, x.out - x.so⟩) := by show _ = _; simp only [excA, ← hgo]
          have HBB : Hid (excB S x = ⟨x.dev, 0, go, gb, x.back - x.sb⟩) := by show _ = _; simp only [excB, ← hgo, ← hgb]
          have hk1 : (0 : Int) ≤ (k : Int) := by omega
          have hk2' : (k : Int) < (n5 : Int) := by omega
          clear hcs hx g0 g1 g2 g3 g4 g5 g6 hob hgo hgb hss
          go_upto_region 12 with fail
          go_cut [11] (fun s11 wx => ∃ be : Nat, s11 = .pointer (some ⟨be, 0, none⟩) ∧ Hid (wx.heap[be]? = some (.cells #[.int .i64 0, .int .i64 x.dev, .int .i64 x.sent, .int .i64 go, .int .i64 (x.out - x.so), .int .i64 x.dev, .int .i64 0, .int .i64 go, .int .i64 gb, .int .i64 (x.back - x.sb)] 52 (0, 0))) ∧ Hid (Below wr.heap.size wr wx))
          case first =>
            go_region_held3 (fun w' => w'.cell? ⟨bs, 0, none⟩ = some (.slice a1 n1 c1) ∧ w'.cell? ⟨bs, 1, none⟩ = some (.slice a2 n2 c2) ∧ w'.cell? ⟨bs, 2, none⟩ = some (.int .i64 S.gap) ∧ w'.cell? ⟨bs, 3, none⟩ = some (.slice a3 n3 c3) ∧ w'.cell? ⟨bs, 4, none⟩ = some (.slice a4 n4 c4) ∧ w'.cell? ⟨bs, 5, none⟩ = some (.slice (some ⟨b, off, none⟩) n5 c5) ∧ w'.cell? ⟨b, off + k * 6, none⟩ = some (.int .i64 x.dev) ∧ w'.cell? ⟨b, off + k * 6 + 1, none⟩ = some (.int .i64 x.sent) ∧ w'.cell? ⟨b, off + k * 6 + 2, none⟩ = some (.int .i64 x.out) ∧ w'.cell? ⟨b, off + k * 6 + 3, none⟩ = some (.int .i64 x.back) ∧ w'.cell? ⟨b, off + k * 6 + 4, none⟩ = some (.int .i64 x.so) ∧ w'.cell? ⟨b, off + k * 6 + 5, none⟩ = some (.int .i64 x.sb))
              (((go_split_ands; refine ⟨?_, ?_, ?_, ?_, ?_, ?_, ?_, ?_, ?_, ?_, ?_, ?_⟩ <;> first | with_reducible assumption | exact ((show Below wr.heap.size wr _ from (by (repeat (first | with_reducible exact Below.refl _ _ | with_reducible assumption | ((with_reducible refine Below.setCell ?_ ?_ _); rotate_left; focus (first | exact Nat.le_refl _ | omega | exact Below.size (by assumption) | (simp; done) | (simp; omega))) | ((with_reducible refine Below.alloc ?_ ?_ _); rotate_left; focus (first | exact Nat.le_refl _ | omega | exact Below.size (by assumption) | (simp; done) | (simp; omega))) | (with_reducible refine Below.drew ?_) | (with_reducible refine drewN_ ?_ _))))).cell (p := ⟨_, _, none⟩) (by first | with_reducible assumption | omega)).trans (by with_reducible assumption))))
              ((go_at_call 10; refine (exchanges_any S _ _ _ _ _ x _ (HSR.out.clocks.later (by (repeat (first | with_reducible exact Below.refl _ _ | with_reducible assumption | ((with_reducible refine Below.setCell ?_ ?_ _); rotate_left; focus (first | exact Nat.le_refl _ | omega | exact Below.size (by assumption) | (simp; done) | (simp; omega))) | ((with_reducible refine Below.alloc ?_ ?_ _); rotate_left; focus (first | exact Nat.le_refl _ | omega | exact Below.size (by assumption) | (simp; done) | (simp; omega))) | (with_reducible refine Below.drew ?_) | (with_reducible refine drewN_ ?_ _))))) HF.out.nclocks ⟨by have := HOB.out; omega, by have := HOB.out; omega⟩ G2.out G3.out G4.out G5.out G6.out).mono ?_; rintro e w3 ⟨rfl, hb3⟩; rw [hG.out]; have B3 := from_ (w := wr) hb3 (by (repeat (first | with_reducible exact Below.refl _ _ | with_reducible assumption | ((with_reducible refine Below.setCell ?_ ?_ _); rotate_left; focus (first | exact Nat.le_refl _ | omega | exact Below.size (by assumption) | (simp; done) | (simp; omega))) | ((with_reducible refine Below.alloc ?_ ?_ _); rotate_left; focus (first | exact Nat.le_refl _ | omega | exact Below.size (by assumption) | (simp; done) | (simp; omega))) | (with_reducible refine Below.drew ?_) | (with_reducible refine drewN_ ?_ _)))); (first | (have LL := keepObj hb3 (b := wr.heap.size) (o := (.cells #[.int .i64 0, .int .i64 0, .int .i64 0, .int .i64 0, .int .i64 0, .int .i64 0, .int .i64 0, .int .i64 0, .int .i64 0, .int .i64 0] 52)) (by first | exact obj_last wr (.cells #[.int .i64 0, .int .i64 0, .int .i64 0, .int .i64 0, .int .i64 0, .int .i64 0, .int .i64 0, .int .i64 0, .int .i64 0, .int .i64 0] 52) | exact obj_drew (obj_last wr (.cells #[.int .i64 0, .int .i64 0, .int .i64 0, .int .i64 0, .int .i64 0, .int .i64 0, .int .i64 0, .int .i64 0, .int .i64 0, .int .i64 0] 52)) | exact obj_last wr.drew (.cells #[.int .i64 0, .int .i64 0, .int .i64 0, .int .i64 0, .int .i64 0, .int .i64 0, .int .i64 0, .int .i64 0, .int .i64 0, .int .i64 0] 52) | exact obj_drew (obj_last wr.drew (.cells #[.int .i64 0, .int .i64 0, .int .i64 0, .int .i64 0, .int .i64 0, .int .i64 0, .int .i64 0, .int .i64 0, .int .i64 0, .int .i64 0] 52))); have e0 := obj_cell LL 0; have e1 := obj_cell LL 1; have e2 := obj_cell LL 2; have e3 := obj_cell LL 3; have e4 := obj_cell LL 4; have e5 := obj_cell LL 5; have e6 := obj_cell LL 6; have e7 := obj_cell LL 7; have e8 := obj_cell LL 8; have e9 := obj_cell LL 9; have f0 := obj_free LL 0; have f1 := obj_free LL 1; have f2 := obj_free LL 2; have f3 := obj_free LL 3; have f4 := obj_free LL 4; have f5 := obj_free LL 5; have f6 := obj_free LL 6; have f7 := obj_free LL 7; have f8 := obj_free LL 8; have f9 := obj_free LL 9; simp at e0 e1 e2 e3 e4 e5 e6 e7 e8 e9; have ze := obj_lt LL) | (guard_hyp hb3 : Below wr.drew.heap.size wr.drew w3) | (guard_hyp hb3 : Below wr.heap.size wr w3)); have zz3 := hb3.size; (try simp at zz3); clear hb3))
            all_goals
              go_wp2_with fail
              go_meet
              refine ⟨_, rfl, ?_, by show Below _ _ _; (repeat (first | with_reducible exact Below.refl _ _ | with_reducible assumption | ((with_reducible refine Below.setCell ?_ ?_ _); rotate_left; focus (first | exact Nat.le_refl _ | omega | exact Below.size (by assumption) | (simp; done) | (simp; omega))) | ((with_reducible refine Below.alloc ?_ ?_ _); rotate_left; focus (first | exact Nat.le_refl _ | omega | exact Below.size (by assumption) | (simp; done) | (simp; omega))) | (with_reducible refine Below.drew ?_) | (with_reducible refine drewN_ ?_ _)))⟩
              show _ = _
              first
                | with_reducible exact obj_last _ _
                | with_reducible exact obj_set10 LL
          case rest =>
            obtain ⟨be, rfl, hXE, hBf⟩ := hcut
            obtain ⟨wd, rfl⟩ : ∃ z : World, z = wc := ⟨_, rfl⟩
            have e0 := obj_cell hXE.out 0
            have e1 := obj_cell hXE.out 1
            have e2 := obj_cell hXE.out 2
            have e3 := obj_cell hXE.out 3
            have e4 := obj_cell hXE.out 4
            have e5 := obj_cell hXE.out 5
            have e6 := obj_cell hXE.out 6
            have e7 := obj_cell hXE.out 7
            have e8 := obj_cell hXE.out 8
            have e9 := obj_cell hXE.out 9
            simp at e0 e1 e2 e3 e4 e5 e6 e7 e8 e9
            have ze := obj_lt hXE.out
            have BR := Lib.hid (hB.out.trans (hBf.out.mono hB.out.size))
            obtain ⟨ab, n', cb, rfl⟩ := hO.out.val
            have hn' := hO.out.sl.len
            rw [List.length_map, excS_len S k (by omega)] at hn'
            have HNB := Lib.hid (show n' = (excS S k).length by rw [excS_len S k (by omega)]; omega)
            have hnbb : n' ≤ 2000 := by omega
            have HOWN : Hid (∀ W, Below wd.heap.size wd W → W.ownsRow w7.heap.size 51 5 (.slice ab n' cb) n' ((excS S k).map Exc.cs).flatten) := fun W hW => by
              have qq := ((hO.out.keep hBf.out).keep hW).1
              rw [List.length_map, ← HNB.out] at qq
              exact qq
            have hBw : w7.heap.size ≤ wd.heap.size := BR.out.size
            clear l0 l1 l2 l3 l4 l5 t0 t1 t2 t3 t4 t5 hn'
            go_wp2_with (at_builtin; refine wpList_append_lies _ (by rfl) _ _ _ (by rfl) w7.heap.size 51 exi0 _ 5 40 uExcT exi ex0 ex1 ex2 rfl (by decide) (.slice ab n' cb) n' ((excS S k).map Exc.cs).flatten (by rfl) (HOWN.out _ (by (repeat (first | with_reducible exact Below.refl _ _ | with_reducible assumption | ((with_reducible refine Below.setCell ?_ ?_ _); rotate_left; focus (first | exact Nat.le_refl _ | omega | exact Below.size (by assumption) | (simp; done) | (simp; omega))) | ((with_reducible refine Below.alloc ?_ ?_ _); rotate_left; focus (first | exact Nat.le_refl _ | omega | exact Below.size (by assumption) | (simp; done) | (simp; omega))) | (with_reducible refine Below.drew ?_) | (with_reducible refine drewN_ ?_ _))))) ⟨wd.heap.size, 0, none⟩ 2 2 ((⟨0, x.dev, x.sent, go, x.out - x.so⟩ : Exc).cs ++ (⟨x.dev, 0, go, gb, x.back - x.sb⟩ : Exc).cs) (by rfl) rfl (World.news_of_block (cs := #[.int .i64 0, .int .i64 x.dev, .int .i64 x.sent, .int .i64 go, .int .i64 (x.out - x.so), .int .i64 x.dev, .int .i64 0, .int .i64 go, .int .i64 gb, .int .i64 (x.back - x.sb)]) (t := 51) (fr := (0, 0)) (obj_last _ _)) (exc_cell1 _ _) (by omega) (by unfold maxLen; omega) (by omega) (by have := hBw; first | omega | (simp; omega)) _ rfl ?_; intro gg2 cap2 w8 hown2 hgrow2 hat2 hlt2; have hall2 : wd.grownBy w8 (Value.ownBlock (.slice ab n' cb)) := (grown_of (by (repeat (first | with_reducible exact Below.refl _ _ | with_reducible assumption | ((with_reducible refine Below.setCell ?_ ?_ _); rotate_left; focus (first | exact Nat.le_refl _ | omega | exact Below.size (by assumption) | (simp; done) | (simp; omega))) | ((with_reducible refine Below.alloc ?_ ?_ _); rotate_left; focus (first | exact Nat.le_refl _ | omega | exact Below.size (by assumption) | (simp; done) | (simp; omega))) | (with_reducible refine Below.drew ?_) | (with_reducible refine drewN_ ?_ _))))).trans hgrow2; have HALL2 := Lib.hid hall2; have HOWN2 := Lib.hid hown2; clear hgrow2 hat2 hall2 hown2)
            go_roundw
            case rel =>
              refine ⟨k + 1, _, by go_num, rfl, by omega, ?_, ?_⟩
              · show Ow _ _ _ _ _ _
                rw [HSS.out, HA.out, HBB.out]
                exact exc_add HNB.out HOWN2.out
              · exact BR.out.grown HALL2.out BR.out.size (fun b hb => (hO.out.blk b hb).1)
            case measure => simp [intOf]; omega
        · obtain rfl : k = n5 := by omega
          have hlt' : ¬(k : Int) < (k : Int) := by omega
          have hO' := hO.out
          rw [← HN5.out] at hO'
          have HO' := Lib.hid hO'
          have HM8 := Lib.hid (HOM.out.keep hB.out)
          have HR8 := Lib.hid (HOR7.out.keep hB.out)
          clear hO'
          obtain ⟨w8, rfl⟩ : ∃ z : World, z = wr := ⟨_, rfl⟩
          go_wp2_with fail
          refine (reportsM_any S _ _ _ _ _ w8 HSR.out HF.out HW.out).mono ?_
          rintro e w9 ⟨⟨vs, rfl, hOS⟩, hb9⟩
          have HOS := Lib.hid hOS
          have HM9 := Lib.hid (HM8.out.keep hb9)
          have HR9 := Lib.hid (HR8.out.keep hb9)
          have HO9 := Lib.hid (HO'.out.keep hb9)
          have B79 := Lib.hid (hB.out.trans (hb9.mono hB.out.size))
          clear hb9 hOS l0 l1 l2 l3 l4 l5
          obtain ⟨LR, hLR⟩ : ∃ z : List Rpt, z = (insAll (sentS S S.trips.length)).map Snt.r := ⟨_, rfl⟩
          have hmm : ((insAll (sentS S S.trips.length)).map fun s => s.r.cs) = LR.map Rpt.cs := by rw [hLR, List.map_map]; rfl
          have hlr : LR.length ≤ 1000000 := by rw [hLR, List.length_map, (insAll_perm _).length_eq]; exact HSL.out
          have HMM := Lib.hid hmm
          have HLR := Lib.hid hlr
          clear hmm hlr hLR
          go_wp2_with fail
          refine (sameReports_any LR _ _ w9 (by have h := HR9.out.sl; rw [HMM.out] at h; exact h) (by have h := HOS.out.sl; rw [HMM.out] at h; exact h) HLR.out).mono ?_
          rintro e w10 ⟨rfl, hb10⟩
          have HM10 := Lib.hid (HM9.out.keep hb10)
          have HO10 := Lib.hid (HO9.out.keep hb10)
          have B710 := Lib.hid (B79.out.trans (hb10.mono B79.out.size))
          clear hb10
          go_wp2_with fail
          refine (sameExchanges_any (excS S S.syncs.length) _ _ w10 HM10.out.sl HO10.out.sl (by rw [excS_len S _ (Nat.le_refl _)]; have := HSM.out.syncs; omega)).mono ?_
          rintro e w11 ⟨rfl, hb11⟩
          have B11 := Lib.hid (B710.out.trans (hb11.mono B710.out.size))
          clear hb11
          go_wp2_with fail
          go_ret
          exact ⟨rfl, B7.out.trans (B11.out.mono B7.out.size)⟩
end Go.Proofs.YthkhgfdjdpfoiaaGreat
