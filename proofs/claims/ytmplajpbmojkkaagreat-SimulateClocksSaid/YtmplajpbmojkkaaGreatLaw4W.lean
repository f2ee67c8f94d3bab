/-
  The law of clocks, walked.
-/
import Derived.Test.YtmplajpbmojkkaaGreatKnwA
import Derived.Test.YtmplajpbmojkkaaGreatRgtA
import Derived.Test.YtmplajpbmojkkaaGreatCheckM
import Derived.Test.YtmplajpbmojkkaaGreatLaw4P
set_option linter.unusedSimpArgs false
set_option linter.unusedVariables false
namespace Go.Proofs.YtmplajpbmojkkaaGreat
open Go Go.RowKit Go.Vi
/-- What Offset says of a clock. -/
theorem off_law {S : Scn} (h : ClocksOK S) (hn : S.syncs.length ≤ 50) {c : Clk} (hc : c ∈ S.clocks) (v : Value) (w : World) (hv : Sl w.heap.size w 5 v ((excS S S.syncs.length).map Exc.cs)) :
    Calls Tryz.prog 8 #[v, .int .i64 c.dev] w fun e w' => (∃ lo hi : Int, e = .returned (.tuple #[.agg #[.int .i64 lo, .int .i64 hi], .int .i64 0]) ∧ lo ≤ c.off ∧ c.off ≤ hi ∧ ((∀ y ∈ S.syncs, y.so = y.sb) → hi - c.off = c.off - lo) ∧ -4398046511104 ≤ lo ∧ hi ≤ 4398046511104) ∧ Below w.heap.size w w' := by
  rcases clk_cases h hn hc with hd | ⟨h0, hno⟩
  · refine (offset_q hd v w hv).mono ?_
    rintro e w' ⟨⟨ju, jd, h1, h2, rfl⟩, hb⟩
    obtain ⟨g1, g2, g3, g4, g5⟩ := clk_bounds h hc h1 h2
    exact ⟨⟨_, _, rfl, g1, g2, g3, by omega, g4⟩, hb⟩
  · have hp := clk_pos h hc
    refine (offset0_q _ c.dev v w hv (exc_ok h) (by rw [excS_len S _ (Nat.le_refl _)]; omega) ⟨hp.1, hp.2.1⟩ hno).mono ?_
    rintro e w' ⟨rfl, hb⟩
    exact ⟨⟨0, 0, rfl, by omega, by omega, fun _ => by omega, by decide, by decide⟩, hb⟩
attribute [local go_sem ↓] lo_lt lo_ne lo_ne'
attribute [local go_sem] junk_cell junk_frozen junk_setCell junk_drew drew_junk
set_option maxRecDepth 100000 in
set_option maxHeartbeats 20000000 in
theorem law4_of (x : Sto) (vp vq vd va : Value) (w : World) (hX : StoAt w.heap.size w vp vq vd va x)
    (hR : x.short = true → ∀ W : World, StoAt W.heap.size W vp vq vd va x → Calls Tryz.prog 6 #[x.v vp vq vd va] W fun e w' => RightOut x W.heap.size e w' ∧ Below W.heap.size W w') :
    Calls Tryz.prog 3 #[x.v vp vq vd va] w fun e w' => e = .returned (.bool true) ∧ Below w.heap.size w w' := by
  obtain ⟨ad, nd, cd, rfl, _, _, _⟩ := hX.dr.open
  obtain ⟨aa, na, ca, rfl, _, _, _⟩ := hX.wa.open
  obtain ⟨ap, np, cp, rfl, _, _, _⟩ := hX.sp.open
  obtain ⟨aq, nq, cq, rfl, _, _, _⟩ := hX.ln.open
  have HX := Lib.hid hX
  have HR := Lib.hid hR
  clear hX hR
  have P0 := Lib.hid (obj_last w (.cells #[.slice ap np cp, .slice aq nq cq, .slice ad nd cd, .slice aa na ca, .int .u8 x.gap, .bool x.un] 29))
  go_enter Tryz.func3, Tryz.ntmps3
  go_wp2_with fail
  refine (known_any _).mono ?_
  rintro e w2 ⟨rfl, hb2⟩
  have P2 := Lib.hid (keepObj hb2 P0.out)
  have B2 := Lib.hid (from_ (w := w) hb2 (by (repeat (first | with_reducible exact Below.refl _ _ | with_reducible assumption | ((with_reducible refine Below.setCell ?_ ?_ _); rotate_left; focus (first | exact Nat.le_refl _ | omega | exact Below.size (by assumption) | (simp; done) | (simp; omega))) | ((with_reducible refine Below.alloc ?_ ?_ _); rotate_left; focus (first | exact Nat.le_refl _ | omega | exact Below.size (by assumption) | (simp; done) | (simp; omega))) | (with_reducible refine Below.drew ?_) | (with_reducible refine drewN_ ?_ _)))))
  have HX2 := Lib.hid (HX.out.later B2.out)
  have p0 := obj_cell P2.out 0
  have p1 := obj_cell P2.out 1
  have p2 := obj_cell P2.out 2
  have p3 := obj_cell P2.out 3
  have p4 := obj_cell P2.out 4
  have p5 := obj_cell P2.out 5
  simp at p0 p1 p2 p3 p4 p5
  clear hb2
  go_wp2_with fail
  refine (short_any x _ _ _ _ _ HX2.out).mono ?_
  rintro e w3 ⟨rfl, hb3⟩
  have P3 := Lib.hid (keepObj hb3 P2.out)
  have B3 := Lib.hid (B2.out.trans (hb3.mono B2.out.size))
  have HX3 := Lib.hid (HX2.out.later hb3)
  clear hb3 p0 p1 p2 p3 p4 p5
  cases hsh : x.short with
  | false =>
    clear hsh
    go_wp2_with fail
    refine (known_any _).mono ?_
    rintro e w4 ⟨rfl, hb4⟩
    have B4 := Lib.hid (B3.out.trans (hb4.mono B3.out.size))
    clear hb4
    go_wp2_with fail
    go_ret
    exact ⟨rfl, B4.out⟩
  | true =>
    have HRS := Lib.hid (HR.out hsh)
    clear hsh
    have p0 := obj_cell P3.out 0
    have p1 := obj_cell P3.out 1
    have p2 := obj_cell P3.out 2
    have p3 := obj_cell P3.out 3
    have p4 := obj_cell P3.out 4
    have p5 := obj_cell P3.out 5
    simp at p0 p1 p2 p3 p4 p5
    go_wp2_with fail
    refine (HRS.out _ HX3.out).mono ?_
    rintro e w4 ⟨hO, hb4⟩
    have P4 := Lib.hid (keepObj hb4 P3.out)
    have B4 := Lib.hid (B3.out.trans (hb4.mono B3.out.size))
    obtain ⟨v1, v2, v3, v4, v5, S, ok, rfl, hS, hSm, hok, _⟩ := hO
    obtain ⟨a1, a2, a3, a4, a5, n1, n2, n3, n4, n5, c1, c2, c3, c4, c5, rfl, rfl, rfl, rfl, rfl⟩ := hS.vals
    have HS := Lib.hid hS
    have HOK := Lib.hid hok
    have HSM := Lib.hid hSm
    clear hb4 hS hok hSm p0 p1 p2 p3 p4 p5
    cases ok with
    | false =>
      go_wp2_with fail
      go_ret
      exact ⟨rfl, by have h := B4.out; (repeat (first | with_reducible exact Below.refl _ _ | with_reducible assumption | ((with_reducible refine Below.setCell ?_ ?_ _); rotate_left; focus (first | exact Nat.le_refl _ | omega | exact Below.size (by assumption) | (simp; done) | (simp; omega))) | ((with_reducible refine Below.alloc ?_ ?_ _); rotate_left; focus (first | exact Nat.le_refl _ | omega | exact Below.size (by assumption) | (simp; done) | (simp; omega))) | (with_reducible refine Below.drew ?_) | (with_reducible refine drewN_ ?_ _)))⟩
    | true =>
      obtain ⟨hFit, hWay⟩ := HOK.out rfl
      have HF := Lib.hid hFit
      have HW := Lib.hid hWay
      have HK := Lib.hid (netOK_of hFit.net)
      have hn5 : S.syncs.length = n5 := by
        have := HS.out.syncs.len
        rwa [List.length_map] at this
      have HN5 := Lib.hid hn5
      have hnt := HSM.out.syncs
      rw [hn5] at hnt
      clear hFit hWay hn5
      go_wp2_with fail
      obtain ⟨W5, hW5⟩ : ∃ W, W = w4.alloc (.cells #[.slice a1 n1 c1, .slice a2 n2 c2, .int .i64 S.gap, .slice a3 n3 c3, .slice a4 n4 c4, .slice a5 n5 c5] 40) := ⟨_, rfl⟩
      have PS := Lib.hid (obj_last w4 (.cells #[.slice a1 n1 c1, .slice a2 n2 c2, .int .i64 S.gap, .slice a3 n3 c3, .slice a4 n4 c4, .slice a5 n5 c5] 40))
      have BS := Lib.hid ((Below.refl w4.heap.size w4).alloc (Nat.le_refl _) (.cells #[.slice a1 n1 c1, .slice a2 n2 c2, .int .i64 S.gap, .slice a3 n3 c3, .slice a4 n4 c4, .slice a5 n5 c5] 40))
      obtain ⟨bs, hbs⟩ : ∃ z, w4.heap.size = z := ⟨_, rfl⟩
      rw [hbs] at PS ⊢
      rw [← hW5] at PS BS ⊢
      have HS5 := Lib.hid (HS.out.later BS.out)
      have B5 := Lib.hid (B4.out.trans (BS.out.mono B4.out.size))
      have P5 := Lib.hid (keepObj BS.out P4.out)
      clear hW5 hbs HS BS
      have s0 := obj_cell PS.out 0
      have s1 := obj_cell PS.out 1
      have s2 := obj_cell PS.out 2
      have s3 := obj_cell PS.out 3
      have s4 := obj_cell PS.out 4
      have s5 := obj_cell PS.out 5
      simp at s0 s1 s2 s3 s4 s5
      clear s0 s1 s2 s3 s4 s5
      refine (exchangesW_any S _ _ _ _ _ W5 HS5.out HF.out HW.out).mono ?_
      rintro e w7 ⟨⟨vm, rfl, hOM⟩, hb7⟩
      have PS7 := Lib.hid (keepObj hb7 PS.out)
      have P7 := Lib.hid (keepObj hb7 P5.out)
      have HS7 := Lib.hid (HS5.out.later hb7)
      have B7 := Lib.hid (B5.out.trans (hb7.mono B5.out.size))
      obtain ⟨am, nm, cm, rfl⟩ := hOM.val
      have HOM := Lib.hid hOM.sl
      have hn4 : S.clocks.length = n4 := by
        have := HS7.out.clocks.len
        rwa [List.length_map] at this
      have HN4 := Lib.hid hn4
      have hn42 : n4 ≤ 2 := by have := HSM.out.clocks; omega
      have HOF : Hid (∀ c ∈ S.clocks, ∀ w', Below w7.heap.size w7 w' → Calls Tryz.prog 8 #[.slice am nm cm, .int .i64 c.dev] w' fun e w2 => (∃ lo hi : Int, e = .returned (.tuple #[.agg #[.int .i64 lo, .int .i64 hi], .int .i64 0]) ∧ lo ≤ c.off ∧ c.off ≤ hi ∧ ((∀ y ∈ S.syncs, y.so = y.sb) → hi - c.off = c.off - lo) ∧ -4398046511104 ≤ lo ∧ hi ≤ 4398046511104) ∧ Below w'.heap.size w' w2) := Lib.hid (fun c hc w' hb => off_law HF.out.clocks (by have := HSM.out.syncs; omega) hc _ w' (HOM.out.later hb))
      have HEV : Hid (x.un = false → ∀ y ∈ S.syncs, y.so = y.sb) := Lib.hid HSM.out.even
      have HCP : Hid (∀ c ∈ S.clocks, -1048576 ≤ c.off ∧ c.off ≤ 1048576) := Lib.hid (fun c hc => (clk_pos HF.out.clocks hc).2.2)
      clear hb7 hOM hn4 HOM PS P5 HS5 B5
      go_wp2_with fail
      go_loopw [7] (fun s7 wx => ∃ (k : Nat), s7 = .int .i64 k ∧ k ≤ n4 ∧ Hid (Below w7.heap.size w7 wx)) (fun s7 _ => n4 - (intOf s7).toNat)
      case atStart => exact ⟨0, rfl, Nat.zero_le _, Lib.hid (Below.refl _ _)⟩
      case round =>
        obtain ⟨k, rfl, hk, HB⟩ := hrel
        have PSR := Lib.hid (keepObj HB.out PS7.out)
        have PR := Lib.hid (keepObj HB.out P7.out)
        have l4 := obj_cell PSR.out 4
        have p5 := obj_cell PR.out 5
        simp at l4 p5
        haveI lps : Lo bs wr := ⟨obj_lt PSR.out⟩
        haveI lp : Lo w.heap.size wr := ⟨obj_lt PR.out⟩
        haveI bwr : Bw w wr := ⟨B7.out.trans (HB.out.mono B7.out.size)⟩
        by_cases hlt : k < n4
        · have hkl : k < S.clocks.length := by rw [HN4.out]; exact hlt
          obtain ⟨b, off, rfl, hzb, hcs⟩ := HS7.out.clocks.cells k hkl
          have t0 : w7.cell? ⟨b, off + k * 2, none⟩ = _ := hcs k hkl 0 _ rfl
          have t1 : w7.cell? ⟨b, off + k * 2 + 1, none⟩ = _ := hcs k hkl 1 _ rfl
          rw [← HB.out.cell (p := ⟨b, _, none⟩) hzb] at t0 t1
          haveI lb : Lo b wr := ⟨Nat.lt_of_lt_of_le hzb HB.out.size⟩
          have hmem : S.clocks[k]! ∈ S.clocks := by rw [getElem!_pos S.clocks k hkl]; exact List.getElem_mem hkl
          have HOFc := Lib.hid (HOF.out _ hmem)
          obtain ⟨o1, o2⟩ := HCP.out _ hmem
          clear hmem hcs
          generalize S.clocks[k]! = c at *
          go_wp2_with fail
          refine (HOFc.out _ ?hb).mono ?_
          case hb => exact HB.out.trans ((Bw.b (w := wr)).mono HB.out.size)
          rintro e w8 ⟨⟨lo, hi, rfl, h1, h2, h3, h4, h5⟩, hb8⟩
          obtain ⟨X8, rfl⟩ := below_some hb8
          have H3 := Lib.hid h3
          clear hb8 h3
          have hw1 : IntKind.i64.wrap (hi - c.off) = hi - c.off := IntWalk.i64_in _ (by omega)
          have hw2 : IntKind.i64.wrap (c.off - lo) = c.off - lo := IntWalk.i64_in _ (by omega)
          have hn1 : ¬ c.off < lo := by omega
          have hn2 : ¬ hi < c.off := by omega
          rcases (show x.un = true ∨ x.un = false by cases x.un <;> simp) with hun | hun
          · rw [hun] at p5
            clear hun
            go_wp2_with fail
            go_roundw
            case rel => exact ⟨k + 1, by go_num, by omega, Lib.hid (HB.out.trans ((Bw.b (w := wr)).mono HB.out.size))⟩
            case measure => simp [intOf]; omega
          · have hev := H3.out (HEV.out hun)
            rw [hun] at p5
            have hne : ((hi - c.off) != (c.off - lo)) = false := by simpa using hev
            clear hun
            go_wp2_with fail
            go_roundw
            case rel => exact ⟨k + 1, by go_num, by omega, Lib.hid (HB.out.trans ((Bw.b (w := wr)).mono HB.out.size))⟩
            case measure => simp [intOf]; omega
        · obtain rfl : k = n4 := by omega
          go_wp2_with fail
          go_ret
          exact ⟨rfl, Bw.b⟩
end Go.Proofs.YtmplajpbmojkkaaGreat
