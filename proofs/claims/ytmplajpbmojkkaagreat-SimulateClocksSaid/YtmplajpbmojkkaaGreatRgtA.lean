/-
 What is known of a story's scenario, and whether it is right.
 Whether a story's scenario is right.
-/
import Derived.Test.YtmplajpbmojkkaaGreatScnI
import Derived.Test.YtmplajpbmojkkaaGreatTimA
import Derived.Test.YtmplajpbmojkkaaGreatCheckM
set_option linter.unusedSimpArgs false
set_option linter.unusedVariables false
namespace Go.Proofs.YtmplajpbmojkkaaGreat
open Go Go.RowKit Go.Vi
/-- What a scenario of a short story is. -/
structure Small (x : Sto) (S : Scn) : Prop where
 net : netErr S.net = 0
 one : 1 ≤ S.net.roads.length
 few : S.net.roads.length ≤ 13
 trips : S.trips.length ≤ 3
 clocks : S.clocks.length ≤ 2
 syncs : S.syncs.length ≤ 6
 vis : ∀ i, i < S.trips.length → S.trips[i]!.vis.length ≤ 5
 even : x.un = false → ∀ y ∈ S.syncs, y.so = y.sb
def RightOut (x : Sto) (B : Nat) (e : Ending) (w' : World) : Prop := ∃ (v1 v2 v3 v4 v5 : Value) (S : Scn) (b : Bool), e = .returned (.tuple #[S.v v1 v2 v3 v4 v5, .bool b]) ∧ ScnAt w'.heap.size w' v1 v2 v3 v4 v5 S ∧ Small x S ∧ (b = true → Fit S ∧ wayErr S = 0) ∧ B ≤ w'.heap.size
theorem ScnAt.vals {B : Nat} {w : World} {v1 v2 v3 v4 v5 : Value} {S : Scn} (h : ScnAt B w v1 v2 v3 v4 v5 S) : ∃ (a1 a2 a3 a4 a5 : Option Addr) (n1 n2 n3 n4 n5 c1 c2 c3 c4 c5 : Nat), v1 = .slice a1 n1 c1 ∧ v2 = .slice a2 n2 c2 ∧ v3 = .slice a3 n3 c3 ∧ v4 = .slice a4 n4 c4 ∧ v5 = .slice a5 n5 c5 := by
 obtain ⟨a1, n1, c1, e1, _⟩ := h.net.1.open
 obtain ⟨a2, n2, c2, e2, _⟩ := h.net.2.open
 obtain ⟨a3, n3, c3, e3, _⟩ := h.trips.open
 obtain ⟨a4, n4, c4, e4, _⟩ := h.clocks.open
 obtain ⟨a5, n5, c5, e5, _⟩ := h.syncs.open
 exact ⟨a1, a2, a3, a4, a5, n1, n2, n3, n4, n5, c1, c2, c3, c4, c5, e1, e2, e3, e4, e5⟩
end Go.Proofs.YtmplajpbmojkkaaGreat
namespace Go.Proofs.YtmplajpbmojkkaaGreat
open Go Go.RowKit Go.Vi
theorem obj_off6 {w : World} {b b' : Nat} {o : Obj} (h : w.heap[b]? = some o) (hne : b ≠ b') (v0 v1 v2 v3 v4 v5 : Value) : ((((((w.setCell ⟨b', 0, none⟩ v0).setCell ⟨b', 1, none⟩ v1).setCell ⟨b', 2, none⟩ v2).setCell ⟨b', 3, none⟩ v3).setCell ⟨b', 4, none⟩ v4).setCell ⟨b', 5, none⟩ v5).heap[b]? = some o :=
 obj_setOther (obj_setOther (obj_setOther (obj_setOther (obj_setOther (obj_setOther h hne) hne) hne) hne) hne) hne
def ScnSays : Prop := ∀ (x : Sto) (vp vq vd va : Value) (w : World), StoAt w.heap.size w vp vq vd va x → x.fits → x.short = true → Calls Tryz.prog 13 #[x.v vp vq vd va] w fun e w' => (∃ (v1 v2 v3 v4 v5 : Value) (V : List Value) (S : Scn), e = .returned (S.v v1 v2 v3 v4 v5) ∧ SR w v1 v2 v3 v4 v5 S.net.nodes S.net.roads V S.trips S.clocks S.syncs w' ∧ Small x S) ∧ Below w.heap.size w w'
theorem SR.scnS {w0 wr : World} {v1 v2 v3 v4 v5 : Value} {V : List Value} {S : Scn} (h : SR w0 v1 v2 v3 v4 v5 S.net.nodes S.net.roads V S.trips S.clocks S.syncs wr) : ScnAt wr.heap.size wr v1 v2 v3 v4 v5 S := h.scn S.gap
set_option maxRecDepth 100000 in
set_option maxHeartbeats 4000000 in
theorem right_of (hSc : ScnSays) (x : Sto) (vp vq vd va : Value) (w : World) (hX : StoAt w.heap.size w vp vq vd va x) (hF : x.fits) (hsh : x.short = true) :
  Calls Tryz.prog 6 #[x.v vp vq vd va] w fun e w' => RightOut x w.heap.size e w' ∧ Below w.heap.size w w' := by
 have HX := Lib.hid hX
 have HF := Lib.hid hF
 have HSH := Lib.hid hsh
 clear hX hF hsh
 obtain ⟨ad, nd, cd, rfl, _, _, _⟩ := HX.out.dr.open
 obtain ⟨aa, na, ca, rfl, _, _, _⟩ := HX.out.wa.open
 obtain ⟨ap, np, cp, rfl, _, _, _⟩ := HX.out.sp.open
 obtain ⟨aq, nq, cq, rfl, _, _, _⟩ := HX.out.ln.open
 have P0 := Lib.hid (obj_old (o' := (.cells #[.slice none 0 0, .slice none 0 0, .int .i64 0, .slice none 0 0, .slice none 0 0, .slice none 0 0] 40)) (obj_last w (.cells #[.slice ap np cp, .slice aq nq cq, .slice ad nd cd, .slice aa na ca, .int .u8 x.gap, .bool x.un] 29)))
 have Z0 := Lib.hid (obj_last2 w (.cells #[.slice ap np cp, .slice aq nq cq, .slice ad nd cd, .slice aa na ca, .int .u8 x.gap, .bool x.un] 29) ((.cells #[.slice none 0 0, .slice none 0 0, .int .i64 0, .slice none 0 0, .slice none 0 0, .slice none 0 0] 40)))
 have B0 := Lib.hid (((Below.refl w.heap.size w).alloc (Nat.le_refl _) (.cells #[.slice ap np cp, .slice aq nq cq, .slice ad nd cd, .slice aa na ca, .int .u8 x.gap, .bool x.un] 29)).alloc (by simp) ((.cells #[.slice none 0 0, .slice none 0 0, .int .i64 0, .slice none 0 0, .slice none 0 0, .slice none 0 0] 40)))
 go_enter Tryz.func6, Tryz.ntmps6
 go_wp2_with fail
 obtain ⟨W0, hW0⟩ : ∃ W0, W0 = (w.alloc (.cells #[.slice ap np cp, .slice aq nq cq, .slice ad nd cd, .slice aa na ca, .int .u8 x.gap, .bool x.un] 29)).alloc (.cells #[.slice none 0 0, .slice none 0 0, .int .i64 0, .slice none 0 0, .slice none 0 0, .slice none 0 0] 40) := ⟨_, rfl⟩
 have hz0 : w.heap.size + 1 < W0.heap.size := by rw [hW0]; simp
 rw [← hW0] at P0 Z0 B0 ⊢
 clear hW0
 have b0 := B0.out
 refine (hSc x _ _ _ _ _ (HX.out.later b0) HF.out HSH.out).mono ?_
 rintro e w2 ⟨hO, hb2⟩
 have HP2 := Lib.hid (keepObj hb2 P0.out)
 have HZ2 := Lib.hid (keepObj hb2 Z0.out)
 have HB2 := Lib.hid (b0.trans (hb2.mono b0.size))
 obtain ⟨v1, v2, v3, v4, v5, V, S, rfl, hSR, hSm⟩ := hO
 have hS := hSR.scnS
 have HSM := Lib.hid hSm
 obtain ⟨a1, a2, a3, a4, a5, n1, n2, n3, n4, n5, c1, c2, c3, c4, c5, rfl, rfl, rfl, rfl, rfl⟩ := hS.vals
 have HS := Lib.hid hS
 have HSR := Lib.hid hSR
 clear hb2 hS hSR hSm P0 Z0 B0 b0
 go_wp2_with fail
 obtain ⟨W3, hW3⟩ : ∃ W, W = w2.alloc (.cells #[.slice a1 n1 c1, .slice a2 n2 c2, .int .i64 S.gap, .slice a3 n3 c3, .slice a4 n4 c4, .slice a5 n5 c5] 40) := ⟨_, rfl⟩
 have PS := Lib.hid (obj_last w2 (.cells #[.slice a1 n1 c1, .slice a2 n2 c2, .int .i64 S.gap, .slice a3 n3 c3, .slice a4 n4 c4, .slice a5 n5 c5] 40))
 have BS := Lib.hid ((Below.refl w2.heap.size w2).alloc (Nat.le_refl _) (.cells #[.slice a1 n1 c1, .slice a2 n2 c2, .int .i64 S.gap, .slice a3 n3 c3, .slice a4 n4 c4, .slice a5 n5 c5] 40))
 obtain ⟨b4, hb4⟩ : ∃ z, w2.heap.size = z := ⟨_, rfl⟩
 have hz2 := HB2.out.size
 have hb4w : w.heap.size ≤ b4 := by omega
 have h12 : w.heap.size + 1 < b4 := by have := obj_lt HZ2.out; omega
 rw [← hW3] at PS BS ⊢
 rw [hb4] at PS ⊢
 have HS3 := Lib.hid (HS.out.later BS.out)
 have HSR3 := Lib.hid (HSR.out.keep BS.out)
 have HZ3 := Lib.hid (keepObj BS.out HZ2.out)
 have HB3 := Lib.hid (from_ (w := w) BS.out HB2.out)
 clear hW3 hb4 HS HZ2 BS HP2
 have s0 := obj_cell PS.out 0
 have s1 := obj_cell PS.out 1
 have s2 := obj_cell PS.out 2
 have s3 := obj_cell PS.out 3
 have s4 := obj_cell PS.out 4
 have s5 := obj_cell PS.out 5
 simp at s0 s1 s2 s3 s4 s5
 have zb4 := obj_lt PS.out
 go_cut [3] (fun s3 wx => ∃ b : Bool, s3 = .bool b ∧ Hid (wx.heap[w.heap.size + 1]? = some (.cells #[.slice a1 n1 c1, .slice a2 n2 c2, .int .i64 S.gap, .slice a3 n3 c3, .slice a4 n4 c4, .slice a5 n5 c5] 40)) ∧ (b = true → Fit S ∧ wayErr S = 0) ∧ Hid (SR W0 (.slice a1 n1 c1) (.slice a2 n2 c2) (.slice a3 n3 c3) (.slice a4 n4 c4) (.slice a5 n5 c5) S.net.nodes S.net.roads V S.trips S.clocks S.syncs wx) ∧ Hid (Below w.heap.size w wx))
 case first =>
  go_region_held3 (fun w' => w'.cell? ⟨b4, 0, none⟩ = some (.slice a1 n1 c1) ∧ w'.cell? ⟨b4, 1, none⟩ = some (.slice a2 n2 c2) ∧ w'.cell? ⟨b4, 2, none⟩ = some (.int .i64 S.gap) ∧ w'.cell? ⟨b4, 3, none⟩ = some (.slice a3 n3 c3) ∧ w'.cell? ⟨b4, 4, none⟩ = some (.slice a4 n4 c4) ∧ w'.cell? ⟨b4, 5, none⟩ = some (.slice a5 n5 c5))
   ((go_split_ands; refine ⟨?_, ?_, ?_, ?_, ?_, ?_⟩ <;> first | with_reducible assumption | with_reducible exact G0.out | with_reducible exact G1.out | with_reducible exact G2.out | with_reducible exact G3.out | with_reducible exact G4.out | with_reducible exact G5.out | exact ((show Below W3.heap.size W3 _ from (by (repeat (first | with_reducible exact Below.refl _ _ | with_reducible assumption | ((with_reducible first | refine Below.setCell ?_ ?_ _ | refine Below.alloc ?_ ?_ _); rotate_left; focus (first | exact Nat.le_refl _ | omega | exact Below.size (by assumption) | (simp <;> omega))) | with_reducible refine Below.drew ?_ | with_reducible refine drewN_ ?_ _)))).cell (p := ⟨_, _, none⟩) (by first | with_reducible assumption | omega)).trans (by with_reducible assumption)))
   ((go_at_call 14; refine (modelCheck_any S _ _ _ _ _ _ (HS3.out.later (by (repeat (first | with_reducible exact Below.refl _ _ | with_reducible assumption | ((with_reducible first | refine Below.setCell ?_ ?_ _ | refine Below.alloc ?_ ?_ _); rotate_left; focus (first | exact Nat.le_refl _ | omega | exact Below.size (by assumption) | (simp <;> omega))) | with_reducible refine Below.drew ?_ | with_reducible refine drewN_ ?_ _)))) (by have := HSM.out.few; omega) (by have := HSM.out.trips; omega) (by have := HSM.out.clocks; omega) (by have := HSM.out.syncs; omega) (fun i hi => by have := HSM.out.vis i hi; omega)).mono ?_; rintro e w4 ⟨⟨c, rfl, hc⟩, hb4⟩; have B4 := from_ (w := W3) hb4 (by (repeat (first | with_reducible exact Below.refl _ _ | with_reducible assumption | ((with_reducible first | refine Below.setCell ?_ ?_ _ | refine Below.alloc ?_ ?_ _); rotate_left; focus (first | exact Nat.le_refl _ | omega | exact Below.size (by assumption) | (simp <;> omega))) | with_reducible refine Below.drew ?_ | with_reducible refine drewN_ ?_ _))); have HC := Lib.hid hc; have hb4' := keepObj B4 PS.out; have hne4 : b4 ≠ w.heap.size + 1 := (by omega); have hb6 := obj_off6 hb4' hne4 (.slice a1 n1 c1) (.slice a2 n2 c2) (.int .i64 S.gap) (.slice a3 n3 c3) (.slice a4 n4 c4) (.slice a5 n5 c5); have u0 := obj_cell hb4' 0; have u1 := obj_cell hb4' 1; have u2 := obj_cell hb4' 2; have u3 := obj_cell hb4' 3; have u4 := obj_cell hb4' 4; have u5 := obj_cell hb4' 5; have g0 : ((((((w4.setCell ⟨w.heap.size + 1, 0, none⟩ (.slice a1 n1 c1)).setCell ⟨w.heap.size + 1, 1, none⟩ (.slice a2 n2 c2)).setCell ⟨w.heap.size + 1, 2, none⟩ (.int .i64 S.gap)).setCell ⟨w.heap.size + 1, 3, none⟩ (.slice a3 n3 c3)).setCell ⟨w.heap.size + 1, 4, none⟩ (.slice a4 n4 c4)).setCell ⟨w.heap.size + 1, 5, none⟩ (.slice a5 n5 c5)).cell? ⟨b4, 0, none⟩ = some (.slice a1 n1 c1) := obj_cell hb6 0; have g1 : ((((((w4.setCell ⟨w.heap.size + 1, 0, none⟩ (.slice a1 n1 c1)).setCell ⟨w.heap.size + 1, 1, none⟩ (.slice a2 n2 c2)).setCell ⟨w.heap.size + 1, 2, none⟩ (.int .i64 S.gap)).setCell ⟨w.heap.size + 1, 3, none⟩ (.slice a3 n3 c3)).setCell ⟨w.heap.size + 1, 4, none⟩ (.slice a4 n4 c4)).setCell ⟨w.heap.size + 1, 5, none⟩ (.slice a5 n5 c5)).cell? ⟨b4, 1, none⟩ = some (.slice a2 n2 c2) := obj_cell hb6 1; have g2 : ((((((w4.setCell ⟨w.heap.size + 1, 0, none⟩ (.slice a1 n1 c1)).setCell ⟨w.heap.size + 1, 1, none⟩ (.slice a2 n2 c2)).setCell ⟨w.heap.size + 1, 2, none⟩ (.int .i64 S.gap)).setCell ⟨w.heap.size + 1, 3, none⟩ (.slice a3 n3 c3)).setCell ⟨w.heap.size + 1, 4, none⟩ (.slice a4 n4 c4)).setCell ⟨w.heap.size + 1, 5, none⟩ (.slice a5 n5 c5)).cell? ⟨b4, 2, none⟩ = some (.int .i64 S.gap) := obj_cell hb6 2; have g3 : ((((((w4.setCell ⟨w.heap.size + 1, 0, none⟩ (.slice a1 n1 c1)).setCell ⟨w.heap.size + 1, 1, none⟩ (.slice a2 n2 c2)).setCell ⟨w.heap.size + 1, 2, none⟩ (.int .i64 S.gap)).setCell ⟨w.heap.size + 1, 3, none⟩ (.slice a3 n3 c3)).setCell ⟨w.heap.size + 1, 4, none⟩ (.slice a4 n4 c4)).setCell ⟨w.heap.size + 1, 5, none⟩ (.slice a5 n5 c5)).cell? ⟨b4, 3, none⟩ = some (.slice a3 n3 c3) := obj_cell hb6 3; have g4 : ((((((w4.setCell ⟨w.heap.size + 1, 0, none⟩ (.slice a1 n1 c1)).setCell ⟨w.heap.size + 1, 1, none⟩ (.slice a2 n2 c2)).setCell ⟨w.heap.size + 1, 2, none⟩ (.int .i64 S.gap)).setCell ⟨w.heap.size + 1, 3, none⟩ (.slice a3 n3 c3)).setCell ⟨w.heap.size + 1, 4, none⟩ (.slice a4 n4 c4)).setCell ⟨w.heap.size + 1, 5, none⟩ (.slice a5 n5 c5)).cell? ⟨b4, 4, none⟩ = some (.slice a4 n4 c4) := obj_cell hb6 4; have g5 : ((((((w4.setCell ⟨w.heap.size + 1, 0, none⟩ (.slice a1 n1 c1)).setCell ⟨w.heap.size + 1, 1, none⟩ (.slice a2 n2 c2)).setCell ⟨w.heap.size + 1, 2, none⟩ (.int .i64 S.gap)).setCell ⟨w.heap.size + 1, 3, none⟩ (.slice a3 n3 c3)).setCell ⟨w.heap.size + 1, 4, none⟩ (.slice a4 n4 c4)).setCell ⟨w.heap.size + 1, 5, none⟩ (.slice a5 n5 c5)).cell? ⟨b4, 5, none⟩ = some (.slice a5 n5 c5) := obj_cell hb6 5; simp at u0 u1 u2 u3 u4 u5; have G0 := Lib.hid g0; have G1 := Lib.hid g1; have G2 := Lib.hid g2; have G3 := Lib.hid g3; have G4 := Lib.hid g4; have G5 := Lib.hid g5; clear hb4' hb6 g0 g1 g2 g3 g4 g5; have ZZ := keepObj B4 HZ3.out; have z0 := obj_cell ZZ 0; have z1 := obj_cell ZZ 1; have z2 := obj_cell ZZ 2; have z3 := obj_cell ZZ 3; have z4 := obj_cell ZZ 4; have z5 := obj_cell ZZ 5; have y0 := obj_free ZZ 0; have y1 := obj_free ZZ 1; have y2 := obj_free ZZ 2; have y3 := obj_free ZZ 3; have y4 := obj_free ZZ 4; have y5 := obj_free ZZ 5; simp at z0 z1 z2 z3 z4 z5; have HZZ := Lib.hid ZZ; clear hb4 hc ZZ))
  all_goals
   go_wp2_with fail
   go_meet
   have hsr := HSR3.out.keep B4
   have hbw : Below w.heap.size w w4 := HB3.out.trans (B4.mono HB3.out.size)
   exact ⟨c == 0, rfl, obj_set6' HZZ.out _ _ _ _ _ _, (fun h => HC.out (by simpa using h)), ((((((hsr.set hz0 0 _).set hz0 1 _).set hz0 2 _).set hz0 3 _).set hz0 4 _).set hz0 5 _), by show Below _ _ _; (repeat (first | with_reducible exact Below.refl _ _ | with_reducible assumption | ((with_reducible first | refine Below.setCell ?_ ?_ _ | refine Below.alloc ?_ ?_ _); rotate_left; focus (first | exact Nat.le_refl _ | omega | exact Below.size (by assumption) | (simp <;> omega))) | with_reducible refine Below.drew ?_ | with_reducible refine drewN_ ?_ _))⟩
 case rest =>
  obtain ⟨b, rfl, hZc, hbc, hSRc, hBc⟩ := hcut
  have z0 := obj_cell hZc.out 0
  have z1 := obj_cell hZc.out 1
  have z2 := obj_cell hZc.out 2
  have z3 := obj_cell hZc.out 3
  have z4 := obj_cell hZc.out 4
  have z5 := obj_cell hZc.out 5
  simp at z0 z1 z2 z3 z4 z5
  go_wp2_with fail
  refine bodyPost_ret (v := .tuple #[S.v (.slice a1 n1 c1) (.slice a2 n2 c2) (.slice a3 n3 c3) (.slice a4 n4 c4) (.slice a5 n5 c5), .bool b]) (by simp [results, Tryz.results6, go_sem, z0, z1, z2, z3, z4, z5]) rfl ⟨⟨_, _, _, _, _, S, b, rfl, hSRc.out.scnS, HSM.out, hbc, hBc.out.size⟩, hBc.out⟩
end Go.Proofs.YtmplajpbmojkkaaGreat
