/-
  What is known of a story's scenario, and whether it is right.
  Whether a story's scenario is right.
  A story that comes in as the argument, opened.
-/
import Derived.Test.YthkhgfdjdpfoiaaScnI
import Derived.Test.YthkhgfdjdpfoiaaCheckW
import Derived.Test.YthkhgfdjdpfoiaaCheckM
import Derived.ProofKit
import Derived.OpenShut
import Derived.ChangeOld
import Derived.Deep.Slices
set_option linter.unusedSimpArgs false
set_option linter.unusedVariables false
namespace Go.Proofs.Ythkhgfdjdpfoiaa
open Go Go.RowKit Go.Vi
/-- What a scenario of a short story is. -/
structure Small (x : Sto) (S : Scn) : Prop where
  net : netErr S.net = 0
  one : 1 ≤ S.net.roads.length
  few : S.net.roads.length ≤ 13
  trips : S.trips.length ≤ 3
  clocks : S.clocks.length ≤ 2
  syncs : S.syncs.length ≤ 6
  vis : ∀ i, i < S.trips.length → S.trips[i]!.vis.length ≤ 5
  even : x.un = false → ∀ y ∈ S.syncs, y.so = y.sb
def RightOut (x : Sto) (B : Nat) (e : Ending) (w' : World) : Prop := ∃ (v1 v2 v3 v4 v5 : Value) (S : Scn) (b : Bool), e = .returned (.tuple #[S.v v1 v2 v3 v4 v5, .bool b]) ∧ ScnAt w'.heap.size w' v1 v2 v3 v4 v5 S ∧ Small x S ∧ (b = true → Fit S ∧ wayErr S = 0) ∧ B ≤ w'.heap.size
theorem ScnAt.vals {B : Nat} {w : World} {v1 v2 v3 v4 v5 : Value} {S : Scn} (h : ScnAt B w v1 v2 v3 v4 v5 S) : ∃ (a1 a2 a3 a4 a5 : Option Addr) (n1 n2 n3 n4 n5 c1 c2 c3 c4 c5 : Nat), v1 = .slice a1 n1 c1 ∧ v2 = .slice a2 n2 c2 ∧ v3 = .slice a3 n3 c3 ∧ v4 = .slice a4 n4 c4 ∧ v5 = .slice a5 n5 c5 := by
  obtain ⟨a1, n1, c1, e1, _⟩ := h.net.1.open
  obtain ⟨a2, n2, c2, e2, _⟩ := h.net.2.open
  obtain ⟨a3, n3, c3, e3, _⟩ := h.trips.open
  obtain ⟨a4, n4, c4, e4, _⟩ := h.clocks.open
  obtain ⟨a5, n5, c5, e5, _⟩ := h.syncs.open
  exact ⟨a1, a2, a3, a4, a5, n1, n2, n3, n4, n5, c1, c2, c3, c4, c5, e1, e2, e3, e4, e5⟩
end Go.Proofs.Ythkhgfdjdpfoiaa
namespace Go.Proofs.Ythkhgfdjdpfoiaa
open Go Go.RowKit Go.Vi
theorem obj_off6 {w : World} {b b' : Nat} {o : Obj} (h : w.heap[b]? = some o) (hne : b ≠ b') (v0 v1 v2 v3 v4 v5 : Value) : ((((((w.setCell ⟨b', 0, none⟩ v0).setCell ⟨b', 1, none⟩ v1).setCell ⟨b', 2, none⟩ v2).setCell ⟨b', 3, none⟩ v3).setCell ⟨b', 4, none⟩ v4).setCell ⟨b', 5, none⟩ v5).heap[b]? = some o :=
  obj_setOther (obj_setOther (obj_setOther (obj_setOther (obj_setOther (obj_setOther h hne) hne) hne) hne) hne) hne
def ScnSays : Prop := ∀ (x : Sto) (vp vq vd va : Value) (w : World), StoAt w.heap.size w vp vq vd va x → x.fits → x.short = true → Calls Try.prog 12 #[x.v vp vq vd va] w fun e w' => (∃ (v1 v2 v3 v4 v5 : Value) (V : List Value) (S : Scn), e = .returned (S.v v1 v2 v3 v4 v5) ∧ SR w v1 v2 v3 v4 v5 S.net.nodes S.net.roads V S.trips S.clocks S.syncs w' ∧ Small x S) ∧ Below w.heap.size w w'
theorem SR.scnS {w0 wr : World} {v1 v2 v3 v4 v5 : Value} {V : List Value} {S : Scn} (h : SR w0 v1 v2 v3 v4 v5 S.net.nodes S.net.roads V S.trips S.clocks S.syncs wr) : ScnAt wr.heap.size wr v1 v2 v3 v4 v5 S := h.scn S.gap
set_option maxRecDepth 100000 in
set_option maxHeartbeats 4000000 in
theorem right_of (hSc : ScnSays) (x : Sto) (vp vq vd va : Value) (w : World) (hX : StoAt w.heap.size w vp vq vd va x) (hF : x.fits) (hsh : x.short = true) :
    Calls Try.prog 6 #[x.v vp vq vd va] w fun e w' => RightOut x w.heap.size e w' ∧ Below w.heap.size w w' := by
  have HX := Lib.hid hX
  have HF := Lib.hid hF
  have HSH := Lib.hid hsh
  clear hX hF hsh
  obtain ⟨ad, nd, cd, rfl, _, _, _⟩ := HX.out.dr.open
  obtain ⟨aa, na, ca, rfl, _, _, _⟩ := HX.out.wa.open
  obtain ⟨ap, np, cp, rfl, _, _, _⟩ := HX.out.sp.open
  obtain ⟨aq, nq, cq, rfl, _, _, _⟩ := HX.out.ln.open
  have P0 := Lib.hid (obj_old (o' := (.cells #[.slice none 0 0, .slice none 0 0, .int .i64 0, .slice none 0 0, .slice none 0 0, .slice none 0 0] 40)) (obj_last w (.cells #[.slice ap np cp, .slice aq nq cq, .slice ad nd cd, .slice aa na ca, .int .u8 x.gap, .bool x.un] 29)))
  have Z0 := Lib.hid (obj_last2 w (.cells #[.slice ap np cp, .slice aq nq cq, .slice ad nd cd, .slice aa na ca, .int .u8 x.gap, .bool x.un] 29) ((.cells #[.slice none 0 0, .slice none 0 0, .int .i64 0, .slice none 0 0, .slice none 0 0, .slice none 0 0] 40)))
  have B0 := Lib.hid (((Below.refl w.heap.size w).alloc (Nat.le_refl _) (.cells #[.slice ap np cp, .slice aq nq cq, .slice ad nd cd, .slice aa na ca, .int .u8 x.gap, .bool x.un] 29)).alloc (by simp) ((.cells #[.slice none 0 0, .slice none 0 0, .int .i64 0, .slice none 0 0, .slice none 0 0, .slice none 0 0] 40)))
  go_enter Try.func6, Try.ntmps6
  go_wp2_with fail
  obtain ⟨W0, hW0⟩ : ∃ W0, W0 = (w.alloc (.cells #[.slice ap np cp, .slice aq nq cq, .slice ad nd cd, .slice aa na ca, .int .u8 x.gap, .bool x.un] 29)).alloc (.cells #[.slice none 0 0, .slice none 0 0, .int .i64 0, .slice none 0 0, .slice none 0 0, .slice none 0 0] 40) := ⟨_, rfl⟩
  have hz0 : w.heap.size + 1 < W0.heap.size := by rw [hW0]; simp
  rw [← hW0] at P0 Z0 B0 ⊢
  clear hW0
  have b0 := B0.out
  refine (hSc x _ _ _ _ _ (HX.out.later b0) HF.out HSH.out).mono ?_
  rintro e w2 ⟨hO, hb2⟩
  have HP2 := Lib.hid (keepObj hb2 P0.out)
  have HZ2 := Lib.hid (keepObj hb2 Z0.out)
  have HB2 := Lib.hid (b0.trans (hb2.mono b0.size))
  obtain ⟨v1, v2, v3, v4, v5, V, S, rfl, hSR, hSm⟩ := hO
  have hS := hSR.scnS
  have HSM := Lib.hid hSm
  obtain ⟨a1, a2, a3, a4, a5, n1, n2, n3, n4, n5, c1, c2, c3, c4, c5, rfl, rfl, rfl, rfl, rfl⟩ := hS.vals
  have HS := Lib.hid hS
  have HSR := Lib.hid hSR
  clear hb2 hS hSR hSm P0 Z0 B0 b0
  go_wp2_with fail
  obtain ⟨W3, hW3⟩ : ∃ W, W = w2.alloc (.cells #[.slice a1 n1 c1, .slice a2 n2 c2, .int .i64 S.gap, .slice a3 n3 c3, .slice a4 n4 c4, .slice a5 n5 c5] 40) := ⟨_, rfl⟩
  have PS := Lib.hid (obj_last w2 (.cells #[.slice a1 n1 c1, .slice a2 n2 c2, .int .i64 S.gap, .slice a3 n3 c3, .slice a4 n4 c4, .slice a5 n5 c5] 40))
  have BS := Lib.hid ((Below.refl w2.heap.size w2).alloc (Nat.le_refl _) (.cells #[.slice a1 n1 c1, .slice a2 n2 c2, .int .i64 S.gap, .slice a3 n3 c3, .slice a4 n4 c4, .slice a5 n5 c5] 40))
  obtain ⟨b4, hb4⟩ : ∃ z, w2.heap.size = z := ⟨_, rfl⟩
  have hz2 := HB2.out.size
  have hb4w : w.heap.size ≤ b4 := by omega
  have h12 : w.heap.size + 1 < b4 := by have := obj_lt HZ2.out; omega
  rw [← hW3] at PS BS ⊢
  rw [hb4] at PS ⊢
  have HS3 := Lib.hid (HS.out.later BS.out)
  have HSR3 := Lib.hid (HSR.out.keep BS.out)
  have HZ3 := Lib.hid (keepObj BS.out HZ2.out)
  have HB3 := Lib.hid (from_ (w := w) BS.out HB2.out)
  clear hW3 hb4 HS HZ2 BS HP2
  have s0 := obj_cell PS.out 0
  have s1 := obj_cell PS.out 1
  have s2 := obj_cell PS.out 2
  have s3 := obj_cell PS.out 3
  have s4 := obj_cell PS.out 4
  have s5 := obj_cell PS.out 5
  simp at s0 s1 s2 s3 s4 s5
  have zb4 := obj_lt PS.out
  go_cut [3] (fun s3 wx => ∃ b : Bool, s3 = .bool b ∧ Hid (wx.heap[w.heap.size + 1]? = some (.cells #[.slice a1 n1 c1, .slice a2 n2 c2, .int .i64 S.gap, .slice a3 n3 c3, .slice a4 n4 c4, .slice a5 n5 c5] 40)) ∧ (b = true → Fit S ∧ wayErr S = 0) ∧ Hid (SR W0 (.slice a1 n1 c1) (.slice a2 n2 c2) (.slice a3 n3 c3) (.slice a4 n4 c4) (.slice a5 n5 c5) S.net.nodes S.net.roads V S.trips S.clocks S.syncs wx) ∧ Hid (Below w.heap.size w wx))
  case first =>
    go_region_held3 (fun w' => w'.cell? ⟨b4, 0, none⟩ = some (.slice a1 n1 c1) ∧ w'.cell? ⟨b4, 1, none⟩ = some (.slice a2 n2 c2) ∧ w'.cell? ⟨b4, 2, none⟩ = some (.int .i64 S.gap) ∧ w'.cell? ⟨b4, 3, none⟩ = some (.slice a3 n3 c3) ∧ w'.cell? ⟨b4, 4, none⟩ = some (.slice a4 n4 c4) ∧ w'.cell? ⟨b4, 5, none⟩ = some (.slice a5 n5 c5))
      ((go_split_ands; refine ⟨?_, ?_, ?_, ?_, ?_, ?_⟩ <;> first | with_reducible assumption | with_reducible exact G0.out | with_reducible exact G1.out | with_reducible exact G2.out | with_reducible exact G3.out | with_reducible exact G4.out | with_reducible exact G5.out | exact ((show Below W3.heap.size W3 _ from (by (repeat (first | with_reducible exact Below.refl _ _ | with_reducible assumption | ((with_reducible refine Below.setCell ?_ ?_ _); rotate_left; focus (first | exact Nat.le_refl _ | omega | exact Below.size (by assumption) | (simp; done) | (simp; omega))) | ((with_reducible refine Below.alloc ?_ ?_ _); rotate_left; focus (first | exact Nat.le_refl _ | omega | exact Below.size (by assumption) | (simp; done) | (simp; omega))) | (with_reducible refine Below.drew ?_) | (with_reducible refine drewN_ ?_ _))))).cell (p := ⟨_, _, none⟩) (by first | with_reducible assumption | omega)).trans (by with_reducible assumption)))
      ((go_at_call 13; refine (modelCheck_any S _ _ _ _ _ _ (HS3.out.later (by (repeat (first | with_reducible exact Below.refl _ _ | with_reducible assumption | ((with_reducible refine Below.setCell ?_ ?_ _); rotate_left; focus (first | exact Nat.le_refl _ | omega | exact Below.size (by assumption) | (simp; done) | (simp; omega))) | ((with_reducible refine Below.alloc ?_ ?_ _); rotate_left; focus (first | exact Nat.le_refl _ | omega | exact Below.size (by assumption) | (simp; done) | (simp; omega))) | (with_reducible refine Below.drew ?_) | (with_reducible refine drewN_ ?_ _))))) (by have := HSM.out.few; omega) (by have := HSM.out.trips; omega) (by have := HSM.out.clocks; omega) (by have := HSM.out.syncs; omega) (fun i hi => by have := HSM.out.vis i hi; omega)).mono ?_; rintro e w4 ⟨⟨c, rfl, hc⟩, hb4⟩; have B4 := from_ (w := W3) hb4 (by (repeat (first | with_reducible exact Below.refl _ _ | with_reducible assumption | ((with_reducible refine Below.setCell ?_ ?_ _); rotate_left; focus (first | exact Nat.le_refl _ | omega | exact Below.size (by assumption) | (simp; done) | (simp; omega))) | ((with_reducible refine Below.alloc ?_ ?_ _); rotate_left; focus (first | exact Nat.le_refl _ | omega | exact Below.size (by assumption) | (simp; done) | (simp; omega))) | (with_reducible refine Below.drew ?_) | (with_reducible refine drewN_ ?_ _)))); have HC := Lib.hid hc; have hb4' := keepObj B4 PS.out; have hne4 : b4 ≠ w.heap.size + 1 := (by omega); have hb6 := obj_off6 hb4' hne4 (.slice a1 n1 c1) (.slice a2 n2 c2) (.int .i64 S.gap) (.slice a3 n3 c3) (.slice a4 n4 c4) (.slice a5 n5 c5); have u0 := obj_cell hb4' 0; have u1 := obj_cell hb4' 1; have u2 := obj_cell hb4' 2; have u3 := obj_cell hb4' 3; have u4 := obj_cell hb4' 4; have u5 := obj_cell hb4' 5; have g0 : ((((((w4.setCell ⟨w.heap.size + 1, 0, none⟩ (.slice a1 n1 c1)).setCell ⟨w.heap.size + 1, 1, none⟩ (.slice a2 n2 c2)).setCell ⟨w.heap.size + 1, 2, none⟩ (.int .i64 S.gap)).setCell ⟨w.heap.size + 1, 3, none⟩ (.slice a3 n3 c3)).setCell ⟨w.heap.size + 1, 4, none⟩ (.slice a4 n4 c4)).setCell ⟨w.heap.size + 1, 5, none⟩ (.slice a5 n5 c5)).cell? ⟨b4, 0, none⟩ = some (.slice a1 n1 c1) := obj_cell hb6 0; have g1 : ((((((w4.setCell ⟨w.heap.size + 1, 0, none⟩ (.slice a1 n1 c1)).setCell ⟨w.heap.size + 1, 1, none⟩ (.slice a2 n2 c2)).setCell ⟨w.heap.size + 1, 2, none⟩ (.int .i64 S.gap)).setCell ⟨w.heap.size + 1, 3, none⟩ (.slice a3 n3 c3)).setCell ⟨w.heap.size + 1, 4, none⟩ (.slice a4 n4 c4)).setCell ⟨w.heap.size + 1, 5, none⟩ (.slice a5 n5 c5)).cell? ⟨b4, 1, none⟩ = some (.slice a2 n2 c2) := obj_cell hb6 1; have g2 : ((((((w4.setCell ⟨w.heap.size + 1, 0, none⟩ (.slice a1 n1 c1)).setCell ⟨w.heap.size + 1, 1, none⟩ (.slice a2 n2 c2)).setCell ⟨w.heap.size + 1, 2, none⟩ (.int .i64 S.gap)).setCell ⟨w.heap.size + 1, 3, none⟩ (.slice a3 n3 c3)).setCell ⟨w.heap.size + 1, 4, none⟩ (.slice a4 n4 c4)).setCell ⟨w.heap.size + 1, 5, none⟩ (.slice a5 n5 c5)).cell? ⟨b4, 2, none⟩ = some (.int .i64 S.gap) := obj_cell hb6 2; have g3 : ((((((w4.setCell ⟨w.heap.size + 1, 0, none⟩ (.slice a1 n1 c1)).setCell ⟨w.heap.size + 1, 1, none⟩ (.slice a2 n2 c2)).setCell ⟨w.heap.size + 1, 2, none⟩ (.int .i64 S.gap)).setCell ⟨w.heap.size + 1, 3, none⟩ (.slice a3 n3 c3)).setCell ⟨w.heap.size + 1, 4, none⟩ (.slice a4 n4 c4)).setCell ⟨w.heap.size + 1, 5, none⟩ (.slice a5 n5 c5)).cell? ⟨b4, 3, none⟩ = some (.slice a3 n3 c3) := obj_cell hb6 3; have g4 : ((((((w4.setCell ⟨w.heap.size + 1, 0, none⟩ (.slice a1 n1 c1)).setCell ⟨w.heap.size + 1, 1, none⟩ (.slice a2 n2 c2)).setCell ⟨w.heap.size + 1, 2, none⟩ (.int .i64 S.gap)).setCell ⟨w.heap.size + 1, 3, none⟩ (.slice a3 n3 c3)).setCell ⟨w.heap.size + 1, 4, none⟩ (.slice a4 n4 c4)).setCell ⟨w.heap.size + 1, 5, none⟩ (.slice a5 n5 c5)).cell? ⟨b4, 4, none⟩ = some (.slice a4 n4 c4) := obj_cell hb6 4; have g5 : ((((((w4.setCell ⟨w.heap.size + 1, 0, none⟩ (.slice a1 n1 c1)).setCell ⟨w.heap.size + 1, 1, none⟩ (.slice a2 n2 c2)).setCell ⟨w.heap.size + 1, 2, none⟩ (.int .i64 S.gap)).setCell ⟨w.heap.size + 1, 3, none⟩ (.slice a3 n3 c3)).setCell ⟨w.heap.size + 1, 4, none⟩ (.slice a4 n4 c4)).setCell ⟨w.heap.size + 1, 5, none⟩ (.slice a5 n5 c5)).cell? ⟨b4, 5, none⟩ = some (.slice a5 n5 c5) := obj_cell hb6 5; simp at u0 u1 u2 u3 u4 u5; have G0 := Lib.hid g0; have G1 := Lib.hid g1; have G2 := Lib.hid g2; have G3 := Lib.hid g3; have G4 := Lib.hid g4; have G5 := Lib.hid g5; clear hb4' hb6 g0 g1 g2 g3 g4 g5; have ZZ := keepObj B4 HZ3.out; have z0 := obj_cell ZZ 0; have z1 := obj_cell ZZ 1; have z2 := obj_cell ZZ 2; have z3 := obj_cell ZZ 3; have z4 := obj_cell ZZ 4; have z5 := obj_cell ZZ 5; have y0 := obj_free ZZ 0; have y1 := obj_free ZZ 1; have y2 := obj_free ZZ 2; have y3 := obj_free ZZ 3; have y4 := obj_free ZZ 4; have y5 := obj_free ZZ 5; simp at z0 z1 z2 z3 z4 z5; have HZZ := Lib.hid ZZ; clear hb4 hc ZZ))
    all_goals
      go_wp2_with fail
      go_meet
      have hsr := HSR3.out.keep B4
      have hbw : Below w.heap.size w w4 := HB3.out.trans (B4.mono HB3.out.size)
      exact ⟨c == 0, rfl, obj_set6' HZZ.out _ _ _ _ _ _, (fun h => HC.out (by simpa using h)), ((((((hsr.set hz0 0 _).set hz0 1 _).set hz0 2 _).set hz0 3 _).set hz0 4 _).set hz0 5 _), by show Below _ _ _; (repeat (first | with_reducible exact Below.refl _ _ | with_reducible assumption | ((with_reducible refine Below.setCell ?_ ?_ _); rotate_left; focus (first | exact Nat.le_refl _ | omega | exact Below.size (by assumption) | (simp; done) | (simp; omega))) | ((with_reducible refine Below.alloc ?_ ?_ _); rotate_left; focus (first | exact Nat.le_refl _ | omega | exact Below.size (by assumption) | (simp; done) | (simp; omega))) | (with_reducible refine Below.drew ?_) | (with_reducible refine drewN_ ?_ _)))⟩
  case rest =>
    obtain ⟨b, rfl, hZc, hbc, hSRc, hBc⟩ := hcut
    have z0 := obj_cell hZc.out 0
    have z1 := obj_cell hZc.out 1
    have z2 := obj_cell hZc.out 2
    have z3 := obj_cell hZc.out 3
    have z4 := obj_cell hZc.out 4
    have z5 := obj_cell hZc.out 5
    simp at z0 z1 z2 z3 z4 z5
    go_wp2_with fail
    refine bodyPost_ret (v := .tuple #[S.v (.slice a1 n1 c1) (.slice a2 n2 c2) (.slice a3 n3 c3) (.slice a4 n4 c4) (.slice a5 n5 c5), .bool b]) (by simp [results, Try.results6, go_sem, z0, z1, z2, z3, z4, z5]) rfl ⟨⟨_, _, _, _, _, S, b, rfl, hSRc.out.scnS, HSM.out, hbc, hBc.out.size⟩, hBc.out⟩
end Go.Proofs.Ythkhgfdjdpfoiaa
namespace Go.Vi
open Go Go.RowKit Go.ChangeShapes Go.WideShapes
theorem cell_lt {w : World} {a : Addr} {v : Value} (h : w.cell? a = some v) : a.spot = none ∧ a.block < w.heap.size := by
  unfold World.cell? at h
  split at h
  · rename_i c t f hc
    split at h
    · cases h
    · rename_i hs
      refine ⟨by simpa using hs, ?_⟩
      rcases Nat.lt_or_ge a.block w.heap.size with h1 | h1
      · exact h1
      · rw [Array.getElem?_eq_none h1] at hc; cases hc
  · cases h
theorem has_addr {P : Program} {w : World} {r : Reach} {base n : Nat} {a : Addr} {e : TypeId} (h : World.has P w r base a e n) : a.spot = none ∧ a.block < w.heap.size := by
  obtain ⟨_, hs, row, cells, hsh, _⟩ := h
  refine ⟨hs, ?_⟩
  unfold World.shape? at hsh
  split at hsh
  · rename_i c t f hc
    rcases Nat.lt_or_ge a.block w.heap.size with h1 | h1
    · exact h1
    · rw [Array.getElem?_eq_none h1] at hc; cases hc
  · cases hsh
theorem okCell_slice {P : Program} {w : World} {r : Reach} {base len cap : Nat} {a : Addr} {u e : TypeId} (hu : P.underlying u = some (.slice e)) (h : Cell.okWide P w r base u (.slice (some a) len cap)) : a.spot = none ∧ a.block < w.heap.size := by
  simp only [Cell.okWide, hu, Cell.ok] at h
  exact has_addr h.2.2
theorem add_none {a : Addr} (h : a.spot = none) (n : Nat) : a.add n = ⟨a.block, a.off + n, none⟩ := by
  unfold Addr.add
  split
  · rename_i h0
    subst h0
    cases a
    simp only at h
    subst h
    rfl
  · rfl
end Go.Vi
namespace Go.Proofs.Ythkhgfdjdpfoiaa
open Go Go.RowKit Go.Vi Go.ChangeShapes Go.WideShapes Go.Deep
section
variable {H : Type} {enc : TypeId × Value → H} {P : Program} {w : World} {spare : Nat → Bool} {held : Bool}
theorem rows_open {α : Type} [Inhabited α] {cs : α → List Value} {k : Nat} {fits : α → Prop} (hck : ∀ a, (cs a).length = k) (hk : 0 < k) {t e : TypeId} {fuel : Nat} {v : Value} {x : DataW H × List MemPlace} (ht : P.underlying t = some (.slice e)) (hce : P.cellsOf e = k)
    (hel : ∀ (n : Nat) (c : List Value) (y : DataW H × List MemPlace), DataW.trod enc P w 0 spare held n e c = some y → c.length = k → ∃ a, c = cs a ∧ fits a)
    (h : DataW.trod enc P w 0 spare held fuel t [v] = some x) :
    ∃ L : List α, SlE w.heap.size w k v (L.map cs) ∧ (∀ a ∈ L, fits a) ∧ ((∀ ad n c, v = .slice (some ad) n c → ad.spot = none ∧ ad.block < w.heap.size) → Sl w.heap.size w k v (L.map cs)) ∧ (∀ n c, v = .slice none n c → c = 0) := by
  rcases open_slice ht h with ⟨hcs, _⟩ | ⟨a, len, cap, m, n, D, Pl, hcs, _, hl, hm, hmm, _, hcell⟩
  · simp only [List.cons.injEq, and_true] at hcs
    subst hcs
    have hs : Sl w.heap.size w k (.slice none 0 0) (([] : List α).map cs) := ⟨none, 0, rfl, Nat.le_refl _, Nat.zero_le _, (fun r hr => by cases hr), (fun _ => rfl), (fun ad h => by cases h)⟩
    exact ⟨[], .inl hs, (fun a ha => by cases ha), (fun _ => hs), (fun n c h => by injection h with _ _ h; exact h.symm)⟩
  · simp only [List.cons.injEq, and_true] at hcs
    subst hcs
    rw [hce] at hcell
    have hlm : len ≤ m := by rw [hmm]; split <;> omega
    obtain ⟨f, hf⟩ := choose_lt (α := α) (p := fun i al => w.cells? 0 (a.add (i * k)) k = some (cs al) ∧ fits al) (n := len) (fun i hi => by
      obtain ⟨c, h1, h2⟩ := hcell i (by omega)
      obtain ⟨_, hlen, _⟩ := World.cells?_some h1
      obtain ⟨al, rfl, hfit⟩ := hel _ _ _ h2 hlen
      exact ⟨al, h1, hfit⟩)
    have hlen : ((List.range len).map f).length = len := by simp
    have hs : a.spot = none → a.block < w.heap.size → Sl w.heap.size w k (.slice (some a) len cap) (((List.range len).map f).map cs) := fun hspot hblk => by
      refine ⟨some a, cap, by simp, by simpa using hl, hm, fun r hr => ?_, (fun h => by cases h), fun ad had => ?_⟩
      · obtain ⟨y, _, rfl⟩ := List.mem_map.1 hr
        exact hck y
      · injection had with had
        subst had
        refine ⟨hspot, hblk, fun i hi c y hy => ?_⟩
        have hi' : i < len := by simpa using hi
        simp only [List.getElem_map, List.getElem_range] at hy
        obtain ⟨_, _, hc⟩ := World.cells?_some (hf i hi').1
        have hck' : c < k := by
          rw [← hck (f i)]
          exact (List.getElem?_eq_some_iff.1 hy).1
        have := hc c hck'
        rw [add_add, add_none hspot, hy, ← Nat.add_assoc] at this
        exact this
    refine ⟨(List.range len).map f, ?_, fun y hy => ?_, fun hv => ?_, fun n c h => by cases h⟩
    · rcases Nat.eq_zero_or_pos len with h0 | hpos
      · subst h0
        exact .inr ⟨rfl, some a, cap, rfl, hm⟩
      · obtain ⟨_, _, hc⟩ := World.cells?_some (hf 0 hpos).1
        have := hc 0 hk
        rw [add_add, Nat.zero_mul, Nat.add_zero] at this
        have h0 : (0 : Nat) < (cs (f 0)).length := by rw [hck]; exact hk
        rw [List.getElem?_eq_getElem h0] at this
        have ha : a.add 0 = a := by simp [Addr.add]
        rw [ha] at this
        obtain ⟨q1, q2⟩ := cell_lt this
        exact .inl (hs q1 q2)
    · obtain ⟨i, hi, rfl⟩ := List.mem_map.1 hy
      exact (hf i (by simpa using hi)).2
    · obtain ⟨q1, q2⟩ := hv a len cap rfl
      exact hs q1 q2
end
section
variable {H : Type} {enc : TypeId × Value → H} {w : World} {spare : Nat → Bool} {held : Bool}
theorem byte_of {n : Int} (h : (Lit.int .u8 n).wf = true) : Byte n := by
  simp [Lit.wf] at h
  unfold Byte
  first
    | omega
    | (simp [IntKind.min, IntKind.max, IntKind.signed, IntKind.bits] at h; omega)
theorem trod_u8 {n : Nat} {c : Value} {y : DataW H × List MemPlace} (h : DataW.trod enc Try.prog w 0 spare held n 5 [c] = some y) : ∃ k, c = .int .u8 k ∧ Byte k := by
  obtain ⟨k, hc, _, hw⟩ := DataW.trod_int Try.underlying5 h
  simp at hc
  exact ⟨k, hc, byte_of hw⟩
theorem len2 {c : List Value} (h : c.length = 2) : ∃ a b, c = [a, b] := by
  match c, h with
  | [a, b], _ => exact ⟨a, b, rfl⟩
theorem len4 {c : List Value} (h : c.length = 4) : ∃ a b d e, c = [a, b, d, e] := by
  match c, h with
  | [a, b, d, e], _ => exact ⟨a, b, d, e, rfl⟩
theorem len5 {c : List Value} (h : c.length = 5) : ∃ a b d e f, c = [a, b, d, e, f] := by
  match c, h with
  | [a, b, d, e, f], _ => exact ⟨a, b, d, e, f, rfl⟩
theorem field_of {n : Nat} {t : TypeId} {fs : Array Field} {c : List Value} {y : DataW H × List MemPlace} (ht : Try.prog.underlying t = some (.struct fs)) (h : DataW.trod enc Try.prog w 0 spare held n t c = some y) (i : Nat) {f : Field} (hf : fs[i]? = some f) {ty : TypeId} {off sz : Nat} (hty : f.type = ty) (ho : f.offset = off) (hs : Try.prog.cellsOf ty = sz) : ∃ m z, DataW.trod enc Try.prog w 0 spare held m ty ((c.drop off).take sz) = some z := by
  obtain ⟨xs, m, _, _, _, hlen, hx⟩ := DataW.trod_struct ht h
  have h1 := hx i f hf
  have hi : i < xs.length := by rw [hlen]; exact (Array.getElem?_eq_some_iff.1 hf).1
  rw [List.getElem?_eq_getElem hi, hty, ho, hs] at h1
  exact ⟨m, _, h1⟩
theorem part_of {n k : Nat} {t e : TypeId} {c : List Value} {y : DataW H × List MemPlace} (ht : Try.prog.underlying t = some (.array k e)) (h : DataW.trod enc Try.prog w 0 spare held n t c = some y) (i : Nat) (hi : i < k) {sz : Nat} (hs : Try.prog.cellsOf e = sz) : ∃ m z, DataW.trod enc Try.prog w 0 spare held m e ((c.drop (i * sz)).take sz) = some z := by
  obtain ⟨xs, m, _, _, _, hlen, hx⟩ := DataW.trod_array ht h
  have h1 := hx i hi
  have hi' : i < xs.length := by rw [hlen]; exact hi
  rw [List.getElem?_eq_getElem hi', hs] at h1
  exact ⟨m, _, h1⟩
theorem c4 : Try.prog.cellsOf 4 = 1 := by kernel_rfl
theorem c5 : Try.prog.cellsOf 5 = 1 := by kernel_rfl
theorem c72 : Try.prog.cellsOf 72 = 1 := by kernel_rfl
theorem c69 : Try.prog.cellsOf 69 = 1 := by kernel_rfl
theorem c73 : Try.prog.cellsOf 73 = 1 := by kernel_rfl
theorem c22 : Try.prog.cellsOf 22 = 1 := by kernel_rfl
theorem c23 : Try.prog.cellsOf 23 = 1 := by kernel_rfl
theorem c26 : Try.prog.cellsOf 26 = 1 := by kernel_rfl
theorem c27 : Try.prog.cellsOf 27 = 1 := by kernel_rfl
theorem c25 : Try.prog.cellsOf 25 = 2 := by kernel_rfl
theorem c29 : Try.prog.cellsOf 29 = 6 := by kernel_rfl
theorem c124 : Try.prog.cellsOf 124 = 2 := by kernel_rfl
theorem c126 : Try.prog.cellsOf 126 = 5 := by kernel_rfl
theorem c102 : Try.prog.cellsOf 102 = 2 := by kernel_rfl
theorem c101 : Try.prog.cellsOf 101 = 4 := by kernel_rfl
theorem c71 : Try.prog.cellsOf 71 = 4 := by kernel_rfl
theorem c75 : Try.prog.cellsOf 75 = 2 := by kernel_rfl
theorem spot_open (n : Nat) (c : List Value) (y : DataW H × List MemPlace) (h : DataW.trod enc Try.prog w 0 spare held n 124 c = some y) (hl : c.length = 2) : ∃ a, c = Spt.cs a ∧ a.fits := by
  obtain ⟨a, b, rfl⟩ := len2 hl
  obtain ⟨_, _, h0⟩ := field_of Try.underlying124 h 0 rfl rfl rfl c5
  obtain ⟨_, _, h1⟩ := field_of Try.underlying124 h 1 rfl rfl rfl c5
  obtain ⟨x, rfl, hx⟩ := trod_u8 (c := a) h0
  obtain ⟨z, rfl, hz⟩ := trod_u8 (c := b) h1
  exact ⟨⟨x, z⟩, rfl, hx, hz⟩
theorem lane_open (n : Nat) (c : List Value) (y : DataW H × List MemPlace) (h : DataW.trod enc Try.prog w 0 spare held n 126 c = some y) (hl : c.length = 5) : ∃ a, c = Lne.cs a ∧ a.fits := by
  obtain ⟨a, b, d, e, f, rfl⟩ := len5 hl
  obtain ⟨_, _, h0⟩ := field_of Try.underlying126 h 0 rfl rfl rfl c5
  obtain ⟨_, _, h1⟩ := field_of Try.underlying126 h 1 rfl rfl rfl c5
  obtain ⟨_, _, h2⟩ := field_of Try.underlying126 h 2 rfl rfl rfl c5
  obtain ⟨_, _, h3⟩ := field_of Try.underlying126 h 3 rfl rfl rfl c5
  obtain ⟨_, _, h4⟩ := field_of Try.underlying126 h 4 rfl rfl rfl c4
  obtain ⟨x0, rfl, g0⟩ := trod_u8 (c := a) h0
  obtain ⟨x1, rfl, g1⟩ := trod_u8 (c := b) h1
  obtain ⟨x2, rfl, g2⟩ := trod_u8 (c := d) h2
  obtain ⟨x3, rfl, g3⟩ := trod_u8 (c := e) h3
  obtain ⟨x4, hc, _⟩ := DataW.trod_bool Try.underlying4 (cs := [f]) h4
  simp at hc
  subst hc
  exact ⟨⟨x0, x1, x2, x3, x4⟩, rfl, g0, g1, g2, g3⟩
theorem st2_open (n : Nat) (c : List Value) (y : DataW H × List MemPlace) (h : DataW.trod enc Try.prog w 0 spare held n 102 c = some y) (hl : c.length = 2) : ∃ a, c = St2.cs a ∧ a.fits := by
  obtain ⟨a, b, rfl⟩ := len2 hl
  obtain ⟨_, _, h0⟩ := part_of Try.underlying102 h 0 (by decide) c5
  obtain ⟨_, _, h1⟩ := part_of Try.underlying102 h 1 (by decide) c5
  obtain ⟨x0, rfl, g0⟩ := trod_u8 (c := a) h0
  obtain ⟨x1, rfl, g1⟩ := trod_u8 (c := b) h1
  exact ⟨⟨x0, x1⟩, rfl, g0, g1⟩
theorem sy4_open (n : Nat) (c : List Value) (y : DataW H × List MemPlace) (h : DataW.trod enc Try.prog w 0 spare held n 101 c = some y) (hl : c.length = 4) : ∃ a, c = Sy4.cs a ∧ a.fits := by
  obtain ⟨a, b, d, e, rfl⟩ := len4 hl
  obtain ⟨_, _, h0⟩ := part_of Try.underlying101 h 0 (by decide) c5
  obtain ⟨_, _, h1⟩ := part_of Try.underlying101 h 1 (by decide) c5
  obtain ⟨_, _, h2⟩ := part_of Try.underlying101 h 2 (by decide) c5
  obtain ⟨_, _, h3⟩ := part_of Try.underlying101 h 3 (by decide) c5
  obtain ⟨x0, rfl, g0⟩ := trod_u8 (c := a) h0
  obtain ⟨x1, rfl, g1⟩ := trod_u8 (c := b) h1
  obtain ⟨x2, rfl, g2⟩ := trod_u8 (c := d) h2
  obtain ⟨x3, rfl, g3⟩ := trod_u8 (c := e) h3
  exact ⟨⟨x0, x1, x2, x3⟩, rfl, g0, g1, g2, g3⟩
def drvCs (p : Drv × Value) : List Value := p.1.cs p.2
def watCs (p : Wat × Value) : List Value := p.1.cs p.2
theorem drive_open (n : Nat) (c : List Value) (y : DataW H × List MemPlace) (h : DataW.trod enc Try.prog w 0 spare held n 71 c = some y) (hl : c.length = 4) : ∃ a : Drv × Value, c = drvCs a ∧ a.1.fits ∧ SlE w.heap.size w 2 a.2 (a.1.stops.map St2.cs) := by
  obtain ⟨a, b, d, e, rfl⟩ := len4 hl
  obtain ⟨_, _, h0⟩ := field_of Try.underlying71 h 0 rfl rfl rfl c5
  obtain ⟨_, _, h1⟩ := field_of Try.underlying71 h 1 rfl rfl rfl c5
  obtain ⟨_, _, h2⟩ := field_of Try.underlying71 h 2 rfl rfl rfl c5
  obtain ⟨_, _, h3⟩ := field_of Try.underlying71 h 3 rfl rfl rfl c69
  obtain ⟨x0, rfl, g0⟩ := trod_u8 (c := a) h0
  obtain ⟨x1, rfl, g1⟩ := trod_u8 (c := b) h1
  obtain ⟨x2, rfl, g2⟩ := trod_u8 (c := d) h2
  obtain ⟨L, hL, hfit, _, _⟩ := rows_open (α := St2) (cs := St2.cs) (k := 2) (fits := St2.fits) (v := e) (fun _ => rfl) (by decide) Try.underlying69 c102 st2_open h3
  exact ⟨(⟨x0, x1, x2, L⟩, e), rfl, ⟨g0, g1, g2, hfit⟩, hL⟩
theorem i8_of {n : Int} (h : (Lit.int .i8 n).wf = true) : -128 ≤ n ∧ n ≤ 127 := by
  simp [Lit.wf] at h
  first
    | omega
    | (simp [IntKind.min, IntKind.max, IntKind.signed, IntKind.bits] at h; omega)
theorem watch_open (n : Nat) (c : List Value) (y : DataW H × List MemPlace) (h : DataW.trod enc Try.prog w 0 spare held n 75 c = some y) (hl : c.length = 2) : ∃ a : Wat × Value, c = watCs a ∧ a.1.fits ∧ SlE w.heap.size w 4 a.2 (a.1.syncs.map Sy4.cs) := by
  obtain ⟨a, b, rfl⟩ := len2 hl
  obtain ⟨_, _, h0⟩ := field_of Try.underlying75 h 0 rfl rfl rfl c72
  obtain ⟨_, _, h1⟩ := field_of Try.underlying75 h 1 rfl rfl rfl c73
  obtain ⟨k, hc, _, hw⟩ := DataW.trod_int Try.underlying72 (cs := [a]) h0
  simp at hc
  subst hc
  obtain ⟨L, hL, hfit, _, _⟩ := rows_open (α := Sy4) (cs := Sy4.cs) (k := 4) (fits := Sy4.fits) (v := b) (fun _ => rfl) (by decide) Try.underlying73 c101 sy4_open h1
  exact ⟨(⟨k, L⟩, b), rfl, ⟨i8_of hw, hfit⟩, hL⟩
instance : Inhabited (Drv × Value) := ⟨(default, .bool false)⟩
instance : Inhabited (Wat × Value) := ⟨(default, .bool false)⟩
theorem nest_of {α β : Type} [Inhabited α] {cs : α → Value → List Value} {sub : α → List β} {ccs : β → List Value} {k kk B : Nat} {v : Value} {L : List (α × Value)} (h : Sl B w k v (L.map fun p => cs p.1 p.2)) (hi : ∀ p ∈ L, SlE B w kk p.2 ((sub p.1).map ccs)) : NestAt cs sub ccs k kk B w v (L.map (·.1)) := by
  refine ⟨L.map (·.2), by simp, ?_, fun i hi' => ?_⟩
  · have e : List.zipWith cs (L.map (·.1)) (L.map (·.2)) = L.map fun p => cs p.1 p.2 := by
      clear h hi
      induction L with
      | nil => rfl
      | cons p L ih => simp only [List.map_cons, List.zipWith_cons_cons]; rw [ih]
    rw [e]
    exact h
  · have hiL : i < L.length := by simpa using hi'
    rw [getElem!_pos (L.map (·.2)) i (by simpa using hiL), getElem!_pos (L.map (·.1)) i hi']
    simp only [List.getElem_map]
    exact hi _ (List.getElem_mem _)
theorem types29 : Try.prog.cellTypes Try.prog.depth 29 = some [22, 23, 26, 27, 5, 4] := by kernel_rfl
theorem arr6 {cs : Array Value} (h : cs.size = 6) : ∃ a b c d e f, cs = #[a, b, c, d, e, f] := by
  obtain ⟨l⟩ := cs
  match l, h with
  | [a, b, c, d, e, f], _ => exact ⟨a, b, c, d, e, f, rfl⟩
set_option maxRecDepth 100000 in
theorem story_open {r : Reach} {base : Nat} {v : Value} {d : DataW H} {p : List MemPlace} (hv : Value.okWide Try.prog w r base 29 v) (h : DataW.Trod enc Try.prog w 0 spare held 29 v d p) :
    ∃ (x : Sto) (vp vq vd va : Value), v = x.v vp vq vd va ∧ StoAt w.heap.size w vp vq vd va x ∧ x.fits := by
  simp only [Value.okWide, Try.underlying29] at hv
  obtain ⟨cs, rfl, hsz, ts, hts, _, hcell⟩ := hv
  rw [types29] at hts
  injection hts with hts
  subst hts
  rw [c29] at hsz
  obtain ⟨a0, a1, a2, a3, a4, a5, rfl⟩ := arr6 hsz
  obtain ⟨fuel, hf⟩ := h
  have hf' : DataW.trod enc Try.prog w 0 spare held fuel 29 [a0, a1, a2, a3, a4, a5] = some (d, p) := hf
  obtain ⟨_, _, g0⟩ := field_of Try.underlying29 hf' 0 rfl rfl rfl c25
  obtain ⟨_, _, g2⟩ := field_of Try.underlying29 hf' 1 rfl rfl rfl c26
  obtain ⟨_, _, g3⟩ := field_of Try.underlying29 hf' 2 rfl rfl rfl c27
  obtain ⟨_, _, g4⟩ := field_of Try.underlying29 hf' 3 rfl rfl rfl c5
  obtain ⟨_, _, g5⟩ := field_of Try.underlying29 hf' 4 rfl rfl rfl c4
  obtain ⟨_, _, k0⟩ := field_of (c := [a0, a1]) Try.underlying25 g0 0 rfl rfl rfl c22
  obtain ⟨_, _, k1⟩ := field_of (c := [a0, a1]) Try.underlying25 g0 1 rfl rfl rfl c23
  obtain ⟨u0, e0, q0⟩ := hcell 0 a0 rfl
  obtain ⟨u1, e1, q1⟩ := hcell 1 a1 rfl
  obtain ⟨u2, e2, q2⟩ := hcell 2 a2 rfl
  obtain ⟨u3, e3, q3⟩ := hcell 3 a3 rfl
  have e0' : u0 = 22 := by simpa using e0.symm
  have e1' : u1 = 23 := by simpa using e1.symm
  have e2' : u2 = 26 := by simpa using e2.symm
  have e3' : u3 = 27 := by simpa using e3.symm
  subst e0' e1' e2' e3'
  obtain ⟨L0, _, f0, s0, _⟩ := rows_open (α := Spt) (cs := Spt.cs) (k := 2) (fits := Spt.fits) (v := a0) (fun _ => rfl) (by decide) Try.underlying22 c124 spot_open k0
  obtain ⟨L1, _, f1, s1, z1⟩ := rows_open (α := Lne) (cs := Lne.cs) (k := 5) (fits := Lne.fits) (v := a1) (fun _ => rfl) (by decide) Try.underlying23 c126 lane_open k1
  obtain ⟨L2, _, f2, s2, _⟩ := rows_open (α := Drv × Value) (cs := drvCs) (k := 4) (fits := fun a => a.1.fits ∧ SlE w.heap.size w 2 a.2 (a.1.stops.map St2.cs)) (v := a2) (fun _ => rfl) (by decide) Try.underlying26 c71 drive_open g2
  obtain ⟨L3, _, f3, s3, _⟩ := rows_open (α := Wat × Value) (cs := watCs) (k := 2) (fits := fun a => a.1.fits ∧ SlE w.heap.size w 4 a.2 (a.1.syncs.map Sy4.cs)) (v := a3) (fun _ => rfl) (by decide) Try.underlying27 c75 watch_open g3
  obtain ⟨gap, rfl, hgap⟩ := trod_u8 (c := a4) g4
  obtain ⟨un, hc, _⟩ := DataW.trod_bool Try.underlying4 (cs := [a5]) g5
  simp at hc
  subst hc
  refine ⟨⟨L0, L1, L2.map (·.1), L3.map (·.1), gap, un⟩, a0, a1, a2, a3, rfl, ⟨s0 ?_, s1 ?_, nest_of (s2 ?_) (fun p hp => (f2 p hp).2), nest_of (s3 ?_) (fun p hp => (f3 p hp).2), z1⟩, ⟨f0, f1, ?_, ?_, hgap⟩⟩
  · rintro ad n c rfl; exact okCell_slice (P := Try.prog) (u := 22) Try.underlying22 q0
  · rintro ad n c rfl; exact okCell_slice (P := Try.prog) (u := 23) Try.underlying23 q1
  · rintro ad n c rfl; exact okCell_slice (P := Try.prog) (u := 26) Try.underlying26 q2
  · rintro ad n c rfl; exact okCell_slice (P := Try.prog) (u := 27) Try.underlying27 q3
  · intro y hy
    obtain ⟨p, hp, rfl⟩ := List.mem_map.1 hy
    exact (f2 p hp).1
  · intro y hy
    obtain ⟨p, hp, rfl⟩ := List.mem_map.1 hy
    exact (f3 p hp).1
end
end Go.Proofs.Ythkhgfdjdpfoiaa
