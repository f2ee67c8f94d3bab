/-
  simulate's stops of a trip.
-/
import Derived.Test.YtmplajpbmojkkaaGreatDriveW
set_option linter.unusedSimpArgs false
set_option linter.unusedVariables false
namespace Go.Proofs.YtmplajpbmojkkaaGreat
open Go Go.RowKit Go.Vi
theorem own_stp {B b : Nat} {w : World} {x : Stp} (hb : w.heap[b]? = some (.cells #[.int .i64 x.time, .int .i64 x.node] 66 (0, 0))) (hB : B ≤ b) : Ow B w 66 2 (.slice (some ⟨b, 0, none⟩) 1 1) ([x].map Stp.cs) :=
  ⟨⟨by simp [Stp.cs], .inr ⟨b, 1, _, rfl, hB, hb, Nat.le_refl _, by unfold maxLen; omega, rfl, by simp [Stp.cs]⟩⟩, fun r hr => by simp at hr; subst hr; rfl⟩
/-- What stops hands back. -/
def StopsRes (r : Except Int (List Stp)) (B : Nat) (e : Ending) (w' : World) : Prop := match r with
  | .error c => c ≠ 0 ∧ e = .returned (.tuple #[.slice none 0 0, .int .i64 c])
  | .ok L => ∃ v, e = .returned (.tuple #[v, .int .i64 0]) ∧ Ow B w' 66 2 v (L.map Stp.cs) ∧ L.length ≤ 256
set_option maxRecDepth 100000 in
set_option maxHeartbeats 4000000 in
theorem stopsW_any (S : Scn) (t : Trp) (v1 v2 v3 v4 v5 vt : Value) (w : World) (hN : NetAt w.heap.size w v1 v2 S.net) (hV : Sl w.heap.size w 2 vt (t.vis.map Vis.cs)) (hne : 0 < t.vis.length) (hK : NetOK S.net) (hsz : S.net.roads.length ≤ 100) (hg : 1 ≤ S.gap ∧ S.gap ≤ 1073741824) (hsp : 1 ≤ t.speed ∧ t.speed ≤ 1048576) (hst : 0 ≤ t.start ∧ t.start ≤ 1073741824) (hvl : t.vis.length ≤ 32)
    (hw : ∀ k, k < t.vis.length → 0 ≤ t.vis[k]!.wait ∧ t.vis[k]!.wait ≤ 1073741824) :
    Calls Tryz.prog 19 #[S.v v1 v2 v3 v4 v5, t.v vt] w fun e w' => StopsRes (stopsS S t) w.heap.size e w' ∧ Below w.heap.size w w' := by
  obtain ⟨av, m, cv, rfl, hm, hm1, hm2⟩ := hV.open
  rw [List.length_map] at hm
  have hm0 : 0 < m := by omega
  obtain ⟨b, off, rfl, hb, hcs⟩ := hV.cells 0 hne
  have x0 : w.cell? ⟨b, off + 0 * 2, none⟩ = _ := hcs 0 hne 0 _ rfl
  rw [Nat.zero_mul, Nat.add_zero] at x0
  obtain ⟨x, hx⟩ : ∃ x, x = t.vis[0]! := ⟨_, rfl⟩
  rw [← hx] at x0
  have HX := Lib.hid hx
  have HN := Lib.hid hN
  have HV := Lib.hid hV
  have HK := Lib.hid hK
  have HW := Lib.hid hw
  clear hN hV hK hw hm hm2 hcs hx
  have P0 := Lib.hid (obj_old (o' := .cells #[.int .i64 t.obj, .int .i64 t.dev, .int .i64 t.start, .int .i64 t.speed, .slice (some ⟨b, off, none⟩) m cv] 61) (obj_last w (.cells #[v1, v2, .int .i64 S.gap, v3, v4, v5] 40)))
  have T0 := Lib.hid (obj_last2 w (.cells #[v1, v2, .int .i64 S.gap, v3, v4, v5] 40) (.cells #[.int .i64 t.obj, .int .i64 t.dev, .int .i64 t.start, .int .i64 t.speed, .slice (some ⟨b, off, none⟩) m cv] 61))
  have B0 := Lib.hid (((Below.refl w.heap.size w).alloc (Nat.le_refl _) (.cells #[v1, v2, .int .i64 S.gap, v3, v4, v5] 40)).alloc (by simp) (.cells #[.int .i64 t.obj, .int .i64 t.dev, .int .i64 t.start, .int .i64 t.speed, .slice (some ⟨b, off, none⟩) m cv] 61))
  go_enter Tryz.func19, Tryz.ntmps19
  go_wp2_with fail
  obtain ⟨W0, hW0⟩ : ∃ W0, W0 = (w.alloc (.cells #[v1, v2, .int .i64 S.gap, v3, v4, v5] 40)).alloc (.cells #[.int .i64 t.obj, .int .i64 t.dev, .int .i64 t.start, .int .i64 t.speed, .slice (some ⟨b, off, none⟩) m cv] 61) := ⟨_, rfl⟩
  have hz0 : w.heap.size + 1 < W0.heap.size := by rw [hW0]; simp
  rw [← hW0] at P0 T0 B0 ⊢
  clear hW0
  have zp : w.heap.size < W0.heap.size := by omega
  have zb : b < W0.heap.size := by omega
  have q2 := obj_cell T0.out 2
  have q4 := obj_cell T0.out 4
  simp at q2 q4
  have q5 := (B0.out.cell (p := ⟨b, off, none⟩) hb).trans x0
  have hi1 : (0 : Int) < (m : Int) := by omega
  go_cut [6] (fun s6 wx => ∃ (bo g : Nat), s6 = .pointer (some ⟨bo, 0, none⟩) ∧ W0.heap.size ≤ bo ∧ W0.heap.size ≤ g ∧ Hid (OAt wx w.heap.size bo (.slice (some ⟨g, 0, none⟩) 1 1) [⟨t.start, x.node⟩]) ∧ Hid (Below W0.heap.size W0 wx))
  case first =>
    go_region_held3 (fun w' => w'.cell? ⟨w.heap.size + 1, 2, none⟩ = some (.int .i64 t.start) ∧ w'.cell? ⟨w.heap.size + 1, 4, none⟩ = some (.slice (some ⟨b, off, none⟩) m cv) ∧ w'.cell? ⟨b, off, none⟩ = some (.int .i64 x.node))
      (((go_split_ands; refine ⟨?_, ?_, ?_⟩ <;> first | with_reducible assumption | exact ((show Below W0.heap.size W0 _ from (by (repeat (first | with_reducible exact Below.refl _ _ | with_reducible assumption | ((with_reducible refine Below.setCell ?_ ?_ _); rotate_left; focus (first | exact Nat.le_refl _ | omega | exact Below.size (by assumption) | (simp; done) | (simp; omega))) | ((with_reducible refine Below.alloc ?_ ?_ _); rotate_left; focus (first | exact Nat.le_refl _ | omega | exact Below.size (by assumption) | (simp; done) | (simp; omega))) | (with_reducible refine Below.drew ?_) | (with_reducible refine drewN_ ?_ _))))).cell (p := ⟨_, _, none⟩) (by first | with_reducible assumption | omega)).trans (by with_reducible assumption))))
      ((fail))
    all_goals
      go_wp2_with fail
      go_meet
      first
        | (refine ⟨W0.heap.size + 1, W0.heap.size, rfl, by omega, by omega, ?_, by show Below _ _ _; (repeat (first | with_reducible exact Below.refl _ _ | with_reducible assumption | ((with_reducible refine Below.setCell ?_ ?_ _); rotate_left; focus (first | exact Nat.le_refl _ | omega | exact Below.size (by assumption) | (simp; done) | (simp; omega))) | ((with_reducible refine Below.alloc ?_ ?_ _); rotate_left; focus (first | exact Nat.le_refl _ | omega | exact Below.size (by assumption) | (simp; done) | (simp; omega))) | (with_reducible refine Below.drew ?_) | (with_reducible refine drewN_ ?_ _)))⟩; show OAt _ _ _ _ _; refine ⟨obj_drew (obj_last2 _ _ _), own_stp (x := ⟨t.start, x.node⟩) (obj_drew (obj_old (obj_last _ _))) ?_⟩; omega)
        | (refine ⟨W0.heap.size, W0.heap.size + 1, rfl, by omega, by omega, ?_, by show Below _ _ _; (repeat (first | with_reducible exact Below.refl _ _ | with_reducible assumption | ((with_reducible refine Below.setCell ?_ ?_ _); rotate_left; focus (first | exact Nat.le_refl _ | omega | exact Below.size (by assumption) | (simp; done) | (simp; omega))) | ((with_reducible refine Below.alloc ?_ ?_ _); rotate_left; focus (first | exact Nat.le_refl _ | omega | exact Below.size (by assumption) | (simp; done) | (simp; omega))) | (with_reducible refine Below.drew ?_) | (with_reducible refine drewN_ ?_ _)))⟩; show OAt _ _ _ _ _; refine ⟨obj_drew (obj_old (obj_last _ _)), own_stp (x := ⟨t.start, x.node⟩) (obj_drew (obj_last2 _ _ _)) ?_⟩; omega)
  case rest =>
    obtain ⟨bo, g, rfl, hbo, hgg, hO, hBc⟩ := hcut
    have PC := Lib.hid (keepObj hBc.out P0.out)
    have TC := Lib.hid (keepObj hBc.out T0.out)
    have p0 := obj_cell PC.out 0
    have p1 := obj_cell PC.out 1
    have p2 := obj_cell PC.out 2
    have p3 := obj_cell PC.out 3
    have p4 := obj_cell PC.out 4
    have p5 := obj_cell PC.out 5
    have r0 := obj_cell TC.out 0
    have r1 := obj_cell TC.out 1
    have r2 := obj_cell TC.out 2
    have r3 := obj_cell TC.out 3
    have r4 := obj_cell TC.out 4
    simp at p0 p1 p2 p3 p4 p5 r0 r1 r2 r3 r4
    have z1 := obj_lt PC.out
    have z2 := obj_lt TC.out
    have hzc := hBc.out.size
    have BC := Lib.hid (show Below w.heap.size w wc from by have h := B0.out.trans (hBc.out.mono (by omega)); (repeat (first | with_reducible exact Below.refl _ _ | with_reducible assumption | ((with_reducible refine Below.setCell ?_ ?_ _); rotate_left; focus (first | exact Nat.le_refl _ | omega | exact Below.size (by assumption) | (simp; done) | (simp; omega))) | ((with_reducible refine Below.alloc ?_ ?_ _); rotate_left; focus (first | exact Nat.le_refl _ | omega | exact Below.size (by assumption) | (simp; done) | (simp; omega))) | (with_reducible refine Below.drew ?_) | (with_reducible refine drewN_ ?_ _))))
    clear q2 q4 q5
    go_wp2_with fail
    refine (driveS_any S t v1 v2 v3 v4 v5 _ _ wc (C := w.heap.size) (bo := bo) (bs := w.heap.size) (L0 := [⟨t.start, x.node⟩]) (HN.out.keep BC.out (Nat.le_refl _)) (HV.out.keep BC.out (Nat.le_refl _)) PC.out hO.out (by omega) (fun g' h => by simp [Value.ownBlock] at h; omega) (by omega) HK.out hsz hg hsp hst hvl HW.out (by simp)).mono ?_
    rintro e w2 ⟨c, rfl, hQ, hR⟩
    have BW := Lib.hid (QF.below BC.out hQ (by omega) (by omega) (fun g' h => by simp [Value.ownBlock] at h; omega))
    clear hQ p0 p1 p2 p3 p4 p5 r0 r1 r2 r3 r4
    cases hT : tour S t.speed none t.start t.vis with
    | error c' =>
      rw [hT] at hR
      obtain ⟨rfl, hc⟩ := hR
      have hc' : (c != 0) = true := by simpa using hc
      have HR := Lib.hid (show stopsS S t = .error c from by unfold stopsS; rw [hT])
      clear hT
      go_wp2_with fail
      go_ret2
      refine ⟨?_, BW.out⟩
      unfold StopsRes
      rw [HR.out]
      exact ⟨hc, rfl⟩
    | ok rest =>
      rw [hT] at hR
      obtain ⟨rfl, v', L', hF, hO2, hL⟩ := hR
      obtain ⟨a, n, cc, rfl⟩ := hO2.own.val
      have hn := hO2.own.sl.len
      rw [List.length_map] at hn
      have hv := obj_cell hO2.var 0
      simp at hv
      have zbo := obj_lt hO2.var
      have HO2 := Lib.hid hO2
      have HF := Lib.hid hF
      by_cases hlong : 256 < n
      · have hl : 256 < rest.length + 1 := by
          rcases Nat.lt_or_ge 256 (rest.length + 1) with h | h
          · exact h
          · have := hF.1 (by simp; omega)
            rw [this] at hn
            simp at hn
            omega
        have HR := Lib.hid (show stopsS S t = .error 3 from by unfold stopsS; rw [hT]; exact if_pos hl)
        clear hT hF hO2
        go_wp2_with fail
        go_ret2
        refine ⟨?_, BW.out⟩
        unfold StopsRes
        rw [HR.out]
        exact ⟨by decide, rfl⟩
      · have hl : rest.length + 1 ≤ 256 := by
          rcases Nat.lt_or_ge 256 (rest.length + 1) with h | h
          · have := hF.2 (by simp; omega)
            omega
          · exact h
        have hLL := hF.1 (by simp; omega)
        have HR := Lib.hid (show stopsS S t = .ok (⟨t.start, x.node⟩ :: rest) from by unfold stopsS; rw [hT, HX.out]; exact if_neg (by omega))
        have HLL := Lib.hid hLL
        clear hT hF hO2 hLL
        go_wp2_with fail
        go_ret2
        refine ⟨?_, BW.out⟩
        unfold StopsRes
        rw [HR.out]
        refine ⟨_, rfl, ?_, by simpa using hl⟩
        have q := HO2.out.own
        rw [HLL.out] at q
        exact q
end Go.Proofs.YtmplajpbmojkkaaGreat
