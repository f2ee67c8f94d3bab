/-
  The model's hops: the hops of a drive, or the error.
-/
import Derived.Test.YtmplajpbmojkkaaGreatFindW
import Derived.Test.YtmplajpbmojkkaaGreatOffA
import Derived.Test.YtmplajpbmojkkaaGreatRatA
import Derived.Deep.RegionHeld3
import Derived.Deep.DeepCutAuto
set_option linter.unusedSimpArgs false
set_option linter.unusedVariables false
namespace Go.Proofs.YtmplajpbmojkkaaGreat
open Go Go.RowKit Go.Vi
theorem route_rd {n : Net} {a b l : Int} {R : List Hp} (h : IsRoute n a b R l) (hK : NetOK n) : ∀ x ∈ R, ∃ r ∈ n.roads, roadOf n.roads x.road = some r ∧ x.len = r.len := by
  obtain ⟨_, _, A, B, hA, _, _, hw⟩ := h
  intro x hx
  obtain ⟨u, hu⟩ := hw.mem x hx
  obtain ⟨r, hr, h1, h2, _⟩ := hop_road hA hu
  exact ⟨r, hr, by rw [h1]; exact roadOf_mem hK.roads hr, h2⟩
/-- The nodes of a route. -/
def rnodes (a : Int) (R : List Hp) : List Int := a :: R.map Hp.dst
/-- The hops of a drive, as the model keeps them. -/
def hpmOf (S : Scn) (speed a : Int) (R : List Hp) (i : Nat) : Hpm := ⟨R[i]!.road, (rnodes a R)[i]!, R[i]!.dst, hopTime S.net speed R[i]!.road⟩
def hpmL (S : Scn) (speed a : Int) (R : List Hp) (k : Nat) : List Hpm := (List.range k).map (hpmOf S speed a R)
theorem hpmL_succ (S : Scn) (speed a : Int) (R : List Hp) (k : Nat) : hpmL S speed a R (k + 1) = hpmL S speed a R k ++ [hpmOf S speed a R k] := by simp [hpmL, List.range_succ]
theorem hpmL_len (S : Scn) (speed a : Int) (R : List Hp) (k : Nat) : (hpmL S speed a R k).length = k := by simp [hpmL]
/-- The drive as the model's hops give it. -/
def DriveOut (S : Scn) (speed a b : Int) (B : Nat) (e : Ending) (w' : World) : Prop :=
  (∃ c, driveTo S speed a b = .error c ∧ c ≠ 0 ∧ e = .returned (.tuple #[.slice none 0 0, .int .i64 c])) ∨
  (∃ (R : List Hp) (len : Int) (v : Value), IsRoute S.net a b R len ∧ len ≤ 216895848448 ∧ R.length ≤ 216895848448 ∧ (∀ h ∈ R, hopTime S.net speed h.road ≤ S.gap) ∧ e = .returned (.tuple #[v, .int .i64 0]) ∧ Ow B w' 159 4 v ((hpmL S speed a R R.length).map Hpm.cs))
theorem int_at {B n cap : Nat} {w : World} {a : Option Addr} {L : List Int} (h : Sl B w 1 (.slice a n cap) (L.map i1)) (i : Nat) (hi : i < L.length) : ∃ b off, a = some ⟨b, off, none⟩ ∧ b < B ∧ ∀ j, j < L.length → w.cell? ⟨b, off + j, none⟩ = some (.int .i64 L[j]!) := by
  obtain ⟨b, off, h1, h2, h3⟩ := h.cells i hi
  refine ⟨b, off, h1, h2, fun j hj => ?_⟩
  have := h3 j hj 0 _ rfl
  simpa using this
theorem iHpm : (Tryz.prog.info? 159).map (fun i => (i.zero, i.size, i.bytes)) = some (some (.agg #[.int .i64 0, .int .i64 0, .int .i64 0, .int .i64 0]), 4, 32) := by kernel_rfl
theorem uHpms : Tryz.prog.underlying 148 = some (.slice 159) := by kernel_rfl
theorem hpm_one (h : Hpm) : ∀ u ∈ h.cs, u.oneCell' = true := by
  intro u hu
  simp only [Hpm.cs, List.mem_cons, List.mem_nil_iff, or_false] at hu
  rcases hu with h | h | h | h <;> rw [h] <;> rfl
theorem obj_set6 {w : World} {b : Nat} {T : TypeId} {fr : Nat × Nat} {c0 c1 c2 c3 c4 c5 v0 v1 v2 v3 v4 v5 : Value} (h : w.heap[b]? = some (.cells #[c0, c1, c2, c3, c4, c5] T fr)) : ((((((w.setCell ⟨b, 0, none⟩ v0).setCell ⟨b, 1, none⟩ v1).setCell ⟨b, 2, none⟩ v2).setCell ⟨b, 3, none⟩ v3).setCell ⟨b, 4, none⟩ v4).setCell ⟨b, 5, none⟩ v5).heap[b]? = some (.cells #[v0, v1, v2, v3, v4, v5] T fr) := by
  rw [obj_set (obj_set (obj_set (obj_set (obj_set (obj_set (h))))))]
  simp
theorem tdiv_time (l m : Int) (hl : 1 ≤ l) (hm : 1 ≤ m) : 1 ≤ (l + m - 1).tdiv m ∧ (l + m - 1).tdiv m ≤ l := by
  rw [Int.tdiv_eq_ediv_of_nonneg (by omega)]
  constructor
  · rw [Int.le_ediv_iff_mul_le (by omega)]; omega
  · refine Int.ediv_le_of_le_mul (by omega) ?_
    have h : l * 1 ≤ l * m := Int.mul_le_mul_of_nonneg_left hm (by omega)
    have h2 : (l - 1) * (m - 1) ≥ 0 := Int.mul_nonneg (by omega) (by omega)
    have h3 : (l - 1) * (m - 1) = l * m - l - m + 1 := by
      rw [Int.sub_mul, Int.mul_sub, Int.mul_sub]; omega
    omega
set_option maxRecDepth 100000 in
set_option maxHeartbeats 8000000 in
theorem hopsM_any (S : Scn) (t : Trp) (v1 v2 v3 v4 v5 vt : Value) (a b : Int) (w : World) (hN : NetAt w.heap.size w v1 v2 S.net) (hK : NetOK S.net) (hsz : S.net.roads.length ≤ 100) (hsp : 1 ≤ t.speed ∧ t.speed ≤ 1048576) (hg : 1 ≤ S.gap) :
    Calls Tryz.prog 53 #[S.v v1 v2 v3 v4 v5, t.v vt, .int .i64 a, .int .i64 b] w fun e w' => DriveOut S t.speed a b w.heap.size e w' ∧ Below w.heap.size w w' := by
  have HN := Lib.hid hN
  have HK := Lib.hid hK
  have HS := Lib.hid hsz
  clear hN hK hsz
  go_enter Tryz.func53, Tryz.ntmps53
  go_wp2_with fail
  refine (findRoute_any S.net a b v1 v2 _ (HN.out.later (by (repeat (first | with_reducible exact Below.refl _ _ | with_reducible assumption | ((with_reducible refine Below.setCell ?_ ?_ _); rotate_left; focus (first | exact Nat.le_refl _ | omega | exact Below.size (by assumption) | (simp; done) | (simp; omega))) | ((with_reducible refine Below.alloc ?_ ?_ _); rotate_left; focus (first | exact Nat.le_refl _ | omega | exact Below.size (by assumption) | (simp; done) | (simp; omega))) | (with_reducible refine Below.drew ?_) | (with_reducible refine drewN_ ?_ _))))) HK.out HS.out).mono ?_
  rintro e w1 ⟨hr, hb1⟩
  have P1 := Lib.hid (keepObj hb1 (obj_old (obj_last w (.cells #[v1, v2, .int .i64 S.gap, v3, v4, v5] 40))))
  have T1 := Lib.hid (keepObj hb1 (obj_last2 w (.cells #[v1, v2, .int .i64 S.gap, v3, v4, v5] 40) (.cells #[.int .i64 t.obj, .int .i64 t.dev, .int .i64 t.start, .int .i64 t.speed, vt] 61)))
  have hB1 := from_ (w := w) hb1 (by (repeat (first | with_reducible exact Below.refl _ _ | with_reducible assumption | ((with_reducible refine Below.setCell ?_ ?_ _); rotate_left; focus (first | exact Nat.le_refl _ | omega | exact Below.size (by assumption) | (simp; done) | (simp; omega))) | ((with_reducible refine Below.alloc ?_ ?_ _); rotate_left; focus (first | exact Nat.le_refl _ | omega | exact Below.size (by assumption) | (simp; done) | (simp; omega))) | (with_reducible refine Below.drew ?_) | (with_reducible refine drewN_ ?_ _))))
  have HB1 := Lib.hid hB1
  have hz1 := hb1.size
  simp at hz1
  clear hB1 hb1
  rcases hr with ⟨R, len, vn, vr, rfl, hR, hlen, hRl, hSn, hSr⟩ | ⟨c, rfl, hc, hno⟩
  · replace hSn := hSn.sl
    replace hSr := hSr.sl
    obtain ⟨an, nn, cn, rfl, hnn, hnn1, hnn2⟩ := hSn.open
    obtain ⟨ar, nr, cr, rfl, hnr, hnr1, hnr2⟩ := hSr.open
    have HR := Lib.hid hR
    have HLEN := Lib.hid hlen
    have HSn := Lib.hid hSn
    have HSr := Lib.hid hSr
    rw [List.length_map] at hnn hnr
    rw [List.length_map] at hnr
    have HNN := Lib.hid hnn
    have HNR := Lib.hid hnr
    have HRD := Lib.hid (route_rd hR HK.out)
    rw [hnr] at hRl
    obtain ⟨i0, hi, hz0, hz1', hz2⟩ := info_parts iHpm
    clear hR hSn hSr hnn2 hnr2 hnn hnr
    go_wp2_with fail
    obtain ⟨W1, hW1⟩ : ∃ W1, W1 = w1.alloc (.cells #[.slice an nn cn, .slice ar nr cr, .int .i64 len] 174) := ⟨_, rfl⟩
    have PR := Lib.hid (obj_last w1 (.cells #[.slice an nn cn, .slice ar nr cr, .int .i64 len] 174))
    have PS := Lib.hid (obj_old (o' := .cells #[.slice an nn cn, .slice ar nr cr, .int .i64 len] 174) P1.out)
    have PT := Lib.hid (obj_old (o' := .cells #[.slice an nn cn, .slice ar nr cr, .int .i64 len] 174) T1.out)
    have BW := Lib.hid ((Below.refl w1.heap.size w1).alloc (Nat.le_refl _) (.cells #[.slice an nn cn, .slice ar nr cr, .int .i64 len] 174))
    rw [← hW1] at PR PS PT BW ⊢
    clear hW1
    have zW := obj_lt PR.out
    go_loopw [12, 13] (fun s12 s13 wx => ∃ k : Nat, s13 = .int .i64 k ∧ k ≤ nr ∧ Hid (∀ j, j < k → hopTime S.net t.speed R[j]!.road ≤ S.gap) ∧ Hid (Ow W1.heap.size wx 159 4 s12 ((hpmL S t.speed a R k).map Hpm.cs)) ∧ Hid (Below W1.heap.size W1 wx)) (fun _ s13 _ => nr - (intOf s13).toNat)
    case atStart => exact ⟨0, rfl, Nat.zero_le _, fun j hj => absurd hj (Nat.not_lt_zero _), Ow.nil _ _ _ _, Below.refl _ _⟩
    case round =>
      rename_i s12 _
      obtain ⟨k, rfl, hk, hL, hO, hB⟩ := hrel
      have pS := keepObj hB.out PS.out
      have pT := keepObj hB.out PT.out
      have pR := keepObj hB.out PR.out
      have c0 := obj_cell pS 0
      have c1 := obj_cell pS 1
      have c2 := obj_cell pS 2
      have d3 := obj_cell pT 3
      have r0 := obj_cell pR 0
      have r1 := obj_cell pR 1
      simp at c0 c1 c2 d3 r0 r1
      have z0 := obj_lt pS
      have z1 := obj_lt pT
      have z2 := obj_lt pR
      have HBW := Lib.hid (HB1.out.trans ((BW.out.trans (hB.out.mono (by omega))).mono HB1.out.size))
      clear pS pT pR
      obtain ⟨ao, no, co, rfl⟩ := hO.out.val
      have hno := hO.out.sl.len
      rw [List.length_map, hpmL_len] at hno
      subst hno
      by_cases hlt : k < nr
      · have hkR : k < R.length := by rw [HNR.out]; exact hlt
        obtain ⟨br, offr, rfl, hbr, hcr⟩ := int_at HSr.out k (by rw [List.length_map]; exact hkR)
        obtain ⟨bn, offn, rfl, hbn, hcn⟩ := int_at HSn.out k (by simp; omega)
        have er : w1.cell? ⟨br, offr + k, none⟩ = _ := hcr k (by rw [List.length_map]; exact hkR)
        have en : w1.cell? ⟨bn, offn + k, none⟩ = _ := hcn k (by simp; omega)
        have em : w1.cell? ⟨bn, offn + (k + 1), none⟩ = _ := hcn (k + 1) (by simp; omega)
        have hB1w : Below w1.heap.size w1 wr := BW.out.trans (hB.out.mono (by omega))
        rw [← hB1w.cell (p := ⟨br, _, none⟩) hbr] at er
        rw [← hB1w.cell (p := ⟨bn, _, none⟩) hbn] at en em
        have zwr := hB1w.size
        have zr : br < wr.heap.size := by omega
        have zn : bn < wr.heap.size := by omega
        have eR : (R.map Hp.road)[k]! = R[k]!.road := by rw [getElem!_pos _ _ (by rw [List.length_map]; exact hkR), getElem!_pos R k hkR, List.getElem_map]
        have eN : (a :: R.map Hp.dst)[k + 1]! = R[k]!.dst := by
          rw [getElem!_pos _ _ (by simp; omega), getElem!_pos R k hkR, List.getElem_cons_succ, List.getElem_map]
        rw [eR] at er
        rw [eN] at em
        obtain ⟨x, hx⟩ : ∃ x, x = hpmOf S t.speed a R k := ⟨_, rfl⟩
        have hx1 : R[k]!.road = x.road := by rw [hx]; rfl
        have hx2 : (a :: R.map Hp.dst)[k]! = x.src := by rw [hx]; rfl
        have hx3 : R[k]!.dst = x.dst := by rw [hx]; rfl
        have hx4 : hopTime S.net t.speed R[k]!.road = x.time := by rw [hx]; rfl
        rw [hx1] at er
        rw [hx2] at en
        rw [hx3] at em
        obtain ⟨r, hrm, hro, _⟩ := HRD.out R[k]! (by rw [getElem!_pos R k hkR]; exact List.getElem_mem hkR)
        rw [hx1] at hro
        have hrz := roadErr_zero (HK.out.road r hrm).2
        have hx5 : rdTime t.speed r = x.time := by rw [← hx4, hx1]; unfold hopTime; rw [hro]; rfl
        have HRO := Lib.hid hro
        have HX := Lib.hid hx
        have HX4 := Lib.hid hx4
        obtain ⟨hl1, hl2⟩ := hrz.1
        obtain ⟨hn1, hn2⟩ := hrz.2.1
        clear hcr hcn hB1w eR eN hx hx1 hx2 hx3 hx4 hrm hro hrz
        go_wp2_with fail
        go_cut [14, 15] (fun s14 s15 wx => ∃ (bx : Nat), s14 = .pointer (some ⟨bx, 0, none⟩) ∧ s15 = .bool true ∧ wr.heap.size ≤ bx ∧ Hid (wx.heap[bx]? = some (.cells #[.int .i64 r.id, .int .i64 r.src, .int .i64 r.dst, .int .i64 r.len, .int .i64 r.lim, .bool r.one] 90)) ∧ Hid (Below wr.heap.size wr wx))
        case first =>
          go_region_held3 (fun w' => w'.cell? ⟨w.heap.size, 0, none⟩ = some v1 ∧ w'.cell? ⟨w.heap.size, 1, none⟩ = some v2 ∧ w'.cell? ⟨w1.heap.size, 1, none⟩ = some (.slice (some ⟨br, offr, none⟩) nr cr) ∧ w'.cell? ⟨br, offr + k, none⟩ = some (.int .i64 x.road))
            ((go_split_ands; refine ⟨?_, ?_, ?_, ?_⟩ <;> first | with_reducible assumption | exact ((show Below wr.heap.size wr _ from (by (repeat (first | with_reducible exact Below.refl _ _ | with_reducible assumption | ((with_reducible refine Below.setCell ?_ ?_ _); rotate_left; focus (first | exact Nat.le_refl _ | omega | exact Below.size (by assumption) | (simp; done) | (simp; omega))) | ((with_reducible refine Below.alloc ?_ ?_ _); rotate_left; focus (first | exact Nat.le_refl _ | omega | exact Below.size (by assumption) | (simp; done) | (simp; omega))) | (with_reducible refine Below.drew ?_) | (with_reducible refine drewN_ ?_ _))))).cell (p := ⟨_, _, none⟩) (by first | with_reducible assumption | omega)).trans (by with_reducible assumption)))
            ((go_at_call 64; refine (road_any S.net v1 v2 _ _ (HN.out.later (by have h := HBW.out; (repeat (first | with_reducible exact Below.refl _ _ | with_reducible assumption | ((with_reducible refine Below.setCell ?_ ?_ _); rotate_left; focus (first | exact Nat.le_refl _ | omega | exact Below.size (by assumption) | (simp; done) | (simp; omega))) | ((with_reducible refine Below.alloc ?_ ?_ _); rotate_left; focus (first | exact Nat.le_refl _ | omega | exact Below.size (by assumption) | (simp; done) | (simp; omega))) | (with_reducible refine Below.drew ?_) | (with_reducible refine drewN_ ?_ _))))) HK.out.roads (by have := HK.out.few; omega)).mono ?_; rintro e w2 ⟨rfl, hb2⟩; rw [HRO.out]; have B2 := from_ (w := wr) hb2 (by (repeat (first | with_reducible exact Below.refl _ _ | with_reducible assumption | ((with_reducible refine Below.setCell ?_ ?_ _); rotate_left; focus (first | exact Nat.le_refl _ | omega | exact Below.size (by assumption) | (simp; done) | (simp; omega))) | ((with_reducible refine Below.alloc ?_ ?_ _); rotate_left; focus (first | exact Nat.le_refl _ | omega | exact Below.size (by assumption) | (simp; done) | (simp; omega))) | (with_reducible refine Below.drew ?_) | (with_reducible refine drewN_ ?_ _)))); (first | (have LL := keepObj hb2 (b := wr.heap.size) (o := (.cells #[.int .i64 0, .int .i64 0, .int .i64 0, .int .i64 0, .int .i64 0, .bool false] 90)) (by first | exact obj_last wr (.cells #[.int .i64 0, .int .i64 0, .int .i64 0, .int .i64 0, .int .i64 0, .bool false] 90) | exact obj_drew (obj_last wr (.cells #[.int .i64 0, .int .i64 0, .int .i64 0, .int .i64 0, .int .i64 0, .bool false] 90))); have l0 := obj_cell LL 0; have l1 := obj_cell LL 1; have l2 := obj_cell LL 2; have l3 := obj_cell LL 3; have l4 := obj_cell LL 4; have l5 := obj_cell LL 5; have m0 := obj_free LL 0; have m1 := obj_free LL 1; have m2 := obj_free LL 2; have m3 := obj_free LL 3; have m4 := obj_free LL 4; have m5 := obj_free LL 5; simp at l0 l1 l2 l3 l4 l5; have zl := obj_lt LL) | skip); have zz2 := hb2.size; (try simp at zz2); clear hb2))
          all_goals
            go_wp2_with fail
            go_meet
            refine ⟨_, rfl, rfl, by omega, ?_, by show Below _ _ _; (repeat (first | with_reducible exact Below.refl _ _ | with_reducible assumption | ((with_reducible refine Below.setCell ?_ ?_ _); rotate_left; focus (first | exact Nat.le_refl _ | omega | exact Below.size (by assumption) | (simp; done) | (simp; omega))) | ((with_reducible refine Below.alloc ?_ ?_ _); rotate_left; focus (first | exact Nat.le_refl _ | omega | exact Below.size (by assumption) | (simp; done) | (simp; omega))) | (with_reducible refine Below.drew ?_) | (with_reducible refine drewN_ ?_ _)))⟩
            show _ = _
            first
              | with_reducible exact obj_last _ _
              | with_reducible exact obj_set6 LL
        case rest =>
          obtain ⟨bx, rfl, rfl, hbx, hX6, hBx⟩ := hcut
          have k3 := obj_cell hX6.out 3
          have k4 := obj_cell hX6.out 4
          simp at k3 k4
          have zbx := obj_lt hX6.out
          have hzc := hBx.out.size
          rw [← hBx.out.cell (p := ⟨w.heap.size, 2, none⟩) z0] at c2
          rw [← hBx.out.cell (p := ⟨w.heap.size + 1, 3, none⟩) z1] at d3
          rw [← hBx.out.cell (p := ⟨w1.heap.size, 0, none⟩) z2] at r0
          rw [← hBx.out.cell (p := ⟨w1.heap.size, 1, none⟩) z2] at r1
          rw [← hBx.out.cell (p := ⟨br, _, none⟩) zr] at er
          rw [← hBx.out.cell (p := ⟨bn, _, none⟩) zn] at en em
          have y0 : w.heap.size < wc.heap.size := by omega
          have y1 : w.heap.size + 1 < wc.heap.size := by omega
          have y2 : w1.heap.size < wc.heap.size := by omega
          have y3 : br < wc.heap.size := by omega
          have y4 : bn < wc.heap.size := by omega
          obtain ⟨m, hm⟩ : ∃ m, min t.speed r.lim = m := ⟨_, rfl⟩
          have hm1 : 1 ≤ m ∧ m ≤ 1048576 := by omega
          have hx5' : (r.len + m - 1).tdiv m = x.time := by rw [← hm]; exact hx5
          have hmz : (m == 0) = false := by simp; omega
          obtain ⟨hm1a, hm1b⟩ := hm1
          have HO := Lib.hid hO.out
          have HOW : Hid (∀ W, Below wc.heap.size wc W → W.ownsRow W1.heap.size 159 4 (.slice ao k co) k ((hpmL S t.speed a R k).map Hpm.cs).flatten) := fun W hW => by
            have q := ((hO.out.keep hBx.out).keep hW).1
            rw [List.length_map, hpmL_len] at q
            exact q
          have BC := Lib.hid (hB.out.trans (hBx.out.mono hB.out.size))
          have hk1 : (0 : Int) ≤ (k : Int) := by omega
          have hk2 : (k : Int) < (nr : Int) := by omega
          have hk3 : (0 : Int) ≤ (k : Int) + 1 := by omega
          have hk4 : (k : Int) + 1 < (nn : Int) := by have h1 := HNN.out; have h2 := HNR.out; simp at h1; omega
          have hk5 : k < nn := by omega
          have hk6 : (k : Int) < (nn : Int) := by omega
          have hk7 : IntKind.i64.wrap ((k : Int) + 1) = (k : Int) + 1 := IntWalk.i64_in _ (by omega)
          have hk8 : k + 1 < nn := by omega
          have ht := tdiv_time (r.len) m hn1 hm1a
          rw [hx5'] at ht
          obtain ⟨ht1, ht2⟩ := ht
          clear hX6 c0 c1 z0 z1 z2 zr zn
          by_cases hgt : S.gap < x.time
          · go_wp2_with fail
            go_ret2
            refine ⟨.inl ⟨25, ?_, by decide, rfl⟩, by have h := HBW.out.trans (hBx.out.mono HBW.out.size); (repeat (first | with_reducible exact Below.refl _ _ | with_reducible assumption | ((with_reducible refine Below.setCell ?_ ?_ _); rotate_left; focus (first | exact Nat.le_refl _ | omega | exact Below.size (by assumption) | (simp; done) | (simp; omega))) | ((with_reducible refine Below.alloc ?_ ?_ _); rotate_left; focus (first | exact Nat.le_refl _ | omega | exact Below.size (by assumption) | (simp; done) | (simp; omega))) | (with_reducible refine Below.drew ?_) | (with_reducible refine drewN_ ?_ _)))⟩
            unfold driveTo
            rw [routeOf_some HR.out]
            exact if_pos ⟨R[k]!, by rw [getElem!_pos R k hkR]; exact List.getElem_mem hkR, by rw [HX4.out]; exact hgt⟩
          · go_wp2_with fail
            have HAP := Lib.hid (fun (g : Nat) (hg : (Value.slice ao k co).ownBlock = some g) => HO.out.blk g hg)
            go_region_held3 (fun w' => w'.cell? ⟨w1.heap.size, 0, none⟩ = some (.slice (some ⟨bn, offn, none⟩) nn cn) ∧ w'.cell? ⟨w1.heap.size, 1, none⟩ = some (.slice (some ⟨br, offr, none⟩) nr cr) ∧ w'.cell? ⟨br, offr + k, none⟩ = some (.int .i64 x.road) ∧ w'.cell? ⟨bn, offn + k, none⟩ = some (.int .i64 x.src) ∧ w'.cell? ⟨bn, offn + (k + 1), none⟩ = some (.int .i64 x.dst))
              ((first | (go_split_ands; refine ⟨?_, ?_, ?_, ?_, ?_⟩ <;> first | with_reducible assumption | exact ((show Below wc.heap.size wc _ from (by (repeat (first | with_reducible exact Below.refl _ _ | with_reducible assumption | ((with_reducible refine Below.setCell ?_ ?_ _); rotate_left; focus (first | exact Nat.le_refl _ | omega | exact Below.size (by assumption) | (simp; done) | (simp; omega))) | ((with_reducible refine Below.alloc ?_ ?_ _); rotate_left; focus (first | exact Nat.le_refl _ | omega | exact Below.size (by assumption) | (simp; done) | (simp; omega))) | (with_reducible refine Below.drew ?_) | (with_reducible refine drewN_ ?_ _))))).cell (p := ⟨_, _, none⟩) (by first | with_reducible assumption | omega)).trans (by with_reducible assumption)) | (go_split_ands; exact ⟨u0, u1, u2, u3, u4⟩)))
              ((refine step_append_lies _ (by rfl) _ _ _ (by rfl) W1.heap.size 159 i0 _ 4 32 uHpms hi hz0 hz1' hz2 rfl (by decide) (.slice ao k co) k ((hpmL S t.speed a R k).map Hpm.cs).flatten (by rfl) (HOW.out _ (by (repeat (first | with_reducible exact Below.refl _ _ | with_reducible assumption | ((with_reducible refine Below.setCell ?_ ?_ _); rotate_left; focus (first | exact Nat.le_refl _ | omega | exact Below.size (by assumption) | (simp; done) | (simp; omega))) | ((with_reducible refine Below.alloc ?_ ?_ _); rotate_left; focus (first | exact Nat.le_refl _ | omega | exact Below.size (by assumption) | (simp; done) | (simp; omega))) | (with_reducible refine Below.drew ?_) | (with_reducible refine drewN_ ?_ _)))))
                  ⟨wc.heap.size, 0, none⟩ 1 1 x.cs (by rfl) rfl (World.news_of_block (cs := #[.int .i64 x.road, .int .i64 x.src, .int .i64 x.dst, .int .i64 x.time]) (t := 159) (fr := (0, 0)) (obj_last _ _)) (hpm_one x)
                  (by omega) (by unfold maxLen; omega) (by omega) (by have := BC.out.size; first | omega | (simp; omega)) _ rfl ?_
                intro gg cap w5 hown1 hgrow hat hlt1
                have hall : wc.grownBy w5 (Value.slice ao k co).ownBlock := (grown_of (by (repeat (first | with_reducible exact Below.refl _ _ | with_reducible assumption | ((with_reducible refine Below.setCell ?_ ?_ _); rotate_left; focus (first | exact Nat.le_refl _ | omega | exact Below.size (by assumption) | (simp; done) | (simp; omega))) | ((with_reducible refine Below.alloc ?_ ?_ _); rotate_left; focus (first | exact Nat.le_refl _ | omega | exact Below.size (by assumption) | (simp; done) | (simp; omega))) | (with_reducible refine Below.drew ?_) | (with_reducible refine drewN_ ?_ _))))).trans hgrow
                have u0 := (hall.cell_far ⟨w1.heap.size, 0, none⟩ y2 (fun e => by have := (HAP.out _ e.symm).1; simp at this; omega)).trans r0
                have u1 := (hall.cell_far ⟨w1.heap.size, 1, none⟩ y2 (fun e => by have := (HAP.out _ e.symm).1; simp at this; omega)).trans r1
                have u2 := (hall.cell_far ⟨br, offr + k, none⟩ y3 (fun e => by have := (HAP.out _ e.symm).1; simp at this; omega)).trans er
                have u3 := (hall.cell_far ⟨bn, offn + k, none⟩ y4 (fun e => by have := (HAP.out _ e.symm).1; simp at this; omega)).trans en
                have u4 := (hall.cell_far ⟨bn, offn + (k + 1), none⟩ y4 (fun e => by have := (HAP.out _ e.symm).1; simp at this; omega)).trans em
                have HALL := Lib.hid hall
                have HOWN := Lib.hid hown1
                clear hgrow hat hlt1 hall hown1))
            all_goals
              go_wp2_with fail
              go_roundw
              case rel =>
                refine ⟨k + 1, by go_num, by omega, fun j hj => ?_, ?_, ?_⟩
                · rcases Nat.lt_succ_iff_lt_or_eq.1 hj with h1 | h1
                  · exact hL.out j h1
                  · subst h1; rw [HX4.out]; omega
                · show Ow _ _ _ _ _ _
                  rw [hpmL_succ, List.map_append, ← HX.out]
                  exact Ow.grow (R := (hpmL S t.speed a R k).map Hpm.cs) (N := [x.cs]) (m := 1) (by rw [List.length_map, hpmL_len]; simpa only [List.flatten_cons, List.flatten_nil, List.append_nil] using HOWN.out) rfl (fun r hr => by obtain ⟨y, _, rfl⟩ := List.mem_map.1 hr; rfl) (fun r hr => by simp at hr; subst hr; rfl)
                · exact BC.out.grown HALL.out BC.out.size (fun g hg => (HAP.out g hg).1)
              case measure => simp [intOf]; omega
      · obtain rfl : k = nr := by omega
        go_wp2_with fail
        go_ret2
        refine ⟨.inr ⟨R, len, _, HR.out, HLEN.out, by rw [HNR.out]; exact hRl, fun h hh => ?_, rfl, ?_⟩, by have h := HBW.out; (repeat (first | with_reducible exact Below.refl _ _ | with_reducible assumption | ((with_reducible refine Below.setCell ?_ ?_ _); rotate_left; focus (first | exact Nat.le_refl _ | omega | exact Below.size (by assumption) | (simp; done) | (simp; omega))) | ((with_reducible refine Below.alloc ?_ ?_ _); rotate_left; focus (first | exact Nat.le_refl _ | omega | exact Below.size (by assumption) | (simp; done) | (simp; omega))) | (with_reducible refine Below.drew ?_) | (with_reducible refine drewN_ ?_ _)))⟩
        · obtain ⟨i, hi, rfl⟩ := List.getElem_of_mem hh
          have := hL.out i (by have := HNR.out; omega)
          rw [getElem!_pos R i hi] at this; exact this
        · have q := hO.out.mono (B' := w.heap.size) (by omega)
          rw [HNR.out]; exact q
  · have hc' : (c != 0) = true := by rw [hc]; simpa using routeErr_ne S.net a b
    clear hc
    go_wp2_with fail
    go_ret2
    exact ⟨.inl ⟨31, by unfold driveTo; rw [routeOf_none hno], by decide, rfl⟩, by have h := HB1.out; (repeat (first | with_reducible exact Below.refl _ _ | with_reducible assumption | ((with_reducible refine Below.setCell ?_ ?_ _); rotate_left; focus (first | exact Nat.le_refl _ | omega | exact Below.size (by assumption) | (simp; done) | (simp; omega))) | ((with_reducible refine Below.alloc ?_ ?_ _); rotate_left; focus (first | exact Nat.le_refl _ | omega | exact Below.size (by assumption) | (simp; done) | (simp; omega))) | (with_reducible refine Below.drew ?_) | (with_reducible refine drewN_ ?_ _)))⟩
end Go.Proofs.YtmplajpbmojkkaaGreat
