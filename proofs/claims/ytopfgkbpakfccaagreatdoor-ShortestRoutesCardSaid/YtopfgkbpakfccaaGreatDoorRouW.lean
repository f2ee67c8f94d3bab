/-
  The law of routes, walked.
-/
import Derived.Test.YtopfgkbpakfccaaGreatDoorLwU
import Derived.Test.YtopfgkbpakfccaaGreatDoorLenW
set_option linter.unusedSimpArgs false
set_option linter.unusedVariables false
namespace Go.Proofs.YtopfgkbpakfccaaGreatDoor
open Go Go.RowKit Go.Vi
attribute [local go_sem ↓] lo_lt lo_ne lo_ne'
attribute [local go_sem] junk_cell junk_frozen junk_setCell junk_drew drew_junk
set_option maxRecDepth 100000 in
set_option maxHeartbeats 1000000 in
theorem rouLaw (P : List Spt) (Q : List Lne) (vp vq : Value) (x y : Int) (w : World) (hX : GrdAt w.heap.size w vp vq P Q) :
    Calls Tryz.prog 3 #[.agg #[vp, vq], .int .i64 x, .int .i64 y] w fun e w' => e = .returned (.bool true) ∧ Below w.heap.size w w' := by
  have HKN := known_bw w
  have HG : Hid (∀ (w' : World) [Bw w w'], Calls Tryz.prog 15 #[.agg #[vp, vq]] w' fun e w2 => (∃ (v1 v2 : Value) (n : Net), e = .returned (.agg #[v1, v2]) ∧ Ow w'.heap.size w2 44 3 v1 (n.nodes.map Nd.cs) ∧ Ow w'.heap.size w2 90 6 v2 (n.roads.map Rd.cs) ∧ GNet n) ∧ Below w'.heap.size w' w2) := Lib.hid (fun w' _ => gnet_q w' (grd_bw hX))
  clear hX
  go_enter Tryz.func3, Tryz.ntmps3
  go_wp2_with fail
  refine (jk (HKN.out _)).mono ?_
  rintro e _ ⟨rfl, X1, rfl⟩
  go_wp2_with fail
  refine (HG.out _).mono ?_
  rintro e w2 ⟨⟨v1, v2, n, rfl, o1, o2, hn⟩, hb2⟩
  obtain ⟨X2, rfl⟩ := below_some hb2
  have HN := Lib.hid (show NetAt _ _ v1 v2 n from ⟨o1.sl, o2.sl⟩)
  have HGN := Lib.hid hn
  obtain ⟨a1, n1, c1, rfl⟩ := o1.val
  obtain ⟨a2, n2, c2, rfl⟩ := o2.val
  clear o1 o2 hb2 hn HG HKN
  go_upto_region 4 with fail
  obtain ⟨W, hW⟩ : ∃ W, W = (((w.alloc (.cells #[vp, vq] 25)).junk X1).junk X2).alloc (.cells #[.slice a1 n1 c1, .slice a2 n2 c2] 30) := ⟨_, rfl⟩
  have n0 : W.cell? ⟨(((w.alloc (.cells #[vp, vq] 25)).junk X1).junk X2).heap.size, 0, none⟩ = some (.slice a1 n1 c1) := by rw [hW]; simp [go_sem]
  have e1 : W.cell? ⟨(((w.alloc (.cells #[vp, vq] 25)).junk X1).junk X2).heap.size, 1, none⟩ = some (.slice a2 n2 c2) := by rw [hW]; simp [go_sem]
  haveI lb : Lo (((w.alloc (.cells #[vp, vq] 25)).junk X1).junk X2).heap.size W := by rw [hW]; infer_instance
  haveI bw : Bw w W := by rw [hW]; infer_instance
  have HNW : Hid (NetAt W.heap.size W (.slice a1 n1 c1) (.slice a2 n2 c2) n) := Lib.hid (by rw [hW]; exact HN.out.later Bw.b)
  rw [← hW]
  clear hW HN
  generalize (((w.alloc (.cells #[vp, vq] 25)).junk X1).junk X2).heap.size = bx at *
  have HIX : Hid (∀ (z : Int) (w' : World) [Bw W w'], Calls Tryz.prog 17 #[.agg #[.slice a1 n1 c1, .slice a2 n2 c2], .int .i64 z] w' fun e w2 => e = .returned (.int .i64 (idxN n z)) ∧ Below w'.heap.size w' w2) := Lib.hid (fun z w' _ => index_q n _ _ z w' (later_bw HNW.out) HGN.out.ok)
  have HLS : Hid (∀ (w' : World) [Bw W w'], Calls Tryz.prog 18 #[.agg #[.slice a1 n1 c1, .slice a2 n2 c2], .int .i64 x, .int .i64 y] w' (RtsOut w'.heap.size (lstN n x y) w')) := Lib.hid (fun w' _ => leastR_q n HGN.out.ok HGN.out.few x y _ _ w' (later_bw HNW.out))
  have hr100 : n.roads.length ≤ 100 := by have := HGN.out.most; omega
  cases hrt : rtN n x y with
  | some Rl =>
    obtain ⟨R, l⟩ := Rl
    obtain ⟨hsx, hsy⟩ := rt_node hrt
    have hix : ¬ idxN n x < 0 := by have := (idx_some (n := n) (x := x)).2 hsx; omega
    have hiy : ¬ idxN n y < 0 := by have := (idx_some (n := n) (x := y)).2 hsy; omega
    have hls := lstN_some HGN.out.ok HGN.out.few hrt
    have hfew : (x :: R.map Hp.dst).length ≤ 9 := routesF_few 8 ⟨[x], [], 0⟩ _ hls
    rw [hls] at HLS
    have HFR := Lib.hid (findRoute_some n (rtN n) (rtN_of n) x y R l _ _ W HNW.out HGN.out.ok hr100 hrt)
    have HX := Lib.hid (HIX.out x)
    have HY := Lib.hid (HIX.out y)
    generalize idxN n x = ix at *
    generalize idxN n y = iy at *
    simp only [List.length_cons, List.length_map] at hfew
    clear hls hrt hsx hsy HIX
    go_wp2_with fail
    refine HFR.out.mono ?_
    rintro e w5 ⟨vn, vr, rfl, hrm, hb5⟩
    obtain ⟨X5, rfl⟩ := below_some hb5
    have HRM := Lib.hid hrm
    obtain ⟨an, nn, cn, rfl⟩ := hrm.1.val
    obtain ⟨ar, nr, cr, rfl⟩ := hrm.2.val
    clear hrm hb5 HFR
    go_wp2_with fail
    refine (jk (HX.out _)).mono ?_
    rintro e _ ⟨rfl, X6, rfl⟩
    go_wp2_with fail
    refine (jk (HY.out _)).mono ?_
    rintro e _ ⟨rfl, X7, rfl⟩
    go_wp2_with fail
    refine (HLS.out _).mono ?_
    rintro e w8 ⟨un, ur, hlow, rfl, hu, hb8⟩
    obtain ⟨X8, rfl⟩ := below_some hb8
    obtain ⟨bn, mn, dn, rfl, _⟩ := hu.nodes.open
    obtain ⟨br, mr, dr, rfl, _⟩ := hu.roads.open
    have HU := Lib.hid hu
    simp only [Option.getD_some, Option.isSome_some]
    clear hu hb8 hlow HLS HX HY
    have HS : Hid (∀ (M : List Int) (u v : Value) (w' : World), Sl w'.heap.size w' 1 u (M.map i1) → Sl w'.heap.size w' 1 v (M.map i1) → M.length ≤ 9 → Calls Tryz.prog 19 #[u, v] w' fun e w2 => e = .returned (.bool true) ∧ Below w'.heap.size w' w2) := Lib.hid (fun M u v w' h1 h2 hl => by
      have := sameInts_q M M u v w' h1 h2 (by omega) (by omega)
      simpa using this)
    have hl1 : (x :: R.map Hp.dst).length ≤ 9 := by simpa using hfew
    have hl2 : (R.map Hp.road).length ≤ 9 := by simp; omega
    go_wp2_with fail
    refine (jk (HS.out (x :: R.map Hp.dst) _ _ _ (HRM.out.1.sl.later Bw.b) (HU.out.nodes.later Bw.b) hl1)).mono ?_
    rintro e _ ⟨rfl, X9, rfl⟩
    go_wp2_with fail
    refine (jk (HS.out (R.map Hp.road) _ _ _ (HRM.out.2.sl.later Bw.b) (HU.out.roads.later Bw.b) hl2)).mono ?_
    rintro e _ ⟨rfl, X10, rfl⟩
    go_wp2_with fail
    go_ret
    exact ⟨rfl, Bw.b⟩
  | none =>
    have HFR := Lib.hid (findRoute_none n (rtN n) (rtN_of n) x y _ _ W HNW.out HGN.out.ok hr100 hrt)
    unfold routeErr at HFR
    have HX := Lib.hid (HIX.out x)
    have HY := Lib.hid (HIX.out y)
    have qx := idx_some (n := n) (x := x)
    have qy := idx_some (n := n) (x := y)
    have hno : (nodeOf n.nodes x).isSome = true → (nodeOf n.nodes y).isSome = true → lstN n x y = none := fun h1 h2 => lstN_none HGN.out.ok HGN.out.few h1 h2 hrt
    generalize (nodeOf n.nodes x).isSome = bx1 at *
    generalize (nodeOf n.nodes y).isSome = by1 at *
    generalize idxN n x = ix at *
    generalize idxN n y = iy at *
    clear hrt HIX
    cases bx1
    · have hix : ix < 0 := by
        have := qx
        simp at this; omega
      simp only [Bool.false_and, Bool.false_eq_true, if_false] at HFR
      clear qx qy hno
      go_wp2_with fail
      refine (jk HFR.out).mono ?_
      rintro e _ ⟨rfl, X5, rfl⟩
      go_wp2_with fail
      refine (jk (HX.out _)).mono ?_
      rintro e _ ⟨rfl, X6, rfl⟩
      go_wp2_with fail
      go_ret
      exact ⟨rfl, Bw.b⟩
    · have hix : ¬ ix < 0 := by
        have := qx.2 rfl
        omega
      cases by1
      · have hiy : iy < 0 := by
          have := qy
          simp at this; omega
        simp only [Bool.and_false, Bool.false_eq_true, if_false] at HFR
        clear qx qy hno
        go_wp2_with fail
        refine (jk HFR.out).mono ?_
        rintro e _ ⟨rfl, X5, rfl⟩
        go_wp2_with fail
        refine (jk (HX.out _)).mono ?_
        rintro e _ ⟨rfl, X6, rfl⟩
        go_wp2_with fail
        refine (jk (HY.out _)).mono ?_
        rintro e _ ⟨rfl, X7, rfl⟩
        go_wp2_with fail
        go_ret
        exact ⟨rfl, Bw.b⟩
      · have hiy : ¬ iy < 0 := by
          have := qy.2 rfl
          omega
        simp only [Bool.and_self, if_true] at HFR
        rw [hno rfl rfl] at HLS
        clear qx qy hno
        go_wp2_with fail
        refine (jk HFR.out).mono ?_
        rintro e _ ⟨rfl, X5, rfl⟩
        go_wp2_with fail
        refine (jk (HX.out _)).mono ?_
        rintro e _ ⟨rfl, X6, rfl⟩
        go_wp2_with fail
        refine (jk (HY.out _)).mono ?_
        rintro e _ ⟨rfl, X7, rfl⟩
        go_wp2_with fail
        refine (HLS.out _).mono ?_
        rintro e w8 ⟨un, ur, hlow, rfl, hu, hb8⟩
        obtain ⟨X8, rfl⟩ := below_some hb8
        obtain ⟨bn, mn, dn, rfl, _⟩ := hu.nodes.open
        obtain ⟨br, mr, dr, rfl, _⟩ := hu.roads.open
        clear hu hb8 hlow HLS HX HY
        go_wp2_with fail
        go_ret
        exact ⟨rfl, Bw.b⟩
end Go.Proofs.YtopfgkbpakfccaaGreatDoor
