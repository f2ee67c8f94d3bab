/-
  The model's stay: the right cells, nothing more.
-/
import Derived.Test.YtmplajpbmojkkaaGreatLeg
import Derived.Test.YtmplajpbmojkkaaGreatRatA
set_option linter.unusedSimpArgs false
set_option linter.unusedVariables false
namespace Go.Proofs.YtmplajpbmojkkaaGreat
open Go Go.RowKit Go.Vi
set_option maxRecDepth 100000 in
set_option maxHeartbeats 4000000 in
theorem stay_any (n : Net) (v1 v2 : Value) (x a z : Int) (w : World) (hN : NetAt w.heap.size w v1 v2 n) (hK : NetOK n) (ha : 0 ≤ a ∧ a ≤ 4611686018427387904) (hz : 0 ≤ z ∧ z ≤ 4611686018427387904) :
    Calls Tryz.prog 56 #[.agg #[v1, v2], .int .i64 x, .int .i64 a, .int .i64 z] w fun e w' => (∃ g : LegD, e = .returned g.v) ∧ Below w.heap.size w w' := by
  have HN := Lib.hid hN
  have HK := Lib.hid hK
  obtain ⟨pa1, pa2⟩ := ha
  obtain ⟨pz1, pz2⟩ := hz
  clear hN hK
  have P0 := Lib.hid (obj_last2 w (.cells #[v1, v2] 35) (.cells #[.bool false, .string ⟨#[]⟩, .bool false, .string ⟨#[]⟩, .bool false, .string ⟨#[]⟩, .bool false, .string ⟨#[]⟩, .int .i64 0, .bool false, .string ⟨#[]⟩, .bool false, .string ⟨#[]⟩, .bool false, .string ⟨#[]⟩, .bool false, .string ⟨#[]⟩] 156))
  go_enter Tryz.func56, Tryz.ntmps56
  go_wp2_with fail
  refine (at_any n v1 v2 x _ (HN.out.later (by (repeat (first | with_reducible exact Below.refl _ _ | with_reducible assumption | ((with_reducible refine Below.setCell ?_ ?_ _); rotate_left; focus (first | exact Nat.le_refl _ | omega | exact Below.size (by assumption) | (simp; done) | (simp; omega))) | ((with_reducible refine Below.alloc ?_ ?_ _); rotate_left; focus (first | exact Nat.le_refl _ | omega | exact Below.size (by assumption) | (simp; done) | (simp; omega))) | (with_reducible refine Below.drew ?_) | (with_reducible refine drewN_ ?_ _))))) HK.out).mono ?_
  rintro e w2 ⟨⟨p, c, rfl⟩, hb2⟩
  have P2 := Lib.hid (keepObj hb2 P0.out)
  have B2 := Lib.hid (from_ (w := w) hb2 (by (repeat (first | with_reducible exact Below.refl _ _ | with_reducible assumption | ((with_reducible refine Below.setCell ?_ ?_ _); rotate_left; focus (first | exact Nat.le_refl _ | omega | exact Below.size (by assumption) | (simp; done) | (simp; omega))) | ((with_reducible refine Below.alloc ?_ ?_ _); rotate_left; focus (first | exact Nat.le_refl _ | omega | exact Below.size (by assumption) | (simp; done) | (simp; omega))) | (with_reducible refine Below.drew ?_) | (with_reducible refine drewN_ ?_ _)))))
  have z2 := hb2.size
  simp at z2
  clear hb2
  go_wp2_with fail
  obtain ⟨W1, hW1⟩ : ∃ W1, W1 = w2.alloc (.cells #[.int .i64 p.road, .bool p.q.b, .string p.q.s, .bool p.q.c, .string p.q.t] 161) := ⟨_, rfl⟩
  obtain ⟨b9, hb9⟩ : ∃ z, w2.heap.size = z := ⟨_, rfl⟩
  have PP := Lib.hid (obj_last w2 (.cells #[.int .i64 p.road, .bool p.q.b, .string p.q.s, .bool p.q.c, .string p.q.t] 161))
  have PO := Lib.hid (obj_old (o' := .cells #[.int .i64 p.road, .bool p.q.b, .string p.q.s, .bool p.q.c, .string p.q.t] 161) P2.out)
  have BW := Lib.hid (B2.out.alloc B2.out.size (.cells #[.int .i64 p.road, .bool p.q.b, .string p.q.s, .bool p.q.c, .string p.q.t] 161))
  rw [← hW1, hb9] at PP ⊢
  rw [← hW1] at PO BW
  clear hW1
  have zb9 := obj_lt PP.out
  have zo := obj_lt PO.out
  have e0 := obj_cell PP.out 0
  have e1 := obj_cell PP.out 1
  have e2 := obj_cell PP.out 2
  have e3 := obj_cell PP.out 3
  have e4 := obj_cell PP.out 4
  simp at e0 e1 e2 e3 e4
  refine wp_region_noPanic ?_
  refine till_begin (k := 11) (C := fun w' => w'.cell? ⟨b9, 0, none⟩ = some (.int .i64 p.road) ∧ w'.cell? ⟨b9, 1, none⟩ = some (.bool p.q.b) ∧ w'.cell? ⟨b9, 2, none⟩ = some (.string p.q.s) ∧ w'.cell? ⟨b9, 3, none⟩ = some (.bool p.q.c) ∧ w'.cell? ⟨b9, 4, none⟩ = some (.string p.q.t)) (by kernel_rfl) ?_
  have hC : (fun w' => w'.cell? ⟨b9, 0, none⟩ = some (.int .i64 p.road) ∧ w'.cell? ⟨b9, 1, none⟩ = some (.bool p.q.b) ∧ w'.cell? ⟨b9, 2, none⟩ = some (.string p.q.s) ∧ w'.cell? ⟨b9, 3, none⟩ = some (.bool p.q.c) ∧ w'.cell? ⟨b9, 4, none⟩ = some (.string p.q.t)) W1.drew := ⟨e0, e1, e2, e3, e4⟩
  have HB0 := Lib.hid (show Below W1.heap.size W1 W1.drew from ⟨rfl, rfl, rfl, Nat.le_refl _, fun _ _ => rfl⟩)
  refine till_take (i := 0) (v := ?vt04) [11] rfl (by kernel_rfl) (by kernel_rfl) (by kernel_rfl) (by kernel_rfl) (by kernel_rfl) (by kernel_rfl) (by kernel_rfl) (fun _ _ _ h => h) (by rfl) ?yt04 hC ?rt04
  case yt04 =>
    intro W hW
    obtain ⟨j0, j1, j2, j3, j4⟩ := hW
    go_simp
    with_reducible rfl
  try simp only [Act.put, List.setIfInBounds_toArray, List.set_cons_zero, List.set_cons_succ]
  refine till_take (i := 2) (v := ?vt211) [11] rfl (by kernel_rfl) (by kernel_rfl) (by kernel_rfl) (by kernel_rfl) (by kernel_rfl) (by kernel_rfl) (by kernel_rfl) (fun _ _ _ h => h) (by rfl) ?yt211 hC ?rt211
  case yt211 =>
    intro W hW
    obtain ⟨j0, j1, j2, j3, j4⟩ := hW
    go_simp
    with_reducible rfl
  try simp only [Act.put, List.setIfInBounds_toArray, List.set_cons_zero, List.set_cons_succ]
  refine till_take (i := 4) (v := ?vt418) [11] rfl (by kernel_rfl) (by kernel_rfl) (by kernel_rfl) (by kernel_rfl) (by kernel_rfl) (by kernel_rfl) (by kernel_rfl) (fun _ _ _ h => h) (by rfl) ?yt418 hC ?rt418
  case yt418 =>
    intro W hW
    obtain ⟨j0, j1, j2, j3, j4⟩ := hW
    go_simp
    with_reducible rfl
  try simp only [Act.put, List.setIfInBounds_toArray, List.set_cons_zero, List.set_cons_succ]
  refine till_take (i := 5) (v := ?vt525) [11] rfl (by kernel_rfl) (by kernel_rfl) (by kernel_rfl) (by kernel_rfl) (by kernel_rfl) (by kernel_rfl) (by kernel_rfl) (fun _ _ _ h => h) (by rfl) ?yt525 hC ?rt525
  case yt525 =>
    intro W hW
    obtain ⟨j0, j1, j2, j3, j4⟩ := hW
    go_simp
    with_reducible rfl
  try simp only [Act.put, List.setIfInBounds_toArray, List.set_cons_zero, List.set_cons_succ]
  refine till_take (i := 6) (v := ?vt632) [11] rfl (by kernel_rfl) (by kernel_rfl) (by kernel_rfl) (by kernel_rfl) (by kernel_rfl) (by kernel_rfl) (by kernel_rfl) (fun _ _ _ h => h) (by rfl) ?yt632 hC ?rt632
  case yt632 =>
    intro W hW
    obtain ⟨j0, j1, j2, j3, j4⟩ := hW
    go_simp
    with_reducible rfl
  try simp only [Act.put, List.setIfInBounds_toArray, List.set_cons_zero, List.set_cons_succ]
  refine till_take (i := 7) (v := ?vt739) [11] rfl (by kernel_rfl) (by kernel_rfl) (by kernel_rfl) (by kernel_rfl) (by kernel_rfl) (by kernel_rfl) (by kernel_rfl) (fun _ _ _ h => h) (by rfl) ?yt739 hC ?rt739
  case yt739 =>
    intro W hW
    obtain ⟨j0, j1, j2, j3, j4⟩ := hW
    go_simp
    with_reducible rfl
  try simp only [Act.put, List.setIfInBounds_toArray, List.set_cons_zero, List.set_cons_succ]
  refine till_take (i := 8) (v := ?vt846) [11] rfl (by kernel_rfl) (by kernel_rfl) (by kernel_rfl) (by kernel_rfl) (by kernel_rfl) (by kernel_rfl) (by kernel_rfl) (fun _ _ _ h => h) (by rfl) ?yt846 hC ?rt846
  case yt846 =>
    intro W hW
    obtain ⟨j0, j1, j2, j3, j4⟩ := hW
    go_simp
    with_reducible rfl
  try simp only [Act.put, List.setIfInBounds_toArray, List.set_cons_zero, List.set_cons_succ]
  refine till_take (i := 9) (v := ?vt953) [11] rfl (by kernel_rfl) (by kernel_rfl) (by kernel_rfl) (by kernel_rfl) (by kernel_rfl) (by kernel_rfl) (by kernel_rfl) (fun _ _ _ h => h) (by rfl) ?yt953 hC ?rt953
  case yt953 =>
    intro W hW
    obtain ⟨j0, j1, j2, j3, j4⟩ := hW
    go_simp
    with_reducible rfl
  try simp only [Act.put, List.setIfInBounds_toArray, List.set_cons_zero, List.set_cons_succ]
  refine till_ready (rs := [1]) (by kernel_rfl) (by rfl) ?_
  refine TillReady.cons rfl (fun K hK => ?_) TillReady.nil
  go_simp
  refine (ratInt_any a _ pa1 pa2).mono ?_
  rintro e u1 ⟨⟨y1, rfl⟩, hb1⟩
  have HB1 := Lib.hid (HB0.out.trans (hb1.mono HB0.out.size))
  have hC1 : (fun w' => w'.cell? ⟨b9, 0, none⟩ = some (.int .i64 p.road) ∧ w'.cell? ⟨b9, 1, none⟩ = some (.bool p.q.b) ∧ w'.cell? ⟨b9, 2, none⟩ = some (.string p.q.s) ∧ w'.cell? ⟨b9, 3, none⟩ = some (.bool p.q.c) ∧ w'.cell? ⟨b9, 4, none⟩ = some (.string p.q.t)) u1 := ⟨(HB1.out.cell (p := ⟨_, _, none⟩) zb9).trans e0, (HB1.out.cell (p := ⟨_, _, none⟩) zb9).trans e1, (HB1.out.cell (p := ⟨_, _, none⟩) zb9).trans e2, (HB1.out.cell (p := ⟨_, _, none⟩) zb9).trans e3, (HB1.out.cell (p := ⟨_, _, none⟩) zb9).trans e4⟩
  refine hK.out _ _ (fun _ => hC1) ?_
  clear hK K hb1
  try simp only [Act.put, List.setIfInBounds_toArray, List.set_cons_zero, List.set_cons_succ]
  refine till_ready (rs := [3]) (by kernel_rfl) (by rfl) ?_
  refine TillReady.cons rfl (fun K hK => ?_) TillReady.nil
  go_simp
  refine (ratInt_any z _ pz1 pz2).mono ?_
  rintro e u2 ⟨⟨y3, rfl⟩, hb2⟩
  have HB2 := Lib.hid (HB1.out.trans (hb2.mono HB1.out.size))
  have hC2 : (fun w' => w'.cell? ⟨b9, 0, none⟩ = some (.int .i64 p.road) ∧ w'.cell? ⟨b9, 1, none⟩ = some (.bool p.q.b) ∧ w'.cell? ⟨b9, 2, none⟩ = some (.string p.q.s) ∧ w'.cell? ⟨b9, 3, none⟩ = some (.bool p.q.c) ∧ w'.cell? ⟨b9, 4, none⟩ = some (.string p.q.t)) u2 := ⟨(HB2.out.cell (p := ⟨_, _, none⟩) zb9).trans e0, (HB2.out.cell (p := ⟨_, _, none⟩) zb9).trans e1, (HB2.out.cell (p := ⟨_, _, none⟩) zb9).trans e2, (HB2.out.cell (p := ⟨_, _, none⟩) zb9).trans e3, (HB2.out.cell (p := ⟨_, _, none⟩) zb9).trans e4⟩
  refine hK.out _ _ (fun _ => hC2) ?_
  clear hK K hb2
  try simp only [Act.put, List.setIfInBounds_toArray, List.set_cons_zero, List.set_cons_succ]
  refine till_take (i := 10) (v := ?vt1080) [11] rfl (by kernel_rfl) (by kernel_rfl) (by kernel_rfl) (by kernel_rfl) (by kernel_rfl) (by kernel_rfl) (by kernel_rfl) (fun _ _ _ h => h) (by rfl) ?yt1080 hC2 ?rt1080
  case yt1080 =>
    intro W hW
    obtain ⟨j0, j1, j2, j3, j4⟩ := hW
    go_simp
    with_reducible rfl
  try simp only [Act.put, List.setIfInBounds_toArray, List.set_cons_zero, List.set_cons_succ]
  have HO2 := Lib.hid (keepObj HB2.out PO.out)
  refine till_ready (rs := [11]) (by kernel_rfl) (by rfl) ?_
  refine TillReady.cons rfl (fun K hK => ?_) TillReady.nil
  rw [if_pos (by rfl)]
  refine wp_store_row 156 (.tmp 8) (.tmp 27) rfl (w.heap.size + 1) #[.bool y1.b, .string y1.s, .bool y1.c, .string y1.t, .bool y3.b, .string y3.s, .bool y3.c, .string y3.t, .int .i64 p.road, .bool p.q.b, .string p.q.s, .bool p.q.c, .string p.q.t, .bool p.q.b, .string p.q.s, .bool p.q.c, .string p.q.t] (by rfl) (by rfl) _ _ HO2.out iLegT rfl leg_all ?_
  refine hK.out _ _ (fun h => by cases (show true = false from h)) ?_
  clear hK K
  try simp only [Act.put, List.setIfInBounds_toArray, List.set_cons_zero, List.set_cons_succ]
  refine till_done (by kernel_rfl) ?_
  refine NoPanic.normal ?_
  go_wp2_with fail
  refine bodyPost_ret (v := (⟨y1, y3, p.road, p.q, p.q⟩ : LegD).v) ?_ rfl ⟨⟨_, rfl⟩, ?_⟩
  · exact leg_result (by rfl) (by rfl) (setRow_heap _ _ _ _ _ _ HO2.out)
  · exact below_row (BW.out.trans (HB2.out.mono (by omega))) (by omega)
end Go.Proofs.YtmplajpbmojkkaaGreat
