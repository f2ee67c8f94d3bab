/-
 Ways that can be travelled, exactly: checkLeg, CheckWay.
-/
import Derived.Test.YtcelpkbmcmnogaaGreatDoorCwA
import Derived.Test.YtcelpkbmcmnogaaGreatDoorAlgW
import Derived.Test.YtcelpkbmcmnogaaGreatDoorPlcM
set_option linter.unusedSimpArgs false
set_option linter.unusedVariables false
namespace Go.Proofs.YtcelpkbmcmnogaaGreatDoor
open Go Go.RowKit Go.Vi
attribute [local go_sem ↓] lo_lt lo_ne lo_ne'
attribute [local go_sem] junk_cell junk_frozen junk_setCell junk_drew drew_junk
attribute [local go_sem high] eqR_run eqG_run eqP_run neR_run
/-- The error of a leg behind a position. -/
def ckLeg (n : Net) (x : Lg) (s : Plc) : Int := if orI [chkP n ⟨x.road, x.a⟩, chkP n ⟨x.road, x.b⟩] ≠ 0 then orI [chkP n ⟨x.road, x.a⟩, chkP n ⟨x.road, x.b⟩] else if cmpR x.a x.b = 0 then 6 else if 0 < cmpR x.a x.b ∧ ((roadOf n.roads x.road).getD rd0).one = true then 24 else if sameN n s ⟨x.road, x.a⟩ = false then 12 else 0
theorem or_two (a b : Int) : orI [a, b] = if a = 0 then b else a := by
 simp only [orI]
 by_cases h : a = 0
 ·rw [if_pos h, if_pos h]
  by_cases h2 : b = 0
  ·rw [if_pos h2, h2]
  ·rw [if_neg h2]
 ·rw [if_neg h, if_neg h]
set_option maxRecDepth 100000 in
set_option maxHeartbeats 2000000 in
theorem ckLeg_q (n : Net) (x : Lg) (s : Plc) (v1 v2 : Value) (w : World) (hN : NetAt w.heap.size w v1 v2 n) (hK : NetOK n) (ha : Sm x.a) (hb : Sm x.b) (hs : Sm s.off) :
  Calls Tryz.prog 33 #[.agg #[v1, v2], .agg #[.int .i64 x.road, .bool (zs x.a.num), .string (zx x.a.num), .bool false, .string (ry x.a.den), .bool (zs x.b.num), .string (zx x.b.num), .bool false, .string (ry x.b.den)], .agg #[.int .i64 s.road, .bool (zs s.off.num), .string (zx s.off.num), .bool false, .string (ry s.off.den)]] w fun e w' => e = .returned (.int .i64 (ckLeg n x s)) ∧ Below w.heap.size w w' := by
 have HP0 := chk_bw hN hK ⟨x.road, x.a⟩ ha
 have HQ0 := chk_bw hN hK ⟨x.road, x.b⟩ hb
 have HS0 := same_bw hN hK s ⟨x.road, x.a⟩ hs ha
 have HR0 := road_bw hN hK x.road
 have HC := Lib.hid (fun w' => compare_q x.a x.b w' ha hb)
 obtain ⟨out, hout⟩ : ∃ o, ckLeg n x s = o := ⟨_, rfl⟩
 rw [hout]
 unfold ckLeg at hout
 generalize chkP n ⟨x.road, x.a⟩ = ca at HP0 hout
 generalize chkP n ⟨x.road, x.b⟩ = cb at HQ0 hout
 generalize sameN n s ⟨x.road, x.a⟩ = sm at HS0 hout
 generalize cmpR x.a x.b = cm at HC hout
 generalize (roadOf n.roads x.road).getD rd0 = rd at HR0 hout
 generalize (roadOf n.roads x.road).isSome = ri at HR0
 obtain ⟨o1, ho1⟩ : ∃ o, orI [ca, cb] = o := ⟨_, rfl⟩
 rw [ho1] at hout
 have HOR := Lib.hid ho1
 have HOU := Lib.hid hout
 have HP : Hid (∀ (w' : World) [Bw w w'], Calls Tryz.prog 32 #[.agg #[v1, v2], .agg #[.int .i64 x.road, .bool (zs x.a.num), .string (zx x.a.num), .bool false, .string (ry x.a.den)]] w' fun e w2 => e = .returned (.int .i64 ca) ∧ Below w'.heap.size w' w2) := Lib.hid HP0.out
 have HQ : Hid (∀ (w' : World) [Bw w w'], Calls Tryz.prog 32 #[.agg #[v1, v2], .agg #[.int .i64 x.road, .bool (zs x.b.num), .string (zx x.b.num), .bool false, .string (ry x.b.den)]] w' fun e w2 => e = .returned (.int .i64 cb) ∧ Below w'.heap.size w' w2) := Lib.hid HQ0.out
 have HS : Hid (∀ (w' : World) [Bw w w'], Calls Tryz.prog 17 #[.agg #[v1, v2], .agg #[.int .i64 s.road, .bool (zs s.off.num), .string (zx s.off.num), .bool false, .string (ry s.off.den)], .agg #[.int .i64 x.road, .bool (zs x.a.num), .string (zx x.a.num), .bool false, .string (ry x.a.den)]] w' fun e w2 => e = .returned (.bool sm) ∧ Below w'.heap.size w' w2) := Lib.hid HS0.out
 unfold Rd.v at HR0
 simp only [rV] at HC
 clear hN hK ha hb hs HP0 HQ0 HS0 hout ho1
 go_enter Tryz.func33, Tryz.ntmps33
 go_upto_region 1 with fail
 obtain ⟨W, hW⟩ : ∃ W, W = (((w.alloc (.cells #[v1, v2] 36)).alloc (.cells #[.int .i64 x.road, .bool (zs x.a.num), .string (zx x.a.num), .bool false, .string (ry x.a.den), .bool (zs x.b.num), .string (zx x.b.num), .bool false, .string (ry x.b.den)] 55)).alloc (.cells #[.int .i64 s.road, .bool (zs s.off.num), .string (zx s.off.num), .bool false, .string (ry s.off.den)] 43)) := ⟨_, rfl⟩
 have n0 : W.cell? ⟨w.heap.size, 0, none⟩ = some v1 := by rw [hW]; simp [go_sem]
 have n1 : W.cell? ⟨w.heap.size, 1, none⟩ = some v2 := by rw [hW]; simp [go_sem]
 have x0 : W.cell? ⟨w.heap.size + 1, 0, none⟩ = some (.int .i64 x.road) := by rw [hW]; simp [go_sem]
 have x1 : W.cell? ⟨w.heap.size + 1, 1, none⟩ = some (.bool (zs x.a.num)) := by rw [hW]; simp [go_sem]
 have x2 : W.cell? ⟨w.heap.size + 1, 2, none⟩ = some (.string (zx x.a.num)) := by rw [hW]; simp [go_sem]
 have x3 : W.cell? ⟨w.heap.size + 1, 3, none⟩ = some (.bool false) := by rw [hW]; simp [go_sem]
 have x4 : W.cell? ⟨w.heap.size + 1, 4, none⟩ = some (.string (ry x.a.den)) := by rw [hW]; simp [go_sem]
 have x5 : W.cell? ⟨w.heap.size + 1, 5, none⟩ = some (.bool (zs x.b.num)) := by rw [hW]; simp [go_sem]
 have x6 : W.cell? ⟨w.heap.size + 1, 6, none⟩ = some (.string (zx x.b.num)) := by rw [hW]; simp [go_sem]
 have x7 : W.cell? ⟨w.heap.size + 1, 7, none⟩ = some (.bool false) := by rw [hW]; simp [go_sem]
 have x8 : W.cell? ⟨w.heap.size + 1, 8, none⟩ = some (.string (ry x.b.den)) := by rw [hW]; simp [go_sem]
 have s0 : W.cell? ⟨w.heap.size + 1 + 1, 0, none⟩ = some (.int .i64 s.road) := by rw [hW]; simp [go_sem]
 have s1 : W.cell? ⟨w.heap.size + 1 + 1, 1, none⟩ = some (.bool (zs s.off.num)) := by rw [hW]; simp [go_sem]
 have s2 : W.cell? ⟨w.heap.size + 1 + 1, 2, none⟩ = some (.string (zx s.off.num)) := by rw [hW]; simp [go_sem]
 have s3 : W.cell? ⟨w.heap.size + 1 + 1, 3, none⟩ = some (.bool false) := by rw [hW]; simp [go_sem]
 have s4 : W.cell? ⟨w.heap.size + 1 + 1, 4, none⟩ = some (.string (ry s.off.den)) := by rw [hW]; simp [go_sem]
 haveI ln : Lo w.heap.size W := by rw [hW]; infer_instance
 haveI lx : Lo (w.heap.size + 1) W := by rw [hW]; infer_instance
 haveI ls : Lo (w.heap.size + 1 + 1) W := by rw [hW]; infer_instance
 haveI bw : Bw w W := by rw [hW]; infer_instance
 rw [← hW]
 clear hW
 generalize w.heap.size + 1 + 1 = bs at *
 generalize w.heap.size + 1 = bx at *
 generalize w.heap.size = bn at n0 n1 ln ⊢
 refine wp_flow2 [(12, [10]), (13, [11])] [(12, [10]), (13, [11])] [(1, [0]), (3, [2]), (4, [1, 3]), (6, [5]), (8, [7]), (9, [6, 8]), (12, [10, 4]), (13, [11, 9])] [(0, some 13), (1, some 14), (2, some 15), (3, some 16), (4, some 17), (5, some 18), (6, some 19), (7, some 20), (8, some 21), (9, some 22), (10, some 7), (11, some 8), (12, none), (13, none)] [(4, .pointer (some ⟨bx, 0, none⟩))] [.val (.pointer (some ⟨bx, 0, none⟩)), .val (.int .i64 x.road), .val (.pointer (some ⟨bx, 1, none⟩)), .val (.agg #[.bool (zs x.a.num), .string (zx x.a.num), .bool false, .string (ry x.a.den)]), .val (.agg #[.int .i64 x.road, .bool (zs x.a.num), .string (zx x.a.num), .bool false, .string (ry x.a.den)]), .val (.pointer (some ⟨bx, 0, none⟩)), .val (.int .i64 x.road), .val (.pointer (some ⟨bx, 5, none⟩)), .val (.agg #[.bool (zs x.b.num), .string (zx x.b.num), .bool false, .string (ry x.b.den)]), .val (.agg #[.int .i64 x.road, .bool (zs x.b.num), .string (zx x.b.num), .bool false, .string (ry x.b.den)]), .box 43 10 (fun _ => #[.int .i64 0, .bool false, .string ⟨#[]⟩, .bool false, .string ⟨#[]⟩]), .box 43 11 (fun _ => #[.int .i64 0, .bool false, .string ⟨#[]⟩, .bool false, .string ⟨#[]⟩]), .box 43 10 (fun _ => #[.int .i64 x.road, .bool (zs x.a.num), .string (zx x.a.num), .bool false, .string (ry x.a.den)]), .box 43 11 (fun _ => #[.int .i64 x.road, .bool (zs x.b.num), .string (zx x.b.num), .bool false, .string (ry x.b.den)])] (by kernel_rfl) (by kernel_rfl) (by kernel_rfl) (by kernel_rfl) (by kernel_rfl) ⟨rfl, trivial⟩ ⟨trivial, trivial, trivial, trivial, trivial, trivial, trivial, trivial, trivial, trivial, ⟨.inl rfl, fun _ _ _ => rfl⟩, ⟨.inl rfl, fun _ _ _ => rfl⟩, ⟨.inr (by decide), fun _ _ _ => rfl⟩, ⟨.inr (by decide), fun _ _ _ => rfl⟩, trivial⟩ ?_ ?_
 ·refine ⟨?_, ?_, ?_, ?_, ?_, ?_, ?_, ?_, ?_, ?_, ?_, ?_, ?_, ?_, trivial⟩
  ·intro f ρ w' S hd hx hc hB hA hD
   have h4 : ρ (.tmp 4) = .pointer (some ⟨bx, 0, none⟩) := hx (4, .pointer (some ⟨bx, 0, none⟩)) (by simp)
   refine fl_val (by rfl) (by rfl) ?_
   simp [execOp, go_sem, h4]
  ·intro f ρ w' S hd hx hc hB hA hD
   have h13 : ρ (.tmp 13) = .pointer (some ⟨bx, 0, none⟩) := (hd 0 13 (by decide)).trans (hA 0 (by decide)).1
   have c0x' := (hB.cell (p := ⟨bx, 0, none⟩) lx.lt).trans x0
   refine fl_val (by rfl) (by rfl) ?_
   simp [execOp, go_sem, h13, c0x']
  ·intro f ρ w' S hd hx hc hB hA hD
   have h4 : ρ (.tmp 4) = .pointer (some ⟨bx, 0, none⟩) := hx (4, .pointer (some ⟨bx, 0, none⟩)) (by simp)
   refine fl_val (by rfl) (by rfl) ?_
   simp [execOp, go_sem, h4]
  ·intro f ρ w' S hd hx hc hB hA hD
   have h15 : ρ (.tmp 15) = .pointer (some ⟨bx, 1, none⟩) := (hd 2 15 (by decide)).trans (hA 2 (by decide)).1
   have c1x' := (hB.cell (p := ⟨bx, 1, none⟩) lx.lt).trans x1
   have c2x' := (hB.cell (p := ⟨bx, 2, none⟩) lx.lt).trans x2
   have c3x' := (hB.cell (p := ⟨bx, 3, none⟩) lx.lt).trans x3
   have c4x' := (hB.cell (p := ⟨bx, 4, none⟩) lx.lt).trans x4
   refine fl_val (by rfl) (by rfl) ?_
   simp [execOp, go_sem, h15, c1x', c2x', c3x', c4x']
  ·intro f ρ w' S hd hx hc hB hA hD
   have h14 : ρ (.tmp 14) = .int .i64 x.road := (hd 1 14 (by decide)).trans (hA 1 (by decide)).1
   have h16 : ρ (.tmp 16) = .agg #[.bool (zs x.a.num), .string (zx x.a.num), .bool false, .string (ry x.a.den)] := (hd 3 16 (by decide)).trans (hA 3 (by decide)).1
   refine fl_val (by rfl) (by rfl) ?_
   simp [execOp, go_sem, h14, h16]
  ·intro f ρ w' S hd hx hc hB hA hD
   have h4 : ρ (.tmp 4) = .pointer (some ⟨bx, 0, none⟩) := hx (4, .pointer (some ⟨bx, 0, none⟩)) (by simp)
   refine fl_val (by rfl) (by rfl) ?_
   simp [execOp, go_sem, h4]
  ·intro f ρ w' S hd hx hc hB hA hD
   have h18 : ρ (.tmp 18) = .pointer (some ⟨bx, 0, none⟩) := (hd 5 18 (by decide)).trans (hA 5 (by decide)).1
   have c0x' := (hB.cell (p := ⟨bx, 0, none⟩) lx.lt).trans x0
   refine fl_val (by rfl) (by rfl) ?_
   simp [execOp, go_sem, h18, c0x']
  ·intro f ρ w' S hd hx hc hB hA hD
   have h4 : ρ (.tmp 4) = .pointer (some ⟨bx, 0, none⟩) := hx (4, .pointer (some ⟨bx, 0, none⟩)) (by simp)
   refine fl_val (by rfl) (by rfl) ?_
   simp [execOp, go_sem, h4]
  ·intro f ρ w' S hd hx hc hB hA hD
   have h20 : ρ (.tmp 20) = .pointer (some ⟨bx, 5, none⟩) := (hd 7 20 (by decide)).trans (hA 7 (by decide)).1
   have c5x' := (hB.cell (p := ⟨bx, 5, none⟩) lx.lt).trans x5
   have c6x' := (hB.cell (p := ⟨bx, 6, none⟩) lx.lt).trans x6
   have c7x' := (hB.cell (p := ⟨bx, 7, none⟩) lx.lt).trans x7
   have c8x' := (hB.cell (p := ⟨bx, 8, none⟩) lx.lt).trans x8
   refine fl_val (by rfl) (by rfl) ?_
   simp [execOp, go_sem, h20, c5x', c6x', c7x', c8x']
  ·intro f ρ w' S hd hx hc hB hA hD
   have h19 : ρ (.tmp 19) = .int .i64 x.road := (hd 6 19 (by decide)).trans (hA 6 (by decide)).1
   have h21 : ρ (.tmp 21) = .agg #[.bool (zs x.b.num), .string (zx x.b.num), .bool false, .string (ry x.b.den)] := (hd 8 21 (by decide)).trans (hA 8 (by decide)).1
   refine fl_val (by rfl) (by rfl) ?_
   simp [execOp, go_sem, h19, h21]
  ·intro f ρ w' S hd hx hc hB hA hD
   refine fl_box (by rfl) (by rfl) hB.size (fun _ _ => rfl) ?_
   simp [execOp, go_sem]
  ·intro f ρ w' S hd hx hc hB hA hD
   refine fl_box (by rfl) (by rfl) hB.size (fun _ _ => rfl) ?_
   simp [execOp, go_sem]
  ·intro f ρ w' S hd hx hc hB hA hD
   have h17 : ρ (.tmp 17) = .agg #[.int .i64 x.road, .bool (zs x.a.num), .string (zx x.a.num), .bool false, .string (ry x.a.den)] := (hd 4 17 (by decide)).trans (hA 4 (by decide)).1
   obtain ⟨b, p1, p2, p3, p4⟩ := (hA 10 (by decide)).1
   have h7 : ρ (.tmp 7) = .pointer (some ⟨b, 0, none⟩) := (hd 10 7 (by decide)).trans p1
   have c0' := obj_cell p4 0
   have c1' := obj_cell p4 1
   have c2' := obj_cell p4 2
   have c3' := obj_cell p4 3
   have c4' := obj_cell p4 4
   have z0' := obj_free p4 0
   have z1' := obj_free p4 1
   have z2' := obj_free p4 2
   have z3' := obj_free p4 3
   have z4' := obj_free p4 4
   simp at c0' c1' c2' c3' c4'
   have hlt := obj_lt p4
   refine fl_store (w' := (((((w'.setCell ⟨b, 0, none⟩ (.int .i64 x.road)).setCell ⟨b, 1, none⟩ (.bool (zs x.a.num))).setCell ⟨b, 2, none⟩ (.string (zx x.a.num))).setCell ⟨b, 3, none⟩ (.bool false)).setCell ⟨b, 4, none⟩ (.string (ry x.a.den)))) (by rfl) (by decide) ⟨10, by decide, p2⟩ p1 p3 (obj_lt p4) (fun _ _ => rfl) ?_ ?_ ?_
   ·simp [execOp, go_sem, h17, h7, c0', c1', c2', c3', c4', z0', z1', z2', z3', z4']
   ·exact Ext.of_grown (row5 _ b _ _ _ _ _) (fun g hg => by injection hg with hg; exact hg.symm)
   ·rw [obj_set (obj_set (obj_set (obj_set (obj_set p4))))]; simp
  ·intro f ρ w' S hd hx hc hB hA hD
   have h22 : ρ (.tmp 22) = .agg #[.int .i64 x.road, .bool (zs x.b.num), .string (zx x.b.num), .bool false, .string (ry x.b.den)] := (hd 9 22 (by decide)).trans (hA 9 (by decide)).1
   obtain ⟨b, p1, p2, p3, p4⟩ := (hA 11 (by decide)).1
   have h8 : ρ (.tmp 8) = .pointer (some ⟨b, 0, none⟩) := (hd 11 8 (by decide)).trans p1
   have c0' := obj_cell p4 0
   have c1' := obj_cell p4 1
   have c2' := obj_cell p4 2
   have c3' := obj_cell p4 3
   have c4' := obj_cell p4 4
   have z0' := obj_free p4 0
   have z1' := obj_free p4 1
   have z2' := obj_free p4 2
   have z3' := obj_free p4 3
   have z4' := obj_free p4 4
   simp at c0' c1' c2' c3' c4'
   have hlt := obj_lt p4
   refine fl_store (w' := (((((w'.setCell ⟨b, 0, none⟩ (.int .i64 x.road)).setCell ⟨b, 1, none⟩ (.bool (zs x.b.num))).setCell ⟨b, 2, none⟩ (.string (zx x.b.num))).setCell ⟨b, 3, none⟩ (.bool false)).setCell ⟨b, 4, none⟩ (.string (ry x.b.den)))) (by rfl) (by decide) ⟨11, by decide, p2⟩ p1 p3 (obj_lt p4) (fun _ _ => rfl) ?_ ?_ ?_
   ·simp [execOp, go_sem, h22, h8, c0', c1', c2', c3', c4', z0', z1', z2', z3', z4']
   ·exact Ext.of_grown (row5 _ b _ _ _ _ _) (fun g hg => by injection hg with hg; exact hg.symm)
   ·rw [obj_set (obj_set (obj_set (obj_set (obj_set p4))))]; simp
 ·intro f w' S hB hS hD
  obtain ⟨ba, p1a, _, _, p4a⟩ := (hS 12 (by kernel_rfl)).1
  obtain ⟨bb, p1b, _, _, p4b⟩ := (hS 13 (by kernel_rfl)).1
  simp only [putAll, Act.put, List.setIfInBounds_toArray, List.set_cons_zero, List.set_cons_succ]
  rw [p1a, p1b]
  obtain ⟨X, rfl⟩ := below_some hB
  haveI bv : Bw W (W.junk X) := ⟨hB⟩
  haveI bwv : Bw w (W.junk X) := ⟨bw.b.trans (hB.mono bw.b.size)⟩
  replace n0 := (hB.cell (p := ⟨bn, 0, none⟩) ln.lt).trans n0
  replace n1 := (hB.cell (p := ⟨bn, 1, none⟩) ln.lt).trans n1
  replace ln : Lo bn (W.junk X) := ⟨Nat.lt_of_lt_of_le ln.lt hB.size⟩
  replace x0 := (hB.cell (p := ⟨bx, 0, none⟩) lx.lt).trans x0
  replace x1 := (hB.cell (p := ⟨bx, 1, none⟩) lx.lt).trans x1
  replace x2 := (hB.cell (p := ⟨bx, 2, none⟩) lx.lt).trans x2
  replace x3 := (hB.cell (p := ⟨bx, 3, none⟩) lx.lt).trans x3
  replace x4 := (hB.cell (p := ⟨bx, 4, none⟩) lx.lt).trans x4
  replace x5 := (hB.cell (p := ⟨bx, 5, none⟩) lx.lt).trans x5
  replace x6 := (hB.cell (p := ⟨bx, 6, none⟩) lx.lt).trans x6
  replace x7 := (hB.cell (p := ⟨bx, 7, none⟩) lx.lt).trans x7
  replace x8 := (hB.cell (p := ⟨bx, 8, none⟩) lx.lt).trans x8
  replace lx : Lo bx (W.junk X) := ⟨Nat.lt_of_lt_of_le lx.lt hB.size⟩
  replace s0 := (hB.cell (p := ⟨bs, 0, none⟩) ls.lt).trans s0
  replace s1 := (hB.cell (p := ⟨bs, 1, none⟩) ls.lt).trans s1
  replace s2 := (hB.cell (p := ⟨bs, 2, none⟩) ls.lt).trans s2
  replace s3 := (hB.cell (p := ⟨bs, 3, none⟩) ls.lt).trans s3
  replace s4 := (hB.cell (p := ⟨bs, 4, none⟩) ls.lt).trans s4
  replace ls : Lo bs (W.junk X) := ⟨Nat.lt_of_lt_of_le ls.lt hB.size⟩
  haveI loa : Lo ba (W.junk X) := ⟨obj_lt p4a⟩
  have a0 := obj_cell p4a 0
  have a1 := obj_cell p4a 1
  have a2 := obj_cell p4a 2
  have a3 := obj_cell p4a 3
  have a4 := obj_cell p4a 4
  simp at a0 a1 a2 a3 a4
  haveI lob : Lo bb (W.junk X) := ⟨obj_lt p4b⟩
  have b0 := obj_cell p4b 0
  have b1 := obj_cell p4b 1
  have b2 := obj_cell p4b 2
  have b3 := obj_cell p4b 3
  have b4 := obj_cell p4b 4
  simp at b0 b1 b2 b3 b4
  generalize hV : W.junk X = V at *
  clear hS hB hD p4a p4b hV bv bw p1a p1b
  go_upto_region 2 with fail
  refine wp_jtail 6 (by kernel_rfl) (by kernel_rfl) ?_
  simp only [List.take_succ_cons, List.take_zero, List.drop_succ_cons, List.drop_zero]
  repeat (go_big_quiet_step (first | (first | (with_reducible exact jq (HP.out _)) | (with_reducible exact jq (HQ.out _))) | fail))
  refine wpQuiet_nil ?_
  rintro _ ⟨X1, rfl⟩
  by_cases ho : o1 = 0
  rotate_left
  ·have hx' : (o1 != 0) = true := by simpa using ho
   have hou := HOU.out
   rw [if_pos ho] at hou
   subst hou
   clear ho
   go_wp2_with (first | (go_at_call 31; refine (orE_any [ca, cb] _ 2 _ _ rfl (by decide) (by intro i hi; rcases i with _ | _ | i <;> first | (simp [go_sem]; done) | omega)).mono ?_; rintro e w' ⟨rfl, rfl⟩; rw [HOR.out]) | fail)
   go_ret
   exact ⟨rfl, Bw.b⟩
  subst ho
  have HO2 := Lib.hid HOU.out
  rw [if_neg (by simp)] at HO2
  clear HOU
  go_wp2_with (first | (go_at_call 31; refine (orE_any [ca, cb] _ 2 _ _ rfl (by decide) (by intro i hi; rcases i with _ | _ | i <;> first | (simp [go_sem]; done) | omega)).mono ?_; rintro e w' ⟨rfl, rfl⟩; rw [HOR.out]) | fail)
  refine (jk (HR0.out _)).mono ?_
  rintro e _ ⟨rfl, X2, rfl⟩
  go_wp2_with fail
  refine (jk (HC.out _)).mono ?_
  rintro e _ ⟨rfl, X3, rfl⟩
  clear HR0 HC HP HQ HOR
  by_cases hc0 : cm = 0
  ·have HO3 := HO2.out
   rw [if_pos hc0] at HO3
   subst hc0
   subst HO3
   clear HO2
   go_wp2_with fail
   go_ret
   exact ⟨rfl, Bw.b⟩
  rw [if_neg hc0] at HO2
  have hx0 : (cm == 0) = false := by simpa using hc0
  by_cases hc1 : 0 < cm
  ·cases hone : rd.one with
   | true =>
    have HO3 := HO2.out
    rw [if_pos ⟨hc1, hone⟩] at HO3
    subst HO3
    rw [hone] at *
    clear HO2
    go_wp2_with fail
    go_ret
    exact ⟨rfl, Bw.b⟩
   | false =>
    rw [if_neg (by rw [hone]; simp)] at HO2
    rw [hone] at *
    go_wp2_with fail
    refine (jk (HS.out _)).mono ?_
    rintro e _ ⟨rfl, X4, rfl⟩
    have HO3 := HO2.out
    clear HO2
    cases sm with
    | true => subst HO3; go_wp2_with fail; go_ret; exact ⟨rfl, Bw.b⟩
    | false => subst HO3; go_wp2_with fail; go_ret; exact ⟨rfl, Bw.b⟩
  ·rw [if_neg (fun h => hc1 h.1)] at HO2
   go_wp2_with fail
   refine (jk (HS.out _)).mono ?_
   rintro e _ ⟨rfl, X4, rfl⟩
   have HO3 := HO2.out
   clear HO2
   cases sm with
   | true => subst HO3; go_wp2_with fail; go_ret; exact ⟨rfl, Bw.b⟩
   | false => subst HO3; go_wp2_with fail; go_ret; exact ⟨rfl, Bw.b⟩
/-- The error of the legs that are left. -/
def ckL (n : Net) (q : Plc) (len : Rat) : List Lg → Plc → Rat → Int
 | [], s, y => if sameN n s q = false then 12 else if y = len then 0 else 17
 | x :: L, s, y => if ckLeg n x s ≠ 0 then ckLeg n x s else ckL n q len L ⟨x.road, x.b⟩ (y + absR (x.b - x.a))
def ckwN (n : Net) (p q : Plc) (L : List Lg) (len : Rat) : Int := if orI [chkP n p, chkP n q] ≠ 0 then orI [chkP n p, chkP n q] else ckL n q len L p 0
def LgSm (x : Lg) : Prop := G64 x.a ∧ G64 x.b ∧ -1000 ≤ x.a ∧ x.a ≤ 1000 ∧ -1000 ≤ x.b ∧ x.b ≤ 1000
def SumIn (k : Nat) (y : Rat) : Prop := G64 y ∧ 0 ≤ y ∧ y ≤ 2000 * ((k : Int) : Rat)
theorem sum_sm {k : Nat} {y : Rat} (h : SumIn k y) (hk : k ≤ 100) : Sm y := by
 obtain ⟨g, h0, h1⟩ := h
 have h2 : ((k : Int) : Rat) ≤ ((100 : Int) : Rat) := Rat.intCast_le_intCast.2 (by omega)
 have h3 : ((100 : Int) : Rat) = 100 := rfl
 exact sm_g64 g (by grind) (by grind)
theorem sum_next {k : Nat} {y : Rat} {x : Lg} (h : SumIn k y) (hx : LgSm x) : SumIn (k + 1) (y + absR (x.b - x.a)) := by
 obtain ⟨g, h0, h1⟩ := h
 obtain ⟨ga, gb, a0, a1, b0, b1⟩ := hx
 have e : ((k + 1 : Nat) : Int) = (k : Int) + 1 := by omega
 have e1 : (((k : Int) + 1 : Int) : Rat) = ((k : Int) : Rat) + 1 := by rw [Rat.intCast_add]; rfl
 have hA := absR_nonneg (x.b - x.a)
 have hA1 : absR (x.b - x.a) ≤ 2000 := by rw [absR_eq]; split <;> grind
 refine ⟨g64_add g (g64_abs (g64_sub gb ga)), by grind, ?_⟩
 rw [e, e1]
 grind
set_option maxRecDepth 100000 in
set_option maxHeartbeats 4000000 in
theorem ckw_q (n : Net) (p q : Plc) (L : List Lg) (len : Rat) (v1 v2 v : Value) (w : World) (hN : NetAt w.heap.size w v1 v2 n) (hK : NetOK n) (hv : Sl w.heap.size w 9 v (L.map Lg.cs)) (hp : Sm p.off) (hq : Sm q.off) (hl : Sm len) (hL : ∀ x ∈ L, LgSm x) (hm : L.length ≤ 100) :
  Calls Tryz.prog 10 #[.agg #[v1, v2], .agg (wcs p q v len)] w fun e w' => e = .returned (.int .i64 (ckwN n p q L len)) ∧ Below w.heap.size w w' := by
 obtain ⟨a, m, c, rfl, hvl, hvc, hvm⟩ := hv.open
 rw [List.length_map] at hvl
 have HP0 := chk_bw hN hK p hp
 have HQ0 := chk_bw hN hK q hq
 obtain ⟨out, hout⟩ : ∃ o, ckwN n p q L len = o := ⟨_, rfl⟩
 rw [hout]
 unfold ckwN at hout
 generalize chkP n p = ca at HP0 hout
 generalize chkP n q = cb at HQ0 hout
 obtain ⟨o1, ho1⟩ : ∃ o, orI [ca, cb] = o := ⟨_, rfl⟩
 rw [ho1] at hout
 have HOR := Lib.hid ho1
 have HOU := Lib.hid hout
 have HP : Hid (∀ (w' : World) [Bw w w'], Calls Tryz.prog 32 #[.agg #[v1, v2], .agg #[.int .i64 p.road, .bool (zs p.off.num), .string (zx p.off.num), .bool false, .string (ry p.off.den)]] w' fun e w2 => e = .returned (.int .i64 ca) ∧ Below w'.heap.size w' w2) := Lib.hid HP0.out
 have HQ : Hid (∀ (w' : World) [Bw w w'], Calls Tryz.prog 32 #[.agg #[v1, v2], .agg #[.int .i64 q.road, .bool (zs q.off.num), .string (zx q.off.num), .bool false, .string (ry q.off.den)]] w' fun e w2 => e = .returned (.int .i64 cb) ∧ Below w'.heap.size w' w2) := Lib.hid HQ0.out
 have HCL : Hid (∀ (x : Lg) (s : Plc), LgSm x → Sm s.off → ∀ (w' : World) [Bw w w'], Calls Tryz.prog 33 #[.agg #[v1, v2], .agg #[.int .i64 x.road, .bool (zs x.a.num), .string (zx x.a.num), .bool false, .string (ry x.a.den), .bool (zs x.b.num), .string (zx x.b.num), .bool false, .string (ry x.b.den)], .agg #[.int .i64 s.road, .bool (zs s.off.num), .string (zx s.off.num), .bool false, .string (ry s.off.den)]] w' fun e w2 => e = .returned (.int .i64 (ckLeg n x s)) ∧ Below w'.heap.size w' w2) := Lib.hid (fun x s hx hs w' _ => ckLeg_q n x s v1 v2 w' (later_bw hN) hK (sm_g64 hx.1 (by have := hx.2.2; grind) (by have := hx.2.2; grind)) (sm_g64 hx.2.1 (by have := hx.2.2; grind) (by have := hx.2.2; grind)) hs)
 have HSM : Hid (∀ (s : Plc), Sm s.off → ∀ (w' : World) [Bw w w'], Calls Tryz.prog 17 #[.agg #[v1, v2], .agg #[.int .i64 s.road, .bool (zs s.off.num), .string (zx s.off.num), .bool false, .string (ry s.off.den)], .agg #[.int .i64 q.road, .bool (zs q.off.num), .string (zx q.off.num), .bool false, .string (ry q.off.den)]] w' fun e w2 => e = .returned (.bool (sameN n s q)) ∧ Below w'.heap.size w' w2) := Lib.hid (fun s hs w' _ => (same_bw hN hK s q hs hq).out w')
 have HV := Lib.hid hv
 have HL := Lib.hid hL
 have HM := Lib.hid hvl
 have HPS := Lib.hid hp
 have hm2 : m ≤ 100 := by omega
 unfold wcs
 clear hN hK hv hp hq hL hm hvl hvc hvm hout ho1 HP0 HQ0
 go_enter Tryz.func10, Tryz.ntmps10
 go_upto_region 1 with fail
 refine wp_jtail 8 (by kernel_rfl) (by kernel_rfl) ?_
 simp only [List.take_succ_cons, List.take_zero, List.drop_succ_cons, List.drop_zero]
 repeat (go_big_quiet_step (first | (first | (with_reducible exact jq (HP.out _)) | (with_reducible exact jq (HQ.out _))) | fail))
 refine wpQuiet_nil ?_
 rintro _ ⟨X1, rfl⟩
 by_cases ho : o1 = 0
 rotate_left
 ·have hx' : (o1 != 0) = true := by simpa using ho
  have hou := HOU.out
  rw [if_pos ho] at hou
  subst hou
  clear ho
  go_wp2_with (first | (go_at_call 31; refine (orE_any [ca, cb] _ 2 _ _ rfl (by decide) (by intro i hi; rcases i with _ | _ | i <;> first | (simp [go_sem]; done) | omega)).mono ?_; rintro e w' ⟨rfl, rfl⟩; rw [HOR.out]) | fail)
  go_ret
  exact ⟨rfl, Bw.b⟩
 subst ho
 have HT := Lib.hid HOU.out
 rw [if_neg (by simp)] at HT
 clear HOU
 go_wp2_with (first | (go_at_call 31; refine (orE_any [ca, cb] _ 2 _ _ rfl (by decide) (by intro i hi; rcases i with _ | _ | i <;> first | (simp [go_sem]; done) | omega)).mono ?_; rintro e w' ⟨rfl, rfl⟩; rw [HOR.out]) | fail)
 obtain ⟨V, hV⟩ : ∃ V, V = (((w.alloc (.cells #[v1, v2] 36)).alloc (.cells #[.int .i64 p.road, .bool (zs p.off.num), .string (zx p.off.num), .bool false, .string (ry p.off.den), .int .i64 q.road, .bool (zs q.off.num), .string (zx q.off.num), .bool false, .string (ry q.off.den), .slice a m c, .bool (zs len.num), .string (zx len.num), .bool false, .string (ry len.den)] 46)).junk X1) := ⟨_, rfl⟩
 haveI bwV : Bw w V := by rw [hV]; infer_instance
 haveI lV0 : Lo w.heap.size V := by rw [hV]; infer_instance
 haveI lV1 : Lo (w.heap.size + 1) V := by rw [hV]; infer_instance
 have n0 : V.cell? ⟨w.heap.size, 0, none⟩ = some v1 := by rw [hV]; simp [go_sem]
 have n1 : V.cell? ⟨w.heap.size, 1, none⟩ = some v2 := by rw [hV]; simp [go_sem]
 have m0 : V.cell? ⟨w.heap.size + 1, 5, none⟩ = some (.int .i64 q.road) := by rw [hV]; simp [go_sem]
 have m1 : V.cell? ⟨w.heap.size + 1, 6, none⟩ = some (.bool (zs q.off.num)) := by rw [hV]; simp [go_sem]
 have m2 : V.cell? ⟨w.heap.size + 1, 7, none⟩ = some (.string (zx q.off.num)) := by rw [hV]; simp [go_sem]
 have m3 : V.cell? ⟨w.heap.size + 1, 8, none⟩ = some (.bool false) := by rw [hV]; simp [go_sem]
 have m4 : V.cell? ⟨w.heap.size + 1, 9, none⟩ = some (.string (ry q.off.den)) := by rw [hV]; simp [go_sem]
 have e0 : V.cell? ⟨w.heap.size + 1, 11, none⟩ = some (.bool (zs len.num)) := by rw [hV]; simp [go_sem]
 have e1 : V.cell? ⟨w.heap.size + 1, 12, none⟩ = some (.string (zx len.num)) := by rw [hV]; simp [go_sem]
 have e2 : V.cell? ⟨w.heap.size + 1, 13, none⟩ = some (.bool false) := by rw [hV]; simp [go_sem]
 have e3 : V.cell? ⟨w.heap.size + 1, 14, none⟩ = some (.string (ry len.den)) := by rw [hV]; simp [go_sem]
 rw [← hV]
 clear hV
 obtain ⟨W2, hW2⟩ : ∃ W2, W2 = (((V.alloc (.cells #[.int .i64 ca, .int .i64 cb] 56)).alloc (.cells #[.int .i64 p.road, .bool (zs p.off.num), .string (zx p.off.num), .bool false, .string (ry p.off.den)] 43)).alloc (.cells #[.bool false, .string ⟨#[]⟩, .bool false, .string ⟨#[]⟩] 41)) := ⟨_, rfl⟩
 have H6 : Hid (W2.heap[V.heap.size + 1]? = some (.cells #[.int .i64 p.road, .bool (zs p.off.num), .string (zx p.off.num), .bool false, .string (ry p.off.den)] 43 (0, 0))) := Lib.hid (by rw [hW2]; exact obj_old (obj_last2 _ _ _))
 have H7 : Hid (W2.heap[V.heap.size + 1 + 1]? = some (.cells #[.bool (zs (0 : Rat).num), .string (zx (0 : Rat).num), .bool false, .string (ry (0 : Rat).den)] 41 (0, 0))) := Lib.hid (by rw [hW2, zc0, zc1, zc2]; exact obj_last3 _ _ _ _)
 have HW : Hid (∃ U, W2 = V.junk U) := Lib.hid (by rw [hW2]; with_reducible exact ex_junk)
 rw [← hW2]
 clear hW2
 obtain ⟨bv, hbv⟩ : ∃ b, V.heap.size = b := ⟨_, rfl⟩
 have hb1 := lV1.lt
 rw [hbv] at H6 H7 hb1 ⊢
 generalize e7 : bv + 1 + 1 = b7 at *
 generalize e6 : bv + 1 = b6 at *
 have HD := Lib.hid (show V.heap.size ≤ b6 ∧ V.heap.size ≤ b7 ∧ ¬ b6 = b7 ∧ ¬ b7 = b6 ∧ ¬ w.heap.size = b6 ∧ ¬ w.heap.size = b7 ∧ ¬ w.heap.size + 1 = b6 ∧ ¬ w.heap.size + 1 = b7 ∧ ¬ b6 = w.heap.size ∧ ¬ b7 = w.heap.size ∧ ¬ b6 = w.heap.size + 1 ∧ ¬ b7 = w.heap.size + 1 by refine ⟨?_, ?_, ?_, ?_, ?_, ?_, ?_, ?_, ?_, ?_, ?_, ?_⟩ <;> omega)
 clear e6 e7 hbv hb1
 have hs0 : SumIn 0 0 := ⟨g64_zero, Rat.le_refl, by have : (((0 : Nat) : Int) : Rat) = 0 := rfl; rw [this]; grind⟩
 go_loopw [29] (fun s29 wr => ∃ (k : Nat) (s : Plc) (y : Rat), s29 = .int .i64 k ∧ k ≤ m ∧ Hid (ckL n q len (L.drop k) s y = out) ∧ Hid (Sm s.off ∧ SumIn k y) ∧ Hid (wr.heap[b6]? = some (.cells #[.int .i64 s.road, .bool (zs s.off.num), .string (zx s.off.num), .bool false, .string (ry s.off.den)] 43 (0, 0))) ∧ Hid (wr.heap[b7]? = some (.cells #[.bool (zs y.num), .string (zx y.num), .bool false, .string (ry y.den)] 41 (0, 0))) ∧ ∃ U, wr = V.junk U) (fun s29 _ => m - (intOf s29).toNat)
 case atStart => exact ⟨0, p, 0, rfl, Nat.zero_le _, HT, Lib.hid ⟨HPS.out, hs0⟩, H6, H7, HW.out⟩
 case round =>
  clear H6 H7 HW HT hs0
  obtain ⟨k, s, y, rfl, hk, HT, HTI, H6, H7, U, rfl⟩ := hrel
  obtain ⟨b6V, b7V, d67, d76, d06, d07, d16, d17, d60, d70, d61, d71⟩ := HD.out
  haveI l6 : Lo b6 (V.junk U) := ⟨obj_lt H6.out⟩
  haveI l7 : Lo b7 (V.junk U) := ⟨obj_lt H7.out⟩
  have s0 := obj_cell H6.out 0
  have s1 := obj_cell H6.out 1
  have s2 := obj_cell H6.out 2
  have s3 := obj_cell H6.out 3
  have s4 := obj_cell H6.out 4
  simp at s0 s1 s2 s3 s4
  have y0 := obj_cell H7.out 0
  have y1 := obj_cell H7.out 1
  have y2 := obj_cell H7.out 2
  have y3 := obj_cell H7.out 3
  simp at y0 y1 y2 y3
  have q0 := obj_free H6.out 0
  have q1 := obj_free H6.out 1
  have q2 := obj_free H6.out 2
  have q3 := obj_free H6.out 3
  have q4 := obj_free H6.out 4
  by_cases hlt : k < m
  ·have hkl : k < L.length := by rw [HM.out]; exact hlt
   obtain ⟨b, off, rfl, hb, c0, c1, c2, c3, c4, c5, c6, c7, c8⟩ := lg_cells HV.out k hkl
   haveI lb : Lo b w := ⟨hb⟩
   haveI lbV : Lo b V := ⟨Nat.lt_of_lt_of_le hb bwV.b.size⟩
   have hmem : L[k]! ∈ L := by rw [getElem!_pos L k hkl]; exact List.getElem_mem hkl
   have hx := HL.out _ hmem
   have hdr : L.drop k = L[k]! :: L.drop (k + 1) := by rw [List.drop_eq_getElem_cons hkl, getElem!_pos L k hkl]
   have HT2 := Lib.hid HT.out
   rw [hdr] at HT2
   generalize L[k]! = x at c0 c1 c2 c3 c4 c5 c6 c7 c8 hx HT2
   rw [← bwV.b.cell (p := ⟨b, _, none⟩) hb] at c0 c1 c2 c3 c4 c5 c6 c7 c8
   have HCK := Lib.hid (HCL.out x s hx HTI.out.1)
   unfold ckL at HT2
   generalize ckLeg n x s = ce at HCK HT2
   by_cases hce : ce = 0
   rotate_left
   ·have ho := HT2.out
    rw [if_pos hce] at ho
    subst ho
    have hx' : (ce != 0) = true := by simpa using hce
    clear hdr hmem hce HT HT2 HTI
    go_wp2_with fail
    refine (jk (HCK.out _)).mono ?_
    rintro e _ ⟨rfl, X2, rfl⟩
    go_wp2_with fail
    go_ret
    exact ⟨rfl, Bw.b⟩
   subst hce
   rw [if_neg (by simp)] at HT2
   have hks : k + 1 ≤ 100 := by omega
   have HTI2 := sum_next HTI.out.2 hx
   have sy := sum_sm HTI.out.2 (by omega)
   obtain ⟨ga, gb, a0, a1, b0, b1⟩ := hx
   have sa : Sm x.a := sm_g64 ga (by grind) (by grind)
   have sb : Sm x.b := sm_g64 gb (by grind) (by grind)
   have sd : Sm (x.b - x.a) := sm_g64 (g64_sub gb ga) (by grind) (by grind)
   have HS := Lib.hid (fun w' => sub_q x.b x.a w' sb sa)
   have HA := Lib.hid (fun w' => abs_q (x.b - x.a) w' (by have := sd.1; omega))
   have HAD := Lib.hid (fun w' => add_q y (absR (x.b - x.a)) w' sy (sm_abs sd))
   have HTJ : Hid (Sm (⟨x.road, x.b⟩ : Plc).off ∧ SumIn (k + 1) (y + absR (x.b - x.a))) := Lib.hid ⟨sb, HTI2⟩
   clear ga gb a0 a1 b0 b1 sa sb sd sy HTI HTI2 HT hdr hmem hks
   generalize y + absR (x.b - x.a) = y' at HAD HTJ HT2
   generalize absR (x.b - x.a) = n' at HA HAD
   generalize x.b - x.a = d at HS HA
   simp only [rV] at HS HA HAD
   go_wp2_with fail
   refine (jk (HCK.out _)).mono ?_
   rintro e _ ⟨rfl, X2, rfl⟩
   go_upto_region 13 with fail
   haveI sV : Bw V ((((((V.junk U).setCell ⟨b6, 0, none⟩ (.int .i64 x.road)).setCell ⟨b6, 1, none⟩ (.bool (zs x.b.num))).setCell ⟨b6, 2, none⟩ (.string (zx x.b.num))).setCell ⟨b6, 3, none⟩ (.bool false)).setCell ⟨b6, 4, none⟩ (.string (ry x.b.den))) := bw_set5 b6V _ _ _ _ _
   obtain ⟨W9, hW9⟩ : ∃ W9, W9 = ((((((((V.junk U).setCell ⟨b6, 0, none⟩ (.int .i64 x.road)).setCell ⟨b6, 1, none⟩ (.bool (zs x.b.num))).setCell ⟨b6, 2, none⟩ (.string (zx x.b.num))).setCell ⟨b6, 3, none⟩ (.bool false)).setCell ⟨b6, 4, none⟩ (.string (ry x.b.den))).alloc (.cells #[.int .i64 x.road, .bool (zs x.a.num), .string (zx x.a.num), .bool false, .string (ry x.a.den), .bool (zs x.b.num), .string (zx x.b.num), .bool false, .string (ry x.b.den)] 55)).junk X2) := ⟨_, rfl⟩
   have H69 : Hid (W9.heap[b6]? = some (.cells #[.int .i64 x.road, .bool (zs x.b.num), .string (zx x.b.num), .bool false, .string (ry x.b.den)] 43 (0, 0))) := Lib.hid (by rw [hW9]; (repeat (first | with_reducible refine obj_junk ?_ | with_reducible refine obj_old ?_)); rw [obj_set (obj_set (obj_set (obj_set (obj_set H6.out))))]; simp)
   have H79 : Hid (W9.heap[b7]? = some (.cells #[.bool (zs y.num), .string (zx y.num), .bool false, .string (ry y.den)] 41 (0, 0))) := Lib.hid (by rw [hW9]; (repeat (first | with_reducible refine obj_junk ?_ | with_reducible refine obj_old ?_)); exact obj_setOther (obj_setOther (obj_setOther (obj_setOther (obj_setOther H7.out d76) d76) d76) d76) d76)
   have H99 : Hid (W9.heap[(V.junk U).heap.size]? = some (.cells #[.int .i64 x.road, .bool (zs x.a.num), .string (zx x.a.num), .bool false, .string (ry x.a.den), .bool (zs x.b.num), .string (zx x.b.num), .bool false, .string (ry x.b.den)] 55 (0, 0))) := Lib.hid (by rw [hW9]; exact obj_junk (obj_at' (by simp)))
   haveI bV9 : Bw V W9 := by rw [hW9]; infer_instance
   haveI bw9 : Bw w W9 := ⟨bwV.b.trans (bV9.b.mono bwV.b.size)⟩
   rw [← hW9]
   clear hW9 c0 c1 c2 c3 c4 c5 c6 c7 c8 y0 y1 y2 y3 s0 s1 s2 s3 s4 q0 q1 q2 q3 q4
   generalize (V.junk U).heap.size = b9 at *
   haveI l79 : Lo b7 W9 := ⟨obj_lt H79.out⟩
   haveI l99 : Lo b9 W9 := ⟨obj_lt H99.out⟩
   have y0 := obj_cell H79.out 0
   have y1 := obj_cell H79.out 1
   have y2 := obj_cell H79.out 2
   have y3 := obj_cell H79.out 3
   have c0 := obj_cell H99.out 0
   have c1 := obj_cell H99.out 1
   have c2 := obj_cell H99.out 2
   have c3 := obj_cell H99.out 3
   have c4 := obj_cell H99.out 4
   have c5 := obj_cell H99.out 5
   have c6 := obj_cell H99.out 6
   have c7 := obj_cell H99.out 7
   have c8 := obj_cell H99.out 8
   simp at y0 y1 y2 y3 c0 c1 c2 c3 c4 c5 c6 c7 c8
   have q0 := obj_free H79.out 0
   have q1 := obj_free H79.out 1
   have q2 := obj_free H79.out 2
   have q3 := obj_free H79.out 3
   refine wp_jtail 8 (by kernel_rfl) (by kernel_rfl) ?_
   simp only [List.take_succ_cons, List.take_zero, List.drop_succ_cons, List.drop_zero]
   repeat (go_big_quiet_step (first | (first | (with_reducible exact jq (HS.out _)) | (with_reducible exact jq (HA.out _)) | (with_reducible exact jq (HAD.out _))) | fail))
   refine wpQuiet_nil ?_
   rintro _ ⟨X9, rfl⟩
   haveI s9 : Bw V (((((W9).setCell ⟨b7, 0, none⟩ (.bool (zs y'.num))).setCell ⟨b7, 1, none⟩ (.string (zx y'.num))).setCell ⟨b7, 2, none⟩ (.bool false)).setCell ⟨b7, 3, none⟩ (.string (ry y'.den))) := bw_set4 b7V _ _ _ _
   go_wp2_with fail
   go_roundw
   case rel =>
    refine ⟨k + 1, ⟨x.road, x.b⟩, y', by go_num, by omega, HT2, HTJ, Lib.hid ?_, Lib.hid ?_, ?_⟩
    ·exact obj_junk (obj_set4o H69.out d67 _ _ _ _)
    ·exact obj_junk (obj_set4' H79.out _ _ _ _)
    ·with_reducible exact ex_junk
   case measure => simp [intOf]; omega
  ·obtain rfl : k = m := by omega
   have HT2 := Lib.hid HT.out
   rw [List.drop_eq_nil_of_le (by rw [HM.out]; exact Nat.le_refl _)] at HT2
   unfold ckL at HT2
   have HSS := Lib.hid (HSM.out s HTI.out.1)
   have sy := sum_sm HTI.out.2 hm2
   generalize sameN n s q = sm at HSS HT2
   clear HT HTI
   cases sm with
   | false =>
    have ho : (12 : Int) = out := HT2.out
    subst ho
    go_wp2_with fail
    refine (jk (HSS.out _)).mono ?_
    rintro e _ ⟨rfl, X2, rfl⟩
    go_wp2_with fail
    go_ret
    exact ⟨rfl, Bw.b⟩
   | true =>
    rw [if_neg (by simp)] at HT2
    by_cases hyl : y = len
    ·have ho := HT2.out
     rw [if_pos hyl] at ho
     subst ho
     have hd : decide (y = len) = true := by simpa using hyl
     clear hyl HT2
     go_wp2_with fail
     refine (jk (HSS.out _)).mono ?_
     rintro e _ ⟨rfl, X2, rfl⟩
     go_wp2_with fail
     go_ret
     exact ⟨rfl, Bw.b⟩
    ·have ho := HT2.out
     rw [if_neg hyl] at ho
     subst ho
     have hd : decide (y = len) = false := by simpa using hyl
     clear hyl HT2
     go_wp2_with fail
     refine (jk (HSS.out _)).mono ?_
     rintro e _ ⟨rfl, X2, rfl⟩
     go_wp2_with fail
     go_ret
     exact ⟨rfl, Bw.b⟩
end Go.Proofs.YtcelpkbmcmnogaaGreatDoor
