/-
 The law's error of a way, walked.
-/
import Derived.Test.YtcelpkbmcmnogaaGreatDoorCkwW
set_option linter.unusedSimpArgs false
set_option linter.unusedVariables false
namespace Go.Proofs.YtcelpkbmcmnogaaGreatDoor
open Go Go.RowKit Go.Vi
attribute [local go_sem ↓] lo_lt lo_ne lo_ne'
attribute [local go_sem] junk_cell junk_frozen junk_setCell junk_drew drew_junk
attribute [local go_sem high] eqR_run eqG_run eqP_run neR_run
/-- The error of a leg, case by case. -/
theorem ckLeg_a {n : Net} {x : Lg} {s : Plc} (h : chkP n ⟨x.road, x.a⟩ ≠ 0) : ckLeg n x s = chkP n ⟨x.road, x.a⟩ := by
 unfold ckLeg
 rw [or_two, if_neg h, if_pos h]
theorem ckLeg_b {n : Net} {x : Lg} {s : Plc} (ha : chkP n ⟨x.road, x.a⟩ = 0) (h : chkP n ⟨x.road, x.b⟩ ≠ 0) : ckLeg n x s = chkP n ⟨x.road, x.b⟩ := by
 unfold ckLeg
 rw [or_two, if_pos ha, if_pos h]
theorem sgn_cmp (a b : Rat) : cmpR a b = - sgnZ (b - a).num := by
 unfold cmpR sgnZ
 by_cases h1 : a < b
 ·have h2 : 0 < (b - a).num := num_gt.2 (by grind)
  rw [if_pos h1, if_neg (by omega), if_neg (by omega)]
 ·rw [if_neg h1]
  by_cases h2 : b < a
  ·rw [if_pos h2, if_pos (num_lt.2 (by grind))]; rfl
  ·have e : b - a = 0 := by grind
   rw [if_neg h2, e]; rfl
theorem ckLeg_c {n : Net} {x : Lg} {s : Plc} (ha : chkP n ⟨x.road, x.a⟩ = 0) (hb : chkP n ⟨x.road, x.b⟩ = 0) : ckLeg n x s = if sgnZ (x.b - x.a).num = 0 then 6 else if ((roadOf n.roads x.road).getD rd0).one = true ∧ sgnZ (x.b - x.a).num < 0 then 24 else if sameN n s ⟨x.road, x.a⟩ = false then 12 else 0 := by
 unfold ckLeg
 rw [or_two, if_pos ha, hb, if_neg (by simp), sgn_cmp]
 generalize sgnZ (x.b - x.a).num = g
 generalize ((roadOf n.roads x.road).getD rd0).one = o
 generalize sameN n s ⟨x.road, x.a⟩ = m
 by_cases h1 : g = 0
 ·rw [if_pos (by omega), if_pos h1]
 ·rw [if_neg (by omega), if_neg h1]
  by_cases h2 : o = true ∧ g < 0
  ·rw [if_pos h2, if_pos ⟨by omega, h2.1⟩]
  ·rw [if_neg h2, if_neg (fun h => h2 ⟨h.2, by omega⟩)]
set_option maxRecDepth 100000 in
set_option maxHeartbeats 8000000 in
theorem ckl_q (n : Net) (p q : Plc) (L : List Lg) (len : Rat) (v1 v2 v : Value) (w : World) (hN : NetAt w.heap.size w v1 v2 n) (hK : NetOK n) (hv : Sl w.heap.size w 9 v (L.map Lg.cs)) (hp : Sm p.off) (hq : Sm q.off) (hl : Sm len) (hL : ∀ x ∈ L, LgSm x) (hm : L.length ≤ 100) :
  Calls Tryz.prog 11 #[.agg #[v1, v2], .agg (wcs p q v len)] w fun e w' => e = .returned (.int .i64 (ckwN n p q L len)) ∧ Below w.heap.size w w' := by
 obtain ⟨a, m, c, rfl, hvl, hvc, hvm⟩ := hv.open
 rw [List.length_map] at hvl
 have HP0 := chk_bw hN hK p hp
 have HQ0 := chk_bw hN hK q hq
 obtain ⟨out, hout⟩ : ∃ o, ckwN n p q L len = o := ⟨_, rfl⟩
 rw [hout]
 unfold ckwN at hout
 rw [or_two] at hout
 generalize chkP n p = ca at HP0 hout
 generalize chkP n q = cb at HQ0 hout
 have HOU := Lib.hid hout
 have HP : Hid (∀ (w' : World) [Bw w w'], Calls Tryz.prog 32 #[.agg #[v1, v2], .agg #[.int .i64 p.road, .bool (zs p.off.num), .string (zx p.off.num), .bool false, .string (ry p.off.den)]] w' fun e w2 => e = .returned (.int .i64 ca) ∧ Below w'.heap.size w' w2) := Lib.hid HP0.out
 have HQ : Hid (∀ (w' : World) [Bw w w'], Calls Tryz.prog 32 #[.agg #[v1, v2], .agg #[.int .i64 q.road, .bool (zs q.off.num), .string (zx q.off.num), .bool false, .string (ry q.off.den)]] w' fun e w2 => e = .returned (.int .i64 cb) ∧ Below w'.heap.size w' w2) := Lib.hid HQ0.out
 have HCA : Hid (∀ (s : Plc), Sm s.off → ∀ (w' : World) [Bw w w'], Calls Tryz.prog 32 #[.agg #[v1, v2], .agg #[.int .i64 s.road, .bool (zs s.off.num), .string (zx s.off.num), .bool false, .string (ry s.off.den)]] w' fun e w2 => e = .returned (.int .i64 (chkP n s)) ∧ Below w'.heap.size w' w2) := Lib.hid (fun s hs w' _ => (chk_bw hN hK s hs).out w')
 have HSM : Hid (∀ (s t : Plc), Sm s.off → Sm t.off → ∀ (w' : World) [Bw w w'], Calls Tryz.prog 17 #[.agg #[v1, v2], .agg #[.int .i64 s.road, .bool (zs s.off.num), .string (zx s.off.num), .bool false, .string (ry s.off.den)], .agg #[.int .i64 t.road, .bool (zs t.off.num), .string (zx t.off.num), .bool false, .string (ry t.off.den)]] w' fun e w2 => e = .returned (.bool (sameN n s t)) ∧ Below w'.heap.size w' w2) := Lib.hid (fun s t hs ht w' _ => (same_bw hN hK s t hs ht).out w')
 have HRD : Hid (∀ (id : Int) (w' : World) [Bw w w'], Calls Tryz.prog 36 #[.agg #[v1, v2], .int .i64 id] w' fun e w2 => e = .returned (.tuple #[((roadOf n.roads id).getD rd0).v, .bool (roadOf n.roads id).isSome]) ∧ Below w'.heap.size w' w2) := Lib.hid (fun id w' _ => (road_bw hN hK id).out w')
 have HV := Lib.hid hv
 have HL := Lib.hid hL
 have HM := Lib.hid hvl
 have HPS := Lib.hid hp
 have HQS := Lib.hid hq
 have hm2 : m ≤ 100 := by omega
 unfold wcs
 clear hN hK hv hp hq hL hm hvl hvc hvm hout HP0 HQ0
 go_enter Tryz.func11, Tryz.ntmps11
 go_wp2_with fail
 obtain ⟨V, hV⟩ : ∃ V, V = ((w.alloc (.cells #[v1, v2] 36)).alloc (.cells #[.int .i64 p.road, .bool (zs p.off.num), .string (zx p.off.num), .bool false, .string (ry p.off.den), .int .i64 q.road, .bool (zs q.off.num), .string (zx q.off.num), .bool false, .string (ry q.off.den), .slice a m c, .bool (zs len.num), .string (zx len.num), .bool false, .string (ry len.den)] 46)) := ⟨_, rfl⟩
 haveI bwV : Bw w V := by rw [hV]; infer_instance
 haveI lV0 : Lo w.heap.size V := by rw [hV]; infer_instance
 haveI lV1 : Lo (w.heap.size + 1) V := by rw [hV]; infer_instance
 have n0 : V.cell? ⟨w.heap.size, 0, none⟩ = some v1 := by rw [hV]; simp [go_sem]
 have n1 : V.cell? ⟨w.heap.size, 1, none⟩ = some v2 := by rw [hV]; simp [go_sem]
 have e0 : V.cell? ⟨w.heap.size + 1, 0, none⟩ = some (.int .i64 p.road) := by rw [hV]; simp [go_sem]
 have e1 : V.cell? ⟨w.heap.size + 1, 1, none⟩ = some (.bool (zs p.off.num)) := by rw [hV]; simp [go_sem]
 have e2 : V.cell? ⟨w.heap.size + 1, 2, none⟩ = some (.string (zx p.off.num)) := by rw [hV]; simp [go_sem]
 have e3 : V.cell? ⟨w.heap.size + 1, 3, none⟩ = some (.bool false) := by rw [hV]; simp [go_sem]
 have e4 : V.cell? ⟨w.heap.size + 1, 4, none⟩ = some (.string (ry p.off.den)) := by rw [hV]; simp [go_sem]
 have e5 : V.cell? ⟨w.heap.size + 1, 5, none⟩ = some (.int .i64 q.road) := by rw [hV]; simp [go_sem]
 have e6 : V.cell? ⟨w.heap.size + 1, 6, none⟩ = some (.bool (zs q.off.num)) := by rw [hV]; simp [go_sem]
 have e7 : V.cell? ⟨w.heap.size + 1, 7, none⟩ = some (.string (zx q.off.num)) := by rw [hV]; simp [go_sem]
 have e8 : V.cell? ⟨w.heap.size + 1, 8, none⟩ = some (.bool false) := by rw [hV]; simp [go_sem]
 have e9 : V.cell? ⟨w.heap.size + 1, 9, none⟩ = some (.string (ry q.off.den)) := by rw [hV]; simp [go_sem]
 have e10 : V.cell? ⟨w.heap.size + 1, 10, none⟩ = some (.slice a m c) := by rw [hV]; simp [go_sem]
 have e11 : V.cell? ⟨w.heap.size + 1, 11, none⟩ = some (.bool (zs len.num)) := by rw [hV]; simp [go_sem]
 have e12 : V.cell? ⟨w.heap.size + 1, 12, none⟩ = some (.string (zx len.num)) := by rw [hV]; simp [go_sem]
 have e13 : V.cell? ⟨w.heap.size + 1, 13, none⟩ = some (.bool false) := by rw [hV]; simp [go_sem]
 have e14 : V.cell? ⟨w.heap.size + 1, 14, none⟩ = some (.string (ry len.den)) := by rw [hV]; simp [go_sem]
 have HW : Hid (∃ U, V = V.junk U) := Lib.hid ⟨V, junk_self V⟩
 rw [← hV]
 clear hV
 go_loopw [5] (fun s5 wr => ∃ (k : Nat), s5 = .int .i64 k ∧ k ≤ 2 ∧ Hid ((1 ≤ k → ca = 0) ∧ (2 ≤ k → cb = 0)) ∧ ∃ U, wr = V.junk U) (fun s5 _ => 2 - (intOf s5).toNat)
 case atStart => exact ⟨0, rfl, Nat.zero_le _, Lib.hid ⟨fun h => by omega, fun h => by omega⟩, HW.out⟩
 case round =>
  clear HW
  obtain ⟨k, rfl, hk, HZ, U, rfl⟩ := hrel
  have bVr : Bw V (V.junk U) := inferInstance
  have bwr : Bw w (V.junk U) := ⟨bwV.b.trans (bVr.b.mono bwV.b.size)⟩
  have lt0 := Nat.lt_of_lt_of_le lV0.lt bVr.b.size
  have lt1 := Nat.lt_of_lt_of_le lV1.lt bVr.b.size
  have n0r := (bVr.b.cell (p := ⟨w.heap.size, 0, none⟩) lV0.lt).trans n0
  have n1r := (bVr.b.cell (p := ⟨w.heap.size, 1, none⟩) lV0.lt).trans n1
  have e0r := (bVr.b.cell (p := ⟨w.heap.size + 1, 0, none⟩) lV1.lt).trans e0
  have e1r := (bVr.b.cell (p := ⟨w.heap.size + 1, 1, none⟩) lV1.lt).trans e1
  have e2r := (bVr.b.cell (p := ⟨w.heap.size + 1, 2, none⟩) lV1.lt).trans e2
  have e3r := (bVr.b.cell (p := ⟨w.heap.size + 1, 3, none⟩) lV1.lt).trans e3
  have e4r := (bVr.b.cell (p := ⟨w.heap.size + 1, 4, none⟩) lV1.lt).trans e4
  have e5r := (bVr.b.cell (p := ⟨w.heap.size + 1, 5, none⟩) lV1.lt).trans e5
  have e6r := (bVr.b.cell (p := ⟨w.heap.size + 1, 6, none⟩) lV1.lt).trans e6
  have e7r := (bVr.b.cell (p := ⟨w.heap.size + 1, 7, none⟩) lV1.lt).trans e7
  have e8r := (bVr.b.cell (p := ⟨w.heap.size + 1, 8, none⟩) lV1.lt).trans e8
  have e9r := (bVr.b.cell (p := ⟨w.heap.size + 1, 9, none⟩) lV1.lt).trans e9
  have hk3 : k = 0 ∨ k = 1 ∨ k = 2 := by omega
  rcases hk3 with rfl | rfl | rfl
  ·by_cases hc : ca = 0
   rotate_left
   ·have ho := HOU.out
    rw [if_neg hc, if_pos hc] at ho
    subst ho
    have hx' : (ca != 0) = true := by simpa using hc
    clear hc HZ
    go_upto_region 4 with fail
    refine wp_flow2 [(7, [5])] [(8, [7])] [(2, [1]), (4, [3]), (5, [2, 4]), (7, [5, 6]), (8, [7]), (9, [0, 8]), (10, [9])] [(0, some 22), (1, some 23), (2, some 24), (3, some 25), (4, some 26), (5, some 27), (6, some 28), (7, some 29), (8, some 30), (9, some 31), (10, some 6)] [(2, .pointer (some ⟨w.heap.size, 0, none⟩)), (3, .pointer (some ⟨w.heap.size + 1, 0, none⟩)), (5, .int .i64 ((0 : Nat) : Int))] [.val (.agg #[v1, v2]), .val (.pointer (some ⟨w.heap.size + 1, 0, none⟩)), .val (.agg #[.int .i64 p.road, .bool (zs p.off.num), .string (zx p.off.num), .bool false, .string (ry p.off.den)]), .val (.pointer (some ⟨w.heap.size + 1, 5, none⟩)), .val (.agg #[.int .i64 q.road, .bool (zs q.off.num), .string (zx q.off.num), .bool false, .string (ry q.off.den)]), .own 43 5 [[.int .i64 p.road, .bool (zs p.off.num), .string (zx p.off.num), .bool false, .string (ry p.off.den)], [.int .i64 q.road, .bool (zs q.off.num), .string (zx q.off.num), .bool false, .string (ry q.off.den)]], .val (.int .i64 ((0 : Nat) : Int)), .ptr 43 5 [[.int .i64 p.road, .bool (zs p.off.num), .string (zx p.off.num), .bool false, .string (ry p.off.den)], [.int .i64 q.road, .bool (zs q.off.num), .string (zx q.off.num), .bool false, .string (ry q.off.den)]] 0, .val (.agg #[.int .i64 p.road, .bool (zs p.off.num), .string (zx p.off.num), .bool false, .string (ry p.off.den)]), .val (.int .i64 ca), .val (.int .i64 ca)] (by kernel_rfl) (by kernel_rfl) (by kernel_rfl) (by kernel_rfl) (by kernel_rfl) ⟨rfl, rfl, rfl, trivial⟩ ⟨trivial, trivial, trivial, trivial, trivial, trivial, trivial, trivial, trivial, trivial, trivial, trivial⟩ ?_ ?_
    ·refine ⟨?_, ?_, ?_, ?_, ?_, ?_, ?_, ?_, ?_, ?_, ?_, trivial⟩
     ·intro f ρ w' S hd hx hc hB hA hD
      have h2 : ρ (.tmp 2) = .pointer (some ⟨w.heap.size, 0, none⟩) := hx (2, .pointer (some ⟨w.heap.size, 0, none⟩)) (by simp)
      have n0' := (hB.cell (p := ⟨w.heap.size, 0, none⟩) lt0).trans n0r
      have n1' := (hB.cell (p := ⟨w.heap.size, 1, none⟩) lt0).trans n1r
      refine fl_val (by rfl) (by rfl) ?_
      simp [execOp, go_sem, h2, n0', n1']
     ·intro f ρ w' S hd hx hc hB hA hD
      have h3 : ρ (.tmp 3) = .pointer (some ⟨w.heap.size + 1, 0, none⟩) := hx (3, .pointer (some ⟨w.heap.size + 1, 0, none⟩)) (by simp)
      refine fl_val (by rfl) (by rfl) ?_
      simp [execOp, go_sem, h3]
     ·intro f ρ w' S hd hx hc hB hA hD
      have h23 : ρ (.tmp 23) = .pointer (some ⟨w.heap.size + 1, 0, none⟩) := (hd 1 23 (by decide)).trans (hA 1 (by decide)).1
      have e0' := (hB.cell (p := ⟨w.heap.size + 1, 0, none⟩) lt1).trans e0r
      have e1' := (hB.cell (p := ⟨w.heap.size + 1, 1, none⟩) lt1).trans e1r
      have e2' := (hB.cell (p := ⟨w.heap.size + 1, 2, none⟩) lt1).trans e2r
      have e3' := (hB.cell (p := ⟨w.heap.size + 1, 3, none⟩) lt1).trans e3r
      have e4' := (hB.cell (p := ⟨w.heap.size + 1, 4, none⟩) lt1).trans e4r
      refine fl_val (by rfl) (by rfl) ?_
      simp [execOp, go_sem, h23, e0', e1', e2', e3', e4']
     ·intro f ρ w' S hd hx hc hB hA hD
      have h3 : ρ (.tmp 3) = .pointer (some ⟨w.heap.size + 1, 0, none⟩) := hx (3, .pointer (some ⟨w.heap.size + 1, 0, none⟩)) (by simp)
      refine fl_val (by rfl) (by rfl) ?_
      simp [execOp, go_sem, h3]
     ·intro f ρ w' S hd hx hc hB hA hD
      have h25 : ρ (.tmp 25) = .pointer (some ⟨w.heap.size + 1, 5, none⟩) := (hd 3 25 (by decide)).trans (hA 3 (by decide)).1
      have e5' := (hB.cell (p := ⟨w.heap.size + 1, 5, none⟩) lt1).trans e5r
      have e6' := (hB.cell (p := ⟨w.heap.size + 1, 6, none⟩) lt1).trans e6r
      have e7' := (hB.cell (p := ⟨w.heap.size + 1, 7, none⟩) lt1).trans e7r
      have e8' := (hB.cell (p := ⟨w.heap.size + 1, 8, none⟩) lt1).trans e8r
      have e9' := (hB.cell (p := ⟨w.heap.size + 1, 9, none⟩) lt1).trans e9r
      refine fl_val (by rfl) (by rfl) ?_
      simp [execOp, go_sem, h25, e5', e6', e7', e8', e9']
     ·intro f ρ w' S hd hx hc hB hA hD
      have h24 : ρ (.tmp 24) = .agg #[.int .i64 p.road, .bool (zs p.off.num), .string (zx p.off.num), .bool false, .string (ry p.off.den)] := (hd 2 24 (by decide)).trans (hA 2 (by decide)).1
      have h26 : ρ (.tmp 26) = .agg #[.int .i64 q.road, .bool (zs q.off.num), .string (zx q.off.num), .bool false, .string (ry q.off.den)] := (hd 4 26 (by decide)).trans (hA 4 (by decide)).1
      refine fl_lit (by rfl) (by rfl) (n := 2) rfl (fun r hr => by simp at hr; rcases hr with rfl | rfl <;> rfl) (cs := #[.int .i64 p.road, .bool (zs p.off.num), .string (zx p.off.num), .bool false, .string (ry p.off.den), .int .i64 q.road, .bool (zs q.off.num), .string (zx q.off.num), .bool false, .string (ry q.off.den)]) rfl (by decide) (Nat.le_trans hB.size (Nat.le_refl _)) ?_
      simp [execOp, go_sem, h24, h26]
     ·intro f ρ w' S hd hx hc hB hA hD
      have h5 : ρ (.tmp 5) = .int .i64 ((0 : Nat) : Int) := hx (5, .int .i64 ((0 : Nat) : Int)) (by simp)
      refine fl_val (by rfl) (by rfl) ?_
      simp [execOp, go_sem, h5]
     ·intro f ρ w' S hd hx hc hB hA hD
      obtain ⟨g, cap, q1, q2, q3⟩ := (hA 5 (by decide)).1
      have h27 : ρ (.tmp 27) = .slice (some ⟨g, 0, none⟩) 2 cap := (hd 5 27 (by decide)).trans q1
      have h28 : ρ (.tmp 28) = .int .i64 ((0 : Nat) : Int) := (hd 6 28 (by decide)).trans (hA 6 (by decide)).1
      refine fl_ptr (by rfl) (by rfl) ?_ ⟨5, by decide, q2⟩ ((hA 5 (by decide)).2 g q2).2 q3
      simp [execOp, go_sem, h27, h28]
     ·intro f ρ w' S hd hx hc hB hA hD
      obtain ⟨g, cap, q1, q2, q3⟩ := (hA 7 (by decide)).1
      have h29 : ρ (.tmp 29) = .pointer (some ⟨g, 0, none⟩) := (hd 7 29 (by decide)).trans q1
      have z0 := q3.cell 0 (show 0 < 2 by decide) 0 (by decide)
      have z1 := q3.cell 0 (show 0 < 2 by decide) 1 (by decide)
      have z2 := q3.cell 0 (show 0 < 2 by decide) 2 (by decide)
      have z3 := q3.cell 0 (show 0 < 2 by decide) 3 (by decide)
      have z4 := q3.cell 0 (show 0 < 2 by decide) 4 (by decide)
      simp at z0 z1 z2 z3 z4
      refine fl_val (by rfl) (by rfl) ?_
      simp [execOp, go_sem, h29, z0, z1, z2, z3, z4]
     ·intro f ρ w' S hd hx hc hB hA hD
      have h22 : ρ (.tmp 22) = .agg #[v1, v2] := (hd 0 22 (by decide)).trans (hA 0 (by decide)).1
      have h30 : ρ (.tmp 30) = .agg #[.int .i64 p.road, .bool (zs p.off.num), .string (zx p.off.num), .bool false, .string (ry p.off.den)] := (hd 8 30 (by decide)).trans (hA 8 (by decide)).1
      haveI : Bw w w' := ⟨bwr.b.trans (hB.mono bwr.b.size)⟩
      exact fl_call (by rfl) (by rfl) (by simp [execOp, go_sem, h22, h30, hc.1, hc.2]) (HP.out w')
     ·intro f ρ w' S hd hx hc hB hA hD
      have h31 : ρ (.tmp 31) = .int .i64 ca := (hd 9 31 (by decide)).trans (hA 9 (by decide)).1
      refine fl_val (by rfl) (by rfl) ?_
      simp [execOp, go_sem, h31]
    ·intro f w' S hB hS hD
     have fv : f 10 = .int .i64 ca := (hS 10 (by kernel_rfl)).1
     simp only [putAll, Act.put, List.setIfInBounds_toArray, List.set_cons_zero, List.set_cons_succ]
     rw [fv]
     obtain ⟨Z, rfl⟩ := below_some hB
     clear hS hB hD fv
     go_wp2_with fail
     go_ret
     exact ⟨rfl, Bw.b⟩
   ·have HZ2 : Hid ((1 ≤ 1 → ca = 0) ∧ (2 ≤ 1 → cb = 0)) := Lib.hid ⟨fun _ => hc, fun h => by omega⟩
    have hx' : (ca != 0) = false := by simpa using hc
    clear hc HZ
    go_upto_region 4 with fail
    refine wp_flow2 [(7, [5])] [(8, [7])] [(2, [1]), (4, [3]), (5, [2, 4]), (7, [5, 6]), (8, [7]), (9, [0, 8]), (10, [9])] [(0, some 22), (1, some 23), (2, some 24), (3, some 25), (4, some 26), (5, some 27), (6, some 28), (7, some 29), (8, some 30), (9, some 31), (10, some 6)] [(2, .pointer (some ⟨w.heap.size, 0, none⟩)), (3, .pointer (some ⟨w.heap.size + 1, 0, none⟩)), (5, .int .i64 ((0 : Nat) : Int))] [.val (.agg #[v1, v2]), .val (.pointer (some ⟨w.heap.size + 1, 0, none⟩)), .val (.agg #[.int .i64 p.road, .bool (zs p.off.num), .string (zx p.off.num), .bool false, .string (ry p.off.den)]), .val (.pointer (some ⟨w.heap.size + 1, 5, none⟩)), .val (.agg #[.int .i64 q.road, .bool (zs q.off.num), .string (zx q.off.num), .bool false, .string (ry q.off.den)]), .own 43 5 [[.int .i64 p.road, .bool (zs p.off.num), .string (zx p.off.num), .bool false, .string (ry p.off.den)], [.int .i64 q.road, .bool (zs q.off.num), .string (zx q.off.num), .bool false, .string (ry q.off.den)]], .val (.int .i64 ((0 : Nat) : Int)), .ptr 43 5 [[.int .i64 p.road, .bool (zs p.off.num), .string (zx p.off.num), .bool false, .string (ry p.off.den)], [.int .i64 q.road, .bool (zs q.off.num), .string (zx q.off.num), .bool false, .string (ry q.off.den)]] 0, .val (.agg #[.int .i64 p.road, .bool (zs p.off.num), .string (zx p.off.num), .bool false, .string (ry p.off.den)]), .val (.int .i64 ca), .val (.int .i64 ca)] (by kernel_rfl) (by kernel_rfl) (by kernel_rfl) (by kernel_rfl) (by kernel_rfl) ⟨rfl, rfl, rfl, trivial⟩ ⟨trivial, trivial, trivial, trivial, trivial, trivial, trivial, trivial, trivial, trivial, trivial, trivial⟩ ?_ ?_
    ·refine ⟨?_, ?_, ?_, ?_, ?_, ?_, ?_, ?_, ?_, ?_, ?_, trivial⟩
     ·intro f ρ w' S hd hx hc hB hA hD
      have h2 : ρ (.tmp 2) = .pointer (some ⟨w.heap.size, 0, none⟩) := hx (2, .pointer (some ⟨w.heap.size, 0, none⟩)) (by simp)
      have n0' := (hB.cell (p := ⟨w.heap.size, 0, none⟩) lt0).trans n0r
      have n1' := (hB.cell (p := ⟨w.heap.size, 1, none⟩) lt0).trans n1r
      refine fl_val (by rfl) (by rfl) ?_
      simp [execOp, go_sem, h2, n0', n1']
     ·intro f ρ w' S hd hx hc hB hA hD
      have h3 : ρ (.tmp 3) = .pointer (some ⟨w.heap.size + 1, 0, none⟩) := hx (3, .pointer (some ⟨w.heap.size + 1, 0, none⟩)) (by simp)
      refine fl_val (by rfl) (by rfl) ?_
      simp [execOp, go_sem, h3]
     ·intro f ρ w' S hd hx hc hB hA hD
      have h23 : ρ (.tmp 23) = .pointer (some ⟨w.heap.size + 1, 0, none⟩) := (hd 1 23 (by decide)).trans (hA 1 (by decide)).1
      have e0' := (hB.cell (p := ⟨w.heap.size + 1, 0, none⟩) lt1).trans e0r
      have e1' := (hB.cell (p := ⟨w.heap.size + 1, 1, none⟩) lt1).trans e1r
      have e2' := (hB.cell (p := ⟨w.heap.size + 1, 2, none⟩) lt1).trans e2r
      have e3' := (hB.cell (p := ⟨w.heap.size + 1, 3, none⟩) lt1).trans e3r
      have e4' := (hB.cell (p := ⟨w.heap.size + 1, 4, none⟩) lt1).trans e4r
      refine fl_val (by rfl) (by rfl) ?_
      simp [execOp, go_sem, h23, e0', e1', e2', e3', e4']
     ·intro f ρ w' S hd hx hc hB hA hD
      have h3 : ρ (.tmp 3) = .pointer (some ⟨w.heap.size + 1, 0, none⟩) := hx (3, .pointer (some ⟨w.heap.size + 1, 0, none⟩)) (by simp)
      refine fl_val (by rfl) (by rfl) ?_
      simp [execOp, go_sem, h3]
     ·intro f ρ w' S hd hx hc hB hA hD
      have h25 : ρ (.tmp 25) = .pointer (some ⟨w.heap.size + 1, 5, none⟩) := (hd 3 25 (by decide)).trans (hA 3 (by decide)).1
      have e5' := (hB.cell (p := ⟨w.heap.size + 1, 5, none⟩) lt1).trans e5r
      have e6' := (hB.cell (p := ⟨w.heap.size + 1, 6, none⟩) lt1).trans e6r
      have e7' := (hB.cell (p := ⟨w.heap.size + 1, 7, none⟩) lt1).trans e7r
      have e8' := (hB.cell (p := ⟨w.heap.size + 1, 8, none⟩) lt1).trans e8r
      have e9' := (hB.cell (p := ⟨w.heap.size + 1, 9, none⟩) lt1).trans e9r
      refine fl_val (by rfl) (by rfl) ?_
      simp [execOp, go_sem, h25, e5', e6', e7', e8', e9']
     ·intro f ρ w' S hd hx hc hB hA hD
      have h24 : ρ (.tmp 24) = .agg #[.int .i64 p.road, .bool (zs p.off.num), .string (zx p.off.num), .bool false, .string (ry p.off.den)] := (hd 2 24 (by decide)).trans (hA 2 (by decide)).1
      have h26 : ρ (.tmp 26) = .agg #[.int .i64 q.road, .bool (zs q.off.num), .string (zx q.off.num), .bool false, .string (ry q.off.den)] := (hd 4 26 (by decide)).trans (hA 4 (by decide)).1
      refine fl_lit (by rfl) (by rfl) (n := 2) rfl (fun r hr => by simp at hr; rcases hr with rfl | rfl <;> rfl) (cs := #[.int .i64 p.road, .bool (zs p.off.num), .string (zx p.off.num), .bool false, .string (ry p.off.den), .int .i64 q.road, .bool (zs q.off.num), .string (zx q.off.num), .bool false, .string (ry q.off.den)]) rfl (by decide) (Nat.le_trans hB.size (Nat.le_refl _)) ?_
      simp [execOp, go_sem, h24, h26]
     ·intro f ρ w' S hd hx hc hB hA hD
      have h5 : ρ (.tmp 5) = .int .i64 ((0 : Nat) : Int) := hx (5, .int .i64 ((0 : Nat) : Int)) (by simp)
      refine fl_val (by rfl) (by rfl) ?_
      simp [execOp, go_sem, h5]
     ·intro f ρ w' S hd hx hc hB hA hD
      obtain ⟨g, cap, q1, q2, q3⟩ := (hA 5 (by decide)).1
      have h27 : ρ (.tmp 27) = .slice (some ⟨g, 0, none⟩) 2 cap := (hd 5 27 (by decide)).trans q1
      have h28 : ρ (.tmp 28) = .int .i64 ((0 : Nat) : Int) := (hd 6 28 (by decide)).trans (hA 6 (by decide)).1
      refine fl_ptr (by rfl) (by rfl) ?_ ⟨5, by decide, q2⟩ ((hA 5 (by decide)).2 g q2).2 q3
      simp [execOp, go_sem, h27, h28]
     ·intro f ρ w' S hd hx hc hB hA hD
      obtain ⟨g, cap, q1, q2, q3⟩ := (hA 7 (by decide)).1
      have h29 : ρ (.tmp 29) = .pointer (some ⟨g, 0, none⟩) := (hd 7 29 (by decide)).trans q1
      have z0 := q3.cell 0 (show 0 < 2 by decide) 0 (by decide)
      have z1 := q3.cell 0 (show 0 < 2 by decide) 1 (by decide)
      have z2 := q3.cell 0 (show 0 < 2 by decide) 2 (by decide)
      have z3 := q3.cell 0 (show 0 < 2 by decide) 3 (by decide)
      have z4 := q3.cell 0 (show 0 < 2 by decide) 4 (by decide)
      simp at z0 z1 z2 z3 z4
      refine fl_val (by rfl) (by rfl) ?_
      simp [execOp, go_sem, h29, z0, z1, z2, z3, z4]
     ·intro f ρ w' S hd hx hc hB hA hD
      have h22 : ρ (.tmp 22) = .agg #[v1, v2] := (hd 0 22 (by decide)).trans (hA 0 (by decide)).1
      have h30 : ρ (.tmp 30) = .agg #[.int .i64 p.road, .bool (zs p.off.num), .string (zx p.off.num), .bool false, .string (ry p.off.den)] := (hd 8 30 (by decide)).trans (hA 8 (by decide)).1
      haveI : Bw w w' := ⟨bwr.b.trans (hB.mono bwr.b.size)⟩
      exact fl_call (by rfl) (by rfl) (by simp [execOp, go_sem, h22, h30, hc.1, hc.2]) (HP.out w')
     ·intro f ρ w' S hd hx hc hB hA hD
      have h31 : ρ (.tmp 31) = .int .i64 ca := (hd 9 31 (by decide)).trans (hA 9 (by decide)).1
      refine fl_val (by rfl) (by rfl) ?_
      simp [execOp, go_sem, h31]
    ·intro f w' S hB hS hD
     have fv : f 10 = .int .i64 ca := (hS 10 (by kernel_rfl)).1
     simp only [putAll, Act.put, List.setIfInBounds_toArray, List.set_cons_zero, List.set_cons_succ]
     rw [fv]
     obtain ⟨Z, rfl⟩ := below_some hB
     clear hS hB hD fv
     go_wp2_with fail
     go_roundw
     case rel =>
      refine ⟨1, rfl, by omega, HZ2, ?_⟩
      with_reducible exact ex_junk
     case measure => simp [intOf]
  ·by_cases hc : cb = 0
   rotate_left
   ·have ho := HOU.out
    rw [if_pos (HZ.out.1 (by omega)), if_pos hc] at ho
    subst ho
    have hx' : (cb != 0) = true := by simpa using hc
    clear hc HZ
    go_upto_region 4 with fail
    refine wp_flow2 [(7, [5])] [(8, [7])] [(2, [1]), (4, [3]), (5, [2, 4]), (7, [5, 6]), (8, [7]), (9, [0, 8]), (10, [9])] [(0, some 22), (1, some 23), (2, some 24), (3, some 25), (4, some 26), (5, some 27), (6, some 28), (7, some 29), (8, some 30), (9, some 31), (10, some 6)] [(2, .pointer (some ⟨w.heap.size, 0, none⟩)), (3, .pointer (some ⟨w.heap.size + 1, 0, none⟩)), (5, .int .i64 ((1 : Nat) : Int))] [.val (.agg #[v1, v2]), .val (.pointer (some ⟨w.heap.size + 1, 0, none⟩)), .val (.agg #[.int .i64 p.road, .bool (zs p.off.num), .string (zx p.off.num), .bool false, .string (ry p.off.den)]), .val (.pointer (some ⟨w.heap.size + 1, 5, none⟩)), .val (.agg #[.int .i64 q.road, .bool (zs q.off.num), .string (zx q.off.num), .bool false, .string (ry q.off.den)]), .own 43 5 [[.int .i64 p.road, .bool (zs p.off.num), .string (zx p.off.num), .bool false, .string (ry p.off.den)], [.int .i64 q.road, .bool (zs q.off.num), .string (zx q.off.num), .bool false, .string (ry q.off.den)]], .val (.int .i64 ((1 : Nat) : Int)), .ptr 43 5 [[.int .i64 p.road, .bool (zs p.off.num), .string (zx p.off.num), .bool false, .string (ry p.off.den)], [.int .i64 q.road, .bool (zs q.off.num), .string (zx q.off.num), .bool false, .string (ry q.off.den)]] 5, .val (.agg #[.int .i64 q.road, .bool (zs q.off.num), .string (zx q.off.num), .bool false, .string (ry q.off.den)]), .val (.int .i64 cb), .val (.int .i64 cb)] (by kernel_rfl) (by kernel_rfl) (by kernel_rfl) (by kernel_rfl) (by kernel_rfl) ⟨rfl, rfl, rfl, trivial⟩ ⟨trivial, trivial, trivial, trivial, trivial, trivial, trivial, trivial, trivial, trivial, trivial, trivial⟩ ?_ ?_
    ·refine ⟨?_, ?_, ?_, ?_, ?_, ?_, ?_, ?_, ?_, ?_, ?_, trivial⟩
     ·intro f ρ w' S hd hx hc hB hA hD
      have h2 : ρ (.tmp 2) = .pointer (some ⟨w.heap.size, 0, none⟩) := hx (2, .pointer (some ⟨w.heap.size, 0, none⟩)) (by simp)
      have n0' := (hB.cell (p := ⟨w.heap.size, 0, none⟩) lt0).trans n0r
      have n1' := (hB.cell (p := ⟨w.heap.size, 1, none⟩) lt0).trans n1r
      refine fl_val (by rfl) (by rfl) ?_
      simp [execOp, go_sem, h2, n0', n1']
     ·intro f ρ w' S hd hx hc hB hA hD
      have h3 : ρ (.tmp 3) = .pointer (some ⟨w.heap.size + 1, 0, none⟩) := hx (3, .pointer (some ⟨w.heap.size + 1, 0, none⟩)) (by simp)
      refine fl_val (by rfl) (by rfl) ?_
      simp [execOp, go_sem, h3]
     ·intro f ρ w' S hd hx hc hB hA hD
      have h23 : ρ (.tmp 23) = .pointer (some ⟨w.heap.size + 1, 0, none⟩) := (hd 1 23 (by decide)).trans (hA 1 (by decide)).1
      have e0' := (hB.cell (p := ⟨w.heap.size + 1, 0, none⟩) lt1).trans e0r
      have e1' := (hB.cell (p := ⟨w.heap.size + 1, 1, none⟩) lt1).trans e1r
      have e2' := (hB.cell (p := ⟨w.heap.size + 1, 2, none⟩) lt1).trans e2r
      have e3' := (hB.cell (p := ⟨w.heap.size + 1, 3, none⟩) lt1).trans e3r
      have e4' := (hB.cell (p := ⟨w.heap.size + 1, 4, none⟩) lt1).trans e4r
      refine fl_val (by rfl) (by rfl) ?_
      simp [execOp, go_sem, h23, e0', e1', e2', e3', e4']
     ·intro f ρ w' S hd hx hc hB hA hD
      have h3 : ρ (.tmp 3) = .pointer (some ⟨w.heap.size + 1, 0, none⟩) := hx (3, .pointer (some ⟨w.heap.size + 1, 0, none⟩)) (by simp)
      refine fl_val (by rfl) (by rfl) ?_
      simp [execOp, go_sem, h3]
     ·intro f ρ w' S hd hx hc hB hA hD
      have h25 : ρ (.tmp 25) = .pointer (some ⟨w.heap.size + 1, 5, none⟩) := (hd 3 25 (by decide)).trans (hA 3 (by decide)).1
      have e5' := (hB.cell (p := ⟨w.heap.size + 1, 5, none⟩) lt1).trans e5r
      have e6' := (hB.cell (p := ⟨w.heap.size + 1, 6, none⟩) lt1).trans e6r
      have e7' := (hB.cell (p := ⟨w.heap.size + 1, 7, none⟩) lt1).trans e7r
      have e8' := (hB.cell (p := ⟨w.heap.size + 1, 8, none⟩) lt1).trans e8r
      have e9' := (hB.cell (p := ⟨w.heap.size + 1, 9, none⟩) lt1).trans e9r
      refine fl_val (by rfl) (by rfl) ?_
      simp [execOp, go_sem, h25, e5', e6', e7', e8', e9']
     ·intro f ρ w' S hd hx hc hB hA hD
      have h24 : ρ (.tmp 24) = .agg #[.int .i64 p.road, .bool (zs p.off.num), .string (zx p.off.num), .bool false, .string (ry p.off.den)] := (hd 2 24 (by decide)).trans (hA 2 (by decide)).1
      have h26 : ρ (.tmp 26) = .agg #[.int .i64 q.road, .bool (zs q.off.num), .string (zx q.off.num), .bool false, .string (ry q.off.den)] := (hd 4 26 (by decide)).trans (hA 4 (by decide)).1
      refine fl_lit (by rfl) (by rfl) (n := 2) rfl (fun r hr => by simp at hr; rcases hr with rfl | rfl <;> rfl) (cs := #[.int .i64 p.road, .bool (zs p.off.num), .string (zx p.off.num), .bool false, .string (ry p.off.den), .int .i64 q.road, .bool (zs q.off.num), .string (zx q.off.num), .bool false, .string (ry q.off.den)]) rfl (by decide) (Nat.le_trans hB.size (Nat.le_refl _)) ?_
      simp [execOp, go_sem, h24, h26]
     ·intro f ρ w' S hd hx hc hB hA hD
      have h5 : ρ (.tmp 5) = .int .i64 ((1 : Nat) : Int) := hx (5, .int .i64 ((1 : Nat) : Int)) (by simp)
      refine fl_val (by rfl) (by rfl) ?_
      simp [execOp, go_sem, h5]
     ·intro f ρ w' S hd hx hc hB hA hD
      obtain ⟨g, cap, q1, q2, q3⟩ := (hA 5 (by decide)).1
      have h27 : ρ (.tmp 27) = .slice (some ⟨g, 0, none⟩) 2 cap := (hd 5 27 (by decide)).trans q1
      have h28 : ρ (.tmp 28) = .int .i64 ((1 : Nat) : Int) := (hd 6 28 (by decide)).trans (hA 6 (by decide)).1
      refine fl_ptr (by rfl) (by rfl) ?_ ⟨5, by decide, q2⟩ ((hA 5 (by decide)).2 g q2).2 q3
      simp [execOp, go_sem, h27, h28]
     ·intro f ρ w' S hd hx hc hB hA hD
      obtain ⟨g, cap, q1, q2, q3⟩ := (hA 7 (by decide)).1
      have h29 : ρ (.tmp 29) = .pointer (some ⟨g, 5, none⟩) := (hd 7 29 (by decide)).trans q1
      have z0 := q3.cell 1 (show 1 < 2 by decide) 0 (by decide)
      have z1 := q3.cell 1 (show 1 < 2 by decide) 1 (by decide)
      have z2 := q3.cell 1 (show 1 < 2 by decide) 2 (by decide)
      have z3 := q3.cell 1 (show 1 < 2 by decide) 3 (by decide)
      have z4 := q3.cell 1 (show 1 < 2 by decide) 4 (by decide)
      simp at z0 z1 z2 z3 z4
      refine fl_val (by rfl) (by rfl) ?_
      simp [execOp, go_sem, h29, z0, z1, z2, z3, z4]
     ·intro f ρ w' S hd hx hc hB hA hD
      have h22 : ρ (.tmp 22) = .agg #[v1, v2] := (hd 0 22 (by decide)).trans (hA 0 (by decide)).1
      have h30 : ρ (.tmp 30) = .agg #[.int .i64 q.road, .bool (zs q.off.num), .string (zx q.off.num), .bool false, .string (ry q.off.den)] := (hd 8 30 (by decide)).trans (hA 8 (by decide)).1
      haveI : Bw w w' := ⟨bwr.b.trans (hB.mono bwr.b.size)⟩
      exact fl_call (by rfl) (by rfl) (by simp [execOp, go_sem, h22, h30, hc.1, hc.2]) (HQ.out w')
     ·intro f ρ w' S hd hx hc hB hA hD
      have h31 : ρ (.tmp 31) = .int .i64 cb := (hd 9 31 (by decide)).trans (hA 9 (by decide)).1
      refine fl_val (by rfl) (by rfl) ?_
      simp [execOp, go_sem, h31]
    ·intro f w' S hB hS hD
     have fv : f 10 = .int .i64 cb := (hS 10 (by kernel_rfl)).1
     simp only [putAll, Act.put, List.setIfInBounds_toArray, List.set_cons_zero, List.set_cons_succ]
     rw [fv]
     obtain ⟨Z, rfl⟩ := below_some hB
     clear hS hB hD fv
     go_wp2_with fail
     go_ret
     exact ⟨rfl, Bw.b⟩
   ·have HZ2 : Hid ((1 ≤ 2 → ca = 0) ∧ (2 ≤ 2 → cb = 0)) := Lib.hid ⟨fun _ => HZ.out.1 (by omega), fun _ => hc⟩
    have hx' : (cb != 0) = false := by simpa using hc
    clear hc HZ
    go_upto_region 4 with fail
    refine wp_flow2 [(7, [5])] [(8, [7])] [(2, [1]), (4, [3]), (5, [2, 4]), (7, [5, 6]), (8, [7]), (9, [0, 8]), (10, [9])] [(0, some 22), (1, some 23), (2, some 24), (3, some 25), (4, some 26), (5, some 27), (6, some 28), (7, some 29), (8, some 30), (9, some 31), (10, some 6)] [(2, .pointer (some ⟨w.heap.size, 0, none⟩)), (3, .pointer (some ⟨w.heap.size + 1, 0, none⟩)), (5, .int .i64 ((1 : Nat) : Int))] [.val (.agg #[v1, v2]), .val (.pointer (some ⟨w.heap.size + 1, 0, none⟩)), .val (.agg #[.int .i64 p.road, .bool (zs p.off.num), .string (zx p.off.num), .bool false, .string (ry p.off.den)]), .val (.pointer (some ⟨w.heap.size + 1, 5, none⟩)), .val (.agg #[.int .i64 q.road, .bool (zs q.off.num), .string (zx q.off.num), .bool false, .string (ry q.off.den)]), .own 43 5 [[.int .i64 p.road, .bool (zs p.off.num), .string (zx p.off.num), .bool false, .string (ry p.off.den)], [.int .i64 q.road, .bool (zs q.off.num), .string (zx q.off.num), .bool false, .string (ry q.off.den)]], .val (.int .i64 ((1 : Nat) : Int)), .ptr 43 5 [[.int .i64 p.road, .bool (zs p.off.num), .string (zx p.off.num), .bool false, .string (ry p.off.den)], [.int .i64 q.road, .bool (zs q.off.num), .string (zx q.off.num), .bool false, .string (ry q.off.den)]] 5, .val (.agg #[.int .i64 q.road, .bool (zs q.off.num), .string (zx q.off.num), .bool false, .string (ry q.off.den)]), .val (.int .i64 cb), .val (.int .i64 cb)] (by kernel_rfl) (by kernel_rfl) (by kernel_rfl) (by kernel_rfl) (by kernel_rfl) ⟨rfl, rfl, rfl, trivial⟩ ⟨trivial, trivial, trivial, trivial, trivial, trivial, trivial, trivial, trivial, trivial, trivial, trivial⟩ ?_ ?_
    ·refine ⟨?_, ?_, ?_, ?_, ?_, ?_, ?_, ?_, ?_, ?_, ?_, trivial⟩
     ·intro f ρ w' S hd hx hc hB hA hD
      have h2 : ρ (.tmp 2) = .pointer (some ⟨w.heap.size, 0, none⟩) := hx (2, .pointer (some ⟨w.heap.size, 0, none⟩)) (by simp)
      have n0' := (hB.cell (p := ⟨w.heap.size, 0, none⟩) lt0).trans n0r
      have n1' := (hB.cell (p := ⟨w.heap.size, 1, none⟩) lt0).trans n1r
      refine fl_val (by rfl) (by rfl) ?_
      simp [execOp, go_sem, h2, n0', n1']
     ·intro f ρ w' S hd hx hc hB hA hD
      have h3 : ρ (.tmp 3) = .pointer (some ⟨w.heap.size + 1, 0, none⟩) := hx (3, .pointer (some ⟨w.heap.size + 1, 0, none⟩)) (by simp)
      refine fl_val (by rfl) (by rfl) ?_
      simp [execOp, go_sem, h3]
     ·intro f ρ w' S hd hx hc hB hA hD
      have h23 : ρ (.tmp 23) = .pointer (some ⟨w.heap.size + 1, 0, none⟩) := (hd 1 23 (by decide)).trans (hA 1 (by decide)).1
      have e0' := (hB.cell (p := ⟨w.heap.size + 1, 0, none⟩) lt1).trans e0r
      have e1' := (hB.cell (p := ⟨w.heap.size + 1, 1, none⟩) lt1).trans e1r
      have e2' := (hB.cell (p := ⟨w.heap.size + 1, 2, none⟩) lt1).trans e2r
      have e3' := (hB.cell (p := ⟨w.heap.size + 1, 3, none⟩) lt1).trans e3r
      have e4' := (hB.cell (p := ⟨w.heap.size + 1, 4, none⟩) lt1).trans e4r
      refine fl_val (by rfl) (by rfl) ?_
      simp [execOp, go_sem, h23, e0', e1', e2', e3', e4']
     ·intro f ρ w' S hd hx hc hB hA hD
      have h3 : ρ (.tmp 3) = .pointer (some ⟨w.heap.size + 1, 0, none⟩) := hx (3, .pointer (some ⟨w.heap.size + 1, 0, none⟩)) (by simp)
      refine fl_val (by rfl) (by rfl) ?_
      simp [execOp, go_sem, h3]
     ·intro f ρ w' S hd hx hc hB hA hD
      have h25 : ρ (.tmp 25) = .pointer (some ⟨w.heap.size + 1, 5, none⟩) := (hd 3 25 (by decide)).trans (hA 3 (by decide)).1
      have e5' := (hB.cell (p := ⟨w.heap.size + 1, 5, none⟩) lt1).trans e5r
      have e6' := (hB.cell (p := ⟨w.heap.size + 1, 6, none⟩) lt1).trans e6r
      have e7' := (hB.cell (p := ⟨w.heap.size + 1, 7, none⟩) lt1).trans e7r
      have e8' := (hB.cell (p := ⟨w.heap.size + 1, 8, none⟩) lt1).trans e8r
      have e9' := (hB.cell (p := ⟨w.heap.size + 1, 9, none⟩) lt1).trans e9r
      refine fl_val (by rfl) (by rfl) ?_
      simp [execOp, go_sem, h25, e5', e6', e7', e8', e9']
     ·intro f ρ w' S hd hx hc hB hA hD
      have h24 : ρ (.tmp 24) = .agg #[.int .i64 p.road, .bool (zs p.off.num), .string (zx p.off.num), .bool false, .string (ry p.off.den)] := (hd 2 24 (by decide)).trans (hA 2 (by decide)).1
      have h26 : ρ (.tmp 26) = .agg #[.int .i64 q.road, .bool (zs q.off.num), .string (zx q.off.num), .bool false, .string (ry q.off.den)] := (hd 4 26 (by decide)).trans (hA 4 (by decide)).1
      refine fl_lit (by rfl) (by rfl) (n := 2) rfl (fun r hr => by simp at hr; rcases hr with rfl | rfl <;> rfl) (cs := #[.int .i64 p.road, .bool (zs p.off.num), .string (zx p.off.num), .bool false, .string (ry p.off.den), .int .i64 q.road, .bool (zs q.off.num), .string (zx q.off.num), .bool false, .string (ry q.off.den)]) rfl (by decide) (Nat.le_trans hB.size (Nat.le_refl _)) ?_
      simp [execOp, go_sem, h24, h26]
     ·intro f ρ w' S hd hx hc hB hA hD
      have h5 : ρ (.tmp 5) = .int .i64 ((1 : Nat) : Int) := hx (5, .int .i64 ((1 : Nat) : Int)) (by simp)
      refine fl_val (by rfl) (by rfl) ?_
      simp [execOp, go_sem, h5]
     ·intro f ρ w' S hd hx hc hB hA hD
      obtain ⟨g, cap, q1, q2, q3⟩ := (hA 5 (by decide)).1
      have h27 : ρ (.tmp 27) = .slice (some ⟨g, 0, none⟩) 2 cap := (hd 5 27 (by decide)).trans q1
      have h28 : ρ (.tmp 28) = .int .i64 ((1 : Nat) : Int) := (hd 6 28 (by decide)).trans (hA 6 (by decide)).1
      refine fl_ptr (by rfl) (by rfl) ?_ ⟨5, by decide, q2⟩ ((hA 5 (by decide)).2 g q2).2 q3
      simp [execOp, go_sem, h27, h28]
     ·intro f ρ w' S hd hx hc hB hA hD
      obtain ⟨g, cap, q1, q2, q3⟩ := (hA 7 (by decide)).1
      have h29 : ρ (.tmp 29) = .pointer (some ⟨g, 5, none⟩) := (hd 7 29 (by decide)).trans q1
      have z0 := q3.cell 1 (show 1 < 2 by decide) 0 (by decide)
      have z1 := q3.cell 1 (show 1 < 2 by decide) 1 (by decide)
      have z2 := q3.cell 1 (show 1 < 2 by decide) 2 (by decide)
      have z3 := q3.cell 1 (show 1 < 2 by decide) 3 (by decide)
      have z4 := q3.cell 1 (show 1 < 2 by decide) 4 (by decide)
      simp at z0 z1 z2 z3 z4
      refine fl_val (by rfl) (by rfl) ?_
      simp [execOp, go_sem, h29, z0, z1, z2, z3, z4]
     ·intro f ρ w' S hd hx hc hB hA hD
      have h22 : ρ (.tmp 22) = .agg #[v1, v2] := (hd 0 22 (by decide)).trans (hA 0 (by decide)).1
      have h30 : ρ (.tmp 30) = .agg #[.int .i64 q.road, .bool (zs q.off.num), .string (zx q.off.num), .bool false, .string (ry q.off.den)] := (hd 8 30 (by decide)).trans (hA 8 (by decide)).1
      haveI : Bw w w' := ⟨bwr.b.trans (hB.mono bwr.b.size)⟩
      exact fl_call (by rfl) (by rfl) (by simp [execOp, go_sem, h22, h30, hc.1, hc.2]) (HQ.out w')
     ·intro f ρ w' S hd hx hc hB hA hD
      have h31 : ρ (.tmp 31) = .int .i64 cb := (hd 9 31 (by decide)).trans (hA 9 (by decide)).1
      refine fl_val (by rfl) (by rfl) ?_
      simp [execOp, go_sem, h31]
    ·intro f w' S hB hS hD
     have fv : f 10 = .int .i64 cb := (hS 10 (by kernel_rfl)).1
     simp only [putAll, Act.put, List.setIfInBounds_toArray, List.set_cons_zero, List.set_cons_succ]
     rw [fv]
     obtain ⟨Z, rfl⟩ := below_some hB
     clear hS hB hD fv
     go_wp2_with fail
     go_roundw
     case rel =>
      refine ⟨2, rfl, by omega, HZ2, ?_⟩
      with_reducible exact ex_junk
     case measure => simp [intOf]
  ·have HT := Lib.hid HOU.out
   rw [if_pos (HZ.out.1 (by omega)), HZ.out.2 (by omega), if_neg (by simp)] at HT
   clear HOU HZ HP HQ bVr bwr lt0 lt1 n0r n1r e0r e1r e2r e3r e4r e5r e6r e7r e8r e9r
   rw [show ((2 : Nat) : Int) = 2 from rfl]
   go_wp2_with fail
   obtain ⟨W2, hW2⟩ : ∃ W2, W2 = (((V.junk U).alloc (.cells #[.int .i64 p.road, .bool (zs p.off.num), .string (zx p.off.num), .bool false, .string (ry p.off.den)] 43)).alloc (.cells #[.bool false, .string ⟨#[]⟩, .bool false, .string ⟨#[]⟩] 41)) := ⟨_, rfl⟩
   have H7 : Hid (W2.heap[(V.junk U).heap.size]? = some (.cells #[.int .i64 p.road, .bool (zs p.off.num), .string (zx p.off.num), .bool false, .string (ry p.off.den)] 43 (0, 0))) := Lib.hid (by rw [hW2]; exact obj_old (obj_last _ _))
   have H8 : Hid (W2.heap[(V.junk U).heap.size + 1]? = some (.cells #[.bool (zs (0 : Rat).num), .string (zx (0 : Rat).num), .bool false, .string (ry (0 : Rat).den)] 41 (0, 0))) := Lib.hid (by rw [hW2, zc0, zc1, zc2]; exact obj_last2 _ _ _)
   have HW : Hid (∃ U, W2 = V.junk U) := Lib.hid (by rw [hW2]; with_reducible exact ex_junk)
   have hb1 : w.heap.size + 1 < V.heap.size := lV1.lt
   have hb2 : V.heap.size ≤ (V.junk U).heap.size := (junk_below V U).size
   rw [← hW2]
   clear hW2
   obtain ⟨b7, hb7⟩ : ∃ b, (V.junk U).heap.size = b := ⟨_, rfl⟩
   rw [hb7] at H7 H8 hb2 ⊢
   generalize e8 : b7 + 1 = b8 at *
   have HD := Lib.hid (show V.heap.size ≤ b7 ∧ V.heap.size ≤ b8 ∧ ¬ b7 = b8 ∧ ¬ b8 = b7 by refine ⟨?_, ?_, ?_, ?_⟩ <;> omega)
   clear e8 hb7 hb1 hb2
   have hs0 : SumIn 0 0 := ⟨g64_zero, Rat.le_refl, by have : (((0 : Nat) : Int) : Rat) = 0 := rfl; rw [this]; grind⟩
   go_loopw [9] (fun s9 wr => ∃ (k : Nat) (s : Plc) (y : Rat), s9 = .int .i64 k ∧ k ≤ m ∧ Hid (ckL n q len (L.drop k) s y = out) ∧ Hid (Sm s.off ∧ SumIn k y) ∧ Hid (wr.heap[b7]? = some (.cells #[.int .i64 s.road, .bool (zs s.off.num), .string (zx s.off.num), .bool false, .string (ry s.off.den)] 43 (0, 0))) ∧ Hid (wr.heap[b8]? = some (.cells #[.bool (zs y.num), .string (zx y.num), .bool false, .string (ry y.den)] 41 (0, 0))) ∧ ∃ U, wr = V.junk U) (fun s9 _ => m - (intOf s9).toNat)
   case atStart => exact ⟨0, p, 0, rfl, Nat.zero_le _, HT, Lib.hid ⟨HPS.out, hs0⟩, H7, H8, HW.out⟩
   case round =>
    clear H7 H8 HW HT hs0
    obtain ⟨k, s, y, rfl, hk, HT, HTI, H7, H8, U, rfl⟩ := hrel
    obtain ⟨b7V, b8V, d78, d87⟩ := HD.out
    haveI l7 : Lo b7 (V.junk U) := ⟨obj_lt H7.out⟩
    haveI l8 : Lo b8 (V.junk U) := ⟨obj_lt H8.out⟩
    by_cases hlt : k < m
    rotate_left
    ·obtain rfl : k = m := by omega
     have HT2 := Lib.hid HT.out
     rw [List.drop_eq_nil_of_le (by rw [HM.out]; exact Nat.le_refl _)] at HT2
     unfold ckL at HT2
     have HSS := Lib.hid (HSM.out s q HTI.out.1 HQS.out)
     have sy := sum_sm HTI.out.2 hm2
     have s0 := obj_cell H7.out 0
     have s1 := obj_cell H7.out 1
     have s2 := obj_cell H7.out 2
     have s3 := obj_cell H7.out 3
     have s4 := obj_cell H7.out 4
     simp at s0 s1 s2 s3 s4
     have y0 := obj_cell H8.out 0
     have y1 := obj_cell H8.out 1
     have y2 := obj_cell H8.out 2
     have y3 := obj_cell H8.out 3
     simp at y0 y1 y2 y3
     generalize sameN n s q = sm at HSS HT2
     clear HT HTI
     cases sm with
     | false =>
      have ho : (12 : Int) = out := HT2.out
      subst ho
      go_wp2_with fail
      refine (jk (HSS.out _)).mono ?_
      rintro e _ ⟨rfl, X2, rfl⟩
      go_wp2_with fail
      go_ret
      exact ⟨rfl, Bw.b⟩
     | true =>
      rw [if_neg (by simp)] at HT2
      by_cases hyl : y = len
      ·have ho := HT2.out
       rw [if_pos hyl] at ho
       subst ho
       have hd : decide (y = len) = true := by simpa using hyl
       clear hyl HT2
       go_wp2_with fail
       refine (jk (HSS.out _)).mono ?_
       rintro e _ ⟨rfl, X2, rfl⟩
       go_wp2_with fail
       go_ret
       exact ⟨rfl, Bw.b⟩
      ·have ho := HT2.out
       rw [if_neg hyl] at ho
       subst ho
       have hd : decide (y = len) = false := by simpa using hyl
       clear hyl HT2
       go_wp2_with fail
       refine (jk (HSS.out _)).mono ?_
       rintro e _ ⟨rfl, X2, rfl⟩
       go_wp2_with fail
       go_ret
       exact ⟨rfl, Bw.b⟩
    have hkl : k < L.length := by rw [HM.out]; exact hlt
    obtain ⟨b, off, rfl, hb, c0, c1, c2, c3, c4, c5, c6, c7, c8⟩ := lg_cells HV.out k hkl
    haveI lb : Lo b w := ⟨hb⟩
    haveI lbV : Lo b V := ⟨Nat.lt_of_lt_of_le hb bwV.b.size⟩
    have hmem : L[k]! ∈ L := by rw [getElem!_pos L k hkl]; exact List.getElem_mem hkl
    have hx := HL.out _ hmem
    have hdr : L.drop k = L[k]! :: L.drop (k + 1) := by rw [List.drop_eq_getElem_cons hkl, getElem!_pos L k hkl]
    have HT2 := Lib.hid HT.out
    rw [hdr] at HT2
    generalize L[k]! = x at c0 c1 c2 c3 c4 c5 c6 c7 c8 hx HT2
    rw [← bwV.b.cell (p := ⟨b, _, none⟩) hb] at c0 c1 c2 c3 c4 c5 c6 c7 c8
    unfold ckL at HT2
    have hks : k + 1 ≤ 100 := by omega
    have HTI2 := sum_next HTI.out.2 hx
    have sy := sum_sm HTI.out.2 (by omega)
    obtain ⟨ga, gb, a0, a1, b0, b1⟩ := hx
    have sa : Sm x.a := sm_g64 ga (by grind) (by grind)
    have sb : Sm x.b := sm_g64 gb (by grind) (by grind)
    have sd : Sm (x.b - x.a) := sm_g64 (g64_sub gb ga) (by grind) (by grind)
    have ss := HTI.out.1
    have HCa := Lib.hid (HCA.out ⟨x.road, x.a⟩ sa)
    have HCb := Lib.hid (HCA.out ⟨x.road, x.b⟩ sb)
    have HSS := Lib.hid (HSM.out s ⟨x.road, x.a⟩ ss sa)
    have HRR := Lib.hid (HRD.out x.road)
    have HS := Lib.hid (fun w' => sub_q x.b x.a w' sb sa)
    have HG := Lib.hid (fun w' => sign_q (x.b - x.a) w' (by have := sd.1; omega))
    have HA := Lib.hid (fun w' => abs_q (x.b - x.a) w' (by have := sd.1; omega))
    have HAD := Lib.hid (fun w' => add_q y (absR (x.b - x.a)) w' sy (sm_abs sd))
    have HTJ : Hid (Sm (⟨x.road, x.b⟩ : Plc).off ∧ SumIn (k + 1) (y + absR (x.b - x.a))) := Lib.hid ⟨sb, HTI2⟩
    have KA : Hid (chkP n ⟨x.road, x.a⟩ ≠ 0 → ckLeg n x s = chkP n ⟨x.road, x.a⟩) := Lib.hid (fun h => ckLeg_a h)
    have KB : Hid (chkP n ⟨x.road, x.a⟩ = 0 → chkP n ⟨x.road, x.b⟩ ≠ 0 → ckLeg n x s = chkP n ⟨x.road, x.b⟩) := Lib.hid (fun h1 h2 => ckLeg_b h1 h2)
    have KC : Hid (chkP n ⟨x.road, x.a⟩ = 0 → chkP n ⟨x.road, x.b⟩ = 0 → ckLeg n x s = if sgnZ (x.b - x.a).num = 0 then 6 else if ((roadOf n.roads x.road).getD rd0).one = true ∧ sgnZ (x.b - x.a).num < 0 then 24 else if sameN n s ⟨x.road, x.a⟩ = false then 12 else 0) := Lib.hid (fun h1 h2 => ckLeg_c h1 h2)
    generalize chkP n ⟨x.road, x.a⟩ = ka at HCa KA KB KC
    generalize chkP n ⟨x.road, x.b⟩ = kb at HCb KB KC
    generalize sameN n s ⟨x.road, x.a⟩ = sm at HSS KC
    generalize sgnZ (x.b - x.a).num = gs at HG KC
    generalize ckLeg n x s = ce at HT2 KA KB KC
    generalize (roadOf n.roads x.road).getD rd0 = r at HRR KC
    generalize (roadOf n.roads x.road).isSome = ri at HRR
    clear ga gb a0 a1 b0 b1 sa sb sd sy ss HTI HTI2 HT hdr hmem hks
    generalize y + absR (x.b - x.a) = y' at HAD HTJ HT2
    generalize absR (x.b - x.a) = n' at HA HAD
    generalize x.b - x.a = d at HS HA HG
    unfold Rd.v at HRR
    simp only [rV] at HS HA HAD HG
    simp only at HCa HCb HSS
    go_upto_region 12 with fail
    obtain ⟨W, hW⟩ : ∃ W, W = ((V.junk U).alloc (.cells #[.int .i64 x.road, .bool (zs x.a.num), .string (zx x.a.num), .bool false, .string (ry x.a.den), .bool (zs x.b.num), .string (zx x.b.num), .bool false, .string (ry x.b.den)] 55)) := ⟨_, rfl⟩
    have K7 : Hid (W.heap[b7]? = some (.cells #[.int .i64 s.road, .bool (zs s.off.num), .string (zx s.off.num), .bool false, .string (ry s.off.den)] 43 (0, 0))) := Lib.hid (by rw [hW]; exact obj_old H7.out)
    have K8 : Hid (W.heap[b8]? = some (.cells #[.bool (zs y.num), .string (zx y.num), .bool false, .string (ry y.den)] 41 (0, 0))) := Lib.hid (by rw [hW]; exact obj_old H8.out)
    have K9 : Hid (W.heap[(V.junk U).heap.size]? = some (.cells #[.int .i64 x.road, .bool (zs x.a.num), .string (zx x.a.num), .bool false, .string (ry x.a.den), .bool (zs x.b.num), .string (zx x.b.num), .bool false, .string (ry x.b.den)] 55 (0, 0))) := Lib.hid (by rw [hW]; exact obj_last _ _)
    haveI bV : Bw V W := by rw [hW]; infer_instance
    rw [← hW]
    clear hW c0 c1 c2 c3 c4 c5 c6 c7 c8 H7 H8
    generalize (V.junk U).heap.size = bx at *
    haveI lx : Lo bx W := ⟨obj_lt K9.out⟩
    have x0 := obj_cell K9.out 0
    have x1 := obj_cell K9.out 1
    have x2 := obj_cell K9.out 2
    have x3 := obj_cell K9.out 3
    have x4 := obj_cell K9.out 4
    have x5 := obj_cell K9.out 5
    have x6 := obj_cell K9.out 6
    have x7 := obj_cell K9.out 7
    have x8 := obj_cell K9.out 8
    simp at x0 x1 x2 x3 x4 x5 x6 x7 x8
    refine wp_flow2 [(12, [10]), (13, [11])] [(12, [10]), (13, [11])] [(1, [0]), (3, [2]), (4, [1, 3]), (6, [5]), (8, [7]), (9, [6, 8]), (12, [10, 4]), (13, [11, 9])] [(0, some 50), (1, some 51), (2, some 52), (3, some 53), (4, some 54), (5, some 55), (6, some 56), (7, some 57), (8, some 58), (9, some 59), (10, some 11), (11, some 12), (12, none), (13, none)] [(10, .pointer (some ⟨bx, 0, none⟩))] [.val (.pointer (some ⟨bx, 0, none⟩)), .val (.int .i64 x.road), .val (.pointer (some ⟨bx, 1, none⟩)), .val (.agg #[.bool (zs x.a.num), .string (zx x.a.num), .bool false, .string (ry x.a.den)]), .val (.agg #[.int .i64 x.road, .bool (zs x.a.num), .string (zx x.a.num), .bool false, .string (ry x.a.den)]), .val (.pointer (some ⟨bx, 0, none⟩)), .val (.int .i64 x.road), .val (.pointer (some ⟨bx, 5, none⟩)), .val (.agg #[.bool (zs x.b.num), .string (zx x.b.num), .bool false, .string (ry x.b.den)]), .val (.agg #[.int .i64 x.road, .bool (zs x.b.num), .string (zx x.b.num), .bool false, .string (ry x.b.den)]), .box 43 10 (fun _ => #[.int .i64 0, .bool false, .string ⟨#[]⟩, .bool false, .string ⟨#[]⟩]), .box 43 11 (fun _ => #[.int .i64 0, .bool false, .string ⟨#[]⟩, .bool false, .string ⟨#[]⟩]), .box 43 10 (fun _ => #[.int .i64 x.road, .bool (zs x.a.num), .string (zx x.a.num), .bool false, .string (ry x.a.den)]), .box 43 11 (fun _ => #[.int .i64 x.road, .bool (zs x.b.num), .string (zx x.b.num), .bool false, .string (ry x.b.den)])] (by kernel_rfl) (by kernel_rfl) (by kernel_rfl) (by kernel_rfl) (by kernel_rfl) ⟨rfl, trivial⟩ ⟨trivial, trivial, trivial, trivial, trivial, trivial, trivial, trivial, trivial, trivial, ⟨.inl rfl, fun _ _ _ => rfl⟩, ⟨.inl rfl, fun _ _ _ => rfl⟩, ⟨.inr (by decide), fun _ _ _ => rfl⟩, ⟨.inr (by decide), fun _ _ _ => rfl⟩, trivial⟩ ?_ ?_
    ·refine ⟨?_, ?_, ?_, ?_, ?_, ?_, ?_, ?_, ?_, ?_, ?_, ?_, ?_, ?_, trivial⟩
     ·intro f ρ w' S hd hx hc hB hA hD
      have h10 : ρ (.tmp 10) = .pointer (some ⟨bx, 0, none⟩) := hx (10, .pointer (some ⟨bx, 0, none⟩)) (by simp)
      refine fl_val (by rfl) (by rfl) ?_
      simp [execOp, go_sem, h10]
     ·intro f ρ w' S hd hx hc hB hA hD
      have h50 : ρ (.tmp 50) = .pointer (some ⟨bx, 0, none⟩) := (hd 0 50 (by decide)).trans (hA 0 (by decide)).1
      have c0x' := (hB.cell (p := ⟨bx, 0, none⟩) lx.lt).trans x0
      refine fl_val (by rfl) (by rfl) ?_
      simp [execOp, go_sem, h50, c0x']
     ·intro f ρ w' S hd hx hc hB hA hD
      have h10 : ρ (.tmp 10) = .pointer (some ⟨bx, 0, none⟩) := hx (10, .pointer (some ⟨bx, 0, none⟩)) (by simp)
      refine fl_val (by rfl) (by rfl) ?_
      simp [execOp, go_sem, h10]
     ·intro f ρ w' S hd hx hc hB hA hD
      have h52 : ρ (.tmp 52) = .pointer (some ⟨bx, 1, none⟩) := (hd 2 52 (by decide)).trans (hA 2 (by decide)).1
      have c1x' := (hB.cell (p := ⟨bx, 1, none⟩) lx.lt).trans x1
      have c2x' := (hB.cell (p := ⟨bx, 2, none⟩) lx.lt).trans x2
      have c3x' := (hB.cell (p := ⟨bx, 3, none⟩) lx.lt).trans x3
      have c4x' := (hB.cell (p := ⟨bx, 4, none⟩) lx.lt).trans x4
      refine fl_val (by rfl) (by rfl) ?_
      simp [execOp, go_sem, h52, c1x', c2x', c3x', c4x']
     ·intro f ρ w' S hd hx hc hB hA hD
      have h51 : ρ (.tmp 51) = .int .i64 x.road := (hd 1 51 (by decide)).trans (hA 1 (by decide)).1
      have h53 : ρ (.tmp 53) = .agg #[.bool (zs x.a.num), .string (zx x.a.num), .bool false, .string (ry x.a.den)] := (hd 3 53 (by decide)).trans (hA 3 (by decide)).1
      refine fl_val (by rfl) (by rfl) ?_
      simp [execOp, go_sem, h51, h53]
     ·intro f ρ w' S hd hx hc hB hA hD
      have h10 : ρ (.tmp 10) = .pointer (some ⟨bx, 0, none⟩) := hx (10, .pointer (some ⟨bx, 0, none⟩)) (by simp)
      refine fl_val (by rfl) (by rfl) ?_
      simp [execOp, go_sem, h10]
     ·intro f ρ w' S hd hx hc hB hA hD
      have h55 : ρ (.tmp 55) = .pointer (some ⟨bx, 0, none⟩) := (hd 5 55 (by decide)).trans (hA 5 (by decide)).1
      have c0x' := (hB.cell (p := ⟨bx, 0, none⟩) lx.lt).trans x0
      refine fl_val (by rfl) (by rfl) ?_
      simp [execOp, go_sem, h55, c0x']
     ·intro f ρ w' S hd hx hc hB hA hD
      have h10 : ρ (.tmp 10) = .pointer (some ⟨bx, 0, none⟩) := hx (10, .pointer (some ⟨bx, 0, none⟩)) (by simp)
      refine fl_val (by rfl) (by rfl) ?_
      simp [execOp, go_sem, h10]
     ·intro f ρ w' S hd hx hc hB hA hD
      have h57 : ρ (.tmp 57) = .pointer (some ⟨bx, 5, none⟩) := (hd 7 57 (by decide)).trans (hA 7 (by decide)).1
      have c5x' := (hB.cell (p := ⟨bx, 5, none⟩) lx.lt).trans x5
      have c6x' := (hB.cell (p := ⟨bx, 6, none⟩) lx.lt).trans x6
      have c7x' := (hB.cell (p := ⟨bx, 7, none⟩) lx.lt).trans x7
      have c8x' := (hB.cell (p := ⟨bx, 8, none⟩) lx.lt).trans x8
      refine fl_val (by rfl) (by rfl) ?_
      simp [execOp, go_sem, h57, c5x', c6x', c7x', c8x']
     ·intro f ρ w' S hd hx hc hB hA hD
      have h56 : ρ (.tmp 56) = .int .i64 x.road := (hd 6 56 (by decide)).trans (hA 6 (by decide)).1
      have h58 : ρ (.tmp 58) = .agg #[.bool (zs x.b.num), .string (zx x.b.num), .bool false, .string (ry x.b.den)] := (hd 8 58 (by decide)).trans (hA 8 (by decide)).1
      refine fl_val (by rfl) (by rfl) ?_
      simp [execOp, go_sem, h56, h58]
     ·intro f ρ w' S hd hx hc hB hA hD
      refine fl_box (by rfl) (by rfl) hB.size (fun _ _ => rfl) ?_
      simp [execOp, go_sem]
     ·intro f ρ w' S hd hx hc hB hA hD
      refine fl_box (by rfl) (by rfl) hB.size (fun _ _ => rfl) ?_
      simp [execOp, go_sem]
     ·intro f ρ w' S hd hx hc hB hA hD
      have h54 : ρ (.tmp 54) = .agg #[.int .i64 x.road, .bool (zs x.a.num), .string (zx x.a.num), .bool false, .string (ry x.a.den)] := (hd 4 54 (by decide)).trans (hA 4 (by decide)).1
      obtain ⟨b, p1, p2, p3, p4⟩ := (hA 10 (by decide)).1
      have h11 : ρ (.tmp 11) = .pointer (some ⟨b, 0, none⟩) := (hd 10 11 (by decide)).trans p1
      have c0' := obj_cell p4 0
      have c1' := obj_cell p4 1
      have c2' := obj_cell p4 2
      have c3' := obj_cell p4 3
      have c4' := obj_cell p4 4
      have z0' := obj_free p4 0
      have z1' := obj_free p4 1
      have z2' := obj_free p4 2
      have z3' := obj_free p4 3
      have z4' := obj_free p4 4
      simp at c0' c1' c2' c3' c4'
      have hlt := obj_lt p4
      refine fl_store (w' := (((((w'.setCell ⟨b, 0, none⟩ (.int .i64 x.road)).setCell ⟨b, 1, none⟩ (.bool (zs x.a.num))).setCell ⟨b, 2, none⟩ (.string (zx x.a.num))).setCell ⟨b, 3, none⟩ (.bool false)).setCell ⟨b, 4, none⟩ (.string (ry x.a.den)))) (by rfl) (by decide) ⟨10, by decide, p2⟩ p1 p3 (obj_lt p4) (fun _ _ => rfl) ?_ ?_ ?_
      ·simp [execOp, go_sem, h54, h11, c0', c1', c2', c3', c4', z0', z1', z2', z3', z4']
      ·exact Ext.of_grown (row5 _ b _ _ _ _ _) (fun g hg => by injection hg with hg; exact hg.symm)
      ·rw [obj_set (obj_set (obj_set (obj_set (obj_set p4))))]; simp
     ·intro f ρ w' S hd hx hc hB hA hD
      have h59 : ρ (.tmp 59) = .agg #[.int .i64 x.road, .bool (zs x.b.num), .string (zx x.b.num), .bool false, .string (ry x.b.den)] := (hd 9 59 (by decide)).trans (hA 9 (by decide)).1
      obtain ⟨b, p1, p2, p3, p4⟩ := (hA 11 (by decide)).1
      have h12 : ρ (.tmp 12) = .pointer (some ⟨b, 0, none⟩) := (hd 11 12 (by decide)).trans p1
      have c0' := obj_cell p4 0
      have c1' := obj_cell p4 1
      have c2' := obj_cell p4 2
      have c3' := obj_cell p4 3
      have c4' := obj_cell p4 4
      have z0' := obj_free p4 0
      have z1' := obj_free p4 1
      have z2' := obj_free p4 2
      have z3' := obj_free p4 3
      have z4' := obj_free p4 4
      simp at c0' c1' c2' c3' c4'
      have hlt := obj_lt p4
      refine fl_store (w' := (((((w'.setCell ⟨b, 0, none⟩ (.int .i64 x.road)).setCell ⟨b, 1, none⟩ (.bool (zs x.b.num))).setCell ⟨b, 2, none⟩ (.string (zx x.b.num))).setCell ⟨b, 3, none⟩ (.bool false)).setCell ⟨b, 4, none⟩ (.string (ry x.b.den)))) (by rfl) (by decide) ⟨11, by decide, p2⟩ p1 p3 (obj_lt p4) (fun _ _ => rfl) ?_ ?_ ?_
      ·simp [execOp, go_sem, h59, h12, c0', c1', c2', c3', c4', z0', z1', z2', z3', z4']
      ·exact Ext.of_grown (row5 _ b _ _ _ _ _) (fun g hg => by injection hg with hg; exact hg.symm)
      ·rw [obj_set (obj_set (obj_set (obj_set (obj_set p4))))]; simp
    ·intro f w' S hB hS hD
     obtain ⟨ba, p1a, _, _, p4a⟩ := (hS 12 (by kernel_rfl)).1
     obtain ⟨bb, p1b, _, _, p4b⟩ := (hS 13 (by kernel_rfl)).1
     simp only [putAll, Act.put, List.setIfInBounds_toArray, List.set_cons_zero, List.set_cons_succ]
     rw [p1a, p1b]
     obtain ⟨X, rfl⟩ := below_some hB
     replace K7 := Lib.hid (obj_junk (X := X) K7.out)
     replace K8 := Lib.hid (obj_junk (X := X) K8.out)
     replace K9 := Lib.hid (obj_junk (X := X) K9.out)
     have KAo := Lib.hid p4a
     have KBo := Lib.hid p4b
     replace bV : Bw V (W.junk X) := ⟨bV.b.trans (hB.mono bV.b.size)⟩
     clear hS hB hD p1a p1b p4a p4b lx x0 x1 x2 x3 x4 x5 x6 x7 x8
     generalize W.junk X = Wd at *
     haveI bw : Bw w Wd := ⟨bwV.b.trans (bV.b.mono bwV.b.size)⟩
     have n0d := (bV.b.cell (p := ⟨w.heap.size, 0, none⟩) lV0.lt).trans n0
     have n1d := (bV.b.cell (p := ⟨w.heap.size, 1, none⟩) lV0.lt).trans n1
     haveI lV0d : Lo w.heap.size Wd := ⟨Nat.lt_of_lt_of_le lV0.lt bV.b.size⟩
     haveI lsd : Lo b7 Wd := ⟨obj_lt K7.out⟩
     have s0 := obj_cell K7.out 0
     have s1 := obj_cell K7.out 1
     have s2 := obj_cell K7.out 2
     have s3 := obj_cell K7.out 3
     have s4 := obj_cell K7.out 4
     simp at s0 s1 s2 s3 s4
     haveI lyd : Lo b8 Wd := ⟨obj_lt K8.out⟩
     have y0 := obj_cell K8.out 0
     have y1 := obj_cell K8.out 1
     have y2 := obj_cell K8.out 2
     have y3 := obj_cell K8.out 3
     simp at y0 y1 y2 y3
     haveI lxd : Lo bx Wd := ⟨obj_lt K9.out⟩
     have x0 := obj_cell K9.out 0
     have x1 := obj_cell K9.out 1
     have x2 := obj_cell K9.out 2
     have x3 := obj_cell K9.out 3
     have x4 := obj_cell K9.out 4
     have x5 := obj_cell K9.out 5
     have x6 := obj_cell K9.out 6
     have x7 := obj_cell K9.out 7
     have x8 := obj_cell K9.out 8
     simp at x0 x1 x2 x3 x4 x5 x6 x7 x8
     haveI lud : Lo ba Wd := ⟨obj_lt KAo.out⟩
     have u0 := obj_cell KAo.out 0
     have u1 := obj_cell KAo.out 1
     have u2 := obj_cell KAo.out 2
     have u3 := obj_cell KAo.out 3
     have u4 := obj_cell KAo.out 4
     simp at u0 u1 u2 u3 u4
     haveI ltd : Lo bb Wd := ⟨obj_lt KBo.out⟩
     have t0 := obj_cell KBo.out 0
     have t1 := obj_cell KBo.out 1
     have t2 := obj_cell KBo.out 2
     have t3 := obj_cell KBo.out 3
     have t4 := obj_cell KBo.out 4
     simp at t0 t1 t2 t3 t4
     have f0 := obj_free K7.out 0
     have f1 := obj_free K7.out 1
     have f2 := obj_free K7.out 2
     have f3 := obj_free K7.out 3
     have f4 := obj_free K7.out 4
     have g0 := obj_free K8.out 0
     have g1 := obj_free K8.out 1
     have g2 := obj_free K8.out 2
     have g3 := obj_free K8.out 3
     have HX := Lib.hid (show ∀ ce', ce = ce' → ce' ≠ 0 → ce' = out from fun ce' h1 h2 => by
      have h := HT2.out
      rw [h1, if_pos h2] at h
      exact h)
     go_wp2_with fail
     refine (jk (HCa.out _)).mono ?_
     rintro e _ ⟨rfl, X3, rfl⟩
     by_cases hka : ka = 0
     rotate_left
     ·have ho := HX.out _ (KA.out hka) hka
      subst ho
      have hx' : (ka != 0) = true := by simpa using hka
      clear hka HX KA KB KC HT2
      go_wp2_with fail
      go_ret
      exact ⟨rfl, Bw.b⟩
     subst hka
     clear KA
     go_wp2_with fail
     refine (jk (HCb.out _)).mono ?_
     rintro e _ ⟨rfl, X4, rfl⟩
     by_cases hkb : kb = 0
     rotate_left
     ·have ho := HX.out _ (KB.out (by trivial) hkb) hkb
      subst ho
      have hx' : (kb != 0) = true := by simpa using hkb
      clear hkb HX KB KC HT2
      go_wp2_with fail
      go_ret
      exact ⟨rfl, Bw.b⟩
     subst hkb
     have KC2 := Lib.hid (KC.out (by trivial) (by trivial))
     clear KB KC
     go_wp2_with fail
     refine (jk (HS.out _)).mono ?_
     rintro e _ ⟨rfl, X5, rfl⟩
     go_wp2_with fail
     refine (jk (HRR.out _)).mono ?_
     rintro e _ ⟨rfl, X6, rfl⟩
     go_wp2_with fail
     refine (jk (HG.out _)).mono ?_
     rintro e _ ⟨rfl, X7, rfl⟩
     by_cases hg0 : gs = 0
     ·have ho := HX.out 6 (by rw [KC2.out, if_pos hg0]) (by decide)
      subst ho
      subst hg0
      clear HX KC2 HT2
      go_wp2_with fail
      go_ret
      exact ⟨rfl, Bw.b⟩
     have hg1 : (gs == 0) = false := by simpa using hg0
     rw [if_neg hg0] at KC2
     rcases (show r.one = false ∨ r.one = true by cases r.one <;> simp) with hone | hone
     ·have hnn : ¬ (r.one = true ∧ gs < 0) := by rw [hone]; simp
      go_wp2_with fail
      refine (jk (HSS.out _)).mono ?_
      rintro e _ ⟨rfl, X9, rfl⟩
      cases sm with
      | false =>
       have ho := HX.out 12 (by rw [KC2.out, if_neg hnn]; rfl) (by decide)
       subst ho
       clear HX KC2 HT2
       go_wp2_with fail
       go_ret
       exact ⟨rfl, Bw.b⟩
      | true =>
       have hce : ce = 0 := by rw [KC2.out, if_neg hnn]; rfl
       have HT3 := Lib.hid HT2.out
       rw [hce, if_neg (by simp)] at HT3
       clear HX KC2 HT2 hce hnn
       go_upto_region 27 with fail
       refine wp_jtail 5 (by kernel_rfl) (by kernel_rfl) ?_
       simp only [List.take_succ_cons, List.take_zero, List.drop_succ_cons, List.drop_zero]
       repeat (go_big_quiet_step (first | (first | (with_reducible exact jq (HA.out _)) | (with_reducible exact jq (HAD.out _))) | fail))
       refine wpQuiet_nil ?_
       rintro _ ⟨X10, rfl⟩
       haveI s5 : Bw V ((((((Wd).setCell ⟨b7, 0, none⟩ (.int .i64 x.road)).setCell ⟨b7, 1, none⟩ (.bool (zs x.b.num))).setCell ⟨b7, 2, none⟩ (.string (zx x.b.num))).setCell ⟨b7, 3, none⟩ (.bool false)).setCell ⟨b7, 4, none⟩ (.string (ry x.b.den))) := bw_set5 b7V _ _ _ _ _
       haveI s9 : Bw V (((((((((((Wd).setCell ⟨b7, 0, none⟩ (.int .i64 x.road)).setCell ⟨b7, 1, none⟩ (.bool (zs x.b.num))).setCell ⟨b7, 2, none⟩ (.string (zx x.b.num))).setCell ⟨b7, 3, none⟩ (.bool false)).setCell ⟨b7, 4, none⟩ (.string (ry x.b.den)))).setCell ⟨b8, 0, none⟩ (.bool (zs y'.num))).setCell ⟨b8, 1, none⟩ (.string (zx y'.num))).setCell ⟨b8, 2, none⟩ (.bool false)).setCell ⟨b8, 3, none⟩ (.string (ry y'.den))) := bw_set4 b8V _ _ _ _
       go_wp2_with fail
       go_roundw
       case rel =>
        refine ⟨k + 1, ⟨x.road, x.b⟩, y', by go_num, by omega, HT3, HTJ, Lib.hid ?_, Lib.hid ?_, ?_⟩
        ·(repeat (first | with_reducible refine obj_junk ?_ | with_reducible refine obj_old ?_))
         refine obj_set4o ?_ d78 _ _ _ _
         rw [obj_set (obj_set (obj_set (obj_set (obj_set K7.out))))]
         simp
        ·(repeat (first | with_reducible refine obj_junk ?_ | with_reducible refine obj_old ?_))
         exact obj_set4' (obj_setOther (obj_setOther (obj_setOther (obj_setOther (obj_setOther K8.out d87) d87) d87) d87) d87) _ _ _ _
        ·with_reducible exact ex_junk
       case measure => simp [intOf]; omega
     ·by_cases hgn : gs < 0
      ·have ho := HX.out 24 (by rw [KC2.out, if_pos ⟨hone, hgn⟩]) (by decide)
       subst ho
       clear HX KC2 HT2
       go_wp2_with fail
       refine (jk (HG.out _)).mono ?_
       rintro e _ ⟨rfl, X8, rfl⟩
       go_wp2_with fail
       go_ret
       exact ⟨rfl, Bw.b⟩
      ·have hnn : ¬ (r.one = true ∧ gs < 0) := fun h => hgn h.2
       go_wp2_with fail
       refine (jk (HG.out _)).mono ?_
       rintro e _ ⟨rfl, X8, rfl⟩
       go_wp2_with fail
       refine (jk (HSS.out _)).mono ?_
       rintro e _ ⟨rfl, X9, rfl⟩
       cases sm with
       | false =>
        have ho := HX.out 12 (by rw [KC2.out, if_neg hnn]; rfl) (by decide)
        subst ho
        clear HX KC2 HT2
        go_wp2_with fail
        go_ret
        exact ⟨rfl, Bw.b⟩
       | true =>
        have hce : ce = 0 := by rw [KC2.out, if_neg hnn]; rfl
        have HT3 := Lib.hid HT2.out
        rw [hce, if_neg (by simp)] at HT3
        clear HX KC2 HT2 hce hnn
        go_upto_region 27 with fail
        refine wp_jtail 5 (by kernel_rfl) (by kernel_rfl) ?_
        simp only [List.take_succ_cons, List.take_zero, List.drop_succ_cons, List.drop_zero]
        repeat (go_big_quiet_step (first | (first | (with_reducible exact jq (HA.out _)) | (with_reducible exact jq (HAD.out _))) | fail))
        refine wpQuiet_nil ?_
        rintro _ ⟨X10, rfl⟩
        haveI s5 : Bw V ((((((Wd).setCell ⟨b7, 0, none⟩ (.int .i64 x.road)).setCell ⟨b7, 1, none⟩ (.bool (zs x.b.num))).setCell ⟨b7, 2, none⟩ (.string (zx x.b.num))).setCell ⟨b7, 3, none⟩ (.bool false)).setCell ⟨b7, 4, none⟩ (.string (ry x.b.den))) := bw_set5 b7V _ _ _ _ _
        haveI s9 : Bw V (((((((((((Wd).setCell ⟨b7, 0, none⟩ (.int .i64 x.road)).setCell ⟨b7, 1, none⟩ (.bool (zs x.b.num))).setCell ⟨b7, 2, none⟩ (.string (zx x.b.num))).setCell ⟨b7, 3, none⟩ (.bool false)).setCell ⟨b7, 4, none⟩ (.string (ry x.b.den)))).setCell ⟨b8, 0, none⟩ (.bool (zs y'.num))).setCell ⟨b8, 1, none⟩ (.string (zx y'.num))).setCell ⟨b8, 2, none⟩ (.bool false)).setCell ⟨b8, 3, none⟩ (.string (ry y'.den))) := bw_set4 b8V _ _ _ _
        go_wp2_with fail
        go_roundw
        case rel =>
         refine ⟨k + 1, ⟨x.road, x.b⟩, y', by go_num, by omega, HT3, HTJ, Lib.hid ?_, Lib.hid ?_, ?_⟩
         ·(repeat (first | with_reducible refine obj_junk ?_ | with_reducible refine obj_old ?_))
          refine obj_set4o ?_ d78 _ _ _ _
          rw [obj_set (obj_set (obj_set (obj_set (obj_set K7.out))))]
          simp
         ·(repeat (first | with_reducible refine obj_junk ?_ | with_reducible refine obj_old ?_))
          exact obj_set4' (obj_setOther (obj_setOther (obj_setOther (obj_setOther (obj_setOther K8.out d87) d87) d87) d87) d87) _ _ _ _
         ·with_reducible exact ex_junk
        case measure => simp [intOf]; omega
end Go.Proofs.YtcelpkbmcmnogaaGreatDoor
