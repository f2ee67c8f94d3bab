/-
  The law of the triangle, walked.
-/
import Derived.Test.YtopfgkbpakfccaaGreatDoorPlcB
set_option linter.unusedSimpArgs false
set_option linter.unusedVariables false
namespace Go.Proofs.YtopfgkbpakfccaaGreatDoor
open Go Go.RowKit Go.Vi
attribute [local go_sem ↓] lo_lt lo_ne lo_ne'
attribute [local go_sem] junk_cell junk_frozen junk_setCell junk_drew drew_junk
attribute [local go_sem] rc_size rowN_alloc_at rowN_alloc rowN_junk rowN_drew rowN_drewN setRow_alloc_at setRow_alloc setRow_junk setRow_drew
set_option maxRecDepth 100000 in
set_option maxHeartbeats 1000000 in
theorem triLaw (P : List Spt) (Q : List Lne) (vp vq : Value) (xa ya xb yb xc yc : Int) (w : World) (hX : GrdAt w.heap.size w vp vq P Q) (hxa : Byte xa) (hya : Byte ya) (hxb : Byte xb) (hyb : Byte yb) (hxc : Byte xc) (hyc : Byte yc) :
    Calls Tryz.prog 5 #[.agg #[vp, vq], .agg #[.int .u8 xa, .int .u8 ya, .int .u8 xb, .int .u8 yb, .int .u8 xc, .int .u8 yc]] w fun e w' => e = .returned (.bool true) ∧ Below w.heap.size w w' := by
  have HKN := known_bw w
  have HG : Hid (∀ (w' : World) [Bw w w'], Calls Tryz.prog 15 #[.agg #[vp, vq]] w' fun e w2 => (∃ (v1 v2 : Value) (n : Net), e = .returned (.agg #[v1, v2]) ∧ Ow w'.heap.size w2 44 3 v1 (n.nodes.map Nd.cs) ∧ Ow w'.heap.size w2 90 6 v2 (n.roads.map Rd.cs) ∧ GNet n) ∧ Below w'.heap.size w' w2) := Lib.hid (fun w' _ => gnet_q w' (grd_bw hX))
  clear hX
  go_enter Tryz.func5, Tryz.ntmps5
  go_wp2_with fail
  refine (jk (HKN.out _)).mono ?_
  rintro e _ ⟨rfl, X1, rfl⟩
  go_wp2_with fail
  refine (HG.out _).mono ?_
  rintro e w2 ⟨⟨v1, v2, n, rfl, o1, o2, hn0⟩, hb2⟩
  obtain ⟨X2, rfl⟩ := below_some hb2
  have HN := Lib.hid (show NetAt _ _ v1 v2 n from ⟨o1.sl, o2.sl⟩)
  have hn := Lib.hid hn0
  obtain ⟨a1, n1, c1, rfl⟩ := o1.val
  obtain ⟨a2, n2, c2, rfl⟩ := o2.val
  clear o1 o2 hb2 hn0 HG HKN
  go_upto_region 4 with fail
  obtain ⟨W, hW⟩ : ∃ W, W = ((((w.alloc (.cells #[vp, vq] 25)).alloc (.cells #[.int .u8 xa, .int .u8 ya, .int .u8 xb, .int .u8 yb, .int .u8 xc, .int .u8 yc] 62)).junk X1).junk X2).alloc (.cells #[.slice a1 n1 c1, .slice a2 n2 c2] 30) := ⟨_, rfl⟩
  have g0 : W.cell? ⟨((((w.alloc (.cells #[vp, vq] 25)).alloc (.cells #[.int .u8 xa, .int .u8 ya, .int .u8 xb, .int .u8 yb, .int .u8 xc, .int .u8 yc] 62)).junk X1).junk X2).heap.size, 0, none⟩ = some (.slice a1 n1 c1) := by rw [hW]; simp [go_sem]
  have g1 : W.cell? ⟨((((w.alloc (.cells #[vp, vq] 25)).alloc (.cells #[.int .u8 xa, .int .u8 ya, .int .u8 xb, .int .u8 yb, .int .u8 xc, .int .u8 yc] 62)).junk X1).junk X2).heap.size, 1, none⟩ = some (.slice a2 n2 c2) := by rw [hW]; simp [go_sem]
  have t0 : W.cell? ⟨w.heap.size + 1, 0, none⟩ = some (.int .u8 xa) := by rw [hW]; simp [go_sem]
  have t1 : W.cell? ⟨w.heap.size + 1, 1, none⟩ = some (.int .u8 ya) := by rw [hW]; simp [go_sem]
  have t2 : W.cell? ⟨w.heap.size + 1, 2, none⟩ = some (.int .u8 xb) := by rw [hW]; simp [go_sem]
  have t3 : W.cell? ⟨w.heap.size + 1, 3, none⟩ = some (.int .u8 yb) := by rw [hW]; simp [go_sem]
  have t4 : W.cell? ⟨w.heap.size + 1, 4, none⟩ = some (.int .u8 xc) := by rw [hW]; simp [go_sem]
  have t5 : W.cell? ⟨w.heap.size + 1, 5, none⟩ = some (.int .u8 yc) := by rw [hW]; simp [go_sem]
  haveI lb : Lo ((((w.alloc (.cells #[vp, vq] 25)).alloc (.cells #[.int .u8 xa, .int .u8 ya, .int .u8 xb, .int .u8 yb, .int .u8 xc, .int .u8 yc] 62)).junk X1).junk X2).heap.size W := by rw [hW]; infer_instance
  haveI lc : Lo (w.heap.size + 1) W := by rw [hW]; infer_instance
  haveI bw : Bw w W := by rw [hW]; infer_instance
  have HNW : Hid (NetAt W.heap.size W (.slice a1 n1 c1) (.slice a2 n2 c2) n) := Lib.hid (by rw [hW]; exact HN.out.later Bw.b)
  rw [← hW]
  clear hW HN
  generalize ((((w.alloc (.cells #[vp, vq] 25)).alloc (.cells #[.int .u8 xa, .int .u8 ya, .int .u8 xb, .int .u8 yb, .int .u8 xc, .int .u8 yc] 62)).junk X1).junk X2).heap.size = bx at *
  generalize w.heap.size + 1 = bq at *
  have HPa0 : Hid (∀ (w' : World) [Bw W w'], Calls Tryz.prog 23 #[.agg #[.slice a1 n1 c1, .slice a2 n2 c2], .agg #[.int .u8 xa, .int .u8 ya]] w' fun e w2 => e = .returned (placeN n xa ya).v ∧ Below w'.heap.size w' w2) := Lib.hid (fun w' _ => place_q hn.out _ _ hxa hya w' (later_bw HNW.out))
  have HPb0 : Hid (∀ (w' : World) [Bw W w'], Calls Tryz.prog 23 #[.agg #[.slice a1 n1 c1, .slice a2 n2 c2], .agg #[.int .u8 xb, .int .u8 yb]] w' fun e w2 => e = .returned (placeN n xb yb).v ∧ Below w'.heap.size w' w2) := Lib.hid (fun w' _ => place_q hn.out _ _ hxb hyb w' (later_bw HNW.out))
  have HPc0 : Hid (∀ (w' : World) [Bw W w'], Calls Tryz.prog 23 #[.agg #[.slice a1 n1 c1, .slice a2 n2 c2], .agg #[.int .u8 xc, .int .u8 yc]] w' fun e w2 => e = .returned (placeN n xc yc).v ∧ Below w'.heap.size w' w2) := Lib.hid (fun w' _ => place_q hn.out _ _ hxc hyc w' (later_bw HNW.out))
  have OKA := Lib.hid (place_ok hn.out hxa hya)
  have OKB := Lib.hid (place_ok hn.out hxb hyb)
  have OKC := Lib.hid (place_ok hn.out hxc hyc)
  generalize placeN n xa ya = pa at *
  generalize placeN n xb yb = pb at *
  generalize placeN n xc yc = pc at *
  have HPa : Hid (∀ (w' : World) [Bw W w'], Calls Tryz.prog 23 #[.agg #[.slice a1 n1 c1, .slice a2 n2 c2], .agg #[.int .u8 xa, .int .u8 ya]] w' fun e w2 => e = .returned (.agg #[.int .i64 pa.road, .bool (zs pa.off.num), .string (zx pa.off.num), .bool false, .string (ry pa.off.den)]) ∧ Below w'.heap.size w' w2) := Lib.hid HPa0.out
  have HPb : Hid (∀ (w' : World) [Bw W w'], Calls Tryz.prog 23 #[.agg #[.slice a1 n1 c1, .slice a2 n2 c2], .agg #[.int .u8 xb, .int .u8 yb]] w' fun e w2 => e = .returned (.agg #[.int .i64 pb.road, .bool (zs pb.off.num), .string (zx pb.off.num), .bool false, .string (ry pb.off.den)]) ∧ Below w'.heap.size w' w2) := Lib.hid HPb0.out
  have HPc : Hid (∀ (w' : World) [Bw W w'], Calls Tryz.prog 23 #[.agg #[.slice a1 n1 c1, .slice a2 n2 c2], .agg #[.int .u8 xc, .int .u8 yc]] w' fun e w2 => e = .returned (.agg #[.int .i64 pc.road, .bool (zs pc.off.num), .string (zx pc.off.num), .bool false, .string (ry pc.off.den)]) ∧ Below w'.heap.size w' w2) := Lib.hid HPc0.out
  clear HPa0 HPb0 HPc0 hxa hya hxb hyb hxc hyc
  refine wp_flow2 [(15, [12]), (16, [13]), (17, [14])] [(15, [12]), (16, [13]), (17, [14])] [(2, [1]), (3, [0, 2]), (6, [5]), (7, [4, 6]), (10, [9]), (11, [8, 10]), (15, [12, 3]), (16, [13, 7]), (17, [14, 11])] [(0, some 19), (1, some 20), (2, some 21), (3, some 22), (4, some 23), (5, some 24), (6, some 25), (7, some 26), (8, some 27), (9, some 28), (10, some 29), (11, some 30), (12, some 6), (13, some 7), (14, some 8), (15, none), (16, none), (17, none)] [(5, .pointer (some ⟨bx, 0, none⟩)), (3, .pointer (some ⟨bq, 0, none⟩))] [.val (.agg #[.slice a1 n1 c1, .slice a2 n2 c2]), .val (.pointer (some ⟨bq, 0, none⟩)), .val (.agg #[.int .u8 xa, .int .u8 ya]), .val (.agg #[.int .i64 pa.road, .bool (zs pa.off.num), .string (zx pa.off.num), .bool false, .string (ry pa.off.den)]), .val (.agg #[.slice a1 n1 c1, .slice a2 n2 c2]), .val (.pointer (some ⟨bq, 2, none⟩)), .val (.agg #[.int .u8 xb, .int .u8 yb]), .val (.agg #[.int .i64 pb.road, .bool (zs pb.off.num), .string (zx pb.off.num), .bool false, .string (ry pb.off.den)]), .val (.agg #[.slice a1 n1 c1, .slice a2 n2 c2]), .val (.pointer (some ⟨bq, 4, none⟩)), .val (.agg #[.int .u8 xc, .int .u8 yc]), .val (.agg #[.int .i64 pc.road, .bool (zs pc.off.num), .string (zx pc.off.num), .bool false, .string (ry pc.off.den)]), .box 50 12 (fun _ => #[.int .i64 0, .bool false, .string ⟨#[]⟩, .bool false, .string ⟨#[]⟩]), .box 50 13 (fun _ => #[.int .i64 0, .bool false, .string ⟨#[]⟩, .bool false, .string ⟨#[]⟩]), .box 50 14 (fun _ => #[.int .i64 0, .bool false, .string ⟨#[]⟩, .bool false, .string ⟨#[]⟩]), .box 50 12 (fun _ => #[.int .i64 pa.road, .bool (zs pa.off.num), .string (zx pa.off.num), .bool false, .string (ry pa.off.den)]), .box 50 13 (fun _ => #[.int .i64 pb.road, .bool (zs pb.off.num), .string (zx pb.off.num), .bool false, .string (ry pb.off.den)]), .box 50 14 (fun _ => #[.int .i64 pc.road, .bool (zs pc.off.num), .string (zx pc.off.num), .bool false, .string (ry pc.off.den)])] (by kernel_rfl) (by kernel_rfl) (by kernel_rfl) (by kernel_rfl) (by kernel_rfl) ⟨rfl, rfl, trivial⟩ ⟨trivial, trivial, trivial, trivial, trivial, trivial, trivial, trivial, trivial, trivial, trivial, trivial, ⟨.inl rfl, fun _ _ _ => rfl⟩, ⟨.inl rfl, fun _ _ _ => rfl⟩, ⟨.inl rfl, fun _ _ _ => rfl⟩, ⟨.inr (by decide), fun _ _ _ => rfl⟩, ⟨.inr (by decide), fun _ _ _ => rfl⟩, ⟨.inr (by decide), fun _ _ _ => rfl⟩, trivial⟩ ?_ ?_
  · refine ⟨?_, ?_, ?_, ?_, ?_, ?_, ?_, ?_, ?_, ?_, ?_, ?_, ?_, ?_, ?_, ?_, ?_, ?_, trivial⟩
    · intro f ρ w' S hd hx hc hB hA hD
      have h5 : ρ (.tmp 5) = .pointer (some ⟨bx, 0, none⟩) := hx (5, .pointer (some ⟨bx, 0, none⟩)) (by simp)
      have n0' := (hB.cell (p := ⟨bx, 0, none⟩) lb.lt).trans g0
      have e1' := (hB.cell (p := ⟨bx, 1, none⟩) lb.lt).trans g1
      refine fl_val (by rfl) (by rfl) ?_
      simp [execOp, go_sem, h5, n0', e1']
    · intro f ρ w' S hd hx hc hB hA hD
      have h3 : ρ (.tmp 3) = .pointer (some ⟨bq, 0, none⟩) := hx (3, .pointer (some ⟨bq, 0, none⟩)) (by simp)
      refine fl_val (by rfl) (by rfl) ?_
      simp [execOp, go_sem, h3, hc.1]
    · intro f ρ w' S hd hx hc hB hA hD
      have h20 : ρ (.tmp 20) = .pointer (some ⟨bq, 0, none⟩) := (hd 1 20 (by decide)).trans (hA 1 (by decide)).1
      have u0' := (hB.cell (p := ⟨bq, 0, none⟩) lc.lt).trans t0
      have u1' := (hB.cell (p := ⟨bq, 1, none⟩) lc.lt).trans t1
      refine fl_val (by rfl) (by rfl) ?_
      simp [execOp, go_sem, h20, u0', u1']
    · intro f ρ w' S hd hx hc hB hA hD
      have h19 : ρ (.tmp 19) = .agg #[.slice a1 n1 c1, .slice a2 n2 c2] := (hd 0 19 (by decide)).trans (hA 0 (by decide)).1
      have h21 : ρ (.tmp 21) = .agg #[.int .u8 xa, .int .u8 ya] := (hd 2 21 (by decide)).trans (hA 2 (by decide)).1
      haveI : Bw W w' := ⟨hB⟩
      exact fl_call (by rfl) (by rfl) (by simp [execOp, go_sem, h19, h21, hc.1, hc.2]) (HPa.out w')
    · intro f ρ w' S hd hx hc hB hA hD
      have h5 : ρ (.tmp 5) = .pointer (some ⟨bx, 0, none⟩) := hx (5, .pointer (some ⟨bx, 0, none⟩)) (by simp)
      have n0' := (hB.cell (p := ⟨bx, 0, none⟩) lb.lt).trans g0
      have e1' := (hB.cell (p := ⟨bx, 1, none⟩) lb.lt).trans g1
      refine fl_val (by rfl) (by rfl) ?_
      simp [execOp, go_sem, h5, n0', e1']
    · intro f ρ w' S hd hx hc hB hA hD
      have h3 : ρ (.tmp 3) = .pointer (some ⟨bq, 0, none⟩) := hx (3, .pointer (some ⟨bq, 0, none⟩)) (by simp)
      refine fl_val (by rfl) (by rfl) ?_
      simp [execOp, go_sem, h3, hc.1]
    · intro f ρ w' S hd hx hc hB hA hD
      have h24 : ρ (.tmp 24) = .pointer (some ⟨bq, 2, none⟩) := (hd 5 24 (by decide)).trans (hA 5 (by decide)).1
      have u2' := (hB.cell (p := ⟨bq, 2, none⟩) lc.lt).trans t2
      have u3' := (hB.cell (p := ⟨bq, 3, none⟩) lc.lt).trans t3
      refine fl_val (by rfl) (by rfl) ?_
      simp [execOp, go_sem, h24, u2', u3']
    · intro f ρ w' S hd hx hc hB hA hD
      have h23 : ρ (.tmp 23) = .agg #[.slice a1 n1 c1, .slice a2 n2 c2] := (hd 4 23 (by decide)).trans (hA 4 (by decide)).1
      have h25 : ρ (.tmp 25) = .agg #[.int .u8 xb, .int .u8 yb] := (hd 6 25 (by decide)).trans (hA 6 (by decide)).1
      haveI : Bw W w' := ⟨hB⟩
      exact fl_call (by rfl) (by rfl) (by simp [execOp, go_sem, h23, h25, hc.1, hc.2]) (HPb.out w')
    · intro f ρ w' S hd hx hc hB hA hD
      have h5 : ρ (.tmp 5) = .pointer (some ⟨bx, 0, none⟩) := hx (5, .pointer (some ⟨bx, 0, none⟩)) (by simp)
      have n0' := (hB.cell (p := ⟨bx, 0, none⟩) lb.lt).trans g0
      have e1' := (hB.cell (p := ⟨bx, 1, none⟩) lb.lt).trans g1
      refine fl_val (by rfl) (by rfl) ?_
      simp [execOp, go_sem, h5, n0', e1']
    · intro f ρ w' S hd hx hc hB hA hD
      have h3 : ρ (.tmp 3) = .pointer (some ⟨bq, 0, none⟩) := hx (3, .pointer (some ⟨bq, 0, none⟩)) (by simp)
      refine fl_val (by rfl) (by rfl) ?_
      simp [execOp, go_sem, h3, hc.1]
    · intro f ρ w' S hd hx hc hB hA hD
      have h28 : ρ (.tmp 28) = .pointer (some ⟨bq, 4, none⟩) := (hd 9 28 (by decide)).trans (hA 9 (by decide)).1
      have u4' := (hB.cell (p := ⟨bq, 4, none⟩) lc.lt).trans t4
      have u5' := (hB.cell (p := ⟨bq, 5, none⟩) lc.lt).trans t5
      refine fl_val (by rfl) (by rfl) ?_
      simp [execOp, go_sem, h28, u4', u5']
    · intro f ρ w' S hd hx hc hB hA hD
      have h27 : ρ (.tmp 27) = .agg #[.slice a1 n1 c1, .slice a2 n2 c2] := (hd 8 27 (by decide)).trans (hA 8 (by decide)).1
      have h29 : ρ (.tmp 29) = .agg #[.int .u8 xc, .int .u8 yc] := (hd 10 29 (by decide)).trans (hA 10 (by decide)).1
      haveI : Bw W w' := ⟨hB⟩
      exact fl_call (by rfl) (by rfl) (by simp [execOp, go_sem, h27, h29, hc.1, hc.2]) (HPc.out w')
    · intro f ρ w' S hd hx hc hB hA hD
      refine fl_box (by rfl) (by rfl) hB.size (fun _ _ => rfl) ?_
      simp [execOp, go_sem]
    · intro f ρ w' S hd hx hc hB hA hD
      refine fl_box (by rfl) (by rfl) hB.size (fun _ _ => rfl) ?_
      simp [execOp, go_sem]
    · intro f ρ w' S hd hx hc hB hA hD
      refine fl_box (by rfl) (by rfl) hB.size (fun _ _ => rfl) ?_
      simp [execOp, go_sem]
    · intro f ρ w' S hd hx hc hB hA hD
      have h22 : ρ (.tmp 22) = .agg #[.int .i64 pa.road, .bool (zs pa.off.num), .string (zx pa.off.num), .bool false, .string (ry pa.off.den)] := (hd 3 22 (by decide)).trans (hA 3 (by decide)).1
      obtain ⟨b, p1, p2, p3, p4⟩ := (hA 12 (by decide)).1
      have h6 : ρ (.tmp 6) = .pointer (some ⟨b, 0, none⟩) := (hd 12 6 (by decide)).trans p1
      have c0' := obj_cell p4 0
      have c1' := obj_cell p4 1
      have c2' := obj_cell p4 2
      have c3' := obj_cell p4 3
      have c4' := obj_cell p4 4
      have z0' := obj_free p4 0
      have z1' := obj_free p4 1
      have z2' := obj_free p4 2
      have z3' := obj_free p4 3
      have z4' := obj_free p4 4
      simp at c0' c1' c2' c3' c4'
      have hlt := obj_lt p4
      refine fl_store (w' := (((((w'.setCell ⟨b, 0, none⟩ (.int .i64 pa.road)).setCell ⟨b, 1, none⟩ (.bool (zs pa.off.num))).setCell ⟨b, 2, none⟩ (.string (zx pa.off.num))).setCell ⟨b, 3, none⟩ (.bool false)).setCell ⟨b, 4, none⟩ (.string (ry pa.off.den)))) (by rfl) (by decide) ⟨12, by decide, p2⟩ p1 p3 (obj_lt p4) (fun _ _ => rfl) ?_ ?_ ?_
      · simp [execOp, go_sem, h22, h6, c0', c1', c2', c3', c4', z0', z1', z2', z3', z4']
      · exact Ext.of_grown (row5 _ b _ _ _ _ _) (fun g hg => by injection hg with hg; exact hg.symm)
      · rw [obj_set (obj_set (obj_set (obj_set (obj_set p4))))]; simp
    · intro f ρ w' S hd hx hc hB hA hD
      have h26 : ρ (.tmp 26) = .agg #[.int .i64 pb.road, .bool (zs pb.off.num), .string (zx pb.off.num), .bool false, .string (ry pb.off.den)] := (hd 7 26 (by decide)).trans (hA 7 (by decide)).1
      obtain ⟨b, p1, p2, p3, p4⟩ := (hA 13 (by decide)).1
      have h7 : ρ (.tmp 7) = .pointer (some ⟨b, 0, none⟩) := (hd 13 7 (by decide)).trans p1
      have c0' := obj_cell p4 0
      have c1' := obj_cell p4 1
      have c2' := obj_cell p4 2
      have c3' := obj_cell p4 3
      have c4' := obj_cell p4 4
      have z0' := obj_free p4 0
      have z1' := obj_free p4 1
      have z2' := obj_free p4 2
      have z3' := obj_free p4 3
      have z4' := obj_free p4 4
      simp at c0' c1' c2' c3' c4'
      have hlt := obj_lt p4
      refine fl_store (w' := (((((w'.setCell ⟨b, 0, none⟩ (.int .i64 pb.road)).setCell ⟨b, 1, none⟩ (.bool (zs pb.off.num))).setCell ⟨b, 2, none⟩ (.string (zx pb.off.num))).setCell ⟨b, 3, none⟩ (.bool false)).setCell ⟨b, 4, none⟩ (.string (ry pb.off.den)))) (by rfl) (by decide) ⟨13, by decide, p2⟩ p1 p3 (obj_lt p4) (fun _ _ => rfl) ?_ ?_ ?_
      · simp [execOp, go_sem, h26, h7, c0', c1', c2', c3', c4', z0', z1', z2', z3', z4']
      · exact Ext.of_grown (row5 _ b _ _ _ _ _) (fun g hg => by injection hg with hg; exact hg.symm)
      · rw [obj_set (obj_set (obj_set (obj_set (obj_set p4))))]; simp
    · intro f ρ w' S hd hx hc hB hA hD
      have h30 : ρ (.tmp 30) = .agg #[.int .i64 pc.road, .bool (zs pc.off.num), .string (zx pc.off.num), .bool false, .string (ry pc.off.den)] := (hd 11 30 (by decide)).trans (hA 11 (by decide)).1
      obtain ⟨b, p1, p2, p3, p4⟩ := (hA 14 (by decide)).1
      have h8 : ρ (.tmp 8) = .pointer (some ⟨b, 0, none⟩) := (hd 14 8 (by decide)).trans p1
      have c0' := obj_cell p4 0
      have c1' := obj_cell p4 1
      have c2' := obj_cell p4 2
      have c3' := obj_cell p4 3
      have c4' := obj_cell p4 4
      have z0' := obj_free p4 0
      have z1' := obj_free p4 1
      have z2' := obj_free p4 2
      have z3' := obj_free p4 3
      have z4' := obj_free p4 4
      simp at c0' c1' c2' c3' c4'
      have hlt := obj_lt p4
      refine fl_store (w' := (((((w'.setCell ⟨b, 0, none⟩ (.int .i64 pc.road)).setCell ⟨b, 1, none⟩ (.bool (zs pc.off.num))).setCell ⟨b, 2, none⟩ (.string (zx pc.off.num))).setCell ⟨b, 3, none⟩ (.bool false)).setCell ⟨b, 4, none⟩ (.string (ry pc.off.den)))) (by rfl) (by decide) ⟨14, by decide, p2⟩ p1 p3 (obj_lt p4) (fun _ _ => rfl) ?_ ?_ ?_
      · simp [execOp, go_sem, h30, h8, c0', c1', c2', c3', c4', z0', z1', z2', z3', z4']
      · exact Ext.of_grown (row5 _ b _ _ _ _ _) (fun g hg => by injection hg with hg; exact hg.symm)
      · rw [obj_set (obj_set (obj_set (obj_set (obj_set p4))))]; simp
  · intro f w' S hB hS hD
    obtain ⟨ba, p1a, _, _, p4a⟩ := (hS 15 (by kernel_rfl)).1
    obtain ⟨bb, p1b, _, _, p4b⟩ := (hS 16 (by kernel_rfl)).1
    obtain ⟨bc, p1c, _, _, p4c⟩ := (hS 17 (by kernel_rfl)).1
    simp only [putAll, Act.put, List.setIfInBounds_toArray, List.set_cons_zero, List.set_cons_succ]
    rw [p1a, p1b, p1c]
    obtain ⟨X, rfl⟩ := below_some hB
    haveI bv : Bw W (W.junk X) := ⟨hB⟩
    haveI bwv : Bw w (W.junk X) := ⟨bw.b.trans (hB.mono bw.b.size)⟩
    have v0 := (hB.cell (p := ⟨bx, 0, none⟩) lb.lt).trans g0
    have v1' := (hB.cell (p := ⟨bx, 1, none⟩) lb.lt).trans g1
    haveI lbv : Lo bx (W.junk X) := ⟨Nat.lt_of_lt_of_le lb.lt hB.size⟩
    haveI loa : Lo ba (W.junk X) := ⟨obj_lt p4a⟩
    have a0 := obj_cell p4a 0
    have a1 := obj_cell p4a 1
    have a2 := obj_cell p4a 2
    have a3 := obj_cell p4a 3
    have a4 := obj_cell p4a 4
    simp at a0 a1 a2 a3 a4
    haveI lob : Lo bb (W.junk X) := ⟨obj_lt p4b⟩
    have b0 := obj_cell p4b 0
    have b1 := obj_cell p4b 1
    have b2 := obj_cell p4b 2
    have b3 := obj_cell p4b 3
    have b4 := obj_cell p4b 4
    simp at b0 b1 b2 b3 b4
    haveI loc : Lo bc (W.junk X) := ⟨obj_lt p4c⟩
    have c0 := obj_cell p4c 0
    have c1 := obj_cell p4c 1
    have c2 := obj_cell p4c 2
    have c3 := obj_cell p4c 3
    have c4 := obj_cell p4c 4
    simp at c0 c1 c2 c3 c4
    have HNV := Lib.hid (HNW.out.later hB)
    generalize hV : W.junk X = V at *
    clear hS hB hD p4a p4b p4c hV HNW HPa HPb HPc t0 t1 t2 t3 t4 t5 g0 g1 lb lc bv bw
    have HAB : Hid (∀ (w' : World) [Bw V w'], _) := Lib.hid (fun w' _ => btw_q hn.out _ _ OKA.out OKB.out w' (later_bw HNV.out))
    have HBC : Hid (∀ (w' : World) [Bw V w'], _) := Lib.hid (fun w' _ => btw_q hn.out _ _ OKB.out OKC.out w' (later_bw HNV.out))
    have HAC : Hid (∀ (w' : World) [Bw V w'], _) := Lib.hid (fun w' _ => btw_q hn.out _ _ OKA.out OKC.out w' (later_bw HNV.out))
    clear HNV
    go_wp2_with fail
    refine (HAB.out _).mono ?_
    rintro e w1 ⟨P1, Q1, s1, m1, z1, l1, k1, rfl, hk1, hb1⟩
    obtain ⟨X1, rfl⟩ := below_some hb1
    have HK1 := Lib.hid hk1
    clear hb1 hk1 HAB
    go_wp2_with (first | (refine wl_store (op := ⟨none, .store _ (.tmp 9) (.tmp 36), _, _, _, _⟩) (by rfl) _ _ rfl iWy _ (by rfl) #[.int .i64 P1.road, .bool (zs P1.off.num), .string (zx P1.off.num), .bool false, .string (ry P1.off.den), .int .i64 Q1.road, .bool (zs Q1.off.num), .string (zx Q1.off.num), .bool false, .string (ry Q1.off.den), .slice s1 m1 z1, .bool (zs l1.num), .string (zx l1.num), .bool false, .string (ry l1.den)] (by rfl) (by simp [go_sem]) rfl (by simp [Value.oneCell']) ?_) | fail)
    go_wp2_with fail
    refine (HBC.out _).mono ?_
    rintro e w2 ⟨P2, Q2, s2, m2, z2, l2, k2, rfl, hk2, hb2⟩
    obtain ⟨X2, rfl⟩ := below_some hb2
    have HK2 := Lib.hid hk2
    clear hb2 hk2 HBC
    go_wp2_with (first | (refine wl_store (op := ⟨none, .store _ (.tmp 11) (.tmp 43), _, _, _, _⟩) (by rfl) _ _ rfl iWy _ (by rfl) #[.int .i64 P2.road, .bool (zs P2.off.num), .string (zx P2.off.num), .bool false, .string (ry P2.off.den), .int .i64 Q2.road, .bool (zs Q2.off.num), .string (zx Q2.off.num), .bool false, .string (ry Q2.off.den), .slice s2 m2 z2, .bool (zs l2.num), .string (zx l2.num), .bool false, .string (ry l2.den)] (by rfl) (by simp [go_sem]) rfl (by simp [Value.oneCell']) ?_) | fail)
    go_wp2_with fail
    refine (HAC.out _).mono ?_
    rintro e w3 ⟨P3, Q3, s3, m3, z3, l3, k3, rfl, hk3, hb3⟩
    obtain ⟨X3, rfl⟩ := below_some hb3
    have HK3 := Lib.hid hk3
    clear hb3 hk3 HAC
    go_upto_region 8 with (first | (refine wl_store (op := ⟨none, .store _ (.tmp 13) (.tmp 50), _, _, _, _⟩) (by rfl) _ _ rfl iWy _ (by rfl) #[.int .i64 P3.road, .bool (zs P3.off.num), .string (zx P3.off.num), .bool false, .string (ry P3.off.den), .int .i64 Q3.road, .bool (zs Q3.off.num), .string (zx Q3.off.num), .bool false, .string (ry Q3.off.den), .slice s3 m3 z3, .bool (zs l3.num), .string (zx l3.num), .bool false, .string (ry l3.den)] (by rfl) (by simp [go_sem]) rfl (by simp [Value.oneCell']) ?_) | fail)
    obtain ⟨U, hU⟩ : ∃ U, U = ((((((V.junk X1).alloc (.cells #[.int .i64 P1.road, .bool (zs P1.off.num), .string (zx P1.off.num), .bool false, .string (ry P1.off.den), .int .i64 Q1.road, .bool (zs Q1.off.num), .string (zx Q1.off.num), .bool false, .string (ry Q1.off.den), .slice s1 m1 z1, .bool (zs l1.num), .string (zx l1.num), .bool false, .string (ry l1.den)] 55)).junk X2).alloc (.cells #[.int .i64 P2.road, .bool (zs P2.off.num), .string (zx P2.off.num), .bool false, .string (ry P2.off.den), .int .i64 Q2.road, .bool (zs Q2.off.num), .string (zx Q2.off.num), .bool false, .string (ry Q2.off.den), .slice s2 m2 z2, .bool (zs l2.num), .string (zx l2.num), .bool false, .string (ry l2.den)] 55)).junk X3).alloc (.cells #[.int .i64 P3.road, .bool (zs P3.off.num), .string (zx P3.off.num), .bool false, .string (ry P3.off.den), .int .i64 Q3.road, .bool (zs Q3.off.num), .string (zx Q3.off.num), .bool false, .string (ry Q3.off.den), .slice s3 m3 z3, .bool (zs l3.num), .string (zx l3.num), .bool false, .string (ry l3.den)] 55)) := ⟨_, rfl⟩
    rw [← hU]
    have HB1 : Hid (U.heap[(V.junk X1).heap.size]? = some (.cells #[.int .i64 P1.road, .bool (zs P1.off.num), .string (zx P1.off.num), .bool false, .string (ry P1.off.den), .int .i64 Q1.road, .bool (zs Q1.off.num), .string (zx Q1.off.num), .bool false, .string (ry Q1.off.den), .slice s1 m1 z1, .bool (zs l1.num), .string (zx l1.num), .bool false, .string (ry l1.den)] 55 (0, 0))) := Lib.hid (by rw [hU]; exact obj_old (obj_junk (obj_old (obj_junk (obj_last _ _)))))
    have HB2 : Hid (U.heap[(((V.junk X1).alloc (.cells #[.int .i64 P1.road, .bool (zs P1.off.num), .string (zx P1.off.num), .bool false, .string (ry P1.off.den), .int .i64 Q1.road, .bool (zs Q1.off.num), .string (zx Q1.off.num), .bool false, .string (ry Q1.off.den), .slice s1 m1 z1, .bool (zs l1.num), .string (zx l1.num), .bool false, .string (ry l1.den)] 55)).junk X2).heap.size]? = some (.cells #[.int .i64 P2.road, .bool (zs P2.off.num), .string (zx P2.off.num), .bool false, .string (ry P2.off.den), .int .i64 Q2.road, .bool (zs Q2.off.num), .string (zx Q2.off.num), .bool false, .string (ry Q2.off.den), .slice s2 m2 z2, .bool (zs l2.num), .string (zx l2.num), .bool false, .string (ry l2.den)] 55 (0, 0))) := Lib.hid (by rw [hU]; exact obj_old (obj_junk (obj_last _ _)))
    have HB3 : Hid (U.heap[(((((V.junk X1).alloc (.cells #[.int .i64 P1.road, .bool (zs P1.off.num), .string (zx P1.off.num), .bool false, .string (ry P1.off.den), .int .i64 Q1.road, .bool (zs Q1.off.num), .string (zx Q1.off.num), .bool false, .string (ry Q1.off.den), .slice s1 m1 z1, .bool (zs l1.num), .string (zx l1.num), .bool false, .string (ry l1.den)] 55)).junk X2).alloc (.cells #[.int .i64 P2.road, .bool (zs P2.off.num), .string (zx P2.off.num), .bool false, .string (ry P2.off.den), .int .i64 Q2.road, .bool (zs Q2.off.num), .string (zx Q2.off.num), .bool false, .string (ry Q2.off.den), .slice s2 m2 z2, .bool (zs l2.num), .string (zx l2.num), .bool false, .string (ry l2.den)] 55)).junk X3).heap.size]? = some (.cells #[.int .i64 P3.road, .bool (zs P3.off.num), .string (zx P3.off.num), .bool false, .string (ry P3.off.den), .int .i64 Q3.road, .bool (zs Q3.off.num), .string (zx Q3.off.num), .bool false, .string (ry Q3.off.den), .slice s3 m3 z3, .bool (zs l3.num), .string (zx l3.num), .bool false, .string (ry l3.den)] 55 (0, 0))) := Lib.hid (by rw [hU]; exact obj_last _ _)
    haveI bwu : Bw w U := by rw [hU]; infer_instance
    clear hU
    generalize (((((V.junk X1).alloc (.cells #[.int .i64 P1.road, .bool (zs P1.off.num), .string (zx P1.off.num), .bool false, .string (ry P1.off.den), .int .i64 Q1.road, .bool (zs Q1.off.num), .string (zx Q1.off.num), .bool false, .string (ry Q1.off.den), .slice s1 m1 z1, .bool (zs l1.num), .string (zx l1.num), .bool false, .string (ry l1.den)] 55)).junk X2).alloc (.cells #[.int .i64 P2.road, .bool (zs P2.off.num), .string (zx P2.off.num), .bool false, .string (ry P2.off.den), .int .i64 Q2.road, .bool (zs Q2.off.num), .string (zx Q2.off.num), .bool false, .string (ry Q2.off.den), .slice s2 m2 z2, .bool (zs l2.num), .string (zx l2.num), .bool false, .string (ry l2.den)] 55)).junk X3).heap.size = y3 at *
    generalize (((V.junk X1).alloc (.cells #[.int .i64 P1.road, .bool (zs P1.off.num), .string (zx P1.off.num), .bool false, .string (ry P1.off.den), .int .i64 Q1.road, .bool (zs Q1.off.num), .string (zx Q1.off.num), .bool false, .string (ry Q1.off.den), .slice s1 m1 z1, .bool (zs l1.num), .string (zx l1.num), .bool false, .string (ry l1.den)] 55)).junk X2).heap.size = y2 at *
    generalize (V.junk X1).heap.size = y1 at *
    haveI ly1 : Lo y1 U := ⟨obj_lt HB1.out⟩
    have f111 : U.cell? ⟨y1, 11, none⟩ = some (.bool (zs l1.num)) := obj_cell HB1.out 11
    have f112 : U.cell? ⟨y1, 12, none⟩ = some (.string (zx l1.num)) := obj_cell HB1.out 12
    have f113 : U.cell? ⟨y1, 13, none⟩ = some (.bool false) := obj_cell HB1.out 13
    have f114 : U.cell? ⟨y1, 14, none⟩ = some (.string (ry l1.den)) := obj_cell HB1.out 14
    haveI ly2 : Lo y2 U := ⟨obj_lt HB2.out⟩
    have f211 : U.cell? ⟨y2, 11, none⟩ = some (.bool (zs l2.num)) := obj_cell HB2.out 11
    have f212 : U.cell? ⟨y2, 12, none⟩ = some (.string (zx l2.num)) := obj_cell HB2.out 12
    have f213 : U.cell? ⟨y2, 13, none⟩ = some (.bool false) := obj_cell HB2.out 13
    have f214 : U.cell? ⟨y2, 14, none⟩ = some (.string (ry l2.den)) := obj_cell HB2.out 14
    haveI ly3 : Lo y3 U := ⟨obj_lt HB3.out⟩
    have f311 : U.cell? ⟨y3, 11, none⟩ = some (.bool (zs l3.num)) := obj_cell HB3.out 11
    have f312 : U.cell? ⟨y3, 12, none⟩ = some (.string (zx l3.num)) := obj_cell HB3.out 12
    have f313 : U.cell? ⟨y3, 13, none⟩ = some (.bool false) := obj_cell HB3.out 13
    have f314 : U.cell? ⟨y3, 14, none⟩ = some (.string (ry l3.den)) := obj_cell HB3.out 14
    clear HB1 HB2 HB3 v0 v1' lbv a0 a1 a2 a3 a4 b0 b1 b2 b3 b4 c0 c1 c2 c3 c4
    obtain ⟨rfl, d1⟩ | ⟨rfl, d1⟩ := HK1.out
    · obtain ⟨rfl, d2⟩ | ⟨rfl, d2⟩ := HK2.out
      · obtain ⟨z, d4, d5⟩ := dst_tri hn.out OKA.out OKB.out OKC.out d1 d2
        have hk3 : k3 = 0 ∧ dstN n pa pc = some l3 := by
          rcases HK3.out with h | ⟨_, h⟩
          · exact h
          · rw [d4] at h; cases h
        obtain ⟨rfl, d3⟩ := hk3
        rw [d3] at d4
        injection d4 with d4
        subst d4
        obtain ⟨i1, i2, i3⟩ := dst_in hn.out OKA.out OKB.out d1
        obtain ⟨j1, j2, j3⟩ := dst_in hn.out OKB.out OKC.out d2
        obtain ⟨r1, r2, r3⟩ := dst_in hn.out OKA.out OKC.out d3
        have HAD0 := Lib.hid (fun w' : World => add_q l1 l2 w' (sm_g64 i1 (by grind) (by grind)) (sm_g64 j1 (by grind) (by grind)))
        have HCP0 := Lib.hid (fun w' : World => compare_q l3 (l1 + l2) w' (sm_g64 r1 (by grind) (by grind)) (sm_g64 (g64_add i1 j1) (by grind) (by grind)))
        have hcmp : cmpR l3 (l1 + l2) ≤ 0 := by unfold cmpR; split <;> (try split) <;> (first | grind | omega)
        clear d1 d2 d3 d5 i1 i2 i3 j1 j2 j3 r1 r2 r3 HK1 HK2 HK3
        generalize cmpR l3 (l1 + l2) = cc at *
        generalize l1 + l2 = ll at *
        have HAD : Hid (∀ w' : World, Calls Tryz.prog 25 #[.agg #[.bool (zs l1.num), .string (zx l1.num), .bool false, .string (ry l1.den)], .agg #[.bool (zs l2.num), .string (zx l2.num), .bool false, .string (ry l2.den)]] w' fun e w2 => e = .returned (.agg #[.bool (zs ll.num), .string (zx ll.num), .bool false, .string (ry ll.den)]) ∧ Below w'.heap.size w' w2) := Lib.hid HAD0.out
        have HCP : Hid (∀ w' : World, Calls Tryz.prog 24 #[.agg #[.bool (zs l3.num), .string (zx l3.num), .bool false, .string (ry l3.den)], .agg #[.bool (zs ll.num), .string (zx ll.num), .bool false, .string (ry ll.den)]] w' fun e w2 => e = .returned (.int .i64 cc) ∧ Below w'.heap.size w' w2) := Lib.hid HCP0.out
        clear HAD0 HCP0
        go_upto_region 10 with fail
        refine wp_jregion (by kernel_rfl) (by kernel_rfl) ?_
        repeat (go_big_quiet_step (first | (first | (with_reducible exact jq (HAD.out _)) | (with_reducible exact jq (HCP.out _))) | fail))
        refine wpQuiet_nil ?_
        all_goals
          rintro w' ⟨X, rfl⟩
          go_wp2_with fail
          go_ret
          exact ⟨rfl, Bw.b⟩
      · go_wp2_with fail
        go_ret
        exact ⟨rfl, Bw.b⟩
    · obtain ⟨rfl, d2⟩ | ⟨rfl, d2⟩ := HK2.out
      · go_wp2_with fail
        go_ret
        exact ⟨rfl, Bw.b⟩
      · go_wp2_with fail
        go_ret
        exact ⟨rfl, Bw.b⟩
end Go.Proofs.YtopfgkbpakfccaaGreatDoor
