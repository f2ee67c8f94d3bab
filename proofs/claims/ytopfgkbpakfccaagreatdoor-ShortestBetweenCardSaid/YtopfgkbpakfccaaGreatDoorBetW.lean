/-
  The law of least ways, walked.
-/
import Derived.Test.YtopfgkbpakfccaaGreatDoorCwB
import Derived.Test.YtopfgkbpakfccaaGreatDoorBtwW
import Derived.Test.YtopfgkbpakfccaaGreatDoorBtwE
import Derived.Test.YtopfgkbpakfccaaGreatDoorSwyW
set_option linter.unusedSimpArgs false
set_option linter.unusedVariables false
namespace Go.Proofs.YtopfgkbpakfccaaGreatDoor
open Go Go.RowKit Go.Vi
attribute [local go_sem ↓] lo_lt lo_ne lo_ne'
attribute [local go_sem] junk_cell junk_frozen junk_setCell junk_drew drew_junk
attribute [local go_sem] rc_size rowN_alloc_at rowN_alloc rowN_junk rowN_drew rowN_drewN setRow_alloc_at setRow_alloc setRow_junk setRow_drew
def agOf : Value → Array Value
  | .agg a => a
  | _ => #[]
def BeP (k : Int) (v : Value) : Prop := ∃ (P Q : Plc) (a : Option Addr) (m c : Nat) (l : Rat), v = .tuple #[.agg #[.int .i64 P.road, .bool (zs P.off.num), .string (zx P.off.num), .bool false, .string (ry P.off.den), .int .i64 Q.road, .bool (zs Q.off.num), .string (zx Q.off.num), .bool false, .string (ry Q.off.den), .slice a m c, .bool (zs l.num), .string (zx l.num), .bool false, .string (ry l.den)], .int .i64 k]
def BeQ (v : Value) : Prop := ∃ (P Q : Plc) (a : Option Addr) (m c : Nat) (l : Rat), v = .agg #[.int .i64 P.road, .bool (zs P.off.num), .string (zx P.off.num), .bool false, .string (ry P.off.den), .int .i64 Q.road, .bool (zs Q.off.num), .string (zx Q.off.num), .bool false, .string (ry Q.off.den), .slice a m c, .bool (zs l.num), .string (zx l.num), .bool false, .string (ry l.den)]
theorem sm_pos {n : Net} (h : GNet n) {p : Plc} (hp : PosOK n p) : Sm p.off := sm_posB h hp
theorem exec_store_row {P : Program} {ρ : Operand → Value} {o : Oper} {w : World} {ty : TypeId} {n : Nat} {x y : Operand} (ho : o.op = .store ty x y) (hi : (P.info? ty).map (·.size) = some n) (b : Nat) (hx : ρ x = .pointer (some ⟨b, 0, none⟩)) (c : Array Value) (hy : ρ y = .agg c) (hr : (rowN n w b).isSome = true) (hc : c.size = n) (h1 : c.all (·.oneCell') = true) : (execOp ρ o).run P w = .ok .skip (setRow w b c) := by
  have := storeVar_row (P := P) hi w b c hr hc h1
  unfold execOp
  simp only [ho, hx, hy, Instr.storeAt, Instr.sureAddr, Sem.run_bind, Sem.run_pure, Result.andThen_ok, this]
theorem setRow_ext (w : World) (b : Nat) (c : Array Value) : Ext (fun g => g = b) w (setRow w b c) := by
  refine ⟨rfl, rfl, rfl, by simp [setRow], fun g hg hn => ?_⟩
  have : b ≠ g := fun e => hn e.symm
  simp [setRow, Array.getElem?_modify, this]
theorem setRow_obj {w : World} {b : Nat} {z : Array Value} {T : TypeId} {fr : Nat × Nat} (h : w.heap[b]? = some (.cells z T fr)) (c : Array Value) : (setRow w b c).heap[b]? = some (.cells c T fr) := by
  simp [setRow, Array.getElem?_modify, h]
set_option maxRecDepth 100000 in
set_option maxHeartbeats 1000000 in
theorem betLaw (P : List Spt) (Q : List Lne) (vp vq : Value) (x1 y1 x2 y2 : Int) (w : World) (hX : GrdAt w.heap.size w vp vq P Q) (hx1 : Byte x1) (hy1 : Byte y1) (hx2 : Byte x2) (hy2 : Byte y2) :
    Calls Tryz.prog 11 #[.agg #[vp, vq], .agg #[.int .u8 x1, .int .u8 y1], .agg #[.int .u8 x2, .int .u8 y2]] w fun e w' => e = .returned (.bool true) ∧ Below w.heap.size w w' := by
  have HKN := known_bw w
  have HG : Hid (∀ (w' : World) [Bw w w'], Calls Tryz.prog 15 #[.agg #[vp, vq]] w' fun e w2 => (∃ (v1 v2 : Value) (n : Net), e = .returned (.agg #[v1, v2]) ∧ Ow w'.heap.size w2 44 3 v1 (n.nodes.map Nd.cs) ∧ Ow w'.heap.size w2 90 6 v2 (n.roads.map Rd.cs) ∧ GNet n) ∧ Below w'.heap.size w' w2) := Lib.hid (fun w' _ => gnet_q w' (grd_bw hX))
  clear hX
  go_enter Tryz.func11, Tryz.ntmps11
  go_wp2_with fail
  refine (jk (HKN.out _)).mono ?_
  rintro e _ ⟨rfl, X1, rfl⟩
  go_wp2_with fail
  refine (HG.out _).mono ?_
  rintro e w2 ⟨⟨v1, v2, n, rfl, o1, o2, hn0⟩, hb2⟩
  obtain ⟨X2, rfl⟩ := below_some hb2
  have HN := Lib.hid (show NetAt _ _ v1 v2 n from ⟨o1.sl, o2.sl⟩)
  have hn := Lib.hid hn0
  obtain ⟨a1, n1, c1, rfl⟩ := o1.val
  obtain ⟨a2, n2, c2, rfl⟩ := o2.val
  clear o1 o2 hb2 hn0 HG HKN
  go_upto_region 4 with fail
  obtain ⟨W, hW⟩ : ∃ W, W = (((((w.alloc (.cells #[vp, vq] 25)).alloc (.cells #[.int .u8 x1, .int .u8 y1] 61)).alloc (.cells #[.int .u8 x2, .int .u8 y2] 61)).junk X1).junk X2).alloc (.cells #[.slice a1 n1 c1, .slice a2 n2 c2] 30) := ⟨_, rfl⟩
  have g0 : W.cell? ⟨(((((w.alloc (.cells #[vp, vq] 25)).alloc (.cells #[.int .u8 x1, .int .u8 y1] 61)).alloc (.cells #[.int .u8 x2, .int .u8 y2] 61)).junk X1).junk X2).heap.size, 0, none⟩ = some (.slice a1 n1 c1) := by rw [hW]; simp [go_sem]
  have g1 : W.cell? ⟨(((((w.alloc (.cells #[vp, vq] 25)).alloc (.cells #[.int .u8 x1, .int .u8 y1] 61)).alloc (.cells #[.int .u8 x2, .int .u8 y2] 61)).junk X1).junk X2).heap.size, 1, none⟩ = some (.slice a2 n2 c2) := by rw [hW]; simp [go_sem]
  have t0 : W.cell? ⟨w.heap.size + 1, 0, none⟩ = some (.int .u8 x1) := by rw [hW]; simp [go_sem]
  have t1 : W.cell? ⟨w.heap.size + 1, 1, none⟩ = some (.int .u8 y1) := by rw [hW]; simp [go_sem]
  have u0 : W.cell? ⟨w.heap.size + 1 + 1, 0, none⟩ = some (.int .u8 x2) := by rw [hW]; simp [go_sem]
  have u1 : W.cell? ⟨w.heap.size + 1 + 1, 1, none⟩ = some (.int .u8 y2) := by rw [hW]; simp [go_sem]
  haveI lbx : Lo (((((w.alloc (.cells #[vp, vq] 25)).alloc (.cells #[.int .u8 x1, .int .u8 y1] 61)).alloc (.cells #[.int .u8 x2, .int .u8 y2] 61)).junk X1).junk X2).heap.size W := by rw [hW]; infer_instance
  haveI lbq : Lo (w.heap.size + 1) W := by rw [hW]; infer_instance
  haveI lbs : Lo (w.heap.size + 1 + 1) W := by rw [hW]; infer_instance
  haveI bw : Bw w W := by rw [hW]; infer_instance
  have HNW : Hid (NetAt W.heap.size W (.slice a1 n1 c1) (.slice a2 n2 c2) n) := Lib.hid (by rw [hW]; exact HN.out.later Bw.b)
  rw [← hW]
  clear hW HN
  generalize (((((w.alloc (.cells #[vp, vq] 25)).alloc (.cells #[.int .u8 x1, .int .u8 y1] 61)).alloc (.cells #[.int .u8 x2, .int .u8 y2] 61)).junk X1).junk X2).heap.size = bx at *
  generalize w.heap.size + 1 + 1 = bs at *
  generalize w.heap.size + 1 = bq at *
  have HPa0 : Hid (∀ (w' : World) [Bw W w'], Calls Tryz.prog 23 #[.agg #[.slice a1 n1 c1, .slice a2 n2 c2], .agg #[.int .u8 x1, .int .u8 y1]] w' fun e w2 => e = .returned (placeN n x1 y1).v ∧ Below w'.heap.size w' w2) := Lib.hid (fun w' _ => place_q hn.out _ _ hx1 hy1 w' (later_bw HNW.out))
  have HPb0 : Hid (∀ (w' : World) [Bw W w'], Calls Tryz.prog 23 #[.agg #[.slice a1 n1 c1, .slice a2 n2 c2], .agg #[.int .u8 x2, .int .u8 y2]] w' fun e w2 => e = .returned (placeN n x2 y2).v ∧ Below w'.heap.size w' w2) := Lib.hid (fun w' _ => place_q hn.out _ _ hx2 hy2 w' (later_bw HNW.out))
  have OKA := Lib.hid (place_ok hn.out hx1 hy1)
  have OKB := Lib.hid (place_ok hn.out hx2 hy2)
  generalize placeN n x1 y1 = pa at *
  generalize placeN n x2 y2 = pb at *
  have HPa : Hid (∀ (w' : World) [Bw W w'], Calls Tryz.prog 23 #[.agg #[.slice a1 n1 c1, .slice a2 n2 c2], .agg #[.int .u8 x1, .int .u8 y1]] w' fun e w2 => e = .returned (.agg #[.int .i64 pa.road, .bool (zs pa.off.num), .string (zx pa.off.num), .bool false, .string (ry pa.off.den)]) ∧ Below w'.heap.size w' w2) := Lib.hid HPa0.out
  have HPb : Hid (∀ (w' : World) [Bw W w'], Calls Tryz.prog 23 #[.agg #[.slice a1 n1 c1, .slice a2 n2 c2], .agg #[.int .u8 x2, .int .u8 y2]] w' fun e w2 => e = .returned (.agg #[.int .i64 pb.road, .bool (zs pb.off.num), .string (zx pb.off.num), .bool false, .string (ry pb.off.den)]) ∧ Below w'.heap.size w' w2) := Lib.hid HPb0.out
  clear HPa0 HPb0 hx1 hy1 hx2 hy2
  refine wp_flow2 [(8, [6]), (9, [7])] [(8, [6]), (9, [7])] [(2, [0, 1]), (5, [3, 4]), (8, [6, 2]), (9, [7, 5])] [(0, some 22), (1, some 23), (2, some 24), (3, some 25), (4, some 26), (5, some 27), (6, some 8), (7, some 9), (8, none), (9, none)] [(7, .pointer (some ⟨bx, 0, none⟩)), (4, .pointer (some ⟨bq, 0, none⟩)), (5, .pointer (some ⟨bs, 0, none⟩))] [.val (.agg #[.slice a1 n1 c1, .slice a2 n2 c2]), .val (.agg #[.int .u8 x1, .int .u8 y1]), .val (.agg #[.int .i64 pa.road, .bool (zs pa.off.num), .string (zx pa.off.num), .bool false, .string (ry pa.off.den)]), .val (.agg #[.slice a1 n1 c1, .slice a2 n2 c2]), .val (.agg #[.int .u8 x2, .int .u8 y2]), .val (.agg #[.int .i64 pb.road, .bool (zs pb.off.num), .string (zx pb.off.num), .bool false, .string (ry pb.off.den)]), .box 50 6 (fun _ => #[.int .i64 0, .bool false, .string ⟨#[]⟩, .bool false, .string ⟨#[]⟩]), .box 50 7 (fun _ => #[.int .i64 0, .bool false, .string ⟨#[]⟩, .bool false, .string ⟨#[]⟩]), .box 50 6 (fun _ => #[.int .i64 pa.road, .bool (zs pa.off.num), .string (zx pa.off.num), .bool false, .string (ry pa.off.den)]), .box 50 7 (fun _ => #[.int .i64 pb.road, .bool (zs pb.off.num), .string (zx pb.off.num), .bool false, .string (ry pb.off.den)])] (by kernel_rfl) (by kernel_rfl) (by kernel_rfl) (by kernel_rfl) (by kernel_rfl) ⟨rfl, rfl, rfl, trivial⟩ ⟨trivial, trivial, trivial, trivial, trivial, trivial, ⟨.inl rfl, fun _ _ _ => rfl⟩, ⟨.inl rfl, fun _ _ _ => rfl⟩, ⟨.inr (by decide), fun _ _ _ => rfl⟩, ⟨.inr (by decide), fun _ _ _ => rfl⟩, trivial⟩ ?_ ?_
  · refine ⟨?_, ?_, ?_, ?_, ?_, ?_, ?_, ?_, ?_, ?_, trivial⟩
    · intro f ρ w' S hd hx hc hB hA hD
      have h7 : ρ (.tmp 7) = .pointer (some ⟨bx, 0, none⟩) := hx (7, .pointer (some ⟨bx, 0, none⟩)) (by simp)
      have n0' := (hB.cell (p := ⟨bx, 0, none⟩) lbx.lt).trans g0
      have e1' := (hB.cell (p := ⟨bx, 1, none⟩) lbx.lt).trans g1
      refine fl_val (by rfl) (by rfl) ?_
      simp [execOp, go_sem, h7, n0', e1']
    · intro f ρ w' S hd hx hc hB hA hD
      have h4 : ρ (.tmp 4) = .pointer (some ⟨bq, 0, none⟩) := hx (4, .pointer (some ⟨bq, 0, none⟩)) (by simp)
      have u0' := (hB.cell (p := ⟨bq, 0, none⟩) lbq.lt).trans t0
      have u1' := (hB.cell (p := ⟨bq, 1, none⟩) lbq.lt).trans t1
      refine fl_val (by rfl) (by rfl) ?_
      simp [execOp, go_sem, h4, u0', u1']
    · intro f ρ w' S hd hx hc hB hA hD
      have h22 : ρ (.tmp 22) = .agg #[.slice a1 n1 c1, .slice a2 n2 c2] := (hd 0 22 (by decide)).trans (hA 0 (by decide)).1
      have h23 : ρ (.tmp 23) = .agg #[.int .u8 x1, .int .u8 y1] := (hd 1 23 (by decide)).trans (hA 1 (by decide)).1
      haveI : Bw W w' := ⟨hB⟩
      exact fl_call (by rfl) (by rfl) (by simp [execOp, go_sem, h22, h23, hc.1, hc.2]) (HPa.out w')
    · intro f ρ w' S hd hx hc hB hA hD
      have h7 : ρ (.tmp 7) = .pointer (some ⟨bx, 0, none⟩) := hx (7, .pointer (some ⟨bx, 0, none⟩)) (by simp)
      have n0' := (hB.cell (p := ⟨bx, 0, none⟩) lbx.lt).trans g0
      have e1' := (hB.cell (p := ⟨bx, 1, none⟩) lbx.lt).trans g1
      refine fl_val (by rfl) (by rfl) ?_
      simp [execOp, go_sem, h7, n0', e1']
    · intro f ρ w' S hd hx hc hB hA hD
      have h5 : ρ (.tmp 5) = .pointer (some ⟨bs, 0, none⟩) := hx (5, .pointer (some ⟨bs, 0, none⟩)) (by simp)
      have u0' := (hB.cell (p := ⟨bs, 0, none⟩) lbs.lt).trans u0
      have u1' := (hB.cell (p := ⟨bs, 1, none⟩) lbs.lt).trans u1
      refine fl_val (by rfl) (by rfl) ?_
      simp [execOp, go_sem, h5, u0', u1']
    · intro f ρ w' S hd hx hc hB hA hD
      have h25 : ρ (.tmp 25) = .agg #[.slice a1 n1 c1, .slice a2 n2 c2] := (hd 3 25 (by decide)).trans (hA 3 (by decide)).1
      have h26 : ρ (.tmp 26) = .agg #[.int .u8 x2, .int .u8 y2] := (hd 4 26 (by decide)).trans (hA 4 (by decide)).1
      haveI : Bw W w' := ⟨hB⟩
      exact fl_call (by rfl) (by rfl) (by simp [execOp, go_sem, h25, h26, hc.1, hc.2]) (HPb.out w')
    · intro f ρ w' S hd hx hc hB hA hD
      refine fl_box (by rfl) (by rfl) hB.size (fun _ _ => rfl) ?_
      simp [execOp, go_sem]
    · intro f ρ w' S hd hx hc hB hA hD
      refine fl_box (by rfl) (by rfl) hB.size (fun _ _ => rfl) ?_
      simp [execOp, go_sem]
    · intro f ρ w' S hd hx hc hB hA hD
      have h24 : ρ (.tmp 24) = .agg #[.int .i64 pa.road, .bool (zs pa.off.num), .string (zx pa.off.num), .bool false, .string (ry pa.off.den)] := (hd 2 24 (by decide)).trans (hA 2 (by decide)).1
      obtain ⟨b, p1, p2, p3, p4⟩ := (hA 6 (by decide)).1
      have h8 : ρ (.tmp 8) = .pointer (some ⟨b, 0, none⟩) := (hd 6 8 (by decide)).trans p1
      have c0' := obj_cell p4 0
      have c1' := obj_cell p4 1
      have c2' := obj_cell p4 2
      have c3' := obj_cell p4 3
      have c4' := obj_cell p4 4
      have z0' := obj_free p4 0
      have z1' := obj_free p4 1
      have z2' := obj_free p4 2
      have z3' := obj_free p4 3
      have z4' := obj_free p4 4
      simp at c0' c1' c2' c3' c4'
      have hlt := obj_lt p4
      refine fl_store (w' := (((((w'.setCell ⟨b, 0, none⟩ (.int .i64 pa.road)).setCell ⟨b, 1, none⟩ (.bool (zs pa.off.num))).setCell ⟨b, 2, none⟩ (.string (zx pa.off.num))).setCell ⟨b, 3, none⟩ (.bool false)).setCell ⟨b, 4, none⟩ (.string (ry pa.off.den)))) (by rfl) (by decide) ⟨6, by decide, p2⟩ p1 p3 (obj_lt p4) (fun _ _ => rfl) ?_ ?_ ?_
      · simp [execOp, go_sem, h24, h8, c0', c1', c2', c3', c4', z0', z1', z2', z3', z4']
      · exact Ext.of_grown (row5 _ b _ _ _ _ _) (fun g hg => by injection hg with hg; exact hg.symm)
      · rw [obj_set (obj_set (obj_set (obj_set (obj_set p4))))]; simp
    · intro f ρ w' S hd hx hc hB hA hD
      have h27 : ρ (.tmp 27) = .agg #[.int .i64 pb.road, .bool (zs pb.off.num), .string (zx pb.off.num), .bool false, .string (ry pb.off.den)] := (hd 5 27 (by decide)).trans (hA 5 (by decide)).1
      obtain ⟨b, p1, p2, p3, p4⟩ := (hA 7 (by decide)).1
      have h9 : ρ (.tmp 9) = .pointer (some ⟨b, 0, none⟩) := (hd 7 9 (by decide)).trans p1
      have c0' := obj_cell p4 0
      have c1' := obj_cell p4 1
      have c2' := obj_cell p4 2
      have c3' := obj_cell p4 3
      have c4' := obj_cell p4 4
      have z0' := obj_free p4 0
      have z1' := obj_free p4 1
      have z2' := obj_free p4 2
      have z3' := obj_free p4 3
      have z4' := obj_free p4 4
      simp at c0' c1' c2' c3' c4'
      have hlt := obj_lt p4
      refine fl_store (w' := (((((w'.setCell ⟨b, 0, none⟩ (.int .i64 pb.road)).setCell ⟨b, 1, none⟩ (.bool (zs pb.off.num))).setCell ⟨b, 2, none⟩ (.string (zx pb.off.num))).setCell ⟨b, 3, none⟩ (.bool false)).setCell ⟨b, 4, none⟩ (.string (ry pb.off.den)))) (by rfl) (by decide) ⟨7, by decide, p2⟩ p1 p3 (obj_lt p4) (fun _ _ => rfl) ?_ ?_ ?_
      · simp [execOp, go_sem, h27, h9, c0', c1', c2', c3', c4', z0', z1', z2', z3', z4']
      · exact Ext.of_grown (row5 _ b _ _ _ _ _) (fun g hg => by injection hg with hg; exact hg.symm)
      · rw [obj_set (obj_set (obj_set (obj_set (obj_set p4))))]; simp
  · intro f w' S hB hS hD
    obtain ⟨ba, p1a, _, _, p4a⟩ := (hS 8 (by kernel_rfl)).1
    obtain ⟨bb, p1b, _, _, p4b⟩ := (hS 9 (by kernel_rfl)).1
    simp only [putAll, Act.put, List.setIfInBounds_toArray, List.set_cons_zero, List.set_cons_succ]
    rw [p1a, p1b]
    obtain ⟨X, rfl⟩ := below_some hB
    haveI bv : Bw W (W.junk X) := ⟨hB⟩
    haveI bwv : Bw w (W.junk X) := ⟨bw.b.trans (hB.mono bw.b.size)⟩
    have v0 := (hB.cell (p := ⟨bx, 0, none⟩) lbx.lt).trans g0
    have v1' := (hB.cell (p := ⟨bx, 1, none⟩) lbx.lt).trans g1
    haveI lbv : Lo bx (W.junk X) := ⟨Nat.lt_of_lt_of_le lbx.lt hB.size⟩
    haveI loa : Lo ba (W.junk X) := ⟨obj_lt p4a⟩
    have a0 := obj_cell p4a 0
    have a1 := obj_cell p4a 1
    have a2 := obj_cell p4a 2
    have a3 := obj_cell p4a 3
    have a4 := obj_cell p4a 4
    simp at a0 a1 a2 a3 a4
    haveI lob : Lo bb (W.junk X) := ⟨obj_lt p4b⟩
    have b0 := obj_cell p4b 0
    have b1 := obj_cell p4b 1
    have b2 := obj_cell p4b 2
    have b3 := obj_cell p4b 3
    have b4 := obj_cell p4b 4
    simp at b0 b1 b2 b3 b4
    have HNV := Lib.hid (HNW.out.later hB)
    generalize hV : W.junk X = V at *
    clear hS hB hD p4a p4b hV HNW HPa HPb t0 t1 u0 u1 g0 g1 lbx lbq lbs bv bw
    have hrd : n.roads.length ≤ 100 := by have := hn.out.most; omega
    have HBT : Hid (∀ (w' : World) [Bw V w'], _) := Lib.hid (fun w' _ => between_q n (rtN n) (rtN_of n) _ _ pa pb w' (later_bw HNV.out) hn.out.ok hrd (geo_fit hn.out OKA.out OKB.out))
    have HLW : Hid (∀ (w' : World) [Bw V w'], _) := Lib.hid (fun w' _ => btwL_q hn.out _ _ OKA.out OKB.out w' (later_bw HNV.out))
    have HN1 : Hid (∀ (w' : World) [Bw V w'], _) := Lib.hid (fun w' _ => between_q n (rtN n) (rtN_of n) _ _ pa ⟨pb.road, ((-1 : Int) : Rat)⟩ w' (later_bw HNV.out) hn.out.ok hrd (bw_neg hn.out OKA.out OKB.out).1)
    have HN2 : Hid (∀ (w' : World) [Bw V w'], _) := Lib.hid (fun w' _ => between_q n (rtN n) (rtN_of n) _ _ plz ⟨pb.road, ((-1 : Int) : Rat)⟩ w' (later_bw HNV.out) hn.out.ok hrd (bw_neg0 hn.out (q := pb)).1)
    have HF1 := Lib.hid (fun w' : World => whole_q (-1) w' (by decide))
    rw [(bw_neg hn.out OKA.out OKB.out).2] at HN1
    rw [(bw_neg0 hn.out (q := pb)).2] at HN2
    rw [btwL_eq hn.out OKA.out OKB.out] at HLW
    have HWY := Lib.hid (bw_way hn.out OKA.out OKB.out)
    have HFW := Lib.hid (bw_few hn.out OKA.out OKB.out)
    have HKB : Hid ((betweenN n (rtN n) pa pb).2 = 0 ∨ betweenN n (rtN n) pa pb = (wyz, 31)) := Lib.hid (by
      cases hs : sameN n pa pb with
      | true => left; rw [dst_same OKA.out OKB.out hs]
      | false => exact (bw_spec OKA.out OKB.out hs).1)
    have HSL : Hid (∀ d, dstN n pa pb = some d → Sm d) := Lib.hid (fun d hd => by
      obtain ⟨g, d0, d1⟩ := dst_in hn.out OKA.out OKB.out hd
      exact sm_g64 g (by grind) (by grind))
    have HDE := Lib.hid (dst_err OKA.out OKB.out)
    generalize betweenN n (rtN n) pa pb = bw0 at *
    obtain ⟨⟨Pw, Qw, L, l⟩, kb⟩ := bw0
    generalize ((-1 : Int) : Rat) = um at *
    unfold BwOut at HN1 HN2
    rw [plz_v] at HN2
    unfold BwOut wcs Plc.v at HBT
    unfold BtlOut wcs at HLW
    unfold wcs Plc.v at HN1 HN2
    simp only [rV] at HF1
    simp only at HBT HLW HWY HFW HKB HDE HN1 HN2
    clear hrd
    go_wp2_with fail
    refine (HBT.out _).mono ?_
    rintro e w3 ⟨v, rfl, ho, hb3⟩
    obtain ⟨X3, rfl⟩ := below_some hb3
    obtain ⟨av, nv, cv, rfl⟩ := ho.val
    have HO := Lib.hid ho
    clear ho hb3 HBT
    go_wp2_with (first | (refine wl_store (op := ⟨none, .store _ (.tmp 10) (.tmp 33), _, _, _, _⟩) (by rfl) _ _ rfl iWy _ (by rfl) #[.int .i64 Pw.road, .bool (zs Pw.off.num), .string (zx Pw.off.num), .bool false, .string (ry Pw.off.den), .int .i64 Qw.road, .bool (zs Qw.off.num), .string (zx Qw.off.num), .bool false, .string (ry Qw.off.den), .slice av nv cv, .bool (zs l.num), .string (zx l.num), .bool false, .string (ry l.den)] (by rfl) (by simp [go_sem]) rfl (by simp [Value.oneCell']) ?_) | fail)
    refine (HLW.out _).mono ?_
    rintro e w4 ⟨v, rfl, ho, hb4⟩
    obtain ⟨X4, rfl⟩ := below_some hb4
    obtain ⟨bv, nb, cb, rfl⟩ := ho.val
    have HP := Lib.hid ho
    clear ho hb4 HLW
    go_upto_region 7 with (first | (refine wl_store (op := ⟨none, .store _ (.tmp 12) (.tmp 40), _, _, _, _⟩) (by rfl) _ _ rfl iWy _ (by rfl) #[.int .i64 Pw.road, .bool (zs Pw.off.num), .string (zx Pw.off.num), .bool false, .string (ry Pw.off.den), .int .i64 Qw.road, .bool (zs Qw.off.num), .string (zx Qw.off.num), .bool false, .string (ry Qw.off.den), .slice bv nb cb, .bool (zs l.num), .string (zx l.num), .bool false, .string (ry l.den)] (by rfl) (by simp [go_sem]) rfl (by simp [Value.oneCell']) ?_) | fail)
    obtain ⟨U, hU⟩ : ∃ U, U = ((((V.junk X3).alloc (.cells #[.int .i64 Pw.road, .bool (zs Pw.off.num), .string (zx Pw.off.num), .bool false, .string (ry Pw.off.den), .int .i64 Qw.road, .bool (zs Qw.off.num), .string (zx Qw.off.num), .bool false, .string (ry Qw.off.den), .slice av nv cv, .bool (zs l.num), .string (zx l.num), .bool false, .string (ry l.den)] 55)).junk X4).alloc (.cells #[.int .i64 Pw.road, .bool (zs Pw.off.num), .string (zx Pw.off.num), .bool false, .string (ry Pw.off.den), .int .i64 Qw.road, .bool (zs Qw.off.num), .string (zx Qw.off.num), .bool false, .string (ry Qw.off.den), .slice bv nb cb, .bool (zs l.num), .string (zx l.num), .bool false, .string (ry l.den)] 55)) := ⟨_, rfl⟩
    have HA1 : Hid (U.heap[(V.junk X3).heap.size]? = some (.cells #[.int .i64 Pw.road, .bool (zs Pw.off.num), .string (zx Pw.off.num), .bool false, .string (ry Pw.off.den), .int .i64 Qw.road, .bool (zs Qw.off.num), .string (zx Qw.off.num), .bool false, .string (ry Qw.off.den), .slice av nv cv, .bool (zs l.num), .string (zx l.num), .bool false, .string (ry l.den)] 55 (0, 0))) := Lib.hid (by rw [hU]; exact obj_old (obj_junk (obj_last _ _)))
    have HA2 : Hid (U.heap[(((V.junk X3).alloc (.cells #[.int .i64 Pw.road, .bool (zs Pw.off.num), .string (zx Pw.off.num), .bool false, .string (ry Pw.off.den), .int .i64 Qw.road, .bool (zs Qw.off.num), .string (zx Qw.off.num), .bool false, .string (ry Qw.off.den), .slice av nv cv, .bool (zs l.num), .string (zx l.num), .bool false, .string (ry l.den)] 55)).junk X4).heap.size]? = some (.cells #[.int .i64 Pw.road, .bool (zs Pw.off.num), .string (zx Pw.off.num), .bool false, .string (ry Pw.off.den), .int .i64 Qw.road, .bool (zs Qw.off.num), .string (zx Qw.off.num), .bool false, .string (ry Qw.off.den), .slice bv nb cb, .bool (zs l.num), .string (zx l.num), .bool false, .string (ry l.den)] 55 (0, 0))) := Lib.hid (by rw [hU]; exact obj_last _ _)
    haveI bvu : Bw V U := by rw [hU]; infer_instance
    haveI bwu : Bw w U := ⟨bwv.b.trans (bvu.b.mono bwv.b.size)⟩
    have HS1 : Hid (Sl U.heap.size U 9 (.slice av nv cv) (L.map Lg.cs)) := Lib.hid (by rw [hU]; exact HO.out.sl.later Bw.b)
    have HS2 : Hid (Sl U.heap.size U 9 (.slice bv nb cb) (L.map Lg.cs)) := Lib.hid (by rw [hU]; exact HP.out.sl.later Bw.b)
    have HNU := Lib.hid (HNV.out.later bvu.b)
    rw [← hU]
    clear hU HO HP HNV
    generalize (((V.junk X3).alloc (.cells #[.int .i64 Pw.road, .bool (zs Pw.off.num), .string (zx Pw.off.num), .bool false, .string (ry Pw.off.den), .int .i64 Qw.road, .bool (zs Qw.off.num), .string (zx Qw.off.num), .bool false, .string (ry Qw.off.den), .slice av nv cv, .bool (zs l.num), .string (zx l.num), .bool false, .string (ry l.den)] 55)).junk X4).heap.size = bz at *
    generalize (V.junk X3).heap.size = by' at *
    haveI lbx : Lo bx U := ⟨Nat.lt_of_lt_of_le lbv.lt bvu.b.size⟩
    have g0 := (bvu.b.cell (p := ⟨bx, 0, none⟩) lbv.lt).trans v0
    have g1 := (bvu.b.cell (p := ⟨bx, 1, none⟩) lbv.lt).trans v1'
    haveI lua : Lo ba U := ⟨Nat.lt_of_lt_of_le loa.lt bvu.b.size⟩
    have au0 := (bvu.b.cell (p := ⟨ba, 0, none⟩) loa.lt).trans a0
    have au1 := (bvu.b.cell (p := ⟨ba, 1, none⟩) loa.lt).trans a1
    have au2 := (bvu.b.cell (p := ⟨ba, 2, none⟩) loa.lt).trans a2
    have au3 := (bvu.b.cell (p := ⟨ba, 3, none⟩) loa.lt).trans a3
    have au4 := (bvu.b.cell (p := ⟨ba, 4, none⟩) loa.lt).trans a4
    haveI lub : Lo bb U := ⟨Nat.lt_of_lt_of_le lob.lt bvu.b.size⟩
    have bu0 := (bvu.b.cell (p := ⟨bb, 0, none⟩) lob.lt).trans b0
    have bu1 := (bvu.b.cell (p := ⟨bb, 1, none⟩) lob.lt).trans b1
    have bu2 := (bvu.b.cell (p := ⟨bb, 2, none⟩) lob.lt).trans b2
    have bu3 := (bvu.b.cell (p := ⟨bb, 3, none⟩) lob.lt).trans b3
    have bu4 := (bvu.b.cell (p := ⟨bb, 4, none⟩) lob.lt).trans b4
    haveI lby : Lo by' U := ⟨obj_lt HA1.out⟩
    haveI lbz : Lo bz U := ⟨obj_lt HA2.out⟩
    have HR1 : Hid (rowN 15 U by' = some #[.int .i64 Pw.road, .bool (zs Pw.off.num), .string (zx Pw.off.num), .bool false, .string (ry Pw.off.den), .int .i64 Qw.road, .bool (zs Qw.off.num), .string (zx Qw.off.num), .bool false, .string (ry Qw.off.den), .slice av nv cv, .bool (zs l.num), .string (zx l.num), .bool false, .string (ry l.den)]) := Lib.hid (rowN_of HA1.out rfl)
    have HR2 : Hid (rowN 15 U bz = some #[.int .i64 Pw.road, .bool (zs Pw.off.num), .string (zx Pw.off.num), .bool false, .string (ry Pw.off.den), .int .i64 Qw.road, .bool (zs Qw.off.num), .string (zx Qw.off.num), .bool false, .string (ry Qw.off.den), .slice bv nb cb, .bool (zs l.num), .string (zx l.num), .bool false, .string (ry l.den)]) := Lib.hid (rowN_of HA2.out rfl)
    clear v0 v1' lbv HA1 HA2 loa lob bwv a0 a1 a2 a3 a4 b0 b1 b2 b3 b4
    refine wp_flow2 [(11, [10])] [(8, [7]), (9, [7]), (11, [10, 8])] [(3, [2]), (5, [3, 4]), (6, [0, 1, 5]), (7, [6]), (8, [7]), (9, [7]), (11, [10, 8]), (12, [9])] [(0, some 43), (1, some 44), (2, some 45), (3, some 46), (4, some 47), (5, some 48), (6, some 49), (7, some 42), (8, some 50), (9, some 51), (10, some 14), (11, none), (12, some 15)] [(7, .pointer (some ⟨bx, 0, none⟩)), (8, .pointer (some ⟨ba, 0, none⟩)), (9, .pointer (some ⟨bb, 0, none⟩))] [.val (.agg #[.slice a1 n1 c1, .slice a2 n2 c2]), .val (.agg #[.int .i64 pa.road, .bool (zs pa.off.num), .string (zx pa.off.num), .bool false, .string (ry pa.off.den)]), .val (.pointer (some ⟨bb, 0, none⟩)), .val (.int .i64 pb.road), .val (.agg #[.bool (zs um.num), .string (zx um.num), .bool false, .string (ry um.den)]), .val (.agg #[.int .i64 pb.road, .bool (zs um.num), .string (zx um.num), .bool false, .string (ry um.den)]), .rel (fun f => BeP 2 (f 6)), .rel (fun f => BeP 2 (f 7)), .rel (fun f => BeQ (f 8)), .val (.int .i64 2), .box 55 10 (fun _ => #[.int .i64 0, .bool false, .string ⟨#[]⟩, .bool false, .string ⟨#[]⟩, .int .i64 0, .bool false, .string ⟨#[]⟩, .bool false, .string ⟨#[]⟩, .slice none 0 0, .bool false, .string ⟨#[]⟩, .bool false, .string ⟨#[]⟩]), .box 55 10 (fun f => agOf (f 8)), .val (.int .i64 2)] (by kernel_rfl) (by kernel_rfl) (by kernel_rfl) (by kernel_rfl) (by kernel_rfl) ⟨rfl, rfl, rfl, trivial⟩ ⟨trivial, trivial, trivial, trivial, trivial, trivial, (fun f f' h hR => by have q := h 6 (.inl rfl); show BeP 2 (f' 6); rw [← q]; exact hR), (fun f f' h hR => by have q := h 7 (.inl rfl); show BeP 2 (f' 7); rw [← q]; exact hR), (fun f f' h hR => by have q := h 8 (.inl rfl); show BeQ (f' 8); rw [← q]; exact hR), trivial, ⟨.inl rfl, fun _ _ _ => rfl⟩, ⟨.inr (by decide), fun f f' h => by have q := h 8 (.inr (by decide)); simp only [q]⟩, trivial, trivial⟩ ?_ ?_
    · refine ⟨?_, ?_, ?_, ?_, ?_, ?_, ?_, ?_, ?_, ?_, ?_, ?_, ?_, trivial⟩
      · intro f ρ w' S hd hx hc hB hA hD
        have h7 : ρ (.tmp 7) = .pointer (some ⟨bx, 0, none⟩) := hx (7, .pointer (some ⟨bx, 0, none⟩)) (by simp)
        have n0' := (hB.cell (p := ⟨bx, 0, none⟩) lbx.lt).trans g0
        have e1' := (hB.cell (p := ⟨bx, 1, none⟩) lbx.lt).trans g1
        refine fl_val (by rfl) (by rfl) ?_
        simp [execOp, go_sem, h7, n0', e1']
      · intro f ρ w' S hd hx hc hB hA hD
        have h8 : ρ (.tmp 8) = .pointer (some ⟨ba, 0, none⟩) := hx (8, .pointer (some ⟨ba, 0, none⟩)) (by simp)
        have q0' := (hB.cell (p := ⟨ba, 0, none⟩) lua.lt).trans au0
        have q1' := (hB.cell (p := ⟨ba, 1, none⟩) lua.lt).trans au1
        have q2' := (hB.cell (p := ⟨ba, 2, none⟩) lua.lt).trans au2
        have q3' := (hB.cell (p := ⟨ba, 3, none⟩) lua.lt).trans au3
        have q4' := (hB.cell (p := ⟨ba, 4, none⟩) lua.lt).trans au4
        refine fl_val (by rfl) (by rfl) ?_
        simp [execOp, go_sem, h8, q0', q1', q2', q3', q4']
      · intro f ρ w' S hd hx hc hB hA hD
        have h9 : ρ (.tmp 9) = .pointer (some ⟨bb, 0, none⟩) := hx (9, .pointer (some ⟨bb, 0, none⟩)) (by simp)
        refine fl_val (by rfl) (by rfl) ?_
        simp [execOp, go_sem, h9]
      · intro f ρ w' S hd hx hc hB hA hD
        have h45 : ρ (.tmp 45) = .pointer (some ⟨bb, 0, none⟩) := (hd 2 45 (by decide)).trans (hA 2 (by decide)).1
        have q0' := (hB.cell (p := ⟨bb, 0, none⟩) lub.lt).trans bu0
        refine fl_val (by rfl) (by rfl) ?_
        simp [execOp, go_sem, h45, q0']
      · intro f ρ w' S hd hx hc hB hA hD
        exact fl_call (by rfl) (by rfl) (by simp [execOp, go_sem, hc.1, hc.2]) (HF1.out w')
      · intro f ρ w' S hd hx hc hB hA hD
        have h46 : ρ (.tmp 46) = .int .i64 pb.road := (hd 3 46 (by decide)).trans (hA 3 (by decide)).1
        have h47 : ρ (.tmp 47) = .agg #[.bool (zs um.num), .string (zx um.num), .bool false, .string (ry um.den)] := (hd 4 47 (by decide)).trans (hA 4 (by decide)).1
        refine fl_val (by rfl) (by rfl) ?_
        simp [execOp, go_sem, h46, h47]
      · intro f ρ w' S hd hx hc hB hA hD
        have h0 : ρ (.tmp 43) = .agg #[.slice a1 n1 c1, .slice a2 n2 c2] := (hd 0 43 (by decide)).trans (hA 0 (by decide)).1
        have h1 : ρ (.tmp 44) = .agg #[.int .i64 pa.road, .bool (zs pa.off.num), .string (zx pa.off.num), .bool false, .string (ry pa.off.den)] := (hd 1 44 (by decide)).trans (hA 1 (by decide)).1
        have h5 : ρ (.tmp 48) = .agg #[.int .i64 pb.road, .bool (zs um.num), .string (zx um.num), .bool false, .string (ry um.den)] := (hd 5 48 (by decide)).trans (hA 5 (by decide)).1
        haveI : Bw U w' := ⟨hB⟩
        haveI : Bw V w' := ⟨bvu.b.trans (hB.mono bvu.b.size)⟩
        refine fl_call_rel (p := BeP 2) (by rfl) (by rfl) (by simp [execOp, go_sem, h0, h1, h5, hc.1, hc.2]) ((HN1.out w').mono ?_) (fun f' v _ e hp => by show BeP 2 (f' 6); rw [e]; exact hp)
        rintro e w2 ⟨v, rfl, ho, hb⟩
        obtain ⟨a4, m4, c4, rfl⟩ := ho.val
        exact ⟨_, rfl, ⟨plz, plz, a4, m4, c4, 0, rfl⟩, hb⟩
      · intro f ρ w' S hd hx hc hB hA hD
        have h6 : ρ (.tmp 49) = f 6 := hd 6 49 (by decide)
        refine fl_rel (v := f 6) (by rfl) (by rfl) ?_ (fun f' _ e => by show BeP 2 (f' 7); rw [e]; exact (hA 6 (by decide)).1)
        simp [execOp, go_sem, h6]
      · intro f ρ w' S hd hx hc hB hA hD
        have h7 : ρ (.tmp 42) = f 7 := hd 7 42 (by decide)
        obtain ⟨P4, Q4, s4, m4, z4, l4, f4⟩ := (hA 7 (by decide)).1
        rw [f4] at h7
        refine fl_rel (v := .agg #[.int .i64 P4.road, .bool (zs P4.off.num), .string (zx P4.off.num), .bool false, .string (ry P4.off.den), .int .i64 Q4.road, .bool (zs Q4.off.num), .string (zx Q4.off.num), .bool false, .string (ry Q4.off.den), .slice s4 m4 z4, .bool (zs l4.num), .string (zx l4.num), .bool false, .string (ry l4.den)]) (by rfl) (by rfl) ?_ (fun f' hf e => by show BeQ (f' 8); rw [e]; exact ⟨_, _, _, _, _, _, rfl⟩)
        simp [execOp, go_sem, h7]
      · intro f ρ w' S hd hx hc hB hA hD
        have h7 : ρ (.tmp 42) = f 7 := hd 7 42 (by decide)
        obtain ⟨P4, Q4, s4, m4, z4, l4, f4⟩ := (hA 7 (by decide)).1
        rw [f4] at h7
        refine fl_val (by rfl) (by rfl) ?_
        simp [execOp, go_sem, h7]
      · intro f ρ w' S hd hx hc hB hA hD
        refine fl_box (by rfl) (by rfl) hB.size (fun _ _ => rfl) ?_
        simp [execOp, go_sem]
      · intro f ρ w' S hd hx hc hB hA hD
        obtain ⟨b, p1, p2, p3, p4⟩ := (hA 10 (by decide)).1
        obtain ⟨P4, Q4, s4, m4, z4, l4, f6⟩ := (hA 8 (by decide)).1
        have h16 : ρ (.tmp 14) = .pointer (some ⟨b, 0, none⟩) := (hd 10 14 (by decide)).trans p1
        have h53 : ρ (.tmp 50) = .agg #[.int .i64 P4.road, .bool (zs P4.off.num), .string (zx P4.off.num), .bool false, .string (ry P4.off.den), .int .i64 Q4.road, .bool (zs Q4.off.num), .string (zx Q4.off.num), .bool false, .string (ry Q4.off.den), .slice s4 m4 z4, .bool (zs l4.num), .string (zx l4.num), .bool false, .string (ry l4.den)] := (hd 8 50 (by decide)).trans f6
        refine fl_store (w' := setRow w' b #[.int .i64 P4.road, .bool (zs P4.off.num), .string (zx P4.off.num), .bool false, .string (ry P4.off.den), .int .i64 Q4.road, .bool (zs Q4.off.num), .string (zx Q4.off.num), .bool false, .string (ry Q4.off.den), .slice s4 m4 z4, .bool (zs l4.num), .string (zx l4.num), .bool false, .string (ry l4.den)]) (by rfl) (by decide) ⟨10, by decide, p2⟩ p1 p3 (obj_lt p4) (fun f' hf => by rw [hf 8 (by decide)]) ?_ (setRow_ext _ _ _) ?_
        · exact exec_store_row (by rfl) iWy b h16 _ h53 (by unfold rowN; rw [p4]; rfl) rfl (by simp [Value.oneCell'])
        · rw [f6]; exact setRow_obj p4 _
      · intro f ρ w' S hd hx hc hB hA hD
        have h9 : ρ (.tmp 51) = .int .i64 2 := (hd 9 51 (by decide)).trans (hA 9 (by decide)).1
        refine fl_val (by rfl) (by rfl) ?_
        simp [execOp, go_sem, h9]
    · intro f w' S hB hS hD
      obtain ⟨bz0, p1, _, _, _⟩ := (hS 11 (by kernel_rfl)).1
      have fv : f 12 = .int .i64 2 := (hS 12 (by kernel_rfl)).1
      simp only [putAll, Act.put, List.setIfInBounds_toArray, List.set_cons_zero, List.set_cons_succ]
      rw [p1, fv]
      obtain ⟨X7, rfl⟩ := below_some hB
      replace g0 := (hB.cell (p := ⟨bx, 0, none⟩) lbx.lt).trans g0
      replace g1 := (hB.cell (p := ⟨bx, 1, none⟩) lbx.lt).trans g1
      replace au0 := (hB.cell (p := ⟨ba, 0, none⟩) lua.lt).trans au0
      replace au1 := (hB.cell (p := ⟨ba, 1, none⟩) lua.lt).trans au1
      replace au2 := (hB.cell (p := ⟨ba, 2, none⟩) lua.lt).trans au2
      replace au3 := (hB.cell (p := ⟨ba, 3, none⟩) lua.lt).trans au3
      replace au4 := (hB.cell (p := ⟨ba, 4, none⟩) lua.lt).trans au4
      replace bu0 := (hB.cell (p := ⟨bb, 0, none⟩) lub.lt).trans bu0
      replace bu1 := (hB.cell (p := ⟨bb, 1, none⟩) lub.lt).trans bu1
      replace bu2 := (hB.cell (p := ⟨bb, 2, none⟩) lub.lt).trans bu2
      replace bu3 := (hB.cell (p := ⟨bb, 3, none⟩) lub.lt).trans bu3
      replace bu4 := (hB.cell (p := ⟨bb, 4, none⟩) lub.lt).trans bu4
      replace HR1 : Hid (rowN 15 (U.junk X7) by' = some #[.int .i64 Pw.road, .bool (zs Pw.off.num), .string (zx Pw.off.num), .bool false, .string (ry Pw.off.den), .int .i64 Qw.road, .bool (zs Qw.off.num), .string (zx Qw.off.num), .bool false, .string (ry Qw.off.den), .slice av nv cv, .bool (zs l.num), .string (zx l.num), .bool false, .string (ry l.den)]) := Lib.hid ((rowN_bw hB lby.lt).trans HR1.out)
      replace HR2 : Hid (rowN 15 (U.junk X7) bz = some #[.int .i64 Pw.road, .bool (zs Pw.off.num), .string (zx Pw.off.num), .bool false, .string (ry Pw.off.den), .int .i64 Qw.road, .bool (zs Qw.off.num), .string (zx Qw.off.num), .bool false, .string (ry Qw.off.den), .slice bv nb cb, .bool (zs l.num), .string (zx l.num), .bool false, .string (ry l.den)]) := Lib.hid ((rowN_bw hB lbz.lt).trans HR2.out)
      replace lbx : Lo bx (U.junk X7) := ⟨Nat.lt_of_lt_of_le lbx.lt hB.size⟩
      replace lua : Lo ba (U.junk X7) := ⟨Nat.lt_of_lt_of_le lua.lt hB.size⟩
      replace lub : Lo bb (U.junk X7) := ⟨Nat.lt_of_lt_of_le lub.lt hB.size⟩
      replace lby : Lo by' (U.junk X7) := ⟨Nat.lt_of_lt_of_le lby.lt hB.size⟩
      replace lbz : Lo bz (U.junk X7) := ⟨Nat.lt_of_lt_of_le lbz.lt hB.size⟩
      replace bwu : Bw w (U.junk X7) := ⟨bwu.b.trans (hB.mono bwu.b.size)⟩
      replace bvu : Bw V (U.junk X7) := ⟨bvu.b.trans (hB.mono bvu.b.size)⟩
      replace HS1 := Lib.hid (HS1.out.later (w' := U.junk X7) hB)
      replace HS2 := Lib.hid (HS2.out.later (w' := U.junk X7) hB)
      replace HNU := Lib.hid (HNU.out.later (w' := U.junk X7) hB)
      clear hS hB hD p1 fv
      generalize U.junk X7 = U2 at *
      go_upto_region 8 with fail
      refine wp_flow2 [(11, [10])] [(8, [7]), (9, [7]), (11, [10, 8])] [(3, [2]), (5, [3, 4]), (6, [0, 1, 5]), (7, [6]), (8, [7]), (9, [7]), (11, [10, 8]), (12, [9])] [(0, some 53), (1, some 54), (2, some 55), (3, some 56), (4, some 57), (5, some 58), (6, some 59), (7, some 52), (8, some 60), (9, some 61), (10, some 16), (11, none), (12, some 17)] [(7, .pointer (some ⟨bx, 0, none⟩)), (9, .pointer (some ⟨bb, 0, none⟩))] [.val (.agg #[.slice a1 n1 c1, .slice a2 n2 c2]), .val (.agg #[.int .i64 0, .bool false, .string ⟨#[]⟩, .bool false, .string ⟨#[]⟩]), .val (.pointer (some ⟨bb, 0, none⟩)), .val (.int .i64 pb.road), .val (.agg #[.bool (zs um.num), .string (zx um.num), .bool false, .string (ry um.den)]), .val (.agg #[.int .i64 pb.road, .bool (zs um.num), .string (zx um.num), .bool false, .string (ry um.den)]), .rel (fun f => BeP 9 (f 6)), .rel (fun f => BeP 9 (f 7)), .rel (fun f => BeQ (f 8)), .val (.int .i64 9), .box 55 10 (fun _ => #[.int .i64 0, .bool false, .string ⟨#[]⟩, .bool false, .string ⟨#[]⟩, .int .i64 0, .bool false, .string ⟨#[]⟩, .bool false, .string ⟨#[]⟩, .slice none 0 0, .bool false, .string ⟨#[]⟩, .bool false, .string ⟨#[]⟩]), .box 55 10 (fun f => agOf (f 8)), .val (.int .i64 9)] (by kernel_rfl) (by kernel_rfl) (by kernel_rfl) (by kernel_rfl) (by kernel_rfl) ⟨rfl, rfl, trivial⟩ ⟨trivial, trivial, trivial, trivial, trivial, trivial, (fun f f' h hR => by have q := h 6 (.inl rfl); show BeP 9 (f' 6); rw [← q]; exact hR), (fun f f' h hR => by have q := h 7 (.inl rfl); show BeP 9 (f' 7); rw [← q]; exact hR), (fun f f' h hR => by have q := h 8 (.inl rfl); show BeQ (f' 8); rw [← q]; exact hR), trivial, ⟨.inl rfl, fun _ _ _ => rfl⟩, ⟨.inr (by decide), fun f f' h => by have q := h 8 (.inr (by decide)); simp only [q]⟩, trivial, trivial⟩ ?_ ?_
      · refine ⟨?_, ?_, ?_, ?_, ?_, ?_, ?_, ?_, ?_, ?_, ?_, ?_, ?_, trivial⟩
        · intro f ρ w' S hd hx hc hB hA hD
          have h7 : ρ (.tmp 7) = .pointer (some ⟨bx, 0, none⟩) := hx (7, .pointer (some ⟨bx, 0, none⟩)) (by simp)
          have n0' := (hB.cell (p := ⟨bx, 0, none⟩) lbx.lt).trans g0
          have e1' := (hB.cell (p := ⟨bx, 1, none⟩) lbx.lt).trans g1
          refine fl_val (by rfl) (by rfl) ?_
          simp [execOp, go_sem, h7, n0', e1']
        · intro f ρ w' S hd hx hc hB hA hD
          refine fl_val (by rfl) (by rfl) ?_
          simp [execOp, go_sem]
        · intro f ρ w' S hd hx hc hB hA hD
          have h9 : ρ (.tmp 9) = .pointer (some ⟨bb, 0, none⟩) := hx (9, .pointer (some ⟨bb, 0, none⟩)) (by simp)
          refine fl_val (by rfl) (by rfl) ?_
          simp [execOp, go_sem, h9]
        · intro f ρ w' S hd hx hc hB hA hD
          have h55 : ρ (.tmp 55) = .pointer (some ⟨bb, 0, none⟩) := (hd 2 55 (by decide)).trans (hA 2 (by decide)).1
          have q0' := (hB.cell (p := ⟨bb, 0, none⟩) lub.lt).trans bu0
          refine fl_val (by rfl) (by rfl) ?_
          simp [execOp, go_sem, h55, q0']
        · intro f ρ w' S hd hx hc hB hA hD
          exact fl_call (by rfl) (by rfl) (by simp [execOp, go_sem, hc.1, hc.2]) (HF1.out w')
        · intro f ρ w' S hd hx hc hB hA hD
          have h56 : ρ (.tmp 56) = .int .i64 pb.road := (hd 3 56 (by decide)).trans (hA 3 (by decide)).1
          have h57 : ρ (.tmp 57) = .agg #[.bool (zs um.num), .string (zx um.num), .bool false, .string (ry um.den)] := (hd 4 57 (by decide)).trans (hA 4 (by decide)).1
          refine fl_val (by rfl) (by rfl) ?_
          simp [execOp, go_sem, h56, h57]
        · intro f ρ w' S hd hx hc hB hA hD
          have h0 : ρ (.tmp 53) = .agg #[.slice a1 n1 c1, .slice a2 n2 c2] := (hd 0 53 (by decide)).trans (hA 0 (by decide)).1
          have h1 : ρ (.tmp 54) = .agg #[.int .i64 0, .bool false, .string ⟨#[]⟩, .bool false, .string ⟨#[]⟩] := (hd 1 54 (by decide)).trans (hA 1 (by decide)).1
          have h5 : ρ (.tmp 58) = .agg #[.int .i64 pb.road, .bool (zs um.num), .string (zx um.num), .bool false, .string (ry um.den)] := (hd 5 58 (by decide)).trans (hA 5 (by decide)).1
          haveI : Bw U2 w' := ⟨hB⟩
          haveI : Bw V w' := ⟨bvu.b.trans (hB.mono bvu.b.size)⟩
          refine fl_call_rel (p := BeP 9) (by rfl) (by rfl) (by simp [execOp, go_sem, h0, h1, h5, hc.1, hc.2]) ((HN2.out w').mono ?_) (fun f' v _ e hp => by show BeP 9 (f' 6); rw [e]; exact hp)
          rintro e w2 ⟨v, rfl, ho, hb⟩
          obtain ⟨a4, m4, c4, rfl⟩ := ho.val
          exact ⟨_, rfl, ⟨plz, plz, a4, m4, c4, 0, rfl⟩, hb⟩
        · intro f ρ w' S hd hx hc hB hA hD
          have h6 : ρ (.tmp 59) = f 6 := hd 6 59 (by decide)
          refine fl_rel (v := f 6) (by rfl) (by rfl) ?_ (fun f' _ e => by show BeP 9 (f' 7); rw [e]; exact (hA 6 (by decide)).1)
          simp [execOp, go_sem, h6]
        · intro f ρ w' S hd hx hc hB hA hD
          have h7 : ρ (.tmp 52) = f 7 := hd 7 52 (by decide)
          obtain ⟨P4, Q4, s4, m4, z4, l4, f4⟩ := (hA 7 (by decide)).1
          rw [f4] at h7
          refine fl_rel (v := .agg #[.int .i64 P4.road, .bool (zs P4.off.num), .string (zx P4.off.num), .bool false, .string (ry P4.off.den), .int .i64 Q4.road, .bool (zs Q4.off.num), .string (zx Q4.off.num), .bool false, .string (ry Q4.off.den), .slice s4 m4 z4, .bool (zs l4.num), .string (zx l4.num), .bool false, .string (ry l4.den)]) (by rfl) (by rfl) ?_ (fun f' hf e => by show BeQ (f' 8); rw [e]; exact ⟨_, _, _, _, _, _, rfl⟩)
          simp [execOp, go_sem, h7]
        · intro f ρ w' S hd hx hc hB hA hD
          have h7 : ρ (.tmp 52) = f 7 := hd 7 52 (by decide)
          obtain ⟨P4, Q4, s4, m4, z4, l4, f4⟩ := (hA 7 (by decide)).1
          rw [f4] at h7
          refine fl_val (by rfl) (by rfl) ?_
          simp [execOp, go_sem, h7]
        · intro f ρ w' S hd hx hc hB hA hD
          refine fl_box (by rfl) (by rfl) hB.size (fun _ _ => rfl) ?_
          simp [execOp, go_sem]
        · intro f ρ w' S hd hx hc hB hA hD
          obtain ⟨b, p1, p2, p3, p4⟩ := (hA 10 (by decide)).1
          obtain ⟨P4, Q4, s4, m4, z4, l4, f6⟩ := (hA 8 (by decide)).1
          have h16 : ρ (.tmp 16) = .pointer (some ⟨b, 0, none⟩) := (hd 10 16 (by decide)).trans p1
          have h53 : ρ (.tmp 60) = .agg #[.int .i64 P4.road, .bool (zs P4.off.num), .string (zx P4.off.num), .bool false, .string (ry P4.off.den), .int .i64 Q4.road, .bool (zs Q4.off.num), .string (zx Q4.off.num), .bool false, .string (ry Q4.off.den), .slice s4 m4 z4, .bool (zs l4.num), .string (zx l4.num), .bool false, .string (ry l4.den)] := (hd 8 60 (by decide)).trans f6
          refine fl_store (w' := setRow w' b #[.int .i64 P4.road, .bool (zs P4.off.num), .string (zx P4.off.num), .bool false, .string (ry P4.off.den), .int .i64 Q4.road, .bool (zs Q4.off.num), .string (zx Q4.off.num), .bool false, .string (ry Q4.off.den), .slice s4 m4 z4, .bool (zs l4.num), .string (zx l4.num), .bool false, .string (ry l4.den)]) (by rfl) (by decide) ⟨10, by decide, p2⟩ p1 p3 (obj_lt p4) (fun f' hf => by rw [hf 8 (by decide)]) ?_ (setRow_ext _ _ _) ?_
          · exact exec_store_row (by rfl) iWy b h16 _ h53 (by unfold rowN; rw [p4]; rfl) rfl (by simp [Value.oneCell'])
          · rw [f6]; exact setRow_obj p4 _
        · intro f ρ w' S hd hx hc hB hA hD
          have h9 : ρ (.tmp 61) = .int .i64 9 := (hd 9 61 (by decide)).trans (hA 9 (by decide)).1
          refine fl_val (by rfl) (by rfl) ?_
          simp [execOp, go_sem, h9]
      · intro f w' S hB hS hD
        obtain ⟨bz0, p1, _, _, _⟩ := (hS 11 (by kernel_rfl)).1
        have fv : f 12 = .int .i64 9 := (hS 12 (by kernel_rfl)).1
        simp only [putAll, Act.put, List.setIfInBounds_toArray, List.set_cons_zero, List.set_cons_succ]
        rw [p1, fv]
        obtain ⟨X8, rfl⟩ := below_some hB
        replace g0 := (hB.cell (p := ⟨bx, 0, none⟩) lbx.lt).trans g0
        replace g1 := (hB.cell (p := ⟨bx, 1, none⟩) lbx.lt).trans g1
        replace au0 := (hB.cell (p := ⟨ba, 0, none⟩) lua.lt).trans au0
        replace au1 := (hB.cell (p := ⟨ba, 1, none⟩) lua.lt).trans au1
        replace au2 := (hB.cell (p := ⟨ba, 2, none⟩) lua.lt).trans au2
        replace au3 := (hB.cell (p := ⟨ba, 3, none⟩) lua.lt).trans au3
        replace au4 := (hB.cell (p := ⟨ba, 4, none⟩) lua.lt).trans au4
        replace bu0 := (hB.cell (p := ⟨bb, 0, none⟩) lub.lt).trans bu0
        replace bu1 := (hB.cell (p := ⟨bb, 1, none⟩) lub.lt).trans bu1
        replace bu2 := (hB.cell (p := ⟨bb, 2, none⟩) lub.lt).trans bu2
        replace bu3 := (hB.cell (p := ⟨bb, 3, none⟩) lub.lt).trans bu3
        replace bu4 := (hB.cell (p := ⟨bb, 4, none⟩) lub.lt).trans bu4
        replace HR1 : Hid (rowN 15 (U2.junk X8) by' = some #[.int .i64 Pw.road, .bool (zs Pw.off.num), .string (zx Pw.off.num), .bool false, .string (ry Pw.off.den), .int .i64 Qw.road, .bool (zs Qw.off.num), .string (zx Qw.off.num), .bool false, .string (ry Qw.off.den), .slice av nv cv, .bool (zs l.num), .string (zx l.num), .bool false, .string (ry l.den)]) := Lib.hid ((rowN_bw hB lby.lt).trans HR1.out)
        replace HR2 : Hid (rowN 15 (U2.junk X8) bz = some #[.int .i64 Pw.road, .bool (zs Pw.off.num), .string (zx Pw.off.num), .bool false, .string (ry Pw.off.den), .int .i64 Qw.road, .bool (zs Qw.off.num), .string (zx Qw.off.num), .bool false, .string (ry Qw.off.den), .slice bv nb cb, .bool (zs l.num), .string (zx l.num), .bool false, .string (ry l.den)]) := Lib.hid ((rowN_bw hB lbz.lt).trans HR2.out)
        replace lbx : Lo bx (U2.junk X8) := ⟨Nat.lt_of_lt_of_le lbx.lt hB.size⟩
        replace lua : Lo ba (U2.junk X8) := ⟨Nat.lt_of_lt_of_le lua.lt hB.size⟩
        replace lub : Lo bb (U2.junk X8) := ⟨Nat.lt_of_lt_of_le lub.lt hB.size⟩
        replace lby : Lo by' (U2.junk X8) := ⟨Nat.lt_of_lt_of_le lby.lt hB.size⟩
        replace lbz : Lo bz (U2.junk X8) := ⟨Nat.lt_of_lt_of_le lbz.lt hB.size⟩
        replace bwu : Bw w (U2.junk X8) := ⟨bwu.b.trans (hB.mono bwu.b.size)⟩
        replace bvu : Bw V (U2.junk X8) := ⟨bvu.b.trans (hB.mono bvu.b.size)⟩
        replace HS1 := Lib.hid (HS1.out.later (w' := U2.junk X8) hB)
        replace HS2 := Lib.hid (HS2.out.later (w' := U2.junk X8) hB)
        replace HNU := Lib.hid (HNU.out.later (w' := U2.junk X8) hB)
        clear hS hB hD p1 fv
        generalize U2.junk X8 = U3 at *
        clear HN1 HN2 HF1
        have spl : Sm Pw.off ∧ Sm Qw.off ∧ Sm l := by
          rcases HKB.out with hk | hk
          · try simp only at hk
            obtain ⟨L', l', hq0, hcw⟩ := HWY.out hk
            injection hq0 with hq0 _
            injection hq0 with q1 q2 q3 q4
            rw [q1, q2]
            refine ⟨sm_pos hn.out OKA.out, sm_pos hn.out OKB.out, ?_⟩
            rcases HDE.out with ⟨_, hd⟩ | ⟨h31, _⟩
            · exact HSL.out _ hd
            · rw [hk] at h31; cases h31
          · injection hk with hk _
            injection hk with q1 q2 q3 q4
            rw [q1, q2, q4]
            exact ⟨sm_zero, sm_zero, sm_zero⟩
        have HLM : L.length ≤ 100 := by have := HFW.out; omega
        have HSW0 : Hid (∀ (w' : World) [Bw U3 w'], _) := Lib.hid (fun w' h => swy_q Pw Qw L l (.slice av nv cv) (.slice bv nb cb) w' (HS1.out.later h.b) (HS2.out.later h.b) (by omega) spl.1 spl.2.1 spl.2.2)
        obtain hk | hk := HKB.out
        rotate_left
        · injection hk with hk hk2
          injection hk with q1 q2 q3 q4
          have HZW0 : Hid (∀ (w' : World) [Bw U3 w'], _) := Lib.hid (fun w' h => swy_q Pw Qw L l (.slice av nv cv) (.slice none 0 0) w' (HS1.out.later h.b) (by rw [q3]; exact sl_nil _ _ _) (by omega) spl.1 spl.2.1 spl.2.2)
          have e15 : wcs Pw Qw (.slice none 0 0) l = #[.int .i64 0, .bool false, .string ⟨#[]⟩, .bool false, .string ⟨#[]⟩, .int .i64 0, .bool false, .string ⟨#[]⟩, .bool false, .string ⟨#[]⟩, .slice none 0 0, .bool false, .string ⟨#[]⟩, .bool false, .string ⟨#[]⟩] := by rw [q1, q2, q4]; exact wc_zero
          rw [e15] at HZW0
          unfold wcs at HZW0
          subst hk2
          clear q1 q2 q3 q4 e15 HSW0 spl HLM HWY HFW HKB HDE HSL
          go_wp2_with (first | (refine wl_load (op := ⟨some 73, .load _ (.tmp 10), _, _, _, _⟩) (by rfl) _ rfl uWy rfl iWy _ (by rfl) #[.int .i64 Pw.road, .bool (zs Pw.off.num), .string (zx Pw.off.num), .bool false, .string (ry Pw.off.den), .int .i64 Qw.road, .bool (zs Qw.off.num), .string (zx Qw.off.num), .bool false, .string (ry Qw.off.den), .slice av nv cv, .bool (zs l.num), .string (zx l.num), .bool false, .string (ry l.den)] HR1.out ?_) | fail)
          refine (jk (HZW0.out _)).mono ?_
          rintro e _ ⟨rfl, X9, rfl⟩
          go_wp2_with fail
          go_ret
          exact ⟨rfl, Bw.b⟩
        try simp only at hk
        subst hk
        obtain ⟨L', l', hq0, hcw⟩ := HWY.out rfl
        injection hq0 with hq0 _
        injection hq0 with q1 q2 q3 q4
        subst q1 q2 q3 q4
        have HCK0 : Hid (∀ (w' : World) [Bw U3 w'], _) := Lib.hid (fun w' h => ckw_q n Pw Qw L l _ _ (.slice av nv cv) w' (HNU.out.later h.b) hn.out.ok (HS1.out.later h.b) spl.1 spl.2.1 spl.2.2 (cw_sm hn.out hcw) HLM)
        rw [ckw_ok hn.out hcw] at HCK0
        unfold wcs at HSW0 HCK0
        clear hcw spl HLM HWY HFW HKB HDE HSL
        go_wp2_with (first | (refine wl_load (op := ⟨some 80, .load _ (.tmp 10), _, _, _, _⟩) (by rfl) _ rfl uWy rfl iWy _ (by rfl) #[.int .i64 Pw.road, .bool (zs Pw.off.num), .string (zx Pw.off.num), .bool false, .string (ry Pw.off.den), .int .i64 Qw.road, .bool (zs Qw.off.num), .string (zx Qw.off.num), .bool false, .string (ry Qw.off.den), .slice av nv cv, .bool (zs l.num), .string (zx l.num), .bool false, .string (ry l.den)] HR1.out ?_) | (refine wl_load (op := ⟨some 81, .load _ (.tmp 12), _, _, _, _⟩) (by rfl) _ rfl uWy rfl iWy _ (by rfl) #[.int .i64 Pw.road, .bool (zs Pw.off.num), .string (zx Pw.off.num), .bool false, .string (ry Pw.off.den), .int .i64 Qw.road, .bool (zs Qw.off.num), .string (zx Qw.off.num), .bool false, .string (ry Qw.off.den), .slice bv nb cb, .bool (zs l.num), .string (zx l.num), .bool false, .string (ry l.den)] HR2.out ?_) | fail)
        refine (jk (HSW0.out _)).mono ?_
        rintro e _ ⟨rfl, X9, rfl⟩
        go_wp2_with (first | (refine wl_load (op := ⟨some 86, .load _ (.tmp 10), _, _, _, _⟩) (by rfl) _ rfl uWy rfl iWy _ (by rfl) #[.int .i64 Pw.road, .bool (zs Pw.off.num), .string (zx Pw.off.num), .bool false, .string (ry Pw.off.den), .int .i64 Qw.road, .bool (zs Qw.off.num), .string (zx Qw.off.num), .bool false, .string (ry Qw.off.den), .slice av nv cv, .bool (zs l.num), .string (zx l.num), .bool false, .string (ry l.den)] (by simp [go_sem, HR1.out]) ?_) | fail)
        refine (jk (HCK0.out _)).mono ?_
        rintro e _ ⟨rfl, X10, rfl⟩
        go_wp2_with fail
        go_ret
        exact ⟨rfl, Bw.b⟩
end Go.Proofs.YtopfgkbpakfccaaGreatDoor
