/-
  The law of reverses, walked.
-/
import Derived.Test.YtopfgkbpakfccaaGreatDoorMirA
import Derived.Test.YtopfgkbpakfccaaGreatDoorRvoW
set_option linter.unusedSimpArgs false
set_option linter.unusedVariables false
namespace Go.Proofs.YtopfgkbpakfccaaGreatDoor
open Go Go.RowKit Go.Vi
attribute [local go_sem ↓] lo_lt lo_ne lo_ne'
attribute [local go_sem] junk_cell junk_frozen junk_setCell junk_drew drew_junk
attribute [local go_sem] rc_size rowN_alloc_at rowN_alloc rowN_junk rowN_drew rowN_drewN setRow_alloc_at setRow_alloc setRow_junk setRow_drew
def ex0 : Value → Value
  | .tuple a => a.getD 0 undef
  | _ => undef
def ex1 : Value → Value
  | .tuple a => a.getD 1 undef
  | _ => undef
def agOf : Value → Array Value
  | .agg a => a
  | _ => #[]
/-- What Between hands back on the reversed network. -/
def RvP (n : Net) (p q : Plc) (v : Value) : Prop := ∃ (P Q : Plc) (a : Option Addr) (m c : Nat) (l : Rat) (k : Int), v = .tuple #[.agg #[.int .i64 P.road, .bool (zs P.off.num), .string (zx P.off.num), .bool false, .string (ry P.off.den), .int .i64 Q.road, .bool (zs Q.off.num), .string (zx Q.off.num), .bool false, .string (ry Q.off.den), .slice a m c, .bool (zs l.num), .string (zx l.num), .bool false, .string (ry l.den)], .int .i64 k] ∧ ((k = 0 ∧ dstN n.rev p q = some l) ∨ (k = 31 ∧ dstN n.rev p q = none ∧ l = 0))
def RvQ (u v : Value) : Prop := u = ex0 v ∧ ∃ (P Q : Plc) (a : Option Addr) (m c : Nat) (l : Rat), u = .agg #[.int .i64 P.road, .bool (zs P.off.num), .string (zx P.off.num), .bool false, .string (ry P.off.den), .int .i64 Q.road, .bool (zs Q.off.num), .string (zx Q.off.num), .bool false, .string (ry Q.off.den), .slice a m c, .bool (zs l.num), .string (zx l.num), .bool false, .string (ry l.den)]
theorem exec_store_row {P : Program} {ρ : Operand → Value} {o : Oper} {w : World} {ty : TypeId} {n : Nat} {x y : Operand} (ho : o.op = .store ty x y) (hi : (P.info? ty).map (·.size) = some n) (b : Nat) (hx : ρ x = .pointer (some ⟨b, 0, none⟩)) (c : Array Value) (hy : ρ y = .agg c) (hr : (rowN n w b).isSome = true) (hc : c.size = n) (h1 : c.all (·.oneCell') = true) : (execOp ρ o).run P w = .ok .skip (setRow w b c) := by
  have := storeVar_row (P := P) hi w b c hr hc h1
  unfold execOp
  simp only [ho, hx, hy, Instr.storeAt, Instr.sureAddr, Sem.run_bind, Sem.run_pure, Result.andThen_ok, this]
theorem setRow_ext (w : World) (b : Nat) (c : Array Value) : Ext (fun g => g = b) w (setRow w b c) := by
  refine ⟨rfl, rfl, rfl, by simp [setRow], fun g hg hn => ?_⟩
  have : b ≠ g := fun e => hn e.symm
  simp [setRow, Array.getElem?_modify, this]
theorem setRow_obj {w : World} {b : Nat} {z : Array Value} {T : TypeId} {fr : Nat × Nat} (h : w.heap[b]? = some (.cells z T fr)) (c : Array Value) : (setRow w b c).heap[b]? = some (.cells c T fr) := by
  simp [setRow, Array.getElem?_modify, h]
set_option maxRecDepth 100000 in
set_option maxHeartbeats 1000000 in
theorem revLaw (P : List Spt) (Q : List Lne) (vp vq : Value) (x1 y1 x2 y2 : Int) (w : World) (hX : GrdAt w.heap.size w vp vq P Q) (hx1 : Byte x1) (hy1 : Byte y1) (hx2 : Byte x2) (hy2 : Byte y2) :
    Calls Tryz.prog 6 #[.agg #[vp, vq], .agg #[.int .u8 x1, .int .u8 y1], .agg #[.int .u8 x2, .int .u8 y2]] w fun e w' => e = .returned (.bool true) ∧ Below w.heap.size w w' := by
  have HKN := known_bw w
  have HG : Hid (∀ (w' : World) [Bw w w'], Calls Tryz.prog 15 #[.agg #[vp, vq]] w' fun e w2 => (∃ (v1 v2 : Value) (n : Net), e = .returned (.agg #[v1, v2]) ∧ Ow w'.heap.size w2 44 3 v1 (n.nodes.map Nd.cs) ∧ Ow w'.heap.size w2 90 6 v2 (n.roads.map Rd.cs) ∧ GNet n) ∧ Below w'.heap.size w' w2) := Lib.hid (fun w' _ => gnet_q w' (grd_bw hX))
  clear hX
  go_enter Tryz.func6, Tryz.ntmps6
  go_wp2_with fail
  refine (jk (HKN.out _)).mono ?_
  rintro e _ ⟨rfl, X1, rfl⟩
  go_wp2_with fail
  refine (HG.out _).mono ?_
  rintro e w2 ⟨⟨v1, v2, n, rfl, o1, o2, hn0⟩, hb2⟩
  obtain ⟨X2, rfl⟩ := below_some hb2
  have HN := Lib.hid (show NetAt _ _ v1 v2 n from ⟨o1.sl, o2.sl⟩)
  have hn := Lib.hid hn0
  obtain ⟨a1, n1, c1, rfl⟩ := o1.val
  obtain ⟨a2, n2, c2, rfl⟩ := o2.val
  clear o1 o2 hb2 hn0 HG HKN
  go_upto_region 4 with fail
  obtain ⟨W, hW⟩ : ∃ W, W = (((((w.alloc (.cells #[vp, vq] 25)).alloc (.cells #[.int .u8 x1, .int .u8 y1] 61)).alloc (.cells #[.int .u8 x2, .int .u8 y2] 61)).junk X1).junk X2).alloc (.cells #[.slice a1 n1 c1, .slice a2 n2 c2] 30) := ⟨_, rfl⟩
  have g0 : W.cell? ⟨(((((w.alloc (.cells #[vp, vq] 25)).alloc (.cells #[.int .u8 x1, .int .u8 y1] 61)).alloc (.cells #[.int .u8 x2, .int .u8 y2] 61)).junk X1).junk X2).heap.size, 0, none⟩ = some (.slice a1 n1 c1) := by rw [hW]; simp [go_sem]
  have g1 : W.cell? ⟨(((((w.alloc (.cells #[vp, vq] 25)).alloc (.cells #[.int .u8 x1, .int .u8 y1] 61)).alloc (.cells #[.int .u8 x2, .int .u8 y2] 61)).junk X1).junk X2).heap.size, 1, none⟩ = some (.slice a2 n2 c2) := by rw [hW]; simp [go_sem]
  have t0 : W.cell? ⟨w.heap.size + 1, 0, none⟩ = some (.int .u8 x1) := by rw [hW]; simp [go_sem]
  have t1 : W.cell? ⟨w.heap.size + 1, 1, none⟩ = some (.int .u8 y1) := by rw [hW]; simp [go_sem]
  have u0 : W.cell? ⟨w.heap.size + 1 + 1, 0, none⟩ = some (.int .u8 x2) := by rw [hW]; simp [go_sem]
  have u1 : W.cell? ⟨w.heap.size + 1 + 1, 1, none⟩ = some (.int .u8 y2) := by rw [hW]; simp [go_sem]
  haveI lbx : Lo (((((w.alloc (.cells #[vp, vq] 25)).alloc (.cells #[.int .u8 x1, .int .u8 y1] 61)).alloc (.cells #[.int .u8 x2, .int .u8 y2] 61)).junk X1).junk X2).heap.size W := by rw [hW]; infer_instance
  haveI lbq : Lo (w.heap.size + 1) W := by rw [hW]; infer_instance
  haveI lbs : Lo (w.heap.size + 1 + 1) W := by rw [hW]; infer_instance
  haveI bw : Bw w W := by rw [hW]; infer_instance
  have HNW : Hid (NetAt W.heap.size W (.slice a1 n1 c1) (.slice a2 n2 c2) n) := Lib.hid (by rw [hW]; exact HN.out.later Bw.b)
  rw [← hW]
  clear hW HN
  generalize (((((w.alloc (.cells #[vp, vq] 25)).alloc (.cells #[.int .u8 x1, .int .u8 y1] 61)).alloc (.cells #[.int .u8 x2, .int .u8 y2] 61)).junk X1).junk X2).heap.size = bx at *
  generalize w.heap.size + 1 + 1 = bs at *
  generalize w.heap.size + 1 = bq at *
  have HPa0 : Hid (∀ (w' : World) [Bw W w'], Calls Tryz.prog 23 #[.agg #[.slice a1 n1 c1, .slice a2 n2 c2], .agg #[.int .u8 x1, .int .u8 y1]] w' fun e w2 => e = .returned (placeN n x1 y1).v ∧ Below w'.heap.size w' w2) := Lib.hid (fun w' _ => place_q hn.out _ _ hx1 hy1 w' (later_bw HNW.out))
  have HPb0 : Hid (∀ (w' : World) [Bw W w'], Calls Tryz.prog 23 #[.agg #[.slice a1 n1 c1, .slice a2 n2 c2], .agg #[.int .u8 x2, .int .u8 y2]] w' fun e w2 => e = .returned (placeN n x2 y2).v ∧ Below w'.heap.size w' w2) := Lib.hid (fun w' _ => place_q hn.out _ _ hx2 hy2 w' (later_bw HNW.out))
  have OKA := Lib.hid (place_ok hn.out hx1 hy1)
  have OKB := Lib.hid (place_ok hn.out hx2 hy2)
  generalize placeN n x1 y1 = pa at *
  generalize placeN n x2 y2 = pb at *
  have HPa : Hid (∀ (w' : World) [Bw W w'], Calls Tryz.prog 23 #[.agg #[.slice a1 n1 c1, .slice a2 n2 c2], .agg #[.int .u8 x1, .int .u8 y1]] w' fun e w2 => e = .returned (.agg #[.int .i64 pa.road, .bool (zs pa.off.num), .string (zx pa.off.num), .bool false, .string (ry pa.off.den)]) ∧ Below w'.heap.size w' w2) := Lib.hid HPa0.out
  have HPb : Hid (∀ (w' : World) [Bw W w'], Calls Tryz.prog 23 #[.agg #[.slice a1 n1 c1, .slice a2 n2 c2], .agg #[.int .u8 x2, .int .u8 y2]] w' fun e w2 => e = .returned (.agg #[.int .i64 pb.road, .bool (zs pb.off.num), .string (zx pb.off.num), .bool false, .string (ry pb.off.den)]) ∧ Below w'.heap.size w' w2) := Lib.hid HPb0.out
  clear HPa0 HPb0 hx1 hy1 hx2 hy2
  refine wp_flow2 [(8, [6]), (9, [7])] [(8, [6]), (9, [7])] [(2, [0, 1]), (5, [3, 4]), (8, [6, 2]), (9, [7, 5])] [(0, some 22), (1, some 23), (2, some 24), (3, some 25), (4, some 26), (5, some 27), (6, some 8), (7, some 9), (8, none), (9, none)] [(7, .pointer (some ⟨bx, 0, none⟩)), (4, .pointer (some ⟨bq, 0, none⟩)), (5, .pointer (some ⟨bs, 0, none⟩))] [.val (.agg #[.slice a1 n1 c1, .slice a2 n2 c2]), .val (.agg #[.int .u8 x1, .int .u8 y1]), .val (.agg #[.int .i64 pa.road, .bool (zs pa.off.num), .string (zx pa.off.num), .bool false, .string (ry pa.off.den)]), .val (.agg #[.slice a1 n1 c1, .slice a2 n2 c2]), .val (.agg #[.int .u8 x2, .int .u8 y2]), .val (.agg #[.int .i64 pb.road, .bool (zs pb.off.num), .string (zx pb.off.num), .bool false, .string (ry pb.off.den)]), .box 50 6 (fun _ => #[.int .i64 0, .bool false, .string ⟨#[]⟩, .bool false, .string ⟨#[]⟩]), .box 50 7 (fun _ => #[.int .i64 0, .bool false, .string ⟨#[]⟩, .bool false, .string ⟨#[]⟩]), .box 50 6 (fun _ => #[.int .i64 pa.road, .bool (zs pa.off.num), .string (zx pa.off.num), .bool false, .string (ry pa.off.den)]), .box 50 7 (fun _ => #[.int .i64 pb.road, .bool (zs pb.off.num), .string (zx pb.off.num), .bool false, .string (ry pb.off.den)])] (by kernel_rfl) (by kernel_rfl) (by kernel_rfl) (by kernel_rfl) (by kernel_rfl) ⟨rfl, rfl, rfl, trivial⟩ ⟨trivial, trivial, trivial, trivial, trivial, trivial, ⟨.inl rfl, fun _ _ _ => rfl⟩, ⟨.inl rfl, fun _ _ _ => rfl⟩, ⟨.inr (by decide), fun _ _ _ => rfl⟩, ⟨.inr (by decide), fun _ _ _ => rfl⟩, trivial⟩ ?_ ?_
  · refine ⟨?_, ?_, ?_, ?_, ?_, ?_, ?_, ?_, ?_, ?_, trivial⟩
    · intro f ρ w' S hd hx hc hB hA hD
      have h7 : ρ (.tmp 7) = .pointer (some ⟨bx, 0, none⟩) := hx (7, .pointer (some ⟨bx, 0, none⟩)) (by simp)
      have n0' := (hB.cell (p := ⟨bx, 0, none⟩) lbx.lt).trans g0
      have e1' := (hB.cell (p := ⟨bx, 1, none⟩) lbx.lt).trans g1
      refine fl_val (by rfl) (by rfl) ?_
      simp [execOp, go_sem, h7, n0', e1']
    · intro f ρ w' S hd hx hc hB hA hD
      have h4 : ρ (.tmp 4) = .pointer (some ⟨bq, 0, none⟩) := hx (4, .pointer (some ⟨bq, 0, none⟩)) (by simp)
      have u0' := (hB.cell (p := ⟨bq, 0, none⟩) lbq.lt).trans t0
      have u1' := (hB.cell (p := ⟨bq, 1, none⟩) lbq.lt).trans t1
      refine fl_val (by rfl) (by rfl) ?_
      simp [execOp, go_sem, h4, u0', u1']
    · intro f ρ w' S hd hx hc hB hA hD
      have h22 : ρ (.tmp 22) = .agg #[.slice a1 n1 c1, .slice a2 n2 c2] := (hd 0 22 (by decide)).trans (hA 0 (by decide)).1
      have h23 : ρ (.tmp 23) = .agg #[.int .u8 x1, .int .u8 y1] := (hd 1 23 (by decide)).trans (hA 1 (by decide)).1
      haveI : Bw W w' := ⟨hB⟩
      exact fl_call (by rfl) (by rfl) (by simp [execOp, go_sem, h22, h23, hc.1, hc.2]) (HPa.out w')
    · intro f ρ w' S hd hx hc hB hA hD
      have h7 : ρ (.tmp 7) = .pointer (some ⟨bx, 0, none⟩) := hx (7, .pointer (some ⟨bx, 0, none⟩)) (by simp)
      have n0' := (hB.cell (p := ⟨bx, 0, none⟩) lbx.lt).trans g0
      have e1' := (hB.cell (p := ⟨bx, 1, none⟩) lbx.lt).trans g1
      refine fl_val (by rfl) (by rfl) ?_
      simp [execOp, go_sem, h7, n0', e1']
    · intro f ρ w' S hd hx hc hB hA hD
      have h5 : ρ (.tmp 5) = .pointer (some ⟨bs, 0, none⟩) := hx (5, .pointer (some ⟨bs, 0, none⟩)) (by simp)
      have u0' := (hB.cell (p := ⟨bs, 0, none⟩) lbs.lt).trans u0
      have u1' := (hB.cell (p := ⟨bs, 1, none⟩) lbs.lt).trans u1
      refine fl_val (by rfl) (by rfl) ?_
      simp [execOp, go_sem, h5, u0', u1']
    · intro f ρ w' S hd hx hc hB hA hD
      have h25 : ρ (.tmp 25) = .agg #[.slice a1 n1 c1, .slice a2 n2 c2] := (hd 3 25 (by decide)).trans (hA 3 (by decide)).1
      have h26 : ρ (.tmp 26) = .agg #[.int .u8 x2, .int .u8 y2] := (hd 4 26 (by decide)).trans (hA 4 (by decide)).1
      haveI : Bw W w' := ⟨hB⟩
      exact fl_call (by rfl) (by rfl) (by simp [execOp, go_sem, h25, h26, hc.1, hc.2]) (HPb.out w')
    · intro f ρ w' S hd hx hc hB hA hD
      refine fl_box (by rfl) (by rfl) hB.size (fun _ _ => rfl) ?_
      simp [execOp, go_sem]
    · intro f ρ w' S hd hx hc hB hA hD
      refine fl_box (by rfl) (by rfl) hB.size (fun _ _ => rfl) ?_
      simp [execOp, go_sem]
    · intro f ρ w' S hd hx hc hB hA hD
      have h24 : ρ (.tmp 24) = .agg #[.int .i64 pa.road, .bool (zs pa.off.num), .string (zx pa.off.num), .bool false, .string (ry pa.off.den)] := (hd 2 24 (by decide)).trans (hA 2 (by decide)).1
      obtain ⟨b, p1, p2, p3, p4⟩ := (hA 6 (by decide)).1
      have h8 : ρ (.tmp 8) = .pointer (some ⟨b, 0, none⟩) := (hd 6 8 (by decide)).trans p1
      have c0' := obj_cell p4 0
      have c1' := obj_cell p4 1
      have c2' := obj_cell p4 2
      have c3' := obj_cell p4 3
      have c4' := obj_cell p4 4
      have z0' := obj_free p4 0
      have z1' := obj_free p4 1
      have z2' := obj_free p4 2
      have z3' := obj_free p4 3
      have z4' := obj_free p4 4
      simp at c0' c1' c2' c3' c4'
      have hlt := obj_lt p4
      refine fl_store (w' := (((((w'.setCell ⟨b, 0, none⟩ (.int .i64 pa.road)).setCell ⟨b, 1, none⟩ (.bool (zs pa.off.num))).setCell ⟨b, 2, none⟩ (.string (zx pa.off.num))).setCell ⟨b, 3, none⟩ (.bool false)).setCell ⟨b, 4, none⟩ (.string (ry pa.off.den)))) (by rfl) (by decide) ⟨6, by decide, p2⟩ p1 p3 (obj_lt p4) (fun _ _ => rfl) ?_ ?_ ?_
      · simp [execOp, go_sem, h24, h8, c0', c1', c2', c3', c4', z0', z1', z2', z3', z4']
      · exact Ext.of_grown (row5 _ b _ _ _ _ _) (fun g hg => by injection hg with hg; exact hg.symm)
      · rw [obj_set (obj_set (obj_set (obj_set (obj_set p4))))]; simp
    · intro f ρ w' S hd hx hc hB hA hD
      have h27 : ρ (.tmp 27) = .agg #[.int .i64 pb.road, .bool (zs pb.off.num), .string (zx pb.off.num), .bool false, .string (ry pb.off.den)] := (hd 5 27 (by decide)).trans (hA 5 (by decide)).1
      obtain ⟨b, p1, p2, p3, p4⟩ := (hA 7 (by decide)).1
      have h9 : ρ (.tmp 9) = .pointer (some ⟨b, 0, none⟩) := (hd 7 9 (by decide)).trans p1
      have c0' := obj_cell p4 0
      have c1' := obj_cell p4 1
      have c2' := obj_cell p4 2
      have c3' := obj_cell p4 3
      have c4' := obj_cell p4 4
      have z0' := obj_free p4 0
      have z1' := obj_free p4 1
      have z2' := obj_free p4 2
      have z3' := obj_free p4 3
      have z4' := obj_free p4 4
      simp at c0' c1' c2' c3' c4'
      have hlt := obj_lt p4
      refine fl_store (w' := (((((w'.setCell ⟨b, 0, none⟩ (.int .i64 pb.road)).setCell ⟨b, 1, none⟩ (.bool (zs pb.off.num))).setCell ⟨b, 2, none⟩ (.string (zx pb.off.num))).setCell ⟨b, 3, none⟩ (.bool false)).setCell ⟨b, 4, none⟩ (.string (ry pb.off.den)))) (by rfl) (by decide) ⟨7, by decide, p2⟩ p1 p3 (obj_lt p4) (fun _ _ => rfl) ?_ ?_ ?_
      · simp [execOp, go_sem, h27, h9, c0', c1', c2', c3', c4', z0', z1', z2', z3', z4']
      · exact Ext.of_grown (row5 _ b _ _ _ _ _) (fun g hg => by injection hg with hg; exact hg.symm)
      · rw [obj_set (obj_set (obj_set (obj_set (obj_set p4))))]; simp
  · intro f w' S hB hS hD
    obtain ⟨ba, p1a, _, _, p4a⟩ := (hS 8 (by kernel_rfl)).1
    obtain ⟨bb, p1b, _, _, p4b⟩ := (hS 9 (by kernel_rfl)).1
    simp only [putAll, Act.put, List.setIfInBounds_toArray, List.set_cons_zero, List.set_cons_succ]
    rw [p1a, p1b]
    obtain ⟨X, rfl⟩ := below_some hB
    haveI bv : Bw W (W.junk X) := ⟨hB⟩
    haveI bwv : Bw w (W.junk X) := ⟨bw.b.trans (hB.mono bw.b.size)⟩
    have v0 := (hB.cell (p := ⟨bx, 0, none⟩) lbx.lt).trans g0
    have v1' := (hB.cell (p := ⟨bx, 1, none⟩) lbx.lt).trans g1
    haveI lbv : Lo bx (W.junk X) := ⟨Nat.lt_of_lt_of_le lbx.lt hB.size⟩
    haveI loa : Lo ba (W.junk X) := ⟨obj_lt p4a⟩
    have a0 := obj_cell p4a 0
    have a1 := obj_cell p4a 1
    have a2 := obj_cell p4a 2
    have a3 := obj_cell p4a 3
    have a4 := obj_cell p4a 4
    simp at a0 a1 a2 a3 a4
    haveI lob : Lo bb (W.junk X) := ⟨obj_lt p4b⟩
    have b0 := obj_cell p4b 0
    have b1 := obj_cell p4b 1
    have b2 := obj_cell p4b 2
    have b3 := obj_cell p4b 3
    have b4 := obj_cell p4b 4
    simp at b0 b1 b2 b3 b4
    have HNV := Lib.hid (HNW.out.later hB)
    generalize hV : W.junk X = V at *
    clear hS hB hD p4a p4b hV HNW HPa HPb t0 t1 u0 u1 g0 g1 lbx lbq lbs bv bw
    have HMA0 : Hid (∀ (w' : World) [Bw V w'], _) := Lib.hid (fun w' _ => mirror_q hn.out _ _ OKA.out w' (later_bw HNV.out))
    have HMB0 : Hid (∀ (w' : World) [Bw V w'], _) := Lib.hid (fun w' _ => mirror_q hn.out _ _ OKB.out w' (later_bw HNV.out))
    have HBT : Hid (∀ (w' : World) [Bw V w'], _) := Lib.hid (fun w' _ => btn_q hn.out _ _ OKA.out OKB.out w' (later_bw HNV.out))
    have HDM := Lib.hid (dst_mir hn.out OKA.out OKB.out)
    have OMA := Lib.hid (mir_ok hn.out OKA.out)
    have OMB := Lib.hid (mir_ok hn.out OKB.out)
    have hfew := hn.out.few
    have hmost := hn.out.most
    have HRV : Hid (∀ (w' : World) [Bw V w'], _) := Lib.hid (fun w' _ => reverse_own n _ _ w' (later_bw HNV.out) (by omega) (by omega))
    clear HNV hfew hmost
    generalize mirN n pa = ma at *
    generalize mirN n pb = mb at *
    go_wp2_with fail
    refine (jk (HMA0.out _)).mono ?_
    rintro e _ ⟨rfl, X1, rfl⟩
    go_wp2_with fail
    refine (jk (HMB0.out _)).mono ?_
    rintro e _ ⟨rfl, X2, rfl⟩
    go_wp2_with fail
    refine (HBT.out _).mono ?_
    rintro e w3 ⟨P3, Q3, s3, m3, z3, l3, k3, rfl, hk3, hb3⟩
    obtain ⟨X3, rfl⟩ := below_some hb3
    have HK3 := Lib.hid hk3
    clear hb3 hk3 HBT HMA0 HMB0 OKA OKB
    go_upto_region 8 with (first | (refine wl_store (op := ⟨none, .store _ (.tmp 14) (.tmp 45), _, _, _, _⟩) (by rfl) _ _ rfl iWy _ (by rfl) #[.int .i64 P3.road, .bool (zs P3.off.num), .string (zx P3.off.num), .bool false, .string (ry P3.off.den), .int .i64 Q3.road, .bool (zs Q3.off.num), .string (zx Q3.off.num), .bool false, .string (ry Q3.off.den), .slice s3 m3 z3, .bool (zs l3.num), .string (zx l3.num), .bool false, .string (ry l3.den)] (by rfl) (by simp [go_sem]) rfl (by simp [Value.oneCell']) ?_) | fail)
    obtain ⟨U, hU⟩ : ∃ U, U = ((((((V.junk X1).alloc (.cells #[.int .i64 ma.road, .bool (zs ma.off.num), .string (zx ma.off.num), .bool false, .string (ry ma.off.den)] 50)).junk X2).alloc (.cells #[.int .i64 mb.road, .bool (zs mb.off.num), .string (zx mb.off.num), .bool false, .string (ry mb.off.den)] 50)).junk X3).alloc (.cells #[.int .i64 P3.road, .bool (zs P3.off.num), .string (zx P3.off.num), .bool false, .string (ry P3.off.den), .int .i64 Q3.road, .bool (zs Q3.off.num), .string (zx Q3.off.num), .bool false, .string (ry Q3.off.den), .slice s3 m3 z3, .bool (zs l3.num), .string (zx l3.num), .bool false, .string (ry l3.den)] 55)) := ⟨_, rfl⟩
    rw [← hU]
    have HB1 : Hid (U.heap[(V.junk X1).heap.size]? = some (.cells #[.int .i64 ma.road, .bool (zs ma.off.num), .string (zx ma.off.num), .bool false, .string (ry ma.off.den)] 50 (0, 0))) := Lib.hid (by rw [hU]; exact obj_old (obj_junk (obj_old (obj_junk (obj_last _ _)))))
    have HB2 : Hid (U.heap[(((V.junk X1).alloc (.cells #[.int .i64 ma.road, .bool (zs ma.off.num), .string (zx ma.off.num), .bool false, .string (ry ma.off.den)] 50)).junk X2).heap.size]? = some (.cells #[.int .i64 mb.road, .bool (zs mb.off.num), .string (zx mb.off.num), .bool false, .string (ry mb.off.den)] 50 (0, 0))) := Lib.hid (by rw [hU]; exact obj_old (obj_junk (obj_last _ _)))
    have HB3 : Hid (U.heap[(((((V.junk X1).alloc (.cells #[.int .i64 ma.road, .bool (zs ma.off.num), .string (zx ma.off.num), .bool false, .string (ry ma.off.den)] 50)).junk X2).alloc (.cells #[.int .i64 mb.road, .bool (zs mb.off.num), .string (zx mb.off.num), .bool false, .string (ry mb.off.den)] 50)).junk X3).heap.size]? = some (.cells #[.int .i64 P3.road, .bool (zs P3.off.num), .string (zx P3.off.num), .bool false, .string (ry P3.off.den), .int .i64 Q3.road, .bool (zs Q3.off.num), .string (zx Q3.off.num), .bool false, .string (ry Q3.off.den), .slice s3 m3 z3, .bool (zs l3.num), .string (zx l3.num), .bool false, .string (ry l3.den)] 55 (0, 0))) := Lib.hid (by rw [hU]; exact obj_last _ _)
    haveI bvu : Bw V U := by rw [hU]; infer_instance
    haveI bwu : Bw w U := ⟨bwv.b.trans (bvu.b.mono bwv.b.size)⟩
    clear hU
    generalize (((((V.junk X1).alloc (.cells #[.int .i64 ma.road, .bool (zs ma.off.num), .string (zx ma.off.num), .bool false, .string (ry ma.off.den)] 50)).junk X2).alloc (.cells #[.int .i64 mb.road, .bool (zs mb.off.num), .string (zx mb.off.num), .bool false, .string (ry mb.off.den)] 50)).junk X3).heap.size = y3' at *
    generalize (((V.junk X1).alloc (.cells #[.int .i64 ma.road, .bool (zs ma.off.num), .string (zx ma.off.num), .bool false, .string (ry ma.off.den)] 50)).junk X2).heap.size = y2' at *
    generalize (V.junk X1).heap.size = y1' at *
    have g0 := (bvu.b.cell (p := ⟨bx, 0, none⟩) lbv.lt).trans v0
    have g1 := (bvu.b.cell (p := ⟨bx, 1, none⟩) lbv.lt).trans v1'
    haveI lbx : Lo bx U := ⟨Nat.lt_of_lt_of_le lbv.lt bvu.b.size⟩
    haveI lma : Lo y1' U := ⟨obj_lt HB1.out⟩
    have am0 := obj_cell HB1.out 0
    have am1 := obj_cell HB1.out 1
    have am2 := obj_cell HB1.out 2
    have am3 := obj_cell HB1.out 3
    have am4 := obj_cell HB1.out 4
    simp at am0 am1 am2 am3 am4
    haveI lmb : Lo y2' U := ⟨obj_lt HB2.out⟩
    have bm0 := obj_cell HB2.out 0
    have bm1 := obj_cell HB2.out 1
    have bm2 := obj_cell HB2.out 2
    have bm3 := obj_cell HB2.out 3
    have bm4 := obj_cell HB2.out 4
    simp at bm0 bm1 bm2 bm3 bm4
    haveI lwy : Lo y3' U := ⟨obj_lt HB3.out⟩
    have f311 : U.cell? ⟨y3', 11, none⟩ = some (.bool (zs l3.num)) := obj_cell HB3.out 11
    have f312 : U.cell? ⟨y3', 12, none⟩ = some (.string (zx l3.num)) := obj_cell HB3.out 12
    have f313 : U.cell? ⟨y3', 13, none⟩ = some (.bool false) := obj_cell HB3.out 13
    have f314 : U.cell? ⟨y3', 14, none⟩ = some (.string (ry l3.den)) := obj_cell HB3.out 14
    clear HB1 HB2 HB3 v0 v1' lbv a0 a1 a2 a3 a4 b0 b1 b2 b3 b4
    refine wp_flow2 [(9, [8])] [(6, [5]), (7, [5]), (9, [8, 6]), (10, [7])] [(1, [0]), (4, [1, 2, 3]), (5, [4]), (6, [5]), (7, [5]), (9, [8, 6]), (10, [7])] [(0, some 48), (1, some 49), (2, some 50), (3, some 51), (4, some 52), (5, some 47), (6, some 53), (7, some 54), (8, some 16), (9, none), (10, some 17)] [(7, .pointer (some ⟨bx, 0, none⟩)), (12, .pointer (some ⟨y2', 0, none⟩)), (10, .pointer (some ⟨y1', 0, none⟩))] [.val (.agg #[.slice a1 n1 c1, .slice a2 n2 c2]), .pair 44 3 (n.nodes.map Nd.cs) 90 6 (n.rev.roads.map Rd.cs), .val (.agg #[.int .i64 mb.road, .bool (zs mb.off.num), .string (zx mb.off.num), .bool false, .string (ry mb.off.den)]), .val (.agg #[.int .i64 ma.road, .bool (zs ma.off.num), .string (zx ma.off.num), .bool false, .string (ry ma.off.den)]), .rel (fun f => RvP n mb ma (f 4)), .rel (fun f => RvP n mb ma (f 5)), .rel (fun f => RvQ (f 6) (f 5)), .fn (fun f => ex1 (f 5)), .box 55 8 (fun _ => #[.int .i64 0, .bool false, .string ⟨#[]⟩, .bool false, .string ⟨#[]⟩, .int .i64 0, .bool false, .string ⟨#[]⟩, .bool false, .string ⟨#[]⟩, .slice none 0 0, .bool false, .string ⟨#[]⟩, .bool false, .string ⟨#[]⟩]), .box 55 8 (fun f => agOf (f 6)), .fn (fun f => f 7)] (by kernel_rfl) (by kernel_rfl) (by kernel_rfl) (by kernel_rfl) (by kernel_rfl) ⟨rfl, rfl, rfl, trivial⟩ ⟨trivial, trivial, trivial, trivial, (fun f f' h hR => by have q := h 4 (.inl rfl); show RvP n mb ma (f' 4); rw [← q]; exact hR), (fun f f' h hR => by have q := h 5 (.inl rfl); show RvP n mb ma (f' 5); rw [← q]; exact hR), (fun f f' h hR => by have q := h 5 (.inr (by decide)); have q2 := h 6 (.inl rfl); show RvQ (f' 6) (f' 5); rw [← q, ← q2]; exact hR), (fun f f' h => by have q := h 5 (.inr (by decide)); simp only [q]), ⟨.inl rfl, fun _ _ _ => rfl⟩, ⟨.inr (by decide), fun f f' h => by have q := h 6 (.inr (by decide)); simp only [q]⟩, (fun f f' h => h 7 (.inr (by decide))), trivial⟩ ?_ ?_
    · refine ⟨?_, ?_, ?_, ?_, ?_, ?_, ?_, ?_, ?_, ?_, ?_, trivial⟩
      · intro f ρ w' S hd hx hc hB hA hD
        have h7 : ρ (.tmp 7) = .pointer (some ⟨bx, 0, none⟩) := hx (7, .pointer (some ⟨bx, 0, none⟩)) (by simp)
        have n0' := (hB.cell (p := ⟨bx, 0, none⟩) lbx.lt).trans g0
        have e1' := (hB.cell (p := ⟨bx, 1, none⟩) lbx.lt).trans g1
        refine fl_val (by rfl) (by rfl) ?_
        simp [execOp, go_sem, h7, n0', e1']
      · intro f ρ w' S hd hx hc hB hA hD
        have h48 : ρ (.tmp 48) = .agg #[.slice a1 n1 c1, .slice a2 n2 c2] := (hd 0 48 (by decide)).trans (hA 0 (by decide)).1
        haveI : Bw U w' := ⟨hB⟩
        haveI : Bw V w' := ⟨bvu.b.trans (hB.mono bvu.b.size)⟩
        exact fl_call_pair (by rfl) (by rfl) hB.size (by simp [execOp, go_sem, h48, hc.1, hc.2]) (HRV.out w')
      · intro f ρ w' S hd hx hc hB hA hD
        have h12 : ρ (.tmp 12) = .pointer (some ⟨y2', 0, none⟩) := hx (12, .pointer (some ⟨y2', 0, none⟩)) (by simp)
        have q0' := (hB.cell (p := ⟨y2', 0, none⟩) lmb.lt).trans bm0
        have q1' := (hB.cell (p := ⟨y2', 1, none⟩) lmb.lt).trans bm1
        have q2' := (hB.cell (p := ⟨y2', 2, none⟩) lmb.lt).trans bm2
        have q3' := (hB.cell (p := ⟨y2', 3, none⟩) lmb.lt).trans bm3
        have q4' := (hB.cell (p := ⟨y2', 4, none⟩) lmb.lt).trans bm4
        refine fl_val (by rfl) (by rfl) ?_
        simp [execOp, go_sem, h12, q0', q1', q2', q3', q4']
      · intro f ρ w' S hd hx hc hB hA hD
        have h10 : ρ (.tmp 10) = .pointer (some ⟨y1', 0, none⟩) := hx (10, .pointer (some ⟨y1', 0, none⟩)) (by simp)
        have q0' := (hB.cell (p := ⟨y1', 0, none⟩) lma.lt).trans am0
        have q1' := (hB.cell (p := ⟨y1', 1, none⟩) lma.lt).trans am1
        have q2' := (hB.cell (p := ⟨y1', 2, none⟩) lma.lt).trans am2
        have q3' := (hB.cell (p := ⟨y1', 3, none⟩) lma.lt).trans am3
        have q4' := (hB.cell (p := ⟨y1', 4, none⟩) lma.lt).trans am4
        refine fl_val (by rfl) (by rfl) ?_
        simp [execOp, go_sem, h10, q0', q1', q2', q3', q4']
      · intro f ρ w' S hd hx hc hB hA hD
        obtain ⟨v1', v2', q1, _, _, o1, o2⟩ := (hA 1 (by decide)).1
        obtain ⟨r1, r2, r3, rfl⟩ := o1.val
        obtain ⟨r4, r5, r6, rfl⟩ := o2.val
        have h49 : ρ (.tmp 49) = .agg #[.slice r1 r2 r3, .slice r4 r5 r6] := (hd 1 49 (by decide)).trans q1
        have h50 : ρ (.tmp 50) = .agg #[.int .i64 mb.road, .bool (zs mb.off.num), .string (zx mb.off.num), .bool false, .string (ry mb.off.den)] := (hd 2 50 (by decide)).trans (hA 2 (by decide)).1
        have h51 : ρ (.tmp 51) = .agg #[.int .i64 ma.road, .bool (zs ma.off.num), .string (zx ma.off.num), .bool false, .string (ry ma.off.den)] := (hd 3 51 (by decide)).trans (hA 3 (by decide)).1
        refine fl_call_rel (p := RvP n mb ma) (by rfl) (by rfl) (by simp [execOp, go_sem, h49, h50, h51, hc.1, hc.2]) ((btn_q (gnet_rev hn.out) _ _ OMB.out OMA.out w' ⟨o1.sl, o2.sl⟩).mono ?_) (fun f' v _ e hp => by show RvP n mb ma (f' 4); rw [e]; exact hp)
        rintro e w2 ⟨P, Q, a, m, c, l, k, rfl, hk, hb⟩
        exact ⟨_, rfl, ⟨P, Q, a, m, c, l, k, rfl, hk⟩, hb⟩
      · intro f ρ w' S hd hx hc hB hA hD
        have h52 : ρ (.tmp 52) = f 4 := hd 4 52 (by decide)
        refine fl_rel (v := f 4) (by rfl) (by rfl) ?_ (fun f' _ e => by show RvP n mb ma (f' 5); rw [e]; exact (hA 4 (by decide)).1)
        simp [execOp, go_sem, h52]
      · intro f ρ w' S hd hx hc hB hA hD
        have h47 : ρ (.tmp 47) = f 5 := hd 5 47 (by decide)
        obtain ⟨P4, Q4, s4, m4, z4, l4, k4, f5, hk4⟩ := (hA 5 (by decide)).1
        rw [f5] at h47
        refine fl_rel (v := .agg #[.int .i64 P4.road, .bool (zs P4.off.num), .string (zx P4.off.num), .bool false, .string (ry P4.off.den), .int .i64 Q4.road, .bool (zs Q4.off.num), .string (zx Q4.off.num), .bool false, .string (ry Q4.off.den), .slice s4 m4 z4, .bool (zs l4.num), .string (zx l4.num), .bool false, .string (ry l4.den)]) (by rfl) (by rfl) ?_ (fun f' hf e => by show RvQ (f' 6) (f' 5); rw [e, hf 5 (by decide), f5]; exact ⟨rfl, _, _, _, _, _, _, rfl⟩)
        simp [execOp, go_sem, h47]
      · intro f ρ w' S hd hx hc hB hA hD
        refine fl_fn (by rfl) (by rfl) (fun f' hf => by rw [hf 5 (by decide)]) ?_
        have h47 : ρ (.tmp 47) = f 5 := hd 5 47 (by decide)
        obtain ⟨P4, Q4, s4, m4, z4, l4, k4, f5, hk4⟩ := (hA 5 (by decide)).1
        rw [f5] at h47 ⊢
        simp [execOp, go_sem, h47, ex1]
      · intro f ρ w' S hd hx hc hB hA hD
        refine fl_box (by rfl) (by rfl) hB.size (fun _ _ => rfl) ?_
        simp [execOp, go_sem]
      · intro f ρ w' S hd hx hc hB hA hD
        obtain ⟨b, p1, p2, p3, p4⟩ := (hA 8 (by decide)).1
        obtain ⟨_, P4, Q4, s4, m4, z4, l4, f6⟩ := (hA 6 (by decide)).1
        have h16 : ρ (.tmp 16) = .pointer (some ⟨b, 0, none⟩) := (hd 8 16 (by decide)).trans p1
        have h53 : ρ (.tmp 53) = .agg #[.int .i64 P4.road, .bool (zs P4.off.num), .string (zx P4.off.num), .bool false, .string (ry P4.off.den), .int .i64 Q4.road, .bool (zs Q4.off.num), .string (zx Q4.off.num), .bool false, .string (ry Q4.off.den), .slice s4 m4 z4, .bool (zs l4.num), .string (zx l4.num), .bool false, .string (ry l4.den)] := (hd 6 53 (by decide)).trans f6
        refine fl_store (w' := setRow w' b #[.int .i64 P4.road, .bool (zs P4.off.num), .string (zx P4.off.num), .bool false, .string (ry P4.off.den), .int .i64 Q4.road, .bool (zs Q4.off.num), .string (zx Q4.off.num), .bool false, .string (ry Q4.off.den), .slice s4 m4 z4, .bool (zs l4.num), .string (zx l4.num), .bool false, .string (ry l4.den)]) (by rfl) (by decide) ⟨8, by decide, p2⟩ p1 p3 (obj_lt p4) (fun f' hf => by rw [hf 6 (by decide)]) ?_ (setRow_ext _ _ _) ?_
        · exact exec_store_row (by rfl) iWy b h16 _ h53 (by unfold rowN; rw [p4]; rfl) rfl (by simp [Value.oneCell'])
        · rw [f6]; exact setRow_obj p4 _
      · intro f ρ w' S hd hx hc hB hA hD
        refine fl_fn (by rfl) (by rfl) (fun f' hf => hf 7 (by decide)) ?_
        have h54 : ρ (.tmp 54) = f 7 := hd 7 54 (by decide)
        simp [execOp, go_sem, h54]
    · intro f w' S hB hS hD
      obtain ⟨P4, Q4, s4, m4, z4, l4, k4, f4, hk4⟩ := (hS 5 (by kernel_rfl)).1
      have f6 : f 6 = ex0 (f 5) := (hS 6 (by kernel_rfl)).1.1
      obtain ⟨by', p1, _, _, p4⟩ := (hS 9 (by kernel_rfl)).1
      have f10 : f 10 = .int .i64 k4 := (show f 10 = f 7 from (hS 10 (by kernel_rfl)).1).trans ((show f 7 = ex1 (f 5) from (hS 7 (by kernel_rfl)).1).trans (by rw [f4]; rfl))
      have p5 : w'.heap[by']? = some (.cells #[.int .i64 P4.road, .bool (zs P4.off.num), .string (zx P4.off.num), .bool false, .string (ry P4.off.den), .int .i64 Q4.road, .bool (zs Q4.off.num), .string (zx Q4.off.num), .bool false, .string (ry Q4.off.den), .slice s4 m4 z4, .bool (zs l4.num), .string (zx l4.num), .bool false, .string (ry l4.den)] 55 (0, 0)) := by
        have h := p4
        simp only [f6, f4] at h
        exact h
      simp only [putAll, Act.put, List.setIfInBounds_toArray, List.set_cons_zero, List.set_cons_succ]
      rw [p1, f10]
      obtain ⟨X, rfl⟩ := below_some hB
      haveI bw9 : Bw w (U.junk X) := inferInstance
      haveI l16 : Lo by' (U.junk X) := ⟨obj_lt p5⟩
      haveI l14 : Lo y3' (U.junk X) := inferInstance
      have k11 : (U.junk X).cell? ⟨by', 11, none⟩ = some (.bool (zs l4.num)) := obj_cell p5 11
      have k12 : (U.junk X).cell? ⟨by', 12, none⟩ = some (.string (zx l4.num)) := obj_cell p5 12
      have k13 : (U.junk X).cell? ⟨by', 13, none⟩ = some (.bool false) := obj_cell p5 13
      have k14 : (U.junk X).cell? ⟨by', 14, none⟩ = some (.string (ry l4.den)) := obj_cell p5 14
      have hkl : k3 = k4 ∧ l3 = l4 := by
        have h := HDM.out
        rcases HK3.out with ⟨h1, h2⟩ | ⟨h1, h2, h3⟩
        · rcases hk4 with ⟨h4, h5⟩ | ⟨h4, h5, _⟩
          · rw [h5, h2] at h; injection h with h; exact ⟨by rw [h1, h4], h.symm⟩
          · rw [h5, h2] at h; cases h
        · rcases hk4 with ⟨h4, h5⟩ | ⟨h4, h5, h6⟩
          · rw [h5, h2] at h; cases h
          · exact ⟨by rw [h1, h4], by rw [h3, h6]⟩
      obtain ⟨rfl, rfl⟩ := hkl
      have q11 := (hB.cell (p := ⟨y3', 11, none⟩) lwy.lt).trans f311
      have q12 := (hB.cell (p := ⟨y3', 12, none⟩) lwy.lt).trans f312
      have q13 := (hB.cell (p := ⟨y3', 13, none⟩) lwy.lt).trans f313
      have q14 := (hB.cell (p := ⟨y3', 14, none⟩) lwy.lt).trans f314
      generalize hZ : U.junk X = Z at *
      clear hS hB hD p4 p5 hk4 f4 f6 f10 HK3 HDM hZ
      go_wp2_with fail
      all_goals
        go_ret
        exact ⟨rfl, Bw.b⟩
end Go.Proofs.YtopfgkbpakfccaaGreatDoor
