/-
 The law's place: a position of the grid.
 Between at the law's places; a call in a flow.
 Positions at nodes, plain: their distance is the nodes'.
-/
import Derived.Test.YtcelpkbmcmnogaaGreatDoorGeoM
set_option linter.unusedSimpArgs false
set_option linter.unusedVariables false
namespace Go.Proofs.YtcelpkbmcmnogaaGreatDoor
open Go Go.RowKit Go.Vi
attribute [local go_sem ↓] lo_lt lo_ne lo_ne'
attribute [local go_sem] junk_cell junk_frozen junk_setCell junk_drew drew_junk
theorem row1 (w : World) (g a : Nat) (x : Value) : w.grownBy (w.setCell ⟨g, a, none⟩ x) (some g) := by
 refine ⟨rfl, rfl, rfl, by simp [World.setCell], fun j hj hne => ?_⟩
 have : g ≠ j := fun e => hne (by rw [e])
 simp [World.setCell, Array.getElem?_modify, this]
theorem row6 (w : World) (g : Nat) (a b c d e f : Value) : w.grownBy ((((((w.setCell ⟨g, 0, none⟩ a).setCell ⟨g, 1, none⟩ b).setCell ⟨g, 2, none⟩ c).setCell ⟨g, 3, none⟩ d).setCell ⟨g, 4, none⟩ e).setCell ⟨g, 5, none⟩ f) (some g) :=
 (row3 w g 0 1 2 a b c).trans (row3 _ g 3 4 5 d e f)
theorem row5 (w : World) (g : Nat) (a b c d e : Value) : w.grownBy (((((w.setCell ⟨g, 0, none⟩ a).setCell ⟨g, 1, none⟩ b).setCell ⟨g, 2, none⟩ c).setCell ⟨g, 3, none⟩ d).setCell ⟨g, 4, none⟩ e) (some g) :=
 (row3 w g 0 1 2 a b c).trans ((row1 _ g 3 d).trans (row1 _ g 4 e))
theorem bw_set5 {w V : World} [h : Bw w V] {g : Nat} (hg : w.heap.size ≤ g) (a b c d e : Value) : Bw w (((((V.setCell ⟨g, 0, none⟩ a).setCell ⟨g, 1, none⟩ b).setCell ⟨g, 2, none⟩ c).setCell ⟨g, 3, none⟩ d).setCell ⟨g, 4, none⟩ e) := by
 haveI := bw_set3 (W := w) (X := V) hg a b c
 haveI := bw_set (W := w) (X := ((V.setCell ⟨g, 0, none⟩ a).setCell ⟨g, 1, none⟩ b).setCell ⟨g, 2, none⟩ c) (k := 3) (v := d) hg
 exact bw_set hg
/-- A place on a road of the length l. -/
def plcOff (l y : Int) : Rat := if 128 ≤ y then ((y.tmod (l + 1) : Int) : Rat) else mkRat (l * y.tmod 5) 4
def placeN (n : Net) (x y : Int) : Plc := ⟨(n.roads[(x.tmod n.roads.length).toNat]!).id, plcOff (n.roads[(x.tmod n.roads.length).toNat]!).len y⟩
theorem get_mem {α : Type} [Inhabited α] (L : List α) {k : Nat} (h : k < L.length) : L[k]! ∈ L := by
 rw [getElem!_pos L k h]; exact List.getElem_mem h
theorem plcOff_in {l y : Int} (hl : 1 ≤ l) (hl2 : l ≤ 48) (hy : Byte y) : G64 (plcOff l y) ∧ 0 ≤ plcOff l y ∧ plcOff l y ≤ (l : Rat) := by
 obtain ⟨_, _, t1, t2⟩ := tmodByte hy (m := l + 1) (by omega) (by omega)
 obtain ⟨_, _, s1, s2⟩ := tmodByte hy (m := 5) (by omega) (by omega)
 unfold plcOff
 split
 ·refine ⟨g64_int _, ?_, Rat.intCast_le_intCast.2 (by omega)⟩
  have := Rat.intCast_le_intCast.2 t1
  exact this
 ·generalize y.tmod 5 = m at *
  have e : mkRat (l * m) 4 = ((l * m : Int) : Rat) / 4 := by rw [Rat.mkRat_eq_div]; rfl
  have h1 : (0 : Rat) ≤ ((l * m : Int) : Rat) := by
   have : (0 : Int) ≤ l * m := Int.mul_nonneg (by omega) s1
   exact Rat.intCast_le_intCast.2 this
  have h2 : ((l * m : Int) : Rat) ≤ ((l * 4 : Int) : Rat) := Rat.intCast_le_intCast.2 (Int.mul_le_mul_of_nonneg_left (by omega) (by omega))
  have h3 : ((l * 4 : Int) : Rat) = (l : Rat) * 4 := by rw [Rat.intCast_mul]; rfl
  rw [h3] at h2
  rw [e]
  refine ⟨⟨l * m * 16, ?_⟩, by grind, by grind⟩
  rw [Rat.intCast_mul (l * m) 16]
  have h16 : ((16 : Int) : Rat) = 16 := rfl
  rw [h16]
  generalize ((l * m : Int) : Rat) = z at *
  grind
theorem place_ok {n : Net} (h : GNet n) {x y : Int} (hx : Byte x) (hy : Byte y) : PosOK n (placeN n x y) := by
 obtain ⟨k, hk, hk2⟩ := tmodNat (n := n.roads.length) hx (by have := h.one; omega)
 have hm := get_mem n.roads hk2
 obtain ⟨l1, l2⟩ := h.len _ hm
 obtain ⟨p1, p2, p3⟩ := plcOff_in l1 l2 hy
 have e : placeN n x y = ⟨(n.roads[k]!).id, plcOff (n.roads[k]!).len y⟩ := by unfold placeN; rw [hk]; rfl
 rw [e]
 generalize n.roads[k]! = r at *
 refine ⟨?_, p1⟩
 unfold chkP
 simp only
 rw [roadOf_mem h.ok.roads hm]
 simp only
 rw [if_neg (fun hh => by rw [num_lt] at hh; grind), if_neg (by grind)]
set_option maxRecDepth 100000 in
set_option maxHeartbeats 1000000 in
theorem place_q {n : Net} (h : GNet n) (v1 v2 : Value) {x y : Int} (hx : Byte x) (hy : Byte y) (w : World) (hN : NetAt w.heap.size w v1 v2 n) :
  Calls Tryz.prog 7 #[.agg #[v1, v2], .agg #[.int .u8 x, .int .u8 y]] w fun e w' => e = .returned (placeN n x y).v ∧ Below w.heap.size w w' := by
 obtain ⟨a1, n1, c1, rfl, _⟩ := hN.1.open
 obtain ⟨a2, n2, c2, rfl, hn2, _⟩ := hN.2.open
 rw [List.length_map] at hn2
 obtain ⟨k, hk, hk2⟩ := tmodNat (n := n2) hx (by have := h.one; omega)
 have hkl : k < n.roads.length := by rw [hn2]; exact hk2
 have hm := get_mem n.roads hkl
 obtain ⟨l1, l2⟩ := h.len _ hm
 have e : placeN n x y = ⟨(n.roads[k]!).id, plcOff (n.roads[k]!).len y⟩ := by unfold placeN; rw [hn2, hk]; rfl
 rw [e]
 obtain ⟨b0, off, rfl, hb0, dn⟩ := rd_cells hN.2 k hkl
 obtain ⟨d0, d1, d2, d3, d4, d5⟩ := dn k hkl
 have hn13 : n2 ≤ 13 := by have := h.most; omega
 clear dn hm e hkl hn2 hN h
 generalize n.roads[k]! = r at *
 have hwx : IntKind.i64.wrap x = x := IntWalk.i64_in _ (by unfold Byte at hx; omega)
 have hwy : IntKind.i64.wrap y = y := IntWalk.i64_in _ (by unfold Byte at hy; omega)
 have hwk : IntKind.i64.wrap (k : Int) = (k : Int) := IntWalk.i64_in _ (by omega)
 have hz : ¬n2 = 0 := by omega
 obtain ⟨s5, s6, s7, s8⟩ := tmodByte hy (m := 5) (by omega) (by omega)
 have hadd : IntKind.i64.wrap (r.len + 1) = r.len + 1 := IntWalk.i64_in _ (by omega)
 obtain ⟨_, t6, t7, t8⟩ := tmodByte hy (m := r.len + 1) (by omega) (by omega)
 have HOFF : Hid (plcOff r.len y = if 128 ≤ y then ((y.tmod (r.len + 1) : Int) : Rat) else mkRat (r.len * y.tmod 5) 4) := Lib.hid rfl
 obtain ⟨m5, hm5⟩ : ∃ m, y.tmod 5 = m := ⟨_, rfl⟩
 have hm5' : y % 5 = m5 := by rw [← hm5, Int.tmod_eq_emod_of_nonneg hy.1]
 obtain ⟨mo, hmo⟩ : ∃ m, y.tmod (r.len + 1) = m := ⟨_, rfl⟩
 have hmo' : y % (r.len + 1) = mo := by rw [← hmo, Int.tmod_eq_emod_of_nonneg hy.1]
 have hnz : ¬ r.len + 1 = 0 := by omega
 rw [hm5] at s5 s6 s7 s8
 rw [hmo] at t6 t7 t8
 rw [hm5, hmo] at HOFF
 have hmul : (r.len * m5).natAbs < 9223372036854775808 ∧ IntKind.i64.wrap (r.len * m5) = r.len * m5 := by
  have a1 : 0 ≤ r.len * m5 := Int.mul_nonneg (by omega) s7
  have a2 : r.len * m5 ≤ r.len * 4 := Int.mul_le_mul_of_nonneg_left (by omega) (by omega)
  exact ⟨by omega, IntWalk.i64_in _ (by omega)⟩
 obtain ⟨hmu, hmw⟩ := hmul
 have HFS0 : Hid (∀ w' : World, Calls Tryz.prog 26 #[.int .i64 (r.len * m5), .int .i64 4] w' fun e w2 => e = .returned (.tuple #[rV (mkRat (r.len * m5) 4), .int .i64 0]) ∧ Below w'.heap.size w' w2) := Lib.hid (fun w' => fromInts_q _ 4 w' hmu (by decide) (by decide))
 have HFI0 : Hid (∀ w' : World, Calls Tryz.prog 27 #[.int .i64 mo] w' fun e w2 => e = .returned (rV (mo : Rat)) ∧ Below w'.heap.size w' w2) := Lib.hid (fun w' => fromInt_q _ w' (by omega))
 generalize mkRat (r.len * m5) 4 = q at *
 generalize (mo : Rat) = o at *
 have HFS : Hid (∀ w' : World, Calls Tryz.prog 26 #[.int .i64 (r.len * m5), .int .i64 4] w' fun e w2 => e = .returned (.tuple #[.agg #[.bool (zs q.num), .string (zx q.num), .bool false, .string (ry q.den)], .int .i64 0]) ∧ Below w'.heap.size w' w2) := Lib.hid HFS0.out
 have HFI : Hid (∀ w' : World, Calls Tryz.prog 27 #[.int .i64 mo] w' fun e w2 => e = .returned (.agg #[.bool (zs o.num), .string (zx o.num), .bool false, .string (ry o.den)]) ∧ Below w'.heap.size w' w2) := Lib.hid HFI0.out
 clear HFS0 HFI0 hmu
 generalize plcOff r.len y = zo at *
 go_enter Tryz.func7, Tryz.ntmps7
 go_upto_region 1 with fail
 obtain ⟨W, hW⟩ : ∃ W, W = ((w.alloc (.cells #[.slice a1 n1 c1, .slice (some ⟨b0, off, none⟩) n2 c2] 36)).alloc (.cells #[.int .u8 x, .int .u8 y] 27)).alloc (.cells #[.int .i64 0, .bool false, .string ⟨#[]⟩, .bool false, .string ⟨#[]⟩] 43) := ⟨_, rfl⟩
 have g1 : W.cell? ⟨w.heap.size, 1, none⟩ = some (.slice (some ⟨b0, off, none⟩) n2 c2) := by rw [hW]; simp [go_sem]
 have g2 : W.cell? ⟨w.heap.size + 1, 0, none⟩ = some (.int .u8 x) := by rw [hW]; simp [go_sem]
 have g3 : W.cell? ⟨w.heap.size + 1, 1, none⟩ = some (.int .u8 y) := by rw [hW]; simp [go_sem]
 haveI ln : Lo w.heap.size W := by rw [hW]; infer_instance
 haveI lw : Lo (w.heap.size + 1) W := by rw [hW]; infer_instance
 have hsz : W.heap.size = w.heap.size + 3 := by rw [hW]; simp
 have HT : Hid (W.heap[w.heap.size + 1 + 1]? = some (.cells #[.int .i64 0, .bool false, .string ⟨#[]⟩, .bool false, .string ⟨#[]⟩] 43 (0, 0))) := Lib.hid (by rw [hW]; exact obj_at' (by simp))
 have bw : Below w.heap.size w W := by rw [hW]; exact Bw.b
 have bw0 := bw
 replace d0 := (bw.cell (p := ⟨b0, _, none⟩) hb0).trans d0
 replace d1 := (bw.cell (p := ⟨b0, _, none⟩) hb0).trans d1
 replace d2 := (bw.cell (p := ⟨b0, _, none⟩) hb0).trans d2
 replace d3 := (bw.cell (p := ⟨b0, _, none⟩) hb0).trans d3
 replace d4 := (bw.cell (p := ⟨b0, _, none⟩) hb0).trans d4
 replace d5 := (bw.cell (p := ⟨b0, _, none⟩) hb0).trans d5
 replace hb0 : b0 < W.heap.size := by omega
 rw [← hW]
 clear hW
 generalize hwb : w.heap.size = bn at *
 refine wp_flow2 [(12, [11])] [(12, [11])] [(1, [0]), (3, [2]), (4, [3]), (6, [5]), (7, [6]), (8, [4, 7]), (9, [1, 8]), (10, [9]), (12, [11, 10])] [(0, some 8), (1, some 9), (2, some 10), (3, some 11), (4, some 12), (5, some 13), (6, some 14), (7, some 15), (8, some 16), (9, some 17), (10, some 18), (11, some 5), (12, none)] [(2, .pointer (some ⟨bn, 0, none⟩)), (3, .pointer (some ⟨bn + 1, 0, none⟩))] [.val (.pointer (some ⟨bn, 1, none⟩)), .val (.slice (some ⟨b0, off, none⟩) n2 c2), .val (.pointer (some ⟨bn + 1, 0, none⟩)), .val (.int .u8 x), .val (.int .i64 x), .val (.pointer (some ⟨bn, 1, none⟩)), .val (.slice (some ⟨b0, off, none⟩) n2 c2), .val (.int .i64 n2), .val (.int .i64 k), .val (.pointer (some ⟨b0, off + k * 6, none⟩)), .val (.agg #[.int .i64 r.id, .int .i64 r.src, .int .i64 r.dst, .int .i64 r.len, .int .i64 r.lim, .bool r.one]), .box 53 11 (fun _ => #[.int .i64 0, .int .i64 0, .int .i64 0, .int .i64 0, .int .i64 0, .bool false]), .box 53 11 (fun _ => #[.int .i64 r.id, .int .i64 r.src, .int .i64 r.dst, .int .i64 r.len, .int .i64 r.lim, .bool r.one])] (by kernel_rfl) (by kernel_rfl) (by kernel_rfl) (by kernel_rfl) (by kernel_rfl) ⟨rfl, rfl, trivial⟩ ⟨trivial, trivial, trivial, trivial, trivial, trivial, trivial, trivial, trivial, trivial, trivial, ⟨.inl rfl, fun _ _ _ => rfl⟩, ⟨.inr (by decide), fun _ _ _ => rfl⟩, trivial⟩ ?_ ?_
 ·refine ⟨?_, ?_, ?_, ?_, ?_, ?_, ?_, ?_, ?_, ?_, ?_, ?_, ?_, trivial⟩
  ·intro f ρ w' S hd hx hc hB hA hD
   have h2 : ρ (.tmp 2) = .pointer (some ⟨bn, 0, none⟩) := hx (2, .pointer (some ⟨bn, 0, none⟩)) (by simp)
   refine fl_val (by rfl) (by rfl) ?_
   simp [execOp, go_sem, h2]
  ·intro f ρ w' S hd hx hc hB hA hD
   have h8 : ρ (.tmp 8) = .pointer (some ⟨bn, 1, none⟩) := (hd 0 8 (by decide)).trans (hA 0 (by decide)).1
   have n1' := (hB.cell (p := ⟨bn, 1, none⟩) ln.lt).trans g1
   refine fl_val (by rfl) (by rfl) ?_
   simp [execOp, go_sem, h8, n1']
  ·intro f ρ w' S hd hx hc hB hA hD
   have h3 : ρ (.tmp 3) = .pointer (some ⟨bn + 1, 0, none⟩) := hx (3, .pointer (some ⟨bn + 1, 0, none⟩)) (by simp)
   refine fl_val (by rfl) (by rfl) ?_
   simp [execOp, go_sem, h3]
  ·intro f ρ w' S hd hx hc hB hA hD
   have h10 : ρ (.tmp 10) = .pointer (some ⟨bn + 1, 0, none⟩) := (hd 2 10 (by decide)).trans (hA 2 (by decide)).1
   have w0' := (hB.cell (p := ⟨bn + 1, 0, none⟩) lw.lt).trans g2
   refine fl_val (by rfl) (by rfl) ?_
   simp [execOp, go_sem, h10, w0']
  ·intro f ρ w' S hd hx hc hB hA hD
   have h11 : ρ (.tmp 11) = .int .u8 x := (hd 3 11 (by decide)).trans (hA 3 (by decide)).1
   refine fl_val (by rfl) (by rfl) ?_
   simp [execOp, go_sem, h11, hwx]
  ·intro f ρ w' S hd hx hc hB hA hD
   have h2 : ρ (.tmp 2) = .pointer (some ⟨bn, 0, none⟩) := hx (2, .pointer (some ⟨bn, 0, none⟩)) (by simp)
   refine fl_val (by rfl) (by rfl) ?_
   simp [execOp, go_sem, h2]
  ·intro f ρ w' S hd hx hc hB hA hD
   have h13 : ρ (.tmp 13) = .pointer (some ⟨bn, 1, none⟩) := (hd 5 13 (by decide)).trans (hA 5 (by decide)).1
   have n1' := (hB.cell (p := ⟨bn, 1, none⟩) ln.lt).trans g1
   refine fl_val (by rfl) (by rfl) ?_
   simp [execOp, go_sem, h13, n1']
  ·intro f ρ w' S hd hx hc hB hA hD
   have h14 : ρ (.tmp 14) = .slice (some ⟨b0, off, none⟩) n2 c2 := (hd 6 14 (by decide)).trans (hA 6 (by decide)).1
   refine fl_val (by rfl) (by rfl) ?_
   simp [execOp, go_sem, h14]
  ·intro f ρ w' S hd hx hc hB hA hD
   have h12 : ρ (.tmp 12) = .int .i64 x := (hd 4 12 (by decide)).trans (hA 4 (by decide)).1
   have h15 : ρ (.tmp 15) = .int .i64 n2 := (hd 7 15 (by decide)).trans (hA 7 (by decide)).1
   refine fl_val (by rfl) (by rfl) ?_
   simp [execOp, go_sem, h12, h15, hk, hz, hwk]
  ·intro f ρ w' S hd hx hc hB hA hD
   have h9 : ρ (.tmp 9) = .slice (some ⟨b0, off, none⟩) n2 c2 := (hd 1 9 (by decide)).trans (hA 1 (by decide)).1
   have h16 : ρ (.tmp 16) = .int .i64 k := (hd 8 16 (by decide)).trans (hA 8 (by decide)).1
   refine fl_val (by rfl) (by rfl) ?_
   simp [execOp, go_sem, h9, h16, hk2]
  ·intro f ρ w' S hd hx hc hB hA hD
   have h17 : ρ (.tmp 17) = .pointer (some ⟨b0, off + k * 6, none⟩) := (hd 9 17 (by decide)).trans (hA 9 (by decide)).1
   have e0' := (hB.cell (p := ⟨b0, off + k * 6, none⟩) hb0).trans d0
   have e1' := (hB.cell (p := ⟨b0, off + k * 6 + 1, none⟩) hb0).trans d1
   have e2' := (hB.cell (p := ⟨b0, off + k * 6 + 2, none⟩) hb0).trans d2
   have e3' := (hB.cell (p := ⟨b0, off + k * 6 + 3, none⟩) hb0).trans d3
   have e4' := (hB.cell (p := ⟨b0, off + k * 6 + 4, none⟩) hb0).trans d4
   have e5' := (hB.cell (p := ⟨b0, off + k * 6 + 5, none⟩) hb0).trans d5
   refine fl_val (by rfl) (by rfl) ?_
   simp [execOp, go_sem, h17, e0', e1', e2', e3', e4', e5']
  ·intro f ρ w' S hd hx hc hB hA hD
   refine fl_box (by rfl) (by rfl) hB.size (fun _ _ => rfl) ?_
   simp [execOp, go_sem]
  ·intro f ρ w' S hd hx hc hB hA hD
   have h18 : ρ (.tmp 18) = .agg #[.int .i64 r.id, .int .i64 r.src, .int .i64 r.dst, .int .i64 r.len, .int .i64 r.lim, .bool r.one] := (hd 10 18 (by decide)).trans (hA 10 (by decide)).1
   obtain ⟨b, p1, p2, p3, p4⟩ := (hA 11 (by decide)).1
   have h5 : ρ (.tmp 5) = .pointer (some ⟨b, 0, none⟩) := (hd 11 5 (by decide)).trans p1
   have c0' := obj_cell p4 0
   have c1' := obj_cell p4 1
   have c2' := obj_cell p4 2
   have c3' := obj_cell p4 3
   have c4' := obj_cell p4 4
   have c5' := obj_cell p4 5
   have z0' := obj_free p4 0
   have z1' := obj_free p4 1
   have z2' := obj_free p4 2
   have z3' := obj_free p4 3
   have z4' := obj_free p4 4
   have z5' := obj_free p4 5
   simp at c0' c1' c2' c3' c4' c5'
   have hlt := obj_lt p4
   refine fl_store (w' := ((((((w'.setCell ⟨b, 0, none⟩ (.int .i64 r.id)).setCell ⟨b, 1, none⟩ (.int .i64 r.src)).setCell ⟨b, 2, none⟩ (.int .i64 r.dst)).setCell ⟨b, 3, none⟩ (.int .i64 r.len)).setCell ⟨b, 4, none⟩ (.int .i64 r.lim)).setCell ⟨b, 5, none⟩ (.bool r.one))) (by rfl) (by decide) ⟨11, by decide, p2⟩ p1 p3 (obj_lt p4) (fun _ _ => rfl) ?_ ?_ ?_
   ·simp [execOp, go_sem, h18, h5, c0', c1', c2', c3', c4', c5', z0', z1', z2', z3', z4', z5']
   ·exact Ext.of_grown (row6 _ b _ _ _ _ _ _) (fun g hg => by injection hg with hg; exact hg.symm)
   ·rw [obj_set (obj_set (obj_set (obj_set (obj_set (obj_set p4)))))]; simp
 ·intro f w' S hB hS hD
  obtain ⟨b, p1, p2, p3, p4⟩ := (hS 12 (by kernel_rfl)).1
  simp only [putAll, Act.put, List.setIfInBounds_toArray, List.set_cons_zero, List.set_cons_succ]
  rw [p1]
  obtain ⟨X, rfl⟩ := below_some hB
  have q0 := obj_cell p4 0
  have q3 := obj_cell p4 3
  haveI lb : Lo b (W.junk X) := ⟨obj_lt p4⟩
  simp at q0 q3
  have y1 := (hB.cell (p := ⟨bn + 1, 1, none⟩) lw.lt).trans g3
  have hb12 : bn + 1 + 1 < b := by omega
  have hbn : ¬ b = bn + 1 + 1 := by omega
  have hbn2 : ¬ bn + 1 + 1 = b := by omega
  have HU := Lib.hid (keepObj hB HT.out)
  have HP4 := Lib.hid p4
  have HBV := Lib.hid (bw0.trans (hB.mono (by omega)))
  have q1' := (hB.cell (p := ⟨bn + 1, 1, none⟩) lw.lt).trans g3
  haveI lw2 : Lo (bn + 1) (W.junk X) := ⟨Nat.lt_of_lt_of_le lw.lt hB.size⟩
  haveI lt2 : Lo (bn + 1 + 1) (W.junk X) := ⟨obj_lt HU.out⟩
  have u0 := obj_cell HU.out 0
  have u1 := obj_cell HU.out 1
  have u2 := obj_cell HU.out 2
  have u3 := obj_cell HU.out 3
  have u4 := obj_cell HU.out 4
  have x0 := obj_free HU.out 0
  have x1 := obj_free HU.out 1
  have x2 := obj_free HU.out 2
  have x3 := obj_free HU.out 3
  have x4 := obj_free HU.out 4
  simp at u0 u1 u2 u3 u4
  have hmt : bn ≤ bn + 1 + 1 := by omega
  generalize hV : W.junk X = V at *
  clear hS hB hD p2 p4 hV HT HU p3 d0 d1 d2 d3 d4 d5 g1 g2 g3 hb0 ln lw bw bw0 hsz y1
  generalize bn + 1 + 1 = bt at *
  generalize bn + 1 = bq at *
  go_wp2_with fail
  refine (jk (HFS.out _)).mono ?_
  rintro e _ ⟨rfl, X3, rfl⟩
  by_cases h8 : 128 ≤ y
  ·have e8 := HOFF.out
   rw [if_pos h8] at e8
   subst e8
   clear HOFF
   go_wp2_with fail
   refine (jk (HFI.out _)).mono ?_
   rintro e _ ⟨rfl, X4, rfl⟩
   go_wp2_with fail
   haveI : Bw w V := ⟨by rw [hwb]; exact HBV.out⟩
   haveI := bw_set5 (w := w) (V := V) (g := bt) (by omega) (.int .i64 r.id) (.bool (zs zo.num)) (.string (zx zo.num)) (.bool false) (.string (ry zo.den))
   exact bodyPost_ret (v := (⟨r.id, zo⟩ : Plc).v) (by have hl := lt2.lt; simp [results, Tryz.results7, go_sem, u0, u1, u2, u3, u4, x0, x1, x2, x3, x4, hl, Plc.v]) rfl ⟨rfl, Bw.b⟩
  ·have e8 := HOFF.out
   rw [if_neg h8] at e8
   subst e8
   clear HOFF
   go_wp2_with fail
   haveI : Bw w V := ⟨by rw [hwb]; exact HBV.out⟩
   haveI := bw_set5 (w := w) (V := V) (g := bt) (by omega) (.int .i64 r.id) (.bool (zs zo.num)) (.string (zx zo.num)) (.bool false) (.string (ry zo.den))
   exact bodyPost_ret (v := (⟨r.id, zo⟩ : Plc).v) (by have hl := lt2.lt; simp [results, Tryz.results7, go_sem, u0, u1, u2, u3, u4, x0, x1, x2, x3, x4, hl, Plc.v]) rfl ⟨rfl, Bw.b⟩
end Go.Proofs.YtcelpkbmcmnogaaGreatDoor
namespace Go.Vi
open Go Go.RowKit
section
variable {P : Program} {o : Oper} {ρ : Operand → Value} {B i : Nat} {ks : List FK} {us : List (Nat × List Nat)} {f : Nat → Value} {w w' : World} {S : Nat → Nat → Prop} {v : Value}
/-- A call that keeps old memory. -/
theorem fl_rel {R : (Nat → Value) → Prop} (hk : ks[i]? = some (.rel R)) (hd : o.dst.isSome = true) (h : (execOp ρ o).run P w = .ok (.value v) w) (hR : ∀ f', (∀ k, k ≠ i → f' k = f k) → f' i = v → R f') : FlowStep P ρ o w (FlowK B ks us i o f w S) :=
 FlowStep.val h ⟨Ext.refl _ _, fun _ => False, fun _ h => h.elim, fun f' hf hv => by unfold fkΦ; rw [hk]; exact hR f' hf (hv hd)⟩
theorem fl_call {fn : FuncId} {args : Array Value} (hk : ks[i]? = some (.val v)) (hd : o.dst.isSome = true) (h : (execOp ρ o).run P w = .ok (.enter fn args) w) (hC : Calls P fn args w fun e w' => e = .returned v ∧ Below w.heap.size w w') : FlowStep P ρ o w (FlowK B ks us i o f w S) :=
 FlowStep.call h hC (fun e w'' ⟨he, hb⟩ => ⟨v, he, Ext.of_below hb, fun _ => False, fun _ h => h.elim, fun f' _ hv => by unfold fkΦ; rw [hk]; exact hv hd⟩)
end
end Go.Vi
namespace Go.Proofs.YtcelpkbmcmnogaaGreatDoor
open Go Go.RowKit Go.Vi
theorem mv_in {n : Net} (h : GNet n) {p q : Plc} (hp : PosOK n p) (hq : PosOK n q) {d : Rat} (hm : Mv n p q d) : G64 d ∧ 0 ≤ d ∧ d ≤ 48 := by
 obtain ⟨r, hr, a, b, ha, hb, _, rfl⟩ := hm
 obtain ⟨a1, a2, a3⟩ := offs_in h hp hr ha
 obtain ⟨b1, b2, b3⟩ := offs_in h hq hr hb
 refine ⟨g64_abs (g64_sub b1 a1), absR_nonneg _, ?_⟩
 rw [absR_eq]
 split <;> grind
theorem dst_in {n : Net} (h : GNet n) {p q : Plc} (hp : PosOK n p) (hq : PosOK n q) {d : Rat} (hd : dstN n p q = some d) : G64 d ∧ 0 ≤ d ∧ d ≤ 480 := by
 cases hs : sameN n p q with
 | true =>
  have he : d = 0 := by
   unfold dstN at hd
   rw [dst_same hp hq hs] at hd
   simp at hd
   exact hd.symm
  subst he
  exact ⟨g64_zero, by grind, by grind⟩
 | false =>
  obtain ⟨_, b1, _⟩ := bw_spec hp hq hs
  rcases (b1 d hd).1 with hm | ⟨e, he, f, hf, R, l, hr, rfl⟩
  ·obtain ⟨m1, m2, m3⟩ := mv_in h hp hq hm
   exact ⟨m1, m2, by grind⟩
  ·obtain ⟨e1, e2, e3⟩ := ends_in h hp _ _ he
   obtain ⟨f1, f2, f3⟩ := ends_in h hq _ _ hf
   obtain ⟨l1, l2, _⟩ := rt_in h hr
   have k1 : (0 : Rat) ≤ (l : Rat) := Rat.intCast_le_intCast.2 l1
   have k2 : (l : Rat) ≤ ((384 : Int) : Rat) := Rat.intCast_le_intCast.2 l2
   have k3 : ((384 : Int) : Rat) = 384 := rfl
   exact ⟨g64_add (g64_add e1 f1) (g64_int _), by grind, by grind⟩
theorem dst_err {n : Net} {p q : Plc} (hp : PosOK n p) (hq : PosOK n q) : ((betweenN n (rtN n) p q).2 = 0 ∧ dstN n p q = some (betweenN n (rtN n) p q).1.len) ∨ ((betweenN n (rtN n) p q).2 = 31 ∧ dstN n p q = none) := by
 have h : (betweenN n (rtN n) p q).2 = 0 ∨ (betweenN n (rtN n) p q).2 = 31 := by
  cases hs : sameN n p q with
  | true => rw [dst_same hp hq hs]; exact .inl rfl
  | false =>
   rcases (bw_spec hp hq hs).1 with h | h
   ·exact .inl h
   ·rw [h]; exact .inr rfl
 unfold dstN
 rcases h with h | h
 ·rw [h, if_pos rfl]; exact .inl ⟨rfl, rfl⟩
 ·rw [h, if_neg (by decide)]; exact .inr ⟨rfl, rfl⟩
end Go.Proofs.YtcelpkbmcmnogaaGreatDoor
namespace Go.Proofs.YtcelpkbmcmnogaaGreatDoor
open Go Go.RowKit Go.Vi
end Go.Proofs.YtcelpkbmcmnogaaGreatDoor
