/-
  The law of positions on a way, walked.
-/
import Derived.Test.YtopfgkbpakfccaaGreatDoorCwB
import Derived.Test.YtopfgkbpakfccaaGreatDoorAlgW
set_option linter.unusedSimpArgs false
set_option linter.unusedVariables false
namespace Go.Proofs.YtopfgkbpakfccaaGreatDoor
open Go Go.RowKit Go.Vi
attribute [local go_sem ↓] lo_lt lo_ne lo_ne'
attribute [local go_sem] junk_cell junk_frozen junk_setCell junk_drew drew_junk
attribute [local go_sem] rc_size rowN_alloc_at rowN_alloc rowN_junk rowN_drew rowN_drewN setRow_alloc_at setRow_alloc setRow_junk setRow_drew
attribute [local go_sem high] eqR_run eqG_run eqP_run
theorem exec_load_row {P : Program} {ρ : Operand → Value} {o : Oper} {w : World} {ty : TypeId} {d : TypeDesc} {n : Nat} {x : Operand} (ho : o.op = .load ty x) (hu : P.underlying ty = some d) (hd : d.isRow = true) (hi : (P.info? ty).map (·.size) = some n) (b : Nat) (hx : ρ x = .pointer (some ⟨b, 0, none⟩)) {c : Array Value} (h : rowN n w b = some c) : (execOp ρ o).run P w = .ok (.value (.agg c)) w := by
  have := loadVar_is (P := P) hu hd hi h
  unfold execOp
  simp only [ho, hx, Instr.loadAt, Instr.sureAddr, Sem.run_bind, Sem.run_pure, Result.andThen_ok, this]
theorem own_later {B : Nat} {w w' : World} {e k : Nat} {v : Value} {R : List (List Value)} (h : Ow B w e k v R) (hB : B ≤ w.heap.size) (hb : Below w.heap.size w w') : Sl w'.heap.size w' k v R := ((h.mono (Nat.zero_le _)).keep hb).sl
theorem sm_pos {n : Net} (h : GNet n) {p : Plc} (hp : PosOK n p) : Sm p.off := by
  obtain ⟨r, _, hm, _, h1, h2⟩ := hp.rd
  have := len_le h hm
  exact sm_g64 hp.g (by grind) (by grind)
theorem pos_in {n : Net} (h : GNet n) {p : Plc} (hp : PosOK n p) : G64 p.off ∧ 0 ≤ p.off ∧ p.off ≤ 48 := by
  obtain ⟨r, _, hm, _, h1, h2⟩ := hp.rd
  have := len_le h hm
  exact ⟨hp.g, h1, by grind⟩
theorem cw_in {n : Net} (h : GNet n) {p q : Plc} {L : List Lg} {s : Rat} (hc : Cw n p L q s) : ∀ x ∈ L, LgIn x := by
  induction hc with
  | nil => intro x hx; cases hx
  | cons h1 h2 h3 _ ih =>
    intro x hx
    rcases List.mem_cons.1 hx with rfl | hx
    · obtain ⟨a1, a2, a3⟩ := pos_in h h2.fa
      obtain ⟨b1, b2, b3⟩ := pos_in h h2.fb
      exact ⟨a1, b1, a2, a3, b2, b3⟩
    · exact ih x hx
theorem cw_few {n : Net} {p q : Plc} {L : List Lg} {s : Rat} (hc : Cw n p L q s) : ((L.length : Int) : Rat) ≤ s * 64 := by
  induction hc with
  | nil => have : (((([] : List Lg).length : Nat) : Int) : Rat) = 0 := rfl; rw [this]; grind
  | @cons p q x L s h1 h2 h3 _ ih =>
    obtain ⟨k, hk⟩ := g64_abs (g64_sub h2.fb.g h2.fa.g)
    have hp : 0 < absR (x.b - x.a) := by
      have : x.b - x.a ≠ 0 := fun e => h3 (by grind)
      rw [absR_eq]; split <;> grind
    have hk0 : (0 : Rat) < (k : Rat) := by rw [← hk]; grind
    have hk1 : (0 : Int) < k := Rat.intCast_lt_intCast.1 hk0
    have hk2 : ((1 : Int) : Rat) ≤ (k : Rat) := Rat.intCast_le_intCast.2 (by omega)
    have e : (((x :: L).length : Int) : Rat) = ((L.length : Int) : Rat) + ((1 : Int) : Rat) := by rw [List.length_cons, Int.natCast_succ, Rat.intCast_add]
    rw [e]
    have : (absR (x.b - x.a) + s) * 64 = absR (x.b - x.a) * 64 + s * 64 := by grind
    rw [this, hk]
    grind
theorem cw_most {n : Net} {p q : Plc} {L : List Lg} {s : Rat} (hc : Cw n p L q s) (hs : s ≤ 480) : L.length ≤ 1000000 := by
  have h := cw_few hc
  have h2 : ((L.length : Int) : Rat) ≤ ((30720 : Int) : Rat) := by have : ((30720 : Int) : Rat) = 30720 := rfl; rw [this]; grind
  have := Rat.intCast_le_intCast.1 h2
  omega
set_option maxRecDepth 100000 in
set_option maxHeartbeats 2000000 in
theorem aloLaw (P : List Spt) (Q : List Lne) (vp vq : Value) (xa ya xb yb pt : Int) (w : World) (hX : GrdAt w.heap.size w vp vq P Q) (hxa : Byte xa) (hya : Byte ya) (hxb : Byte xb) (hyb : Byte yb) (hpt : Byte pt) :
    Calls Tryz.prog 10 #[.agg #[vp, vq], .agg #[.int .u8 xa, .int .u8 ya, .int .u8 xb, .int .u8 yb], .int .u8 pt] w fun e w' => e = .returned (.bool true) ∧ Below w.heap.size w w' := by
  have HKN := known_bw w
  have HG : Hid (∀ (w' : World) [Bw w w'], Calls Tryz.prog 15 #[.agg #[vp, vq]] w' fun e w2 => (∃ (v1 v2 : Value) (n : Net), e = .returned (.agg #[v1, v2]) ∧ Ow w'.heap.size w2 44 3 v1 (n.nodes.map Nd.cs) ∧ Ow w'.heap.size w2 90 6 v2 (n.roads.map Rd.cs) ∧ GNet n) ∧ Below w'.heap.size w' w2) := Lib.hid (fun w' _ => gnet_q w' (grd_bw hX))
  clear hX
  obtain ⟨kp, hkp, kp1, kp2⟩ : ∃ k, pt.tmod 9 = k ∧ 0 ≤ k ∧ k ≤ 8 := by
    obtain ⟨_, _, s1, s2⟩ := tmodByte hpt (m := 9) (by omega) (by omega)
    exact ⟨_, rfl, s1, by omega⟩
  have hkq : pt % 9 = kp := by rw [← hkp, Int.tmod_eq_emod_of_nonneg hpt.1]
  have HPT := Lib.hid hpt
  have HKP := Lib.hid hkp
  have HKQ := Lib.hid hkq
  clear hpt hkp hkq
  go_enter Tryz.func10, Tryz.ntmps10
  go_wp2_with fail
  refine (jk (HKN.out _)).mono ?_
  rintro e _ ⟨rfl, X1, rfl⟩
  go_wp2_with fail
  refine (HG.out _).mono ?_
  rintro e w2 ⟨⟨v1, v2, n, rfl, o1, o2, hn0⟩, hb2⟩
  obtain ⟨X2, rfl⟩ := below_some hb2
  have HN := Lib.hid (show NetAt _ _ v1 v2 n from ⟨o1.sl, o2.sl⟩)
  have hn := Lib.hid hn0
  obtain ⟨a1, n1, c1, rfl⟩ := o1.val
  obtain ⟨a2, n2, c2, rfl⟩ := o2.val
  clear o1 o2 hb2 hn0 HG HKN
  go_upto_region 4 with fail
  obtain ⟨W, hW⟩ : ∃ W, W = ((((w.alloc (.cells #[vp, vq] 25)).alloc (.cells #[.int .u8 xa, .int .u8 ya, .int .u8 xb, .int .u8 yb] 80)).junk X1).junk X2).alloc (.cells #[.slice a1 n1 c1, .slice a2 n2 c2] 30) := ⟨_, rfl⟩
  have g0 : W.cell? ⟨((((w.alloc (.cells #[vp, vq] 25)).alloc (.cells #[.int .u8 xa, .int .u8 ya, .int .u8 xb, .int .u8 yb] 80)).junk X1).junk X2).heap.size, 0, none⟩ = some (.slice a1 n1 c1) := by rw [hW]; simp [go_sem]
  have g1 : W.cell? ⟨((((w.alloc (.cells #[vp, vq] 25)).alloc (.cells #[.int .u8 xa, .int .u8 ya, .int .u8 xb, .int .u8 yb] 80)).junk X1).junk X2).heap.size, 1, none⟩ = some (.slice a2 n2 c2) := by rw [hW]; simp [go_sem]
  have t0 : W.cell? ⟨w.heap.size + 1, 0, none⟩ = some (.int .u8 xa) := by rw [hW]; simp [go_sem]
  have t1 : W.cell? ⟨w.heap.size + 1, 1, none⟩ = some (.int .u8 ya) := by rw [hW]; simp [go_sem]
  have t2 : W.cell? ⟨w.heap.size + 1, 2, none⟩ = some (.int .u8 xb) := by rw [hW]; simp [go_sem]
  have t3 : W.cell? ⟨w.heap.size + 1, 3, none⟩ = some (.int .u8 yb) := by rw [hW]; simp [go_sem]
  haveI lb : Lo ((((w.alloc (.cells #[vp, vq] 25)).alloc (.cells #[.int .u8 xa, .int .u8 ya, .int .u8 xb, .int .u8 yb] 80)).junk X1).junk X2).heap.size W := by rw [hW]; infer_instance
  haveI lc : Lo (w.heap.size + 1) W := by rw [hW]; infer_instance
  haveI bw : Bw w W := by rw [hW]; infer_instance
  have HNW : Hid (NetAt W.heap.size W (.slice a1 n1 c1) (.slice a2 n2 c2) n) := Lib.hid (by rw [hW]; exact HN.out.later Bw.b)
  rw [← hW]
  clear hW HN
  generalize ((((w.alloc (.cells #[vp, vq] 25)).alloc (.cells #[.int .u8 xa, .int .u8 ya, .int .u8 xb, .int .u8 yb] 80)).junk X1).junk X2).heap.size = bx at *
  generalize w.heap.size + 1 = bq at *
  have HPa0 : Hid (∀ (w' : World) [Bw W w'], Calls Tryz.prog 23 #[.agg #[.slice a1 n1 c1, .slice a2 n2 c2], .agg #[.int .u8 xa, .int .u8 ya]] w' fun e w2 => e = .returned (placeN n xa ya).v ∧ Below w'.heap.size w' w2) := Lib.hid (fun w' _ => place_q hn.out _ _ hxa hya w' (later_bw HNW.out))
  have HPb0 : Hid (∀ (w' : World) [Bw W w'], Calls Tryz.prog 23 #[.agg #[.slice a1 n1 c1, .slice a2 n2 c2], .agg #[.int .u8 xb, .int .u8 yb]] w' fun e w2 => e = .returned (placeN n xb yb).v ∧ Below w'.heap.size w' w2) := Lib.hid (fun w' _ => place_q hn.out _ _ hxb hyb w' (later_bw HNW.out))
  have OKA := Lib.hid (place_ok hn.out hxa hya)
  have OKB := Lib.hid (place_ok hn.out hxb hyb)
  have GA := Lib.hid (place_g8 n xa ya)
  have GB := Lib.hid (place_g8 n xb yb)
  generalize placeN n xa ya = pa at *
  generalize placeN n xb yb = pb at *
  have HPa : Hid (∀ (w' : World) [Bw W w'], Calls Tryz.prog 23 #[.agg #[.slice a1 n1 c1, .slice a2 n2 c2], .agg #[.int .u8 xa, .int .u8 ya]] w' fun e w2 => e = .returned (.agg #[.int .i64 pa.road, .bool (zs pa.off.num), .string (zx pa.off.num), .bool false, .string (ry pa.off.den)]) ∧ Below w'.heap.size w' w2) := Lib.hid HPa0.out
  have HPb : Hid (∀ (w' : World) [Bw W w'], Calls Tryz.prog 23 #[.agg #[.slice a1 n1 c1, .slice a2 n2 c2], .agg #[.int .u8 xb, .int .u8 yb]] w' fun e w2 => e = .returned (.agg #[.int .i64 pb.road, .bool (zs pb.off.num), .string (zx pb.off.num), .bool false, .string (ry pb.off.den)]) ∧ Below w'.heap.size w' w2) := Lib.hid HPb0.out
  clear HPa0 HPb0 hxa hya hxb hyb
  refine wp_flow2 [(10, [8]), (11, [9])] [(10, [8]), (11, [9])] [(2, [1]), (3, [0, 2]), (6, [5]), (7, [4, 6]), (10, [8, 3]), (11, [9, 7])] [(0, some 31), (1, some 32), (2, some 33), (3, some 34), (4, some 35), (5, some 36), (6, some 37), (7, some 38), (8, some 8), (9, some 9), (10, none), (11, none)] [(7, .pointer (some ⟨bx, 0, none⟩)), (4, .pointer (some ⟨bq, 0, none⟩))] [.val (.agg #[.slice a1 n1 c1, .slice a2 n2 c2]), .val (.pointer (some ⟨bq, 0, none⟩)), .val (.agg #[.int .u8 xa, .int .u8 ya]), .val (.agg #[.int .i64 pa.road, .bool (zs pa.off.num), .string (zx pa.off.num), .bool false, .string (ry pa.off.den)]), .val (.agg #[.slice a1 n1 c1, .slice a2 n2 c2]), .val (.pointer (some ⟨bq, 2, none⟩)), .val (.agg #[.int .u8 xb, .int .u8 yb]), .val (.agg #[.int .i64 pb.road, .bool (zs pb.off.num), .string (zx pb.off.num), .bool false, .string (ry pb.off.den)]), .box 50 8 (fun _ => #[.int .i64 0, .bool false, .string ⟨#[]⟩, .bool false, .string ⟨#[]⟩]), .box 50 9 (fun _ => #[.int .i64 0, .bool false, .string ⟨#[]⟩, .bool false, .string ⟨#[]⟩]), .box 50 8 (fun _ => #[.int .i64 pa.road, .bool (zs pa.off.num), .string (zx pa.off.num), .bool false, .string (ry pa.off.den)]), .box 50 9 (fun _ => #[.int .i64 pb.road, .bool (zs pb.off.num), .string (zx pb.off.num), .bool false, .string (ry pb.off.den)])] (by kernel_rfl) (by kernel_rfl) (by kernel_rfl) (by kernel_rfl) (by kernel_rfl) ⟨rfl, rfl, trivial⟩ ⟨trivial, trivial, trivial, trivial, trivial, trivial, trivial, trivial, ⟨.inl rfl, fun _ _ _ => rfl⟩, ⟨.inl rfl, fun _ _ _ => rfl⟩, ⟨.inr (by decide), fun _ _ _ => rfl⟩, ⟨.inr (by decide), fun _ _ _ => rfl⟩, trivial⟩ ?_ ?_
  · refine ⟨?_, ?_, ?_, ?_, ?_, ?_, ?_, ?_, ?_, ?_, ?_, ?_, trivial⟩
    · intro f ρ w' S hd hx hc hB hA hD
      have h7 : ρ (.tmp 7) = .pointer (some ⟨bx, 0, none⟩) := hx (7, .pointer (some ⟨bx, 0, none⟩)) (by simp)
      have n0' := (hB.cell (p := ⟨bx, 0, none⟩) lb.lt).trans g0
      have e1' := (hB.cell (p := ⟨bx, 1, none⟩) lb.lt).trans g1
      refine fl_val (by rfl) (by rfl) ?_
      simp [execOp, go_sem, h7, n0', e1']
    · intro f ρ w' S hd hx hc hB hA hD
      have h4 : ρ (.tmp 4) = .pointer (some ⟨bq, 0, none⟩) := hx (4, .pointer (some ⟨bq, 0, none⟩)) (by simp)
      refine fl_val (by rfl) (by rfl) ?_
      simp [execOp, go_sem, h4, hc.1]
    · intro f ρ w' S hd hx hc hB hA hD
      have h32 : ρ (.tmp 32) = .pointer (some ⟨bq, 0, none⟩) := (hd 1 32 (by decide)).trans (hA 1 (by decide)).1
      have u0' := (hB.cell (p := ⟨bq, 0, none⟩) lc.lt).trans t0
      have u1' := (hB.cell (p := ⟨bq, 1, none⟩) lc.lt).trans t1
      refine fl_val (by rfl) (by rfl) ?_
      simp [execOp, go_sem, h32, u0', u1']
    · intro f ρ w' S hd hx hc hB hA hD
      have h31 : ρ (.tmp 31) = .agg #[.slice a1 n1 c1, .slice a2 n2 c2] := (hd 0 31 (by decide)).trans (hA 0 (by decide)).1
      have h33 : ρ (.tmp 33) = .agg #[.int .u8 xa, .int .u8 ya] := (hd 2 33 (by decide)).trans (hA 2 (by decide)).1
      haveI : Bw W w' := ⟨hB⟩
      exact fl_call (by rfl) (by rfl) (by simp [execOp, go_sem, h31, h33, hc.1, hc.2]) (HPa.out w')
    · intro f ρ w' S hd hx hc hB hA hD
      have h7 : ρ (.tmp 7) = .pointer (some ⟨bx, 0, none⟩) := hx (7, .pointer (some ⟨bx, 0, none⟩)) (by simp)
      have n0' := (hB.cell (p := ⟨bx, 0, none⟩) lb.lt).trans g0
      have e1' := (hB.cell (p := ⟨bx, 1, none⟩) lb.lt).trans g1
      refine fl_val (by rfl) (by rfl) ?_
      simp [execOp, go_sem, h7, n0', e1']
    · intro f ρ w' S hd hx hc hB hA hD
      have h4 : ρ (.tmp 4) = .pointer (some ⟨bq, 0, none⟩) := hx (4, .pointer (some ⟨bq, 0, none⟩)) (by simp)
      refine fl_val (by rfl) (by rfl) ?_
      simp [execOp, go_sem, h4, hc.1]
    · intro f ρ w' S hd hx hc hB hA hD
      have h36 : ρ (.tmp 36) = .pointer (some ⟨bq, 2, none⟩) := (hd 5 36 (by decide)).trans (hA 5 (by decide)).1
      have u2' := (hB.cell (p := ⟨bq, 2, none⟩) lc.lt).trans t2
      have u3' := (hB.cell (p := ⟨bq, 3, none⟩) lc.lt).trans t3
      refine fl_val (by rfl) (by rfl) ?_
      simp [execOp, go_sem, h36, u2', u3']
    · intro f ρ w' S hd hx hc hB hA hD
      have h35 : ρ (.tmp 35) = .agg #[.slice a1 n1 c1, .slice a2 n2 c2] := (hd 4 35 (by decide)).trans (hA 4 (by decide)).1
      have h37 : ρ (.tmp 37) = .agg #[.int .u8 xb, .int .u8 yb] := (hd 6 37 (by decide)).trans (hA 6 (by decide)).1
      haveI : Bw W w' := ⟨hB⟩
      exact fl_call (by rfl) (by rfl) (by simp [execOp, go_sem, h35, h37, hc.1, hc.2]) (HPb.out w')
    · intro f ρ w' S hd hx hc hB hA hD
      refine fl_box (by rfl) (by rfl) hB.size (fun _ _ => rfl) ?_
      simp [execOp, go_sem]
    · intro f ρ w' S hd hx hc hB hA hD
      refine fl_box (by rfl) (by rfl) hB.size (fun _ _ => rfl) ?_
      simp [execOp, go_sem]
    · intro f ρ w' S hd hx hc hB hA hD
      have h34 : ρ (.tmp 34) = .agg #[.int .i64 pa.road, .bool (zs pa.off.num), .string (zx pa.off.num), .bool false, .string (ry pa.off.den)] := (hd 3 34 (by decide)).trans (hA 3 (by decide)).1
      obtain ⟨b, p1, p2, p3, p4⟩ := (hA 8 (by decide)).1
      have h8 : ρ (.tmp 8) = .pointer (some ⟨b, 0, none⟩) := (hd 8 8 (by decide)).trans p1
      have c0' := obj_cell p4 0
      have c1' := obj_cell p4 1
      have c2' := obj_cell p4 2
      have c3' := obj_cell p4 3
      have c4' := obj_cell p4 4
      have z0' := obj_free p4 0
      have z1' := obj_free p4 1
      have z2' := obj_free p4 2
      have z3' := obj_free p4 3
      have z4' := obj_free p4 4
      simp at c0' c1' c2' c3' c4'
      have hlt := obj_lt p4
      refine fl_store (w' := (((((w'.setCell ⟨b, 0, none⟩ (.int .i64 pa.road)).setCell ⟨b, 1, none⟩ (.bool (zs pa.off.num))).setCell ⟨b, 2, none⟩ (.string (zx pa.off.num))).setCell ⟨b, 3, none⟩ (.bool false)).setCell ⟨b, 4, none⟩ (.string (ry pa.off.den)))) (by rfl) (by decide) ⟨8, by decide, p2⟩ p1 p3 (obj_lt p4) (fun _ _ => rfl) ?_ ?_ ?_
      · simp [execOp, go_sem, h34, h8, c0', c1', c2', c3', c4', z0', z1', z2', z3', z4']
      · exact Ext.of_grown (row5 _ b _ _ _ _ _) (fun g hg => by injection hg with hg; exact hg.symm)
      · rw [obj_set (obj_set (obj_set (obj_set (obj_set p4))))]; simp
    · intro f ρ w' S hd hx hc hB hA hD
      have h38 : ρ (.tmp 38) = .agg #[.int .i64 pb.road, .bool (zs pb.off.num), .string (zx pb.off.num), .bool false, .string (ry pb.off.den)] := (hd 7 38 (by decide)).trans (hA 7 (by decide)).1
      obtain ⟨b, p1, p2, p3, p4⟩ := (hA 9 (by decide)).1
      have h9 : ρ (.tmp 9) = .pointer (some ⟨b, 0, none⟩) := (hd 9 9 (by decide)).trans p1
      have c0' := obj_cell p4 0
      have c1' := obj_cell p4 1
      have c2' := obj_cell p4 2
      have c3' := obj_cell p4 3
      have c4' := obj_cell p4 4
      have z0' := obj_free p4 0
      have z1' := obj_free p4 1
      have z2' := obj_free p4 2
      have z3' := obj_free p4 3
      have z4' := obj_free p4 4
      simp at c0' c1' c2' c3' c4'
      have hlt := obj_lt p4
      refine fl_store (w' := (((((w'.setCell ⟨b, 0, none⟩ (.int .i64 pb.road)).setCell ⟨b, 1, none⟩ (.bool (zs pb.off.num))).setCell ⟨b, 2, none⟩ (.string (zx pb.off.num))).setCell ⟨b, 3, none⟩ (.bool false)).setCell ⟨b, 4, none⟩ (.string (ry pb.off.den)))) (by rfl) (by decide) ⟨9, by decide, p2⟩ p1 p3 (obj_lt p4) (fun _ _ => rfl) ?_ ?_ ?_
      · simp [execOp, go_sem, h38, h9, c0', c1', c2', c3', c4', z0', z1', z2', z3', z4']
      · exact Ext.of_grown (row5 _ b _ _ _ _ _) (fun g hg => by injection hg with hg; exact hg.symm)
      · rw [obj_set (obj_set (obj_set (obj_set (obj_set p4))))]; simp
  · intro f w' S hB hS hD
    obtain ⟨ba, p1a, _, _, p4a⟩ := (hS 10 (by kernel_rfl)).1
    obtain ⟨bb, p1b, _, _, p4b⟩ := (hS 11 (by kernel_rfl)).1
    simp only [putAll, Act.put, List.setIfInBounds_toArray, List.set_cons_zero, List.set_cons_succ]
    rw [p1a, p1b]
    obtain ⟨X, rfl⟩ := below_some hB
    haveI bv : Bw W (W.junk X) := ⟨hB⟩
    haveI bwv : Bw w (W.junk X) := ⟨bw.b.trans (hB.mono bw.b.size)⟩
    have v0 := (hB.cell (p := ⟨bx, 0, none⟩) lb.lt).trans g0
    have v1' := (hB.cell (p := ⟨bx, 1, none⟩) lb.lt).trans g1
    haveI lbv : Lo bx (W.junk X) := ⟨Nat.lt_of_lt_of_le lb.lt hB.size⟩
    haveI loa : Lo ba (W.junk X) := ⟨obj_lt p4a⟩
    have a0 := obj_cell p4a 0
    have a1 := obj_cell p4a 1
    have a2 := obj_cell p4a 2
    have a3 := obj_cell p4a 3
    have a4 := obj_cell p4a 4
    simp at a0 a1 a2 a3 a4
    haveI lob : Lo bb (W.junk X) := ⟨obj_lt p4b⟩
    have b0 := obj_cell p4b 0
    have b1 := obj_cell p4b 1
    have b2 := obj_cell p4b 2
    have b3 := obj_cell p4b 3
    have b4 := obj_cell p4b 4
    simp at b0 b1 b2 b3 b4
    have HNV := Lib.hid (HNW.out.later hB)
    generalize hV : W.junk X = V at *
    clear hS hB hD p4a p4b hV HNW HPa HPb t0 t1 t2 t3 g0 g1 lb lc bv bw
    have HBT : Hid (∀ (w' : World) [Bw V w'], _) := Lib.hid (fun w' _ => between_q n (rtN n) (rtN_of n) _ _ pa pb w' (later_bw HNV.out) hn.out.ok (by have := hn.out.most; omega) (geo_fit hn.out OKA.out OKB.out))
    have HDE := Lib.hid (dst_err OKA.out OKB.out)
    have HWY := Lib.hid (bw_way hn.out OKA.out OKB.out)
    generalize betweenN n (rtN n) pa pb = bw0 at *
    obtain ⟨⟨Pw, Qw, L, l⟩, kb⟩ := bw0
    unfold BwOut wcs Plc.v at HBT
    simp only at HBT HDE HWY
    go_wp2_with fail
    refine (HBT.out _).mono ?_
    rintro e w3 ⟨v, rfl, ho, hb3⟩
    obtain ⟨X3, rfl⟩ := below_some hb3
    obtain ⟨av, nv, cv, rfl⟩ := ho.val
    have HO := Lib.hid ho
    clear ho hb3 HBT
    go_upto_region 6 with (first | (refine wl_store (op := ⟨none, .store _ (.tmp 10) (.tmp 44), _, _, _, _⟩) (by rfl) _ _ rfl iWy _ (by rfl) #[.int .i64 Pw.road, .bool (zs Pw.off.num), .string (zx Pw.off.num), .bool false, .string (ry Pw.off.den), .int .i64 Qw.road, .bool (zs Qw.off.num), .string (zx Qw.off.num), .bool false, .string (ry Qw.off.den), .slice av nv cv, .bool (zs l.num), .string (zx l.num), .bool false, .string (ry l.den)] (by rfl) (by simp [go_sem]) rfl (by simp [Value.oneCell']) ?_) | fail)
    obtain ⟨hk, hd⟩ | ⟨hk, hd⟩ := HDE.out
    rotate_left
    · subst hk
      go_wp2_with fail
      go_ret
      exact ⟨rfl, Bw.b⟩
    subst hk
    obtain ⟨L', l', hq0, hcw⟩ := HWY.out rfl
    injection hq0 with hq0 _
    injection hq0 with q1 q2 q3 q4
    subst q1 q2 q3 q4
    have HDL := Lib.hid hd
    have HCW := Lib.hid hcw
    clear hd hcw HDE HWY
    obtain ⟨U, hU⟩ : ∃ U, U = ((V.junk X3).alloc (.cells #[.int .i64 Pw.road, .bool (zs Pw.off.num), .string (zx Pw.off.num), .bool false, .string (ry Pw.off.den), .int .i64 Qw.road, .bool (zs Qw.off.num), .string (zx Qw.off.num), .bool false, .string (ry Qw.off.den), .slice av nv cv, .bool (zs l.num), .string (zx l.num), .bool false, .string (ry l.den)] 55)) := ⟨_, rfl⟩
    have HB3 : Hid (U.heap[(V.junk X3).heap.size]? = some (.cells #[.int .i64 Pw.road, .bool (zs Pw.off.num), .string (zx Pw.off.num), .bool false, .string (ry Pw.off.den), .int .i64 Qw.road, .bool (zs Qw.off.num), .string (zx Qw.off.num), .bool false, .string (ry Qw.off.den), .slice av nv cv, .bool (zs l.num), .string (zx l.num), .bool false, .string (ry l.den)] 55 (0, 0))) := Lib.hid (by rw [hU]; exact obj_last _ _)
    haveI bvu : Bw V U := by rw [hU]; infer_instance
    haveI bwu : Bw w U := ⟨bwv.b.trans (bvu.b.mono bwv.b.size)⟩
    have HSL : Hid (Sl U.heap.size U 9 (.slice av nv cv) (L.map Lg.cs)) := Lib.hid (by rw [hU]; exact HO.out.sl.later Bw.b)
    have HNU := Lib.hid (HNV.out.later bvu.b)
    rw [← hU]
    clear hU HO HNV
    generalize (V.junk X3).heap.size = by' at *
    haveI lbx : Lo bx U := ⟨Nat.lt_of_lt_of_le lbv.lt bvu.b.size⟩
    haveI lby : Lo by' U := ⟨obj_lt HB3.out⟩
    have g0 := (bvu.b.cell (p := ⟨bx, 0, none⟩) lbv.lt).trans v0
    have g1 := (bvu.b.cell (p := ⟨bx, 1, none⟩) lbv.lt).trans v1'
    haveI lua : Lo ba U := ⟨Nat.lt_of_lt_of_le loa.lt bvu.b.size⟩
    have au0 := (bvu.b.cell (p := ⟨ba, 0, none⟩) loa.lt).trans a0
    have au1 := (bvu.b.cell (p := ⟨ba, 1, none⟩) loa.lt).trans a1
    have au2 := (bvu.b.cell (p := ⟨ba, 2, none⟩) loa.lt).trans a2
    have au3 := (bvu.b.cell (p := ⟨ba, 3, none⟩) loa.lt).trans a3
    have au4 := (bvu.b.cell (p := ⟨ba, 4, none⟩) loa.lt).trans a4
    haveI lub : Lo bb U := ⟨Nat.lt_of_lt_of_le lob.lt bvu.b.size⟩
    have bu0 := (bvu.b.cell (p := ⟨bb, 0, none⟩) lob.lt).trans b0
    have bu1 := (bvu.b.cell (p := ⟨bb, 1, none⟩) lob.lt).trans b1
    have bu2 := (bvu.b.cell (p := ⟨bb, 2, none⟩) lob.lt).trans b2
    have bu3 := (bvu.b.cell (p := ⟨bb, 3, none⟩) lob.lt).trans b3
    have bu4 := (bvu.b.cell (p := ⟨bb, 4, none⟩) lob.lt).trans b4
    have fy11 : U.cell? ⟨by', 11, none⟩ = some (.bool (zs l.num)) := obj_cell HB3.out 11
    have fy12 : U.cell? ⟨by', 12, none⟩ = some (.string (zx l.num)) := obj_cell HB3.out 12
    have fy13 : U.cell? ⟨by', 13, none⟩ = some (.bool false) := obj_cell HB3.out 13
    have fy14 : U.cell? ⟨by', 14, none⟩ = some (.string (ry l.den)) := obj_cell HB3.out 14
    have HRW : Hid (rowN 15 U by' = some #[.int .i64 Pw.road, .bool (zs Pw.off.num), .string (zx Pw.off.num), .bool false, .string (ry Pw.off.den), .int .i64 Qw.road, .bool (zs Qw.off.num), .string (zx Qw.off.num), .bool false, .string (ry Qw.off.den), .slice av nv cv, .bool (zs l.num), .string (zx l.num), .bool false, .string (ry l.den)]) := Lib.hid (rowN_of HB3.out rfl)
    clear v0 v1' lbv HB3 loa lob bwv bvu a0 a1 a2 a3 a4 b0 b1 b2 b3 b4
    obtain ⟨hl1, hl2, hl3⟩ := dst_in hn.out OKA.out OKB.out HDL.out
    have gl := g8_dst OKA.out OKB.out GA.out GB.out HDL.out
    obtain ⟨gt, t0, t1⟩ := g8_part gl hl2 kp1 kp2
    have sl : Sm l := sm_g64 hl1 (by grind) (by grind)
    have sf : Sm (mkRat kp 8) := by
      have e : mkRat kp 8 = (kp : Rat) / 8 := by rw [Rat.mkRat_eq_div]; rfl
      have k0 : (0 : Rat) ≤ (kp : Rat) := Rat.intCast_le_intCast.2 kp1
      have k8 : (kp : Rat) ≤ 8 := Rat.intCast_le_intCast.2 kp2
      refine sm_g64 ⟨kp * 8, ?_⟩ (by rw [e]; grind) (by rw [e]; grind)
      rw [e, Rat.intCast_mul]
      have h8 : ((8 : Int) : Rat) = 8 := rfl
      rw [h8]
      grind
    obtain ⟨f, hf⟩ : ∃ f, f = mkRat kp 8 := ⟨_, rfl⟩
    have HFI0 : Hid (∀ w' : World, _) := Lib.hid (fun w' : World => fromInts_q kp 8 w' (by omega) (by decide) (by decide))
    rw [← hf] at gt t0 t1 sf HFI0
    have HMU0 := Lib.hid (fun w' : World => mul_q l f w' sl sf)
    obtain ⟨t, ht⟩ : ∃ t, t = l * f := ⟨_, rfl⟩
    rw [← ht] at gt t0 t1 HMU0
    have st : Sm t := sm_g64 gt (by grind) (by grind)
    obtain ⟨m1, m2, m3, m4, m5⟩ := pt_law hn.out OKA.out OKB.out HCW.out HDL.out t0 t1 gt
    have lin : ∀ x ∈ L, LgIn x := cw_in hn.out HCW.out
    have few : L.length ≤ 1000000 := cw_most HCW.out hl3
    have HAL0 : Hid (∀ (w' : World) [Bw U w'], _) := Lib.hid (fun w' h => alg_q n Pw Qw L l t _ _ _ w' (later_bw HNU.out) hn.out.ok (HSL.out.later h.b) (sm_pos hn.out OKA.out) sl st (.inl ⟨gt, t0, by grind⟩) lin few)
    have HAM0 : Hid (∀ (w' : World) [Bw U w'], _) := Lib.hid (fun w' h => alg_q n Pw Qw L l ((-1 : Int) : Rat) _ _ _ w' (later_bw HNU.out) hn.out.ok (HSL.out.later h.b) (sm_pos hn.out OKA.out) sl (sm_int (by decide)) (.inr (.inl (Rat.intCast_lt_intCast.2 (by decide)))) lin few)
    have s1 : Sm (l + ((1 : Int) : Rat)) := sm_g64 (g64_add hl1 (g64_int 1)) (by have : ((1 : Int) : Rat) = 1 := rfl; grind) (by have : ((1 : Int) : Rat) = 1 := rfl; grind)
    have HAN0 : Hid (∀ (w' : World) [Bw U w'], _) := Lib.hid (fun w' h => alg_q n Pw Qw L l (l + ((1 : Int) : Rat)) _ _ _ w' (later_bw HNU.out) hn.out.ok (HSL.out.later h.b) (sm_pos hn.out OKA.out) sl s1 (.inr (.inr (by have : ((1 : Int) : Rat) = 1 := rfl; grind))) lin few)
    have HAD0 := Lib.hid (fun w' : World => add_q l ((1 : Int) : Rat) w' sl (sm_int (by decide)))
    have HF1 := Lib.hid (fun w' : World => whole_q (-1) w' (by decide))
    have HF2 := Lib.hid (fun w' : World => whole_q 1 w' (by decide))
    have HCP := Lib.hid (fun w' : World => compare_q t l w' st sl)
    have hcp : cmpR t l ≤ 0 := by unfold cmpR; split <;> (try split) <;> (first | grind | omega)
    have e1 : algN n Pw L l t = normN n (ptN Pw L t) := by unfold algN; rw [if_neg (by rintro (h | h) <;> grind)]
    have e2 : algN n Pw L l ((-1 : Int) : Rat) = (plz, 2) := by unfold algN; rw [if_pos (.inl (Rat.intCast_lt_intCast.2 (by decide)))]
    have e3 : algN n Pw L l (l + ((1 : Int) : Rat)) = (plz, 2) := by unfold algN; rw [if_pos (.inr (by have : ((1 : Int) : Rat) = 1 := rfl; grind))]
    rw [e1, m1] at HAL0
    rw [e2] at HAM0
    rw [e3] at HAN0
    have m3' : (normN n (normN n (ptN Pw L t)).1).1 = (normN n (ptN Pw L t)).1 ∧ (normN n (normN n (ptN Pw L t)).1).2 = 0 := by rw [m3]; exact ⟨rfl, m1⟩
    clear e1 e2 e3 m1 m3
    generalize (normN n (ptN Pw L t)).1 = m at *
    have OKM := Lib.hid m2
    have HM4 := Lib.hid m4
    have HM5 := Lib.hid m5
    have HNM0 : Hid (∀ (w' : World) [Bw U w'], _) := Lib.hid (fun w' _ => normal_q n _ _ m w' (later_bw HNU.out) hn.out.ok (sm_pos hn.out m2))
    rw [m3'.1, m3'.2] at HNM0
    have HB1 : Hid (∀ (w' : World) [Bw U w'], _) := Lib.hid (fun w' _ => btw_q hn.out _ _ OKA.out OKM.out w' (later_bw HNU.out))
    have HB2 : Hid (∀ (w' : World) [Bw U w'], _) := Lib.hid (fun w' _ => btw_q hn.out _ _ OKM.out OKB.out w' (later_bw HNU.out))
    have sm : Sm m.off := sm_pos hn.out m2
    have HSU0 := Lib.hid (fun w' : World => sub_q l t w' sl st)
    have sd : Sm (l - t) := sm_g64 (g64_sub hl1 gt) (by grind) (by grind)
    clear hl1 hl2 hl3 gl gt t0 t1 sf m2 m3' m4 m5 lin few s1 HNU HCW HDL HSL hf ht GA GB
    generalize cmpR t l = gc at HCP hcp
    obtain ⟨d, hd⟩ : ∃ d, d = l - t := ⟨_, rfl⟩
    rw [← hd] at HSU0 sd HM5
    clear hd
    obtain ⟨u1, hu1⟩ : ∃ u, u = l + ((1 : Int) : Rat) := ⟨_, rfl⟩
    rw [← hu1] at HAN0 HAD0
    clear hu1
    generalize ((-1 : Int) : Rat) = um at *
    generalize ((1 : Int) : Rat) = up at *
    rw [plz_v] at HAM0 HAN0
    unfold Plc.v wcs at *
    simp only [rV] at HFI0 HMU0 HAL0 HAM0 HAN0 HAD0 HF1 HF2 HCP HNM0 HSU0
    have hkp := HKP.out
    have hkq := HKQ.out
    go_wp2_with fail
    refine (jk (HFI0.out _)).mono ?_
    rintro e _ ⟨rfl, X4, rfl⟩
    go_wp2_with fail
    refine (jk (HMU0.out _)).mono ?_
    rintro e _ ⟨rfl, X5, rfl⟩
    go_wp2_with (first | (refine wl_load (op := ⟨some 63, .load _ (.tmp 10), _, _, _, _⟩) (by rfl) _ rfl uWy rfl iWy _ (by rfl) #[.int .i64 Pw.road, .bool (zs Pw.off.num), .string (zx Pw.off.num), .bool false, .string (ry Pw.off.den), .int .i64 Qw.road, .bool (zs Qw.off.num), .string (zx Qw.off.num), .bool false, .string (ry Qw.off.den), .slice av nv cv, .bool (zs l.num), .string (zx l.num), .bool false, .string (ry l.den)] (by simp [go_sem, HRW.out]) ?_) | fail)
    refine (jk (HAL0.out _)).mono ?_
    rintro e _ ⟨rfl, X6, rfl⟩
    go_upto_region 11 with fail
    obtain ⟨U2, hU⟩ : ∃ U2, U2 = ((((((U.junk X4).alloc (.cells #[.bool (zs f.num), .string (zx f.num), .bool false, .string (ry f.den)] 48)).junk X5).alloc (.cells #[.bool (zs t.num), .string (zx t.num), .bool false, .string (ry t.den)] 48)).junk X6).alloc (.cells #[.int .i64 m.road, .bool (zs m.off.num), .string (zx m.off.num), .bool false, .string (ry m.off.den)] 50)) := ⟨_, rfl⟩
    have HT1 : Hid (U2.heap[(((U.junk X4).alloc (.cells #[.bool (zs f.num), .string (zx f.num), .bool false, .string (ry f.den)] 48)).junk X5).heap.size]? = some (.cells #[.bool (zs t.num), .string (zx t.num), .bool false, .string (ry t.den)] 48 (0, 0))) := Lib.hid (by rw [hU]; exact obj_old (obj_junk (obj_last _ _)))
    have HM1 : Hid (U2.heap[(((((U.junk X4).alloc (.cells #[.bool (zs f.num), .string (zx f.num), .bool false, .string (ry f.den)] 48)).junk X5).alloc (.cells #[.bool (zs t.num), .string (zx t.num), .bool false, .string (ry t.den)] 48)).junk X6).heap.size]? = some (.cells #[.int .i64 m.road, .bool (zs m.off.num), .string (zx m.off.num), .bool false, .string (ry m.off.den)] 50 (0, 0))) := Lib.hid (by rw [hU]; exact obj_last _ _)
    haveI bU : Bw U U2 := by rw [hU]; infer_instance
    rw [← hU]
    clear hU
    generalize (((((U.junk X4).alloc (.cells #[.bool (zs f.num), .string (zx f.num), .bool false, .string (ry f.den)] 48)).junk X5).alloc (.cells #[.bool (zs t.num), .string (zx t.num), .bool false, .string (ry t.den)] 48)).junk X6).heap.size = bm at *
    generalize (((U.junk X4).alloc (.cells #[.bool (zs f.num), .string (zx f.num), .bool false, .string (ry f.den)] 48)).junk X5).heap.size = bt at *
    replace g0 := (bU.b.cell (p := ⟨bx, 0, none⟩) lbx.lt).trans g0
    replace g1 := (bU.b.cell (p := ⟨bx, 1, none⟩) lbx.lt).trans g1
    replace au0 := (bU.b.cell (p := ⟨ba, 0, none⟩) lua.lt).trans au0
    replace au1 := (bU.b.cell (p := ⟨ba, 1, none⟩) lua.lt).trans au1
    replace au2 := (bU.b.cell (p := ⟨ba, 2, none⟩) lua.lt).trans au2
    replace au3 := (bU.b.cell (p := ⟨ba, 3, none⟩) lua.lt).trans au3
    replace au4 := (bU.b.cell (p := ⟨ba, 4, none⟩) lua.lt).trans au4
    replace bu0 := (bU.b.cell (p := ⟨bb, 0, none⟩) lub.lt).trans bu0
    replace bu1 := (bU.b.cell (p := ⟨bb, 1, none⟩) lub.lt).trans bu1
    replace bu2 := (bU.b.cell (p := ⟨bb, 2, none⟩) lub.lt).trans bu2
    replace bu3 := (bU.b.cell (p := ⟨bb, 3, none⟩) lub.lt).trans bu3
    replace bu4 := (bU.b.cell (p := ⟨bb, 4, none⟩) lub.lt).trans bu4
    replace fy11 := (bU.b.cell (p := ⟨by', 11, none⟩) lby.lt).trans fy11
    replace fy12 := (bU.b.cell (p := ⟨by', 12, none⟩) lby.lt).trans fy12
    replace fy13 := (bU.b.cell (p := ⟨by', 13, none⟩) lby.lt).trans fy13
    replace fy14 := (bU.b.cell (p := ⟨by', 14, none⟩) lby.lt).trans fy14
    replace HRW : Hid (rowN 15 U2 by' = some #[.int .i64 Pw.road, .bool (zs Pw.off.num), .string (zx Pw.off.num), .bool false, .string (ry Pw.off.den), .int .i64 Qw.road, .bool (zs Qw.off.num), .string (zx Qw.off.num), .bool false, .string (ry Qw.off.den), .slice av nv cv, .bool (zs l.num), .string (zx l.num), .bool false, .string (ry l.den)]) := Lib.hid ((rowN_bw bU.b lby.lt).trans HRW.out)
    replace lbx : Lo bx U2 := ⟨Nat.lt_of_lt_of_le lbx.lt bU.b.size⟩
    replace lua : Lo ba U2 := ⟨Nat.lt_of_lt_of_le lua.lt bU.b.size⟩
    replace lub : Lo bb U2 := ⟨Nat.lt_of_lt_of_le lub.lt bU.b.size⟩
    replace lby : Lo by' U2 := ⟨Nat.lt_of_lt_of_le lby.lt bU.b.size⟩
    haveI lbt : Lo bt U2 := ⟨obj_lt HT1.out⟩
    haveI lbm : Lo bm U2 := ⟨obj_lt HM1.out⟩
    have tt0 := obj_cell HT1.out 0
    have tt1 := obj_cell HT1.out 1
    have tt2 := obj_cell HT1.out 2
    have tt3 := obj_cell HT1.out 3
    have mm0 := obj_cell HM1.out 0
    have mm1 := obj_cell HM1.out 1
    have mm2 := obj_cell HM1.out 2
    have mm3 := obj_cell HM1.out 3
    have mm4 := obj_cell HM1.out 4
    simp at tt0 tt1 tt2 tt3 mm0 mm1 mm2 mm3 mm4
    haveI bwu2 : Bw w U2 := ⟨bwu.b.trans (bU.b.mono bwu.b.size)⟩
    clear HT1 HM1 HFI0 HMU0 HAL0 hkp hkq HKP HKQ HPT
    refine wp_flow2 [(8, [7])] [(8, [7])] [(3, [0, 2, 1]), (4, [3]), (5, [4]), (6, [4]), (8, [7, 5]), (9, [6])] [(0, some 69), (1, some 70), (2, some 71), (3, some 72), (4, some 68), (5, some 73), (6, some 74), (7, some 17), (8, none), (9, some 18)] [(7, .pointer (some ⟨bx, 0, none⟩)), (10, .pointer (some ⟨by', 0, none⟩))] [.val (.agg #[.slice a1 n1 c1, .slice a2 n2 c2]), .val (.agg #[.int .i64 Pw.road, .bool (zs Pw.off.num), .string (zx Pw.off.num), .bool false, .string (ry Pw.off.den), .int .i64 Qw.road, .bool (zs Qw.off.num), .string (zx Qw.off.num), .bool false, .string (ry Qw.off.den), .slice av nv cv, .bool (zs l.num), .string (zx l.num), .bool false, .string (ry l.den)]), .val (.agg #[.bool (zs um.num), .string (zx um.num), .bool false, .string (ry um.den)]), .val (.tuple #[.agg #[.int .i64 0, .bool false, .string ⟨#[]⟩, .bool false, .string ⟨#[]⟩], .int .i64 2]), .val (.tuple #[.agg #[.int .i64 0, .bool false, .string ⟨#[]⟩, .bool false, .string ⟨#[]⟩], .int .i64 2]), .val (.agg #[.int .i64 0, .bool false, .string ⟨#[]⟩, .bool false, .string ⟨#[]⟩]), .val (.int .i64 2), .box 50 7 (fun _ => #[.int .i64 0, .bool false, .string ⟨#[]⟩, .bool false, .string ⟨#[]⟩]), .box 50 7 (fun _ => #[.int .i64 0, .bool false, .string ⟨#[]⟩, .bool false, .string ⟨#[]⟩]), .val (.int .i64 2)] (by kernel_rfl) (by kernel_rfl) (by kernel_rfl) (by kernel_rfl) (by kernel_rfl) ⟨rfl, rfl, trivial⟩ ⟨trivial, trivial, trivial, trivial, trivial, trivial, trivial, ⟨.inl rfl, fun _ _ _ => rfl⟩, ⟨.inr (by decide), fun _ _ _ => rfl⟩, trivial, trivial⟩ ?_ ?_
    · refine ⟨?_, ?_, ?_, ?_, ?_, ?_, ?_, ?_, ?_, ?_, trivial⟩
      · intro f ρ w' S hd hx hc hB hA hD
        have h7 : ρ (.tmp 7) = .pointer (some ⟨bx, 0, none⟩) := hx (7, .pointer (some ⟨bx, 0, none⟩)) (by simp)
        have n0' := (hB.cell (p := ⟨bx, 0, none⟩) lbx.lt).trans g0
        have e1' := (hB.cell (p := ⟨bx, 1, none⟩) lbx.lt).trans g1
        refine fl_val (by rfl) (by rfl) ?_
        simp [execOp, go_sem, h7, n0', e1']
      · intro f ρ w' S hd hx hc hB hA hD
        have h10 : ρ (.tmp 10) = .pointer (some ⟨by', 0, none⟩) := hx (10, .pointer (some ⟨by', 0, none⟩)) (by simp)
        have hr : rowN 15 w' by' = some #[.int .i64 Pw.road, .bool (zs Pw.off.num), .string (zx Pw.off.num), .bool false, .string (ry Pw.off.den), .int .i64 Qw.road, .bool (zs Qw.off.num), .string (zx Qw.off.num), .bool false, .string (ry Qw.off.den), .slice av nv cv, .bool (zs l.num), .string (zx l.num), .bool false, .string (ry l.den)] := (rowN_bw hB lby.lt).trans HRW.out
        exact fl_val (by rfl) (by rfl) (exec_load_row (by rfl) uWy rfl iWy by' h10 hr)
      · intro f ρ w' S hd hx hc hB hA hD
        exact fl_call (by rfl) (by rfl) (by simp [execOp, go_sem, hc.1, hc.2]) (HF1.out w')
      · intro f ρ w' S hd hx hc hB hA hD
        have h69 : ρ (.tmp 69) = .agg #[.slice a1 n1 c1, .slice a2 n2 c2] := (hd 0 69 (by decide)).trans (hA 0 (by decide)).1
        have h71 : ρ (.tmp 71) = .agg #[.bool (zs um.num), .string (zx um.num), .bool false, .string (ry um.den)] := (hd 2 71 (by decide)).trans (hA 2 (by decide)).1
        have h70 : ρ (.tmp 70) = .agg #[.int .i64 Pw.road, .bool (zs Pw.off.num), .string (zx Pw.off.num), .bool false, .string (ry Pw.off.den), .int .i64 Qw.road, .bool (zs Qw.off.num), .string (zx Qw.off.num), .bool false, .string (ry Qw.off.den), .slice av nv cv, .bool (zs l.num), .string (zx l.num), .bool false, .string (ry l.den)] := (hd 1 70 (by decide)).trans (hA 1 (by decide)).1
        haveI : Bw U2 w' := ⟨hB⟩
        haveI : Bw U w' := ⟨bU.b.trans (hB.mono bU.b.size)⟩
        exact fl_call (by rfl) (by rfl) (by simp [execOp, go_sem, h69, h70, h71, hc.1, hc.2]) (HAM0.out w')
      · intro f ρ w' S hd hx hc hB hA hD
        have h72 : ρ (.tmp 72) = .tuple #[.agg #[.int .i64 0, .bool false, .string ⟨#[]⟩, .bool false, .string ⟨#[]⟩], .int .i64 2] := (hd 3 72 (by decide)).trans (hA 3 (by decide)).1
        refine fl_val (by rfl) (by rfl) ?_
        simp [execOp, go_sem, h72]
      · intro f ρ w' S hd hx hc hB hA hD
        have h68 : ρ (.tmp 68) = .tuple #[.agg #[.int .i64 0, .bool false, .string ⟨#[]⟩, .bool false, .string ⟨#[]⟩], .int .i64 2] := (hd 4 68 (by decide)).trans (hA 4 (by decide)).1
        refine fl_val (by rfl) (by rfl) ?_
        simp [execOp, go_sem, h68]
      · intro f ρ w' S hd hx hc hB hA hD
        have h68 : ρ (.tmp 68) = .tuple #[.agg #[.int .i64 0, .bool false, .string ⟨#[]⟩, .bool false, .string ⟨#[]⟩], .int .i64 2] := (hd 4 68 (by decide)).trans (hA 4 (by decide)).1
        refine fl_val (by rfl) (by rfl) ?_
        simp [execOp, go_sem, h68]
      · intro f ρ w' S hd hx hc hB hA hD
        refine fl_box (by rfl) (by rfl) hB.size (fun _ _ => rfl) ?_
        simp [execOp, go_sem]
      · intro f ρ w' S hd hx hc hB hA hD
        have h73 : ρ (.tmp 73) = .agg #[.int .i64 0, .bool false, .string ⟨#[]⟩, .bool false, .string ⟨#[]⟩] := (hd 5 73 (by decide)).trans (hA 5 (by decide)).1
        obtain ⟨b, p1, p2, p3, p4⟩ := (hA 7 (by decide)).1
        have h17 : ρ (.tmp 17) = .pointer (some ⟨b, 0, none⟩) := (hd 7 17 (by decide)).trans p1
        have c0' := obj_cell p4 0
        have c1' := obj_cell p4 1
        have c2' := obj_cell p4 2
        have c3' := obj_cell p4 3
        have c4' := obj_cell p4 4
        have z0' := obj_free p4 0
        have z1' := obj_free p4 1
        have z2' := obj_free p4 2
        have z3' := obj_free p4 3
        have z4' := obj_free p4 4
        simp at c0' c1' c2' c3' c4'
        have hlt := obj_lt p4
        refine fl_store (w' := (((((w'.setCell ⟨b, 0, none⟩ (.int .i64 0)).setCell ⟨b, 1, none⟩ (.bool false)).setCell ⟨b, 2, none⟩ (.string ⟨#[]⟩)).setCell ⟨b, 3, none⟩ (.bool false)).setCell ⟨b, 4, none⟩ (.string ⟨#[]⟩))) (by rfl) (by decide) ⟨7, by decide, p2⟩ p1 p3 (obj_lt p4) (fun _ _ => rfl) ?_ ?_ ?_
        · simp [execOp, go_sem, h73, h17, c0', c1', c2', c3', c4', z0', z1', z2', z3', z4']
        · exact Ext.of_grown (row5 _ b _ _ _ _ _) (fun g hg => by injection hg with hg; exact hg.symm)
        · rw [obj_set (obj_set (obj_set (obj_set (obj_set p4))))]; simp
      · intro f ρ w' S hd hx hc hB hA hD
        have h74 : ρ (.tmp 74) = .int .i64 2 := (hd 6 74 (by decide)).trans (hA 6 (by decide)).1
        refine fl_val (by rfl) (by rfl) ?_
        simp [execOp, go_sem, h74]
    · intro f w' S hB hS hD
      obtain ⟨bz, p1, _, _, _⟩ := (hS 8 (by kernel_rfl)).1
      have fv : f 9 = .int .i64 2 := (hS 9 (by kernel_rfl)).1
      simp only [putAll, Act.put, List.setIfInBounds_toArray, List.set_cons_zero, List.set_cons_succ]
      rw [p1, fv]
      obtain ⟨X7, rfl⟩ := below_some hB
      replace g0 := (hB.cell (p := ⟨bx, 0, none⟩) lbx.lt).trans g0
      replace g1 := (hB.cell (p := ⟨bx, 1, none⟩) lbx.lt).trans g1
      replace au0 := (hB.cell (p := ⟨ba, 0, none⟩) lua.lt).trans au0
      replace au1 := (hB.cell (p := ⟨ba, 1, none⟩) lua.lt).trans au1
      replace au2 := (hB.cell (p := ⟨ba, 2, none⟩) lua.lt).trans au2
      replace au3 := (hB.cell (p := ⟨ba, 3, none⟩) lua.lt).trans au3
      replace au4 := (hB.cell (p := ⟨ba, 4, none⟩) lua.lt).trans au4
      replace bu0 := (hB.cell (p := ⟨bb, 0, none⟩) lub.lt).trans bu0
      replace bu1 := (hB.cell (p := ⟨bb, 1, none⟩) lub.lt).trans bu1
      replace bu2 := (hB.cell (p := ⟨bb, 2, none⟩) lub.lt).trans bu2
      replace bu3 := (hB.cell (p := ⟨bb, 3, none⟩) lub.lt).trans bu3
      replace bu4 := (hB.cell (p := ⟨bb, 4, none⟩) lub.lt).trans bu4
      replace fy11 := (hB.cell (p := ⟨by', 11, none⟩) lby.lt).trans fy11
      replace fy12 := (hB.cell (p := ⟨by', 12, none⟩) lby.lt).trans fy12
      replace fy13 := (hB.cell (p := ⟨by', 13, none⟩) lby.lt).trans fy13
      replace fy14 := (hB.cell (p := ⟨by', 14, none⟩) lby.lt).trans fy14
      replace tt0 := (hB.cell (p := ⟨bt, 0, none⟩) lbt.lt).trans tt0
      replace tt1 := (hB.cell (p := ⟨bt, 1, none⟩) lbt.lt).trans tt1
      replace tt2 := (hB.cell (p := ⟨bt, 2, none⟩) lbt.lt).trans tt2
      replace tt3 := (hB.cell (p := ⟨bt, 3, none⟩) lbt.lt).trans tt3
      replace mm0 := (hB.cell (p := ⟨bm, 0, none⟩) lbm.lt).trans mm0
      replace mm1 := (hB.cell (p := ⟨bm, 1, none⟩) lbm.lt).trans mm1
      replace mm2 := (hB.cell (p := ⟨bm, 2, none⟩) lbm.lt).trans mm2
      replace mm3 := (hB.cell (p := ⟨bm, 3, none⟩) lbm.lt).trans mm3
      replace mm4 := (hB.cell (p := ⟨bm, 4, none⟩) lbm.lt).trans mm4
      replace HRW : Hid (rowN 15 (U2.junk X7) by' = some #[.int .i64 Pw.road, .bool (zs Pw.off.num), .string (zx Pw.off.num), .bool false, .string (ry Pw.off.den), .int .i64 Qw.road, .bool (zs Qw.off.num), .string (zx Qw.off.num), .bool false, .string (ry Qw.off.den), .slice av nv cv, .bool (zs l.num), .string (zx l.num), .bool false, .string (ry l.den)]) := Lib.hid ((rowN_bw hB lby.lt).trans HRW.out)
      replace lbx : Lo bx (U2.junk X7) := ⟨Nat.lt_of_lt_of_le lbx.lt hB.size⟩
      replace lua : Lo ba (U2.junk X7) := ⟨Nat.lt_of_lt_of_le lua.lt hB.size⟩
      replace lub : Lo bb (U2.junk X7) := ⟨Nat.lt_of_lt_of_le lub.lt hB.size⟩
      replace lby : Lo by' (U2.junk X7) := ⟨Nat.lt_of_lt_of_le lby.lt hB.size⟩
      replace lbt : Lo bt (U2.junk X7) := ⟨Nat.lt_of_lt_of_le lbt.lt hB.size⟩
      replace lbm : Lo bm (U2.junk X7) := ⟨Nat.lt_of_lt_of_le lbm.lt hB.size⟩
      replace bU : Bw U (U2.junk X7) := ⟨bU.b.trans (hB.mono bU.b.size)⟩
      replace bwu2 : Bw w (U2.junk X7) := ⟨bwu2.b.trans (hB.mono bwu2.b.size)⟩
      clear hS hD hB p1 fv
      generalize U2.junk X7 = U3 at *
      go_upto_region 12 with fail
      refine wp_flow2 [(11, [10])] [(11, [10])] [(3, [2]), (5, [3, 4]), (6, [0, 5, 1]), (7, [6]), (8, [7]), (9, [7]), (11, [10, 8]), (12, [9])] [(0, some 76), (1, some 77), (2, some 78), (3, some 79), (4, some 80), (5, some 81), (6, some 82), (7, some 75), (8, some 83), (9, some 84), (10, some 19), (11, none), (12, some 20)] [(7, .pointer (some ⟨bx, 0, none⟩)), (10, .pointer (some ⟨by', 0, none⟩))] [.val (.agg #[.slice a1 n1 c1, .slice a2 n2 c2]), .val (.agg #[.int .i64 Pw.road, .bool (zs Pw.off.num), .string (zx Pw.off.num), .bool false, .string (ry Pw.off.den), .int .i64 Qw.road, .bool (zs Qw.off.num), .string (zx Qw.off.num), .bool false, .string (ry Qw.off.den), .slice av nv cv, .bool (zs l.num), .string (zx l.num), .bool false, .string (ry l.den)]), .val (.pointer (some ⟨by', 11, none⟩)), .val (.agg #[.bool (zs l.num), .string (zx l.num), .bool false, .string (ry l.den)]), .val (.agg #[.bool (zs up.num), .string (zx up.num), .bool false, .string (ry up.den)]), .val (.agg #[.bool (zs u1.num), .string (zx u1.num), .bool false, .string (ry u1.den)]), .val (.tuple #[.agg #[.int .i64 0, .bool false, .string ⟨#[]⟩, .bool false, .string ⟨#[]⟩], .int .i64 2]), .val (.tuple #[.agg #[.int .i64 0, .bool false, .string ⟨#[]⟩, .bool false, .string ⟨#[]⟩], .int .i64 2]), .val (.agg #[.int .i64 0, .bool false, .string ⟨#[]⟩, .bool false, .string ⟨#[]⟩]), .val (.int .i64 2), .box 50 10 (fun _ => #[.int .i64 0, .bool false, .string ⟨#[]⟩, .bool false, .string ⟨#[]⟩]), .box 50 10 (fun _ => #[.int .i64 0, .bool false, .string ⟨#[]⟩, .bool false, .string ⟨#[]⟩]), .val (.int .i64 2)] (by kernel_rfl) (by kernel_rfl) (by kernel_rfl) (by kernel_rfl) (by kernel_rfl) ⟨rfl, rfl, trivial⟩ ⟨trivial, trivial, trivial, trivial, trivial, trivial, trivial, trivial, trivial, trivial, ⟨.inl rfl, fun _ _ _ => rfl⟩, ⟨.inr (by decide), fun _ _ _ => rfl⟩, trivial, trivial⟩ ?_ ?_
      · refine ⟨?_, ?_, ?_, ?_, ?_, ?_, ?_, ?_, ?_, ?_, ?_, ?_, ?_, trivial⟩
        · intro f ρ w' S hd hx hc hB hA hD
          have h7 : ρ (.tmp 7) = .pointer (some ⟨bx, 0, none⟩) := hx (7, .pointer (some ⟨bx, 0, none⟩)) (by simp)
          have n0' := (hB.cell (p := ⟨bx, 0, none⟩) lbx.lt).trans g0
          have e1' := (hB.cell (p := ⟨bx, 1, none⟩) lbx.lt).trans g1
          refine fl_val (by rfl) (by rfl) ?_
          simp [execOp, go_sem, h7, n0', e1']
        · intro f ρ w' S hd hx hc hB hA hD
          have h10 : ρ (.tmp 10) = .pointer (some ⟨by', 0, none⟩) := hx (10, .pointer (some ⟨by', 0, none⟩)) (by simp)
          have hr : rowN 15 w' by' = some #[.int .i64 Pw.road, .bool (zs Pw.off.num), .string (zx Pw.off.num), .bool false, .string (ry Pw.off.den), .int .i64 Qw.road, .bool (zs Qw.off.num), .string (zx Qw.off.num), .bool false, .string (ry Qw.off.den), .slice av nv cv, .bool (zs l.num), .string (zx l.num), .bool false, .string (ry l.den)] := (rowN_bw hB lby.lt).trans HRW.out
          exact fl_val (by rfl) (by rfl) (exec_load_row (by rfl) uWy rfl iWy by' h10 hr)
        · intro f ρ w' S hd hx hc hB hA hD
          have h10 : ρ (.tmp 10) = .pointer (some ⟨by', 0, none⟩) := hx (10, .pointer (some ⟨by', 0, none⟩)) (by simp)
          refine fl_val (by rfl) (by rfl) ?_
          simp [execOp, go_sem, h10]
        · intro f ρ w' S hd hx hc hB hA hD
          have h78 : ρ (.tmp 78) = .pointer (some ⟨by', 11, none⟩) := (hd 2 78 (by decide)).trans (hA 2 (by decide)).1
          have w11' := (hB.cell (p := ⟨by', 11, none⟩) lby.lt).trans fy11
          have w12' := (hB.cell (p := ⟨by', 12, none⟩) lby.lt).trans fy12
          have w13' := (hB.cell (p := ⟨by', 13, none⟩) lby.lt).trans fy13
          have w14' := (hB.cell (p := ⟨by', 14, none⟩) lby.lt).trans fy14
          refine fl_val (by rfl) (by rfl) ?_
          simp [execOp, go_sem, h78, w11', w12', w13', w14']
        · intro f ρ w' S hd hx hc hB hA hD
          exact fl_call (by rfl) (by rfl) (by simp [execOp, go_sem, hc.1, hc.2]) (HF2.out w')
        · intro f ρ w' S hd hx hc hB hA hD
          have h79 : ρ (.tmp 79) = .agg #[.bool (zs l.num), .string (zx l.num), .bool false, .string (ry l.den)] := (hd 3 79 (by decide)).trans (hA 3 (by decide)).1
          have h80 : ρ (.tmp 80) = .agg #[.bool (zs up.num), .string (zx up.num), .bool false, .string (ry up.den)] := (hd 4 80 (by decide)).trans (hA 4 (by decide)).1
          exact fl_call (by rfl) (by rfl) (by simp [execOp, go_sem, h79, h80, hc.1, hc.2]) (HAD0.out w')
        · intro f ρ w' S hd hx hc hB hA hD
          have h76 : ρ (.tmp 76) = .agg #[.slice a1 n1 c1, .slice a2 n2 c2] := (hd 0 76 (by decide)).trans (hA 0 (by decide)).1
          have h81 : ρ (.tmp 81) = .agg #[.bool (zs u1.num), .string (zx u1.num), .bool false, .string (ry u1.den)] := (hd 5 81 (by decide)).trans (hA 5 (by decide)).1
          have h77 : ρ (.tmp 77) = .agg #[.int .i64 Pw.road, .bool (zs Pw.off.num), .string (zx Pw.off.num), .bool false, .string (ry Pw.off.den), .int .i64 Qw.road, .bool (zs Qw.off.num), .string (zx Qw.off.num), .bool false, .string (ry Qw.off.den), .slice av nv cv, .bool (zs l.num), .string (zx l.num), .bool false, .string (ry l.den)] := (hd 1 77 (by decide)).trans (hA 1 (by decide)).1
          haveI : Bw U3 w' := ⟨hB⟩
          haveI : Bw U w' := ⟨bU.b.trans (hB.mono bU.b.size)⟩
          exact fl_call (by rfl) (by rfl) (by simp [execOp, go_sem, h76, h77, h81, hc.1, hc.2]) (HAN0.out w')
        · intro f ρ w' S hd hx hc hB hA hD
          have h82 : ρ (.tmp 82) = .tuple #[.agg #[.int .i64 0, .bool false, .string ⟨#[]⟩, .bool false, .string ⟨#[]⟩], .int .i64 2] := (hd 6 82 (by decide)).trans (hA 6 (by decide)).1
          refine fl_val (by rfl) (by rfl) ?_
          simp [execOp, go_sem, h82]
        · intro f ρ w' S hd hx hc hB hA hD
          have h75 : ρ (.tmp 75) = .tuple #[.agg #[.int .i64 0, .bool false, .string ⟨#[]⟩, .bool false, .string ⟨#[]⟩], .int .i64 2] := (hd 7 75 (by decide)).trans (hA 7 (by decide)).1
          refine fl_val (by rfl) (by rfl) ?_
          simp [execOp, go_sem, h75]
        · intro f ρ w' S hd hx hc hB hA hD
          have h75 : ρ (.tmp 75) = .tuple #[.agg #[.int .i64 0, .bool false, .string ⟨#[]⟩, .bool false, .string ⟨#[]⟩], .int .i64 2] := (hd 7 75 (by decide)).trans (hA 7 (by decide)).1
          refine fl_val (by rfl) (by rfl) ?_
          simp [execOp, go_sem, h75]
        · intro f ρ w' S hd hx hc hB hA hD
          refine fl_box (by rfl) (by rfl) hB.size (fun _ _ => rfl) ?_
          simp [execOp, go_sem]
        · intro f ρ w' S hd hx hc hB hA hD
          have h83 : ρ (.tmp 83) = .agg #[.int .i64 0, .bool false, .string ⟨#[]⟩, .bool false, .string ⟨#[]⟩] := (hd 8 83 (by decide)).trans (hA 8 (by decide)).1
          obtain ⟨b, p1, p2, p3, p4⟩ := (hA 10 (by decide)).1
          have h19 : ρ (.tmp 19) = .pointer (some ⟨b, 0, none⟩) := (hd 10 19 (by decide)).trans p1
          have c0' := obj_cell p4 0
          have c1' := obj_cell p4 1
          have c2' := obj_cell p4 2
          have c3' := obj_cell p4 3
          have c4' := obj_cell p4 4
          have z0' := obj_free p4 0
          have z1' := obj_free p4 1
          have z2' := obj_free p4 2
          have z3' := obj_free p4 3
          have z4' := obj_free p4 4
          simp at c0' c1' c2' c3' c4'
          have hlt := obj_lt p4
          refine fl_store (w' := (((((w'.setCell ⟨b, 0, none⟩ (.int .i64 0)).setCell ⟨b, 1, none⟩ (.bool false)).setCell ⟨b, 2, none⟩ (.string ⟨#[]⟩)).setCell ⟨b, 3, none⟩ (.bool false)).setCell ⟨b, 4, none⟩ (.string ⟨#[]⟩))) (by rfl) (by decide) ⟨10, by decide, p2⟩ p1 p3 (obj_lt p4) (fun _ _ => rfl) ?_ ?_ ?_
          · simp [execOp, go_sem, h83, h19, c0', c1', c2', c3', c4', z0', z1', z2', z3', z4']
          · exact Ext.of_grown (row5 _ b _ _ _ _ _) (fun g hg => by injection hg with hg; exact hg.symm)
          · rw [obj_set (obj_set (obj_set (obj_set (obj_set p4))))]; simp
        · intro f ρ w' S hd hx hc hB hA hD
          have h84 : ρ (.tmp 84) = .int .i64 2 := (hd 9 84 (by decide)).trans (hA 9 (by decide)).1
          refine fl_val (by rfl) (by rfl) ?_
          simp [execOp, go_sem, h84]
      · intro f w' S hB hS hD
        obtain ⟨bz, p1, _, _, _⟩ := (hS 11 (by kernel_rfl)).1
        have fv : f 12 = .int .i64 2 := (hS 12 (by kernel_rfl)).1
        simp only [putAll, Act.put, List.setIfInBounds_toArray, List.set_cons_zero, List.set_cons_succ]
        rw [p1, fv]
        obtain ⟨X8, rfl⟩ := below_some hB
        replace g0 := (hB.cell (p := ⟨bx, 0, none⟩) lbx.lt).trans g0
        replace g1 := (hB.cell (p := ⟨bx, 1, none⟩) lbx.lt).trans g1
        replace au0 := (hB.cell (p := ⟨ba, 0, none⟩) lua.lt).trans au0
        replace au1 := (hB.cell (p := ⟨ba, 1, none⟩) lua.lt).trans au1
        replace au2 := (hB.cell (p := ⟨ba, 2, none⟩) lua.lt).trans au2
        replace au3 := (hB.cell (p := ⟨ba, 3, none⟩) lua.lt).trans au3
        replace au4 := (hB.cell (p := ⟨ba, 4, none⟩) lua.lt).trans au4
        replace bu0 := (hB.cell (p := ⟨bb, 0, none⟩) lub.lt).trans bu0
        replace bu1 := (hB.cell (p := ⟨bb, 1, none⟩) lub.lt).trans bu1
        replace bu2 := (hB.cell (p := ⟨bb, 2, none⟩) lub.lt).trans bu2
        replace bu3 := (hB.cell (p := ⟨bb, 3, none⟩) lub.lt).trans bu3
        replace bu4 := (hB.cell (p := ⟨bb, 4, none⟩) lub.lt).trans bu4
        replace fy11 := (hB.cell (p := ⟨by', 11, none⟩) lby.lt).trans fy11
        replace fy12 := (hB.cell (p := ⟨by', 12, none⟩) lby.lt).trans fy12
        replace fy13 := (hB.cell (p := ⟨by', 13, none⟩) lby.lt).trans fy13
        replace fy14 := (hB.cell (p := ⟨by', 14, none⟩) lby.lt).trans fy14
        replace tt0 := (hB.cell (p := ⟨bt, 0, none⟩) lbt.lt).trans tt0
        replace tt1 := (hB.cell (p := ⟨bt, 1, none⟩) lbt.lt).trans tt1
        replace tt2 := (hB.cell (p := ⟨bt, 2, none⟩) lbt.lt).trans tt2
        replace tt3 := (hB.cell (p := ⟨bt, 3, none⟩) lbt.lt).trans tt3
        replace mm0 := (hB.cell (p := ⟨bm, 0, none⟩) lbm.lt).trans mm0
        replace mm1 := (hB.cell (p := ⟨bm, 1, none⟩) lbm.lt).trans mm1
        replace mm2 := (hB.cell (p := ⟨bm, 2, none⟩) lbm.lt).trans mm2
        replace mm3 := (hB.cell (p := ⟨bm, 3, none⟩) lbm.lt).trans mm3
        replace mm4 := (hB.cell (p := ⟨bm, 4, none⟩) lbm.lt).trans mm4
        replace HRW : Hid (rowN 15 (U3.junk X8) by' = some #[.int .i64 Pw.road, .bool (zs Pw.off.num), .string (zx Pw.off.num), .bool false, .string (ry Pw.off.den), .int .i64 Qw.road, .bool (zs Qw.off.num), .string (zx Qw.off.num), .bool false, .string (ry Qw.off.den), .slice av nv cv, .bool (zs l.num), .string (zx l.num), .bool false, .string (ry l.den)]) := Lib.hid ((rowN_bw hB lby.lt).trans HRW.out)
        replace lbx : Lo bx (U3.junk X8) := ⟨Nat.lt_of_lt_of_le lbx.lt hB.size⟩
        replace lua : Lo ba (U3.junk X8) := ⟨Nat.lt_of_lt_of_le lua.lt hB.size⟩
        replace lub : Lo bb (U3.junk X8) := ⟨Nat.lt_of_lt_of_le lub.lt hB.size⟩
        replace lby : Lo by' (U3.junk X8) := ⟨Nat.lt_of_lt_of_le lby.lt hB.size⟩
        replace lbt : Lo bt (U3.junk X8) := ⟨Nat.lt_of_lt_of_le lbt.lt hB.size⟩
        replace lbm : Lo bm (U3.junk X8) := ⟨Nat.lt_of_lt_of_le lbm.lt hB.size⟩
        replace bU : Bw U (U3.junk X8) := ⟨bU.b.trans (hB.mono bU.b.size)⟩
        replace bwu2 : Bw w (U3.junk X8) := ⟨bwu2.b.trans (hB.mono bwu2.b.size)⟩
        clear hS hD hB p1 fv
        generalize U3.junk X8 = U4 at *
        have HSU : Hid (∀ w' : World, _) := HSU0
        clear HSU0 HAM0 HAN0 HAD0 HF1 HF2
        go_wp2_with fail
        refine (jk (HCP.out _)).mono ?_
        rintro e _ ⟨rfl, X1, rfl⟩
        go_wp2_with fail
        refine (jk (HNM0.out _)).mono ?_
        rintro e _ ⟨rfl, X2, rfl⟩
        go_wp2_with fail
        refine (HB1.out _).mono ?_
        rintro e w5 ⟨P5, Q5, s5, r5, z5, l5, k5, rfl, hk5, hb5⟩
        obtain ⟨X5, rfl⟩ := below_some hb5
        obtain ⟨rfl, rfl⟩ : k5 = 0 ∧ l5 = t := by
          rcases hk5 with ⟨h1, h2⟩ | ⟨_, h2⟩
          · rw [HM4.out] at h2; injection h2 with h2; exact ⟨h1, h2.symm⟩
          · rw [HM4.out] at h2; cases h2
        clear hk5 hb5 HM4 HB1 HNM0 HCP
        go_wp2_with (first | (refine wl_store (op := ⟨none, .store _ (.tmp 23) (.tmp 109), _, _, _, _⟩) (by rfl) _ _ rfl iWy _ (by rfl) #[.int .i64 P5.road, .bool (zs P5.off.num), .string (zx P5.off.num), .bool false, .string (ry P5.off.den), .int .i64 Q5.road, .bool (zs Q5.off.num), .string (zx Q5.off.num), .bool false, .string (ry Q5.off.den), .slice s5 r5 z5, .bool (zs l5.num), .string (zx l5.num), .bool false, .string (ry l5.den)] (by rfl) (by simp [go_sem]) rfl (by simp [Value.oneCell']) ?_) | fail)
        refine (HB2.out _).mono ?_
        rintro e w6 ⟨P6, Q6, s6, r6, z6, l6, k6, rfl, hk6, hb6⟩
        obtain ⟨X6, rfl⟩ := below_some hb6
        obtain ⟨rfl, rfl⟩ : k6 = 0 ∧ l6 = d := by
          rcases hk6 with ⟨h1, h2⟩ | ⟨_, h2⟩
          · rw [HM5.out] at h2; injection h2 with h2; exact ⟨h1, h2.symm⟩
          · rw [HM5.out] at h2; cases h2
        clear hk6 hb6 HM5 HB2
        go_upto_region 20 with (first | (refine wl_store (op := ⟨none, .store _ (.tmp 25) (.tmp 116), _, _, _, _⟩) (by rfl) _ _ rfl iWy _ (by rfl) #[.int .i64 P6.road, .bool (zs P6.off.num), .string (zx P6.off.num), .bool false, .string (ry P6.off.den), .int .i64 Q6.road, .bool (zs Q6.off.num), .string (zx Q6.off.num), .bool false, .string (ry Q6.off.den), .slice s6 r6 z6, .bool (zs l6.num), .string (zx l6.num), .bool false, .string (ry l6.den)] (by rfl) (by simp [go_sem]) rfl (by simp [Value.oneCell']) ?_) | fail)
        refine wp_jregion (by kernel_rfl) (by kernel_rfl) ?_
        repeat (go_big_quiet_step (first | (with_reducible exact jq (HSU.out _)) | fail))
        refine wpQuiet_nil ?_
        all_goals
          rintro w' ⟨X, rfl⟩
          go_wp2_with fail
          go_ret
          exact ⟨rfl, Bw.b⟩
end Go.Proofs.YtopfgkbpakfccaaGreatDoor
