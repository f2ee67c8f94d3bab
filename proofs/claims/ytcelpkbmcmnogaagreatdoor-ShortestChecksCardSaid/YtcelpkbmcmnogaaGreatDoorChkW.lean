/-
 The law of changed ways, walked.
-/
import Derived.Test.YtcelpkbmcmnogaaGreatDoorCklW
import Derived.Test.YtcelpkbmcmnogaaGreatDoorBtwW
import Derived.Test.YtcelpkbmcmnogaaGreatDoorBtwE
set_option linter.unusedSimpArgs false
set_option linter.unusedVariables false
namespace Go.Proofs.YtcelpkbmcmnogaaGreatDoor
open Go Go.RowKit Go.Vi
attribute [local go_sem ↓] lo_lt lo_ne lo_ne'
attribute [local go_sem] junk_cell junk_frozen junk_setCell junk_drew drew_junk
attribute [local go_sem] rc_size rowN_alloc_at rowN_alloc rowN_junk rowN_drew rowN_drewN setRow_alloc_at setRow_alloc setRow_junk setRow_drew
def agOf : Value → Array Value
 | .agg a => a
 | _ => #[]
def TwF (P Q : Plc) (l : Rat) (ok : Bool) (v : Value) : Value := .tuple #[.agg (wcs P Q v l), .bool ok]
theorem exec_load_row {P : Program} {ρ : Operand → Value} {o : Oper} {w : World} {ty : TypeId} {d : TypeDesc} {n : Nat} {x : Operand} (ho : o.op = .load ty x) (hu : P.underlying ty = some d) (hd : d.isRow = true) (hi : (P.info? ty).map (·.size) = some n) (b : Nat) (hx : ρ x = .pointer (some ⟨b, 0, none⟩)) {c : Array Value} (h : rowN n w b = some c) : (execOp ρ o).run P w = .ok (.value (.agg c)) w := by
 have := loadVar_is (P := P) hu hd hi h
 unfold execOp
 simp only [ho, hx, Instr.loadAt, Instr.sureAddr, Sem.run_bind, Sem.run_pure, Result.andThen_ok, this]
theorem exec_store_row {P : Program} {ρ : Operand → Value} {o : Oper} {w : World} {ty : TypeId} {n : Nat} {x y : Operand} (ho : o.op = .store ty x y) (hi : (P.info? ty).map (·.size) = some n) (b : Nat) (hx : ρ x = .pointer (some ⟨b, 0, none⟩)) (c : Array Value) (hy : ρ y = .agg c) (hr : (rowN n w b).isSome = true) (hc : c.size = n) (h1 : c.all (·.oneCell') = true) : (execOp ρ o).run P w = .ok .skip (setRow w b c) := by
 have := storeVar_row (P := P) hi w b c hr hc h1
 unfold execOp
 simp only [ho, hx, hy, Instr.storeAt, Instr.sureAddr, Sem.run_bind, Sem.run_pure, Result.andThen_ok, this]
theorem setRow_ext (w : World) (b : Nat) (c : Array Value) : Ext (fun g => g = b) w (setRow w b c) := by
 refine ⟨rfl, rfl, rfl, by simp [setRow], fun g hg hn => ?_⟩
 have : b ≠ g := fun e => hn e.symm
 simp [setRow, Array.getElem?_modify, this]
theorem setRow_obj {w : World} {b : Nat} {z : Array Value} {T : TypeId} {fr : Nat × Nat} (h : w.heap[b]? = some (.cells z T fr)) (c : Array Value) : (setRow w b c).heap[b]? = some (.cells c T fr) := by
 simp [setRow, Array.getElem?_modify, h]
theorem pos_in {n : Net} (h : GNet n) {p : Plc} (hp : PosOK n p) : G64 p.off ∧ 0 ≤ p.off ∧ p.off ≤ 48 := by
 obtain ⟨r, _, hm, _, h1, h2⟩ := hp.rd
 have := len_le h hm
 exact ⟨hp.g, h1, by grind⟩
theorem cw_in {n : Net} (h : GNet n) {p q : Plc} {L : List Lg} {s : Rat} (hc : Cw n p L q s) : ∀ x ∈ L, 0 ≤ x.b ∧ x.b ≤ 48 := by
 induction hc with
 | nil => intro x hx; cases hx
 | cons h1 h2 h3 _ ih =>
  intro x hx
  rcases List.mem_cons.1 hx with rfl | hx
  ·obtain ⟨_, b2, b3⟩ := pos_in h h2.fb
   exact ⟨b2, b3⟩
  ·exact ih x hx
/-- What the change leaves in memory. -/
def ChR (b : Nat) (W wx : World) : Prop := ∃ (P Q : Plc) (L : List Lg) (l : Rat) (a : Option Addr) (m c : Nat), wx.heap[b]? = some (.cells (wcs P Q (.slice a m c) l) 46 (0, 0)) ∧ Sl wx.heap.size wx 9 (.slice a m c) (L.map Lg.cs) ∧ (Sm P.off ∧ Sm Q.off ∧ Sm l) ∧ (∀ x ∈ L, LgSm x) ∧ L.length ≤ 100 ∧ ∃ U, wx = W.junk U
theorem chr_of {b m c : Nat} {W U : World} {P Q : Plc} {L : List Lg} {l : Rat} {a : Option Addr} (hb : U.heap[b]? = some (.cells (wcs P Q (.slice a m c) l) 46 (0, 0))) (hs : Sl U.heap.size U 9 (.slice a m c) (L.map Lg.cs)) (h : Sm P.off ∧ Sm Q.off ∧ Sm l) (hl : ∀ x ∈ L, LgSm x) (hm : L.length ≤ 100) (hw : Bw W U) : ChR b W U :=
 ⟨P, Q, L, l, a, m, c, hb, hs, h, hl, hm, ex_junk⟩
theorem chr_bw {b : Nat} {W U U' : World} [h : Bw U U'] (hc : ChR b W U) : ChR b W U' := by
 obtain ⟨P, Q, L, l, a, m, c, hb, hs, h1, h2, h3, Z, hZ⟩ := hc
 haveI : Bw W U' := ⟨by rw [hZ] at h; exact (junk_below W Z).trans (h.b.mono (junk_below W Z).size)⟩
 exact ⟨P, Q, L, l, a, m, c, by rw [h.b.block b (obj_lt hb)]; exact hb, hs.later h.b, h1, h2, h3, ex_junk⟩
/-- A slice of one leg, just built. -/
theorem sl_one {w : World} {T : TypeId} {k : Nat} {cs : Array Value} (hk : w.heap.size = k) (y : Lg) (hc : cs = y.cs.toArray) : Sl (w.alloc (.cells cs T)).heap.size (w.alloc (.cells cs T)) 9 (.slice (some ⟨k, 0, none⟩) 1 1) ([y].map Lg.cs) := by
 subst hk hc
 have hR : ∀ r ∈ [y].map Lg.cs, r.length = 9 := by intro r hr; simp at hr; subst hr; rfl
 have ho : Ow w.heap.size (w.alloc (.cells y.cs.toArray T)) T 9 (.slice (some ⟨w.heap.size, 0, none⟩) 1 1) ([y].map Lg.cs) :=
  ⟨⟨rfl, .inr ⟨w.heap.size, 1, _, rfl, Nat.le_refl _, obj_last _ _, Nat.le_refl _, by decide, rfl, rfl⟩⟩, hR⟩
 exact ho.sl
theorem lgsm_b {x : Lg} {d : Rat} (h : LgSm x) (hb : 0 ≤ x.b ∧ x.b ≤ 48) (hd : G64 d ∧ -128 ≤ d ∧ d ≤ 127) : LgSm ⟨x.road, x.a, x.b + d⟩ := by
 obtain ⟨q1, q2, q3, q4, q5, q6⟩ := h
 obtain ⟨e1, e2, e3⟩ := hd
 obtain ⟨z1, z2⟩ := hb
 refine ⟨q1, g64_add q2 e1, q3, q4, ?_, ?_⟩
 ·show -1000 ≤ x.b + d; grind
 ·show x.b + d ≤ 1000; grind
theorem lgsm_one {id : Int} {d : Rat} (hd : G64 d ∧ -128 ≤ d ∧ d ≤ 127) : LgSm ⟨id, 0, d⟩ := by
 obtain ⟨e1, e2, e3⟩ := hd
 refine ⟨g64_zero, e1, by show (-1000 : Rat) ≤ 0; decide, by show (0 : Rat) ≤ 1000; decide, ?_, ?_⟩
 ·show -1000 ≤ d; grind
 ·show d ≤ 1000; grind
theorem dby {d : Rat} {z : Int} (hd : d = (z : Rat)) (h : I8 z) : G64 d ∧ -128 ≤ d ∧ d ≤ 127 := by
 have h1 : ((-128 : Int) : Rat) ≤ (z : Rat) := Rat.intCast_le_intCast.2 h.1
 have h2 : (z : Rat) ≤ ((127 : Int) : Rat) := Rat.intCast_le_intCast.2 h.2
 have e1 : ((-128 : Int) : Rat) = -128 := rfl
 have e2 : ((127 : Int) : Rat) = 127 := rfl
 rw [hd]
 exact ⟨g64_int z, by grind, by grind⟩
/-- Rows of nine cells, one of them in the making. -/
theorem ow_st {B : Nat} {w : World} {e g n cap : Nat} {R : List (List Value)} {r : List Value} {i : Nat} (hi : i < R.length) (h : Ow B w e 9 (.slice (some ⟨g, 0, none⟩) n cap) (R.set i r)) (c : Nat) (hc : c < 9) (u : Value) : Ow B (w.setCell ⟨g, i * 9 + c, none⟩ u) e 9 (.slice (some ⟨g, 0, none⟩) n cap) (R.set i (r.set c u)) := by
 have h2 := h.store i (by simpa using hi) c hc u
 simpa [List.getElem_set_self, List.set_set] using h2
theorem ow_st0 {B : Nat} {w : World} {e : Nat} {v : Value} {L : List Lg} (h : Ow B w e 9 v (L.map Lg.cs)) (i : Nat) (hi : i < L.length) : Ow B w e 9 v ((L.map Lg.cs).set i L[i]!.cs) := by
 have e1 : (L.map Lg.cs).set i L[i]!.cs = L.map Lg.cs := by
  rw [getElem!_pos L i hi]
  have h2 : (L.map Lg.cs).set i ((L.map Lg.cs)[i]'(by simpa using hi)) = L.map Lg.cs := List.set_getElem_self _
  rwa [List.getElem_map] at h2
 rw [e1]; exact h
theorem leg_to {B : Nat} {w : World} {e g n cap : Nat} {L : List Lg} (h : Ow B w e 9 (.slice (some ⟨g, 0, none⟩) n cap) (L.map Lg.cs)) (i : Nat) (hi : i < L.length) (b : Rat) :
  Ow B ((((w.setCell ⟨g, i * 9 + 5, none⟩ (.bool (zs b.num))).setCell ⟨g, i * 9 + 6, none⟩ (.string (zx b.num))).setCell ⟨g, i * 9 + 7, none⟩ (.bool false)).setCell ⟨g, i * 9 + 8, none⟩ (.string (ry b.den))) e 9 (.slice (some ⟨g, 0, none⟩) n cap) ((L.set i ⟨L[i]!.road, L[i]!.a, b⟩).map Lg.cs) := by
 have hl : i < (L.map Lg.cs).length := by simpa using hi
 have q := ow_st hl (ow_st hl (ow_st hl (ow_st hl (ow_st0 h i hi) 5 (by decide) (.bool (zs b.num))) 6 (by decide) (.string (zx b.num))) 7 (by decide) (.bool false)) 8 (by decide) (.string (ry b.den))
 rw [List.map_set]
 exact q
theorem leg_rd {B : Nat} {w : World} {e g n cap : Nat} {L : List Lg} (h : Ow B w e 9 (.slice (some ⟨g, 0, none⟩) n cap) (L.map Lg.cs)) (i : Nat) (hi : i < L.length) (id : Int) :
  Ow B (w.setCell ⟨g, i * 9, none⟩ (.int .i64 id)) e 9 (.slice (some ⟨g, 0, none⟩) n cap) ((L.set i ⟨id, L[i]!.a, L[i]!.b⟩).map Lg.cs) := by
 have hl : i < (L.map Lg.cs).length := by simpa using hi
 have q := ow_st hl (ow_st0 h i hi) 0 (by decide) (.int .i64 id)
 rw [List.map_set]
 exact q
theorem leg_all {B : Nat} {w : World} {e g n cap : Nat} {L : List Lg} (h : Ow B w e 9 (.slice (some ⟨g, 0, none⟩) n cap) (L.map Lg.cs)) (i : Nat) (hi : i < L.length) (y : Lg) :
  Ow B (((((((((w.setCell ⟨g, i * 9, none⟩ (.int .i64 y.road)).setCell ⟨g, i * 9 + 1, none⟩ (.bool (zs y.a.num))).setCell ⟨g, i * 9 + 2, none⟩ (.string (zx y.a.num))).setCell ⟨g, i * 9 + 3, none⟩ (.bool false)).setCell ⟨g, i * 9 + 4, none⟩ (.string (ry y.a.den))).setCell ⟨g, i * 9 + 5, none⟩ (.bool (zs y.b.num))).setCell ⟨g, i * 9 + 6, none⟩ (.string (zx y.b.num))).setCell ⟨g, i * 9 + 7, none⟩ (.bool false)).setCell ⟨g, i * 9 + 8, none⟩ (.string (ry y.b.den))) e 9 (.slice (some ⟨g, 0, none⟩) n cap) ((L.set i y).map Lg.cs) := by
 have hl : i < (L.map Lg.cs).length := by simpa using hi
 have q := ow_st hl (ow_st hl (ow_st hl (ow_st hl (ow_st hl (ow_st hl (ow_st hl (ow_st hl (ow_st hl (ow_st0 h i hi) 0 (by decide) (.int .i64 y.road)) 1 (by decide) (.bool (zs y.a.num))) 2 (by decide) (.string (zx y.a.num))) 3 (by decide) (.bool false)) 4 (by decide) (.string (ry y.a.den))) 5 (by decide) (.bool (zs y.b.num))) 6 (by decide) (.string (zx y.b.num))) 7 (by decide) (.bool false)) 8 (by decide) (.string (ry y.b.den))
 rw [List.map_set]
 exact q
theorem leg_cells {B : Nat} {w : World} {e g n cap : Nat} {L : List Lg} (h : Ow B w e 9 (.slice (some ⟨g, 0, none⟩) n cap) (L.map Lg.cs)) (i : Nat) (hi : i < L.length) :
  w.cell? ⟨g, i * 9, none⟩ = some (.int .i64 L[i]!.road) ∧ w.cell? ⟨g, i * 9 + 1, none⟩ = some (.bool (zs L[i]!.a.num)) ∧ w.cell? ⟨g, i * 9 + 2, none⟩ = some (.string (zx L[i]!.a.num)) ∧ w.cell? ⟨g, i * 9 + 3, none⟩ = some (.bool false) ∧ w.cell? ⟨g, i * 9 + 4, none⟩ = some (.string (ry L[i]!.a.den)) ∧ w.cell? ⟨g, i * 9 + 5, none⟩ = some (.bool (zs L[i]!.b.num)) ∧ w.cell? ⟨g, i * 9 + 6, none⟩ = some (.string (zx L[i]!.b.num)) ∧ w.cell? ⟨g, i * 9 + 7, none⟩ = some (.bool false) ∧ w.cell? ⟨g, i * 9 + 8, none⟩ = some (.string (ry L[i]!.b.den)) := by
 have hl : i < (L.map Lg.cs).length := by simpa using hi
 have hc := fun c hc => h.cell i hl c hc
 rw [List.getElem_map, ← getElem!_pos L i hi] at hc
 exact ⟨hc 0 (by decide), hc 1 (by decide), hc 2 (by decide), hc 3 (by decide), hc 4 (by decide), hc 5 (by decide), hc 6 (by decide), hc 7 (by decide), hc 8 (by decide)⟩
theorem sl_headc {B : Nat} {w : World} {k n cap b off : Nat} {R : List (List Value)} (h : Sl B w k (.slice (some ⟨b, off, none⟩) n cap) R) {p : Nat} (hp : p ≤ n) : Sl B w k (.slice (some ⟨b, off, none⟩) p cap) (R.take p) := by
 obtain ⟨a', cap', h1, h2, h3, h4, h5, h6⟩ := h
 injection h1 with e1 e2 e3
 subst e1 e2 e3
 have hl : (R.take p).length = p := by rw [List.length_take]; omega
 refine ⟨_, cap, by rw [hl], by omega, h3, fun r hr => h4 r (List.mem_of_mem_take hr), fun e => (by cases e), fun ad e => ?_⟩
 cases e
 obtain ⟨_, g2, g3⟩ := h6 _ rfl
 refine ⟨rfl, g2, fun i hi c x hx => ?_⟩
 rw [hl] at hi
 rw [List.getElem_take] at hx
 exact g3 i (by omega) c x hx
theorem lgsm_set {L : List Lg} (h : ∀ x ∈ L, LgSm x) (i : Nat) {y : Lg} (hy : LgSm y) : ∀ x ∈ L.set i y, LgSm x := by
 intro x hx
 rcases List.mem_or_eq_of_mem_set hx with g | g
 ·exact h x g
 ·rw [g]; exact hy
set_option maxRecDepth 100000 in
set_option maxHeartbeats 4000000 in
theorem chkLaw (P : List Spt) (Q : List Lne) (vp vq : Value) (xa ya xb yb cn cw cb : Int) (w : World) (hX : GrdAt w.heap.size w vp vq P Q) (hxa : Byte xa) (hya : Byte ya) (hxb : Byte xb) (hyb : Byte yb) (hcn : Byte cn) (hcw : Byte cw) (hcb : I8 cb) :
  Calls Tryz.prog 3 #[.agg #[vp, vq], .agg #[.int .u8 xa, .int .u8 ya, .int .u8 xb, .int .u8 yb], .agg #[.int .u8 cn, .int .u8 cw, .int .i8 cb]] w fun e w' => e = .returned (.bool true) ∧ Below w.heap.size w w' := by
 have HKN := known_bw w
 have HG : Hid (∀ (w' : World) [Bw w w'], Calls Tryz.prog 5 #[.agg #[vp, vq]] w' fun e w2 => (∃ (v1 v2 : Value) (n : Net), e = .returned (.agg #[v1, v2]) ∧ Ow w'.heap.size w2 71 3 v1 (n.nodes.map Nd.cs) ∧ Ow w'.heap.size w2 53 6 v2 (n.roads.map Rd.cs) ∧ GNet n) ∧ Below w'.heap.size w' w2) := Lib.hid (fun w' _ => gnet_q w' (grd_bw hX))
 clear hX
 have HCN := Lib.hid hcn
 have HCW := Lib.hid hcw
 have HCB := Lib.hid hcb
 obtain ⟨kn, hkn, kn1, kn2⟩ : ∃ k, cn.tmod 8 = k ∧ 0 ≤ k ∧ k ≤ 7 := by
  obtain ⟨_, _, s1, s2⟩ := tmodByte hcn (m := 8) (by omega) (by omega)
  exact ⟨_, rfl, s1, by omega⟩
 have hkq : cn % 8 = kn := by rw [← hkn, Int.tmod_eq_emod_of_nonneg hcn.1]
 have HKM := Lib.hid hkn
 have HKQ := Lib.hid hkq
 have HK7 := Lib.hid (show 0 ≤ kn ∧ kn ≤ 7 from ⟨kn1, kn2⟩)
 clear hcn hcw hcb hkn hkq kn1 kn2
 go_enter Tryz.func3, Tryz.ntmps3
 go_wp2_with fail
 refine (jk (HKN.out _)).mono ?_
 rintro e _ ⟨rfl, X1, rfl⟩
 go_wp2_with fail
 refine (HG.out _).mono ?_
 rintro e w2 ⟨⟨v1, v2, n, rfl, o1, o2, hn0⟩, hb2⟩
 obtain ⟨X2, rfl⟩ := below_some hb2
 have HN := Lib.hid (show NetAt _ _ v1 v2 n from ⟨o1.sl, o2.sl⟩)
 have hn := Lib.hid hn0
 obtain ⟨a1, n1, c1, rfl⟩ := o1.val
 obtain ⟨a2, n2, c2, rfl⟩ := o2.val
 have hn2 := o2.sl.len
 rw [List.length_map] at hn2
 have HN2 := Lib.hid hn2
 clear o1 o2 hb2 hn0 HG HKN hn2
 go_upto_region 4 with fail
 obtain ⟨W, hW⟩ : ∃ W, W = (((((w.alloc (.cells #[vp, vq] 25)).alloc (.cells #[.int .u8 xa, .int .u8 ya, .int .u8 xb, .int .u8 yb] 28)).alloc (.cells #[.int .u8 cn, .int .u8 cw, .int .i8 cb] 31)).junk X1).junk X2).alloc (.cells #[.slice a1 n1 c1, .slice a2 n2 c2] 36) := ⟨_, rfl⟩
 have g0 : W.cell? ⟨(((((w.alloc (.cells #[vp, vq] 25)).alloc (.cells #[.int .u8 xa, .int .u8 ya, .int .u8 xb, .int .u8 yb] 28)).alloc (.cells #[.int .u8 cn, .int .u8 cw, .int .i8 cb] 31)).junk X1).junk X2).heap.size, 0, none⟩ = some (.slice a1 n1 c1) := by rw [hW]; simp [go_sem]
 have g1 : W.cell? ⟨(((((w.alloc (.cells #[vp, vq] 25)).alloc (.cells #[.int .u8 xa, .int .u8 ya, .int .u8 xb, .int .u8 yb] 28)).alloc (.cells #[.int .u8 cn, .int .u8 cw, .int .i8 cb] 31)).junk X1).junk X2).heap.size, 1, none⟩ = some (.slice a2 n2 c2) := by rw [hW]; simp [go_sem]
 have t0 : W.cell? ⟨w.heap.size + 1, 0, none⟩ = some (.int .u8 xa) := by rw [hW]; simp [go_sem]
 have t1 : W.cell? ⟨w.heap.size + 1, 1, none⟩ = some (.int .u8 ya) := by rw [hW]; simp [go_sem]
 have t2 : W.cell? ⟨w.heap.size + 1, 2, none⟩ = some (.int .u8 xb) := by rw [hW]; simp [go_sem]
 have t3 : W.cell? ⟨w.heap.size + 1, 3, none⟩ = some (.int .u8 yb) := by rw [hW]; simp [go_sem]
 have k0 : W.cell? ⟨w.heap.size + 1 + 1, 0, none⟩ = some (.int .u8 cn) := by rw [hW]; simp [go_sem]
 have k1 : W.cell? ⟨w.heap.size + 1 + 1, 1, none⟩ = some (.int .u8 cw) := by rw [hW]; simp [go_sem]
 have k2 : W.cell? ⟨w.heap.size + 1 + 1, 2, none⟩ = some (.int .i8 cb) := by rw [hW]; simp [go_sem]
 haveI lb : Lo (((((w.alloc (.cells #[vp, vq] 25)).alloc (.cells #[.int .u8 xa, .int .u8 ya, .int .u8 xb, .int .u8 yb] 28)).alloc (.cells #[.int .u8 cn, .int .u8 cw, .int .i8 cb] 31)).junk X1).junk X2).heap.size W := by rw [hW]; infer_instance
 haveI lq : Lo (w.heap.size + 1) W := by rw [hW]; infer_instance
 haveI lc : Lo (w.heap.size + 1 + 1) W := by rw [hW]; infer_instance
 haveI bw : Bw w W := by rw [hW]; infer_instance
 have HNW : Hid (NetAt W.heap.size W (.slice a1 n1 c1) (.slice a2 n2 c2) n) := Lib.hid (by rw [hW]; exact HN.out.later Bw.b)
 rw [← hW]
 clear hW HN
 generalize (((((w.alloc (.cells #[vp, vq] 25)).alloc (.cells #[.int .u8 xa, .int .u8 ya, .int .u8 xb, .int .u8 yb] 28)).alloc (.cells #[.int .u8 cn, .int .u8 cw, .int .i8 cb] 31)).junk X1).junk X2).heap.size = bx at *
 generalize w.heap.size + 1 + 1 = bc at *
 generalize w.heap.size + 1 = bq at *
 have HPa0 : Hid (∀ (w' : World) [Bw W w'], Calls Tryz.prog 7 #[.agg #[.slice a1 n1 c1, .slice a2 n2 c2], .agg #[.int .u8 xa, .int .u8 ya]] w' fun e w2 => e = .returned (placeN n xa ya).v ∧ Below w'.heap.size w' w2) := Lib.hid (fun w' _ => place_q hn.out _ _ hxa hya w' (later_bw HNW.out))
 have HPb0 : Hid (∀ (w' : World) [Bw W w'], Calls Tryz.prog 7 #[.agg #[.slice a1 n1 c1, .slice a2 n2 c2], .agg #[.int .u8 xb, .int .u8 yb]] w' fun e w2 => e = .returned (placeN n xb yb).v ∧ Below w'.heap.size w' w2) := Lib.hid (fun w' _ => place_q hn.out _ _ hxb hyb w' (later_bw HNW.out))
 have hcu : Byte (IntKind.u8.wrap cb) := by unfold Byte; rw [IntKind.wrap_u8]; omega
 obtain ⟨cu, hcue⟩ : ∃ u, IntKind.u8.wrap cb = u := ⟨_, rfl⟩
 rw [hcue] at hcu
 have HCU := Lib.hid hcue
 have HPC0 : Hid (∀ (w' : World) [Bw W w'], Calls Tryz.prog 7 #[.agg #[.slice a1 n1 c1, .slice a2 n2 c2], .agg #[.int .u8 cw, .int .u8 cu]] w' fun e w2 => e = .returned (placeN n cw cu).v ∧ Below w'.heap.size w' w2) := Lib.hid (fun w' _ => place_q hn.out _ _ HCW.out hcu w' (later_bw HNW.out))
 have OKA := Lib.hid (place_ok hn.out hxa hya)
 have OKB := Lib.hid (place_ok hn.out hxb hyb)
 have OKC := Lib.hid (place_ok hn.out HCW.out hcu)
 generalize placeN n xa ya = pa at *
 generalize placeN n xb yb = pb at *
 generalize placeN n cw cu = pz at *
 unfold Plc.v at HPa0 HPb0 HPC0
 have HPa := Lib.hid HPa0.out
 have HPb := Lib.hid HPb0.out
 have HPC := Lib.hid HPC0.out
 clear HPa0 HPb0 HPC0 hxa hya hxb hyb hcu hcue
 have HLW : Hid (∀ (w' : World) [Bw W w'], _) := Lib.hid (fun w' _ => btwL_q hn.out _ _ OKA.out OKB.out w' (later_bw HNW.out))
 rw [btwL_eq hn.out OKA.out OKB.out] at HLW
 have HWY := Lib.hid (bw_way hn.out OKA.out OKB.out)
 have HFW := Lib.hid (bw_few hn.out OKA.out OKB.out)
 have HDE := Lib.hid (dst_err OKA.out OKB.out)
 generalize betweenN n (rtN n) pa pb = bw0 at *
 obtain ⟨⟨Pw, Qw, L, l⟩, kb⟩ := bw0
 simp only at HLW HWY HFW HDE
 obtain ⟨ok, hok⟩ : ∃ o, decide (kb = 0) = o := ⟨_, rfl⟩
 rw [hok] at HLW
 have HOK := Lib.hid hok
 clear hok
 unfold BtlOut at HLW
 simp only at HLW
 refine wp_flow2 [(14, [13])] [(10, [9]), (11, [10]), (14, [13, 11])] [(3, [2]), (4, [1, 3]), (7, [6]), (8, [5, 7]), (9, [0, 4, 8]), (10, [9]), (11, [10]), (12, [10]), (14, [13, 11]), (15, [12])] [(0, some 18), (1, some 19), (2, some 20), (3, some 21), (4, some 22), (5, some 23), (6, some 24), (7, some 25), (8, some 26), (9, some 27), (10, some 17), (11, some 28), (12, some 29), (13, some 8), (14, none), (15, some 9)] [(7, .pointer (some ⟨bx, 0, none⟩)), (4, .pointer (some ⟨bq, 0, none⟩))] [.val (.agg #[.slice a1 n1 c1, .slice a2 n2 c2]), .val (.agg #[.slice a1 n1 c1, .slice a2 n2 c2]), .val (.pointer (some ⟨bq, 0, none⟩)), .val (.agg #[.int .u8 xa, .int .u8 ya]), .val (.agg #[.int .i64 pa.road, .bool (zs pa.off.num), .string (zx pa.off.num), .bool false, .string (ry pa.off.den)]), .val (.agg #[.slice a1 n1 c1, .slice a2 n2 c2]), .val (.pointer (some ⟨bq, 2, none⟩)), .val (.agg #[.int .u8 xb, .int .u8 yb]), .val (.agg #[.int .i64 pb.road, .bool (zs pb.off.num), .string (zx pb.off.num), .bool false, .string (ry pb.off.den)]), .sub (TwF Pw Qw l ok) 55 9 (L.map Lg.cs), .rel (fun f => f 10 = f 9 ∧ ∃ a m c, f 10 = TwF Pw Qw l ok (.slice a m c)), .rel (fun f => ∃ a m c, f 10 = TwF Pw Qw l ok (.slice a m c) ∧ f 11 = .agg #[.int .i64 Pw.road, .bool (zs Pw.off.num), .string (zx Pw.off.num), .bool false, .string (ry Pw.off.den), .int .i64 Qw.road, .bool (zs Qw.off.num), .string (zx Qw.off.num), .bool false, .string (ry Qw.off.den), .slice a m c, .bool (zs l.num), .string (zx l.num), .bool false, .string (ry l.den)]), .val (.bool ok), .box 46 13 (fun _ => #[.int .i64 0, .bool false, .string ⟨#[]⟩, .bool false, .string ⟨#[]⟩, .int .i64 0, .bool false, .string ⟨#[]⟩, .bool false, .string ⟨#[]⟩, .slice none 0 0, .bool false, .string ⟨#[]⟩, .bool false, .string ⟨#[]⟩]), .box 46 13 (fun f => agOf (f 11)), .val (.bool ok)] (by kernel_rfl) (by kernel_rfl) (by kernel_rfl) (by kernel_rfl) (by kernel_rfl) ⟨rfl, rfl, trivial⟩ ⟨trivial, trivial, trivial, trivial, trivial, trivial, trivial, trivial, trivial, trivial, (fun f f' h hR => by have q := h 10 (.inl rfl); have q9 := h 9 (.inr (by decide)); show f' 10 = f' 9 ∧ ∃ a m c, f' 10 = TwF Pw Qw l ok (.slice a m c); rw [← q, ← q9]; exact hR), (fun f f' h hR => by have q := h 11 (.inl rfl); have q9 := h 10 (.inr (by decide)); show ∃ a m c, f' 10 = TwF Pw Qw l ok (.slice a m c) ∧ f' 11 = .agg #[.int .i64 Pw.road, .bool (zs Pw.off.num), .string (zx Pw.off.num), .bool false, .string (ry Pw.off.den), .int .i64 Qw.road, .bool (zs Qw.off.num), .string (zx Qw.off.num), .bool false, .string (ry Qw.off.den), .slice a m c, .bool (zs l.num), .string (zx l.num), .bool false, .string (ry l.den)]; rw [← q, ← q9]; exact hR), trivial, ⟨.inl rfl, fun _ _ _ => rfl⟩, ⟨.inr (by decide), fun f f' h => by have q := h 11 (.inr (by decide)); simp only [q]⟩, trivial, trivial⟩ ?_ ?_
 ·refine ⟨?_, ?_, ?_, ?_, ?_, ?_, ?_, ?_, ?_, ?_, ?_, ?_, ?_, ?_, ?_, ?_, trivial⟩
  ·intro f ρ w' S hd hx hc hB hA hD
   have h7 : ρ (.tmp 7) = .pointer (some ⟨bx, 0, none⟩) := hx (7, .pointer (some ⟨bx, 0, none⟩)) (by simp)
   have n0' := (hB.cell (p := ⟨bx, 0, none⟩) lb.lt).trans g0
   have e1' := (hB.cell (p := ⟨bx, 1, none⟩) lb.lt).trans g1
   refine fl_val (by rfl) (by rfl) ?_
   simp [execOp, go_sem, h7, n0', e1']
  ·intro f ρ w' S hd hx hc hB hA hD
   have h7 : ρ (.tmp 7) = .pointer (some ⟨bx, 0, none⟩) := hx (7, .pointer (some ⟨bx, 0, none⟩)) (by simp)
   have n0' := (hB.cell (p := ⟨bx, 0, none⟩) lb.lt).trans g0
   have e1' := (hB.cell (p := ⟨bx, 1, none⟩) lb.lt).trans g1
   refine fl_val (by rfl) (by rfl) ?_
   simp [execOp, go_sem, h7, n0', e1']
  ·intro f ρ w' S hd hx hc hB hA hD
   have h4 : ρ (.tmp 4) = .pointer (some ⟨bq, 0, none⟩) := hx (4, .pointer (some ⟨bq, 0, none⟩)) (by simp)
   refine fl_val (by rfl) (by rfl) ?_
   simp [execOp, go_sem, h4, hc.1]
  ·intro f ρ w' S hd hx hc hB hA hD
   have h20 : ρ (.tmp 20) = .pointer (some ⟨bq, 0, none⟩) := (hd 2 20 (by decide)).trans (hA 2 (by decide)).1
   have u0' := (hB.cell (p := ⟨bq, 0, none⟩) lq.lt).trans t0
   have u1' := (hB.cell (p := ⟨bq, 1, none⟩) lq.lt).trans t1
   refine fl_val (by rfl) (by rfl) ?_
   simp [execOp, go_sem, h20, u0', u1']
  ·intro f ρ w' S hd hx hc hB hA hD
   have h19 : ρ (.tmp 19) = .agg #[.slice a1 n1 c1, .slice a2 n2 c2] := (hd 1 19 (by decide)).trans (hA 1 (by decide)).1
   have h21 : ρ (.tmp 21) = .agg #[.int .u8 xa, .int .u8 ya] := (hd 3 21 (by decide)).trans (hA 3 (by decide)).1
   haveI : Bw W w' := ⟨hB⟩
   exact fl_call (by rfl) (by rfl) (by simp [execOp, go_sem, h19, h21, hc.1, hc.2]) (HPa.out w')
  ·intro f ρ w' S hd hx hc hB hA hD
   have h7 : ρ (.tmp 7) = .pointer (some ⟨bx, 0, none⟩) := hx (7, .pointer (some ⟨bx, 0, none⟩)) (by simp)
   have n0' := (hB.cell (p := ⟨bx, 0, none⟩) lb.lt).trans g0
   have e1' := (hB.cell (p := ⟨bx, 1, none⟩) lb.lt).trans g1
   refine fl_val (by rfl) (by rfl) ?_
   simp [execOp, go_sem, h7, n0', e1']
  ·intro f ρ w' S hd hx hc hB hA hD
   have h4 : ρ (.tmp 4) = .pointer (some ⟨bq, 0, none⟩) := hx (4, .pointer (some ⟨bq, 0, none⟩)) (by simp)
   refine fl_val (by rfl) (by rfl) ?_
   simp [execOp, go_sem, h4, hc.1]
  ·intro f ρ w' S hd hx hc hB hA hD
   have h24 : ρ (.tmp 24) = .pointer (some ⟨bq, 2, none⟩) := (hd 6 24 (by decide)).trans (hA 6 (by decide)).1
   have u2' := (hB.cell (p := ⟨bq, 2, none⟩) lq.lt).trans t2
   have u3' := (hB.cell (p := ⟨bq, 3, none⟩) lq.lt).trans t3
   refine fl_val (by rfl) (by rfl) ?_
   simp [execOp, go_sem, h24, u2', u3']
  ·intro f ρ w' S hd hx hc hB hA hD
   have h23 : ρ (.tmp 23) = .agg #[.slice a1 n1 c1, .slice a2 n2 c2] := (hd 5 23 (by decide)).trans (hA 5 (by decide)).1
   have h25 : ρ (.tmp 25) = .agg #[.int .u8 xb, .int .u8 yb] := (hd 7 25 (by decide)).trans (hA 7 (by decide)).1
   haveI : Bw W w' := ⟨hB⟩
   exact fl_call (by rfl) (by rfl) (by simp [execOp, go_sem, h23, h25, hc.1, hc.2]) (HPb.out w')
  ·intro f ρ w' S hd hx hc hB hA hD
   have h18 : ρ (.tmp 18) = .agg #[.slice a1 n1 c1, .slice a2 n2 c2] := (hd 0 18 (by decide)).trans (hA 0 (by decide)).1
   have h22 : ρ (.tmp 22) = .agg #[.int .i64 pa.road, .bool (zs pa.off.num), .string (zx pa.off.num), .bool false, .string (ry pa.off.den)] := (hd 4 22 (by decide)).trans (hA 4 (by decide)).1
   have h26 : ρ (.tmp 26) = .agg #[.int .i64 pb.road, .bool (zs pb.off.num), .string (zx pb.off.num), .bool false, .string (ry pb.off.den)] := (hd 8 26 (by decide)).trans (hA 8 (by decide)).1
   haveI : Bw W w' := ⟨hB⟩
   refine fl_call_sub (by rfl) (by rfl) hB.size (by simp [execOp, go_sem, h18, h22, h26, hc.1, hc.2]) ((HLW.out w').mono ?_)
   rintro e w2 ⟨v, he, ho, hb⟩
   exact ⟨⟨v, he, ho⟩, hb⟩
  ·intro f ρ w' S hd hx hc hB hA hD
   obtain ⟨v, q1, q2, q3⟩ := (hA 9 (by decide)).1
   obtain ⟨a, m, c, rfl⟩ := q3.val
   have h27 : ρ (.tmp 27) = TwF Pw Qw l ok (.slice a m c) := (hd 9 27 (by decide)).trans q1
   refine fl_rel (v := TwF Pw Qw l ok (.slice a m c)) (by rfl) (by rfl) ?_ (fun f' hf e => by show f' 10 = f' 9 ∧ ∃ a m c, f' 10 = TwF Pw Qw l ok (.slice a m c); exact ⟨e.trans (q1.symm.trans (hf 9 (by decide)).symm), a, m, c, e⟩)
   simp [execOp, go_sem, h27]
  ·intro f ρ w' S hd hx hc hB hA hD
   obtain ⟨q0, a, m, c, q1⟩ := (hA 10 (by decide)).1
   have h17 : ρ (.tmp 17) = TwF Pw Qw l ok (.slice a m c) := (hd 10 17 (by decide)).trans q1
   unfold TwF wcs at h17
   refine fl_rel (v := .agg #[.int .i64 Pw.road, .bool (zs Pw.off.num), .string (zx Pw.off.num), .bool false, .string (ry Pw.off.den), .int .i64 Qw.road, .bool (zs Qw.off.num), .string (zx Qw.off.num), .bool false, .string (ry Qw.off.den), .slice a m c, .bool (zs l.num), .string (zx l.num), .bool false, .string (ry l.den)]) (by rfl) (by rfl) ?_ (fun f' hf e => by show ∃ a m c, f' 10 = TwF Pw Qw l ok (.slice a m c) ∧ f' 11 = .agg #[.int .i64 Pw.road, .bool (zs Pw.off.num), .string (zx Pw.off.num), .bool false, .string (ry Pw.off.den), .int .i64 Qw.road, .bool (zs Qw.off.num), .string (zx Qw.off.num), .bool false, .string (ry Qw.off.den), .slice a m c, .bool (zs l.num), .string (zx l.num), .bool false, .string (ry l.den)]; exact ⟨a, m, c, (hf 10 (by decide)).trans q1, e⟩)
   simp [execOp, go_sem, h17]
  ·intro f ρ w' S hd hx hc hB hA hD
   obtain ⟨q0, a, m, c, q1⟩ := (hA 10 (by decide)).1
   have h17 : ρ (.tmp 17) = TwF Pw Qw l ok (.slice a m c) := (hd 10 17 (by decide)).trans q1
   unfold TwF wcs at h17
   refine fl_val (by rfl) (by rfl) ?_
   simp [execOp, go_sem, h17]
  ·intro f ρ w' S hd hx hc hB hA hD
   refine fl_box (by rfl) (by rfl) hB.size (fun _ _ => rfl) ?_
   simp [execOp, go_sem]
  ·intro f ρ w' S hd hx hc hB hA hD
   obtain ⟨b, p1, p2, p3, p4⟩ := (hA 13 (by decide)).1
   obtain ⟨a, m, c, f10, f11⟩ := (hA 11 (by decide)).1
   have h8 : ρ (.tmp 8) = .pointer (some ⟨b, 0, none⟩) := (hd 13 8 (by decide)).trans p1
   have h28 : ρ (.tmp 28) = .agg #[.int .i64 Pw.road, .bool (zs Pw.off.num), .string (zx Pw.off.num), .bool false, .string (ry Pw.off.den), .int .i64 Qw.road, .bool (zs Qw.off.num), .string (zx Qw.off.num), .bool false, .string (ry Qw.off.den), .slice a m c, .bool (zs l.num), .string (zx l.num), .bool false, .string (ry l.den)] := (hd 11 28 (by decide)).trans f11
   refine fl_store (w' := setRow w' b #[.int .i64 Pw.road, .bool (zs Pw.off.num), .string (zx Pw.off.num), .bool false, .string (ry Pw.off.den), .int .i64 Qw.road, .bool (zs Qw.off.num), .string (zx Qw.off.num), .bool false, .string (ry Qw.off.den), .slice a m c, .bool (zs l.num), .string (zx l.num), .bool false, .string (ry l.den)]) (by rfl) (by decide) ⟨13, by decide, p2⟩ p1 p3 (obj_lt p4) (fun f' hf => by rw [hf 11 (by decide)]) ?_ (setRow_ext _ _ _) ?_
   ·exact exec_store_row (by rfl) iWy b h8 _ h28 (by unfold rowN; rw [p4]; rfl) rfl (by simp [Value.oneCell'])
   ·rw [f11]; exact setRow_obj p4 _
  ·intro f ρ w' S hd hx hc hB hA hD
   have h29 : ρ (.tmp 29) = .bool ok := (hd 12 29 (by decide)).trans (hA 12 (by decide)).1
   refine fl_val (by rfl) (by rfl) ?_
   simp [execOp, go_sem, h29]
 ·intro f w' S hB hS hD
  obtain ⟨v, q1, q2, q3⟩ := (hS 9 (by kernel_rfl)).1
  obtain ⟨q4, _⟩ := (hS 10 (by kernel_rfl)).1
  obtain ⟨av, nv, cv, q5, q6⟩ := (hS 11 (by kernel_rfl)).1
  obtain ⟨b8, p1, _, p3, p4⟩ := (hS 14 (by kernel_rfl)).1
  have fv : f 15 = .bool ok := (hS 15 (by kernel_rfl)).1
  have hv : v = .slice av nv cv := by
   have e := q1.symm.trans (q4.symm.trans q5)
   simpa [TwF, wcs] using e
  subst hv
  simp only [q6, agOf] at p4
  simp only [putAll, Act.put, List.setIfInBounds_toArray, List.set_cons_zero, List.set_cons_succ]
  rw [p1, fv]
  obtain ⟨X, rfl⟩ := below_some hB
  haveI bv : Bw W (W.junk X) := ⟨hB⟩
  haveI bwv : Bw w (W.junk X) := ⟨bw.b.trans (hB.mono bw.b.size)⟩
  have v0 := (hB.cell (p := ⟨bx, 0, none⟩) lb.lt).trans g0
  have v1' := (hB.cell (p := ⟨bx, 1, none⟩) lb.lt).trans g1
  have m0 := (hB.cell (p := ⟨bc, 0, none⟩) lc.lt).trans k0
  have m1 := (hB.cell (p := ⟨bc, 1, none⟩) lc.lt).trans k1
  have m2 := (hB.cell (p := ⟨bc, 2, none⟩) lc.lt).trans k2
  haveI lbv : Lo bx (W.junk X) := ⟨Nat.lt_of_lt_of_le lb.lt hB.size⟩
  haveI lcv : Lo bc (W.junk X) := ⟨Nat.lt_of_lt_of_le lc.lt hB.size⟩
  have HB := Lib.hid p4
  have HO := Lib.hid q3
  have hb8 := p3
  clear hS hB hD q1 q2 q3 q4 q5 q6 p1 p3 p4 fv HPa HPb HLW t0 t1 t2 t3
  generalize W.junk X = V at *
  haveI l8v : Lo b8 V := ⟨obj_lt HB.out⟩
  cases ok with
  | false =>
   clear HWY HFW HDE HOK
   go_wp2_with fail
   go_ret
   exact ⟨rfl, Bw.b⟩
  | true =>
   have hk0 : kb = 0 := by simpa using HOK.out
   subst hk0
   clear HOK
   obtain ⟨L', l', hq0, hcw⟩ := HWY.out rfl
   injection hq0 with hq0 _
   injection hq0 with qq1 qq2 qq3 qq4
   subst qq1 qq2 qq3 qq4
   have hd : dstN n Pw Qw = some l := by
    rcases HDE.out with ⟨_, hd⟩ | ⟨h31, _⟩
    ·exact hd
    ·cases h31
   have HLG := Lib.hid (cw_sm hn.out hcw)
   have HLM : Hid (L.length ≤ 100) := Lib.hid (by have h := HFW.out; omega)
   obtain ⟨hl1, hl2, hl3⟩ := dst_in hn.out OKA.out OKB.out hd
   obtain ⟨hp1, hp2, hp3⟩ := pos_in hn.out OKA.out
   obtain ⟨d, hdd⟩ : ∃ d, d = ((cb : Int) : Rat) := ⟨_, rfl⟩
   obtain ⟨gd, d1, d2⟩ := dby hdd HCB.out
   have sd : Sm d := sm_g64 gd (by grind) (by grind)
   have sl : Sm l := sm_g64 hl1 (by grind) (by grind)
   have sp : Sm Pw.off := sm_posB hn.out OKA.out
   have sq : Sm Qw.off := sm_posB hn.out OKB.out
   have sz : Sm pz.off := sm_posB hn.out OKC.out
   have sl' : Sm (l + d) := sm_g64 (g64_add hl1 gd) (by grind) (by grind)
   have sp' : Sm (Pw.off + d) := sm_g64 (g64_add hp1 gd) (by grind) (by grind)
   have HWH : Hid (∀ w' : World, _) := Lib.hid (fun w' : World => whole_q cb w' (by have := HCB.out; unfold I8 at this; omega))
   rw [← hdd] at HWH
   have HAL := Lib.hid (fun w' : World => add_q l d w' sl sd)
   have HAP := Lib.hid (fun w' : World => add_q Pw.off d w' sp sd)
   have HAB : Hid (∀ x ∈ L, ∀ w' : World, _) := Lib.hid (fun x hx w' => add_q x.b d w' (sm_g64 (HLG.out x hx).2.1 (by have := (HLG.out x hx).2.2.2.2.1; grind) (by have := (HLG.out x hx).2.2.2.2.2; grind)) sd)
   have HLB : Hid (∀ x ∈ L, 0 ≤ x.b ∧ x.b ≤ 48) := Lib.hid (cw_in hn.out hcw)
   have HGD := Lib.hid (show G64 d ∧ -128 ≤ d ∧ d ≤ 127 from ⟨gd, d1, d2⟩)
   have HSM := Lib.hid (show Sm Pw.off ∧ Sm Qw.off ∧ Sm l from ⟨sp, sq, sl⟩)
   have HSZ := Lib.hid sz
   have HSL := Lib.hid sl'
   have HSP := Lib.hid sp'
   simp only [rV] at HWH HAL HAP HAB
   clear HWY HFW HDE hcw hd hl1 hl2 hl3 hp1 hp2 hp3 gd d1 d2 sd sl sp sq sz sl' sp' hdd OKA OKB OKC
   have hwb : IntKind.i64.wrap cb = cb := IntWalk.i64_in _ (by have := HCB.out; unfold I8 at this; omega)
   have hww : IntKind.i64.wrap cw = cw := IntWalk.i64_in _ (by have := HCW.out; unfold Byte at this; omega)
   go_wp2_with fail
   refine (jk (HWH.out _)).mono ?_
   rintro e _ ⟨rfl, X5, rfl⟩
   clear HWH
   go_upto_block 0 with fail
   obtain ⟨U0, hU⟩ : ∃ U0, U0 = ((V.junk X5).alloc (.cells #[.bool (zs d.num), .string (zx d.num), .bool false, .string (ry d.den)] 41)) := ⟨_, rfl⟩
   haveI bvu : Bw V U0 := by rw [hU]; infer_instance
   haveI bU : Bw W U0 := ⟨bv.b.trans (bvu.b.mono bv.b.size)⟩
   haveI bwu : Bw w U0 := ⟨bwv.b.trans (bvu.b.mono bwv.b.size)⟩
   have HD4 : Hid (U0.heap[(V.junk X5).heap.size]? = some (.cells #[.bool (zs d.num), .string (zx d.num), .bool false, .string (ry d.den)] 41 (0, 0))) := Lib.hid (by rw [hU]; exact obj_last _ _)
   have HBU : Hid (U0.heap[b8]? = some (.cells #[.int .i64 Pw.road, .bool (zs Pw.off.num), .string (zx Pw.off.num), .bool false, .string (ry Pw.off.den), .int .i64 Qw.road, .bool (zs Qw.off.num), .string (zx Qw.off.num), .bool false, .string (ry Qw.off.den), .slice av nv cv, .bool (zs l.num), .string (zx l.num), .bool false, .string (ry l.den)] 46 (0, 0))) := Lib.hid (by rw [hU]; exact obj_old (obj_junk HB.out))
   have HOU : Hid (Ow W.heap.size U0 55 9 (.slice av nv cv) (L.map Lg.cs)) := Lib.hid (by rw [hU]; exact HO.out.keep Bw.b)
   have HNU : Hid (NetAt U0.heap.size U0 (.slice a1 n1 c1) (.slice a2 n2 c2) n) := Lib.hid (later_bw HNW.out)
   have g0u := (bvu.b.cell (p := ⟨bx, 0, none⟩) lbv.lt).trans v0
   have g1u := (bvu.b.cell (p := ⟨bx, 1, none⟩) lbv.lt).trans v1'
   have k0u := (bvu.b.cell (p := ⟨bc, 0, none⟩) lcv.lt).trans m0
   have k1u := (bvu.b.cell (p := ⟨bc, 1, none⟩) lcv.lt).trans m1
   have k2u := (bvu.b.cell (p := ⟨bc, 2, none⟩) lcv.lt).trans m2
   haveI lbu : Lo bx U0 := ⟨Nat.lt_of_lt_of_le lbv.lt bvu.b.size⟩
   haveI lcu : Lo bc U0 := ⟨Nat.lt_of_lt_of_le lcv.lt bvu.b.size⟩
   haveI l8u : Lo b8 U0 := ⟨obj_lt HBU.out⟩
   haveI l10 : Lo (V.junk X5).heap.size U0 := ⟨obj_lt HD4.out⟩
   rw [← hU]
   generalize (V.junk X5).heap.size = b10 at *
   clear hU v0 v1' m0 m1 m2 lbv lcv l8v HB HO bvu bv bwv k0 k1 k2
   have hne : (.slice av nv cv : Value).ownBlock ≠ some b8 := fun h => absurd (HOU.out.type b8 h _ _ _ HBU.out) (by decide)
   have HLN : Hid (L.length = nv) := Lib.hid (by have h := HOU.out.sl.len; rwa [List.length_map] at h)
   go_cut [] (fun wx => ChR b8 W wx)
   case first =>
    have hk07 := HK7.out
    have hkc : kn = 0 ∨ kn = 1 ∨ kn = 2 ∨ 3 ≤ kn := by omega
    rcases hkc with rfl | rfl | rfl | hk3
    ·have hk1 : cn.tmod 8 = 0 := HKM.out
     have hk2 : cn % 8 = 0 := HKQ.out
     obtain ⟨hcn1, hcn2⟩ := HCN.out
     have y11 := obj_cell HBU.out 11
     have y12 := obj_cell HBU.out 12
     have y13 := obj_cell HBU.out 13
     have y14 := obj_cell HBU.out 14
     have f11 := obj_free HBU.out 11
     have f12 := obj_free HBU.out 12
     have f13 := obj_free HBU.out 13
     have f14 := obj_free HBU.out 14
     simp at y11 y12 y13 y14
     have d0 := obj_cell HD4.out 0
     have d1 := obj_cell HD4.out 1
     have d2 := obj_cell HD4.out 2
     have d3 := obj_cell HD4.out 3
     simp at d0 d1 d2 d3
     haveI s0 : Bw W ((((U0.setCell ⟨b8, 11, none⟩ (.bool (zs (l + d).num))).setCell ⟨b8, 12, none⟩ (.string (zx (l + d).num))).setCell ⟨b8, 13, none⟩ (.bool false)).setCell ⟨b8, 14, none⟩ (.string (ry (l + d).den))) := ⟨((((bU.b.setCell hb8 _).setCell hb8 _).setCell hb8 _).setCell hb8 _)⟩
     generalize l + d = l' at *
     go_wp2_with fail
     refine (jk (HAL.out _)).mono ?_
     rintro e _ ⟨rfl, X6, rfl⟩
     go_wp2_with fail
     go_meet
     refine chr_bw (U := ((((U0.setCell ⟨b8, 11, none⟩ (.bool (zs l'.num))).setCell ⟨b8, 12, none⟩ (.string (zx l'.num))).setCell ⟨b8, 13, none⟩ (.bool false)).setCell ⟨b8, 14, none⟩ (.string (ry l'.den)))) ?_
     exact chr_of (P := Pw) (Q := Qw) (L := L) (l := l') (by rw [obj_set (obj_set (obj_set (obj_set (HBU.out))))]; simp [wcs]) ((((HOU.out.keepSet ⟨b8, 11, none⟩ hne _).keepSet ⟨b8, 12, none⟩ hne _).keepSet ⟨b8, 13, none⟩ hne _).keepSet ⟨b8, 14, none⟩ hne _).sl ⟨HSM.out.1, HSM.out.2.1, HSL.out⟩ HLG.out HLM.out s0
    ·have hk1 : cn.tmod 8 = 1 := HKM.out
     have hk2 : cn % 8 = 1 := HKQ.out
     obtain ⟨hcn1, hcn2⟩ := HCN.out
     have y1 := obj_cell HBU.out 1
     have y2 := obj_cell HBU.out 2
     have y3 := obj_cell HBU.out 3
     have y4 := obj_cell HBU.out 4
     have f1 := obj_free HBU.out 1
     have f2 := obj_free HBU.out 2
     have f3 := obj_free HBU.out 3
     have f4 := obj_free HBU.out 4
     simp at y1 y2 y3 y4
     have d0 := obj_cell HD4.out 0
     have d1 := obj_cell HD4.out 1
     have d2 := obj_cell HD4.out 2
     have d3 := obj_cell HD4.out 3
     simp at d0 d1 d2 d3
     haveI s0 : Bw W ((((U0.setCell ⟨b8, 1, none⟩ (.bool (zs (Pw.off + d).num))).setCell ⟨b8, 2, none⟩ (.string (zx (Pw.off + d).num))).setCell ⟨b8, 3, none⟩ (.bool false)).setCell ⟨b8, 4, none⟩ (.string (ry (Pw.off + d).den))) := ⟨((((bU.b.setCell hb8 _).setCell hb8 _).setCell hb8 _).setCell hb8 _)⟩
     generalize Pw.off + d = l' at *
     go_wp2_with fail
     refine (jk (HAP.out _)).mono ?_
     rintro e _ ⟨rfl, X6, rfl⟩
     go_wp2_with fail
     go_meet
     refine chr_bw (U := ((((U0.setCell ⟨b8, 1, none⟩ (.bool (zs l'.num))).setCell ⟨b8, 2, none⟩ (.string (zx l'.num))).setCell ⟨b8, 3, none⟩ (.bool false)).setCell ⟨b8, 4, none⟩ (.string (ry l'.den)))) ?_
     exact chr_of (P := ⟨Pw.road, l'⟩) (Q := Qw) (L := L) (l := l) (by rw [obj_set (obj_set (obj_set (obj_set (HBU.out))))]; simp [wcs]) ((((HOU.out.keepSet ⟨b8, 1, none⟩ hne _).keepSet ⟨b8, 2, none⟩ hne _).keepSet ⟨b8, 3, none⟩ hne _).keepSet ⟨b8, 4, none⟩ hne _).sl ⟨HSP.out, HSM.out.2.1, HSM.out.2.2⟩ HLG.out HLM.out s0
    ·have hk1 : cn.tmod 8 = 2 := HKM.out
     have hk2 : cn % 8 = 2 := HKQ.out
     obtain ⟨hcn1, hcn2⟩ := HCN.out
     have y5 := obj_cell HBU.out 5
     have y6 := obj_cell HBU.out 6
     have y7 := obj_cell HBU.out 7
     have y8 := obj_cell HBU.out 8
     have y9 := obj_cell HBU.out 9
     have f5 := obj_free HBU.out 5
     have f6 := obj_free HBU.out 6
     have f7 := obj_free HBU.out 7
     have f8 := obj_free HBU.out 8
     have f9 := obj_free HBU.out 9
     simp at y5 y6 y7 y8 y9
     have hcu := HCU.out
     haveI s0 : Bw W (((((U0.setCell ⟨b8, 5, none⟩ (.int .i64 pz.road)).setCell ⟨b8, 6, none⟩ (.bool (zs pz.off.num))).setCell ⟨b8, 7, none⟩ (.string (zx pz.off.num))).setCell ⟨b8, 8, none⟩ (.bool false)).setCell ⟨b8, 9, none⟩ (.string (ry pz.off.den))) := ⟨(((((bU.b.setCell hb8 _).setCell hb8 _).setCell hb8 _).setCell hb8 _).setCell hb8 _)⟩
     go_wp2_with fail
     refine (jk (HPC.out _)).mono ?_
     rintro e _ ⟨rfl, X6, rfl⟩
     go_wp2_with fail
     go_meet
     refine chr_bw (U := (((((U0.setCell ⟨b8, 5, none⟩ (.int .i64 pz.road)).setCell ⟨b8, 6, none⟩ (.bool (zs pz.off.num))).setCell ⟨b8, 7, none⟩ (.string (zx pz.off.num))).setCell ⟨b8, 8, none⟩ (.bool false)).setCell ⟨b8, 9, none⟩ (.string (ry pz.off.den)))) ?_
     exact chr_of (P := Pw) (Q := pz) (L := L) (l := l) (by rw [obj_set (obj_set (obj_set (obj_set (obj_set (HBU.out)))))]; simp [wcs]) (((((HOU.out.keepSet ⟨b8, 5, none⟩ hne _).keepSet ⟨b8, 6, none⟩ hne _).keepSet ⟨b8, 7, none⟩ hne _).keepSet ⟨b8, 8, none⟩ hne _).keepSet ⟨b8, 9, none⟩ hne _).sl ⟨HSM.out.1, HSZ.out, HSM.out.2.2⟩ HLG.out HLM.out s0
    ·rcases (show nv = 0 ∨ ¬ nv = 0 by omega) with hnv0 | hnv0
     ·subst hnv0
      have hk1 : cn.tmod 8 = kn := HKM.out
      have hk2 : cn % 8 = kn := HKQ.out
      obtain ⟨hcn1, hcn2⟩ := HCN.out
      have hkw : IntKind.u8.wrap kn = kn := IntWalk.u8_in _ (by omega)
      have y10 := obj_cell HBU.out 10
      have f10 := obj_free HBU.out 10
      simp at y10
      have d0 := obj_cell HD4.out 0
      have d1 := obj_cell HD4.out 1
      have d2 := obj_cell HD4.out 2
      have d3 := obj_cell HD4.out 3
      simp at d0 d1 d2 d3
      have hn2p : 0 < n2 := by have := hn.out.one; have := HN2.out; omega
      obtain ⟨jr, hj, hj2⟩ := tmodNat (n := n2) HCW.out hn2p
      have hjl : jr < n.roads.length := by rw [HN2.out]; exact hj2
      obtain ⟨br, offr, rfl, hbr, dn⟩ := rd_cells HNU.out.2 jr hjl
      obtain ⟨r0, _⟩ := dn jr hjl
      haveI lr : Lo br U0 := ⟨hbr⟩
      have hn100 : n2 ≤ 100 := by have := hn.out.most; have := HN2.out; omega
      have hwj : IntKind.i64.wrap (jr : Int) = (jr : Int) := IntWalk.i64_in _ (by omega)
      have hz : ¬(n2 : Int) = 0 := by omega
      have hz0 : ¬n2 = 0 := by omega
      have hj3 : (0 : Int) ≤ (jr : Int) := by omega
      have hj4 : (jr : Int) < (n2 : Int) := by omega
      generalize n.roads[jr]!.id = id at r0
      clear dn
      have f10 := obj_free HBU.out 10
      haveI s0 : Bw W ((U0.setCell ⟨b8, 10, none⟩ (.slice (some ⟨U0.heap.size, 0, none⟩) 1 1)).alloc (.cells #[.int .i64 id, .bool false, .string ⟨#[]⟩, .bool false, .string ⟨#[]⟩, .bool (zs d.num), .string (zx d.num), .bool false, .string (ry d.den)] 55)) := ⟨(bU.b.setCell hb8 _).alloc (bU.b.setCell hb8 _).size _⟩
      go_upto_region 16 with fail
      go_region
      all_goals
       go_wp2_with fail
       go_meet
       refine chr_bw (U := ((U0.setCell ⟨b8, 10, none⟩ (.slice (some ⟨U0.heap.size, 0, none⟩) 1 1)).alloc (.cells #[.int .i64 id, .bool false, .string ⟨#[]⟩, .bool false, .string ⟨#[]⟩, .bool (zs d.num), .string (zx d.num), .bool false, .string (ry d.den)] 55))) ?_
       exact chr_of (P := Pw) (Q := Qw) (L := [⟨id, 0, d⟩]) (l := l) (a := some ⟨U0.heap.size, 0, none⟩) (m := 1) (c := 1) (by rw [obj_old (obj_set HBU.out)]; simp [wcs]) (sl_one (w := (U0.setCell ⟨b8, 10, none⟩ (.slice (some ⟨U0.heap.size, 0, none⟩) 1 1))) (by simp) ⟨id, 0, d⟩ (by simp only [Lg.cs, zc0, zc1, zc2])) HSM.out (fun x hx => by simp at hx; subst hx; exact lgsm_one HGD.out) (by simp) s0
     ·have y10 := obj_cell HBU.out 10
      simp at y10
      have hkc : kn = 3 ∨ kn = 4 ∨ kn = 5 ∨ kn = 6 ∨ kn = 7 := by omega
      rcases hkc with rfl | rfl | rfl | rfl | rfl
      ·have hk1 : cn.tmod 8 = 3 := HKM.out
       have hk2 : cn % 8 = 3 := HKQ.out
       obtain ⟨hcn1, hcn2⟩ := HCN.out
       obtain ⟨g, hav, hgB, hgU⟩ : ∃ g, av = some ⟨g, 0, none⟩ ∧ W.heap.size ≤ g ∧ g < U0.heap.size := by
        rcases HOU.out.shape with ⟨h1, _⟩ | ⟨g, cap, h1, h2, h3, _⟩
        ·injection h1 with _ h1 _; omega
        ·injection h1 with h1 _ _; exact ⟨g, h1, h2, h3⟩
       subst hav
       haveI lg : Lo g U0 := ⟨hgU⟩
       have hnvp : 0 < nv := by omega
       obtain ⟨i, hi, hi2⟩ := tmodNat (n := nv) HCW.out hnvp
       have hil : i < L.length := by rw [HLN.out]; exact hi2
       have hnv : nv ≤ 100 := by have := HLN.out; have := HLM.out; omega
       have hwi : IntKind.i64.wrap (i : Int) = (i : Int) := IntWalk.i64_in _ (by omega)
       have hz : ¬(nv : Int) = 0 := by omega
       have hi3 : (0 : Int) ≤ (i : Int) := by omega
       have hi4 : (i : Int) < (nv : Int) := by omega
       obtain ⟨x0, x1, x2, x3, x4, x5, x6, x7, x8⟩ := leg_cells HOU.out i hil
       have hmem : L[i]! ∈ L := by rw [getElem!_pos L i hil]; exact List.getElem_mem hil
       have HX := Lib.hid (HLG.out _ hmem)
       have hne8 : ¬ b8 = g := fun e => hne (by rw [e]; rfl)
       have hne8' : ¬ g = b8 := fun e => hne8 e.symm
       have fr5 := HOU.out.free (i * 9 + 5)
       have fr6 := HOU.out.free (i * 9 + 6)
       have fr7 := HOU.out.free (i * 9 + 7)
       have fr8 := HOU.out.free (i * 9 + 8)
       have d0 := obj_cell HD4.out 0
       have d1 := obj_cell HD4.out 1
       have d2 := obj_cell HD4.out 2
       have d3 := obj_cell HD4.out 3
       simp at d0 d1 d2 d3
       have HAX := Lib.hid (HAB.out _ hmem)
       have HOX := Lib.hid (leg_to HOU.out i hil (L[i]!.b + d))
       have hls : (L.set i ⟨L[i]!.road, L[i]!.a, L[i]!.b + d⟩).length = L.length := List.length_set
       have HLS : Hid (∀ x ∈ L.set i ⟨L[i]!.road, L[i]!.a, L[i]!.b + d⟩, LgSm x) := Lib.hid (lgsm_set HLG.out i (lgsm_b HX.out (HLB.out _ hmem) HGD.out))
       generalize L.set i ⟨L[i]!.road, L[i]!.a, L[i]!.b + d⟩ = L2 at HOX hls HLS
       generalize L[i]! = x at *
       generalize hbb : x.b + d = bb at HAX HOX
       haveI s0 : Bw W ((((U0.setCell ⟨g, i * 9 + 5, none⟩ (.bool (zs bb.num))).setCell ⟨g, i * 9 + 6, none⟩ (.string (zx bb.num))).setCell ⟨g, i * 9 + 7, none⟩ (.bool false)).setCell ⟨g, i * 9 + 8, none⟩ (.string (ry bb.den))) := ⟨((((bU.b.setCell hgB _).setCell hgB _).setCell hgB _).setCell hgB _)⟩
       clear hbb hmem hil
       go_upto_region 18 with fail
       refine wp_jtail 19 (by kernel_rfl) (by kernel_rfl) ?_
       simp only [List.take_succ_cons, List.take_zero, List.drop_succ_cons, List.drop_zero]
       repeat (go_big_quiet_step (first | (with_reducible exact jq (HAX.out _)) | fail))
       refine wpQuiet_nil ?_
       rintro w' ⟨X6, rfl⟩
       go_wp2_with fail
       go_meet
       refine chr_bw (U := ((((U0.setCell ⟨g, i * 9 + 5, none⟩ (.bool (zs bb.num))).setCell ⟨g, i * 9 + 6, none⟩ (.string (zx bb.num))).setCell ⟨g, i * 9 + 7, none⟩ (.bool false)).setCell ⟨g, i * 9 + 8, none⟩ (.string (ry bb.den)))) ?_
       exact chr_of (P := Pw) (Q := Qw) (L := L2) (l := l) (obj_setOther (obj_setOther (obj_setOther (obj_setOther HBU.out hne8) hne8) hne8) hne8) HOX.out.sl HSM.out HLS.out (by rw [hls]; exact HLM.out) s0
      ·have hk1 : cn.tmod 8 = 4 := HKM.out
       have hk2 : cn % 8 = 4 := HKQ.out
       obtain ⟨hcn1, hcn2⟩ := HCN.out
       obtain ⟨g, hav, hgB, hgU⟩ : ∃ g, av = some ⟨g, 0, none⟩ ∧ W.heap.size ≤ g ∧ g < U0.heap.size := by
        rcases HOU.out.shape with ⟨h1, _⟩ | ⟨g, cap, h1, h2, h3, _⟩
        ·injection h1 with _ h1 _; omega
        ·injection h1 with h1 _ _; exact ⟨g, h1, h2, h3⟩
       subst hav
       haveI lg : Lo g U0 := ⟨hgU⟩
       have hnvp : 0 < nv := by omega
       obtain ⟨i, hi, hi2⟩ := tmodNat (n := nv) HCW.out hnvp
       have hil : i < L.length := by rw [HLN.out]; exact hi2
       have hnv : nv ≤ 100 := by have := HLN.out; have := HLM.out; omega
       have hwi : IntKind.i64.wrap (i : Int) = (i : Int) := IntWalk.i64_in _ (by omega)
       have hz : ¬(nv : Int) = 0 := by omega
       have hi3 : (0 : Int) ≤ (i : Int) := by omega
       have hi4 : (i : Int) < (nv : Int) := by omega
       obtain ⟨x0, x1, x2, x3, x4, x5, x6, x7, x8⟩ := leg_cells HOU.out i hil
       have hmem : L[i]! ∈ L := by rw [getElem!_pos L i hil]; exact List.getElem_mem hil
       have HX := Lib.hid (HLG.out _ hmem)
       have hne8 : ¬ b8 = g := fun e => hne (by rw [e]; rfl)
       have hne8' : ¬ g = b8 := fun e => hne8 e.symm
       have fr0 := HOU.out.free (i * 9)
       have fr1 := HOU.out.free (i * 9 + 1)
       have fr2 := HOU.out.free (i * 9 + 2)
       have fr3 := HOU.out.free (i * 9 + 3)
       have fr4 := HOU.out.free (i * 9 + 4)
       have fr5 := HOU.out.free (i * 9 + 5)
       have fr6 := HOU.out.free (i * 9 + 6)
       have fr7 := HOU.out.free (i * 9 + 7)
       have fr8 := HOU.out.free (i * 9 + 8)
  
       have HOX := Lib.hid (leg_all HOU.out i hil ⟨L[i]!.road, L[i]!.b, L[i]!.a⟩)
       have hls : (L.set i ⟨L[i]!.road, L[i]!.b, L[i]!.a⟩).length = L.length := List.length_set
       have HLS : Hid (∀ x ∈ L.set i ⟨L[i]!.road, L[i]!.b, L[i]!.a⟩, LgSm x) := Lib.hid (lgsm_set HLG.out i (by
        obtain ⟨q1, q2, q3, q4, q5, q6⟩ := HX.out
        exact ⟨q2, q1, q5, q6, q3, q4⟩))
       generalize L.set i ⟨L[i]!.road, L[i]!.b, L[i]!.a⟩ = L2 at HOX hls HLS
       generalize L[i]! = x at *
       haveI s0 : Bw W (((((((((U0.setCell ⟨g, i * 9, none⟩ (.int .i64 x.road)).setCell ⟨g, i * 9 + 1, none⟩ (.bool (zs x.b.num))).setCell ⟨g, i * 9 + 2, none⟩ (.string (zx x.b.num))).setCell ⟨g, i * 9 + 3, none⟩ (.bool false)).setCell ⟨g, i * 9 + 4, none⟩ (.string (ry x.b.den))).setCell ⟨g, i * 9 + 5, none⟩ (.bool (zs x.a.num))).setCell ⟨g, i * 9 + 6, none⟩ (.string (zx x.a.num))).setCell ⟨g, i * 9 + 7, none⟩ (.bool false)).setCell ⟨g, i * 9 + 8, none⟩ (.string (ry x.a.den))) := ⟨(((((((((bU.b.setCell hgB _).setCell hgB _).setCell hgB _).setCell hgB _).setCell hgB _).setCell hgB _).setCell hgB _).setCell hgB _).setCell hgB _)⟩
       clear hmem hil
       go_upto_region 20 with fail
       go_region
       all_goals
        go_upto_region 21 with fail
        refine wp_jtail 14 (by kernel_rfl) (by kernel_rfl) ?_
        simp only [List.take_succ_cons, List.take_zero, List.drop_succ_cons, List.drop_zero]
        repeat (go_big_quiet_step (first | (fail) | fail))
        refine wpQuiet_nil ?_
        rintro w' ⟨X6, rfl⟩
        go_wp2_with fail
        go_meet
        refine chr_bw (U := (((((((((U0.setCell ⟨g, i * 9, none⟩ (.int .i64 x.road)).setCell ⟨g, i * 9 + 1, none⟩ (.bool (zs x.b.num))).setCell ⟨g, i * 9 + 2, none⟩ (.string (zx x.b.num))).setCell ⟨g, i * 9 + 3, none⟩ (.bool false)).setCell ⟨g, i * 9 + 4, none⟩ (.string (ry x.b.den))).setCell ⟨g, i * 9 + 5, none⟩ (.bool (zs x.a.num))).setCell ⟨g, i * 9 + 6, none⟩ (.string (zx x.a.num))).setCell ⟨g, i * 9 + 7, none⟩ (.bool false)).setCell ⟨g, i * 9 + 8, none⟩ (.string (ry x.a.den)))) ?_
        exact chr_of (P := Pw) (Q := Qw) (L := L2) (l := l) (obj_setOther (obj_setOther (obj_setOther (obj_setOther (obj_setOther (obj_setOther (obj_setOther (obj_setOther (obj_setOther HBU.out hne8) hne8) hne8) hne8) hne8) hne8) hne8) hne8) hne8) HOX.out.sl HSM.out HLS.out (by rw [hls]; exact HLM.out) s0
      ·have hk1 : cn.tmod 8 = 5 := HKM.out
       have hk2 : cn % 8 = 5 := HKQ.out
       obtain ⟨hcn1, hcn2⟩ := HCN.out
       obtain ⟨g, hav, hgB, hgU⟩ : ∃ g, av = some ⟨g, 0, none⟩ ∧ W.heap.size ≤ g ∧ g < U0.heap.size := by
        rcases HOU.out.shape with ⟨h1, _⟩ | ⟨g, cap, h1, h2, h3, _⟩
        ·injection h1 with _ h1 _; omega
        ·injection h1 with h1 _ _; exact ⟨g, h1, h2, h3⟩
       subst hav
       haveI lg : Lo g U0 := ⟨hgU⟩
       have hnvp : 0 < nv := by omega
       obtain ⟨i, hi, hi2⟩ := tmodNat (n := nv) HCW.out hnvp
       have hil : i < L.length := by rw [HLN.out]; exact hi2
       have hnv : nv ≤ 100 := by have := HLN.out; have := HLM.out; omega
       have hwi : IntKind.i64.wrap (i : Int) = (i : Int) := IntWalk.i64_in _ (by omega)
       have hz : ¬(nv : Int) = 0 := by omega
       have hi3 : (0 : Int) ≤ (i : Int) := by omega
       have hi4 : (i : Int) < (nv : Int) := by omega
       obtain ⟨x0, x1, x2, x3, x4, x5, x6, x7, x8⟩ := leg_cells HOU.out i hil
       have hmem : L[i]! ∈ L := by rw [getElem!_pos L i hil]; exact List.getElem_mem hil
       have HX := Lib.hid (HLG.out _ hmem)
       have hne8 : ¬ b8 = g := fun e => hne (by rw [e]; rfl)
       have hne8' : ¬ g = b8 := fun e => hne8 e.symm
       have fr0 := HOU.out.free (i * 9)
  
       have HOX := Lib.hid (leg_rd HOU.out i hil (wrap64 (L[i]!.road + cb)))
       have hls : (L.set i ⟨wrap64 (L[i]!.road + cb), L[i]!.a, L[i]!.b⟩).length = L.length := List.length_set
       have HLS : Hid (∀ x ∈ L.set i ⟨wrap64 (L[i]!.road + cb), L[i]!.a, L[i]!.b⟩, LgSm x) := Lib.hid (lgsm_set HLG.out i HX.out)
       generalize L.set i ⟨wrap64 (L[i]!.road + cb), L[i]!.a, L[i]!.b⟩ = L2 at HOX hls HLS
       generalize L[i]! = x at *
       haveI s0 : Bw W (U0.setCell ⟨g, i * 9, none⟩ (.int .i64 (wrap64 (x.road + cb)))) := ⟨(bU.b.setCell hgB _)⟩
       clear hmem hil
       go_upto_region 23 with fail
       refine wp_jtail 14 (by kernel_rfl) (by kernel_rfl) ?_
       simp only [List.take_succ_cons, List.take_zero, List.drop_succ_cons, List.drop_zero]
       repeat (go_big_quiet_step (first | (fail) | fail))
       refine wpQuiet_nil ?_
       rintro w' ⟨X6, rfl⟩
       go_wp2_with fail
       go_meet
       refine chr_bw (U := (U0.setCell ⟨g, i * 9, none⟩ (.int .i64 (wrap64 (x.road + cb))))) ?_
       exact chr_of (P := Pw) (Q := Qw) (L := L2) (l := l) (obj_setOther HBU.out hne8) HOX.out.sl HSM.out HLS.out (by rw [hls]; exact HLM.out) s0
      ·have hk1 : cn.tmod 8 = 6 := HKM.out
       have hk2 : cn % 8 = 6 := HKQ.out
       obtain ⟨hcn1, hcn2⟩ := HCN.out
       obtain ⟨g, hav, hgB, hgU⟩ : ∃ g, av = some ⟨g, 0, none⟩ ∧ W.heap.size ≤ g ∧ g < U0.heap.size := by
        rcases HOU.out.shape with ⟨h1, _⟩ | ⟨g, cap, h1, h2, h3, _⟩
        ·injection h1 with _ h1 _; omega
        ·injection h1 with h1 _ _; exact ⟨g, h1, h2, h3⟩
       subst hav
       haveI lg : Lo g U0 := ⟨hgU⟩
       have hnvp : 0 < nv := by omega
       obtain ⟨i, hi, hi2⟩ := tmodNat (n := nv) HCW.out hnvp
       have hil : i < L.length := by rw [HLN.out]; exact hi2
       have hnv : nv ≤ 100 := by have := HLN.out; have := HLM.out; omega
       have hwi : IntKind.i64.wrap (i : Int) = (i : Int) := IntWalk.i64_in _ (by omega)
       have hz : ¬(nv : Int) = 0 := by omega
       have hi3 : (0 : Int) ≤ (i : Int) := by omega
       have hi4 : (i : Int) < (nv : Int) := by omega
       obtain ⟨x0, x1, x2, x3, x4, x5, x6, x7, x8⟩ := leg_cells HOU.out i hil
       have hmem : L[i]! ∈ L := by rw [getElem!_pos L i hil]; exact List.getElem_mem hil
       have HX := Lib.hid (HLG.out _ hmem)
       have hne8 : ¬ b8 = g := fun e => hne (by rw [e]; rfl)
       have hne8' : ¬ g = b8 := fun e => hne8 e.symm
       obtain ⟨m1, hm1⟩ : ∃ m, nv = m + 1 := ⟨nv - 1, by omega⟩
       have hm2 : (nv : Int) - 1 = (m1 : Int) := by omega
       have hm3 : IntKind.i64.wrap (m1 : Int) = (m1 : Int) := IntWalk.i64_in _ (by omega)
       have hm4 : m1 ≤ nv := by omega
       have hcv := HOU.out.sl.open
       obtain ⟨_, _, _, he, _, hcv1, _⟩ := hcv
       injection he with he0 he1 he2
       subst he0 he1 he2
       have hm5 : m1 ≤ cv := by omega
       have f10 := obj_free HBU.out 10
       haveI s0 : Bw W (U0.setCell ⟨b8, 10, none⟩ (.slice (some ⟨g, 0, none⟩) m1 cv)) := ⟨(bU.b.setCell hb8 _)⟩
       clear hm1 hmem hil x0 x1 x2 x3 x4 x5 x6 x7 x8 hi hi2 hi3 hi4 hwi
       go_wp2_with fail
       go_meet
       refine chr_bw (U := (U0.setCell ⟨b8, 10, none⟩ (.slice (some ⟨g, 0, none⟩) m1 cv))) ?_
       exact chr_of (P := Pw) (Q := Qw) (L := L.take m1) (l := l) (a := some ⟨g, 0, none⟩) (m := m1) (c := cv) (by rw [obj_set (HBU.out)]; simp [wcs]) (by rw [List.map_take]; exact sl_headc (HOU.out.keepSet ⟨b8, 10, none⟩ hne _).sl hm4) HSM.out (fun x hx => HLG.out x (List.mem_of_mem_take hx)) (by rw [List.length_take]; have := HLM.out; omega) s0
      ·have hk1 : cn.tmod 8 = 7 := HKM.out
       have hk2 : cn % 8 = 7 := HKQ.out
       obtain ⟨hcn1, hcn2⟩ := HCN.out
       go_wp2_with fail
       go_meet
       refine chr_bw (U := U0) ?_
       exact chr_of (P := Pw) (Q := Qw) (L := L) (l := l) HBU.out HOU.out.sl HSM.out HLG.out HLM.out bU
   case rest =>
    obtain ⟨P, Q, L2, l2, a, m, c, hb, hs, hsm, hlg, hlm, U, rfl⟩ := hcut
    have bY : Bw W (W.junk U) := inferInstance
    have HNY : Hid (NetAt (W.junk U).heap.size (W.junk U) (.slice a1 n1 c1) (.slice a2 n2 c2) n) := Lib.hid (later_bw HNW.out)
    have HC1 : Hid (∀ (w' : World) [Bw (W.junk U) w'], _) := Lib.hid (fun w' h => ckw_q n P Q L2 l2 _ _ (.slice a m c) w' (HNY.out.later h.b) hn.out.ok (hs.later h.b) hsm.1 hsm.2.1 hsm.2.2 hlg hlm)
    have HC2 : Hid (∀ (w' : World) [Bw (W.junk U) w'], _) := Lib.hid (fun w' h => ckl_q n P Q L2 l2 _ _ (.slice a m c) w' (HNY.out.later h.b) hn.out.ok (hs.later h.b) hsm.1 hsm.2.1 hsm.2.2 hlg hlm)
    generalize ckwN n P Q L2 l2 = ck at HC1 HC2
    unfold wcs at HC1 HC2 hb
    have HRW : Hid (rowN 15 (W.junk U) b8 = some #[.int .i64 P.road, .bool (zs P.off.num), .string (zx P.off.num), .bool false, .string (ry P.off.den), .int .i64 Q.road, .bool (zs Q.off.num), .string (zx Q.off.num), .bool false, .string (ry Q.off.den), .slice a m c, .bool (zs l2.num), .string (zx l2.num), .bool false, .string (ry l2.den)]) := Lib.hid (rowN_of hb rfl)
    have g0y := (bY.b.cell (p := ⟨bx, 0, none⟩) lb.lt).trans g0
    have g1y := (bY.b.cell (p := ⟨bx, 1, none⟩) lb.lt).trans g1
    haveI lby : Lo bx (W.junk U) := ⟨Nat.lt_of_lt_of_le lb.lt bY.b.size⟩
    haveI l8y : Lo b8 (W.junk U) := ⟨obj_lt hb⟩
    haveI bwy : Bw w (W.junk U) := ⟨bw.b.trans (bY.b.mono bw.b.size)⟩
    clear hb hs hsm hlg hlm HAL HAP HAB HLB HGD HSM HSZ HSL HSP HLG HLM HLN HBU HOU HD4 HNU g0u g1u k0u k1u k2u hne HPC
    generalize W.junk U = Y at *
    go_upto_region 26 with fail
    refine wp_flow2 [] [] [(2, [0, 1]), (5, [3, 4, 2]), (6, [2, 5]), (7, [6])] [(0, some 183), (1, some 184), (2, some 185), (3, some 186), (4, some 187), (5, some 188), (6, some 189), (7, some 6)] [(7, .pointer (some ⟨bx, 0, none⟩)), (8, .pointer (some ⟨b8, 0, none⟩))] [.val (.agg #[.slice a1 n1 c1, .slice a2 n2 c2]), .val (.agg #[.int .i64 P.road, .bool (zs P.off.num), .string (zx P.off.num), .bool false, .string (ry P.off.den), .int .i64 Q.road, .bool (zs Q.off.num), .string (zx Q.off.num), .bool false, .string (ry Q.off.den), .slice a m c, .bool (zs l2.num), .string (zx l2.num), .bool false, .string (ry l2.den)]), .val (.int .i64 ck), .val (.agg #[.slice a1 n1 c1, .slice a2 n2 c2]), .val (.agg #[.int .i64 P.road, .bool (zs P.off.num), .string (zx P.off.num), .bool false, .string (ry P.off.den), .int .i64 Q.road, .bool (zs Q.off.num), .string (zx Q.off.num), .bool false, .string (ry Q.off.den), .slice a m c, .bool (zs l2.num), .string (zx l2.num), .bool false, .string (ry l2.den)]), .val (.int .i64 ck), .val (.bool true), .val (.bool true)] (by kernel_rfl) (by kernel_rfl) (by kernel_rfl) (by kernel_rfl) (by kernel_rfl) ⟨rfl, rfl, trivial⟩ ⟨trivial, trivial, trivial, trivial, trivial, trivial, trivial, trivial, trivial⟩ ?_ ?_
    ·refine ⟨?_, ?_, ?_, ?_, ?_, ?_, ?_, ?_, trivial⟩
     ·intro f ρ w' S hd hx hc hB hA hD
      have h7 : ρ (.tmp 7) = .pointer (some ⟨bx, 0, none⟩) := hx (7, .pointer (some ⟨bx, 0, none⟩)) (by simp)
      have n0' := (hB.cell (p := ⟨bx, 0, none⟩) lby.lt).trans g0y
      have e1' := (hB.cell (p := ⟨bx, 1, none⟩) lby.lt).trans g1y
      refine fl_val (by rfl) (by rfl) ?_
      simp [execOp, go_sem, h7, n0', e1']
     ·intro f ρ w' S hd hx hc hB hA hD
      have h8 : ρ (.tmp 8) = .pointer (some ⟨b8, 0, none⟩) := hx (8, .pointer (some ⟨b8, 0, none⟩)) (by simp)
      have hr : rowN 15 w' b8 = some #[.int .i64 P.road, .bool (zs P.off.num), .string (zx P.off.num), .bool false, .string (ry P.off.den), .int .i64 Q.road, .bool (zs Q.off.num), .string (zx Q.off.num), .bool false, .string (ry Q.off.den), .slice a m c, .bool (zs l2.num), .string (zx l2.num), .bool false, .string (ry l2.den)] := (rowN_bw hB l8y.lt).trans HRW.out
      exact fl_val (by rfl) (by rfl) (exec_load_row (by rfl) uWy rfl iWy b8 h8 hr)
     ·intro f ρ w' S hd hx hc hB hA hD
      have h183 : ρ (.tmp 183) = .agg #[.slice a1 n1 c1, .slice a2 n2 c2] := (hd 0 183 (by decide)).trans (hA 0 (by decide)).1
      have h184 : ρ (.tmp 184) = .agg #[.int .i64 P.road, .bool (zs P.off.num), .string (zx P.off.num), .bool false, .string (ry P.off.den), .int .i64 Q.road, .bool (zs Q.off.num), .string (zx Q.off.num), .bool false, .string (ry Q.off.den), .slice a m c, .bool (zs l2.num), .string (zx l2.num), .bool false, .string (ry l2.den)] := (hd 1 184 (by decide)).trans (hA 1 (by decide)).1
      haveI : Bw Y w' := ⟨hB⟩
      exact fl_call (by rfl) (by rfl) (by simp [execOp, go_sem, h183, h184, hc.1, hc.2]) (HC1.out w')
     ·intro f ρ w' S hd hx hc hB hA hD
      have h7 : ρ (.tmp 7) = .pointer (some ⟨bx, 0, none⟩) := hx (7, .pointer (some ⟨bx, 0, none⟩)) (by simp)
      have n0' := (hB.cell (p := ⟨bx, 0, none⟩) lby.lt).trans g0y
      have e1' := (hB.cell (p := ⟨bx, 1, none⟩) lby.lt).trans g1y
      refine fl_val (by rfl) (by rfl) ?_
      simp [execOp, go_sem, h7, n0', e1']
     ·intro f ρ w' S hd hx hc hB hA hD
      have h8 : ρ (.tmp 8) = .pointer (some ⟨b8, 0, none⟩) := hx (8, .pointer (some ⟨b8, 0, none⟩)) (by simp)
      have hr : rowN 15 w' b8 = some #[.int .i64 P.road, .bool (zs P.off.num), .string (zx P.off.num), .bool false, .string (ry P.off.den), .int .i64 Q.road, .bool (zs Q.off.num), .string (zx Q.off.num), .bool false, .string (ry Q.off.den), .slice a m c, .bool (zs l2.num), .string (zx l2.num), .bool false, .string (ry l2.den)] := (rowN_bw hB l8y.lt).trans HRW.out
      exact fl_val (by rfl) (by rfl) (exec_load_row (by rfl) uWy rfl iWy b8 h8 hr)
     ·intro f ρ w' S hd hx hc hB hA hD
      have h186 : ρ (.tmp 186) = .agg #[.slice a1 n1 c1, .slice a2 n2 c2] := (hd 3 186 (by decide)).trans (hA 3 (by decide)).1
      have h187 : ρ (.tmp 187) = .agg #[.int .i64 P.road, .bool (zs P.off.num), .string (zx P.off.num), .bool false, .string (ry P.off.den), .int .i64 Q.road, .bool (zs Q.off.num), .string (zx Q.off.num), .bool false, .string (ry Q.off.den), .slice a m c, .bool (zs l2.num), .string (zx l2.num), .bool false, .string (ry l2.den)] := (hd 4 187 (by decide)).trans (hA 4 (by decide)).1
      haveI : Bw Y w' := ⟨hB⟩
      exact fl_call (by rfl) (by rfl) (by simp [execOp, go_sem, h186, h187, hc.1, hc.2]) (HC2.out w')
     ·intro f ρ w' S hd hx hc hB hA hD
      have h185 : ρ (.tmp 185) = .int .i64 ck := (hd 2 185 (by decide)).trans (hA 2 (by decide)).1
      have h188 : ρ (.tmp 188) = .int .i64 ck := (hd 5 188 (by decide)).trans (hA 5 (by decide)).1
      refine fl_val (by rfl) (by rfl) ?_
      simp [execOp, go_sem, h185, h188]
     ·intro f ρ w' S hd hx hc hB hA hD
      have h189 : ρ (.tmp 189) = .bool true := (hd 6 189 (by decide)).trans (hA 6 (by decide)).1
      refine fl_val (by rfl) (by rfl) ?_
      simp [execOp, go_sem, h189]
    ·intro f w' S hB hS hD
     have fv : f 7 = .bool true := (hS 7 (by kernel_rfl)).1
     simp only [putAll, Act.put, List.setIfInBounds_toArray, List.set_cons_zero, List.set_cons_succ]
     rw [fv]
     obtain ⟨X, rfl⟩ := below_some hB
     clear hS hB hD fv
     go_wp2_with fail
     go_ret
     exact ⟨rfl, Bw.b⟩
end Go.Proofs.YtcelpkbmcmnogaaGreatDoor
