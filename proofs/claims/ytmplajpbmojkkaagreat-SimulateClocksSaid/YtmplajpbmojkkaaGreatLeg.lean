/-
  The model's leg: the right cells, nothing more.
-/
import Derived.Test.YtmplajpbmojkkaaGreatRatA
import Derived.Test.YtmplajpbmojkkaaGreatMemA
import Derived.Deep.RegionHeld3
import Derived.Deep.DeepCutAuto
set_option linter.unusedSimpArgs false
set_option linter.unusedVariables false
namespace Go.Proofs.YtmplajpbmojkkaaGreat
open Go Go.RowKit Go.Vi
theorem below_row {B b : Nat} {w W : World} {cs : Array Value} (h : Below B w W) (hb : B ≤ b) : Below B w (W.setRow b cs) :=
  ⟨h.os, h.tape, h.output, by rw [setRow_size]; exact h.size, fun k hk => by rw [setRow_other _ _ _ _ (by omega)]; exact h.block k hk⟩
theorem isLegT : (match Tryz.prog.underlying 156 with | some (.struct _) => true | _ => false) = true := by kernel_rfl
theorem uLegT : ∃ fs, Tryz.prog.underlying 156 = some (.struct fs) := by
  have h := isLegT
  split at h
  · rename_i fs hq; exact ⟨fs, hq⟩
  · cases h
theorem iLegT : (Tryz.prog.info? 156).map (·.size) = some 17 := by kernel_rfl
theorem leg_all {b0 b1 b2 b3 b4 b5 b6 b7 : Bool} {s0 s1 s2 s3 s4 s5 s6 s7 : ByteArray} {x : Int} : (#[.bool b0, .string s0, .bool b1, .string s1, .bool b2, .string s2, .bool b3, .string s3, .int .i64 x, .bool b4, .string s4, .bool b5, .string s5, .bool b6, .string s6, .bool b7, .string s7] : Array Value).all (·.oneCell') = true := by
  rw [Array.all_eq_true_iff_forall_mem]
  intro u hu
  simp only [List.mem_toArray, List.mem_cons, List.mem_nil_iff, or_false] at hu
  rcases hu with h | h | h | h | h | h | h | h | h | h | h | h | h | h | h | h | h <;> rw [h] <;> rfl
theorem leg_load {ops : Array Oper} {rest : List Oper} {o : Oper} {a : Act} {w : World} {Q : Exit → Act → World → Prop} (hgd : o.guard = none) (x : Operand) (ho : o.op = .load 156 x) (b : Nat) (hx : a.eval x = .pointer (some ⟨b, 0, none⟩)) {c0 c1 c2 c3 c4 c5 c6 c7 c8 c9 c10 c11 c12 c13 c14 c15 c16 : Value} (hg : w.heap[b]? = some (.cells #[c0, c1, c2, c3, c4, c5, c6, c7, c8, c9, c10, c11, c12, c13, c14, c15, c16] 156 (0, 0))) (h : wpList Tryz.prog ops Q rest (a.put o.dst (.agg #[c0, c1, c2, c3, c4, c5, c6, c7, c8, c9, c10, c11, c12, c13, c14, c15, c16])) w) : wpList Tryz.prog ops Q (o :: rest) a w := by
  obtain ⟨fs, hfs⟩ := uLegT
  exact wpList_load_row hgd _ x ho b hx _ _ _ _ hg hfs rfl iLegT h
theorem leg_store {ops : Array Oper} {rest : List Oper} {o : Oper} {a : Act} {w : World} {Q : Exit → Act → World → Prop} (hgd : o.guard = none) (x y : Operand) (ho : o.op = .store 156 x y) (b : Nat) (g : LegD) (hx : a.eval x = .pointer (some ⟨b, 0, none⟩)) (hy : a.eval y = .agg #[.bool g.f.b, .string g.f.s, .bool g.f.c, .string g.f.t, .bool g.t.b, .string g.t.s, .bool g.t.c, .string g.t.t, .int .i64 g.road, .bool g.a.b, .string g.a.s, .bool g.a.c, .string g.a.t, .bool g.z.b, .string g.z.s, .bool g.z.c, .string g.z.t]) {c0 c1 c2 c3 c4 c5 c6 c7 c8 c9 c10 c11 c12 c13 c14 c15 c16 : Value} (hg : w.heap[b]? = some (.cells #[c0, c1, c2, c3, c4, c5, c6, c7, c8, c9, c10, c11, c12, c13, c14, c15, c16] 156 (0, 0))) (h : wpList Tryz.prog ops Q rest (a.put o.dst undef) (w.setRow b #[.bool g.f.b, .string g.f.s, .bool g.f.c, .string g.f.t, .bool g.t.b, .string g.t.s, .bool g.t.c, .string g.t.t, .int .i64 g.road, .bool g.a.b, .string g.a.s, .bool g.a.c, .string g.a.t, .bool g.z.b, .string g.z.s, .bool g.z.c, .string g.z.t])) : wpList Tryz.prog ops Q (o :: rest) a w :=
  wpList_store_row hgd _ x y ho b _ hx hy _ _ hg iLegT rfl leg_all h
theorem leg_result {tmps : Array Value} {w : World} {b : Nat} {fn : Func} {p : Tmp} (hf : fn.results = #[.cell p 156]) (hp : tmps.getD p undef = .pointer (some ⟨b, 0, none⟩)) {c0 c1 c2 c3 c4 c5 c6 c7 c8 c9 c10 c11 c12 c13 c14 c15 c16 : Value} (hg : w.heap[b]? = some (.cells #[c0, c1, c2, c3, c4, c5, c6, c7, c8, c9, c10, c11, c12, c13, c14, c15, c16] 156 (0, 0))) : (results fn tmps).run Tryz.prog w = .ok (.agg #[c0, c1, c2, c3, c4, c5, c6, c7, c8, c9, c10, c11, c12, c13, c14, c15, c16]) w := by
  obtain ⟨fs, hfs⟩ := uLegT
  exact results_cell_row hf tmps w b _ _ _ _ hp hg hfs rfl iLegT
theorem obj_set8 {w : World} {b : Nat} {T : TypeId} {fr : Nat × Nat} {c0 c1 c2 c3 c4 c5 c6 c7 c8 c9 c10 c11 c12 c13 c14 c15 c16 v0 v1 v2 v3 v4 v5 v6 v7 : Value} (h : w.heap[b]? = some (.cells #[c0, c1, c2, c3, c4, c5, c6, c7, c8, c9, c10, c11, c12, c13, c14, c15, c16] T fr)) : ((((((((w.setCell ⟨b, 9, none⟩ v0).setCell ⟨b, 10, none⟩ v1).setCell ⟨b, 11, none⟩ v2).setCell ⟨b, 12, none⟩ v3).setCell ⟨b, 13, none⟩ v4).setCell ⟨b, 14, none⟩ v5).setCell ⟨b, 15, none⟩ v6).setCell ⟨b, 16, none⟩ v7).heap[b]? = some (.cells #[c0, c1, c2, c3, c4, c5, c6, c7, c8, v0, v1, v2, v3, v4, v5, v6, v7] T fr) := by
  rw [obj_set (obj_set (obj_set (obj_set (obj_set (obj_set (obj_set (obj_set h)))))))]
  simp
theorem obj_out8 {w : World} {b c : Nat} {o : Obj} {v0 v1 v2 v3 v4 v5 v6 v7 : Value} (h : w.heap[c]? = some o) (hne : c ≠ b) : ((((((((w.setCell ⟨b, 9, none⟩ v0).setCell ⟨b, 10, none⟩ v1).setCell ⟨b, 11, none⟩ v2).setCell ⟨b, 12, none⟩ v3).setCell ⟨b, 13, none⟩ v4).setCell ⟨b, 14, none⟩ v5).setCell ⟨b, 15, none⟩ v6).setCell ⟨b, 16, none⟩ v7).heap[c]? = some o :=
  obj_setOther (obj_setOther (obj_setOther (obj_setOther (obj_setOther (obj_setOther (obj_setOther (obj_setOther h hne) hne) hne) hne) hne) hne) hne) hne
theorem below_set8 {B b : Nat} {w0 w : World} {v0 v1 v2 v3 v4 v5 v6 v7 : Value} (h : Below B w0 w) (hb : B ≤ b) : Below B w0 ((((((((w.setCell ⟨b, 9, none⟩ v0).setCell ⟨b, 10, none⟩ v1).setCell ⟨b, 11, none⟩ v2).setCell ⟨b, 12, none⟩ v3).setCell ⟨b, 13, none⟩ v4).setCell ⟨b, 14, none⟩ v5).setCell ⟨b, 15, none⟩ v6).setCell ⟨b, 16, none⟩ v7) :=
  (((((((h.setCell hb _).setCell hb _).setCell hb _).setCell hb _).setCell hb _).setCell hb _).setCell hb _).setCell hb _
set_option maxRecDepth 100000 in
set_option maxHeartbeats 6000000 in
theorem leg_any (n : Net) (v1 v2 : Value) (h : Hpm) (now : Int) (w : World) (hN : NetAt w.heap.size w v1 v2 n) (hK : NetOK n) (h0 : 0 ≤ now ∧ now ≤ 1125899906842624) (h1 : 0 ≤ h.time ∧ h.time ≤ 1125899906842624) :
    Calls Tryz.prog 54 #[.agg #[v1, v2], h.v, .int .i64 now] w fun e w' => (∃ g : LegD, e = .returned g.v) ∧ Below w.heap.size w w' := by
  have hr := rd_len hK h.road
  obtain ⟨r, hrr⟩ : ∃ r, r = (roadOf n.roads h.road).getD rd0 := ⟨_, rfl⟩
  rw [← hrr] at hr
  have HN := Lib.hid hN
  have HK := Lib.hid hK
  have HR := Lib.hid hrr
  clear hN hK hrr
  go_enter Tryz.func54, Tryz.ntmps54
  go_wp2_with (go_at_call 64; refine (road_any n v1 v2 _ _ (HN.out.later (by (repeat (first | with_reducible exact Below.refl _ _ | with_reducible assumption | ((with_reducible refine Below.setCell ?_ ?_ _); rotate_left; focus (first | exact Nat.le_refl _ | omega | exact Below.size (by assumption) | (simp; done) | (simp; omega))) | ((with_reducible refine Below.alloc ?_ ?_ _); rotate_left; focus (first | exact Nat.le_refl _ | omega | exact Below.size (by assumption) | (simp; done) | (simp; omega))) | (with_reducible refine Below.drew ?_) | (with_reducible refine drewN_ ?_ _))))) HK.out.roads (by have := HK.out.few; omega)).mono ?_; rintro e w1 ⟨rfl, hb1⟩; rw [← HR.out]; have hB1 := from_ (w := w) hb1 (by (repeat (first | with_reducible exact Below.refl _ _ | with_reducible assumption | ((with_reducible refine Below.setCell ?_ ?_ _); rotate_left; focus (first | exact Nat.le_refl _ | omega | exact Below.size (by assumption) | (simp; done) | (simp; omega))) | ((with_reducible refine Below.alloc ?_ ?_ _); rotate_left; focus (first | exact Nat.le_refl _ | omega | exact Below.size (by assumption) | (simp; done) | (simp; omega))) | (with_reducible refine Below.drew ?_) | (with_reducible refine drewN_ ?_ _)))); have HB1 := Lib.hid hB1; have q1 := keepObj hb1 (obj_old (obj_last2 w (.cells #[v1, v2] 35) (.cells #[.int .i64 h.road, .int .i64 h.src, .int .i64 h.dst, .int .i64 h.time] 159))); have H1 := Lib.hid q1; have q2 := keepObj hb1 (obj_last ((w.alloc (.cells #[v1, v2] 35)).alloc (.cells #[.int .i64 h.road, .int .i64 h.src, .int .i64 h.dst, .int .i64 h.time] 159)) (.cells #[.bool false, .string ⟨#[]⟩, .bool false, .string ⟨#[]⟩, .bool false, .string ⟨#[]⟩, .bool false, .string ⟨#[]⟩, .int .i64 0, .bool false, .string ⟨#[]⟩, .bool false, .string ⟨#[]⟩, .bool false, .string ⟨#[]⟩, .bool false, .string ⟨#[]⟩] 156)); simp at q2; have O1 := Lib.hid q2; have hz1 := hb1.size; simp at hz1; clear hB1 hb1 q1 q2)
  obtain ⟨W1, hW1⟩ : ∃ W1, W1 = w1.alloc (.cells #[.int .i64 r.id, .int .i64 r.src, .int .i64 r.dst, .int .i64 r.len, .int .i64 r.lim, .bool r.one] 90) := ⟨_, rfl⟩
  have PR := Lib.hid (obj_last w1  (.cells #[.int .i64 r.id, .int .i64 r.src, .int .i64 r.dst, .int .i64 r.len, .int .i64 r.lim, .bool r.one] 90))
  have PH := Lib.hid (obj_old (o' :=  (.cells #[.int .i64 r.id, .int .i64 r.src, .int .i64 r.dst, .int .i64 r.len, .int .i64 r.lim, .bool r.one] 90)) H1.out)
  have PO := Lib.hid (obj_old (o' :=  (.cells #[.int .i64 r.id, .int .i64 r.src, .int .i64 r.dst, .int .i64 r.len, .int .i64 r.lim, .bool r.one] 90)) O1.out)
  have BW := Lib.hid (HB1.out.trans (((Below.refl w1.heap.size w1).alloc (Nat.le_refl _)  (.cells #[.int .i64 r.id, .int .i64 r.src, .int .i64 r.dst, .int .i64 r.len, .int .i64 r.lim, .bool r.one] 90)).mono HB1.out.size))
  rw [← hW1] at PR PH PO BW ⊢
  clear hW1 H1 O1
  have zW := obj_lt PR.out
  have k0 := obj_cell PH.out 0
  have k3 := obj_cell PH.out 3
  have r3 := obj_cell PR.out 3
  simp at k0 k3 r3
  have zh := obj_lt PH.out
  have pa1 := h0.1
  have pa2 : now ≤ 4611686018427387904 := by omega
  have pa3 : 0 ≤ now + h.time := by omega
  have pa4 : now + h.time ≤ 4611686018427387904 := by omega
  have pw : IntKind.i64.wrap (now + h.time) = now + h.time := IntWalk.i64_in _ (by omega)
  have pa5 := hr.1
  have pa6 : r.len ≤ 4611686018427387904 := by omega
  go_cut [9] (fun s9 wx => ∃ (b9 : Nat) (g : LegD), s9 = .pointer (some ⟨b9, 0, none⟩) ∧ W1.heap.size ≤ b9 ∧ Hid (wx.heap[b9]? = some (.cells #[.bool g.f.b, .string g.f.s, .bool g.f.c, .string g.f.t, .bool g.t.b, .string g.t.s, .bool g.t.c, .string g.t.t, .int .i64 g.road, .bool g.a.b, .string g.a.s, .bool g.a.c, .string g.a.t, .bool g.z.b, .string g.z.s, .bool g.z.c, .string g.z.t] 156 (0, 0))) ∧ Hid (Below W1.heap.size W1 wx))
  case first =>
    refine wp_region_noPanic ?_
    refine till_begin (k := 14) (C := fun w' => w'.cell? ⟨w.heap.size + 1, 0, none⟩ = some (.int .i64 h.road) ∧ w'.cell? ⟨w.heap.size + 1, 3, none⟩ = some (.int .i64 h.time) ∧ w'.cell? ⟨w1.heap.size, 3, none⟩ = some (.int .i64 r.len)) (by kernel_rfl) ?_
    have hC : (W1.drew).cell? ⟨w.heap.size + 1, 0, none⟩ = some (.int .i64 h.road) ∧ (W1.drew).cell? ⟨w.heap.size + 1, 3, none⟩ = some (.int .i64 h.time) ∧ (W1.drew).cell? ⟨w1.heap.size, 3, none⟩ = some (.int .i64 r.len) := ⟨k0, k3, r3⟩
    have B0 : Below W1.heap.size W1 W1.drew := ⟨rfl, rfl, rfl, Nat.le_refl _, fun _ _ => rfl⟩
    have HB0 := Lib.hid B0
    clear B0
    refine till_take (i := 0) (v := ?vt06) [14] rfl (by kernel_rfl) (by kernel_rfl) (by kernel_rfl) (by kernel_rfl) (by kernel_rfl) (by kernel_rfl) (by kernel_rfl) (fun _ _ _ h => h) (by rfl) ?yt06 hC ?rt06
    case yt06 =>
      intro W hW
      obtain ⟨j0, j1, j2⟩ := hW
      go_simp
      with_reducible rfl
    try simp only [Act.put, List.setIfInBounds_toArray, List.set_cons_zero, List.set_cons_succ]
    refine till_take (i := 2) (v := ?vt213) [14] rfl (by kernel_rfl) (by kernel_rfl) (by kernel_rfl) (by kernel_rfl) (by kernel_rfl) (by kernel_rfl) (by kernel_rfl) (fun _ _ _ h => h) (by rfl) ?yt213 hC ?rt213
    case yt213 =>
      intro W hW
      obtain ⟨j0, j1, j2⟩ := hW
      go_simp
      with_reducible rfl
    try simp only [Act.put, List.setIfInBounds_toArray, List.set_cons_zero, List.set_cons_succ]
    refine till_take (i := 3) (v := ?vt320) [14] rfl (by kernel_rfl) (by kernel_rfl) (by kernel_rfl) (by kernel_rfl) (by kernel_rfl) (by kernel_rfl) (by kernel_rfl) (fun _ _ _ h => h) (by rfl) ?yt320 hC ?rt320
    case yt320 =>
      intro W hW
      obtain ⟨j0, j1, j2⟩ := hW
      go_simp
      with_reducible rfl
    try simp only [Act.put, List.setIfInBounds_toArray, List.set_cons_zero, List.set_cons_succ]
    refine till_take (i := 4) (v := ?vt427) [14] rfl (by kernel_rfl) (by kernel_rfl) (by kernel_rfl) (by kernel_rfl) (by kernel_rfl) (by kernel_rfl) (by kernel_rfl) (fun _ _ _ h => h) (by rfl) ?yt427 hC ?rt427
    case yt427 =>
      intro W hW
      obtain ⟨j0, j1, j2⟩ := hW
      go_simp
      with_reducible rfl
    try simp only [Act.put, List.setIfInBounds_toArray, List.set_cons_zero, List.set_cons_succ]
    refine till_take (i := 5) (v := ?vt534) [14] rfl (by kernel_rfl) (by kernel_rfl) (by kernel_rfl) (by kernel_rfl) (by kernel_rfl) (by kernel_rfl) (by kernel_rfl) (fun _ _ _ h => h) (by rfl) ?yt534 hC ?rt534
    case yt534 =>
      intro W hW
      obtain ⟨j0, j1, j2⟩ := hW
      go_simp
      with_reducible rfl
    try simp only [Act.put, List.setIfInBounds_toArray, List.set_cons_zero, List.set_cons_succ]
    refine till_take (i := 7) (v := ?vt741) [14] rfl (by kernel_rfl) (by kernel_rfl) (by kernel_rfl) (by kernel_rfl) (by kernel_rfl) (by kernel_rfl) (by kernel_rfl) (fun _ _ _ h => h) (by rfl) ?yt741 hC ?rt741
    case yt741 =>
      intro W hW
      obtain ⟨j0, j1, j2⟩ := hW
      go_simp
      with_reducible rfl
    try simp only [Act.put, List.setIfInBounds_toArray, List.set_cons_zero, List.set_cons_succ]
    refine till_take (i := 8) (v := ?vt848) [14] rfl (by kernel_rfl) (by kernel_rfl) (by kernel_rfl) (by kernel_rfl) (by kernel_rfl) (by kernel_rfl) (by kernel_rfl) (fun _ _ _ h => h) (by rfl) ?yt848 hC ?rt848
    case yt848 =>
      intro W hW
      obtain ⟨j0, j1, j2⟩ := hW
      go_simp
      with_reducible rfl
    try simp only [Act.put, List.setIfInBounds_toArray, List.set_cons_zero, List.set_cons_succ]
    refine till_take (i := 9) (v := ?vt955) [14] rfl (by kernel_rfl) (by kernel_rfl) (by kernel_rfl) (by kernel_rfl) (by kernel_rfl) (by kernel_rfl) (by kernel_rfl) (fun _ _ _ h => h) (by rfl) ?yt955 hC ?rt955
    case yt955 =>
      intro W hW
      obtain ⟨j0, j1, j2⟩ := hW
      go_simp
      with_reducible rfl
    try simp only [Act.put, List.setIfInBounds_toArray, List.set_cons_zero, List.set_cons_succ]
    refine till_take (i := 10) (v := ?vt1062) [14] rfl (by kernel_rfl) (by kernel_rfl) (by kernel_rfl) (by kernel_rfl) (by kernel_rfl) (by kernel_rfl) (by kernel_rfl) (fun _ _ _ h => h) (by rfl) ?yt1062 hC ?rt1062
    case yt1062 =>
      intro W hW
      obtain ⟨j0, j1, j2⟩ := hW
      go_simp
      with_reducible rfl
    try simp only [Act.put, List.setIfInBounds_toArray, List.set_cons_zero, List.set_cons_succ]
    refine till_ready (rs := [1, 13]) (by kernel_rfl) (by rfl) ?_
    refine TillReady.cons rfl (fun K hK => ?_) ?_
    focus
      go_simp
      refine (ratInt_any now _ pa1 pa2).mono ?_
      rintro e u1 ⟨⟨y1, rfl⟩, hb1⟩
      have HB1 := Lib.hid (HB0.out.trans (hb1.mono HB0.out.size))
      have hC1 : (fun w' => w'.cell? ⟨w.heap.size + 1, 0, none⟩ = some (.int .i64 h.road) ∧ w'.cell? ⟨w.heap.size + 1, 3, none⟩ = some (.int .i64 h.time) ∧ w'.cell? ⟨w1.heap.size, 3, none⟩ = some (.int .i64 r.len)) u1 := ⟨(HB1.out.cell (p := ⟨_, _, none⟩) (by omega)).trans k0, (HB1.out.cell (p := ⟨_, _, none⟩) (by omega)).trans k3, (HB1.out.cell (p := ⟨_, _, none⟩) (by omega)).trans r3⟩
      refine hK.out _ _ (fun _ => hC1) ?_
      clear hK K hb1
      try simp only [Act.put, List.setIfInBounds_toArray, List.set_cons_zero, List.set_cons_succ]
      refine till_ready (rs := [6, 13]) (by kernel_rfl) (by rfl) ?_
      refine TillReady.cons rfl (fun K hK => ?_) ?_
      focus
        go_simp
        refine (ratInt_any (now + h.time) _ pa3 pa4).mono ?_
        rintro e u2 ⟨⟨y6, rfl⟩, hb2⟩
        have HB2 := Lib.hid (HB1.out.trans (hb2.mono HB1.out.size))
        have hC2 : (fun w' => w'.cell? ⟨w.heap.size + 1, 0, none⟩ = some (.int .i64 h.road) ∧ w'.cell? ⟨w.heap.size + 1, 3, none⟩ = some (.int .i64 h.time) ∧ w'.cell? ⟨w1.heap.size, 3, none⟩ = some (.int .i64 r.len)) u2 := ⟨(HB2.out.cell (p := ⟨_, _, none⟩) (by omega)).trans k0, (HB2.out.cell (p := ⟨_, _, none⟩) (by omega)).trans k3, (HB2.out.cell (p := ⟨_, _, none⟩) (by omega)).trans r3⟩
        refine hK.out _ _ (fun _ => hC2) ?_
        clear hK K hb2
        try simp only [Act.put, List.setIfInBounds_toArray, List.set_cons_zero, List.set_cons_succ]
        refine till_ready (rs := [11, 13]) (by kernel_rfl) (by rfl) ?_
        refine TillReady.cons rfl (fun K hK => ?_) ?_
        focus
          go_simp
          refine (ratInt_any r.len _ pa5 pa6).mono ?_
          rintro e u3 ⟨⟨y11, rfl⟩, hb3⟩
          have HB3 := Lib.hid (HB2.out.trans (hb3.mono HB2.out.size))
          have hC3 : (fun w' => w'.cell? ⟨w.heap.size + 1, 0, none⟩ = some (.int .i64 h.road) ∧ w'.cell? ⟨w.heap.size + 1, 3, none⟩ = some (.int .i64 h.time) ∧ w'.cell? ⟨w1.heap.size, 3, none⟩ = some (.int .i64 r.len)) u3 := ⟨(HB3.out.cell (p := ⟨_, _, none⟩) (by omega)).trans k0, (HB3.out.cell (p := ⟨_, _, none⟩) (by omega)).trans k3, (HB3.out.cell (p := ⟨_, _, none⟩) (by omega)).trans r3⟩
          refine hK.out _ _ (fun _ => hC3) ?_
          clear hK K hb3
          try simp only [Act.put, List.setIfInBounds_toArray, List.set_cons_zero, List.set_cons_succ]
          refine till_take (i := 12) (v := ?vt12102) [14] rfl (by kernel_rfl) (by kernel_rfl) (by kernel_rfl) (by kernel_rfl) (by kernel_rfl) (by kernel_rfl) (by kernel_rfl) (fun _ _ _ h => h) (by rfl) ?yt12102 hC3 ?rt12102
          case yt12102 =>
            intro W hW
            obtain ⟨j0, j1, j2⟩ := hW
            go_simp
            with_reducible rfl
          try simp only [Act.put, List.setIfInBounds_toArray, List.set_cons_zero, List.set_cons_succ]
          refine till_ready (rs := [13]) (by kernel_rfl) (by rfl) ?_
          refine TillReady.cons rfl (fun K hK => ?_) ?_
          focus
            go_simp
            have HZ4 := Lib.hid (obj_last (u3) (.cells #[.bool false, .string ⟨#[]⟩, .bool false, .string ⟨#[]⟩, .bool false, .string ⟨#[]⟩, .bool false, .string ⟨#[]⟩, .int .i64 0, .bool false, .string ⟨#[]⟩, .bool false, .string ⟨#[]⟩, .bool false, .string ⟨#[]⟩, .bool false, .string ⟨#[]⟩] 156))
            have HB4 := Lib.hid (HB3.out.alloc HB3.out.size (.cells #[.bool false, .string ⟨#[]⟩, .bool false, .string ⟨#[]⟩, .bool false, .string ⟨#[]⟩, .bool false, .string ⟨#[]⟩, .int .i64 0, .bool false, .string ⟨#[]⟩, .bool false, .string ⟨#[]⟩, .bool false, .string ⟨#[]⟩, .bool false, .string ⟨#[]⟩] 156))
            obtain ⟨b9, hb9⟩ : ∃ z, (u3).heap.size = z := ⟨_, rfl⟩
            have HL9 := Lib.hid (show W1.heap.size ≤ b9 from by rw [← hb9]; exact HB3.out.size)
            obtain ⟨u4, hu4⟩ : ∃ z, (u3).alloc (.cells #[.bool false, .string ⟨#[]⟩, .bool false, .string ⟨#[]⟩, .bool false, .string ⟨#[]⟩, .bool false, .string ⟨#[]⟩, .int .i64 0, .bool false, .string ⟨#[]⟩, .bool false, .string ⟨#[]⟩, .bool false, .string ⟨#[]⟩, .bool false, .string ⟨#[]⟩] 156) = z := ⟨_, rfl⟩
            rw [hu4, hb9] at HZ4
            rw [hu4] at HB4
            simp only [hu4, hb9]
            have hC4 : (fun w' => w'.cell? ⟨w.heap.size + 1, 0, none⟩ = some (.int .i64 h.road) ∧ w'.cell? ⟨w.heap.size + 1, 3, none⟩ = some (.int .i64 h.time) ∧ w'.cell? ⟨w1.heap.size, 3, none⟩ = some (.int .i64 r.len)) u4 := ⟨(HB4.out.cell (p := ⟨_, _, none⟩) (by omega)).trans k0, (HB4.out.cell (p := ⟨_, _, none⟩) (by omega)).trans k3, (HB4.out.cell (p := ⟨_, _, none⟩) (by omega)).trans r3⟩
            refine hK.out _ _ (fun _ => hC4) ?_
            clear hK K hu4 hb9
            try simp only [Act.put, List.setIfInBounds_toArray, List.set_cons_zero, List.set_cons_succ]
            refine till_ready (rs := [14]) (by kernel_rfl) (by rfl) ?_
            refine TillReady.cons rfl (fun K hK => ?_) TillReady.nil
            rw [if_pos (by rfl)]
            refine wp_store_row 156 (.tmp 9) (.tmp 29) rfl b9 #[.bool y1.b, .string y1.s, .bool y1.c, .string y1.t, .bool y6.b, .string y6.s, .bool y6.c, .string y6.t, .int .i64 h.road, .bool false, .string ⟨#[]⟩, .bool false, .string ⟨#[]⟩, .bool y11.b, .string y11.s, .bool y11.c, .string y11.t] (by rfl) (by rfl) _ _ HZ4.out iLegT rfl leg_all ?_
            refine hK.out _ _ (fun h => by cases (show true = false from h)) ?_
            clear hK K
            try simp only [Act.put, List.setIfInBounds_toArray, List.set_cons_zero, List.set_cons_succ]
            refine till_done (by kernel_rfl) ?_
            refine NoPanic.normal ?_
            go_wp2_with fail
            go_meet
            exact ⟨b9, ⟨y1, y6, h.road, rat0, y11⟩, rfl, HL9.out, setRow_heap _ _ _ _ _ _ HZ4.out, below_row HB4.out HL9.out⟩
          exact TillReady.nil
        refine TillReady.cons rfl (fun K hK => ?_) ?_
        focus
          go_simp
          have HZ3 := Lib.hid (obj_last (u2) (.cells #[.bool false, .string ⟨#[]⟩, .bool false, .string ⟨#[]⟩, .bool false, .string ⟨#[]⟩, .bool false, .string ⟨#[]⟩, .int .i64 0, .bool false, .string ⟨#[]⟩, .bool false, .string ⟨#[]⟩, .bool false, .string ⟨#[]⟩, .bool false, .string ⟨#[]⟩] 156))
          have HB3 := Lib.hid (HB2.out.alloc HB2.out.size (.cells #[.bool false, .string ⟨#[]⟩, .bool false, .string ⟨#[]⟩, .bool false, .string ⟨#[]⟩, .bool false, .string ⟨#[]⟩, .int .i64 0, .bool false, .string ⟨#[]⟩, .bool false, .string ⟨#[]⟩, .bool false, .string ⟨#[]⟩, .bool false, .string ⟨#[]⟩] 156))
          obtain ⟨b9, hb9⟩ : ∃ z, (u2).heap.size = z := ⟨_, rfl⟩
          have HL9 := Lib.hid (show W1.heap.size ≤ b9 from by rw [← hb9]; exact HB2.out.size)
          obtain ⟨u3, hu3⟩ : ∃ z, (u2).alloc (.cells #[.bool false, .string ⟨#[]⟩, .bool false, .string ⟨#[]⟩, .bool false, .string ⟨#[]⟩, .bool false, .string ⟨#[]⟩, .int .i64 0, .bool false, .string ⟨#[]⟩, .bool false, .string ⟨#[]⟩, .bool false, .string ⟨#[]⟩, .bool false, .string ⟨#[]⟩] 156) = z := ⟨_, rfl⟩
          rw [hu3, hb9] at HZ3
          rw [hu3] at HB3
          simp only [hu3, hb9]
          have hC3 : (fun w' => w'.cell? ⟨w.heap.size + 1, 0, none⟩ = some (.int .i64 h.road) ∧ w'.cell? ⟨w.heap.size + 1, 3, none⟩ = some (.int .i64 h.time) ∧ w'.cell? ⟨w1.heap.size, 3, none⟩ = some (.int .i64 r.len)) u3 := ⟨(HB3.out.cell (p := ⟨_, _, none⟩) (by omega)).trans k0, (HB3.out.cell (p := ⟨_, _, none⟩) (by omega)).trans k3, (HB3.out.cell (p := ⟨_, _, none⟩) (by omega)).trans r3⟩
          refine hK.out _ _ (fun _ => hC3) ?_
          clear hK K hu3 hb9
          try simp only [Act.put, List.setIfInBounds_toArray, List.set_cons_zero, List.set_cons_succ]
          refine till_ready (rs := [11]) (by kernel_rfl) (by rfl) ?_
          refine TillReady.cons rfl (fun K hK => ?_) ?_
          focus
            go_simp
            refine (ratInt_any r.len _ pa5 pa6).mono ?_
            rintro e u4 ⟨⟨y11, rfl⟩, hb4⟩
            have HB4 := Lib.hid (HB3.out.trans (hb4.mono HB3.out.size))
            have HZ4 := Lib.hid (keepObj hb4 HZ3.out)
            have hC4 : (fun w' => w'.cell? ⟨w.heap.size + 1, 0, none⟩ = some (.int .i64 h.road) ∧ w'.cell? ⟨w.heap.size + 1, 3, none⟩ = some (.int .i64 h.time) ∧ w'.cell? ⟨w1.heap.size, 3, none⟩ = some (.int .i64 r.len)) u4 := ⟨(HB4.out.cell (p := ⟨_, _, none⟩) (by omega)).trans k0, (HB4.out.cell (p := ⟨_, _, none⟩) (by omega)).trans k3, (HB4.out.cell (p := ⟨_, _, none⟩) (by omega)).trans r3⟩
            refine hK.out _ _ (fun _ => hC4) ?_
            clear hK K hb4
            try simp only [Act.put, List.setIfInBounds_toArray, List.set_cons_zero, List.set_cons_succ]
            refine till_take (i := 12) (v := ?vt12165) [14] rfl (by kernel_rfl) (by kernel_rfl) (by kernel_rfl) (by kernel_rfl) (by kernel_rfl) (by kernel_rfl) (by kernel_rfl) (fun _ _ _ h => h) (by rfl) ?yt12165 hC4 ?rt12165
            case yt12165 =>
              intro W hW
              obtain ⟨j0, j1, j2⟩ := hW
              go_simp
              with_reducible rfl
            try simp only [Act.put, List.setIfInBounds_toArray, List.set_cons_zero, List.set_cons_succ]
            refine till_ready (rs := [14]) (by kernel_rfl) (by rfl) ?_
            refine TillReady.cons rfl (fun K hK => ?_) TillReady.nil
            rw [if_pos (by rfl)]
            refine wp_store_row 156 (.tmp 9) (.tmp 29) rfl b9 #[.bool y1.b, .string y1.s, .bool y1.c, .string y1.t, .bool y6.b, .string y6.s, .bool y6.c, .string y6.t, .int .i64 h.road, .bool false, .string ⟨#[]⟩, .bool false, .string ⟨#[]⟩, .bool y11.b, .string y11.s, .bool y11.c, .string y11.t] (by rfl) (by rfl) _ _ HZ4.out iLegT rfl leg_all ?_
            refine hK.out _ _ (fun h => by cases (show true = false from h)) ?_
            clear hK K
            try simp only [Act.put, List.setIfInBounds_toArray, List.set_cons_zero, List.set_cons_succ]
            refine till_done (by kernel_rfl) ?_
            refine NoPanic.normal ?_
            go_wp2_with fail
            go_meet
            exact ⟨b9, ⟨y1, y6, h.road, rat0, y11⟩, rfl, HL9.out, setRow_heap _ _ _ _ _ _ HZ4.out, below_row HB4.out HL9.out⟩
          exact TillReady.nil
        exact TillReady.nil
      refine TillReady.cons rfl (fun K hK => ?_) ?_
      focus
        go_simp
        have HZ2 := Lib.hid (obj_last (u1) (.cells #[.bool false, .string ⟨#[]⟩, .bool false, .string ⟨#[]⟩, .bool false, .string ⟨#[]⟩, .bool false, .string ⟨#[]⟩, .int .i64 0, .bool false, .string ⟨#[]⟩, .bool false, .string ⟨#[]⟩, .bool false, .string ⟨#[]⟩, .bool false, .string ⟨#[]⟩] 156))
        have HB2 := Lib.hid (HB1.out.alloc HB1.out.size (.cells #[.bool false, .string ⟨#[]⟩, .bool false, .string ⟨#[]⟩, .bool false, .string ⟨#[]⟩, .bool false, .string ⟨#[]⟩, .int .i64 0, .bool false, .string ⟨#[]⟩, .bool false, .string ⟨#[]⟩, .bool false, .string ⟨#[]⟩, .bool false, .string ⟨#[]⟩] 156))
        obtain ⟨b9, hb9⟩ : ∃ z, (u1).heap.size = z := ⟨_, rfl⟩
        have HL9 := Lib.hid (show W1.heap.size ≤ b9 from by rw [← hb9]; exact HB1.out.size)
        obtain ⟨u2, hu2⟩ : ∃ z, (u1).alloc (.cells #[.bool false, .string ⟨#[]⟩, .bool false, .string ⟨#[]⟩, .bool false, .string ⟨#[]⟩, .bool false, .string ⟨#[]⟩, .int .i64 0, .bool false, .string ⟨#[]⟩, .bool false, .string ⟨#[]⟩, .bool false, .string ⟨#[]⟩, .bool false, .string ⟨#[]⟩] 156) = z := ⟨_, rfl⟩
        rw [hu2, hb9] at HZ2
        rw [hu2] at HB2
        simp only [hu2, hb9]
        have hC2 : (fun w' => w'.cell? ⟨w.heap.size + 1, 0, none⟩ = some (.int .i64 h.road) ∧ w'.cell? ⟨w.heap.size + 1, 3, none⟩ = some (.int .i64 h.time) ∧ w'.cell? ⟨w1.heap.size, 3, none⟩ = some (.int .i64 r.len)) u2 := ⟨(HB2.out.cell (p := ⟨_, _, none⟩) (by omega)).trans k0, (HB2.out.cell (p := ⟨_, _, none⟩) (by omega)).trans k3, (HB2.out.cell (p := ⟨_, _, none⟩) (by omega)).trans r3⟩
        refine hK.out _ _ (fun _ => hC2) ?_
        clear hK K hu2 hb9
        try simp only [Act.put, List.setIfInBounds_toArray, List.set_cons_zero, List.set_cons_succ]
        refine till_ready (rs := [6]) (by kernel_rfl) (by rfl) ?_
        refine TillReady.cons rfl (fun K hK => ?_) ?_
        focus
          go_simp
          refine (ratInt_any (now + h.time) _ pa3 pa4).mono ?_
          rintro e u3 ⟨⟨y6, rfl⟩, hb3⟩
          have HB3 := Lib.hid (HB2.out.trans (hb3.mono HB2.out.size))
          have HZ3 := Lib.hid (keepObj hb3 HZ2.out)
          have hC3 : (fun w' => w'.cell? ⟨w.heap.size + 1, 0, none⟩ = some (.int .i64 h.road) ∧ w'.cell? ⟨w.heap.size + 1, 3, none⟩ = some (.int .i64 h.time) ∧ w'.cell? ⟨w1.heap.size, 3, none⟩ = some (.int .i64 r.len)) u3 := ⟨(HB3.out.cell (p := ⟨_, _, none⟩) (by omega)).trans k0, (HB3.out.cell (p := ⟨_, _, none⟩) (by omega)).trans k3, (HB3.out.cell (p := ⟨_, _, none⟩) (by omega)).trans r3⟩
          refine hK.out _ _ (fun _ => hC3) ?_
          clear hK K hb3
          try simp only [Act.put, List.setIfInBounds_toArray, List.set_cons_zero, List.set_cons_succ]
          refine till_ready (rs := [11]) (by kernel_rfl) (by rfl) ?_
          refine TillReady.cons rfl (fun K hK => ?_) ?_
          focus
            go_simp
            refine (ratInt_any r.len _ pa5 pa6).mono ?_
            rintro e u4 ⟨⟨y11, rfl⟩, hb4⟩
            have HB4 := Lib.hid (HB3.out.trans (hb4.mono HB3.out.size))
            have HZ4 := Lib.hid (keepObj hb4 HZ3.out)
            have hC4 : (fun w' => w'.cell? ⟨w.heap.size + 1, 0, none⟩ = some (.int .i64 h.road) ∧ w'.cell? ⟨w.heap.size + 1, 3, none⟩ = some (.int .i64 h.time) ∧ w'.cell? ⟨w1.heap.size, 3, none⟩ = some (.int .i64 r.len)) u4 := ⟨(HB4.out.cell (p := ⟨_, _, none⟩) (by omega)).trans k0, (HB4.out.cell (p := ⟨_, _, none⟩) (by omega)).trans k3, (HB4.out.cell (p := ⟨_, _, none⟩) (by omega)).trans r3⟩
            refine hK.out _ _ (fun _ => hC4) ?_
            clear hK K hb4
            try simp only [Act.put, List.setIfInBounds_toArray, List.set_cons_zero, List.set_cons_succ]
            refine till_take (i := 12) (v := ?vt12225) [14] rfl (by kernel_rfl) (by kernel_rfl) (by kernel_rfl) (by kernel_rfl) (by kernel_rfl) (by kernel_rfl) (by kernel_rfl) (fun _ _ _ h => h) (by rfl) ?yt12225 hC4 ?rt12225
            case yt12225 =>
              intro W hW
              obtain ⟨j0, j1, j2⟩ := hW
              go_simp
              with_reducible rfl
            try simp only [Act.put, List.setIfInBounds_toArray, List.set_cons_zero, List.set_cons_succ]
            refine till_ready (rs := [14]) (by kernel_rfl) (by rfl) ?_
            refine TillReady.cons rfl (fun K hK => ?_) TillReady.nil
            rw [if_pos (by rfl)]
            refine wp_store_row 156 (.tmp 9) (.tmp 29) rfl b9 #[.bool y1.b, .string y1.s, .bool y1.c, .string y1.t, .bool y6.b, .string y6.s, .bool y6.c, .string y6.t, .int .i64 h.road, .bool false, .string ⟨#[]⟩, .bool false, .string ⟨#[]⟩, .bool y11.b, .string y11.s, .bool y11.c, .string y11.t] (by rfl) (by rfl) _ _ HZ4.out iLegT rfl leg_all ?_
            refine hK.out _ _ (fun h => by cases (show true = false from h)) ?_
            clear hK K
            try simp only [Act.put, List.setIfInBounds_toArray, List.set_cons_zero, List.set_cons_succ]
            refine till_done (by kernel_rfl) ?_
            refine NoPanic.normal ?_
            go_wp2_with fail
            go_meet
            exact ⟨b9, ⟨y1, y6, h.road, rat0, y11⟩, rfl, HL9.out, setRow_heap _ _ _ _ _ _ HZ4.out, below_row HB4.out HL9.out⟩
          exact TillReady.nil
        exact TillReady.nil
      exact TillReady.nil
    refine TillReady.cons rfl (fun K hK => ?_) ?_
    focus
      go_simp
      have HZ1 := Lib.hid (obj_drew (obj_last W1 (.cells #[.bool false, .string ⟨#[]⟩, .bool false, .string ⟨#[]⟩, .bool false, .string ⟨#[]⟩, .bool false, .string ⟨#[]⟩, .int .i64 0, .bool false, .string ⟨#[]⟩, .bool false, .string ⟨#[]⟩, .bool false, .string ⟨#[]⟩, .bool false, .string ⟨#[]⟩] 156)))
      have HB1 := Lib.hid (show Below W1.heap.size W1 (W1.alloc (.cells #[.bool false, .string ⟨#[]⟩, .bool false, .string ⟨#[]⟩, .bool false, .string ⟨#[]⟩, .bool false, .string ⟨#[]⟩, .int .i64 0, .bool false, .string ⟨#[]⟩, .bool false, .string ⟨#[]⟩, .bool false, .string ⟨#[]⟩, .bool false, .string ⟨#[]⟩] 156)).drew from by (repeat (first | with_reducible exact Below.refl _ _ | with_reducible assumption | ((with_reducible refine Below.setCell ?_ ?_ _); rotate_left; focus (first | exact Nat.le_refl _ | omega | exact Below.size (by assumption) | (simp; done) | (simp; omega))) | ((with_reducible refine Below.alloc ?_ ?_ _); rotate_left; focus (first | exact Nat.le_refl _ | omega | exact Below.size (by assumption) | (simp; done) | (simp; omega))) | (with_reducible refine Below.drew ?_) | (with_reducible refine drewN_ ?_ _))))
      obtain ⟨b9, hb9⟩ : ∃ z, W1.heap.size = z := ⟨_, rfl⟩
      have HL9 := Lib.hid (show W1.heap.size ≤ b9 from by omega)
      obtain ⟨u1, hu1⟩ : ∃ z, (W1.alloc (.cells #[.bool false, .string ⟨#[]⟩, .bool false, .string ⟨#[]⟩, .bool false, .string ⟨#[]⟩, .bool false, .string ⟨#[]⟩, .int .i64 0, .bool false, .string ⟨#[]⟩, .bool false, .string ⟨#[]⟩, .bool false, .string ⟨#[]⟩, .bool false, .string ⟨#[]⟩] 156)).drew = z := ⟨_, rfl⟩
      rw [hu1, hb9] at HZ1
      rw [hu1] at HB1
      rw [hu1, hb9]
      have hC1 : (fun w' => w'.cell? ⟨w.heap.size + 1, 0, none⟩ = some (.int .i64 h.road) ∧ w'.cell? ⟨w.heap.size + 1, 3, none⟩ = some (.int .i64 h.time) ∧ w'.cell? ⟨w1.heap.size, 3, none⟩ = some (.int .i64 r.len)) u1 := ⟨(HB1.out.cell (p := ⟨_, _, none⟩) (by omega)).trans k0, (HB1.out.cell (p := ⟨_, _, none⟩) (by omega)).trans k3, (HB1.out.cell (p := ⟨_, _, none⟩) (by omega)).trans r3⟩
      refine hK.out _ _ (fun _ => hC1) ?_
      clear hK K hu1 hb9
      try simp only [Act.put, List.setIfInBounds_toArray, List.set_cons_zero, List.set_cons_succ]
      refine till_ready (rs := [1]) (by kernel_rfl) (by rfl) ?_
      refine TillReady.cons rfl (fun K hK => ?_) ?_
      focus
        go_simp
        refine (ratInt_any now _ pa1 pa2).mono ?_
        rintro e u2 ⟨⟨y1, rfl⟩, hb2⟩
        have HB2 := Lib.hid (HB1.out.trans (hb2.mono HB1.out.size))
        have HZ2 := Lib.hid (keepObj hb2 HZ1.out)
        have hC2 : (fun w' => w'.cell? ⟨w.heap.size + 1, 0, none⟩ = some (.int .i64 h.road) ∧ w'.cell? ⟨w.heap.size + 1, 3, none⟩ = some (.int .i64 h.time) ∧ w'.cell? ⟨w1.heap.size, 3, none⟩ = some (.int .i64 r.len)) u2 := ⟨(HB2.out.cell (p := ⟨_, _, none⟩) (by omega)).trans k0, (HB2.out.cell (p := ⟨_, _, none⟩) (by omega)).trans k3, (HB2.out.cell (p := ⟨_, _, none⟩) (by omega)).trans r3⟩
        refine hK.out _ _ (fun _ => hC2) ?_
        clear hK K hb2
        try simp only [Act.put, List.setIfInBounds_toArray, List.set_cons_zero, List.set_cons_succ]
        refine till_ready (rs := [6]) (by kernel_rfl) (by rfl) ?_
        refine TillReady.cons rfl (fun K hK => ?_) ?_
        focus
          go_simp
          refine (ratInt_any (now + h.time) _ pa3 pa4).mono ?_
          rintro e u3 ⟨⟨y6, rfl⟩, hb3⟩
          have HB3 := Lib.hid (HB2.out.trans (hb3.mono HB2.out.size))
          have HZ3 := Lib.hid (keepObj hb3 HZ2.out)
          have hC3 : (fun w' => w'.cell? ⟨w.heap.size + 1, 0, none⟩ = some (.int .i64 h.road) ∧ w'.cell? ⟨w.heap.size + 1, 3, none⟩ = some (.int .i64 h.time) ∧ w'.cell? ⟨w1.heap.size, 3, none⟩ = some (.int .i64 r.len)) u3 := ⟨(HB3.out.cell (p := ⟨_, _, none⟩) (by omega)).trans k0, (HB3.out.cell (p := ⟨_, _, none⟩) (by omega)).trans k3, (HB3.out.cell (p := ⟨_, _, none⟩) (by omega)).trans r3⟩
          refine hK.out _ _ (fun _ => hC3) ?_
          clear hK K hb3
          try simp only [Act.put, List.setIfInBounds_toArray, List.set_cons_zero, List.set_cons_succ]
          refine till_ready (rs := [11]) (by kernel_rfl) (by rfl) ?_
          refine TillReady.cons rfl (fun K hK => ?_) ?_
          focus
            go_simp
            refine (ratInt_any r.len _ pa5 pa6).mono ?_
            rintro e u4 ⟨⟨y11, rfl⟩, hb4⟩
            have HB4 := Lib.hid (HB3.out.trans (hb4.mono HB3.out.size))
            have HZ4 := Lib.hid (keepObj hb4 HZ3.out)
            have hC4 : (fun w' => w'.cell? ⟨w.heap.size + 1, 0, none⟩ = some (.int .i64 h.road) ∧ w'.cell? ⟨w.heap.size + 1, 3, none⟩ = some (.int .i64 h.time) ∧ w'.cell? ⟨w1.heap.size, 3, none⟩ = some (.int .i64 r.len)) u4 := ⟨(HB4.out.cell (p := ⟨_, _, none⟩) (by omega)).trans k0, (HB4.out.cell (p := ⟨_, _, none⟩) (by omega)).trans k3, (HB4.out.cell (p := ⟨_, _, none⟩) (by omega)).trans r3⟩
            refine hK.out _ _ (fun _ => hC4) ?_
            clear hK K hb4
            try simp only [Act.put, List.setIfInBounds_toArray, List.set_cons_zero, List.set_cons_succ]
            refine till_take (i := 12) (v := ?vt12299) [14] rfl (by kernel_rfl) (by kernel_rfl) (by kernel_rfl) (by kernel_rfl) (by kernel_rfl) (by kernel_rfl) (by kernel_rfl) (fun _ _ _ h => h) (by rfl) ?yt12299 hC4 ?rt12299
            case yt12299 =>
              intro W hW
              obtain ⟨j0, j1, j2⟩ := hW
              go_simp
              with_reducible rfl
            try simp only [Act.put, List.setIfInBounds_toArray, List.set_cons_zero, List.set_cons_succ]
            refine till_ready (rs := [14]) (by kernel_rfl) (by rfl) ?_
            refine TillReady.cons rfl (fun K hK => ?_) TillReady.nil
            rw [if_pos (by rfl)]
            refine wp_store_row 156 (.tmp 9) (.tmp 29) rfl b9 #[.bool y1.b, .string y1.s, .bool y1.c, .string y1.t, .bool y6.b, .string y6.s, .bool y6.c, .string y6.t, .int .i64 h.road, .bool false, .string ⟨#[]⟩, .bool false, .string ⟨#[]⟩, .bool y11.b, .string y11.s, .bool y11.c, .string y11.t] (by rfl) (by rfl) _ _ HZ4.out iLegT rfl leg_all ?_
            refine hK.out _ _ (fun h => by cases (show true = false from h)) ?_
            clear hK K
            try simp only [Act.put, List.setIfInBounds_toArray, List.set_cons_zero, List.set_cons_succ]
            refine till_done (by kernel_rfl) ?_
            refine NoPanic.normal ?_
            go_wp2_with fail
            go_meet
            exact ⟨b9, ⟨y1, y6, h.road, rat0, y11⟩, rfl, HL9.out, setRow_heap _ _ _ _ _ _ HZ4.out, below_row HB4.out HL9.out⟩
          exact TillReady.nil
        exact TillReady.nil
      exact TillReady.nil
    exact TillReady.nil
  case rest =>
    obtain ⟨b9, g, rfl, hb9, hG, hBx⟩ := hcut
    have hR := keepObj hBx.out PR.out
    have hH := keepObj hBx.out PH.out
    have HO := Lib.hid (keepObj hBx.out PO.out)
    have k1 := obj_cell hR 1
    have k2 := obj_cell hH 1
    simp at k1 k2
    have zo := obj_lt HO.out
    have zg := obj_lt hG.out
    have hne : b9 ≠ w.heap.size + 2 := by omega
    have hzr := obj_lt hR
    have hzh := obj_lt hH
    have HBX := Lib.hid (BW.out.trans (hBx.out.mono (by omega)))
    have l9 := obj_cell hG.out 9
    have l10 := obj_cell hG.out 10
    have l11 := obj_cell hG.out 11
    have l12 := obj_cell hG.out 12
    have l13 := obj_cell hG.out 13
    have l14 := obj_cell hG.out 14
    have l15 := obj_cell hG.out 15
    have l16 := obj_cell hG.out 16
    have m9 := obj_free hG.out 9
    have m10 := obj_free hG.out 10
    have m11 := obj_free hG.out 11
    have m12 := obj_free hG.out 12
    have m13 := obj_free hG.out 13
    have m14 := obj_free hG.out 14
    have m15 := obj_free hG.out 15
    have m16 := obj_free hG.out 16
    simp at l9 l10 l11 l12 l13 l14 l15 l16
    clear hR hH k0 k3 r3
    by_cases hx : r.src = h.src
    · have hx' : (r.src == h.src) = true := by simpa using hx
      clear hx
      go_upto_region 5 with fail
      go_step
      refine leg_load (by rfl) (.tmp 9) (by rfl) b9 (by rfl) hG.out ?_
      refine leg_store (by rfl) (.tmp 6) (.tmp 41) (by rfl) (w.heap.size + 2) g (by rfl) (by rfl) HO.out ?_
      go_wp2_with fail
      refine bodyPost_ret (v := g.v) ?_ rfl ⟨⟨_, rfl⟩, ?_⟩
      · exact leg_result (by rfl) (by rfl) (setRow_heap _ _ _ _ _ _ HO.out)
      · exact below_row HBX.out (by omega)
    · have hx' : (r.src == h.src) = false := by simpa using hx
      clear hx
      go_upto_region 5 with fail
      go_step
      refine leg_load (by rfl) (.tmp 9) (by rfl) b9 (by rfl) (obj_set8 hG.out) ?_
      refine leg_store (by rfl) (.tmp 6) (.tmp 41) (by rfl) (w.heap.size + 2) ⟨g.f, g.t, g.road, g.z, g.a⟩ (by rfl) (by rfl) (obj_out8 HO.out (by omega)) ?_
      go_wp2_with fail
      refine bodyPost_ret (v := (⟨g.f, g.t, g.road, g.z, g.a⟩ : LegD).v) ?_ rfl ⟨⟨_, rfl⟩, ?_⟩
      · exact leg_result (by rfl) (by rfl) (setRow_heap _ _ _ _ _ _ (obj_out8 HO.out (by omega)))
      · exact below_row (below_set8 HBX.out (by omega)) (by omega)
end Go.Proofs.YtmplajpbmojkkaaGreat
