/-
 The law's least route is the program's.
-/
import Derived.Test.YtcelpkbmcmnogaaGreatDoorLwT
set_option linter.unusedSimpArgs false
set_option linter.unusedVariables false
namespace Go.Proofs.YtcelpkbmcmnogaaGreatDoor
open Go Go.RowKit Go.Vi
attribute [local go_sem ↓] lo_lt lo_ne lo_ne'
attribute [local go_sem] junk_cell junk_frozen junk_setCell junk_drew drew_junk
/-- The law's least route. -/
def lstN (n : Net) (a b : Int) : Option Rte := routesF (hp2 n) (idsN n) b 8 ⟨[a], [], 0⟩
theorem grd_n {n : Net} (hK : NetOK n) (b : Int) : Grd (finA n) (Least (finA n.rev) b) b (hp2 n) (idsN n) :=
 grd_of hK.roads (finA_of n) (finA_of n.rev) b (fun u h hh => (hK.hop (finA_of n) u h hh).1) (fun u h hh => (hop_ends hK (finA_of n) hh).2)
theorem route_at {n : Net} {a b : Int} {R : List Hp} {l : Int} (h : IsRoute n a b R l) : Least (finA n.rev) b a l ∧ Way (finA n) (Least (finA n.rev) b) b a R := by
 obtain ⟨_, _, A, B, h1, h2, h3, h4⟩ := h
 have e1 : A = finA n := funext fun k => fin_unique (h1 k) (finA_of n k)
 have e2 : B = finA n.rev := funext fun k => fin_unique (h2 k) (finA_of n.rev k)
 subst e1; subst e2
 exact ⟨h3, h4⟩
theorem un8 {n : Net} (h8 : n.nodes.length ≤ 8) (L : List Int) : unused (idsN n) L ≤ 8 := by
 have h : unused (idsN n) L ≤ (idsN n).length := List.countP_le_length
 rw [idsN_len] at h
 omega
theorem lstN_some {n : Net} (hK : NetOK n) (h8 : n.nodes.length ≤ 8) {a b : Int} {R : List Hp} {l : Int} (h : rtN n a b = some (R, l)) : lstN n a b = some ⟨a :: R.map Hp.dst, R.map Hp.road, l⟩ := by
 obtain ⟨h1, h2⟩ := route_at ((rtN_of n a b R l).1 h)
 exact (grd_n hK b).some h1 h2 (un8 h8 _)
theorem lstN_none {n : Net} (hK : NetOK n) (h8 : n.nodes.length ≤ 8) {a b : Int} (ha : (nodeOf n.nodes a).isSome = true) (hb : (nodeOf n.nodes b).isSome = true) (h : rtN n a b = none) : lstN n a b = none := by
 refine (grd_n hK b).none (fun d hd => ?_) (un8 h8 _)
 obtain ⟨R, hR⟩ := (grd_n hK b).way _ a d rfl hd
 have := (rtN_of n a b R d).2 ⟨ha, hb, finA n, finA n.rev, finA_of n, finA_of n.rev, hd, hR⟩
 rw [h] at this
 cases this
set_option maxRecDepth 100000 in
set_option maxHeartbeats 1000000 in
theorem leastR_q (n : Net) (hK : NetOK n) (h8 : n.nodes.length ≤ 8) (a b : Int) (v1 v2 : Value) (w : World) (hN : NetAt w.heap.size w v1 v2 n) :
  Calls Tryz.prog 20 #[.agg #[v1, v2], .int .i64 a, .int .i64 b] w (RtsOut w.heap.size (lstN n a b) w) := by
 have HR : Hid (∀ (u : Value) (w' : World) [Bw w w'] (B : Nat), B ≤ w'.heap.size → Sl w'.heap.size w' 1 u ([a].map i1) → RtLow B u (.slice none 0 0) → Calls Tryz.prog 53 #[.agg #[v1, v2], .agg #[u, .slice none 0 0, .int .i64 0], .int .i64 b] w' (RtsOut B (lstN n a b) w')) := Lib.hid (fun u w' hw B hB hu hl => routes_q n hK h8 b 8 ⟨[a], [], 0⟩ u (.slice none 0 0) v1 v2 w' B hB hl (later_bw hN) ⟨hu, sl_nil _ _ _⟩ ⟨by simp, by simp, by simp, un8 h8 _, by simp⟩)
 obtain ⟨a1, n1, c1, rfl, _⟩ := hN.1.open
 obtain ⟨a2, n2, c2, rfl, _⟩ := hN.2.open
 generalize lstN n a b = o at HR ⊢
 clear hN hK h8
 go_enter Tryz.func20, Tryz.ntmps20
 go_wp2_with fail
 refine (HR.out _ _ (w.heap.size + 2) (by simp) (own_blk (B := 0) (e := 3) (k := 1) (n := 1) (rows := [a].map i1) (cs := #[.int .i64 a]) (obj_at' (by simp)) rfl (Nat.zero_le _) rfl (by intro r hr; obtain ⟨y, _, rfl⟩ := List.mem_map.1 hr; rfl) (by decide)).sl ⟨(fun ad n c e => by injection e with e; injection e with e; subst e; exact Nat.le_refl _), (fun ad n c e => by cases e)⟩).mono ?_
 rintro e w2 ⟨vn, vr, hl, rfl, hr, hb⟩
 obtain ⟨X, rfl⟩ := below_some hb
 obtain ⟨an, nn, cn, rfl, _⟩ := hr.nodes.open
 obtain ⟨ar, nr, cr, rfl, _⟩ := hr.roads.open
 have HL := Lib.hid hl
 have HT := Lib.hid hr
 clear hl hr hb HR
 obtain ⟨W, hW⟩ : ∃ W, W = ((((w.alloc (.cells #[.slice a1 n1 c1, .slice a2 n2 c2] 36)).alloc (.cells #[.slice none 0 0, .slice none 0 0, .int .i64 0] 64)).alloc (.cells #[.int .i64 a] 3)).junk X) := ⟨_, rfl⟩
 haveI bw : Bw w W := by rw [hW]; infer_instance
 have HB : Hid (W.heap[w.heap.size + 1]? = some (.cells #[.slice none 0 0, .slice none 0 0, .int .i64 0] 64 (0, 0))) := Lib.hid (by rw [hW]; exact obj_junk (obj_old (obj_at' (by simp))))
 rw [← hW] at HT ⊢
 clear hW
 have b0' := obj_cell HB.out 0
 have b1' := obj_cell HB.out 1
 have b2' := obj_cell HB.out 2
 have z0' := obj_free HB.out 0
 have z1' := obj_free HB.out 1
 have z2' := obj_free HB.out 2
 have zl := obj_lt HB.out
 simp at b0' b1' b2'
 haveI c3 : Bw w (((W.setCell ⟨w.heap.size + 1, 0, none⟩ (.slice an nn cn)).setCell ⟨w.heap.size + 1, 1, none⟩ (.slice ar nr cr)).setCell ⟨w.heap.size + 1, 2, none⟩ (.int .i64 (o.getD rte0).len)) := bw_set3 (by omega) _ _ _
 go_wp2_with fail
 refine bodyPost_ret (v := .tuple #[.agg #[.slice an nn cn, .slice ar nr cr, .int .i64 (o.getD rte0).len], .bool o.isSome]) (by simp [results, Tryz.results20, go_sem, b0', b1', b2', z0', z1', z2', zl]) rfl ⟨_, _, HL.out.mono (by omega), rfl, ?_, c3.b⟩
 have hst := HT.out.set3 (b := w.heap.size + 1) HL.out (.slice an nn cn) (.slice ar nr cr) (.int .i64 (o.getD rte0).len)
 have e : (((W.setCell ⟨w.heap.size + 1, 0, none⟩ (.slice an nn cn)).setCell ⟨w.heap.size + 1, 1, none⟩ (.slice ar nr cr)).setCell ⟨w.heap.size + 1, 2, none⟩ (.int .i64 (o.getD rte0).len)).heap.size = W.heap.size := by simp [World.setCell]
 rw [e]
 exact hst
end Go.Proofs.YtcelpkbmcmnogaaGreatDoor
