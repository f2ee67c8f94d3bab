/-
 Ways over nodes, exactly: the legs of a choice.
-/
import Derived.Test.YtcelpkbmcmnogaaGreatDoorShoD
import Derived.Test.YtcelpkbmcmnogaaGreatDoorShoB
import Derived.Deep.CutBlock
import Derived.IntWalk
import Derived.Deep.CutRange
import Derived.Deep.DeepCutAuto
set_option linter.unusedSimpArgs false
set_option linter.unusedVariables false
namespace Go.Proofs.YtcelpkbmcmnogaaGreatDoor
open Go Go.RowKit Go.Vi
attribute [local go_sem ↓] lo_lt lo_ne lo_ne'
attribute [local go_sem] junk_cell junk_frozen junk_setCell junk_drew drew_junk
/-- != on fractions. -/
theorem neR_run (a b : Rat) (w : World) (ha : Sm a) (hb : Sm b) : (binOp .neq 41 (.agg #[.bool (zs a.num), .string (zx a.num), .bool false, .string (ry a.den)]) (.agg #[.bool (zs b.num), .string (zx b.num), .bool false, .string (ry b.den)])).run Tryz.prog w = .ok (.bool (!decide (a = b))) w := by
 by_cases h : a = b
 ·subst h
  simp [go_sem]
 ·rw [decide_eq_false h]
  have HD := rV_ne ha hb h
  clear h ha hb
  generalize zs a.num = a0 at *
  generalize zs b.num = b0 at *
  generalize zx a.num = a1 at *
  generalize zx b.num = b1 at *
  generalize ry a.den = a2 at *
  generalize ry b.den = b2 at *
  rcases HD with hd | ⟨rfl, hd⟩ | ⟨rfl, rfl, hd⟩
  all_goals simp [go_sem, hd]
attribute [local go_sem high] eqR_run eqG_run eqP_run neR_run
/-- A leg is appended, unless it has no length. -/
def addL (L : List Lg) (x : Lg) : List Lg := if x.a = x.b then L else L ++ [x]
def AddOut (B bo : Nat) (L : List Lg) (w : World) (e : Ending) (w' : World) : Prop := e = .returned (.tuple #[]) ∧ ∃ v, w'.heap[bo]? = some (.cells #[v] 44 (0, 0)) ∧ Ow B w' 55 9 v (L.map Lg.cs) ∧ Below B w w'
theorem uLg : Tryz.prog.underlying 44 = some (.slice 55) := by kernel_rfl
theorem iLg : (Tryz.prog.info? 55).map (fun i => (i.zero, i.size, i.bytes)) = some (some (.agg #[.int .i64 0, .bool false, .string ⟨#[]⟩, .bool false, .string ⟨#[]⟩, .bool false, .string ⟨#[]⟩, .bool false, .string ⟨#[]⟩]), 9, 104) := by kernel_rfl
theorem lg_cell1 (x : Lg) : ∀ u ∈ x.cs, u.oneCell' = true := by
 intro u hu
 simp only [Lg.cs, List.mem_cons, List.mem_nil_iff, or_false] at hu
 rcases hu with h | h | h | h | h | h | h | h | h <;> rw [h] <;> rfl
set_option maxRecDepth 100000 in
set_option maxHeartbeats 2000000 in
theorem addl_q (x : Lg) (L : List Lg) (v : Value) (B bo : Nat) (w : World) (hb : w.heap[bo]? = some (.cells #[v] 44 (0, 0))) (hB : B ≤ bo) (ho : Ow B w 55 9 v (L.map Lg.cs)) (hl : L.length < 1000000) (sa : Sm x.a) (sb : Sm x.b) :
  Calls Tryz.prog 89 #[x.v, .pointer (some ⟨bo, 0, none⟩)] w (AddOut B bo (addL L x) w) := by
 obtain ⟨i0, hi, hz0, hz1, hz2⟩ := info_parts iLg
 have hc := obj_cell hb 0
 simp at hc
 haveI lb : Lo bo w := ⟨obj_lt hb⟩
 have hlt := obj_lt hb
 have HB := Lib.hid hb
 have HO := Lib.hid ho
 obtain ⟨ao, no, co, hv⟩ := ho.val
 subst hv
 unfold addL
 by_cases h : x.a = x.b
 ·have hd : decide (x.a = x.b) = true := by simpa using h
  rw [if_pos h]
  clear h hb ho
  go_enter Tryz.func89, Tryz.ntmps89
  go_wp2_with fail
  go_end0
  exact ⟨rfl, _, obj_old HB.out, HO.out.keep Bw.b, (Below.refl _ _).alloc (by omega) _⟩
 ·have hd : decide (x.a = x.b) = false := by simpa using h
  rw [if_neg h]
  clear h hb ho
  go_enter Tryz.func89, Tryz.ntmps89
  go_wp2_with (at_builtin; refine ap2 (by rfl) _ _ _ (by rfl) uLg hi hz0 hz1 hz2 rfl (by decide) (fun _ => rfl) (base := B) (cs := Lg.cs) (L := L) (HO.out.keep Bw.b) (by rfl) x _ (by rfl) (obj_last2 _ _ _) (lg_cell1 _) hl (by decide) (by have := hlt; simp; omega) ?_; intro g8 cap8 w8 own8 hb8 hgr8 hg8 hl8 hc8 hm8; have HB8 := Lib.hid (keepBlk (HO.out.keep Bw.b) hgr8 (keepObj Bw.b HB.out) (by decide)); have HO8 := Lib.hid own8; have HW8 := Lib.hid hb8; have hcc := obj_cell HB8.out 0; have hff := obj_free HB8.out 0; simp at hcc; clear hb8 hgr8 own8 HB)
  go_end0
  refine ⟨rfl, _, ?_, HO8.out.keepSet _ (fun e => absurd (HO8.out.type _ e _ _ _ HB8.out) (by decide)) _, ?_⟩
  ·have q := obj_set (off := 0) (v := .slice (some ⟨g8, 0, none⟩) (L.length + 1) cap8) HB8.out
   simpa using q
  ·exact (((((Below.refl B w).alloc (by omega) _).alloc (by simp; omega) _).trans HW8.out).setCell (by simpa using hB) _)
/-- The offset of a node at an end of a road, by the road's id. -/
def endN (n : Net) (id x : Int) : Rat := offR ((roadOf n.roads id).getD rd0) x
theorem sm_end {n : Net} (hK : NetOK n) (id x : Int) : Sm (endN n id x) := by
 unfold endN offR
 have := rd_len hK id
 split
 ·exact sm_zero
 ·exact sm_int (by omega)
theorem end_bw {n : Net} {v1 v2 : Value} {w : World} (hN : NetAt w.heap.size w v1 v2 n) (hK : NetOK n) (id x : Int) : Hid (∀ (w' : World) [Bw w w'], Calls Tryz.prog 90 #[.agg #[v1, v2], .int .i64 id, .int .i64 x] w' fun e w2 => e = .returned (rV (endN n id x)) ∧ Below w'.heap.size w' w2) :=
 Lib.hid (fun w' _ => end_q n v1 v2 id x w' (later_bw hN) hK)
/-- The legs along a route. -/
def midL (n : Net) (c : Chc) (L : List Lg) (i : Nat) : List Lg := addL L ⟨(c.R[i]!).road, endN n (c.R[i]!).road (nodesC c)[i]!, endN n (c.R[i]!).road (nodesC c)[i + 1]!⟩
def legs0 (n : Net) (c : Chc) (p : Plc) : List Lg := if 0 < c.ex.len.num then addL [] ⟨p.road, p.off, endN n p.road c.ex.node⟩ else []
def legs1 (n : Net) (c : Chc) (p : Plc) : List Lg := (List.range c.R.length).foldl (midL n c) (legs0 n c p)
def legsN (n : Net) (c : Chc) (p q : Plc) : List Lg := if 0 < c.en.len.num then addL (legs1 n c p) ⟨q.road, endN n q.road c.en.node, q.off⟩ else legs1 n c p
theorem addL_len (L : List Lg) (x : Lg) : (addL L x).length ≤ L.length + 1 := by unfold addL; split <;> simp
theorem sg_cases (z : Int) : (¬ 0 < z ∧ sgnZ z = -1) ∨ (¬ 0 < z ∧ sgnZ z = 0) ∨ (0 < z ∧ sgnZ z = 1) := by
 unfold sgnZ
 by_cases h1 : z < 0
 ·rw [if_pos h1]; exact .inl ⟨by omega, rfl⟩
 ·rw [if_neg h1]
  by_cases h2 : z = 0
  ·rw [if_pos h2]; exact .inr (.inl ⟨by omega, rfl⟩)
  ·rw [if_neg h2]; exact .inr (.inr ⟨by omega, rfl⟩)
theorem sg_pos (z : Int) : (0 < z ∧ 0 < sgnZ z) ∨ (¬ 0 < z ∧ sgnZ z ≤ 0) := by
 rcases sg_cases z with ⟨h1, h2⟩ | ⟨h1, h2⟩ | ⟨h1, h2⟩
 ·right; exact ⟨h1, by omega⟩
 ·right; exact ⟨h1, by omega⟩
 ·left; exact ⟨h1, by omega⟩
set_option maxRecDepth 100000 in
set_option maxHeartbeats 4000000 in
theorem legs_q (n : Net) (m : ChM) (v1 v2 : Value) (p q : Plc) (w : World) (hN : NetAt w.heap.size w v1 v2 n) (hK : NetOK n) (hp : Sm p.off) (hq : Sm q.off) (hx : Sm m.c.ex.len) (hy : Sm m.c.en.len)
  (hn : Sl w.heap.size w 1 m.vn ((nodesC m.c).map i1)) (hr : Sl w.heap.size w 1 m.vr ((m.c.R.map Hp.road).map i1)) (hf : m.c.R.length ≤ 100000) :
  Calls Tryz.prog 50 #[m.v, .agg #[v1, v2], p.v, q.v] w (LegsOut (legsN n m.c p q) w) := by
 have HSX := Lib.hid (fun w' => sign_q m.c.ex.len w' (by have := hx.1; omega))
 have HSY := Lib.hid (fun w' => sign_q m.c.en.len w' (by have := hy.1; omega))
 have HEN : Hid (∀ (id x : Int) (w' : World) [Bw w w'], Calls Tryz.prog 90 #[.agg #[v1, v2], .int .i64 id, .int .i64 x] w' fun e w2 => e = .returned (rV (endN n id x)) ∧ Below w'.heap.size w' w2) := Lib.hid (fun id x w' _ => (end_bw hN hK id x).out w')
 have HSE := Lib.hid (fun id x => sm_end hK id x)
 have HNS := Lib.hid hn
 have HRS := Lib.hid hr
 have HP := Lib.hid hp
 have HQ := Lib.hid hq
 obtain ⟨an, nn, cn, hvn, hnl, hnc, hnm⟩ := hn.open
 obtain ⟨ar, nr, cr, hvr, hrl, hrc, hrm⟩ := hr.open
 obtain ⟨c, vn, vr⟩ := m
 simp only at hvn hvr HSX HSY HNS HRS hnl hrl hf ⊢
 subst hvn hvr
 rw [List.length_map] at hnl hrl
 rw [List.length_map] at hrl
 have hnn : nn = nr + 1 := by rw [← hnl, ← hrl]; simp [nodesC]
 have HRL := Lib.hid hrl
 have hnr : nr ≤ 100000 := by rw [← hrl]; exact hf
 have HNN := Lib.hid hnn
 have HNL : Hid ((nodesC c).length = nn) := Lib.hid hnl
 have hnn1 : nn ≤ 100001 := by omega
 have sx := sg_pos c.ex.len.num
 have sy := sg_pos c.en.len.num
 generalize sgnZ c.ex.len.num = gx at HSX sx
 generalize sgnZ c.en.len.num = gy at HSY sy
 have SX := Lib.hid sx
 have SY := Lib.hid sy
 unfold ChM.v Plc.v
 simp only [rV] at HSX HSY HEN
 clear hN hK hp hq hx hy hn hr hf hnl hrl hnn hnm hrm sx sy
 go_enter Tryz.func50, Tryz.ntmps50
 go_wp2_with fail
 obtain ⟨W0, hW0⟩ : ∃ W0, W0 = (((w.alloc (.cells #[.bool (zs c.len.num), .string (zx c.len.num), .bool false, .string (ry c.len.den), .slice an nn cn, .slice ar nr cr, .int .i64 c.rl, .int .i64 c.ex.node, .bool (zs c.ex.len.num), .string (zx c.ex.len.num), .bool false, .string (ry c.ex.len.den), .int .i64 c.en.node, .bool (zs c.en.len.num), .string (zx c.en.len.num), .bool false, .string (ry c.en.len.den)] 117)).alloc (.cells #[v1, v2] 36)).alloc (.cells #[.int .i64 p.road, .bool (zs p.off.num), .string (zx p.off.num), .bool false, .string (ry p.off.den)] 43)).alloc (.cells #[.int .i64 q.road, .bool (zs q.off.num), .string (zx q.off.num), .bool false, .string (ry q.off.den)] 43) := ⟨_, rfl⟩
 have c4 : W0.cell? ⟨w.heap.size, 4, none⟩ = some (.slice an nn cn) := by rw [hW0]; simp [go_sem]
 have c5 : W0.cell? ⟨w.heap.size, 5, none⟩ = some (.slice ar nr cr) := by rw [hW0]; simp [go_sem]
 have c7 : W0.cell? ⟨w.heap.size, 7, none⟩ = some (.int .i64 c.ex.node) := by rw [hW0]; simp [go_sem]
 have c8 : W0.cell? ⟨w.heap.size, 8, none⟩ = some (.bool (zs c.ex.len.num)) := by rw [hW0]; simp [go_sem]
 have c9 : W0.cell? ⟨w.heap.size, 9, none⟩ = some (.string (zx c.ex.len.num)) := by rw [hW0]; simp [go_sem]
 have c10 : W0.cell? ⟨w.heap.size, 10, none⟩ = some (.bool false) := by rw [hW0]; simp [go_sem]
 have c11 : W0.cell? ⟨w.heap.size, 11, none⟩ = some (.string (ry c.ex.len.den)) := by rw [hW0]; simp [go_sem]
 have c12 : W0.cell? ⟨w.heap.size, 12, none⟩ = some (.int .i64 c.en.node) := by rw [hW0]; simp [go_sem]
 have c13 : W0.cell? ⟨w.heap.size, 13, none⟩ = some (.bool (zs c.en.len.num)) := by rw [hW0]; simp [go_sem]
 have c14 : W0.cell? ⟨w.heap.size, 14, none⟩ = some (.string (zx c.en.len.num)) := by rw [hW0]; simp [go_sem]
 have c15 : W0.cell? ⟨w.heap.size, 15, none⟩ = some (.bool false) := by rw [hW0]; simp [go_sem]
 have c16 : W0.cell? ⟨w.heap.size, 16, none⟩ = some (.string (ry c.en.len.den)) := by rw [hW0]; simp [go_sem]
 have n0 : W0.cell? ⟨w.heap.size + 1, 0, none⟩ = some v1 := by rw [hW0]; simp [go_sem]
 have n1 : W0.cell? ⟨w.heap.size + 1, 1, none⟩ = some v2 := by rw [hW0]; simp [go_sem]
 have pc0 : W0.cell? ⟨w.heap.size + 1 + 1, 0, none⟩ = some (.int .i64 p.road) := by rw [hW0]; simp [go_sem]
 have pc1 : W0.cell? ⟨w.heap.size + 1 + 1, 1, none⟩ = some (.bool (zs p.off.num)) := by rw [hW0]; simp [go_sem]
 have pc2 : W0.cell? ⟨w.heap.size + 1 + 1, 2, none⟩ = some (.string (zx p.off.num)) := by rw [hW0]; simp [go_sem]
 have pc3 : W0.cell? ⟨w.heap.size + 1 + 1, 3, none⟩ = some (.bool false) := by rw [hW0]; simp [go_sem]
 have pc4 : W0.cell? ⟨w.heap.size + 1 + 1, 4, none⟩ = some (.string (ry p.off.den)) := by rw [hW0]; simp [go_sem]
 have qc0 : W0.cell? ⟨w.heap.size + 1 + 1 + 1, 0, none⟩ = some (.int .i64 q.road) := by rw [hW0]; simp [go_sem]
 have qc1 : W0.cell? ⟨w.heap.size + 1 + 1 + 1, 1, none⟩ = some (.bool (zs q.off.num)) := by rw [hW0]; simp [go_sem]
 have qc2 : W0.cell? ⟨w.heap.size + 1 + 1 + 1, 2, none⟩ = some (.string (zx q.off.num)) := by rw [hW0]; simp [go_sem]
 have qc3 : W0.cell? ⟨w.heap.size + 1 + 1 + 1, 3, none⟩ = some (.bool false) := by rw [hW0]; simp [go_sem]
 have qc4 : W0.cell? ⟨w.heap.size + 1 + 1 + 1, 4, none⟩ = some (.string (ry q.off.den)) := by rw [hW0]; simp [go_sem]
 haveI l0 : Lo (w.heap.size) W0 := by rw [hW0]; infer_instance
 haveI l1 : Lo (w.heap.size + 1) W0 := by rw [hW0]; infer_instance
 haveI l2 : Lo (w.heap.size + 1 + 1) W0 := by rw [hW0]; infer_instance
 haveI l3 : Lo (w.heap.size + 1 + 1 + 1) W0 := by rw [hW0]; infer_instance
 haveI bw : Bw w W0 := by rw [hW0]; infer_instance
 have hz : W0.heap.size = w.heap.size + 1 + 1 + 1 + 1 := by rw [hW0]; simp
 rw [← hW0]
 clear hW0
 obtain ⟨bo, hbo⟩ : ∃ z, w.heap.size + 1 + 1 + 1 + 1 = z := ⟨_, rfl⟩
 rw [hbo] at hz ⊢
 clear hbo
 have HB0 : Hid ((W0.alloc (.cells #[.slice none 0 0] 44)).heap[bo]? = some (.cells #[.slice none 0 0] 44 (0, 0))) := Lib.hid (by rw [← hz]; exact obj_last _ _)
 have HBO := Lib.hid hz
 clear hz
 refine (jk (HSX.out _)).mono ?_
 rintro e _ ⟨rfl, V0, rfl⟩
 go_upto_if 18 with (fail)
 go_cut [] (fun wx => ∃ v, Hid (wx.heap[bo]? = some (.cells #[v] 44 (0, 0))) ∧ Hid (Ow W0.heap.size wx 55 9 v ((legs0 n c p).map Lg.cs)) ∧ ∃ U, wx = W0.junk U)
 case first =>
  rcases SX.out with ⟨h1, h2⟩ | ⟨h1, h2⟩
  ·have HL0 : Hid (legs0 n c p = addL [] ⟨p.road, p.off, endN n p.road c.ex.node⟩) := Lib.hid (by unfold legs0; rw [if_pos h1])
   clear h1
   go_wp2_with fail
   refine wp_jtail1 (Operand.tmp 10) 13 rfl rfl (by kernel_rfl) (by decide) (by kernel_rfl) (by kernel_rfl) (fun _ _ _ h => h) rfl ?_
   simp only [List.take_succ_cons, List.take_zero, List.drop_succ_cons, List.drop_zero, Act.put, List.setIfInBounds_toArray, List.set_cons_zero, List.set_cons_succ, Act.eval, Array.getD_eq_getD_getElem?, List.getElem?_toArray, List.getElem?_cons_succ, List.getElem?_cons_zero, Option.getD_some]
   repeat (go_big_quiet_step (first | (with_reducible exact jq (HEN.out _ _ _)) | fail))
   refine wpQuiet_nil ?_
   rintro _ ⟨V1, rfl⟩
   go_wp2_with fail
   refine (addl_q ⟨p.road, p.off, endN n p.road c.ex.node⟩ [] _ W0.heap.size bo _ (obj_junk (obj_junk HB0.out)) (by rw [HBO.out]; exact Nat.le_refl _) (Ow.nil _ _ _ _) (by decide) HP.out (HSE.out _ _)).mono ?_
   rintro e w5 ⟨rfl, v5, hb5, ho5, hl5⟩
   obtain ⟨U5, rfl⟩ := bj (W := W0) hl5
   have HB5 := Lib.hid hb5
   have HO5 := Lib.hid ho5
   clear hb5 ho5 hl5
   go_wp2_with fail
   go_meet
   refine ⟨v5, HB5, Lib.hid ?_, ?_⟩
   ·rw [HL0.out]; exact HO5.out
   ·with_reducible exact ex_junk
  ·have HL0 : Hid (legs0 n c p = []) := Lib.hid (by unfold legs0; rw [if_neg (by omega)])
   clear h1
   go_wp2_with fail
   go_meet
   refine ⟨_, Lib.hid (obj_junk HB0.out), Lib.hid ?_, ?_⟩
   ·rw [HL0.out]; exact Ow.nil _ _ _ _
   ·with_reducible exact ex_junk
 case rest =>
  obtain ⟨v, HB1, HO1, U, rfl⟩ := hcut
  have hl0 : (legs0 n c p).length ≤ 1 := by unfold legs0; split; exact addL_len _ _; simp
  have HL0 := Lib.hid hl0
  clear hl0
  go_wp2_with fail
  go_loopw [37] (fun s37 wr => ∃ (k : Nat) (L : List Lg) (v : Value), s37 = .int .i64 k ∧ k ≤ nr ∧ Hid ((List.range k).foldl (midL n c) (legs0 n c p) = L) ∧ Hid (L.length ≤ k + 1) ∧ Hid (wr.heap[bo]? = some (.cells #[v] 44 (0, 0))) ∧ Hid (Ow W0.heap.size wr 55 9 v (L.map Lg.cs)) ∧ ∃ U, wr = W0.junk U) (fun s37 _ => nr - (intOf s37).toNat)
  case atStart =>
   refine ⟨0, legs0 n c p, v, rfl, Nat.zero_le _, Lib.hid rfl, Lib.hid (by have := HL0.out; omega), HB1, HO1, ?_⟩
   with_reducible exact ex_junk
  case round =>
   obtain ⟨k, L, v', rfl, hk, HF, HLL, HB2, HO2, U2, rfl⟩ := hrel
   clear HB1 HO1
   by_cases hlt : k < nr
   ·obtain ⟨br, offr, rfl, hbr, dr⟩ := int_cells HRS.out k (by rw [List.length_map, HRL.out]; exact hlt)
    obtain ⟨bn, offn, rfl, hbn, dn⟩ := int_cells HNS.out k (by show k < (nodesC c).length; rw [HNL.out, HNN.out]; omega)
    have d0 := dr k (by rw [List.length_map, HRL.out]; exact hlt)
    have g0 := dn k (by show k < (nodesC c).length; rw [HNL.out, HNN.out]; omega)
    have g1 := dn (k + 1) (by show k + 1 < (nodesC c).length; rw [HNL.out, HNN.out]; omega)
    haveI lr : Lo br W0 := ⟨Nat.lt_of_lt_of_le hbr bw.b.size⟩
    haveI ln : Lo bn W0 := ⟨Nat.lt_of_lt_of_le hbn bw.b.size⟩
    rw [← bw.b.cell (p := ⟨br, _, none⟩) hbr] at d0
    rw [← bw.b.cell (p := ⟨bn, _, none⟩) hbn] at g0 g1
    have e0 : (c.R.map Hp.road)[k]! = (c.R[k]!).road := by
     rw [getElem!_pos _ k (by rw [List.length_map, HRL.out]; exact hlt), getElem!_pos c.R k (by rw [HRL.out]; exact hlt), List.getElem_map]
    rw [e0] at d0
    have HX : Hid ((List.range (k + 1)).foldl (midL n c) (legs0 n c p) = addL L ⟨(c.R[k]!).road, endN n (c.R[k]!).road (nodesC c)[k]!, endN n (c.R[k]!).road (nodesC c)[k + 1]!⟩) := Lib.hid (by
     rw [List.range_succ, List.foldl_append, HF.out]; rfl)
    generalize (c.R[k]!).road = id at d0 HX
    generalize (nodesC c)[k]! = xk at g0 HX
    generalize (nodesC c)[k + 1]! = xl at g1 HX
    have hnn := HNN.out
    have k1 : IntKind.i64.wrap ((k : Int) + 1) = (k : Int) + 1 := IntWalk.i64_in _ (by omega)
    have k2 : ((k : Int) + 1).toNat = k + 1 := by omega
    have k3 : (0 : Int) ≤ (k : Int) + 1 := by omega
    have k4 : (k : Int) + 1 < (nn : Int) := by omega
    have k5 : (k : Int) < (nn : Int) := by omega
    have k6 : (0 : Int) ≤ (k : Int) := by omega
    clear dr dn e0 HF hnn
    go_wp2_with fail
    refine wp_jtail1 (Operand.tmp 10) 22 rfl rfl (by kernel_rfl) (by decide) (by kernel_rfl) (by kernel_rfl) (fun _ _ _ h => h) rfl ?_
    simp only [List.take_succ_cons, List.take_zero, List.drop_succ_cons, List.drop_zero, Act.put, List.setIfInBounds_toArray, List.set_cons_zero, List.set_cons_succ, Act.eval, Array.getD_eq_getD_getElem?, List.getElem?_toArray, List.getElem?_cons_succ, List.getElem?_cons_zero, Option.getD_some]
    repeat (go_big_quiet_step (first | (with_reducible exact jq (HEN.out _ _ _)) | fail))
    refine wpQuiet_nil ?_
    rintro _ ⟨V1, rfl⟩
    clear k1 k2
    go_wp2_with fail
    refine (addl_q ⟨id, endN n id xk, endN n id xl⟩ L _ W0.heap.size bo _ (obj_junk HB2.out) (by rw [HBO.out]; exact Nat.le_refl _) (HO2.out.keep (junk_below _ _)) (by have := HLL.out; omega) (HSE.out _ _) (HSE.out _ _)).mono ?_
    rintro e w5 ⟨rfl, v5, hb5, ho5, hl5⟩
    obtain ⟨U5, rfl⟩ := bj (W := W0) hl5
    have HB5 := Lib.hid hb5
    have HO5 := Lib.hid ho5
    clear hb5 ho5 hl5
    go_wp2_with fail
    go_roundw
    case rel =>
     refine ⟨k + 1, _, v5, by go_num, by omega, HX, Lib.hid (Nat.le_trans (addL_len _ _) (by have := HLL.out; omega)), HB5, HO5, ?_⟩
     with_reducible exact ex_junk
    case measure => simp [intOf]; omega
   ·obtain rfl : k = nr := by omega
    have HL1 : Hid (legs1 n c p = L) := Lib.hid (by unfold legs1; rw [HRL.out]; exact HF.out)
    clear HF
    have hcell := obj_cell HB2.out 0
    simp at hcell
    haveI lb : Lo bo (W0.junk U2) := ⟨obj_lt HB2.out⟩
    obtain ⟨ao, no, co, hvv⟩ := HO2.out.val
    subst hvv
    rcases SY.out with ⟨h1, h2⟩ | ⟨h1, h2⟩
    ·have HLN : Hid (legsN n c p q = addL L ⟨q.road, endN n q.road c.en.node, q.off⟩) := Lib.hid (by unfold legsN; rw [if_pos h1, HL1.out])
     clear h1 hcell
     go_wp2_with fail
     refine (jk (HSY.out _)).mono ?_
     rintro e _ ⟨rfl, V3, rfl⟩
     go_wp2_with fail
     refine wp_jtail1 (Operand.tmp 10) 13 rfl rfl (by kernel_rfl) (by decide) (by kernel_rfl) (by kernel_rfl) (fun _ _ _ h => h) rfl ?_
     simp only [List.take_succ_cons, List.take_zero, List.drop_succ_cons, List.drop_zero, Act.put, List.setIfInBounds_toArray, List.set_cons_zero, List.set_cons_succ, Act.eval, Array.getD_eq_getD_getElem?, List.getElem?_toArray, List.getElem?_cons_succ, List.getElem?_cons_zero, Option.getD_some]
     repeat (go_big_quiet_step (first | (with_reducible exact jq (HEN.out _ _ _)) | fail))
     refine wpQuiet_nil ?_
     rintro _ ⟨V1, rfl⟩
     go_wp2_with fail
     refine (addl_q ⟨q.road, endN n q.road c.en.node, q.off⟩ L _ W0.heap.size bo _ (obj_junk (obj_junk HB2.out)) (by rw [HBO.out]; exact Nat.le_refl _) ((HO2.out.keep (junk_below _ _)).keep (junk_below _ _)) (by have := HLL.out; omega) (HSE.out _ _) HQ.out).mono ?_
     rintro e w5 ⟨rfl, v5, hb5, ho5, hl5⟩
     obtain ⟨U5, rfl⟩ := bj (W := W0) hl5
     have HO5 := Lib.hid ho5
     have hcell := obj_cell hb5 0
     simp at hcell
     haveI lb5 : Lo bo (W0.junk U5) := ⟨obj_lt hb5⟩
     obtain ⟨a5, n5, k5, hv5⟩ := ho5.val
     subst hv5
     clear hb5 ho5 hl5
     go_wp2_with fail
     go_ret
     exact ⟨_, rfl, by rw [HLN.out]; exact HO5.out.mono bw.b.size, Bw.b⟩
    ·have HLN : Hid (legsN n c p q = L) := Lib.hid (by unfold legsN; rw [if_neg (by omega), HL1.out])
     clear h1
     go_wp2_with fail
     refine (jk (HSY.out _)).mono ?_
     rintro e _ ⟨rfl, V3, rfl⟩
     go_wp2_with fail
     go_ret
     exact ⟨_, rfl, by rw [HLN.out]; exact (HO2.out.keep (junk_below _ _)).mono bw.b.size, Bw.b⟩
end Go.Proofs.YtcelpkbmcmnogaaGreatDoor
