/-
 The law's legs over a route, walked.
-/
import Derived.Test.YtcelpkbmcmnogaaGreatDoorBtwM
import Derived.Test.YtcelpkbmcmnogaaGreatDoorAlgW
set_option linter.unusedSimpArgs false
set_option linter.unusedVariables false
namespace Go.Proofs.YtcelpkbmcmnogaaGreatDoor
open Go Go.RowKit Go.Vi
attribute [local go_sem ↓] lo_lt lo_ne lo_ne'
attribute [local go_sem] junk_cell junk_frozen junk_setCell junk_drew drew_junk
attribute [local go_sem high] eqR_run eqG_run eqP_run
set_option maxHeartbeats 2000000 in
theorem ladd_q (x : Lg) (L : List Lg) (v : Value) (B : Nat) (w : World) (ho : Ow B w 55 9 v (L.map Lg.cs)) (hB : B ≤ w.heap.size) (hl : L.length < 1000000) (sa : Sm x.a) (sb : Sm x.b) :
  Calls Tryz.prog 57 #[v, .agg #[.int .i64 x.road, .bool (zs x.a.num), .string (zx x.a.num), .bool false, .string (ry x.a.den), .bool (zs x.b.num), .string (zx x.b.num), .bool false, .string (ry x.b.den)]] w fun e w' => ∃ v', e = .returned v' ∧ Ow B w' 55 9 v' ((addL L x).map Lg.cs) ∧ Below B w w' := by
 obtain ⟨i0, hi, hz0, hz1, hz2⟩ := info_parts iLg
 have HO := Lib.hid ho
 obtain ⟨ao, no, co, hv⟩ := ho.val
 subst hv
 unfold addL
 by_cases h : x.a = x.b
 ·have hd : decide (x.a = x.b) = true := by simpa using h
  rw [if_pos h]
  clear h ho
  go_enter Tryz.func57, Tryz.ntmps57
  go_wp2_with fail
  go_ret
  exact ⟨_, rfl, HO.out.keep Bw.b, (Below.refl _ _).alloc hB _⟩
 ·have hd : decide (x.a = x.b) = false := by simpa using h
  rw [if_neg h]
  clear h ho
  go_enter Tryz.func57, Tryz.ntmps57
  go_wp2_with (at_builtin; refine ap2 (by rfl) _ _ _ (by rfl) uLg hi hz0 hz1 hz2 rfl (by decide) (fun _ => rfl) (base := B) (cs := Lg.cs) (L := L) (HO.out.keep Bw.b) (by rfl) x _ (by rfl) (obj_last2 _ _ _) (lg_cell1 _) hl (by decide) (by simp; omega) ?_; intro g8 cap8 w8 own8 hb8 hgr8 hg8 hl8 hc8 hm8; have HO8 := Lib.hid own8; have HW8 := Lib.hid hb8; clear hb8 hgr8 own8)
  go_ret
  refine ⟨_, rfl, HO8.out, ?_⟩
  exact ((((Below.refl B w).alloc (by omega) _).alloc (by simp; omega) _).trans HW8.out)
set_option maxHeartbeats 2000000 in
theorem lend_q (n : Net) (id x : Int) (v1 v2 : Value) (w : World) (hN : NetAt w.heap.size w v1 v2 n) (hK : NetOK n) :
  Calls Tryz.prog 58 #[.agg #[v1, v2], .int .i64 id, .int .i64 x] w fun e w' => e = .returned (rV (endL n id x)) ∧ Below w.heap.size w w' := by
 have HR := road_bw hN hK id
 have hrl := rd_len hK id
 unfold endL
 generalize (roadOf n.roads id).getD rd0 = r at *
 generalize (roadOf n.roads id).isSome = ri at *
 have HF := Lib.hid (fun w' => whole_q r.len w' (by omega))
 unfold Rd.v at HR
 clear hN hK hrl
 by_cases h : r.dst = x
 ·rw [if_pos h]
  generalize (r.len : Rat) = y at *
  simp only [rV] at HF ⊢
  have hd : (r.dst == x) = true := by simpa using h
  clear h
  go_enter Tryz.func58, Tryz.ntmps58
  go_wp2_with fail
  refine (jk (HR.out _)).mono ?_
  rintro e _ ⟨rfl, X1, rfl⟩
  go_wp2_with fail
  refine (jk (HF.out _)).mono ?_
  rintro e _ ⟨rfl, X2, rfl⟩
  go_wp2_with fail
  exact bodyPost_ret (v := .agg #[.bool (zs y.num), .string (zx y.num), .bool false, .string (ry y.den)]) (by simp [results, Tryz.results58, go_sem]) rfl ⟨rfl, Bw.b⟩
 ·rw [if_neg h, zero_v]
  have hd : (r.dst == x) = false := by simpa using h
  clear h HF
  go_enter Tryz.func58, Tryz.ntmps58
  go_wp2_with fail
  refine (jk (HR.out _)).mono ?_
  rintro e _ ⟨rfl, X1, rfl⟩
  go_wp2_with fail
  exact bodyPost_ret (v := .agg #[.bool false, .string ⟨#[]⟩, .bool false, .string ⟨#[]⟩]) (by simp [results, Tryz.results58, go_sem]) rfl ⟨rfl, Bw.b⟩
theorem sm_endL {n : Net} (hK : NetOK n) (id x : Int) : Sm (endL n id x) := by
 unfold endL
 have := rd_len hK id
 split
 ·exact sm_int (by omega)
 ·exact sm_zero
theorem lgs0_len (n : Net) (p : Plc) (a : Int) : (lgs0 n p a).length ≤ 1 := by
 unfold lgs0
 split
 ·simp
 ·exact addL_len _ _
set_option maxRecDepth 100000 in
set_option maxHeartbeats 4000000 in
theorem lgs_q (n : Net) (p q : Plc) (nodes roads : List Int) (rl : Int) (v1 v2 vn vr : Value) (w : World) (hN : NetAt w.heap.size w v1 v2 n) (hK : NetOK n) (hp : Sm p.off) (hq : Sm q.off)
  (hn : Sl w.heap.size w 1 vn (nodes.map i1)) (hr : Sl w.heap.size w 1 vr (roads.map i1)) (hl : nodes.length = roads.length + 1) (hf : roads.length ≤ 100000) :
  Calls Tryz.prog 25 #[.agg #[v1, v2], .agg #[.int .i64 p.road, .bool (zs p.off.num), .string (zx p.off.num), .bool false, .string (ry p.off.den)], .agg #[.int .i64 q.road, .bool (zs q.off.num), .string (zx q.off.num), .bool false, .string (ry q.off.den)], .agg #[vn, vr, .int .i64 rl]] w (LegsOut (lgsN n p q nodes roads) w) := by
 have HEN0 : Hid (∀ (id x : Int) (w' : World) [Bw w w'], Calls Tryz.prog 58 #[.agg #[v1, v2], .int .i64 id, .int .i64 x] w' fun e w2 => e = .returned (rV (endL n id x)) ∧ Below w'.heap.size w' w2) := Lib.hid (fun id x w' _ => lend_q n id x v1 v2 w' (later_bw hN) hK)
 have HSE := Lib.hid (fun id x => sm_endL hK id x)
 have HNP := node_bw hN hK p hp
 have HNQ := node_bw hN hK q hq
 have HNS := Lib.hid hn
 have HRS := Lib.hid hr
 have HP := Lib.hid hp
 have HQ := Lib.hid hq
 obtain ⟨an, nn, cn, rfl, hnl, hnc, hnm⟩ := hn.open
 obtain ⟨ar, nr, cr, rfl, hrl, hrc, hrm⟩ := hr.open
 rw [List.length_map] at hnl hrl
 have hnn : nn = nr + 1 := by omega
 have hnr : nr ≤ 100000 := by omega
 have HRL := Lib.hid hrl
 have HNN := Lib.hid hnn
 have HNL := Lib.hid hnl
 have hnn1 : nn ≤ 100001 := by omega
 have HEN : Hid (∀ (id x : Int) (w' : World) [Bw w w'], Calls Tryz.prog 58 #[.agg #[v1, v2], .int .i64 id, .int .i64 x] w' fun e w2 => e = .returned (.agg #[.bool (zs (endL n id x).num), .string (zx (endL n id x).num), .bool false, .string (ry (endL n id x).den)]) ∧ Below w'.heap.size w' w2) := Lib.hid HEN0.out
 obtain ⟨np, hnp⟩ : ∃ o, nodeAtN n p = o := ⟨_, rfl⟩
 obtain ⟨nq', hnq⟩ : ∃ o, nodeAtN n q = o := ⟨_, rfl⟩
 rw [hnp] at HNP
 rw [hnq] at HNQ
 have HA := Lib.hid hnp
 have HB := Lib.hid hnq
 unfold Plc.v at HNP HNQ
 -- the first and the last node
 obtain ⟨bn, offn, rfl, hbn, dn⟩ := int_cells HNS.out 0 (by omega)
 have m0 := dn 0 (by omega)
 have mL := dn (nodes.length - 1) (by omega)
 rw [hnl] at mL
 haveI lbn : Lo bn w := ⟨hbn⟩
 have hfst : Hid (nodes[0]! = nodes[0]!) := Lib.hid rfl
 obtain ⟨x0, hx0⟩ : ∃ x, nodes[0]! = x := ⟨_, rfl⟩
 obtain ⟨xL, hxL⟩ : ∃ x, nodes[nn - 1]! = x := ⟨_, rfl⟩
 rw [hx0] at m0
 rw [hxL] at mL
 have HX0 := Lib.hid hx0
 have HXL : Hid (nodes[nodes.length - 1]! = xL) := Lib.hid (by rw [hnl]; exact hxL)
 have e1 : nn - 1 = nr := by omega
 rw [e1] at mL
 have e2 : ((nn : Int) - 1) = (nr : Int) := by omega
 have e3 : IntKind.i64.wrap (nr : Int) = (nr : Int) := IntWalk.i64_in _ (by omega)
 have e4 : (nr : Int) < (nn : Int) := by omega
 have e5 : (0 : Int) < (nn : Int) := by omega
 have e6 : (0 : Int) ≤ (nr : Int) := by omega
 have HDN := Lib.hid dn
 have HL2 := Lib.hid hl
 clear hN hK hp hq hn hr hl hf hnl hrl hnn hnm hrm hnp hnq HEN0 hfst hx0 hxL e1 dn
 go_enter Tryz.func25, Tryz.ntmps25
 go_upto_region 2 with fail
 obtain ⟨W, hW⟩ : ∃ W, W = ((((w.alloc (.cells #[v1, v2] 36)).alloc (.cells #[.int .i64 p.road, .bool (zs p.off.num), .string (zx p.off.num), .bool false, .string (ry p.off.den)] 43)).alloc (.cells #[.int .i64 q.road, .bool (zs q.off.num), .string (zx q.off.num), .bool false, .string (ry q.off.den)] 43)).alloc (.cells #[.slice (some ⟨bn, offn, none⟩) nn cn, .slice ar nr cr, .int .i64 rl] 64)) := ⟨_, rfl⟩
 have n0 : W.cell? ⟨w.heap.size, 0, none⟩ = some (v1) := by rw [hW]; simp [go_sem]
 have n1 : W.cell? ⟨w.heap.size, 1, none⟩ = some (v2) := by rw [hW]; simp [go_sem]
 have p0 : W.cell? ⟨w.heap.size + 1, 0, none⟩ = some (.int .i64 p.road) := by rw [hW]; simp [go_sem]
 have p1 : W.cell? ⟨w.heap.size + 1, 1, none⟩ = some (.bool (zs p.off.num)) := by rw [hW]; simp [go_sem]
 have p2 : W.cell? ⟨w.heap.size + 1, 2, none⟩ = some (.string (zx p.off.num)) := by rw [hW]; simp [go_sem]
 have p3 : W.cell? ⟨w.heap.size + 1, 3, none⟩ = some (.bool false) := by rw [hW]; simp [go_sem]
 have p4 : W.cell? ⟨w.heap.size + 1, 4, none⟩ = some (.string (ry p.off.den)) := by rw [hW]; simp [go_sem]
 have q0 : W.cell? ⟨w.heap.size + 1 + 1, 0, none⟩ = some (.int .i64 q.road) := by rw [hW]; simp [go_sem]
 have q1 : W.cell? ⟨w.heap.size + 1 + 1, 1, none⟩ = some (.bool (zs q.off.num)) := by rw [hW]; simp [go_sem]
 have q2 : W.cell? ⟨w.heap.size + 1 + 1, 2, none⟩ = some (.string (zx q.off.num)) := by rw [hW]; simp [go_sem]
 have q3 : W.cell? ⟨w.heap.size + 1 + 1, 3, none⟩ = some (.bool false) := by rw [hW]; simp [go_sem]
 have q4 : W.cell? ⟨w.heap.size + 1 + 1, 4, none⟩ = some (.string (ry q.off.den)) := by rw [hW]; simp [go_sem]
 have r0 : W.cell? ⟨w.heap.size + 1 + 1 + 1, 0, none⟩ = some (.slice (some ⟨bn, offn, none⟩) nn cn) := by rw [hW]; simp [go_sem]
 have r1 : W.cell? ⟨w.heap.size + 1 + 1 + 1, 1, none⟩ = some (.slice ar nr cr) := by rw [hW]; simp [go_sem]
 have r2 : W.cell? ⟨w.heap.size + 1 + 1 + 1, 2, none⟩ = some (.int .i64 rl) := by rw [hW]; simp [go_sem]
 haveI l0 : Lo (w.heap.size) W := by rw [hW]; infer_instance
 haveI l1 : Lo (w.heap.size + 1) W := by rw [hW]; infer_instance
 haveI l2 : Lo (w.heap.size + 1 + 1) W := by rw [hW]; infer_instance
 haveI l3 : Lo (w.heap.size + 1 + 1 + 1) W := by rw [hW]; infer_instance
 haveI bw : Bw w W := by rw [hW]; infer_instance
 haveI lnW : Lo bn W := ⟨Nat.lt_of_lt_of_le lbn.lt bw.b.size⟩
 rw [← hW]
 clear hW
 rw [← bw.b.cell (p := ⟨bn, _, none⟩) lbn.lt] at m0 mL
 simp only [Nat.add_zero] at m0
 go_quiet (fail)
 clear e2 e3 e4 e5 e6 m0 mL
 go_wp2_with fail
 refine (jk (HNP.out _)).mono ?_
 rintro e _ ⟨rfl, V0, rfl⟩
 go_upto_if 36 with (fail)
 go_cut [9] (fun s9 wx => Hid (Ow W.heap.size wx 55 9 s9 ((lgs0 n p x0).map Lg.cs)) ∧ ∃ U, wx = W.junk U)
 case first =>
  cases np with
  | none =>
   have HL0 : Hid (lgs0 n p x0 = addL [] ⟨p.road, p.off, endL n p.road x0⟩) := Lib.hid (by unfold lgs0; rw [HA.out]; rfl)
   go_wp2_with fail
   refine wp_jtail1 (Operand.tmp 9) 11 rfl rfl (by kernel_rfl) (by decide) (by kernel_rfl) (by kernel_rfl) (fun _ _ _ h => h) rfl ?_
   simp only [List.take_succ_cons, List.take_zero, List.drop_succ_cons, List.drop_zero, Act.put, List.setIfInBounds_toArray, List.set_cons_zero, List.set_cons_succ, Act.eval, Array.getD_eq_getD_getElem?, List.getElem?_toArray, List.getElem?_cons_succ, List.getElem?_cons_zero, Option.getD_some]
   repeat (go_big_quiet_step (first | (with_reducible exact jq (HEN.out _ _ _)) | fail))
   refine wpQuiet_nil ?_
   rintro _ ⟨V1, rfl⟩
   go_wp2_with fail
   refine (ladd_q ⟨p.road, p.off, endL n p.road x0⟩ [] _ W.heap.size _ (Ow.nil _ _ _ _) (Bw.b (w := W)).size (by decide) HP.out (HSE.out _ _)).mono ?_
   rintro e w5 ⟨v5, rfl, ho5, hl5⟩
   obtain ⟨U5, rfl⟩ := bj (W := W) hl5
   have HO5 := Lib.hid ho5
   clear ho5 hl5
   go_wp2_with fail
   go_meet
   refine ⟨Lib.hid ?_, ?_⟩
   ·rw [HL0.out]; exact HO5.out
   ·with_reducible exact ex_junk
  | some z =>
   have HL0 : Hid (lgs0 n p x0 = []) := Lib.hid (by unfold lgs0; rw [HA.out]; rfl)
   go_wp2_with fail
   go_meet
   refine ⟨Lib.hid ?_, ?_⟩
   ·rw [HL0.out]; exact Ow.nil _ _ _ _
   ·with_reducible exact ex_junk
 case rest =>
  rename_i s9
  obtain ⟨HO1, U, rfl⟩ := hcut
  have HL0 := Lib.hid (lgs0_len n p x0)
  obtain ⟨av0, nv0, cv0, hv0⟩ := HO1.out.val
  subst hv0
  clear HNP HA
  go_wp2_with fail
  go_loopw [9, 14] (fun s9 s14 wr => ∃ (k : Nat) (LL : List Lg), s14 = .int .i64 k ∧ k ≤ nr ∧ Hid ((List.range k).foldl (lgsM n nodes roads) (lgs0 n p x0) = LL) ∧ Hid (LL.length ≤ k + 1) ∧ Hid (Ow W.heap.size wr 55 9 s9 (LL.map Lg.cs)) ∧ ∃ U, wr = W.junk U) (fun _ s14 _ => nr - (intOf s14).toNat)
  case atStart =>
   refine ⟨0, lgs0 n p x0, rfl, Nat.zero_le _, Lib.hid rfl, Lib.hid (by have := HL0.out; omega), HO1, ?_⟩
   with_reducible exact ex_junk
  case round =>
   rename_i s9 s14 _
   obtain ⟨k, LL, rfl, hk, HF, HLL, HO2, U2, rfl⟩ := hrel
   clear HO1
   obtain ⟨ao, no, co, hvv⟩ := HO2.out.val
   subst hvv
   by_cases hlt : k < nr
   ·obtain ⟨br, offr, rfl, hbr, dr⟩ := int_cells HRS.out k (by rw [HRL.out]; exact hlt)
    have d0 := dr k (by rw [HRL.out]; exact hlt)
    have g0 := HDN.out k (by have := HL2.out; have := HRL.out; omega)
    have g1 := HDN.out (k + 1) (by have := HL2.out; have := HRL.out; omega)
    haveI lr : Lo br W := ⟨Nat.lt_of_lt_of_le hbr bw.b.size⟩
    rw [← bw.b.cell (p := ⟨br, _, none⟩) hbr] at d0
    rw [← bw.b.cell (p := ⟨bn, _, none⟩) lbn.lt] at g0 g1
    have HX : Hid ((List.range (k + 1)).foldl (lgsM n nodes roads) (lgs0 n p x0) = addL LL ⟨roads[k]!, endL n roads[k]! nodes[k]!, endL n roads[k]! nodes[k + 1]!⟩) := Lib.hid (by
     rw [List.range_succ, List.foldl_append, HF.out]; rfl)
    generalize roads[k]! = id at d0 HX
    generalize nodes[k]! = xk at g0 HX
    generalize nodes[k + 1]! = xl at g1 HX
    have hnn := HNN.out
    have k1 : IntKind.i64.wrap ((k : Int) + 1) = (k : Int) + 1 := IntWalk.i64_in _ (by omega)
    have k2 : ((k : Int) + 1).toNat = k + 1 := by omega
    have k3 : (0 : Int) ≤ (k : Int) + 1 := by omega
    have k4 : (k : Int) + 1 < (nn : Int) := by omega
    have k5 : (k : Int) < (nn : Int) := by omega
    have k6 : (0 : Int) ≤ (k : Int) := by omega
    clear dr HF hnn
    go_wp2_with fail
    refine wp_jtail1 (Operand.tmp 9) 32 rfl rfl (by kernel_rfl) (by decide) (by kernel_rfl) (by kernel_rfl) (fun _ _ _ h => h) rfl ?_
    simp only [List.take_succ_cons, List.take_zero, List.drop_succ_cons, List.drop_zero, Act.put, List.setIfInBounds_toArray, List.set_cons_zero, List.set_cons_succ, Act.eval, Array.getD_eq_getD_getElem?, List.getElem?_toArray, List.getElem?_cons_succ, List.getElem?_cons_zero, Option.getD_some]
    repeat (go_big_quiet_step (first | (with_reducible exact jq (HEN.out _ _ _)) | fail))
    refine wpQuiet_nil ?_
    rintro _ ⟨V1, rfl⟩
    clear k1 k2
    go_wp2_with fail
    refine (ladd_q ⟨id, endL n id xk, endL n id xl⟩ LL _ W.heap.size _ ((HO2.out.keep (junk_below _ _))) (Bw.b (w := W)).size (by have := HLL.out; omega) (HSE.out _ _) (HSE.out _ _)).mono ?_
    rintro e w5 ⟨v5, rfl, ho5, hl5⟩
    obtain ⟨U5, rfl⟩ := bj (W := W) hl5
    have HO5 := Lib.hid ho5
    obtain ⟨a5, n5, z5, hv5⟩ := ho5.val
    subst hv5
    clear ho5 hl5
    go_wp2_with fail
    go_roundw
    case rel =>
     refine ⟨k + 1, _, by go_num, by omega, HX, Lib.hid (Nat.le_trans (addL_len _ _) (by have := HLL.out; omega)), HO5, ?_⟩
     with_reducible exact ex_junk
    case measure => simp [intOf]; omega
   ·obtain rfl : k = nr := by omega
    have HL1 : Hid (lgs1 n p nodes roads = LL) := Lib.hid (by unfold lgs1; rw [HRL.out, HX0.out]; exact HF.out)
    clear HF
    cases nq' with
    | none =>
     have HLN : Hid (lgsN n p q nodes roads = addL LL ⟨q.road, endL n q.road xL, q.off⟩) := Lib.hid (by unfold lgsN; rw [HB.out, HL1.out, HXL.out]; rfl)
     go_wp2_with fail
     refine (jk (HNQ.out _)).mono ?_
     rintro e _ ⟨rfl, V3, rfl⟩
     go_wp2_with fail
     refine wp_jtail1 (Operand.tmp 9) 11 rfl rfl (by kernel_rfl) (by decide) (by kernel_rfl) (by kernel_rfl) (fun _ _ _ h => h) rfl ?_
     simp only [List.take_succ_cons, List.take_zero, List.drop_succ_cons, List.drop_zero, Act.put, List.setIfInBounds_toArray, List.set_cons_zero, List.set_cons_succ, Act.eval, Array.getD_eq_getD_getElem?, List.getElem?_toArray, List.getElem?_cons_succ, List.getElem?_cons_zero, Option.getD_some]
     repeat (go_big_quiet_step (first | (with_reducible exact jq (HEN.out _ _ _)) | fail))
     refine wpQuiet_nil ?_
     rintro _ ⟨V1, rfl⟩
     go_wp2_with fail
     refine (ladd_q ⟨q.road, endL n q.road xL, q.off⟩ LL _ W.heap.size _ ((HO2.out.keep (junk_below _ _)).keep (junk_below _ _)) (Bw.b (w := W)).size (by have := HLL.out; omega) (HSE.out _ _) HQ.out).mono ?_
     rintro e w5 ⟨v5, rfl, ho5, hl5⟩
     obtain ⟨U5, rfl⟩ := bj (W := W) hl5
     have HO5 := Lib.hid ho5
     obtain ⟨a5, n5, z5, hv5⟩ := ho5.val
     subst hv5
     clear ho5 hl5
     go_wp2_with fail
     go_ret
     exact ⟨_, rfl, by rw [HLN.out]; exact HO5.out.mono bw.b.size, Bw.b⟩
    | some z =>
     have HLN : Hid (lgsN n p q nodes roads = LL) := Lib.hid (by unfold lgsN; rw [HB.out, HL1.out]; rfl)
     go_wp2_with fail
     refine (jk (HNQ.out _)).mono ?_
     rintro e _ ⟨rfl, V3, rfl⟩
     go_wp2_with fail
     go_ret
     exact ⟨_, rfl, by rw [HLN.out]; exact (HO2.out.keep (junk_below _ _)).mono bw.b.size, Bw.b⟩
end Go.Proofs.YtcelpkbmcmnogaaGreatDoor
