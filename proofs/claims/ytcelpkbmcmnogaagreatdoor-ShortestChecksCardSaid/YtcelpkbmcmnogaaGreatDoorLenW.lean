/-
 Known, the walk.
 The laws' own functions: index.
 CheckLengths, exactly.
 The law's lengths are the program's.
 The law of lengths, walked.
-/
import Derived.Test.YtcelpkbmcmnogaaGreatDoorShoH
import Derived.Test.YtcelpkbmcmnogaaGreatDoorLwE
import Derived.Test.YtcelpkbmcmnogaaGreatDoorGrdO
import Derived.Test.YtcelpkbmcmnogaaGreatDoorNetD
set_option linter.unusedSimpArgs false
set_option linter.unusedVariables false
namespace Go.Proofs.YtcelpkbmcmnogaaGreatDoor
open Go Go.RowKit Go.Vi
attribute [local go_sem ↓] lo_lt lo_ne lo_ne'
attribute [local go_sem] junk_cell junk_frozen junk_setCell junk_drew drew_junk
attribute [local go_sem] rc_size rowN_alloc_at rowN_alloc rowN_junk rowN_drew rowN_drewN setRow_alloc_at setRow_alloc setRow_junk setRow_drew
set_option maxRecDepth 100000 in
set_option maxHeartbeats 1000000 in
theorem known_q (w : World) : Calls Tryz.prog 4 #[] w fun e w' => e = .returned (.bool true) ∧ Below w.heap.size w w' := by
 have HW1 : Hid (∀ w', Calls Tryz.prog 8 #[.int .i64 1] w' fun e w2 => e = .returned (.agg #[.bool (zs exP.off.num), .string (zx exP.off.num), .bool false, .string (ry exP.off.den)]) ∧ Below w'.heap.size w' w2) := Lib.hid (fun w' => whole_q 1 w' (by decide))
 have HW2 : Hid (∀ w', Calls Tryz.prog 8 #[.int .i64 2] w' fun e w2 => e = .returned (.agg #[.bool (zs exQ.off.num), .string (zx exQ.off.num), .bool false, .string (ry exQ.off.den)]) ∧ Below w'.heap.size w' w2) := Lib.hid (fun w' => whole_q 2 w' (by decide))
 have HWX : Hid (∀ w', Calls Tryz.prog 8 #[.int .i64 10] w' fun e w2 => e = .returned (.agg #[.bool (zs exC1.len.num), .string (zx exC1.len.num), .bool false, .string (ry exC1.len.den)]) ∧ Below w'.heap.size w' w2) := Lib.hid (fun w' => by rw [exLen]; exact whole_q 10 w' (by decide))
 have HBW : Hid (∀ w' v1 v2, NetAt w'.heap.size w' v1 v2 exN → Calls Tryz.prog 15 #[.agg #[v1, v2], .agg #[.int .i64 2, .bool (zs exP.off.num), .string (zx exP.off.num), .bool false, .string (ry exP.off.den)], .agg #[.int .i64 1, .bool (zs exQ.off.num), .string (zx exQ.off.num), .bool false, .string (ry exQ.off.den)]] w' fun e w2 => ∃ a c, e = .returned (.tuple #[.agg #[.int .i64 2, .bool (zs exP.off.num), .string (zx exP.off.num), .bool false, .string (ry exP.off.den), .int .i64 1, .bool (zs exQ.off.num), .string (zx exQ.off.num), .bool false, .string (ry exQ.off.den), .slice a 3 c, .bool (zs exC1.len.num), .string (zx exC1.len.num), .bool false, .string (ry exC1.len.den)], .int .i64 0]) ∧ Below w'.heap.size w' w2) := Lib.hid (fun w' v1 v2 hN => (between_q exN (rtN exN) (rtN_of exN) v1 v2 exP exQ w' hN exN_ok (by decide) exFit).mono (by
  rw [exBw]
  rintro e w2 ⟨v, rfl, ho, hb⟩
  obtain ⟨a, n, c, rfl, hn, _⟩ := ho.sl.open
  rw [List.length_map, exLegs] at hn
  subst hn
  exact ⟨a, c, rfl, hb⟩))
 generalize zs exP.off.num = s1 at HW1 HBW
 generalize zx exP.off.num = x1 at HW1 HBW
 generalize ry exP.off.den = y1 at HW1 HBW
 generalize zs exQ.off.num = s2 at HW2 HBW
 generalize zx exQ.off.num = x2 at HW2 HBW
 generalize ry exQ.off.den = y2 at HW2 HBW
 generalize zs exC1.len.num = s3 at HWX HBW
 generalize zx exC1.len.num = x3 at HWX HBW
 generalize ry exC1.len.den = y3 at HWX HBW
 go_enter Tryz.func4, Tryz.ntmps4
 go_wp2_with fail
 refine (example_q _).mono ?_
 rintro e w2 ⟨⟨v1, v2, rfl, o1, o2⟩, hb2⟩
 obtain ⟨X2, rfl⟩ := below_some hb2
 have HN1 := Lib.hid (show NetAt _ _ v1 v2 exN from ⟨o1.sl, o2.sl⟩)
 obtain ⟨a1, n1, c1, rfl⟩ := o1.val
 obtain ⟨a2, n2, c2, rfl⟩ := o2.val
 clear o1 o2 hb2
 go_wp2_with fail
 refine (lengths_q exN (dsN exN) (dsN_of exN) 1 _ _ _ HN1.out exN_ok (by decide)).mono ?_
 rw [exLens]
 rintro e w3 ⟨vl, rfl, ol, hb3⟩
 obtain ⟨X3, rfl⟩ := below_some hb3
 have HOL := Lib.hid ol
 obtain ⟨al, nl, cl, rfl⟩ := ol.val
 clear ol hb3 HN1
 go_wp2_with fail
 refine (example_q _).mono ?_
 rintro e w4 ⟨⟨v3, v4, rfl, o1, o2⟩, hb4⟩
 obtain ⟨X4, rfl⟩ := below_some hb4
 have HN2 := Lib.hid (show NetAt _ _ v3 v4 exN from ⟨o1.sl, o2.sl⟩)
 obtain ⟨a3, n3, c3, rfl⟩ := o1.val
 obtain ⟨a4, n4, c4, rfl⟩ := o2.val
 clear o1 o2 hb4
 go_wp2_with fail
 refine (findRoute_some exN (rtN exN) (rtN_of exN) 3 2 _ 8 _ _ _ HN2.out exN_ok (by decide) exRt32').mono ?_
 rintro e w5 ⟨vn, vr, rfl, hrt, hb5⟩
 obtain ⟨X5, rfl⟩ := below_some hb5
 have HRT := Lib.hid hrt.1
 obtain ⟨an, nn, cn, rfl⟩ := hrt.1.val
 obtain ⟨ar, nr, cr, rfl⟩ := hrt.2.val
 clear hrt hb5 HN2
 go_wp2_with fail
 refine (example_q _).mono ?_
 rintro e w6 ⟨⟨v5, v6, rfl, o1, o2⟩, hb6⟩
 obtain ⟨X6, rfl⟩ := below_some hb6
 have HN3 := Lib.hid (show NetAt _ _ v5 v6 exN from ⟨o1.sl, o2.sl⟩)
 obtain ⟨a5, n5, c5, rfl⟩ := o1.val
 obtain ⟨a6, n6, c6, rfl⟩ := o2.val
 clear o1 o2 hb6
 go_wp2_with fail
 refine (jk (HW1.out _)).mono ?_
 rintro e _ ⟨rfl, X7, rfl⟩
 go_wp2_with fail
 refine (jk (HW2.out _)).mono ?_
 rintro e _ ⟨rfl, X8, rfl⟩
 go_wp2_with fail
 refine (HBW.out _ _ _ (HN3.out.later (by exact Bw.b))).mono ?_
 rintro e w9 ⟨ab, cb, rfl, hb9⟩
 obtain ⟨X9, rfl⟩ := below_some hb9
 clear hb9 HN3 HBW HW1 HW2
 go_wp2_with (first | (refine wl_store (op := ⟨none, .store _ (.tmp 5) (.tmp 24), _, _, _, _⟩) (by rfl) _ _ rfl iWy _ (by rfl) #[.int .i64 2, .bool s1, .string x1, .bool false, .string y1, .int .i64 1, .bool s2, .string x2, .bool false, .string y2, .slice ab 3 cb, .bool s3, .string x3, .bool false, .string y3] (by rfl) (by simp [go_sem]) rfl (by simp [Value.oneCell']) ?_) | fail)
 obtain ⟨W, hW⟩ : ∃ W, W = (((((((((w.junk X2).junk X3).junk X4).junk X5).alloc (.cells #[.slice an nn cn, .slice ar nr cr, .int .i64 8] 64)).junk X6).junk X7).junk X8).junk X9).alloc (.cells #[.int .i64 2, .bool s1, .string x1, .bool false, .string y1, .int .i64 1, .bool s2, .string x2, .bool false, .string y2, .slice ab 3 cb, .bool s3, .string x3, .bool false, .string y3] 46) := ⟨_, rfl⟩
 rw [← hW]
 have e0 : W.cell? ⟨((((w.junk X2).junk X3).junk X4).junk X5).heap.size, 0, none⟩ = some (.slice an nn cn) := by rw [hW]; simp [go_sem]
 have e2 : W.cell? ⟨((((w.junk X2).junk X3).junk X4).junk X5).heap.size, 2, none⟩ = some (.int .i64 8) := by rw [hW]; simp [go_sem]
 have HB5 : Hid (W.heap[(((((((((w.junk X2).junk X3).junk X4).junk X5).alloc (.cells #[.slice an nn cn, .slice ar nr cr, .int .i64 8] 64)).junk X6).junk X7).junk X8).junk X9).heap.size]? = some (.cells #[.int .i64 2, .bool s1, .string x1, .bool false, .string y1, .int .i64 1, .bool s2, .string x2, .bool false, .string y2, .slice ab 3 cb, .bool s3, .string x3, .bool false, .string y3] 46 (0, 0))) := Lib.hid (by rw [hW]; exact obj_last _ _)
 haveI l3 : Lo ((((w.junk X2).junk X3).junk X4).junk X5).heap.size W := by rw [hW]; infer_instance
 haveI bw : Bw w W := by rw [hW]; infer_instance
 have HSA : Hid (Sl W.heap.size W 1 (.slice al nl cl) ([0, 5, 11].map i1)) := Lib.hid (by rw [hW]; exact HOL.out.sl.later Bw.b)
 have HSB : Hid (Sl W.heap.size W 1 (.slice an nn cn) ([3, 1, 2].map i1)) := Lib.hid (by rw [hW]; exact HRT.out.sl.later Bw.b)
 clear hW HOL HRT
 generalize (((((((((w.junk X2).junk X3).junk X4).junk X5).alloc (.cells #[.slice an nn cn, .slice ar nr cr, .int .i64 8] 64)).junk X6).junk X7).junk X8).junk X9).heap.size = b5 at *
 generalize ((((w.junk X2).junk X3).junk X4).junk X5).heap.size = b3 at *
 haveI l5 : Lo b5 W := ⟨obj_lt HB5.out⟩
 have f10 : W.cell? ⟨b5, 10, none⟩ = some (.slice ab 3 cb) := obj_cell HB5.out 10
 have f11 : W.cell? ⟨b5, 11, none⟩ = some (.bool s3) := obj_cell HB5.out 11
 have f12 : W.cell? ⟨b5, 12, none⟩ = some (.string x3) := obj_cell HB5.out 12
 have f13 : W.cell? ⟨b5, 13, none⟩ = some (.bool false) := obj_cell HB5.out 13
 have f14 : W.cell? ⟨b5, 14, none⟩ = some (.string y3) := obj_cell HB5.out 14
 have HA : Hid (∀ (w' : World) [Bw W w'] (bl : Nat), w'.heap[bl]? = some (.cells #[.int .i64 0, .int .i64 5, .int .i64 11] 3 (0, 0)) → Calls Tryz.prog 16 #[.slice al nl cl, .slice (some ⟨bl, 0, none⟩) 3 3] w' fun e w2 => e = .returned (.bool true) ∧ Below w'.heap.size w' w2) := Lib.hid (fun w' _ bl hb =>
  sameInts_q [0, 5, 11] [0, 5, 11] _ _ w' (HSA.out.later Bw.b) (own_blk (B := 0) (k := 1) (n := 3) (rows := ([0, 5, 11] : List Int).map i1) hb (by rfl) (Nat.zero_le _) rfl (by intro r hr; obtain ⟨y, _, rfl⟩ := List.mem_map.1 hr; rfl) (by unfold maxLen; omega)).sl (by decide) (by decide))
 have HB : Hid (∀ (w' : World) [Bw W w'] (bl : Nat), w'.heap[bl]? = some (.cells #[.int .i64 3, .int .i64 1, .int .i64 2] 3 (0, 0)) → Calls Tryz.prog 16 #[.slice an nn cn, .slice (some ⟨bl, 0, none⟩) 3 3] w' fun e w2 => e = .returned (.bool true) ∧ Below w'.heap.size w' w2) := Lib.hid (fun w' _ bl hb =>
  sameInts_q [3, 1, 2] [3, 1, 2] _ _ w' (HSB.out.later Bw.b) (own_blk (B := 0) (k := 1) (n := 3) (rows := ([3, 1, 2] : List Int).map i1) hb (by rfl) (Nat.zero_le _) rfl (by intro r hr; obtain ⟨y, _, rfl⟩ := List.mem_map.1 hr; rfl) (by unfold maxLen; omega)).sl (by decide) (by decide))
 clear HSA HSB HB5
 go_region_held3 (fun w' => w'.cell? ⟨b3, 0, none⟩ = some (.slice an nn cn) ∧ w'.cell? ⟨b3, 2, none⟩ = some (.int .i64 8) ∧ w'.cell? ⟨b5, 10, none⟩ = some (.slice ab 3 cb) ∧ w'.cell? ⟨b5, 11, none⟩ = some (.bool s3) ∧ w'.cell? ⟨b5, 12, none⟩ = some (.string x3) ∧ w'.cell? ⟨b5, 13, none⟩ = some (.bool false) ∧ w'.cell? ⟨b5, 14, none⟩ = some (.string y3)) (refine ⟨?_, ?_, ?_, ?_, ?_, ?_, ?_⟩ <;> simp [go_sem, e0, e2, f10, f11, f12, f13, f14]) (first | ((with_reducible refine (jk (HA.out _ _ ?_)).mono ?_); (first | exact obj_last _ _ | exact obj_at' (by simp)); rintro e _ ⟨rfl, X, rfl⟩) | ((with_reducible refine (jk (HB.out _ _ ?_)).mono ?_); (first | exact obj_last _ _ | exact obj_at' (by simp)); rintro e _ ⟨rfl, X, rfl⟩) | ((with_reducible refine (jk (HWX.out _)).mono ?_); rintro e _ ⟨rfl, X, rfl⟩) | fail)
 all_goals
  go_wp2_with fail
  go_ret
  exact ⟨rfl, Bw.b⟩
end Go.Proofs.YtcelpkbmcmnogaaGreatDoor
namespace Go.Proofs.YtcelpkbmcmnogaaGreatDoor
open Go Go.RowKit Go.Vi
attribute [local go_sem ↓] lo_lt lo_ne lo_ne'
attribute [local go_sem] junk_cell junk_frozen junk_setCell junk_drew drew_junk
end Go.Proofs.YtcelpkbmcmnogaaGreatDoor
namespace Go.Proofs.YtcelpkbmcmnogaaGreatDoor
open Go Go.RowKit Go.Vi
attribute [local go_sem ↓] lo_lt lo_ne lo_ne'
attribute [local go_sem] junk_cell junk_frozen junk_setCell junk_drew drew_junk
end Go.Proofs.YtcelpkbmcmnogaaGreatDoor
namespace Go.Proofs.YtcelpkbmcmnogaaGreatDoor
open Go Go.RowKit Go.Vi
theorem fin_ex (L : List Hp) : ∃ L', Fin L L' := by
 refine ⟨_, L.mergeSort (fun a b => decide (a.dst < b.dst ∨ (a.dst = b.dst ∧ (a.len < b.len ∨ (a.len = b.len ∧ a.road ≤ b.road))))), List.mergeSort_perm _ _, ?_, rfl⟩
 refine List.Pairwise.imp ?_ (List.pairwise_mergeSort ?_ ?_ L)
 ·intro a b h
  simp only [decide_eq_true_eq] at h
  unfold hpLt
  omega
 ·intro a b c h1 h2
  simp only [decide_eq_true_eq] at h1 h2 ⊢
  omega
 ·intro a b
  simp only [Bool.or_eq_true, decide_eq_true_eq]
  omega
/-- What is left of each node's hops. -/
noncomputable def finA (n : Net) (u : Int) : List Hp := (fin_ex (hopsG n.roads u)).choose
theorem finA_of (n : Net) (u : Int) : Fin (hopsG n.roads u) (finA n u) := (fin_ex (hopsG n.roads u)).choose_spec
theorem node_ids {n : Net} {x : Int} (h : (nodeOf n.nodes x).isSome = true) : x ∈ idsN n := by
 unfold nodeOf at h
 rw [List.find?_isSome] at h
 obtain ⟨y, hy, e⟩ := h
 unfold idsN
 rw [List.mem_map]
 exact ⟨y, hy, by simpa using e⟩
theorem hop_ends {n : Net} (hK : NetOK n) {A : Int → List Hp} (hA : ∀ k, Fin (hopsG n.roads k) (A k)) {u : Int} {h : Hp} (hh : h ∈ A u) : u ∈ idsN n ∧ h.dst ∈ idsN n := by
 obtain ⟨r, hr, _, _, h1⟩ := hop_road hA hh
 obtain ⟨_, _, ⟨e1, e2⟩, _⟩ := roadErr_zero (hK.road r hr).2
 rcases h1 with ⟨rfl, h2⟩ | ⟨rfl, h2⟩
 ·rw [h2]; exact ⟨node_ids e1, node_ids e2⟩
 ·rw [h2]; exact ⟨node_ids e2, node_ids e1⟩
end Go.Proofs.YtcelpkbmcmnogaaGreatDoor
namespace Go.Proofs.YtcelpkbmcmnogaaGreatDoor
open Go Go.RowKit Go.Vi
attribute [local go_sem ↓] lo_lt lo_ne lo_ne'
attribute [local go_sem] junk_cell junk_frozen junk_setCell junk_drew drew_junk
/-- What a grid is decoded into. -/
structure GNet (n : Net) : Prop where
 ok : NetOK n
 two : 2 ≤ n.nodes.length
 few : n.nodes.length ≤ 8
 one : 1 ≤ n.roads.length
 most : n.roads.length ≤ 13
 len : ∀ r ∈ n.roads, 1 ≤ r.len ∧ r.len ≤ 48
theorem gnet_q {P : List Spt} {Q : List Lne} {vp vq : Value} (w : World) (h : GrdAt w.heap.size w vp vq P Q) :
  Calls Tryz.prog 5 #[.agg #[vp, vq]] w fun e w' => (∃ (v1 v2 : Value) (n : Net), e = .returned (.agg #[v1, v2]) ∧ Ow w.heap.size w' 71 3 v1 (n.nodes.map Nd.cs) ∧ Ow w.heap.size w' 53 6 v2 (n.roads.map Rd.cs) ∧ GNet n) ∧ Below w.heap.size w w' :=
 (network_any P Q vp vq w h.sp h.ln h.fp h.fq h.nil).mono (by
  rintro e w' ⟨⟨v1, v2, N, R, he, o1, o2, h1, h2, h3, h4, h5, h6, h7⟩, hb⟩
  have hok : NetOK ⟨N, R⟩ := netOK_of (netErr_in h5 h2 h6 (by omega))
  exact ⟨⟨v1, v2, ⟨N, R⟩, he, o1, o2, hok, h1, h2, h3, h4, fun r hr => ⟨(hok.len r hr).1, h7 r hr⟩⟩, hb⟩)
theorem known_bw (w : World) : Hid (∀ (w' : World) [Bw w w'], Calls Tryz.prog 4 #[] w' fun e w2 => e = .returned (.bool true) ∧ Below w'.heap.size w' w2) := Lib.hid (fun w' _ => known_q w')
theorem grd_bw {w w' : World} {vp vq : Value} {P : List Spt} {Q : List Lne} [h : Bw w w'] (hX : GrdAt w.heap.size w vp vq P Q) : GrdAt w'.heap.size w' vp vq P Q := hX.later h.b
end Go.Proofs.YtcelpkbmcmnogaaGreatDoor
