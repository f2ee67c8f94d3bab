/-
  The law of the nodes, walked.
-/
import Derived.Test.YtopfgkbpakfccaaGreatDoorNodA
set_option linter.unusedSimpArgs false
set_option linter.unusedVariables false
namespace Go.Proofs.YtopfgkbpakfccaaGreatDoor
open Go Go.RowKit Go.Vi
attribute [local go_sem ↓] lo_lt lo_ne lo_ne'
attribute [local go_sem] junk_cell junk_frozen junk_setCell junk_drew drew_junk
attribute [local go_sem] rc_size rowN_alloc_at rowN_alloc rowN_junk rowN_drew rowN_drewN setRow_alloc_at setRow_alloc setRow_junk setRow_drew
theorem node_at_is {n : Net} {k : Nat} (h : k < n.nodes.length) : (nodeOf n.nodes n.nodes[k]!.id).isSome = true := by
  apply ids_node
  unfold idsN
  rw [List.mem_map]
  exact ⟨n.nodes[k]!, by rw [getElem!_pos n.nodes k h]; exact List.getElem_mem h, rfl⟩
set_option maxRecDepth 100000 in
set_option maxHeartbeats 1000000 in
theorem nodLaw (P : List Spt) (Q : List Lne) (vp vq : Value) (x y : Int) (w : World) (hX : GrdAt w.heap.size w vp vq P Q) (hx : Byte x) (hy : Byte y) :
    Calls Tryz.prog 4 #[.agg #[vp, vq], .int .u8 x, .int .u8 y] w fun e w' => e = .returned (.bool true) ∧ Below w.heap.size w w' := by
  have HKN := known_bw w
  have HG : Hid (∀ (w' : World) [Bw w w'], Calls Tryz.prog 15 #[.agg #[vp, vq]] w' fun e w2 => (∃ (v1 v2 : Value) (n : Net), e = .returned (.agg #[v1, v2]) ∧ Ow w'.heap.size w2 44 3 v1 (n.nodes.map Nd.cs) ∧ Ow w'.heap.size w2 90 6 v2 (n.roads.map Rd.cs) ∧ GNet n) ∧ Below w'.heap.size w' w2) := Lib.hid (fun w' _ => gnet_q w' (grd_bw hX))
  clear hX
  go_enter Tryz.func4, Tryz.ntmps4
  go_wp2_with fail
  refine (jk (HKN.out _)).mono ?_
  rintro e _ ⟨rfl, X1, rfl⟩
  go_wp2_with fail
  refine (HG.out _).mono ?_
  rintro e w2 ⟨⟨v1, v2, n, rfl, o1, o2, hn0⟩, hb2⟩
  obtain ⟨X2, rfl⟩ := below_some hb2
  have HN := Lib.hid (show NetAt _ _ v1 v2 n from ⟨o1.sl, o2.sl⟩)
  have hn := Lib.hid hn0
  obtain ⟨a1, n1, c1, rfl⟩ := o1.val
  obtain ⟨a2, n2, c2, rfl⟩ := o2.val
  clear o1 o2 hb2 hn0 HG HKN
  go_upto_region 4 with fail
  obtain ⟨W, hW⟩ : ∃ W, W = (((w.alloc (.cells #[vp, vq] 25)).junk X1).junk X2).alloc (.cells #[.slice a1 n1 c1, .slice a2 n2 c2] 30) := ⟨_, rfl⟩
  have g0 : W.cell? ⟨(((w.alloc (.cells #[vp, vq] 25)).junk X1).junk X2).heap.size, 0, none⟩ = some (.slice a1 n1 c1) := by rw [hW]; simp [go_sem]
  have g1 : W.cell? ⟨(((w.alloc (.cells #[vp, vq] 25)).junk X1).junk X2).heap.size, 1, none⟩ = some (.slice a2 n2 c2) := by rw [hW]; simp [go_sem]
  haveI lb : Lo (((w.alloc (.cells #[vp, vq] 25)).junk X1).junk X2).heap.size W := by rw [hW]; infer_instance
  haveI bw : Bw w W := by rw [hW]; infer_instance
  have HNW : Hid (NetAt W.heap.size W (.slice a1 n1 c1) (.slice a2 n2 c2) n) := Lib.hid (by rw [hW]; exact HN.out.later Bw.b)
  rw [← hW]
  clear hW HN
  generalize (((w.alloc (.cells #[vp, vq] 25)).junk X1).junk X2).heap.size = bx at *
  have hn1 : n.nodes.length = n1 := by
    have := HNW.out.1.len
    rw [List.length_map] at this
    exact this
  have HX := Lib.hid hx
  have HY := Lib.hid hy
  have hn2 : 0 < n1 := by have := hn.out.two; omega
  have hn8 : n1 ≤ 8 := by have := hn.out.few; omega
  obtain ⟨k, hk, hk2⟩ := tmodNat (n := n1) HX.out hn2
  obtain ⟨j, hj, hj2⟩ := tmodNat (n := n1) HY.out hn2
  have hkl : k < n.nodes.length := by rw [hn1]; exact hk2
  have hjl : j < n.nodes.length := by rw [hn1]; exact hj2
  obtain ⟨b0, off, rfl, hb0, dn⟩ := nd_cells HNW.out.1 k hkl
  obtain ⟨d0, _, _⟩ := dn k hkl
  obtain ⟨d1, _, _⟩ := dn j hjl
  haveI l0 : Lo b0 W := ⟨hb0⟩
  have hwx : IntKind.i64.wrap x = x := IntWalk.i64_in _ (by have := HX.out; unfold Byte at this; omega)
  have hwy : IntKind.i64.wrap y = y := IntWalk.i64_in _ (by have := HY.out; unfold Byte at this; omega)
  have hwk : IntKind.i64.wrap (k : Int) = (k : Int) := IntWalk.i64_in _ (by omega)
  have hwj : IntKind.i64.wrap (j : Int) = (j : Int) := IntWalk.i64_in _ (by omega)
  have hz : ¬(n1 : Int) = 0 := by omega
  have hz0 : ¬n1 = 0 := by omega
  have hk3 : (0 : Int) ≤ (k : Int) := by omega
  have hk4 : (k : Int) < (n1 : Int) := by omega
  have hj3 : (0 : Int) ≤ (j : Int) := by omega
  have hj4 : (j : Int) < (n1 : Int) := by omega
  have hsx := node_at_is hkl
  have hsy := node_at_is hjl
  generalize n.nodes[k]!.id = fx at d0 hsx
  generalize n.nodes[j]!.id = fy at d1 hsy
  have HFR : Hid (∀ (w' : World) [Bw W w'], _) := Lib.hid (fun w' _ => fr_q hn.out _ _ hsx hsy w' (later_bw HNW.out))
  have HSX := Lib.hid hsx
  have HSY := Lib.hid hsy
  have HA0 : Hid (∀ (w' : World) [Bw W w'], _) := Lib.hid (fun w' _ => at_q n _ _ fx w' (later_bw HNW.out) hn.out.ok)
  have HB0 : Hid (∀ (w' : World) [Bw W w'], _) := Lib.hid (fun w' _ => at_q n _ _ fy w' (later_bw HNW.out) hn.out.ok)
  have HPA : Hid ((atN n fx).2 = 0 → ∃ r ∈ n.roads, onR r fx) := Lib.hid (fun he => Classical.byContradiction fun hh => at_err hh he)
  have HPB : Hid ((atN n fy).2 = 0 → ∃ r ∈ n.roads, onR r fy) := Lib.hid (fun he => Classical.byContradiction fun hh => at_err hh he)
  have HQA : Hid ((∃ r ∈ n.roads, onR r fx) → (atN n fx).2 = 0 ∧ PosOK n (atN n fx).1) := Lib.hid (fun he => ⟨(at_pos hn.out he).1, (at_pos hn.out he).2.1⟩)
  have HQB : Hid ((∃ r ∈ n.roads, onR r fy) → (atN n fy).2 = 0 ∧ PosOK n (atN n fy).1) := Lib.hid (fun he => ⟨(at_pos hn.out he).1, (at_pos hn.out he).2.1⟩)
  have HDA : Hid ((∃ r ∈ n.roads, onR r fx) → (∃ r ∈ n.roads, onR r fy) → dstN n (atN n fx).1 (atN n fy).1 = (rtN n fx fy).map fun p => (p.2 : Rat)) := Lib.hid (fun h1 h2 => dst_at hn.out h1 h2)
  generalize hpa : (atN n fx).1 = pa at *
  generalize hea : (atN n fx).2 = ea at *
  generalize hpb : (atN n fy).1 = pb at *
  generalize heb : (atN n fy).2 = eb at *
  clear hpa hea hpb heb
  have HA : Hid (∀ (w' : World) [Bw W w'], Calls Tryz.prog 20 #[.agg #[.slice (some ⟨b0, off, none⟩) n1 c1, .slice a2 n2 c2], .int .i64 fx] w' fun e w2 => e = .returned (.tuple #[.agg #[.int .i64 pa.road, .bool (zs pa.off.num), .string (zx pa.off.num), .bool false, .string (ry pa.off.den)], .int .i64 ea]) ∧ Below w'.heap.size w' w2) := Lib.hid HA0.out
  have HB : Hid (∀ (w' : World) [Bw W w'], Calls Tryz.prog 20 #[.agg #[.slice (some ⟨b0, off, none⟩) n1 c1, .slice a2 n2 c2], .int .i64 fy] w' fun e w2 => e = .returned (.tuple #[.agg #[.int .i64 pb.road, .bool (zs pb.off.num), .string (zx pb.off.num), .bool false, .string (ry pb.off.den)], .int .i64 eb]) ∧ Below w'.heap.size w' w2) := Lib.hid HB0.out
  clear HA0 HB0 dn hkl hjl hx hy hn1 hsx hsy
  go_quiet (fail)
  haveI bq : Bw W (W.drewN nq) := inferInstance
  clear hwx hwy hwk hwj hz hz0 hk3 hk4 hj3 hj4 hk hj hk2 hj2 d0 d1 hn2 hn8
  go_wp2_with fail
  refine (HFR.out _).mono ?_
  rintro e w5 ⟨a5, m5, c5, a6, m6', c6, l5, k5, rfl, hk5, hb5⟩
  obtain ⟨X5, rfl⟩ := below_some hb5
  have HK5 := Lib.hid hk5
  clear hb5 hk5 HFR
  go_wp2_with fail
  refine (jk (HA.out _)).mono ?_
  rintro e _ ⟨rfl, X6, rfl⟩
  go_wp2_with fail
  refine (jk (HB.out _)).mono ?_
  rintro e _ ⟨rfl, X7, rfl⟩
  go_upto_region 8 with fail
  have HCASE : Hid ((ea = 0 ∧ eb = 0) ∨ ((¬ea = 0 ∨ ¬eb = 0) ∧ ((k5 = 0 ∧ fx = fy) ∨ (k5 = 31 ∧ ¬fx = fy)))) := Lib.hid (by
    by_cases e1 : ea = 0 ∧ eb = 0
    · exact .inl e1
    · have e2 : ¬ea = 0 ∨ ¬eb = 0 := by omega
      refine .inr ⟨e2, ?_⟩
      rcases HK5.out with ⟨h1, R, h2⟩ | ⟨h1, h2, _⟩
      · refine .inl ⟨h1, ?_⟩
        rcases rt_inc hn.out h2 with h3 | ⟨h3, h4⟩
        · exact h3
        · exact absurd ⟨(HQA.out h3).1, (HQB.out h4).1⟩ e1
      · refine .inr ⟨h1, fun h3 => ?_⟩
        subst h3
        obtain ⟨R, hR⟩ := dist_self hn.out HSX.out
        rw [h2] at hR
        cases hR)
  rcases HCASE.out with ⟨hea, heb⟩ | ⟨he, hf⟩
  · have hix := HPA.out hea
    have hiy := HPB.out heb
    have OKA := Lib.hid (HQA.out hix).2
    have OKB := Lib.hid (HQB.out hiy).2
    have hd := HDA.out hix hiy
    have HD := Lib.hid hd
    clear HPA HPB HQA HQB HDA hix hiy hd
    subst hea
    subst heb
    have HBT : Hid (∀ (w' : World) [Bw W w'], _) := Lib.hid (fun w' _ => btn_q hn.out _ _ OKA.out OKB.out w' (later_bw HNW.out))
    go_wp2_with fail
    refine (HBT.out _).mono ?_
    rintro e w8 ⟨P6, Q6, s6, m6, z6, l6, k6, rfl, hk6, hb8⟩
    obtain ⟨X8, rfl⟩ := below_some hb8
    have HKL : Hid (k5 = k6 ∧ l6 = (l5 : Rat) ∧ 0 ≤ l5 ∧ l5 ≤ 384) := Lib.hid (by
      rcases HK5.out with ⟨h1, R, h2⟩ | ⟨h1, h2, h3⟩
      · have h4 := HD.out
        rw [h2] at h4
        rcases hk6 with ⟨h5, h6⟩ | ⟨h5, h6, _⟩
        · rw [h4] at h6
          injection h6 with h6
          obtain ⟨q1, q2, _⟩ := rt_in hn.out h2
          exact ⟨by rw [h1, h5], h6.symm, q1, q2⟩
        · rw [h4] at h6; cases h6
      · have h4 := HD.out
        rw [h2] at h4
        rcases hk6 with ⟨h5, h6⟩ | ⟨h5, h6, h7⟩
        · rw [h4] at h6; cases h6
        · subst h3
          exact ⟨by rw [h1, h5], h7, by decide, by decide⟩)
    obtain ⟨rfl, hl6, hl0, hl1⟩ := HKL.out
    have HFI0 : Hid (∀ w' : World, _) := Lib.hid (fun w' : World => whole_q l5 w' (by omega))
    rw [← hl6] at HFI0
    have HFI : Hid (∀ w' : World, Calls Tryz.prog 22 #[.int .i64 l5] w' fun e w2 => e = .returned (.agg #[.bool (zs l6.num), .string (zx l6.num), .bool false, .string (ry l6.den)]) ∧ Below w'.heap.size w' w2) := Lib.hid HFI0.out
    clear hb8 hk6 HKL hl6 hl0 hl1 HFI0 HD HK5 HBT
    go_upto_region 11 with (first | (refine wl_store (op := ⟨none, .store _ (.tmp 16) (.tmp 80), _, _, _, _⟩) (by rfl) _ _ rfl iWy _ (by rfl) #[.int .i64 P6.road, .bool (zs P6.off.num), .string (zx P6.off.num), .bool false, .string (ry P6.off.den), .int .i64 Q6.road, .bool (zs Q6.off.num), .string (zx Q6.off.num), .bool false, .string (ry Q6.off.den), .slice s6 m6 z6, .bool (zs l6.num), .string (zx l6.num), .bool false, .string (ry l6.den)] (by rfl) (by simp [go_sem]) rfl (by simp [Value.oneCell']) ?_) | fail)
    obtain ⟨U, hU⟩ : ∃ U, U = (((((((((W.drewN nq).junk X5).alloc (.cells #[.slice a5 m5 c5, .slice a6 m6' c6, .int .i64 l5] 34)).junk X6).alloc (.cells #[.int .i64 pa.road, .bool (zs pa.off.num), .string (zx pa.off.num), .bool false, .string (ry pa.off.den)] 50)).junk X7).alloc (.cells #[.int .i64 pb.road, .bool (zs pb.off.num), .string (zx pb.off.num), .bool false, .string (ry pb.off.den)] 50)).junk X8).alloc (.cells #[.int .i64 P6.road, .bool (zs P6.off.num), .string (zx P6.off.num), .bool false, .string (ry P6.off.den), .int .i64 Q6.road, .bool (zs Q6.off.num), .string (zx Q6.off.num), .bool false, .string (ry Q6.off.den), .slice s6 m6 z6, .bool (zs l6.num), .string (zx l6.num), .bool false, .string (ry l6.den)] 55)) := ⟨_, rfl⟩
    rw [← hU]
    have HBR : Hid (U.heap[((W.drewN nq).junk X5).heap.size]? = some (.cells #[.slice a5 m5 c5, .slice a6 m6' c6, .int .i64 l5] 34 (0, 0))) := Lib.hid (by rw [hU]; exact obj_old (obj_junk (obj_old (obj_junk (obj_old (obj_junk (obj_last _ _)))))))
    have HBY : Hid (U.heap[((((((((W.drewN nq).junk X5).alloc (.cells #[.slice a5 m5 c5, .slice a6 m6' c6, .int .i64 l5] 34)).junk X6).alloc (.cells #[.int .i64 pa.road, .bool (zs pa.off.num), .string (zx pa.off.num), .bool false, .string (ry pa.off.den)] 50)).junk X7).alloc (.cells #[.int .i64 pb.road, .bool (zs pb.off.num), .string (zx pb.off.num), .bool false, .string (ry pb.off.den)] 50)).junk X8).heap.size]? = some (.cells #[.int .i64 P6.road, .bool (zs P6.off.num), .string (zx P6.off.num), .bool false, .string (ry P6.off.den), .int .i64 Q6.road, .bool (zs Q6.off.num), .string (zx Q6.off.num), .bool false, .string (ry Q6.off.den), .slice s6 m6 z6, .bool (zs l6.num), .string (zx l6.num), .bool false, .string (ry l6.den)] 55 (0, 0))) := Lib.hid (by rw [hU]; exact obj_last _ _)
    haveI bwu : Bw w U := by rw [hU]; infer_instance
    clear hU
    generalize ((((((((W.drewN nq).junk X5).alloc (.cells #[.slice a5 m5 c5, .slice a6 m6' c6, .int .i64 l5] 34)).junk X6).alloc (.cells #[.int .i64 pa.road, .bool (zs pa.off.num), .string (zx pa.off.num), .bool false, .string (ry pa.off.den)] 50)).junk X7).alloc (.cells #[.int .i64 pb.road, .bool (zs pb.off.num), .string (zx pb.off.num), .bool false, .string (ry pb.off.den)] 50)).junk X8).heap.size = y6 at *
    generalize ((W.drewN nq).junk X5).heap.size = y5 at *
    haveI ly5 : Lo y5 U := ⟨obj_lt HBR.out⟩
    haveI ly6 : Lo y6 U := ⟨obj_lt HBY.out⟩
    have f52 : U.cell? ⟨y5, 2, none⟩ = some (.int .i64 l5) := obj_cell HBR.out 2
    have f611 : U.cell? ⟨y6, 11, none⟩ = some (.bool (zs l6.num)) := obj_cell HBY.out 11
    have f612 : U.cell? ⟨y6, 12, none⟩ = some (.string (zx l6.num)) := obj_cell HBY.out 12
    have f613 : U.cell? ⟨y6, 13, none⟩ = some (.bool false) := obj_cell HBY.out 13
    have f614 : U.cell? ⟨y6, 14, none⟩ = some (.string (ry l6.den)) := obj_cell HBY.out 14
    clear HBR HBY
    refine wp_jregion (by kernel_rfl) (by kernel_rfl) ?_
    repeat (go_big_quiet_step (first | (first | (with_reducible exact jq (HFI.out _))) | fail))
    refine wpQuiet_nil ?_
    rintro w' ⟨X, rfl⟩
    go_wp2_with fail
    go_ret
    exact ⟨rfl, Bw.b⟩
  · rcases he with he | he
    all_goals
      rcases hf with ⟨rfl, hf⟩ | ⟨rfl, hf⟩
      · go_wp2_with fail
        all_goals
          go_ret
          exact ⟨rfl, Bw.b⟩
      · have hfb : (fx != fy) = true := by simpa using hf
        go_wp2_with fail
        all_goals
          go_ret
          exact ⟨rfl, Bw.b⟩
end Go.Proofs.YtopfgkbpakfccaaGreatDoor
