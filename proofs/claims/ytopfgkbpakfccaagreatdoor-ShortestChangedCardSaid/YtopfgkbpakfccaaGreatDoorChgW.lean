/-
  The law of changed lengths, walked.
-/
import Derived.Test.YtopfgkbpakfccaaGreatDoorCerW
set_option linter.unusedSimpArgs false
set_option linter.unusedVariables false
namespace Go.Proofs.YtopfgkbpakfccaaGreatDoor
open Go Go.RowKit Go.Vi
attribute [local go_sem ↓] lo_lt lo_ne lo_ne'
attribute [local go_sem] junk_cell junk_frozen junk_setCell junk_drew drew_junk
theorem fold_bd (f : List Int → Nat → List Int) {D : Int} (hD : 0 ≤ D) (hf : ∀ k C L, 0 ≤ C → BdL C L → BdL (C + D) (f L k)) (hl : ∀ k L, (f L k).length = L.length) : ∀ (m : Nat) (C : Int) (L : List Int), m ≤ 8 → 0 ≤ C → BdL C L → BdL (C + 8 * D) ((List.range m).foldl f L) := by
  have h : ∀ (m : Nat) (C : Int) (L : List Int), 0 ≤ C → BdL C L → BdL (C + m * D) ((List.range m).foldl f L) := by
    intro m
    induction m with
    | zero => intro C L _ h; simpa using h
    | succ m ih =>
      intro C L hC h
      rw [range_snoc]
      have hm : 0 ≤ (m : Int) * D := Int.mul_nonneg (by omega) hD
      have := hf m _ _ (by omega) (ih C L hC h)
      have e : C + ((m + 1 : Nat) : Int) * D = C + m * D + D := by
        rw [Int.natCast_succ, Int.add_mul]; omega
      rw [e]; exact this
  intro m C L hm hC hL
  refine bd_mono (h m C L hC hL) ?_
  have : (m : Int) * D ≤ 8 * D := Int.mul_le_mul_of_nonneg_right (by omega) hD
  omega
theorem fold_len (f : List Int → Nat → List Int) (hl : ∀ k L, (f L k).length = L.length) (m : Nat) (L : List Int) : ((List.range m).foldl f L).length = L.length := by
  induction m with
  | zero => rfl
  | succ m ih => rw [range_snoc, hl, ih]
theorem relax_bd (n : Net) (hl : ∀ r ∈ n.roads, 1 ≤ r.len ∧ r.len ≤ 1073741824) (i k : Nat) (C : Int) (L : List Int) (hC : 0 ≤ C) (h : BdL C L) : BdL (C + 1073741824) (relaxL (hpN n) (idsN n) i L k) := by
  have hb := hop_len n ((idsN n)[i]!) ((idsN n)[k]!) hl
  rw [relax_eq n i k L rfl rfl]
  split
  · rename_i hc
    by_cases hk : k < L.length
    · have := h i
      exact bd_set h hk (by omega) (by omega) (by omega)
    · rw [List.set_eq_of_length_le (by omega)]
      exact bd_mono h (by omega)
  · exact bd_mono h (by omega)
theorem lnN_bd (n : Net) (s : Int) (hl : ∀ r ∈ n.roads, 1 ≤ r.len ∧ r.len ≤ 1073741824) (h8 : n.nodes.length ≤ 8) : BdL 549755813888 (lnN n s) := by
  have h8' : (idsN n).length ≤ 8 := by rw [idsN_len]; exact h8
  have hr : ∀ i k L, (relaxL (hpN n) (idsN n) i L k).length = L.length := fun i k L => relax_len _ _ i k L
  have hrow : ∀ i L, (rowL (hpN n) (idsN n) L i).length = L.length := fun i L => fold_len _ (fun k L => hr i k L) _ _
  have hrnd : ∀ i L, (roundL (hpN n) (idsN n) L i).length = L.length := fun i L => fold_len _ (fun k L => hrow k L) _ _
  have h1 : ∀ i C L, 0 ≤ C → BdL C L → BdL (C + 8589934592) (rowL (hpN n) (idsN n) L i) := fun i C L hC h => fold_bd (relaxL (hpN n) (idsN n) i) (D := 1073741824) (by omega) (fun k C L hC h => relax_bd n hl i k C L hC h) (fun k L => hr i k L) _ C L h8' hC h
  have h2 : ∀ i C L, 0 ≤ C → BdL C L → BdL (C + 68719476736) (roundL (hpN n) (idsN n) L i) := fun i C L hC h => fold_bd (rowL (hpN n) (idsN n)) (D := 8589934592) (by omega) h1 hrow _ C L h8' hC h
  have h3 := fold_bd (roundL (hpN n) (idsN n)) (D := 68719476736) (by omega) h2 hrnd (idsN n).length 0 (startL (idsN n) s) h8' (by omega) (fun j => by
    by_cases hj : j < (idsN n).length
    · rw [startL_at _ _ hj]; split <;> omega
    · have e : (startL (idsN n) s)[j]! = 0 := by
        unfold startL
        rw [getElem!_neg ((idsN n).map _) j (by simpa using hj)]; rfl
      rw [e]; omega)
  exact bd_mono h3 (by omega)
set_option maxRecDepth 100000 in
set_option maxHeartbeats 1000000 in
theorem chgLaw (P : List Spt) (Q : List Lne) (vp vq : Value) (x y z : Int) (w : World) (hX : GrdAt w.heap.size w vp vq P Q) (hx : Byte x) (hy : Byte y) (hz : I8 z) :
    Calls Tryz.prog 9 #[.agg #[vp, vq], .agg #[.int .u8 x, .int .u8 y, .int .i8 z]] w fun e w' => e = .returned (.bool true) ∧ Below w.heap.size w w' := by
  have HKN := known_bw w
  have HG : Hid (∀ (w' : World) [Bw w w'], Calls Tryz.prog 15 #[.agg #[vp, vq]] w' fun e w2 => (∃ (v1 v2 : Value) (n : Net), e = .returned (.agg #[v1, v2]) ∧ Ow w'.heap.size w2 44 3 v1 (n.nodes.map Nd.cs) ∧ Ow w'.heap.size w2 90 6 v2 (n.roads.map Rd.cs) ∧ GNet n) ∧ Below w'.heap.size w' w2) := Lib.hid (fun w' _ => gnet_q w' (grd_bw hX))
  have HX := Lib.hid hx
  have HY := Lib.hid hy
  have HZ := Lib.hid hz
  clear hX hx hy hz
  go_enter Tryz.func9, Tryz.ntmps9
  go_wp2_with fail
  refine (jk (HKN.out _)).mono ?_
  rintro e _ ⟨rfl, X1, rfl⟩
  go_wp2_with fail
  refine (HG.out _).mono ?_
  rintro e w2 ⟨⟨v1, v2, n, rfl, o1, o2, hn⟩, hb2⟩
  obtain ⟨X2, rfl⟩ := below_some hb2
  have HN := Lib.hid (show NetAt _ _ v1 v2 n from ⟨o1.sl, o2.sl⟩)
  have HGN := Lib.hid hn
  obtain ⟨a1, n1, c1, rfl⟩ := o1.val
  obtain ⟨a2, n2, c2, rfl⟩ := o2.val
  have hn1 := o1.sl.len
  rw [List.length_map] at hn1
  have HN1 := Lib.hid hn1
  clear o1 o2 hb2 hn HG HKN hn1
  go_upto_region 4 with fail
  obtain ⟨W, hW⟩ : ∃ W, W = ((((w.alloc (.cells #[vp, vq] 25)).alloc (.cells #[.int .u8 x, .int .u8 y, .int .i8 z] 78)).junk X1).junk X2).alloc (.cells #[.slice a1 n1 c1, .slice a2 n2 c2] 30) := ⟨_, rfl⟩
  have n0 : W.cell? ⟨((((w.alloc (.cells #[vp, vq] 25)).alloc (.cells #[.int .u8 x, .int .u8 y, .int .i8 z] 78)).junk X1).junk X2).heap.size, 0, none⟩ = some (.slice a1 n1 c1) := by rw [hW]; simp [go_sem]
  have e1 : W.cell? ⟨((((w.alloc (.cells #[vp, vq] 25)).alloc (.cells #[.int .u8 x, .int .u8 y, .int .i8 z] 78)).junk X1).junk X2).heap.size, 1, none⟩ = some (.slice a2 n2 c2) := by rw [hW]; simp [go_sem]
  have t0 : W.cell? ⟨w.heap.size + 1, 0, none⟩ = some (.int .u8 x) := by rw [hW]; simp [go_sem]
  have t1 : W.cell? ⟨w.heap.size + 1, 1, none⟩ = some (.int .u8 y) := by rw [hW]; simp [go_sem]
  have t2 : W.cell? ⟨w.heap.size + 1, 2, none⟩ = some (.int .i8 z) := by rw [hW]; simp [go_sem]
  haveI lb : Lo ((((w.alloc (.cells #[vp, vq] 25)).alloc (.cells #[.int .u8 x, .int .u8 y, .int .i8 z] 78)).junk X1).junk X2).heap.size W := by rw [hW]; infer_instance
  haveI lc : Lo (w.heap.size + 1) W := by rw [hW]; infer_instance
  haveI bw : Bw w W := by rw [hW]; infer_instance
  have HNW : Hid (NetAt W.heap.size W (.slice a1 n1 c1) (.slice a2 n2 c2) n) := Lib.hid (by rw [hW]; exact HN.out.later Bw.b)
  rw [← hW]
  clear hW HN
  generalize ((((w.alloc (.cells #[vp, vq] 25)).alloc (.cells #[.int .u8 x, .int .u8 y, .int .i8 z] 78)).junk X1).junk X2).heap.size = bx at *
  generalize w.heap.size + 1 = bc at *
  have hn2 : 0 < n1 := by have := HGN.out.two; have := HN1.out; omega
  have hn8 : n1 ≤ 8 := by have := HGN.out.few; have := HN1.out; omega
  obtain ⟨k, hk, hk2⟩ := tmodNat (n := n1) HX.out hn2
  have hkl : k < n.nodes.length := by rw [HN1.out]; exact hk2
  obtain ⟨b0, off, rfl, hb0, dn⟩ := nd_cells HNW.out.1 k hkl
  obtain ⟨d0, _, _⟩ := dn k hkl
  haveI l0 : Lo b0 W := ⟨hb0⟩
  have hwx : IntKind.i64.wrap x = x := IntWalk.i64_in _ (by have := HX.out; unfold Byte at this; omega)
  have hwy : IntKind.i64.wrap y = y := IntWalk.i64_in _ (by have := HY.out; unfold Byte at this; omega)
  have hwz : IntKind.i64.wrap z = z := IntWalk.i64_in _ (by have := HZ.out; unfold I8 at this; omega)
  have hwk : IntKind.i64.wrap (k : Int) = (k : Int) := IntWalk.i64_in _ (by omega)
  have hz : ¬(n1 : Int) = 0 := by omega
  have hz0 : ¬n1 = 0 := by omega
  have hk3 : (0 : Int) ≤ (k : Int) := by omega
  have hk4 : (k : Int) < (n1 : Int) := by omega
  have hs := node_at_some hkl
  generalize n.nodes[k]!.id = id at d0 hs
  have hbd := lnN_bd n id HGN.out.ok.len HGN.out.few
  rw [lnN_eq HGN.out.ok (dsN_of n) hs] at hbd
  have HCK : Hid (∀ (L : List Int) (u : Value) (w' : World) [Bw W w'], Sl w'.heap.size w' 1 u (L.map i1) → L.length ≤ 1000000 → Calls Tryz.prog 29 #[.agg #[.slice (some ⟨b0, off, none⟩) n1 c1, .slice a2 n2 c2], .int .i64 id, u] w' fun e w2 => e = .returned (.int .i64 (ckLens n (dsN n) id L)) ∧ Below w'.heap.size w' w2) := Lib.hid (fun L u w' _ hu hl => checkLengths_q n (dsN n) (dsN_of n) id L _ _ u w' (later_bw HNW.out) HGN.out.ok (by have := HGN.out.most; omega) hu hl)
  have HLL : Hid (∀ (w' : World) [Bw W w'], Calls Tryz.prog 30 #[.agg #[.slice (some ⟨b0, off, none⟩) n1 c1, .slice a2 n2 c2], .int .i64 id] w' fun e w2 => ∃ v, e = .returned v ∧ Ow w'.heap.size w2 3 1 v ((lensN n (dsN n) id).1.map i1) ∧ Below w'.heap.size w' w2) := Lib.hid (fun w' _ => by rw [← lnN_eq HGN.out.ok (dsN_of n) hs]; exact lengthsL_q n id _ _ w' (later_bw HNW.out) HGN.out.ok HGN.out.few)
  have HYE : Hid (∀ L : List Int, ckLens n (dsN n) id L = if L.length ≠ n1 then 12 else if L = (lensN n (dsN n) id).1 then 0 else 30) := Lib.hid (fun L => by rw [ckLens_yes hs, HN1.out])
  have hle := lens_len (ds := dsN n) hs
  rw [HN1.out] at hle
  generalize (lensN n (dsN n) id).1 = M at HLL hle HYE hbd
  have HLE := Lib.hid hle
  have HBD := Lib.hid hbd
  clear hle hs dn hkl hbd
  go_quiet (fail)
  go_wp2_with fail
  refine (HLL.out _).mono ?_
  rintro e w5 ⟨v5, rfl, o5, hb5⟩
  obtain ⟨X5, rfl⟩ := below_some hb5
  obtain ⟨g, n5, c5, rfl⟩ : ∃ g n cap, v5 = .slice (some ⟨g, 0, none⟩) n cap := by
    rcases o5.shape with ⟨_, e⟩ | ⟨g, cap, e, _⟩
    · rw [List.map_eq_nil_iff] at e; have := HLE.out; rw [e] at this; simp at this; omega
    · exact ⟨g, _, cap, e⟩
  have hn5 := o5.sl.len
  rw [List.length_map, HLE.out] at hn5
  subst hn5
  obtain ⟨V, hV⟩ : ∃ V, V = (W.drewN nq).junk X5 := ⟨_, rfl⟩
  haveI bv : Bw W V := by rw [hV]; infer_instance
  haveI lbv : Lo bc V := ⟨Nat.lt_of_lt_of_le lc.lt bv.b.size⟩
  haveI lxv : Lo bx V := ⟨Nat.lt_of_lt_of_le lb.lt bv.b.size⟩
  have u1 : V.cell? ⟨bc, 1, none⟩ = some (.int .u8 y) := by rw [bv.b.cell (p := ⟨bc, _, none⟩) lc.lt]; exact t1
  have u2 : V.cell? ⟨bc, 2, none⟩ = some (.int .i8 z) := by rw [bv.b.cell (p := ⟨bc, _, none⟩) lc.lt]; exact t2
  have m0 : V.cell? ⟨bx, 0, none⟩ = some (.slice (some ⟨b0, off, none⟩) n1 c1) := by rw [bv.b.cell (p := ⟨bx, _, none⟩) lb.lt]; exact n0
  have m1 : V.cell? ⟨bx, 1, none⟩ = some (.slice a2 n2 c2) := by rw [bv.b.cell (p := ⟨bx, _, none⟩) lb.lt]; exact e1
  rw [← hV] at o5 ⊢
  clear hb5 hV t0 t1 t2 n0 e1 d0
  have hgW : W.heap.size ≤ g := (o5.blk g rfl).1
  have hgV := (o5.blk g rfl).2
  have hgc : ¬ bc = g := by have := lc.lt; omega
  have hgx : ¬ bx = g := by have := lb.lt; omega
  haveI lgV : Lo g V := ⟨hgV⟩
  obtain ⟨j, hj, hj2⟩ := tmodNat (n := n1) HY.out hn2
  have hjl : j < M.length := by rw [HLE.out]; exact hj2
  have hwj : IntKind.i64.wrap (j : Int) = (j : Int) := IntWalk.i64_in _ (by omega)
  have hj3 : (0 : Int) ≤ (j : Int) := by omega
  have hj4 : (j : Int) < (n1 : Int) := by omega
  have x0 := ow_i1 o5 hjl
  have xf := o5.free j
  have hm := HBD.out j
  have hm2 := HZ.out
  unfold I8 at hm2
  have hws : IntKind.i64.wrap (M[j]! + z) = M[j]! + z := IntWalk.i64_in _ (by omega)
  have HO5 := Lib.hid (ow_i1_set o5 hjl (M[j]! + z))
  have HSET : Hid (M.set j (M[j]! + z) = M ↔ z = 0) := Lib.hid ⟨fun h => by
    have h2 := set_get! (M[j]! + z) j hjl
    rw [h, if_pos rfl] at h2
    omega, fun h => by
    subst h
    rw [Int.add_zero, getElem!_pos M j hjl]
    exact List.set_getElem_self hjl⟩
  have hset := hjl
  have HC2 := Lib.hid (HCK.out (M.set j (M[j]! + z)) (.slice (some ⟨g, 0, none⟩) n1 c5))
  rw [HYE.out] at HC2
  rw [if_neg (by rw [List.length_set, HLE.out]; simp)] at HC2
  have hlen : (M.set j (M[j]! + z)).length ≤ 1000000 := by rw [List.length_set, HLE.out]; omega
  generalize M.set j (M[j]! + z) = M2 at HC2 HO5 HSET hlen
  generalize M[j]! = mj at *
  clear hm hm2 hset hjl o5
  go_upto_region 6 with fail
  refine wp_jtail 14 (by kernel_rfl) (by kernel_rfl) ?_
  simp only [List.take_succ_cons, List.take_zero, List.drop_succ_cons, List.drop_zero]
  repeat (go_big_quiet_step (first | (fail) | fail))
  refine wpQuiet_nil ?_
  rintro w' ⟨X6, rfl⟩
  haveI bs : Bw W (V.setCell ⟨g, j, none⟩ (.int .i64 (mj + z))) := bw_set hgW
  haveI bs2 : Bw w (V.setCell ⟨g, j, none⟩ (.int .i64 (mj + z))) := ⟨bw.b.trans (bs.b.mono bw.b.size)⟩
  by_cases hz0 : z = 0
  · have hzb : (z == 0) = true := by simpa using hz0
    rw [if_pos (HSET.out.2 hz0)] at HC2
    clear HSET hz0
    go_wp2_with fail
    refine (jk (HC2.out _ (HO5.out.sl.later Bw.b) hlen)).mono ?_
    rintro e _ ⟨rfl, X7, rfl⟩
    go_wp2_with fail
    go_ret
    exact ⟨rfl, Bw.b⟩
  · have hzb : (z == 0) = false := by simpa using hz0
    rw [if_neg (fun h => hz0 (HSET.out.1 h))] at HC2
    clear HSET
    go_wp2_with fail
    refine (jk (HC2.out _ (HO5.out.sl.later Bw.b) hlen)).mono ?_
    rintro e _ ⟨rfl, X7, rfl⟩
    go_wp2_with fail
    go_ret
    exact ⟨rfl, Bw.b⟩
end Go.Proofs.YtopfgkbpakfccaaGreatDoor
