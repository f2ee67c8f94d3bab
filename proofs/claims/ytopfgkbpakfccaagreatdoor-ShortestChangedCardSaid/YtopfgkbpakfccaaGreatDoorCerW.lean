/-
  The laws of certified and of changed lengths, walked.
-/
import Derived.Test.YtopfgkbpakfccaaGreatDoorLenW
set_option linter.unusedSimpArgs false
set_option linter.unusedVariables false
namespace Go.Proofs.YtopfgkbpakfccaaGreatDoor
open Go Go.RowKit Go.Vi
attribute [local go_sem ↓] lo_lt lo_ne lo_ne'
attribute [local go_sem] junk_cell junk_frozen junk_setCell junk_drew drew_junk
theorem node_at_some {n : Net} {k : Nat} (h : k < n.nodes.length) : (nodeOf n.nodes n.nodes[k]!.id).isSome = true := by
  apply ids_node
  unfold idsN
  rw [List.mem_map]
  exact ⟨n.nodes[k]!, by rw [getElem!_pos n.nodes k h]; exact List.getElem_mem h, rfl⟩
theorem lens_len {n : Net} {ds : Int → Int → Option Int} {s : Int} (hs : (nodeOf n.nodes s).isSome = true) : (lensN n ds s).1.length = n.nodes.length := by unfold lensN; rw [if_pos hs]; simp
set_option maxRecDepth 100000 in
set_option maxHeartbeats 1000000 in
theorem cerLaw (P : List Spt) (Q : List Lne) (vp vq : Value) (x : Int) (L : List Int) (v : Value) (w : World) (hX : GrdAt w.heap.size w vp vq P Q) (hx : Byte x) (hv : Sl w.heap.size w 1 v (L.map i1)) :
    Calls Tryz.prog 8 #[.agg #[vp, vq], .int .u8 x, v] w fun e w' => e = .returned (.bool true) ∧ Below w.heap.size w w' := by
  have HKN := known_bw w
  have HG : Hid (∀ (w' : World) [Bw w w'], Calls Tryz.prog 15 #[.agg #[vp, vq]] w' fun e w2 => (∃ (v1 v2 : Value) (n : Net), e = .returned (.agg #[v1, v2]) ∧ Ow w'.heap.size w2 44 3 v1 (n.nodes.map Nd.cs) ∧ Ow w'.heap.size w2 90 6 v2 (n.roads.map Rd.cs) ∧ GNet n) ∧ Below w'.heap.size w' w2) := Lib.hid (fun w' _ => gnet_q w' (grd_bw hX))
  have HV := Lib.hid hv
  have HX := Lib.hid hx
  obtain ⟨al, nl, cl, rfl, hnl, _⟩ := hv.open
  rw [List.length_map] at hnl
  have HNL := Lib.hid hnl
  clear hX hv hx hnl
  go_enter Tryz.func8, Tryz.ntmps8
  by_cases h10 : (10 : Int) < (nl : Int)
  · go_wp2_with fail
    refine (jk (HKN.out _)).mono ?_
    rintro e _ ⟨rfl, X1, rfl⟩
    go_wp2_with fail
    refine (jk (HKN.out _)).mono ?_
    rintro e _ ⟨rfl, X2, rfl⟩
    go_wp2_with fail
    go_ret
    exact ⟨rfl, Bw.b⟩
  · go_wp2_with fail
    refine (jk (HKN.out _)).mono ?_
    rintro e _ ⟨rfl, X1, rfl⟩
    go_wp2_with fail
    refine (HG.out _).mono ?_
    rintro e w2 ⟨⟨v1, v2, n, rfl, o1, o2, hn⟩, hb2⟩
    obtain ⟨X2, rfl⟩ := below_some hb2
    have HN := Lib.hid (show NetAt _ _ v1 v2 n from ⟨o1.sl, o2.sl⟩)
    have HGN := Lib.hid hn
    obtain ⟨a1, n1, c1, rfl⟩ := o1.val
    obtain ⟨a2, n2, c2, rfl⟩ := o2.val
    have hn1 := o1.sl.len
    rw [List.length_map] at hn1
    have HN1 := Lib.hid hn1
    clear o1 o2 hb2 hn HG HKN hn1
    go_upto_region 4 with fail
    obtain ⟨W, hW⟩ : ∃ W, W = (((w.alloc (.cells #[vp, vq] 25)).junk X1).junk X2).alloc (.cells #[.slice a1 n1 c1, .slice a2 n2 c2] 30) := ⟨_, rfl⟩
    have n0 : W.cell? ⟨(((w.alloc (.cells #[vp, vq] 25)).junk X1).junk X2).heap.size, 0, none⟩ = some (.slice a1 n1 c1) := by rw [hW]; simp [go_sem]
    have e1 : W.cell? ⟨(((w.alloc (.cells #[vp, vq] 25)).junk X1).junk X2).heap.size, 1, none⟩ = some (.slice a2 n2 c2) := by rw [hW]; simp [go_sem]
    haveI lb : Lo (((w.alloc (.cells #[vp, vq] 25)).junk X1).junk X2).heap.size W := by rw [hW]; infer_instance
    haveI bw : Bw w W := by rw [hW]; infer_instance
    have HNW : Hid (NetAt W.heap.size W (.slice a1 n1 c1) (.slice a2 n2 c2) n) := Lib.hid (by rw [hW]; exact HN.out.later Bw.b)
    rw [← hW]
    clear hW HN
    generalize (((w.alloc (.cells #[vp, vq] 25)).junk X1).junk X2).heap.size = bx at *
    have hn2 : 0 < n1 := by have := HGN.out.two; have := HN1.out; omega
    have hn8 : n1 ≤ 8 := by have := HGN.out.few; have := HN1.out; omega
    obtain ⟨k, hk, hk2⟩ := tmodNat (n := n1) HX.out hn2
    have hkl : k < n.nodes.length := by rw [HN1.out]; exact hk2
    obtain ⟨b0, off, rfl, hb0, dn⟩ := nd_cells HNW.out.1 k hkl
    obtain ⟨d0, _, _⟩ := dn k hkl
    haveI l0 : Lo b0 W := ⟨hb0⟩
    have hwx : IntKind.i64.wrap x = x := IntWalk.i64_in _ (by have := HX.out; unfold Byte at this; omega)
    have hwk : IntKind.i64.wrap (k : Int) = (k : Int) := IntWalk.i64_in _ (by omega)
    have hz : ¬(n1 : Int) = 0 := by omega
    have hz0 : ¬n1 = 0 := by omega
    have hk3 : (0 : Int) ≤ (k : Int) := by omega
    have hk4 : (k : Int) < (n1 : Int) := by omega
    have hs := node_at_some hkl
    generalize n.nodes[k]!.id = id at d0 hs
    have HCK : Hid (∀ (w' : World) [Bw W w'], Calls Tryz.prog 29 #[.agg #[.slice (some ⟨b0, off, none⟩) n1 c1, .slice a2 n2 c2], .int .i64 id, .slice al nl cl] w' fun e w2 => e = .returned (.int .i64 (ckLens n (dsN n) id L)) ∧ Below w'.heap.size w' w2) := Lib.hid (fun w' h => checkLengths_q n (dsN n) (dsN_of n) id L _ _ _ w' (later_bw HNW.out) HGN.out.ok (by have := HGN.out.most; omega) ((HV.out.later bw.b).later h.b) (by have := HNL.out; omega))
    have HLL : Hid (∀ (w' : World) [Bw W w'], Calls Tryz.prog 30 #[.agg #[.slice (some ⟨b0, off, none⟩) n1 c1, .slice a2 n2 c2], .int .i64 id] w' fun e w2 => ∃ v, e = .returned v ∧ Ow w'.heap.size w2 3 1 v ((lensN n (dsN n) id).1.map i1) ∧ Below w'.heap.size w' w2) := Lib.hid (fun w' _ => by rw [← lnN_eq HGN.out.ok (dsN_of n) hs]; exact lengthsL_q n id _ _ w' (later_bw HNW.out) HGN.out.ok HGN.out.few)
    have hck := ckLens_yes (ds := dsN n) hs L
    have hle := lens_len (ds := dsN n) hs
    rw [hck] at HCK
    rw [HNL.out, HN1.out] at HCK
    rw [HN1.out] at hle
    generalize (lensN n (dsN n) id).1 = M at HCK HLL hle
    have HS : Hid (∀ (u : Value) (w' : World) [Bw W w'], Sl w'.heap.size w' 1 u (M.map i1) → Calls Tryz.prog 19 #[.slice al nl cl, u] w' fun e w2 => e = .returned (.bool (decide (L = M))) ∧ Below w'.heap.size w' w2) := Lib.hid (fun u w' h hu => sameInts_q L M _ u w' ((HV.out.later bw.b).later h.b) hu (by have := HNL.out; omega) (by omega))
    clear hck hle hs dn hkl
    go_quiet (fail)
    by_cases hnn : nl = n1
    · subst hnn
      have hnn' : ((nl : Int) != (nl : Int)) = false := by simp
      by_cases hLM : L = M
      · rw [if_neg (by simp), if_pos hLM] at HCK
        rw [show decide (L = M) = true by simpa using hLM] at HS
        clear hLM
        go_wp2_with fail
        refine (HLL.out _).mono ?_
        rintro e w5 ⟨v5, rfl, o5, hb5⟩
        obtain ⟨X5, rfl⟩ := below_some hb5
        have HO5 := Lib.hid o5
        obtain ⟨a5, n5, c5, rfl⟩ := o5.val
        clear o5 hb5
        go_wp2_with fail
        refine (jk (HS.out _ _ HO5.out.sl)).mono ?_
        rintro e _ ⟨rfl, X6, rfl⟩
        go_wp2_with fail
        refine (jk (HCK.out _)).mono ?_
        rintro e _ ⟨rfl, X7, rfl⟩
        go_wp2_with fail
        go_ret
        exact ⟨rfl, Bw.b⟩
      · rw [if_neg (by simp), if_neg hLM] at HCK
        rw [show decide (L = M) = false by simpa using hLM] at HS
        clear hLM
        go_wp2_with fail
        refine (HLL.out _).mono ?_
        rintro e w5 ⟨v5, rfl, o5, hb5⟩
        obtain ⟨X5, rfl⟩ := below_some hb5
        have HO5 := Lib.hid o5
        obtain ⟨a5, n5, c5, rfl⟩ := o5.val
        clear o5 hb5
        go_wp2_with fail
        refine (jk (HS.out _ _ HO5.out.sl)).mono ?_
        rintro e _ ⟨rfl, X6, rfl⟩
        go_wp2_with fail
        refine (jk (HCK.out _)).mono ?_
        rintro e _ ⟨rfl, X7, rfl⟩
        go_wp2_with fail
        go_ret
        exact ⟨rfl, Bw.b⟩
    · have hnn' : ((nl : Int) != (n1 : Int)) = true := by simp; omega
      rw [if_pos hnn] at HCK
      go_wp2_with fail
      refine (jk (HCK.out _)).mono ?_
      rintro e _ ⟨rfl, X7, rfl⟩
      go_wp2_with fail
      go_ret
      exact ⟨rfl, Bw.b⟩
end Go.Proofs.YtopfgkbpakfccaaGreatDoor
