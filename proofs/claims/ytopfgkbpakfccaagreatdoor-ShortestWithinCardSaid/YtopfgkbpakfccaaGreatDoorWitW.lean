/-
  The law of nodes within a length, walked.
-/
import Derived.Test.YtopfgkbpakfccaaGreatDoorWinA
import Derived.Test.YtopfgkbpakfccaaGreatDoorLwF
import Derived.Test.YtopfgkbpakfccaaGreatDoorLenW
set_option linter.unusedSimpArgs false
set_option linter.unusedVariables false
namespace Go.Proofs.YtopfgkbpakfccaaGreatDoor
open Go Go.RowKit Go.Vi
attribute [local go_sem ↓] lo_lt lo_ne lo_ne'
attribute [local go_sem] junk_cell junk_frozen junk_setCell junk_drew drew_junk
theorem ds_bd {n : Net} (h : GNet n) {s x d : Int} (hs : (nodeOf n.nodes s).isSome = true) (hd : dsN n s x = some d) : 0 ≤ d ∧ x ∈ idsN n := by
  have hl := ((dsN_of n) (finA n) (finA_of n) s x d).1 hd
  refine ⟨walk_nonneg (fun u g hg => by have := (h.ok.hop (finA_of n) u g hg).1; omega) hl.1, ?_⟩
  have : ∀ {v e : Int}, Walk (finA n) s v e → v ∈ idsN n := fun {v e} hw => by
    cases hw with
    | nil => exact node_ids hs
    | snoc hw hg => exact (hop_ends h.ok (finA_of n) hg).2
  exact this hl.1
/-- The law's list. -/
def wantL (n : Net) (M : List Int) (most : Int) (k : Nat) : List Int := ((List.range k).filter fun i : Nat => decide (0 ≤ M[i]! ∧ M[i]! ≤ most)).map fun i : Nat => (n.nodes[i]!).id
theorem wantL_succ (n : Net) (M : List Int) (most : Int) (k : Nat) : wantL n M most (k + 1) = if 0 ≤ M[k]! ∧ M[k]! ≤ most then wantL n M most k ++ [(n.nodes[k]!).id] else wantL n M most k := by
  unfold wantL
  rw [List.range_succ, List.filter_append, List.map_append]
  by_cases h : 0 ≤ M[k]! ∧ M[k]! ≤ most
  · have e : List.filter (fun i : Nat => decide (0 ≤ M[i]! ∧ M[i]! ≤ most)) [k] = [k] := by rw [List.filter_cons, if_pos (decide_eq_true h)]; rfl
    rw [if_pos h, e]; rfl
  · have e : List.filter (fun i : Nat => decide (0 ≤ M[i]! ∧ M[i]! ≤ most)) [k] = [] := by rw [List.filter_cons, if_neg (fun e => h (of_decide_eq_true e))]; rfl
    rw [if_neg h, e]; exact List.append_nil _
theorem wantL_len (n : Net) (M : List Int) (most : Int) (k : Nat) : (wantL n M most k).length ≤ k := by
  unfold wantL
  rw [List.length_map]
  have := List.length_filter_le (fun i : Nat => decide (0 ≤ M[i]! ∧ M[i]! ≤ most)) (List.range k)
  rwa [List.length_range] at this
theorem within_eq {n : Net} (h : GNet n) {s most : Int} (hs : (nodeOf n.nodes s).isSome = true) {L : List Int} (h1 : L.Pairwise (· ≤ ·)) (h2 : L.Nodup) (h3 : ∀ x, x ∈ L ↔ ∃ d, dsN n s x = some d ∧ d ≤ most) : L = wantL n (lensN n (dsN n) s).1 most n.nodes.length := by
  have hM : ∀ i, i < n.nodes.length → (lensN n (dsN n) s).1[i]! = (dsN n s (n.nodes[i]!).id).getD (-1) := fun i hi => by
    unfold lensN
    rw [if_pos hs]
    rw [getElem!_pos _ i (by simpa using hi), getElem!_pos n.nodes i hi, List.getElem_map]
  have hw1 : (wantL n (lensN n (dsN n) s).1 most n.nodes.length).Pairwise (· < ·) := by
    unfold wantL
    rw [List.pairwise_map]
    have hr : (List.range n.nodes.length).Pairwise (fun i j => (n.nodes[i]!).id < (n.nodes[j]!).id) := by
      have := List.pairwise_lt_range (n := n.nodes.length)
      refine List.Pairwise.imp_of_mem ?_ this
      intro i j _ hj hij
      exact h.ok.nodes i j hij (List.mem_range.1 hj)
    exact List.Pairwise.filter _ hr
  have hmem : ∀ x, x ∈ wantL n (lensN n (dsN n) s).1 most n.nodes.length ↔ ∃ d, dsN n s x = some d ∧ d ≤ most := fun x => by
    unfold wantL
    rw [List.mem_map]
    constructor
    · rintro ⟨i, hi, rfl⟩
      obtain ⟨hi1, hi2⟩ := List.mem_filter.1 hi
      have hi3 := List.mem_range.1 hi1
      rw [decide_eq_true_eq, hM i hi3] at hi2
      cases hd : dsN n s (n.nodes[i]!).id with
      | none => rw [hd] at hi2; simp only [Option.getD_none] at hi2; omega
      | some d => rw [hd] at hi2; exact ⟨d, rfl, hi2.2⟩
    · rintro ⟨d, hd, hd2⟩
      obtain ⟨b1, b2⟩ := ds_bd h hs hd
      obtain ⟨y, hy, e⟩ := List.mem_map.1 b2
      obtain ⟨i, hi, rfl⟩ := List.getElem_of_mem hy
      refine ⟨i, List.mem_filter.2 ⟨List.mem_range.2 hi, ?_⟩, by rw [getElem!_pos n.nodes i hi]; exact e⟩
      rw [decide_eq_true_eq, hM i hi, getElem!_pos n.nodes i hi]
      have e' : (n.nodes[i]).id = x := e
      rw [e', hd]
      exact ⟨b1, hd2⟩
  have hperm : L.Perm (wantL n (lensN n (dsN n) s).1 most n.nodes.length) := (List.perm_ext_iff_of_nodup h2 (hw1.imp (fun h => Int.ne_of_lt h))).2 (fun x => by rw [h3, hmem])
  exact List.Perm.eq_of_pairwise (le := fun a b : Int => a ≤ b) (fun a b _ _ q q' => Int.le_antisymm q q') h1 (hw1.imp (fun h => Int.le_of_lt h)) hperm
set_option maxRecDepth 100000 in
set_option maxHeartbeats 2000000 in
theorem witLaw (P : List Spt) (Q : List Lne) (vp vq : Value) (x most : Int) (w : World) (hX : GrdAt w.heap.size w vp vq P Q) :
    Calls Tryz.prog 13 #[.agg #[vp, vq], .int .i64 x, .int .i64 most] w fun e w' => e = .returned (.bool true) ∧ Below w.heap.size w w' := by
  have HKN := known_bw w
  have HG : Hid (∀ (w' : World) [Bw w w'], Calls Tryz.prog 15 #[.agg #[vp, vq]] w' fun e w2 => (∃ (v1 v2 : Value) (n : Net), e = .returned (.agg #[v1, v2]) ∧ Ow w'.heap.size w2 44 3 v1 (n.nodes.map Nd.cs) ∧ Ow w'.heap.size w2 90 6 v2 (n.roads.map Rd.cs) ∧ GNet n) ∧ Below w'.heap.size w' w2) := Lib.hid (fun w' _ => gnet_q w' (grd_bw hX))
  clear hX
  go_enter Tryz.func13, Tryz.ntmps13
  go_wp2_with fail
  refine (jk (HKN.out _)).mono ?_
  rintro e _ ⟨rfl, X1, rfl⟩
  go_wp2_with fail
  refine (HG.out _).mono ?_
  rintro e w2 ⟨⟨v1, v2, n, rfl, o1, o2, hn⟩, hb2⟩
  obtain ⟨X2, rfl⟩ := below_some hb2
  have HN := Lib.hid (show NetAt _ _ v1 v2 n from ⟨o1.sl, o2.sl⟩)
  have HGN := Lib.hid hn
  obtain ⟨a1, n1, c1, rfl⟩ := o1.val
  obtain ⟨a2, n2, c2, rfl⟩ := o2.val
  clear o1 o2 hb2 hn HG HKN
  go_upto_region 4 with fail
  obtain ⟨W, hW⟩ : ∃ W, W = (((w.alloc (.cells #[vp, vq] 25)).junk X1).junk X2).alloc (.cells #[.slice a1 n1 c1, .slice a2 n2 c2] 30) := ⟨_, rfl⟩
  have n0 : W.cell? ⟨(((w.alloc (.cells #[vp, vq] 25)).junk X1).junk X2).heap.size, 0, none⟩ = some (.slice a1 n1 c1) := by rw [hW]; simp [go_sem]
  have e1 : W.cell? ⟨(((w.alloc (.cells #[vp, vq] 25)).junk X1).junk X2).heap.size, 1, none⟩ = some (.slice a2 n2 c2) := by rw [hW]; simp [go_sem]
  haveI lb : Lo (((w.alloc (.cells #[vp, vq] 25)).junk X1).junk X2).heap.size W := by rw [hW]; infer_instance
  haveI bw : Bw w W := by rw [hW]; infer_instance
  have HNW : Hid (NetAt W.heap.size W (.slice a1 n1 c1) (.slice a2 n2 c2) n) := Lib.hid (by rw [hW]; exact HN.out.later Bw.b)
  rw [← hW]
  clear hW HN
  generalize (((w.alloc (.cells #[vp, vq] 25)).junk X1).junk X2).heap.size = bx at *
  have hnn : n.nodes.length = n1 := by
    have := HNW.out.1.len
    rw [List.length_map] at this
    exact this
  have HNN := Lib.hid hnn
  have hn8 : n1 ≤ 8 := by have := HGN.out.few; omega
  have HIX : Hid (∀ (w' : World) [Bw W w'], Calls Tryz.prog 17 #[.agg #[.slice a1 n1 c1, .slice a2 n2 c2], .int .i64 x] w' fun e w2 => e = .returned (.int .i64 (idxN n x)) ∧ Below w'.heap.size w' w2) := Lib.hid (fun w' _ => index_q n _ _ x w' (later_bw HNW.out) HGN.out.ok)
  have HLL : Hid (∀ (w' : World) [Bw W w'], Calls Tryz.prog 30 #[.agg #[.slice a1 n1 c1, .slice a2 n2 c2], .int .i64 x] w' fun e w2 => ∃ v, e = .returned v ∧ Ow w'.heap.size w2 3 1 v ((lnN n x).map i1) ∧ Below w'.heap.size w' w2) := Lib.hid (fun w' _ => lengthsL_q n x _ _ w' (later_bw HNW.out) HGN.out.ok HGN.out.few)
  go_wp2_with fail
  refine (within_q n (dsN n) (dsN_of n) x most _ _ W HNW.out HGN.out.ok (by have := HGN.out.most; omega) (fun hs y d hd => (ds_bd HGN.out hs hd).2)).mono ?_
  rintro e w3 ⟨vl, L, rfl, ol, hb3, hz, hy⟩
  obtain ⟨X3, rfl⟩ := below_some hb3
  have HOL := Lib.hid ol
  obtain ⟨al, nl, cl, rfl⟩ := ol.val
  clear ol hb3 hnn
  cases hs : (nodeOf n.nodes x).isSome with
  | false =>
    have hi : idxN n x < 0 := by
      have := idx_some (n := n) (x := x)
      rw [hs] at this
      simp at this
      omega
    have hL := hz hs
    subst hL
    have hn0 : nl = 0 := HOL.out.sl.len.symm
    subst hn0
    simp only [Bool.false_eq_true, if_false]
    generalize idxN n x = ix at *
    clear hs HLL hz hy
    go_wp2_with fail
    refine (jk (HIX.out _)).mono ?_
    rintro e _ ⟨rfl, X4, rfl⟩
    go_wp2_with fail
    go_ret
    exact ⟨rfl, Bw.b⟩
  | true =>
    have hi : ¬ idxN n x < 0 := by
      have := (idx_some (n := n) (x := x)).2 hs
      omega
    obtain ⟨y1, y2, y3⟩ := hy hs
    have hLw := within_eq HGN.out hs y1 y2 y3
    have hln := lnN_eq HGN.out.ok (dsN_of n) hs
    have hle : (lensN n (dsN n) x).1.length = n.nodes.length := by unfold lensN; rw [if_pos hs]; simp
    rw [hln] at HLL
    simp only [if_true]
    rw [HNN.out] at hle hLw
    generalize (lensN n (dsN n) x).1 = M at *
    have HLW := Lib.hid hLw
    have HLE := Lib.hid hle
    generalize idxN n x = ix at *
    obtain ⟨i0, hi0, hz0, hz1, hz2⟩ := info_parts iIntT
    clear hs hz hy y1 y2 y3 hLw hle hln
    go_wp2_with fail
    refine (jk (HIX.out _)).mono ?_
    rintro e _ ⟨rfl, X4, rfl⟩
    go_wp2_with fail
    refine (HLL.out _).mono ?_
    rintro e w5 ⟨v5, rfl, o5, hb5⟩
    obtain ⟨X5, rfl⟩ := below_some hb5
    have HO5a := Lib.hid o5
    obtain ⟨a5, n5, c5, rfl⟩ := o5.val
    have hn5 := o5.sl.len
    rw [List.length_map, HLE.out] at hn5
    subst hn5
    clear o5 hb5 HIX HLL
    obtain ⟨W0, hW0⟩ : ∃ W0, W0 = (((W.junk X3).junk X4).junk X5) := ⟨_, rfl⟩
    haveI b0 : Bw W W0 := by rw [hW0]; infer_instance
    haveI bw0 : Bw w W0 := ⟨bw.b.trans (b0.b.mono bw.b.size)⟩
    have HO5 : Hid (Sl W0.heap.size W0 1 (.slice a5 n1 c5) (M.map i1)) := Lib.hid (by rw [hW0]; exact HO5a.out.sl)
    have HOL0 : Hid (Sl W0.heap.size W0 1 (.slice al nl cl) (L.map i1)) := Lib.hid (by rw [hW0]; exact HOL.out.sl.later Bw.b)
    have m0 := (b0.b.cell (p := ⟨bx, 0, none⟩) lb.lt).trans n0
    haveI lb0 : Lo bx W0 := ⟨Nat.lt_of_lt_of_le lb.lt b0.b.size⟩
    have HN0 := Lib.hid (HNW.out.later b0.b)
    rw [← hW0]
    clear hW0 n0 e1 HO5a HOL HNW
    go_wp2_with fail
    go_loopw [11, 12] (fun s11 s12 wr => ∃ k : Nat, s12 = .int .i64 k ∧ k ≤ n1 ∧ Hid (Ow W0.heap.size wr 3 1 s11 ((wantL n M most k).map i1)) ∧ ∃ U, wr = W0.junk U) (fun _ s12 _ => n1 - (intOf s12).toNat)
    case atStart => exact ⟨0, rfl, Nat.zero_le _, Lib.hid (show Ow W0.heap.size _ 3 1 (.slice none 0 0) ((wantL n M most 0).map i1) from Ow.nil _ _ _ _), by with_reducible exact ex_junk⟩
    case round =>
      obtain ⟨k, rfl, hk, HO, U, rfl⟩ := hrel
      obtain ⟨aw, nw, cw, hvw⟩ := HO.out.val
      subst hvw
      by_cases hlt : k < n1
      · obtain ⟨bn, off, rfl, hbn, dn⟩ := nd_cells HN0.out.1 k (by rw [HNN.out]; exact hlt)
        obtain ⟨d0, _, _⟩ := dn k (by rw [HNN.out]; exact hlt)
        obtain ⟨bm, off5, rfl, hbm, m5⟩ := HO5.out.at k (by rw [List.length_map, HLE.out]; exact hlt)
        have mk0 := m5 k (by rw [List.length_map, HLE.out]; exact hlt) 0 (.int .i64 M[k]!) (by simp [i1, getElem!_pos M k (by rw [HLE.out]; exact hlt)])
        simp only [Nat.mul_one, Nat.add_zero] at mk0
        haveI lbn : Lo bn W0 := ⟨hbn⟩
        haveI lbm : Lo bm W0 := ⟨hbm⟩
        have HSUC := Lib.hid (wantL_succ n M most k)
        have HLEW := Lib.hid (wantL_len n M most k)
        generalize wantL n M most k = Wk at *
        generalize M[k]! = mk at *
        generalize (n.nodes[k]!).id = id at *
        clear dn m5
        by_cases h0 : 0 ≤ mk
        · by_cases h1 : mk ≤ most
          · go_wp2_with (at_builtin; go_loud (refine ap1 (by rfl) _ _ _ (by rfl) uInts hi0 hz0 hz1 hz2 rfl (by decide) (fun _ => rfl) (base := W0.heap.size) (cs := i1) (L := Wk) (HO.out.keep Bw.b) (by rfl) id _ (by rfl) (obj_last _ _) (i1_one _) (by have := HLEW.out; omega) (by decide) Bw.b.size ?_; intro g cap w5 own5 hb5 hg5 hl5 hc5 hm5; obtain ⟨U5, rfl⟩ := bj (W := W0) hb5; clear hb5))
            go_roundw
            case rel => exact ⟨k + 1, by go_num, by omega, Lib.hid (by rw [HSUC.out, if_pos ⟨h0, h1⟩]; exact own5), by with_reducible exact ex_junk⟩
            case measure => simp [intOf]; omega
          · go_wp2_with fail
            go_roundw
            case rel => exact ⟨k + 1, by go_num, by omega, Lib.hid (by rw [HSUC.out, if_neg (fun h => h1 h.2)]; exact HO.out), by with_reducible exact ex_junk⟩
            case measure => simp [intOf]; omega
        · go_wp2_with fail
          go_roundw
          case rel => exact ⟨k + 1, by go_num, by omega, Lib.hid (by rw [HSUC.out, if_neg (fun h => h0 h.1)]; exact HO.out), by with_reducible exact ex_junk⟩
          case measure => simp [intOf]; omega
      · obtain rfl : k = n1 := by omega
        have hl8 := wantL_len n M most k
        have HSM : Hid (∀ (w' : World) [Bw (W0.junk U) w'], Calls Tryz.prog 19 #[.slice al nl cl, .slice aw nw cw] w' fun e w2 => e = .returned (.bool true) ∧ Below w'.heap.size w' w2) := Lib.hid (fun w' hw => by
          have h1 := (HOL0.out.later (Bw.b : Below W0.heap.size W0 (W0.junk U))).later hw.b
          have h2 := HO.out.sl.later hw.b
          rw [HLW.out] at h1
          have := sameInts_q (wantL n M most k) (wantL n M most k) _ _ w' h1 h2 (by omega) (by omega)
          simpa using this)
        clear HLW HO
        go_wp2_with fail
        refine (jk (HSM.out _)).mono ?_
        rintro e _ ⟨rfl, X9, rfl⟩
        go_wp2_with fail
        go_ret
        exact ⟨rfl, Bw.b⟩
end Go.Proofs.YtopfgkbpakfccaaGreatDoor
