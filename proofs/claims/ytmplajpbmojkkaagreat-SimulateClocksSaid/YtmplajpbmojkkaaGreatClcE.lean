/-
  The graph of a component in which all exchanges lie.
-/
import Derived.Test.YtmplajpbmojkkaaGreatClcD
set_option linter.unusedSimpArgs false
set_option linter.unusedVariables false
namespace Go.Proofs.YtmplajpbmojkkaaGreat
open Go Go.RowKit Go.Vi
attribute [local go_sem ↓] lo_lt lo_ne lo_ne'
attribute [local go_sem] junk_cell junk_frozen junk_setCell junk_drew drew_junk
theorem bs_q (c : List Int) (v : Value) (t : Int) (w : World) (hv : Sl w.heap.size w 1 v (c.map i1)) (hP : c.Pairwise (· < ·)) (hm : c.length ≤ 1000000) :
    Calls Tryz.prog 38 #[v, .int .i64 t] w fun e w' => (∃ i : Nat, e = .returned (.tuple #[.int .i64 i, .bool (decide (t ∈ c))])) ∧ Below w.heap.size w w' := by
  obtain ⟨a, n, cap, rfl, hn, _, _⟩ := hv.open
  rw [List.length_map] at hn
  have hs : ∀ i j, i ≤ j → j < n → c[i]! ≤ c[j]! := by
    intro i j h1 h2
    have hj : j < c.length := by omega
    have hi : i < c.length := by omega
    rw [getElem!_pos c i hi, getElem!_pos c j hj]
    rcases Nat.lt_or_eq_of_le h1 with h | h
    · exact Int.le_of_lt (List.pairwise_iff_getElem.1 hP i j hi hj h)
    · subst h; exact Int.le_refl _
  refine (bsInt_any c a n cap t w hn hv (by omega) hs).mono ?_
  rintro e w' ⟨⟨i, b, h1, h2, h3, h4, rfl⟩, hB⟩
  refine ⟨⟨i, ?_⟩, hB⟩
  have e : b = decide (t ∈ c) := by
    by_cases ht : t ∈ c
    · rw [decide_eq_true ht, h4]
      obtain ⟨j, hj, he⟩ := List.getElem_of_mem ht
      have hj2 : c[j]! = t := by rw [getElem!_pos c j hj]; exact he
      have hij : i ≤ j := by
        rcases Nat.lt_or_ge j i with h | h
        · have := h2 j h
          simp only at this
          omega
        · exact h
      have hin : i < n := by omega
      have q1 := h3 i (Nat.le_refl _) hin
      have q2 := hs i j hij (by omega)
      exact ⟨hin, by simp only at q1 ⊢; omega⟩
    · rw [decide_eq_false ht]
      cases b with
      | false => rfl
      | true =>
        obtain ⟨g1, g2⟩ := h4.1 rfl
        exfalso
        apply ht
        rw [← g2]
        simp only
        rw [getElem!_pos c i (by omega)]
        exact List.getElem_mem _
  rw [e]
/-- All the indices. -/
def allI (n : Nat) : List Int := (List.range n).map Int.ofNat
theorem allI_len (n : Nat) : (allI n).length = n := by simp [allI]
theorem allI_succ (n : Nat) : allI (n + 1) = allI n ++ [(n : Int)] := by simp [allI, List.range_succ]
theorem allI_at {n k : Nat} (h : k < n) : (allI n)[k]! = (k : Int) := by
  rw [getElem!_pos (allI n) k (by rw [allI_len]; exact h)]
  simp [allI]
def PartOut (L : List Exc) (d : Int) (v : Value) (w : World) (e : Ending) (w' : World) : Prop := ∃ (vs : Value) (c : List Int), e = .returned (.agg #[v, vs, .int .i64 c.length]) ∧ Ow w.heap.size w' 3 1 vs ((allI L.length).map i1) ∧ c.Pairwise (· < ·) ∧ IsComp L d c ∧ c.length ≤ 201 ∧ Below w.heap.size w w'
set_option maxRecDepth 100000 in
set_option maxHeartbeats 4000000 in
theorem part_q (L : List Exc) (d : Int) (v : Value) (w : World) (hv : Sl w.heap.size w 5 v (L.map Exc.cs)) (hL : ∀ x ∈ L, ExOK x) (hm : L.length ≤ 100) (hd : I64 d) (hall : ∀ c, IsComp L d c → ∀ e ∈ L, e.frm ∈ c) :
    Calls Tryz.prog 41 #[v, .int .i64 d] w (PartOut L d v w) := by
  have HCO := Lib.hid (fun (w' : World) (h : Bw w w') => component_q L d v w' (hv.later h.b) hL hm hd)
  obtain ⟨a, n, cap, rfl, hn, _, _⟩ := hv.open
  rw [List.length_map] at hn
  have HV := Lib.hid hv
  have HN := Lib.hid hn
  have HALL := Lib.hid hall
  have hn100 : n ≤ 100 := by omega
  obtain ⟨i0, hi, hz0, hz1, hz2⟩ := info_parts iIntT
  clear hv hL hm hn hd hall
  go_enter Tryz.func41, Tryz.ntmps41
  go_wp2_with fail
  refine (HCO.out _ inferInstance).mono ?_
  rintro e w1 ⟨⟨v5, c, rfl, ho, hP, hC, hc⟩, hB⟩
  obtain ⟨a5, n5, c5, rfl⟩ := ho.val
  have hn5 := ho.sl.len
  rw [List.length_map] at hn5
  obtain ⟨X1, rfl⟩ := below_some hB
  have HCM := Lib.hid (HALL.out c hC)
  have HP := Lib.hid hP
  have HC := Lib.hid hC
  have HC201 := Lib.hid hc
  have HN5 := Lib.hid hn5
  have hn201 : n5 ≤ 201 := by omega
  have HO := Lib.hid ho
  clear hB hP hC hc ho HCO HALL hn5
  go_wp2_with fail
  obtain ⟨W1, hW1⟩ : ∃ W1, W1 = (((w.alloc (.cells #[.slice none 0 0, .slice none 0 0, .int .i64 0] 125)).junk X1)) := ⟨_, rfl⟩
  obtain ⟨V, hV⟩ : ∃ V, V = (W1.alloc (.cells #[.slice a n cap, .slice none 0 0, .int .i64 n5] 125)) := ⟨_, rfl⟩
  have HG0 : Hid (V.heap[W1.heap.size]? = some (.cells #[.slice a n cap, .slice none 0 0, .int .i64 n5] 125 (0, 0))) := Lib.hid (by rw [hV]; exact obj_last _ _)
  have HR0 : Hid (V.heap[w.heap.size]? = some (.cells #[.slice none 0 0, .slice none 0 0, .int .i64 0] 125 (0, 0))) := Lib.hid (by rw [hV, hW1]; exact obj_old (obj_junk (obj_last _ _)))
  haveI bV : Bw w V := by rw [hV, hW1]; infer_instance
  have HCV : Hid (Sl W1.heap.size V 1 (.slice a5 n5 c5) (c.map i1)) := Lib.hid (by rw [hV, hW1]; exact (HO.out.sl.keep ((Below.refl _ _).alloc (Nat.le_refl _) _) (Nat.le_refl _)))
  have hwW : w.heap.size < W1.heap.size := by rw [hW1]; have := (junk_below (w.alloc (.cells #[.slice none 0 0, .slice none 0 0, .int .i64 0] 125)) X1).size; simp at this; omega
  have hWV : W1.heap.size < V.heap.size := by rw [hV]; simp
  rw [← hW1, ← hV]
  clear hV hW1 HO
  generalize W1.heap.size = b6 at *
  go_loopw [20] (fun s20 wr => ∃ (k : Nat) (vs : Value), s20 = .int .i64 k ∧ k ≤ n ∧ Hid (wr.heap[b6]? = some (.cells #[.slice a n cap, vs, .int .i64 n5] 125 (0, 0))) ∧ Hid (Ow (b6 + 1) wr 3 1 vs ((allI k).map i1)) ∧ Hid (Below b6 V wr)) (fun s20 _ => n - (intOf s20).toNat)
  case atStart => exact ⟨0, _, rfl, Nat.zero_le _, HG0, Lib.hid (Ow.nil _ _ _ _), Lib.hid (Below.refl _ _)⟩
  case round =>
    obtain ⟨k, vs, rfl, hk, HG, HO, HBV⟩ := hrel
    have hzr := HBV.out.size
    haveI bwr : Bw w wr := ⟨bV.b.trans (HBV.out.mono (by omega))⟩
    obtain ⟨av, nv, cv, rfl⟩ := HO.out.val
    have g0 := obj_cell HG.out 0
    have g1 := obj_cell HG.out 1
    have g2 := obj_cell HG.out 2
    have gf1 := obj_free HG.out 1
    simp at g0 g1 g2
    haveI l6 : Lo b6 wr := ⟨by omega⟩
    have HR : Hid (wr.heap[w.heap.size]? = some (.cells #[.slice none 0 0, .slice none 0 0, .int .i64 0] 125 (0, 0))) := Lib.hid (by rw [HBV.out.block _ hwW]; exact HR0.out)
    by_cases hlt : k < n
    · have hkl : k < L.length := by rw [HN.out]; exact hlt
      obtain ⟨b, off, rfl, hb, c0, c1, c2, c3, c4⟩ := ex_cells HV.out k hkl
      haveI lb : Lo b w := ⟨hb⟩
      rw [← bwr.b.cell (p := ⟨b, _, none⟩) hb] at c0 c1 c2 c3 c4
      haveI lbr : Lo b wr := ⟨Nat.lt_of_lt_of_le hb bwr.b.size⟩
      have hmem : L[k]! ∈ L := by rw [getElem!_pos L k hkl]; exact List.getElem_mem hkl
      have hin := HCM.out _ hmem
      generalize L[k]! = x at *
      have HBS : Hid (∀ w', Below b6 V w' → Calls _ _ _ w' _) := Lib.hid (fun w' hb => bs_q c (.slice a5 n5 c5) x.frm w' ((HCV.out.keep hb (Nat.le_refl _)).mono (by have := hb.size; omega)) HP.out (by have := HC201.out; omega))
      rw [decide_eq_true hin] at HBS
      clear hin hmem
      have h61 : b6 + 1 ≤ wr.heap.size := by omega
      go_wp2_with fail
      refine (HBS.out _ ?hb).mono ?_
      case hb => exact HBV.out.trans ((show Below wr.heap.size wr _ from Bw.b).mono (by omega))
      rintro e w2 ⟨⟨i, rfl⟩, hb2⟩
      obtain ⟨X2, rfl⟩ := below_some hb2
      clear hb2 HBS
      go_wp2_with (at_builtin; go_loud (refine ap2 (by rfl) _ _ _ (by rfl) uInts hi hz0 hz1 hz2 rfl (by decide) (fun _ => rfl) (base := b6 + 1) (cs := i1) (L := allI k) (HO.out.keep Bw.b) (by rfl) (k : Int) _ (by rfl) (obj_last _ _) (i1_one _) (by rw [allI_len]; omega) (by decide) (Nat.le_trans h61 (Bw.b (w := wr)).size) ?_; intro g8 cap8 w8 own8 hb8 hgr8 hg8 hl8 hc8 hm8; have HG8 := Lib.hid (keepBlk (HO.out.keep Bw.b) hgr8 (keepObj Bw.b HG.out) (by decide)); have HO8 := Lib.hid own8; have HW8 : Hid (Below b6 V w8) := Lib.hid ((HBV.out.trans ((Bw.b (w := wr)).mono (Nat.le_of_succ_le h61))).trans (hb8.mono (by omega))); have hcc := obj_cell HG8.out 1; have hff := obj_free HG8.out 1; simp at hcc; clear hb8 hgr8 own8))
      go_roundw
      case rel =>
        refine ⟨k + 1, .slice (some ⟨g8, 0, none⟩) ((allI k).length + 1) cap8, by go_num, by omega, Lib.hid (by rw [obj_set HG8.out]; simp), Lib.hid ?_, Lib.hid (HW8.out.setCell (Nat.le_refl _) _)⟩
        rw [allI_succ]
        have q := HO8.out.keepSet ⟨b6, 1, none⟩ (fun e => absurd (HO8.out.type _ e _ _ _ HG8.out) (by decide)) (.slice (some ⟨g8, 0, none⟩) ((allI k).length + 1) cap8)
        exact q
      case measure => simp [intOf]; omega
    · obtain rfl : k = n := by omega
      have r0 := obj_cell HR.out 0
      have r1 := obj_cell HR.out 1
      have r2 := obj_cell HR.out 2
      have rf0 := obj_free HR.out 0
      have rf1 := obj_free HR.out 1
      have rf2 := obj_free HR.out 2
      simp at r0 r1 r2
      haveI lw : Lo w.heap.size wr := ⟨by omega⟩
      have hne : ¬ w.heap.size = b6 := by omega
      have hne2 : ¬ b6 = w.heap.size := by omega
      go_wp2_with fail
      refine bodyPost_ret (v := .agg #[.slice a k cap, .slice av nv cv, .int .i64 n5]) (by simp [results, Tryz.results41, go_sem, r0, r1, r2, rf0, rf1, rf2]) rfl ?_
      refine ⟨.slice av nv cv, c, by rw [HN5.out], ?_, HP.out, HC.out, HC201.out, ?_⟩
      · have q := ((((HO.out.keepSet ⟨w.heap.size, 0, none⟩ (fun e => absurd (HO.out.type _ e _ _ _ HR.out) (by decide)) (.slice a k cap)).keepSet ⟨w.heap.size, 1, none⟩ (fun e => absurd (HO.out.type _ e _ _ _ HR.out) (by decide)) (.slice av nv cv))).keepSet ⟨w.heap.size, 2, none⟩ (fun e => absurd (HO.out.type _ e _ _ _ HR.out) (by decide)) (.int .i64 n5)).mono (B' := w.heap.size) (by omega)
        rw [HN.out]
        exact q
      · exact ((bwr.b.setCell (Nat.le_refl _) _).setCell (Nat.le_refl _) _).setCell (Nat.le_refl _) _
end Go.Proofs.YtmplajpbmojkkaaGreat
