/-
  The laws' own functions: index.
  CheckLengths, exactly.
-/
import Derived.Test.YtopfgkbpakfccaaGreatDoorShoL
set_option linter.unusedSimpArgs false
set_option linter.unusedVariables false
namespace Go.Proofs.YtopfgkbpakfccaaGreatDoor
open Go Go.RowKit Go.Vi
attribute [local go_sem ↓] lo_lt lo_ne lo_ne'
attribute [local go_sem] junk_cell junk_frozen junk_setCell junk_drew drew_junk
/-- The place of a node in the list, from k on. -/
def idxL (x : Int) : List Nd → Nat → Int
  | [], _ => -1
  | y :: l, k => if y.id = x then (k : Int) else idxL x l (k + 1)
def idxN (n : Net) (x : Int) : Int := idxL x n.nodes 0
theorem idxL_drop (x : Int) (L : List Nd) (k : Nat) (h : k < L.length) : idxL x (L.drop k) k = if L[k]!.id = x then (k : Int) else idxL x (L.drop (k + 1)) (k + 1) := by
  rw [List.drop_eq_getElem_cons h, getElem!_pos L k h]
  rfl
set_option maxHeartbeats 1000000 in
theorem index_q (n : Net) (v1 v2 : Value) (x : Int) (w : World) (hN : NetAt w.heap.size w v1 v2 n) (hK : NetOK n) :
    Calls Tryz.prog 17 #[.agg #[v1, v2], .int .i64 x] w fun e w' => e = .returned (.int .i64 (idxN n x)) ∧ Below w.heap.size w w' := by
  obtain ⟨an, nn, cn, rfl, hn, hn1, hn2⟩ := hN.1.open
  rw [List.length_map] at hn
  have hnf : nn ≤ 1000000 := by rw [← hn]; have := hK.few; omega
  have HNN := Lib.hid hn
  have HN1 := Lib.hid hN.1
  obtain ⟨out, hout⟩ : ∃ o, idxN n x = o := ⟨_, rfl⟩
  rw [hout]
  have HT : Hid (idxL x (n.nodes.drop 0) 0 = out) := Lib.hid hout
  clear hout hn hn1 hn2 hN hK
  go_enter Tryz.func17, Tryz.ntmps17
  go_wp2_with fail
  obtain ⟨W0, hW0⟩ : ∃ W0, W0 = w.alloc (.cells #[.slice an nn cn, v2] 30) := ⟨_, rfl⟩
  have n0 : W0.cell? ⟨w.heap.size, 0, none⟩ = some (.slice an nn cn) := by rw [hW0]; simp [go_sem]
  haveI l0 : Lo w.heap.size W0 := by rw [hW0]; infer_instance
  haveI bw : Bw w W0 := by rw [hW0]; infer_instance
  rw [← hW0]
  clear hW0
  go_loop [5] (fun s5 => ∃ k : Nat, s5 = .int .i64 k ∧ k ≤ nn ∧ Hid (idxL x (n.nodes.drop k) k = out)) (fun s5 => nn - (intOf s5).toNat)
  case atStart => exact ⟨0, rfl, Nat.zero_le _, HT⟩
  case round =>
    obtain ⟨k, rfl, hk, HF⟩ := hrel
    by_cases hlt : k < nn
    · obtain ⟨bn, off, rfl, hbn, dn⟩ := nd_cells HN1.out k (by rw [HNN.out]; exact hlt)
      obtain ⟨d0, _, _⟩ := dn k (by rw [HNN.out]; exact hlt)
      haveI ln : Lo bn W0 := ⟨Nat.lt_of_lt_of_le hbn bw.b.size⟩
      rw [← bw.b.cell (p := ⟨bn, _, none⟩) hbn] at d0
      have HD := Lib.hid (idxL_drop x n.nodes k (by rw [HNN.out]; exact hlt))
      rw [HF.out] at HD
      generalize n.nodes[k]! = y at d0 HD
      clear dn
      by_cases hx : y.id = x
      · have hx' : (y.id == x) = true := by simpa using hx
        rw [if_pos hx] at HD
        go_wp2_with fail
        go_ret
        exact ⟨by rw [HD.out]; rfl, Bw.b⟩
      · have hx' : (y.id == x) = false := by simpa using hx
        rw [if_neg hx] at HD
        go_wp2_with fail
        go_round
        case rel => exact ⟨k + 1, by go_num, by omega, Lib.hid HD.out.symm⟩
        case measure => simp [intOf]; omega
    · obtain rfl : k = nn := by omega
      have e : out = -1 := by rw [← HF.out, List.drop_eq_nil_of_le (by rw [HNN.out]; exact Nat.le_refl _)]; rfl
      subst e
      go_wp2_with fail
      go_ret
      exact ⟨rfl, Bw.b⟩
theorem idxL_nonneg (x : Int) : ∀ (L : List Nd) (k : Nat), (0 ≤ idxL x L k) ↔ (L.any fun y => y.id == x) = true
  | [], k => by simp [idxL]
  | y :: l, k => by
    unfold idxL
    by_cases h : y.id = x
    · rw [if_pos h]; simp [h]
    · rw [if_neg h, idxL_nonneg x l (k + 1)]; simp [h]
end Go.Proofs.YtopfgkbpakfccaaGreatDoor
namespace Go.Proofs.YtopfgkbpakfccaaGreatDoor
open Go Go.RowKit Go.Vi
attribute [local go_sem ↓] lo_lt lo_ne lo_ne'
attribute [local go_sem] junk_cell junk_frozen junk_setCell junk_drew drew_junk
theorem list_drop_eq (L M : List Int) (k : Nat) (h1 : k < L.length) (h2 : k < M.length) : (decide (L.drop k = M.drop k)) = (decide (L[k]! = M[k]!) && decide (L.drop (k + 1) = M.drop (k + 1))) := by
  rw [List.drop_eq_getElem_cons h1, List.drop_eq_getElem_cons h2, getElem!_pos L k h1, getElem!_pos M k h2]
  simp only [List.cons.injEq, Bool.decide_and]
set_option maxHeartbeats 1000000 in
theorem equal_q (L M : List Int) (u v : Value) (w : World) (hu : Sl w.heap.size w 1 u (L.map i1)) (hv : Sl w.heap.size w 1 v (M.map i1)) (hl : L.length ≤ 1000000) (hm : M.length = L.length) :
    Calls Tryz.prog 70 #[u, v] w fun e w' => e = .returned (.bool (decide (L = M))) ∧ Below w.heap.size w w' := by
  obtain ⟨a1, n1, c1, rfl, hn1, hk1, hm1⟩ := hu.open
  obtain ⟨a2, n2, c2, rfl, hn2, hk2, hm2⟩ := hv.open
  rw [List.length_map] at hn1 hn2
  obtain rfl : n2 = n1 := by omega
  have HU := Lib.hid hu
  have HV := Lib.hid hv
  have H1 := Lib.hid hn1
  have H2 := Lib.hid hn2
  have hb1 : n2 ≤ 1000000 := by rw [← hn1]; exact hl
  obtain ⟨out, hout⟩ : ∃ o, decide (L = M) = o := ⟨_, rfl⟩
  rw [hout]
  have HT : Hid (decide (L.drop 0 = M.drop 0) = out) := Lib.hid hout
  clear hu hv hl hm hn1 hn2 hm1 hm2 hout
  go_enter Tryz.func70, Tryz.ntmps70
  go_wp2_with fail
  go_loopw [13] (fun s13 wr => ∃ k : Nat, s13 = .int .i64 k ∧ k ≤ n2 ∧ Hid (decide (L.drop k = M.drop k) = out) ∧ ∃ U, wr = w.junk U) (fun s13 _ => n2 - (intOf s13).toNat)
  case atStart => exact ⟨0, rfl, Nat.zero_le _, HT, below_some (Below.refl _ _)⟩
  case round =>
    obtain ⟨k, rfl, hk, HF, U, rfl⟩ := hrel
    by_cases h1 : k < n2
    · have hkl : k < L.length := by rw [H1.out]; exact h1
      have hkm : k < M.length := by rw [H2.out]; exact h1
      obtain ⟨b, off, rfl, hb, d⟩ := int_cells HU.out k hkl
      have d0 := d k hkl
      obtain ⟨b2, off2, rfl, hb2, g⟩ := int_cells HV.out k hkm
      have g0 := g k hkm
      haveI lb : Lo b w := ⟨hb⟩
      haveI lb2 : Lo b2 w := ⟨hb2⟩
      have HD := Lib.hid (list_drop_eq L M k hkl hkm)
      rw [HF.out] at HD
      generalize L[k]! = x at d0 HD
      generalize M[k]! = y at g0 HD
      clear d g
      by_cases hc : x = y
      · subst hc
        have HF2 : Hid (decide (L.drop (k + 1) = M.drop (k + 1)) = out) := Lib.hid (by rw [HD.out]; simp)
        clear HD HF
        go_wp2_with fail
        go_quiet (fail)
        go_wp2_with fail
        go_roundw
        case rel => exact ⟨k + 1, by go_num, by omega, HF2, by with_reducible exact ex_junk⟩
        case measure => simp [intOf]; omega
      · have hcb : (x != y) = true := by simpa using hc
        have ho : out = false := by rw [HD.out]; simp [hc]
        subst ho
        go_wp2_with fail
        go_quiet (fail)
        go_wp2_with fail
        go_ret
        exact ⟨rfl, Bw.b⟩
    · obtain rfl : k = n2 := by omega
      have ho : out = true := by rw [← HF.out, List.drop_eq_nil_of_le (by rw [H1.out]; exact Nat.le_refl _), List.drop_eq_nil_of_le (by rw [H2.out]; exact Nat.le_refl _)]; simp
      subst ho
      go_wp2_with fail
      go_ret
      exact ⟨rfl, Bw.b⟩
/-- CheckLengths: the error. -/
def ckLens (n : Net) (ds : Int → Int → Option Int) (s : Int) (L : List Int) : Int := if (lensN n ds s).2 ≠ 0 then (lensN n ds s).2 else if L.length ≠ (lensN n ds s).1.length then 12 else if L = (lensN n ds s).1 then 0 else 30
set_option maxHeartbeats 1000000 in
theorem checkLengths_q (n : Net) (ds : Int → Int → Option Int) (hds : DsOf n ds) (s : Int) (L : List Int) (v1 v2 u : Value) (w : World) (hN : NetAt w.heap.size w v1 v2 n) (hK : NetOK n) (hsz : n.roads.length ≤ 100) (hu : Sl w.heap.size w 1 u (L.map i1)) (hl : L.length ≤ 1000000) :
    Calls Tryz.prog 29 #[.agg #[v1, v2], .int .i64 s, u] w fun e w' => e = .returned (.int .i64 (ckLens n ds s L)) ∧ Below w.heap.size w w' := by
  have HL : Hid (∀ (w' : World) [Bw w w'], Calls Tryz.prog 28 #[.agg #[v1, v2], .int .i64 s] w' (LsOut (lensN n ds s).1 (lensN n ds s).2 w')) := Lib.hid (fun w' _ => lengths_q n ds hds s v1 v2 w' (later_bw hN) hK hsz)
  have HU := Lib.hid hu
  obtain ⟨a1, n1, c1, rfl, hn1, _⟩ := hu.open
  rw [List.length_map] at hn1
  obtain ⟨out, hout⟩ : ∃ o, ckLens n ds s L = o := ⟨_, rfl⟩
  rw [hout]
  unfold ckLens at hout
  generalize (lensN n ds s).1 = M at HL hout
  generalize (lensN n ds s).2 = c at HL hout
  have HT := Lib.hid hout
  have HH := Lib.hid hl
  have H1 := Lib.hid hn1
  clear hout hu hN hK hds hsz hl hn1
  go_enter Tryz.func29, Tryz.ntmps29
  go_wp2_with fail
  refine (HL.out _).mono ?_
  rintro e w2 ⟨v, rfl, ho, hb⟩
  obtain ⟨X, rfl⟩ := below_some hb
  obtain ⟨a2, n2, c2, rfl, hn2, _⟩ := ho.sl.open
  rw [List.length_map] at hn2
  have H2 := Lib.hid hn2
  have HO := Lib.hid ho.sl
  clear ho hb HL hn2
  by_cases hc : c = 0
  · subst hc
    by_cases hl : n1 = n2
    · subst hl
      have hlm : M.length = L.length := by rw [H1.out, H2.out]
      have HE : Hid (∀ (w' : World) [Bw ((w.alloc (.cells #[v1, v2] 30)).junk X) w'], Calls Tryz.prog 70 #[.slice a1 n1 c1, .slice a2 n1 c2] w' fun e w2 => e = .returned (.bool (decide (L = M))) ∧ Below w'.heap.size w' w2) := Lib.hid (fun w' hw => equal_q L M _ _ w' ((HU.out.later (by exact Bw.b)).later hw.b) (HO.out.later hw.b) HH.out hlm)
      have HT2 := HT.out
      rw [if_neg (by simp), if_neg (by rw [hlm]; simp)] at HT2
      clear hlm
      by_cases hd : L = M
      · have hd' : decide (L = M) = true := by simpa using hd
        rw [if_pos hd] at HT2
        rw [hd'] at HE
        clear hd hd'
        go_wp2_with fail
        refine (jk (HE.out _)).mono ?_
        rintro e _ ⟨rfl, X2, rfl⟩
        go_wp2_with fail
        go_ret
        exact ⟨by rw [← HT2]; rfl, Bw.b⟩
      · have hd' : decide (L = M) = false := by simpa using hd
        rw [if_neg hd] at HT2
        rw [hd'] at HE
        clear hd hd'
        go_wp2_with fail
        refine (jk (HE.out _)).mono ?_
        rintro e _ ⟨rfl, X2, rfl⟩
        go_wp2_with fail
        go_ret
        exact ⟨by rw [← HT2]; rfl, Bw.b⟩
    · have HT2 := HT.out
      rw [if_neg (by simp), if_pos (by rw [H1.out, H2.out]; exact hl)] at HT2
      have hl' : ((n1 : Int) != (n2 : Int)) = true := by simp; omega
      go_wp2_with fail
      go_ret
      exact ⟨by rw [← HT2]; rfl, Bw.b⟩
  · have hc' : (c != 0) = true := by simpa using hc
    have HT2 := HT.out
    rw [if_pos hc] at HT2
    go_wp2_with fail
    go_ret
    exact ⟨by rw [← HT2]; rfl, Bw.b⟩
end Go.Proofs.YtopfgkbpakfccaaGreatDoor
