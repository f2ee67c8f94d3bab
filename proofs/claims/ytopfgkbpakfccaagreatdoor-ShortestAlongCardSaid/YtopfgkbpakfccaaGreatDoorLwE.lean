/-
  The law's lengths, walked.
-/
import Derived.Test.YtopfgkbpakfccaaGreatDoorLwD
import Derived.Test.YtopfgkbpakfccaaGreatDoorNetP
import Derived.Test.YtopfgkbpakfccaaGreatDoorJnkA
import Derived.OwnWalk
import Derived.Laws.OwnMore
import Derived.Deep.DeepCutAuto
import Derived.Deep.CutBlock
set_option linter.unusedSimpArgs false
set_option linter.unusedVariables false
namespace Go.Proofs.YtopfgkbpakfccaaGreatDoor
open Go Go.RowKit Go.Vi
attribute [local go_sem ↓] lo_lt lo_ne lo_ne'
attribute [local go_sem] junk_cell junk_frozen junk_setCell junk_drew drew_junk
theorem ow_i1 {B e g n cap : Nat} {w : World} {L : List Int} (h : Ow B w e 1 (.slice (some ⟨g, 0, none⟩) n cap) (L.map i1)) {k : Nat} (hk : k < L.length) : w.cell? ⟨g, k, none⟩ = some (.int .i64 L[k]!) := by
  have := h.cell k (by simpa using hk) 0 (by omega)
  simp only [Nat.mul_one, Nat.add_zero, List.getElem_map, i1] at this
  rw [getElem!_pos L k hk]
  exact this
theorem ow_i1_set {B e g n cap : Nat} {w : World} {L : List Int} (h : Ow B w e 1 (.slice (some ⟨g, 0, none⟩) n cap) (L.map i1)) {k : Nat} (hk : k < L.length) (v : Int) : Ow B (w.setCell ⟨g, k, none⟩ (.int .i64 v)) e 1 (.slice (some ⟨g, 0, none⟩) n cap) ((L.set k v).map i1) := by
  have := h.store k (by simpa using hk) 0 (by omega) (.int .i64 v)
  simp only [Nat.mul_one, Nat.add_zero, List.getElem_map, i1, List.set_cons_zero] at this
  rw [List.map_set]
  exact this
theorem bw_set {W X : World} [h : Bw W X] {g k : Nat} {v : Value} (hg : W.heap.size ≤ g) : Bw W (X.setCell ⟨g, k, none⟩ v) := ⟨h.b.setCell hg v⟩
/-- The hop's length. -/
def hpN (n : Net) (a b : Int) : Option Int := if (hopN n a b).ok then some (hopN n a b).len else none
def idsN (n : Net) : List Int := n.nodes.map Nd.id
def lnN (n : Net) (s : Int) : List Int := lnL (hpN n) (idsN n) s
theorem idsN_at (n : Net) {k : Nat} (h : k < n.nodes.length) : (idsN n)[k]! = (n.nodes[k]!).id := by
  unfold idsN
  rw [getElem!_pos (n.nodes.map Nd.id) k (by simpa using h), List.getElem_map, getElem!_pos n.nodes k h]
theorem idsN_len (n : Net) : (idsN n).length = n.nodes.length := by simp [idsN]
theorem startL_at (ids : List Int) (s : Int) {k : Nat} (h : k < ids.length) : (startL ids s)[k]! = if ids[k]! = s then 0 else -1 := by
  unfold startL
  rw [getElem!_pos (ids.map _) k (by simpa using h), List.getElem_map, getElem!_pos ids k h]
def BdL (C : Int) (L : List Int) : Prop := ∀ k : Nat, -1 ≤ L[k]! ∧ L[k]! ≤ C
theorem relax_eq (n : Net) (i k : Nat) (L : List Int) {a b : Int} (ha : (idsN n)[i]! = a) (hb : (idsN n)[k]! = b) : relaxL (hpN n) (idsN n) i L k = if (hopN n a b).ok = true ∧ 0 ≤ L[i]! ∧ (L[k]! < 0 ∨ L[i]! + (hopN n a b).len < L[k]!) then L.set k (L[i]! + (hopN n a b).len) else L := by
  unfold relaxL hpN
  rw [ha, hb]
  cases (hopN n a b).ok <;> simp
theorem relax_len (hp : Int → Int → Option Int) (ids : List Int) (i k : Nat) (L : List Int) : (relaxL hp ids i L k).length = L.length := by
  unfold relaxL
  split
  · split <;> simp
  · rfl
theorem bd_set {C : Int} {L : List Int} (h : BdL C L) {k : Nat} {v D : Int} (hk : k < L.length) (h1 : -1 ≤ v) (h2 : v ≤ D) (hD : C ≤ D) : BdL D (L.set k v) := fun j => by
  rw [set_get! _ _ hk]
  have := h j
  split <;> omega
theorem bd_mono {C D : Int} {L : List Int} (h : BdL C L) (hD : C ≤ D) : BdL D L := fun j => by have := h j; omega
theorem range_snoc {α : Type} (f : α → Nat → α) (z : α) (k : Nat) : (List.range (k + 1)).foldl f z = f ((List.range k).foldl f z) k := by rw [List.range_succ, List.foldl_append]; rfl
theorem hop_len (n : Net) (a b : Int) (hl : ∀ r ∈ n.roads, 1 ≤ r.len ∧ r.len ≤ 1073741824) : 0 ≤ (hopN n a b).len ∧ (hopN n a b).len ≤ 1073741824 := by
  have : ∀ (rs : List Rd) (h : Hst), (∀ r ∈ rs, r ∈ n.roads) → (0 ≤ h.len ∧ h.len ≤ 1073741824) → 0 ≤ (rs.foldl (hopS a b) h).len ∧ (rs.foldl (hopS a b) h).len ≤ 1073741824 := by
    intro rs
    induction rs with
    | nil => intro h _ h0; exact h0
    | cons x rs ih =>
      intro h hm h0
      rw [List.foldl_cons]
      refine ih _ (fun r hr => hm r (List.mem_cons_of_mem _ hr)) ?_
      unfold hopS
      split
      · have := hl x (hm x List.mem_cons_self)
        simp only
        omega
      · exact h0
  exact this n.roads _ (fun _ h => h) (by decide)
set_option maxRecDepth 100000 in
set_option maxHeartbeats 1000000 in
theorem lengthsL_q (n : Net) (s : Int) (v1 v2 : Value) (w : World) (hN : NetAt w.heap.size w v1 v2 n) (hK : NetOK n) (h8 : n.nodes.length ≤ 8) :
    Calls Tryz.prog 30 #[.agg #[v1, v2], .int .i64 s] w fun e w' => ∃ v, e = .returned v ∧ Ow w.heap.size w' 3 1 v ((lnN n s).map i1) ∧ Below w.heap.size w w' := by
  have HH : Hid (∀ (a b : Int) (w' : World) [Bw w w'], Calls Tryz.prog 71 #[.agg #[v1, v2], .int .i64 a, .int .i64 b] w' fun e w2 => e = .returned (.tuple #[.int .i64 (hopN n a b).road, .int .i64 (hopN n a b).len, .bool (hopN n a b).ok]) ∧ Below w'.heap.size w' w2) := Lib.hid (fun a b w' _ => hop_q n v1 v2 a b w' (later_bw hN) (by have := hK.few; omega))
  have HLN := Lib.hid (fun a b => hop_len n a b hK.len)
  obtain ⟨an, nn, cn, rfl, hn, hn1, hn2⟩ := hN.1.open
  rw [List.length_map] at hn
  have hnf : nn ≤ 8 := by rw [← hn]; exact h8
  have HNN := Lib.hid hn
  have HN1 := Lib.hid hN.1
  obtain ⟨i0, hi, hz0, hz1, hz2⟩ := info_parts iIntT
  obtain ⟨out, hout⟩ : ∃ o, lnN n s = o := ⟨_, rfl⟩
  rw [hout]
  have HT := Lib.hid hout
  clear hout hn hn1 hn2 hN hK h8
  go_enter Tryz.func30, Tryz.ntmps30
  go_upto_region 1 with fail
  obtain ⟨W0, hW0⟩ : ∃ W0, W0 = w.alloc (.cells #[.slice an nn cn, v2] 30) := ⟨_, rfl⟩
  have n0 : W0.cell? ⟨w.heap.size, 0, none⟩ = some (.slice an nn cn) := by rw [hW0]; simp [go_sem]
  have n1 : W0.cell? ⟨w.heap.size, 1, none⟩ = some v2 := by rw [hW0]; simp [go_sem]
  haveI l0 : Lo w.heap.size W0 := by rw [hW0]; infer_instance
  haveI bw : Bw w W0 := by rw [hW0]; infer_instance
  rw [← hW0]
  generalize hbn : w.heap.size = bn at *
  have HBN := Lib.hid hbn
  clear hW0 hbn
  go_upto_region 2 with (at_make; refine wpList_make_full _ (by rfl) _ _ _ (by rfl) W0.heap.size 3 i0 _ 1 uInts hi hz0 hz1 .i64 .i64 _ _ nn (by rfl) (by rfl) rfl rfl (by rw [hz2]; omega) (by unfold maxLen; omega) (Nat.le_refl _) ?_; intro w5 hown hgr)
  have hO : Ow W0.heap.size w5 3 1 (.slice (some ⟨W0.heap.size, 0, none⟩) nn nn) ((List.replicate nn (0 : Int)).map i1) := by
    refine ⟨?_, i1_len _⟩
    have e : ((List.replicate nn (0 : Int)).map i1).flatten = (madeCells (Value.int .i64 0).cells (nn * 1)).toList := by
      rw [Nat.mul_one, show (Value.int .i64 0).cells = #[.int .i64 0] from rfl, toList_madeCells_one, List.map_replicate]
      simp [i1]
    rw [e, List.length_map, List.length_replicate]
    exact hown
  obtain ⟨U5, rfl⟩ := below_some ((Below.refl W0.heap.size W0).grown hgr (Nat.le_refl _) (fun j hj => by cases hj))
  obtain ⟨g, hg⟩ : ∃ g, g = W0.heap.size := ⟨_, rfl⟩
  have HO : Hid (Ow W0.heap.size (W0.junk U5) 3 1 (.slice (some ⟨g, 0, none⟩) nn nn) ((List.replicate nn (0 : Int)).map i1)) := Lib.hid (by rw [hg]; exact hO)
  rw [← hg]
  have hgW : W0.heap.size ≤ g := by omega
  have hbg : ¬ bn = g := by have := l0.lt; omega
  clear hown hgr hO hg
  go_upto_block 0 with fail
  go_cut [] (fun wx => Hid (Ow W0.heap.size wx 3 1 (.slice (some ⟨g, 0, none⟩) nn nn) ((startL (idsN n) s).map i1)) ∧ ∃ U, wx = W0.junk U)
  case first => as_aux_lemma =>
    go_wp2_with fail
    go_loopw [6] (fun s6 wr => ∃ (k : Nat) (L : List Int), s6 = .int .i64 k ∧ k ≤ nn ∧ Hid (L.length = nn) ∧ Hid (∀ j : Nat, j < k → L[j]! = if (n.nodes[j]!).id = s then 0 else -1) ∧ Hid (Ow W0.heap.size wr 3 1 (.slice (some ⟨g, 0, none⟩) nn nn) (L.map i1)) ∧ ∃ U, wr = W0.junk U) (fun s6 _ => nn - (intOf s6).toNat)
    case atStart => exact ⟨0, List.replicate nn 0, rfl, Nat.zero_le _, Lib.hid (by simp), Lib.hid (fun j hj => absurd hj (Nat.not_lt_zero _)), HO, by with_reducible exact ex_junk⟩
    case round =>
      obtain ⟨k, L, rfl, hk, HL, HE, HW, U, rfl⟩ := hrel
      haveI bv : Bw W0 (W0.junk U) := inferInstance
      generalize W0.junk U = V at *
      haveI lg : Lo g V := ⟨(HW.out.blk g rfl).2⟩
      by_cases hlt : k < nn
      · obtain ⟨b0, off, rfl, hb0, dn⟩ := nd_cells HN1.out k (by rw [HNN.out]; exact hlt)
        obtain ⟨d0, _, _⟩ := dn k (by rw [HNN.out]; exact hlt)
        haveI ln : Lo b0 W0 := ⟨Nat.lt_trans hb0 l0.lt⟩
        have hb0g : ¬ b0 = g := by have := ln.lt; omega
        have e0 : V.cell? ⟨b0, off + k * 3, none⟩ = some (.int .i64 n.nodes[k]!.id) := by rw [bv.b.cell (p := ⟨b0, _, none⟩) ln.lt, bw.b.cell (p := ⟨b0, _, none⟩) (by rw [HBN.out]; exact hb0)]; exact d0
        have n0v : V.cell? ⟨bn, 0, none⟩ = some (.slice (some ⟨b0, off, none⟩) nn cn) := by rw [bv.b.cell (p := ⟨bn, _, none⟩) l0.lt]; exact n0
        have x0 := ow_i1 HW.out (k := k) (by rw [HL.out]; exact hlt)
        have f0 := HW.out.free k
        have HX : Hid (∀ v, Ow W0.heap.size (V.setCell ⟨g, k, none⟩ (.int .i64 v)) 3 1 (.slice (some ⟨g, 0, none⟩) nn nn) ((L.set k v).map i1)) := Lib.hid (fun v => ow_i1_set HW.out (by rw [HL.out]; exact hlt) v)
        obtain ⟨y, hy⟩ : ∃ y, (n.nodes[k]!).id = y := ⟨_, rfl⟩
        rw [hy] at e0
        have HY := Lib.hid hy
        generalize L[k]! = xk at x0
        clear dn d0 hy hb0
        by_cases hs : y = s
        · have hs' : (y == s) = true := by simpa using hs
          have HS := Lib.hid hs
          clear hs
          go_wp2_with fail
          go_roundw
          case rel =>
            haveI b1 : Bw W0 (V.setCell ⟨g, k, none⟩ (.int .i64 (-1))) := bw_set hgW
            haveI b2 : Bw W0 ((V.setCell ⟨g, k, none⟩ (.int .i64 (-1))).setCell ⟨g, k, none⟩ (.int .i64 0)) := bw_set hgW
            refine ⟨k + 1, (L.set k (-1)).set k 0, by go_num, by omega, Lib.hid (by rw [List.length_set, List.length_set]; exact HL.out), Lib.hid (fun j hj => ?_), Lib.hid (ow_i1_set (HX.out (-1)) (by rw [List.length_set, HL.out]; exact hlt) 0), by with_reducible exact ex_junk⟩
            rw [set_get! _ _ (by rw [List.length_set, HL.out]; exact hlt)]
            by_cases hjk : j = k
            · subst hjk; rw [if_pos rfl, HY.out, if_pos HS.out]
            · rw [if_neg hjk, set_get! _ _ (by rw [HL.out]; exact hlt), if_neg hjk]
              exact HE.out j (by omega)
          case measure => simp [intOf]; omega
        · have hs' : (y == s) = false := by simpa using hs
          have HS := Lib.hid hs
          clear hs
          go_wp2_with fail
          go_roundw
          case rel =>
            haveI b1 : Bw W0 (V.setCell ⟨g, k, none⟩ (.int .i64 (-1))) := bw_set hgW
            refine ⟨k + 1, L.set k (-1), by go_num, by omega, Lib.hid (by rw [List.length_set]; exact HL.out), Lib.hid (fun j hj => ?_), Lib.hid (HX.out (-1)), by with_reducible exact ex_junk⟩
            rw [set_get! _ _ (by rw [HL.out]; exact hlt)]
            by_cases hjk : j = k
            · subst hjk; rw [if_pos rfl, HY.out, if_neg HS.out]
            · rw [if_neg hjk]
              exact HE.out j (by omega)
          case measure => simp [intOf]; omega
      · obtain rfl : k = nn := by omega
        have e : L = startL (idsN n) s := by
          have hl : (startL (idsN n) s).length = k := by unfold startL; rw [List.length_map, idsN_len]; exact HNN.out
          apply List.ext_getElem (by rw [HL.out, hl])
          intro j h1 h2
          have h3 : j < n.nodes.length := by rw [HNN.out, ← HL.out]; exact h1
          rw [← getElem!_pos L j h1, HE.out j (by rw [← HL.out]; exact h1)]
          rw [← getElem!_pos (startL (idsN n) s) j h2, startL_at _ _ (by rw [idsN_len]; exact h3), idsN_at n h3]
        rw [e] at HW
        go_wp2_with fail
        go_meet
        exact ⟨HW, by with_reducible exact ex_junk⟩
  case rest =>
    obtain ⟨HS, U, rfl⟩ := hcut
    have HSB : Hid (BdL 0 (startL (idsN n) s)) := Lib.hid (fun j => by
      by_cases hj : j < (idsN n).length
      · rw [startL_at _ _ hj]; split <;> omega
      · have e : (startL (idsN n) s)[j]! = 0 := by
          unfold startL
          rw [getElem!_neg ((idsN n).map _) j (by simpa using hj)]; rfl
        rw [e]; omega)
    have HSL : Hid ((startL (idsN n) s).length = nn) := Lib.hid (by unfold startL; rw [List.length_map, idsN_len]; exact HNN.out)
    go_wp2_with fail
    go_loopw [7] (fun s7 wr => ∃ (r : Nat) (L : List Int), s7 = .int .i64 r ∧ r ≤ nn ∧ Hid ((List.range r).foldl (roundL (hpN n) (idsN n)) (startL (idsN n) s) = L) ∧ Hid (L.length = nn) ∧ Hid (BdL ((r : Int) * 64 * 1073741824) L) ∧ Hid (Ow W0.heap.size wr 3 1 (.slice (some ⟨g, 0, none⟩) nn nn) (L.map i1)) ∧ ∃ U, wr = W0.junk U) (fun s7 _ => nn - (intOf s7).toNat)
    case atStart => exact ⟨0, startL (idsN n) s, rfl, Nat.zero_le _, Lib.hid rfl, HSL, Lib.hid (bd_mono HSB.out (by omega)), HS, by with_reducible exact ex_junk⟩
    case round =>
      obtain ⟨r, L, rfl, hr, HR, HRL, HRB, HRW, U1, rfl⟩ := hrel
      by_cases hrn : r < nn
      · go_wp2_with fail
        go_loopw [8] (fun s8 wr => ∃ (i : Nat) (M : List Int), s8 = .int .i64 i ∧ i ≤ nn ∧ Hid ((List.range i).foldl (rowL (hpN n) (idsN n)) L = M) ∧ Hid (M.length = nn) ∧ Hid (BdL (((r : Int) * 64 + i * 8) * 1073741824) M) ∧ Hid (Ow W0.heap.size wr 3 1 (.slice (some ⟨g, 0, none⟩) nn nn) (M.map i1)) ∧ ∃ U, wr = W0.junk U) (fun s8 _ => nn - (intOf s8).toNat)
        case atStart => exact ⟨0, L, rfl, Nat.zero_le _, Lib.hid rfl, HRL, Lib.hid (bd_mono HRB.out (by omega)), HRW, by with_reducible exact ex_junk⟩
        case round =>
          obtain ⟨i, M, rfl, hi2, HM, HML, HMB, HMW, U2, rfl⟩ := hrel
          by_cases hin : i < nn
          · go_wp2_with fail
            go_loopw [9] (fun s9 wr => ∃ (k : Nat) (N : List Int), s9 = .int .i64 k ∧ k ≤ nn ∧ Hid ((List.range k).foldl (relaxL (hpN n) (idsN n) i) M = N) ∧ Hid (N.length = nn) ∧ Hid (BdL (((r : Int) * 64 + i * 8 + k) * 1073741824) N) ∧ Hid (Ow W0.heap.size wr 3 1 (.slice (some ⟨g, 0, none⟩) nn nn) (N.map i1)) ∧ ∃ U, wr = W0.junk U) (fun s9 _ => nn - (intOf s9).toNat)
            case atStart => exact ⟨0, M, rfl, Nat.zero_le _, Lib.hid rfl, HML, Lib.hid (bd_mono HMB.out (by omega)), HMW, by with_reducible exact ex_junk⟩
            case round =>
              obtain ⟨k, N, rfl, hk, HN, HNL, HNB, HW, U, rfl⟩ := hrel
              haveI bv : Bw W0 (W0.junk U) := inferInstance
              generalize W0.junk U = V at *
              haveI lg : Lo g V := ⟨(HW.out.blk g rfl).2⟩
              by_cases hlt : k < nn
              · obtain ⟨b0, off, rfl, hb0, dn⟩ := nd_cells HN1.out k (by rw [HNN.out]; exact hlt)
                obtain ⟨d0, _, _⟩ := dn i (by rw [HNN.out]; exact hin)
                obtain ⟨f0, _, _⟩ := dn k (by rw [HNN.out]; exact hlt)
                haveI ln : Lo b0 W0 := ⟨Nat.lt_trans hb0 l0.lt⟩
                haveI ln2 : Lo b0 V := ⟨Nat.lt_of_lt_of_le ln.lt bv.b.size⟩
                haveI ln3 : Lo bn V := ⟨Nat.lt_of_lt_of_le l0.lt bv.b.size⟩
                have e0 : V.cell? ⟨b0, off + i * 3, none⟩ = some (.int .i64 n.nodes[i]!.id) := by rw [bv.b.cell (p := ⟨b0, _, none⟩) ln.lt, bw.b.cell (p := ⟨b0, _, none⟩) (by rw [HBN.out]; exact hb0)]; exact d0
                have e1 : V.cell? ⟨b0, off + k * 3, none⟩ = some (.int .i64 n.nodes[k]!.id) := by rw [bv.b.cell (p := ⟨b0, _, none⟩) ln.lt, bw.b.cell (p := ⟨b0, _, none⟩) (by rw [HBN.out]; exact hb0)]; exact f0
                have n0v : V.cell? ⟨bn, 0, none⟩ = some (.slice (some ⟨b0, off, none⟩) nn cn) := by rw [bv.b.cell (p := ⟨bn, _, none⟩) l0.lt]; exact n0
                have n1v : V.cell? ⟨bn, 1, none⟩ = some v2 := by rw [bv.b.cell (p := ⟨bn, _, none⟩) l0.lt]; exact n1
                have x0 := ow_i1 HW.out (k := i) (by rw [HNL.out]; exact hin)
                have x1 := ow_i1 HW.out (k := k) (by rw [HNL.out]; exact hlt)
                have xf := HW.out.free k
                have HX : Hid (∀ v, Ow W0.heap.size (V.setCell ⟨g, k, none⟩ (.int .i64 v)) 3 1 (.slice (some ⟨g, 0, none⟩) nn nn) ((N.set k v).map i1)) := Lib.hid (fun v => ow_i1_set HW.out (by rw [HNL.out]; exact hlt) v)
                have hA := idsN_at n (k := i) (by rw [HNN.out]; exact hin)
                have hB := idsN_at n (k := k) (by rw [HNN.out]; exact hlt)
                generalize n.nodes[i]!.id = a at *
                generalize n.nodes[k]!.id = b at *
                have HR2 := Lib.hid (relax_eq n i k N hA hB)
                have HCALL : Hid (∀ (w' : World) [Bw W0 w'], Calls Tryz.prog 71 #[.agg #[.slice (some ⟨b0, off, none⟩) nn cn, v2], .int .i64 a, .int .i64 b] w' fun e w2 => e = .returned (.tuple #[.int .i64 (hopN n a b).road, .int .i64 (hopN n a b).len, .bool (hopN n a b).ok]) ∧ Below w'.heap.size w' w2) := Lib.hid (fun w' h => by haveI : Bw w w' := ⟨bw.b.trans (h.b.mono bw.b.size)⟩; exact HH.out a b w')
                have hlen := HLN.out a b
                have hbx := HNB.out i
                have hby := HNB.out k
                generalize (hopN n a b).road = hrd at *
                generalize (hopN n a b).len = hl at *
                generalize (hopN n a b).ok = ho at *
                obtain ⟨x, hx⟩ : ∃ x, N[i]! = x := ⟨_, rfl⟩
                obtain ⟨y, hy⟩ : ∃ y, N[k]! = y := ⟨_, rfl⟩
                rw [hx] at x0 hbx HR2
                rw [hy] at x1 hby HR2
                have HZ : Hid ((List.range (k + 1)).foldl (relaxL (hpN n) (idsN n) i) M = if ho = true ∧ 0 ≤ x ∧ (y < 0 ∨ x + hl < y) then N.set k (x + hl) else N) := Lib.hid (by rw [range_snoc, HN.out, HR2.out])
                have hwr : IntKind.i64.wrap (x + hl) = x + hl := IntWalk.i64_in _ (by omega)
                clear dn d0 f0 hA hB hx hy HR2 HN
                go_wp2_with fail
                refine wp_jregion (by kernel_rfl) (by kernel_rfl) ?_
                repeat (go_big_quiet_step (first | (with_reducible exact jq (HCALL.out _)) | fail))
                refine wpQuiet_nil ?_
                rintro w' ⟨U4, rfl⟩
                by_cases hx0 : 0 ≤ x
                · cases ho
                  · go_wp2_with fail
                    go_quiet (fail)
                    go_wp2_with fail
                    go_roundw
                    case rel => exact ⟨k + 1, N, by go_num, by omega, Lib.hid (by rw [HZ.out, if_neg (by simp)]), HNL, Lib.hid (bd_mono HNB.out (by omega)), Lib.hid (HW.out.keep Bw.b), by with_reducible exact ex_junk⟩
                    case measure => simp [intOf]; omega
                  · by_cases hy0 : y < 0
                    · go_wp2_with fail
                      go_quiet (fail)
                      go_wp2_with fail
                      go_roundw
                      case rel =>
                        have hW5 := HW.out
                        exact ⟨k + 1, N.set k (x + hl), by go_num, by omega, Lib.hid (by rw [HZ.out, if_pos (by refine ⟨by simp, by omega, by omega⟩)]), Lib.hid (by rw [List.length_set]; exact HNL.out), Lib.hid (bd_set HNB.out (by rw [HNL.out]; exact hlt) (by omega) (by omega) (by omega)), Lib.hid (ow_i1_set (hW5.keep Bw.b) (by rw [HNL.out]; exact hlt) _), below_some (bw_set (W := W0) hgW).b⟩
                      case measure => simp [intOf]; omega
                    · by_cases hxy : x + hl < y
                      · go_wp2_with fail
                        go_quiet (fail)
                        go_wp2_with fail
                        go_roundw
                        case rel =>
                          have hW5 := HW.out
                          exact ⟨k + 1, N.set k (x + hl), by go_num, by omega, Lib.hid (by rw [HZ.out, if_pos (by refine ⟨by simp, by omega, by omega⟩)]), Lib.hid (by rw [List.length_set]; exact HNL.out), Lib.hid (bd_set HNB.out (by rw [HNL.out]; exact hlt) (by omega) (by omega) (by omega)), Lib.hid (ow_i1_set (hW5.keep Bw.b) (by rw [HNL.out]; exact hlt) _), below_some (bw_set (W := W0) hgW).b⟩
                        case measure => simp [intOf]; omega
                      · go_wp2_with fail
                        go_quiet (fail)
                        go_wp2_with fail
                        go_roundw
                        case rel => exact ⟨k + 1, N, by go_num, by omega, Lib.hid (by rw [HZ.out, if_neg (by simp; omega)]), HNL, Lib.hid (bd_mono HNB.out (by omega)), Lib.hid (HW.out.keep Bw.b), by with_reducible exact ex_junk⟩
                        case measure => simp [intOf]; omega
                · have hx1 : x < 0 := by omega
                  have hx2 : decide (0 ≤ x) = false := by simpa using hx0
                  go_wp2_with fail
                  go_quiet (fail)
                  go_wp2_with fail
                  go_roundw
                  case rel => exact ⟨k + 1, N, by go_num, by omega, Lib.hid (by rw [HZ.out, if_neg (by simp; omega)]), HNL, Lib.hid (bd_mono HNB.out (by omega)), Lib.hid (HW.out.keep Bw.b), by with_reducible exact ex_junk⟩
                  case measure => simp [intOf]; omega
              · obtain rfl : k = nn := by omega
                have hz : Hid ((List.range (i + 1)).foldl (rowL (hpN n) (idsN n)) L = N) := Lib.hid (by rw [range_snoc, HM.out]; unfold rowL; rw [idsN_len, HNN.out]; exact HN.out)
                go_wp2_with fail
                go_roundw
                case rel => exact ⟨i + 1, N, by go_num, by omega, hz, HNL, Lib.hid (bd_mono HNB.out (by omega)), HW, by with_reducible exact ex_junk⟩
                case measure => simp [intOf]; omega
          · obtain rfl : i = nn := by omega
            have hz : Hid ((List.range (r + 1)).foldl (roundL (hpN n) (idsN n)) (startL (idsN n) s) = M) := Lib.hid (by rw [range_snoc, HR.out]; unfold roundL; rw [idsN_len, HNN.out]; exact HM.out)
            go_wp2_with fail
            go_roundw
            case rel => exact ⟨r + 1, M, by go_num, by omega, hz, HML, Lib.hid (bd_mono HMB.out (by omega)), HMW, by with_reducible exact ex_junk⟩
            case measure => simp [intOf]; omega
      · obtain rfl : r = nn := by omega
        have e : L = out := by rw [← HT.out, ← HR.out]; unfold lnN lnL; rw [idsN_len, HNN.out]
        rw [e] at HRW
        go_wp2_with fail
        go_ret
        exact ⟨_, rfl, HRW.out.mono (by rw [HBN.out]; exact Nat.le_of_lt l0.lt), Bw.b⟩
end Go.Proofs.YtopfgkbpakfccaaGreatDoor
