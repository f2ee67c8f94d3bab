/-
  The law of lengths, walked.
-/
import Derived.Test.YtopfgkbpakfccaaGreatDoorLwF
import Derived.Test.YtopfgkbpakfccaaGreatDoorShoL
import Derived.Test.YtopfgkbpakfccaaGreatDoorGrdO
import Derived.Test.YtopfgkbpakfccaaGreatDoorNetD
set_option linter.unusedSimpArgs false
set_option linter.unusedVariables false
namespace Go.Proofs.YtopfgkbpakfccaaGreatDoor
open Go Go.RowKit Go.Vi
attribute [local go_sem ↓] lo_lt lo_ne lo_ne'
attribute [local go_sem] junk_cell junk_frozen junk_setCell junk_drew drew_junk
/-- What a grid is decoded into. -/
structure GNet (n : Net) : Prop where
  ok : NetOK n
  two : 2 ≤ n.nodes.length
  few : n.nodes.length ≤ 8
  one : 1 ≤ n.roads.length
  most : n.roads.length ≤ 13
  len : ∀ r ∈ n.roads, 1 ≤ r.len ∧ r.len ≤ 48
theorem gnet_q {P : List Spt} {Q : List Lne} {vp vq : Value} (w : World) (h : GrdAt w.heap.size w vp vq P Q) :
    Calls Tryz.prog 15 #[.agg #[vp, vq]] w fun e w' => (∃ (v1 v2 : Value) (n : Net), e = .returned (.agg #[v1, v2]) ∧ Ow w.heap.size w' 44 3 v1 (n.nodes.map Nd.cs) ∧ Ow w.heap.size w' 90 6 v2 (n.roads.map Rd.cs) ∧ GNet n) ∧ Below w.heap.size w w' :=
  (network_any P Q vp vq w h.sp h.ln h.fp h.fq h.nil).mono (by
    rintro e w' ⟨⟨v1, v2, N, R, he, o1, o2, h1, h2, h3, h4, h5, h6, h7⟩, hb⟩
    have hok : NetOK ⟨N, R⟩ := netOK_of (netErr_in h5 h2 h6 (by omega))
    exact ⟨⟨v1, v2, ⟨N, R⟩, he, o1, o2, hok, h1, h2, h3, h4, fun r hr => ⟨(hok.len r hr).1, h7 r hr⟩⟩, hb⟩)
theorem known_bw (w : World) : Hid (∀ (w' : World) [Bw w w'], Calls Tryz.prog 14 #[] w' fun e w2 => e = .returned (.bool true) ∧ Below w'.heap.size w' w2) := Lib.hid (fun w' _ => known_q w')
theorem grd_bw {w w' : World} {vp vq : Value} {P : List Spt} {Q : List Lne} [h : Bw w w'] (hX : GrdAt w.heap.size w vp vq P Q) : GrdAt w'.heap.size w' vp vq P Q := hX.later h.b
set_option maxRecDepth 100000 in
set_option maxHeartbeats 1000000 in
theorem lenLaw (P : List Spt) (Q : List Lne) (vp vq : Value) (x : Int) (w : World) (hX : GrdAt w.heap.size w vp vq P Q) :
    Calls Tryz.prog 7 #[.agg #[vp, vq], .int .i64 x] w fun e w' => e = .returned (.bool true) ∧ Below w.heap.size w w' := by
  have HKN := known_bw w
  have HG : Hid (∀ (w' : World) [Bw w w'], Calls Tryz.prog 15 #[.agg #[vp, vq]] w' fun e w2 => (∃ (v1 v2 : Value) (n : Net), e = .returned (.agg #[v1, v2]) ∧ Ow w'.heap.size w2 44 3 v1 (n.nodes.map Nd.cs) ∧ Ow w'.heap.size w2 90 6 v2 (n.roads.map Rd.cs) ∧ GNet n) ∧ Below w'.heap.size w' w2) := Lib.hid (fun w' _ => gnet_q w' (grd_bw hX))
  clear hX
  go_enter Tryz.func7, Tryz.ntmps7
  go_wp2_with fail
  refine (jk (HKN.out _)).mono ?_
  rintro e _ ⟨rfl, X1, rfl⟩
  go_wp2_with fail
  refine (HG.out _).mono ?_
  rintro e w2 ⟨⟨v1, v2, n, rfl, o1, o2, hn⟩, hb2⟩
  obtain ⟨X2, rfl⟩ := below_some hb2
  have HN := Lib.hid (show NetAt _ _ v1 v2 n from ⟨o1.sl, o2.sl⟩)
  have HGN := Lib.hid hn
  obtain ⟨a1, n1, c1, rfl⟩ := o1.val
  obtain ⟨a2, n2, c2, rfl⟩ := o2.val
  clear o1 o2 hb2 hn HG HKN
  go_upto_region 4 with fail
  obtain ⟨W, hW⟩ : ∃ W, W = (((w.alloc (.cells #[vp, vq] 25)).junk X1).junk X2).alloc (.cells #[.slice a1 n1 c1, .slice a2 n2 c2] 30) := ⟨_, rfl⟩
  have n0 : W.cell? ⟨(((w.alloc (.cells #[vp, vq] 25)).junk X1).junk X2).heap.size, 0, none⟩ = some (.slice a1 n1 c1) := by rw [hW]; simp [go_sem]
  have e1 : W.cell? ⟨(((w.alloc (.cells #[vp, vq] 25)).junk X1).junk X2).heap.size, 1, none⟩ = some (.slice a2 n2 c2) := by rw [hW]; simp [go_sem]
  haveI lb : Lo (((w.alloc (.cells #[vp, vq] 25)).junk X1).junk X2).heap.size W := by rw [hW]; infer_instance
  haveI bw : Bw w W := by rw [hW]; infer_instance
  have HNW : Hid (NetAt W.heap.size W (.slice a1 n1 c1) (.slice a2 n2 c2) n) := Lib.hid (by rw [hW]; exact HN.out.later Bw.b)
  rw [← hW]
  clear hW HN
  generalize (((w.alloc (.cells #[vp, vq] 25)).junk X1).junk X2).heap.size = bx at *
  have HIX : Hid (∀ (w' : World) [Bw W w'], Calls Tryz.prog 17 #[.agg #[.slice a1 n1 c1, .slice a2 n2 c2], .int .i64 x] w' fun e w2 => e = .returned (.int .i64 (idxN n x)) ∧ Below w'.heap.size w' w2) := Lib.hid (fun w' _ => index_q n _ _ x w' (later_bw HNW.out) HGN.out.ok)
  have HCK : Hid (∀ (L : List Int) (u : Value) (w' : World) [Bw W w'], Sl w'.heap.size w' 1 u (L.map i1) → L.length ≤ 1000000 → Calls Tryz.prog 29 #[.agg #[.slice a1 n1 c1, .slice a2 n2 c2], .int .i64 x, u] w' fun e w2 => e = .returned (.int .i64 (ckLens n (dsN n) x L)) ∧ Below w'.heap.size w' w2) := Lib.hid (fun L u w' _ hu hl => checkLengths_q n (dsN n) (dsN_of n) x L _ _ u w' (later_bw HNW.out) HGN.out.ok (by have := HGN.out.most; omega) hu hl)
  have HLL : Hid (∀ (w' : World) [Bw W w'], Calls Tryz.prog 30 #[.agg #[.slice a1 n1 c1, .slice a2 n2 c2], .int .i64 x] w' fun e w2 => ∃ v, e = .returned v ∧ Ow w'.heap.size w2 3 1 v ((lnN n x).map i1) ∧ Below w'.heap.size w' w2) := Lib.hid (fun w' _ => lengthsL_q n x _ _ w' (later_bw HNW.out) HGN.out.ok HGN.out.few)
  go_wp2_with fail
  refine (lengths_q n (dsN n) (dsN_of n) x _ _ W HNW.out HGN.out.ok (by have := HGN.out.most; omega)).mono ?_
  rintro e w3 ⟨vl, rfl, ol, hb3⟩
  obtain ⟨X3, rfl⟩ := below_some hb3
  have HOL := Lib.hid ol
  obtain ⟨al, nl, cl, rfl⟩ := ol.val
  clear ol hb3
  cases hs : (nodeOf n.nodes x).isSome with
  | false =>
    have hi : idxN n x < 0 := by
      have := idx_some (n := n) (x := x)
      rw [hs] at this
      simp at this
      omega
    have hl1 : (lensN n (dsN n) x).1 = [] := by unfold lensN; rw [if_neg (by rw [hs]; simp)]
    have hl2 : (lensN n (dsN n) x).2 = 9 := by unfold lensN; rw [if_neg (by rw [hs]; simp)]
    have hck := ckLens_no (ds := dsN n) hs []
    rw [hl1] at HOL
    rw [hl2]
    have hn0 : nl = 0 := HOL.out.sl.len.symm
    subst hn0
    have HC := Lib.hid (fun (w' : World) (h : Bw W w') (hu : Sl w'.heap.size w' 1 (.slice al 0 cl) (([] : List Int).map i1)) => HCK.out [] _ w' hu (by simp))
    rw [hck] at HC
    generalize idxN n x = ix at *
    clear hl1 hl2 hck hs HLL HCK
    go_wp2_with fail
    refine (jk (HIX.out _)).mono ?_
    rintro e _ ⟨rfl, X4, rfl⟩
    go_wp2_with fail
    refine (jk (HC.out _ inferInstance (HOL.out.sl.later Bw.b))).mono ?_
    rintro e _ ⟨rfl, X5, rfl⟩
    go_wp2_with fail
    go_ret
    exact ⟨rfl, Bw.b⟩
  | true =>
    have hi : ¬ idxN n x < 0 := by
      have := (idx_some (n := n) (x := x)).2 hs
      omega
    have hl2 : (lensN n (dsN n) x).2 = 0 := by unfold lensN; rw [if_pos hs]
    have hln := lnN_eq HGN.out.ok (dsN_of n) hs
    have hle : (lensN n (dsN n) x).1.length = n.nodes.length := by unfold lensN; rw [if_pos hs]; simp
    have hck := ckLens_yes (ds := dsN n) hs (lensN n (dsN n) x).1
    rw [if_neg (by rw [hle]; simp), if_pos rfl] at hck
    rw [hl2]
    rw [hln] at HLL
    have h8 := HGN.out.few
    rw [← hle] at h8
    generalize (lensN n (dsN n) x).1 = M at *
    have HC := Lib.hid (fun (w' : World) (h : Bw W w') (hu : Sl w'.heap.size w' 1 (.slice al nl cl) (M.map i1)) => HCK.out M _ w' hu (by omega))
    rw [hck] at HC
    generalize idxN n x = ix at *
    have HS : Hid (∀ (u : Value) (w' : World), Sl w'.heap.size w' 1 (.slice al nl cl) (M.map i1) → Sl w'.heap.size w' 1 u (M.map i1) → Calls Tryz.prog 19 #[.slice al nl cl, u] w' fun e w2 => e = .returned (.bool true) ∧ Below w'.heap.size w' w2) := Lib.hid (fun u w' h1 h2 => by
      have := sameInts_q M M _ u w' h1 h2 (by omega) (by omega)
      simpa using this)
    clear hl2 hck hs HCK hln hle h8
    go_wp2_with fail
    refine (jk (HIX.out _)).mono ?_
    rintro e _ ⟨rfl, X4, rfl⟩
    go_wp2_with fail
    refine (HLL.out _).mono ?_
    rintro e w5 ⟨v5, rfl, o5, hb5⟩
    obtain ⟨X5, rfl⟩ := below_some hb5
    have HO5 := Lib.hid o5
    obtain ⟨a5, n5, c5, rfl⟩ := o5.val
    clear o5 hb5
    go_wp2_with fail
    refine (jk (HS.out _ _ (HOL.out.sl.later Bw.b) HO5.out.sl)).mono ?_
    rintro e _ ⟨rfl, X6, rfl⟩
    go_wp2_with fail
    refine (jk (HC.out _ inferInstance (HOL.out.sl.later Bw.b))).mono ?_
    rintro e _ ⟨rfl, X7, rfl⟩
    go_wp2_with fail
    go_ret
    exact ⟨rfl, Bw.b⟩
end Go.Proofs.YtopfgkbpakfccaaGreatDoor
