/-
  The chains that prove the bounds of a device, and the bounds.
-/
import Derived.Test.YtmplajpbmojkkaaGreatClcI
set_option linter.unusedSimpArgs false
set_option linter.unusedVariables false
namespace Go.Proofs.YtmplajpbmojkkaaGreat
open Go Go.RowKit Go.Vi
attribute [local go_sem ↓] lo_lt lo_ne lo_ne'
attribute [local go_sem] junk_cell junk_frozen junk_setCell junk_drew drew_junk
/-- The best exchanges, both ways. -/
structure BestO (L : List Exc) (d : Int) (j : Nat) : Prop where
  lt : j < L.length
  frm : L[j]!.frm = 0
  dst : L[j]!.dst = d
  least : ∀ i, i < L.length → L[i]!.frm = 0 → L[i]!.dst = d → wgt L[j]! ≤ wgt L[i]!
structure BestB (L : List Exc) (d : Int) (j : Nat) : Prop where
  lt : j < L.length
  frm : L[j]!.frm = d
  dst : L[j]!.dst = 0
  least : ∀ i, i < L.length → L[i]!.frm = d → L[i]!.dst = 0 → wgt L[j]! ≤ wgt L[i]!
theorem there_of {L : List Exc} {off : Int → Int} {d : Int} (h : Dev L off d) {r : Nat} {D Y : List (Int × Int)} (hR : Rnd L off (· ∈ [(0 : Int)]) r L.length D Y) (hq : ∀ i, i < L.length → upd L D i = false) : ∃ (j : Nat) (s : Int), Vi.look D d = some s ∧ Vi.look Y d = some (j : Int) ∧ BestO L d j := by
  have hd0 : d ≠ 0 := by have := h.pos; omega
  have h0 : Vi.look D 0 = some 0 := by
    obtain ⟨s, g1, g2⟩ := hR.bas.c 0 (by simp)
    rcases hR.bas.b s g1 with ⟨_, g⟩ | ⟨j, _, _, _, g, g', _⟩
    · rw [g1, g]
    · exact absurd (List.mem_singleton.1 g) g'
  have hall : ∀ i, i < L.length → L[i]!.frm = 0 → L[i]!.dst = d → ∃ b, Vi.look D d = some b ∧ b ≤ wgt L[i]! := by
    intro i hi g1 g2
    have hu := hq i hi
    unfold upd at hu
    rw [g1, g2, h0] at hu
    simp only at hu
    cases hb : Vi.look D d with
    | none => rw [hb] at hu; cases hu
    | some b =>
      rw [hb] at hu
      simp only [decide_eq_false_iff_not] at hu
      exact ⟨b, rfl, by omega⟩
  obtain ⟨i, hi, g1, g2⟩ := h.out
  obtain ⟨s, hs, _⟩ := hall i hi g1 g2
  rcases hR.bas.a d s hd0 hs with ⟨g, _⟩ | ⟨t, j, s0, q1, q2, q3, q4, q5, q6, q7, q8, _⟩
  · exact absurd (List.mem_singleton.1 g) hd0
  · rw [h0] at q1
    injection q1 with q1
    have q9 := q8 (by simp)
    refine ⟨j, s, hs, q2, q3, q4, q5, fun k hk g3 g4 => ?_⟩
    obtain ⟨b, e1, e2⟩ := hall k hk g3 g4
    rw [hs] at e1
    injection e1 with e1
    omega
theorem back_of {L : List Exc} {off : Int → Int} {d : Int} (h : Dev L off d) {r : Nat} {D Y : List (Int × Int)} (hR : Rnd L off (· ∈ [d]) r L.length D Y) (hq : ∀ i, i < L.length → upd L D i = false) : ∃ (j : Nat) (s : Int), Vi.look D 0 = some s ∧ Vi.look Y 0 = some (j : Int) ∧ BestB L d j := by
  have hd0 : d ≠ 0 := by have := h.pos; omega
  obtain ⟨sd, p1, p2⟩ := hR.bas.c d (by simp)
  have hall : ∀ i, i < L.length → L[i]!.frm = d → L[i]!.dst = 0 → ∃ b, Vi.look D 0 = some b ∧ b ≤ wgt L[i]! := by
    intro i hi g1 g2
    have hu := hq i hi
    unfold upd at hu
    rw [g1, g2, p1] at hu
    simp only at hu
    cases hb : Vi.look D 0 with
    | none => rw [hb] at hu; cases hu
    | some b =>
      rw [hb] at hu
      simp only [decide_eq_false_iff_not] at hu
      exact ⟨b, rfl, by omega⟩
  obtain ⟨i, hi, g1, g2⟩ := h.back
  obtain ⟨s, hs, _⟩ := hall i hi g1 g2
  rcases hR.bas.b s hs with ⟨g, _⟩ | ⟨j, q1, q2, q3, q4, q5, q6⟩
  · exact absurd (List.mem_singleton.1 g).symm hd0
  · refine ⟨j, s, hs, q1, q2, List.mem_singleton.1 q4, q3, fun k hk g3 g4 => ?_⟩
    obtain ⟨b, e1, e2⟩ := hall k hk g3 g4
    rw [hs] at e1
    injection e1 with e1
    omega
def ChnOut (L : List Exc) (d : Int) (w : World) (e : Ending) (w' : World) : Prop := ∃ (vu vd : Value) (ju jd : Nat), e = .returned (.tuple #[vu, vd, .int .i64 0]) ∧ Sl w'.heap.size w' 1 vu ([(ju : Int)].map i1) ∧ Sl w'.heap.size w' 1 vd ([(jd : Int)].map i1) ∧ BestO L d ju ∧ BestB L d jd ∧ Below w.heap.size w w'
theorem dv_bw {L : List Exc} {w : World} {v : Value} (hv : Sl w.heap.size w 5 v (L.map Exc.cs)) (hok : ∀ x ∈ L, ExOK x) (hm : L.length ≤ 100) : Hid (∀ w', Below w.heap.size w w' → Calls Tryz.prog 39 #[v] w' fun e w2 => (∃ (v : Value) (c : List Int), e = .returned v ∧ Ow w'.heap.size w2 3 1 v (c.map i1) ∧ c.Pairwise (· < ·) ∧ ∀ x, x ∈ c ↔ EndOf L x) ∧ Below w'.heap.size w' w2) :=
  Lib.hid (fun w' hb => devices_q L v w' (hv.later hb) hok hm)
set_option maxRecDepth 100000 in
set_option maxHeartbeats 4000000 in
/-- A device that has no exchange. -/
theorem chains0_q (L : List Exc) (d : Int) (v : Value) (w : World) (hv : Sl w.heap.size w 5 v (L.map Exc.cs)) (hok : ∀ x ∈ L, ExOK x) (hm : L.length ≤ 100) (hd : 0 < d ∧ d ≤ 1073741824) (hno : ¬ EndOf L d) :
    Calls Tryz.prog 16 #[v, .int .i64 d] w fun e w' => e = .returned (.tuple #[.slice none 0 0, .slice none 0 0, .int .i64 0]) ∧ Below w.heap.size w w' := by
  have HDV := dv_bw hv hok hm
  have hd1 : ¬ d < 0 := by omega
  have hd2 : ¬ (1073741824 : Int) < d := by omega
  have hd3 : (d == 0) = false := by simp; omega
  have HFW : Hid (∀ c : List Int, c.Pairwise (· < ·) → (∀ x, x ∈ c ↔ EndOf L x) → c.length ≤ 200) := Lib.hid (fun c h1 h2 => by
    have h3 := nodup_len (l := c) (m := endsOfL L) (h1.imp (fun h => by omega)) (fun x hx => mem_endsL.2 ((h2 x).1 hx))
    rw [endsL_len] at h3
    omega)
  obtain ⟨a, n, cap, rfl, _, _, _⟩ := hv.open
  clear hv hok hm
  go_enter Tryz.func16, Tryz.ntmps16
  go_wp2_with fail
  refine (HDV.out _ Bw.b).mono ?_
  rintro e w1 ⟨⟨v5, c, rfl, ho, hP, hM⟩, hb1⟩
  obtain ⟨X1, rfl⟩ := below_some hb1
  obtain ⟨a5, n5, c5, rfl⟩ := ho.val
  have HBS := Lib.hid (bs_q c _ d _ ho.sl hP (by have := HFW.out c hP hM; omega))
  have hin : decide (d ∈ c) = false := by simp only [decide_eq_false_iff_not]; rw [hM]; exact hno
  rw [hin] at HBS
  clear ho hP hM hb1 hin
  go_wp2_with fail
  refine HBS.out.mono ?_
  rintro e w2 ⟨⟨i, rfl⟩, hb2⟩
  obtain ⟨X2, rfl⟩ := below_some hb2
  clear hb2
  go_wp2_with fail
  refine bodyPost_ret (v := .tuple #[.slice none 0 0, .slice none 0 0, .int .i64 0]) (by simp [results, Tryz.results16, go_sem]) rfl ?_
  exact ⟨rfl, Bw.b⟩
theorem sl_lit1 (w : World) (x : Int) {k : Nat} (hk : w.heap.size = k) : Sl (w.alloc (.cells #[.int .i64 x] 3)).heap.size (w.alloc (.cells #[.int .i64 x] 3)) 1 (.slice (some ⟨k, 0, none⟩) 1 1) ([x].map i1) := by
  subst hk
  have ho : Ow w.heap.size (w.alloc (.cells #[.int .i64 x] 3)) 3 1 (.slice (some ⟨w.heap.size, 0, none⟩) 1 1) ([x].map i1) :=
    ⟨⟨rfl, .inr ⟨w.heap.size, 1, _, rfl, Nat.le_refl _, obj_last _ _, Nat.le_refl _, by decide, rfl, rfl⟩⟩, fun r hr => by simp at hr; subst hr; rfl⟩
  exact ho.sl
set_option maxRecDepth 100000 in
set_option maxHeartbeats 8000000 in
theorem chains_q {L : List Exc} {off : Int → Int} {d : Int} (h : Dev L off d) (v : Value) (w : World) (hv : Sl w.heap.size w 5 v (L.map Exc.cs)) : Calls Tryz.prog 16 #[v, .int .i64 d] w (ChnOut L d w) := by
  have HDV := dv_bw hv h.ok h.few
  have hdp := h.pos
  have hd1 : ¬ d < 0 := by omega
  have hd2 : ¬ (1073741824 : Int) < d := by omega
  have hd3 : (d == 0) = false := by simp; omega
  have hdn : ¬ d = 0 := by omega
  have hdn2 : ¬ (0 : Int) = d := by omega
  have HFW : Hid (∀ c : List Int, c.Pairwise (· < ·) → (∀ x, x ∈ c ↔ EndOf L x) → c.length ≤ 200 ∧ decide (d ∈ c) = true) := Lib.hid (fun c h1 h2 => by
    have h3 := nodup_len (l := c) (m := endsOfL L) (h1.imp (fun h => by omega)) (fun x hx => mem_endsL.2 ((h2 x).1 hx))
    rw [endsL_len] at h3
    obtain ⟨j, hj, g1, g2⟩ := h.out
    have := h.few
    exact ⟨by omega, by simp only [decide_eq_true_eq]; rw [h2]; exact ⟨_, mem_at hj, .inr g2.symm⟩⟩)
  have HCY := Lib.hid (fun (w' : World) (hb : Below w.heap.size w w') => cycle_q h v w' (hv.later hb))
  have HPQ := Lib.hid (fun (w' : World) (hb : Below w.heap.size w w') => part_q L d v w' (hv.later hb) h.ok h.few h.i64 (fun c hc e he => ((h.comp hc).2 e he).1))
  have HFR : Hid (∀ (vs v5 : Value) (c5 : List Int) (size : Nat) (w' : World), Below w.heap.size w w' → Sl w'.heap.size w' 1 vs ((allI L.length).map i1) → Sl w'.heap.size w' 1 v5 (c5.map i1) → c5.length ≤ 201 → size ≤ 201 → 2 ≤ size → Calls Tryz.prog 42 #[.agg #[v, vs, .int .i64 size], v5] w' (FromOut L (Rnd L off (· ∈ c5)) w')) := Lib.hid (fun vs v5 c5 size w' hb h1 h2 h4 h5 h6 => from_q L v vs v5 c5 size 2 _ w' (hv.later hb) h1 h2 h.ok h.few h4 h5 h6 (sri_of h.star (fun x => Iff.rfl)))
  have HCH : Hid (∀ (vs : Value) (size : Nat) (b1 b2 : Nat) (Y : List (Int × Int)) (frm tt : Int) (i : Nat) (w' : World), Below w.heap.size w w' → IMap w' b2 (ivI Y) → tt ≠ frm → Vi.look Y tt = some (i : Int) → i < L.length → L[i]!.frm = frm → (∃ a m c, vs = .slice a m c) → Calls Tryz.prog 43 #[.agg #[v, vs, .int .i64 size], .agg #[.map (some b1), .map (some b2)], .int .i64 frm, .int .i64 tt] w' fun e w2 => (∃ vo, e = .returned vo ∧ Ow w'.heap.size w2 3 1 vo ([(i : Int)].map i1)) ∧ Below w'.heap.size w' w2) := Lib.hid (fun vs size b1 b2 Y frm tt i w' hb h1 h2 h3 h4 h5 h6 => chain_q L v vs (.int .i64 size) b1 b2 Y frm tt i w' (hv.later hb) h1 h.few h2 h3 h4 h5 h6 ⟨_, rfl⟩)
  have HD := Lib.hid h
  obtain ⟨a, n, cap, rfl, _, _, _⟩ := hv.open
  clear hv h
  go_enter Tryz.func16, Tryz.ntmps16
  go_wp2_with fail
  refine (HDV.out _ Bw.b).mono ?_
  rintro e w1 ⟨⟨v5, c, rfl, ho, hP, hM⟩, hb1⟩
  obtain ⟨X1, rfl⟩ := below_some hb1
  obtain ⟨a5, n5, c5, rfl⟩ := ho.val
  have hfw := HFW.out c hP hM
  have HBS := Lib.hid (bs_q c _ d _ ho.sl hP (by omega))
  rw [hfw.2] at HBS
  clear ho hP hM hb1 hfw HFW HDV
  go_wp2_with fail
  refine HBS.out.mono ?_
  rintro e w2 ⟨⟨i, rfl⟩, hb2⟩
  obtain ⟨X2, rfl⟩ := below_some hb2
  clear hb2 HBS
  go_wp2_with fail
  refine (HCY.out _ Bw.b).mono ?_
  rintro e w3 ⟨rfl, hb3⟩
  obtain ⟨X3, rfl⟩ := below_some hb3
  clear hb3 HCY
  go_wp2_with fail
  refine (HPQ.out _ Bw.b).mono ?_
  rintro e w4 ⟨vs, c, rfl, ho, hP, hC, hc201, hb4⟩
  obtain ⟨X4, rfl⟩ := below_some hb4
  obtain ⟨aS, ns, cS, rfl⟩ := ho.val
  have hc2 : 2 ≤ c.length := two_len (HD.out.comp hC).1 hC.dev (by omega)
  have HO := Lib.hid ho
  have HC201 := Lib.hid (show c.length ≤ 201 ∧ 2 ≤ c.length from ⟨hc201, hc2⟩)
  clear ho hP hC hc201 hc2 hb4 HPQ
  generalize c.length = sz at *
  go_upto_region 10 with fail
  obtain ⟨V, hV⟩ : ∃ V, V = (((((w.junk X1).junk X2).junk X3).junk X4).alloc (.cells #[.slice a n cap, .slice aS ns cS, .int .i64 sz] 125)) := ⟨_, rfl⟩
  have HG : Hid (V.heap[((((w.junk X1).junk X2).junk X3).junk X4).heap.size]? = some (.cells #[.slice a n cap, .slice aS ns cS, .int .i64 sz] 125 (0, 0))) := Lib.hid (by rw [hV]; exact obj_last _ _)
  haveI bV : Bw w V := by rw [hV]; infer_instance
  have HVS : Hid (Sl V.heap.size V 1 (.slice aS ns cS) ((allI L.length).map i1)) := Lib.hid (by rw [hV]; exact HO.out.sl.later Bw.b)
  rw [← hV]
  clear hV HO
  generalize ((((w.junk X1).junk X2).junk X3).junk X4).heap.size = bg at *
  have g0 := obj_cell HG.out 0
  have g1 := obj_cell HG.out 1
  have g2 := obj_cell HG.out 2
  simp at g0 g1 g2
  haveI lg : Lo bg V := ⟨obj_lt HG.out⟩
  go_wp2_with fail
  refine (HFR.out _ _ [0] _ _ Bw.b (HVS.out.later Bw.b) (sl_lit1 V 0 rfl) (by decide) HC201.out.1 HC201.out.2).mono ?_
  rintro e w5 ⟨b1, b2, D1, Y1, r1, rfl, m1, m2, hI1, hq1, hb5⟩
  obtain ⟨X5, rfl⟩ := below_some hb5
  obtain ⟨j1, s1, hs1, hy1, hB1⟩ := there_of HD.out hI1 hq1
  have HM1 := Lib.hid m1
  have HM2 := Lib.hid m2
  have HS1 := Lib.hid hs1
  have HY1 := Lib.hid hy1
  have HB1 := Lib.hid hB1
  clear m1 m2 hs1 hy1 hB1 hI1 hq1 hb5
  go_wp2_with fail
  refine (HFR.out _ _ [d] _ _ Bw.b (HVS.out.later Bw.b) (sl_lit1 _ d (by simp)) (by show 1 ≤ 201; decide) HC201.out.1 HC201.out.2).mono ?_
  rintro e w6 ⟨b3, b4, D2, Y2, r2, rfl, m3, m4, hI2, hq2, hb6⟩
  obtain ⟨X6, rfl⟩ := below_some hb6
  obtain ⟨j2, s2, hs2, hy2, hB2⟩ := back_of HD.out hI2 hq2
  have HM3 := Lib.hid m3
  have HM4 := Lib.hid m4
  have HS2 := Lib.hid hs2
  have HY2 := Lib.hid hy2
  have HB2 := Lib.hid hB2
  clear m3 m4 hs2 hy2 hB2 hI2 hq2 hb6
  go_upto_region 12 with fail
  obtain ⟨W, hW⟩ : ∃ W, W = ((((((V.alloc (.cells #[.int .i64 0] 3)).junk X5).alloc (.cells #[.map (some b1), .map (some b2)] 128)).alloc (.cells #[.int .i64 d] 3)).junk X6).alloc (.cells #[.map (some b3), .map (some b4)] 128)) := ⟨_, rfl⟩
  haveI bVW : Bw V W := by rw [hW]; infer_instance
  haveI bW : Bw w W := ⟨bV.b.trans (bVW.b.mono bV.b.size)⟩
  have H12 : Hid (W.heap[((V.alloc (.cells #[.int .i64 0] 3)).junk X5).heap.size]? = some (.cells #[.map (some b1), .map (some b2)] 128 (0, 0))) := Lib.hid (by rw [hW]; exact obj_old (obj_junk (obj_old (obj_last _ _))))
  have H14 : Hid (W.heap[(((((V.alloc (.cells #[.int .i64 0] 3)).junk X5).alloc (.cells #[.map (some b1), .map (some b2)] 128)).alloc (.cells #[.int .i64 d] 3)).junk X6).heap.size]? = some (.cells #[.map (some b3), .map (some b4)] 128 (0, 0))) := Lib.hid (by rw [hW]; exact obj_last _ _)
  have HGW := Lib.hid (keepObj bVW.b HG.out)
  have HM1W : Hid (IMap W b1 (ivI D1)) := Lib.hid (by rw [hW]; exact HM1.out.keep Bw.b)
  have HM2W : Hid (IMap W b2 (ivI Y1)) := Lib.hid (by rw [hW]; exact HM2.out.keep Bw.b)
  have HM3W : Hid (IMap W b3 (ivI D2)) := Lib.hid (by rw [hW]; exact HM3.out.keep Bw.b)
  have HM4W : Hid (IMap W b4 (ivI Y2)) := Lib.hid (by rw [hW]; exact HM4.out.keep Bw.b)
  rw [← hW]
  clear hW HM1 HM2 HM3 HM4 g0 g1 g2 HVS HC201 HFR
  generalize (((((V.alloc (.cells #[.int .i64 0] 3)).junk X5).alloc (.cells #[.map (some b1), .map (some b2)] 128)).alloc (.cells #[.int .i64 d] 3)).junk X6).heap.size = t14 at *
  generalize ((V.alloc (.cells #[.int .i64 0] 3)).junk X5).heap.size = t12 at *
  have g0 := obj_cell HGW.out 0
  have g1 := obj_cell HGW.out 1
  have g2 := obj_cell HGW.out 2
  have p0 := obj_cell H12.out 0
  have p1 := obj_cell H12.out 1
  have q0 := obj_cell H14.out 0
  have q1 := obj_cell H14.out 1
  simp at g0 g1 g2 p0 p1 q0 q1
  haveI lgw : Lo bg W := ⟨obj_lt HGW.out⟩
  haveI l12 : Lo t12 W := ⟨obj_lt H12.out⟩
  haveI l14 : Lo t14 W := ⟨obj_lt H14.out⟩
  have hk1 := look_two HM1W.out d
  have hk2 := look_two HM3W.out 0
  rw [HS1.out] at hk1
  rw [HS2.out] at hk2
  simp only [Option.getD_some, Option.isSome_some] at hk1 hk2
  go_upto_region 16 with fail
  go_region_held3 (fun w' => w'.cell? ⟨bg, 0, none⟩ = some (.slice a n cap) ∧ w'.cell? ⟨bg, 1, none⟩ = some (.slice aS ns cS) ∧ w'.cell? ⟨bg, 2, none⟩ = some (.int .i64 sz) ∧ w'.cell? ⟨t12, 0, none⟩ = some (.map (some b1)) ∧ w'.cell? ⟨t12, 1, none⟩ = some (.map (some b2)) ∧ w'.cell? ⟨t14, 0, none⟩ = some (.map (some b3)) ∧ w'.cell? ⟨t14, 1, none⟩ = some (.map (some b4))) (refine ⟨?_, ?_, ?_, ?_, ?_, ?_, ?_⟩ <;> simp [go_sem, g0, g1, g2, p0, p1, q0, q1]) (first | (go_at_call 43; with_reducible refine (HCH.out _ _ b1 b2 Y1 0 d j1 _ ?b1 ?b2 hdn HY1.out HB1.out.lt HB1.out.frm ⟨_, _, _, rfl⟩).mono ?_; (case b1 => exact Bw.b); (case b2 => exact HM2W.out.keep Bw.b); rintro e w7 ⟨⟨vu, rfl, ho7⟩, hb7⟩; obtain ⟨X7, rfl⟩ := below_some hb7; have HO7 := Lib.hid ho7; clear ho7 hb7) | (go_at_call 43; with_reducible refine (HCH.out _ _ b3 b4 Y2 d 0 j2 _ ?b1 ?b2 hdn2 HY2.out HB2.out.lt HB2.out.frm ⟨_, _, _, rfl⟩).mono ?_; (case b1 => exact Bw.b); (case b2 => exact HM4W.out.keep Bw.b); rintro e w8 ⟨⟨vd, rfl, ho8⟩, hb8⟩; obtain ⟨X8, rfl⟩ := below_some hb8; have HO8 := Lib.hid ho8; clear ho8 hb8) | fail)
  all_goals
    go_wp2_with fail
    refine bodyPost_ret (v := .tuple #[vu, vd, .int .i64 0]) (by simp [results, Tryz.results16, go_sem]) rfl ?_
    refine ⟨vu, vd, j1, j2, rfl, ?_, ?_, HB1.out, HB2.out, Bw.b⟩
    · have q := HO7.out.sl
      (try simp only [drew_junk] at q)
      first
        | exact q
        | exact q.later Bw.b
    · have q := HO8.out.sl
      (try simp only [drew_junk] at q)
      first
        | exact q
        | exact q.later Bw.b
end Go.Proofs.YtmplajpbmojkkaaGreat
