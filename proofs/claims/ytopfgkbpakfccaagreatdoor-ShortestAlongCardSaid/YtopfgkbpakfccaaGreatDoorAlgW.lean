/-
  The position on a way behind some length, exactly: Along.
-/
import Derived.Test.YtopfgkbpakfccaaGreatDoorCwA
import Derived.Test.YtopfgkbpakfccaaGreatDoorPlcM
set_option linter.unusedSimpArgs false
set_option linter.unusedVariables false
namespace Go.Proofs.YtopfgkbpakfccaaGreatDoor
open Go Go.RowKit Go.Vi
attribute [local go_sem ↓] lo_lt lo_ne lo_ne'
attribute [local go_sem] junk_cell junk_frozen junk_setCell junk_drew drew_junk
/-- What Along hands back. -/
def algN (n : Net) (p : Plc) (L : List Lg) (len t : Rat) : Plc × Int := if t < 0 ∨ len < t then (plz, 2) else normN n (ptN p L t)
/-- A leg with small numbers. -/
def LgIn (x : Lg) : Prop := G64 x.a ∧ G64 x.b ∧ 0 ≤ x.a ∧ x.a ≤ 48 ∧ 0 ≤ x.b ∧ x.b ≤ 48
def TmIn (t : Rat) : Prop := G64 t ∧ 0 ≤ t ∧ t ≤ 1000
theorem lg_cells {B : Nat} {w : World} {a : Option Addr} {n cap : Nat} {L : List Lg} (h : Sl B w 9 (.slice a n cap) (L.map Lg.cs)) (i : Nat) (hi : i < L.length) :
    ∃ b off, a = some ⟨b, off, none⟩ ∧ b < B ∧ w.cell? ⟨b, off + i * 9, none⟩ = some (.int .i64 L[i]!.road) ∧ w.cell? ⟨b, off + i * 9 + 1, none⟩ = some (.bool (zs L[i]!.a.num)) ∧ w.cell? ⟨b, off + i * 9 + 2, none⟩ = some (.string (zx L[i]!.a.num)) ∧ w.cell? ⟨b, off + i * 9 + 3, none⟩ = some (.bool false) ∧ w.cell? ⟨b, off + i * 9 + 4, none⟩ = some (.string (ry L[i]!.a.den)) ∧ w.cell? ⟨b, off + i * 9 + 5, none⟩ = some (.bool (zs L[i]!.b.num)) ∧ w.cell? ⟨b, off + i * 9 + 6, none⟩ = some (.string (zx L[i]!.b.num)) ∧ w.cell? ⟨b, off + i * 9 + 7, none⟩ = some (.bool false) ∧ w.cell? ⟨b, off + i * 9 + 8, none⟩ = some (.string (ry L[i]!.b.den)) := by
  obtain ⟨b, off, h1, h2, h3⟩ := h.cells (cs := Lg.cs) i hi
  exact ⟨b, off, h1, h2, h3 i hi 0 _ rfl, h3 i hi 1 _ rfl, h3 i hi 2 _ rfl, h3 i hi 3 _ rfl, h3 i hi 4 _ rfl, h3 i hi 5 _ rfl, h3 i hi 6 _ rfl, h3 i hi 7 _ rfl, h3 i hi 8 _ rfl⟩
theorem cmp_gt (a b : Rat) : (b < a ∧ 0 < cmpR a b) ∨ (¬ b < a ∧ cmpR a b ≤ 0) := by
  unfold cmpR
  by_cases h1 : a < b
  · rw [if_pos h1]; right; exact ⟨by grind, by decide⟩
  · rw [if_neg h1]
    by_cases h2 : b < a
    · rw [if_pos h2]; left; exact ⟨h2, by decide⟩
    · rw [if_neg h2]; right; exact ⟨h2, by decide⟩
theorem sg_neg (q : Rat) : (q < 0 ∧ sgnZ q.num < 0) ∨ (¬ q < 0 ∧ 0 ≤ sgnZ q.num) := by
  unfold sgnZ
  by_cases h1 : q.num < 0
  · rw [if_pos h1]; left; exact ⟨num_lt.1 h1, by decide⟩
  · rw [if_neg h1]; right; exact ⟨fun h => h1 (num_lt.2 h), by split <;> decide⟩
theorem bw_set4 {w V : World} [h : Bw w V] {g : Nat} (hg : w.heap.size ≤ g) (a b c d : Value) : Bw w ((((V.setCell ⟨g, 0, none⟩ a).setCell ⟨g, 1, none⟩ b).setCell ⟨g, 2, none⟩ c).setCell ⟨g, 3, none⟩ d) := by
  haveI := bw_set3 (W := w) (X := V) hg a b c
  exact bw_set hg
theorem obj_set4o {w : World} {b g : Nat} {o : Obj} (h : w.heap[b]? = some o) (hne : b ≠ g) (v0 v1 v2 v3 : Value) : ((((w.setCell ⟨g, 0, none⟩ v0).setCell ⟨g, 1, none⟩ v1).setCell ⟨g, 2, none⟩ v2).setCell ⟨g, 3, none⟩ v3).heap[b]? = some o :=
  obj_setOther (obj_setOther (obj_setOther (obj_setOther h hne) hne) hne) hne
theorem obj_set4' {w : World} {b : Nat} {T : TypeId} {fr : Nat × Nat} {c0 c1 c2 c3 : Value} (h : w.heap[b]? = some (.cells #[c0, c1, c2, c3] T fr)) (v0 v1 v2 v3 : Value) : ((((w.setCell ⟨b, 0, none⟩ v0).setCell ⟨b, 1, none⟩ v1).setCell ⟨b, 2, none⟩ v2).setCell ⟨b, 3, none⟩ v3).heap[b]? = some (.cells #[v0, v1, v2, v3] T fr) := by
  rw [obj_set (obj_set (obj_set (obj_set h)))]
  simp
set_option maxRecDepth 100000 in
set_option maxHeartbeats 4000000 in
theorem alg_q (n : Net) (p q : Plc) (L : List Lg) (len t : Rat) (v1 v2 v : Value) (w : World) (hN : NetAt w.heap.size w v1 v2 n) (hK : NetOK n) (hv : Sl w.heap.size w 9 v (L.map Lg.cs)) (hp : Sm p.off) (hl : Sm len) (ht : Sm t) (hI : TmIn t ∨ t < 0 ∨ len < t) (hL : ∀ x ∈ L, LgIn x) (hm : L.length ≤ 1000000) :
    Calls Tryz.prog 33 #[.agg #[v1, v2], .agg (wcs p q v len), rV t] w fun e w' => e = .returned (.tuple #[(algN n p L len t).1.v, .int .i64 (algN n p L len t).2]) ∧ Below w.heap.size w w' := by
  obtain ⟨a, m, c, rfl, hvl, hvc, hvm⟩ := hv.open
  rw [List.length_map] at hvl
  unfold algN
  have HSG := Lib.hid (fun w' => sign_q t w' (by have := ht.1; omega))
  have HCM := Lib.hid (fun w' => compare_q t len w' ht hl)
  have sg := sg_neg t
  have cg := cmp_gt t len
  generalize sgnZ t.num = gs at HSG sg
  generalize cmpR t len = gc at HCM cg
  simp only [rV] at HSG HCM
  rcases sg with ⟨h0, g0⟩ | ⟨h0, g0⟩
  · rw [if_pos (.inl h0), plz_v]
    unfold rV wcs
    clear hN hK hv hp hl ht hI hL hm h0 cg HCM hvl hvc hvm
    go_enter Tryz.func33, Tryz.ntmps33
    go_wp2_with fail
    refine (jk (HSG.out _)).mono ?_
    rintro e _ ⟨rfl, X1, rfl⟩
    go_wp2_with fail
    exact bodyPost_ret (v := .tuple #[.agg #[.int .i64 0, .bool false, .string ⟨#[]⟩, .bool false, .string ⟨#[]⟩], .int .i64 2]) (by simp [results, Tryz.results33, go_sem]) rfl ⟨rfl, Bw.b⟩
  · rcases cg with ⟨h1, g1⟩ | ⟨h1, g1⟩
    · rw [if_pos (.inr h1), plz_v]
      unfold rV wcs
      clear hN hK hv hp hl ht hI hL hm h0 h1 hvl hvc hvm
      go_enter Tryz.func33, Tryz.ntmps33
      go_wp2_with fail
      refine (jk (HSG.out _)).mono ?_
      rintro e _ ⟨rfl, X1, rfl⟩
      go_wp2_with fail
      refine (jk (HCM.out _)).mono ?_
      rintro e _ ⟨rfl, X2, rfl⟩
      go_wp2_with fail
      exact bodyPost_ret (v := .tuple #[.agg #[.int .i64 0, .bool false, .string ⟨#[]⟩, .bool false, .string ⟨#[]⟩], .int .i64 2]) (by simp [results, Tryz.results33, go_sem]) rfl ⟨rfl, Bw.b⟩
    · rw [if_neg (by rintro (h | h); exact h0 h; exact h1 h)]
      have HTI := Lib.hid (show TmIn t by
        rcases hI with h | h | h
        · exact h
        · exact absurd h h0
        · exact absurd h h1)
      obtain ⟨out, hout⟩ : ∃ o, ptN p L t = o := ⟨_, rfl⟩
      rw [hout]
      have HT := Lib.hid hout
      have HN := Lib.hid hN
      have HK := Lib.hid hK
      have HV := Lib.hid hv
      have HL := Lib.hid hL
      have HM := Lib.hid hvl
      have hm2 : m ≤ 1000000 := by omega
      have HNO : Hid (Sm out.off → ∀ (w' : World) [Bw w w'], Calls Tryz.prog 34 #[.agg #[v1, v2], .agg #[.int .i64 out.road, .bool (zs out.off.num), .string (zx out.off.num), .bool false, .string (ry out.off.den)]] w' fun e w2 => e = .returned (.tuple #[(normN n out).1.v, .int .i64 (normN n out).2]) ∧ Below w'.heap.size w' w2) := Lib.hid (fun hs w' _ => (norm_bw hN hK out hs).out w')
      have HPS := Lib.hid hp
      unfold Plc.v at HNO ⊢
      generalize (normN n out).1 = res at *
      generalize (normN n out).2 = rc at *
      unfold rV wcs
      clear hN hK hv hp hl ht hI hL hm h0 h1 hvl hvc hvm hout
      go_enter Tryz.func33, Tryz.ntmps33
      go_wp2_with fail
      refine (jk (HSG.out _)).mono ?_
      rintro e _ ⟨rfl, X1, rfl⟩
      go_wp2_with fail
      refine (jk (HCM.out _)).mono ?_
      rintro e _ ⟨rfl, X2, rfl⟩
      go_wp2_with fail
      clear HSG HCM g0 g1
      obtain ⟨V, hV⟩ : ∃ V, V = ((w.alloc (.cells #[v1, v2] 30)).alloc (.cells #[.int .i64 p.road, .bool (zs p.off.num), .string (zx p.off.num), .bool false, .string (ry p.off.den), .int .i64 q.road, .bool (zs q.off.num), .string (zx q.off.num), .bool false, .string (ry q.off.den), .slice a m c, .bool (zs len.num), .string (zx len.num), .bool false, .string (ry len.den)] 55)) := ⟨_, rfl⟩
      haveI bwV : Bw w V := by rw [hV]; infer_instance
      haveI lV0 : Lo w.heap.size V := by rw [hV]; infer_instance
      have hVs : V.heap.size = w.heap.size + 1 + 1 := by rw [hV]; simp
      have n0 : V.cell? ⟨w.heap.size, 0, none⟩ = some v1 := by rw [hV]; simp [go_sem]
      have n1 : V.cell? ⟨w.heap.size, 1, none⟩ = some v2 := by rw [hV]; simp [go_sem]
      rw [← hV]
      clear hV
      obtain ⟨b8, hb8⟩ : ∃ b, b = ((((V.alloc (.cells #[.bool (zs t.num), .string (zx t.num), .bool false, .string (ry t.den)] 48)).alloc (.cells #[.int .i64 0, .bool false, .string ⟨#[]⟩, .bool false, .string ⟨#[]⟩] 50)).junk X1).junk X2).heap.size := ⟨_, rfl⟩
      have HW : Hid (∃ U, (((((V.alloc (.cells #[.bool (zs t.num), .string (zx t.num), .bool false, .string (ry t.den)] 48)).alloc (.cells #[.int .i64 0, .bool false, .string ⟨#[]⟩, .bool false, .string ⟨#[]⟩] 50)).junk X1).junk X2).alloc (.cells #[.int .i64 p.road, .bool (zs p.off.num), .string (zx p.off.num), .bool false, .string (ry p.off.den)] 50)) = V.junk U) := Lib.hid (by with_reducible exact ex_junk)
      have H5 : Hid ((((((V.alloc (.cells #[.bool (zs t.num), .string (zx t.num), .bool false, .string (ry t.den)] 48)).alloc (.cells #[.int .i64 0, .bool false, .string ⟨#[]⟩, .bool false, .string ⟨#[]⟩] 50)).junk X1).junk X2).alloc (.cells #[.int .i64 p.road, .bool (zs p.off.num), .string (zx p.off.num), .bool false, .string (ry p.off.den)] 50)).heap[w.heap.size + 1 + 1]? = some (.cells #[.bool (zs t.num), .string (zx t.num), .bool false, .string (ry t.den)] 48 (0, 0))) := Lib.hid (obj_old (obj_junk (obj_junk (obj_old (obj_at' hVs)))))
      have H6 : Hid ((((((V.alloc (.cells #[.bool (zs t.num), .string (zx t.num), .bool false, .string (ry t.den)] 48)).alloc (.cells #[.int .i64 0, .bool false, .string ⟨#[]⟩, .bool false, .string ⟨#[]⟩] 50)).junk X1).junk X2).alloc (.cells #[.int .i64 p.road, .bool (zs p.off.num), .string (zx p.off.num), .bool false, .string (ry p.off.den)] 50)).heap[w.heap.size + 1 + 1 + 1]? = some (.cells #[.int .i64 0, .bool false, .string ⟨#[]⟩, .bool false, .string ⟨#[]⟩] 50 (0, 0))) := Lib.hid (obj_old (obj_junk (obj_junk (obj_at' (by simp [hVs])))))
      have H8 : Hid ((((((V.alloc (.cells #[.bool (zs t.num), .string (zx t.num), .bool false, .string (ry t.den)] 48)).alloc (.cells #[.int .i64 0, .bool false, .string ⟨#[]⟩, .bool false, .string ⟨#[]⟩] 50)).junk X1).junk X2).alloc (.cells #[.int .i64 p.road, .bool (zs p.off.num), .string (zx p.off.num), .bool false, .string (ry p.off.den)] 50)).heap[b8]? = some (.cells #[.int .i64 p.road, .bool (zs p.off.num), .string (zx p.off.num), .bool false, .string (ry p.off.den)] 50 (0, 0))) := Lib.hid (obj_at' hb8.symm)
      have h8 : w.heap.size + 1 + 1 + 1 < b8 := by rw [hb8]; have h1 := (junk_below ((V.alloc (.cells #[.bool (zs t.num), .string (zx t.num), .bool false, .string (ry t.den)] 48)).alloc (.cells #[.int .i64 0, .bool false, .string ⟨#[]⟩, .bool false, .string ⟨#[]⟩] 50)) X1).size; have h2 := (junk_below (((V.alloc (.cells #[.bool (zs t.num), .string (zx t.num), .bool false, .string (ry t.den)] 48)).alloc (.cells #[.int .i64 0, .bool false, .string ⟨#[]⟩, .bool false, .string ⟨#[]⟩] 50)).junk X1) X2).size; simp at h1; omega
      rw [← hb8]
      clear hb8
      generalize (((((V.alloc (.cells #[.bool (zs t.num), .string (zx t.num), .bool false, .string (ry t.den)] 48)).alloc (.cells #[.int .i64 0, .bool false, .string ⟨#[]⟩, .bool false, .string ⟨#[]⟩] 50)).junk X1).junk X2).alloc (.cells #[.int .i64 p.road, .bool (zs p.off.num), .string (zx p.off.num), .bool false, .string (ry p.off.den)] 50)) = W1 at *
      generalize e6 : w.heap.size + 1 + 1 + 1 = b6 at *
      generalize e5 : w.heap.size + 1 + 1 = b5 at *
      have h5 : V.heap.size ≤ b5 := by omega
      have h6 : V.heap.size ≤ b6 := by omega
      have h88 : V.heap.size ≤ b8 := by omega
      have d56 : b5 ≠ b6 := by omega
      have d58 : b5 ≠ b8 := by omega
      have d68 : b6 ≠ b8 := by omega
      have HD := Lib.hid (show V.heap.size ≤ b5 ∧ V.heap.size ≤ b6 ∧ V.heap.size ≤ b8 ∧ b6 ≠ b5 ∧ b8 ≠ b5 ∧ b6 ≠ b8 ∧ b8 ≠ b6 from ⟨h5, h6, h88, d56.symm, d58.symm, d68, d68.symm⟩)
      clear h5 h6 h88 d56 d58 d68 e5 e6 h8 hVs
      go_loopw [29] (fun s29 wr => ∃ (k : Nat) (y : Rat), s29 = .int .i64 k ∧ k ≤ m ∧ Hid (ptN p (L.drop k) y = out) ∧ Hid (TmIn y) ∧ Hid (wr.heap[b5]? = some (.cells #[.bool (zs y.num), .string (zx y.num), .bool false, .string (ry y.den)] 48 (0, 0))) ∧ Hid (wr.heap[b6]? = some (.cells #[.int .i64 0, .bool false, .string ⟨#[]⟩, .bool false, .string ⟨#[]⟩] 50 (0, 0))) ∧ Hid (wr.heap[b8]? = some (.cells #[.int .i64 p.road, .bool (zs p.off.num), .string (zx p.off.num), .bool false, .string (ry p.off.den)] 50 (0, 0))) ∧ ∃ U, wr = V.junk U) (fun s29 _ => m - (intOf s29).toNat)
      case atStart => exact ⟨0, t, rfl, Nat.zero_le _, HT, HTI, H5, H6, H8, HW.out⟩
      case round =>
        clear H5 H6 H8 HW HT HTI
        obtain ⟨k, y, rfl, hk, HT, HTI, H5, H6, H8, U, rfl⟩ := hrel
        haveI l5 : Lo b5 (V.junk U) := ⟨obj_lt H5.out⟩
        haveI l6 : Lo b6 (V.junk U) := ⟨obj_lt H6.out⟩
        haveI l8 : Lo b8 (V.junk U) := ⟨obj_lt H8.out⟩
        have y0 := obj_cell H5.out 0
        have y1 := obj_cell H5.out 1
        have y2 := obj_cell H5.out 2
        have y3 := obj_cell H5.out 3
        have z6 := obj_cell H6.out
        have f6 := obj_free H6.out
        have f5 := obj_free H5.out
        have f8 := obj_free H8.out
        simp at y0 y1 y2 y3
        by_cases hlt : k < m
        · have hkl : k < L.length := by rw [HM.out]; exact hlt
          obtain ⟨b, off, rfl, hb, c0, c1, c2, c3, c4, c5, c6, c7, c8⟩ := lg_cells HV.out k hkl
          haveI lb : Lo b w := ⟨hb⟩
          haveI lbV : Lo b V := ⟨Nat.lt_of_lt_of_le hb bwV.b.size⟩
          have hmem : L[k]! ∈ L := by rw [getElem!_pos L k hkl]; exact List.getElem_mem hkl
          obtain ⟨ga, gb, a0, a1, a2, a3⟩ := HL.out _ hmem
          have hdr : L.drop k = L[k]! :: L.drop (k + 1) := by rw [List.drop_eq_getElem_cons hkl, getElem!_pos L k hkl]
          have HT2 := Lib.hid HT.out
          rw [hdr] at HT2
          generalize L[k]! = x at c0 c1 c2 c3 c4 c5 c6 c7 c8 ga gb a0 a1 a2 a3 HT2
          rw [← bwV.b.cell (p := ⟨b, _, none⟩) hb] at c0 c1 c2 c3 c4 c5 c6 c7 c8
          have sa : Sm x.a := sm_g64 ga (by grind) (by grind)
          have sb : Sm x.b := sm_g64 gb (by grind) (by grind)
          obtain ⟨gy, t0, t1⟩ := HTI.out
          have gd : G64 (x.b - x.a) := g64_sub gb ga
          have sd : Sm (x.b - x.a) := sm_g64 gd (by grind) (by grind)
          have sy : Sm y := sm_g64 gy (by grind) (by grind)
          have sA : Sm (absR (x.b - x.a)) := sm_abs sd
          have hA0 := absR_nonneg (x.b - x.a)
          have hA1 : absR (x.b - x.a) ≤ 48 := by rw [absR_eq]; split <;> grind
          have gA := g64_abs gd
          have HS := Lib.hid (fun w' => sub_q x.b x.a w' sb sa)
          have HA := Lib.hid (fun w' => abs_q (x.b - x.a) w' (by have := sd.1; omega))
          have HC := Lib.hid (fun w' => compare_q y (absR (x.b - x.a)) w' sy sA)
          have cg := cmp_gt y (absR (x.b - x.a))
          generalize cmpR y (absR (x.b - x.a)) = gc at HC cg
          rcases cg with ⟨hgt, g1⟩ | ⟨hgt, g1⟩
          · have HS2 := Lib.hid (fun w' => sub_q y (absR (x.b - x.a)) w' sy sA)
            have HT3 : Hid (ptN p (L.drop (k + 1)) (y - absR (x.b - x.a)) = out) := Lib.hid (by have h := HT2.out; unfold ptN at h; rw [if_pos hgt] at h; exact h)
            have HTI3 : Hid (TmIn (y - absR (x.b - x.a))) := Lib.hid ⟨g64_sub gy gA, by grind, by grind⟩
            clear hA0 hA1 gA gy t0 t1 gd sd sy sA ga gb a0 a1 a2 a3 sa sb hgt HT2 HTI HT hdr hmem
            generalize y - absR (x.b - x.a) = y' at HS2 HT3 HTI3
            generalize absR (x.b - x.a) = n' at HA HC HS2
            generalize x.b - x.a = d at HS HA
            simp only [rV] at HS HA HC HS2
            have q0 := f5 0
            have q1 := f5 1
            have q2 := f5 2
            have q3 := f5 3
            clear f5 f6 f8 z6
            haveI sV : Bw V (((((V.junk U).setCell ⟨b5, 0, none⟩ (.bool (zs y'.num))).setCell ⟨b5, 1, none⟩ (.string (zx y'.num))).setCell ⟨b5, 2, none⟩ (.bool false)).setCell ⟨b5, 3, none⟩ (.string (ry y'.den))) := bw_set4 HD.out.1 _ _ _ _
            go_wp2_with fail
            refine (jk (HS.out _)).mono ?_
            rintro e _ ⟨rfl, X1, rfl⟩
            go_wp2_with fail
            refine (jk (HA.out _)).mono ?_
            rintro e _ ⟨rfl, X2, rfl⟩
            go_wp2_with fail
            refine (jk (HC.out _)).mono ?_
            rintro e _ ⟨rfl, X3, rfl⟩
            go_wp2_with fail
            refine (jk (HS2.out _)).mono ?_
            rintro e _ ⟨rfl, X4, rfl⟩
            go_wp2_with fail
            go_roundw
            case rel =>
              refine ⟨k + 1, y', by go_num, by omega, HT3, HTI3, Lib.hid ?_, Lib.hid ?_, Lib.hid ?_, ?_⟩
              · repeat (first | with_reducible refine obj_junk ?_ | with_reducible refine obj_old ?_)
                exact obj_set4' H5.out _ _ _ _
              · repeat (first | with_reducible refine obj_junk ?_ | with_reducible refine obj_old ?_)
                exact obj_set4o H6.out HD.out.2.2.2.1 _ _ _ _
              · repeat (first | with_reducible refine obj_junk ?_ | with_reducible refine obj_old ?_)
                exact obj_set4o H8.out HD.out.2.2.2.2.1 _ _ _ _
              · with_reducible exact ex_junk
            case measure => simp [intOf]; omega
          · have HO : Hid (out = ⟨x.road, x.a + (if x.b - x.a < 0 then -y else y)⟩) := Lib.hid (by have h := HT2.out; unfold ptN at h; rw [if_neg hgt] at h; exact h.symm)
            have HG := Lib.hid (fun w' => sign_q (x.b - x.a) w' (by have := sd.1; omega))
            have sg := sg_neg (x.b - x.a)
            generalize sgnZ (x.b - x.a).num = gs2 at HG sg
            have hyA : y ≤ absR (x.b - x.a) := by grind
            rcases sg with ⟨hd, g2⟩ | ⟨hd, g2⟩
            · have HNG := Lib.hid (fun w' => neg_q y w' (by have := sy.1; omega))
              have HAD := Lib.hid (fun w' => add_q x.a (-y) w' sa sy.neg)
              have gny : G64 (-y) := by
                have := g64_sub g64_zero gy
                rwa [show (0 : Rat) - y = -y by grind] at this
              have so : Sm (x.a + -y) := sm_g64 (g64_add ga gny) (by grind) (by grind)
              rw [if_pos hd] at HO
              clear hA0 hA1 gA gy t0 t1 gd sd sA ga gb a0 a1 a2 a3 sb hgt HT2 HTI HT hdr hmem hd hyA gny sy sa
              generalize x.a + -y = z at HAD HO so
              generalize -y = y9 at HNG HAD
              generalize absR (x.b - x.a) = n' at HA HC
              generalize x.b - x.a = d at HS HA HG
              simp only [rV] at HS HA HC HG HNG HAD
              have HN2 : Hid (∀ (w' : World) [Bw w w'], Calls Tryz.prog 34 #[.agg #[v1, v2], .agg #[.int .i64 x.road, .bool (zs z.num), .string (zx z.num), .bool false, .string (ry z.den)]] w' fun e w2 => e = .returned (.tuple #[.agg #[.int .i64 res.road, .bool (zs res.off.num), .string (zx res.off.num), .bool false, .string (ry res.off.den)], .int .i64 rc]) ∧ Below w'.heap.size w' w2) := Lib.hid (by have h := HNO.out; rw [HO.out] at h; exact h so)
              clear HNO HO so
              haveI s0 : Bw V (((((V.junk U).setCell ⟨b5, 0, none⟩ (.bool (zs y9.num))).setCell ⟨b5, 1, none⟩ (.string (zx y9.num))).setCell ⟨b5, 2, none⟩ (.bool false)).setCell ⟨b5, 3, none⟩ (.string (ry y9.den))) := bw_set4 HD.out.1 _ _ _ _
              have q0 := f5 0
              have q1 := f5 1
              have q2 := f5 2
              have q3 := f5 3
              go_wp2_with fail
              refine (jk (HS.out _)).mono ?_
              rintro e _ ⟨rfl, X1, rfl⟩
              go_wp2_with fail
              refine (jk (HA.out _)).mono ?_
              rintro e _ ⟨rfl, X2, rfl⟩
              go_wp2_with fail
              refine (jk (HC.out _)).mono ?_
              rintro e _ ⟨rfl, X3, rfl⟩
              go_wp2_with fail
              refine (jk (HG.out _)).mono ?_
              rintro e _ ⟨rfl, X4, rfl⟩
              go_wp2_with fail
              refine (jk (HNG.out _)).mono ?_
              rintro e _ ⟨rfl, X5, rfl⟩
              go_upto_region 13 with fail
              obtain ⟨W9, hW9⟩ : ∃ W9, W9 = ((((((((((((V.junk U).setCell ⟨b5, 0, none⟩ (.bool (zs y9.num))).setCell ⟨b5, 1, none⟩ (.string (zx y9.num))).setCell ⟨b5, 2, none⟩ (.bool false)).setCell ⟨b5, 3, none⟩ (.string (ry y9.den))).alloc (.cells #[.int .i64 x.road, .bool (zs x.a.num), .string (zx x.a.num), .bool false, .string (ry x.a.den), .bool (zs x.b.num), .string (zx x.b.num), .bool false, .string (ry x.b.den)] 92)).junk X1).alloc (.cells #[.bool (zs d.num), .string (zx d.num), .bool false, .string (ry d.den)] 48)).junk X2).alloc (.cells #[.bool (zs n'.num), .string (zx n'.num), .bool false, .string (ry n'.den)] 48)).junk X3).junk X4).junk X5 := ⟨_, rfl⟩
              have H5 : Hid (W9.heap[b5]? = some (.cells #[.bool (zs y9.num), .string (zx y9.num), .bool false, .string (ry y9.den)] 48 (0, 0))) := Lib.hid (by rw [hW9]; (repeat (first | with_reducible refine obj_junk ?_ | with_reducible refine obj_old ?_)); exact obj_set4' H5.out _ _ _ _)
              have H6 : Hid (W9.heap[b6]? = some (.cells #[.int .i64 0, .bool false, .string ⟨#[]⟩, .bool false, .string ⟨#[]⟩] 50 (0, 0))) := Lib.hid (by rw [hW9]; (repeat (first | with_reducible refine obj_junk ?_ | with_reducible refine obj_old ?_)); exact obj_set4o H6.out HD.out.2.2.2.1 _ _ _ _)
              have H8 : Hid (W9.heap[b8]? = some (.cells #[.int .i64 p.road, .bool (zs p.off.num), .string (zx p.off.num), .bool false, .string (ry p.off.den)] 50 (0, 0))) := Lib.hid (by rw [hW9]; (repeat (first | with_reducible refine obj_junk ?_ | with_reducible refine obj_old ?_)); exact obj_set4o H8.out HD.out.2.2.2.2.1 _ _ _ _)
              have H10 : Hid (W9.heap[(V.junk U).heap.size]? = some (.cells #[.int .i64 x.road, .bool (zs x.a.num), .string (zx x.a.num), .bool false, .string (ry x.a.den), .bool (zs x.b.num), .string (zx x.b.num), .bool false, .string (ry x.b.den)] 92 (0, 0))) := Lib.hid (by rw [hW9]; (repeat (first | with_reducible exact obj_at' (by simp) | with_reducible refine obj_junk ?_ | with_reducible refine obj_old ?_)))
              haveI bV9 : Bw V W9 := by rw [hW9]; infer_instance
              haveI bw9 : Bw w W9 := ⟨bwV.b.trans (bV9.b.mono bwV.b.size)⟩
              haveI lV9 : Lo w.heap.size W9 := ⟨Nat.lt_of_lt_of_le lV0.lt bV9.b.size⟩
              have n09 := (bV9.b.cell (p := ⟨w.heap.size, 0, none⟩) lV0.lt).trans n0
              have n19 := (bV9.b.cell (p := ⟨w.heap.size, 1, none⟩) lV0.lt).trans n1
              rw [← hW9]
              clear hW9 c0 c1 c2 c3 c4 c5 c6 c7 c8 y0 y1 y2 y3 q0 q1 q2 q3
              generalize (V.junk U).heap.size = b10 at *
              haveI l59 : Lo b5 W9 := ⟨obj_lt H5.out⟩
              have u0 := obj_cell H5.out 0
              have u1 := obj_cell H5.out 1
              have u2 := obj_cell H5.out 2
              have u3 := obj_cell H5.out 3
              simp at u0 u1 u2 u3
              haveI l69 : Lo b6 W9 := ⟨obj_lt H6.out⟩
              have z60 := obj_cell H6.out 0
              have z61 := obj_cell H6.out 1
              have z62 := obj_cell H6.out 2
              have z63 := obj_cell H6.out 3
              have z64 := obj_cell H6.out 4
              simp at z60 z61 z62 z63 z64
              haveI l89 : Lo b8 W9 := ⟨obj_lt H8.out⟩
              have p0 := obj_cell H8.out 0
              have p1 := obj_cell H8.out 1
              have p2 := obj_cell H8.out 2
              have p3 := obj_cell H8.out 3
              have p4 := obj_cell H8.out 4
              simp at p0 p1 p2 p3 p4
              haveI l109 : Lo b10 W9 := ⟨obj_lt H10.out⟩
              have k0 := obj_cell H10.out 0
              have k1 := obj_cell H10.out 1
              have k2 := obj_cell H10.out 2
              have k3 := obj_cell H10.out 3
              have k4 := obj_cell H10.out 4
              simp at k0 k1 k2 k3 k4
              have f60 := obj_free H6.out 0
              have f61 := obj_free H6.out 1
              have f62 := obj_free H6.out 2
              have f63 := obj_free H6.out 3
              have f64 := obj_free H6.out 4
              have r0 := obj_free H8.out 0
              have r1 := obj_free H8.out 1
              have r2 := obj_free H8.out 2
              have r3 := obj_free H8.out 3
              have r4 := obj_free H8.out 4
              refine wp_jtail 7 (by kernel_rfl) (by kernel_rfl) ?_
              simp only [List.take_succ_cons, List.take_zero, List.drop_succ_cons, List.drop_zero]
              repeat (go_big_quiet_step (first | (with_reducible exact jq (HAD.out _)) | fail))
              refine wpQuiet_nil ?_
              rintro _ ⟨X9, rfl⟩
              have ne1 : ¬ w.heap.size = b8 := by have := HD.out.2.2.1; have := lV0.lt; omega
              have ne2 : ¬ b8 = w.heap.size := by omega
              have ne3 : ¬ b6 = b8 := HD.out.2.2.2.2.2.1
              have ne4 : ¬ b8 = b6 := HD.out.2.2.2.2.2.2
              haveI s2 : Bw w ((((((W9).setCell ⟨b8, 0, none⟩ (.int .i64 x.road)).setCell ⟨b8, 1, none⟩ (.bool (zs z.num))).setCell ⟨b8, 2, none⟩ (.string (zx z.num))).setCell ⟨b8, 3, none⟩ (.bool false)).setCell ⟨b8, 4, none⟩ (.string (ry z.den))) := bw_set5 (Nat.le_trans bwV.b.size HD.out.2.2.1) _ _ _ _ _
              go_wp2_with fail
              haveI sE : Bw w ((((((((((((W9).setCell ⟨b8, 0, none⟩ (.int .i64 x.road)).setCell ⟨b8, 1, none⟩ (.bool (zs z.num))).setCell ⟨b8, 2, none⟩ (.string (zx z.num))).setCell ⟨b8, 3, none⟩ (.bool false)).setCell ⟨b8, 4, none⟩ (.string (ry z.den)))).setCell ⟨b6, 0, none⟩ (.int .i64 res.road)).setCell ⟨b6, 1, none⟩ (.bool (zs res.off.num))).setCell ⟨b6, 2, none⟩ (.string (zx res.off.num))).setCell ⟨b6, 3, none⟩ (.bool false)).setCell ⟨b6, 4, none⟩ (.string (ry res.off.den))) := bw_set5 (Nat.le_trans bwV.b.size HD.out.2.1) _ _ _ _ _
              refine (jk (HN2.out _)).mono ?_
              rintro e _ ⟨rfl, X10, rfl⟩
              go_wp2_with fail
              exact bodyPost_ret (v := .tuple #[.agg #[.int .i64 res.road, .bool (zs res.off.num), .string (zx res.off.num), .bool false, .string (ry res.off.den)], .int .i64 rc]) (by simp [results, Tryz.results33, go_sem, z60, z61, z62, z63, z64, f60, f61, f62, f63, f64]) rfl ⟨rfl, Bw.b⟩
            · have HAD := Lib.hid (fun w' => add_q x.a y w' sa sy)
              have so : Sm (x.a + y) := sm_g64 (g64_add ga gy) (by grind) (by grind)
              rw [if_neg hd] at HO
              clear hA0 hA1 gA gy t0 t1 gd sd sA ga gb a0 a1 a2 a3 sb hgt HT2 HTI HT hdr hmem hd hyA sy sa
              generalize x.a + y = z at HAD HO so
              generalize absR (x.b - x.a) = n' at HA HC
              generalize x.b - x.a = d at HS HA HG
              simp only [rV] at HS HA HC HG HAD
              have HN2 : Hid (∀ (w' : World) [Bw w w'], Calls Tryz.prog 34 #[.agg #[v1, v2], .agg #[.int .i64 x.road, .bool (zs z.num), .string (zx z.num), .bool false, .string (ry z.den)]] w' fun e w2 => e = .returned (.tuple #[.agg #[.int .i64 res.road, .bool (zs res.off.num), .string (zx res.off.num), .bool false, .string (ry res.off.den)], .int .i64 rc]) ∧ Below w'.heap.size w' w2) := Lib.hid (by have h := HNO.out; rw [HO.out] at h; exact h so)
              clear HNO HO so
              have q0 := f5 0
              have q1 := f5 1
              have q2 := f5 2
              have q3 := f5 3
              go_wp2_with fail
              refine (jk (HS.out _)).mono ?_
              rintro e _ ⟨rfl, X1, rfl⟩
              go_wp2_with fail
              refine (jk (HA.out _)).mono ?_
              rintro e _ ⟨rfl, X2, rfl⟩
              go_wp2_with fail
              refine (jk (HC.out _)).mono ?_
              rintro e _ ⟨rfl, X3, rfl⟩
              go_wp2_with fail
              refine (jk (HG.out _)).mono ?_
              rintro e _ ⟨rfl, X4, rfl⟩
              go_upto_region 13 with fail
              obtain ⟨W9, hW9⟩ : ∃ W9, W9 = (((((((V.junk U).alloc (.cells #[.int .i64 x.road, .bool (zs x.a.num), .string (zx x.a.num), .bool false, .string (ry x.a.den), .bool (zs x.b.num), .string (zx x.b.num), .bool false, .string (ry x.b.den)] 92)).junk X1).alloc (.cells #[.bool (zs d.num), .string (zx d.num), .bool false, .string (ry d.den)] 48)).junk X2).alloc (.cells #[.bool (zs n'.num), .string (zx n'.num), .bool false, .string (ry n'.den)] 48)).junk X3).junk X4 := ⟨_, rfl⟩
              have H5 : Hid (W9.heap[b5]? = some (.cells #[.bool (zs y.num), .string (zx y.num), .bool false, .string (ry y.den)] 48 (0, 0))) := Lib.hid (by rw [hW9]; exact obj_junk (obj_junk (obj_old (obj_junk (obj_old (obj_junk (obj_old H5.out)))))))
              have H6 : Hid (W9.heap[b6]? = some (.cells #[.int .i64 0, .bool false, .string ⟨#[]⟩, .bool false, .string ⟨#[]⟩] 50 (0, 0))) := Lib.hid (by rw [hW9]; exact obj_junk (obj_junk (obj_old (obj_junk (obj_old (obj_junk (obj_old H6.out)))))))
              have H8 : Hid (W9.heap[b8]? = some (.cells #[.int .i64 p.road, .bool (zs p.off.num), .string (zx p.off.num), .bool false, .string (ry p.off.den)] 50 (0, 0))) := Lib.hid (by rw [hW9]; exact obj_junk (obj_junk (obj_old (obj_junk (obj_old (obj_junk (obj_old H8.out)))))))
              have H10 : Hid (W9.heap[(V.junk U).heap.size]? = some (.cells #[.int .i64 x.road, .bool (zs x.a.num), .string (zx x.a.num), .bool false, .string (ry x.a.den), .bool (zs x.b.num), .string (zx x.b.num), .bool false, .string (ry x.b.den)] 92 (0, 0))) := Lib.hid (by rw [hW9]; (repeat (first | with_reducible exact obj_at' (by simp) | with_reducible refine obj_junk ?_ | with_reducible refine obj_old ?_)))
              haveI bV9 : Bw V W9 := by rw [hW9]; infer_instance
              haveI bw9 : Bw w W9 := ⟨bwV.b.trans (bV9.b.mono bwV.b.size)⟩
              haveI lV9 : Lo w.heap.size W9 := ⟨Nat.lt_of_lt_of_le lV0.lt bV9.b.size⟩
              have n09 := (bV9.b.cell (p := ⟨w.heap.size, 0, none⟩) lV0.lt).trans n0
              have n19 := (bV9.b.cell (p := ⟨w.heap.size, 1, none⟩) lV0.lt).trans n1
              rw [← hW9]
              clear hW9 c0 c1 c2 c3 c4 c5 c6 c7 c8 y0 y1 y2 y3
              generalize (V.junk U).heap.size = b10 at *
              haveI l59 : Lo b5 W9 := ⟨obj_lt H5.out⟩
              have u0 := obj_cell H5.out 0
              have u1 := obj_cell H5.out 1
              have u2 := obj_cell H5.out 2
              have u3 := obj_cell H5.out 3
              simp at u0 u1 u2 u3
              haveI l69 : Lo b6 W9 := ⟨obj_lt H6.out⟩
              have z60 := obj_cell H6.out 0
              have z61 := obj_cell H6.out 1
              have z62 := obj_cell H6.out 2
              have z63 := obj_cell H6.out 3
              have z64 := obj_cell H6.out 4
              simp at z60 z61 z62 z63 z64
              haveI l89 : Lo b8 W9 := ⟨obj_lt H8.out⟩
              have p0 := obj_cell H8.out 0
              have p1 := obj_cell H8.out 1
              have p2 := obj_cell H8.out 2
              have p3 := obj_cell H8.out 3
              have p4 := obj_cell H8.out 4
              simp at p0 p1 p2 p3 p4
              haveI l109 : Lo b10 W9 := ⟨obj_lt H10.out⟩
              have k0 := obj_cell H10.out 0
              have k1 := obj_cell H10.out 1
              have k2 := obj_cell H10.out 2
              have k3 := obj_cell H10.out 3
              have k4 := obj_cell H10.out 4
              simp at k0 k1 k2 k3 k4
              have f60 := obj_free H6.out 0
              have f61 := obj_free H6.out 1
              have f62 := obj_free H6.out 2
              have f63 := obj_free H6.out 3
              have f64 := obj_free H6.out 4
              have r0 := obj_free H8.out 0
              have r1 := obj_free H8.out 1
              have r2 := obj_free H8.out 2
              have r3 := obj_free H8.out 3
              have r4 := obj_free H8.out 4
              refine wp_jtail 7 (by kernel_rfl) (by kernel_rfl) ?_
              simp only [List.take_succ_cons, List.take_zero, List.drop_succ_cons, List.drop_zero]
              repeat (go_big_quiet_step (first | (with_reducible exact jq (HAD.out _)) | fail))
              refine wpQuiet_nil ?_
              rintro _ ⟨X9, rfl⟩
              have ne1 : ¬ w.heap.size = b8 := by have := HD.out.2.2.1; have := lV0.lt; omega
              have ne2 : ¬ b8 = w.heap.size := by omega
              have ne3 : ¬ b6 = b8 := HD.out.2.2.2.2.2.1
              have ne4 : ¬ b8 = b6 := HD.out.2.2.2.2.2.2
              haveI s2 : Bw w ((((((W9).setCell ⟨b8, 0, none⟩ (.int .i64 x.road)).setCell ⟨b8, 1, none⟩ (.bool (zs z.num))).setCell ⟨b8, 2, none⟩ (.string (zx z.num))).setCell ⟨b8, 3, none⟩ (.bool false)).setCell ⟨b8, 4, none⟩ (.string (ry z.den))) := bw_set5 (Nat.le_trans bwV.b.size HD.out.2.2.1) _ _ _ _ _
              go_wp2_with fail
              haveI sE : Bw w ((((((((((((W9).setCell ⟨b8, 0, none⟩ (.int .i64 x.road)).setCell ⟨b8, 1, none⟩ (.bool (zs z.num))).setCell ⟨b8, 2, none⟩ (.string (zx z.num))).setCell ⟨b8, 3, none⟩ (.bool false)).setCell ⟨b8, 4, none⟩ (.string (ry z.den)))).setCell ⟨b6, 0, none⟩ (.int .i64 res.road)).setCell ⟨b6, 1, none⟩ (.bool (zs res.off.num))).setCell ⟨b6, 2, none⟩ (.string (zx res.off.num))).setCell ⟨b6, 3, none⟩ (.bool false)).setCell ⟨b6, 4, none⟩ (.string (ry res.off.den))) := bw_set5 (Nat.le_trans bwV.b.size HD.out.2.1) _ _ _ _ _
              refine (jk (HN2.out _)).mono ?_
              rintro e _ ⟨rfl, X10, rfl⟩
              go_wp2_with fail
              exact bodyPost_ret (v := .tuple #[.agg #[.int .i64 res.road, .bool (zs res.off.num), .string (zx res.off.num), .bool false, .string (ry res.off.den)], .int .i64 rc]) (by simp [results, Tryz.results33, go_sem, z60, z61, z62, z63, z64, f60, f61, f62, f63, f64]) rfl ⟨rfl, Bw.b⟩
        · obtain rfl : k = m := by omega
          have HO : Hid (out = p) := Lib.hid (by have h := HT.out; rw [List.drop_eq_nil_of_le (by rw [HM.out]; exact Nat.le_refl _)] at h; exact h.symm)
          have HN2 : Hid (∀ (w' : World) [Bw w w'], Calls Tryz.prog 34 #[.agg #[v1, v2], .agg #[.int .i64 p.road, .bool (zs p.off.num), .string (zx p.off.num), .bool false, .string (ry p.off.den)]] w' fun e w2 => e = .returned (.tuple #[.agg #[.int .i64 res.road, .bool (zs res.off.num), .string (zx res.off.num), .bool false, .string (ry res.off.den)], .int .i64 rc]) ∧ Below w'.heap.size w' w2) := Lib.hid (by have h := HNO.out; rw [HO.out] at h; exact h HPS.out)
          have z60 := z6 0
          have z61 := z6 1
          have z62 := z6 2
          have z63 := z6 3
          have z64 := z6 4
          simp at z60 z61 z62 z63 z64
          have f60 := f6 0
          have f61 := f6 1
          have f62 := f6 2
          have f63 := f6 3
          have f64 := f6 4
          have p0 := obj_cell H8.out 0
          have p1 := obj_cell H8.out 1
          have p2 := obj_cell H8.out 2
          have p3 := obj_cell H8.out 3
          have p4 := obj_cell H8.out 4
          simp at p0 p1 p2 p3 p4
          clear f5 f6 f8 z6 HNO HO HT HTI
          go_wp2_with fail
          haveI sE : Bw w ((((((V.junk U).setCell ⟨b6, 0, none⟩ (.int .i64 res.road)).setCell ⟨b6, 1, none⟩ (.bool (zs res.off.num))).setCell ⟨b6, 2, none⟩ (.string (zx res.off.num))).setCell ⟨b6, 3, none⟩ (.bool false)).setCell ⟨b6, 4, none⟩ (.string (ry res.off.den))) := bw_set5 (Nat.le_trans bwV.b.size HD.out.2.1) _ _ _ _ _
          refine (jk (HN2.out _)).mono ?_
          rintro e _ ⟨rfl, X10, rfl⟩
          go_wp2_with fail
          exact bodyPost_ret (v := .tuple #[.agg #[.int .i64 res.road, .bool (zs res.off.num), .string (zx res.off.num), .bool false, .string (ry res.off.den)], .int .i64 rc]) (by simp [results, Tryz.results33, go_sem, z60, z61, z62, z63, z64, f60, f61, f62, f63, f64]) rfl ⟨rfl, Bw.b⟩
end Go.Proofs.YtopfgkbpakfccaaGreatDoor
