/-
  The law's comparison of two ways that are equal, walked.
-/
import Derived.Test.YtopfgkbpakfccaaGreatDoorAlgW
import Derived.Test.YtopfgkbpakfccaaGreatDoorShoG
set_option linter.unusedSimpArgs false
set_option linter.unusedVariables false
namespace Go.Proofs.YtopfgkbpakfccaaGreatDoor
open Go Go.RowKit Go.Vi
attribute [local go_sem ↓] lo_lt lo_ne lo_ne'
attribute [local go_sem] junk_cell junk_frozen junk_setCell junk_drew drew_junk
attribute [local go_sem high] eqR_run eqG_run eqP_run neR_run
theorem neP_run (p : Plc) (w : World) (ha : Sm p.off) : (binOp .neq 50 (.agg #[.int .i64 p.road, .bool (zs p.off.num), .string (zx p.off.num), .bool false, .string (ry p.off.den)]) (.agg #[.int .i64 p.road, .bool (zs p.off.num), .string (zx p.off.num), .bool false, .string (ry p.off.den)])).run Tryz.prog w = .ok (.bool false) w := by
  have h := eqP_run p p w ha ha
  simp [go_sem] at h ⊢
theorem neL_run (x : Lg) (w : World) : (binOp .neq 92 (.agg #[.int .i64 x.road, .bool (zs x.a.num), .string (zx x.a.num), .bool false, .string (ry x.a.den), .bool (zs x.b.num), .string (zx x.b.num), .bool false, .string (ry x.b.den)]) (.agg #[.int .i64 x.road, .bool (zs x.a.num), .string (zx x.a.num), .bool false, .string (ry x.a.den), .bool (zs x.b.num), .string (zx x.b.num), .bool false, .string (ry x.b.den)])).run Tryz.prog w = .ok (.bool false) w := by
  simp [go_sem]
attribute [local go_sem high] neP_run neL_run
set_option maxRecDepth 100000 in
set_option maxHeartbeats 4000000 in
theorem swy_q (p q : Plc) (L : List Lg) (len : Rat) (u v : Value) (w : World) (hu : Sl w.heap.size w 9 u (L.map Lg.cs)) (hv : Sl w.heap.size w 9 v (L.map Lg.cs)) (hm : L.length ≤ 1000000) (hp : Sm p.off) (hq : Sm q.off) (hl : Sm len) :
    Calls Tryz.prog 37 #[.agg (wcs p q u len), .agg (wcs p q v len)] w fun e w' => e = .returned (.bool true) ∧ Below w.heap.size w w' := by
  have HU := Lib.hid hu
  have HV := Lib.hid hv
  obtain ⟨a, m, c, rfl, hn, _, _⟩ := hu.open
  obtain ⟨a', m', c', rfl, hn', _, _⟩ := hv.open
  rw [List.length_map] at hn hn'
  obtain rfl : m = m' := by omega
  have HM := Lib.hid hn
  have hm2 : m ≤ 1000000 := by omega
  unfold wcs
  clear hu hv hn hn' hm
  go_enter Tryz.func37, Tryz.ntmps37
  go_wp2_with fail
  obtain ⟨V, hV⟩ : ∃ V, V = ((w.alloc (.cells #[.int .i64 p.road, .bool (zs p.off.num), .string (zx p.off.num), .bool false, .string (ry p.off.den), .int .i64 q.road, .bool (zs q.off.num), .string (zx q.off.num), .bool false, .string (ry q.off.den), .slice a m c, .bool (zs len.num), .string (zx len.num), .bool false, .string (ry len.den)] 55)).alloc (.cells #[.int .i64 p.road, .bool (zs p.off.num), .string (zx p.off.num), .bool false, .string (ry p.off.den), .int .i64 q.road, .bool (zs q.off.num), .string (zx q.off.num), .bool false, .string (ry q.off.den), .slice a' m c', .bool (zs len.num), .string (zx len.num), .bool false, .string (ry len.den)] 55)) := ⟨_, rfl⟩
  haveI bwV : Bw w V := by rw [hV]; infer_instance
  haveI l0 : Lo w.heap.size V := by rw [hV]; infer_instance
  haveI l1 : Lo (w.heap.size + 1) V := by rw [hV]; infer_instance
  have s0 : V.cell? ⟨w.heap.size, 10, none⟩ = some (.slice a m c) := by rw [hV]; simp [go_sem]
  have s1 : V.cell? ⟨w.heap.size + 1, 10, none⟩ = some (.slice a' m c') := by rw [hV]; simp [go_sem]
  have HW : Hid (∃ U, V = V.junk U) := Lib.hid ⟨V, junk_self V⟩
  rw [← hV]
  clear hV
  go_loopw [5] (fun s5 wr => ∃ (k : Nat), s5 = .int .i64 k ∧ k ≤ m ∧ ∃ U, wr = V.junk U) (fun s5 _ => m - (intOf s5).toNat)
  case atStart => exact ⟨0, rfl, Nat.zero_le _, HW.out⟩
  case round =>
    clear HW
    obtain ⟨k, rfl, hk, U, rfl⟩ := hrel
    by_cases hlt : k < m
    · have hkl : k < L.length := by rw [HM.out]; exact hlt
      obtain ⟨b, off, rfl, hb, c0, c1, c2, c3, c4, c5, c6, c7, c8⟩ := lg_cells HU.out k hkl
      obtain ⟨b', off', rfl, hb', d0, d1, d2, d3, d4, d5, d6, d7, d8⟩ := lg_cells HV.out k hkl
      haveI lb : Lo b V := ⟨Nat.lt_of_lt_of_le hb bwV.b.size⟩
      haveI lb' : Lo b' V := ⟨Nat.lt_of_lt_of_le hb' bwV.b.size⟩
      rw [← bwV.b.cell (p := ⟨b, _, none⟩) hb] at c0 c1 c2 c3 c4 c5 c6 c7 c8
      rw [← bwV.b.cell (p := ⟨b', _, none⟩) hb'] at d0 d1 d2 d3 d4 d5 d6 d7 d8
      generalize L[k]! = x at *
      go_wp2_with fail
      refine wp_jregion (by kernel_rfl) (by kernel_rfl) ?_
      repeat (go_big_quiet_step (first | (fail) | fail))
      refine wpQuiet_nil ?_
      rintro _ ⟨X, rfl⟩
      go_wp2_with fail
      go_roundw
      case rel =>
        refine ⟨k + 1, by go_num, by omega, ?_⟩
        with_reducible exact ex_junk
      case measure => simp [intOf]; omega
    · obtain rfl : k = m := by omega
      go_wp2_with fail
      go_ret
      exact ⟨rfl, Bw.b⟩
end Go.Proofs.YtopfgkbpakfccaaGreatDoor
