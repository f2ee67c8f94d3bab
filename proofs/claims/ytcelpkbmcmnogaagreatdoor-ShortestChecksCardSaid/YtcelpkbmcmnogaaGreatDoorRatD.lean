/-
 Fractions of small numbers as Lean's own: Den, cross, Add, Neg, Sub, Abs, Sign, Mul, FromInt, Make, FromInts.
-/
import Derived.Test.YtcelpkbmcmnogaaGreatDoorRatB
set_option linter.unusedSimpArgs false
set_option linter.unusedVariables false
namespace Go.Proofs.YtcelpkbmcmnogaaGreatDoor
open Go Go.RowKit Go.Vi
attribute [local go_sem ↓] lo_lt lo_ne lo_ne'
attribute [local go_sem] junk_cell junk_frozen junk_setCell junk_drew drew_junk
/-- An integer's sign and magnitude as the program keeps them, behind names. -/
def zs (z : Int) : Bool := decide (z < 0)
def zx (z : Int) : ByteArray := magS z.natAbs
def ry (d : Nat) : ByteArray := if d = 1 then ⟨#[]⟩ else magS d
theorem zV_eq (z : Int) : zV z = .agg #[.bool (zs z), .string (zx z)] := rfl
/-- A fraction as the program keeps it. -/
def rV (q : Rat) : Value := .agg #[.bool (zs q.num), .string (zx q.num), .bool false, .string (ry q.den)]
theorem ry_nil {d : Nat} (h : d = 1) : ry d = ⟨#[]⟩ := by unfold ry; rw [if_pos h]
theorem ry_is {d : Nat} (h : d ≠ 1) : .string (ry d) = Value.string (zx d) := by unfold ry; rw [if_neg h]; rfl
theorem ry_ne {d : Nat} (h : d ≠ 1) (h0 : d ≠ 0) (h1 : d < 18446744073709551616) : (ry d).toList.isEmpty = false := by
 unfold ry
 rw [if_neg h, magS_empty h1]
 simpa using h0
theorem den_q (q : Rat) (w : World) (h : q.den < 18446744073709551616) :
  Calls Tryz.prog 61 #[rV q] w fun e w' => e = .returned (zV q.den) ∧ Below w.heap.size w w' := by
 unfold rV
 by_cases hd : q.den = 1
 ·rw [ry_nil hd, hd, zV_eq]
  have HO := Lib.hid (fun w' => one_ex w')
  rw [show zV (1 : Int) = .agg #[.bool (zs 1), .string (zx 1)] from rfl] at HO
  clear hd h
  go_enter Tryz.func61, Tryz.ntmps61
  go_wp2_with fail
  refine (jk (HO.out _)).mono ?_
  rintro e _ ⟨rfl, X, rfl⟩
  go_wp2_with fail
  exact bodyPost_ret (v := .agg #[.bool (zs 1), .string (zx 1)]) (by simp [results, Tryz.results61, go_sem]) rfl ⟨rfl, Bw.b⟩
 ·have he := ry_ne hd q.den_nz h
  have hz : zV (q.den : Int) = .agg #[.bool false, .string (ry q.den)] := by
   rw [zV_eq, ry_is hd]; congr
  rw [hz]
  clear hz hd h
  go_enter Tryz.func61, Tryz.ntmps61
  go_wp2_with fail
  exact bodyPost_ret (v := .agg #[.bool false, .string (ry q.den)]) (by simp [results, Tryz.results61, go_sem]) rfl ⟨rfl, Bw.b⟩
/-- The canonical form. -/
theorem canon_q (n : Int) (d : Nat) (w : World) (hn : n.natAbs < 18446744073709551616) (hd : d < 18446744073709551616) (h0 : d ≠ 0) :
  Calls Tryz.prog 29 #[zV n, zV d] w fun e w' => e = .returned (rV (mkRat n d)) ∧ Below w.heap.size w w' := by
 have h1 := canon_ex (decide (n < 0)) n.natAbs d w (fun h => by have := of_decide_eq_true h; omega) hn hd h0
 have e1 : zV (d : Int) = .agg #[.bool false, .string (magS d)] := by rw [zV_nat, sg_cells]; rfl
 have e2 : zV n = .agg #[.bool (decide (n < 0)), .string (magS n.natAbs)] := rfl
 have e3 : rZ (sg (decide (n < 0)) (n.natAbs / Nat.gcd n.natAbs d)) (d / Nat.gcd n.natAbs d) = rV (mkRat n d) := by
  have hg := Nat.gcd_dvd_left n.natAbs d
  have k1 : (mkRat n d).num = sg (decide (n < 0)) (n.natAbs / Nat.gcd n.natAbs d) := by
   rw [← Rat.normalize_eq_mkRat h0, Rat.normalize_eq]
   show n / ((n.natAbs.gcd d : Nat) : Int) = _
   have hs := sg_dec n
   generalize n.natAbs.gcd d = g at hg ⊢
   generalize n.natAbs = p at hg hs ⊢
   generalize decide (n < 0) = t at hs ⊢
   rw [← hs]
   obtain ⟨c, rfl⟩ := hg
   by_cases hz : g = 0
   ·subst hz; cases t <;> simp [sg]
   ·have hgi : (g : Int) ≠ 0 := by omega
    rw [Nat.mul_div_cancel_left _ (by omega)]
    cases t
    ·simp [sg, Int.mul_ediv_cancel_left _ hgi]
    ·simp only [sg, if_true, Int.natCast_mul]
     rw [← Int.mul_neg, Int.mul_ediv_cancel_left _ hgi]
  have k2 : (mkRat n d).den = d / Nat.gcd n.natAbs d := by rw [← Rat.normalize_eq_mkRat h0, Rat.normalize_eq]
  rw [← k1, ← k2]
  rfl
 rw [e1, e2, ← e3]
 exact h1
/-- Small numerator and denominator. -/
def Sm (q : Rat) : Prop := q.num.natAbs < 2147483648 ∧ q.den < 2147483648
theorem ry_inj {d e : Nat} (hd : d < 18446744073709551616) (he : e < 18446744073709551616) (h0 : d ≠ 0) (h1 : e ≠ 0) (h : (ry d).toList = (ry e).toList) : d = e := by
 have h := toList_inj h
 have hz : ∀ {k : Nat}, k < 18446744073709551616 → k ≠ 0 → magS k ≠ ⟨#[]⟩ := fun hk hk0 e => hk0 (magS_inj hk (by omega) (e.trans magS_zero.symm))
 unfold ry at h
 by_cases a : d = 1
 ·by_cases b : e = 1
  ·rw [a, b]
  ·rw [if_pos a, if_neg b] at h; exact absurd h.symm (hz he h1)
 ·by_cases b : e = 1
  ·rw [if_neg a, if_pos b] at h; exact absurd h (hz hd h0)
  ·rw [if_neg a, if_neg b] at h; exact magS_inj hd he h
/-- Both numerators over one denominator. -/
def crs (a b : Rat) : Int × Int × Nat := if a.den = b.den then (a.num, b.num, a.den) else (a.num * b.den, b.num * a.den, a.den * b.den)
theorem natAbs_small {z : Int} {d : Nat} (h : z.natAbs < 2147483648) (hd : d < 2147483648) : (z * d).natAbs < 4611686018427387904 := by
 rw [Int.natAbs_mul]
 have h1 : z.natAbs * (d : Int).natAbs ≤ 2147483647 * 2147483647 := Nat.mul_le_mul (by omega) (by omega)
 omega
theorem nat_small {c d : Nat} (h : c < 2147483648) (hd : d < 2147483648) : c * d < 4611686018427387904 := by
 have h1 : c * d ≤ 2147483647 * 2147483647 := Nat.mul_le_mul (by omega) (by omega)
 omega
set_option maxHeartbeats 1000000 in
theorem cross_q (a b : Rat) (w : World) (ha : Sm a) (hb : Sm b) :
  Calls Tryz.prog 28 #[rV a, rV b] w fun e w' => e = .returned (.tuple #[zV (crs a b).1, zV (crs a b).2.1, zV (crs a b).2.2]) ∧ Below w.heap.size w w' := by
 obtain ⟨ha1, ha2⟩ := ha
 obtain ⟨hb1, hb2⟩ := hb
 have HA := Lib.hid (fun w' => den_q a w' (by omega))
 have HB := Lib.hid (fun w' => den_q b w' (by omega))
 unfold crs
 by_cases h : a.den = b.den
 ·rw [if_pos h]
  simp only [rV, zV_eq] at HA ⊢
  rw [← h]
  clear HB h ha1 ha2 hb1 hb2
  go_enter Tryz.func28, Tryz.ntmps28
  go_wp2_with fail
  go_region_held3 (fun w' => w'.cell? ⟨w.heap.size, 0, none⟩ = some (.bool (zs a.num)) ∧ w'.cell? ⟨w.heap.size, 1, none⟩ = some (.string (zx a.num)) ∧ w'.cell? ⟨w.heap.size, 2, none⟩ = some (.bool false) ∧ w'.cell? ⟨w.heap.size, 3, none⟩ = some (.string (ry a.den)) ∧ w'.cell? ⟨w.heap.size + 1, 0, none⟩ = some (.bool (zs b.num)) ∧ w'.cell? ⟨w.heap.size + 1, 1, none⟩ = some (.string (zx b.num))) (refine ⟨?_, ?_, ?_, ?_, ?_, ?_⟩ <;> simp [go_sem]) (first | ((with_reducible refine (jk (HA.out _)).mono ?_); rintro e _ ⟨rfl, X, rfl⟩) | fail)
  all_goals
   go_wp2_with fail
   exact bodyPost_ret (v := .tuple #[.agg #[.bool (zs a.num), .string (zx a.num)], .agg #[.bool (zs b.num), .string (zx b.num)], .agg #[.bool (zs a.den), .string (zx a.den)]]) (by simp [results, Tryz.results28, go_sem]) rfl ⟨rfl, Bw.b⟩
 ·rw [if_neg h]
  have hne : ¬ (ry a.den).toList = (ry b.den).toList := fun e => h (ry_inj (by omega) (by omega) a.den_nz b.den_nz e)
  have HM1 := Lib.hid (fun w' => mulZ_ex a.num b.den w' (by omega) (by omega) (by have := natAbs_small ha1 hb2; rw [Int.natAbs_mul] at this; omega))
  have HM2 := Lib.hid (fun w' => mulZ_ex b.num a.den w' (by omega) (by omega) (by have := natAbs_small hb1 ha2; rw [Int.natAbs_mul] at this; omega))
  have HM3 := Lib.hid (fun w' => mulZ_ex a.den b.den w' (by omega) (by omega) (by have := nat_small ha2 hb2; simp only [Int.natAbs_natCast]; omega))
  simp only [rV, zV_eq] at HA HB HM1 HM2 HM3 ⊢
  clear h ha1 ha2 hb1 hb2
  go_enter Tryz.func28, Tryz.ntmps28
  go_wp2_with fail
  refine wp_jtail 15 (by kernel_rfl) (by kernel_rfl) ?_
  simp only [List.take_succ_cons, List.take_zero, List.drop_succ_cons, List.drop_zero]
  repeat (go_big_quiet_step (first | (first | (with_reducible exact jq (HA.out _)) | (with_reducible exact jq (HB.out _)) | (with_reducible exact jq (HM1.out _)) | (with_reducible exact jq (HM2.out _)) | (with_reducible exact jq (HM3.out _))) | fail))
  refine wpQuiet_nil ?_
  rintro _ ⟨X, rfl⟩
  go_wp2_with fail
  exact bodyPost_ret (v := .tuple #[.agg #[.bool (zs (a.num * b.den)), .string (zx (a.num * b.den))], .agg #[.bool (zs (b.num * a.den)), .string (zx (b.num * a.den))], .agg #[.bool (zs (a.den * b.den)), .string (zx (a.den * b.den))]]) (by simp [results, Tryz.results28, go_sem]) rfl ⟨rfl, Bw.b⟩
theorem crs_add (a b : Rat) : mkRat ((crs a b).1 + (crs a b).2.1) (crs a b).2.2 = a + b := by
 unfold crs
 rw [Rat.add_def]
 by_cases h : a.den = b.den
 ·rw [if_pos h]
  rw [Rat.normalize_eq_mkRat]
  rw [← h, ← Int.add_mul]
  exact (Rat.mkRat_mul_right a.den_nz).symm
 ·rw [if_neg h]
  rw [Rat.normalize_eq_mkRat]
theorem crs_small {a b : Rat} (ha : Sm a) (hb : Sm b) : (crs a b).1.natAbs < 4611686018427387904 ∧ (crs a b).2.1.natAbs < 4611686018427387904 ∧ (crs a b).2.2 < 4611686018427387904 ∧ (crs a b).2.2 ≠ 0 := by
 unfold crs
 obtain ⟨ha1, ha2⟩ := ha
 obtain ⟨hb1, hb2⟩ := hb
 by_cases h : a.den = b.den
 ·rw [if_pos h]; exact ⟨by simp only; omega, by simp only; omega, by simp only; omega, a.den_nz⟩
 ·rw [if_neg h]; exact ⟨natAbs_small ha1 hb2, natAbs_small hb1 ha2, nat_small ha2 hb2, Nat.mul_ne_zero a.den_nz b.den_nz⟩
set_option maxHeartbeats 1000000 in
theorem add_q (a b : Rat) (w : World) (ha : Sm a) (hb : Sm b) :
  Calls Tryz.prog 9 #[rV a, rV b] w fun e w' => e = .returned (rV (a + b)) ∧ Below w.heap.size w w' := by
 have HC := Lib.hid (fun w' => cross_q a b w' ha hb)
 obtain ⟨h1, h2, h3, h4⟩ := crs_small ha hb
 have HS := Lib.hid (fun w' => addZ_ex (crs a b).1 (crs a b).2.1 w' (by omega))
 have HK := Lib.hid (fun w' => canon_q ((crs a b).1 + (crs a b).2.1) (crs a b).2.2 w' (by omega) (by omega) h4)
 rw [crs_add] at HK
 generalize a + b = c at HK ⊢
 generalize (crs a b).1 = x at HC HS HK
 generalize (crs a b).2.1 = y at HC HS HK
 generalize (crs a b).2.2 = d at HC HS HK
 simp only [rV, zV_eq] at HC HS HK ⊢
 generalize x + y = z at HS HK
 clear ha hb h1 h2 h3 h4
 go_enter Tryz.func9, Tryz.ntmps9
 go_wp2_with fail
 refine (jk (HC.out _)).mono ?_
 rintro e _ ⟨rfl, X, rfl⟩
 go_wp2_with fail
 refine wp_jtail 5 (by kernel_rfl) (by kernel_rfl) ?_
 simp only [List.take_succ_cons, List.take_zero, List.drop_succ_cons, List.drop_zero]
 repeat (go_big_quiet_step (first | (first | (with_reducible exact jq (HS.out _)) | (with_reducible exact jq (HK.out _))) | fail))
 refine wpQuiet_nil ?_
 rintro _ ⟨Y, rfl⟩
 go_wp2_with fail
 exact bodyPost_ret (v := .agg #[.bool (zs c.num), .string (zx c.num), .bool false, .string (ry c.den)]) (by simp [results, Tryz.results9, go_sem]) rfl ⟨rfl, Bw.b⟩
theorem zV_sgd (n : Int) : zV n = .agg #[.bool (decide (n < 0)), .string (magS n.natAbs)] := rfl
theorem negZ_ex (n : Int) (w : World) (h : n.natAbs < 18446744073709551616) :
  Calls Tryz.prog 64 #[zV n] w fun e w' => e = .returned (zV (-n)) ∧ Below w.heap.size w w' := by
 have h1 := neg_ex (decide (n < 0)) n.natAbs w h
 have e : sg (!decide (n < 0)) n.natAbs = -n := by
  unfold sg
  by_cases h : n < 0
  ·simp [h]; omega
  ·simp [h]; omega
 rw [e] at h1
 exact h1
theorem absZ_ex (n : Int) (w : World) (h : n.natAbs < 18446744073709551616) :
  Calls Tryz.prog 73 #[zV n] w fun e w' => e = .returned (zV n.natAbs) ∧ Below w.heap.size w w' := by
 exact abs_ex (decide (n < 0)) n.natAbs w h
theorem neg_q (a : Rat) (w : World) (ha : a.num.natAbs < 18446744073709551616) :
  Calls Tryz.prog 74 #[rV a] w fun e w' => e = .returned (rV (-a)) ∧ Below w.heap.size w w' := by
 have HN := Lib.hid (fun w' => negZ_ex a.num w' ha)
 rw [show rV (-a) = .agg #[.bool (zs (-a.num)), .string (zx (-a.num)), .bool false, .string (ry a.den)] from rfl]
 simp only [rV, zV_eq] at HN ⊢
 clear ha
 go_enter Tryz.func74, Tryz.ntmps74
 go_wp2_with fail
 refine wp_jtail 6 (by kernel_rfl) (by kernel_rfl) ?_
 simp only [List.take_succ_cons, List.take_zero, List.drop_succ_cons, List.drop_zero]
 repeat (go_big_quiet_step (first | (with_reducible exact jq (HN.out _)) | fail))
 refine wpQuiet_nil ?_
 rintro _ ⟨Y, rfl⟩
 go_wp2_with fail
 exact bodyPost_ret (v := .agg #[.bool (zs (-a.num)), .string (zx (-a.num)), .bool false, .string (ry a.den)]) (by simp [results, Tryz.results74, go_sem]) rfl ⟨rfl, Bw.b⟩
theorem Sm.neg {a : Rat} (h : Sm a) : Sm (-a) := ⟨by show (-a.num).natAbs < _; rw [Int.natAbs_neg]; exact h.1, h.2⟩
theorem sub_q (a b : Rat) (w : World) (ha : Sm a) (hb : Sm b) :
  Calls Tryz.prog 35 #[rV a, rV b] w fun e w' => e = .returned (rV (a - b)) ∧ Below w.heap.size w w' := by
 have HN := Lib.hid (fun w' => neg_q b w' (by have := hb.1; omega))
 have HA := Lib.hid (fun w' => add_q a (-b) w' ha hb.neg)
 rw [← Rat.sub_eq_add_neg] at HA
 generalize a - b = c at HA ⊢
 generalize -b = d at HN HA
 simp only [rV] at HN HA ⊢
 clear ha hb
 go_enter Tryz.func35, Tryz.ntmps35
 go_wp2_with fail
 refine wp_jtail 4 (by kernel_rfl) (by kernel_rfl) ?_
 simp only [List.take_succ_cons, List.take_zero, List.drop_succ_cons, List.drop_zero]
 repeat (go_big_quiet_step (first | (first | (with_reducible exact jq (HN.out _)) | (with_reducible exact jq (HA.out _))) | fail))
 refine wpQuiet_nil ?_
 rintro _ ⟨Y, rfl⟩
 go_wp2_with fail
 exact bodyPost_ret (v := .agg #[.bool (zs c.num), .string (zx c.num), .bool false, .string (ry c.den)]) (by simp [results, Tryz.results35, go_sem]) rfl ⟨rfl, Bw.b⟩
/-- The magnitude of a fraction. -/
def absR (a : Rat) : Rat := if a.num < 0 then -a else a
theorem absR_num (a : Rat) : (absR a).num = a.num.natAbs ∧ (absR a).den = a.den := by
 unfold absR
 by_cases h : a.num < 0
 ·rw [if_pos h]; exact ⟨by show -a.num = _; omega, rfl⟩
 ·rw [if_neg h]; exact ⟨by omega, rfl⟩
theorem abs_q (a : Rat) (w : World) (ha : a.num.natAbs < 18446744073709551616) :
  Calls Tryz.prog 34 #[rV a] w fun e w' => e = .returned (rV (absR a)) ∧ Below w.heap.size w w' := by
 have HN := Lib.hid (fun w' => absZ_ex a.num w' ha)
 obtain ⟨h1, h2⟩ := absR_num a
 have h3 : rV (absR a) = .agg #[.bool (zs a.num.natAbs), .string (zx a.num.natAbs), .bool false, .string (ry a.den)] := by unfold rV; rw [h1, h2]
 rw [h3]
 simp only [rV, zV_eq] at HN ⊢
 clear ha h1 h2 h3
 go_enter Tryz.func34, Tryz.ntmps34
 go_wp2_with fail
 refine wp_jtail 6 (by kernel_rfl) (by kernel_rfl) ?_
 simp only [List.take_succ_cons, List.take_zero, List.drop_succ_cons, List.drop_zero]
 repeat (go_big_quiet_step (first | (with_reducible exact jq (HN.out _)) | fail))
 refine wpQuiet_nil ?_
 rintro _ ⟨Y, rfl⟩
 go_wp2_with fail
 exact bodyPost_ret (v := .agg #[.bool (zs a.num.natAbs), .string (zx a.num.natAbs), .bool false, .string (ry a.den)]) (by simp [results, Tryz.results34, go_sem]) rfl ⟨rfl, Bw.b⟩
theorem sign_q (a : Rat) (w : World) (ha : a.num.natAbs < 18446744073709551616) :
  Calls Tryz.prog 37 #[rV a] w fun e w' => e = .returned (.int .i64 (sgnZ a.num)) ∧ Below w.heap.size w w' := by
 have HN := Lib.hid (fun w' => sign_ex a.num w' ha)
 simp only [rV, zV_eq] at HN ⊢
 clear ha
 go_enter Tryz.func37, Tryz.ntmps37
 go_wp2_with fail
 refine (jk (HN.out _)).mono ?_
 rintro e _ ⟨rfl, X, rfl⟩
 go_wp2_with fail
 go_ret
 exact ⟨rfl, Bw.b⟩
theorem fromInt_q (n : Int) (w : World) (h : n.natAbs < 9223372036854775808) :
  Calls Tryz.prog 27 #[.int .i64 n] w fun e w' => e = .returned (rV n) ∧ Below w.heap.size w w' := by
 have HN := Lib.hid (fun w' => fromInt_ex n w' h)
 rw [show rV n = .agg #[.bool (zs n), .string (zx n), .bool false, .string ⟨#[]⟩] from rfl]
 rw [zV_eq] at HN
 clear h
 go_enter Tryz.func27, Tryz.ntmps27
 go_wp2_with fail
 refine (jk (HN.out _)).mono ?_
 rintro e _ ⟨rfl, X, rfl⟩
 go_wp2_with fail
 exact bodyPost_ret (v := .agg #[.bool (zs n), .string (zx n), .bool false, .string ⟨#[]⟩]) (by simp [results, Tryz.results27, go_sem]) rfl ⟨rfl, Bw.b⟩
theorem make_q (n : Int) (d : Nat) (w : World) (hn : n.natAbs < 18446744073709551616) (hd : d < 18446744073709551616) (h0 : d ≠ 0) :
  Calls Tryz.prog 59 #[zV n, zV d] w fun e w' => e = .returned (.tuple #[rV (mkRat n d), .int .i64 0]) ∧ Below w.heap.size w w' := by
 have HS := Lib.hid (fun w' => sign_ex (d : Int) w' (by omega))
 have HK := Lib.hid (fun w' => canon_q n d w' hn hd h0)
 rw [show sgnZ (d : Int) = 1 by unfold sgnZ; rw [if_neg (by omega), if_neg (by omega)]] at HS
 generalize mkRat n d = c at HK ⊢
 simp only [rV, zV_eq] at HS HK ⊢
 clear hn hd h0
 go_enter Tryz.func59, Tryz.ntmps59
 go_wp2_with fail
 refine (jk (HS.out _)).mono ?_
 rintro e _ ⟨rfl, X, rfl⟩
 go_wp2_with fail
 refine (jk (HK.out _)).mono ?_
 rintro e _ ⟨rfl, Y, rfl⟩
 go_wp2_with fail
 exact bodyPost_ret (v := .tuple #[.agg #[.bool (zs c.num), .string (zx c.num), .bool false, .string (ry c.den)], .int .i64 0]) (by simp [results, Tryz.results59, go_sem]) rfl ⟨rfl, Bw.b⟩
theorem fromInts_q (n : Int) (d : Nat) (w : World) (hn : n.natAbs < 9223372036854775808) (hd : d < 9223372036854775808) (h0 : d ≠ 0) :
  Calls Tryz.prog 26 #[.int .i64 n, .int .i64 d] w fun e w' => e = .returned (.tuple #[rV (mkRat n d), .int .i64 0]) ∧ Below w.heap.size w w' := by
 have HN := Lib.hid (fun w' => fromInt_ex n w' hn)
 have HD := Lib.hid (fun w' => fromInt_ex (d : Int) w' (by omega))
 have HK := Lib.hid (fun w' => make_q n d w' (by omega) (by omega) h0)
 generalize mkRat n d = c at HK ⊢
 simp only [rV, zV_eq] at HN HD HK ⊢
 clear hn hd h0
 go_enter Tryz.func26, Tryz.ntmps26
 go_wp2_with fail
 refine (jk (HN.out _)).mono ?_
 rintro e _ ⟨rfl, X, rfl⟩
 go_wp2_with fail
 refine (jk (HD.out _)).mono ?_
 rintro e _ ⟨rfl, Y, rfl⟩
 go_wp2_with fail
 refine (jk (HK.out _)).mono ?_
 rintro e _ ⟨rfl, Z, rfl⟩
 go_wp2_with fail
 exact bodyPost_ret (v := .tuple #[.agg #[.bool (zs c.num), .string (zx c.num), .bool false, .string (ry c.den)], .int .i64 0]) (by simp [results, Tryz.results26, go_sem]) rfl ⟨rfl, Bw.b⟩
end Go.Proofs.YtcelpkbmcmnogaaGreatDoor
