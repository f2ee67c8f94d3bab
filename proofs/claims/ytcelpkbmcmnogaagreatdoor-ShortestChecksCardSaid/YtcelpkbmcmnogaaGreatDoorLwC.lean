/-
 Fractions of small numbers: comparison and Check.
 The laws' own functions: hop.
-/
import Derived.Test.YtcelpkbmcmnogaaGreatDoorRatD
import Derived.Test.YtcelpkbmcmnogaaGreatDoorNetA
import Derived.Test.YtcelpkbmcmnogaaGreatDoorJnkA
set_option linter.unusedSimpArgs false
set_option linter.unusedVariables false
namespace Go.Proofs.YtcelpkbmcmnogaaGreatDoor
open Go Go.RowKit Go.Vi
attribute [local go_sem ↓] lo_lt lo_ne lo_ne'
attribute [local go_sem] junk_cell junk_frozen junk_setCell junk_drew drew_junk
theorem jq0 {P : Program} {f : FuncId} {args : Array Value} {W X : World} {v : Value} (h : Calls P f args (W.junk X) fun e w' => e = .returned v ∧ W.junk X = w') : Calls P f args (W.junk X) fun e w' => e = .returned v ∧ ∃ Y, w' = W.junk Y :=
 h.mono fun _ _ ⟨he, hw⟩ => ⟨he, X, hw.symm⟩
theorem cmpN_le (p q : Nat) : -1 ≤ cmpN p q ∧ cmpN p q ≤ 1 := by unfold cmpN; split <;> (try split) <;> omega
set_option maxHeartbeats 1000000 in
theorem compareZ_ex (a b : Int) (w : World) (ha : a.natAbs < 18446744073709551616) (hb : b.natAbs < 18446744073709551616) :
  Calls Tryz.prog 54 #[zV a, zV b] w fun e w' => e = .returned (.int .i64 (cmpI a b)) ∧ Below w.heap.size w w' := by
 have HA := Lib.hid (fun w' => sign_ex a w' ha)
 have HB := Lib.hid (fun w' => sign_ex b w' hb)
 have HC : Hid (∀ w', Calls Tryz.prog 70 #[.string (zx a), .string (zx b)] w' fun e w2 => e = .returned (.int .i64 (cmpN a.natAbs b.natAbs)) ∧ Below w'.heap.size w' w2) := Lib.hid (fun w' => compare_ex a.natAbs b.natAbs w' ha hb)
 obtain ⟨hc1, hc2⟩ := cmpN_le a.natAbs b.natAbs
 have ed : cmpI (sgnZ a) (sgnZ b) = cmpI a b ∨ zs a = zs b := by
  unfold zs cmpI sgnZ
  by_cases h1 : a < 0 <;> by_cases h2 : b < 0
  ·right; simp [h1, h2]
  ·left; rw [if_pos h1, if_neg h2]; split <;> (repeat' split) <;> omega
  ·left; rw [if_pos h2, if_neg h1]; split <;> (repeat' split) <;> omega
  ·right; simp [h1, h2]
 have es1 : zs a = false → zs b = false → cmpN a.natAbs b.natAbs = cmpI a b := fun h1 h2 => by
  have h1 := of_decide_eq_false h1
  have h2 := of_decide_eq_false h2
  unfold cmpN cmpI
  split <;> (repeat' split) <;> omega
 have es2 : zs a = true → zs b = true → -cmpN a.natAbs b.natAbs = cmpI a b := fun h1 h2 => by
  have h1 := of_decide_eq_true h1
  have h2 := of_decide_eq_true h2
  unfold cmpN cmpI
  split <;> (repeat' split) <;> omega
 simp only [zV_eq] at HA HB ⊢
 generalize zs a = s at *
 generalize zs b = t at *
 generalize zx a = x at *
 generalize zx b = y at *
 generalize cmpN a.natAbs b.natAbs = n at *
 generalize cmpI a b = r at *
 generalize sgnZ a = sa at *
 generalize sgnZ b = sb at *
 have HX := Lib.hid (fun w' => cmp_any sa sb w')
 have ED := Lib.hid ed
 have E1 := Lib.hid es1
 have E2 := Lib.hid es2
 clear ha hb ed es1 es2
 cases s <;> cases t
 ·obtain rfl := E1.out rfl rfl
  clear E1 E2 ED
  go_enter Tryz.func54, Tryz.ntmps54
  go_wp2_with fail
  refine (jk (HC.out _)).mono ?_
  rintro e _ ⟨rfl, X, rfl⟩
  go_wp2_with fail
  go_ret
  exact ⟨rfl, Bw.b⟩
 ·have HR := Lib.hid (ED.out.resolve_right (by decide))
  rw [HR.out] at HX
  clear E1 E2 ED HR
  go_enter Tryz.func54, Tryz.ntmps54
  go_wp2_with fail
  refine wp_jregion (by kernel_rfl) (by kernel_rfl) ?_
  repeat (go_big_quiet_step (first | (first | (with_reducible exact jq (HA.out _)) | (with_reducible exact jq (HB.out _)) | (with_reducible exact jq0 (HX.out _))) | fail))
  refine wpQuiet_nil ?_
  rintro _ ⟨X, rfl⟩
  go_wp2_with fail
  go_ret
  exact ⟨rfl, Bw.b⟩
 ·have HR := Lib.hid (ED.out.resolve_right (by decide))
  rw [HR.out] at HX
  clear E1 E2 ED HR
  go_enter Tryz.func54, Tryz.ntmps54
  go_wp2_with fail
  refine wp_jregion (by kernel_rfl) (by kernel_rfl) ?_
  repeat (go_big_quiet_step (first | (first | (with_reducible exact jq (HA.out _)) | (with_reducible exact jq (HB.out _)) | (with_reducible exact jq0 (HX.out _))) | fail))
  refine wpQuiet_nil ?_
  rintro _ ⟨X, rfl⟩
  go_wp2_with fail
  go_ret
  exact ⟨rfl, Bw.b⟩
 ·obtain rfl := E2.out rfl rfl
  clear E1 E2 ED
  go_enter Tryz.func54, Tryz.ntmps54
  go_wp2_with fail
  refine (jk (HC.out _)).mono ?_
  rintro e _ ⟨rfl, X, rfl⟩
  go_wp2_with fail
  go_ret
  exact ⟨rfl, Bw.b⟩
/-- The order of two fractions. -/
def cmpR (a b : Rat) : Int := if a < b then -1 else if b < a then 1 else 0
theorem crs_cmp (a b : Rat) : cmpI (crs a b).1 (crs a b).2.1 = cmpR a b := by
 unfold crs cmpR
 simp only [Rat.lt_iff]
 by_cases h : a.den = b.den
 ·rw [if_pos h]
  have hd : (0 : Int) < a.den := by have := a.den_nz; omega
  rw [← h]
  simp only [Int.mul_lt_mul_right hd]
  unfold cmpI
  simp only
 ·rw [if_neg h]
  rfl
theorem zsx_inj {a b : Int} (ha : a.natAbs < 18446744073709551616) (hb : b.natAbs < 18446744073709551616) (h1 : zs a = zs b) (h2 : zx a = zx b) : a = b := by
 have e := magS_inj ha hb h2
 unfold zs at h1
 by_cases p : a < 0 <;> by_cases q : b < 0 <;> simp [p, q] at h1 <;> omega
/-- Two fractions that differ, differ in the first cell, or .. -/
theorem rV_ne {a b : Rat} (ha : Sm a) (hb : Sm b) (h : a ≠ b) : (¬ zs a.num = zs b.num) ∨ (zs b.num = zs a.num ∧ ¬ (zx a.num).toList = (zx b.num).toList) ∨ (zs b.num = zs a.num ∧ zx b.num = zx a.num ∧ ¬ (ry a.den).toList = (ry b.den).toList) := by
 obtain ⟨ha1, ha2⟩ := ha
 obtain ⟨hb1, hb2⟩ := hb
 by_cases h1 : zs a.num = zs b.num
 ·by_cases h2 : zx a.num = zx b.num
  ·refine .inr (.inr ⟨h1.symm, h2.symm, fun e => h ?_⟩)
   exact Rat.ext (zsx_inj (by omega) (by omega) h1 h2) (ry_inj (by omega) (by omega) a.den_nz b.den_nz e)
  ·exact .inr (.inl ⟨h1.symm, fun e => h2 (toList_inj e)⟩)
 ·exact .inl h1
set_option maxHeartbeats 1000000 in
theorem compare_q (a b : Rat) (w : World) (ha : Sm a) (hb : Sm b) :
  Calls Tryz.prog 21 #[rV a, rV b] w fun e w' => e = .returned (.int .i64 (cmpR a b)) ∧ Below w.heap.size w w' := by
 by_cases hab : a = b
 ·subst hab
  have h0 : cmpR a a = 0 := by unfold cmpR; rw [if_neg (by exact Rat.lt_irrefl), if_neg (by exact Rat.lt_irrefl)]
  rw [h0]
  unfold rV
  clear ha hb h0
  go_enter Tryz.func21, Tryz.ntmps21
  go_wp2_with fail
  go_ret
  exact ⟨rfl, Bw.b⟩
 ·have HC := Lib.hid (fun w' => cross_q a b w' ha hb)
  obtain ⟨h1, h2, h3, h4⟩ := crs_small ha hb
  have HK := Lib.hid (fun w' => compareZ_ex (crs a b).1 (crs a b).2.1 w' (by omega) (by omega))
  rw [crs_cmp] at HK
  generalize (crs a b).1 = x at HC HK
  generalize (crs a b).2.1 = y at HC HK
  generalize (crs a b).2.2 = d at HC HK
  simp only [rV, zV_eq] at HC HK ⊢
  have HD := rV_ne ha hb hab
  clear h1 h2 h3 h4 hab ha hb
  generalize zs a.num = a0 at *
  generalize zs b.num = b0 at *
  generalize zx a.num = a1 at *
  generalize zx b.num = b1 at *
  generalize ry a.den = a2 at *
  generalize ry b.den = b2 at *
  generalize cmpR a b = r at *
  rcases HD with hd | ⟨rfl, hd⟩ | ⟨rfl, rfl, hd⟩
  all_goals
   go_enter Tryz.func21, Tryz.ntmps21
   go_wp2_with fail
   refine (jk (HC.out _)).mono ?_
   rintro e _ ⟨rfl, X, rfl⟩
   go_wp2_with fail
   refine (jk (HK.out _)).mono ?_
   rintro e _ ⟨rfl, Y, rfl⟩
   go_wp2_with fail
   go_ret
   exact ⟨rfl, Bw.b⟩
/-- The first byte of a magnitude is not zero. -/
theorem zx_first {n : Nat} (h : n < 18446744073709551616) (h0 : n ≠ 0) : ∃ (b : UInt8) (l : List UInt8), (magS n).data.toList = b :: l ∧ b ≠ 0 := by
 have hb := nb_bounds h0 h
 have hd := magS_data n
 have hl := mag_len n
 obtain ⟨k, hk⟩ : ∃ k, nb n = k + 1 := ⟨nb n - 1, by omega⟩
 have hm : mag n = (n / 256 ^ k % 256) :: digs k n := by unfold mag; rw [hk]; exact digs_front k n
 rw [hm] at hd
 refine ⟨_, _, hd, fun e => ?_⟩
 rw [hk] at hb
 have hq : n / 256 ^ k < 256 := by
  rw [Nat.div_lt_iff_lt_mul (Nat.pow_pos (by omega))]
  have := hb.2.2.2
  rw [Nat.pow_succ, Nat.mul_comm] at this
  exact this
 have hp : 1 ≤ n / 256 ^ k := by
  rw [Nat.le_div_iff_mul_le (Nat.pow_pos (by omega))]
  have := hb.2.2.1
  simpa using this
 have e2 := congrArg UInt8.toNat e
 rw [UInt8.toNat_ofNat', Nat.mod_mod] at e2
 have e3 : (0 : UInt8).toNat = 0 := rfl
 rw [e3, Nat.mod_eq_of_lt (by omega)] at e2
 omega
theorem checkZ_ex (z : Int) (w : World) (h : z.natAbs < 18446744073709551616) :
  Calls Tryz.prog 105 #[zV z] w fun e w' => e = .returned (.int .i64 0) ∧ Below w.heap.size w w' := by
 by_cases h0 : z = 0
 ·subst h0
  rw [show zV 0 = .agg #[.bool false, .string ⟨#[]⟩] from by rw [zV_sgd]; rfl]
  clear h
  go_enter Tryz.func105, Tryz.ntmps105
  go_wp2_with fail
  go_ret
  exact ⟨rfl, Bw.b⟩
 ·obtain ⟨c, l, hm, hc⟩ := zx_first h (by omega)
  have he := magS_empty h
  have hz : decide (z.natAbs = 0) = false := by simp; omega
  rw [hz] at he
  rw [zV_sgd]
  generalize decide (z < 0) = s
  generalize magS z.natAbs = x at *
  have hlen : x.data.toList.length = x.size := Array.length_toList
  have hs : 0 < x.size := by rw [← hlen, hm]; exact Nat.succ_pos _
  have hx : (((x[0]'hs).toNat : Int) == 0) = false := by
   have e : x[0]'hs = c := by
    have e1 : x.data.toList[0]? = some c := by rw [hm]; rfl
    have e2 : x[0]'hs = x.data.toList[0]'(by rw [hlen]; exact hs) := rfl
    rw [e2]
    exact (List.getElem?_eq_some_iff.1 e1).2
   rw [e, beq_eq_false_iff_ne]
   intro h
   exact hc (UInt8.toNat_inj.1 (by simpa using h))
  clear h h0 hz hm hc hlen
  go_enter Tryz.func105, Tryz.ntmps105
  go_wp2_with fail
  go_ret
  exact ⟨rfl, Bw.b⟩
/-- Check of a fraction in its canonical form. -/
theorem check_q (q : Rat) (w : World) (hn : q.num.natAbs < 18446744073709551616) (hd : q.den < 18446744073709551616) :
  Calls Tryz.prog 72 #[rV q] w fun e w' => e = .returned (.int .i64 0) ∧ Below w.heap.size w w' := by
 have H1 := Lib.hid (fun w' => checkZ_ex q.num w' hn)
 by_cases h : q.den = 1
 ·have H2 := Lib.hid (fun w' => checkZ_ex 0 w' (by decide))
  rw [show zV 0 = .agg #[.bool false, .string ⟨#[]⟩] from by rw [zV_sgd]; rfl] at H2
  unfold rV
  rw [ry_nil h]
  simp only [zV_eq] at H1
  clear hn hd h
  go_enter Tryz.func72, Tryz.ntmps72
  go_wp2_with fail
  refine (jk (H1.out _)).mono ?_
  rintro e _ ⟨rfl, X, rfl⟩
  go_wp2_with fail
  refine (jk (H2.out _)).mono ?_
  rintro e _ ⟨rfl, Y, rfl⟩
  go_wp2_with fail
  go_ret
  exact ⟨rfl, Bw.b⟩
 ·have he := ry_ne h q.den_nz hd
  have hz : zV (q.den : Int) = .agg #[.bool false, .string (ry q.den)] := by
   rw [zV_eq, ry_is h]; congr
  have H2 := Lib.hid (fun w' => checkZ_ex q.den w' (by omega))
  have H3 := Lib.hid (fun w' => compareZ_ex q.den 1 w' (by omega) (by omega))
  have H4 := Lib.hid (fun w' => gcd_ex (decide (q.num < 0)) false q.num.natAbs q.den w' hn hd)
  have hc : cmpI q.den 1 = 1 := by
   have := q.den_nz
   unfold cmpI
   rw [if_neg (by omega), if_pos (by omega)]
  rw [hc] at H3
  have hg : Nat.gcd q.num.natAbs q.den = 1 := q.reduced
  rw [hg] at H4
  have e4 : (.agg #[.bool false, .string (magS q.den)] : Value) = .agg #[.bool false, .string (ry q.den)] := by rw [ry_is h]; rfl
  rw [e4] at H4
  have H4 : Hid (∀ w', Calls Tryz.prog 65 #[.agg #[.bool (zs q.num), .string (zx q.num)], .agg #[.bool false, .string (ry q.den)]] w' fun e w2 => e = .returned (zV ((1 : Nat) : Int)) ∧ Below w'.heap.size w' w2) := H4
  have HO := Lib.hid (fun w' => one_ex w')
  rw [hz] at H2 H3
  unfold rV
  simp only [zV_eq] at H1 H3 H4 HO
  clear hn hd h hz hc hg e4
  go_enter Tryz.func72, Tryz.ntmps72
  go_wp2_with fail
  refine (jk (H1.out _)).mono ?_
  rintro e _ ⟨rfl, X, rfl⟩
  go_wp2_with fail
  refine (jk (H2.out _)).mono ?_
  rintro e _ ⟨rfl, Y, rfl⟩
  go_wp2_with fail
  refine wp_jregion (by kernel_rfl) (by kernel_rfl) ?_
  repeat (go_big_quiet_step (first | (first | (with_reducible exact jq (HO.out _)) | (with_reducible exact jq (H3.out _)) | (with_reducible exact jq (H4.out _))) | fail))
  refine wpQuiet_nil ?_
  rintro _ ⟨Z, rfl⟩
  go_wp2_with fail
  go_ret
  exact ⟨rfl, Bw.b⟩
end Go.Proofs.YtcelpkbmcmnogaaGreatDoor
namespace Go.Proofs.YtcelpkbmcmnogaaGreatDoor
open Go Go.RowKit Go.Vi
attribute [local go_sem ↓] lo_lt lo_ne lo_ne'
attribute [local go_sem] junk_cell junk_frozen junk_setCell junk_drew drew_junk
structure Hst where (road len : Int) (ok : Bool)
def leadsB (a b : Int) (r : Rd) : Bool := (r.src == a && r.dst == b) || (!r.one && r.dst == a && r.src == b)
def hopS (a b : Int) (h : Hst) (r : Rd) : Hst := if leadsB a b r && (!h.ok || decide (r.len < h.len)) then ⟨r.id, r.len, true⟩ else h
def hopN (n : Net) (a b : Int) : Hst := n.roads.foldl (hopS a b) ⟨0, 0, false⟩
theorem foldl_take1 {α β : Type} [Inhabited α] (f : β → α → β) (z : β) (L : List α) (k : Nat) (h : k < L.length) : (L.take (k + 1)).foldl f z = f ((L.take k).foldl f z) L[k]! := by
 rw [List.take_add_one, List.getElem?_eq_getElem h, getElem!_pos L k h, List.foldl_append]; rfl
set_option maxRecDepth 100000 in
set_option maxHeartbeats 1000000 in
theorem hop_q (n : Net) (v1 v2 : Value) (a b : Int) (w : World) (hN : NetAt w.heap.size w v1 v2 n) (hfew : n.roads.length ≤ 1000000) :
  Calls Tryz.prog 94 #[.agg #[v1, v2], .int .i64 a, .int .i64 b] w fun e w' => e = .returned (.tuple #[.int .i64 (hopN n a b).road, .int .i64 (hopN n a b).len, .bool (hopN n a b).ok]) ∧ Below w.heap.size w w' := by
 obtain ⟨an, nn, cn, rfl, hn, hn1, hn2⟩ := hN.2.open
 rw [List.length_map] at hn
 have hnf : nn ≤ 1000000 := by rw [← hn]; exact hfew
 have HNN := Lib.hid hn
 have HN1 := Lib.hid hN.2
 obtain ⟨out, hout⟩ : ∃ o, hopN n a b = o := ⟨_, rfl⟩
 rw [hout]
 have HT := Lib.hid hout
 clear hout hn hn1 hn2 hN hfew
 go_enter Tryz.func94, Tryz.ntmps94
 go_wp2_with fail
 obtain ⟨W0, hW0⟩ : ∃ W0, W0 = w.alloc (.cells #[v1, .slice an nn cn] 36) := ⟨_, rfl⟩
 have n0 : W0.cell? ⟨w.heap.size, 1, none⟩ = some (.slice an nn cn) := by rw [hW0]; simp [go_sem]
 haveI l0 : Lo w.heap.size W0 := by rw [hW0]; infer_instance
 haveI bw : Bw w W0 := by rw [hW0]; infer_instance
 rw [← hW0]
 clear hW0
 go_loopw [6, 7, 8, 9] (fun s6 s7 s8 s9 wr => ∃ (k : Nat) (h : Hst), s6 = .int .i64 h.road ∧ s7 = .int .i64 h.len ∧ s8 = .bool h.ok ∧ s9 = .int .i64 k ∧ k ≤ nn ∧ Hid ((n.roads.take k).foldl (hopS a b) ⟨0, 0, false⟩ = h) ∧ ∃ U, wr = W0.junk U) (fun _ _ _ s9 _ => nn - (intOf s9).toNat)
 case atStart => exact ⟨0, ⟨0, 0, false⟩, rfl, rfl, rfl, rfl, Nat.zero_le _, Lib.hid rfl, below_some (Below.refl _ _)⟩
 case round =>
  obtain ⟨k, ⟨hr, hl, ho⟩, rfl, rfl, rfl, rfl, hk, HF, U, rfl⟩ := hrel
  by_cases hlt : k < nn
  ·obtain ⟨bn, off, rfl, hbn, dn⟩ := rd_cells HN1.out k (by rw [HNN.out]; exact hlt)
   obtain ⟨d0, d1, d2, d3, d4, d5⟩ := dn k (by rw [HNN.out]; exact hlt)
   haveI ln : Lo bn W0 := ⟨Nat.lt_of_lt_of_le hbn bw.b.size⟩
   rw [← bw.b.cell (p := ⟨bn, _, none⟩) hbn] at d0 d1 d2 d3 d4 d5
   have HD := Lib.hid (foldl_take1 (hopS a b) ⟨0, 0, false⟩ n.roads k (by rw [HNN.out]; exact hlt))
   rw [HF.out] at HD
   generalize n.roads[k]! = r at d0 d1 d2 d3 d4 d5 HD
   obtain ⟨rid, rsrc, rdst, rlen, rlim, rone⟩ := r
   simp only at d0 d1 d2 d3 d4 d5
   clear dn HF
   obtain ⟨ld, hld⟩ : ∃ x, leadsB a b ⟨rid, rsrc, rdst, rlen, rlim, rone⟩ = x := ⟨_, rfl⟩
   have HLD := Lib.hid hld
   have HD2 : Hid ((n.roads.take (k + 1)).foldl (hopS a b) ⟨0, 0, false⟩ = if ld && (!ho || decide (rlen < hl)) then ⟨rid, rlen, true⟩ else ⟨hr, hl, ho⟩) := Lib.hid (by rw [HD.out]; unfold hopS; rw [hld])
   clear HD hld
   go_upto_region 5 with fail
   obtain ⟨W4, hW4⟩ : ∃ W4, W4 = (W0.junk U).alloc (.cells #[.int .i64 rid, .int .i64 rsrc, .int .i64 rdst, .int .i64 rlen, .int .i64 rlim, .bool rone] 53) := ⟨_, rfl⟩
   have c0 : W4.cell? ⟨(W0.junk U).heap.size, 0, none⟩ = some (.int .i64 rid) := by rw [hW4]; simp [go_sem]
   have c1 : W4.cell? ⟨(W0.junk U).heap.size, 1, none⟩ = some (.int .i64 rsrc) := by rw [hW4]; simp [go_sem]
   have c2 : W4.cell? ⟨(W0.junk U).heap.size, 2, none⟩ = some (.int .i64 rdst) := by rw [hW4]; simp [go_sem]
   have c3 : W4.cell? ⟨(W0.junk U).heap.size, 3, none⟩ = some (.int .i64 rlen) := by rw [hW4]; simp [go_sem]
   have c5 : W4.cell? ⟨(W0.junk U).heap.size, 5, none⟩ = some (.bool rone) := by rw [hW4]; simp [go_sem]
   haveI l4 : Lo (W0.junk U).heap.size W4 := by rw [hW4]; infer_instance
   haveI bw4 : Bw W0 W4 := by rw [hW4]; infer_instance
   rw [← hW4]
   generalize (W0.junk U).heap.size = b10 at *
   clear hW4 d0 d1 d2 d3 d4 d5
   go_cut [11] (fun s11 wx => s11 = .bool ld ∧ wx = W4)
   case first =>
    have hq : ∀ x y : Int, (x == y) = true ∨ (x == y) = false := fun x y => by cases (x == y) <;> simp
    have HX : Hid (leadsB a b ⟨rid, rsrc, rdst, rlen, rlim, rone⟩ = (rsrc == a && rdst == b || !rone && rdst == a && rsrc == b)) := Lib.hid rfl
    rw [HLD.out] at HX
    rcases hq rsrc a with q1 | q1
    ·rcases hq rdst b with q2 | q2
     ·have e : ld = true := by rw [HX.out, q1, q2]; rfl
      subst e
      go_wp2_with fail
      go_meet
      exact ⟨rfl, rfl⟩
     ·cases rone
      ·rcases hq rdst a with q3 | q3
       ·rcases hq rsrc b with q4 | q4
        ·have e : ld = true := by rw [HX.out, q1, q2, q3, q4]; rfl
         subst e
         go_wp2_with fail
         go_meet
         exact ⟨rfl, rfl⟩
        ·have e : ld = false := by rw [HX.out, q1, q2, q3, q4]; rfl
         subst e
         go_wp2_with fail
         go_meet
         exact ⟨rfl, rfl⟩
       ·have e : ld = false := by rw [HX.out, q1, q2, q3]; rfl
        subst e
        go_wp2_with fail
        go_meet
        exact ⟨rfl, rfl⟩
      ·have e : ld = false := by rw [HX.out, q1, q2]; rfl
       subst e
       go_wp2_with fail
       go_meet
       exact ⟨rfl, rfl⟩
    ·cases rone
     ·rcases hq rdst a with q3 | q3
      ·rcases hq rsrc b with q4 | q4
       ·have e : ld = true := by rw [HX.out, q1, q3, q4]; rfl
        subst e
        go_wp2_with fail
        go_meet
        exact ⟨rfl, rfl⟩
       ·have e : ld = false := by rw [HX.out, q1, q3, q4]; rfl
        subst e
        go_wp2_with fail
        go_meet
        exact ⟨rfl, rfl⟩
      ·have e : ld = false := by rw [HX.out, q1, q3]; rfl
       subst e
       go_wp2_with fail
       go_meet
       exact ⟨rfl, rfl⟩
     ·have e : ld = false := by rw [HX.out, q1]; rfl
      subst e
      go_wp2_with fail
      go_meet
      exact ⟨rfl, rfl⟩
   case rest =>
    obtain ⟨rfl, rfl⟩ := hcut
    clear HLD
    cases ld
    ·go_wp2_with fail
     go_roundw
     case rel => exact ⟨k + 1, ⟨hr, hl, ho⟩, rfl, rfl, rfl, by go_num, by omega, Lib.hid (by rw [HD2.out]; rfl), by exact below_some Bw.b⟩
     case measure => simp [intOf]; omega
    ·cases ho
     ·go_wp2_with fail
      refine wp_jregion (by kernel_rfl) (by kernel_rfl) ?_
      repeat (go_big_quiet_step (first | (fail) | fail))
      refine wpQuiet_nil ?_
      rintro w' ⟨U2, rfl⟩
      go_wp2_with fail
      go_roundw
      case rel => exact ⟨k + 1, ⟨rid, rlen, true⟩, rfl, rfl, rfl, by go_num, by omega, Lib.hid (by rw [HD2.out]; rfl), by exact below_some Bw.b⟩
      case measure => simp [intOf]; omega
     ·by_cases hlt2 : rlen < hl
      ·go_wp2_with fail
       refine wp_jregion (by kernel_rfl) (by kernel_rfl) ?_
       repeat (go_big_quiet_step (first | (fail) | fail))
       refine wpQuiet_nil ?_
       rintro w' ⟨U2, rfl⟩
       go_wp2_with fail
       go_roundw
       case rel => exact ⟨k + 1, ⟨rid, rlen, true⟩, rfl, rfl, rfl, by go_num, by omega, Lib.hid (by rw [HD2.out]; simp [hlt2]), by exact below_some Bw.b⟩
       case measure => simp [intOf]; omega
      ·go_wp2_with fail
       go_roundw
       case rel => exact ⟨k + 1, ⟨hr, hl, true⟩, rfl, rfl, rfl, by go_num, by omega, Lib.hid (by rw [HD2.out]; simp [hlt2]), by exact below_some Bw.b⟩
       case measure => simp [intOf]; omega
  ·obtain rfl : k = nn := by omega
   have e : hopN n a b = ⟨hr, hl, ho⟩ := by rw [← HF.out]; unfold hopN; rw [List.take_of_length_le (by rw [HNN.out]; exact Nat.le_refl _)]
   have ho' : out = ⟨hr, hl, ho⟩ := by rw [← HT.out]; exact e
   subst ho'
   go_wp2_with fail
   refine bodyPost_ret (v := .tuple #[.int .i64 hr, .int .i64 hl, .bool ho]) (by simp [results, Tryz.results94, go_sem]) rfl ⟨rfl, Bw.b⟩
end Go.Proofs.YtcelpkbmcmnogaaGreatDoor
