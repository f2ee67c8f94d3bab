/-
 Integers of up to 64 bits: Add of signed numbers, Sign, Compare, FromInt.
 Integers of up to 64 bits: FromInt, Compare.
 Integers of up to 64 bits: the greatest common divisor.
 Integers of up to 64 bits: an exact division.
-/
import Derived.Test.YtcelpkbmcmnogaaGreatDoorIntE
set_option linter.unusedSimpArgs false
set_option linter.unusedVariables false
namespace Go.Proofs.YtcelpkbmcmnogaaGreatDoor
open Go Go.RowKit Go.Vi
theorem cmpN_up (p q : Nat) : decide (0 ≤ cmpN p q) = decide (q ≤ p) := by
 unfold cmpN
 by_cases h1 : p < q
 ·rw [if_pos h1]; simp; omega
 ·rw [if_neg h1]
  by_cases h2 : q < p
  ·rw [if_pos h2]; simp; omega
  ·rw [if_neg h2]; simp; omega
theorem addZ_ex (a b : Int) (w : World) (h : a.natAbs + b.natAbs < 18446744073709551616) :
  Calls Tryz.prog 30 #[zV a, zV b] w fun e w' => e = .returned (zV (a + b)) ∧ Below w.heap.size w w' := by
 have ha := sg_dec a
 have hb := sg_dec b
 rw [zV_sg a, zV_sg b]
 obtain ⟨s, hs⟩ : ∃ s, decide (a < 0) = s := ⟨_, rfl⟩
 obtain ⟨t, ht⟩ : ∃ s, decide (b < 0) = s := ⟨_, rfl⟩
 obtain ⟨p, hp⟩ : ∃ p, a.natAbs = p := ⟨_, rfl⟩
 obtain ⟨q, hq⟩ : ∃ p, b.natAbs = p := ⟨_, rfl⟩
 rw [hs, hp] at ha
 rw [ht, hq] at hb
 rw [hp, hq] at h
 rw [hs, ht, hp, hq]
 clear hs ht hp hq
 by_cases hst : s = t
 ·subst hst
  rw [addS s s p q s (p + q) (by cases s <;> simp [sg]; omega) ha hb]
  exact addZ_go s s s true _ p q (p + q) w (by omega) (by omega) (by omega) (by simp) rfl (by simp) (fun w' => by simpa using add_ex p q w' (by omega))
 ·by_cases hpq : q ≤ p
  ·rw [addS s t p q s (p - q) (by cases s <;> cases t <;> simp [sg] at hst ⊢ <;> omega) ha hb]
   exact addZ_go s t s false true p q (p - q) w (by omega) (by omega) (by omega) (by simpa using hst) (by rw [cmpN_up]; simpa using hpq) (by simp) (fun w' => by simpa using sub_ex p q w' (by omega) hpq)
  ·rw [addS s t p q t (q - p) (by cases s <;> cases t <;> simp [sg] at hst ⊢ <;> omega) ha hb]
   exact addZ_go s t t false false p q (q - p) w (by omega) (by omega) (by omega) (by simpa using hst) (by rw [cmpN_up]; simpa using hpq) (by simp) (fun w' => by simpa using sub_ex q p w' (by omega) (by omega))
/-- The sign of an integer. -/
def sgnZ (z : Int) : Int := if z < 0 then -1 else if z = 0 then 0 else 1
theorem sign_ex (z : Int) (w : World) (h : z.natAbs < 18446744073709551616) :
  Calls Tryz.prog 63 #[zV z] w fun e w' => e = .returned (.int .i64 (sgnZ z)) ∧ Below w.heap.size w w' := by
 have he := magS_empty h
 rw [zV_sg]
 unfold sgnZ
 by_cases h0 : z < 0
 ·rw [if_pos h0]
  have hd : decide (z < 0) = true := by simpa using h0
  have hn : z.natAbs ≠ 0 := by omega
  rw [hd]
  have he2 : (magS z.natAbs).toList.isEmpty = false := by rw [he]; simpa using hn
  generalize magS z.natAbs = s at he2
  clear he h0 hd hn h
  go_enter Tryz.func63, Tryz.ntmps63
  go_wp2
  go_ret
  exact ⟨rfl, (by (repeat (first | with_reducible exact Below.refl _ _ | with_reducible assumption | ((with_reducible refine Below.setCell ?_ ?_ _); rotate_left; focus (first | exact Nat.le_refl _ | omega | exact Below.size (by assumption) | (simp; done) | (simp; omega))) | ((with_reducible refine Below.alloc ?_ ?_ _); rotate_left; focus (first | exact Nat.le_refl _ | omega | exact Below.size (by assumption) | (simp; done) | (simp; omega))) | (with_reducible refine Below.drew ?_) | (with_reducible refine drewN_ ?_ _))))⟩
 ·rw [if_neg h0]
  have hd : decide (z < 0) = false := by simpa using h0
  rw [hd]
  by_cases h1 : z = 0
  ·rw [if_pos h1]
   have he2 : (magS z.natAbs).toList.isEmpty = true := by rw [he, h1]; rfl
   generalize magS z.natAbs = s at he2
   clear he h0 hd h1 h
   go_enter Tryz.func63, Tryz.ntmps63
   go_wp2
   go_ret
   exact ⟨rfl, (by (repeat (first | with_reducible exact Below.refl _ _ | with_reducible assumption | ((with_reducible refine Below.setCell ?_ ?_ _); rotate_left; focus (first | exact Nat.le_refl _ | omega | exact Below.size (by assumption) | (simp; done) | (simp; omega))) | ((with_reducible refine Below.alloc ?_ ?_ _); rotate_left; focus (first | exact Nat.le_refl _ | omega | exact Below.size (by assumption) | (simp; done) | (simp; omega))) | (with_reducible refine Below.drew ?_) | (with_reducible refine drewN_ ?_ _))))⟩
  ·rw [if_neg h1]
   have hn : z.natAbs ≠ 0 := by omega
   have he2 : (magS z.natAbs).toList.isEmpty = false := by rw [he]; simpa using hn
   generalize magS z.natAbs = s at he2
   clear he h0 hd h1 hn h
   go_enter Tryz.func63, Tryz.ntmps63
   go_wp2
   go_ret
   exact ⟨rfl, (by (repeat (first | with_reducible exact Below.refl _ _ | with_reducible assumption | ((with_reducible refine Below.setCell ?_ ?_ _); rotate_left; focus (first | exact Nat.le_refl _ | omega | exact Below.size (by assumption) | (simp; done) | (simp; omega))) | ((with_reducible refine Below.alloc ?_ ?_ _); rotate_left; focus (first | exact Nat.le_refl _ | omega | exact Below.size (by assumption) | (simp; done) | (simp; omega))) | (with_reducible refine Below.drew ?_) | (with_reducible refine drewN_ ?_ _))))⟩
end Go.Proofs.YtcelpkbmcmnogaaGreatDoor
namespace Go.Proofs.YtcelpkbmcmnogaaGreatDoor
open Go Go.RowKit Go.Vi
set_option maxRecDepth 100000 in
set_option maxHeartbeats 1000000 in
theorem fromInt_ex (n : Int) (w : World) (h : n.natAbs < 9223372036854775808) :
  Calls Tryz.prog 60 #[.int .i64 n] w fun e w' => e = .returned (zV n) ∧ Below w.heap.size w w' := by
 obtain ⟨m, hm⟩ : ∃ m, n.natAbs = m := ⟨_, rfl⟩
 have HG := Lib.hid (fun w' => magnitude_ex m w' (by omega))
 have hz : zV n = zV (sg (decide (n < 0)) m) := by rw [← hm, sg_dec]
 rw [hz]
 have HM := Lib.hid (fun w' => made_ex (decide (n < 0)) m w' (by omega))
 rw [sg_cells] at HM ⊢
 obtain ⟨d, hd⟩ : ∃ d, (decide (n < 0) && decide (m ≠ 0)) = d := ⟨_, rfl⟩
 rw [hd] at HM ⊢
 by_cases h0 : n < 0
 ·obtain ⟨v, hv⟩ : ∃ v, n + 18446744073709551616 = v := ⟨_, rfl⟩
  have w1 : IntKind.u64.wrap n = v := by rw [IntKind.wrap_u64]; omega
  have w2 : IntKind.u64.wrap (-v) = (m : Int) := by rw [IntKind.wrap_u64]; omega
  have hdec : decide (n < 0) = true := by simpa using h0
  rw [hdec] at HM
  generalize magS m = x at HG HM ⊢
  clear hz hd hm h hv
  go_enter Tryz.func60, Tryz.ntmps60
  go_wp2_with fail
  refine (HG.out _).mono ?_
  rintro e w1' ⟨rfl, hb1⟩
  have HB1 := Lib.hid (from_ (w := w) hb1 (by (repeat (first | with_reducible exact Below.refl _ _ | with_reducible assumption | ((with_reducible refine Below.setCell ?_ ?_ _); rotate_left; focus (first | exact Nat.le_refl _ | omega | exact Below.size (by assumption) | (simp; done) | (simp; omega))) | ((with_reducible refine Below.alloc ?_ ?_ _); rotate_left; focus (first | exact Nat.le_refl _ | omega | exact Below.size (by assumption) | (simp; done) | (simp; omega))) | (with_reducible refine Below.drew ?_) | (with_reducible refine drewN_ ?_ _)))))
  have hz1 := hb1.size
  simp at hz1
  obtain ⟨hc1, hf1⟩ := bcell hb1
  clear hb1
  go_wp2_with fail
  refine (HM.out _).mono ?_
  rintro e w2' ⟨rfl, hb2⟩
  have HB2 := Lib.hid (from_ (w := w) hb2 HB1.out)
  have hz2 := hb2.size
  have z2 : w.heap.size < w2'.heap.size := by omega
  have z1 : w.heap.size < w1'.heap.size := by omega
  obtain ⟨hc2, hf2⟩ := bcell hb2
  clear hb2
  go_wp2_with fail
  refine bodyPost_ret (v := .agg #[.bool d, .string x]) (by simp [results, Tryz.results60, go_sem, hc1, hf1, hc2, hf2, z1, z2]) rfl ⟨rfl, ?_⟩
  have hB := HB2.out
  (repeat (first | with_reducible exact Below.refl _ _ | with_reducible assumption | ((with_reducible refine Below.setCell ?_ ?_ _); rotate_left; focus (first | exact Nat.le_refl _ | omega | exact Below.size (by assumption) | (simp; done) | (simp; omega))) | ((with_reducible refine Below.alloc ?_ ?_ _); rotate_left; focus (first | exact Nat.le_refl _ | omega | exact Below.size (by assumption) | (simp; done) | (simp; omega))) | (with_reducible refine Below.drew ?_) | (with_reducible refine drewN_ ?_ _)))
 ·have w1 : IntKind.u64.wrap n = n := by rw [IntKind.wrap_u64]; omega
  have hnm : n = (m : Int) := by omega
  have hdec : decide (n < 0) = false := by simpa using h0
  rw [hdec] at HM
  subst hnm
  generalize magS m = x at HG HM ⊢
  clear hz hd hm h
  go_enter Tryz.func60, Tryz.ntmps60
  go_wp2_with fail
  refine (HG.out _).mono ?_
  rintro e w1' ⟨rfl, hb1⟩
  have HB1 := Lib.hid (from_ (w := w) hb1 (by (repeat (first | with_reducible exact Below.refl _ _ | with_reducible assumption | ((with_reducible refine Below.setCell ?_ ?_ _); rotate_left; focus (first | exact Nat.le_refl _ | omega | exact Below.size (by assumption) | (simp; done) | (simp; omega))) | ((with_reducible refine Below.alloc ?_ ?_ _); rotate_left; focus (first | exact Nat.le_refl _ | omega | exact Below.size (by assumption) | (simp; done) | (simp; omega))) | (with_reducible refine Below.drew ?_) | (with_reducible refine drewN_ ?_ _)))))
  have hz1 := hb1.size
  simp at hz1
  obtain ⟨hc1, hf1⟩ := bcell hb1
  clear hb1
  go_wp2_with fail
  refine (HM.out _).mono ?_
  rintro e w2' ⟨rfl, hb2⟩
  have HB2 := Lib.hid (from_ (w := w) hb2 HB1.out)
  have hz2 := hb2.size
  have z2 : w.heap.size < w2'.heap.size := by omega
  have z1 : w.heap.size < w1'.heap.size := by omega
  obtain ⟨hc2, hf2⟩ := bcell hb2
  clear hb2
  go_wp2_with fail
  refine bodyPost_ret (v := .agg #[.bool d, .string x]) (by simp [results, Tryz.results60, go_sem, hc1, hf1, hc2, hf2, z1, z2]) rfl ⟨rfl, ?_⟩
  have hB := HB2.out
  (repeat (first | with_reducible exact Below.refl _ _ | with_reducible assumption | ((with_reducible refine Below.setCell ?_ ?_ _); rotate_left; focus (first | exact Nat.le_refl _ | omega | exact Below.size (by assumption) | (simp; done) | (simp; omega))) | ((with_reducible refine Below.alloc ?_ ?_ _); rotate_left; focus (first | exact Nat.le_refl _ | omega | exact Below.size (by assumption) | (simp; done) | (simp; omega))) | (with_reducible refine Below.drew ?_) | (with_reducible refine drewN_ ?_ _)))
end Go.Proofs.YtcelpkbmcmnogaaGreatDoor
namespace Go.Proofs.YtcelpkbmcmnogaaGreatDoor
open Go Go.RowKit Go.Vi
theorem zV_nat (n : Nat) : zV (n : Int) = zV (sg false n) := rfl
set_option maxRecDepth 100000 in
set_option maxHeartbeats 4000000 in
theorem gcd_ex (s t : Bool) (p q : Nat) (w : World) (hp : p < 18446744073709551616) (hq : q < 18446744073709551616) :
  Calls Tryz.prog 65 #[.agg #[.bool s, .string (magS p)], .agg #[.bool t, .string (magS q)]] w fun e w' => e = .returned (zV (Nat.gcd p q)) ∧ Below w.heap.size w w' := by
 obtain ⟨g, hg⟩ : ∃ g, Nat.gcd p q = g := ⟨_, rfl⟩
 rw [hg]
 have HW := Lib.hid (fun w' => words_ex p q w' hp hq)
 have hgl : g < 18446744073709551616 := by
  rw [← hg]
  by_cases h0 : q = 0
  ·rw [h0, Nat.gcd_zero_right]; exact hp
  ·exact Nat.lt_of_le_of_lt (Nat.gcd_le_right p (by omega)) hq
 have HG := Lib.hid (fun w' => magnitude_ex g w' hgl)
 have HM := Lib.hid (fun w' => made_ex false g w' hgl)
 rw [zV_nat]
 rw [sg_cells] at HM ⊢
 obtain ⟨d, hd⟩ : ∃ d, (false && decide (g ≠ 0)) = d := ⟨_, rfl⟩
 rw [hd] at HM ⊢
 have hqe := magS_empty hq
 have HGG := Lib.hid hg
 have HPL := Lib.hid hp
 have HQL := Lib.hid hq
 by_cases h0 : q = 0
 ·have hgp : g = p := by rw [← hg, h0, Nat.gcd_zero_right]
  have he : (magS q).toList.isEmpty = true := by rw [hqe, h0]; rfl
  rw [← hgp] at HW ⊢
  generalize magS q = y at he HW ⊢
  generalize magS g = x at HW HG HM ⊢
  clear hg hd hqe hp hq hgl h0 hgp HGG HPL HQL HG HW
  go_enter Tryz.func65, Tryz.ntmps65
  go_wp2_with fail
  obtain ⟨W, hW⟩ : ∃ W, W = ((w.alloc (.cells #[.bool s, .string x] 39)).alloc (.cells #[.bool t, .string y] 39)).alloc (.cells #[.bool false, .string ⟨#[]⟩] 39) := ⟨_, rfl⟩
  have PA : W.heap[w.heap.size]? = some (.cells #[.bool s, .string x] 39 (0, 0)) := by rw [hW]; exact obj_old (obj_old (obj_last _ _))
  have PB : W.heap[w.heap.size + 1]? = some (.cells #[.bool t, .string y] 39 (0, 0)) := by rw [hW]; exact obj_old (obj_last2 _ _ _)
  have PC : W.heap[w.heap.size + 1 + 1]? = some (.cells #[.bool false, .string ⟨#[]⟩] 39 (0, 0)) := by
   rw [hW]
   have q := obj_last ((w.alloc (.cells #[.bool s, .string x] 39)).alloc (.cells #[.bool t, .string y] 39)) (.cells #[.bool false, .string ⟨#[]⟩] 39)
   have e : ((w.alloc (.cells #[.bool s, .string x] 39)).alloc (.cells #[.bool t, .string y] 39)).heap.size = w.heap.size + 1 + 1 := by simp
   rw [e] at q; exact q
  have BW : Below w.heap.size w W := by rw [hW]; (repeat (first | with_reducible exact Below.refl _ _ | with_reducible assumption | ((with_reducible refine Below.setCell ?_ ?_ _); rotate_left; focus (first | exact Nat.le_refl _ | omega | exact Below.size (by assumption) | (simp; done) | (simp; omega))) | ((with_reducible refine Below.alloc ?_ ?_ _); rotate_left; focus (first | exact Nat.le_refl _ | omega | exact Below.size (by assumption) | (simp; done) | (simp; omega))) | (with_reducible refine Below.drew ?_) | (with_reducible refine drewN_ ?_ _)))
  have zW : W.heap.size = w.heap.size + 3 := by rw [hW]; simp
  rw [← hW]
  have a0 := obj_cell PA 0
  have a1 := obj_cell PA 1
  have b0 := obj_cell PB 0
  have b1 := obj_cell PB 1
  simp at a0 a1 b0 b1
  obtain ⟨h0, hh0⟩ : ∃ z, w.heap.size = z := ⟨_, rfl⟩
  rw [hh0] at PC a0 a1 b0 b1 zW ⊢
  have HPC := Lib.hid PC
  have HBW := Lib.hid BW
  have HH := Lib.hid hh0
  have g0 : h0 < W.heap.size := by omega
  have g1 : h0 + 1 < W.heap.size := by omega
  clear hW PA PB PC BW hh0
  go_quiet (fail)
  obtain ⟨W2, hW2⟩ : ∃ W2, W2 = W.drewN nq := ⟨_, rfl⟩
  have h2 : Below W.heap.size W W2 := by rw [hW2]; exact drewN_ (Below.refl _ _) _
  rw [← hW2]
  have HPC2 := Lib.hid (keepObj h2 HPC.out)
  have HB2 := Lib.hid (HBW.out.trans (h2.mono (by have := HH.out; omega)))
  clear hW2 h2 a0 a1 b0 b1 HPC HBW zW g0 g1
  go_wp2_with fail
  go_loopw [5, 6] (fun s5 s6 wx => s5 = .string x ∧ s6 = .string y ∧ wx = W2) (fun _ _ _ => 0)
  case atStart => exact ⟨rfl, rfl, rfl⟩
  case round =>
   obtain ⟨rfl, rfl, hw⟩ := hrel
   subst hw
   go_wp2_with fail
   refine (HM.out _).mono ?_
   rintro e w5 ⟨rfl, hb5⟩
   have PC5 := keepObj hb5 HPC2.out
   have hE := HB2.out.trans (hb5.mono (HB2.out).size)
   have e0 := obj_cell PC5 0
   have e1 := obj_cell PC5 1
   have f0 := obj_free PC5 0
   have f1 := obj_free PC5 1
   simp at e0 e1
   have ze := obj_lt PC5
   clear hb5
   go_wp2_with fail
   have q9 : ((w5.setCell ⟨h0 + 1 + 1, 0, none⟩ (.bool d)).setCell ⟨h0 + 1 + 1, 1, none⟩ (.string x)).heap[h0 + 1 + 1]? = some (.cells #[.bool d, .string x] 39 (0, 0)) := by
    have q := obj_set (off := 1) (v := .string x) (obj_set (off := 0) (v := .bool d) PC5)
    simpa using q
   have hE9 : Below w.heap.size w ((w5.setCell ⟨h0 + 1 + 1, 0, none⟩ (.bool d)).setCell ⟨h0 + 1 + 1, 1, none⟩ (.string x)) := (hE.setCell (by have := HH.out; simp only; omega) _).setCell (by have := HH.out; simp only; omega) _
   generalize (w5.setCell ⟨h0 + 1 + 1, 0, none⟩ (.bool d)).setCell ⟨h0 + 1 + 1, 1, none⟩ (.string x) = W9 at q9 hE9 ⊢
   have c0 := obj_cell q9 0
   have c1 := obj_cell q9 1
   simp at c0 c1
   exact bodyPost_ret (v := .agg #[.bool d, .string x]) (by simp [results, Tryz.results65, go_sem, c0, c1]) rfl ⟨rfl, hE9⟩
 ·have he : (magS q).toList.isEmpty = false := by rw [hqe]; simpa using h0
  generalize magS q = y at he HW ⊢
  generalize magS p = x at HW ⊢
  generalize magS g = z at HG HM ⊢
  clear hg hd hqe hp hq hgl h0
  go_enter Tryz.func65, Tryz.ntmps65
  go_wp2_with fail
  obtain ⟨W, hW⟩ : ∃ W, W = ((w.alloc (.cells #[.bool s, .string x] 39)).alloc (.cells #[.bool t, .string y] 39)).alloc (.cells #[.bool false, .string ⟨#[]⟩] 39) := ⟨_, rfl⟩
  have PA : W.heap[w.heap.size]? = some (.cells #[.bool s, .string x] 39 (0, 0)) := by rw [hW]; exact obj_old (obj_old (obj_last _ _))
  have PB : W.heap[w.heap.size + 1]? = some (.cells #[.bool t, .string y] 39 (0, 0)) := by rw [hW]; exact obj_old (obj_last2 _ _ _)
  have PC : W.heap[w.heap.size + 1 + 1]? = some (.cells #[.bool false, .string ⟨#[]⟩] 39 (0, 0)) := by
   rw [hW]
   have q := obj_last ((w.alloc (.cells #[.bool s, .string x] 39)).alloc (.cells #[.bool t, .string y] 39)) (.cells #[.bool false, .string ⟨#[]⟩] 39)
   have e : ((w.alloc (.cells #[.bool s, .string x] 39)).alloc (.cells #[.bool t, .string y] 39)).heap.size = w.heap.size + 1 + 1 := by simp
   rw [e] at q; exact q
  have BW : Below w.heap.size w W := by rw [hW]; (repeat (first | with_reducible exact Below.refl _ _ | with_reducible assumption | ((with_reducible refine Below.setCell ?_ ?_ _); rotate_left; focus (first | exact Nat.le_refl _ | omega | exact Below.size (by assumption) | (simp; done) | (simp; omega))) | ((with_reducible refine Below.alloc ?_ ?_ _); rotate_left; focus (first | exact Nat.le_refl _ | omega | exact Below.size (by assumption) | (simp; done) | (simp; omega))) | (with_reducible refine Below.drew ?_) | (with_reducible refine drewN_ ?_ _)))
  have zW : W.heap.size = w.heap.size + 3 := by rw [hW]; simp
  rw [← hW]
  have a0 := obj_cell PA 0
  have a1 := obj_cell PA 1
  have b0 := obj_cell PB 0
  have b1 := obj_cell PB 1
  simp at a0 a1 b0 b1
  obtain ⟨h0, hh0⟩ : ∃ z, w.heap.size = z := ⟨_, rfl⟩
  rw [hh0] at PC a0 a1 b0 b1 zW ⊢
  have HPC := Lib.hid PC
  have HBW := Lib.hid BW
  have HH := Lib.hid hh0
  have g0 : h0 < W.heap.size := by omega
  have g1 : h0 + 1 < W.heap.size := by omega
  clear hW PA PB PC BW hh0
  go_quiet (fail)
  obtain ⟨W2, hW2⟩ : ∃ W2, W2 = W.drewN nq := ⟨_, rfl⟩
  have h2 : Below W.heap.size W W2 := by rw [hW2]; exact drewN_ (Below.refl _ _) _
  rw [← hW2]
  have HPC2 := Lib.hid (keepObj h2 HPC.out)
  have HB2 := Lib.hid (HBW.out.trans (h2.mono (by have := HH.out; omega)))
  clear hW2 h2 a0 a1 b0 b1 HPC HBW zW g0 g1
  go_wp2_with fail
  go_loopw [5, 6] (fun s5 s6 wx => s5 = .string x ∧ s6 = .string y ∧ wx = W2) (fun _ _ _ => 0)
  case atStart => exact ⟨rfl, rfl, rfl⟩
  case round =>
   obtain ⟨rfl, rfl, hw⟩ := hrel
   subst hw
   go_wp2_with fail
   refine (HW.out _).mono ?_
   rintro e w3 ⟨rfl, hw3⟩
   subst hw3
   obtain ⟨W4, rfl⟩ : ∃ z : World, z = wr := ⟨_, rfl⟩
   go_wp2_with fail
   go_loopw [7, 8] (fun s7 s8 wx => ∃ u v : Nat, s7 = .int .u64 u ∧ s8 = .int .u64 v ∧ Hid (u < 18446744073709551616 ∧ v < 18446744073709551616 ∧ Nat.gcd u v = g) ∧ Hid (Below W4.heap.size W4 wx)) (fun _ s8 _ => (intOf s8).toNat)
   case atStart => exact ⟨p, q, rfl, rfl, ⟨HPL.out, HQL.out, HGG.out⟩, Below.refl _ _⟩
   case round =>
    obtain ⟨u, v, rfl, rfl, hU, hB⟩ := hrel
    by_cases hv : v = 0
    ·subst hv
     have hug : u = g := by have := hU.out.2.2; rwa [Nat.gcd_zero_right] at this
     subst hug
     have PC4 := Lib.hid (keepObj hB.out HPC2.out)
     have B4 := Lib.hid (HB2.out.trans (hB.out.mono HB2.out.size))
     go_wp2_with fail
     refine (HG.out _).mono ?_
     rintro e w4 ⟨rfl, hb4⟩
     have PC6 := Lib.hid (keepObj hb4 PC4.out)
     have B6 := Lib.hid (B4.out.trans (hb4.mono B4.out.size))
     clear hb4
     go_wp2_with fail
     refine (HM.out _).mono ?_
     rintro e w5 ⟨rfl, hb5⟩
     have PC5 := keepObj hb5 PC6.out
     have hE := B6.out.trans (hb5.mono (B6.out).size)
     have e0 := obj_cell PC5 0
     have e1 := obj_cell PC5 1
     have f0 := obj_free PC5 0
     have f1 := obj_free PC5 1
     simp at e0 e1
     have ze := obj_lt PC5
     clear hb5
     go_wp2_with fail
     have q9 : ((w5.setCell ⟨h0 + 1 + 1, 0, none⟩ (.bool d)).setCell ⟨h0 + 1 + 1, 1, none⟩ (.string z)).heap[h0 + 1 + 1]? = some (.cells #[.bool d, .string z] 39 (0, 0)) := by
      have q := obj_set (off := 1) (v := .string z) (obj_set (off := 0) (v := .bool d) PC5)
      simpa using q
     have hE9 : Below w.heap.size w ((w5.setCell ⟨h0 + 1 + 1, 0, none⟩ (.bool d)).setCell ⟨h0 + 1 + 1, 1, none⟩ (.string z)) := (hE.setCell (by have := HH.out; simp only; omega) _).setCell (by have := HH.out; simp only; omega) _
     generalize (w5.setCell ⟨h0 + 1 + 1, 0, none⟩ (.bool d)).setCell ⟨h0 + 1 + 1, 1, none⟩ (.string z) = W9 at q9 hE9 ⊢
     have c0 := obj_cell q9 0
     have c1 := obj_cell q9 1
     simp at c0 c1
     exact bodyPost_ret (v := .agg #[.bool d, .string z]) (by simp [results, Tryz.results65, go_sem, c0, c1]) rfl ⟨rfl, hE9⟩
    ·obtain ⟨m, hm⟩ : ∃ m, u % v = m := ⟨_, rfl⟩
     have hmv : m < v := by rw [← hm]; exact Nat.mod_lt _ (by omega)
     have e2 : (u : Int).tmod (v : Int) = (m : Int) := by rw [Int.tmod_eq_emod_of_nonneg (by omega), ← hm]; rfl
     have w2 : IntKind.u64.wrap (m : Int) = (m : Int) := u64_wrap_id _ (by omega) (by have := hU.out.2.1; omega)
     have e3 : ((v : Int) == 0) = false := by simp; omega
     have hb0 : (1 : Int) ≤ (v : Int) := by omega
     have HG2 : Hid (v < 18446744073709551616 ∧ m < 18446744073709551616 ∧ Nat.gcd v m = g) := ⟨hU.out.2.1, by have := hU.out.2.1; omega, by rw [← hU.out.2.2, ← hm, Nat.gcd_comm u v, Nat.gcd_rec v u, Nat.gcd_comm]⟩
     clear hm
     go_wp2_with fail
     go_quiet (fail)
     go_wp2_with fail
     go_roundw
     case rel => exact ⟨v, m, rfl, rfl, HG2.out, by have h := hB.out; show Below _ _ _; (repeat (first | with_reducible exact Below.refl _ _ | with_reducible assumption | ((with_reducible refine Below.setCell ?_ ?_ _); rotate_left; focus (first | exact Nat.le_refl _ | omega | exact Below.size (by assumption) | (simp; done) | (simp; omega))) | ((with_reducible refine Below.alloc ?_ ?_ _); rotate_left; focus (first | exact Nat.le_refl _ | omega | exact Below.size (by assumption) | (simp; done) | (simp; omega))) | (with_reducible refine Below.drew ?_) | (with_reducible refine drewN_ ?_ _)))⟩
     case measure => simp [intOf]; omega
end Go.Proofs.YtcelpkbmcmnogaaGreatDoor
namespace Go.Proofs.YtcelpkbmcmnogaaGreatDoor
open Go Go.RowKit Go.Vi
set_option maxRecDepth 100000 in
set_option maxHeartbeats 4000000 in
theorem divmod_ex (s t : Bool) (p q : Nat) (w : World) (hp : p < 18446744073709551616) (hq : q < 18446744073709551616) (h0 : q ≠ 0) (hr : p % q = 0) :
  Calls Tryz.prog 100 #[.agg #[.bool s, .string (magS p)], .agg #[.bool t, .string (magS q)]] w fun e w' => e = .returned (.tuple #[zV (sg (s != t) (p / q)), zV 0, .int .i64 0]) ∧ Below w.heap.size w w' := by
 have HD := Lib.hid (fun w' => div_ex p q w' hp hq h0)
 rw [hr, magS_zero] at HD
 have hpq : p / q < 18446744073709551616 := Nat.lt_of_le_of_lt (Nat.div_le_self _ _) hp
 have HM1 := Lib.hid (fun c w' => made_ex c (p / q) w' hpq)
 have HM2 := Lib.hid (fun w' => made_ex false 0 w' (by omega))
 have hz0 : zV (0 : Int) = zV (sg false 0) := rfl
 rw [hz0]
 rw [sg_cells] at HM2
 rw [sg_cells, sg_cells]
 obtain ⟨c, hc⟩ : ∃ c, (s != t) = c := ⟨_, rfl⟩
 have hc2 : (!(s == t)) = c := by rw [← hc]; rfl
 rw [hc]
 have HM3 := Lib.hid (HM1.out c)
 rw [sg_cells] at HM3
 clear HM1
 obtain ⟨d, hd⟩ : ∃ d, (c && decide (p / q ≠ 0)) = d := ⟨_, rfl⟩
 rw [hd] at HM3 ⊢
 rw [magS_zero] at HM2 ⊢
 have he : (magS q).toList.isEmpty = false := by rw [magS_empty hq]; simpa using h0
 have hf0 : (false && decide (0 ≠ 0)) = false := rfl
 rw [hf0] at HM2 ⊢
 generalize magS q = y at he HD ⊢
 generalize magS p = x at HD ⊢
 generalize magS (p / q) = z at HD HM3 ⊢
 clear hd hp hq h0 hr hpq hz0 hf0
 go_enter Tryz.func100, Tryz.ntmps100
 go_wp2_with fail
 obtain ⟨W, hW⟩ : ∃ W, W = (((w.alloc (.cells #[.bool s, .string x] 39)).alloc (.cells #[.bool t, .string y] 39)).alloc (.cells #[.bool false, .string ⟨#[]⟩] 39)).alloc (.cells #[.bool false, .string ⟨#[]⟩] 39) := ⟨_, rfl⟩
 have last3 : ∀ (X : World) (A B C : Obj), (((X.alloc A).alloc B).alloc C).heap[X.heap.size + 1 + 1]? = some C := fun X A B C => by
  have q := obj_last ((X.alloc A).alloc B) C
  have e : ((X.alloc A).alloc B).heap.size = X.heap.size + 1 + 1 := by simp
  rw [e] at q; exact q
 have last4 : ∀ (X : World) (A B C D : Obj), ((((X.alloc A).alloc B).alloc C).alloc D).heap[X.heap.size + 1 + 1 + 1]? = some D := fun X A B C D => by
  have q := obj_last (((X.alloc A).alloc B).alloc C) D
  have e : (((X.alloc A).alloc B).alloc C).heap.size = X.heap.size + 1 + 1 + 1 := by simp
  rw [e] at q; exact q
 have PA : W.heap[w.heap.size]? = some (.cells #[.bool s, .string x] 39 (0, 0)) := by rw [hW]; exact obj_old (obj_old (obj_old (obj_last _ _)))
 have PB : W.heap[w.heap.size + 1]? = some (.cells #[.bool t, .string y] 39 (0, 0)) := by rw [hW]; exact obj_old (obj_old (obj_last2 _ _ _))
 have PC : W.heap[w.heap.size + 1 + 1]? = some (.cells #[.bool false, .string ⟨#[]⟩] 39 (0, 0)) := by rw [hW]; exact obj_old (last3 _ _ _ _)
 have PD : W.heap[w.heap.size + 1 + 1 + 1]? = some (.cells #[.bool false, .string ⟨#[]⟩] 39 (0, 0)) := by rw [hW]; exact last4 _ _ _ _ _
 have BW : Below w.heap.size w W := by rw [hW]; (repeat (first | with_reducible exact Below.refl _ _ | with_reducible assumption | ((with_reducible refine Below.setCell ?_ ?_ _); rotate_left; focus (first | exact Nat.le_refl _ | omega | exact Below.size (by assumption) | (simp; done) | (simp; omega))) | ((with_reducible refine Below.alloc ?_ ?_ _); rotate_left; focus (first | exact Nat.le_refl _ | omega | exact Below.size (by assumption) | (simp; done) | (simp; omega))) | (with_reducible refine Below.drew ?_) | (with_reducible refine drewN_ ?_ _)))
 rw [← hW]
 clear hW last3 last4
 refine (HD.out _).mono ?_
 rintro e w1 ⟨rfl, hb1⟩
 have PA1 := keepObj hb1 PA
 have PB1 := keepObj hb1 PB
 have PC1 := Lib.hid (keepObj hb1 PC)
 have PD1 := Lib.hid (keepObj hb1 PD)
 have B1 := Lib.hid (BW.trans (hb1.mono BW.size))
 have a0 := obj_cell PA1 0
 have b0 := obj_cell PB1 0
 simp at a0 b0
 obtain ⟨h0, hh0⟩ : ∃ z, w.heap.size = z := ⟨_, rfl⟩
 have HH := Lib.hid hh0
 rw [hh0] at a0 b0 PC1 PD1 ⊢
 clear PA PB PC PD BW PA1 PB1 hb1 hh0
 clear hc2
 cases s <;> cases t
 all_goals
  simp at hc
  subst hc
  go_wp2_with fail
  refine (HM3.out _).mono ?_
  rintro e w4 ⟨rfl, hb4⟩
  have PC4 := Lib.hid (keepObj hb4 PC1.out)
  have PD4 := Lib.hid (keepObj hb4 PD1.out)
  have B4 := Lib.hid (B1.out.trans (hb4.mono B1.out.size))
  clear hb4 a0 b0
  go_wp2_with fail
  refine (HM2.out _).mono ?_
  rintro e w5 ⟨rfl, hb5⟩
  have PC5 := keepObj hb5 PC4.out
  have PD5 := keepObj hb5 PD4.out
  have B5 := B4.out.trans (hb5.mono B4.out.size)
  have e0 := obj_cell PC5 0
  have e1 := obj_cell PC5 1
  have f0 := obj_free PC5 0
  have f1 := obj_free PC5 1
  have k0 := obj_cell PD5 0
  have k1 := obj_cell PD5 1
  have l0 := obj_free PD5 0
  have l1 := obj_free PD5 1
  simp at e0 e1 k0 k1
  have ze := obj_lt PC5
  have zd := obj_lt PD5
  clear hb5
  go_wp2_with fail
  have qc : ((((w5.setCell ⟨h0 + 1 + 1, 0, none⟩ (.bool d)).setCell ⟨h0 + 1 + 1, 1, none⟩ (.string z)).setCell ⟨h0 + 1 + 1 + 1, 0, none⟩ (.bool false)).setCell ⟨h0 + 1 + 1 + 1, 1, none⟩ (.string ⟨#[]⟩)).heap[h0 + 1 + 1]? = some (.cells #[.bool d, .string z] 39 (0, 0)) := by
   have q := obj_set (off := 1) (v := .string z) (obj_set (off := 0) (v := .bool d) PC5)
   refine obj_setOther (obj_setOther ?_ (by simp)) (by simp)
   simpa using q
  have qd : ((((w5.setCell ⟨h0 + 1 + 1, 0, none⟩ (.bool d)).setCell ⟨h0 + 1 + 1, 1, none⟩ (.string z)).setCell ⟨h0 + 1 + 1 + 1, 0, none⟩ (.bool false)).setCell ⟨h0 + 1 + 1 + 1, 1, none⟩ (.string ⟨#[]⟩)).heap[h0 + 1 + 1 + 1]? = some (.cells #[.bool false, .string ⟨#[]⟩] 39 (0, 0)) := by
   have q := obj_set (off := 1) (v := .string ⟨#[]⟩) (obj_set (off := 0) (v := .bool false) (obj_setOther (a := ⟨h0 + 1 + 1, 1, none⟩) (v := .string z) (obj_setOther (a := ⟨h0 + 1 + 1, 0, none⟩) (v := .bool d) PD5 (by simp)) (by simp)))
   simpa using q
  have hE9 : Below w.heap.size w ((((w5.setCell ⟨h0 + 1 + 1, 0, none⟩ (.bool d)).setCell ⟨h0 + 1 + 1, 1, none⟩ (.string z)).setCell ⟨h0 + 1 + 1 + 1, 0, none⟩ (.bool false)).setCell ⟨h0 + 1 + 1 + 1, 1, none⟩ (.string ⟨#[]⟩)) := by
   have := HH.out
   exact (((B5.setCell (by simp only; omega) _).setCell (by simp only; omega) _).setCell (by simp only; omega) _).setCell (by simp only; omega) _
  generalize ((((w5.setCell ⟨h0 + 1 + 1, 0, none⟩ (.bool d)).setCell ⟨h0 + 1 + 1, 1, none⟩ (.string z)).setCell ⟨h0 + 1 + 1 + 1, 0, none⟩ (.bool false)).setCell ⟨h0 + 1 + 1 + 1, 1, none⟩ (.string ⟨#[]⟩)) = W9 at qc qd hE9 ⊢
  have c0 := obj_cell qc 0
  have c1 := obj_cell qc 1
  have m0 := obj_cell qd 0
  have m1 := obj_cell qd 1
  simp at c0 c1 m0 m1
  exact bodyPost_ret (v := .tuple #[.agg #[.bool d, .string z], .agg #[.bool false, .string ⟨#[]⟩], .int .i64 0]) (by simp [results, Tryz.results100, go_sem, c0, c1, m0, m1]) rfl ⟨rfl, hE9⟩
end Go.Proofs.YtcelpkbmcmnogaaGreatDoor
