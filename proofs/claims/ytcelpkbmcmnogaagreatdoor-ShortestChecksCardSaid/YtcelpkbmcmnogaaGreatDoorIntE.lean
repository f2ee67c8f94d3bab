/-
 Integers of up to 64 bits: Add, Mul.
-/
import Derived.Test.YtcelpkbmcmnogaaGreatDoorIntB
import Derived.Deep.RegionHeld3
set_option linter.unusedSimpArgs false
set_option linter.unusedVariables false
namespace Go.Proofs.YtcelpkbmcmnogaaGreatDoor
open Go Go.RowKit Go.Vi
theorem zV_sg (a : Int) : zV a = .agg #[.bool (decide (a < 0)), .string (magS a.natAbs)] := rfl
theorem sg_dec (a : Int) : sg (decide (a < 0)) a.natAbs = a := by
 unfold sg
 by_cases h : a < 0
 ·simp [h]; omega
 ·simp [h]; omega
theorem mul_sg (s t : Bool) (p q : Nat) : sg s p * sg t q = sg (s != t) (p * q) := by
 cases s <;> cases t <;> simp [sg, Int.neg_mul, Int.mul_neg]
set_option maxHeartbeats 4000000 in
theorem mulZ_ex (a b : Int) (w : World) (ha : a.natAbs < 18446744073709551616) (hb : b.natAbs < 18446744073709551616) (h : a.natAbs * b.natAbs < 18446744073709551616) :
  Calls Tryz.prog 62 #[zV a, zV b] w fun e w' => e = .returned (zV (a * b)) ∧ Below w.heap.size w w' := by
 have hv : zV (a * b) = zV (sg (decide (a < 0) != decide (b < 0)) (a.natAbs * b.natAbs)) := by
  have h1 := mul_sg (decide (a < 0)) (decide (b < 0)) a.natAbs b.natAbs
  rw [sg_dec, sg_dec] at h1
  rw [h1]
 rw [hv]
 have HX := Lib.hid (fun w' => mul_ex a.natAbs b.natAbs w' ha hb h)
 have HM := Lib.hid (fun c w' => made_ex c (a.natAbs * b.natAbs) w' h)
 obtain ⟨c, hc⟩ : ∃ c, (decide (a < 0) != decide (b < 0)) = c := ⟨_, rfl⟩
 obtain ⟨s, hs⟩ : ∃ s, decide (a < 0) = s := ⟨_, rfl⟩
 obtain ⟨t, ht⟩ : ∃ s, decide (b < 0) = s := ⟨_, rfl⟩
 rw [zV_sg a, zV_sg b, hs, ht]
 rw [hs, ht] at hc
 rw [hc]
 have HM2 := Lib.hid (HM.out c)
 clear HM
 rw [sg_cells] at HM2 ⊢
 obtain ⟨d, hd⟩ : ∃ d, (c && decide (a.natAbs * b.natAbs ≠ 0)) = d := ⟨_, rfl⟩
 rw [hd] at HM2 ⊢
 generalize magS a.natAbs = x at HX ⊢
 generalize magS b.natAbs = y at HX ⊢
 generalize magS (a.natAbs * b.natAbs) = z at HX HM2
 have hc2 : (!(s == t)) = c := by rw [← hc]; rfl
 clear hv hd hs ht h ha hb
 go_enter Tryz.func62, Tryz.ntmps62
 go_wp2_with fail
 obtain ⟨W, hW⟩ : ∃ W, W = ((w.alloc (.cells #[.bool s, .string x] 39)).alloc (.cells #[.bool t, .string y] 39)).alloc (.cells #[.bool false, .string ⟨#[]⟩] 39) := ⟨_, rfl⟩
 have PA : W.heap[w.heap.size]? = some (.cells #[.bool s, .string x] 39 (0, 0)) := by rw [hW]; exact obj_old (obj_old (obj_last _ _))
 have PB : W.heap[w.heap.size + 1]? = some (.cells #[.bool t, .string y] 39 (0, 0)) := by rw [hW]; exact obj_old (obj_last2 _ _ _)
 have PC : W.heap[w.heap.size + 1 + 1]? = some (.cells #[.bool false, .string ⟨#[]⟩] 39 (0, 0)) := by
  rw [hW]
  have q := obj_last ((w.alloc (.cells #[.bool s, .string x] 39)).alloc (.cells #[.bool t, .string y] 39)) (.cells #[.bool false, .string ⟨#[]⟩] 39)
  have e : ((w.alloc (.cells #[.bool s, .string x] 39)).alloc (.cells #[.bool t, .string y] 39)).heap.size = w.heap.size + 1 + 1 := by simp
  rw [e] at q; exact q
 have BW : Below w.heap.size w W := by rw [hW]; (repeat (first | with_reducible exact Below.refl _ _ | with_reducible assumption | ((with_reducible refine Below.setCell ?_ ?_ _); rotate_left; focus (first | exact Nat.le_refl _ | omega | exact Below.size (by assumption) | (simp; done) | (simp; omega))) | ((with_reducible refine Below.alloc ?_ ?_ _); rotate_left; focus (first | exact Nat.le_refl _ | omega | exact Below.size (by assumption) | (simp; done) | (simp; omega))) | (with_reducible refine Below.drew ?_) | (with_reducible refine drewN_ ?_ _)))
 have zW : W.heap.size = w.heap.size + 3 := by rw [hW]; simp
 rw [← hW]
 have a0 := obj_cell PA 0
 have a1 := obj_cell PA 1
 have b0 := obj_cell PB 0
 have b1 := obj_cell PB 1
 simp at a0 a1 b0 b1
 obtain ⟨h0, hh0⟩ : ∃ z, w.heap.size = z := ⟨_, rfl⟩
 rw [hh0] at PC a0 a1 b0 b1 zW ⊢
 have HPC := Lib.hid PC
 have HBW := Lib.hid BW
 have HH := Lib.hid hh0
 have y0 : h0 < h0 + 2 := by omega
 have y1 : h0 + 1 < h0 + 2 := by omega
 clear hW PA PB PC BW hh0
 go_region_held3 (fun w' => w'.cell? ⟨h0, 0, none⟩ = some (.bool s) ∧ w'.cell? ⟨h0, 1, none⟩ = some (.string x) ∧ w'.cell? ⟨h0 + 1, 0, none⟩ = some (.bool t) ∧ w'.cell? ⟨h0 + 1, 1, none⟩ = some (.string y))
  (((go_split_ands; refine ⟨?_, ?_, ?_, ?_⟩ <;> first | with_reducible assumption | exact ((show Below (h0 + 2) W _ from (by (repeat (first | with_reducible exact Below.refl _ _ | with_reducible assumption | ((with_reducible refine Below.setCell ?_ ?_ _); rotate_left; focus (first | exact Nat.le_refl _ | omega | exact Below.size (by assumption) | (simp; done) | (simp; omega))) | ((with_reducible refine Below.alloc ?_ ?_ _); rotate_left; focus (first | exact Nat.le_refl _ | omega | exact Below.size (by assumption) | (simp; done) | (simp; omega))) | (with_reducible refine Below.drew ?_) | (with_reducible refine drewN_ ?_ _))))).cell (p := ⟨_, _, none⟩) (by first | with_reducible assumption | omega)).trans (by with_reducible assumption))))
  ((first | ((with_reducible refine (HX.out _).mono ?_); rintro e w1 ⟨rfl, hb1⟩; have D1 := from_ (w := W) hb1 (by (repeat (first | with_reducible exact Below.refl _ _ | with_reducible assumption | ((with_reducible refine Below.setCell ?_ ?_ _); rotate_left; focus (first | exact Nat.le_refl _ | omega | exact Below.size (by assumption) | (simp; done) | (simp; omega))) | ((with_reducible refine Below.alloc ?_ ?_ _); rotate_left; focus (first | exact Nat.le_refl _ | omega | exact Below.size (by assumption) | (simp; done) | (simp; omega))) | (with_reducible refine Below.drew ?_) | (with_reducible refine drewN_ ?_ _)))); have C1 := D1.mono (B' := h0 + 2) (by omega); clear hb1) | ((with_reducible refine (HM2.out _).mono ?_); rintro e w2 ⟨rfl, hb2⟩; have D2 := from_ (w := W) hb2 (by (repeat (first | with_reducible exact Below.refl _ _ | with_reducible assumption | ((with_reducible refine Below.setCell ?_ ?_ _); rotate_left; focus (first | exact Nat.le_refl _ | omega | exact Below.size (by assumption) | (simp; done) | (simp; omega))) | ((with_reducible refine Below.alloc ?_ ?_ _); rotate_left; focus (first | exact Nat.le_refl _ | omega | exact Below.size (by assumption) | (simp; done) | (simp; omega))) | (with_reducible refine Below.drew ?_) | (with_reducible refine drewN_ ?_ _)))); have C2 := D2.mono (B' := h0 + 2) (by omega); have PC2 := keepObj D2 HPC.out; have e0 := obj_cell PC2 0; have e1 := obj_cell PC2 1; have f0 := obj_free PC2 0; have f1 := obj_free PC2 1; simp at e0 e1; have ze := obj_lt PC2; clear hb2)))
 all_goals
  go_wp2_with fail
  have hE := HBW.out.trans (D2.mono (by have := HH.out; omega))
  have q9 : ((w2.setCell ⟨h0 + 1 + 1, 0, none⟩ (.bool d)).setCell ⟨h0 + 1 + 1, 1, none⟩ (.string z)).heap[h0 + 1 + 1]? = some (.cells #[.bool d, .string z] 39 (0, 0)) := by
   have q := obj_set (off := 1) (v := .string z) (obj_set (off := 0) (v := .bool d) PC2)
   simpa using q
  have hE9 : Below w.heap.size w ((w2.setCell ⟨h0 + 1 + 1, 0, none⟩ (.bool d)).setCell ⟨h0 + 1 + 1, 1, none⟩ (.string z)) := (hE.setCell (by have := HH.out; simp only; omega) _).setCell (by have := HH.out; simp only; omega) _
  generalize (w2.setCell ⟨h0 + 1 + 1, 0, none⟩ (.bool d)).setCell ⟨h0 + 1 + 1, 1, none⟩ (.string z) = W9 at q9 hE9 ⊢
  have c0 := obj_cell q9 0
  have c1 := obj_cell q9 1
  simp at c0 c1
  exact bodyPost_ret (v := .agg #[.bool d, .string z]) (by simp [results, Tryz.results62, go_sem, c0, c1]) rfl ⟨rfl, hE9⟩
/-! Sums. -/
theorem addS (s t : Bool) (p q : Nat) (c : Bool) (m : Nat) (h : sg s p + sg t q = sg c m) {a b : Int} (ha : sg s p = a) (hb : sg t q = b) : zV (a + b) = .agg #[.bool (c && decide (m ≠ 0)), .string (magS m)] := by
 rw [← ha, ← hb, h, sg_cells]
set_option maxHeartbeats 4000000 in
theorem addZ_go (s t c same up : Bool) (p q m : Nat) (w : World) (hp : p < 18446744073709551616) (hq : q < 18446744073709551616) (hm : m < 18446744073709551616) (hsame : (s == t) = same) (hup : decide (0 ≤ cmpN p q) = up)
  (hc : c = if same then s else if up then s else t)
  (hx : ∀ w' : World, if same then Calls Tryz.prog 69 #[.string (magS p), .string (magS q)] w' (fun e w'' => e = .returned (.string (magS m)) ∧ Below w'.heap.size w' w'') else if up then Calls Tryz.prog 71 #[.string (magS p), .string (magS q)] w' (fun e w'' => e = .returned (.string (magS m)) ∧ Below w'.heap.size w' w'') else Calls Tryz.prog 71 #[.string (magS q), .string (magS p)] w' (fun e w'' => e = .returned (.string (magS m)) ∧ Below w'.heap.size w' w'')) :
  Calls Tryz.prog 30 #[.agg #[.bool s, .string (magS p)], .agg #[.bool t, .string (magS q)]] w fun e w' => e = .returned (.agg #[.bool (c && decide (m ≠ 0)), .string (magS m)]) ∧ Below w.heap.size w w' := by
 have HM2 := Lib.hid (fun w' => made_ex c m w' hm)
 rw [sg_cells] at HM2
 obtain ⟨d, hd⟩ : ∃ d, (c && decide (m ≠ 0)) = d := ⟨_, rfl⟩
 rw [hd] at HM2 ⊢
 have HCMP := Lib.hid (fun w' => compare_ex p q w' hp hq)
 obtain ⟨k, hk⟩ : ∃ k, cmpN p q = k := ⟨_, rfl⟩
 rw [hk] at HCMP hup
 have HX := Lib.hid hx
 generalize magS p = x at HX HCMP ⊢
 generalize magS q = y at HX HCMP ⊢
 generalize magS m = z at HX HM2 ⊢
 clear hx hd hk hp hq hm
 go_enter Tryz.func30, Tryz.ntmps30
 obtain ⟨W, hW⟩ : ∃ W, W = ((w.alloc (.cells #[.bool s, .string x] 39)).alloc (.cells #[.bool t, .string y] 39)).alloc (.cells #[.bool false, .string ⟨#[]⟩] 39) := ⟨_, rfl⟩
 have PA : W.heap[w.heap.size]? = some (.cells #[.bool s, .string x] 39 (0, 0)) := by rw [hW]; exact obj_old (obj_old (obj_last _ _))
 have PB : W.heap[w.heap.size + 1]? = some (.cells #[.bool t, .string y] 39 (0, 0)) := by rw [hW]; exact obj_old (obj_last2 _ _ _)
 have PC : W.heap[w.heap.size + 1 + 1]? = some (.cells #[.bool false, .string ⟨#[]⟩] 39 (0, 0)) := by
  rw [hW]
  have q := obj_last ((w.alloc (.cells #[.bool s, .string x] 39)).alloc (.cells #[.bool t, .string y] 39)) (.cells #[.bool false, .string ⟨#[]⟩] 39)
  have e : ((w.alloc (.cells #[.bool s, .string x] 39)).alloc (.cells #[.bool t, .string y] 39)).heap.size = w.heap.size + 1 + 1 := by simp
  rw [e] at q; exact q
 have BW : Below w.heap.size w W := by rw [hW]; (repeat (first | with_reducible exact Below.refl _ _ | with_reducible assumption | ((with_reducible refine Below.setCell ?_ ?_ _); rotate_left; focus (first | exact Nat.le_refl _ | omega | exact Below.size (by assumption) | (simp; done) | (simp; omega))) | ((with_reducible refine Below.alloc ?_ ?_ _); rotate_left; focus (first | exact Nat.le_refl _ | omega | exact Below.size (by assumption) | (simp; done) | (simp; omega))) | (with_reducible refine Below.drew ?_) | (with_reducible refine drewN_ ?_ _)))
 have zW : W.heap.size = w.heap.size + 3 := by rw [hW]; simp
 have HHW := Lib.hid hW
 clear hW
 cases same with
 | true =>
  simp only [if_true] at HX hc
  have hc' := hc.symm
  subst hc'
  obtain rfl : s = t := by simpa using hsame
  go_upto_region 2 with fail
  rw [← HHW.out]
  have a0 := obj_cell PA 0
  have a1 := obj_cell PA 1
  have b0 := obj_cell PB 0
  have b1 := obj_cell PB 1
  simp at a0 a1 b0 b1
  obtain ⟨h0, hh0⟩ : ∃ z, w.heap.size = z := ⟨_, rfl⟩
  rw [hh0] at PC a0 a1 b0 b1 zW ⊢
  have HPC := Lib.hid PC
  have HBW := Lib.hid BW
  have HH := Lib.hid hh0
  have y0 : h0 < h0 + 2 := by omega
  have y1 : h0 + 1 < h0 + 2 := by omega
  clear HHW PA PB PC BW hh0 hsame hup HCMP
  go_region_held3 (fun w' => w'.cell? ⟨h0, 0, none⟩ = some (.bool s) ∧ w'.cell? ⟨h0, 1, none⟩ = some (.string x) ∧ w'.cell? ⟨h0 + 1, 0, none⟩ = some (.bool s) ∧ w'.cell? ⟨h0 + 1, 1, none⟩ = some (.string y))
   (((go_split_ands; refine ⟨?_, ?_, ?_, ?_⟩ <;> first | with_reducible assumption | exact ((show Below (h0 + 2) W _ from (by (repeat (first | with_reducible exact Below.refl _ _ | with_reducible assumption | ((with_reducible refine Below.setCell ?_ ?_ _); rotate_left; focus (first | exact Nat.le_refl _ | omega | exact Below.size (by assumption) | (simp; done) | (simp; omega))) | ((with_reducible refine Below.alloc ?_ ?_ _); rotate_left; focus (first | exact Nat.le_refl _ | omega | exact Below.size (by assumption) | (simp; done) | (simp; omega))) | (with_reducible refine Below.drew ?_) | (with_reducible refine drewN_ ?_ _))))).cell (p := ⟨_, _, none⟩) (by first | with_reducible assumption | omega)).trans (by with_reducible assumption))))
   ((first | ((with_reducible refine (HX.out _).mono ?_); rintro e w1 ⟨rfl, hb1⟩; have D1 := from_ (w := W) hb1 (by (repeat (first | with_reducible exact Below.refl _ _ | with_reducible assumption | ((with_reducible refine Below.setCell ?_ ?_ _); rotate_left; focus (first | exact Nat.le_refl _ | omega | exact Below.size (by assumption) | (simp; done) | (simp; omega))) | ((with_reducible refine Below.alloc ?_ ?_ _); rotate_left; focus (first | exact Nat.le_refl _ | omega | exact Below.size (by assumption) | (simp; done) | (simp; omega))) | (with_reducible refine Below.drew ?_) | (with_reducible refine drewN_ ?_ _)))); have C1 := D1.mono (B' := h0 + 2) (by omega); clear hb1) | ((with_reducible refine (HM2.out _).mono ?_); rintro e w2 ⟨rfl, hb2⟩; have D2 := from_ (w := W) hb2 (by (repeat (first | with_reducible exact Below.refl _ _ | with_reducible assumption | ((with_reducible refine Below.setCell ?_ ?_ _); rotate_left; focus (first | exact Nat.le_refl _ | omega | exact Below.size (by assumption) | (simp; done) | (simp; omega))) | ((with_reducible refine Below.alloc ?_ ?_ _); rotate_left; focus (first | exact Nat.le_refl _ | omega | exact Below.size (by assumption) | (simp; done) | (simp; omega))) | (with_reducible refine Below.drew ?_) | (with_reducible refine drewN_ ?_ _)))); have C2 := D2.mono (B' := h0 + 2) (by omega); have PC2 := keepObj D2 HPC.out; have e0 := obj_cell PC2 0; have e1 := obj_cell PC2 1; have f0 := obj_free PC2 0; have f1 := obj_free PC2 1; simp at e0 e1; have ze := obj_lt PC2; clear hb2)))
  all_goals
   go_wp2_with fail
   have hE := HBW.out.trans (D2.mono (by have := HH.out; omega))
   have q9 : ((w2.setCell ⟨h0 + 1 + 1, 0, none⟩ (.bool d)).setCell ⟨h0 + 1 + 1, 1, none⟩ (.string z)).heap[h0 + 1 + 1]? = some (.cells #[.bool d, .string z] 39 (0, 0)) := by
    have q := obj_set (off := 1) (v := .string z) (obj_set (off := 0) (v := .bool d) PC2)
    simpa using q
   have hE9 : Below w.heap.size w ((w2.setCell ⟨h0 + 1 + 1, 0, none⟩ (.bool d)).setCell ⟨h0 + 1 + 1, 1, none⟩ (.string z)) := (hE.setCell (by have := HH.out; simp only; omega) _).setCell (by have := HH.out; simp only; omega) _
   generalize (w2.setCell ⟨h0 + 1 + 1, 0, none⟩ (.bool d)).setCell ⟨h0 + 1 + 1, 1, none⟩ (.string z) = W9 at q9 hE9 ⊢
   have c0 := obj_cell q9 0
   have c1 := obj_cell q9 1
   simp at c0 c1
   exact bodyPost_ret (v := .agg #[.bool d, .string z]) (by simp [results, Tryz.results30, go_sem, c0, c1]) rfl ⟨rfl, hE9⟩
 | false =>
  simp only [if_false, Bool.false_eq_true] at HX hc
  go_wp2_with fail
  rw [← HHW.out]
  refine (HCMP.out _).mono ?_
  rintro e w3 ⟨rfl, hb3⟩
  have QA := keepObj hb3 PA
  have QB := keepObj hb3 PB
  have PC3 := keepObj hb3 PC
  have BW3 := BW.trans (hb3.mono (by omega))
  have zW3 : w.heap.size + 3 ≤ w3.heap.size := by have := hb3.size; omega
  have a0 := obj_cell QA 0
  have a1 := obj_cell QA 1
  have b0 := obj_cell QB 0
  have b1 := obj_cell QB 1
  simp at a0 a1 b0 b1
  obtain ⟨h0, hh0⟩ : ∃ z, w.heap.size = z := ⟨_, rfl⟩
  rw [hh0] at PC3 a0 a1 b0 b1 zW3 ⊢
  have HPC := Lib.hid PC3
  have HBW := Lib.hid BW3
  have HH := Lib.hid hh0
  have y0 : h0 < h0 + 2 := by omega
  have y1 : h0 + 1 < h0 + 2 := by omega
  have g0 : h0 < w3.heap.size := by omega
  have g1 : h0 + 1 < w3.heap.size := by omega
  clear HHW PA PB PC QA QB PC3 BW BW3 hh0 hsame HCMP hb3 zW
  cases up with
  | true =>
   simp only [if_true] at HX hc
   have hc' := hc.symm
   subst hc'
   go_upto_region 4 with fail
   clear hup
   go_region_held3 (fun w' => w'.cell? ⟨h0, 0, none⟩ = some (.bool s) ∧ w'.cell? ⟨h0, 1, none⟩ = some (.string x) ∧ w'.cell? ⟨h0 + 1, 0, none⟩ = some (.bool t) ∧ w'.cell? ⟨h0 + 1, 1, none⟩ = some (.string y))
    (((go_split_ands; refine ⟨?_, ?_, ?_, ?_⟩ <;> first | with_reducible assumption | exact ((show Below (h0 + 2) w3 _ from (by (repeat (first | with_reducible exact Below.refl _ _ | with_reducible assumption | ((with_reducible refine Below.setCell ?_ ?_ _); rotate_left; focus (first | exact Nat.le_refl _ | omega | exact Below.size (by assumption) | (simp; done) | (simp; omega))) | ((with_reducible refine Below.alloc ?_ ?_ _); rotate_left; focus (first | exact Nat.le_refl _ | omega | exact Below.size (by assumption) | (simp; done) | (simp; omega))) | (with_reducible refine Below.drew ?_) | (with_reducible refine drewN_ ?_ _))))).cell (p := ⟨_, _, none⟩) (by first | with_reducible assumption | omega)).trans (by with_reducible assumption))))
    ((first | ((with_reducible refine (HX.out _).mono ?_); rintro e w1 ⟨rfl, hb1⟩; have D1 := from_ (w := w3) hb1 (by (repeat (first | with_reducible exact Below.refl _ _ | with_reducible assumption | ((with_reducible refine Below.setCell ?_ ?_ _); rotate_left; focus (first | exact Nat.le_refl _ | omega | exact Below.size (by assumption) | (simp; done) | (simp; omega))) | ((with_reducible refine Below.alloc ?_ ?_ _); rotate_left; focus (first | exact Nat.le_refl _ | omega | exact Below.size (by assumption) | (simp; done) | (simp; omega))) | (with_reducible refine Below.drew ?_) | (with_reducible refine drewN_ ?_ _)))); have C1 := D1.mono (B' := h0 + 2) (by omega); clear hb1) | ((with_reducible refine (HM2.out _).mono ?_); rintro e w2 ⟨rfl, hb2⟩; have D2 := from_ (w := w3) hb2 (by (repeat (first | with_reducible exact Below.refl _ _ | with_reducible assumption | ((with_reducible refine Below.setCell ?_ ?_ _); rotate_left; focus (first | exact Nat.le_refl _ | omega | exact Below.size (by assumption) | (simp; done) | (simp; omega))) | ((with_reducible refine Below.alloc ?_ ?_ _); rotate_left; focus (first | exact Nat.le_refl _ | omega | exact Below.size (by assumption) | (simp; done) | (simp; omega))) | (with_reducible refine Below.drew ?_) | (with_reducible refine drewN_ ?_ _)))); have C2 := D2.mono (B' := h0 + 2) (by omega); have PC2 := keepObj D2 HPC.out; have e0 := obj_cell PC2 0; have e1 := obj_cell PC2 1; have f0 := obj_free PC2 0; have f1 := obj_free PC2 1; simp at e0 e1; have ze := obj_lt PC2; clear hb2)))
   all_goals
    go_wp2_with fail
    have hE := HBW.out.trans (D2.mono (by have := HH.out; omega))
    have q9 : ((w2.setCell ⟨h0 + 1 + 1, 0, none⟩ (.bool d)).setCell ⟨h0 + 1 + 1, 1, none⟩ (.string z)).heap[h0 + 1 + 1]? = some (.cells #[.bool d, .string z] 39 (0, 0)) := by
     have q := obj_set (off := 1) (v := .string z) (obj_set (off := 0) (v := .bool d) PC2)
     simpa using q
    have hE9 : Below w.heap.size w ((w2.setCell ⟨h0 + 1 + 1, 0, none⟩ (.bool d)).setCell ⟨h0 + 1 + 1, 1, none⟩ (.string z)) := (hE.setCell (by have := HH.out; simp only; omega) _).setCell (by have := HH.out; simp only; omega) _
    generalize (w2.setCell ⟨h0 + 1 + 1, 0, none⟩ (.bool d)).setCell ⟨h0 + 1 + 1, 1, none⟩ (.string z) = W9 at q9 hE9 ⊢
    have c0 := obj_cell q9 0
    have c1 := obj_cell q9 1
    simp at c0 c1
    exact bodyPost_ret (v := .agg #[.bool d, .string z]) (by simp [results, Tryz.results30, go_sem, c0, c1]) rfl ⟨rfl, hE9⟩
  | false =>
   simp only [if_false, Bool.false_eq_true] at HX hc
   have hc' := hc.symm
   subst hc'
   go_upto_region 5 with fail
   clear hup
   go_region_held3 (fun w' => w'.cell? ⟨h0, 0, none⟩ = some (.bool s) ∧ w'.cell? ⟨h0, 1, none⟩ = some (.string x) ∧ w'.cell? ⟨h0 + 1, 0, none⟩ = some (.bool t) ∧ w'.cell? ⟨h0 + 1, 1, none⟩ = some (.string y))
    (((go_split_ands; refine ⟨?_, ?_, ?_, ?_⟩ <;> first | with_reducible assumption | exact ((show Below (h0 + 2) w3 _ from (by (repeat (first | with_reducible exact Below.refl _ _ | with_reducible assumption | ((with_reducible refine Below.setCell ?_ ?_ _); rotate_left; focus (first | exact Nat.le_refl _ | omega | exact Below.size (by assumption) | (simp; done) | (simp; omega))) | ((with_reducible refine Below.alloc ?_ ?_ _); rotate_left; focus (first | exact Nat.le_refl _ | omega | exact Below.size (by assumption) | (simp; done) | (simp; omega))) | (with_reducible refine Below.drew ?_) | (with_reducible refine drewN_ ?_ _))))).cell (p := ⟨_, _, none⟩) (by first | with_reducible assumption | omega)).trans (by with_reducible assumption))))
    ((first | ((with_reducible refine (HX.out _).mono ?_); rintro e w1 ⟨rfl, hb1⟩; have D1 := from_ (w := w3) hb1 (by (repeat (first | with_reducible exact Below.refl _ _ | with_reducible assumption | ((with_reducible refine Below.setCell ?_ ?_ _); rotate_left; focus (first | exact Nat.le_refl _ | omega | exact Below.size (by assumption) | (simp; done) | (simp; omega))) | ((with_reducible refine Below.alloc ?_ ?_ _); rotate_left; focus (first | exact Nat.le_refl _ | omega | exact Below.size (by assumption) | (simp; done) | (simp; omega))) | (with_reducible refine Below.drew ?_) | (with_reducible refine drewN_ ?_ _)))); have C1 := D1.mono (B' := h0 + 2) (by omega); clear hb1) | ((with_reducible refine (HM2.out _).mono ?_); rintro e w2 ⟨rfl, hb2⟩; have D2 := from_ (w := w3) hb2 (by (repeat (first | with_reducible exact Below.refl _ _ | with_reducible assumption | ((with_reducible refine Below.setCell ?_ ?_ _); rotate_left; focus (first | exact Nat.le_refl _ | omega | exact Below.size (by assumption) | (simp; done) | (simp; omega))) | ((with_reducible refine Below.alloc ?_ ?_ _); rotate_left; focus (first | exact Nat.le_refl _ | omega | exact Below.size (by assumption) | (simp; done) | (simp; omega))) | (with_reducible refine Below.drew ?_) | (with_reducible refine drewN_ ?_ _)))); have C2 := D2.mono (B' := h0 + 2) (by omega); have PC2 := keepObj D2 HPC.out; have e0 := obj_cell PC2 0; have e1 := obj_cell PC2 1; have f0 := obj_free PC2 0; have f1 := obj_free PC2 1; simp at e0 e1; have ze := obj_lt PC2; clear hb2)))
   all_goals
    go_wp2_with fail
    have hE := HBW.out.trans (D2.mono (by have := HH.out; omega))
    have q9 : ((w2.setCell ⟨h0 + 1 + 1, 0, none⟩ (.bool d)).setCell ⟨h0 + 1 + 1, 1, none⟩ (.string z)).heap[h0 + 1 + 1]? = some (.cells #[.bool d, .string z] 39 (0, 0)) := by
     have q := obj_set (off := 1) (v := .string z) (obj_set (off := 0) (v := .bool d) PC2)
     simpa using q
    have hE9 : Below w.heap.size w ((w2.setCell ⟨h0 + 1 + 1, 0, none⟩ (.bool d)).setCell ⟨h0 + 1 + 1, 1, none⟩ (.string z)) := (hE.setCell (by have := HH.out; simp only; omega) _).setCell (by have := HH.out; simp only; omega) _
    generalize (w2.setCell ⟨h0 + 1 + 1, 0, none⟩ (.bool d)).setCell ⟨h0 + 1 + 1, 1, none⟩ (.string z) = W9 at q9 hE9 ⊢
    have c0 := obj_cell q9 0
    have c1 := obj_cell q9 1
    simp at c0 c1
    exact bodyPost_ret (v := .agg #[.bool d, .string z]) (by simp [results, Tryz.results30, go_sem, c0, c1]) rfl ⟨rfl, hE9⟩
end Go.Proofs.YtcelpkbmcmnogaaGreatDoor
