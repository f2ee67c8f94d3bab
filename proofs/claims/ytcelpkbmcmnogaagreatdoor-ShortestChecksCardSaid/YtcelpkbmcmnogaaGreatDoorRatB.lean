/-
 Fractions of small numbers: one, quotient.
 Fractions of small numbers: the canonical form.
-/
import Derived.Test.YtcelpkbmcmnogaaGreatDoorIntF
import Derived.Test.YtcelpkbmcmnogaaGreatDoorJnkA
set_option linter.unusedSimpArgs false
set_option linter.unusedVariables false
namespace Go.Proofs.YtcelpkbmcmnogaaGreatDoor
open Go Go.RowKit Go.Vi
theorem last3 (X : World) (A B C : Obj) : (((X.alloc A).alloc B).alloc C).heap[X.heap.size + 1 + 1]? = some C := by
 have q := obj_last ((X.alloc A).alloc B) C
 have e : ((X.alloc A).alloc B).heap.size = X.heap.size + 1 + 1 := by simp
 rw [e] at q; exact q
set_option maxHeartbeats 2000000 in
theorem quot_ex (s t : Bool) (p q : Nat) (w : World) (hp : p < 18446744073709551616) (hq : q < 18446744073709551616) (h0 : q ≠ 0) (hr : p % q = 0) :
  Calls Tryz.prog 66 #[.agg #[.bool s, .string (magS p)], .agg #[.bool t, .string (magS q)]] w fun e w' => e = .returned (zV (sg (s != t) (p / q))) ∧ Below w.heap.size w w' := by
 have HD := Lib.hid (fun w' => divmod_ex s t p q w' hp hq h0 hr)
 have hz0 : zV (0 : Int) = .agg #[.bool false, .string ⟨#[]⟩] := by
  have h : zV (0 : Int) = zV (sg false 0) := rfl
  rw [h, sg_cells, magS_zero]; rfl
 rw [hz0] at HD
 rw [sg_cells] at HD ⊢
 obtain ⟨d, hd⟩ : ∃ d, ((s != t) && decide (p / q ≠ 0)) = d := ⟨_, rfl⟩
 rw [hd] at HD ⊢
 generalize magS q = y at HD ⊢
 generalize magS p = x at HD ⊢
 generalize magS (p / q) = z at HD ⊢
 clear hd hp hq h0 hr hz0
 go_enter Tryz.func66, Tryz.ntmps66
 go_wp2_with fail
 obtain ⟨W, hW⟩ : ∃ W, W = ((w.alloc (.cells #[.bool s, .string x] 39)).alloc (.cells #[.bool t, .string y] 39)).alloc (.cells #[.bool false, .string ⟨#[]⟩] 39) := ⟨_, rfl⟩
 have PC : W.heap[w.heap.size + 1 + 1]? = some (.cells #[.bool false, .string ⟨#[]⟩] 39 (0, 0)) := by rw [hW]; exact last3 _ _ _ _
 have BW : Below w.heap.size w W := by rw [hW]; (repeat (first | with_reducible exact Below.refl _ _ | with_reducible assumption | ((with_reducible refine Below.setCell ?_ ?_ _); rotate_left; focus (first | exact Nat.le_refl _ | omega | exact Below.size (by assumption) | (simp; done) | (simp; omega))) | ((with_reducible refine Below.alloc ?_ ?_ _); rotate_left; focus (first | exact Nat.le_refl _ | omega | exact Below.size (by assumption) | (simp; done) | (simp; omega))) | (with_reducible refine Below.drew ?_) | (with_reducible refine drewN_ ?_ _)))
 rw [← hW]
 clear hW
 refine (HD.out _).mono ?_
 rintro e w1 ⟨rfl, hb1⟩
 have PC1 := keepObj hb1 PC
 have B1 := Lib.hid (BW.trans (hb1.mono BW.size))
 obtain ⟨bc, hbc⟩ : ∃ z, w.heap.size + 1 + 1 = z := ⟨_, rfl⟩
 have HH := Lib.hid hbc
 rw [hbc] at PC1 ⊢
 have e0 := obj_cell PC1 0
 have e1 := obj_cell PC1 1
 have f0 := obj_free PC1 0
 have f1 := obj_free PC1 1
 simp at e0 e1
 have ze := obj_lt PC1
 have HPC := Lib.hid PC1
 clear PC BW PC1 hb1 hbc
 go_wp2_with fail
 have q9 : ((((w1.setCell ⟨bc, 0, none⟩ (.bool d)).setCell ⟨bc, 1, none⟩ (.string z)).alloc (.cells #[.bool d, .string z] 39)).alloc (.cells #[.bool false, .string ⟨#[]⟩] 39)).heap[bc]? = some (.cells #[.bool d, .string z] 39 (0, 0)) := by
  have q := obj_set (off := 1) (v := .string z) (obj_set (off := 0) (v := .bool d) HPC.out)
  refine obj_old (obj_old ?_)
  simpa using q
 have hE9 : Below w.heap.size w ((((w1.setCell ⟨bc, 0, none⟩ (.bool d)).setCell ⟨bc, 1, none⟩ (.string z)).alloc (.cells #[.bool d, .string z] 39)).alloc (.cells #[.bool false, .string ⟨#[]⟩] 39)) := by
  have := HH.out
  have h1 := (B1.out.setCell (p := ⟨bc, 0, none⟩) (by simp only; omega) (.bool d)).setCell (p := ⟨bc, 1, none⟩) (by simp only; omega) (.string z)
  exact (h1.alloc h1.size _).alloc (h1.alloc h1.size _).size _
 generalize ((((w1.setCell ⟨bc, 0, none⟩ (.bool d)).setCell ⟨bc, 1, none⟩ (.string z)).alloc (.cells #[.bool d, .string z] 39)).alloc (.cells #[.bool false, .string ⟨#[]⟩] 39)) = W9 at q9 hE9 ⊢
 have c0 := obj_cell q9 0
 have c1 := obj_cell q9 1
 simp at c0 c1
 exact bodyPost_ret (v := .agg #[.bool d, .string z]) (by simp [results, Tryz.results66, go_sem, c0, c1]) rfl ⟨rfl, hE9⟩
theorem one_ex (w : World) : Calls Tryz.prog 67 #[] w fun e w' => e = .returned (zV 1) ∧ Below w.heap.size w w' := by
 have HF := Lib.hid (fun w' => fromInt_ex 1 w' (by omega))
 have h1 : zV (1 : Int) = zV (sg false 1) := rfl
 rw [h1] at HF ⊢
 rw [sg_cells] at HF ⊢
 have h2 : (false && decide (1 ≠ 0)) = false := rfl
 rw [h2] at HF ⊢
 generalize magS 1 = x at HF ⊢
 clear h1 h2
 go_enter Tryz.func67, Tryz.ntmps67
 go_wp2_with fail
 refine (HF.out _).mono ?_
 rintro e w1 ⟨rfl, hb1⟩
 have HB1 := Lib.hid (from_ (w := w) hb1 (by (repeat (first | with_reducible exact Below.refl _ _ | with_reducible assumption | ((with_reducible refine Below.setCell ?_ ?_ _); rotate_left; focus (first | exact Nat.le_refl _ | omega | exact Below.size (by assumption) | (simp; done) | (simp; omega))) | ((with_reducible refine Below.alloc ?_ ?_ _); rotate_left; focus (first | exact Nat.le_refl _ | omega | exact Below.size (by assumption) | (simp; done) | (simp; omega))) | (with_reducible refine Below.drew ?_) | (with_reducible refine drewN_ ?_ _)))))
 have hz1 := hb1.size
 simp at hz1
 obtain ⟨hc1, hf1⟩ := bcell hb1
 have z1 : w.heap.size < w1.heap.size := by omega
 clear hb1
 go_wp2_with fail
 refine bodyPost_ret (v := .agg #[.bool false, .string x]) (by simp [results, Tryz.results67, go_sem, hc1, hf1, z1]) rfl ⟨rfl, ?_⟩
 have hB := HB1.out
 (repeat (first | with_reducible exact Below.refl _ _ | with_reducible assumption | ((with_reducible refine Below.setCell ?_ ?_ _); rotate_left; focus (first | exact Nat.le_refl _ | omega | exact Below.size (by assumption) | (simp; done) | (simp; omega))) | ((with_reducible refine Below.alloc ?_ ?_ _); rotate_left; focus (first | exact Nat.le_refl _ | omega | exact Below.size (by assumption) | (simp; done) | (simp; omega))) | (with_reducible refine Below.drew ?_) | (with_reducible refine drewN_ ?_ _)))
end Go.Proofs.YtcelpkbmcmnogaaGreatDoor
namespace Go.Proofs.YtcelpkbmcmnogaaGreatDoor
open Go Go.RowKit Go.Vi
attribute [local go_sem ↓] lo_lt lo_ne lo_ne'
attribute [local go_sem] junk_cell junk_frozen junk_setCell junk_drew drew_junk
theorem toList_inj {a b : ByteArray} (h : a.toList = b.toList) : a = b := by
 rw [ByteArray.toList_eq, ByteArray.toList_eq] at h
 obtain ⟨⟨a⟩⟩ := a
 obtain ⟨⟨b⟩⟩ := b
 simp at h
 rw [h]
/-- A fraction as the program keeps it. -/
def rZ (n : Int) (d : Nat) : Value := .agg #[.bool (decide (n < 0)), .string (magS n.natAbs), .bool false, .string (if d = 1 then ⟨#[]⟩ else magS d)]
set_option maxRecDepth 100000 in
set_option maxHeartbeats 400000 in
theorem canon_ex (s : Bool) (p q : Nat) (w : World) (hs : s = true → p ≠ 0) (hp : p < 18446744073709551616) (hq : q < 18446744073709551616) (h0 : q ≠ 0) :
  Calls Tryz.prog 29 #[.agg #[.bool s, .string (magS p)], .agg #[.bool false, .string (magS q)]] w fun e w' => e = .returned (rZ (sg s (p / Nat.gcd p q)) (q / Nat.gcd p q)) ∧ Below w.heap.size w w' := by
 obtain ⟨g, hg⟩ : ∃ g, Nat.gcd p q = g := ⟨_, rfl⟩
 have hg0 : g ≠ 0 := by rw [← hg]; exact Nat.pos_iff_ne_zero.1 (Nat.gcd_pos_of_pos_right p (by omega))
 have hgl : g < 18446744073709551616 := by rw [← hg]; exact Nat.lt_of_le_of_lt (Nat.gcd_le_right p (by omega)) hq
 have hd1 : p % g = 0 := by rw [← hg]; exact Nat.mod_eq_zero_of_dvd (Nat.gcd_dvd_left p q)
 have hd2 : q % g = 0 := by rw [← hg]; exact Nat.mod_eq_zero_of_dvd (Nat.gcd_dvd_right p q)
 obtain ⟨n, hn⟩ : ∃ n, p / g = n := ⟨_, rfl⟩
 obtain ⟨m, hm⟩ : ∃ n, q / g = n := ⟨_, rfl⟩
 have hml : m < 18446744073709551616 := by rw [← hm]; exact Nat.lt_of_le_of_lt (Nat.div_le_self _ _) hq
 have hm0 : m ≠ 0 := by
  intro e
  have h1 := Nat.div_add_mod q g
  rw [hm, hd2, e] at h1
  simp at h1
  omega
 have hsn : s = true → n ≠ 0 := fun e h => by
  have h1 := Nat.div_add_mod p g
  rw [hn, hd1, h] at h1
  simp at h1
  exact hs e h1.symm
 have HS := Lib.hid (fun w' => sign_ex (q : Int) w' (by omega))
 have HG := Lib.hid (fun w' => gcd_ex s false p q w' hp hq)
 have HQ1 := Lib.hid (fun w' => quot_ex s false p g w' hp hgl hg0 hd1)
 have HQ2 := Lib.hid (fun w' => quot_ex false false q g w' hq hgl hg0 hd2)
 have HO := Lib.hid (fun w' => one_ex w')
 have hv : rZ (sg s n) m = .agg #[.bool s, .string (magS n), .bool false, .string (if m = 1 then ⟨#[]⟩ else magS m)] := by
  have h1 := sg_cells s n
  rw [zV_sg] at h1
  injection h1 with h1
  unfold rZ
  have e1 : decide (sg s n < 0) = (s && decide (n ≠ 0)) := by injection (congrArg (fun a : Array Value => a[0]?) h1) with e; injection e
  have e2 : magS (sg s n).natAbs = magS n := by injection (congrArg (fun a : Array Value => a[1]?) h1) with e; injection e
  rw [e1, e2]
  cases s with
  | true => simp [hsn rfl]
  | false => simp
 rw [hg, hn, hm, hv]
 rw [hg] at HG
 rw [hn] at HQ1
 rw [hm] at HQ2
 have z1 : zV (q : Int) = .agg #[.bool false, .string (magS q)] := by rw [zV_nat, sg_cells]; rfl
 have z2 : zV (g : Int) = .agg #[.bool false, .string (magS g)] := by rw [zV_nat, sg_cells]; rfl
 have z3 : zV (1 : Int) = .agg #[.bool false, .string (magS 1)] := by
  have h : zV (1 : Int) = zV (sg false 1) := rfl
  rw [h, sg_cells]; rfl
 have hb1 : (s != false) = s := by cases s <;> rfl
 have hb2 : (false != false) = false := rfl
 have z4 : zV (sg (s != false) n) = .agg #[.bool s, .string (magS n)] := by
  rw [hb1, sg_cells]
  cases s with
  | true => simp [hsn rfl]
  | false => simp
 have z5 : zV (sg (false != false) m) = .agg #[.bool false, .string (magS m)] := by rw [hb2, sg_cells]; rfl
 rw [z1] at HS
 rw [z2] at HG
 rw [z3] at HO
 rw [z4] at HQ1
 rw [z5] at HQ2
 have hsg : sgnZ (q : Int) = 1 := by unfold sgnZ; rw [if_neg (by omega), if_neg (by omega)]
 rw [hsg] at HS
 obtain ⟨b, hb⟩ : ∃ b, decide (m = 1) = b := ⟨_, rfl⟩
 have heq : (magS m).toList = (magS 1).toList ↔ b = true := by
  rw [← hb]
  rw [decide_eq_true_eq]
  refine ⟨fun h => magS_inj hml (by omega) (toList_inj h), fun h => by rw [h]⟩
 have hif : (if m = 1 then (⟨#[]⟩ : ByteArray) else magS m) = if b = true then ⟨#[]⟩ else magS m := by rw [← hb]; simp
 rw [hif]
 generalize magS q = y at HS HG HQ2 ⊢
 generalize magS p = x at HG HQ1 ⊢
 generalize magS g = gs at HG HQ1 HQ2
 generalize magS n = ns at HQ1 ⊢
 generalize magS m = ms at HQ2 heq ⊢
 generalize magS 1 = one at HO heq
 clear hs hp hq h0 hg hg0 hgl hd1 hd2 hn hm hml hm0 hsn hv z1 z2 z3 z4 z5 hb1 hb2 hsg hb hif
 cases b
 ·have hne : ¬ ms.toList = one.toList := fun h => Bool.noConfusion (heq.1 h)
  clear heq
  go_enter Tryz.func29, Tryz.ntmps29
  go_wp2_with fail
  refine (jk (HS.out _)).mono ?_
  rintro e _ ⟨rfl, X1, rfl⟩
  go_wp2_with fail
  refine (jk (HG.out _)).mono ?_
  rintro e _ ⟨rfl, X2, rfl⟩
  go_wp2_with fail
  refine wp_jtail 6 (by kernel_rfl) (by kernel_rfl) ?_
  simp only [List.take_succ_cons, List.take_zero, List.drop_succ_cons, List.drop_zero]
  repeat (go_big_quiet_step (first | (first | (with_reducible exact jq (HQ1.out _)) | (with_reducible exact jq (HQ2.out _))) | fail))
  refine wpQuiet_nil ?_
  rintro _ ⟨X3, rfl⟩
  go_wp2_with fail
  refine wp_jregion (by kernel_rfl) (by kernel_rfl) ?_
  repeat (go_big_quiet_step (first | (with_reducible exact jq (HO.out _)) | fail))
  refine wpQuiet_nil ?_
  rintro _ ⟨X4, rfl⟩
  go_wp2_with fail
  exact bodyPost_ret (v := .agg #[.bool s, .string ns, .bool false, .string ms]) (by simp [results, Tryz.results29, go_sem]) rfl ⟨rfl, Bw.b⟩
 ·have hne : ms.toList = one.toList := heq.2 rfl
  clear heq
  go_enter Tryz.func29, Tryz.ntmps29
  go_wp2_with fail
  refine (jk (HS.out _)).mono ?_
  rintro e _ ⟨rfl, X1, rfl⟩
  go_wp2_with fail
  refine (jk (HG.out _)).mono ?_
  rintro e _ ⟨rfl, X2, rfl⟩
  go_wp2_with fail
  refine wp_jtail 6 (by kernel_rfl) (by kernel_rfl) ?_
  simp only [List.take_succ_cons, List.take_zero, List.drop_succ_cons, List.drop_zero]
  repeat (go_big_quiet_step (first | (first | (with_reducible exact jq (HQ1.out _)) | (with_reducible exact jq (HQ2.out _))) | fail))
  refine wpQuiet_nil ?_
  rintro _ ⟨X3, rfl⟩
  go_wp2_with fail
  refine wp_jregion (by kernel_rfl) (by kernel_rfl) ?_
  repeat (go_big_quiet_step (first | (with_reducible exact jq (HO.out _)) | fail))
  refine wpQuiet_nil ?_
  rintro _ ⟨X4, rfl⟩
  go_wp2_with fail
  exact bodyPost_ret (v := .agg #[.bool s, .string ns, .bool false, .string ⟨#[]⟩]) (by simp [results, Tryz.results29, go_sem]) rfl ⟨rfl, Bw.b⟩
end Go.Proofs.YtcelpkbmcmnogaaGreatDoor
