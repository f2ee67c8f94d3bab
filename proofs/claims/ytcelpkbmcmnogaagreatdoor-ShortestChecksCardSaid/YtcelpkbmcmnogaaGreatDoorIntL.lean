/-
 Magnitudes as bytes: the digits of a number to the base 256, without zeros at the high end; what they are worth, and how they compare.
-/
import Derived.Laws.BytesArg
import Derived.Lib.ItoaNum
import Derived.Lib.Bytealg
set_option linter.unusedSimpArgs false
set_option linter.unusedVariables false
namespace Go.Vi
open Go
/-- The last k digits of u, the highest one first. -/
def digs : Nat → Nat → List Nat
 | 0, _ => []
 | k + 1, u => digs k (u / 256) ++ [u % 256]
theorem digs_len : ∀ k u, (digs k u).length = k
 | 0, _ => rfl
 | k + 1, u => by simp [digs, digs_len k]
theorem digs_lt : ∀ k u, ∀ d ∈ digs k u, d < 256
 | 0, _, d, h => by simp [digs] at h
 | k + 1, u, d, h => by
  simp only [digs, List.mem_append, List.mem_singleton] at h
  rcases h with h | h
  ·exact digs_lt k _ d h
  ·omega
def valL (l : List Nat) : Nat := l.foldl (fun a d => a * 256 + d) 0
theorem valL_snoc (l : List Nat) (d : Nat) : valL (l ++ [d]) = valL l * 256 + d := by simp [valL, List.foldl_append]
theorem val_digs : ∀ k u, valL (digs k u) = u % 256 ^ k
 | 0, u => by simp [digs, valL, Nat.mod_one]
 | k + 1, u => by
  rw [digs, valL_snoc, val_digs k, Nat.pow_succ, Nat.mul_comm (256 ^ k) 256, Nat.mod_mul]
  omega
/-- How many bytes a number takes. -/
def nb (u : Nat) : Nat := (Lib.bitLen u + 7) / 8
theorem nb_zero : nb 0 = 0 := by decide
theorem nb_bounds {u : Nat} (h0 : u ≠ 0) (h : u < 18446744073709551616) : 1 ≤ nb u ∧ nb u ≤ 8 ∧ 256 ^ (nb u - 1) ≤ u ∧ u < 256 ^ nb u := by
 obtain ⟨a, b, c⟩ := Lib.bitLenAux_bounds 64 u (by simpa using h) h0
 have hl : Lib.bitLen u ≤ 64 := Lib.bitLen_le u 64 (Nat.le_refl _) (by simpa using h)
 unfold nb
 unfold Lib.bitLen at hl ⊢
 generalize Lib.bitLenAux 64 u = L at a b c hl ⊢
 have e : (256 : Nat) = 2 ^ 8 := rfl
 refine ⟨by omega, by omega, ?_, ?_⟩
 ·rw [e, ← Nat.pow_mul]
  exact Nat.le_trans (Nat.pow_le_pow_right (by omega) (by omega)) b
 ·rw [e, ← Nat.pow_mul]
  exact Nat.lt_of_lt_of_le c (Nat.pow_le_pow_right (by omega) (by omega))
def mag (u : Nat) : List Nat := digs (nb u) u
theorem mag_len (u : Nat) : (mag u).length = nb u := digs_len _ _
theorem mag_val {u : Nat} (h : u < 18446744073709551616) : valL (mag u) = u := by
 unfold mag
 rw [val_digs]
 by_cases h0 : u = 0
 ·subst h0; simp
 ·exact Nat.mod_eq_of_lt (nb_bounds h0 h).2.2.2
theorem mag_zero : mag 0 = [] := by unfold mag; rw [nb_zero]; rfl
/-- The magnitude as a string. -/
def magS (u : Nat) : ByteArray := strOfNums ((mag u).map fun d : Nat => (d : Int))
theorem magS_data (u : Nat) : (magS u).data.toList = (mag u).map fun d => UInt8.ofNat d := by
 unfold magS
 rw [strOfNums_data, List.map_map]
 rfl
theorem magS_size (u : Nat) : (magS u).size = nb u := by
 unfold magS
 rw [strOfNums_size, List.length_map, mag_len]
theorem nats_of (l : List Nat) (h : ∀ d ∈ l, d < 256) : (l.map fun d => UInt8.ofNat d).map (·.toNat) = l := by
 rw [List.map_map]
 conv => rhs; rw [← List.map_id l]
 refine List.map_congr_left fun d hd => ?_
 have := h d hd
 simp
 omega
theorem magS_inj {u v : Nat} (hu : u < 18446744073709551616) (hv : v < 18446744073709551616) (h : magS u = magS v) : u = v := by
 have h1 : (mag u).map (fun d => UInt8.ofNat d) = (mag v).map fun d => UInt8.ofNat d := by rw [← magS_data, ← magS_data, h]
 have h2 := congrArg (List.map (·.toNat)) h1
 rw [nats_of (mag u) (digs_lt _ _), nats_of (mag v) (digs_lt _ _)] at h2
 rw [← mag_val hu, ← mag_val hv, h2]
theorem magS_zero : magS 0 = ⟨#[]⟩ := by unfold magS; rw [mag_zero]; rfl
/-- A number with fewer bytes is less. -/
theorem nb_less {u v : Nat} (hu : u < 18446744073709551616) (hv : v < 18446744073709551616) (h : nb u < nb v) : u < v := by
 have hv0 : v ≠ 0 := fun e => by rw [e, nb_zero] at h; omega
 obtain ⟨a, _, b, _⟩ := nb_bounds hv0 hv
 by_cases h0 : u = 0
 ·omega
 ·obtain ⟨_, _, _, d⟩ := nb_bounds h0 hu
  exact Nat.lt_of_lt_of_le d (Nat.le_trans (Nat.pow_le_pow_right (by omega) (by omega)) b)
def cmpN (a b : Nat) : Int := if a < b then -1 else if b < a then 1 else 0
/-- Lists of digits of one length compare as what they are worth. -/
theorem cmp_digs : ∀ k u v, Lib.compareBytes ((digs k u).map fun d => UInt8.ofNat d) ((digs k v).map fun d => UInt8.ofNat d) = cmpN (u % 256 ^ k) (v % 256 ^ k) := by
 have snoc : ∀ (as bs : List UInt8) (x y : UInt8), as.length = bs.length → Lib.compareBytes (as ++ [x]) (bs ++ [y]) = if Lib.compareBytes as bs = 0 then (if x < y then -1 else if y < x then 1 else 0) else Lib.compareBytes as bs := by
  intro as
  induction as with
  | nil =>
   intro bs x y h
   have : bs = [] := List.length_eq_zero_iff.1 h.symm
   subst this
   simp [Lib.compareBytes]
  | cons a as ih =>
   intro bs x y h
   cases bs with
   | nil => simp at h
   | cons b bs =>
    have e : ∀ (l m : List UInt8), Lib.compareBytes (a :: l) (b :: m) = if a < b then -1 else if b < a then 1 else Lib.compareBytes l m := fun l m => rfl
    rw [List.cons_append, List.cons_append, e, e]
    by_cases h1 : a < b
    ·simp [h1]
    ·by_cases h2 : b < a
     ·simp [h1, h2]
     ·simp only [h1, h2, if_false]
      exact ih bs x y (by simpa using h)
 intro k
 induction k with
 | zero => intro u v; simp [digs, Lib.compareBytes, cmpN, Nat.mod_one]
 | succ k ih =>
  intro u v
  rw [digs, digs, List.map_append, List.map_append]
  simp only [List.map_cons, List.map_nil]
  rw [snoc _ _ _ _ (by rw [List.length_map, List.length_map, digs_len, digs_len]), ih]
  have e : ∀ w, w % 256 ^ (k + 1) = 256 * (w / 256 % 256 ^ k) + w % 256 := fun w => by
   rw [Nat.pow_succ, Nat.mul_comm (256 ^ k) 256, Nat.mod_mul]; omega
  rw [e u, e v]
  have hx : ∀ (a b : Nat), a < 256 → b < 256 → (UInt8.ofNat a < UInt8.ofNat b ↔ a < b) := fun a b ha hb => by
   rw [UInt8.lt_iff_toNat_lt]; simp; omega
  have hu : u % 256 < 256 := Nat.mod_lt _ (by omega)
  have hv : v % 256 < 256 := Nat.mod_lt _ (by omega)
  simp only [hx _ _ hu hv, hx _ _ hv hu]
  generalize u / 256 % 256 ^ k = a
  generalize v / 256 % 256 ^ k = b
  generalize u % 256 = c at hu
  generalize v % 256 = d at hv
  unfold cmpN
  by_cases h1 : a < b
  ·rw [if_pos h1, if_neg (by decide), if_pos (by omega)]
  ·by_cases h2 : b < a
   ·rw [if_neg h1, if_pos h2, if_neg (by decide), if_neg (by omega), if_pos (by omega)]
   ·obtain rfl : a = b := by omega
    simp only [Nat.lt_irrefl, if_false, if_true]
    by_cases h3 : c < d
    ·rw [if_pos h3, if_pos (by omega)]
    ·by_cases h4 : d < c
     ·rw [if_neg h3, if_pos h4, if_neg (by omega), if_pos (by omega)]
     ·rw [if_neg h3, if_neg h4, if_neg (by omega), if_neg (by omega)]
/-- Magnitudes of one length, compared. -/
theorem cmp_mag {u v : Nat} (hu : u < 18446744073709551616) (hv : v < 18446744073709551616) (h : nb u = nb v) : Lib.compareBytes (magS u).data.toList (magS v).data.toList = cmpN u v := by
 rw [magS_data, magS_data]
 unfold mag
 rw [h, cmp_digs]
 by_cases hu0 : u = 0
 ·subst hu0
  rw [nb_zero] at h
  have hv0 : v = 0 := by
   rcases Nat.eq_zero_or_pos v with e | e
   ·exact e
   ·have := (nb_bounds (by omega : v ≠ 0) hv).1; omega
  subst hv0
  simp
 ·have hv0 : v ≠ 0 := fun e => by rw [e, nb_zero] at h; have := (nb_bounds hu0 hu).1; omega
  rw [Nat.mod_eq_of_lt (nb_bounds hv0 hv).2.2.2, Nat.mod_eq_of_lt (by rw [← h]; exact (nb_bounds hu0 hu).2.2.2)]
end Go.Vi
