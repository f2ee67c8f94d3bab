/-
 Integers of up to 64 bits: the operations of the package integer, walked.
 Integers of up to 64 bits: words, and the operations on magnitudes.
 Integers of up to 64 bits: sums, differences, products and quotients of magnitudes.
 Integers of up to 64 bits: made, Negate, Abs, Add, Mul, compare.
-/
import Derived.Test.YtcelpkbmcmnogaaGreatDoorNetA
import Derived.Test.YtcelpkbmcmnogaaGreatDoorIntLay
import Derived.Laws.BytesArg
import Derived.Test.YtcelpkbmcmnogaaGreatDoorIntL
import Derived.Lib.EndianBits
import Derived.Laws.Externs
import Derived.Test.YtcelpkbmcmnogaaGreatDoorHopA
import Derived.Lib.Bytes
set_option linter.unusedSimpArgs false
set_option linter.unusedVariables false
namespace Go.Proofs.YtcelpkbmcmnogaaGreatDoor
open Go Go.RowKit Go.Vi
theorem bitLen64 (x : Nat) : Lib.bitLen x ≤ 64 := by
 have h : ∀ f x, Lib.bitLenAux f x ≤ f := by
  intro f
  induction f with
  | zero => intro x; simp [Lib.bitLenAux]
  | succ f ih =>
   intro x
   unfold Lib.bitLenAux
   split
   ·omega
   ·have := ih (x / 2); omega
 exact h 64 x
theorem digs_front : ∀ k u, digs (k + 1) u = (u / 256 ^ k % 256) :: digs k u
 | 0, u => by simp [digs]
 | k + 1, u => by
  rw [digs, digs_front k, List.cons_append]
  congr 1
  rw [Nat.pow_succ, Nat.mul_comm, Nat.div_div_eq_div_mul]
theorem mag_step {n k j m : Nat} {u : Int} {xs : List Int} (hu : (n : Int) = u) (hj : j + k + 1 = m) (hx : xs.length = 8) (hm : m ≤ 8) (h : (xs.take m).drop (m - k) = (digs k n).map fun d : Nat => (d : Int)) :
  ((xs.set j (u / 2 ^ (8 * k) % 256)).take m).drop (m - (k + 1)) = (digs (k + 1) n).map fun d : Nat => (d : Int) := by
 have e : u / 2 ^ (8 * k) % 256 = ((n / 256 ^ k % 256 : Nat) : Int) := by
  rw [← hu, show (256 : Nat) ^ k = 2 ^ (8 * k) by rw [show (256 : Nat) = 2 ^ 8 by rfl, Nat.pow_mul]]
  simp
 rw [digs_front, List.map_cons, ← h, e, show m - (k + 1) = j by omega, List.take_set, List.drop_set, if_neg (by omega), Nat.sub_self]
 have hl : j < (xs.take m).length := by rw [List.length_take]; omega
 rw [List.drop_eq_getElem_cons hl, List.set_cons_zero, show j + 1 = m - k by omega]
theorem mag_end {n m : Nat} {u : Int} {xs : List Int} (hu : (n : Int) = u) (hm : m = (Lib.bitLen u.toNat + 7) / 8) (h : (xs.take m).drop (m - m) = (digs m n).map fun d : Nat => (d : Int)) : strOfNums (xs.take m) = magS n := by
 have e : m = nb n := by rw [hm, ← hu, Int.toNat_natCast]; rfl
 rw [Nat.sub_self, List.drop_zero] at h
 rw [h, e]
 rfl
set_option maxRecDepth 100000 in
set_option maxHeartbeats 1000000 in
theorem magnitude_ex (n : Nat) (w : World) (hn : n < 18446744073709551616) :
  Calls Tryz.prog 96 #[.int .u64 n] w fun e w' => e = .returned (.string (magS n)) ∧ Below w.heap.size w w' := by
 obtain ⟨u, hun⟩ : ∃ u : Int, (n : Int) = u := ⟨_, rfl⟩
 have h0 : 0 ≤ u := by omega
 have h1 : u ≤ 18446744073709551615 := by omega
 have HUN := Lib.hid hun
 rw [hun]
 clear hun
 by_cases hu : u = 0
 ·obtain rfl : n = 0 := by have := HUN.out; omega
  subst hu
  rw [magS_zero]
  go_enter Tryz.func96, Tryz.ntmps96
  go_wp2
  go_ret
  exact ⟨rfl, Below.refl _ _⟩
 ·have hu' : (u == 0) = false := by simpa using hu
  have hL := bitLen64 u.toNat
  obtain ⟨L, hLL⟩ : ∃ L, L = Lib.bitLen u.toNat := ⟨_, rfl⟩
  rw [← hLL] at hL
  obtain ⟨m, hm⟩ : ∃ m : Nat, m = (L + 7) / 8 := ⟨_, rfl⟩
  have hm8 : m ≤ 8 := by omega
  have hmt : Int.tdiv ((L : Int) + 7) 8 = (m : Int) := by
   rw [Int.tdiv_eq_ediv_of_nonneg (by omega)]; omega
  have HLL := Lib.hid hLL
  have HM := Lib.hid hm
  clear hLL hm
  go_enter Tryz.func96, Tryz.ntmps96
  go_wp2_with (go_at_call 114; refine (Any.bits_Len64 { Tryz.bitsLen with } u _ h0 h1).mono ?_; rintro e w1 ⟨rfl, rfl⟩; rw [← HLL.out])
  go_loopw [13] (fun s13 wr => ∃ (k : Nat) (xs : List Int), s13 = .int .i64 k ∧ k ≤ m ∧ xs.length = 8 ∧ Hid ((xs.take m).drop (m - k) = (digs k n).map fun d : Nat => (d : Int)) ∧ Hid (wr.heap[w1.heap.size]? = some (.cells (xs.map fun x => .int .u8 x).toArray 204 (0, 0))) ∧ Hid (Below w1.heap.size w1 wr)) (fun s13 _ => m - (intOf s13).toNat)
  case atStart =>
   exact ⟨0, List.replicate 8 0, rfl, Nat.zero_le _, rfl, (by show _ = _; rw [Nat.sub_zero, List.drop_eq_nil_of_le (by rw [List.length_take]; omega)]; rfl), obj_last _ _, by show Below _ _ _; (repeat (first | with_reducible exact Below.refl _ _ | with_reducible assumption | ((with_reducible refine Below.setCell ?_ ?_ _); rotate_left; focus (first | exact Nat.le_refl _ | omega | exact Below.size (by assumption) | (simp; done) | (simp; omega))) | ((with_reducible refine Below.alloc ?_ ?_ _); rotate_left; focus (first | exact Nat.le_refl _ | omega | exact Below.size (by assumption) | (simp; done) | (simp; omega))) | (with_reducible refine Below.drew ?_) | (with_reducible refine drewN_ ?_ _)))⟩
  case round =>
   obtain ⟨k, xs, rfl, hk, hx, hX, hO, hB⟩ := hrel
   by_cases hlt : k < m
   ·obtain ⟨j, hj⟩ : ∃ j, j + k + 1 = m := ⟨m - 1 - k, by omega⟩
    have hj1 : (m : Int) - 1 - (k : Int) = (j : Int) := by omega
    have hj2 : IntKind.i64.wrap (j : Int) = (j : Int) := IntWalk.i64_in _ (by omega)
    have hj3 : j < 8 := by omega
    have hj4 : (j : Int) < 8 := by omega
    have hjx : j < xs.length := by omega
    have c0 := obj_cell hO.out j
    have f0 := obj_free hO.out j
    rw [List.getElem?_toArray, List.getElem?_map, List.getElem?_eq_getElem hjx, Option.map_some] at c0
    have HJ := Lib.hid hj
    clear hj
    go_wp2_with fail
    go_roundw
    case rel =>
     refine ⟨k + 1, xs.set j (u / 2 ^ (8 * k) % 256), by go_num, by have := HJ.out; omega, by simpa using hx, mag_step HUN.out HJ.out hx hm8 hX.out, ?_, hB.out.setCell (Nat.le_refl _) _⟩
     have q := obj_set (off := j) (v := .int .u8 (u / 2 ^ (8 * k) % 256)) hO.out
     show _ = _
     rw [q, List.map_set]
     simp
    case measure => have := HJ.out; simp [intOf]; omega
   ·obtain rfl : k = m := by omega
    have hcv0 := run_convert_bytes_arg (P := Tryz.prog) wr 205 5 (by kernel_rfl) (by kernel_rfl) w1.heap.size 0 k 8 (xs.take k) (by simp; omega) (fun i hi => by
     have hix : i < xs.length := by omega
     have c0 := obj_cell hO.out (0 + i)
     rw [Nat.zero_add] at c0 ⊢
     rw [List.getElem?_toArray, List.getElem?_map, List.getElem?_eq_getElem hix, Option.map_some] at c0
     rw [c0, List.getD, List.getElem?_take_of_lt hi, List.getElem?_eq_getElem hix]; rfl) 9 (by kernel_rfl)
    obtain ⟨str, hstr⟩ : ∃ s, s = strOfNums (xs.take k) := ⟨_, rfl⟩
    rw [← hstr] at hcv0
    have HSTR := Lib.hid hstr
    have HX := Lib.hid hx
    clear hstr hx hlt
    have hk0 : (0 : Int) ≤ (k : Int) := by omega
    have hk8 : (k : Int) ≤ 8 := by omega
    go_wp2_with fail
    go_ret
    exact ⟨by rw [HSTR.out, mag_end HUN.out (by have h1 := HM.out; have h2 := HLL.out; rw [h2] at h1; exact h1) hX.out]; rfl, hB.out⟩
end Go.Proofs.YtcelpkbmcmnogaaGreatDoor
namespace Go.Proofs.YtcelpkbmcmnogaaGreatDoor
open Go Go.RowKit Go.Vi
theorem valL_take_succ (l : List Nat) (k : Nat) (h : k < l.length) : valL (l.take (k + 1)) = valL (l.take k) * 256 + l[k] := by
 rw [List.take_succ_eq_append_getElem h, valL_snoc]
theorem magS_get (n k : Nat) (h : k < (magS n).size) (h2 : k < (mag n).length) : ((magS n)[k]'h).toNat = (mag n)[k] := by
 have h1 : ((magS n)[k]'h) = (magS n).data.toList[k]'(by rw [magS_data, List.length_map]; exact h2) := rfl
 rw [h1]
 simp only [magS_data, List.getElem_map]
 have := digs_lt _ _ _ (List.getElem_mem h2)
 simp
 exact this
theorem or_byte (v d : Nat) (hd : d < 256) (hv : v * 256 + d < 18446744073709551616) : bits BinOp.or IntKind.u64 (IntKind.u64.wrap ((v : Int) * 256)) (IntKind.u64.wrap (d : Int)) = ((v * 256 + d : Nat) : Int) := by
 rw [u64_wrap_id _ (by omega) (by omega), u64_wrap_id _ (by omega) (by omega)]
 have h := bits_join .u64 64 (by decide) wraps_u64 8 ((v : Int) * 256) (d : Int) (by omega) (by omega) (by omega) (by omega) (by omega) (by omega)
 rw [h]
 omega
theorem valL_take_lt (n k : Nat) (hn : n < 18446744073709551616) (h : k ≤ (mag n).length) : valL ((mag n).take k) ≤ n := by
 have h0 : ∀ (b : List Nat) (acc : Nat), acc ≤ b.foldl (fun a d => a * 256 + d) acc := by
  intro b
  induction b with
  | nil => intro acc; exact Nat.le_refl _
  | cons d b ih =>
   intro acc
   have := ih (acc * 256 + d)
   simp only [List.foldl_cons]
   omega
 have h1 : ∀ (a b : List Nat), valL a ≤ valL (a ++ b) := by
  intro a b
  unfold valL
  rw [List.foldl_append]
  exact h0 _ _
 have := h1 ((mag n).take k) ((mag n).drop k)
 rw [List.take_append_drop, mag_val hn] at this
 exact this
set_option maxHeartbeats 1000000 in
theorem word_ex (n : Nat) (w : World) (hn : n < 18446744073709551616) :
  Calls Tryz.prog 116 #[.string (magS n)] w fun e w' => e = .returned (.tuple #[.int .u64 n, .bool true]) ∧ w = w' := by
 obtain ⟨s, hs⟩ : ∃ s, magS n = s := ⟨_, rfl⟩
 obtain ⟨m, hm⟩ : ∃ m, s.size = m := ⟨_, rfl⟩
 have hm8 : m ≤ 8 := by
  rw [← hm, ← hs, magS_size]
  by_cases h0 : n = 0
  ·rw [h0, nb_zero]; omega
  ·exact (nb_bounds h0 hn).2.1
 have hml : (mag n).length = m := by rw [mag_len, ← magS_size, hs, hm]
 have HM := Lib.hid hm
 have HS := Lib.hid hs
 have HML := Lib.hid hml
 rw [hs]
 have hsz : ¬(8 : Int) < (s.size : Int) := by rw [hm]; omega
 clear hs hml
 go_enter Tryz.func116, Tryz.ntmps116
 go_wp2_with fail
 go_loop [4, 11] (fun s4 s11 => ∃ k : Nat, s11 = .int .i64 k ∧ k ≤ m ∧ s4 = .int .u64 (valL ((mag n).take k))) (fun _ s11 => m - (intOf s11).toNat)
 case atStart => exact ⟨0, rfl, Nat.zero_le _, rfl⟩
 case round =>
  obtain ⟨k, rfl, hk, rfl⟩ := hrel
  by_cases hlt : k < m
  ·have hk2 : (k : Int) < (m : Int) := by omega
   go_wp2_with fail
   have hs := HS.out
   subst hs
   have hkl : k < (mag n).length := by rw [HML.out]; exact hlt
   have hb := magS_get n k (by rw [HM.out]; exact hlt) hkl
   have hv := valL_take_succ (mag n) k hkl
   have hle := valL_take_lt n (k + 1) hn hkl
   refine ⟨⟨k + 1, by go_num, by omega, ?_⟩, by simp [intOf]; omega⟩
   rw [hb, or_byte _ _ (digs_lt _ _ _ (List.getElem_mem hkl)) (by rw [← hv]; omega), hv]
  ·obtain rfl : k = m := by omega
   have hk2 : ¬(k : Int) < (k : Int) := by omega
   have hv : valL ((mag n).take k) = n := by rw [List.take_of_length_le (by rw [HML.out]; exact Nat.le_refl _), mag_val hn]
   rw [hv]
   go_wp2_with fail
   go_ret2
   exact ⟨rfl, rfl⟩
theorem words_ex (a b : Nat) (w : World) (ha : a < 18446744073709551616) (hb : b < 18446744073709551616) :
  Calls Tryz.prog 98 #[.string (magS a), .string (magS b)] w fun e w' => e = .returned (.tuple #[.int .u64 a, .int .u64 b, .bool true]) ∧ w = w' := by
 go_enter Tryz.func98, Tryz.ntmps98
 go_wp2_with fail
 refine (word_ex a _ ha).mono ?_
 rintro e w' ⟨rfl, rfl⟩
 go_wp2_with fail
 refine (word_ex b _ hb).mono ?_
 rintro e w' ⟨rfl, rfl⟩
 go_wp2_with fail
 go_ret3
 exact ⟨rfl, rfl⟩
end Go.Proofs.YtcelpkbmcmnogaaGreatDoor
namespace Go.Proofs.YtcelpkbmcmnogaaGreatDoor
open Go Go.RowKit Go.Vi
theorem add64_run (a b : Nat) (h : a + b < 18446744073709551616) : ∀ w : World, (callFunc 101 #[.int .u64 a, .int .u64 b, .int .u64 0]).run Tryz.prog w = .ok (.value (.tuple #[.int .u64 ((a + b : Nat) : Int), .int .u64 0])) w := fun w => by
 rw [run_callFunc_extern Tryz.func101 (by kernel_rfl) (by kernel_rfl) (by kernel_rfl) (e := add64Entry) (by kernel_rfl), run_add64 _ _ _ (by omega) (by omega) (by omega) (by omega)]
 have e1 : ((a : Int) + (b : Int) + 0) % 18446744073709551616 = ((a + b : Nat) : Int) := by omega
 have e2 : ((a : Int) + (b : Int) + 0) / 18446744073709551616 = 0 := by omega
 rw [e1, e2]
 rfl
theorem mul64_ex (a b : Nat) (w : World) (ha : a < 18446744073709551616) (hb : b < 18446744073709551616) (h : a * b < 18446744073709551616) :
  Calls Tryz.prog 115 #[.int .u64 a, .int .u64 b] w fun e w' => e = .returned (.tuple #[.int .u64 0, .int .u64 ((a * b : Nat) : Int)]) ∧ w = w' :=
 (Any.bits_Mul64 { Tryz.mul64 with } a b ha hb w).mono (by
  rintro e w' ⟨rfl, rfl⟩
  rw [Nat.div_eq_of_lt h, Nat.mod_eq_of_lt h]
  exact ⟨rfl, rfl⟩)
set_option maxRecDepth 100000 in
set_option maxHeartbeats 1000000 in
theorem add_ex (a b : Nat) (w : World) (h : a + b < 18446744073709551616) :
  Calls Tryz.prog 69 #[.string (magS a), .string (magS b)] w fun e w' => e = .returned (.string (magS (a + b))) ∧ Below w.heap.size w w' := by
 have hx := add64_run a b h
 have HW := Lib.hid (words_ex a b w (by omega) (by omega))
 have HM := Lib.hid (fun w' => magnitude_ex (a + b) w' h)
 clear h
 go_enter Tryz.func69, Tryz.ntmps69
 go_wp2_with fail
 refine HW.out.mono ?_
 rintro e w' ⟨rfl, rfl⟩
 go_wp2_with fail
 refine (HM.out _).mono ?_
 rintro e w' ⟨rfl, hb⟩
 go_wp2_with fail
 go_ret
 exact ⟨rfl, hb⟩
set_option maxRecDepth 100000 in
set_option maxHeartbeats 1000000 in
theorem sub_ex (a b : Nat) (w : World) (ha : a < 18446744073709551616) (h : b ≤ a) :
  Calls Tryz.prog 71 #[.string (magS a), .string (magS b)] w fun e w' => e = .returned (.string (magS (a - b))) ∧ Below w.heap.size w w' := by
 obtain ⟨d, hd⟩ : ∃ d, a - b = d := ⟨_, rfl⟩
 have hx : (a : Int) - (b : Int) = (d : Int) := by omega
 have HW := Lib.hid (words_ex a b w (by omega) (by omega))
 have HM := Lib.hid (fun w' => magnitude_ex d w' (by omega))
 have hw : IntKind.u64.wrap (d : Int) = (d : Int) := u64_wrap_id _ (by omega) (by omega)
 rw [hd]
 clear h ha hd
 go_enter Tryz.func71, Tryz.ntmps71
 go_wp2_with fail
 refine HW.out.mono ?_
 rintro e w' ⟨rfl, rfl⟩
 go_wp2_with fail
 refine (HM.out _).mono ?_
 rintro e w' ⟨rfl, hb⟩
 go_wp2_with fail
 go_ret
 exact ⟨rfl, hb⟩
set_option maxRecDepth 100000 in
set_option maxHeartbeats 1000000 in
theorem mul_ex (a b : Nat) (w : World) (ha : a < 18446744073709551616) (hb : b < 18446744073709551616) (h : a * b < 18446744073709551616) :
  Calls Tryz.prog 97 #[.string (magS a), .string (magS b)] w fun e w' => e = .returned (.string (magS (a * b))) ∧ Below w.heap.size w w' := by
 have HX := Lib.hid (fun w' => mul64_ex a b w' ha hb h)
 have HW := Lib.hid (words_ex a b w ha hb)
 have HM := Lib.hid (fun w' => magnitude_ex (a * b) w' h)
 clear h ha hb
 obtain ⟨p, hp⟩ : ∃ p, a * b = p := ⟨_, rfl⟩
 rw [hp] at HX HM ⊢
 clear hp
 go_enter Tryz.func97, Tryz.ntmps97
 go_wp2_with fail
 refine HW.out.mono ?_
 rintro e w' ⟨rfl, rfl⟩
 go_wp2_with fail
 refine (HX.out _).mono ?_
 rintro e w' ⟨rfl, rfl⟩
 go_wp2_with fail
 refine (HM.out _).mono ?_
 rintro e w' ⟨rfl, hb⟩
 go_wp2_with fail
 go_ret
 exact ⟨rfl, hb⟩
set_option maxRecDepth 100000 in
set_option maxHeartbeats 1000000 in
theorem div_ex (a b : Nat) (w : World) (ha : a < 18446744073709551616) (hb : b < 18446744073709551616) (h : b ≠ 0) :
  Calls Tryz.prog 99 #[.string (magS a), .string (magS b)] w fun e w' => e = .returned (.tuple #[.string (magS (a / b)), .string (magS (a % b))]) ∧ Below w.heap.size w w' := by
 have HW := Lib.hid (words_ex a b w ha hb)
 obtain ⟨q, hq⟩ : ∃ q, a / b = q := ⟨_, rfl⟩
 obtain ⟨r, hr⟩ : ∃ r, a % b = r := ⟨_, rfl⟩
 have hqa : q ≤ a := by rw [← hq]; exact Nat.div_le_self _ _
 have hrb : r < b := by rw [← hr]; exact Nat.mod_lt _ (by omega)
 have HQ := Lib.hid (fun w' => magnitude_ex q w' (by omega))
 have HR := Lib.hid (fun w' => magnitude_ex r w' (by omega))
 have e1 : (a : Int).tdiv (b : Int) = (q : Int) := by rw [Int.tdiv_eq_ediv_of_nonneg (by omega), ← hq]; rfl
 have e2 : (a : Int).tmod (b : Int) = (r : Int) := by rw [Int.tmod_eq_emod_of_nonneg (by omega), ← hr]; rfl
 have w1 : IntKind.u64.wrap (q : Int) = (q : Int) := u64_wrap_id _ (by omega) (by omega)
 have w2 : IntKind.u64.wrap (r : Int) = (r : Int) := u64_wrap_id _ (by omega) (by omega)
 have e3 : ((b : Int) == 0) = false := by simp; omega
 have hb0 : (1 : Int) ≤ (b : Int) := by omega
 rw [hq, hr]
 clear ha hb hq hr h hqa hrb
 go_enter Tryz.func99, Tryz.ntmps99
 go_wp2_with fail
 refine HW.out.mono ?_
 rintro e w' ⟨rfl, rfl⟩
 go_wp2_with fail
 go_region_with (first | (with_reducible refine (HQ.out _).mono ?_; rintro e w1 ⟨rfl, hb1⟩; have HB1 := Lib.hid (from_ (w := w) hb1 (by (repeat (first | with_reducible exact Below.refl _ _ | with_reducible assumption | ((with_reducible refine Below.setCell ?_ ?_ _); rotate_left; focus (first | exact Nat.le_refl _ | omega | exact Below.size (by assumption) | (simp; done) | (simp; omega))) | ((with_reducible refine Below.alloc ?_ ?_ _); rotate_left; focus (first | exact Nat.le_refl _ | omega | exact Below.size (by assumption) | (simp; done) | (simp; omega))) | (with_reducible refine Below.drew ?_) | (with_reducible refine drewN_ ?_ _))))); clear hb1) | (with_reducible refine (HR.out _).mono ?_; rintro e w2 ⟨rfl, hb2⟩; have HB2 := Lib.hid (from_ (w := w) hb2 (by have h := HB1.out; (repeat (first | with_reducible exact Below.refl _ _ | with_reducible assumption | ((with_reducible refine Below.setCell ?_ ?_ _); rotate_left; focus (first | exact Nat.le_refl _ | omega | exact Below.size (by assumption) | (simp; done) | (simp; omega))) | ((with_reducible refine Below.alloc ?_ ?_ _); rotate_left; focus (first | exact Nat.le_refl _ | omega | exact Below.size (by assumption) | (simp; done) | (simp; omega))) | (with_reducible refine Below.drew ?_) | (with_reducible refine drewN_ ?_ _))))); clear hb2))
 all_goals
  go_wp2_with fail
  go_ret2
  exact ⟨rfl, by have h := HB2.out; (repeat (first | with_reducible exact Below.refl _ _ | with_reducible assumption | ((with_reducible refine Below.setCell ?_ ?_ _); rotate_left; focus (first | exact Nat.le_refl _ | omega | exact Below.size (by assumption) | (simp; done) | (simp; omega))) | ((with_reducible refine Below.alloc ?_ ?_ _); rotate_left; focus (first | exact Nat.le_refl _ | omega | exact Below.size (by assumption) | (simp; done) | (simp; omega))) | (with_reducible refine Below.drew ?_) | (with_reducible refine drewN_ ?_ _)))⟩
end Go.Proofs.YtcelpkbmcmnogaaGreatDoor
namespace Go.Proofs.YtcelpkbmcmnogaaGreatDoor
open Go Go.RowKit Go.Vi
/-- An integer as the program keeps it. -/
def zV (z : Int) : Value := .agg #[.bool (decide (z < 0)), .string (magS z.natAbs)]
def sg (b : Bool) (n : Nat) : Int := if b then -(n : Int) else n
theorem magS_empty {n : Nat} (h : n < 18446744073709551616) : (magS n).toList.isEmpty = decide (n = 0) := by
 have h3 : (magS n).toList = (mag n).map fun d => UInt8.ofNat d := by
  unfold magS
  rw [Lib.strOfNums_toList]
  unfold Lib.bytesOf
  rw [List.map_map]
  rfl
 rw [h3]
 by_cases h0 : n = 0
 ·subst h0; rw [mag_zero]; rfl
 ·have h1 := (nb_bounds h0 h).1
  have h2 := mag_len n
  cases hl : mag n with
  | nil => rw [hl] at h2; simp at h2; omega
  | cons a l => simp [h0]
theorem sg_cells (b : Bool) (n : Nat) : zV (sg b n) = .agg #[.bool (b && decide (n ≠ 0)), .string (magS n)] := by
 unfold zV sg
 cases b with
 | true =>
  by_cases h0 : n = 0
  ·subst h0; simp
  ·have h1 : -(n : Int) < 0 := by omega
   simp [h0, h1]
   omega
 | false => simp
theorem made_ex (b : Bool) (n : Nat) (w : World) (h : n < 18446744073709551616) :
  Calls Tryz.prog 68 #[.bool b, .string (magS n)] w fun e w' => e = .returned (zV (sg b n)) ∧ Below w.heap.size w w' := by
 rw [sg_cells]
 have he := magS_empty h
 generalize magS n = s at he
 clear h
 cases b with
 | true =>
  go_enter Tryz.func68, Tryz.ntmps68
  go_wp2_with fail
  refine bodyPost_ret (v := .agg #[.bool (!decide (n = 0)), .string s]) (by simp [results, Tryz.results68, go_sem]) rfl ⟨by simp, (by (repeat (first | with_reducible exact Below.refl _ _ | with_reducible assumption | ((with_reducible refine Below.setCell ?_ ?_ _); rotate_left; focus (first | exact Nat.le_refl _ | omega | exact Below.size (by assumption) | (simp; done) | (simp; omega))) | ((with_reducible refine Below.alloc ?_ ?_ _); rotate_left; focus (first | exact Nat.le_refl _ | omega | exact Below.size (by assumption) | (simp; done) | (simp; omega))) | (with_reducible refine Below.drew ?_) | (with_reducible refine drewN_ ?_ _))))⟩
 | false =>
  go_enter Tryz.func68, Tryz.ntmps68
  go_wp2_with fail
  refine bodyPost_ret (v := .agg #[.bool false, .string s]) (by simp [results, Tryz.results68, go_sem]) rfl ⟨by simp, (by (repeat (first | with_reducible exact Below.refl _ _ | with_reducible assumption | ((with_reducible refine Below.setCell ?_ ?_ _); rotate_left; focus (first | exact Nat.le_refl _ | omega | exact Below.size (by assumption) | (simp; done) | (simp; omega))) | ((with_reducible refine Below.alloc ?_ ?_ _); rotate_left; focus (first | exact Nat.le_refl _ | omega | exact Below.size (by assumption) | (simp; done) | (simp; omega))) | (with_reducible refine Below.drew ?_) | (with_reducible refine drewN_ ?_ _))))⟩
theorem neg_ex (b : Bool) (n : Nat) (w : World) (h : n < 18446744073709551616) :
  Calls Tryz.prog 64 #[.agg #[.bool b, .string (magS n)]] w fun e w' => e = .returned (zV (sg (!b) n)) ∧ Below w.heap.size w w' := by
 have HM := Lib.hid (fun w' => made_ex (!b) n w' h)
 rw [sg_cells] at HM ⊢
 obtain ⟨c, hc⟩ : ∃ c, (!b && decide (n ≠ 0)) = c := ⟨_, rfl⟩
 rw [hc] at HM ⊢
 generalize magS n = s at HM
 clear hc h
 go_enter Tryz.func64, Tryz.ntmps64
 go_wp2_with fail
 refine (HM.out _).mono ?_
 rintro e w1 ⟨rfl, hb1⟩
 have HB1 := Lib.hid (from_ (w := w) hb1 (by (repeat (first | with_reducible exact Below.refl _ _ | with_reducible assumption | ((with_reducible refine Below.setCell ?_ ?_ _); rotate_left; focus (first | exact Nat.le_refl _ | omega | exact Below.size (by assumption) | (simp; done) | (simp; omega))) | ((with_reducible refine Below.alloc ?_ ?_ _); rotate_left; focus (first | exact Nat.le_refl _ | omega | exact Below.size (by assumption) | (simp; done) | (simp; omega))) | (with_reducible refine Below.drew ?_) | (with_reducible refine drewN_ ?_ _)))))
 have hz1 := hb1.size
 simp at hz1
 obtain ⟨hc1, hf1⟩ := bcell hb1
 have z1 : w.heap.size + 1 < w1.heap.size := by omega
 clear hb1
 go_wp2_with fail
 refine bodyPost_ret (v := .agg #[.bool c, .string s]) (by simp [results, Tryz.results64, go_sem, hc1, hf1, z1]) rfl ⟨rfl, ?_⟩
 have hB := HB1.out
 (repeat (first | with_reducible exact Below.refl _ _ | with_reducible assumption | ((with_reducible refine Below.setCell ?_ ?_ _); rotate_left; focus (first | exact Nat.le_refl _ | omega | exact Below.size (by assumption) | (simp; done) | (simp; omega))) | ((with_reducible refine Below.alloc ?_ ?_ _); rotate_left; focus (first | exact Nat.le_refl _ | omega | exact Below.size (by assumption) | (simp; done) | (simp; omega))) | (with_reducible refine Below.drew ?_) | (with_reducible refine drewN_ ?_ _)))
theorem abs_ex (b : Bool) (n : Nat) (w : World) (h : n < 18446744073709551616) :
  Calls Tryz.prog 73 #[.agg #[.bool b, .string (magS n)]] w fun e w' => e = .returned (zV n) ∧ Below w.heap.size w w' := by
 have HM := Lib.hid (fun w' => made_ex false n w' h)
 have h0 : zV (n : Int) = zV (sg false n) := rfl
 rw [h0]
 rw [sg_cells] at HM ⊢
 obtain ⟨c, hc⟩ : ∃ c, (false && decide (n ≠ 0)) = c := ⟨_, rfl⟩
 rw [hc] at HM ⊢
 generalize magS n = s at HM
 clear hc h h0
 go_enter Tryz.func73, Tryz.ntmps73
 go_wp2_with fail
 refine (HM.out _).mono ?_
 rintro e w1 ⟨rfl, hb1⟩
 have HB1 := Lib.hid (from_ (w := w) hb1 (by (repeat (first | with_reducible exact Below.refl _ _ | with_reducible assumption | ((with_reducible refine Below.setCell ?_ ?_ _); rotate_left; focus (first | exact Nat.le_refl _ | omega | exact Below.size (by assumption) | (simp; done) | (simp; omega))) | ((with_reducible refine Below.alloc ?_ ?_ _); rotate_left; focus (first | exact Nat.le_refl _ | omega | exact Below.size (by assumption) | (simp; done) | (simp; omega))) | (with_reducible refine Below.drew ?_) | (with_reducible refine drewN_ ?_ _)))))
 have hz1 := hb1.size
 simp at hz1
 obtain ⟨hc1, hf1⟩ := bcell hb1
 have z1 : w.heap.size + 1 < w1.heap.size := by omega
 clear hb1
 go_wp2_with fail
 refine bodyPost_ret (v := .agg #[.bool c, .string s]) (by simp [results, Tryz.results73, go_sem, hc1, hf1, z1]) rfl ⟨rfl, ?_⟩
 have hB := HB1.out
 (repeat (first | with_reducible exact Below.refl _ _ | with_reducible assumption | ((with_reducible refine Below.setCell ?_ ?_ _); rotate_left; focus (first | exact Nat.le_refl _ | omega | exact Below.size (by assumption) | (simp; done) | (simp; omega))) | ((with_reducible refine Below.alloc ?_ ?_ _); rotate_left; focus (first | exact Nat.le_refl _ | omega | exact Below.size (by assumption) | (simp; done) | (simp; omega))) | (with_reducible refine Below.drew ?_) | (with_reducible refine drewN_ ?_ _)))
set_option maxHeartbeats 1000000 in
theorem compare_ex (a b : Nat) (w : World) (ha : a < 18446744073709551616) (hb : b < 18446744073709551616) :
  Calls Tryz.prog 70 #[.string (magS a), .string (magS b)] w fun e w' => e = .returned (.int .i64 (cmpN a b)) ∧ Below w.heap.size w w' := by
 have hsa := magS_size a
 have hsb := magS_size b
 have hcmp : orI [cmpI (nb a) (nb b), Lib.compareBytes (magS a).data.toList (magS b).data.toList] = cmpN a b := by
  rcases Nat.lt_trichotomy (nb a) (nb b) with h | h | h
  ·have h1 := nb_less ha hb h
   have h2 : cmpI (nb a) (nb b) = -1 := by unfold cmpI; rw [if_pos (by omega)]
   rw [h2]; unfold cmpN; rw [if_pos h1]; rfl
  ·have h2 : cmpI (nb a) (nb b) = 0 := by unfold cmpI; rw [if_neg (by omega), if_neg (by omega)]
   rw [h2, cmp_mag ha hb h]
   unfold cmpN
   split
   ·rfl
   ·split <;> rfl
  ·have h1 := nb_less hb ha h
   have h2 : cmpI (nb a) (nb b) = 1 := by unfold cmpI; rw [if_neg (by omega), if_pos (by omega)]
   rw [h2]; unfold cmpN; rw [if_neg (by omega), if_pos h1]; rfl
 obtain ⟨c, hc⟩ : ∃ c, Lib.compareBytes (magS a).data.toList (magS b).data.toList = c := ⟨_, rfl⟩
 rw [hc] at hcmp
 have HC := Lib.hid hcmp
 have HS := Lib.hid hc
 obtain ⟨s, hs⟩ : ∃ s, magS a = s := ⟨_, rfl⟩
 obtain ⟨t, ht⟩ : ∃ s, magS b = s := ⟨_, rfl⟩
 rw [hs] at hsa HS ⊢
 rw [ht] at hsb HS ⊢
 obtain ⟨m, hm⟩ : ∃ m, nb a = m := ⟨_, rfl⟩
 obtain ⟨n, hn⟩ : ∃ m, nb b = m := ⟨_, rfl⟩
 rw [hm] at hsa HC
 rw [hn] at hsb HC
 clear hm hn hs ht hc hcmp ha hb
 go_enter Tryz.func70, Tryz.ntmps70
 go_wp2_with fail
 refine (cmp_any _ _ _).mono ?_
 rintro e w' ⟨rfl, rfl⟩
 go_wp2_with fail
 refine (Any.strings_Compare { Tryz.strCmp with } s t w).mono ?_
 rintro e w' ⟨rfl, hw⟩
 subst hw
 rw [HS.out]
 go_wp2_with (go_at_call 47; refine (or_any [cmpI m n, c] _ 2 _ _ rfl (by decide) (by intro i hi; rcases i with _ | _ | i <;> first | (simp [go_sem]; done) | omega)).mono ?_; rintro e w' ⟨rfl, rfl⟩)
 go_ret
 exact ⟨by rw [HC.out]; rfl, (by (repeat (first | with_reducible exact Below.refl _ _ | with_reducible assumption | ((with_reducible refine Below.setCell ?_ ?_ _); rotate_left; focus (first | exact Nat.le_refl _ | omega | exact Below.size (by assumption) | (simp; done) | (simp; omega))) | ((with_reducible refine Below.alloc ?_ ?_ _); rotate_left; focus (first | exact Nat.le_refl _ | omega | exact Below.size (by assumption) | (simp; done) | (simp; omega))) | (with_reducible refine Below.drew ?_) | (with_reducible refine drewN_ ?_ _))))⟩
end Go.Proofs.YtcelpkbmcmnogaaGreatDoor
