/-
  Integers of up to 64 bits: the operations of the package integer, walked.
-/
import Derived.Test.YtopfgkbpakfccaaGreatDoorNetA
import Derived.Test.YtopfgkbpakfccaaGreatDoorIntLay
import Derived.Laws.BytesArg
import Derived.Test.YtopfgkbpakfccaaGreatDoorIntL
set_option linter.unusedSimpArgs false
set_option linter.unusedVariables false
namespace Go.Proofs.YtopfgkbpakfccaaGreatDoor
open Go Go.RowKit Go.Vi
theorem bitLen64 (x : Nat) : Lib.bitLen x ≤ 64 := by
  have h : ∀ f x, Lib.bitLenAux f x ≤ f := by
    intro f
    induction f with
    | zero => intro x; simp [Lib.bitLenAux]
    | succ f ih =>
      intro x
      unfold Lib.bitLenAux
      split
      · omega
      · have := ih (x / 2); omega
  exact h 64 x
theorem digs_front : ∀ k u, digs (k + 1) u = (u / 256 ^ k % 256) :: digs k u
  | 0, u => by simp [digs]
  | k + 1, u => by
    rw [digs, digs_front k, List.cons_append]
    congr 1
    rw [Nat.pow_succ, Nat.mul_comm, Nat.div_div_eq_div_mul]
theorem mag_step {n k j m : Nat} {u : Int} {xs : List Int} (hu : (n : Int) = u) (hj : j + k + 1 = m) (hx : xs.length = 8) (hm : m ≤ 8) (h : (xs.take m).drop (m - k) = (digs k n).map fun d : Nat => (d : Int)) :
    ((xs.set j (u / 2 ^ (8 * k) % 256)).take m).drop (m - (k + 1)) = (digs (k + 1) n).map fun d : Nat => (d : Int) := by
  have e : u / 2 ^ (8 * k) % 256 = ((n / 256 ^ k % 256 : Nat) : Int) := by
    rw [← hu, show (256 : Nat) ^ k = 2 ^ (8 * k) by rw [show (256 : Nat) = 2 ^ 8 by rfl, Nat.pow_mul]]
    simp
  rw [digs_front, List.map_cons, ← h, e, show m - (k + 1) = j by omega, List.take_set, List.drop_set, if_neg (by omega), Nat.sub_self]
  have hl : j < (xs.take m).length := by rw [List.length_take]; omega
  rw [List.drop_eq_getElem_cons hl, List.set_cons_zero, show j + 1 = m - k by omega]
theorem mag_end {n m : Nat} {u : Int} {xs : List Int} (hu : (n : Int) = u) (hm : m = (Lib.bitLen u.toNat + 7) / 8) (h : (xs.take m).drop (m - m) = (digs m n).map fun d : Nat => (d : Int)) : strOfNums (xs.take m) = magS n := by
  have e : m = nb n := by rw [hm, ← hu, Int.toNat_natCast]; rfl
  rw [Nat.sub_self, List.drop_zero] at h
  rw [h, e]
  rfl
set_option maxRecDepth 100000 in
set_option maxHeartbeats 1000000 in
theorem magnitude_ex (n : Nat) (w : World) (hn : n < 18446744073709551616) :
    Calls Tryz.prog 112 #[.int .u64 n] w fun e w' => e = .returned (.string (magS n)) ∧ Below w.heap.size w w' := by
  obtain ⟨u, hun⟩ : ∃ u : Int, (n : Int) = u := ⟨_, rfl⟩
  have h0 : 0 ≤ u := by omega
  have h1 : u ≤ 18446744073709551615 := by omega
  have HUN := Lib.hid hun
  rw [hun]
  clear hun
  by_cases hu : u = 0
  · obtain rfl : n = 0 := by have := HUN.out; omega
    subst hu
    rw [magS_zero]
    go_enter Tryz.func112, Tryz.ntmps112
    go_wp2
    go_ret
    exact ⟨rfl, Below.refl _ _⟩
  · have hu' : (u == 0) = false := by simpa using hu
    have hL := bitLen64 u.toNat
    obtain ⟨L, hLL⟩ : ∃ L, L = Lib.bitLen u.toNat := ⟨_, rfl⟩
    rw [← hLL] at hL
    obtain ⟨m, hm⟩ : ∃ m : Nat, m = (L + 7) / 8 := ⟨_, rfl⟩
    have hm8 : m ≤ 8 := by omega
    have hmt : Int.tdiv ((L : Int) + 7) 8 = (m : Int) := by
      rw [Int.tdiv_eq_ediv_of_nonneg (by omega)]; omega
    have HLL := Lib.hid hLL
    have HM := Lib.hid hm
    clear hLL hm
    go_enter Tryz.func112, Tryz.ntmps112
    go_wp2_with (go_at_call 132; refine (Any.bits_Len64 { Tryz.bitsLen with } u _ h0 h1).mono ?_; rintro e w1 ⟨rfl, rfl⟩; rw [← HLL.out])
    go_loopw [13] (fun s13 wr => ∃ (k : Nat) (xs : List Int), s13 = .int .i64 k ∧ k ≤ m ∧ xs.length = 8 ∧ Hid ((xs.take m).drop (m - k) = (digs k n).map fun d : Nat => (d : Int)) ∧ Hid (wr.heap[w1.heap.size]? = some (.cells (xs.map fun x => .int .u8 x).toArray 218 (0, 0))) ∧ Hid (Below w1.heap.size w1 wr)) (fun s13 _ => m - (intOf s13).toNat)
    case atStart =>
      exact ⟨0, List.replicate 8 0, rfl, Nat.zero_le _, rfl, (by show _ = _; rw [Nat.sub_zero, List.drop_eq_nil_of_le (by rw [List.length_take]; omega)]; rfl), obj_last _ _, by show Below _ _ _; (repeat (first | with_reducible exact Below.refl _ _ | with_reducible assumption | ((with_reducible refine Below.setCell ?_ ?_ _); rotate_left; focus (first | exact Nat.le_refl _ | omega | exact Below.size (by assumption) | (simp; done) | (simp; omega))) | ((with_reducible refine Below.alloc ?_ ?_ _); rotate_left; focus (first | exact Nat.le_refl _ | omega | exact Below.size (by assumption) | (simp; done) | (simp; omega))) | (with_reducible refine Below.drew ?_) | (with_reducible refine drewN_ ?_ _)))⟩
    case round =>
      obtain ⟨k, xs, rfl, hk, hx, hX, hO, hB⟩ := hrel
      by_cases hlt : k < m
      · obtain ⟨j, hj⟩ : ∃ j, j + k + 1 = m := ⟨m - 1 - k, by omega⟩
        have hj1 : (m : Int) - 1 - (k : Int) = (j : Int) := by omega
        have hj2 : IntKind.i64.wrap (j : Int) = (j : Int) := IntWalk.i64_in _ (by omega)
        have hj3 : j < 8 := by omega
        have hj4 : (j : Int) < 8 := by omega
        have hjx : j < xs.length := by omega
        have c0 := obj_cell hO.out j
        have f0 := obj_free hO.out j
        rw [List.getElem?_toArray, List.getElem?_map, List.getElem?_eq_getElem hjx, Option.map_some] at c0
        have HJ := Lib.hid hj
        clear hj
        go_wp2_with fail
        go_roundw
        case rel =>
          refine ⟨k + 1, xs.set j (u / 2 ^ (8 * k) % 256), by go_num, by have := HJ.out; omega, by simpa using hx, mag_step HUN.out HJ.out hx hm8 hX.out, ?_, hB.out.setCell (Nat.le_refl _) _⟩
          have q := obj_set (off := j) (v := .int .u8 (u / 2 ^ (8 * k) % 256)) hO.out
          show _ = _
          rw [q, List.map_set]
          simp
        case measure => have := HJ.out; simp [intOf]; omega
      · obtain rfl : k = m := by omega
        have hcv0 := run_convert_bytes_arg (P := Tryz.prog) wr 219 5 (by kernel_rfl) (by kernel_rfl) w1.heap.size 0 k 8 (xs.take k) (by simp; omega) (fun i hi => by
          have hix : i < xs.length := by omega
          have c0 := obj_cell hO.out (0 + i)
          rw [Nat.zero_add] at c0 ⊢
          rw [List.getElem?_toArray, List.getElem?_map, List.getElem?_eq_getElem hix, Option.map_some] at c0
          rw [c0, List.getD, List.getElem?_take_of_lt hi, List.getElem?_eq_getElem hix]; rfl) 9 (by kernel_rfl)
        obtain ⟨str, hstr⟩ : ∃ s, s = strOfNums (xs.take k) := ⟨_, rfl⟩
        rw [← hstr] at hcv0
        have HSTR := Lib.hid hstr
        have HX := Lib.hid hx
        clear hstr hx hlt
        have hk0 : (0 : Int) ≤ (k : Int) := by omega
        have hk8 : (k : Int) ≤ 8 := by omega
        go_wp2_with fail
        go_ret
        exact ⟨by rw [HSTR.out, mag_end HUN.out (by have h1 := HM.out; have h2 := HLL.out; rw [h2] at h1; exact h1) hX.out]; rfl, hB.out⟩
end Go.Proofs.YtopfgkbpakfccaaGreatDoor
