/-
  rational.FromInt of an int, network.At, the legs of the model: what they return has the right cells; nothing more is said of it.
  cmp.Or at ints, and the two closures of shortest.hops.
  Least lengths: the plain law of Dijkstra's way.
  slices.SortFunc at hops: the shelf's contract in the words of owned rows.
-/
import Derived.Test.YthkhgfdjdpfoiaaP02
import Derived.Test.YthkhgfdjdpfoiaaSortLay
import Derived.Laws.BytesArg
import Derived.Test.YthkhgfdjdpfoiaaP01
import Derived.Deep.RegionHeld3
import Derived.Sort.Grow
set_option linter.unusedSimpArgs false
set_option linter.unusedVariables false
namespace Go.Proofs.Ythkhgfdjdpfoiaa
open Go Go.RowKit Go.Vi
theorem bitLen_le (x : Nat) : Lib.bitLen x ≤ 64 := by
  have h : ∀ f x, Lib.bitLenAux f x ≤ f := by
    intro f
    induction f with
    | zero => intro x; simp [Lib.bitLenAux]
    | succ f ih =>
      intro x
      unfold Lib.bitLenAux
      split
      · omega
      · have := ih (x / 2); omega
  exact h 64 x
set_option maxRecDepth 100000 in
set_option maxHeartbeats 1000000 in
theorem magnitude_any (u : Int) (w : World) (h0 : 0 ≤ u) (h1 : u ≤ 18446744073709551615) :
    Calls Try.prog 75 #[.int .u64 u] w fun e w' => (∃ s, e = .returned (.string s)) ∧ Below w.heap.size w w' := by
  by_cases hu : u = 0
  · subst hu
    go_enter Try.func75, Try.ntmps75
    go_wp2
    go_ret
    exact ⟨⟨_, rfl⟩, Below.refl _ _⟩
  · have hu' : (u == 0) = false := by simpa using hu
    have hL := bitLen_le u.toNat
    obtain ⟨L, hLL⟩ : ∃ L, L = Lib.bitLen u.toNat := ⟨_, rfl⟩
    rw [← hLL] at hL
    obtain ⟨m, hm⟩ : ∃ m : Nat, m = (L + 7) / 8 := ⟨_, rfl⟩
    have hm8 : m ≤ 8 := by omega
    have hmt : Int.tdiv ((L : Int) + 7) 8 = (m : Int) := by
      rw [Int.tdiv_eq_ediv_of_nonneg (by omega)]; omega
    have HLL := Lib.hid hLL
    have HM := Lib.hid hm
    clear hLL hm
    go_enter Try.func75, Try.ntmps75
    go_wp2_with (go_at_call 80; refine (Any.bits_Len64 { Try.bitsLen with } u _ h0 h1).mono ?_; rintro e w1 ⟨rfl, rfl⟩; rw [← HLL.out])
    go_loopw [13] (fun s13 wr => ∃ (k : Nat) (xs : List Int), s13 = .int .i64 k ∧ k ≤ m ∧ xs.length = 8 ∧ Hid (wr.heap[w1.heap.size]? = some (.cells (xs.map fun x => .int .u8 x).toArray 191 (0, 0))) ∧ Hid (Below w1.heap.size w1 wr)) (fun s13 _ => m - (intOf s13).toNat)
    case atStart =>
      exact ⟨0, List.replicate 8 0, rfl, Nat.zero_le _, rfl, obj_last _ _, by show Below _ _ _; (repeat (first | with_reducible exact Below.refl _ _ | with_reducible assumption | ((with_reducible refine Below.setCell ?_ ?_ _); rotate_left; focus (first | exact Nat.le_refl _ | omega | exact Below.size (by assumption) | (simp; done) | (simp; omega))) | ((with_reducible refine Below.alloc ?_ ?_ _); rotate_left; focus (first | exact Nat.le_refl _ | omega | exact Below.size (by assumption) | (simp; done) | (simp; omega))) | (with_reducible refine Below.drew ?_) | (with_reducible refine drewN_ ?_ _)))⟩
    case round =>
      obtain ⟨k, xs, rfl, hk, hx, hO, hB⟩ := hrel
      by_cases hlt : k < m
      · obtain ⟨j, hj⟩ : ∃ j, j + k + 1 = m := ⟨m - 1 - k, by omega⟩
        have hj1 : (m : Int) - 1 - (k : Int) = (j : Int) := by omega
        have hj2 : IntKind.i64.wrap (j : Int) = (j : Int) := IntWalk.i64_in _ (by omega)
        have hj3 : j < 8 := by omega
        have hj4 : (j : Int) < 8 := by omega
        have hjx : j < xs.length := by omega
        have c0 := obj_cell hO.out j
        have f0 := obj_free hO.out j
        rw [List.getElem?_toArray, List.getElem?_map, List.getElem?_eq_getElem hjx, Option.map_some] at c0
        have HJ := Lib.hid hj
        clear hj
        go_wp2_with fail
        go_roundw
        case rel =>
          refine ⟨k + 1, xs.set j (u / 2 ^ (8 * k) % 256), by go_num, by have := HJ.out; omega, by simpa using hx, ?_, hB.out.setCell (Nat.le_refl _) _⟩
          have q := obj_set (off := j) (v := .int .u8 (u / 2 ^ (8 * k) % 256)) hO.out
          show _ = _
          rw [q, List.map_set]
          simp
        case measure => have := HJ.out; simp [intOf]; omega
      · obtain rfl : k = m := by omega
        have hcv0 := run_convert_bytes_arg (P := Try.prog) wr 192 5 (by kernel_rfl) (by kernel_rfl) w1.heap.size 0 k 8 (xs.take k) (by simp; omega) (fun i hi => by
          have hix : i < xs.length := by omega
          have c0 := obj_cell hO.out (0 + i)
          rw [Nat.zero_add] at c0 ⊢
          rw [List.getElem?_toArray, List.getElem?_map, List.getElem?_eq_getElem hix, Option.map_some] at c0
          rw [c0, List.getD, List.getElem?_take_of_lt hi, List.getElem?_eq_getElem hix]; rfl) 9 (by kernel_rfl)
        obtain ⟨str, hstr⟩ : ∃ s, s = strOfNums (xs.take k) := ⟨_, rfl⟩
        rw [← hstr] at hcv0
        have HSTR := Lib.hid hstr
        have HX := Lib.hid hx
        clear hstr hx hlt
        have hk0 : (0 : Int) ≤ (k : Int) := by omega
        have hk8 : (k : Int) ≤ 8 := by omega
        go_wp2_with fail
        go_ret
        exact ⟨⟨_, rfl⟩, hB.out⟩
structure RatD where (b : Bool) (s : ByteArray) (c : Bool) (t : ByteArray)
structure LegD where (f t : RatD) (road : Int) (a z : RatD)
abbrev RatD.v (r : RatD) : Value := .agg #[.bool r.b, .string r.s, .bool r.c, .string r.t]
abbrev LegD.v (r : LegD) : Value := .agg #[.bool r.f.b, .string r.f.s, .bool r.f.c, .string r.f.t, .bool r.t.b, .string r.t.s, .bool r.t.c, .string r.t.t, .int .i64 r.road, .bool r.a.b, .string r.a.s, .bool r.a.c, .string r.a.t, .bool r.z.b, .string r.z.s, .bool r.z.c, .string r.z.t]
def LegD.cs (r : LegD) : List Value := [.bool r.f.b, .string r.f.s, .bool r.f.c, .string r.f.t, .bool r.t.b, .string r.t.s, .bool r.t.c, .string r.t.t, .int .i64 r.road, .bool r.a.b, .string r.a.s, .bool r.a.c, .string r.a.t, .bool r.z.b, .string r.z.s, .bool r.z.c, .string r.z.t]
theorem made_any (n : Bool) (s : ByteArray) (w : World) : Calls Try.prog 74 #[.bool n, .string s] w fun e w' => (∃ b, e = .returned (.agg #[.bool b, .string s])) ∧ Below w.heap.size w w' := by
  cases n with
  | true =>
    go_enter Try.func74, Try.ntmps74
    go_wp2_with fail
    refine bodyPost_ret (v := .agg #[.bool (!s.toList.isEmpty), .string s]) (by simp [results, Try.results74, go_sem]) rfl ⟨⟨_, rfl⟩, (by (repeat (first | with_reducible exact Below.refl _ _ | with_reducible assumption | ((with_reducible refine Below.setCell ?_ ?_ _); rotate_left; focus (first | exact Nat.le_refl _ | omega | exact Below.size (by assumption) | (simp; done) | (simp; omega))) | ((with_reducible refine Below.alloc ?_ ?_ _); rotate_left; focus (first | exact Nat.le_refl _ | omega | exact Below.size (by assumption) | (simp; done) | (simp; omega))) | (with_reducible refine Below.drew ?_) | (with_reducible refine drewN_ ?_ _))))⟩
  | false =>
    go_enter Try.func74, Try.ntmps74
    go_wp2_with fail
    refine bodyPost_ret (v := .agg #[.bool false, .string s]) (by simp [results, Try.results74, go_sem]) rfl ⟨⟨_, rfl⟩, (by (repeat (first | with_reducible exact Below.refl _ _ | with_reducible assumption | ((with_reducible refine Below.setCell ?_ ?_ _); rotate_left; focus (first | exact Nat.le_refl _ | omega | exact Below.size (by assumption) | (simp; done) | (simp; omega))) | ((with_reducible refine Below.alloc ?_ ?_ _); rotate_left; focus (first | exact Nat.le_refl _ | omega | exact Below.size (by assumption) | (simp; done) | (simp; omega))) | (with_reducible refine Below.drew ?_) | (with_reducible refine drewN_ ?_ _))))⟩
theorem intFrom_any (n : Int) (w : World) (h0 : 0 ≤ n) (h1 : n ≤ 4611686018427387904) : Calls Try.prog 63 #[.int .i64 n] w fun e w' => (∃ b s, e = .returned (.agg #[.bool b, .string s])) ∧ Below w.heap.size w w' := by
  have hu : IntKind.u64.wrap n = n := IntWalk.u64_in _ (by omega)
  have hn : ¬n < 0 := by omega
  go_enter Try.func63, Try.ntmps63
  go_wp2_with (first | (go_at_call 75; refine (magnitude_any n _ h0 (by omega)).mono ?_; rintro e w1 ⟨⟨s, rfl⟩, hb1⟩; have hB1 := from_ (w := w) hb1 (by (repeat (first | with_reducible exact Below.refl _ _ | with_reducible assumption | ((with_reducible refine Below.setCell ?_ ?_ _); rotate_left; focus (first | exact Nat.le_refl _ | omega | exact Below.size (by assumption) | (simp; done) | (simp; omega))) | ((with_reducible refine Below.alloc ?_ ?_ _); rotate_left; focus (first | exact Nat.le_refl _ | omega | exact Below.size (by assumption) | (simp; done) | (simp; omega))) | (with_reducible refine Below.drew ?_) | (with_reducible refine drewN_ ?_ _)))); have HB1 := Lib.hid hB1; have hz1 := hb1.size; simp at hz1; obtain ⟨hc1, hf1⟩ := bcell hb1; clear hB1 hb1) | (go_at_call 74; refine (made_any _ _ _).mono ?_; rintro e w2 ⟨⟨b, rfl⟩, hb2⟩; have hB2 := from_ (w := w) hb2 HB1.out; have HB2 := Lib.hid hB2; have hz2 := hb2.size; have z2 : w.heap.size < w2.heap.size := (by omega); have z1 : w.heap.size < w1.heap.size := (by omega); obtain ⟨hc2, hf2⟩ := bcell hb2; clear hB2 hb2))
  refine bodyPost_ret (v := .agg #[.bool b, .string s]) (by simp [results, Try.results63, go_sem, hc1, hf1, hc2, hf2, z1, z2]) rfl ⟨⟨_, _, rfl⟩, ?_⟩
  have hB := HB2.out
  (repeat (first | with_reducible exact Below.refl _ _ | with_reducible assumption | ((with_reducible refine Below.setCell ?_ ?_ _); rotate_left; focus (first | exact Nat.le_refl _ | omega | exact Below.size (by assumption) | (simp; done) | (simp; omega))) | ((with_reducible refine Below.alloc ?_ ?_ _); rotate_left; focus (first | exact Nat.le_refl _ | omega | exact Below.size (by assumption) | (simp; done) | (simp; omega))) | (with_reducible refine Below.drew ?_) | (with_reducible refine drewN_ ?_ _)))
theorem ratInt_any (n : Int) (w : World) (h0 : 0 ≤ n) (h1 : n ≤ 4611686018427387904) : Calls Try.prog 52 #[.int .i64 n] w fun e w' => (∃ r : RatD, e = .returned r.v) ∧ Below w.heap.size w w' := by
  go_enter Try.func52, Try.ntmps52
  go_wp2_with (go_at_call 63; refine (intFrom_any n _ h0 h1).mono ?_; rintro e w1 ⟨⟨b, s, rfl⟩, hb1⟩; have hB1 := from_ (w := w) hb1 (by (repeat (first | with_reducible exact Below.refl _ _ | with_reducible assumption | ((with_reducible refine Below.setCell ?_ ?_ _); rotate_left; focus (first | exact Nat.le_refl _ | omega | exact Below.size (by assumption) | (simp; done) | (simp; omega))) | ((with_reducible refine Below.alloc ?_ ?_ _); rotate_left; focus (first | exact Nat.le_refl _ | omega | exact Below.size (by assumption) | (simp; done) | (simp; omega))) | (with_reducible refine Below.drew ?_) | (with_reducible refine drewN_ ?_ _)))); have HB1 := Lib.hid hB1; have hz1 := hb1.size; simp at hz1; obtain ⟨hc1, hf1⟩ := bcell hb1; clear hB1 hb1)
  refine bodyPost_ret (v := (⟨b, s, false, ⟨#[]⟩⟩ : RatD).v) (by simp [results, Try.results52, go_sem, hc1, hf1, hz1]) rfl ⟨⟨_, rfl⟩, ?_⟩
  have hB := HB1.out
  (repeat (first | with_reducible exact Below.refl _ _ | with_reducible assumption | ((with_reducible refine Below.setCell ?_ ?_ _); rotate_left; focus (first | exact Nat.le_refl _ | omega | exact Below.size (by assumption) | (simp; done) | (simp; omega))) | ((with_reducible refine Below.alloc ?_ ?_ _); rotate_left; focus (first | exact Nat.le_refl _ | omega | exact Below.size (by assumption) | (simp; done) | (simp; omega))) | (with_reducible refine Below.drew ?_) | (with_reducible refine drewN_ ?_ _)))
theorem roff_any (r : Rd) (x : Int) (w : World) (h0 : 0 ≤ r.len) (h1 : r.len ≤ 4611686018427387904) : Calls Try.prog 53 #[r.v, .int .i64 x] w fun e w' => (∃ r : RatD, e = .returned r.v) ∧ Below w.heap.size w w' := by
  by_cases hx : r.src = x
  · have hx' : (r.src == x) = true := by simpa using hx
    clear hx
    go_enter Try.func53, Try.ntmps53
    go_wp2_with fail
    refine bodyPost_ret (v := (⟨false, ⟨#[]⟩, false, ⟨#[]⟩⟩ : RatD).v) (by simp [results, Try.results53, go_sem]) rfl ⟨⟨_, rfl⟩, (by (repeat (first | with_reducible exact Below.refl _ _ | with_reducible assumption | ((with_reducible refine Below.setCell ?_ ?_ _); rotate_left; focus (first | exact Nat.le_refl _ | omega | exact Below.size (by assumption) | (simp; done) | (simp; omega))) | ((with_reducible refine Below.alloc ?_ ?_ _); rotate_left; focus (first | exact Nat.le_refl _ | omega | exact Below.size (by assumption) | (simp; done) | (simp; omega))) | (with_reducible refine Below.drew ?_) | (with_reducible refine drewN_ ?_ _))))⟩
  · have hx' : (r.src == x) = false := by simpa using hx
    go_enter Try.func53, Try.ntmps53
    go_wp2_with (go_at_call 52; refine (ratInt_any r.len _ h0 h1).mono ?_; rintro e w1 ⟨⟨b, rfl⟩, hb1⟩; have hB1 := from_ (w := w) hb1 (by (repeat (first | with_reducible exact Below.refl _ _ | with_reducible assumption | ((with_reducible refine Below.setCell ?_ ?_ _); rotate_left; focus (first | exact Nat.le_refl _ | omega | exact Below.size (by assumption) | (simp; done) | (simp; omega))) | ((with_reducible refine Below.alloc ?_ ?_ _); rotate_left; focus (first | exact Nat.le_refl _ | omega | exact Below.size (by assumption) | (simp; done) | (simp; omega))) | (with_reducible refine Below.drew ?_) | (with_reducible refine drewN_ ?_ _)))); have HB1 := Lib.hid hB1; have hz1 := hb1.size; simp at hz1; have z1 : w.heap.size + 1 < w1.heap.size := (by omega); obtain ⟨hc1, hf1⟩ := bcell hb1; clear hB1 hb1)
    refine bodyPost_ret (v := b.v) (by simp [results, Try.results53, go_sem, hc1, hf1, z1]) rfl ⟨⟨_, rfl⟩, ?_⟩
    have hB := HB1.out
    (repeat (first | with_reducible exact Below.refl _ _ | with_reducible assumption | ((with_reducible refine Below.setCell ?_ ?_ _); rotate_left; focus (first | exact Nat.le_refl _ | omega | exact Below.size (by assumption) | (simp; done) | (simp; omega))) | ((with_reducible refine Below.alloc ?_ ?_ _); rotate_left; focus (first | exact Nat.le_refl _ | omega | exact Below.size (by assumption) | (simp; done) | (simp; omega))) | (with_reducible refine Below.drew ?_) | (with_reducible refine drewN_ ?_ _)))
end Go.Proofs.Ythkhgfdjdpfoiaa
namespace Go.Proofs.Ythkhgfdjdpfoiaa
open Go Go.RowKit Go.Vi
def orI : List Int → Int
  | [] => 0
  | x :: r => if x = 0 then orI r else x
theorem orI_at {L : List Int} {k : Nat} (h : k < L.length) : orI (L.drop k) = if L[k]! = 0 then orI (L.drop (k + 1)) else L[k]! := by
  rw [List.drop_eq_getElem_cons h, getElem!_pos L k h]; rfl
set_option maxHeartbeats 1000000 in
theorem or_any (L : List Int) (b n cap : Nat) (w : World) (hn : L.length = n) (hn1 : n ≤ 1000) (hc : ∀ i, i < n → w.cell? ⟨b, i, none⟩ = some (.int .i64 L[i]!)) :
    Calls Try.prog 23 #[.slice (some ⟨b, 0, none⟩) n cap] w fun e w' => e = .returned (.int .i64 (orI L)) ∧ w = w' := by
  have HN := Lib.hid hn
  have HC := Lib.hid hc
  clear hn hc
  go_enter Try.func23, Try.ntmps23
  go_wp2
  go_loop [8] (fun s8 => ∃ k : Nat, s8 = .int .i64 k ∧ k ≤ n ∧ Hid (orI L = orI (L.drop k))) (fun s8 => n - (intOf s8).toNat)
  case atStart => exact ⟨0, rfl, Nat.zero_le _, rfl⟩
  case round =>
    obtain ⟨k, rfl, hk, hE⟩ := hrel
    by_cases hlt : k < n
    · have hE2 := orI_at (L := L) (k := k) (by rw [HN.out]; exact hlt)
      have c0 := HC.out k hlt
      generalize L[k]! = x at c0 hE2
      have HE2 := Lib.hid hE2
      clear hE2
      by_cases hx : x = 0
      · have hx' : (x != 0) = false := by simpa using hx
        go_wp2
        go_round
        case rel => exact ⟨k + 1, by go_num, by omega, by show orI L = _; rw [hE.out, HE2.out, if_pos hx]⟩
        case measure => simp [intOf]; omega
      · have hx' : (x != 0) = true := by simpa using hx
        go_wp2
        go_ret
        exact ⟨by rw [hE.out, HE2.out, if_neg hx]; rfl, rfl⟩
    · obtain rfl : k = n := by omega
      go_wp2
      go_ret
      exact ⟨by rw [hE.out, List.drop_eq_nil_of_le (by rw [HN.out]; exact Nat.le_refl _)]; rfl, rfl⟩
/-- A hop. -/
structure Hp where (dst road len : Int)
instance : Inhabited Hp := ⟨⟨0, 0, 0⟩⟩
def Hp.cs (x : Hp) : List Value := [.int .i64 x.dst, .int .i64 x.road, .int .i64 x.len]
abbrev Hp.v (x : Hp) : Value := .agg #[.int .i64 x.dst, .int .i64 x.road, .int .i64 x.len]
def hpCmp (a b : Hp) : Int := orI [cmpI a.dst b.dst, cmpI a.len b.len, cmpI a.road b.road]
theorem grown3 (w : World) (A B C : Obj) : (((w.alloc A).alloc B).alloc C).drew = Sort.grow (w.drewN 1) #[A, B, C] := by
  rw [Sort.alloc_eq_grow, Sort.alloc_eq_grow, Sort.alloc_eq_grow, Sort.grow_grow, Sort.grow_grow]; rfl
set_option maxHeartbeats 1000000 in
theorem hops1_any (a b : Hp) (w : World) : Calls Try.prog 70 #[a.v, b.v] w fun e w' => e = .returned (.int .i64 (hpCmp a b)) ∧ ∃ q os, w' = Sort.grow (w.drewN q) os := by
  go_enter Try.func70, Try.ntmps70
  go_wp2_with fail
  go_region_held3 (fun w' => w'.cell? ⟨w.heap.size, 0, none⟩ = some (.int .i64 a.dst) ∧ w'.cell? ⟨w.heap.size, 1, none⟩ = some (.int .i64 a.road) ∧ w'.cell? ⟨w.heap.size, 2, none⟩ = some (.int .i64 a.len) ∧ w'.cell? ⟨w.heap.size + 1, 0, none⟩ = some (.int .i64 b.dst) ∧ w'.cell? ⟨w.heap.size + 1, 1, none⟩ = some (.int .i64 b.road) ∧ w'.cell? ⟨w.heap.size + 1, 2, none⟩ = some (.int .i64 b.len)) (go_keep)
    (first
      | (go_at_call 18; refine (cmp_any _ _ _).mono ?_; rintro e w' ⟨rfl, rfl⟩)
      | (go_at_call 23; refine (or_any [cmpI a.dst b.dst, cmpI a.len b.len, cmpI a.road b.road] _ 3 _ _ rfl (by decide) (by intro i hi; rcases i with _ | _ | _ | i <;> first | (simp [go_sem]; done) | omega)).mono ?_; rintro e w' ⟨rfl, rfl⟩))
  go_wp2
  go_ret
  exact ⟨rfl, 1, _, grown3 _ _ _ _⟩
theorem hops2_any (a b : Hp) (w : World) : Calls Try.prog 72 #[a.v, b.v] w fun e w' => e = .returned (.bool (a.dst == b.dst)) ∧ Below w.heap.size w w' := by
  go_enter Try.func72, Try.ntmps72
  go_wp2
  go_ret
  exact ⟨rfl, (by (repeat (first | with_reducible exact Below.refl _ _ | with_reducible assumption | ((with_reducible refine Below.setCell ?_ ?_ _); rotate_left; focus (first | exact Nat.le_refl _ | omega | exact Below.size (by assumption) | (simp; done) | (simp; omega))) | ((with_reducible refine Below.alloc ?_ ?_ _); rotate_left; focus (first | exact Nat.le_refl _ | omega | exact Below.size (by assumption) | (simp; done) | (simp; omega))) | (with_reducible refine Below.drew ?_) | (with_reducible refine drewN_ ?_ _))))⟩
end Go.Proofs.Ythkhgfdjdpfoiaa
namespace Go.Proofs.Ythkhgfdjdpfoiaa
open Go Go.Vi
/-- A walk from s: its end and its length. -/
inductive Walk (A : Int → List Hp) (s : Int) : Int → Int → Prop
  | nil : Walk A s s 0
  | snoc {u d : Int} {h : Hp} : Walk A s u d → h ∈ A u → Walk A s h.dst (d + h.len)
def Least (A : Int → List Hp) (s v d : Int) : Prop := Walk A s v d ∧ ∀ d', Walk A s v d' → d ≤ d'
theorem Least.unique {A : Int → List Hp} {s v d d' : Int} (h : Least A s v d) (h' : Least A s v d') : d = d' := by
  have a := h.2 _ h'.1
  have b := h'.2 _ h.1
  omega
/-- What holds between two pops: D the lengths settled, L what waits; v's hops from place i on are still to be looked at. -/
structure DInv (A : Int → List Hp) (s : Int) (D : List (Int × Int)) (L : List Hp) (v : Int) (i : Nat) : Prop where
  settled : ∀ u d, Vi.look D u = some d → Least A s u d
  waits : ∀ h ∈ L, Walk A s h.dst h.len
  edges : ∀ u d, Vi.look D u = some d → ∀ j (hj : j < (A u).length), (u = v → j < i) → (∃ d', Vi.look D (A u)[j].dst = some d') ∨ ∃ q ∈ L, q.dst = (A u)[j].dst ∧ q.len ≤ d + (A u)[j].len
  start : (∃ d, Vi.look D s = some d) ∨ ∃ q ∈ L, q.dst = s ∧ q.len ≤ 0
theorem walk_nonneg {A : Int → List Hp} (hA : ∀ u, ∀ h ∈ A u, 0 ≤ h.len) {s v d : Int} (h : Walk A s v d) : 0 ≤ d := by
  induction h with
  | nil => exact Int.le_refl _
  | snoc _ hm ih => have := hA _ _ hm; omega
theorem dinv_start (A : Int → List Hp) (s v : Int) (i : Nat) (r : Int) : DInv A s [] [⟨s, r, 0⟩] v i :=
  ⟨fun u d h => by simp [Vi.look] at h, fun h hh => by simp at hh; subst hh; exact .nil, fun u d h => by simp [Vi.look] at h, .inr ⟨⟨s, r, 0⟩, by simp, rfl, Int.le_refl _⟩⟩
/-- Every walk's end is settled, or something on the way waits and is no longer. -/
theorem dinv_walk {A : Int → List Hp} (hA : ∀ u, ∀ h ∈ A u, 0 ≤ h.len) {s : Int} {D : List (Int × Int)} {L : List Hp} {v : Int} (h : DInv A s D L v (A v).length) {x d : Int} (hw : Walk A s x d) :
    (∃ d', Vi.look D x = some d') ∨ ∃ q ∈ L, q.len ≤ d ∧ Vi.look D q.dst = none := by
  induction hw with
  | nil =>
    rcases h.start with h1 | ⟨q, hq, h2, h3⟩
    · exact .inl h1
    · cases hl : Vi.look D q.dst with
      | none => exact .inr ⟨q, hq, h3, hl⟩
      | some d' => left; rw [h2] at hl; exact ⟨d', hl⟩
  | @snoc u d g hw hm ih =>
    have hg := hA _ _ hm
    rcases ih with ⟨d', h1⟩ | ⟨q, hq, h2, h3⟩
    · obtain ⟨j, hj, rfl⟩ := List.getElem_of_mem hm
      rcases h.edges u d' h1 j hj (fun e => by subst e; exact hj) with h2 | ⟨q, hq, h3, h4⟩
      · exact .inl h2
      · cases hl : Vi.look D q.dst with
        | none =>
          have := (h.settled u d' h1).2 _ hw
          exact .inr ⟨q, hq, by omega, hl⟩
        | some d2 => left; rw [h3] at hl; exact ⟨d2, hl⟩
    · exact .inr ⟨q, hq, by omega, h3⟩
/-- A pop of what is settled already. -/
theorem dinv_skip {A : Int → List Hp} {s : Int} {D : List (Int × Int)} {L L' : List Hp} {v : Int} {q : Hp} {i : Nat} (h : DInv A s D L v i) (hp : (q :: L').Perm L) (hq : ∃ d, Vi.look D q.dst = some d) : DInv A s D L' v i := by
  have hm : ∀ x ∈ L, x = q ∨ x ∈ L' := fun x hx => by have := hp.mem_iff.2 hx; simpa using this
  refine ⟨h.settled, fun x hx => h.waits x (hp.mem_iff.1 (List.mem_cons_of_mem _ hx)), fun u d hu j hj hji => ?_, ?_⟩
  · rcases h.edges u d hu j hj hji with h1 | ⟨x, hx, h2, h3⟩
    · exact .inl h1
    · rcases hm x hx with rfl | hx'
      · left; rw [← h2]; exact hq
      · exact .inr ⟨x, hx', h2, h3⟩
  · rcases h.start with h1 | ⟨x, hx, h2, h3⟩
    · exact .inl h1
    · rcases hm x hx with rfl | hx'
      · left; rw [← h2]; exact hq
      · exact .inr ⟨x, hx', h2, h3⟩
/-- A pop of what is not: it is settled; its own hops are to be looked at from the first on. -/
theorem dinv_settle {A : Int → List Hp} (hA : ∀ u, ∀ h ∈ A u, 0 ≤ h.len) {s : Int} {D : List (Int × Int)} {L L' : List Hp} {v : Int} {q : Hp} (h : DInv A s D L v (A v).length) (hp : (q :: L').Perm L) (hmin : ∀ x ∈ L, q.len ≤ x.len) (hq : Vi.look D q.dst = none) :
    DInv A s (put D q.dst q.len) L' q.dst 0 := by
  have hm : ∀ x ∈ L, x = q ∨ x ∈ L' := fun x hx => by have := hp.mem_iff.2 hx; simpa using this
  have hqL : q ∈ L := hp.mem_iff.1 List.mem_cons_self
  have hl : Least A s q.dst q.len := by
    refine ⟨h.waits q hqL, fun d' hw => ?_⟩
    rcases dinv_walk hA h hw with ⟨d2, h1⟩ | ⟨x, hx, h1, _⟩
    · rw [hq] at h1; cases h1
    · have := hmin x hx; omega
  have hkeep : ∀ u d, Vi.look D u = some d → ∃ d', Vi.look (put D q.dst q.len) u = some d' := fun u d hu => by
    rw [look_put]; split
    · exact ⟨_, rfl⟩
    · exact ⟨d, hu⟩
  refine ⟨fun u d hu => ?_, fun x hx => h.waits x (hp.mem_iff.1 (List.mem_cons_of_mem _ hx)), fun u d hu j hj hji => ?_, ?_⟩
  · rw [look_put] at hu
    split at hu
    · rename_i e; subst e; injection hu with hu; subst hu; exact hl
    · exact h.settled u d hu
  · rw [look_put] at hu
    split at hu
    · rename_i e; subst e; exact absurd (hji rfl) (Nat.not_lt_zero _)
    · rename_i e
      rcases h.edges u d hu j hj (fun e2 => by subst e2; exact hj) with ⟨d', h1⟩ | ⟨x, hx, h2, h3⟩
      · exact .inl (hkeep _ _ h1)
      · rcases hm x hx with rfl | hx'
        · left; rw [look_put, if_pos h2.symm]; exact ⟨_, rfl⟩
        · exact .inr ⟨x, hx', h2, h3⟩
  · rcases h.start with ⟨d, h1⟩ | ⟨x, hx, h2, h3⟩
    · exact .inl (hkeep _ _ h1)
    · rcases hm x hx with rfl | hx'
      · left; rw [look_put, if_pos h2.symm]; exact ⟨_, rfl⟩
      · exact .inr ⟨x, hx', h2, h3⟩
/-- A hop of the settled node is looked at: its end is settled, or it waits now. -/
theorem dinv_seen {A : Int → List Hp} {s : Int} {D : List (Int × Int)} {L : List Hp} {v : Int} {i : Nat} (h : DInv A s D L v i) (hi : i < (A v).length) (hs : ∃ d, Vi.look D (A v)[i].dst = some d) : DInv A s D L v (i + 1) :=
  ⟨h.settled, h.waits, fun u d hu j hj hji => by
    by_cases hc : u = v ∧ j = i
    · obtain ⟨rfl, rfl⟩ := hc; exact .inl hs
    · exact h.edges u d hu j hj (fun e => by have := hji e; have : j ≠ i := fun e2 => hc ⟨e, e2⟩; omega), h.start⟩
theorem dinv_push {A : Int → List Hp} {s : Int} {D : List (Int × Int)} {L L' : List Hp} {v dv r : Int} {i : Nat} (h : DInv A s D L v i) (hi : i < (A v).length) (hv : Vi.look D v = some dv) (hp : L'.Perm (⟨(A v)[i].dst, r, dv + (A v)[i].len⟩ :: L)) : DInv A s D L' v (i + 1) := by
  have hin : ∀ x ∈ L, x ∈ L' := fun x hx => hp.mem_iff.2 (List.mem_cons_of_mem _ hx)
  refine ⟨h.settled, fun x hx => ?_, fun u d hu j hj hji => ?_, ?_⟩
  · rcases List.mem_cons.1 (hp.mem_iff.1 hx) with rfl | hx'
    · exact .snoc (h.settled v dv hv).1 (List.getElem_mem hi)
    · exact h.waits x hx'
  · by_cases hc : u = v ∧ j = i
    · obtain ⟨rfl, rfl⟩ := hc
      rw [hv] at hu; injection hu with hu; subst hu
      exact .inr ⟨_, hp.mem_iff.2 List.mem_cons_self, rfl, Int.le_refl _⟩
    · rcases h.edges u d hu j hj (fun e => by have := hji e; have : j ≠ i := fun e2 => hc ⟨e, e2⟩; omega) with h1 | ⟨x, hx, h2, h3⟩
      · exact .inl h1
      · exact .inr ⟨x, hin x hx, h2, h3⟩
  · rcases h.start with h1 | ⟨x, hx, h2, h3⟩
    · exact .inl h1
    · exact .inr ⟨x, hin x hx, h2, h3⟩
/-- When nothing waits any more: the lengths are the least ones, of all ends. -/
theorem dinv_done {A : Int → List Hp} (hA : ∀ u, ∀ h ∈ A u, 0 ≤ h.len) {s : Int} {D : List (Int × Int)} {v : Int} (h : DInv A s D [] v (A v).length) : ∀ x d, Vi.look D x = some d ↔ Least A s x d := by
  intro x d
  refine ⟨h.settled x d, fun hl => ?_⟩
  rcases dinv_walk hA h hl.1 with ⟨d', h1⟩ | ⟨q, hq, _⟩
  · rw [h1, (h.settled x d' h1).unique hl]
  · cases hq
end Go.Proofs.Ythkhgfdjdpfoiaa
namespace Go.Vi
open Go Go.RowKit Go.Sort Go.Shelf Go.Proofs
/-- The flat row of a list of encoded elements. -/
theorem flatK_list {α : Type} [Inhabited α] (enc : α → List Value) (k : Nat) (hk : ∀ x, (enc x).length = k) (d : Array α) : (flatK enc k d).toList = (d.toList.map enc).flatten := by
  have hR : ∀ r ∈ d.toList.map enc, r.length = k := fun r hr => by obtain ⟨x, _, rfl⟩ := List.mem_map.1 hr; exact hk x
  have hfl := flatten_len hR
  simp only [List.length_map, Array.length_toList] at hfl
  apply List.ext_getElem?
  intro t
  by_cases ht : t < d.size * k
  · have k0 : 0 < k := by rcases Nat.eq_zero_or_pos k with h | h; · subst h; simp at ht
                          · exact h
    have hq : t / k < d.size := by rw [Nat.div_lt_iff_lt_mul k0]; exact ht
    have hm := Nat.mod_lt t k0
    have e : t = t / k * k + t % k := by have := Nat.div_add_mod t k; rw [Nat.mul_comm] at this; omega
    have h1 := flatten_get hR (t / k) (by simpa using hq) (t % k) hm
    rw [← e] at h1
    rw [h1, Array.getElem?_toList, getElem?_pos (flatK enc k d) t (by simpa using ht), ← getElem!_pos (flatK enc k d) t (by simpa using ht), get_flatK _ _ _ _ ht, getElem!_pos d _ hq]
    simp only [List.getElem_map, Array.getElem_toList]
    have hm2 : t % k < (enc d[t / k]).length := by rw [hk]; exact hm
    rw [getElem?_pos (enc d[t / k]) (t % k) hm2, getElem!_pos (enc d[t / k]) (t % k) hm2]
  · rw [List.getElem?_eq_none (by simp; omega), List.getElem?_eq_none (by rw [hfl]; omega)]
theorem holdsK_of {α : Type} [Inhabited α] {enc : α → List Value} {k : Nat} (hk : ∀ x, (enc x).length = k) {B : Nat} {w : World} {e g n cap : Nat} {L : List α} (h : Ow B w e k (.slice (some ⟨g, 0, none⟩) n cap) (L.map enc)) : HoldsK enc k w g 0 L.toArray := by
  intro j hj
  have hfl := flatK_list enc k hk L.toArray
  simp at hfl
  refine ⟨?_, by rw [Nat.zero_add]; exact h.free j⟩
  rcases h.1.2 with ⟨e0, _⟩ | ⟨g', cap', cur, e0, hb, hg, hn, hm, hs, ht⟩
  · cases e0
  · injection e0 with e1 e2 e3
    injection e1 with e1
    injection e1 with e1
    subst e1; subst e3
    have hj' : j < L.length * k := by simpa using hj
    have h1 : (cur.toList.take ((L.map enc).length * k))[j]? = ((L.map enc).flatten)[j]? := by rw [ht]
    rw [List.getElem?_take_of_lt (by simpa using hj'), ← hfl] at h1
    simp only [World.cell?, hg, Nat.zero_add]
    simp only [Option.isSome_none, Bool.false_eq_true, if_false]
    rw [← Array.getElem?_toList, h1, Array.getElem?_toList, getElem?_pos (flatK enc k L.toArray) j hj, getElem!_pos (flatK enc k L.toArray) j hj]
    rfl
theorem take_put (d : Array Value) (cur : Array Value) (h : d.size ≤ cur.size) : (putCells id 0 d cur).toList.take d.size = d.toList := by
  apply List.ext_getElem?
  intro j
  by_cases hj : j < d.size
  · rw [List.getElem?_take_of_lt hj, Array.getElem?_toList, Array.getElem?_toList]
    simp [putCells, hj, show j < cur.size by omega]
  · rw [List.getElem?_take_eq_none (by omega), List.getElem?_eq_none (by simp; omega)]
theorem grownBy_sortK {α : Type} [Inhabited α] (enc : α → List Value) (k : Nat) (w : World) (g n : Nat) (d : Array α) (os : Array Obj) : w.grownBy (sortWorldK enc k w g 0 n d os) (some g) := by
  refine ⟨rfl, rfl, rfl, by simp [sortWorldK, putRowK, putRow, mapBlock, Sort.ahead], fun j hj hne => ?_⟩
  unfold sortWorldK putRowK
  rw [heap_grow_old _ _ (by simpa [putRow, mapBlock, Sort.ahead] using hj)]
  have : g ≠ j := fun e => hne (by rw [e])
  simp [putRow, mapBlock, Sort.ahead, Array.getElem?_modify, this]
theorem Ow.sorted {α : Type} [Inhabited α] {enc : α → List Value} {k : Nat} (hk : ∀ x, (enc x).length = k) {B : Nat} {w : World} {e g m cap : Nat} {L : List α} (h : Ow B w e k (.slice (some ⟨g, 0, none⟩) m cap) (L.map enc)) (n : Nat) (d : Array α) (os : Array Obj) (hd : d.size = L.length) :
    Ow B (sortWorldK enc k w g 0 n d os) e k (.slice (some ⟨g, 0, none⟩) m cap) (d.toList.map enc) := by
  refine ⟨?_, fun r hr => by obtain ⟨x, _, rfl⟩ := List.mem_map.1 hr; exact hk x⟩
  have hR : ∀ r ∈ d.toList.map enc, r.length = k := fun r hr => by obtain ⟨x, _, rfl⟩ := List.mem_map.1 hr; exact hk x
  refine ⟨flatten_len hR, .inr ?_⟩
  rcases h.1.2 with ⟨e0, _⟩ | ⟨g', cap', cur, e0, hb, hg, hn, hm, hs, ht⟩
  · cases e0
  · injection e0 with e1 e2 e3
    injection e1 with e1
    injection e1 with e1
    subst e1; subst e3; subst e2
    have hlt := obj_lt hg
    have hdk : (flatK enc k d).size ≤ cur.size := by
      rw [size_flatK, hd, hs]
      exact Nat.mul_le_mul_right k (by simpa using hn)
    refine ⟨g, cap, putCells id 0 (flatK enc k d) cur, by simp [hd], hb, ?_, by simpa [hd] using hn, hm, by simpa [putCells] using hs, ?_⟩
    · unfold sortWorldK putRowK
      rw [heap_grow_old _ _ (by simpa [putRow, mapBlock, Sort.ahead] using hlt)]
      simp [putRow, mapBlock, Sort.ahead, Array.getElem?_modify, hg, onCells]
    · have := take_put (flatK enc k d) cur hdk
      rw [flatK_list enc k hk] at this
      rw [← this]
      simp
end Go.Vi
namespace Go.Proofs.Ythkhgfdjdpfoiaa
open Go Go.RowKit Go.Vi Go.Sort
def hpLt (a b : Hp) : Prop := a.dst < b.dst ∨ (a.dst = b.dst ∧ (a.len < b.len ∨ (a.len = b.len ∧ a.road < b.road)))
theorem ltOf_hp (a b : Hp) : ltOf hpCmp a b = true ↔ hpLt a b := by
  have e : ∀ x y : Int, cmpI x y = 0 ∧ x = y ∨ cmpI x y = -1 ∧ x < y ∨ cmpI x y = 1 ∧ y < x := by
    intro x y
    unfold cmpI
    split
    · right; left; exact ⟨rfl, by assumption⟩
    · split
      · right; right; exact ⟨rfl, by assumption⟩
      · left; exact ⟨rfl, by omega⟩
  unfold ltOf hpCmp hpLt
  rcases e a.dst b.dst with ⟨h, h'⟩ | ⟨h, h'⟩ | ⟨h, h'⟩ <;> rcases e a.len b.len with ⟨h2, h2'⟩ | ⟨h2, h2'⟩ | ⟨h2, h2'⟩ <;> rcases e a.road b.road with ⟨h3, h3'⟩ | ⟨h3, h3'⟩ | ⟨h3, h3'⟩ <;> rw [h, h2, h3] <;>
    simp [orI] <;> omega
theorem ltOf_hp_false (a b : Hp) : ltOf hpCmp a b = false ↔ ¬hpLt a b := by rw [← ltOf_hp]; simp
theorem swoHp : SWO (ltOf hpCmp) where
  irrefl x := by rw [ltOf_hp_false]; unfold hpLt; omega
  trans x y z h1 h2 := by rw [ltOf_hp] at *; unfold hpLt at *; omega
  ntrans x y z h1 h2 := by rw [ltOf_hp_false] at *; unfold hpLt at *; omega
theorem aggHop (w : World) : (isAgg 162).run Try.prog w = .ok true w := by kernel_rfl
theorem sizeHop (w : World) : (Go.sizeOf 162).run Try.prog w = .ok 3 w := by kernel_rfl
theorem hpLays (blk off size : Nat) (w : World) : CmpLays Try.prog 70 #[] Hp.cs 3 hpCmp blk off size w :=
  fun _ _ _ _ x y => hops1_any x y _
/-- SortFunc at hops that the call owns: the same row, a permutation, ascending. -/
theorem sortHops_any (L : List Hp) {B e m g cap : Nat} (w : World) (h : Ow B w e 3 (.slice (some ⟨g, 0, none⟩) m cap) (L.map Hp.cs)) (hL : L.length < 4611686018427387904) :
    Calls Try.prog 69 #[.slice (some ⟨g, 0, none⟩) m cap, .func (.func 70) #[] #[]] w fun e' w' => e' = .returned (.tuple #[]) ∧ ∃ L' : List Hp, L'.Perm L ∧ L'.Pairwise (fun a b => ¬hpLt b a) ∧ Ow B w' e 3 (.slice (some ⟨g, 0, none⟩) m cap) (L'.map Hp.cs) ∧ w.grownBy w' (some g) := by
  have hm : m = L.length := by
    rcases h.shape with ⟨h1, _⟩ | ⟨g', cap', h1, _⟩
    · cases h1
    · injection h1 with _ h2 _; simpa using h2
  subst hm
  have eg : ∀ args w, (callFunc 70 args).run Try.prog w = .ok (.enter 70 args) w := enters_of Try.func70 (by kernel_rfl) rfl
  have hcon := AnyQ.slices_SortFunc Try.sortHop 3 aggHop sizeHop Hp.cs (fun _ => rfl) (fun x v hv => by simp [Hp.cs] at hv; rcases hv with rfl | rfl | rfl <;> rfl) hpCmp swoHp 70 #[] g 0 cap L.toArray w eg (hpLays g 0 L.toArray.size w) (holdsK_of (enc := Hp.cs) (k := 3) (fun _ => rfl) h) (h.blk g rfl).2 (by simpa using hL)
  rw [List.size_toArray] at hcon
  change Calls Try.prog 69 _ _ _ at hcon
  refine hcon.mono ?_
  rintro e' w' ⟨rfl, d', n, os, hp, hs, rfl⟩
  have hsz : d'.size = L.length := by simpa using hp.1
  refine ⟨rfl, d'.toList, ?_, ?_, h.sorted (enc := Hp.cs) (k := 3) (fun _ => rfl) n d' os hsz, grownBy_sortK _ _ _ _ _ _ _⟩
  · have := hp.2.2
    rw [show d'.extract 0 L.length = d' from by rw [← hsz]; simp] at this
    simpa using this
  · rw [List.pairwise_iff_getElem]
    intro i j hi hj hij
    have := hs i j (Nat.zero_le _) hij (by simpa [hsz] using hj)
    rw [ltOf_hp_false] at this
    simp at hi hj
    simpa [hi, hj] using this
end Go.Proofs.Ythkhgfdjdpfoiaa
