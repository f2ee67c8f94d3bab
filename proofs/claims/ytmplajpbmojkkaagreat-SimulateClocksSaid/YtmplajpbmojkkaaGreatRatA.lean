/-
  rational.FromInt of an int, network.At, the legs of the model: what they return has the right cells; nothing more is said of it.
  What a network is that its check accepts.
  The model's hops and legs as data.
  network.At and the model's legs: the right cells, nothing more.
  shortest.has, FindRoute's closure, slices.IndexFunc over it.
  shortest.FindRoute, walked: the route, if there is one.
-/
import Derived.Test.YtmplajpbmojkkaaGreatIntLay
import Derived.Test.YtmplajpbmojkkaaGreatNetA
import Derived.Test.YtmplajpbmojkkaaGreatSortLay
import Derived.Laws.BytesArg
import Derived.Test.YtmplajpbmojkkaaGreatQueA
import Derived.Test.YtmplajpbmojkkaaGreatLens
set_option linter.unusedSimpArgs false
set_option linter.unusedVariables false
namespace Go.Proofs.YtmplajpbmojkkaaGreat
open Go Go.RowKit Go.Vi
theorem bitLen_le (x : Nat) : Lib.bitLen x ≤ 64 := by
  have h : ∀ f x, Lib.bitLenAux f x ≤ f := by
    intro f
    induction f with
    | zero => intro x; simp [Lib.bitLenAux]
    | succ f ih =>
      intro x
      unfold Lib.bitLenAux
      split
      · omega
      · have := ih (x / 2); omega
  exact h 64 x
set_option maxRecDepth 100000 in
set_option maxHeartbeats 1000000 in
theorem magnitude_any (u : Int) (w : World) (h0 : 0 ≤ u) (h1 : u ≤ 18446744073709551615) :
    Calls Tryz.prog 98 #[.int .u64 u] w fun e w' => (∃ s, e = .returned (.string s)) ∧ Below w.heap.size w w' := by
  by_cases hu : u = 0
  · subst hu
    go_enter Tryz.func98, Tryz.ntmps98
    go_wp2
    go_ret
    exact ⟨⟨_, rfl⟩, Below.refl _ _⟩
  · have hu' : (u == 0) = false := by simpa using hu
    have hL := bitLen_le u.toNat
    obtain ⟨L, hLL⟩ : ∃ L, L = Lib.bitLen u.toNat := ⟨_, rfl⟩
    rw [← hLL] at hL
    obtain ⟨m, hm⟩ : ∃ m : Nat, m = (L + 7) / 8 := ⟨_, rfl⟩
    have hm8 : m ≤ 8 := by omega
    have hmt : Int.tdiv ((L : Int) + 7) 8 = (m : Int) := by
      rw [Int.tdiv_eq_ediv_of_nonneg (by omega)]; omega
    have HLL := Lib.hid hLL
    have HM := Lib.hid hm
    clear hLL hm
    go_enter Tryz.func98, Tryz.ntmps98
    go_wp2_with (go_at_call 108; refine (Any.bits_Len64 { Tryz.bitsLen with } u _ h0 h1).mono ?_; rintro e w1 ⟨rfl, rfl⟩; rw [← HLL.out])
    go_loopw [13] (fun s13 wr => ∃ (k : Nat) (xs : List Int), s13 = .int .i64 k ∧ k ≤ m ∧ xs.length = 8 ∧ Hid (wr.heap[w1.heap.size]? = some (.cells (xs.map fun x => .int .u8 x).toArray 233 (0, 0))) ∧ Hid (Below w1.heap.size w1 wr)) (fun s13 _ => m - (intOf s13).toNat)
    case atStart =>
      exact ⟨0, List.replicate 8 0, rfl, Nat.zero_le _, rfl, obj_last _ _, by show Below _ _ _; (repeat (first | with_reducible exact Below.refl _ _ | with_reducible assumption | ((with_reducible refine Below.setCell ?_ ?_ _); rotate_left; focus (first | exact Nat.le_refl _ | omega | exact Below.size (by assumption) | (simp; done) | (simp; omega))) | ((with_reducible refine Below.alloc ?_ ?_ _); rotate_left; focus (first | exact Nat.le_refl _ | omega | exact Below.size (by assumption) | (simp; done) | (simp; omega))) | (with_reducible refine Below.drew ?_) | (with_reducible refine drewN_ ?_ _)))⟩
    case round =>
      obtain ⟨k, xs, rfl, hk, hx, hO, hB⟩ := hrel
      by_cases hlt : k < m
      · obtain ⟨j, hj⟩ : ∃ j, j + k + 1 = m := ⟨m - 1 - k, by omega⟩
        have hj1 : (m : Int) - 1 - (k : Int) = (j : Int) := by omega
        have hj2 : IntKind.i64.wrap (j : Int) = (j : Int) := IntWalk.i64_in _ (by omega)
        have hj3 : j < 8 := by omega
        have hj4 : (j : Int) < 8 := by omega
        have hjx : j < xs.length := by omega
        have c0 := obj_cell hO.out j
        have f0 := obj_free hO.out j
        rw [List.getElem?_toArray, List.getElem?_map, List.getElem?_eq_getElem hjx, Option.map_some] at c0
        have HJ := Lib.hid hj
        clear hj
        go_wp2_with fail
        go_roundw
        case rel =>
          refine ⟨k + 1, xs.set j (u / 2 ^ (8 * k) % 256), by go_num, by have := HJ.out; omega, by simpa using hx, ?_, hB.out.setCell (Nat.le_refl _) _⟩
          have q := obj_set (off := j) (v := .int .u8 (u / 2 ^ (8 * k) % 256)) hO.out
          show _ = _
          rw [q, List.map_set]
          simp
        case measure => have := HJ.out; simp [intOf]; omega
      · obtain rfl : k = m := by omega
        have hcv0 := run_convert_bytes_arg (P := Tryz.prog) wr 234 5 (by kernel_rfl) (by kernel_rfl) w1.heap.size 0 k 8 (xs.take k) (by simp; omega) (fun i hi => by
          have hix : i < xs.length := by omega
          have c0 := obj_cell hO.out (0 + i)
          rw [Nat.zero_add] at c0 ⊢
          rw [List.getElem?_toArray, List.getElem?_map, List.getElem?_eq_getElem hix, Option.map_some] at c0
          rw [c0, List.getD, List.getElem?_take_of_lt hi, List.getElem?_eq_getElem hix]; rfl) 9 (by kernel_rfl)
        obtain ⟨str, hstr⟩ : ∃ s, s = strOfNums (xs.take k) := ⟨_, rfl⟩
        rw [← hstr] at hcv0
        have HSTR := Lib.hid hstr
        have HX := Lib.hid hx
        clear hstr hx hlt
        have hk0 : (0 : Int) ≤ (k : Int) := by omega
        have hk8 : (k : Int) ≤ 8 := by omega
        go_wp2_with fail
        go_ret
        exact ⟨⟨_, rfl⟩, hB.out⟩
structure RatD where (b : Bool) (s : ByteArray) (c : Bool) (t : ByteArray)
structure LegD where (f t : RatD) (road : Int) (a z : RatD)
abbrev RatD.v (r : RatD) : Value := .agg #[.bool r.b, .string r.s, .bool r.c, .string r.t]
abbrev LegD.v (r : LegD) : Value := .agg #[.bool r.f.b, .string r.f.s, .bool r.f.c, .string r.f.t, .bool r.t.b, .string r.t.s, .bool r.t.c, .string r.t.t, .int .i64 r.road, .bool r.a.b, .string r.a.s, .bool r.a.c, .string r.a.t, .bool r.z.b, .string r.z.s, .bool r.z.c, .string r.z.t]
def LegD.cs (r : LegD) : List Value := [.bool r.f.b, .string r.f.s, .bool r.f.c, .string r.f.t, .bool r.t.b, .string r.t.s, .bool r.t.c, .string r.t.t, .int .i64 r.road, .bool r.a.b, .string r.a.s, .bool r.a.c, .string r.a.t, .bool r.z.b, .string r.z.s, .bool r.z.c, .string r.z.t]
theorem made_any (n : Bool) (s : ByteArray) (w : World) : Calls Tryz.prog 97 #[.bool n, .string s] w fun e w' => (∃ b, e = .returned (.agg #[.bool b, .string s])) ∧ Below w.heap.size w w' := by
  cases n with
  | true =>
    go_enter Tryz.func97, Tryz.ntmps97
    go_wp2_with fail
    refine bodyPost_ret (v := .agg #[.bool (!s.toList.isEmpty), .string s]) (by simp [results, Tryz.results97, go_sem]) rfl ⟨⟨_, rfl⟩, (by (repeat (first | with_reducible exact Below.refl _ _ | with_reducible assumption | ((with_reducible refine Below.setCell ?_ ?_ _); rotate_left; focus (first | exact Nat.le_refl _ | omega | exact Below.size (by assumption) | (simp; done) | (simp; omega))) | ((with_reducible refine Below.alloc ?_ ?_ _); rotate_left; focus (first | exact Nat.le_refl _ | omega | exact Below.size (by assumption) | (simp; done) | (simp; omega))) | (with_reducible refine Below.drew ?_) | (with_reducible refine drewN_ ?_ _))))⟩
  | false =>
    go_enter Tryz.func97, Tryz.ntmps97
    go_wp2_with fail
    refine bodyPost_ret (v := .agg #[.bool false, .string s]) (by simp [results, Tryz.results97, go_sem]) rfl ⟨⟨_, rfl⟩, (by (repeat (first | with_reducible exact Below.refl _ _ | with_reducible assumption | ((with_reducible refine Below.setCell ?_ ?_ _); rotate_left; focus (first | exact Nat.le_refl _ | omega | exact Below.size (by assumption) | (simp; done) | (simp; omega))) | ((with_reducible refine Below.alloc ?_ ?_ _); rotate_left; focus (first | exact Nat.le_refl _ | omega | exact Below.size (by assumption) | (simp; done) | (simp; omega))) | (with_reducible refine Below.drew ?_) | (with_reducible refine drewN_ ?_ _))))⟩
theorem intFrom_any (n : Int) (w : World) (h0 : 0 ≤ n) (h1 : n ≤ 4611686018427387904) : Calls Tryz.prog 83 #[.int .i64 n] w fun e w' => (∃ b s, e = .returned (.agg #[.bool b, .string s])) ∧ Below w.heap.size w w' := by
  have hu : IntKind.u64.wrap n = n := IntWalk.u64_in _ (by omega)
  have hn : ¬n < 0 := by omega
  go_enter Tryz.func83, Tryz.ntmps83
  go_wp2_with (first | (go_at_call 98; refine (magnitude_any n _ h0 (by omega)).mono ?_; rintro e w1 ⟨⟨s, rfl⟩, hb1⟩; have hB1 := from_ (w := w) hb1 (by (repeat (first | with_reducible exact Below.refl _ _ | with_reducible assumption | ((with_reducible refine Below.setCell ?_ ?_ _); rotate_left; focus (first | exact Nat.le_refl _ | omega | exact Below.size (by assumption) | (simp; done) | (simp; omega))) | ((with_reducible refine Below.alloc ?_ ?_ _); rotate_left; focus (first | exact Nat.le_refl _ | omega | exact Below.size (by assumption) | (simp; done) | (simp; omega))) | (with_reducible refine Below.drew ?_) | (with_reducible refine drewN_ ?_ _)))); have HB1 := Lib.hid hB1; have hz1 := hb1.size; simp at hz1; obtain ⟨hc1, hf1⟩ := bcell hb1; clear hB1 hb1) | (go_at_call 97; refine (made_any _ _ _).mono ?_; rintro e w2 ⟨⟨b, rfl⟩, hb2⟩; have hB2 := from_ (w := w) hb2 HB1.out; have HB2 := Lib.hid hB2; have hz2 := hb2.size; have z2 : w.heap.size < w2.heap.size := (by omega); have z1 : w.heap.size < w1.heap.size := (by omega); obtain ⟨hc2, hf2⟩ := bcell hb2; clear hB2 hb2))
  refine bodyPost_ret (v := .agg #[.bool b, .string s]) (by simp [results, Tryz.results83, go_sem, hc1, hf1, hc2, hf2, z1, z2]) rfl ⟨⟨_, _, rfl⟩, ?_⟩
  have hB := HB2.out
  (repeat (first | with_reducible exact Below.refl _ _ | with_reducible assumption | ((with_reducible refine Below.setCell ?_ ?_ _); rotate_left; focus (first | exact Nat.le_refl _ | omega | exact Below.size (by assumption) | (simp; done) | (simp; omega))) | ((with_reducible refine Below.alloc ?_ ?_ _); rotate_left; focus (first | exact Nat.le_refl _ | omega | exact Below.size (by assumption) | (simp; done) | (simp; omega))) | (with_reducible refine Below.drew ?_) | (with_reducible refine drewN_ ?_ _)))
theorem ratInt_any (n : Int) (w : World) (h0 : 0 ≤ n) (h1 : n ≤ 4611686018427387904) : Calls Tryz.prog 69 #[.int .i64 n] w fun e w' => (∃ r : RatD, e = .returned r.v) ∧ Below w.heap.size w w' := by
  go_enter Tryz.func69, Tryz.ntmps69
  go_wp2_with (go_at_call 83; refine (intFrom_any n _ h0 h1).mono ?_; rintro e w1 ⟨⟨b, s, rfl⟩, hb1⟩; have hB1 := from_ (w := w) hb1 (by (repeat (first | with_reducible exact Below.refl _ _ | with_reducible assumption | ((with_reducible refine Below.setCell ?_ ?_ _); rotate_left; focus (first | exact Nat.le_refl _ | omega | exact Below.size (by assumption) | (simp; done) | (simp; omega))) | ((with_reducible refine Below.alloc ?_ ?_ _); rotate_left; focus (first | exact Nat.le_refl _ | omega | exact Below.size (by assumption) | (simp; done) | (simp; omega))) | (with_reducible refine Below.drew ?_) | (with_reducible refine drewN_ ?_ _)))); have HB1 := Lib.hid hB1; have hz1 := hb1.size; simp at hz1; obtain ⟨hc1, hf1⟩ := bcell hb1; clear hB1 hb1)
  refine bodyPost_ret (v := (⟨b, s, false, ⟨#[]⟩⟩ : RatD).v) (by simp [results, Tryz.results69, go_sem, hc1, hf1, hz1]) rfl ⟨⟨_, rfl⟩, ?_⟩
  have hB := HB1.out
  (repeat (first | with_reducible exact Below.refl _ _ | with_reducible assumption | ((with_reducible refine Below.setCell ?_ ?_ _); rotate_left; focus (first | exact Nat.le_refl _ | omega | exact Below.size (by assumption) | (simp; done) | (simp; omega))) | ((with_reducible refine Below.alloc ?_ ?_ _); rotate_left; focus (first | exact Nat.le_refl _ | omega | exact Below.size (by assumption) | (simp; done) | (simp; omega))) | (with_reducible refine Below.drew ?_) | (with_reducible refine drewN_ ?_ _)))
theorem roff_any (r : Rd) (x : Int) (w : World) (h0 : 0 ≤ r.len) (h1 : r.len ≤ 4611686018427387904) : Calls Tryz.prog 70 #[r.v, .int .i64 x] w fun e w' => (∃ r : RatD, e = .returned r.v) ∧ Below w.heap.size w w' := by
  by_cases hx : r.src = x
  · have hx' : (r.src == x) = true := by simpa using hx
    clear hx
    go_enter Tryz.func70, Tryz.ntmps70
    go_wp2_with fail
    refine bodyPost_ret (v := (⟨false, ⟨#[]⟩, false, ⟨#[]⟩⟩ : RatD).v) (by simp [results, Tryz.results70, go_sem]) rfl ⟨⟨_, rfl⟩, (by (repeat (first | with_reducible exact Below.refl _ _ | with_reducible assumption | ((with_reducible refine Below.setCell ?_ ?_ _); rotate_left; focus (first | exact Nat.le_refl _ | omega | exact Below.size (by assumption) | (simp; done) | (simp; omega))) | ((with_reducible refine Below.alloc ?_ ?_ _); rotate_left; focus (first | exact Nat.le_refl _ | omega | exact Below.size (by assumption) | (simp; done) | (simp; omega))) | (with_reducible refine Below.drew ?_) | (with_reducible refine drewN_ ?_ _))))⟩
  · have hx' : (r.src == x) = false := by simpa using hx
    go_enter Tryz.func70, Tryz.ntmps70
    go_wp2_with (go_at_call 69; refine (ratInt_any r.len _ h0 h1).mono ?_; rintro e w1 ⟨⟨b, rfl⟩, hb1⟩; have hB1 := from_ (w := w) hb1 (by (repeat (first | with_reducible exact Below.refl _ _ | with_reducible assumption | ((with_reducible refine Below.setCell ?_ ?_ _); rotate_left; focus (first | exact Nat.le_refl _ | omega | exact Below.size (by assumption) | (simp; done) | (simp; omega))) | ((with_reducible refine Below.alloc ?_ ?_ _); rotate_left; focus (first | exact Nat.le_refl _ | omega | exact Below.size (by assumption) | (simp; done) | (simp; omega))) | (with_reducible refine Below.drew ?_) | (with_reducible refine drewN_ ?_ _)))); have HB1 := Lib.hid hB1; have hz1 := hb1.size; simp at hz1; have z1 : w.heap.size + 1 < w1.heap.size := (by omega); obtain ⟨hc1, hf1⟩ := bcell hb1; clear hB1 hb1)
    refine bodyPost_ret (v := b.v) (by simp [results, Tryz.results70, go_sem, hc1, hf1, z1]) rfl ⟨⟨_, rfl⟩, ?_⟩
    have hB := HB1.out
    (repeat (first | with_reducible exact Below.refl _ _ | with_reducible assumption | ((with_reducible refine Below.setCell ?_ ?_ _); rotate_left; focus (first | exact Nat.le_refl _ | omega | exact Below.size (by assumption) | (simp; done) | (simp; omega))) | ((with_reducible refine Below.alloc ?_ ?_ _); rotate_left; focus (first | exact Nat.le_refl _ | omega | exact Below.size (by assumption) | (simp; done) | (simp; omega))) | (with_reducible refine Below.drew ?_) | (with_reducible refine drewN_ ?_ _)))
end Go.Proofs.YtmplajpbmojkkaaGreat
namespace Go.Proofs.YtmplajpbmojkkaaGreat
open Go Go.Vi
theorem roadErr_zero {q : List Nd} {r : Rd} (h : roadErr q r = 0) : (1 ≤ r.lim ∧ r.lim ≤ 1048576) ∧ (1 ≤ r.len ∧ r.len ≤ 1073741824) ∧ ((nodeOf q r.src).isSome = true ∧ (nodeOf q r.dst).isSome = true) ∧ r.src ≠ r.dst := by
  unfold roadErr at h
  split at h
  · simp at h
  · rename_i h1
    split at h
    · simp at h
    · rename_i h2
      split at h
      · simp at h
      · rename_i h3
        refine ⟨by omega, by omega, ?_, h2⟩
        constructor
        · cases hs : (nodeOf q r.src).isSome with
          | true => rfl
          | false => exact absurd (.inl hs) h1
        · cases hs : (nodeOf q r.dst).isSome with
          | true => rfl
          | false => exact absurd (.inr hs) h1
theorem roadsErr_ok {q : List Nd} : ∀ (l : List Rd) (b : Int), roadsErr q l b = 0 → (∀ i j, i < j → j < l.length → l[i]!.id < l[j]!.id) ∧ (∀ x ∈ l, b < x.id ∧ 1 ≤ x.id ∧ x.id ≤ 1073741824 ∧ roadErr q x = 0)
  | [], _, _ => ⟨fun i j _ h => by simp at h, fun x h => by cases h⟩
  | x :: r, b, h => by
    unfold roadsErr at h
    split at h
    · rename_i h1; exact absurd h h1
    · rename_i h1
      split at h
      · rename_i h2; exact absurd h h2
      · rename_i h2
        obtain ⟨g1, g2, g3⟩ := idErr_zero (Classical.not_not.1 h1)
        obtain ⟨k1, k2⟩ := roadsErr_ok r x.id h
        have hn : roadErr q x = 0 := Classical.not_not.1 h2
        refine ⟨fun i j hij hj => ?_, fun y hy => ?_⟩
        · cases j with
          | zero => omega
          | succ j =>
            have hj' : j < r.length := by simpa using hj
            cases i with
            | zero =>
              have := (k2 r[j] (List.getElem_mem hj')).1
              show x.id < (r[j]!).id
              rw [getElem!_pos r j hj']; exact this
            | succ i => exact k1 i j (by omega) hj'
        · rcases List.mem_cons.1 hy with rfl | hy
          · exact ⟨g3, g1, g2, hn⟩
          · have := k2 y hy; exact ⟨by omega, this.2⟩
structure NetOK (n : Net) : Prop where
  nodes : SrtN n.nodes
  roads : SrtR n.roads
  few : n.nodes.length ≤ 256 ∧ n.roads.length ≤ 1024
  road : ∀ x ∈ n.roads, 1 ≤ x.id ∧ roadErr n.nodes x = 0
theorem netOK_of {n : Net} (h : netErr n = 0) : NetOK n := by
  unfold netErr at h
  split at h
  · simp at h
  · rename_i h1
    split at h
    · rename_i h2; exact absurd h h2
    · rename_i h2
      have h3 := nodesErr_ok _ _ (Classical.not_not.1 h2)
      have h4 := roadsErr_ok _ _ h
      exact ⟨h3.1, h4.1, ⟨by omega, by omega⟩, fun x hx => ⟨(h4.2 x hx).2.1, (h4.2 x hx).2.2.2⟩⟩
theorem NetOK.len {n : Net} (h : NetOK n) : ∀ x ∈ n.roads, 1 ≤ x.len ∧ x.len ≤ 1073741824 := fun x hx => (roadErr_zero (h.road x hx).2).2.1
/-- A hop is a road's. -/
theorem hop_road {n : Net} {A : Int → List Hp} (hA : ∀ k, Fin (hopsG n.roads k) (A k)) {u : Int} {h : Hp} (hh : h ∈ A u) : ∃ r ∈ n.roads, h.road = r.id ∧ h.len = r.len ∧ ((u = r.src ∧ h.dst = r.dst) ∨ (u = r.dst ∧ h.dst = r.src)) := by
  obtain ⟨r, hr, h1 | h1⟩ := hopsG_mem n.roads u h ((fin_mem (hA u)).1 h hh)
  · obtain ⟨rfl, rfl⟩ := h1
    exact ⟨r, hr, rfl, rfl, .inl ⟨rfl, rfl⟩⟩
  · obtain ⟨_, rfl, rfl⟩ := h1
    exact ⟨r, hr, rfl, rfl, .inr ⟨rfl, rfl⟩⟩
theorem NetOK.hop {n : Net} (h : NetOK n) {A : Int → List Hp} (hA : ∀ k, Fin (hopsG n.roads k) (A k)) : ∀ u, ∀ x ∈ A u, 1 ≤ x.len ∧ x.len ≤ 1073741824 := fun u x hx => by
  obtain ⟨r, hr, _, e, _⟩ := hop_road hA hx
  rw [e]; exact h.len r hr
theorem roadOf_mem {l : List Rd} (hs : SrtR l) {r : Rd} (hr : r ∈ l) : roadOf l r.id = some r := by
  obtain ⟨i, hi, rfl⟩ := List.getElem_of_mem hr
  unfold roadOf
  rw [List.find?_eq_some_iff_getElem]
  refine ⟨by simp, i, hi, rfl, fun j hj => ?_⟩
  have := hs j i hj hi
  rw [getElem!_pos l i hi, getElem!_pos l j (by omega)] at this
  simp; omega
end Go.Proofs.YtmplajpbmojkkaaGreat
namespace Go.Proofs.YtmplajpbmojkkaaGreat
open Go Go.RowKit Go.Vi
structure Hpm where (road src dst time : Int)
instance : Inhabited Hpm := ⟨⟨0, 0, 0, 0⟩⟩
def Hpm.cs (h : Hpm) : List Value := [.int .i64 h.road, .int .i64 h.src, .int .i64 h.dst, .int .i64 h.time]
abbrev Hpm.v (h : Hpm) : Value := .agg #[.int .i64 h.road, .int .i64 h.src, .int .i64 h.dst, .int .i64 h.time]
def rat0 : RatD := ⟨false, ⟨#[]⟩, false, ⟨#[]⟩⟩
def leg0 : LegD := ⟨rat0, rat0, 0, rat0, rat0⟩
theorem rd_len {n : Net} (hK : NetOK n) (id : Int) : 0 ≤ ((roadOf n.roads id).getD rd0).len ∧ ((roadOf n.roads id).getD rd0).len ≤ 1073741824 := by
  unfold roadOf
  cases hf : n.roads.find? fun x => x.id == id with
  | none => simp [rd0]
  | some x =>
    have := hK.len x (List.mem_of_find?_eq_some hf)
    simp only [Option.getD_some]; omega
end Go.Proofs.YtmplajpbmojkkaaGreat
namespace Go.Proofs.YtmplajpbmojkkaaGreat
open Go Go.RowKit Go.Vi
structure PlcD where (road : Int) (q : RatD)
abbrev PlcD.v (p : PlcD) : Value := .agg #[.int .i64 p.road, .bool p.q.b, .string p.q.s, .bool p.q.c, .string p.q.t]
def plc0 : PlcD := ⟨0, false, ⟨#[]⟩, false, ⟨#[]⟩⟩
set_option maxRecDepth 100000 in
set_option maxHeartbeats 2000000 in
theorem at_any (n : Net) (v1 v2 : Value) (x : Int) (w : World) (hN : NetAt w.heap.size w v1 v2 n) (hK : NetOK n) :
    Calls Tryz.prog 55 #[.agg #[v1, v2], .int .i64 x] w fun e w' => (∃ (p : PlcD) (c : Int), e = .returned (.tuple #[p.v, .int .i64 c])) ∧ Below w.heap.size w w' := by
  obtain ⟨a2, n2, c2, rfl, hn, hn1, hn2⟩ := hN.2.open
  rw [List.length_map] at hn
  have hn3 : n2 ≤ 1024 := by rw [← hn]; exact hK.few.2
  have HN := Lib.hid hN
  have HK := Lib.hid hK
  have HL := Lib.hid hn
  clear hN hK hn hn2
  cases hA : (nodeOf n.nodes x).isSome with
  | false =>
    have HA := Lib.hid hA
    clear hA
    go_enter Tryz.func55, Tryz.ntmps55
    go_wp2_with (go_at_call 47; refine (node_any n v1 _ x _ (HN.out.later (by (repeat (first | with_reducible exact Below.refl _ _ | with_reducible assumption | ((with_reducible refine Below.setCell ?_ ?_ _); rotate_left; focus (first | exact Nat.le_refl _ | omega | exact Below.size (by assumption) | (simp; done) | (simp; omega))) | ((with_reducible refine Below.alloc ?_ ?_ _); rotate_left; focus (first | exact Nat.le_refl _ | omega | exact Below.size (by assumption) | (simp; done) | (simp; omega))) | (with_reducible refine Below.drew ?_) | (with_reducible refine drewN_ ?_ _))))) HK.out.nodes (by have := HK.out.few; omega)).mono ?_; rintro e w1 ⟨rfl, hb1⟩; rw [HA.out]; have hB1 := from_ (w := w) hb1 (by (repeat (first | with_reducible exact Below.refl _ _ | with_reducible assumption | ((with_reducible refine Below.setCell ?_ ?_ _); rotate_left; focus (first | exact Nat.le_refl _ | omega | exact Below.size (by assumption) | (simp; done) | (simp; omega))) | ((with_reducible refine Below.alloc ?_ ?_ _); rotate_left; focus (first | exact Nat.le_refl _ | omega | exact Below.size (by assumption) | (simp; done) | (simp; omega))) | (with_reducible refine Below.drew ?_) | (with_reducible refine drewN_ ?_ _)))); have HB1 := Lib.hid hB1; have q1 := keepObj hb1 (obj_last2 w (.cells #[v1, .slice a2 n2 c2] 35) (.cells #[.int .i64 0, .bool false, .string ⟨#[]⟩, .bool false, .string ⟨#[]⟩] 161)); have f0 := obj_cell q1 0; have f1 := obj_cell q1 1; have f2 := obj_cell q1 2; have f3 := obj_cell q1 3; have f4 := obj_cell q1 4; have g0 := obj_free q1 0; have g1 := obj_free q1 1; have g2 := obj_free q1 2; have g3 := obj_free q1 3; have g4 := obj_free q1 4; simp at f0 f1 f2 f3 f4; have z1 := obj_lt q1; clear hB1 hb1 q1)
    refine bodyPost_ret (v := .tuple #[plc0.v, .int .i64 9]) (by simp [results, Tryz.results55, go_sem, f0, f1, f2, f3, f4, g0, g1, g2, g3, g4, z1, plc0]) rfl ⟨⟨_, _, rfl⟩, ?_⟩
    have hB := HB1.out
    (repeat (first | with_reducible exact Below.refl _ _ | with_reducible assumption | ((with_reducible refine Below.setCell ?_ ?_ _); rotate_left; focus (first | exact Nat.le_refl _ | omega | exact Below.size (by assumption) | (simp; done) | (simp; omega))) | ((with_reducible refine Below.alloc ?_ ?_ _); rotate_left; focus (first | exact Nat.le_refl _ | omega | exact Below.size (by assumption) | (simp; done) | (simp; omega))) | (with_reducible refine Below.drew ?_) | (with_reducible refine drewN_ ?_ _)))
  | true =>
    have HA := Lib.hid hA
    clear hA
    go_enter Tryz.func55, Tryz.ntmps55
    go_wp2_with (go_at_call 47; refine (node_any n v1 _ x _ (HN.out.later (by (repeat (first | with_reducible exact Below.refl _ _ | with_reducible assumption | ((with_reducible refine Below.setCell ?_ ?_ _); rotate_left; focus (first | exact Nat.le_refl _ | omega | exact Below.size (by assumption) | (simp; done) | (simp; omega))) | ((with_reducible refine Below.alloc ?_ ?_ _); rotate_left; focus (first | exact Nat.le_refl _ | omega | exact Below.size (by assumption) | (simp; done) | (simp; omega))) | (with_reducible refine Below.drew ?_) | (with_reducible refine drewN_ ?_ _))))) HK.out.nodes (by have := HK.out.few; omega)).mono ?_; rintro e w1 ⟨rfl, hb1⟩; rw [HA.out]; have hB1 := from_ (w := w) hb1 (by (repeat (first | with_reducible exact Below.refl _ _ | with_reducible assumption | ((with_reducible refine Below.setCell ?_ ?_ _); rotate_left; focus (first | exact Nat.le_refl _ | omega | exact Below.size (by assumption) | (simp; done) | (simp; omega))) | ((with_reducible refine Below.alloc ?_ ?_ _); rotate_left; focus (first | exact Nat.le_refl _ | omega | exact Below.size (by assumption) | (simp; done) | (simp; omega))) | (with_reducible refine Below.drew ?_) | (with_reducible refine drewN_ ?_ _)))); have HB1 := Lib.hid hB1; have q1 := keepObj hb1 (obj_last2 w (.cells #[v1, .slice a2 n2 c2] 35) (.cells #[.int .i64 0, .bool false, .string ⟨#[]⟩, .bool false, .string ⟨#[]⟩] 161)); have p1 := keepObj hb1 (obj_old (obj_last w (.cells #[v1, .slice a2 n2 c2] 35))); have c10 := obj_cell p1 0; have c11 := obj_cell p1 1; simp at c10 c11; have z1 := obj_lt p1; have z2 := obj_lt q1; have Q1 := Lib.hid q1; clear hB1 hb1 q1 p1)
    go_loopw [22] (fun s22 wr => ∃ k : Nat, s22 = .int .i64 k ∧ k ≤ n2 ∧ Hid (Below w1.heap.size w1 wr)) (fun s22 _ => n2 - (intOf s22).toNat)
    case atStart => exact ⟨0, rfl, Nat.zero_le _, by show Below _ _ _; (repeat (first | with_reducible exact Below.refl _ _ | with_reducible assumption | ((with_reducible refine Below.setCell ?_ ?_ _); rotate_left; focus (first | exact Nat.le_refl _ | omega | exact Below.size (by assumption) | (simp; done) | (simp; omega))) | ((with_reducible refine Below.alloc ?_ ?_ _); rotate_left; focus (first | exact Nat.le_refl _ | omega | exact Below.size (by assumption) | (simp; done) | (simp; omega))) | (with_reducible refine Below.drew ?_) | (with_reducible refine drewN_ ?_ _)))⟩
    case round =>
      obtain ⟨k, rfl, hk, hB⟩ := hrel
      have hBw := HB1.out.trans (hB.out.mono HB1.out.size)
      have HBW := Lib.hid hBw
      clear hBw
      have q := keepObj hB.out Q1.out
      have f0 := obj_cell q 0
      have f1 := obj_cell q 1
      have f2 := obj_cell q 2
      have f3 := obj_cell q 3
      have f4 := obj_cell q 4
      have g0 := obj_free q 0
      have g1 := obj_free q 1
      have g2 := obj_free q 2
      have g3 := obj_free q 3
      have g4 := obj_free q 4
      simp at f0 f1 f2 f3 f4
      have z3 := obj_lt q
      have Q2 := Lib.hid q
      clear q
      by_cases hlt : k < n2
      · have hkl : k < n.roads.length := by rw [HL.out]; exact hlt
        obtain ⟨b, off, rfl, hb, d⟩ := rd_cells HN.out.2 k hkl
        obtain ⟨d0, d1, d2, d3, d4, d5⟩ := d k hkl
        rw [← HBW.out.cell (p := ⟨b, _, none⟩) hb] at d0 d1 d2 d3 d4 d5
        have hz := HBW.out.size
        have hbz : b < wr.heap.size := by omega
        have hmem : n.roads[k]! ∈ n.roads := by rw [getElem!_pos n.roads k hkl]; exact List.getElem_mem hkl
        have hlen := HK.out.len _ hmem
        generalize n.roads[k]! = r at d0 d1 d2 d3 d4 d5 hlen
        clear d hmem
        by_cases hx : r.src = x ∨ r.dst = x
        · have HO := Lib.hid (obj_last wr (.cells #[.int .i64 r.id, .int .i64 r.src, .int .i64 r.dst, .int .i64 r.len, .int .i64 r.lim, .bool r.one] 90))
          have hor : (r.src == x) = true ∨ (r.src == x) = false ∧ (r.dst == x) = true := by
            rcases hx with h | h
            · exact .inl (by simpa using h)
            · by_cases h2 : r.src = x
              · exact .inl (by simpa using h2)
              · exact .inr ⟨by simpa using h2, by simpa using h⟩
          clear hx
          rcases hor with h1 | ⟨h1, h2⟩
          all_goals
            go_wp2_with fail
            go_region_held3 (fun w' => w'.cell? ⟨wr.heap.size, 0, none⟩ = some (.int .i64 r.id) ∧ w'.cell? ⟨wr.heap.size, 1, none⟩ = some (.int .i64 r.src) ∧ w'.cell? ⟨wr.heap.size, 2, none⟩ = some (.int .i64 r.dst) ∧ w'.cell? ⟨wr.heap.size, 3, none⟩ = some (.int .i64 r.len) ∧ w'.cell? ⟨wr.heap.size, 4, none⟩ = some (.int .i64 r.lim) ∧ w'.cell? ⟨wr.heap.size, 5, none⟩ = some (.bool r.one))
              ((go_split_ands; refine ⟨?_, ?_, ?_, ?_, ?_, ?_⟩ <;> (rw [obj_cell (by repeat (first | with_reducible exact obj_last _ _ | with_reducible exact HO2.out | with_reducible exact HO.out | with_reducible refine obj_drew ?_ | with_reducible refine obj_drewN ?_ | with_reducible refine obj_old ?_ | ((with_reducible refine obj_setOther ?_ ?_); rotate_left; focus (first | omega | (simp; done) | (simp; omega)))))]; rfl)))
              ((go_at_call 70; refine (roff_any r x _ (by omega) (by omega)).mono ?_; rintro e w2 ⟨⟨y, rfl⟩, hb2⟩; have HO2 := Lib.hid (keepObj hb2 (b := wr.heap.size) (o := (.cells #[.int .i64 r.id, .int .i64 r.src, .int .i64 r.dst, .int .i64 r.len, .int .i64 r.lim, .bool r.one] 90)) (by repeat (first | with_reducible exact obj_last _ _ | with_reducible exact HO.out | with_reducible refine obj_drew ?_ | with_reducible refine obj_drewN ?_ | with_reducible refine obj_old ?_ | ((with_reducible refine obj_setOther ?_ ?_); rotate_left; focus (first | omega | (simp; done) | (simp; omega)))))); have hB2 := from_ (w := w) hb2 (by have h := HBW.out; (repeat (first | with_reducible exact Below.refl _ _ | with_reducible assumption | ((with_reducible refine Below.setCell ?_ ?_ _); rotate_left; focus (first | exact Nat.le_refl _ | omega | exact Below.size (by assumption) | (simp; done) | (simp; omega))) | ((with_reducible refine Below.alloc ?_ ?_ _); rotate_left; focus (first | exact Nat.le_refl _ | omega | exact Below.size (by assumption) | (simp; done) | (simp; omega))) | (with_reducible refine Below.drew ?_) | (with_reducible refine drewN_ ?_ _)))); have q := keepObj hb2 (b := w.heap.size + 1) (o := (.cells #[.int .i64 0, .bool false, .string ⟨#[]⟩, .bool false, .string ⟨#[]⟩] 161)) (by repeat (first | with_reducible exact obj_last _ _ | with_reducible exact Q2.out | with_reducible refine obj_drew ?_ | with_reducible refine obj_drewN ?_ | with_reducible refine obj_old ?_ | ((with_reducible refine obj_setOther ?_ ?_); rotate_left; focus (first | omega | (simp; done) | (simp; omega))))); have a0 := obj_cell q 0; have a1 := obj_cell q 1; have a2 := obj_cell q 2; have a3 := obj_cell q 3; have a4 := obj_cell q 4; have b0 := obj_free q 0; have b1 := obj_free q 1; have b2 := obj_free q 2; have b3 := obj_free q 3; have b4 := obj_free q 4; simp at a0 a1 a2 a3 a4; have zz := obj_lt q; clear hb2 q))
            all_goals
              go_wp2_with fail
              refine bodyPost_ret (v := .tuple #[(⟨r.id, y⟩ : PlcD).v, .int .i64 0]) (by simp [results, Tryz.results55, go_sem, a0, a1, a2, a3, a4, b0, b1, b2, b3, b4, zz]) rfl ⟨⟨_, _, rfl⟩, ?_⟩
              have h := hB2
              (repeat (first | with_reducible exact Below.refl _ _ | with_reducible assumption | ((with_reducible refine Below.setCell ?_ ?_ _); rotate_left; focus (first | exact Nat.le_refl _ | omega | exact Below.size (by assumption) | (simp; done) | (simp; omega))) | ((with_reducible refine Below.alloc ?_ ?_ _); rotate_left; focus (first | exact Nat.le_refl _ | omega | exact Below.size (by assumption) | (simp; done) | (simp; omega))) | (with_reducible refine Below.drew ?_) | (with_reducible refine drewN_ ?_ _)))
        · have h1 : (r.src == x) = false := by simpa using fun h => hx (.inl h)
          have h2 : (r.dst == x) = false := by simpa using fun h => hx (.inr h)
          clear hx
          go_wp2_with fail
          go_roundw
          case rel => exact ⟨k + 1, by go_num, by omega, by have h := hB.out; have hz1 := hB.out.size; show Below _ _ _; (repeat (first | with_reducible exact Below.refl _ _ | with_reducible assumption | ((with_reducible refine Below.setCell ?_ ?_ _); rotate_left; focus (first | exact Nat.le_refl _ | omega | exact Below.size (by assumption) | (simp; done) | (simp; omega))) | ((with_reducible refine Below.alloc ?_ ?_ _); rotate_left; focus (first | exact Nat.le_refl _ | omega | exact Below.size (by assumption) | (simp; done) | (simp; omega))) | (with_reducible refine Below.drew ?_) | (with_reducible refine drewN_ ?_ _)))⟩
          case measure => simp [intOf]; omega
      · obtain rfl : k = n2 := by omega
        go_wp2_with fail
        refine bodyPost_ret (v := .tuple #[plc0.v, .int .i64 12]) (by simp [results, Tryz.results55, go_sem, f0, f1, f2, f3, f4, g0, g1, g2, g3, g4, z3, plc0]) rfl ⟨⟨_, _, rfl⟩, ?_⟩
        have h := HBW.out
        (repeat (first | with_reducible exact Below.refl _ _ | with_reducible assumption | ((with_reducible refine Below.setCell ?_ ?_ _); rotate_left; focus (first | exact Nat.le_refl _ | omega | exact Below.size (by assumption) | (simp; done) | (simp; omega))) | ((with_reducible refine Below.alloc ?_ ?_ _); rotate_left; focus (first | exact Nat.le_refl _ | omega | exact Below.size (by assumption) | (simp; done) | (simp; omega))) | (with_reducible refine Below.drew ?_) | (with_reducible refine drewN_ ?_ _)))
end Go.Proofs.YtmplajpbmojkkaaGreat
namespace Go.Proofs.YtmplajpbmojkkaaGreat
open Go Go.RowKit Go.Vi
theorem has_any (n : Net) (v1 v2 : Value) (id : Int) (w : World) (hN : NetAt w.heap.size w v1 v2 n) (hs : SrtN n.nodes) (hsz : n.nodes.length ≤ 1000000) :
    Calls Tryz.prog 74 #[.agg #[v1, v2], .int .i64 id] w fun e w' => e = .returned (.bool (nodeOf n.nodes id).isSome) ∧ Below w.heap.size w w' := by
  have HN := Lib.hid hN
  have HS := Lib.hid hs
  clear hN hs
  go_enter Tryz.func74, Tryz.ntmps74
  go_wp2_with (go_at_call 47; refine (node_any n v1 v2 id _ (HN.out.later (by (repeat (first | with_reducible exact Below.refl _ _ | with_reducible assumption | ((with_reducible refine Below.setCell ?_ ?_ _); rotate_left; focus (first | exact Nat.le_refl _ | omega | exact Below.size (by assumption) | (simp; done) | (simp; omega))) | ((with_reducible refine Below.alloc ?_ ?_ _); rotate_left; focus (first | exact Nat.le_refl _ | omega | exact Below.size (by assumption) | (simp; done) | (simp; omega))) | (with_reducible refine Below.drew ?_) | (with_reducible refine drewN_ ?_ _))))) HS.out hsz).mono ?_; rintro e w1 ⟨rfl, hb1⟩; have hB1 := from_ (w := w) hb1 (by (repeat (first | with_reducible exact Below.refl _ _ | with_reducible assumption | ((with_reducible refine Below.setCell ?_ ?_ _); rotate_left; focus (first | exact Nat.le_refl _ | omega | exact Below.size (by assumption) | (simp; done) | (simp; omega))) | ((with_reducible refine Below.alloc ?_ ?_ _); rotate_left; focus (first | exact Nat.le_refl _ | omega | exact Below.size (by assumption) | (simp; done) | (simp; omega))) | (with_reducible refine Below.drew ?_) | (with_reducible refine drewN_ ?_ _)))); have HB1 := Lib.hid hB1; clear hB1 hb1)
  go_ret
  exact ⟨rfl, by have hB := HB1.out; (repeat (first | with_reducible exact Below.refl _ _ | with_reducible assumption | ((with_reducible refine Below.setCell ?_ ?_ _); rotate_left; focus (first | exact Nat.le_refl _ | omega | exact Below.size (by assumption) | (simp; done) | (simp; omega))) | ((with_reducible refine Below.alloc ?_ ?_ _); rotate_left; focus (first | exact Nat.le_refl _ | omega | exact Below.size (by assumption) | (simp; done) | (simp; omega))) | (with_reducible refine Below.drew ?_) | (with_reducible refine drewN_ ?_ _)))⟩
/-- Whether a hop keeps to the lengths left. -/
def keepB (D : List (Int × Int)) (a : Int) (h : Hp) : Bool := match Vi.look D h.dst with | some r => r + h.len == (Vi.look D a).getD 0 | none => false
theorem keep_any (h : Hp) (D : List (Int × Int)) (a : Int) (b bl ba : Nat) (w : World) (hl : w.heap[bl]? = some (.cells #[.map (some b)] 78 (0, 0))) (ha : w.heap[ba]? = some (.cells #[.int .i64 a] 3 (0, 0))) (hm : IMap w b (ivI D))
    (hlen : 0 ≤ h.len ∧ h.len ≤ 1073741824) (hD : ∀ r, Vi.look D h.dst = some r → 0 ≤ r ∧ r ≤ 1099511627776) :
    Calls Tryz.prog 79 #[h.v, .pointer (some ⟨bl, 0, none⟩), .pointer (some ⟨ba, 0, none⟩)] w fun e w' => e = .returned (.bool (keepB D a h)) ∧ Below w.heap.size w w' := by
  have hl0 := obj_cell hl 0
  have ha0 := obj_cell ha 0
  simp at hl0 ha0
  have hlz := obj_lt hl
  have haz := obj_lt ha
  have hm2 := hm.keep ((Below.refl w.heap.size w).alloc (Nat.le_refl _) (.cells #[.int .i64 h.dst, .int .i64 h.road, .int .i64 h.len] 193))
  have lk1 := hm2.lookup (P := Tryz.prog) uLens uInt (zInt _) h.dst true
  have lk2 := hm2.lookup (P := Tryz.prog) uLens uInt (zInt _) a false
  rw [look_ivI] at lk1 lk2
  clear hm hm2 hl ha
  cases hr : Vi.look D h.dst with
  | none =>
    have hK : Hid (keepB D a h = false) := by show keepB D a h = false; unfold keepB; rw [hr]
    rw [hr] at lk1
    have lk1' : (Instr.lookup 78 (.map (some b)) (.int .i64 h.dst) true).run Tryz.prog (w.alloc (.cells #[.int .i64 h.dst, .int .i64 h.road, .int .i64 h.len] 193)) = .ok (.tuple #[.int .i64 0, .bool false]) (w.alloc (.cells #[.int .i64 h.dst, .int .i64 h.road, .int .i64 h.len] 193)) := lk1
    clear lk1 lk2 hr hD
    go_enter Tryz.func79, Tryz.ntmps79
    go_wp2_with fail
    go_ret
    exact ⟨by rw [hK.out]; rfl, (by (repeat (first | with_reducible exact Below.refl _ _ | with_reducible assumption | ((with_reducible refine Below.setCell ?_ ?_ _); rotate_left; focus (first | exact Nat.le_refl _ | omega | exact Below.size (by assumption) | (simp; done) | (simp; omega))) | ((with_reducible refine Below.alloc ?_ ?_ _); rotate_left; focus (first | exact Nat.le_refl _ | omega | exact Below.size (by assumption) | (simp; done) | (simp; omega))) | (with_reducible refine Below.drew ?_) | (with_reducible refine drewN_ ?_ _))))⟩
  | some r =>
    have hrr := hD r hr
    obtain ⟨d, hd⟩ : ∃ d, d = (Vi.look D a).getD 0 := ⟨_, rfl⟩
    have hK : Hid (keepB D a h = (r + h.len == d)) := by show keepB D a h = _; unfold keepB; rw [hr, hd]
    rw [hr] at lk1
    have lk1' : (Instr.lookup 78 (.map (some b)) (.int .i64 h.dst) true).run Tryz.prog (w.alloc (.cells #[.int .i64 h.dst, .int .i64 h.road, .int .i64 h.len] 193)) = .ok (.tuple #[.int .i64 r, .bool true]) (w.alloc (.cells #[.int .i64 h.dst, .int .i64 h.road, .int .i64 h.len] 193)) := lk1
    have lk2' : (Instr.lookup 78 (.map (some b)) (.int .i64 a) false).run Tryz.prog (w.alloc (.cells #[.int .i64 h.dst, .int .i64 h.road, .int .i64 h.len] 193)) = .ok (.int .i64 d) (w.alloc (.cells #[.int .i64 h.dst, .int .i64 h.road, .int .i64 h.len] 193)) := by
      rw [lk2, hd]
      cases Vi.look D a <;> rfl
    clear lk1 lk2 hr hD hd
    go_enter Tryz.func79, Tryz.ntmps79
    go_wp2_with fail
    go_ret
    exact ⟨by rw [hK.out]; rfl, (by (repeat (first | with_reducible exact Below.refl _ _ | with_reducible assumption | ((with_reducible refine Below.setCell ?_ ?_ _); rotate_left; focus (first | exact Nat.le_refl _ | omega | exact Below.size (by assumption) | (simp; done) | (simp; omega))) | ((with_reducible refine Below.alloc ?_ ?_ _); rotate_left; focus (first | exact Nat.le_refl _ | omega | exact Below.size (by assumption) | (simp; done) | (simp; omega))) | (with_reducible refine Below.drew ?_) | (with_reducible refine drewN_ ?_ _))))⟩
set_option maxHeartbeats 1000000 in
theorem index_any (L : List Hp) (a : Option Addr) (n c : Nat) (D : List (Int × Int)) (x : Int) (b bl ba : Nat) (w : World) (hS : Sl w.heap.size w 3 (.slice a n c) (L.map Hp.cs)) (hsz : n ≤ 1000000)
    (hl : w.heap[bl]? = some (.cells #[.map (some b)] 78 (0, 0))) (ha : w.heap[ba]? = some (.cells #[.int .i64 x] 3 (0, 0))) (hm : IMap w b (ivI D)) (hlen : ∀ h ∈ L, 0 ≤ h.len ∧ h.len ≤ 1073741824) (hD : ∀ k r, Vi.look D k = some r → 0 ≤ r ∧ r ≤ 1099511627776) :
    Calls Tryz.prog 78 #[.slice a n c, .func (.func 79) #[] #[.pointer (some ⟨bl, 0, none⟩), .pointer (some ⟨ba, 0, none⟩)]] w fun e w' =>
      (∃ i : Int, e = .returned (.int .i64 i) ∧ ((i = -1 ∧ ∀ (j : Nat) (hj : j < L.length), keepB D x L[j] = false) ∨ ∃ (k : Nat) (hk : k < L.length), i = k ∧ keepB D x L[k] = true ∧ ∀ (j : Nat) (hj : j < k), keepB D x L[j] = false)) ∧ Below w.heap.size w w' := by
  have hn := hS.len
  rw [List.length_map] at hn
  have HS := Lib.hid hS
  have HN := Lib.hid hn
  have HL := Lib.hid hl
  have HA := Lib.hid ha
  have HM := Lib.hid hm
  have HE := Lib.hid hlen
  have HD := Lib.hid hD
  clear hS hn hl ha hm hlen hD
  go_enter Tryz.func78, Tryz.ntmps78
  go_wp2
  go_loopw [8] (fun s8 wr => ∃ k : Nat, s8 = .int .i64 k ∧ k ≤ n ∧ Hid (∀ (j : Nat) (hj : j < L.length), j < k → keepB D x L[j] = false) ∧ Hid (Below w.heap.size w wr)) (fun s8 _ => n - (intOf s8).toNat)
  case atStart => exact ⟨0, rfl, Nat.zero_le _, fun j hj h => absurd h (Nat.not_lt_zero _), Below.refl _ _⟩
  case round =>
    obtain ⟨k, rfl, hk, hF, hB⟩ := hrel
    by_cases hlt : k < n
    · have hkl : k < L.length := by rw [HN.out]; exact hlt
      obtain ⟨b0, off, rfl, hb0, hcs⟩ := HS.out.cells k hkl
      have k0 : w.cell? ⟨b0, off + k * 3, none⟩ = _ := hcs k hkl 0 _ rfl
      have k1 : w.cell? ⟨b0, off + k * 3 + 1, none⟩ = _ := hcs k hkl 1 _ rfl
      have k2 : w.cell? ⟨b0, off + k * 3 + 2, none⟩ = _ := hcs k hkl 2 _ rfl
      rw [← hB.out.cell (p := ⟨b0, _, none⟩) hb0] at k0 k1 k2
      obtain ⟨y, hy⟩ : ∃ y, y = L[k]! := ⟨_, rfl⟩
      rw [← hy] at k0 k1 k2
      have hmem : y ∈ L := by rw [hy, getElem!_pos L k hkl]; exact List.getElem_mem hkl
      have HY := Lib.hid hy
      have hyl := HE.out y hmem
      have HMY := Lib.hid hmem
      have hbz : b0 < wr.heap.size := by have := hB.out.size; omega
      clear hcs hy hmem
      go_wp2_with (go_at_call 79; refine (keep_any y D x b bl ba _ (by rw [hB.out.block _ (obj_lt HL.out)]; exact HL.out) (by rw [hB.out.block _ (obj_lt HA.out)]; exact HA.out) (HM.out.keep hB.out) hyl (HD.out _)).mono ?_; rintro e w1 ⟨rfl, hb1⟩; have hB1 := hB.out.trans (hb1.mono hB.out.size); have HB1 := Lib.hid hB1; clear hB1 hb1)
      · have hb : keepB D x y = true := by assumption
        have hy := HY.out
        rw [getElem!_pos L k hkl] at hy
        go_ret
        exact ⟨⟨k, rfl, .inr ⟨k, hkl, rfl, by rw [← hy]; exact hb, fun j hj => hF.out j (by omega) hj⟩⟩, HB1.out⟩
      · have hb : keepB D x y = false := by assumption
        have hy := HY.out
        rw [getElem!_pos L k hkl] at hy
        go_roundw
        case rel =>
          refine ⟨k + 1, by go_num, by omega, fun j hj h => ?_, HB1.out⟩
          rcases Nat.lt_succ_iff_lt_or_eq.1 h with h1 | h1
          · exact hF.out j hj h1
          · subst h1; rw [← hy]; exact hb
        case measure => simp [intOf]; omega
    · obtain rfl : k = n := by omega
      go_wp2
      go_ret
      exact ⟨⟨-1, rfl, .inl ⟨rfl, fun j hj => hF.out j hj (by have := HN.out; omega)⟩⟩, hB.out⟩
end Go.Proofs.YtmplajpbmojkkaaGreat
namespace Go.Proofs.YtmplajpbmojkkaaGreat
open Go Go.RowKit Go.Vi
theorem obj_last3 (X : World) (A B C : Obj) : (((X.alloc A).alloc B).alloc C).heap[X.heap.size + 1 + 1]? = some C := by
  have q := obj_last ((X.alloc A).alloc B) C
  simpa using q
theorem iIntT : (Tryz.prog.info? 3).map (fun i => (i.zero, i.size, i.bytes)) = some (some (.int .i64 0), 1, 8) := by kernel_rfl
theorem uInts : Tryz.prog.underlying 82 = some (.slice 3) := by kernel_rfl
def i1 (x : Int) : List Value := [.int .i64 x]
theorem i1_one (x : Int) : ∀ u ∈ i1 x, u.oneCell' = true := by
  intro u hu
  simp only [i1, List.mem_cons, List.mem_nil_iff, or_false] at hu
  rw [hu]; rfl
theorem i1_len (L : List Int) : ∀ r ∈ L.map i1, r.length = 1 := by
  intro r hr
  obtain ⟨x, _, rfl⟩ := List.mem_map.1 hr
  rfl
theorem keeps_iff {D : List (Int × Int)} {left : Int → Int → Prop} (hD : ∀ x d, Vi.look D x = some d ↔ left x d) {a da : Int} (ha : Vi.look D a = some da) (h : Hp) : keepB D a h = true ↔ Keeps left a h := by
  unfold keepB Keeps
  cases hr : Vi.look D h.dst with
  | none =>
    simp only [Bool.false_eq_true, false_iff, not_exists, not_and]
    intro r d h1
    rw [(hD _ _).2 h1] at hr; cases hr
  | some r =>
    rw [ha]
    simp only [Option.getD_some, beq_iff_eq]
    constructor
    · intro e; exact ⟨r, da, (hD _ _).1 hr, (hD _ _).1 ha, e⟩
    · rintro ⟨r', d', h1, h2, h3⟩
      rw [← hD, hr] at h1
      rw [← hD, ha] at h2
      injection h1 with h1
      injection h2 with h2
      rw [h1, h2]; exact h3
/-- Memory at the head of a round: the route so far, and the node at which it is. -/
structure FMem (wh : World) (len : Int) (bo bt : Nat) (NL RL : List Int) (x : Int) (vn vr : Value) (wx : World) : Prop where
  low : Below wh.heap.size wh wx
  out : wx.heap[bo]? = some (.cells #[vn, vr, .int .i64 len] 174 (0, 0))
  cur : wx.heap[bt]? = some (.cells #[.int .i64 x] 3 (0, 0))
  on : Ow wh.heap.size wx 3 1 vn (NL.map i1)
  orr : Ow wh.heap.size wx 3 1 vr (RL.map i1)
  ap1 : ∀ g, vn.ownBlock = some g → g ≠ bo ∧ g ≠ bt ∧ vr.ownBlock ≠ some g
  ap2 : ∀ g, vr.ownBlock = some g → g ≠ bo ∧ g ≠ bt
  bob : bo ≠ bt ∧ wh.heap.size ≤ bo ∧ wh.heap.size ≤ bt
section
variable {wh wx : World} {len x : Int} {bo bt : Nat} {NL RL : List Int} {vn vr : Value}
theorem FMem.keep {w' : World} (h : FMem wh len bo bt NL RL x vn vr wx) (hb : Below wx.heap.size wx w') : FMem wh len bo bt NL RL x vn vr w' :=
  ⟨h.low.trans (hb.mono h.low.size), keepObj hb h.out, keepObj hb h.cur, h.on.keep hb, h.orr.keep hb, h.ap1, h.ap2, h.bob⟩
/-- Both appends, and the stores of what they give. -/
theorem FMem.join (h : FMem wh len bo bt NL RL x vn vr wx) {W1 W2 : World} {y z : Int} {g1 n1 c1 g2 n2 c2 : Nat}
    (e1 : wx.grownBy W1 vn.ownBlock) (o1 : Ow wh.heap.size W1 3 1 (.slice (some ⟨g1, 0, none⟩) n1 c1) ((NL ++ [y]).map i1)) (a1 : vn.ownBlock = some g1 ∨ wx.heap.size ≤ g1)
    (e2 : W1.grownBy W2 vr.ownBlock) (o2 : Ow wh.heap.size W2 3 1 (.slice (some ⟨g2, 0, none⟩) n2 c2) ((RL ++ [z]).map i1)) (a2 : vr.ownBlock = some g2 ∨ W1.heap.size ≤ g2) :
    FMem wh len bo bt (NL ++ [y]) (RL ++ [z]) x (.slice (some ⟨g1, 0, none⟩) n1 c1) (.slice (some ⟨g2, 0, none⟩) n2 c2) ((W2.setCell ⟨bo, 0, none⟩ (.slice (some ⟨g1, 0, none⟩) n1 c1)).setCell ⟨bo, 1, none⟩ (.slice (some ⟨g2, 0, none⟩) n2 c2)) := by
  have hbo := obj_lt h.out
  have hbt := obj_lt h.cur
  have hs1 := e1.size
  have hg1 := o1.blk g1 rfl
  have hg2 := o2.blk g2 rfl
  have q1 : g1 ≠ bo ∧ g1 ≠ bt ∧ vr.ownBlock ≠ some g1 := by
    rcases a1 with a | a
    · exact h.ap1 g1 a
    · refine ⟨by omega, by omega, fun e => ?_⟩
      have := (h.orr.blk g1 e).2; omega
  have q2 : g2 ≠ bo ∧ g2 ≠ bt ∧ g1 ≠ g2 := by
    rcases a2 with a | a
    · obtain ⟨p, p2⟩ := h.ap2 g2 a
      exact ⟨p, p2, fun e => q1.2.2 (by rw [a, e])⟩
    · exact ⟨by omega, by omega, by omega⟩
  have hno : ∀ b, (b = bo ∨ b = bt) → b < wx.heap.size → W2.heap[b]? = wx.heap[b]? := fun b hb hlt => by
    rw [e2.block b (by omega) (fun e => ?_), e1.block b hlt (fun e => ?_)]
    · have := h.ap1 b e.symm; rcases hb with rfl | rfl
      · exact this.1 rfl
      · exact this.2.1 rfl
    · have := h.ap2 b e.symm; rcases hb with rfl | rfl
      · exact this.1 rfl
      · exact this.2 rfl
  have hout : W2.heap[bo]? = _ := (hno bo (.inl rfl) hbo).trans h.out
  have hcur : W2.heap[bt]? = _ := (hno bt (.inr rfl) hbt).trans h.cur
  have l1 := h.low.grown e1 h.low.size (fun b hb => (h.on.blk b hb).1)
  have l2 := l1.grown e2 (Nat.le_trans h.low.size hs1) (fun b hb => (h.orr.blk b hb).1)
  have hz2 := e2.size
  refine ⟨(l2.setCell h.bob.2.1 _).setCell h.bob.2.1 _, ?_, ?_, ?_, ?_, fun g e => ?_, fun g e => ?_, h.bob⟩
  · exact obj_set (obj_set hout)
  · exact obj_setOther (obj_setOther hcur (by simpa using h.bob.1.symm)) (by simpa using h.bob.1.symm)
  · have hne : ∀ a : Addr, a.block = bo → (Value.slice (some ⟨g1, 0, none⟩) n1 c1).ownBlock ≠ some a.block := fun a ha e => by
      injection e with e; rw [ha] at e; exact q1.1 e
    exact ((o1.kept e2 (.inr (fun e => q1.2.2 e.symm))).keepSet _ (hne _ rfl) _).keepSet _ (hne _ rfl) _
  · have hne : ∀ a : Addr, a.block = bo → (Value.slice (some ⟨g2, 0, none⟩) n2 c2).ownBlock ≠ some a.block := fun a ha e => by
      injection e with e; rw [ha] at e; exact q2.1 e
    exact (o2.keepSet _ (hne _ rfl) _).keepSet _ (hne _ rfl) _
  · injection e with e; subst e
    exact ⟨q1.1, q1.2.1, fun e => by injection e with e; exact q2.2.2 e.symm⟩
  · injection e with e; subst e
    exact ⟨q2.1, q2.2.1⟩
/-- The store of the next node, and the round's new variable. -/
theorem FMem.move (h : FMem wh len bo bt NL RL x vn vr wx) (y : Int) : FMem wh len bo wx.heap.size NL RL y vn vr ((wx.setCell ⟨bt, 0, none⟩ (.int .i64 y)).alloc (.cells #[.int .i64 y] 3)) := by
  have hbo := obj_lt h.out
  have hz := h.low.size
  have hsz : (wx.setCell ⟨bt, 0, none⟩ (.int .i64 y)).heap.size = wx.heap.size := by simp [World.setCell]
  have hb := (Below.refl (wx.setCell ⟨bt, 0, none⟩ (.int .i64 y)).heap.size (wx.setCell ⟨bt, 0, none⟩ (.int .i64 y))).alloc (Nat.le_refl _) (.cells #[.int .i64 y] 3)
  refine ⟨((h.low.setCell h.bob.2.2 _).alloc (by rw [hsz]; exact hz) _), obj_old (obj_setOther h.out (by simpa using h.bob.1)), ?_, ?_, ?_, fun g e => ⟨(h.ap1 g e).1, ?_, (h.ap1 g e).2.2⟩, fun g e => ⟨(h.ap2 g e).1, ?_⟩, ⟨by omega, h.bob.2.1, hz⟩⟩
  · have := obj_last (wx.setCell ⟨bt, 0, none⟩ (.int .i64 y)) (.cells #[.int .i64 y] 3)
    rw [hsz] at this; exact this
  · exact (h.on.keepSet _ (fun e => (h.ap1 _ e).2.1 rfl) _).keep hb
  · exact (h.orr.keepSet _ (fun e => (h.ap2 _ e).2 rfl) _).keep hb
  · have := (h.on.blk g e).2; omega
  · have := (h.orr.blk g e).2; omega
end
theorem fmem_start (wh : World) (a len : Int) : FMem wh len (wh.heap.size + 1) (wh.heap.size + 2) [a] [] a (.slice (some ⟨wh.heap.size, 0, none⟩) 1 1) (.slice none 0 0)
    (((wh.alloc (.cells #[.int .i64 a] 3)).alloc (.cells #[.slice (some ⟨wh.heap.size, 0, none⟩) 1 1, .slice none 0 0, .int .i64 len] 174)).alloc (.cells #[.int .i64 a] 3)) := by
  refine ⟨(by (repeat (first | with_reducible exact Below.refl _ _ | with_reducible assumption | ((with_reducible refine Below.setCell ?_ ?_ _); rotate_left; focus (first | exact Nat.le_refl _ | omega | exact Below.size (by assumption) | (simp; done) | (simp; omega))) | ((with_reducible refine Below.alloc ?_ ?_ _); rotate_left; focus (first | exact Nat.le_refl _ | omega | exact Below.size (by assumption) | (simp; done) | (simp; omega))) | (with_reducible refine Below.drew ?_) | (with_reducible refine drewN_ ?_ _)))), ?_, ?_, ?_, Ow.nil _ _ _ _, fun g e => ?_, fun g e => by simp [Value.ownBlock] at e, ⟨by omega, by omega, by omega⟩⟩
  · have q := obj_old (o' := .cells #[.int .i64 a] 3) (obj_last (wh.alloc (.cells #[.int .i64 a] 3)) (.cells #[.slice (some ⟨wh.heap.size, 0, none⟩) 1 1, .slice none 0 0, .int .i64 len] 174))
    simpa using q
  · have q := obj_last ((wh.alloc (.cells #[.int .i64 a] 3)).alloc (.cells #[.slice (some ⟨wh.heap.size, 0, none⟩) 1 1, .slice none 0 0, .int .i64 len] 174)) (.cells #[.int .i64 a] 3)
    simpa using q
  · have q := World.ownsRow_lit (base := wh.heap.size) (e := 3) (size := 1) wh #[.int .i64 a] 1 (by simp) (by unfold maxLen; omega) rfl
    refine Ow.keep (w := wh.alloc (.cells #[.int .i64 a] 3)) ⟨?_, i1_len [a]⟩ (((Below.refl _ _).alloc (Nat.le_refl _) _).alloc (by simp) _)
    simpa [i1] using q
  · simp [Value.ownBlock] at e
    subst e
    refine ⟨by omega, by omega, by simp [Value.ownBlock]⟩
/-- Where the search stands: the node, out of the loop's variable. -/
def atI (s : Value) (w : World) : Int := match s with | .pointer (some ad) => intOf ((w.cell? ad).getD (.int .i64 0)) | _ => 0
theorem FMem.at {wh wx : World} {len x : Int} {bo bt : Nat} {NL RL : List Int} {vn vr : Value} (h : FMem wh len bo bt NL RL x vn vr wx) : atI (.pointer (some ⟨bt, 0, none⟩)) wx = x := by
  have := obj_cell h.cur 0
  simp at this
  simp [atI, this, intOf]
structure FLog (A : Int → List Hp) (left : Int → Int → Prop) (a b : Int) (D : List (Int × Int)) (len : Int) (P : List Hp) (x : Int) : Prop where
  way : ∀ R, Way A left b a R ↔ ∃ R', R = P ++ R' ∧ Way A left b x R'
  dist : ∃ d, Vi.look D x = some d ∧ 0 ≤ d ∧ d + P.length ≤ len
section
variable {A : Int → List Hp} {left : Int → Int → Prop} {a b x len : Int} {D : List (Int × Int)} {P : List Hp}
theorem FLog.stuck (h : FLog A left a b D len P x) (hD : ∀ x d, Vi.look D x = some d ↔ left x d) (hne : x ≠ b) (hf : ∀ (j : Nat) (hj : j < (A x).length), keepB D x (A x)[j] = false) : ∀ R, ¬Way A left b a R := by
  intro R hR
  obtain ⟨R', _, h2⟩ := (h.way R).1 hR
  obtain ⟨d, hd, _⟩ := h.dist
  refine Way.stuck hne (fun j hj hk => ?_) h2
  have := (keeps_iff hD hd _).2 hk
  rw [hf j hj] at this; cases this
theorem FLog.next (h : FLog A left a b D len P x) (hD : ∀ x d, Vi.look D x = some d ↔ left x d) (hn : ∀ x d, Vi.look D x = some d → 0 ≤ d) (hA : ∀ u, ∀ g ∈ A u, 1 ≤ g.len) (hne : x ≠ b) {k : Nat} (hk : k < (A x).length) (ht : keepB D x (A x)[k] = true) (hf : ∀ (j : Nat) (hj : j < k), keepB D x (A x)[j] = false) :
    FLog A left a b D len (P ++ [(A x)[k]]) (A x)[k].dst ∧ ((Vi.look D (A x)[k].dst).getD 0).toNat < ((Vi.look D x).getD 0).toNat := by
  obtain ⟨d, hd, hd0, hdl⟩ := h.dist
  have hkp := (keeps_iff hD hd _).1 ht
  have hfp : ∀ (j : Nat) (hj : j < k), ¬Keeps left x (A x)[j] := fun j hj hc => by
    have := (keeps_iff hD hd _).2 hc
    rw [hf j hj] at this; cases this
  have hl := hA x _ (List.getElem_mem hk)
  obtain ⟨r, hr⟩ : ∃ r, Vi.look D (A x)[k].dst = some r := by
    obtain ⟨r, _, h1, _⟩ := hkp
    exact ⟨r, (hD _ _).2 h1⟩
  have he : r + (A x)[k].len = d := by
    unfold keepB at ht
    rw [hr, hd] at ht
    simpa using ht
  have hr0 := hn _ _ hr
  refine ⟨⟨fun R => ⟨fun hR => ?_, fun hR => ?_⟩, r, hr, hr0, by simp; omega⟩, by rw [hr, hd]; simp; omega⟩
  · obtain ⟨R', rfl, h2⟩ := (h.way R).1 hR
    obtain ⟨R2, rfl, h3⟩ := h2.next hne hk hkp hfp
    exact ⟨R2, by simp, h3⟩
  · obtain ⟨R', rfl, h2⟩ := hR
    exact (h.way _).2 ⟨(A x)[k] :: R', by simp, .step hne hk hkp hfp h2⟩
theorem first_keep (L : List Hp) (p : Hp → Bool) : (∀ (j : Nat) (hj : j < L.length), p L[j] = false) ∨ ∃ (k : Nat) (hk : k < L.length), p L[k] = true ∧ ∀ (j : Nat) (hj : j < k), p L[j] = false := by
  induction L with
  | nil => exact .inl fun j hj => by simp at hj
  | cons h L ih =>
    cases hp : p h with
    | true => exact .inr ⟨0, by simp, hp, fun j hj => absurd hj (Nat.not_lt_zero _)⟩
    | false =>
      rcases ih with h1 | ⟨k, hk, h1, h2⟩
      · refine .inl fun j hj => ?_
        cases j with
        | zero => exact hp
        | succ j => exact h1 j (by simpa using hj)
      · refine .inr ⟨k + 1, by simpa using hk, h1, fun j hj => ?_⟩
        cases j with
        | zero => exact hp
        | succ j => exact h2 j (by omega)
end
theorem ix_none {L : List Hp} {p : Hp → Bool} {i : Int} (h : (i = -1 ∧ ∀ (j : Nat) (hj : j < L.length), p L[j] = false) ∨ ∃ (k : Nat) (hk : k < L.length), i = k ∧ p L[k] = true ∧ ∀ (j : Nat) (hj : j < k), p L[j] = false) (ha : ∀ (j : Nat) (hj : j < L.length), p L[j] = false) : i = -1 := by
  rcases h with ⟨h1, _⟩ | ⟨k, hk, _, h2, _⟩
  · exact h1
  · rw [ha k hk] at h2; cases h2
theorem ix_some {L : List Hp} {p : Hp → Bool} {i : Int} (h : (i = -1 ∧ ∀ (j : Nat) (hj : j < L.length), p L[j] = false) ∨ ∃ (k : Nat) (hk : k < L.length), i = k ∧ p L[k] = true ∧ ∀ (j : Nat) (hj : j < k), p L[j] = false) {k : Nat} (hk : k < L.length) (ht : p L[k] = true) (hf : ∀ (j : Nat) (hj : j < k), p L[j] = false) : i = k := by
  rcases h with ⟨_, h1⟩ | ⟨m, hm, h1, h2, h3⟩
  · rw [h1 k hk] at ht; cases ht
  · rcases Nat.lt_trichotomy m k with h4 | h4 | h4
    · rw [hf m h4] at h2; cases h2
    · rw [h1, h4]
    · rw [h3 k h4] at ht; cases ht
theorem fin_few {n : Net} {A : Int → List Hp} (hA : ∀ k, Fin (hopsG n.roads k) (A k)) (h : n.roads.length ≤ 100) (u : Int) : (A u).length ≤ 200 := by
  have := (fin_mem (hA u)).2
  have := hopsG_len n.roads u
  omega
end Go.Proofs.YtmplajpbmojkkaaGreat
