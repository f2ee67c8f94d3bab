/-
  The comparison of two ints, and the binary searches for a node and a road, walked.
  Nodes and roads of a network found by their ids; the check of a network.
  The check of a network, walked.
  network.Check, walked: the first error of a network; what no error says.
  slices.Clone at nodes and roads.
  A road of a network found by its id.
  Scenarios in memory.
  The memory of a network while it is decoded.
  A network as a grid is decoded into: it is right.
-/
import Derived.Test.YtmplajpbmojkkaaGreatMemA
import Derived.Test.YtmplajpbmojkkaaGreatChecked
set_option linter.unusedSimpArgs false
set_option linter.unusedVariables false
namespace Go.Proofs.YtmplajpbmojkkaaGreat
open Go Go.RowKit Go.Vi
def cmpI (a b : Int) : Int := if a < b then -1 else if b < a then 1 else 0
theorem cmp_any (a b : Int) (w : World) : Calls Tryz.prog 24 #[.int .i64 a, .int .i64 b] w fun e w' => e = .returned (.int .i64 (cmpI a b)) ∧ w = w' := by
  go_enter Tryz.func24, Tryz.ntmps24
  go_wp2
  all_goals go_ret
  all_goals unfold cmpI
  · rw [if_pos ‹_›]; exact ⟨rfl, rfl⟩
  · rw [if_neg (by omega), if_pos ‹_›]; exact ⟨rfl, rfl⟩
  · rw [if_neg (by omega), if_neg (by omega)]; exact ⟨rfl, rfl⟩
theorem cmpI_neg (a b : Int) : cmpI a b < 0 ↔ a < b := by unfold cmpI; split <;> (try split) <;> omega
theorem cmpI_zero (a b : Int) : cmpI a b = 0 ↔ a = b := by unfold cmpI; split <;> (try split) <;> omega
/-- The nodes and the roads of a network. -/
structure Nd where (id x y : Int)
structure Rd where (id src dst len lim : Int) (one : Bool)
instance : Inhabited Nd := ⟨⟨0, 0, 0⟩⟩
instance : Inhabited Rd := ⟨⟨0, 0, 0, 0, 0, false⟩⟩
def Nd.cs (x : Nd) : List Value := [.int .i64 x.id, .int .i64 x.x, .int .i64 x.y]
def Rd.cs (x : Rd) : List Value := [.int .i64 x.id, .int .i64 x.src, .int .i64 x.dst, .int .i64 x.len, .int .i64 x.lim, .bool x.one]
abbrev Nd.v (x : Nd) : Value := .agg #[.int .i64 x.id, .int .i64 x.x, .int .i64 x.y]
abbrev Rd.v (x : Rd) : Value := .agg #[.int .i64 x.id, .int .i64 x.src, .int .i64 x.dst, .int .i64 x.len, .int .i64 x.lim, .bool x.one]
theorem nd_cells {B : Nat} {w : World} {a : Option Addr} {n cap : Nat} {L : List Nd} (h : Sl B w 3 (.slice a n cap) (L.map Nd.cs)) (i : Nat) (hi : i < L.length) :
    ∃ b off, a = some ⟨b, off, none⟩ ∧ b < B ∧ ∀ j, j < L.length → w.cell? ⟨b, off + j * 3, none⟩ = some (.int .i64 L[j]!.id) ∧ w.cell? ⟨b, off + j * 3 + 1, none⟩ = some (.int .i64 L[j]!.x) ∧ w.cell? ⟨b, off + j * 3 + 2, none⟩ = some (.int .i64 L[j]!.y) := by
  obtain ⟨b, off, h1, h2, h3⟩ := h.at i (by simpa using hi)
  refine ⟨b, off, h1, h2, fun j hj => ?_⟩
  have e : L[j]! = L[j] := getElem!_pos L j hj
  rw [e]
  exact ⟨h3 j (by simpa using hj) 0 _ (by simp [Nd.cs]), h3 j (by simpa using hj) 1 _ (by simp [Nd.cs]), h3 j (by simpa using hj) 2 _ (by simp [Nd.cs])⟩
theorem rd_cells {B : Nat} {w : World} {a : Option Addr} {n cap : Nat} {L : List Rd} (h : Sl B w 6 (.slice a n cap) (L.map Rd.cs)) (i : Nat) (hi : i < L.length) :
    ∃ b off, a = some ⟨b, off, none⟩ ∧ b < B ∧ ∀ j, j < L.length → w.cell? ⟨b, off + j * 6, none⟩ = some (.int .i64 L[j]!.id) ∧ w.cell? ⟨b, off + j * 6 + 1, none⟩ = some (.int .i64 L[j]!.src) ∧ w.cell? ⟨b, off + j * 6 + 2, none⟩ = some (.int .i64 L[j]!.dst)
      ∧ w.cell? ⟨b, off + j * 6 + 3, none⟩ = some (.int .i64 L[j]!.len) ∧ w.cell? ⟨b, off + j * 6 + 4, none⟩ = some (.int .i64 L[j]!.lim) ∧ w.cell? ⟨b, off + j * 6 + 5, none⟩ = some (.bool L[j]!.one) := by
  obtain ⟨b, off, h1, h2, h3⟩ := h.at i (by simpa using hi)
  refine ⟨b, off, h1, h2, fun j hj => ?_⟩
  have e : L[j]! = L[j] := getElem!_pos L j hj
  rw [e]
  exact ⟨h3 j (by simpa using hj) 0 _ (by simp [Rd.cs]), h3 j (by simpa using hj) 1 _ (by simp [Rd.cs]), h3 j (by simpa using hj) 2 _ (by simp [Rd.cs]), h3 j (by simpa using hj) 3 _ (by simp [Rd.cs]), h3 j (by simpa using hj) 4 _ (by simp [Rd.cs]), h3 j (by simpa using hj) 5 _ (by simp [Rd.cs])⟩
theorem node1_any (x : Nd) (a : Int) (w : World) : Calls Tryz.prog 66 #[x.v, .int .i64 a] w fun e w' => e = .returned (.int .i64 (cmpI x.id a)) ∧ Below w.heap.size w w' := by
  go_enter Tryz.func66, Tryz.ntmps66
  go_wp2_with (go_at_call 24; refine (cmp_any _ _ _).mono ?_; rintro e w' ⟨rfl, rfl⟩)
  go_ret
  exact ⟨rfl, (Below.refl _ _).alloc (Nat.le_refl _) _⟩
theorem road1_any (x : Rd) (a : Int) (w : World) : Calls Tryz.prog 81 #[x.v, .int .i64 a] w fun e w' => e = .returned (.int .i64 (cmpI x.id a)) ∧ Below w.heap.size w w' := by
  go_enter Tryz.func81, Tryz.ntmps81
  go_wp2_with (go_at_call 24; refine (cmp_any _ _ _).mono ?_; rintro e w' ⟨rfl, rfl⟩)
  go_ret
  exact ⟨rfl, (Below.refl _ _).alloc (Nat.le_refl _) _⟩
/-- What a binary search for the id t ends with. -/
def Found (id : Nat → Int) (n : Nat) (t : Int) (e : Ending) : Prop := ∃ (i : Nat) (b : Bool), i ≤ n ∧ (∀ k, k < i → id k < t) ∧ (∀ k, i ≤ k → k < n → t ≤ id k) ∧ (b = true ↔ i < n ∧ id i = t) ∧ e = .returned (.tuple #[.int .i64 i, .bool b])
set_option maxHeartbeats 1000000 in
theorem bsNode_any (L : List Nd) (a : Option Addr) (n cap : Nat) (t : Int) (w : World) (hn : L.length = n) (hc : Sl w.heap.size w 3 (.slice a n cap) (L.map Nd.cs)) (hsz : n ≤ 1000000)
   (hs : ∀ i j, i ≤ j → j < n → L[i]!.id ≤ L[j]!.id) :
   Calls Tryz.prog 65 #[.slice a n cap, .int .i64 t, .func (.func 66) #[] #[]] w fun e w' => Found (fun i => L[i]!.id) n t e ∧ Below w.heap.size w w' := by
  have Hn := Lib.hid hn; clear hn
  have Hc := Lib.hid hc; clear hc
  have Hs := Lib.hid hs; clear hs
  go_enter Tryz.func65, Tryz.ntmps65
  go_wp2
  go_loopw [9, 10] (fun s9 s10 wr => ∃ lo hi : Nat, s9 = .int .i64 lo ∧ s10 = .int .i64 hi ∧ lo ≤ hi ∧ hi ≤ n ∧ Hid (Below w.heap.size w wr) ∧ Hid ((∀ k, k < lo → L[k]!.id < t) ∧ (∀ k, hi ≤ k → k < n → t ≤ L[k]!.id))) (fun s9 s10 _ => (intOf s10 - intOf s9).toNat)
  case atStart => exact ⟨0, n, rfl, rfl, Nat.zero_le _, Nat.le_refl _, Below.refl _ _, by intro k hk; omega, by intro k h1 h2; omega⟩
  case round =>
    obtain ⟨lo, hi, rfl, rfl, h1, h2, hB, hI⟩ := hrel
    by_cases hlt : lo < hi
    · obtain ⟨b, off, rfl, hb, hk⟩ := nd_cells Hc.out ((lo + hi) / 2) (by have := Hn.out; omega)
      have hk := hk ((lo + hi) / 2) (by have := Hn.out; omega)
      rw [← hB.out.cell (p := ⟨b, _, none⟩) hb, ← hB.out.cell (p := ⟨b, _, none⟩) hb, ← hB.out.cell (p := ⟨b, _, none⟩) hb] at hk
      obtain ⟨c0, c1, c2⟩ := hk
      generalize hy : L[(lo + hi) / 2]! = y at c0 c1 c2
      have Y := Lib.hid hy; clear hy
      go_wp2_with (go_at_call 66; refine (node1_any y _ _).mono ?_; rintro e w' ⟨rfl, hb1⟩; have HB1 := Lib.hid hb1; clear hb1)
      · have hc : cmpI y.id t < 0 := ‹_›
        go_roundw
        case rel =>
          refine ⟨(lo + hi) / 2 + 1, hi, by go_num, rfl, by omega, h2, hB.out.trans (HB1.out.mono hB.out.size), fun k hk => ?_, hI.out.2⟩
          have := Hs.out k ((lo + hi) / 2) (by omega) (by omega)
          rw [Y.out] at this
          have := (cmpI_neg _ _).1 hc
          omega
        case measure => simp [intOf]; omega
      · have hc : 0 ≤ cmpI y.id t := ‹_›
        go_roundw
        case rel =>
          refine ⟨lo, (lo + hi) / 2, rfl, by go_num, by omega, by omega, hB.out.trans (HB1.out.mono hB.out.size), hI.out.1, fun k hk hk2 => ?_⟩
          have := Hs.out ((lo + hi) / 2) k (by omega) (by omega)
          rw [Y.out] at this
          have := mt (cmpI_neg y.id t).2 (by omega)
          omega
        case measure => simp [intOf]; omega
    · obtain rfl : hi = lo := by omega
      by_cases hn2 : hi < n
      · obtain ⟨b, off, rfl, hb, hk⟩ := nd_cells Hc.out hi (by have := Hn.out; omega)
        have hk := hk hi (by have := Hn.out; omega)
        rw [← hB.out.cell (p := ⟨b, _, none⟩) hb, ← hB.out.cell (p := ⟨b, _, none⟩) hb, ← hB.out.cell (p := ⟨b, _, none⟩) hb] at hk
        obtain ⟨c0, c1, c2⟩ := hk
        generalize hy : L[hi]! = y at c0 c1 c2
        have Y := Lib.hid hy; clear hy
        go_wp2_with (go_at_call 66; refine (node1_any y _ _).mono ?_; rintro e w' ⟨rfl, hb1⟩; have HB1 := Lib.hid hb1; clear hb1)
        go_ret2
        refine ⟨⟨hi, _, h2, hI.out.1, hI.out.2, ?_, rfl⟩, hB.out.trans (HB1.out.mono hB.out.size)⟩
        have := cmpI_zero y.id t
        have e := Y.out
        simp only [e]
        simp [this, hn2]
      · go_wp2
        go_ret2
        refine ⟨⟨hi, _, h2, hI.out.1, hI.out.2, ?_, rfl⟩, hB.out⟩
        simp [hn2]
set_option maxHeartbeats 1000000 in
theorem bsRoad_any (L : List Rd) (a : Option Addr) (n cap : Nat) (t : Int) (w : World) (hn : L.length = n) (hc : Sl w.heap.size w 6 (.slice a n cap) (L.map Rd.cs)) (hsz : n ≤ 1000000)
   (hs : ∀ i j, i ≤ j → j < n → L[i]!.id ≤ L[j]!.id) :
   Calls Tryz.prog 80 #[.slice a n cap, .int .i64 t, .func (.func 81) #[] #[]] w fun e w' => Found (fun i => L[i]!.id) n t e ∧ Below w.heap.size w w' := by
  have Hn := Lib.hid hn; clear hn
  have Hc := Lib.hid hc; clear hc
  have Hs := Lib.hid hs; clear hs
  go_enter Tryz.func80, Tryz.ntmps80
  go_wp2
  go_loopw [9, 10] (fun s9 s10 wr => ∃ lo hi : Nat, s9 = .int .i64 lo ∧ s10 = .int .i64 hi ∧ lo ≤ hi ∧ hi ≤ n ∧ Hid (Below w.heap.size w wr) ∧ Hid ((∀ k, k < lo → L[k]!.id < t) ∧ (∀ k, hi ≤ k → k < n → t ≤ L[k]!.id))) (fun s9 s10 _ => (intOf s10 - intOf s9).toNat)
  case atStart => exact ⟨0, n, rfl, rfl, Nat.zero_le _, Nat.le_refl _, Below.refl _ _, by intro k hk; omega, by intro k h1 h2; omega⟩
  case round =>
    obtain ⟨lo, hi, rfl, rfl, h1, h2, hB, hI⟩ := hrel
    by_cases hlt : lo < hi
    · obtain ⟨b, off, rfl, hb, hk⟩ := rd_cells Hc.out ((lo + hi) / 2) (by have := Hn.out; omega)
      have hk := hk ((lo + hi) / 2) (by have := Hn.out; omega)
      rw [← hB.out.cell (p := ⟨b, _, none⟩) hb, ← hB.out.cell (p := ⟨b, _, none⟩) hb, ← hB.out.cell (p := ⟨b, _, none⟩) hb, ← hB.out.cell (p := ⟨b, _, none⟩) hb, ← hB.out.cell (p := ⟨b, _, none⟩) hb, ← hB.out.cell (p := ⟨b, _, none⟩) hb] at hk
      obtain ⟨c0, c1, c2, c3, c4, c5⟩ := hk
      generalize hy : L[(lo + hi) / 2]! = y at c0 c1 c2 c3 c4 c5
      have Y := Lib.hid hy; clear hy
      go_wp2_with (go_at_call 81; refine (road1_any y _ _).mono ?_; rintro e w' ⟨rfl, hb1⟩; have HB1 := Lib.hid hb1; clear hb1)
      · have hc : cmpI y.id t < 0 := ‹_›
        go_roundw
        case rel =>
          refine ⟨(lo + hi) / 2 + 1, hi, by go_num, rfl, by omega, h2, hB.out.trans (HB1.out.mono hB.out.size), fun k hk => ?_, hI.out.2⟩
          have := Hs.out k ((lo + hi) / 2) (by omega) (by omega)
          rw [Y.out] at this
          have := (cmpI_neg _ _).1 hc
          omega
        case measure => simp [intOf]; omega
      · have hc : 0 ≤ cmpI y.id t := ‹_›
        go_roundw
        case rel =>
          refine ⟨lo, (lo + hi) / 2, rfl, by go_num, by omega, by omega, hB.out.trans (HB1.out.mono hB.out.size), hI.out.1, fun k hk hk2 => ?_⟩
          have := Hs.out ((lo + hi) / 2) k (by omega) (by omega)
          rw [Y.out] at this
          have := mt (cmpI_neg y.id t).2 (by omega)
          omega
        case measure => simp [intOf]; omega
    · obtain rfl : hi = lo := by omega
      by_cases hn2 : hi < n
      · obtain ⟨b, off, rfl, hb, hk⟩ := rd_cells Hc.out hi (by have := Hn.out; omega)
        have hk := hk hi (by have := Hn.out; omega)
        rw [← hB.out.cell (p := ⟨b, _, none⟩) hb, ← hB.out.cell (p := ⟨b, _, none⟩) hb, ← hB.out.cell (p := ⟨b, _, none⟩) hb, ← hB.out.cell (p := ⟨b, _, none⟩) hb, ← hB.out.cell (p := ⟨b, _, none⟩) hb, ← hB.out.cell (p := ⟨b, _, none⟩) hb] at hk
        obtain ⟨c0, c1, c2, c3, c4, c5⟩ := hk
        generalize hy : L[hi]! = y at c0 c1 c2 c3 c4 c5
        have Y := Lib.hid hy; clear hy
        go_wp2_with (go_at_call 81; refine (road1_any y _ _).mono ?_; rintro e w' ⟨rfl, hb1⟩; have HB1 := Lib.hid hb1; clear hb1)
        go_ret2
        refine ⟨⟨hi, _, h2, hI.out.1, hI.out.2, ?_, rfl⟩, hB.out.trans (HB1.out.mono hB.out.size)⟩
        have := cmpI_zero y.id t
        have e := Y.out
        simp only [e]
        simp [this, hn2]
      · go_wp2
        go_ret2
        refine ⟨⟨hi, _, h2, hI.out.1, hI.out.2, ?_, rfl⟩, hB.out⟩
        simp [hn2]
end Go.Proofs.YtmplajpbmojkkaaGreat
namespace Go.Proofs.YtmplajpbmojkkaaGreat
open Go Go.RowKit Go.Vi
structure Net where (nodes : List Nd) (roads : List Rd)
/-- The network's value, its slices below block B. -/
def NetAt (B : Nat) (w : World) (v1 v2 : Value) (n : Net) : Prop := Sl B w 3 v1 (n.nodes.map Nd.cs) ∧ Sl B w 6 v2 (n.roads.map Rd.cs)
theorem NetAt.keep {B B' : Nat} {w w' : World} {v1 v2 : Value} {n : Net} (h : NetAt B w v1 v2 n) (hb : Below B' w w') (hB : B ≤ B') : NetAt B w' v1 v2 n := ⟨h.1.keep hb hB, h.2.keep hb hB⟩
theorem NetAt.mono {B B' : Nat} {w : World} {v1 v2 : Value} {n : Net} (h : NetAt B w v1 v2 n) (hB : B ≤ B') : NetAt B' w v1 v2 n := ⟨h.1.mono hB, h.2.mono hB⟩
def SrtN (l : List Nd) : Prop := ∀ i j, i < j → j < l.length → l[i]!.id < l[j]!.id
def SrtR (l : List Rd) : Prop := ∀ i j, i < j → j < l.length → l[i]!.id < l[j]!.id
def nodeOf (l : List Nd) (id : Int) : Option Nd := l.find? fun x => x.id == id
def roadOf (l : List Rd) (id : Int) : Option Rd := l.find? fun x => x.id == id
def nd0 : Nd := ⟨0, 0, 0⟩
def rd0 : Rd := ⟨0, 0, 0, 0, 0, false⟩
theorem find_first {α : Type} [Inhabited α] (f : α → Int) (t : Int) : ∀ (l : List α) (i : Nat), (∀ k, k < i → f l[k]! < t) → i ≤ l.length → (i < l.length → t ≤ f l[i]!) → (∀ k, i ≤ k → k < l.length → f l[k]! = t → f l[i]! = t) →
    l.find? (fun x => f x == t) = if i < l.length ∧ f l[i]! = t then some l[i]! else none
  | [], i, _, h, _, _ => by simp at h; simp
  | a :: r, 0, _, _, h3, h4 => by
    by_cases ha : f a = t
    · simp [ha]
    · have : ∀ k, k < r.length → f r[k]! ≠ t := fun k hk e => ha (by simpa using h4 (k + 1) (by omega) (by simp; omega) (by simpa using e))
      have hn : r.find? (fun x => f x == t) = none := by
        rw [List.find?_eq_none]
        intro x hx
        obtain ⟨k, hk, rfl⟩ := List.getElem_of_mem hx
        have := this k hk
        rw [getElem!_pos r k hk] at this
        simpa using this
      rw [List.find?_cons_of_neg (by simpa using ha), hn]
      simp [ha]
  | a :: r, i + 1, h1, h2, h3, h4 => by
    have ha : f a < t := by simpa using h1 0 (by omega)
    rw [List.find?_cons_of_neg (by simp; omega), find_first f t r i (fun k hk => by simpa using h1 (k + 1) (by omega)) (by simpa using h2) (fun h => by simpa using h3 (by simpa using h))
      (fun k h5 h6 h7 => by simpa using h4 (k + 1) (by omega) (by simpa using h6) (by simpa using h7))]
    simp
/-- A later world: the network is there, at any bound. -/
theorem NetAt.later {w w' : World} {v1 v2 : Value} {n : Net} (h : NetAt w.heap.size w v1 v2 n) (hb : Below w.heap.size w w') : NetAt w'.heap.size w' v1 v2 n := ⟨h.1.later hb, h.2.later hb⟩
theorem found_node {l : List Nd} (hs : SrtN l) {t : Int} {i : Nat} (h1 : i ≤ l.length) (h2 : ∀ k, k < i → l[k]!.id < t) (h3 : ∀ k, i ≤ k → k < l.length → t ≤ l[k]!.id) :
    nodeOf l t = if i < l.length ∧ l[i]!.id = t then some l[i]! else none :=
  find_first Nd.id t l i h2 h1 (fun h => h3 i (Nat.le_refl _) h) (fun k h4 h5 h6 => by
    rcases Nat.lt_or_ge i k with h | h
    · have := hs i k h h5; have := h3 i (Nat.le_refl _) (by omega); omega
    · obtain rfl : i = k := by omega
      exact h6)
theorem found_road {l : List Rd} (hs : SrtR l) {t : Int} {i : Nat} (h1 : i ≤ l.length) (h2 : ∀ k, k < i → l[k]!.id < t) (h3 : ∀ k, i ≤ k → k < l.length → t ≤ l[k]!.id) :
    roadOf l t = if i < l.length ∧ l[i]!.id = t then some l[i]! else none :=
  find_first Rd.id t l i h2 h1 (fun h => h3 i (Nat.le_refl _) h) (fun k h4 h5 h6 => by
    rcases Nat.lt_or_ge i k with h | h
    · have := hs i k h h5; have := h3 i (Nat.le_refl _) (by omega); omega
    · obtain rfl : i = k := by omega
      exact h6)
set_option maxHeartbeats 1000000 in
theorem node_any (n : Net) (v1 v2 : Value) (id : Int) (w : World) (hN : NetAt w.heap.size w v1 v2 n) (hs : SrtN n.nodes) (hsz : n.nodes.length ≤ 1000000) :
    Calls Tryz.prog 47 #[.agg #[v1, v2], .int .i64 id] w fun e w' => e = .returned (.tuple #[((nodeOf n.nodes id).getD nd0).v, .bool (nodeOf n.nodes id).isSome]) ∧ Below w.heap.size w w' := by
  have HN := Lib.hid hN.1; clear hN
  obtain ⟨a, ln, cap, rfl, hl, _, _⟩ := HN.out.open
  rw [List.length_map] at hl
  have Hs := Lib.hid hs; clear hs
  have hln : ln ≤ 1000000 := by rw [← hl]; exact hsz
  have HL := Lib.hid hl; clear hl hsz
  go_enter Tryz.func47, Tryz.ntmps47
  go_wp2_with (go_at_call 65; refine (bsNode_any n.nodes _ _ _ _ _ HL.out (HN.out.later ?hb) hln (fun i j h1 h2 => ?hs)).mono ?_)
  case hb => (repeat (first | with_reducible exact Below.refl _ _ | with_reducible assumption | ((with_reducible refine Below.setCell ?_ ?_ _); rotate_left; focus (first | exact Nat.le_refl _ | omega | exact Below.size (by assumption) | (simp; done) | (simp; omega))) | ((with_reducible refine Below.alloc ?_ ?_ _); rotate_left; focus (first | exact Nat.le_refl _ | omega | exact Below.size (by assumption) | (simp; done) | (simp; omega))) | (with_reducible refine Below.drew ?_) | (with_reducible refine drewN_ ?_ _)))
  case hs =>
    rcases Nat.lt_or_ge i j with h | h
    · exact Int.le_of_lt (Hs.out i j h (by rw [HL.out]; exact h2))
    · obtain rfl : i = j := by omega
      exact Int.le_refl _
  rintro e w1 ⟨⟨i, b, h1, h2, h3, h4, rfl⟩, hb1⟩
  have hf := found_node (t := id) Hs.out (by rw [HL.out]; exact h1) h2 (by rw [HL.out]; exact h3)
  rw [HL.out] at hf
  have HB1 := Lib.hid hb1
  have hz : w.heap.size + 1 < w1.heap.size := by have := hb1.size; simp at this; omega
  obtain ⟨hc1, hf1⟩ := bcell hb1
  clear hb1 h2 h3
  cases b with
  | false =>
    have hi : ¬ (i < ln ∧ n.nodes[i]!.id = id) := fun h => by simpa using h4.2 h
    rw [if_neg hi] at hf
    have HF := Lib.hid hf
    clear h4 hi hf
    go_wp2
    refine bodyPost_ret (v := .tuple #[nd0.v, .bool false]) (by simp [results, Tryz.results47, go_sem, hc1, hf1, hz, nd0]) rfl ⟨by rw [HF.out]; rfl, ?_⟩
    have hB := from_ (w := w) HB1.out (by (repeat (first | with_reducible exact Below.refl _ _ | with_reducible assumption | ((with_reducible refine Below.setCell ?_ ?_ _); rotate_left; focus (first | exact Nat.le_refl _ | omega | exact Below.size (by assumption) | (simp; done) | (simp; omega))) | ((with_reducible refine Below.alloc ?_ ?_ _); rotate_left; focus (first | exact Nat.le_refl _ | omega | exact Below.size (by assumption) | (simp; done) | (simp; omega))) | (with_reducible refine Below.drew ?_) | (with_reducible refine drewN_ ?_ _))))
    (repeat (first | with_reducible exact Below.refl _ _ | with_reducible assumption | ((with_reducible refine Below.setCell ?_ ?_ _); rotate_left; focus (first | exact Nat.le_refl _ | omega | exact Below.size (by assumption) | (simp; done) | (simp; omega))) | ((with_reducible refine Below.alloc ?_ ?_ _); rotate_left; focus (first | exact Nat.le_refl _ | omega | exact Below.size (by assumption) | (simp; done) | (simp; omega))) | (with_reducible refine Below.drew ?_) | (with_reducible refine drewN_ ?_ _)))
  | true =>
    have hi := h4.1 rfl
    rw [if_pos hi] at hf
    obtain ⟨hi1, hi2⟩ := hi
    obtain ⟨b, off, rfl, hb, hk0⟩ := nd_cells HN.out i (by have := HL.out; omega)
    have hk := hk0 i (by have := HL.out; omega)
    clear hk0
    generalize n.nodes[i]! = y at hk hf
    have HF := Lib.hid hf
    obtain ⟨k0, k1, k2⟩ := hk
    clear h4 hi2 hf
    have hb2 : b < w.heap.size + 1 + 1 := by omega
    go_wp2
    refine bodyPost_ret (v := .tuple #[y.v, .bool true]) (by simp [results, Tryz.results47, go_sem, hc1, hf1, hz]) rfl ⟨by rw [HF.out]; rfl, ?_⟩
    have hB := from_ (w := w) HB1.out (by (repeat (first | with_reducible exact Below.refl _ _ | with_reducible assumption | ((with_reducible refine Below.setCell ?_ ?_ _); rotate_left; focus (first | exact Nat.le_refl _ | omega | exact Below.size (by assumption) | (simp; done) | (simp; omega))) | ((with_reducible refine Below.alloc ?_ ?_ _); rotate_left; focus (first | exact Nat.le_refl _ | omega | exact Below.size (by assumption) | (simp; done) | (simp; omega))) | (with_reducible refine Below.drew ?_) | (with_reducible refine drewN_ ?_ _))))
    (repeat (first | with_reducible exact Below.refl _ _ | with_reducible assumption | ((with_reducible refine Below.setCell ?_ ?_ _); rotate_left; focus (first | exact Nat.le_refl _ | omega | exact Below.size (by assumption) | (simp; done) | (simp; omega))) | ((with_reducible refine Below.alloc ?_ ?_ _); rotate_left; focus (first | exact Nat.le_refl _ | omega | exact Below.size (by assumption) | (simp; done) | (simp; omega))) | (with_reducible refine Below.drew ?_) | (with_reducible refine drewN_ ?_ _)))
def idErr (now before : Int) : Int := if now < 1 ∨ now > 1073741824 then 27 else if now = before then 8 else if now < before then 7 else 0
def wideB (a : Int) : Bool := decide (a < -1048576) || decide (1048576 < a)
end Go.Proofs.YtmplajpbmojkkaaGreat
namespace Go.Proofs.YtmplajpbmojkkaaGreat
open Go Go.RowKit Go.Vi
def roadErr (l : List Nd) (r : Rd) : Int :=
  if (nodeOf l r.src).isSome = false ∨ (nodeOf l r.dst).isSome = false then 9 else if r.src = r.dst then 17 else
  if r.lim < 1 ∨ 1048576 < r.lim ∨ r.len < 1 ∨ 1073741824 < r.len ∨ r.len * r.len < (((nodeOf l r.src).getD nd0).x - ((nodeOf l r.dst).getD nd0).x) * (((nodeOf l r.src).getD nd0).x - ((nodeOf l r.dst).getD nd0).x) + (((nodeOf l r.src).getD nd0).y - ((nodeOf l r.dst).getD nd0).y) * (((nodeOf l r.src).getD nd0).y - ((nodeOf l r.dst).getD nd0).y)
  then 2 else 0
theorem sq_le (a b : Int) (h1 : -b ≤ a) (h2 : a ≤ b) : 0 ≤ a * a ∧ a * a ≤ b * b := by
  constructor
  · rcases Int.le_total 0 a with h | h
    · exact Int.mul_nonneg h h
    · exact Int.mul_nonneg_of_nonpos_of_nonpos h h
  · rcases Int.le_total 0 a with h | h
    · exact Int.mul_le_mul h2 h2 h (by omega)
    · have := Int.mul_le_mul (show -a ≤ b by omega) (show -a ≤ b by omega) (show 0 ≤ -a by omega) (show 0 ≤ b by omega)
      have e : -a * -a = a * a := Int.neg_mul_neg a a
      rw [e] at this
      exact this
def Near (a : Nd) : Prop := -1048576 ≤ a.x ∧ a.x ≤ 1048576 ∧ -1048576 ≤ a.y ∧ a.y ≤ 1048576
end Go.Proofs.YtmplajpbmojkkaaGreat
namespace Go.Proofs.YtmplajpbmojkkaaGreat
open Go Go.RowKit Go.Vi
def nodesErr : List Nd → Int → Int
  | [], _ => 0
  | x :: r, b => if idErr x.id b ≠ 0 then idErr x.id b else if (wideB x.x || wideB x.y) = true then 2 else nodesErr r x.id
def roadsErr (l : List Nd) : List Rd → Int → Int
  | [], _ => 0
  | x :: r, b => if idErr x.id b ≠ 0 then idErr x.id b else if roadErr l x ≠ 0 then roadErr l x else roadsErr l r x.id
def netErr (n : Net) : Int := if 256 < n.nodes.length ∨ 1024 < n.roads.length then 3 else if nodesErr n.nodes 0 ≠ 0 then nodesErr n.nodes 0 else roadsErr n.nodes n.roads 0
theorem idErr_zero {a b : Int} (h : idErr a b = 0) : 1 ≤ a ∧ a ≤ 1073741824 ∧ b < a := by
  unfold idErr at h
  split at h
  · simp at h
  · split at h
    · simp at h
    · split at h
      · simp at h
      · omega
theorem nodesErr_ok : ∀ (l : List Nd) (b : Int), nodesErr l b = 0 → (∀ i j, i < j → j < l.length → l[i]!.id < l[j]!.id) ∧ (∀ x ∈ l, b < x.id ∧ 1 ≤ x.id ∧ x.id ≤ 1073741824 ∧ Near x)
  | [], _, _ => ⟨fun i j _ h => by simp at h, fun x h => by cases h⟩
  | x :: r, b, h => by
    unfold nodesErr at h
    split at h
    · rename_i h1; exact absurd h h1
    · rename_i h1
      split at h
      · simp at h
      · rename_i h2
        obtain ⟨g1, g2, g3⟩ := idErr_zero (Classical.not_not.1 h1)
        obtain ⟨k1, k2⟩ := nodesErr_ok r x.id h
        have hn : Near x := by
          simp [wideB] at h2
          unfold Near; omega
        refine ⟨fun i j hij hj => ?_, fun y hy => ?_⟩
        · cases j with
          | zero => omega
          | succ j =>
            have hj' : j < r.length := by simpa using hj
            cases i with
            | zero =>
              have := (k2 r[j] (List.getElem_mem hj')).1
              show x.id < (r[j]!).id
              rw [getElem!_pos r j hj']; exact this
            | succ i => exact k1 i j (by omega) hj'
        · rcases List.mem_cons.1 hy with rfl | hy
          · exact ⟨g3, g1, g2, hn⟩
          · have := k2 y hy; exact ⟨by omega, this.2⟩
theorem near_of {l : List Nd} {b : Int} (h : nodesErr l b = 0) (id : Int) : Near ((nodeOf l id).getD nd0) := by
  have h2 := (nodesErr_ok l b h).2
  unfold nodeOf
  cases hf : l.find? fun x => x.id == id with
  | none => simp [nd0, Near]
  | some x => exact (h2 x (List.mem_of_find?_eq_some hf)).2.2.2
theorem nodesErr_at {l : List Nd} {k : Nat} (h : k < l.length) (b : Int) : nodesErr (l.drop k) b = if idErr l[k]!.id b ≠ 0 then idErr l[k]!.id b else if (wideB l[k]!.x || wideB l[k]!.y) = true then 2 else nodesErr (l.drop (k + 1)) l[k]!.id := by
  rw [List.drop_eq_getElem_cons h, getElem!_pos l k h]; rfl
theorem roadsErr_at {q : List Nd} {l : List Rd} {k : Nat} (h : k < l.length) (b : Int) : roadsErr q (l.drop k) b = if idErr l[k]!.id b ≠ 0 then idErr l[k]!.id b else if roadErr q l[k]! ≠ 0 then roadErr q l[k]! else roadsErr q (l.drop (k + 1)) l[k]!.id := by
  rw [List.drop_eq_getElem_cons h, getElem!_pos l k h]; rfl
theorem pick1 {a p q e : Int} (h : a = if p ≠ 0 then p else q) (hp : p = e) (he : e ≠ 0) : a = e := by rw [h, if_pos (by rw [hp]; exact he)]; exact hp
theorem pick2 {a p q e : Int} (h : a = if p ≠ 0 then p else q) (hp : p = 0) (hq : q = e) : a = e := by rw [h, if_neg (by simp [hp])]; exact hq
end Go.Proofs.YtmplajpbmojkkaaGreat
namespace Go.Proofs.YtmplajpbmojkkaaGreat
open Go Go.RowKit Go.Vi
theorem uNode : Tryz.prog.underlying 32 = some (.slice 88) := by kernel_rfl
theorem iNode : (Tryz.prog.info? 88).map (fun i => (i.zero, i.size, i.bytes)) = some (some (.agg #[.int .i64 0, .int .i64 0, .int .i64 0]), 3, 24) := by kernel_rfl
theorem uRoad : Tryz.prog.underlying 33 = some (.slice 90) := by kernel_rfl
theorem iRoad : (Tryz.prog.info? 90).map (fun i => (i.zero, i.size, i.bytes)) = some (some (.agg #[.int .i64 0, .int .i64 0, .int .i64 0, .int .i64 0, .int .i64 0, .bool false]), 6, 48) := by kernel_rfl
theorem nd_one : ∀ (L : List Nd), ∀ u ∈ (L.map Nd.cs).flatten, u.oneCell' = true := by
  intro L u hu
  obtain ⟨r, hr, h⟩ := List.mem_flatten.1 hu
  obtain ⟨x, _, rfl⟩ := List.mem_map.1 hr
  simp only [Nd.cs, List.mem_cons, List.mem_nil_iff, or_false] at h
  rcases h with h | h | h <;> rw [h] <;> rfl
theorem rd_one : ∀ (L : List Rd), ∀ u ∈ (L.map Rd.cs).flatten, u.oneCell' = true := by
  intro L u hu
  obtain ⟨r, hr, h⟩ := List.mem_flatten.1 hu
  obtain ⟨x, _, rfl⟩ := List.mem_map.1 hr
  simp only [Rd.cs, List.mem_cons, List.mem_nil_iff, or_false] at h
  rcases h with h | h | h | h | h | h <;> rw [h] <;> rfl
set_option maxHeartbeats 1000000 in
theorem cloneNode_any (L : List Nd) (v : Value) (w : World) (hv : Sl w.heap.size w 3 v (L.map Nd.cs)) (hsz : L.length ≤ 1000000) :
    Calls Tryz.prog 90 #[v] w fun e w' => (∃ v', e = .returned v' ∧ Ow w.heap.size w' 88 3 v' (L.map Nd.cs)) ∧ Below w.heap.size w w' := by
  obtain ⟨a, n, cap, rfl, hn, hn1, hn2⟩ := hv.open
  rw [List.length_map] at hn
  have hn3 : n ≤ 1000000 := by rw [← hn]; exact hsz
  have HN := Lib.hid hn; have HV := Lib.hid hv; clear hv hn hn2 hsz
  have hnil := fun W : World => Lib.run_eql_slice_nil (P := Tryz.prog) W 32 88 a n cap 0 0 uNode
  obtain ⟨i0, hi, hz0, hz1, hz2⟩ := info_parts iNode
  cases a with
  | none =>
    have hL := HV.out.none_
    have HL := Lib.hid hL
    clear hL
    go_enter Tryz.func90, Tryz.ntmps90
    go_wp2
    go_ret
    exact ⟨⟨_, rfl, by rw [HL.out]; exact Ow.nil _ _ _ _⟩, Below.refl _ _⟩
  | some ad =>
    obtain ⟨b, off, rfl, hb⟩ := HV.out.addr
    have h0 := World.ownsRow_lit (base := w.heap.size) (e := 88) (size := 3) w #[] 0 (Nat.le_refl _) (by decide) rfl
    have hnews := (HV.out.keep (w' := w.alloc (.cells #[] 88)) ((Below.refl _ _).alloc (Nat.le_refl _) _) (Nat.le_refl _)).news (by decide)
    have HW := Lib.hid hnews
    have H0 := Lib.hid h0
    have hlen : (L.map Nd.cs).flatten.length = n * 3 := by rw [flatten_len (k := 3) (by intro r hr; obtain ⟨x, _, rfl⟩ := List.mem_map.1 hr; rfl), List.length_map, HN.out]
    have HLen := Lib.hid hlen
    clear hnews h0 hlen
    go_enter Tryz.func90, Tryz.ntmps90
    go_wp2_with (at_builtin; refine wpList_append_own _ rfl _ _ 32 rfl w.heap.size 88 i0 _ 3 24 uNode hi hz0 hz1 hz2 rfl (by decide) _ _ _ rfl H0.out ⟨b, off, none⟩ n cap (L.map Nd.cs).flatten rfl HLen.out HW.out (nd_one L) (by unfold maxLen; omega) (by omega) (by simp) ?_; intro v' w' ho hg _)
    go_ret
    refine ⟨⟨_, rfl, ?_, ?_⟩, Below.grown ((Below.refl _ _).alloc (Nat.le_refl _) _) hg (by simp) (by intro k hk; cases hk; exact Nat.le_refl _)⟩
    · have ho' : w'.ownsRow w.heap.size 88 3 v' (0 + n) ([] ++ (L.map Nd.cs).flatten) := by simpa using ho
      rw [List.length_map, HN.out]
      simpa using ho'
    · intro r hr; obtain ⟨x, _, rfl⟩ := List.mem_map.1 hr; rfl
set_option maxHeartbeats 1000000 in
theorem cloneRoad_any (L : List Rd) (v : Value) (w : World) (hv : Sl w.heap.size w 6 v (L.map Rd.cs)) (hsz : L.length ≤ 1000000) :
    Calls Tryz.prog 91 #[v] w fun e w' => (∃ v', e = .returned v' ∧ Ow w.heap.size w' 90 6 v' (L.map Rd.cs)) ∧ Below w.heap.size w w' := by
  obtain ⟨a, n, cap, rfl, hn, hn1, hn2⟩ := hv.open
  rw [List.length_map] at hn
  have hn3 : n ≤ 1000000 := by rw [← hn]; exact hsz
  have HN := Lib.hid hn; have HV := Lib.hid hv; clear hv hn hn2 hsz
  have hnil := fun W : World => Lib.run_eql_slice_nil (P := Tryz.prog) W 33 90 a n cap 0 0 uRoad
  obtain ⟨i0, hi, hz0, hz1, hz2⟩ := info_parts iRoad
  cases a with
  | none =>
    have hL := HV.out.none_
    have HL := Lib.hid hL
    clear hL
    go_enter Tryz.func91, Tryz.ntmps91
    go_wp2
    go_ret
    exact ⟨⟨_, rfl, by rw [HL.out]; exact Ow.nil _ _ _ _⟩, Below.refl _ _⟩
  | some ad =>
    obtain ⟨b, off, rfl, hb⟩ := HV.out.addr
    have h0 := World.ownsRow_lit (base := w.heap.size) (e := 90) (size := 6) w #[] 0 (Nat.le_refl _) (by decide) rfl
    have hnews := (HV.out.keep (w' := w.alloc (.cells #[] 90)) ((Below.refl _ _).alloc (Nat.le_refl _) _) (Nat.le_refl _)).news (by decide)
    have HW := Lib.hid hnews
    have H0 := Lib.hid h0
    have hlen : (L.map Rd.cs).flatten.length = n * 6 := by rw [flatten_len (k := 6) (by intro r hr; obtain ⟨x, _, rfl⟩ := List.mem_map.1 hr; rfl), List.length_map, HN.out]
    have HLen := Lib.hid hlen
    clear hnews h0 hlen
    go_enter Tryz.func91, Tryz.ntmps91
    go_wp2_with (at_builtin; refine wpList_append_own _ rfl _ _ 33 rfl w.heap.size 90 i0 _ 6 48 uRoad hi hz0 hz1 hz2 rfl (by decide) _ _ _ rfl H0.out ⟨b, off, none⟩ n cap (L.map Rd.cs).flatten rfl HLen.out HW.out (rd_one L) (by unfold maxLen; omega) (by omega) (by simp) ?_; intro v' w' ho hg _)
    go_ret
    refine ⟨⟨_, rfl, ?_, ?_⟩, Below.grown ((Below.refl _ _).alloc (Nat.le_refl _) _) hg (by simp) (by intro k hk; cases hk; exact Nat.le_refl _)⟩
    · have ho' : w'.ownsRow w.heap.size 90 6 v' (0 + n) ([] ++ (L.map Rd.cs).flatten) := by simpa using ho
      rw [List.length_map, HN.out]
      simpa using ho'
    · intro r hr; obtain ⟨x, _, rfl⟩ := List.mem_map.1 hr; rfl
end Go.Proofs.YtmplajpbmojkkaaGreat
namespace Go.Proofs.YtmplajpbmojkkaaGreat
open Go Go.RowKit Go.Vi
set_option maxHeartbeats 1000000 in
theorem road_any (n : Net) (v1 v2 : Value) (id : Int) (w : World) (hN : NetAt w.heap.size w v1 v2 n) (hs : SrtR n.roads) (hsz : n.roads.length ≤ 1000000) :
    Calls Tryz.prog 64 #[.agg #[v1, v2], .int .i64 id] w fun e w' => e = .returned (.tuple #[((roadOf n.roads id).getD rd0).v, .bool (roadOf n.roads id).isSome]) ∧ Below w.heap.size w w' := by
  have HN := Lib.hid hN.2; clear hN
  obtain ⟨a, ln, cap, rfl, hl, _, _⟩ := HN.out.open
  rw [List.length_map] at hl
  have Hs := Lib.hid hs; clear hs
  have hln : ln ≤ 1000000 := by rw [← hl]; exact hsz
  have HL := Lib.hid hl; clear hl hsz
  go_enter Tryz.func64, Tryz.ntmps64
  go_wp2_with (go_at_call 80; refine (bsRoad_any n.roads _ _ _ _ _ HL.out (HN.out.later ?hb) hln (fun i j h1 h2 => ?hs)).mono ?_)
  case hb => (repeat (first | with_reducible exact Below.refl _ _ | with_reducible assumption | ((with_reducible refine Below.setCell ?_ ?_ _); rotate_left; focus (first | exact Nat.le_refl _ | omega | exact Below.size (by assumption) | (simp; done) | (simp; omega))) | ((with_reducible refine Below.alloc ?_ ?_ _); rotate_left; focus (first | exact Nat.le_refl _ | omega | exact Below.size (by assumption) | (simp; done) | (simp; omega))) | (with_reducible refine Below.drew ?_) | (with_reducible refine drewN_ ?_ _)))
  case hs =>
    rcases Nat.lt_or_ge i j with h | h
    · exact Int.le_of_lt (Hs.out i j h (by rw [HL.out]; exact h2))
    · obtain rfl : i = j := by omega
      exact Int.le_refl _
  rintro e w1 ⟨⟨i, b, h1, h2, h3, h4, rfl⟩, hb1⟩
  have hf := found_road (t := id) Hs.out (by rw [HL.out]; exact h1) h2 (by rw [HL.out]; exact h3)
  rw [HL.out] at hf
  have HB1 := Lib.hid hb1
  have hz : w.heap.size + 1 < w1.heap.size := by have := hb1.size; simp at this; omega
  obtain ⟨hc1, hf1⟩ := bcell hb1
  clear hb1 h2 h3
  cases b with
  | false =>
    have hi : ¬ (i < ln ∧ n.roads[i]!.id = id) := fun h => by simpa using h4.2 h
    rw [if_neg hi] at hf
    have HF := Lib.hid hf
    clear h4 hi hf
    go_wp2
    refine bodyPost_ret (v := .tuple #[rd0.v, .bool false]) ?_ rfl ⟨by rw [HF.out]; rfl, ?_⟩
    · simp [results, Tryz.results64, go_sem, hc1, hf1, hz, rd0]
    have hB := from_ (w := w) HB1.out (by (repeat (first | with_reducible exact Below.refl _ _ | with_reducible assumption | ((with_reducible refine Below.setCell ?_ ?_ _); rotate_left; focus (first | exact Nat.le_refl _ | omega | exact Below.size (by assumption) | (simp; done) | (simp; omega))) | ((with_reducible refine Below.alloc ?_ ?_ _); rotate_left; focus (first | exact Nat.le_refl _ | omega | exact Below.size (by assumption) | (simp; done) | (simp; omega))) | (with_reducible refine Below.drew ?_) | (with_reducible refine drewN_ ?_ _))))
    (repeat (first | with_reducible exact Below.refl _ _ | with_reducible assumption | ((with_reducible refine Below.setCell ?_ ?_ _); rotate_left; focus (first | exact Nat.le_refl _ | omega | exact Below.size (by assumption) | (simp; done) | (simp; omega))) | ((with_reducible refine Below.alloc ?_ ?_ _); rotate_left; focus (first | exact Nat.le_refl _ | omega | exact Below.size (by assumption) | (simp; done) | (simp; omega))) | (with_reducible refine Below.drew ?_) | (with_reducible refine drewN_ ?_ _)))
  | true =>
    have hi := h4.1 rfl
    rw [if_pos hi] at hf
    obtain ⟨hi1, hi2⟩ := hi
    obtain ⟨b, off, rfl, hb, hk0⟩ := rd_cells HN.out i (by have := HL.out; omega)
    have hk := hk0 i (by have := HL.out; omega)
    clear hk0
    generalize n.roads[i]! = y at hk hf
    have HF := Lib.hid hf
    obtain ⟨k0, k1, k2, k3, k4, k5⟩ := hk
    clear h4 hi2 hf
    have hb2 : b < w.heap.size + 1 + 1 := by omega
    go_wp2
    refine bodyPost_ret (v := .tuple #[y.v, .bool true]) (by simp [results, Tryz.results64, go_sem, hc1, hf1, hz]) rfl ⟨by rw [HF.out]; rfl, ?_⟩
    have hB := from_ (w := w) HB1.out (by (repeat (first | with_reducible exact Below.refl _ _ | with_reducible assumption | ((with_reducible refine Below.setCell ?_ ?_ _); rotate_left; focus (first | exact Nat.le_refl _ | omega | exact Below.size (by assumption) | (simp; done) | (simp; omega))) | ((with_reducible refine Below.alloc ?_ ?_ _); rotate_left; focus (first | exact Nat.le_refl _ | omega | exact Below.size (by assumption) | (simp; done) | (simp; omega))) | (with_reducible refine Below.drew ?_) | (with_reducible refine drewN_ ?_ _))))
    (repeat (first | with_reducible exact Below.refl _ _ | with_reducible assumption | ((with_reducible refine Below.setCell ?_ ?_ _); rotate_left; focus (first | exact Nat.le_refl _ | omega | exact Below.size (by assumption) | (simp; done) | (simp; omega))) | ((with_reducible refine Below.alloc ?_ ?_ _); rotate_left; focus (first | exact Nat.le_refl _ | omega | exact Below.size (by assumption) | (simp; done) | (simp; omega))) | (with_reducible refine Below.drew ?_) | (with_reducible refine drewN_ ?_ _)))
end Go.Proofs.YtmplajpbmojkkaaGreat
namespace Go.Vi
open Go Go.RowKit
theorem obj_drew {X : World} {b : Nat} {o : Obj} (h : X.heap[b]? = some o) : X.drew.heap[b]? = some o := h
theorem obj_drewN {X : World} {b n : Nat} {o : Obj} (h : X.heap[b]? = some o) : (X.drewN n).heap[b]? = some o := h
/-- The cells of a slice of rows. -/
theorem Sl.cells {α : Type} [Inhabited α] {cs : α → List Value} {B k n cap : Nat} {w : World} {a : Option Addr} {L : List α} (h : Sl B w k (.slice a n cap) (L.map cs)) (i : Nat) (hi : i < L.length) :
    ∃ b off, a = some ⟨b, off, none⟩ ∧ b < B ∧ ∀ j, j < L.length → ∀ (c : Nat) (x : Value), (cs L[j]!)[c]? = some x → w.cell? ⟨b, off + j * k + c, none⟩ = some x := by
  obtain ⟨b, off, h1, h2, h3⟩ := h.at i (by simpa using hi)
  refine ⟨b, off, h1, h2, fun j hj c x hx => ?_⟩
  refine h3 j (by simpa using hj) c x ?_
  rw [getElem!_pos L j hj] at hx
  simpa using hx
end Go.Vi
namespace Go.Proofs.YtmplajpbmojkkaaGreat
open Go Go.RowKit Go.Vi
/-- A spot's two numbers and a lane's five, as a grid's slices hold them. -/
structure Spt where (x y : Int)
structure Lne where (src dst extra limit : Int) (one : Bool)
instance : Inhabited Spt := ⟨⟨0, 0⟩⟩
instance : Inhabited Lne := ⟨⟨0, 0, 0, 0, false⟩⟩
def Spt.cs (s : Spt) : List Value := [.int .u8 s.x, .int .u8 s.y]
def Lne.cs (s : Lne) : List Value := [.int .u8 s.src, .int .u8 s.dst, .int .u8 s.extra, .int .u8 s.limit, .bool s.one]
def Byte (n : Int) : Prop := 0 ≤ n ∧ n ≤ 255
def Spt.fits (s : Spt) : Prop := Byte s.x ∧ Byte s.y
def Lne.fits (s : Lne) : Prop := Byte s.src ∧ Byte s.dst ∧ Byte s.extra ∧ Byte s.limit
/-- The network's box and its two rows. -/
structure NM (w0 : World) (bx : Nat) (v1 v2 : Value) (N : List Nd) (R : List Rd) (wr : World) : Prop where
  box : wr.heap[bx]? = some (.cells #[v1, v2] 35 (0, 0))
  own : Ow w0.heap.size wr 88 3 v1 (N.map Nd.cs)
  rds : Ow w0.heap.size wr 90 6 v2 (R.map Rd.cs)
  low : Below w0.heap.size w0 wr
  hbx : w0.heap.size ≤ bx
section
variable {w0 wr w' : World} {bx : Nat} {v1 v2 : Value} {N : List Nd} {R : List Rd}
theorem NM.keep (h : NM w0 bx v1 v2 N R wr) (hb : Below wr.heap.size wr w') : NM w0 bx v1 v2 N R w' :=
  ⟨keepObj hb h.box, h.own.keep hb, h.rds.keep hb, h.low.trans (hb.mono h.low.size), h.hbx⟩
theorem NM.off1 (h : NM w0 bx v1 v2 N R wr) : v1.ownBlock ≠ some bx := fun e => absurd (h.own.type _ e _ _ _ h.box) (by decide)
theorem NM.off2 (h : NM w0 bx v1 v2 N R wr) : v2.ownBlock ≠ some bx := fun e => absurd (h.rds.type _ e _ _ _ h.box) (by decide)
theorem rows_apart {B : Nat} {w : World} {e e' k k' : Nat} {v v' : Value} {A A' : List (List Value)} (h : Ow B w e k v A) (h' : Ow B w e' k' v' A') (hne : e ≠ e') : v'.ownBlock = none ∨ v'.ownBlock ≠ v.ownBlock := by
  cases hq : v'.ownBlock with
  | none => exact .inl rfl
  | some g =>
    right
    intro e2
    rcases h'.1.2 with ⟨q, _⟩ | ⟨g', cap, cur, q, _, hh, _⟩
    · rw [q] at hq; simp [Value.ownBlock] at hq
    · have hg : g' = g := by rw [q] at hq; simpa [Value.ownBlock] using hq
      have := h.type g e2.symm _ _ _ (hg ▸ hh)
      exact hne this.symm
/-- A node is appended, and the new slice stored. -/
theorem NM.addN (h : NM w0 bx v1 v2 N R wr) {x : Nd} {n g cap : Nat} (hn : n = N.length) (hg : wr.grownBy w' v1.ownBlock) (ho : w'.ownsRow w0.heap.size 88 3 (.slice (some ⟨g, 0, none⟩) (n + 1) cap) (n + 1) ((N.map Nd.cs).flatten ++ x.cs)) (hat : v1.ownBlock = some g ∨ wr.heap.size ≤ g) :
    NM w0 bx (.slice (some ⟨g, 0, none⟩) (n + 1) cap) v2 (N ++ [x]) R (w'.setCell ⟨bx, 0, none⟩ (.slice (some ⟨g, 0, none⟩) (n + 1) cap)) := by
  subst hn
  have hbox := obj_lt h.box
  have hb1 : w'.heap[bx]? = some (.cells #[v1, v2] 35 (0, 0)) := by rw [hg.block bx hbox (fun e => h.off1 e.symm)]; exact h.box
  have hne : g ≠ bx := by
    rcases hat with e | e
    · intro e2; exact h.off1 (by rw [e, e2])
    · omega
  have hO : Ow w0.heap.size w' 88 3 (.slice (some ⟨g, 0, none⟩) (N.length + 1) cap) ((N ++ [x]).map Nd.cs) := by
    rw [List.map_append]
    exact Ow.grow (R := N.map Nd.cs) (N := [x.cs]) (m := 1) (by rw [List.length_map]; simpa only [List.flatten_cons, List.flatten_nil, List.append_nil] using ho) rfl (fun r hr => by obtain ⟨y, _, rfl⟩ := List.mem_map.1 hr; rfl) (fun r hr => by simp at hr; subst hr; rfl)
  have hR := h.rds.kept hg (rows_apart h.own h.rds (by decide))
  refine ⟨obj_set hb1, hO.keepSet _ (fun e => hne (by simpa [Value.ownBlock] using e)) _, hR.keepSet _ (fun e => ?_) _, (h.low.grown hg h.low.size (fun b hb => (h.own.blk b hb).1)).setCell h.hbx _, h.hbx⟩
  exact absurd (hR.type _ e _ _ _ hb1) (by decide)
theorem NM.addR (h : NM w0 bx v1 v2 N R wr) {x : Rd} {n g cap : Nat} (hn : n = R.length) (hg : wr.grownBy w' v2.ownBlock) (ho : w'.ownsRow w0.heap.size 90 6 (.slice (some ⟨g, 0, none⟩) (n + 1) cap) (n + 1) ((R.map Rd.cs).flatten ++ x.cs)) (hat : v2.ownBlock = some g ∨ wr.heap.size ≤ g) :
    NM w0 bx v1 (.slice (some ⟨g, 0, none⟩) (n + 1) cap) N (R ++ [x]) (w'.setCell ⟨bx, 1, none⟩ (.slice (some ⟨g, 0, none⟩) (n + 1) cap)) := by
  subst hn
  have hbox := obj_lt h.box
  have hb1 : w'.heap[bx]? = some (.cells #[v1, v2] 35 (0, 0)) := by rw [hg.block bx hbox (fun e => h.off2 e.symm)]; exact h.box
  have hne : g ≠ bx := by
    rcases hat with e | e
    · intro e2; exact h.off2 (by rw [e, e2])
    · omega
  have hO : Ow w0.heap.size w' 90 6 (.slice (some ⟨g, 0, none⟩) (R.length + 1) cap) ((R ++ [x]).map Rd.cs) := by
    rw [List.map_append]
    exact Ow.grow (R := R.map Rd.cs) (N := [x.cs]) (m := 1) (by rw [List.length_map]; simpa only [List.flatten_cons, List.flatten_nil, List.append_nil] using ho) rfl (fun r hr => by obtain ⟨y, _, rfl⟩ := List.mem_map.1 hr; rfl) (fun r hr => by simp at hr; subst hr; rfl)
  have hN := h.own.kept hg (rows_apart h.rds h.own (by decide))
  refine ⟨obj_set hb1, hN.keepSet _ (fun e => ?_) _, hO.keepSet _ (fun e => hne (by simpa [Value.ownBlock] using e)) _, (h.low.grown hg h.low.size (fun b hb => (h.rds.blk b hb).1)).setCell h.hbx _, h.hbx⟩
  exact absurd (hN.type _ e _ _ _ hb1) (by decide)
end
theorem own_nd {B b : Nat} {w : World} {x : Nd} (hb : w.heap[b]? = some (.cells #[.int .i64 x.id, .int .i64 x.x, .int .i64 x.y] 88 (0, 0))) (hB : B ≤ b) : Ow B w 88 3 (.slice (some ⟨b, 0, none⟩) 1 1) ([x].map Nd.cs) :=
  ⟨⟨by simp [Nd.cs], .inr ⟨b, 1, _, rfl, hB, hb, Nat.le_refl _, by unfold maxLen; omega, rfl, by simp [Nd.cs]⟩⟩, fun r hr => by simp at hr; subst hr; rfl⟩
theorem nd_cell1 (x : Nd) : ∀ u ∈ x.cs, u.oneCell' = true := by
  intro u hu
  simp only [Nd.cs, List.mem_cons, List.mem_nil_iff, or_false] at hu
  rcases hu with h | h | h <;> rw [h] <;> rfl
theorem rd_cell1 (x : Rd) : ∀ u ∈ x.cs, u.oneCell' = true := by
  intro u hu
  simp only [Rd.cs, List.mem_cons, List.mem_nil_iff, or_false] at hu
  rcases hu with h | h | h | h | h | h <;> rw [h] <;> rfl
end Go.Proofs.YtmplajpbmojkkaaGreat
namespace Go.Proofs.YtmplajpbmojkkaaGreat
open Go Go.RowKit Go.Vi
theorem tmodByte {n m : Int} (h : Byte n) (hm : 1 ≤ m) (hm2 : m ≤ 255) : IntKind.u8.wrap (n.tmod m) = n.tmod m ∧ IntKind.i64.wrap (n.tmod m) = n.tmod m ∧ 0 ≤ n.tmod m ∧ n.tmod m < m := by
  obtain ⟨h1, h2⟩ := h
  have e : n.tmod m = n % m := Int.tmod_eq_emod_of_nonneg h1
  rw [e]
  have h3 : 0 ≤ n % m := Int.emod_nonneg _ (by omega)
  have h4 : n % m < m := Int.emod_lt_of_pos _ (by omega)
  refine ⟨?_, IntWalk.i64_in _ (by omega), h3, h4⟩
  unfold IntKind.wrap
  simp [IntKind.signed, IntKind.bits]
  omega
theorem tmodNat {x : Int} (h : Byte x) {n : Nat} (hn : 0 < n) : ∃ k : Nat, x.tmod (n : Int) = (k : Int) ∧ k < n := by
  obtain ⟨h1, h2⟩ := h
  have e : x.tmod (n : Int) = x % (n : Int) := Int.tmod_eq_emod_of_nonneg h1
  have h3 : 0 ≤ x % (n : Int) := Int.emod_nonneg _ (by omega)
  have h4 : x % (n : Int) < n := Int.emod_lt_of_pos _ (by omega)
  exact ⟨(x % (n : Int)).toNat, by rw [e]; omega, by omega⟩
theorem obj_setF5 {w : World} {b : Nat} {T : TypeId} {fr : Nat × Nat} {c0 c1 c2 c3 c4 v0 v1 v2 v3 v4 : Value} (h : w.heap[b]? = some (.cells #[c0, c1, c2, c3, c4] T fr)) : (((((w.setCell ⟨b, 0, none⟩ v0).setCell ⟨b, 1, none⟩ v1).setCell ⟨b, 2, none⟩ v2).setCell ⟨b, 3, none⟩ v3).setCell ⟨b, 4, none⟩ v4).heap[b]? = some (.cells #[v0, v1, v2, v3, v4] T fr) := by
  rw [obj_set (obj_set (obj_set (obj_set (obj_set h))))]
  simp
theorem obj_setF3 {w : World} {b : Nat} {T : TypeId} {fr : Nat × Nat} {c0 c1 c2 v0 v1 v2 : Value} (h : w.heap[b]? = some (.cells #[c0, c1, c2] T fr)) : (((w.setCell ⟨b, 0, none⟩ v0).setCell ⟨b, 1, none⟩ v1).setCell ⟨b, 2, none⟩ v2).heap[b]? = some (.cells #[v0, v1, v2] T fr) := by
  rw [obj_set (obj_set (obj_set h))]
  simp
/-- Nodes: the k-th one has the id 2 + 3 k, its coordinates are below 32. -/
def NdsIn (N : List Nd) : Prop := ∀ k, k < N.length → N[k]!.id = 2 + 3 * (k : Int) ∧ (0 ≤ N[k]!.x ∧ N[k]!.x ≤ 31) ∧ 0 ≤ N[k]!.y ∧ N[k]!.y ≤ 31
theorem get_app {α : Type} [Inhabited α] (L : List α) (x : α) (k : Nat) (h : k < L.length) : (L ++ [x])[k]! = L[k]! := by
  rw [getElem!_pos (L ++ [x]) k (by simp; omega), getElem!_pos L k h, List.getElem_append_left h]
theorem get_last {α : Type} [Inhabited α] (L : List α) (x : α) : (L ++ [x])[L.length]! = x := by
  rw [getElem!_pos (L ++ [x]) L.length (by simp)]
  simp
theorem NdsIn.one : NdsIn [⟨2, 0, 0⟩] := fun k hk => by
  have : k = 0 := by simp at hk; omega
  subst this
  exact ⟨rfl, ⟨by decide, by decide⟩, by decide, by decide⟩
theorem NdsIn.add {N : List Nd} (h : NdsIn N) {n : Nat} (hn : N.length = n) {id px py : Int} (hid : id = 2 + 3 * (n : Int)) (hx : 0 ≤ px ∧ px ≤ 31) (hy : 0 ≤ py ∧ py ≤ 31) : NdsIn (N ++ [⟨id, px, py⟩]) := by
  intro k hk
  by_cases hkn : k < N.length
  · rw [get_app _ _ _ hkn]; exact h k hkn
  · obtain rfl : k = N.length := by simp at hk; omega
    rw [get_last]
    exact ⟨by rw [hid, hn], hx, hy⟩
/-- Roads: the k-th one has the id 1 + 2 k, and is right. -/
def RdsIn (N : List Nd) (R : List Rd) : Prop := ∀ k, k < R.length → R[k]!.id = 1 + 2 * (k : Int) ∧ roadErr N R[k]! = 0
theorem RdsIn.nil (N : List Nd) : RdsIn N [] := fun k hk => by simp at hk
theorem RdsIn.add {N : List Nd} {R : List Rd} (h : RdsIn N R) {n : Nat} (hn : R.length = n) {x : Rd} (hid : x.id = 1 + 2 * (n : Int)) (hx : roadErr N x = 0) : RdsIn N (R ++ [x]) := by
  intro k hk
  by_cases hkn : k < R.length
  · rw [get_app _ _ _ hkn]; exact h k hkn
  · obtain rfl : k = R.length := by simp at hk; omega
    rw [get_last]
    exact ⟨by rw [hid, hn], hx⟩
theorem nodeOf_mem {l : List Nd} (hs : SrtN l) {i : Nat} (hi : i < l.length) : nodeOf l l[i]!.id = some l[i]! := by
  unfold nodeOf
  rw [getElem!_pos l i hi, List.find?_eq_some_iff_getElem]
  refine ⟨by simp, i, hi, rfl, fun j hj => ?_⟩
  have := hs j i hj hi
  rw [getElem!_pos l i hi, getElem!_pos l j (by omega)] at this
  simp; omega
theorem NdsIn.srt {N : List Nd} (h : NdsIn N) : SrtN N := fun i j hij hj => by
  have h1 := (h i (by omega)).1
  have h2 := (h j hj).1
  omega
theorem NdsIn.road {N : List Nd} (h : NdsIn N) {a b : Nd} {i j : Nat} (hi : i < N.length) (hj : j < N.length) (ha : a = N[i]!) (hb : b = N[j]!) (hne : a.id ≠ b.id) {id len lim : Int} {one : Bool} (h1 : 1 ≤ lim) (h2 : lim ≤ 1048576) (h3 : 1 ≤ len) (h4 : len ≤ 1073741824) (h5 : (a.x - b.x) * (a.x - b.x) + (a.y - b.y) * (a.y - b.y) ≤ len * len) : roadErr N ⟨id, a.id, b.id, len, lim, one⟩ = 0 := by
  have e1 : nodeOf N a.id = some a := by rw [ha]; exact nodeOf_mem h.srt hi
  have e2 : nodeOf N b.id = some b := by rw [hb]; exact nodeOf_mem h.srt hj
  unfold roadErr
  rw [e1, e2]
  simp only [Option.isSome_some, Option.getD_some]
  rw [if_neg (by simp), if_neg hne, if_neg (by omega)]
theorem idErr_ok {a b : Int} (h1 : 1 ≤ a) (h2 : a ≤ 1073741824) (h3 : b < a) : idErr a b = 0 := by
  unfold idErr
  rw [if_neg (by omega), if_neg (by omega), if_neg (by omega)]
theorem NdsIn.err {N : List Nd} (h : NdsIn N) (h8 : N.length ≤ 8) : ∀ (m k : Nat) (b : Int), k + m = N.length → b < 2 + 3 * (k : Int) → nodesErr (N.drop k) b = 0
  | 0, k, b, hk, _ => by rw [List.drop_of_length_le (by omega)]; rfl
  | m + 1, k, b, hk, hb => by
    have hkl : k < N.length := by omega
    obtain ⟨q1, q2, q3⟩ := h k hkl
    have q := h.err h8 m (k + 1) N[k]!.id (by omega) (by omega)
    rw [nodesErr_at hkl b, idErr_ok (by omega) (by omega) (by omega)]
    generalize N[k]! = y at q1 q2 q3 q
    have hw : (wideB y.x || wideB y.y) = false := by
      unfold wideB
      simp
      omega
    rw [hw, q]
    rfl
theorem RdsIn.err {N : List Nd} {R : List Rd} (h : RdsIn N R) (h8 : R.length ≤ 1000) : ∀ (m k : Nat) (b : Int), k + m = R.length → b < 1 + 2 * (k : Int) → roadsErr N (R.drop k) b = 0
  | 0, k, b, hk, _ => by rw [List.drop_of_length_le (by omega)]; rfl
  | m + 1, k, b, hk, hb => by
    have hkl : k < R.length := by omega
    obtain ⟨q1, q2⟩ := h k hkl
    have q := h.err h8 m (k + 1) R[k]!.id (by omega) (by omega)
    rw [roadsErr_at hkl b, idErr_ok (by omega) (by omega) (by omega), q2, q]
    rfl
theorem netErr_in {N : List Nd} {R : List Rd} (hN : NdsIn N) (h8 : N.length ≤ 8) (hR : RdsIn N R) (hR8 : R.length ≤ 1000) : netErr ⟨N, R⟩ = 0 := by
  unfold netErr
  have e1 := hN.err h8 N.length 0 0 (by omega) (by omega)
  have e2 := hR.err hR8 R.length 0 0 (by omega) (by omega)
  simp only [List.drop_zero] at e1 e2
  rw [if_neg (by simp; omega)]
  simp [e1, e2]
theorem uLane : Tryz.prog.underlying 23 = some (.slice 147) := by kernel_rfl
theorem iLane : (Tryz.prog.info? 147).map (fun i => (i.zero, i.size, i.bytes)) = some (some (.agg #[.int .u8 0, .int .u8 0, .int .u8 0, .int .u8 0, .bool false]), 5, 5) := by kernel_rfl
theorem flat_take {R : List (List Value)} (m : Nat) {j : Nat} {u : Value} (h : (R.take m).flatten[j]? = some u) : R.flatten[j]? = some u := by
  have e : R.flatten = (R.take m).flatten ++ (R.drop m).flatten := by rw [← List.flatten_append, List.take_append_drop]
  rw [e, List.getElem?_append_left (List.getElem?_eq_some_iff.1 h).1]
  exact h
theorem lne_one (L : List Lne) : ∀ u ∈ (L.map Lne.cs).flatten, u.oneCell' = true := by
  intro u hu
  obtain ⟨r, hr, hu⟩ := List.mem_flatten.1 hu
  obtain ⟨x, _, rfl⟩ := List.mem_map.1 hr
  simp only [Lne.cs, List.mem_cons, List.mem_nil_iff, or_false] at hu
  rcases hu with h | h | h | h | h <;> rw [h] <;> rfl
theorem lane_own {B : Nat} {w : World} {v : Value} {L : List Lne} {m : Nat} (hm : L.length = m) (h : w.ownsRow B 147 5 v (0 + m) ([] ++ (L.map Lne.cs).flatten)) : Ow B w 147 5 v (L.map Lne.cs) := by
  refine ⟨?_, fun r hr => by obtain ⟨x, _, rfl⟩ := List.mem_map.1 hr; rfl⟩
  rw [List.length_map, hm]
  simpa using h
/-- The lanes' row beside the network while a road is appended. -/
theorem NM.lane {w0 wr w' : World} {bx : Nat} {v1 v2 v9 : Value} {N : List Nd} {R : List Rd} {rows : List (List Value)} (h : NM w0 bx v1 v2 N R wr) (hL : Ow w0.heap.size wr 147 5 v9 rows) (hg : wr.grownBy w' v2.ownBlock) (u : Value) : Ow w0.heap.size (w'.setCell ⟨bx, 1, none⟩ u) 147 5 v9 rows := by
  have hbox := obj_lt h.box
  have hb1 : w'.heap[bx]? = some (.cells #[v1, v2] 35 (0, 0)) := by rw [hg.block bx hbox (fun e => h.off2 e.symm)]; exact h.box
  have hK := hL.kept hg (rows_apart h.rds hL (by decide))
  exact hK.keepSet _ (fun e => absurd (hK.type _ e _ _ _ hb1) (by decide)) _
end Go.Proofs.YtmplajpbmojkkaaGreat
