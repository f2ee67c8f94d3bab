/-
  cmp.Or at ints, and the two closures of shortest.hops.
  Least lengths: the plain law of Dijkstra's way.
  Binary heaps on lists: the plain laws of up and down.
  network.Reverse, walked.
-/
import Derived.Test.YtmplajpbmojkkaaGreatNetA
import Derived.Deep.RegionHeld3
import Derived.Sort.Grow
import Derived.Test.YtmplajpbmojkkaaGreatMemA
import Derived.Deep.DeepCutAuto
set_option linter.unusedSimpArgs false
set_option linter.unusedVariables false
namespace Go.Proofs.YtmplajpbmojkkaaGreat
open Go Go.RowKit Go.Vi
def orI : List Int → Int
  | [] => 0
  | x :: r => if x = 0 then orI r else x
theorem orI_at {L : List Int} {k : Nat} (h : k < L.length) : orI (L.drop k) = if L[k]! = 0 then orI (L.drop (k + 1)) else L[k]! := by
  rw [List.drop_eq_getElem_cons h, getElem!_pos L k h]; rfl
set_option maxHeartbeats 1000000 in
theorem or_any (L : List Int) (b n cap : Nat) (w : World) (hn : L.length = n) (hn1 : n ≤ 1000) (hc : ∀ i, i < n → w.cell? ⟨b, i, none⟩ = some (.int .i64 L[i]!)) :
    Calls Tryz.prog 23 #[.slice (some ⟨b, 0, none⟩) n cap] w fun e w' => e = .returned (.int .i64 (orI L)) ∧ w = w' := by
  have HN := Lib.hid hn
  have HC := Lib.hid hc
  clear hn hc
  go_enter Tryz.func23, Tryz.ntmps23
  go_wp2
  go_loop [8] (fun s8 => ∃ k : Nat, s8 = .int .i64 k ∧ k ≤ n ∧ Hid (orI L = orI (L.drop k))) (fun s8 => n - (intOf s8).toNat)
  case atStart => exact ⟨0, rfl, Nat.zero_le _, rfl⟩
  case round =>
    obtain ⟨k, rfl, hk, hE⟩ := hrel
    by_cases hlt : k < n
    · have hE2 := orI_at (L := L) (k := k) (by rw [HN.out]; exact hlt)
      have c0 := HC.out k hlt
      generalize L[k]! = x at c0 hE2
      have HE2 := Lib.hid hE2
      clear hE2
      by_cases hx : x = 0
      · have hx' : (x != 0) = false := by simpa using hx
        go_wp2
        go_round
        case rel => exact ⟨k + 1, by go_num, by omega, by show orI L = _; rw [hE.out, HE2.out, if_pos hx]⟩
        case measure => simp [intOf]; omega
      · have hx' : (x != 0) = true := by simpa using hx
        go_wp2
        go_ret
        exact ⟨by rw [hE.out, HE2.out, if_neg hx]; rfl, rfl⟩
    · obtain rfl : k = n := by omega
      go_wp2
      go_ret
      exact ⟨by rw [hE.out, List.drop_eq_nil_of_le (by rw [HN.out]; exact Nat.le_refl _)]; rfl, rfl⟩
/-- A hop. -/
structure Hp where (dst road len : Int)
instance : Inhabited Hp := ⟨⟨0, 0, 0⟩⟩
def Hp.cs (x : Hp) : List Value := [.int .i64 x.dst, .int .i64 x.road, .int .i64 x.len]
abbrev Hp.v (x : Hp) : Value := .agg #[.int .i64 x.dst, .int .i64 x.road, .int .i64 x.len]
def hpCmp (a b : Hp) : Int := orI [cmpI a.dst b.dst, cmpI a.len b.len, cmpI a.road b.road]
theorem grown3 (w : World) (A B C : Obj) : (((w.alloc A).alloc B).alloc C).drew = Sort.grow (w.drewN 1) #[A, B, C] := by
  rw [Sort.alloc_eq_grow, Sort.alloc_eq_grow, Sort.alloc_eq_grow, Sort.grow_grow, Sort.grow_grow]; rfl
set_option maxHeartbeats 1000000 in
theorem hops1_any (a b : Hp) (w : World) : Calls Tryz.prog 93 #[a.v, b.v] w fun e w' => e = .returned (.int .i64 (hpCmp a b)) ∧ ∃ q os, w' = Sort.grow (w.drewN q) os := by
  go_enter Tryz.func93, Tryz.ntmps93
  go_wp2_with fail
  go_region_held3 (fun w' => w'.cell? ⟨w.heap.size, 0, none⟩ = some (.int .i64 a.dst) ∧ w'.cell? ⟨w.heap.size, 1, none⟩ = some (.int .i64 a.road) ∧ w'.cell? ⟨w.heap.size, 2, none⟩ = some (.int .i64 a.len) ∧ w'.cell? ⟨w.heap.size + 1, 0, none⟩ = some (.int .i64 b.dst) ∧ w'.cell? ⟨w.heap.size + 1, 1, none⟩ = some (.int .i64 b.road) ∧ w'.cell? ⟨w.heap.size + 1, 2, none⟩ = some (.int .i64 b.len)) (go_keep)
    (first
      | (go_at_call 24; refine (cmp_any _ _ _).mono ?_; rintro e w' ⟨rfl, rfl⟩)
      | (go_at_call 23; refine (or_any [cmpI a.dst b.dst, cmpI a.len b.len, cmpI a.road b.road] _ 3 _ _ rfl (by decide) (by intro i hi; rcases i with _ | _ | _ | i <;> first | (simp [go_sem]; done) | omega)).mono ?_; rintro e w' ⟨rfl, rfl⟩))
  go_wp2
  go_ret
  exact ⟨rfl, 1, _, grown3 _ _ _ _⟩
theorem hops2_any (a b : Hp) (w : World) : Calls Tryz.prog 95 #[a.v, b.v] w fun e w' => e = .returned (.bool (a.dst == b.dst)) ∧ Below w.heap.size w w' := by
  go_enter Tryz.func95, Tryz.ntmps95
  go_wp2
  go_ret
  exact ⟨rfl, (by (repeat (first | with_reducible exact Below.refl _ _ | with_reducible assumption | ((with_reducible refine Below.setCell ?_ ?_ _); rotate_left; focus (first | exact Nat.le_refl _ | omega | exact Below.size (by assumption) | (simp; done) | (simp; omega))) | ((with_reducible refine Below.alloc ?_ ?_ _); rotate_left; focus (first | exact Nat.le_refl _ | omega | exact Below.size (by assumption) | (simp; done) | (simp; omega))) | (with_reducible refine Below.drew ?_) | (with_reducible refine drewN_ ?_ _))))⟩
end Go.Proofs.YtmplajpbmojkkaaGreat
namespace Go.Proofs.YtmplajpbmojkkaaGreat
open Go Go.Vi
/-- A walk from s: its end and its length. -/
inductive Walk (A : Int → List Hp) (s : Int) : Int → Int → Prop
  | nil : Walk A s s 0
  | snoc {u d : Int} {h : Hp} : Walk A s u d → h ∈ A u → Walk A s h.dst (d + h.len)
def Least (A : Int → List Hp) (s v d : Int) : Prop := Walk A s v d ∧ ∀ d', Walk A s v d' → d ≤ d'
theorem Least.unique {A : Int → List Hp} {s v d d' : Int} (h : Least A s v d) (h' : Least A s v d') : d = d' := by
  have a := h.2 _ h'.1
  have b := h'.2 _ h.1
  omega
/-- What holds between two pops: D the lengths settled, L what waits; v's hops from place i on are still to be looked at. -/
structure DInv (A : Int → List Hp) (s : Int) (D : List (Int × Int)) (L : List Hp) (v : Int) (i : Nat) : Prop where
  settled : ∀ u d, Vi.look D u = some d → Least A s u d
  waits : ∀ h ∈ L, Walk A s h.dst h.len
  edges : ∀ u d, Vi.look D u = some d → ∀ j (hj : j < (A u).length), (u = v → j < i) → (∃ d', Vi.look D (A u)[j].dst = some d') ∨ ∃ q ∈ L, q.dst = (A u)[j].dst ∧ q.len ≤ d + (A u)[j].len
  start : (∃ d, Vi.look D s = some d) ∨ ∃ q ∈ L, q.dst = s ∧ q.len ≤ 0
theorem walk_nonneg {A : Int → List Hp} (hA : ∀ u, ∀ h ∈ A u, 0 ≤ h.len) {s v d : Int} (h : Walk A s v d) : 0 ≤ d := by
  induction h with
  | nil => exact Int.le_refl _
  | snoc _ hm ih => have := hA _ _ hm; omega
theorem dinv_start (A : Int → List Hp) (s v : Int) (i : Nat) (r : Int) : DInv A s [] [⟨s, r, 0⟩] v i :=
  ⟨fun u d h => by simp [Vi.look] at h, fun h hh => by simp at hh; subst hh; exact .nil, fun u d h => by simp [Vi.look] at h, .inr ⟨⟨s, r, 0⟩, by simp, rfl, Int.le_refl _⟩⟩
/-- Every walk's end is settled, or something on the way waits and is no longer. -/
theorem dinv_walk {A : Int → List Hp} (hA : ∀ u, ∀ h ∈ A u, 0 ≤ h.len) {s : Int} {D : List (Int × Int)} {L : List Hp} {v : Int} (h : DInv A s D L v (A v).length) {x d : Int} (hw : Walk A s x d) :
    (∃ d', Vi.look D x = some d') ∨ ∃ q ∈ L, q.len ≤ d ∧ Vi.look D q.dst = none := by
  induction hw with
  | nil =>
    rcases h.start with h1 | ⟨q, hq, h2, h3⟩
    · exact .inl h1
    · cases hl : Vi.look D q.dst with
      | none => exact .inr ⟨q, hq, h3, hl⟩
      | some d' => left; rw [h2] at hl; exact ⟨d', hl⟩
  | @snoc u d g hw hm ih =>
    have hg := hA _ _ hm
    rcases ih with ⟨d', h1⟩ | ⟨q, hq, h2, h3⟩
    · obtain ⟨j, hj, rfl⟩ := List.getElem_of_mem hm
      rcases h.edges u d' h1 j hj (fun e => by subst e; exact hj) with h2 | ⟨q, hq, h3, h4⟩
      · exact .inl h2
      · cases hl : Vi.look D q.dst with
        | none =>
          have := (h.settled u d' h1).2 _ hw
          exact .inr ⟨q, hq, by omega, hl⟩
        | some d2 => left; rw [h3] at hl; exact ⟨d2, hl⟩
    · exact .inr ⟨q, hq, by omega, h3⟩
/-- A pop of what is settled already. -/
theorem dinv_skip {A : Int → List Hp} {s : Int} {D : List (Int × Int)} {L L' : List Hp} {v : Int} {q : Hp} {i : Nat} (h : DInv A s D L v i) (hp : (q :: L').Perm L) (hq : ∃ d, Vi.look D q.dst = some d) : DInv A s D L' v i := by
  have hm : ∀ x ∈ L, x = q ∨ x ∈ L' := fun x hx => by have := hp.mem_iff.2 hx; simpa using this
  refine ⟨h.settled, fun x hx => h.waits x (hp.mem_iff.1 (List.mem_cons_of_mem _ hx)), fun u d hu j hj hji => ?_, ?_⟩
  · rcases h.edges u d hu j hj hji with h1 | ⟨x, hx, h2, h3⟩
    · exact .inl h1
    · rcases hm x hx with rfl | hx'
      · left; rw [← h2]; exact hq
      · exact .inr ⟨x, hx', h2, h3⟩
  · rcases h.start with h1 | ⟨x, hx, h2, h3⟩
    · exact .inl h1
    · rcases hm x hx with rfl | hx'
      · left; rw [← h2]; exact hq
      · exact .inr ⟨x, hx', h2, h3⟩
/-- A pop of what is not: it is settled; its own hops are to be looked at from the first on. -/
theorem dinv_settle {A : Int → List Hp} (hA : ∀ u, ∀ h ∈ A u, 0 ≤ h.len) {s : Int} {D : List (Int × Int)} {L L' : List Hp} {v : Int} {q : Hp} (h : DInv A s D L v (A v).length) (hp : (q :: L').Perm L) (hmin : ∀ x ∈ L, q.len ≤ x.len) (hq : Vi.look D q.dst = none) :
    DInv A s (put D q.dst q.len) L' q.dst 0 := by
  have hm : ∀ x ∈ L, x = q ∨ x ∈ L' := fun x hx => by have := hp.mem_iff.2 hx; simpa using this
  have hqL : q ∈ L := hp.mem_iff.1 List.mem_cons_self
  have hl : Least A s q.dst q.len := by
    refine ⟨h.waits q hqL, fun d' hw => ?_⟩
    rcases dinv_walk hA h hw with ⟨d2, h1⟩ | ⟨x, hx, h1, _⟩
    · rw [hq] at h1; cases h1
    · have := hmin x hx; omega
  have hkeep : ∀ u d, Vi.look D u = some d → ∃ d', Vi.look (put D q.dst q.len) u = some d' := fun u d hu => by
    rw [look_put]; split
    · exact ⟨_, rfl⟩
    · exact ⟨d, hu⟩
  refine ⟨fun u d hu => ?_, fun x hx => h.waits x (hp.mem_iff.1 (List.mem_cons_of_mem _ hx)), fun u d hu j hj hji => ?_, ?_⟩
  · rw [look_put] at hu
    split at hu
    · rename_i e; subst e; injection hu with hu; subst hu; exact hl
    · exact h.settled u d hu
  · rw [look_put] at hu
    split at hu
    · rename_i e; subst e; exact absurd (hji rfl) (Nat.not_lt_zero _)
    · rename_i e
      rcases h.edges u d hu j hj (fun e2 => by subst e2; exact hj) with ⟨d', h1⟩ | ⟨x, hx, h2, h3⟩
      · exact .inl (hkeep _ _ h1)
      · rcases hm x hx with rfl | hx'
        · left; rw [look_put, if_pos h2.symm]; exact ⟨_, rfl⟩
        · exact .inr ⟨x, hx', h2, h3⟩
  · rcases h.start with ⟨d, h1⟩ | ⟨x, hx, h2, h3⟩
    · exact .inl (hkeep _ _ h1)
    · rcases hm x hx with rfl | hx'
      · left; rw [look_put, if_pos h2.symm]; exact ⟨_, rfl⟩
      · exact .inr ⟨x, hx', h2, h3⟩
/-- A hop of the settled node is looked at: its end is settled, or it waits now. -/
theorem dinv_seen {A : Int → List Hp} {s : Int} {D : List (Int × Int)} {L : List Hp} {v : Int} {i : Nat} (h : DInv A s D L v i) (hi : i < (A v).length) (hs : ∃ d, Vi.look D (A v)[i].dst = some d) : DInv A s D L v (i + 1) :=
  ⟨h.settled, h.waits, fun u d hu j hj hji => by
    by_cases hc : u = v ∧ j = i
    · obtain ⟨rfl, rfl⟩ := hc; exact .inl hs
    · exact h.edges u d hu j hj (fun e => by have := hji e; have : j ≠ i := fun e2 => hc ⟨e, e2⟩; omega), h.start⟩
theorem dinv_push {A : Int → List Hp} {s : Int} {D : List (Int × Int)} {L L' : List Hp} {v dv r : Int} {i : Nat} (h : DInv A s D L v i) (hi : i < (A v).length) (hv : Vi.look D v = some dv) (hp : L'.Perm (⟨(A v)[i].dst, r, dv + (A v)[i].len⟩ :: L)) : DInv A s D L' v (i + 1) := by
  have hin : ∀ x ∈ L, x ∈ L' := fun x hx => hp.mem_iff.2 (List.mem_cons_of_mem _ hx)
  refine ⟨h.settled, fun x hx => ?_, fun u d hu j hj hji => ?_, ?_⟩
  · rcases List.mem_cons.1 (hp.mem_iff.1 hx) with rfl | hx'
    · exact .snoc (h.settled v dv hv).1 (List.getElem_mem hi)
    · exact h.waits x hx'
  · by_cases hc : u = v ∧ j = i
    · obtain ⟨rfl, rfl⟩ := hc
      rw [hv] at hu; injection hu with hu; subst hu
      exact .inr ⟨_, hp.mem_iff.2 List.mem_cons_self, rfl, Int.le_refl _⟩
    · rcases h.edges u d hu j hj (fun e => by have := hji e; have : j ≠ i := fun e2 => hc ⟨e, e2⟩; omega) with h1 | ⟨x, hx, h2, h3⟩
      · exact .inl h1
      · exact .inr ⟨x, hin x hx, h2, h3⟩
  · rcases h.start with h1 | ⟨x, hx, h2, h3⟩
    · exact .inl h1
    · exact .inr ⟨x, hin x hx, h2, h3⟩
/-- When nothing waits any more: the lengths are the least ones, of all ends. -/
theorem dinv_done {A : Int → List Hp} (hA : ∀ u, ∀ h ∈ A u, 0 ≤ h.len) {s : Int} {D : List (Int × Int)} {v : Int} (h : DInv A s D [] v (A v).length) : ∀ x d, Vi.look D x = some d ↔ Least A s x d := by
  intro x d
  refine ⟨h.settled x d, fun hl => ?_⟩
  rcases dinv_walk hA h hl.1 with ⟨d', h1⟩ | ⟨q, hq, _⟩
  · rw [h1, (h.settled x d' h1).unique hl]
  · cases hq
end Go.Proofs.YtmplajpbmojkkaaGreat
namespace Go.Vi
open Go
variable {α : Type} [Inhabited α]
def swpL (L : List α) (i j : Nat) : List α := (L.set i L[j]!).set j L[i]!
theorem swpL_len (L : List α) (i j : Nat) : (swpL L i j).length = L.length := by simp [swpL]
theorem swpL_get {L : List α} {i j : Nat} (hi : i < L.length) (hj : j < L.length) (k : Nat) : (swpL L i j)[k]! = if k = j then L[i]! else if k = i then L[j]! else L[k]! := by
  unfold swpL
  by_cases hk : k < L.length
  · rw [getElem!_pos _ k (by simpa using hk), List.getElem_set]
    by_cases h1 : j = k
    · simp [h1]
    · rw [if_neg h1, if_neg (fun e => h1 e.symm), List.getElem_set]
      by_cases h2 : i = k
      · simp [h2]
      · rw [if_neg h2, if_neg (fun e => h2 e.symm), getElem!_pos L k hk]
  · rw [if_neg (by omega), if_neg (by omega), getElem!_neg _ k (by simpa using hk), getElem!_neg L k hk]
theorem swpL_perm {L : List α} {i j : Nat} (hi : i < L.length) (hj : j < L.length) : (swpL L i j).Perm L := by
  have h := Array.swap_perm (xs := L.toArray) (i := i) (j := j) (by simpa using hi) (by simpa using hj)
  have e : (L.toArray.swap i j (by simpa using hi) (by simpa using hj)).toList = swpL L i j := by
    simp [Array.swap, swpL, getElem!_pos L i hi, getElem!_pos L j hj]
  rw [← e]
  exact Array.perm_iff_toList_perm.1 h
/-- The parent's place. -/
def par (k : Nat) : Nat := (k - 1) / 2
/-- Heap order by f below n, but for the pairs named. -/
def HeapBut (f : α → Int) (L : List α) (n : Nat) (ex : Nat → Prop) : Prop := ∀ k, 0 < k → k < n → ¬ex k → f L[par k]! ≤ f L[k]!
def HeapOK (f : α → Int) (L : List α) : Prop := HeapBut f L L.length fun _ => False
theorem heap_min {f : α → Int} {L : List α} {n : Nat} (h : HeapBut f L n fun _ => False) : ∀ k, k < n → f L[0]! ≤ f L[k]! := by
  intro k
  induction k using Nat.strongRecOn with
  | ind k ih =>
    intro hk
    rcases Nat.eq_zero_or_pos k with rfl | hp
    · exact Int.le_refl _
    · have h1 := ih (par k) (by unfold par; omega) (by unfold par; omega)
      have h2 := h k hp hk (fun h => h)
      omega
/-- Rising: all but j's pair with its parent, and j's children are no less than j's parent. -/
def Rising (f : α → Int) (L : List α) (j : Nat) : Prop := j < L.length ∧ HeapBut f L L.length (fun k => k = j) ∧ ∀ k, 0 < k → k < L.length → par k = j → 0 < j → f L[par j]! ≤ f L[k]!
theorem rising_done {f : α → Int} {L : List α} {j : Nat} (h : Rising f L j) (hj : j = 0 ∨ ¬f L[j]! < f L[par j]!) : HeapOK f L := by
  intro k hk hn _
  by_cases hkj : k = j
  · subst hkj
    rcases hj with hj | hj
    · omega
    · omega
  · exact h.2.1 k hk hn hkj
theorem rising_step {f : α → Int} {L : List α} {j : Nat} (h : Rising f L j) (hj : 0 < j) (hlt : f L[j]! < f L[par j]!) : Rising f (swpL L (par j) j) (par j) := by
  obtain ⟨h1, h2, h3⟩ := h
  have hp : par j < L.length := by unfold par; omega
  have hpj : par j ≠ j := by unfold par; omega
  refine ⟨by rw [swpL_len]; exact hp, fun k hk hn he => ?_, fun k hk hn hpk hpp => ?_⟩
  · rw [swpL_len] at hn
    rw [swpL_get hp h1, swpL_get hp h1]
    by_cases a : k = j
    · subst a
      rw [if_neg hpj, if_pos rfl, if_pos rfl]
      omega
    · rw [if_neg a, if_neg he]
      by_cases b : par k = j
      · rw [if_pos b]
        have := h3 k hk hn b hj
        exact this
      · rw [if_neg b]
        by_cases c : par k = par j
        · rw [if_pos c]
          have := h2 k hk hn a
          rw [c] at this; omega
        · rw [if_neg c]
          exact h2 k hk hn a
  · rw [swpL_len] at hn
    have hpp2 : par (par j) < L.length := by unfold par; omega
    rw [swpL_get hp h1, swpL_get hp h1]
    have q1 : par (par j) ≠ j := by unfold par at hpp ⊢; omega
    have q2 : par (par j) ≠ par j := by unfold par at hpp ⊢; omega
    rw [if_neg q1, if_neg q2]
    have hb := h2 (par j) hpp hp hpj
    by_cases a : k = j
    · rw [if_pos a]; exact hb
    · have q3 : k ≠ par j := by intro e; subst e; unfold par at hpk hk; omega
      rw [if_neg a, if_neg q3]
      have := h2 k hk hn a
      rw [hpk] at this; omega
/-- Sinking below n: all but i's children, and these are no less than i's parent. -/
def Sinking (f : α → Int) (L : List α) (n i : Nat) : Prop := n ≤ L.length ∧ HeapBut f L n (fun k => par k = i) ∧ ∀ k, 0 < k → k < n → par k = i → 0 < i → f L[par i]! ≤ f L[k]!
theorem sinking_leaf {f : α → Int} {L : List α} {n i : Nat} (h : Sinking f L n i) (hi : n ≤ 2 * i + 1) : HeapBut f L n fun _ => False := by
  intro k hk hn _
  by_cases hp : par k = i
  · unfold par at hp; omega
  · exact h.2.1 k hk hn hp
theorem sinking_done {f : α → Int} {L : List α} {n i j : Nat} (h : Sinking f L n i) (hmin : ∀ k, 0 < k → k < n → par k = i → f L[j]! ≤ f L[k]!) (hj : ¬f L[j]! < f L[i]!) : HeapBut f L n fun _ => False := by
  intro k hk hn _
  by_cases hp : par k = i
  · rw [hp]
    have := hmin k hk hn hp; omega
  · exact h.2.1 k hk hn hp
theorem sinking_step {f : α → Int} {L : List α} {n i j : Nat} (h : Sinking f L n i) (hj0 : 0 < j) (hjn : j < n) (hji : par j = i) (hmin : ∀ k, 0 < k → k < n → par k = i → f L[j]! ≤ f L[k]!) (hlt : f L[j]! < f L[i]!) : Sinking f (swpL L i j) n j := by
  obtain ⟨h1, h2, h3⟩ := h
  have hjL : j < L.length := by omega
  have hij : i < j := by unfold par at hji; omega
  have hiL : i < L.length := by omega
  refine ⟨by rw [swpL_len]; exact h1, fun k hk hn he => ?_, fun k hk hn hpk _ => ?_⟩
  · rw [swpL_get hiL hjL, swpL_get hiL hjL, if_neg he]
    by_cases a : par k = i
    · rw [if_pos a]
      have hki : k ≠ i := by intro e; subst e; unfold par at a; omega
      by_cases b : k = j
      · rw [if_pos b]; omega
      · rw [if_neg b, if_neg hki]; exact hmin k hk hn a
    · rw [if_neg a]
      have b : k ≠ j := by intro e; subst e; exact a hji
      rw [if_neg b]
      by_cases c : k = i
      · rw [if_pos c]
        have := h3 j hj0 hjn hji (by omega)
        rw [c]; exact this
      · rw [if_neg c]; exact h2 k hk hn a
  · rw [swpL_get hiL hjL, swpL_get hiL hjL, hji]
    have hkj : k ≠ j := by intro e; subst e; unfold par at hpk; omega
    have hki : k ≠ i := by intro e; subst e; unfold par at hpk; omega
    rw [if_neg (by omega), if_pos rfl, if_neg hkj, if_neg hki]
    have := h2 k hk hn (by show ¬par k = i; rw [hpk]; omega)
    rw [hpk] at this; exact this
end Go.Vi
namespace Go.Proofs.YtmplajpbmojkkaaGreat
open Go Go.RowKit Go.Vi
def Rd.rev (x : Rd) : Rd := { x with src := x.dst, dst := x.src }
def Net.rev (n : Net) : Net := ⟨n.nodes, n.roads.map Rd.rev⟩
/-- Behind the copies: the result's variable, the new network's, the copied rows, apart. -/
structure RevMid (w : World) (n : Net) (g : Nat) (v1 v2 : Value) (R : List (List Value)) (wx : World) : Prop where
  obj : wx.heap[g]? = some (.cells #[v1, v2] 35)
  res : wx.heap[w.heap.size + 1]? = some (.cells #[.slice none 0 0, .slice none 0 0] 35)
  low : w.heap.size + 2 ≤ g
  own1 : Ow (w.heap.size + 2) wx 88 3 v1 (n.nodes.map Nd.cs)
  own2 : Ow (w.heap.size + 2) wx 90 6 v2 R
  apart : ∀ b, v2.ownBlock = some b → b ≠ g ∧ v1.ownBlock ≠ some b ∧ w.heap.size + 2 ≤ b
  below : Below w.heap.size w wx
def revRows (l : List Rd) (k : Nat) : List (List Value) := ((l.take k).map Rd.rev ++ l.drop k).map Rd.cs
theorem revRows_len (l : List Rd) (k : Nat) : (revRows l k).length = l.length := by simp [revRows]; omega
theorem revRows_at {l : List Rd} {k : Nat} (h : k < l.length) : (revRows l k)[k]'(by rw [revRows_len]; exact h) = l[k]!.cs := by
  simp only [revRows, List.getElem_map]
  rw [List.getElem_append_right (by simp; omega)]
  simp [getElem!_pos l k h, Nat.min_eq_left (Nat.le_of_lt h)]
theorem revRows_step {l : List Rd} {k : Nat} (h : k < l.length) : (revRows l k).set k l[k]!.rev.cs = revRows l (k + 1) := by
  unfold revRows
  rw [List.drop_eq_getElem_cons h, List.take_succ_eq_append_getElem h, getElem!_pos l k h]
  simp only [List.map_append, List.map_cons, List.map_nil]
  have e : k - (List.map Rd.cs (List.map Rd.rev (List.take k l))).length = 0 := by simp; omega
  rw [List.set_append_right _ _ (by simp; omega), e, List.set_cons_zero, List.append_assoc]
  rfl
set_option maxHeartbeats 2000000 in
theorem reverse_any (n : Net) (v1 v2 : Value) (w : World) (hN : NetAt w.heap.size w v1 v2 n) (hsz : n.nodes.length ≤ 1000000) (hsz2 : n.roads.length ≤ 1000000) :
    Calls Tryz.prog 76 #[.agg #[v1, v2]] w fun e w' => (∃ v1' v2', e = .returned (.agg #[v1', v2']) ∧ NetAt w'.heap.size w' v1' v2' n.rev) ∧ Below w.heap.size w w' := by
  have HN := Lib.hid hN
  have HS := Lib.hid hsz
  have HS2 := Lib.hid hsz2
  clear hN hsz hsz2
  go_enter Tryz.func76, Tryz.ntmps76
  go_upto_region 1 with fail
  go_cut [3] (fun s3 wx => ∃ g a1 n1 c1 a2 n2 c2, s3 = .pointer (some ⟨g, 0, none⟩) ∧ Hid (RevMid w n g (.slice a1 n1 c1) (.slice a2 n2 c2) (n.roads.map Rd.cs) wx))
  case first =>
    have SOF : Hid (∀ w' : World, Below (w.heap.size + 2) ((w.alloc (.cells #[v1, v2] 35)).alloc (.cells #[.slice none 0 0, .slice none 0 0] 35)) w' → w'.cell? ⟨w.heap.size, 0, none⟩ = some v1 ∧ w'.cell? ⟨w.heap.size, 1, none⟩ = some v2) :=
      fun w' h => ⟨by rw [h.cell (by simp)]; simp, by rw [h.cell (by simp)]; simp⟩
    have SR : Hid (∀ w' : World, Below (w.heap.size + 2) ((w.alloc (.cells #[v1, v2] 35)).alloc (.cells #[.slice none 0 0, .slice none 0 0] 35)) w' → w'.heap[w.heap.size + 1]? = some (.cells #[.slice none 0 0, .slice none 0 0] 35)) :=
      fun w' h => by rw [h.block _ (by omega)]; have q := obj_last (w.alloc (.cells #[v1, v2] 35)) (.cells #[.slice none 0 0, .slice none 0 0] 35); simpa using q
    have FW : Hid (∀ W W1 : World, Below W.heap.size W W1 → Below (w.heap.size + 2) ((w.alloc (.cells #[v1, v2] 35)).alloc (.cells #[.slice none 0 0, .slice none 0 0] 35)) W → w.heap.size + 2 ≤ W.heap.size → Below (w.heap.size + 2) ((w.alloc (.cells #[v1, v2] 35)).alloc (.cells #[.slice none 0 0, .slice none 0 0] 35)) W1) := fun W W1 h2 h hN => h.trans (h2.mono hN)
    go_region_held3 (fun w' => w'.cell? ⟨w.heap.size, 0, none⟩ = some v1 ∧ w'.cell? ⟨w.heap.size, 1, none⟩ = some v2) (exact SOF.out _ (by (repeat (first | with_reducible exact Below.refl _ _ | with_reducible assumption | ((with_reducible refine Below.setCell ?_ ?_ _); rotate_left; focus (first | exact Nat.le_refl _ | omega | exact Below.size (by assumption) | (simp; done) | (simp; omega))) | ((with_reducible refine Below.alloc ?_ ?_ _); rotate_left; focus (first | exact Nat.le_refl _ | omega | exact Below.size (by assumption) | (simp; done) | (simp; omega))) | (with_reducible refine Below.drew ?_) | (with_reducible refine drewN_ ?_ _)))))
      (first
        | (go_at_call 90; refine (cloneNode_any n.nodes _ _ (HN.out.1.later (by (repeat (first | with_reducible exact Below.refl _ _ | with_reducible assumption | ((with_reducible refine Below.setCell ?_ ?_ _); rotate_left; focus (first | exact Nat.le_refl _ | omega | exact Below.size (by assumption) | (simp; done) | (simp; omega))) | ((with_reducible refine Below.alloc ?_ ?_ _); rotate_left; focus (first | exact Nat.le_refl _ | omega | exact Below.size (by assumption) | (simp; done) | (simp; omega))) | (with_reducible refine Below.drew ?_) | (with_reducible refine drewN_ ?_ _))))) HS.out).mono ?_; rintro e w1 ⟨⟨v1', rfl, ho1⟩, hb1⟩; obtain ⟨a1, n1, c1, rfl⟩ := ho1.val; have z1 := hb1.size; simp at z1; have hB1 := from_ (w := w) hb1 (by (repeat (first | with_reducible exact Below.refl _ _ | with_reducible assumption | ((with_reducible refine Below.setCell ?_ ?_ _); rotate_left; focus (first | exact Nat.le_refl _ | omega | exact Below.size (by assumption) | (simp; done) | (simp; omega))) | ((with_reducible refine Below.alloc ?_ ?_ _); rotate_left; focus (first | exact Nat.le_refl _ | omega | exact Below.size (by assumption) | (simp; done) | (simp; omega))) | (with_reducible refine Below.drew ?_) | (with_reducible refine drewN_ ?_ _)))); have hD1 := FW.out _ _ hb1 (by (repeat (first | with_reducible exact Below.refl _ _ | with_reducible assumption | ((with_reducible refine Below.setCell ?_ ?_ _); rotate_left; focus (first | exact Nat.le_refl _ | omega | exact Below.size (by assumption) | (simp; done) | (simp; omega))) | ((with_reducible refine Below.alloc ?_ ?_ _); rotate_left; focus (first | exact Nat.le_refl _ | omega | exact Below.size (by assumption) | (simp; done) | (simp; omega))) | (with_reducible refine Below.drew ?_) | (with_reducible refine drewN_ ?_ _)))) (by first | exact Nat.le_refl _ | omega | exact Below.size (by assumption) | (simp; done) | (simp; omega)); have q1 := keepObj hb1 (obj_last _ _); simp at q1; have q2 := obj_cell q1; have q3 := obj_free q1; have HB1 := Lib.hid hb1; clear hb1)
        | (go_at_call 91; refine (cloneRoad_any n.roads _ _ (HN.out.2.later (by (repeat (first | with_reducible exact Below.refl _ _ | with_reducible assumption | ((with_reducible refine Below.setCell ?_ ?_ _); rotate_left; focus (first | exact Nat.le_refl _ | omega | exact Below.size (by assumption) | (simp; done) | (simp; omega))) | ((with_reducible refine Below.alloc ?_ ?_ _); rotate_left; focus (first | exact Nat.le_refl _ | omega | exact Below.size (by assumption) | (simp; done) | (simp; omega))) | (with_reducible refine Below.drew ?_) | (with_reducible refine drewN_ ?_ _))))) HS2.out).mono ?_; rintro e w2 ⟨⟨v2', rfl, ho2⟩, hb2⟩; obtain ⟨a2, n2, c2, rfl⟩ := ho2.val; have z2 := hb2.size; (try simp at z2); have hB2 := from_ (w := w) hb2 (by (repeat (first | with_reducible exact Below.refl _ _ | with_reducible assumption | ((with_reducible refine Below.setCell ?_ ?_ _); rotate_left; focus (first | exact Nat.le_refl _ | omega | exact Below.size (by assumption) | (simp; done) | (simp; omega))) | ((with_reducible refine Below.alloc ?_ ?_ _); rotate_left; focus (first | exact Nat.le_refl _ | omega | exact Below.size (by assumption) | (simp; done) | (simp; omega))) | (with_reducible refine Below.drew ?_) | (with_reducible refine drewN_ ?_ _)))); have hE2 := from_ (w := w1) hb2 (by (repeat (first | with_reducible exact Below.refl _ _ | with_reducible assumption | ((with_reducible refine Below.setCell ?_ ?_ _); rotate_left; focus (first | exact Nat.le_refl _ | omega | exact Below.size (by assumption) | (simp; done) | (simp; omega))) | ((with_reducible refine Below.alloc ?_ ?_ _); rotate_left; focus (first | exact Nat.le_refl _ | omega | exact Below.size (by assumption) | (simp; done) | (simp; omega))) | (with_reducible refine Below.drew ?_) | (with_reducible refine drewN_ ?_ _)))); have hD2 := FW.out _ _ hb2 (by (repeat (first | with_reducible exact Below.refl _ _ | with_reducible assumption | ((with_reducible refine Below.setCell ?_ ?_ _); rotate_left; focus (first | exact Nat.le_refl _ | omega | exact Below.size (by assumption) | (simp; done) | (simp; omega))) | ((with_reducible refine Below.alloc ?_ ?_ _); rotate_left; focus (first | exact Nat.le_refl _ | omega | exact Below.size (by assumption) | (simp; done) | (simp; omega))) | (with_reducible refine Below.drew ?_) | (with_reducible refine drewN_ ?_ _)))) (by first | exact Nat.le_refl _ | omega | exact Below.size (by assumption) | (simp; done) | (simp; omega)); (first | have r1 := keepObj hb2 (obj_last _ _) | have r1 := keepObj hb2 q1); (try simp at r1); have r2 := obj_cell r1; have r3 := obj_free r1; have HB2 := Lib.hid hb2; clear hb2))
    · go_wp2_with fail
      go_meet
      have o1 := (ho1.mono (B' := w.heap.size + 2) (by first | exact Nat.le_refl _ | omega | exact Below.size (by assumption) | (simp; done) | (simp; omega))).keep hE2
      have o2 := ho2.mono (B' := w.heap.size + 2) (by first | exact Nat.le_refl _ | omega | exact Below.size (by assumption) | (simp; done) | (simp; omega))
      refine ⟨w2.heap.size, a1, n1, c1, a2, n2, c2, rfl, obj_last _ _, SR.out _ (by (repeat (first | with_reducible exact Below.refl _ _ | with_reducible assumption | ((with_reducible refine Below.setCell ?_ ?_ _); rotate_left; focus (first | exact Nat.le_refl _ | omega | exact Below.size (by assumption) | (simp; done) | (simp; omega))) | ((with_reducible refine Below.alloc ?_ ?_ _); rotate_left; focus (first | exact Nat.le_refl _ | omega | exact Below.size (by assumption) | (simp; done) | (simp; omega))) | (with_reducible refine Below.drew ?_) | (with_reducible refine drewN_ ?_ _)))), (by first | exact Nat.le_refl _ | omega | exact Below.size (by assumption) | (simp; done) | (simp; omega)), o1.keep (by (repeat (first | with_reducible exact Below.refl _ _ | with_reducible assumption | ((with_reducible refine Below.setCell ?_ ?_ _); rotate_left; focus (first | exact Nat.le_refl _ | omega | exact Below.size (by assumption) | (simp; done) | (simp; omega))) | ((with_reducible refine Below.alloc ?_ ?_ _); rotate_left; focus (first | exact Nat.le_refl _ | omega | exact Below.size (by assumption) | (simp; done) | (simp; omega))) | (with_reducible refine Below.drew ?_) | (with_reducible refine drewN_ ?_ _)))), o2.keep (by (repeat (first | with_reducible exact Below.refl _ _ | with_reducible assumption | ((with_reducible refine Below.setCell ?_ ?_ _); rotate_left; focus (first | exact Nat.le_refl _ | omega | exact Below.size (by assumption) | (simp; done) | (simp; omega))) | ((with_reducible refine Below.alloc ?_ ?_ _); rotate_left; focus (first | exact Nat.le_refl _ | omega | exact Below.size (by assumption) | (simp; done) | (simp; omega))) | (with_reducible refine Below.drew ?_) | (with_reducible refine drewN_ ?_ _)))), fun b hb => ?_, (by (repeat (first | with_reducible exact Below.refl _ _ | with_reducible assumption | ((with_reducible refine Below.setCell ?_ ?_ _); rotate_left; focus (first | exact Nat.le_refl _ | omega | exact Below.size (by assumption) | (simp; done) | (simp; omega))) | ((with_reducible refine Below.alloc ?_ ?_ _); rotate_left; focus (first | exact Nat.le_refl _ | omega | exact Below.size (by assumption) | (simp; done) | (simp; omega))) | (with_reducible refine Below.drew ?_) | (with_reducible refine drewN_ ?_ _))))⟩
      have x1 := ho2.blk b hb
      refine ⟨by omega, fun h => ?_, by (try simp at x1); omega⟩
      have x2 := ho1.blk b h
      (try simp at x1 x2); omega
    · go_wp2_with fail
      go_meet
      have o1 := (ho1.mono (B' := w.heap.size + 2) (by first | exact Nat.le_refl _ | omega | exact Below.size (by assumption) | (simp; done) | (simp; omega))).keep hE2
      have o2 := ho2.mono (B' := w.heap.size + 2) (by first | exact Nat.le_refl _ | omega | exact Below.size (by assumption) | (simp; done) | (simp; omega))
      have y2 : ∀ b, (Value.slice a2 n2 c2).ownBlock = some b → b ≠ w1.heap.size ∧ (Value.slice a1 n1 c1).ownBlock ≠ some b ∧ w.heap.size + 2 ≤ b := fun b hb => by
        have x1 := ho2.blk b hb
        simp at x1
        refine ⟨by omega, fun h => ?_, by omega⟩
        have x2 := ho1.blk b h
        simp at x2; omega
      have y1 : ∀ b, (Value.slice a1 n1 c1).ownBlock = some b → b ≠ w1.heap.size := fun b hb => by have := ho1.blk b hb; simp at this; omega
      refine ⟨w1.heap.size, a1, n1, c1, a2, n2, c2, rfl, obj_set (obj_set r1), SR.out _ (by (repeat (first | with_reducible exact Below.refl _ _ | with_reducible assumption | ((with_reducible refine Below.setCell ?_ ?_ _); rotate_left; focus (first | exact Nat.le_refl _ | omega | exact Below.size (by assumption) | (simp; done) | (simp; omega))) | ((with_reducible refine Below.alloc ?_ ?_ _); rotate_left; focus (first | exact Nat.le_refl _ | omega | exact Below.size (by assumption) | (simp; done) | (simp; omega))) | (with_reducible refine Below.drew ?_) | (with_reducible refine drewN_ ?_ _)))), (by first | exact Nat.le_refl _ | omega | exact Below.size (by assumption) | (simp; done) | (simp; omega)), (o1.keepSet _ ?_ _).keepSet _ ?_ _, (o2.keepSet _ ?_ _).keepSet _ ?_ _, y2, (by (repeat (first | with_reducible exact Below.refl _ _ | with_reducible assumption | ((with_reducible refine Below.setCell ?_ ?_ _); rotate_left; focus (first | exact Nat.le_refl _ | omega | exact Below.size (by assumption) | (simp; done) | (simp; omega))) | ((with_reducible refine Below.alloc ?_ ?_ _); rotate_left; focus (first | exact Nat.le_refl _ | omega | exact Below.size (by assumption) | (simp; done) | (simp; omega))) | (with_reducible refine Below.drew ?_) | (with_reducible refine drewN_ ?_ _))))⟩
      · exact fun h => (y1 _ h rfl)
      · exact fun h => (y1 _ h rfl)
      · exact fun h => ((y2 _ h).1 rfl)
      · exact fun h => ((y2 _ h).1 rfl)
    · go_wp2_with fail
      go_meet
      have o1 := (ho1.mono (B' := w.heap.size + 2) (by first | exact Nat.le_refl _ | omega | exact Below.size (by assumption) | (simp; done) | (simp; omega))).keep hE2
      have o2 := ho2.mono (B' := w.heap.size + 2) (by first | exact Nat.le_refl _ | omega | exact Below.size (by assumption) | (simp; done) | (simp; omega))
      have y2 : ∀ b, (Value.slice a2 n2 c2).ownBlock = some b → b ≠ w.heap.size + 1 + 1 ∧ (Value.slice a1 n1 c1).ownBlock ≠ some b ∧ w.heap.size + 2 ≤ b := fun b hb => by
        have x1 := ho2.blk b hb
        refine ⟨by omega, fun h => ?_, by omega⟩
        have x2 := ho1.blk b h
        omega
      have y1 : ∀ b, (Value.slice a1 n1 c1).ownBlock = some b → b ≠ w.heap.size + 1 + 1 := fun b hb => by have := ho1.blk b hb; simp at this; omega
      refine ⟨w.heap.size + 1 + 1, a1, n1, c1, a2, n2, c2, rfl, obj_set (obj_set r1), SR.out _ (by (repeat (first | with_reducible exact Below.refl _ _ | with_reducible assumption | ((with_reducible refine Below.setCell ?_ ?_ _); rotate_left; focus (first | exact Nat.le_refl _ | omega | exact Below.size (by assumption) | (simp; done) | (simp; omega))) | ((with_reducible refine Below.alloc ?_ ?_ _); rotate_left; focus (first | exact Nat.le_refl _ | omega | exact Below.size (by assumption) | (simp; done) | (simp; omega))) | (with_reducible refine Below.drew ?_) | (with_reducible refine drewN_ ?_ _)))), (by first | exact Nat.le_refl _ | omega | exact Below.size (by assumption) | (simp; done) | (simp; omega)), (o1.keepSet _ ?_ _).keepSet _ ?_ _, (o2.keepSet _ ?_ _).keepSet _ ?_ _, y2, (by (repeat (first | with_reducible exact Below.refl _ _ | with_reducible assumption | ((with_reducible refine Below.setCell ?_ ?_ _); rotate_left; focus (first | exact Nat.le_refl _ | omega | exact Below.size (by assumption) | (simp; done) | (simp; omega))) | ((with_reducible refine Below.alloc ?_ ?_ _); rotate_left; focus (first | exact Nat.le_refl _ | omega | exact Below.size (by assumption) | (simp; done) | (simp; omega))) | (with_reducible refine Below.drew ?_) | (with_reducible refine drewN_ ?_ _))))⟩
      · exact fun h => (y1 _ h rfl)
      · exact fun h => (y1 _ h rfl)
      · exact fun h => ((y2 _ h).1 rfl)
      · exact fun h => ((y2 _ h).1 rfl)
  case rest =>
    obtain ⟨g, a1, n1, c1, a2, n2, c2, rfl, hM⟩ := hcut
    have m0 := obj_cell hM.out.obj 1
    simp at m0
    have hlen : n.roads.length = n2 := by have := hM.out.own2.sl.len; simpa using this
    have HL := Lib.hid hlen
    have hn2 : n2 ≤ 1000000 := by rw [← hlen]; exact HS2.out
    clear hlen
    go_wp2
    clear m0
    go_loopw [16] (fun s16 wr => ∃ k : Nat, s16 = .int .i64 k ∧ k ≤ n2 ∧ Hid (RevMid w n g (.slice a1 n1 c1) (.slice a2 n2 c2) (revRows n.roads k) wr)) (fun s16 _ => n2 - (intOf s16).toNat)
    case atStart => exact ⟨0, rfl, Nat.zero_le _, by show RevMid _ _ _ _ _ _ _; simpa [revRows] using hM.out⟩
    case round =>
      clear hM
      obtain ⟨k, rfl, hk, hM⟩ := hrel
      have m0 := obj_cell hM.out.obj 0
      have m1 := obj_cell hM.out.obj 1
      have mf := obj_free hM.out.obj
      have mz := obj_lt hM.out.obj
      simp at m0 m1
      by_cases hlt : k < n2
      · have hkl : k < n.roads.length := by rw [HL.out]; exact hlt
        have hkr : k < (revRows n.roads k).length := by rw [revRows_len]; exact hkl
        rcases hM.out.own2.shape with ⟨h1, h2⟩ | ⟨gr, cap, h1, h2, h3, h4⟩
        · rw [h2] at hkr; simp at hkr
        · rw [revRows_len, HL.out] at h1
          injection h1 with e1 e2 e3
          subst e1
          have hrow := revRows_at hkl
          have hc := fun c hc => hM.out.own2.cell k hkr c hc
          rw [hrow] at hc
          have d0 := hc 0 (by omega); have d1 := hc 1 (by omega); have d2 := hc 2 (by omega); have d3 := hc 3 (by omega); have d4 := hc 4 (by omega); have d5 := hc 5 (by omega)
          have hf := hM.out.own2.free
          have hgr := hM.out.apart gr rfl
          have hne : gr ≠ g := hgr.1
          clear hc hrow e2 e3
          generalize hx : n.roads[k]! = x at d0 d1 d2 d3 d4 d5
          have HX := Lib.hid hx
          clear hx hgr
          simp only [Rd.cs, List.getElem?_cons_zero, List.getElem?_cons_succ, Nat.add_zero] at d0 d1 d2 d3 d4 d5
          go_wp2
          go_region
          go_wp2
          go_roundw
          case rel =>
            have o1 := hM.out.own1
            have o2 := hM.out.own2
            have hb := hM.out.below
            have hz := hb.size
            have hg1 : (Value.slice a1 n1 c1).ownBlock ≠ some gr := (hM.out.apart gr rfl).2.1
            have hk2 : w.heap.size + 1 ≠ gr := by have := (hM.out.apart gr rfl).2.2; omega
            refine ⟨k + 1, by go_num, by omega, ⟨?_, ?_, hM.out.low, ?_, ?_, hM.out.apart, ?_⟩⟩
            · exact obj_old (obj_setOther (obj_setOther hM.out.obj (a := ⟨gr, k * 6 + 1, none⟩) (Ne.symm hne)) (a := ⟨gr, k * 6 + 2, none⟩) (Ne.symm hne))
            · exact obj_old (obj_setOther (obj_setOther hM.out.res (a := ⟨gr, k * 6 + 1, none⟩) hk2) (a := ⟨gr, k * 6 + 2, none⟩) hk2)
            · exact ((o1.keepSet _ hg1 _).keepSet _ hg1 _).keep (by (repeat (first | with_reducible exact Below.refl _ _ | with_reducible assumption | ((with_reducible refine Below.setCell ?_ ?_ _); rotate_left; focus (first | exact Nat.le_refl _ | omega | exact Below.size (by assumption) | (simp; done) | (simp; omega))) | ((with_reducible refine Below.alloc ?_ ?_ _); rotate_left; focus (first | exact Nat.le_refl _ | omega | exact Below.size (by assumption) | (simp; done) | (simp; omega))) | (with_reducible refine Below.drew ?_) | (with_reducible refine drewN_ ?_ _))))
            · have q := (o2.store2 k hkr 1 2 (by decide) (by decide) (.int .i64 x.dst) (.int .i64 x.src))
              rw [revRows_at hkl, HX.out] at q
              have e := revRows_step hkl
              rw [HX.out] at e
              rw [show (x.cs.set 1 (.int .i64 x.dst)).set 2 (.int .i64 x.src) = x.rev.cs from rfl, e] at q
              exact q.keep (by (repeat (first | with_reducible exact Below.refl _ _ | with_reducible assumption | ((with_reducible refine Below.setCell ?_ ?_ _); rotate_left; focus (first | exact Nat.le_refl _ | omega | exact Below.size (by assumption) | (simp; done) | (simp; omega))) | ((with_reducible refine Below.alloc ?_ ?_ _); rotate_left; focus (first | exact Nat.le_refl _ | omega | exact Below.size (by assumption) | (simp; done) | (simp; omega))) | (with_reducible refine Below.drew ?_) | (with_reducible refine drewN_ ?_ _))))
            · have hk3 : w.heap.size ≤ gr := by have := (hM.out.apart gr rfl).2.2; omega
              (repeat (first | with_reducible exact Below.refl _ _ | with_reducible assumption | ((with_reducible refine Below.setCell ?_ ?_ _); rotate_left; focus (first | exact Nat.le_refl _ | omega | exact Below.size (by assumption) | (simp; done) | (simp; omega))) | ((with_reducible refine Below.alloc ?_ ?_ _); rotate_left; focus (first | exact Nat.le_refl _ | omega | exact Below.size (by assumption) | (simp; done) | (simp; omega))) | (with_reducible refine Below.drew ?_) | (with_reducible refine drewN_ ?_ _)))
          case measure => simp [intOf]; omega
      · obtain rfl : k = n2 := by omega
        have r0 := obj_cell hM.out.res 0
        have r1 := obj_cell hM.out.res 1
        have rf := obj_free hM.out.res
        have rz := obj_lt hM.out.res
        simp at r0 r1
        go_wp2
        refine bodyPost_ret (v := .agg #[.slice a1 n1 c1, .slice a2 k c2]) ?_ rfl ?_
        · simp [results, Tryz.results76, go_sem, rf, r0, r1]
        · refine ⟨⟨_, _, rfl, ?_, ?_⟩, by have h := hM.out.below; (repeat (first | with_reducible exact Below.refl _ _ | with_reducible assumption | ((with_reducible refine Below.setCell ?_ ?_ _); rotate_left; focus (first | exact Nat.le_refl _ | omega | exact Below.size (by assumption) | (simp; done) | (simp; omega))) | ((with_reducible refine Below.alloc ?_ ?_ _); rotate_left; focus (first | exact Nat.le_refl _ | omega | exact Below.size (by assumption) | (simp; done) | (simp; omega))) | (with_reducible refine Below.drew ?_) | (with_reducible refine drewN_ ?_ _)))⟩
          · have hb1 : (Value.slice a1 n1 c1).ownBlock ≠ some (w.heap.size + 1) := fun h => by have := hM.out.own1.blk _ h; omega
            exact ((hM.out.own1.keepSet ⟨w.heap.size + 1, 0, none⟩ hb1 (.slice a1 n1 c1)).keepSet ⟨w.heap.size + 1, 1, none⟩ hb1 (.slice a2 k c2)).sl
          · have hb2 : (Value.slice a2 k c2).ownBlock ≠ some (w.heap.size + 1) := fun h => by have := hM.out.own2.blk _ h; omega
            have e : revRows n.roads k = n.rev.roads.map Rd.cs := by
              unfold revRows
              rw [List.take_of_length_le (by rw [HL.out]; exact Nat.le_refl _), List.drop_eq_nil_of_le (by rw [HL.out]; exact Nat.le_refl _), List.append_nil]; rfl
            rw [← e]
            exact ((hM.out.own2.keepSet ⟨w.heap.size + 1, 0, none⟩ hb2 (.slice a1 n1 c1)).keepSet ⟨w.heap.size + 1, 1, none⟩ hb2 (.slice a2 k c2)).sl
end Go.Proofs.YtmplajpbmojkkaaGreat
