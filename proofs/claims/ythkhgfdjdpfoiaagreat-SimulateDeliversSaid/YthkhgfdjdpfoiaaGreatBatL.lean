/-
  Batches in memory: an owned row of pairs of slices, whose first parts own rows, no two of them one; what appending does to them.
-/
import Derived.Test.YthkhgfdjdpfoiaaGreatMemA
set_option linter.unusedSimpArgs false
set_option linter.unusedVariables false
namespace Go.Vi
open Go Go.RowKit
/-- The slice v owns a row of pairs of slices V: the first of each pair owns the rows L[i]; the second one of the first pair owns the rows X, all others are nil. -/
structure Bat (w : World) (B eB eR kR eX kX : Nat) (v : Value) (V : List (Value × Value)) (L : List (List (List Value))) (X : List (List Value)) : Prop where
  own : Ow B w eB 2 v (V.map fun p => [p.1, p.2])
  pos : 0 < V.length
  len : L.length = V.length
  rep : ∀ i p, V[i]? = some p → Ow B w eR kR p.1 (L.getD i [])
  exc : ∀ p, V[0]? = some p → Ow B w eX kX p.2 X
  none_ : ∀ i p, 0 < i → V[i]? = some p → p.2 = .slice none 0 0
  apart : ∀ (i j : Nat) (p q : Value × Value) (g : Nat), V[i]? = some p → V[j]? = some q → p.1.ownBlock = some g → q.1.ownBlock = some g → i = j
section
variable {w : World} {B eB eR kR eX kX : Nat} {v : Value} {V : List (Value × Value)} {L : List (List (List Value))} {X : List (List Value)}
theorem Ow.apart {e1 e2 k1 k2 : Nat} {v1 v2 : Value} {R1 R2 : List (List Value)} (h1 : Ow B w e1 k1 v1 R1) (h2 : Ow B w e2 k2 v2 R2) (he : e1 ≠ e2) : v1.ownBlock = none ∨ v1.ownBlock ≠ v2.ownBlock := by
  cases hq : v1.ownBlock with
  | none => exact .inl rfl
  | some g =>
    right; intro e
    rcases h1.1.2 with ⟨e0, _⟩ | ⟨g1, c1, cu1, a1, _, b1, _⟩
    · rw [e0] at hq; simp [Value.ownBlock] at hq
    · rw [a1] at hq; simp [Value.ownBlock] at hq; subst hq
      exact he (h2.type g1 e.symm _ _ _ b1)
theorem Bat.keep {w' : World} (h : Bat w B eB eR kR eX kX v V L X) (hb : Below w.heap.size w w') : Bat w' B eB eR kR eX kX v V L X :=
  ⟨h.own.keep hb, h.pos, h.len, fun i p hp => (h.rep i p hp).keep hb, fun p hp => (h.exc p hp).keep hb, h.none_, h.apart⟩
theorem Bat.vlen {a : Option Addr} {n cap : Nat} (h : Bat w B eB eR kR eX kX (.slice a n cap) V L X) : V.length = n := by
  have := h.own.sl.len
  rwa [List.length_map] at this
theorem Bat.shape (h : Bat w B eB eR kR eX kX v V L X) : ∃ g cap, v = .slice (some ⟨g, 0, none⟩) V.length cap ∧ B ≤ g ∧ g < w.heap.size ∧ V.length ≤ cap := by
  rcases h.own.shape with ⟨_, e⟩ | ⟨g, cap, e, h1, h2, h3⟩
  · rw [List.map_eq_nil_iff] at e
    have := h.pos; rw [e] at this; simp at this
  · rw [List.length_map] at e h3
    exact ⟨g, cap, e, h1, h2, h3⟩
theorem Bat.cell0 {g n cap : Nat} (h : Bat w B eB eR kR eX kX (.slice (some ⟨g, 0, none⟩) n cap) V L X) (i : Nat) (p : Value × Value) (hp : V[i]? = some p) : w.cell? ⟨g, i * 2, none⟩ = some p.1 := by
  have hi : i < V.length := by
    rcases Nat.lt_or_ge i V.length with h | h
    · exact h
    · rw [List.getElem?_eq_none h] at hp; cases hp
  have h1 := h.own.cell i (by rw [List.length_map]; exact hi) 0 (by omega)
  rw [List.getElem?_eq_getElem hi] at hp
  injection hp with hp
  simpa [hp] using h1
theorem Bat.cell1 {g n cap : Nat} (h : Bat w B eB eR kR eX kX (.slice (some ⟨g, 0, none⟩) n cap) V L X) (i : Nat) (p : Value × Value) (hp : V[i]? = some p) : w.cell? ⟨g, i * 2 + 1, none⟩ = some p.2 := by
  have hi : i < V.length := by
    rcases Nat.lt_or_ge i V.length with h | h
    · exact h
    · rw [List.getElem?_eq_none h] at hp; cases hp
  have h1 := h.own.cell i (by rw [List.length_map]; exact hi) 1 (by omega)
  rw [List.getElem?_eq_getElem hi] at hp
  injection hp with hp
  simpa [hp] using h1
/-- Another block, or a new one, turns. -/
theorem Bat.far {w' : World} {row : Option Nat} (h : Bat w B eB eR kR eX kX v V L X) (hg : w.grownBy w' row) (h1 : v.ownBlock ≠ row) (h2 : ∀ (i : Nat) (p : Value × Value), V[i]? = some p → p.1.ownBlock = none ∨ p.1.ownBlock ≠ row) (h3 : ∀ (p : Value × Value), V[0]? = some p → p.2.ownBlock = none ∨ p.2.ownBlock ≠ row) : Bat w' B eB eR kR eX kX v V L X :=
  ⟨h.own.kept hg (.inr h1), h.pos, h.len, fun i p hp => (h.rep i p hp).kept hg (h2 i p hp), fun p hp => (h.exc p hp).kept hg (h3 p hp), h.none_, h.apart⟩
theorem grown_set (w : World) (g o : Nat) (u : Value) : w.grownBy (w.setCell ⟨g, o, none⟩ u) (some g) :=
  ⟨rfl, rfl, rfl, by simp, fun k _ hne => Below.heap_setCell _ _ _ _ (fun e => hne (by rw [e]))⟩
/-- A batch that is empty is appended. -/
theorem Bat.push {w1 : World} {g cap : Nat} (h : Bat w B eB eR kR eX kX v V L X) (hR : eR ≠ eB) (hX : eX ≠ eB) (hg : w.grownBy w1 v.ownBlock)
    (ho : w1.ownsRow B eB 2 (.slice (some ⟨g, 0, none⟩) (V.length + 1) cap) (V.length + 1) ((V.map fun p => [p.1, p.2]).flatten ++ [.slice none 0 0, .slice none 0 0])) :
    Bat w1 B eB eR kR eX kX (.slice (some ⟨g, 0, none⟩) (V.length + 1) cap) (V ++ [(.slice none 0 0, .slice none 0 0)]) (L ++ [[]]) X := by
  have hget : ∀ i p, (V ++ [((.slice none 0 0 : Value), (.slice none 0 0 : Value))])[i]? = some p → V[i]? = some p ∨ (i = V.length ∧ p = (.slice none 0 0, .slice none 0 0)) := fun i p hp => by
    rcases Nat.lt_or_ge i V.length with hi | hi
    · rw [List.getElem?_append_left hi] at hp; exact .inl hp
    · rw [List.getElem?_append_right hi] at hp
      rcases Nat.eq_zero_or_pos (i - V.length) with e | e
      · rw [e] at hp; simp at hp; exact .inr ⟨by omega, hp.symm⟩
      · rw [List.getElem?_eq_none (by simp; omega)] at hp; cases hp
  refine ⟨?_, by simp, by simp [h.len], fun i p hp => ?_, fun p hp => ?_, fun i p hi hp => ?_, fun i j p q gg hp hq h1 h2 => ?_⟩
  · rw [List.map_append]
    exact Ow.grow (R := V.map fun p => [p.1, p.2]) (N := [[.slice none 0 0, .slice none 0 0]]) (m := 1) (by rw [List.length_map]; simpa only [List.flatten_cons, List.flatten_nil, List.append_nil] using ho) rfl (fun r hr => by obtain ⟨y, _, rfl⟩ := List.mem_map.1 hr; rfl) (fun r hr => by simp at hr; subst hr; rfl)
  · rcases hget i p hp with h1 | ⟨h1, rfl⟩
    · have hi : i < V.length := by
        rcases Nat.lt_or_ge i V.length with h | h
        · exact h
        · rw [List.getElem?_eq_none h] at h1; cases h1
      rw [List.getD_eq_getElem?_getD, List.getElem?_append_left (by rw [h.len]; exact hi), ← List.getD_eq_getElem?_getD]
      exact (h.rep i p h1).kept hg ((h.rep i p h1).apart h.own hR)
    · subst h1
      rw [List.getD_eq_getElem?_getD, List.getElem?_append_right (by rw [h.len]; exact Nat.le_refl _), h.len]
      simp
      exact Ow.nil _ _ _ _
  · rcases hget 0 p hp with h1 | ⟨h1, rfl⟩
    · exact (h.exc p h1).kept hg ((h.exc p h1).apart h.own hX)
    · have := h.pos; omega
  · rcases hget i p hp with h1 | ⟨_, rfl⟩
    · exact h.none_ i p hi h1
    · rfl
  · rcases hget i p hp with e1 | ⟨_, rfl⟩
    · rcases hget j q hq with e2 | ⟨_, rfl⟩
      · exact h.apart i j p q gg e1 e2 h1 h2
      · simp [Value.ownBlock] at h2
    · simp [Value.ownBlock] at h1
/-- A store of a grown row into the first part of a pair. -/
theorem Bat.back {w1 : World} {g n cap : Nat} (h : Bat w B eB eR kR eX kX (.slice (some ⟨g, 0, none⟩) n cap) V L X) (hR : eR ≠ eB) (hX : eX ≠ eB) (hRX : eR ≠ eX) (k : Nat) (p : Value × Value) (hk : V[k]? = some p) {v' : Value} {R' : List (List Value)} (hg : w.grownBy w1 p.1.ownBlock) (hB : Ow B w1 eR kR v' R')
    (hat : v'.ownBlock = p.1.ownBlock ∨ ∀ b, v'.ownBlock = some b → w.heap.size ≤ b) :
    Bat (w1.setCell ⟨g, k * 2, none⟩ v') B eB eR kR eX kX (.slice (some ⟨g, 0, none⟩) n cap) (V.set k (v', p.2)) (L.set k R') X := by
  have hki : k < V.length := by
    rcases Nat.lt_or_ge k V.length with h | h
    · exact h
    · rw [List.getElem?_eq_none h] at hk; cases hk
  have hpk : V[k] = p := by rw [List.getElem?_eq_getElem hki] at hk; injection hk
  have hvne : ∀ {b : Nat}, p.1.ownBlock = some b → b ≠ g := fun {b} e e2 => by
    rcases (h.rep k p hk).apart h.own hR with q | q
    · rw [q] at e; cases e
    · rw [e, e2] at q; exact q rfl
  have hO1 : Ow B w1 eB 2 (.slice (some ⟨g, 0, none⟩) n cap) (V.map fun p => [p.1, p.2]) := h.own.kept hg (.inr (by
    cases hq : p.1.ownBlock with
    | none => simp [Value.ownBlock]
    | some b => intro e; exact hvne hq (by simpa [Value.ownBlock] using e.symm)))
  have hO2 := hO1.store k (by rw [List.length_map]; exact hki) 0 (by omega) v'
  rw [Nat.add_zero] at hO2
  have hG := grown_set w1 g (k * 2) v'
  have hget : ∀ i q, (V.set k (v', p.2))[i]? = some q → (i = k ∧ q = (v', p.2)) ∨ (i ≠ k ∧ V[i]? = some q) := fun i q hq => by
    by_cases hik : i = k
    · subst hik
      rw [List.getElem?_set_self hki] at hq; injection hq with hq; exact .inl ⟨rfl, hq.symm⟩
    · rw [List.getElem?_set_ne (fun e => hik e.symm)] at hq; exact .inr ⟨hik, hq⟩
  have hoth : ∀ (i : Nat) (q : Value × Value), i ≠ k → V[i]? = some q → Ow B w1 eR kR q.1 (L.getD i []) := fun i q hi hq => (h.rep i q hq).kept hg (by
    cases e : q.1.ownBlock with
    | none => exact .inl rfl
    | some b => right; intro e2; exact hi (h.apart i k q p b hq hk e e2.symm))
  have hsep : ∀ (i : Nat) (q : Value × Value) (b : Nat), i ≠ k → V[i]? = some q → q.1.ownBlock = some b → v'.ownBlock ≠ some b := fun i q b hi hq e e2 => by
    rcases hat with ha | ha
    · rw [ha] at e2; exact hi (h.apart i k q p b hq hk e e2)
    · have := ha b e2
      have := ((h.rep i q hq).blk b e).2
      omega
  refine ⟨?_, by simpa using h.pos, by simp [h.len], fun i q hq => ?_, fun q hq => ?_, fun i q hi hq => ?_, fun i j q q' b hq hq' h1 h2 => ?_⟩
  · rw [List.map_set]
    simpa [hpk] using hO2
  · rcases hget i q hq with ⟨rfl, rfl⟩ | ⟨hi, hq⟩
    · have e : (L.set i R').getD i [] = R' := by simp [List.getD, List.getElem?_set_self (show i < L.length by rw [h.len]; exact hki)]
      rw [e]
      exact hB.kept hG (by
        rcases hB.apart hO1 hR with q | q
        · exact .inl q
        · exact .inr q)
    · have e : (L.set k R').getD i [] = L.getD i [] := by simp [List.getD, List.getElem?_set_ne (fun e => hi e.symm)]
      rw [e]
      exact (hoth i q hi hq).kept hG ((hoth i q hi hq).apart hO1 hR)
  · have h0 : ∃ p0, V[0]? = some p0 ∧ q.2 = p0.2 := by
      rcases hget 0 q hq with ⟨rfl, rfl⟩ | ⟨_, hq⟩
      · exact ⟨p, hk, rfl⟩
      · exact ⟨q, hq, rfl⟩
    obtain ⟨p0, hp0, e⟩ := h0
    rw [e]
    have h1 : Ow B w1 eX kX p0.2 X := (h.exc p0 hp0).kept hg ((h.exc p0 hp0).apart (h.rep k p hk) (Ne.symm hRX))
    exact h1.kept hG (h1.apart hO1 hX)
  · rcases hget i q hq with ⟨rfl, rfl⟩ | ⟨_, hq⟩
    · exact h.none_ i p hi hk
    · exact h.none_ i q hi hq
  · rcases hget i q hq with ⟨hi, e1⟩ | ⟨hi, hq2⟩ <;> rcases hget j q' hq' with ⟨hj, e2⟩ | ⟨hj, hq2'⟩
    · rw [hi, hj]
    · rw [e1] at h1; exact absurd h1 (hsep j q' b hj hq2' h2)
    · rw [e2] at h2; exact absurd h2 (hsep i q b hi hq2 h1)
    · exact h.apart i j q q' b hq2 hq2' h1 h2
/-- A store of a row into the second part of the first pair. -/
theorem Bat.backX {w1 : World} {g n cap : Nat} (h : Bat w B eB eR kR eX kX (.slice (some ⟨g, 0, none⟩) n cap) V L X) (hR : eR ≠ eB) (hX : eX ≠ eB) (hRX : eR ≠ eX) (p : Value × Value) (hk : V[0]? = some p) {v' : Value} {X' : List (List Value)} (hg : w.grownBy w1 p.2.ownBlock) (hB : Ow B w1 eX kX v' X') :
    Bat (w1.setCell ⟨g, 1, none⟩ v') B eB eR kR eX kX (.slice (some ⟨g, 0, none⟩) n cap) (V.set 0 (p.1, v')) L X' := by
  have hki : 0 < V.length := h.pos
  have hpk : V[0] = p := by rw [List.getElem?_eq_getElem hki] at hk; injection hk
  have hO1 : Ow B w1 eB 2 (.slice (some ⟨g, 0, none⟩) n cap) (V.map fun p => [p.1, p.2]) := h.own.kept hg (h.own.apart (h.exc p hk) (Ne.symm hX))
  have hO2 := hO1.store 0 (by rw [List.length_map]; exact hki) 1 (by omega) v'
  have hG := grown_set w1 g 1 v'
  have hget : ∀ i q, (V.set 0 (p.1, v'))[i]? = some q → (i = 0 ∧ q = (p.1, v')) ∨ (i ≠ 0 ∧ V[i]? = some q) := fun i q hq => by
    by_cases hik : i = 0
    · subst hik
      rw [List.getElem?_set_self hki] at hq; injection hq with hq; exact .inl ⟨rfl, hq.symm⟩
    · rw [List.getElem?_set_ne (fun e => hik e.symm)] at hq; exact .inr ⟨hik, hq⟩
  have hfst : ∀ (i : Nat) (q : Value × Value), (V.set 0 (p.1, v'))[i]? = some q → ∃ q0 : Value × Value, V[i]? = some q0 ∧ q.1 = q0.1 := fun i q hq => by
    rcases hget i q hq with ⟨rfl, rfl⟩ | ⟨_, hq⟩
    · exact ⟨p, hk, rfl⟩
    · exact ⟨q, hq, rfl⟩
  refine ⟨?_, by simpa using h.pos, by simp [h.len], fun i q hq => ?_, fun q hq => ?_, fun i q hi hq => ?_, fun i j q q' b hq hq' h1 h2 => ?_⟩
  · rw [List.map_set]
    simpa [hpk] using hO2
  · obtain ⟨q0, hq0, e⟩ := hfst i q hq
    rw [e]
    have h1 : Ow B w1 eR kR q0.1 (L.getD i []) := (h.rep i q0 hq0).kept hg ((h.rep i q0 hq0).apart (h.exc p hk) hRX)
    exact h1.kept hG (h1.apart hO1 hR)
  · rcases hget 0 q hq with ⟨_, rfl⟩ | ⟨e, _⟩
    · exact hB.kept hG (hB.apart hO1 hX)
    · exact absurd rfl e
  · rcases hget i q hq with ⟨rfl, rfl⟩ | ⟨_, hq⟩
    · omega
    · exact h.none_ i q hi hq
  · obtain ⟨q0, hq0, e⟩ := hfst i q hq
    obtain ⟨q1, hq1, e1⟩ := hfst j q' hq'
    rw [e] at h1; rw [e1] at h2
    exact h.apart i j q0 q1 b hq0 hq1 h1 h2
end
end Go.Vi
