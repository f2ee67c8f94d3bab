/-
  Least sums of chains where one end of each exchange is the server: plain.
-/
import Derived.Test.YtmplajpbmojkkaaGreatClcF
set_option linter.unusedSimpArgs false
set_option linter.unusedVariables false
namespace Go.Proofs.YtmplajpbmojkkaaGreat
open Go Go.Vi
structure Star (L : List Exc) (off : Int → Int) : Prop where
  z : off 0 = 0
  e : ∀ j, j < L.length → (L[j]!.frm = 0 ∧ L[j]!.dst ≠ 0) ∨ (L[j]!.dst = 0 ∧ L[j]!.frm ≠ 0)
  w : ∀ j, j < L.length → off L[j]!.dst - off L[j]!.frm ≤ wgt L[j]!
  b : ∀ j, j < L.length → -4398046511104 ≤ wgt L[j]! ∧ wgt L[j]! ≤ 4398046511104
structure Bas (L : List Exc) (off : Int → Int) (T : Int → Prop) (D Y : List (Int × Int)) : Prop where
  a : ∀ x s, x ≠ 0 → Vi.look D x = some s → (T x ∧ s = 0) ∨ ∃ (t : Int) (j : Nat) (s0 : Int), Vi.look D 0 = some s0 ∧ Vi.look Y x = some (j : Int) ∧ j < L.length ∧ L[j]!.frm = 0 ∧ L[j]!.dst = x ∧ s = t + wgt L[j]! ∧ s0 ≤ t ∧ (T 0 → t ≤ 0) ∧ -4398046511104 ≤ t ∧ t ≤ 4398046511104
  b : ∀ s, Vi.look D 0 = some s → (T 0 ∧ s = 0) ∨ ∃ j : Nat, Vi.look Y 0 = some (j : Int) ∧ j < L.length ∧ L[j]!.dst = 0 ∧ T L[j]!.frm ∧ L[j]!.frm ≠ 0 ∧ s = wgt L[j]!
  c : ∀ x, T x → ∃ s, Vi.look D x = some s ∧ s ≤ 0
def PA (L : List Exc) (T : Int → Prop) (D : List (Int × Int)) (j : Nat) : Prop := L[j]!.dst = 0 → T L[j]!.frm → ∃ s0, Vi.look D 0 = some s0 ∧ s0 ≤ wgt L[j]!
def PB (L : List Exc) (D : List (Int × Int)) (j : Nat) : Prop := L[j]!.frm = 0 → ∀ s0, Vi.look D 0 = some s0 → ∃ sx, Vi.look D L[j]!.dst = some sx ∧ sx ≤ s0 + wgt L[j]!
structure Rnd (L : List Exc) (off : Int → Int) (T : Int → Prop) (r i : Nat) (D Y : List (Int × Int)) : Prop where
  bas : Bas L off T D Y
  a0 : ∀ j, j < i → PA L T D j
  a1 : 1 ≤ r → ∀ j, j < L.length → PA L T D j
  b1 : 1 ≤ r → ∀ j, j < i → PB L D j
  b2 : 2 ≤ r → ∀ j, j < L.length → PB L D j
section
variable {L : List Exc} {off : Int → Int} {T : Int → Prop} {D Y : List (Int × Int)}
/-- The two ways in which a sum gets less. -/
theorem upd_cases (hS : Star L off) (hB : Bas L off T D Y) {i : Nat} (hi : i < L.length) (hu : upd L D i = true) :
    (L[i]!.frm = 0 ∧ L[i]!.dst ≠ 0 ∧ ∃ s0, Vi.look D 0 = some s0 ∧ nws L D i = s0 + wgt L[i]! ∧ ∀ b, Vi.look D L[i]!.dst = some b → s0 + wgt L[i]! < b) ∨
    (L[i]!.dst = 0 ∧ L[i]!.frm ≠ 0 ∧ T L[i]!.frm ∧ nws L D i = wgt L[i]! ∧ ∀ b, Vi.look D 0 = some b → wgt L[i]! < b) := by
  unfold upd at hu
  cases hA : Vi.look D L[i]!.frm with
  | none => rw [hA] at hu; cases hu
  | some a =>
    rw [hA] at hu
    simp only at hu
    have hn : nws L D i = a + wgt L[i]! := by unfold nws; rw [hA]; rfl
    have hlt : ∀ b, Vi.look D L[i]!.dst = some b → a + wgt L[i]! < b := by
      intro b hb
      rw [hb] at hu
      simpa using hu
    rcases hS.e i hi with ⟨h1, h2⟩ | ⟨h1, h2⟩
    · left
      rw [h1] at hA
      exact ⟨h1, h2, a, hA, hn, hlt⟩
    · right
      rw [h1] at hlt
      rcases hB.a _ _ h2 hA with ⟨g1, g2⟩ | ⟨t, j, s0, g1, g2, g3, g4, g5, g6, g7, g8, _⟩
      · subst g2
        rw [Int.zero_add] at hn hlt
        exact ⟨h1, h2, g1, hn, hlt⟩
      · exfalso
        have q1 := hlt s0 g1
        have q2 := hS.w j g3
        have q3 := hS.w i hi
        rw [g4, g5, hS.z] at q2
        rw [h1, hS.z] at q3
        omega
theorem bas_up (hS : Star L off) (hB : Bas L off T D Y) {i : Nat} (hi : i < L.length) (hu : upd L D i = true) : Bas L off T (put D L[i]!.dst (nws L D i)) (put Y L[i]!.dst (i : Int)) := by
  have hbw := hS.b i hi
  rcases upd_cases hS hB hi hu with ⟨h1, h2, s0, h3, h4, h5⟩ | ⟨h1, h2, h3, h4, h5⟩
  · have h0 : ∀ v, Vi.look (put D L[i]!.dst v) 0 = Vi.look D 0 := fun v => by rw [look_put, if_neg (fun e => h2 e.symm)]
    have h0y : ∀ v, Vi.look (put Y L[i]!.dst v) 0 = Vi.look Y 0 := fun v => by rw [look_put, if_neg (fun e => h2 e.symm)]
    refine ⟨fun x s hx hl => ?_, fun s hl => ?_, fun x hx => ?_⟩
    · rw [h0]
      rw [look_put] at hl
      by_cases e : x = L[i]!.dst
      · right
        rw [if_pos e] at hl
        injection hl with hl
        have hbnd : -4398046511104 ≤ s0 ∧ s0 ≤ 4398046511104 := by
          rcases hB.b s0 h3 with ⟨_, g⟩ | ⟨j, _, g1, _, _, _, g2⟩
          · omega
          · have := hS.b j g1; omega
        refine ⟨s0, i, s0, h3, by rw [look_put, if_pos e], hi, h1, e.symm, by rw [← hl]; exact h4, Int.le_refl _, fun ht => ?_, hbnd⟩
        obtain ⟨s, g1, g2⟩ := hB.c 0 ht
        rw [h3] at g1; injection g1 with g1; omega
      · rw [if_neg e] at hl
        rcases hB.a x s hx hl with g | ⟨t, j, s0', g1, g2, g3⟩
        · exact .inl g
        · exact .inr ⟨t, j, s0', g1, by rw [look_put, if_neg e]; exact g2, g3⟩
    · rw [h0] at hl
      rcases hB.b s hl with g | ⟨j, g1, g2⟩
      · exact .inl g
      · exact .inr ⟨j, by rw [h0y]; exact g1, g2⟩
    · obtain ⟨s, g1, g2⟩ := hB.c x hx
      rw [look_put]
      by_cases e : x = L[i]!.dst
      · rw [if_pos e]
        rw [e] at g1
        have := h5 s g1
        exact ⟨_, rfl, by omega⟩
      · rw [if_neg e]; exact ⟨s, g1, g2⟩
  · rw [h1]
    have hx0 : ∀ x v, x ≠ 0 → Vi.look (put D 0 v) x = Vi.look D x := fun x v hx => by rw [look_put, if_neg hx]
    have h00 : ∀ v, Vi.look (put D 0 v) 0 = some v := fun v => by rw [look_put, if_pos rfl]
    refine ⟨fun x s hx hl => ?_, fun s hl => ?_, fun x hx => ?_⟩
    · rw [hx0 x _ hx] at hl
      rcases hB.a x s hx hl with g | ⟨t, j, s0', g1, g2, g3, g4, g5, g6, g7, g8⟩
      · exact .inl g
      · have := h5 s0' g1
        exact .inr ⟨t, j, nws L D i, h00 _, by rw [look_put, if_neg hx]; exact g2, g3, g4, g5, g6, by omega, g8⟩
    · rw [h00] at hl
      injection hl with hl
      exact .inr ⟨i, by rw [look_put, if_pos rfl], hi, h1, h3, h2, by rw [← hl]; exact h4⟩
    · by_cases e : x = 0
      · subst e
        obtain ⟨s, g1, g2⟩ := hB.c 0 hx
        have := h5 s g1
        exact ⟨_, h00 _, by omega⟩
      · rw [hx0 x _ e]; exact hB.c x hx
theorem pa_up (hS : Star L off) (hB : Bas L off T D Y) {i : Nat} (hi : i < L.length) (hu : upd L D i = true) {j : Nat} (h : PA L T D j) : PA L T (put D L[i]!.dst (nws L D i)) j := by
  intro g1 g2
  obtain ⟨s0, q1, q2⟩ := h g1 g2
  rcases upd_cases hS hB hi hu with ⟨h1, h2, _⟩ | ⟨h1, h2, h3, h4, h5⟩
  · exact ⟨s0, by rw [look_put, if_neg (fun e => h2 e.symm)]; exact q1, q2⟩
  · have := h5 s0 q1
    exact ⟨_, by rw [look_put, if_pos h1.symm], by omega⟩
theorem pa_at (hS : Star L off) (hB : Bas L off T D Y) {i : Nat} (hi : i < L.length) (hu : upd L D i = false) : PA L T D i := by
  intro g1 g2
  obtain ⟨s, q1, q2⟩ := hB.c _ g2
  unfold upd at hu
  rw [q1, g1] at hu
  simp only at hu
  cases hb : Vi.look D 0 with
  | none => rw [hb] at hu; cases hu
  | some b =>
    rw [hb] at hu
    simp only [decide_eq_false_iff_not] at hu
    exact ⟨b, rfl, by omega⟩
theorem pb_at (hS : Star L off) {i : Nat} (hi : i < L.length) (hu : upd L D i = false) : PB L D i := by
  intro g1 s0 g2
  unfold upd at hu
  rw [g1, g2] at hu
  simp only at hu
  cases hb : Vi.look D L[i]!.dst with
  | none => rw [hb] at hu; cases hu
  | some b =>
    rw [hb] at hu
    simp only [decide_eq_false_iff_not] at hu
    exact ⟨b, rfl, by omega⟩
theorem pb_no (h : ∀ j, j < L.length → PB L D j) {i : Nat} (hi : i < L.length) (h1 : L[i]!.frm = 0) {s0 : Int} (h3 : Vi.look D 0 = some s0) (h5 : ∀ b, Vi.look D L[i]!.dst = some b → s0 + wgt L[i]! < b) : False := by
  obtain ⟨sx, q1, q2⟩ := h i hi h1 s0 h3
  have := h5 sx q1
  omega
theorem sri_of (hS : Star L off) {ds : List Int} (hT : ∀ x, T x ↔ x ∈ ds) : SrI L 2 (Rnd L off T) (ini ds) := by
  have hini : ∀ x, Vi.look (ini ds) x = if x ∈ ds then some 0 else none := by
    intro x
    unfold ini
    have key : ∀ (l : List Int) (D : List (Int × Int)), Vi.look (l.foldl (fun D d => put D d 0) D) x = if x ∈ l then some 0 else Vi.look D x := by
      intro l
      induction l with
      | nil => intro D; simp
      | cons d l ih =>
        intro D
        rw [List.foldl_cons, ih, look_put]
        by_cases h1 : x ∈ l
        · rw [if_pos h1, if_pos (List.mem_cons_of_mem _ h1)]
        · rw [if_neg h1]
          by_cases h2 : x = d
          · rw [if_pos h2, if_pos (by rw [h2]; exact List.mem_cons_self ..)]
          · rw [if_neg h2, if_neg (by simp [h1, h2])]
    rw [key]; rfl
  have hb0 : Bas L off T (ini ds) [] := by
    refine ⟨fun x s _ hl => ?_, fun s hl => ?_, fun x hx => ?_⟩
    · rw [hini] at hl
      by_cases h : x ∈ ds
      · rw [if_pos h] at hl; injection hl with hl; exact .inl ⟨(hT x).2 h, hl.symm⟩
      · rw [if_neg h] at hl; cases hl
    · rw [hini] at hl
      by_cases h : (0 : Int) ∈ ds
      · rw [if_pos h] at hl; injection hl with hl; exact .inl ⟨(hT 0).2 h, hl.symm⟩
      · rw [if_neg h] at hl; cases hl
    · exact ⟨0, by rw [hini, if_pos ((hT x).1 hx)], Int.le_refl _⟩
  refine ⟨⟨hb0, fun j h => by omega, fun h => by omega, fun h => by omega, fun h => by omega⟩, ?_, ?_, ?_, ?_⟩
  · intro r i D Y hi hR hu
    have hB2 := bas_up hS hR.bas hi hu
    have hA : ∀ j, PA L T D j → PA L T (put D L[i]!.dst (nws L D i)) j := fun j h => pa_up hS hR.bas hi hu h
    rcases upd_cases hS hR.bas hi hu with ⟨h1, h2, s0, h3, h4, h5⟩ | ⟨h1, h2, h3, h4, h5⟩
    · have hr : r < 2 := by
        rcases Nat.lt_or_ge r 2 with h | h
        · exact h
        · exact (pb_no (hR.b2 h) hi h1 h3 h5).elim
      have hpb : ∀ j, PB L D j → PB L (put D L[i]!.dst (nws L D i)) j := by
        intro j h g1 s g2
        rw [look_put, if_neg (fun e => h2 e.symm)] at g2
        obtain ⟨sx, q1, q2⟩ := h g1 s g2
        rw [look_put]
        by_cases e : L[j]!.dst = L[i]!.dst
        · rw [if_pos e]
          rw [e] at q1
          have := h5 sx q1
          exact ⟨_, rfl, by omega⟩
        · rw [if_neg e]; exact ⟨sx, q1, q2⟩
      have hpi : PB L (put D L[i]!.dst (nws L D i)) i := by
        intro g1 s g2
        rw [look_put, if_neg (fun e => h2 e.symm), h3] at g2
        injection g2 with g2
        exact ⟨_, by rw [look_put, if_pos rfl], by omega⟩
      refine ⟨hr, hB2, fun j hj => ?_, fun h j hj => hA j (hR.a1 h j hj), fun h j hj => ?_, fun h => by omega⟩
      · rcases Nat.lt_or_eq_of_le (Nat.le_of_lt_succ hj) with g | g
        · exact hA j (hR.a0 j g)
        · intro g1; rw [g] at g1; exact absurd g1 h2
      · rcases Nat.lt_or_eq_of_le (Nat.le_of_lt_succ hj) with g | g
        · exact hpb j (hR.b1 h j g)
        · rw [g]; exact hpi
    · have hr : r < 1 := by
        rcases Nat.lt_or_ge r 1 with h | h
        · exact h
        · obtain ⟨s0, q1, q2⟩ := hR.a1 h i hi h1 h3
          have := h5 s0 q1
          omega
      refine ⟨by omega, hB2, fun j hj => ?_, fun h => by omega, fun h => by omega, fun h => by omega⟩
      rcases Nat.lt_or_eq_of_le (Nat.le_of_lt_succ hj) with g | g
      · exact hA j (hR.a0 j g)
      · intro _ _
        rw [g]
        exact ⟨_, by rw [look_put, if_pos h1.symm], by omega⟩
  · intro r i D Y hi hR hu
    refine ⟨hR.bas, fun j hj => ?_, hR.a1, fun h j hj => ?_, hR.b2⟩
    · rcases Nat.lt_or_eq_of_le (Nat.le_of_lt_succ hj) with g | g
      · exact hR.a0 j g
      · rw [g]; exact pa_at hS hR.bas hi hu
    · rcases Nat.lt_or_eq_of_le (Nat.le_of_lt_succ hj) with g | g
      · exact hR.b1 h j g
      · rw [g]; exact pb_at hS hi hu
  · intro r D Y hR
    refine ⟨hR.bas, fun j h => by omega, fun _ => hR.a0, fun _ j h => by omega, fun h => ?_⟩
    exact hR.b1 (by omega)
  · intro r i D Y hR x s hl
    by_cases hx : x = 0
    · subst hx
      rcases hR.bas.b s hl with ⟨_, g⟩ | ⟨j, _, g1, _, _, _, g2⟩
      · omega
      · have := hS.b j g1; omega
    · rcases hR.bas.a x s hx hl with ⟨_, g⟩ | ⟨t, j, s0, _, _, g1, _, _, g2, _, _, g3⟩
      · omega
      · have := hS.b j g1; omega
end
end Go.Proofs.YtmplajpbmojkkaaGreat
