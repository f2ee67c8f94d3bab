/-
  Merging sorted lists in place: the plain laws of swaps, rotations and of SymMerge; sorted pieces of a list.
  What SymMerge's three searches find, as plain laws.
-/
import Derived.Sort.Lot0
set_option linter.unusedSimpArgs false
set_option linter.unusedVariables false
namespace Go.Vi
open Go Go.Sort
section
variable {α : Type} [Inhabited α] {lt : α → α → Bool}
abbrev Asc (lt : α → α → Bool) (L : List α) : Prop := L.Pairwise fun a b => lt b a = false
omit [Inhabited α] in
theorem swo_asym (H : SWO lt) {x y : α} (h : lt x y = true) : lt y x = false := by
  cases h2 : lt y x
  · rfl
  · have := H.trans _ _ _ h h2
    rw [H.irrefl] at this
    cases this
theorem arr_list (d : Array α) (i : Nat) : d[i]! = d.toList[i]! := by
  simp only [List.getElem!_eq_getElem?_getD, Array.getElem?_toList, Array.getElem!_eq_getD, Array.getD_eq_getD_getElem?]
theorem list_at {A B C : List α} {t : Nat} (h : t < B.length) : (A ++ B ++ C)[A.length + t]! = B[t]! := by
  rw [getElem!_pos _ _ (by simp; omega), getElem!_pos B t h, List.getElem_append_left (by simp; omega), List.getElem_append_right (by omega)]
  congr 1
  omega
theorem at_mid {d : Array α} {A B C : List α} (h : d.toList = A ++ B ++ C) {a t : Nat} (ha : A.length = a) (ht : t < B.length) : d[a + t]! = B[t]! := by
  rw [arr_list, h, ← ha]
  exact list_at ht
theorem swp_list {d : Array α} {A B C : List α} {x y : α} {i j : Nat} (h : d.toList = A ++ x :: (B ++ y :: C)) (hi : A.length = i) (hj : A.length + 1 + B.length = j) : (swp d i j).toList = A ++ y :: (B ++ x :: C) ∧ (swp d j i).toList = A ++ y :: (B ++ x :: C) := by
  have e1 : d[i]! = x := by
    rw [arr_list, h, getElem!_pos _ _ (by simp; omega), List.getElem_append_right (by omega)]
    simp [hi]
  have e2 : d[j]! = y := by
    rw [arr_list, h, getElem!_pos _ _ (by simp; omega), List.getElem_append_right (by omega), List.getElem_cons, dif_neg (by omega), List.getElem_append_right (by omega)]
    have : j - A.length - 1 - B.length = 0 := by omega
    simp [this]
  have s1 : ∀ (A : List α) (u v : α) (R : List α), (A ++ u :: R).set A.length v = A ++ v :: R := fun A u v R => by
    rw [List.set_append_right _ _ (Nat.le_refl _)]; simp
  have s2 : ∀ (u v z : α), (A ++ u :: (B ++ v :: C)).set j z = A ++ u :: (B ++ z :: C) := fun u v z => by
    have q := s1 (A ++ u :: B) v z C
    rw [show (A ++ u :: B).length = j by simp; omega] at q
    simpa using q
  constructor
  · unfold swp
    rw [Array.toList_setIfInBounds, Array.toList_setIfInBounds, e1, e2, h, ← hi, s1, s2]
  · unfold swp
    rw [Array.toList_setIfInBounds, Array.toList_setIfInBounds, e1, e2, h, s2, ← hi, s1]
/-- One step of the exchange of two ranges. -/
theorem swap_step {d : Array α} {P X M Y S : List α} {n i a b : Nat} (hX : X.length = n) (hY : Y.length = n) (ha : P.length = a) (hb : a + n + M.length = b) (hi : i < n)
    (h : d.toList = P ++ (Y.take i ++ X.drop i) ++ M ++ (X.take i ++ Y.drop i) ++ S) :
    (swp d (a + i) (b + i)).toList = P ++ (Y.take (i + 1) ++ X.drop (i + 1)) ++ M ++ (X.take (i + 1) ++ Y.drop (i + 1)) ++ S := by
  have hXi : i < X.length := by omega
  have hYi : i < Y.length := by omega
  have q := swp_list (d := d) (A := P ++ Y.take i) (x := X[i]) (B := X.drop (i + 1) ++ M ++ X.take i) (y := Y[i]) (C := Y.drop (i + 1) ++ S) (i := a + i) (j := b + i)
    (by rw [h, List.drop_eq_getElem_cons hXi, List.drop_eq_getElem_cons hYi]; simp only [List.append_assoc, List.cons_append]) (by simp; omega) (by simp; omega)
  rw [q.1, List.take_add_one, List.take_add_one, List.getElem?_eq_getElem hXi, List.getElem?_eq_getElem hYi]
  simp only [List.append_assoc, List.cons_append, List.nil_append, Option.toList_some]
omit [Inhabited α] in
theorem asc_take {Y : List α} (H : Asc lt Y) (hr : ∀ x : α, lt x x = false) [Inhabited α] {c : Nat} (h0 : 0 < c) (hc : c ≤ Y.length) : ∀ y ∈ Y.take c, lt Y[c - 1]! y = false := by
  intro y hy
  obtain ⟨i, hi, rfl⟩ := List.mem_iff_getElem.1 hy
  simp only [List.length_take] at hi
  rw [List.getElem_take, getElem!_pos Y _ (by omega)]
  rcases Nat.lt_or_ge i (c - 1) with h | h
  · exact List.pairwise_iff_getElem.1 H i (c - 1) _ _ h
  · have : i = c - 1 := by omega
    subst this
    exact hr _
omit [Inhabited α] in
theorem asc_drop {Y : List α} (H : Asc lt Y) (hr : ∀ x : α, lt x x = false) [Inhabited α] {c : Nat} (hc : c < Y.length) : ∀ y ∈ Y.drop c, lt y Y[c]! = false := by
  intro y hy
  obtain ⟨i, hi, rfl⟩ := List.mem_iff_getElem.1 hy
  simp only [List.length_drop] at hi
  rw [List.getElem_drop, getElem!_pos Y _ hc]
  rcases Nat.eq_zero_or_pos i with h | h
  · subst h; exact hr _
  · exact List.pairwise_iff_getElem.1 H c (c + i) _ _ (by omega)
omit [Inhabited α] in
theorem asc_cut {Y : List α} (H : Asc lt Y) (c : Nat) : ∀ u ∈ Y.take c, ∀ v ∈ Y.drop c, lt v u = false := by
  rw [← List.take_append_drop c Y] at H
  exact (List.pairwise_append.1 H).2.2
/-- What the search of SymMerge finds parts both halves. -/
theorem sym_parts (H : SWO lt) {X Y : List α} {s t : Nat} (hX : Asc lt X) (hY : Asc lt Y) (hs : s ≤ X.length) (ht : t ≤ Y.length)
    (h1 : s = 0 ∨ t = Y.length ∨ lt Y[t]! X[s - 1]! = false) (h2 : s = X.length ∨ t = 0 ∨ lt Y[t - 1]! X[s]! = true) :
    ∀ u ∈ X.take s ++ Y.take t, ∀ v ∈ X.drop s ++ Y.drop t, lt v u = false := by
  intro u hu v hv
  rcases List.mem_append.1 hu with hu | hu <;> rcases List.mem_append.1 hv with hv | hv
  · exact asc_cut hX s u hu v hv
  · rcases h1 with h | h | h
    · subst h; simp at hu
    · subst h; simp at hv
    · rcases Nat.eq_zero_or_pos s with h0 | h0
      · subst h0; simp at hu
      · rcases Nat.lt_or_ge t Y.length with h3 | h3
        · exact H.ntrans _ _ _ (asc_drop hY H.irrefl h3 v hv) (H.ntrans _ _ _ h (asc_take hX H.irrefl h0 hs u hu))
        · rw [List.drop_eq_nil_of_le h3] at hv; simp at hv
  · rcases h2 with h | h | h
    · subst h; simp at hv
    · subst h; simp at hu
    · rcases Nat.eq_zero_or_pos t with h0 | h0
      · subst h0; simp at hu
      · rcases Nat.lt_or_ge s X.length with h3 | h3
        · exact H.ntrans _ _ _ (asc_drop hX H.irrefl h3 v hv) (H.ntrans _ _ _ (swo_asym H h) (asc_take hY H.irrefl h0 ht u hu))
        · rw [List.drop_eq_nil_of_le h3] at hv; simp at hv
  · exact asc_cut hY t u hu v hv
/-- A merge in place: what lies between P and S is ascending, and what lay there before. -/
def MergedTo (lt : α → α → Bool) (P X S : List α) (d : Array α) : Prop := ∃ Z, d.toList = P ++ Z ++ S ∧ Z.Perm X ∧ Asc lt Z
omit [Inhabited α] in
theorem merged_join {P X1 X2 Y1 Y2 Z1 Z2 S : List α} {d : Array α} (h : d.toList = P ++ Z1 ++ (Z2 ++ S)) (p1 : Z1.Perm (X1 ++ Y1)) (p2 : Z2.Perm (X2 ++ Y2)) (a1 : Asc lt Z1) (a2 : Asc lt Z2) (hp : ∀ u ∈ X1 ++ Y1, ∀ v ∈ X2 ++ Y2, lt v u = false) :
    MergedTo lt P ((X1 ++ X2) ++ (Y1 ++ Y2)) S d := by
  refine ⟨Z1 ++ Z2, by rw [h]; simp, ?_, ?_⟩
  · refine (p1.append p2).trans ?_
    rw [List.append_assoc, List.append_assoc]
    refine List.Perm.append_left _ ?_
    rw [← List.append_assoc, ← List.append_assoc]
    exact (List.perm_append_comm (l₁ := Y1) (l₂ := X2)).append_right _
  · exact List.pairwise_append.2 ⟨a1, a2, fun u hu v hv => hp u (p1.mem_iff.1 hu) v (p2.mem_iff.1 hv)⟩
theorem one_left (H : SWO lt) {x : α} {Y : List α} {c : Nat} (hY : Asc lt Y) (hc : c ≤ Y.length) (h1 : c = 0 ∨ lt Y[c - 1]! x = true) (h2 : c = Y.length ∨ lt Y[c]! x = false) : Asc lt (Y.take c ++ x :: Y.drop c) := by
  have q := sym_parts H (X := [x]) (Y := Y) (s := 0) (t := c) (List.pairwise_singleton _ _) hY (Nat.zero_le _) hc (.inl rfl) (by
    rcases h1 with h | h
    · exact .inr (.inl h)
    · exact .inr (.inr h))
  simp only [List.take_zero, List.nil_append, List.drop_zero, List.singleton_append, List.mem_cons] at q
  refine List.pairwise_append.2 ⟨hY.take, List.pairwise_cons.2 ⟨fun y hy => ?_, hY.drop⟩, fun u hu v hv => q u hu v (List.mem_cons.1 hv)⟩
  rcases h2 with h | h
  · subst h; simp at hy
  · rcases Nat.lt_or_ge c Y.length with h3 | h3
    · exact H.ntrans _ _ _ (asc_drop hY H.irrefl h3 y hy) h
    · rw [List.drop_eq_nil_of_le h3] at hy; simp at hy
theorem one_right (H : SWO lt) {y : α} {X : List α} {c : Nat} (hX : Asc lt X) (hc : c ≤ X.length) (h1 : c = 0 ∨ lt y X[c - 1]! = false) (h2 : c = X.length ∨ lt y X[c]! = true) : Asc lt (X.take c ++ y :: X.drop c) := by
  have q := sym_parts H (X := X) (Y := [y]) (s := c) (t := 0) hX (List.pairwise_singleton _ _) hc (Nat.zero_le _) (by
    rcases h1 with h | h
    · exact .inl h
    · exact .inr (.inr (by simpa using h))) (.inr (.inl rfl))
  simp only [List.take_zero, List.append_nil, List.drop_zero, List.mem_append, List.mem_singleton] at q
  refine List.pairwise_append.2 ⟨hX.take, List.pairwise_cons.2 ⟨fun v hv => ?_, hX.drop⟩, fun u hu v hv => q u hu v ((List.mem_cons.1 hv).symm)⟩
  rcases h2 with h | h
  · subst h; simp at hv
  · rcases Nat.lt_or_ge c X.length with h3 | h3
    · exact H.ntrans _ _ _ (asc_drop hX H.irrefl h3 v hv) (swo_asym H h)
    · rw [List.drop_eq_nil_of_le h3] at hv; simp at hv
omit [Inhabited α] in
theorem perm_one {x : α} (Y : List α) (c : Nat) : (Y.take c ++ x :: Y.drop c).Perm (x :: Y) := by
  have := List.perm_middle (a := x) (l₁ := Y.take c) (l₂ := Y.drop c)
  rwa [List.take_append_drop] at this
/-- The way of one element to its place, forwards. -/
theorem walk_right {d : Array α} {P Y S : List α} {x : α} {a k : Nat} (ha : P.length = a) (hk : k < Y.length) (h : d.toList = P ++ (Y.take k ++ x :: Y.drop k) ++ S) :
    (swp d (a + k) (a + k + 1)).toList = P ++ (Y.take (k + 1) ++ x :: Y.drop (k + 1)) ++ S := by
  have q := swp_list (d := d) (A := P ++ Y.take k) (x := x) (B := []) (y := Y[k]) (C := Y.drop (k + 1) ++ S) (i := a + k) (j := a + k + 1)
    (by rw [h, List.drop_eq_getElem_cons hk]; simp only [List.append_assoc, List.cons_append, List.nil_append]) (by simp; omega) (by simp; omega)
  rw [q.1, List.take_add_one, List.getElem?_eq_getElem hk]
  simp only [List.append_assoc, List.cons_append, List.nil_append, Option.toList_some]
/-- The way of one element to its place, backwards. -/
theorem walk_left {d : Array α} {P X S : List α} {y : α} {a k : Nat} (ha : P.length = a) (hk : k < X.length) (h : d.toList = P ++ (X.take (k + 1) ++ y :: X.drop (k + 1)) ++ S) :
    (swp d (a + k + 1) (a + k)).toList = P ++ (X.take k ++ y :: X.drop k) ++ S := by
  have q := swp_list (d := d) (A := P ++ X.take k) (x := X[k]) (B := []) (y := y) (C := X.drop (k + 1) ++ S) (i := a + k) (j := a + k + 1)
    (by rw [h, List.take_add_one, List.getElem?_eq_getElem hk]; simp only [List.append_assoc, List.cons_append, List.nil_append, Option.toList_some]) (by simp; omega) (by simp; omega)
  rw [q.2, List.drop_eq_getElem_cons hk]
  simp only [List.append_assoc, List.cons_append, List.nil_append]
theorem merged_of_in {d d' : Array α} {P X S : List α} {a b : Nat} (h : d.toList = P ++ X ++ S) (ha : P.length = a) (hb : a + X.length = b) (hp : PermIn a b d d') (hs : SortedIn lt a b d') : MergedTo lt P X S d' := by
  obtain ⟨h1, h2, h3⟩ := hp
  have hd := h
  have hl : d.toList.length = a + X.length + S.length := by rw [h]; simp; omega
  have hl1 : d.size = a + X.length + S.length := by simpa using hl
  have hl' : d'.toList.length = a + X.length + S.length := by simpa [h1] using hl
  have e : (d.extract a b).toList = X := by
    rw [Array.toList_extract, List.extract_eq_take_drop, h, List.append_assoc, ← ha, List.drop_left, show b - P.length = X.length by omega, List.take_left]
  refine ⟨(d'.extract a b).toList, ?_, by rw [← e]; exact h3, ?_⟩
  · apply List.ext_getElem?
    intro t
    have hx : (d'.extract a b).toList.length = X.length := by simp [h1]; omega
    have g : ∀ t, t < a + X.length + S.length → (t < a ∨ b ≤ t) → d'.toList[t]? = (P ++ X ++ S)[t]? := fun t ht h => by
      have := h2 t h
      rw [arr_list, arr_list, hd] at this
      rw [getElem!_pos _ _ (by omega), getElem!_pos _ _ (by simp; omega)] at this
      rw [List.getElem?_eq_getElem (by omega), List.getElem?_eq_getElem (by simp; omega), this]
    rcases Nat.lt_or_ge t a with h4 | h4
    · rw [g t (by omega) (.inl h4), List.append_assoc, List.append_assoc, List.getElem?_append_left (by omega), List.getElem?_append_left (by omega)]
    · rcases Nat.lt_or_ge t b with h5 | h5
      · rw [List.append_assoc, List.getElem?_append_right (by omega), List.getElem?_append_left (by rw [hx]; omega), Array.toList_extract, List.extract_eq_take_drop, List.getElem?_take_of_lt (by omega), List.getElem?_drop]
        congr 1
        omega
      · rcases Nat.lt_or_ge t (a + X.length + S.length) with h6 | h6
        · rw [g t h6 (.inr h5), List.getElem?_append_right (by simp; omega), List.getElem?_append_right (by simp [h1]; omega)]
          congr 1
          simp [h1]; omega
        · rw [List.getElem?_eq_none (by omega), List.getElem?_eq_none (by simp [h1]; omega)]
  · refine List.pairwise_iff_getElem.2 fun i j hi hj hij => ?_
    have hx : (d'.extract a b).toList.length = X.length := by simp [h1]; omega
    have q := hs (a + i) (a + j) (by omega) (by omega) (by omega)
    rw [getElem!_pos d' _ (by omega), getElem!_pos d' _ (by omega)] at q
    simpa using q
/-! Lists of ascending pieces. -/
/-- Pieces of k, all full. -/
inductive FullC (lt : α → α → Bool) (k : Nat) : List α → Prop
  | nil : FullC lt k []
  | snoc {P C : List α} : FullC lt k P → C.length = k → Asc lt C → FullC lt k (P ++ C)
/-- Pieces of k, the last one may be shorter. -/
inductive PartC (lt : α → α → Bool) (k : Nat) : List α → Prop
  | last {L : List α} : L.length ≤ k → Asc lt L → PartC lt k L
  | cons {C R : List α} : C.length = k → Asc lt C → PartC lt k R → PartC lt k (C ++ R)
omit [Inhabited α] in
theorem FullC.part {k : Nat} {P S : List α} (h : FullC lt k P) (hS : PartC lt k S) : PartC lt k (P ++ S) := by
  induction h generalizing S with
  | nil => exact hS
  | snoc _ hc ha ih => rw [List.append_assoc]; exact ih (.cons hc ha hS)
omit [Inhabited α] in
theorem PartC.asc {k : Nat} {L : List α} (h : PartC lt k L) (hL : L.length ≤ k) : Asc lt L := by
  cases h with
  | last _ h => exact h
  | cons h1 h2 h3 =>
    rename_i C R
    rw [List.length_append] at hL
    have : R = [] := List.length_eq_zero_iff.1 (by omega)
    subst this
    simpa using h2
omit [Inhabited α] in
/-- Two full pieces at the front, or the rest. -/
theorem PartC.two {k : Nat} {S : List α} (h : PartC lt k S) (h2 : 2 * k ≤ S.length) (hk : 0 < k) : ∃ X Y R, S = X ++ Y ++ R ∧ X.length = k ∧ Y.length = k ∧ Asc lt X ∧ Asc lt Y ∧ PartC lt k R := by
  cases h with
  | last h _ => omega
  | cons h1 a1 h3 =>
    rename_i X R
    rw [List.length_append] at h2
    cases h3 with
    | last h4 a4 => exact ⟨X, R, [], by simp, h1, by omega, a1, a4, .last (Nat.zero_le _) List.Pairwise.nil⟩
    | cons h4 a4 h5 =>
      rename_i Y R
      exact ⟨X, Y, R, by simp, h1, h4, a1, a4, h5⟩
omit [Inhabited α] in
theorem PartC.oneMore {k : Nat} {S : List α} (h : PartC lt k S) (h1 : k < S.length) (h2 : S.length < 2 * k) : ∃ X Y, S = X ++ Y ∧ X.length = k ∧ 0 < Y.length ∧ Asc lt X ∧ Asc lt Y := by
  cases h with
  | last h _ => omega
  | cons h3 a1 h5 =>
    rename_i X R
    rw [List.length_append] at h1 h2
    exact ⟨X, R, rfl, h3, by omega, a1, h5.asc (by omega)⟩
end
end Go.Vi
namespace Go.Vi
open Go Go.Sort
section
variable {α : Type} [Inhabited α] {lt : α → α → Bool}
/-- One element on the left. -/
theorem sym_left_end (H : SWO lt) {d : Array α} {P X Y T : List α} {a m b i : Nat} (hd : d.toList = P ++ X ++ Y ++ T) (ha : P.length = a) (hX : a + X.length = m) (hY : m + Y.length = b) (h1 : X.length = 1) (aY : Asc lt Y) (hi : m ≤ i) (hib : i ≤ b)
    (g1 : i = m ∨ lt d[i - 1]! d[a]! = true) (g2 : i = b ∨ lt d[i]! d[a]! = false) :
    ∃ x c, X = [x] ∧ i = a + 1 + c ∧ c ≤ Y.length ∧ d.toList = P ++ (Y.take 0 ++ x :: Y.drop 0) ++ T ∧ Asc lt (Y.take c ++ x :: Y.drop c) := by
  obtain ⟨x, rfl⟩ := List.length_eq_one_iff.1 h1
  have e0 : d[a]! = x := by
    have := at_mid (A := P) (B := [x]) (C := Y ++ T) (d := d) (a := a) (t := 0) (by rw [hd]; simp) ha (by simp)
    simpa using this
  have eY : ∀ t, t < Y.length → d[m + t]! = Y[t]! := fun t ht => at_mid (A := P ++ [x]) (B := Y) (C := T) hd (by simp at hX ⊢; omega) ht
  simp only [List.length_singleton] at hX
  refine ⟨x, i - m, rfl, by omega, by omega, by rw [hd]; simp, one_left H aY (by omega) ?_ ?_⟩
  · rcases Nat.eq_zero_or_pos (i - m) with h | h
    · exact .inl h
    · rcases g1 with g | g
      · omega
      · rw [e0, show i - 1 = m + (i - m - 1) by omega, eY _ (by omega)] at g
        exact .inr g
  · rcases g2 with g | g
    · exact .inl (by omega)
    · rcases Nat.lt_or_ge i b with h | h
      · rw [e0, show i = m + (i - m) by omega, eY _ (by omega)] at g
        exact .inr g
      · exact .inl (by omega)
omit [Inhabited α] in
theorem merged_left {P Y T : List α} {x : α} {c : Nat} {d : Array α} (h : d.toList = P ++ (Y.take c ++ x :: Y.drop c) ++ T) (ha : Asc lt (Y.take c ++ x :: Y.drop c)) : MergedTo lt P ([x] ++ Y) T d :=
  ⟨_, h, perm_one Y c, ha⟩
/-- One element on the right. -/
theorem sym_right_end (H : SWO lt) {d : Array α} {P X Y T : List α} {a m b i : Nat} (hd : d.toList = P ++ X ++ Y ++ T) (ha : P.length = a) (hX : a + X.length = m) (hY : m + Y.length = b) (h1 : Y.length = 1) (aX : Asc lt X) (hi : a ≤ i) (him : i ≤ m)
    (g1 : i = a ∨ lt d[m]! d[i - 1]! = false) (g2 : i = m ∨ lt d[m]! d[i]! = true) :
    ∃ y c, Y = [y] ∧ i = a + c ∧ c ≤ X.length ∧ d.toList = P ++ (X.take X.length ++ y :: X.drop X.length) ++ T ∧ Asc lt (X.take c ++ y :: X.drop c) := by
  obtain ⟨y, rfl⟩ := List.length_eq_one_iff.1 h1
  have e0 : d[m]! = y := by
    have := at_mid (A := P ++ X) (B := [y]) (C := T) (d := d) (a := m) (t := 0) hd (by simp; omega) (by simp)
    simpa using this
  have eX : ∀ t, t < X.length → d[a + t]! = X[t]! := fun t ht => at_mid (A := P) (B := X) (C := [y] ++ T) (by rw [hd]; simp) ha ht
  refine ⟨y, i - a, rfl, by omega, by omega, by rw [hd]; simp, one_right H aX (by omega) ?_ ?_⟩
  · rcases Nat.eq_zero_or_pos (i - a) with h | h
    · exact .inl h
    · rcases g1 with g | g
      · omega
      · rw [e0, show i - 1 = a + (i - a - 1) by omega, eX _ (by omega)] at g
        exact .inr g
  · rcases g2 with g | g
    · exact .inl (by omega)
    · rcases Nat.lt_or_ge i m with h | h
      · rw [e0, show i = a + (i - a) by omega, eX _ (by omega)] at g
        exact .inr g
      · exact .inl (by omega)
omit [Inhabited α] in
theorem merged_right {P X T : List α} {y : α} {c : Nat} {d : Array α} (h : d.toList = P ++ (X.take c ++ y :: X.drop c) ++ T) (ha : Asc lt (X.take c ++ y :: X.drop c)) : MergedTo lt P (X ++ [y]) T d :=
  ⟨_, h, (perm_one X c).trans (List.perm_append_singleton y X).symm, ha⟩
/-- The search over both halves. -/
theorem sym_gen_end (H : SWO lt) {d : Array α} {P X Y T : List α} {a m b mid lo hi st : Nat} (hd : d.toList = P ++ X ++ Y ++ T) (ha : P.length = a) (hX : a + X.length = m) (hY : m + Y.length = b) (hmid : mid = (a + b) / 2)
    (hlo : (mid < m ∧ lo + b = mid + m ∧ hi = mid) ∨ (m ≤ mid ∧ lo = a ∧ hi = m)) (aX : Asc lt X) (aY : Asc lt Y) (h1 : lo ≤ st) (h2 : st ≤ hi)
    (g1 : st = lo ∨ lt d[mid + m - 1 - (st - 1)]! d[st - 1]! = false) (g2 : st = hi ∨ lt d[mid + m - 1 - st]! d[st]! = true) :
    ∃ s t, st = a + s ∧ mid = st + t ∧ s ≤ X.length ∧ t ≤ Y.length ∧ ∀ u ∈ X.take s ++ Y.take t, ∀ v ∈ X.drop s ++ Y.drop t, lt v u = false := by
  have eX : ∀ t, t < X.length → d[a + t]! = X[t]! := fun t ht => at_mid (A := P) (B := X) (C := Y ++ T) (by rw [hd]; simp) ha ht
  have eY : ∀ t, t < Y.length → d[m + t]! = Y[t]! := fun t ht => at_mid (A := P ++ X) (B := Y) (C := T) hd (by simp; omega) ht
  refine ⟨st - a, mid - st, by omega, by omega, by omega, by omega, sym_parts H aX aY (by omega) (by omega) ?_ ?_⟩
  · by_cases hs : st - a = 0
    · exact .inl hs
    · by_cases ht : mid - st = Y.length
      · exact .inr (.inl ht)
      · rcases g1 with g | g
        · omega
        · rw [show mid + m - 1 - (st - 1) = m + (mid - st) by omega, show st - 1 = a + (st - a - 1) by omega, eX _ (by omega), eY _ (by omega)] at g
          exact .inr (.inr g)
  · by_cases hs : st - a = X.length
    · exact .inl hs
    · by_cases ht : mid - st = 0
      · exact .inr (.inl ht)
      · rcases g2 with g | g
        · omega
        · rw [show mid + m - 1 - st = m + (mid - st - 1) by omega, eY _ (by omega)] at g
          rw [show d[st]! = X[st - a]! by rw [← eX _ (by omega)]; congr 1; omega] at g
          exact .inr (.inr g)
omit [Inhabited α] in
theorem merged_none {P X Y T : List α} {d : Array α} (h : d.toList = P ++ X ++ Y ++ T) (aX : Asc lt X) (aY : Asc lt Y) (h0 : X.length = 0 ∨ Y.length = 0) : MergedTo lt P (X ++ Y) T d := by
  refine ⟨X ++ Y, by rw [h]; simp, List.Perm.refl _, ?_⟩
  rcases h0 with h0 | h0 <;> have := List.length_eq_zero_iff.1 h0 <;> subst this
  · simpa using aY
  · simpa using aX
omit [Inhabited α] in
theorem turned_none {P X1 X2 Y1 Y2 T : List α} {d : Array α} (h : d.toList = P ++ (X1 ++ X2) ++ (Y1 ++ Y2) ++ T) (h0 : X2.length = 0 ∨ Y1.length = 0) : d.toList = P ++ X1 ++ Y1 ++ (X2 ++ Y2 ++ T) := by
  rw [h]
  rcases h0 with h0 | h0 <;> have := List.length_eq_zero_iff.1 h0 <;> subst this <;> simp
end
end Go.Vi
