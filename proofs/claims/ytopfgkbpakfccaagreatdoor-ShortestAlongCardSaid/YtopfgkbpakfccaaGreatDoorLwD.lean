/-
  The plain law of the law's lengths: shortening as long as a hop can gives the least lengths; the law's hop is the one that is left of a node's hops.
-/
import Derived.Test.YtopfgkbpakfccaaGreatDoorLwC
import Derived.Test.YtopfgkbpakfccaaGreatDoorLens
set_option linter.unusedSimpArgs false
set_option linter.unusedVariables false
namespace Go.Proofs.YtopfgkbpakfccaaGreatDoor
open Go Go.Vi
theorem cmpct_spec : ∀ (S : List Hp) (p : Hp), (p :: S).Pairwise (fun a b => ¬hpLt b a) → (cmpct p S).Pairwise (fun a b => a.dst < b.dst) ∧ (∀ h ∈ cmpct p S, h ∈ S ∧ p.dst < h.dst ∧ ∀ g ∈ S, g.dst = h.dst → ¬hpLt g h) ∧ ∀ g ∈ S, g.dst = p.dst ∨ ∃ h ∈ cmpct p S, h.dst = g.dst
  | [], p, _ => ⟨List.Pairwise.nil, (fun h hh => by cases hh), fun g hg => by cases hg⟩
  | x :: r, p, hs => by
    obtain ⟨hp, hr⟩ := List.pairwise_cons.1 hs
    obtain ⟨i1, i2, i3⟩ := cmpct_spec r x hr
    have hx := (List.pairwise_cons.1 hr).1
    have hpx : p.dst ≤ x.dst := by
      have := hp x List.mem_cons_self
      unfold hpLt at this; omega
    unfold cmpct
    by_cases h : x.dst = p.dst
    · rw [if_pos h]
      refine ⟨i1, fun y hy => ?_, fun g hg => ?_⟩
      · obtain ⟨j1, j2, j3⟩ := i2 y hy
        refine ⟨List.mem_cons_of_mem _ j1, by omega, fun g hg e => ?_⟩
        rcases List.mem_cons.1 hg with rfl | hg
        · omega
        · exact j3 g hg e
      · rcases List.mem_cons.1 hg with rfl | hg
        · exact .inl h
        · rcases i3 g hg with e | e
          · exact .inl (e.trans h)
          · exact .inr e
    · rw [if_neg h]
      refine ⟨List.pairwise_cons.2 ⟨fun y hy => (i2 y hy).2.1, i1⟩, fun y hy => ?_, fun g hg => ?_⟩
      · rcases List.mem_cons.1 hy with rfl | hy
        · refine ⟨List.mem_cons_self, by omega, fun g hg e => ?_⟩
          rcases List.mem_cons.1 hg with rfl | hg
          · unfold hpLt; omega
          · exact hx g hg
        · obtain ⟨j1, j2, j3⟩ := i2 y hy
          refine ⟨List.mem_cons_of_mem _ j1, by omega, fun g hg e => ?_⟩
          rcases List.mem_cons.1 hg with rfl | hg
          · omega
          · exact j3 g hg e
      · rcases List.mem_cons.1 hg with rfl | hg
        · exact .inr ⟨_, List.mem_cons_self, rfl⟩
        · rcases i3 g hg with e | ⟨y, hy, e⟩
          · exact .inr ⟨x, List.mem_cons_self, e.symm⟩
          · exact .inr ⟨y, List.mem_cons_of_mem _ hy, e⟩
/-- What is left of a node's hops: by rising ends, the least of each end. -/
theorem fin_spec {L L' : List Hp} (h : Fin L L') : L'.Pairwise (fun a b => a.dst < b.dst) ∧ (∀ h ∈ L', h ∈ L ∧ ∀ g ∈ L, g.dst = h.dst → ¬hpLt g h) ∧ ∀ g ∈ L, ∃ h ∈ L', h.dst = g.dst := by
  obtain ⟨S, hp, hs, rfl⟩ := h
  cases S with
  | nil => exact ⟨List.Pairwise.nil, (fun h hh => by cases hh), fun g hg => by have := hp.mem_iff.2 hg; cases this⟩
  | cons x r =>
    obtain ⟨i1, i2, i3⟩ := cmpct_spec r x hs
    have hx := (List.pairwise_cons.1 hs).1
    unfold compactL
    refine ⟨List.pairwise_cons.2 ⟨fun y hy => (i2 y hy).2.1, i1⟩, fun y hy => ?_, fun g hg => ?_⟩
    · rcases List.mem_cons.1 hy with rfl | hy
      · refine ⟨hp.mem_iff.1 List.mem_cons_self, fun g hg e => ?_⟩
        rcases List.mem_cons.1 (hp.mem_iff.2 hg) with rfl | hg
        · unfold hpLt; omega
        · exact hx g hg
      · obtain ⟨j1, j2, j3⟩ := i2 y hy
        refine ⟨hp.mem_iff.1 (List.mem_cons_of_mem _ j1), fun g hg e => ?_⟩
        rcases List.mem_cons.1 (hp.mem_iff.2 hg) with rfl | hg
        · omega
        · exact j3 g hg e
    · rcases List.mem_cons.1 (hp.mem_iff.2 hg) with rfl | hg
      · exact ⟨_, List.mem_cons_self, rfl⟩
      · rcases i3 g hg with e | ⟨y, hy, e⟩
        · exact ⟨x, List.mem_cons_self, e.symm⟩
        · exact ⟨y, List.mem_cons_of_mem _ hy, e⟩
theorem mem_addH {G : Int → List Hp} {k x : Int} {h g : Hp} (hg : g ∈ G x) : g ∈ addH G k h x := by
  unfold addH
  split
  · rename_i e; subst e; simp [hg]
  · exact hg
theorem addH_mem (G : Int → List Hp) (k : Int) (h : Hp) : h ∈ addH G k h k := by simp [addH]
theorem hopStep_mem {G : Int → List Hp} {x : Int} {r : Rd} {g : Hp} (hg : g ∈ G x) : g ∈ hopStep G r x := by
  unfold hopStep
  split
  · exact mem_addH hg
  · exact mem_addH (mem_addH hg)
theorem leads_mem (a b : Int) : ∀ (rs : List Rd) (G : Int → List Hp), (∀ g, g ∈ G a → g ∈ rs.foldl hopStep G a) ∧ ∀ r ∈ rs, leadsB a b r = true → ⟨b, r.id, r.len⟩ ∈ rs.foldl hopStep G a
  | [], G => ⟨fun g h => h, fun r h => by cases h⟩
  | r :: rs, G => by
    obtain ⟨i1, i2⟩ := leads_mem a b rs (hopStep G r)
    refine ⟨fun g h => i1 g (hopStep_mem h), fun q hq hl => ?_⟩
    rcases List.mem_cons.1 hq with rfl | hq
    · refine i1 _ ?_
      simp only [leadsB, Bool.or_eq_true, Bool.and_eq_true, beq_iff_eq, Bool.not_eq_true'] at hl
      unfold hopStep
      rcases hl with ⟨e1, e2⟩ | ⟨⟨e0, e1⟩, e2⟩
      · subst e1; subst e2
        split
        · exact addH_mem _ _ _
        · exact mem_addH (addH_mem _ _ _)
      · subst e1; subst e2
        rw [e0]
        exact addH_mem _ _ _
    · exact i2 q hq hl
theorem hopsG_iff (rs : List Rd) (a b i l : Int) : ⟨b, i, l⟩ ∈ hopsG rs a ↔ ∃ r ∈ rs, leadsB a b r = true ∧ r.id = i ∧ r.len = l := by
  constructor
  · intro h
    obtain ⟨r, hr, ⟨e1, e2⟩ | ⟨e0, e1, e2⟩⟩ := hopsG_mem rs a _ h
    · injection e2 with q1 q2 q3
      exact ⟨r, hr, by simp [leadsB, e1, q1], q2.symm, q3.symm⟩
    · injection e2 with q1 q2 q3
      exact ⟨r, hr, by simp [leadsB, e0, e1, q1], q2.symm, q3.symm⟩
  · rintro ⟨r, hr, hl, rfl, rfl⟩
    exact (leads_mem a b rs _).2 r hr hl
/-- The law's hop: the first of the least roads. -/
theorem hopS_fold (a b : Int) : ∀ (rs : List Rd) (h : Hst), (h.ok = true → ∀ r ∈ rs, h.road < r.id) → rs.Pairwise (fun x y => x.id < y.id) →
    ((rs.foldl (hopS a b) h).ok = true ↔ h.ok = true ∨ ∃ r ∈ rs, leadsB a b r = true) ∧
    ((rs.foldl (hopS a b) h).ok = true → ((h.ok = true ∧ rs.foldl (hopS a b) h = h) ∨ ∃ r ∈ rs, leadsB a b r = true ∧ rs.foldl (hopS a b) h = ⟨r.id, r.len, true⟩) ∧
      (h.ok = true → (rs.foldl (hopS a b) h).len < h.len ∨ ((rs.foldl (hopS a b) h).len = h.len ∧ (rs.foldl (hopS a b) h).road ≤ h.road)) ∧
      ∀ r ∈ rs, leadsB a b r = true → (rs.foldl (hopS a b) h).len < r.len ∨ ((rs.foldl (hopS a b) h).len = r.len ∧ (rs.foldl (hopS a b) h).road ≤ r.id))
  | [], h, _, _ => by
    refine ⟨by simp, fun ho => ⟨.inl ⟨ho, rfl⟩, fun _ => .inr ⟨rfl, Int.le_refl _⟩, fun r hr => by cases hr⟩⟩
  | x :: rs, h, hlt, hs => by
    obtain ⟨hx, hs'⟩ := List.pairwise_cons.1 hs
    rw [List.foldl_cons]
    obtain ⟨g, hg⟩ : ∃ g, hopS a b h x = g := ⟨_, rfl⟩
    rw [hg]
    unfold hopS at hg
    by_cases hl : leadsB a b x = true
    · by_cases hc : (!h.ok || decide (x.len < h.len)) = true
      · rw [if_pos (by simp [hl, hc])] at hg
        subst hg
        obtain ⟨i1, i2⟩ := hopS_fold a b rs ⟨x.id, x.len, true⟩ (fun _ r hr => hx r hr) hs'
        refine ⟨?_, fun ho => ?_⟩
        · rw [i1]
          exact ⟨fun _ => .inr ⟨x, List.mem_cons_self, hl⟩, fun _ => .inl rfl⟩
        · obtain ⟨j1, j2, j3⟩ := i2 ho
          have j2 := j2 rfl
          refine ⟨.inr ?_, fun h1 => ?_, fun r hr hlr => ?_⟩
          · rcases j1 with ⟨_, e⟩ | ⟨r, hr, e1, e2⟩
            · exact ⟨x, List.mem_cons_self, hl, e⟩
            · exact ⟨r, List.mem_cons_of_mem _ hr, e1, e2⟩
          · simp [h1] at hc
            simp only at j2
            omega
          · rcases List.mem_cons.1 hr with rfl | hr
            · exact j2
            · exact j3 r hr hlr
      · rw [if_neg (by simp [hl, hc])] at hg
        subst hg
        simp at hc
        obtain ⟨hc1, hc2⟩ := hc
        obtain ⟨i1, i2⟩ := hopS_fold a b rs h (fun q r hr => hlt q r (List.mem_cons_of_mem _ hr)) hs'
        refine ⟨?_, fun ho => ?_⟩
        · rw [i1]
          exact ⟨fun _ => .inl hc1, fun _ => .inl hc1⟩
        · obtain ⟨j1, j2, j3⟩ := i2 ho
          refine ⟨j1.imp id (fun ⟨r, hr, e⟩ => ⟨r, List.mem_cons_of_mem _ hr, e⟩), j2, fun r hr hlr => ?_⟩
          rcases List.mem_cons.1 hr with rfl | hr
          · have := j2 hc1
            have := hlt hc1 _ List.mem_cons_self
            omega
          · exact j3 r hr hlr
    · rw [if_neg (by simp [hl])] at hg
      subst hg
      obtain ⟨i1, i2⟩ := hopS_fold a b rs h (fun q r hr => hlt q r (List.mem_cons_of_mem _ hr)) hs'
      refine ⟨?_, fun ho => ?_⟩
      · rw [i1]
        refine or_congr_right ⟨fun ⟨r, hr, e⟩ => ⟨r, List.mem_cons_of_mem _ hr, e⟩, fun ⟨r, hr, e⟩ => ?_⟩
        rcases List.mem_cons.1 hr with rfl | hr
        · exact absurd e hl
        · exact ⟨r, hr, e⟩
      · obtain ⟨j1, j2, j3⟩ := i2 ho
        refine ⟨j1.imp id (fun ⟨r, hr, e⟩ => ⟨r, List.mem_cons_of_mem _ hr, e⟩), j2, fun r hr hlr => ?_⟩
        rcases List.mem_cons.1 hr with rfl | hr
        · exact absurd hlr hl
        · exact j3 r hr hlr
theorem srtR_pair {l : List Rd} (h : SrtR l) : l.Pairwise (fun x y => x.id < y.id) := by
  rw [List.pairwise_iff_getElem]
  intro i j hi hj hij
  have := h i j hij hj
  rwa [getElem!_pos l i hi, getElem!_pos l j hj] at this
/-- The law's hop is the one that is left of a node's hops. -/
theorem hopN_fin {n : Net} (hs : SrtR n.roads) {a b : Int} {L : List Hp} (h : Fin (hopsG n.roads a) L) :
    ((hopN n a b).ok = true ↔ ∃ g ∈ L, g.dst = b) ∧ ∀ g ∈ L, g.dst = b → (hopN n a b).road = g.road ∧ (hopN n a b).len = g.len := by
  obtain ⟨_, f2, f3⟩ := fin_spec h
  obtain ⟨s1, s2⟩ := hopS_fold a b n.roads ⟨0, 0, false⟩ (fun h => by cases h) (srtR_pair hs)
  have s1' : (hopN n a b).ok = true ↔ ∃ r ∈ n.roads, leadsB a b r = true := by unfold hopN; rw [s1]; simp
  have hiff : (hopN n a b).ok = true ↔ ∃ g ∈ L, g.dst = b := by
    rw [s1']
    constructor
    · rintro ⟨r, hr, hl⟩
      obtain ⟨g, hg, e⟩ := f3 _ ((hopsG_iff n.roads a b r.id r.len).2 ⟨r, hr, hl, rfl, rfl⟩)
      exact ⟨g, hg, e⟩
    · rintro ⟨g, hg, rfl⟩
      obtain ⟨r, hr, hl, _⟩ := (hopsG_iff n.roads a g.dst g.road g.len).1 (f2 g hg).1
      exact ⟨r, hr, hl⟩
  refine ⟨hiff, fun g hg hb => ?_⟩
  subst hb
  have hok := hiff.2 ⟨g, hg, rfl⟩
  obtain ⟨j1, _, j3⟩ := s2 hok
  obtain ⟨q, hq, hql, e1, e2⟩ := (hopsG_iff n.roads a g.dst g.road g.len).1 (f2 g hg).1
  have k1 := j3 q hq hql
  rcases j1 with ⟨e, _⟩ | ⟨r, hr, hl, e⟩
  · cases e
  · have k2 := (f2 g hg).2 _ ((hopsG_iff n.roads a g.dst r.id r.len).2 ⟨r, hr, hl, rfl, rfl⟩) rfl
    have e' : hopN n a g.dst = ⟨r.id, r.len, true⟩ := e
    rw [e'] 
    rw [e] at k1
    unfold hpLt at k2
    simp only [true_and] at k1 k2 ⊢
    rw [e1, e2] at k1
    obtain ⟨_, k3⟩ := not_or.1 k2
    obtain ⟨k3, k4⟩ := not_or.1 k3
    constructor <;> omega
theorem walk_append {A : Int → List Hp} {s u v d e : Int} (h1 : Walk A s u d) (h2 : Walk A u v e) : Walk A s v (d + e) := by
  induction h2 with
  | nil => simpa using h1
  | @snoc x d' h _ hm ih => have := Walk.snoc ih hm; rwa [Int.add_assoc] at this
theorem least_ex {A : Int → List Hp} (hA : ∀ u, ∀ h ∈ A u, 0 ≤ h.len) {s v : Int} : ∀ (m : Nat) (d : Int), d.toNat = m → Walk A s v d → ∃ e, Least A s v e := by
  intro m
  induction m using Nat.strongRecOn with
  | _ m ih =>
    intro d hd hw
    by_cases h : ∃ d', Walk A s v d' ∧ d' < d
    · obtain ⟨d', h1, h2⟩ := h
      have := walk_nonneg hA h1
      exact ih d'.toNat (by omega) d' rfl h1
    · exact ⟨d, hw, fun d' h1 => by
        by_cases h2 : d' < d
        · exact absurd ⟨d', h1, h2⟩ h
        · omega⟩
/-- One step of the law's lengths. -/
def relaxL (hp : Int → Int → Option Int) (ids : List Int) (i : Nat) (L : List Int) (k : Nat) : List Int :=
  match hp ids[i]! ids[k]! with
  | some l => if 0 ≤ L[i]! ∧ (L[k]! < 0 ∨ L[i]! + l < L[k]!) then L.set k (L[i]! + l) else L
  | none => L
def rowL (hp : Int → Int → Option Int) (ids : List Int) (L : List Int) (i : Nat) : List Int := (List.range ids.length).foldl (relaxL hp ids i) L
def roundL (hp : Int → Int → Option Int) (ids : List Int) (L : List Int) (_ : Nat) : List Int := (List.range ids.length).foldl (rowL hp ids) L
def startL (ids : List Int) (s : Int) : List Int := ids.map fun x => if x = s then 0 else -1
def lnL (hp : Int → Int → Option Int) (ids : List Int) (s : Int) : List Int := (List.range ids.length).foldl (roundL hp ids) (startL ids s)
/-- Entries stay and do not grow. -/
def Imp (L M : List Int) : Prop := M.length = L.length ∧ ∀ k : Nat, 0 ≤ L[k]! → 0 ≤ M[k]! ∧ M[k]! ≤ L[k]!
theorem Imp.refl (L : List Int) : Imp L L := ⟨rfl, fun _ h => ⟨h, Int.le_refl _⟩⟩
theorem Imp.trans {L M N : List Int} (h : Imp L M) (g : Imp M N) : Imp L N := ⟨g.1.trans h.1, fun k hk => by
  obtain ⟨h1, h2⟩ := h.2 k hk
  obtain ⟨h3, h4⟩ := g.2 k h1
  exact ⟨h3, by omega⟩⟩
structure BF (A : Int → List Hp) (ids : List Int) (s : Int) (L : List Int) : Prop where
  len : L.length = ids.length
  ge : ∀ k, k < ids.length → -1 ≤ L[k]!
  walk : ∀ k, k < ids.length → 0 ≤ L[k]! → Walk A s ids[k]! L[k]!
theorem set_get! {L : List Int} {k : Nat} (v : Int) (j : Nat) (hk : k < L.length) : (L.set k v)[j]! = if j = k then v else L[j]! := by
  by_cases h : j = k
  · subst h; simp [hk]
  · have h' : ¬ k = j := fun e => h e.symm
    simp [h, h']
section
variable {A : Int → List Hp} {hp : Int → Int → Option Int} {ids : List Int} {s : Int}
theorem relax_bf (hA : ∀ u, ∀ h ∈ A u, 1 ≤ h.len) (h1 : ∀ a b l, hp a b = some l → ∃ h ∈ A a, h.dst = b ∧ h.len = l) {i k : Nat} (hi : i < ids.length) (hk : k < ids.length) {L : List Int} (h : BF A ids s L) :
    BF A ids s (relaxL hp ids i L k) ∧ Imp L (relaxL hp ids i L k) ∧ ∀ l, hp ids[i]! ids[k]! = some l → 0 ≤ L[i]! → 0 ≤ (relaxL hp ids i L k)[k]! ∧ (relaxL hp ids i L k)[k]! ≤ L[i]! + l := by
  unfold relaxL
  cases hq : hp ids[i]! ids[k]! with
  | none => exact ⟨h, Imp.refl _, fun l h => by cases h⟩
  | some l =>
    simp only
    obtain ⟨g, hg, e1, e2⟩ := h1 _ _ _ hq
    have hl := hA _ _ hg
    rw [e2] at hl
    have hkl : k < L.length := by rw [h.len]; exact hk
    by_cases hc : 0 ≤ L[i]! ∧ (L[k]! < 0 ∨ L[i]! + l < L[k]!)
    · rw [if_pos hc]
      have hw : Walk A s ids[k]! (L[i]! + l) := by
        have := Walk.snoc (h.walk i hi hc.1) hg
        rwa [e1, e2] at this
      refine ⟨⟨by rw [List.length_set]; exact h.len, fun j hj => ?_, fun j hj h0 => ?_⟩, ⟨List.length_set, fun j hj => ?_⟩, fun l' e h0 => ?_⟩
      · rw [set_get! _ _ hkl]
        split
        · omega
        · exact h.ge j hj
      · rw [set_get! _ _ hkl] at h0 ⊢
        split
        · rename_i e; subst e; exact hw
        · rename_i e
          rw [if_neg e] at h0
          exact h.walk j hj h0
      · rw [set_get! _ _ hkl]
        split
        · rename_i e; subst e; omega
        · exact ⟨hj, Int.le_refl _⟩
      · rw [set_get! _ _ hkl, if_pos rfl]
        injection e with e
        subst e
        omega
    · rw [if_neg hc]
      refine ⟨h, Imp.refl _, fun l' e h0 => ?_⟩
      injection e with e
      subst e
      by_cases h2 : L[k]! < 0
      · exact absurd ⟨h0, .inl h2⟩ hc
      · by_cases h3 : L[i]! + l < L[k]!
        · exact absurd ⟨h0, .inr h3⟩ hc
        · omega
theorem foldl_inv {α : Type} (f : List Int → α → List Int) (P : List Int → Prop) : ∀ (xs : List α) (L : List Int), (∀ x ∈ xs, ∀ M, P M → P (f M x) ∧ Imp M (f M x)) → P L → P (xs.foldl f L) ∧ Imp L (xs.foldl f L)
  | [], L, _, h => ⟨h, Imp.refl _⟩
  | x :: xs, L, hf, h => by
    obtain ⟨h1, h2⟩ := hf x List.mem_cons_self L h
    obtain ⟨h3, h4⟩ := foldl_inv f P xs (f L x) (fun y hy => hf y (List.mem_cons_of_mem _ hy)) h1
    exact ⟨h3, h2.trans h4⟩
theorem foldl_hit {α : Type} (f : List Int → α → List Int) (P : List Int → Prop) : ∀ (xs : List α) (L : List Int), (∀ x ∈ xs, ∀ M, P M → P (f M x) ∧ Imp M (f M x)) → P L → ∀ x ∈ xs, ∃ M, P M ∧ Imp L M ∧ Imp (f M x) (xs.foldl f L)
  | [], L, _, h, x, hx => by cases hx
  | y :: xs, L, hf, h, x, hx => by
    obtain ⟨h1, h2⟩ := hf y List.mem_cons_self L h
    rcases List.mem_cons.1 hx with rfl | hx
    · exact ⟨L, h, Imp.refl _, (foldl_inv f P xs _ (fun y hy => hf y (List.mem_cons_of_mem _ hy)) h1).2⟩
    · obtain ⟨M, m1, m2, m3⟩ := foldl_hit f P xs (f L y) (fun y hy => hf y (List.mem_cons_of_mem _ hy)) h1 x hx
      exact ⟨M, m1, h2.trans m2, m3⟩
theorem row_bf (hA : ∀ u, ∀ h ∈ A u, 1 ≤ h.len) (h1 : ∀ a b l, hp a b = some l → ∃ h ∈ A a, h.dst = b ∧ h.len = l) {i : Nat} (hi : i < ids.length) {L : List Int} (h : BF A ids s L) :
    BF A ids s (rowL hp ids L i) ∧ Imp L (rowL hp ids L i) ∧ ∀ k, k < ids.length → ∀ l, hp ids[i]! ids[k]! = some l → 0 ≤ L[i]! → 0 ≤ (rowL hp ids L i)[k]! ∧ (rowL hp ids L i)[k]! ≤ L[i]! + l := by
  have hf : ∀ x ∈ List.range ids.length, ∀ M, BF A ids s M → BF A ids s (relaxL hp ids i M x) ∧ Imp M (relaxL hp ids i M x) := fun x hx M hM => by
    obtain ⟨q1, q2, _⟩ := relax_bf hA h1 hi (List.mem_range.1 hx) hM
    exact ⟨q1, q2⟩
  obtain ⟨p1, p2⟩ := foldl_inv (relaxL hp ids i) (BF A ids s) _ L hf h
  refine ⟨p1, p2, fun k hk l hl h0 => ?_⟩
  obtain ⟨M, m1, m2, m3⟩ := foldl_hit (relaxL hp ids i) (BF A ids s) _ L hf h k (List.mem_range.2 hk)
  obtain ⟨n1, n2⟩ := m2.2 i h0
  obtain ⟨_, _, q3⟩ := relax_bf hA h1 hi hk m1
  obtain ⟨r1, r2⟩ := q3 l hl n1
  obtain ⟨t1, t2⟩ := m3.2 k r1
  exact ⟨t1, by show (List.foldl _ _ _)[k]! ≤ _; omega⟩
theorem round_bf (hA : ∀ u, ∀ h ∈ A u, 1 ≤ h.len) (h1 : ∀ a b l, hp a b = some l → ∃ h ∈ A a, h.dst = b ∧ h.len = l) (r : Nat) {L : List Int} (h : BF A ids s L) :
    BF A ids s (roundL hp ids L r) ∧ Imp L (roundL hp ids L r) ∧ ∀ i, i < ids.length → ∀ k, k < ids.length → ∀ l, hp ids[i]! ids[k]! = some l → 0 ≤ L[i]! → 0 ≤ (roundL hp ids L r)[k]! ∧ (roundL hp ids L r)[k]! ≤ L[i]! + l := by
  have hf : ∀ x ∈ List.range ids.length, ∀ M, BF A ids s M → BF A ids s (rowL hp ids M x) ∧ Imp M (rowL hp ids M x) := fun x hx M hM => by
    obtain ⟨q1, q2, _⟩ := row_bf hA h1 (List.mem_range.1 hx) hM
    exact ⟨q1, q2⟩
  obtain ⟨p1, p2⟩ := foldl_inv (rowL hp ids) (BF A ids s) _ L hf h
  refine ⟨p1, p2, fun i hi k hk l hl h0 => ?_⟩
  obtain ⟨M, m1, m2, m3⟩ := foldl_hit (rowL hp ids) (BF A ids s) _ L hf h i (List.mem_range.2 hi)
  obtain ⟨n1, n2⟩ := m2.2 i h0
  obtain ⟨_, _, q3⟩ := row_bf hA h1 hi m1
  obtain ⟨r1, r2⟩ := q3 k hk l hl n1
  obtain ⟨t1, t2⟩ := m3.2 k r1
  exact ⟨t1, by show (List.foldl _ _ _)[k]! ≤ _; omega⟩
theorem start_bf : BF A ids s (startL ids s) := by
  have hg : ∀ k, k < ids.length → (startL ids s)[k]! = if ids[k]! = s then 0 else -1 := fun k hk => by
    unfold startL
    rw [getElem!_pos (ids.map _) k (by simpa using hk), List.getElem_map, getElem!_pos ids k hk]
  refine ⟨by simp [startL], fun k hk => ?_, fun k hk h0 => ?_⟩
  · rw [hg k hk]; split <;> omega
  · rw [hg k hk] at h0 ⊢
    split at h0
    · rename_i e; rw [if_pos e, e]; exact Walk.nil
    · omega
/-- How many nodes are nearer. -/
def near (ds : Int → Option Int) (ids : List Int) (d : Int) : Nat := ids.countP fun y => match ds y with | some e => decide (e < d) | none => false
theorem near_lt {ds : Int → Option Int} : ∀ {ids : List Int} {d e u : Int}, d < e → u ∈ ids → ds u = some d → near ds ids d < near ds ids e
  | [], d, e, u, _, hu, _ => by cases hu
  | x :: xs, d, e, u, hde, hu, hd => by
    have mono : ∀ xs : List Int, near ds xs d ≤ near ds xs e := fun xs => List.countP_mono_left fun y _ h => by
      revert h
      cases ds y with
      | none => simp
      | some q => simp; omega
    unfold near
    rw [List.countP_cons, List.countP_cons]
    rcases List.mem_cons.1 hu with rfl | hu
    · rw [hd]
      have := mono xs
      unfold near at this
      simp [hde]
      omega
    · have ih := near_lt (ds := ds) hde hu hd
      unfold near at ih
      cases ds x with
      | none => simpa using ih
      | some q =>
        simp only [decide_eq_true_eq]
        split <;> split <;> omega
theorem rounds_done (hA : ∀ u, ∀ h ∈ A u, 1 ≤ h.len) (h1 : ∀ a b l, hp a b = some l → ∃ h ∈ A a, h.dst = b ∧ h.len = l) (h2 : ∀ a, ∀ h ∈ A a, ∃ l, hp a h.dst = some l ∧ l ≤ h.len) (h3 : ∀ a, ∀ h ∈ A a, a ∈ ids) {ds : Int → Option Int} (hds : ∀ x d, ds x = some d ↔ Least A s x d) :
    ∀ (r : Nat), BF A ids s ((List.range r).foldl (roundL hp ids) (startL ids s)) ∧ ∀ k, k < ids.length → ∀ d, ds ids[k]! = some d → near ds ids d ≤ r → 0 ≤ ((List.range r).foldl (roundL hp ids) (startL ids s))[k]! ∧ ((List.range r).foldl (roundL hp ids) (startL ids s))[k]! ≤ d := by
  have hA0 : ∀ u, ∀ h ∈ A u, 0 ≤ h.len := fun u h hh => by have := hA u h hh; omega
  have start : ∀ k, k < ids.length → ids[k]! = s → (startL ids s)[k]! = 0 := fun k hk e => by
    unfold startL
    rw [getElem!_pos (ids.map _) k (by simpa using hk), List.getElem_map, ← getElem!_pos ids k hk, if_pos e]
  have pre : ∀ k, k < ids.length → ∀ d, ds ids[k]! = some d → (ids[k]! = s ∧ d = 0) ∨ ∃ i, i < ids.length ∧ ∃ d' l, ds ids[i]! = some d' ∧ hp ids[i]! ids[k]! = some l ∧ d' + l ≤ d ∧ near ds ids d' < near ds ids d := by
    intro k hk d hd
    obtain ⟨hw, hmin⟩ := (hds _ _).1 hd
    generalize ids[k]! = x at hw hmin hd
    cases hw with
    | nil => exact .inl ⟨rfl, rfl⟩
    | @snoc u d' h hw hm =>
      right
      obtain ⟨i, hi, hiu⟩ := List.getElem_of_mem (h3 u h hm)
      have hu : ds u = some d' := (hds _ _).2 ⟨hw, fun e he => by have := hmin _ (Walk.snoc he hm); omega⟩
      obtain ⟨l, hl, hle⟩ := h2 u h hm
      have hlt := hA u h hm
      have e : ids[i]! = u := by rw [getElem!_pos ids i hi]; exact hiu
      refine ⟨i, hi, d', l, by rw [e]; exact hu, by rw [e]; exact hl, by omega, near_lt (by omega) (by rw [← hiu]; exact List.getElem_mem hi) hu⟩
  intro r
  induction r with
  | zero =>
    refine ⟨start_bf, fun k hk d hd hn => ?_⟩
    rcases pre k hk d hd with ⟨e, e0⟩ | ⟨i, hi, d', l, _, _, _, hlt⟩
    · simp only [List.range_zero, List.foldl_nil]
      rw [start k hk e]; omega
    · omega
  | succ r ih =>
    obtain ⟨b, ih⟩ := ih
    rw [List.range_succ, List.foldl_append, List.foldl_cons, List.foldl_nil]
    obtain ⟨c1, c2, c3⟩ := round_bf hA h1 r b
    refine ⟨c1, fun k hk d hd hn => ?_⟩
    rcases pre k hk d hd with ⟨e, e0⟩ | ⟨i, hi, d', l, g1, g2, g3, hlt⟩
    · have hz := foldl_inv (roundL hp ids) (BF A ids s) (List.range (r + 1)) (startL ids s) (fun x _ M hM => ⟨(round_bf hA h1 x hM).1, (round_bf hA h1 x hM).2.1⟩) start_bf
      have := hz.2.2 k (by rw [start k hk e]; omega)
      rw [start k hk e, List.range_succ, List.foldl_append, List.foldl_cons, List.foldl_nil] at this
      omega
    · obtain ⟨j1, j2⟩ := ih i hi d' g1 (by omega)
      obtain ⟨q1, q2⟩ := c3 i hi k hk l g2 j1
      exact ⟨q1, by omega⟩
theorem lnL_least (hA : ∀ u, ∀ h ∈ A u, 1 ≤ h.len) (h1 : ∀ a b l, hp a b = some l → ∃ h ∈ A a, h.dst = b ∧ h.len = l) (h2 : ∀ a, ∀ h ∈ A a, ∃ l, hp a h.dst = some l ∧ l ≤ h.len) (h3 : ∀ a, ∀ h ∈ A a, a ∈ ids) {ds : Int → Option Int} (hds : ∀ x d, ds x = some d ↔ Least A s x d) :
    lnL hp ids s = ids.map fun x => (ds x).getD (-1) := by
  obtain ⟨b, hd⟩ := rounds_done hA h1 h2 h3 hds ids.length
  have hA0 : ∀ u, ∀ h ∈ A u, 0 ≤ h.len := fun u h hh => by have := hA u h hh; omega
  apply List.ext_getElem (by rw [List.length_map]; exact b.len)
  intro k hk1 hk2
  rw [List.length_map] at hk2
  have e1 := getElem!_pos (lnL hp ids s) k hk1
  have e2 := getElem!_pos ids k hk2
  rw [← e1, List.getElem_map, ← e2]
  cases hx : ds ids[k]! with
  | none =>
    have hge := b.ge k hk2
    by_cases h0 : 0 ≤ (lnL hp ids s)[k]!
    · obtain ⟨e, he⟩ := least_ex hA0 _ _ rfl (b.walk k hk2 h0)
      rw [(hds _ _).2 he] at hx
      cases hx
    · have : -1 ≤ (lnL hp ids s)[k]! := hge
      simp only [Option.getD_none]
      omega
  | some d =>
    obtain ⟨q1, q2⟩ := hd k hk2 d hx List.countP_le_length
    have := ((hds _ _).1 hx).2 _ (b.walk k hk2 q1)
    simp only [Option.getD_some]
    exact Int.le_antisymm q2 this
end
end Go.Proofs.YtopfgkbpakfccaaGreatDoor
