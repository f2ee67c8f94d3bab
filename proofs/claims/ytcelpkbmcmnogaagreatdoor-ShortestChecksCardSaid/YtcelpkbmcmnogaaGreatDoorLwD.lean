/-
 The plain law of the law's lengths: shortening as long as a hop can gives the least lengths; the law's hop is the one that is left of a node's hops.
-/
import Derived.Test.YtcelpkbmcmnogaaGreatDoorLwC
import Derived.Test.YtcelpkbmcmnogaaGreatDoorLens
set_option linter.unusedSimpArgs false
set_option linter.unusedVariables false
namespace Go.Proofs.YtcelpkbmcmnogaaGreatDoor
open Go Go.Vi
theorem cmpct_spec : ∀ (S : List Hp) (p : Hp), (p :: S).Pairwise (fun a b => ¬hpLt b a) → (cmpct p S).Pairwise (fun a b => a.dst < b.dst) ∧ (∀ h ∈ cmpct p S, h ∈ S ∧ p.dst < h.dst ∧ ∀ g ∈ S, g.dst = h.dst → ¬hpLt g h) ∧ ∀ g ∈ S, g.dst = p.dst ∨ ∃ h ∈ cmpct p S, h.dst = g.dst
 | [], p, _ => ⟨List.Pairwise.nil, (fun h hh => by cases hh), fun g hg => by cases hg⟩
 | x :: r, p, hs => by
  obtain ⟨hp, hr⟩ := List.pairwise_cons.1 hs
  obtain ⟨i1, i2, i3⟩ := cmpct_spec r x hr
  have hx := (List.pairwise_cons.1 hr).1
  have hpx : p.dst ≤ x.dst := by
   have := hp x List.mem_cons_self
   unfold hpLt at this; omega
  unfold cmpct
  by_cases h : x.dst = p.dst
  ·rw [if_pos h]
   refine ⟨i1, fun y hy => ?_, fun g hg => ?_⟩
   ·obtain ⟨j1, j2, j3⟩ := i2 y hy
    refine ⟨List.mem_cons_of_mem _ j1, by omega, fun g hg e => ?_⟩
    rcases List.mem_cons.1 hg with rfl | hg
    ·omega
    ·exact j3 g hg e
   ·rcases List.mem_cons.1 hg with rfl | hg
    ·exact .inl h
    ·rcases i3 g hg with e | e
     ·exact .inl (e.trans h)
     ·exact .inr e
  ·rw [if_neg h]
   refine ⟨List.pairwise_cons.2 ⟨fun y hy => (i2 y hy).2.1, i1⟩, fun y hy => ?_, fun g hg => ?_⟩
   ·rcases List.mem_cons.1 hy with rfl | hy
    ·refine ⟨List.mem_cons_self, by omega, fun g hg e => ?_⟩
     rcases List.mem_cons.1 hg with rfl | hg
     ·unfold hpLt; omega
     ·exact hx g hg
    ·obtain ⟨j1, j2, j3⟩ := i2 y hy
     refine ⟨List.mem_cons_of_mem _ j1, by omega, fun g hg e => ?_⟩
     rcases List.mem_cons.1 hg with rfl | hg
     ·omega
     ·exact j3 g hg e
   ·rcases List.mem_cons.1 hg with rfl | hg
    ·exact .inr ⟨_, List.mem_cons_self, rfl⟩
    ·rcases i3 g hg with e | ⟨y, hy, e⟩
     ·exact .inr ⟨x, List.mem_cons_self, e.symm⟩
     ·exact .inr ⟨y, List.mem_cons_of_mem _ hy, e⟩
/-- What is left of a node's hops: by rising ends, the least of each end. -/
theorem fin_spec {L L' : List Hp} (h : Fin L L') : L'.Pairwise (fun a b => a.dst < b.dst) ∧ (∀ h ∈ L', h ∈ L ∧ ∀ g ∈ L, g.dst = h.dst → ¬hpLt g h) ∧ ∀ g ∈ L, ∃ h ∈ L', h.dst = g.dst := by
 obtain ⟨S, hp, hs, rfl⟩ := h
 cases S with
 | nil => exact ⟨List.Pairwise.nil, (fun h hh => by cases hh), fun g hg => by have := hp.mem_iff.2 hg; cases this⟩
 | cons x r =>
  obtain ⟨i1, i2, i3⟩ := cmpct_spec r x hs
  have hx := (List.pairwise_cons.1 hs).1
  unfold compactL
  refine ⟨List.pairwise_cons.2 ⟨fun y hy => (i2 y hy).2.1, i1⟩, fun y hy => ?_, fun g hg => ?_⟩
  ·rcases List.mem_cons.1 hy with rfl | hy
   ·refine ⟨hp.mem_iff.1 List.mem_cons_self, fun g hg e => ?_⟩
    rcases List.mem_cons.1 (hp.mem_iff.2 hg) with rfl | hg
    ·unfold hpLt; omega
    ·exact hx g hg
   ·obtain ⟨j1, j2, j3⟩ := i2 y hy
    refine ⟨hp.mem_iff.1 (List.mem_cons_of_mem _ j1), fun g hg e => ?_⟩
    rcases List.mem_cons.1 (hp.mem_iff.2 hg) with rfl | hg
    ·omega
    ·exact j3 g hg e
  ·rcases List.mem_cons.1 (hp.mem_iff.2 hg) with rfl | hg
   ·exact ⟨_, List.mem_cons_self, rfl⟩
   ·rcases i3 g hg with e | ⟨y, hy, e⟩
    ·exact ⟨x, List.mem_cons_self, e.symm⟩
    ·exact ⟨y, List.mem_cons_of_mem _ hy, e⟩
theorem mem_addH {G : Int → List Hp} {k x : Int} {h g : Hp} (hg : g ∈ G x) : g ∈ addH G k h x := by
 unfold addH
 split
 ·rename_i e; subst e; simp [hg]
 ·exact hg
theorem addH_mem (G : Int → List Hp) (k : Int) (h : Hp) : h ∈ addH G k h k := by simp [addH]
theorem hopStep_mem {G : Int → List Hp} {x : Int} {r : Rd} {g : Hp} (hg : g ∈ G x) : g ∈ hopStep G r x := by
 unfold hopStep
 split
 ·exact mem_addH hg
 ·exact mem_addH (mem_addH hg)
theorem leads_mem (a b : Int) : ∀ (rs : List Rd) (G : Int → List Hp), (∀ g, g ∈ G a → g ∈ rs.foldl hopStep G a) ∧ ∀ r ∈ rs, leadsB a b r = true → ⟨b, r.id, r.len⟩ ∈ rs.foldl hopStep G a
 | [], G => ⟨fun g h => h, fun r h => by cases h⟩
 | r :: rs, G => by
  obtain ⟨i1, i2⟩ := leads_mem a b rs (hopStep G r)
  refine ⟨fun g h => i1 g (hopStep_mem h), fun q hq hl => ?_⟩
  rcases List.mem_cons.1 hq with rfl | hq
  ·refine i1 _ ?_
   simp only [leadsB, Bool.or_eq_true, Bool.and_eq_true, beq_iff_eq, Bool.not_eq_true'] at hl
   unfold hopStep
   rcases hl with ⟨e1, e2⟩ | ⟨⟨e0, e1⟩, e2⟩
   ·subst e1; subst e2
    split
    ·exact addH_mem _ _ _
    ·exact mem_addH (addH_mem _ _ _)
   ·subst e1; subst e2
    rw [e0]
    exact addH_mem _ _ _
  ·exact i2 q hq hl
theorem hopsG_iff (rs : List Rd) (a b i l : Int) : ⟨b, i, l⟩ ∈ hopsG rs a ↔ ∃ r ∈ rs, leadsB a b r = true ∧ r.id = i ∧ r.len = l := by
 constructor
 ·intro h
  obtain ⟨r, hr, ⟨e1, e2⟩ | ⟨e0, e1, e2⟩⟩ := hopsG_mem rs a _ h
  ·injection e2 with q1 q2 q3
   exact ⟨r, hr, by simp [leadsB, e1, q1], q2.symm, q3.symm⟩
  ·injection e2 with q1 q2 q3
   exact ⟨r, hr, by simp [leadsB, e0, e1, q1], q2.symm, q3.symm⟩
 ·rintro ⟨r, hr, hl, rfl, rfl⟩
  exact (leads_mem a b rs _).2 r hr hl
/-- The law's hop: the first of the least roads. -/
theorem hopS_fold (a b : Int) : ∀ (rs : List Rd) (h : Hst), (h.ok = true → ∀ r ∈ rs, h.road < r.id) → rs.Pairwise (fun x y => x.id < y.id) →
  ((rs.foldl (hopS a b) h).ok = true ↔ h.ok = true ∨ ∃ r ∈ rs, leadsB a b r = true) ∧
  ((rs.foldl (hopS a b) h).ok = true → ((h.ok = true ∧ rs.foldl (hopS a b) h = h) ∨ ∃ r ∈ rs, leadsB a b r = true ∧ rs.foldl (hopS a b) h = ⟨r.id, r.len, true⟩) ∧
   (h.ok = true → (rs.foldl (hopS a b) h).len < h.len ∨ ((rs.foldl (hopS a b) h).len = h.len ∧ (rs.foldl (hopS a b) h).road ≤ h.road)) ∧
   ∀ r ∈ rs, leadsB a b r = true → (rs.foldl (hopS a b) h).len < r.len ∨ ((rs.foldl (hopS a b) h).len = r.len ∧ (rs.foldl (hopS a b) h).road ≤ r.id))
 | [], h, _, _ => by
  refine ⟨by simp, fun ho => ⟨.inl ⟨ho, rfl⟩, fun _ => .inr ⟨rfl, Int.le_refl _⟩, fun r hr => by cases hr⟩⟩
 | x :: rs, h, hlt, hs => by
  obtain ⟨hx, hs'⟩ := List.pairwise_cons.1 hs
  rw [List.foldl_cons]
  obtain ⟨g, hg⟩ : ∃ g, hopS a b h x = g := ⟨_, rfl⟩
  rw [hg]
  unfold hopS at hg
  by_cases hl : leadsB a b x = true
  ·by_cases hc : (!h.ok || decide (x.len < h.len)) = true
   ·rw [if_pos (by simp [hl, hc])] at hg
    subst hg
    obtain ⟨i1, i2⟩ := hopS_fold a b rs ⟨x.id, x.len, true⟩ (fun _ r hr => hx r hr) hs'
    refine ⟨?_, fun ho => ?_⟩
    ·rw [i1]
     exact ⟨fun _ => .inr ⟨x, List.mem_cons_self, hl⟩, fun _ => .inl rfl⟩
    ·obtain ⟨j1, j2, j3⟩ := i2 ho
     have j2 := j2 rfl
     refine ⟨.inr ?_, fun h1 => ?_, fun r hr hlr => ?_⟩
     ·rcases j1 with ⟨_, e⟩ | ⟨r, hr, e1, e2⟩
      ·exact ⟨x, List.mem_cons_self, hl, e⟩
      ·exact ⟨r, List.mem_cons_of_mem _ hr, e1, e2⟩
     ·simp [h1] at hc
      simp only at j2
      omega
     ·rcases List.mem_cons.1 hr with rfl | hr
      ·exact j2
      ·exact j3 r hr hlr
   ·rw [if_neg (by simp [hl, hc])] at hg
    subst hg
    simp at hc
    obtain ⟨hc1, hc2⟩ := hc
    obtain ⟨i1, i2⟩ := hopS_fold a b rs h (fun q r hr => hlt q r (List.mem_cons_of_mem _ hr)) hs'
    refine ⟨?_, fun ho => ?_⟩
    ·rw [i1]
     exact ⟨fun _ => .inl hc1, fun _ => .inl hc1⟩
    ·obtain ⟨j1, j2, j3⟩ := i2 ho
     refine ⟨j1.imp id (fun ⟨r, hr, e⟩ => ⟨r, List.mem_cons_of_mem _ hr, e⟩), j2, fun r hr hlr => ?_⟩
     rcases List.mem_cons.1 hr with rfl | hr
     ·have := j2 hc1
      have := hlt hc1 _ List.mem_cons_self
      omega
     ·exact j3 r hr hlr
  ·rw [if_neg (by simp [hl])] at hg
   subst hg
   obtain ⟨i1, i2⟩ := hopS_fold a b rs h (fun q r hr => hlt q r (List.mem_cons_of_mem _ hr)) hs'
   refine ⟨?_, fun ho => ?_⟩
   ·rw [i1]
    refine or_congr_right ⟨fun ⟨r, hr, e⟩ => ⟨r, List.mem_cons_of_mem _ hr, e⟩, fun ⟨r, hr, e⟩ => ?_⟩
    rcases List.mem_cons.1 hr with rfl | hr
    ·exact absurd e hl
    ·exact ⟨r, hr, e⟩
   ·obtain ⟨j1, j2, j3⟩ := i2 ho
    refine ⟨j1.imp id (fun ⟨r, hr, e⟩ => ⟨r, List.mem_cons_of_mem _ hr, e⟩), j2, fun r hr hlr => ?_⟩
    rcases List.mem_cons.1 hr with rfl | hr
    ·exact absurd hlr hl
    ·exact j3 r hr hlr
theorem srtR_pair {l : List Rd} (h : SrtR l) : l.Pairwise (fun x y => x.id < y.id) := by
 rw [List.pairwise_iff_getElem]
 intro i j hi hj hij
 have := h i j hij hj
 rwa [getElem!_pos l i hi, getElem!_pos l j hj] at this
/-- The law's hop is the one that is left of a node's hops. -/
theorem hopN_fin {n : Net} (hs : SrtR n.roads) {a b : Int} {L : List Hp} (h : Fin (hopsG n.roads a) L) :
  ((hopN n a b).ok = true ↔ ∃ g ∈ L, g.dst = b) ∧ ∀ g ∈ L, g.dst = b → (hopN n a b).road = g.road ∧ (hopN n a b).len = g.len := by
 obtain ⟨_, f2, f3⟩ := fin_spec h
 obtain ⟨s1, s2⟩ := hopS_fold a b n.roads ⟨0, 0, false⟩ (fun h => by cases h) (srtR_pair hs)
 have s1' : (hopN n a b).ok = true ↔ ∃ r ∈ n.roads, leadsB a b r = true := by unfold hopN; rw [s1]; simp
 have hiff : (hopN n a b).ok = true ↔ ∃ g ∈ L, g.dst = b := by
  rw [s1']
  constructor
  ·rintro ⟨r, hr, hl⟩
   obtain ⟨g, hg, e⟩ := f3 _ ((hopsG_iff n.roads a b r.id r.len).2 ⟨r, hr, hl, rfl, rfl⟩)
   exact ⟨g, hg, e⟩
  ·rintro ⟨g, hg, rfl⟩
   obtain ⟨r, hr, hl, _⟩ := (hopsG_iff n.roads a g.dst g.road g.len).1 (f2 g hg).1
   exact ⟨r, hr, hl⟩
 refine ⟨hiff, fun g hg hb => ?_⟩
 subst hb
 have hok := hiff.2 ⟨g, hg, rfl⟩
 obtain ⟨j1, _, j3⟩ := s2 hok
 obtain ⟨q, hq, hql, e1, e2⟩ := (hopsG_iff n.roads a g.dst g.road g.len).1 (f2 g hg).1
 have k1 := j3 q hq hql
 rcases j1 with ⟨e, _⟩ | ⟨r, hr, hl, e⟩
 ·cases e
 ·have k2 := (f2 g hg).2 _ ((hopsG_iff n.roads a g.dst r.id r.len).2 ⟨r, hr, hl, rfl, rfl⟩) rfl
  have e' : hopN n a g.dst = ⟨r.id, r.len, true⟩ := e
  rw [e'] 
  rw [e] at k1
  unfold hpLt at k2
  simp only [true_and] at k1 k2 ⊢
  rw [e1, e2] at k1
  obtain ⟨_, k3⟩ := not_or.1 k2
  obtain ⟨k3, k4⟩ := not_or.1 k3
  constructor <;> omega
theorem least_ex {A : Int → List Hp} (hA : ∀ u, ∀ h ∈ A u, 0 ≤ h.len) {s v : Int} : ∀ (m : Nat) (d : Int), d.toNat = m → Walk A s v d → ∃ e, Least A s v e := by
 intro m
 induction m using Nat.strongRecOn with
 | _ m ih =>
  intro d hd hw
  by_cases h : ∃ d', Walk A s v d' ∧ d' < d
  ·obtain ⟨d', h1, h2⟩ := h
   have := walk_nonneg hA h1
   exact ih d'.toNat (by omega) d' rfl h1
  ·exact ⟨d, hw, fun d' h1 => by
    by_cases h2 : d' < d
    ·exact absurd ⟨d', h1, h2⟩ h
    ·omega⟩
/-- Entries stay and do not grow. -/
def Imp (L M : List Int) : Prop := M.length = L.length ∧ ∀ k : Nat, 0 ≤ L[k]! → 0 ≤ M[k]! ∧ M[k]! ≤ L[k]!
theorem Imp.refl (L : List Int) : Imp L L := ⟨rfl, fun _ h => ⟨h, Int.le_refl _⟩⟩
theorem Imp.trans {L M N : List Int} (h : Imp L M) (g : Imp M N) : Imp L N := ⟨g.1.trans h.1, fun k hk => by
 obtain ⟨h1, h2⟩ := h.2 k hk
 obtain ⟨h3, h4⟩ := g.2 k h1
 exact ⟨h3, by omega⟩⟩
structure BF (A : Int → List Hp) (ids : List Int) (s : Int) (L : List Int) : Prop where
 len : L.length = ids.length
 ge : ∀ k, k < ids.length → -1 ≤ L[k]!
 walk : ∀ k, k < ids.length → 0 ≤ L[k]! → Walk A s ids[k]! L[k]!
section
variable {A : Int → List Hp} {hp : Int → Int → Option Int} {ids : List Int} {s : Int}
/-- How many nodes are nearer. -/
def near (ds : Int → Option Int) (ids : List Int) (d : Int) : Nat := ids.countP fun y => match ds y with | some e => decide (e < d) | none => false
end
end Go.Proofs.YtcelpkbmcmnogaaGreatDoor
