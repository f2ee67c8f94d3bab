/-
 The plain law of the law's routes: the least route that is found by trying all ways is the one that the lengths left lead to.
-/
import Derived.Test.YtcelpkbmcmnogaaGreatDoorLwD
import Derived.Test.YtcelpkbmcmnogaaGreatDoorQueA
import Derived.Test.YtcelpkbmcmnogaaGreatDoorShoH
set_option linter.unusedSimpArgs false
set_option linter.unusedVariables false
namespace Go.Proofs.YtcelpkbmcmnogaaGreatDoor
open Go Go.Vi
/-- A route: its nodes, its roads, its length. -/
structure Rte where (nodes roads : List Int) (len : Int)
def lastI (L : List Int) : Int := L.getLast?.getD 0
theorem lastI_snoc (L : List Int) (x : Int) : lastI (L ++ [x]) = x := by simp [lastI]
def betterR (y b : Rte) : Bool := decide (y.len < b.len) || (decide (y.len = b.len) && befL y.nodes b.nodes)
def pickR (acc y : Option Rte) : Option Rte := match y with
 | none => acc
 | some y => match acc with
  | none => some y
  | some b => if betterR y b then some y else some b
def stepR (hp : Int → Int → Option (Int × Int)) (rc : Rte → Option Rte) (x : Rte) (acc : Option Rte) (nx : Int) : Option Rte :=
 if x.nodes.contains nx then acc else match hp (lastI x.nodes) nx with
 | none => acc
 | some (rd, l) => pickR acc (rc ⟨x.nodes ++ [nx], x.roads ++ [rd], x.len + l⟩)
/-- The law's routes. -/
def routesF (hp : Int → Int → Option (Int × Int)) (ids : List Int) (tgt : Int) : Nat → Rte → Option Rte
 | 0, x => if lastI x.nodes = tgt then some x else none
 | f + 1, x => if lastI x.nodes = tgt then some x else ids.foldl (stepR hp (routesF hp ids tgt f) x) none
inductive Compl (hp : Int → Int → Option (Int × Int)) (ids : List Int) (tgt : Int) : Rte → Rte → Prop
 | here {x : Rte} : lastI x.nodes = tgt → Compl hp ids tgt x x
 | step {x y : Rte} {nx rd l : Int} : lastI x.nodes ≠ tgt → nx ∈ ids → nx ∉ x.nodes → hp (lastI x.nodes) nx = some (rd, l) → Compl hp ids tgt ⟨x.nodes ++ [nx], x.roads ++ [rd], x.len + l⟩ y → Compl hp ids tgt x y
theorem befL_irrefl : ∀ L : List Int, befL L L = false
 | [] => rfl
 | a :: l => by simp [befL, befL_irrefl l]
theorem befL_trans : ∀ {L M N : List Int}, befL L M = true → befL M N = true → befL L N = true
 | [], M, [], _, h2 => by cases M <;> simp [befL] at h2
 | [], _, _ :: _, _, _ => rfl
 | _ :: _, [], _, h1, _ => by simp [befL] at h1
 | _ :: _, _ :: _, [], _, h2 => by simp [befL] at h2
 | a :: l, b :: m, c :: n, h1, h2 => by
  simp only [befL] at h1 h2 ⊢
  by_cases e1 : a = b
  ·subst e1
   rw [if_pos rfl] at h1
   by_cases e2 : a = c
   ·rw [if_pos e2] at h2 ⊢; exact befL_trans h1 h2
   ·rw [if_neg e2] at h2 ⊢; exact h2
  ·rw [if_neg e1] at h1
   by_cases e2 : b = c
   ·subst e2; rw [if_neg e1]; exact h1
   ·rw [if_neg e2] at h2
    simp only [decide_eq_true_eq] at h1 h2
    rw [if_neg (by omega)]
    simp; omega
theorem befL_eq {L M : List Int} (h1 : befL L M = false) (h2 : befL M L = false) : L = M := by
 have := befL_not L M
 rw [h1, h2] at this
 simpa using this
theorem betterR_iff (y b : Rte) : betterR y b = true ↔ y.len < b.len ∨ (y.len = b.len ∧ befL y.nodes b.nodes = true) := by simp [betterR]
/-- Not better, over three. -/
theorem betterR_neg {x y z : Rte} (h1 : betterR x y = false) (h2 : betterR y z = false) : betterR x z = false := by
 rw [Bool.eq_false_iff] at h1 h2 ⊢
 rw [Ne, betterR_iff] at h1 h2 ⊢
 intro h
 by_cases e1 : y.len < x.len
 ·by_cases e2 : z.len < y.len
  ·rcases h with h | ⟨h, _⟩ <;> omega
  ·by_cases e3 : y.len < z.len
   ·exact h2 (.inl e3)
   ·rcases h with h | ⟨h, _⟩ <;> omega
 ·have e2 : x.len = y.len := by
   by_cases e3 : x.len < y.len
   ·exact absurd (.inl e3) h1
   ·omega
  have e4 : y.len = z.len ∨ z.len < y.len := by
   by_cases e3 : y.len < z.len
   ·exact absurd (.inl e3) h2
   ·omega
  rcases e4 with e4 | e4
  ·rcases h with h | ⟨_, h⟩
   ·omega
   ·have b1 : befL x.nodes y.nodes = false := by
     cases hb : befL x.nodes y.nodes with
     | false => rfl
     | true => exact absurd (.inr ⟨e2, hb⟩) h1
    have b2 : befL y.nodes z.nodes = false := by
     cases hb : befL y.nodes z.nodes with
     | false => rfl
     | true => exact absurd (.inr ⟨e4, hb⟩) h2
    cases b3 : befL z.nodes y.nodes with
    | true =>
     have := befL_trans h b3
     rw [b1] at this; cases this
    | false =>
     have := befL_eq b2 b3
     rw [← this, b1] at h; cases h
  ·rcases h with h | ⟨h, _⟩ <;> omega
theorem betterR_irrefl (x : Rte) : betterR x x = false := by simp [betterR, befL_irrefl]
theorem betterR_flip {x y : Rte} (h : betterR x y = true) : betterR y x = false := by
 cases h2 : betterR y x with
 | false => rfl
 | true =>
  rw [betterR_iff] at h h2
  rcases h with h | ⟨e, h⟩ <;> rcases h2 with h2 | ⟨e2, h2⟩
  ·omega
  ·omega
  ·omega
  ·have := befL_trans h h2
   rw [befL_irrefl] at this; cases this
/-- What stands at the end of the picks: one of the offers, none of which is better. -/
theorem picks (hp : Int → Int → Option (Int × Int)) (rc : Rte → Option Rte) (x : Rte) (cand : Int → Rte → Prop) (hc : ∀ nx acc, (∃ y, cand nx y) → ∃ y, (∀ z, cand nx z ↔ z = y) ∧ stepR hp rc x acc nx = pickR acc (some y)) (hn : ∀ nx acc, (¬∃ y, cand nx y) → stepR hp rc x acc nx = acc) :
  ∀ (l : List Int) (acc : Option Rte), (∀ y, l.foldl (stepR hp rc x) acc = some y → ((acc = some y) ∨ ∃ nx ∈ l, cand nx y) ∧ (∀ a, acc = some a → betterR a y = false) ∧ ∀ nx ∈ l, ∀ z, cand nx z → betterR z y = false) ∧ (l.foldl (stepR hp rc x) acc = none → acc = none ∧ ∀ nx ∈ l, ∀ z, ¬cand nx z)
 | [], acc => by
  refine ⟨fun y h => ⟨.inl h, fun a ha => ?_, fun nx hx => by cases hx⟩, fun h => ⟨h, fun nx hx => by cases hx⟩⟩
  rw [List.foldl_nil, ha] at h
  injection h with h
  subst h; exact betterR_irrefl a
 | q :: l, acc => by
  rw [List.foldl_cons]
  obtain ⟨i1, i2⟩ := picks hp rc x cand hc hn l (stepR hp rc x acc q)
  by_cases hq : ∃ y, cand q y
  ·obtain ⟨y0, h0, h1⟩ := hc q acc hq
   rw [h1] at i1 i2 ⊢
   refine ⟨fun y hy => ?_, fun hy => ?_⟩
   ·obtain ⟨j1, j2, j3⟩ := i1 y hy
    have k2 : betterR y0 y = false ∧ ∀ a, acc = some a → betterR a y = false := by
     cases ha : acc with
     | none =>
      rw [ha] at j2
      exact ⟨j2 y0 rfl, fun a h => by cases h⟩
     | some a =>
      rw [ha] at j2
      cases hb : betterR y0 a with
      | true =>
       have := j2 y0 (by simp [pickR, hb])
       exact ⟨this, fun a' h => by injection h with h; subst h; exact betterR_neg (betterR_flip hb) this⟩
      | false =>
       have := j2 a (by simp [pickR, hb])
       exact ⟨betterR_neg hb this, fun a' h => by injection h with h; subst h; exact this⟩
    refine ⟨?_, k2.2, fun nx hx z hz => ?_⟩
    ·rcases j1 with j1 | ⟨nx, hx, j1⟩
     ·cases ha : acc with
      | none =>
       rw [ha] at j1
       injection j1 with j1
       exact .inr ⟨q, List.mem_cons_self, (h0 y).2 j1.symm⟩
      | some a =>
       rw [ha] at j1
       cases hb : betterR y0 a with
       | true =>
        simp [pickR, hb] at j1
        exact .inr ⟨q, List.mem_cons_self, (h0 y).2 j1.symm⟩
       | false =>
        simp [pickR, hb] at j1
        exact .inl (by rw [j1])
     ·exact .inr ⟨nx, List.mem_cons_of_mem _ hx, j1⟩
    ·rcases List.mem_cons.1 hx with rfl | hx
     ·rw [(h0 z).1 hz]; exact k2.1
     ·exact j3 nx hx z hz
   ·obtain ⟨j1, j2⟩ := i2 hy
    exfalso
    cases acc with
    | none => simp [pickR] at j1
    | some a => simp only [pickR] at j1; split at j1 <;> cases j1
  ·rw [hn q acc hq] at i1 i2 ⊢
   refine ⟨fun y hy => ?_, fun hy => ?_⟩
   ·obtain ⟨j1, j2, j3⟩ := i1 y hy
    refine ⟨j1.imp id (fun ⟨nx, hx, h⟩ => ⟨nx, List.mem_cons_of_mem _ hx, h⟩), j2, fun nx hx z hz => ?_⟩
    rcases List.mem_cons.1 hx with rfl | hx
    ·exact absurd ⟨z, hz⟩ hq
    ·exact j3 nx hx z hz
   ·obtain ⟨j1, j2⟩ := i2 hy
    refine ⟨j1, fun nx hx z hz => ?_⟩
    rcases List.mem_cons.1 hx with rfl | hx
    ·exact hq ⟨z, hz⟩
    ·exact j2 nx hx z hz
def unused (ids nodes : List Int) : Nat := ids.countP fun y => !nodes.contains y
theorem unused_lt : ∀ {ids nodes : List Int} {nx : Int}, nx ∈ ids → nx ∉ nodes → unused ids (nodes ++ [nx]) < unused ids nodes
 | [], _, nx, h, _ => by cases h
 | x :: xs, nodes, nx, h, hn => by
  have mono : unused xs (nodes ++ [nx]) ≤ unused xs nodes := List.countP_mono_left fun y _ h => by
   simp only [List.contains_eq_mem, List.mem_append, Bool.not_eq_true', decide_eq_false_iff_not] at h ⊢
   exact fun e => h (.inl e)
  unfold unused at mono ⊢
  rw [List.countP_cons, List.countP_cons]
  by_cases e : x = nx
  ·subst e
   simp [hn]
   simp at mono
   omega
  ·have hx : nx ∈ xs := by
    rcases List.mem_cons.1 h with rfl | h
    ·exact absurd rfl e
    ·exact h
   have ih := unused_lt hx hn
   unfold unused at ih
   have e2 : (nodes ++ [nx]).contains x = nodes.contains x := by simp [e]
   rw [e2]
   omega
theorem routesF_spec (hp : Int → Int → Option (Int × Int)) (ids : List Int) (tgt : Int) : ∀ (f : Nat) (x : Rte), unused ids x.nodes ≤ f →
  (∀ y, routesF hp ids tgt f x = some y → Compl hp ids tgt x y ∧ ∀ z, Compl hp ids tgt x z → betterR z y = false) ∧ (routesF hp ids tgt f x = none → ∀ z, ¬Compl hp ids tgt x z) := by
 intro f
 induction f with
 | zero =>
  intro x hu
  unfold routesF
  by_cases h : lastI x.nodes = tgt
  ·rw [if_pos h]
   refine ⟨fun y hy => ?_, fun h => by cases h⟩
   injection hy with hy
   subst hy
   refine ⟨.here h, fun z hz => ?_⟩
   cases hz with
   | here _ => exact betterR_irrefl _
   | step h' => exact absurd h h'
  ·rw [if_neg h]
   refine ⟨(fun y hy => by cases hy), fun _ z hz => ?_⟩
   cases hz with
   | here h' => exact h h'
   | step _ h1 h2 _ _ => have := unused_lt h1 h2; omega
 | succ f ih =>
  intro x hu
  unfold routesF
  by_cases h : lastI x.nodes = tgt
  ·rw [if_pos h]
   refine ⟨fun y hy => ?_, fun h => by cases h⟩
   injection hy with hy
   subst hy
   refine ⟨.here h, fun z hz => ?_⟩
   cases hz with
   | here _ => exact betterR_irrefl _
   | step h' => exact absurd h h'
  ·rw [if_neg h]
   -- an offer: the least completion over the next node
   obtain ⟨p1, p2⟩ := picks hp (routesF hp ids tgt f) x (fun nx y => nx ∉ x.nodes ∧ ∃ rd l, hp (lastI x.nodes) nx = some (rd, l) ∧ routesF hp ids tgt f ⟨x.nodes ++ [nx], x.roads ++ [rd], x.len + l⟩ = some y)
    (fun nx acc ⟨y, h2, rd, l, h3, h4⟩ => ⟨y, fun z => ⟨fun ⟨_, rd', l', h5, h6⟩ => by rw [h3] at h5; injection h5 with h5; injection h5 with e1 e2; subst e1; subst e2; rw [h4] at h6; injection h6 with h6; exact h6.symm, fun e => by subst e; exact ⟨h2, rd, l, h3, h4⟩⟩, by
     unfold stepR
     rw [if_neg (by simpa using h2), h3]
     simp only
     rw [h4]⟩)
    (fun nx acc hno => by
     unfold stepR
     by_cases hm : nx ∈ x.nodes
     ·rw [if_pos (by simpa using hm)]
     ·rw [if_neg (by simpa using hm)]
      cases hh : hp (lastI x.nodes) nx with
      | none => rfl
      | some rl =>
       obtain ⟨rd, l⟩ := rl
       cases hr : routesF hp ids tgt f ⟨x.nodes ++ [nx], x.roads ++ [rd], x.len + l⟩ with
       | none => simp only [hr, pickR]
       | some y => exact absurd ⟨y, hm, rd, l, hh, hr⟩ hno) ids none
   refine ⟨fun y hy => ?_, fun hy z hz => ?_⟩
   ·obtain ⟨j1, _, j3⟩ := p1 y hy
    rcases j1 with j1 | ⟨nx, hx, hm, rd, l, hh, hr⟩
    ·cases j1
    ·have hu2 := unused_lt hx hm
     have hc := ((ih ⟨x.nodes ++ [nx], x.roads ++ [rd], x.len + l⟩ (by show unused ids (x.nodes ++ [nx]) ≤ f; omega)).1 y hr).1
     refine ⟨.step h hx hm hh hc, fun z hz => ?_⟩
     cases hz with
     | here h' => exact absurd h' h
     | @step _ _ nx' rd' l' _ h1 h2 h3 h4 =>
      have hu3 := unused_lt h1 h2
      obtain ⟨k1, k2⟩ := ih ⟨x.nodes ++ [nx'], x.roads ++ [rd'], x.len + l'⟩ (by show unused ids (x.nodes ++ [nx']) ≤ f; omega)
      cases hr' : routesF hp ids tgt f ⟨x.nodes ++ [nx'], x.roads ++ [rd'], x.len + l'⟩ with
      | none => exact absurd h4 (k2 hr' z)
      | some y' => exact betterR_neg ((k1 y' hr').2 z h4) (j3 nx' h1 y' ⟨h2, rd', l', h3, hr'⟩)
   ·obtain ⟨_, j2⟩ := p2 hy
    cases hz with
    | here h' => exact h h'
    | @step _ _ nx' rd' l' _ h1 h2 h3 h4 =>
     have hu3 := unused_lt h1 h2
     obtain ⟨k1, k2⟩ := ih ⟨x.nodes ++ [nx'], x.roads ++ [rd'], x.len + l'⟩ (by show unused ids (x.nodes ++ [nx']) ≤ f; omega)
     cases hr' : routesF hp ids tgt f ⟨x.nodes ++ [nx'], x.roads ++ [rd'], x.len + l'⟩ with
     | none => exact k2 hr' z h4
     | some y' => exact j2 nx' h1 y' ⟨h2, rd', l', h3, hr'⟩
theorem Compl.pre {hp : Int → Int → Option (Int × Int)} {ids : List Int} {tgt : Int} {x z : Rte} (h : Compl hp ids tgt x z) : ∃ T, z.nodes = x.nodes ++ T := by
 induction h with
 | here _ => exact ⟨[], by simp⟩
 | step _ _ _ _ _ ih =>
  obtain ⟨T, hT⟩ := ih
  exact ⟨_ :: T, by rw [hT]; simp; rfl⟩
theorem Compl.same {hp : Int → Int → Option (Int × Int)} {ids : List Int} {tgt : Int} {x z z' : Rte} (h : Compl hp ids tgt x z) (h' : Compl hp ids tgt x z') (he : z.nodes = z'.nodes) : z = z' := by
 induction h with
 | here h1 =>
  cases h' with
  | here _ => rfl
  | step h2 => exact absurd h1 h2
 | @step x y nx rd l h1 h2 h3 h4 h5 ih =>
  cases h' with
  | here h6 => exact absurd h6 h1
  | @step _ _ nx' rd' l' k1 k2 k3 k4 k5 =>
   obtain ⟨T, hT⟩ := h5.pre
   obtain ⟨T', hT'⟩ := k5.pre
   rw [hT, hT'] at he
   simp only [List.append_assoc, List.append_cancel_left_eq, List.singleton_append, List.cons.injEq] at he
   obtain ⟨e, _⟩ := he
   subst e
   rw [h4] at k4
   injection k4 with k4
   injection k4 with e1 e2
   subst e1; subst e2
   exact ih k5 (by rw [hT, hT']; simp [*])
theorem befL_app (P : List Int) (a b : Int) (S T : List Int) : befL (P ++ a :: S) (P ++ b :: T) = if a = b then befL S T else decide (a < b) := by
 induction P with
 | nil => rfl
 | cons p P ih => simpa [befL] using ih
/-- What the greedy way rests on. -/
structure Grd (A : Int → List Hp) (left : Int → Int → Prop) (b : Int) (hp : Int → Int → Option (Int × Int)) (ids : List Int) : Prop where
 sorted : ∀ u, (A u).Pairwise (fun x y => x.dst < y.dst)
 hop : ∀ u, ∀ h ∈ A u, hp u h.dst = some (h.road, h.len)
 back : ∀ u v rd l, hp u v = some (rd, l) → ∃ h ∈ A u, h.dst = v ∧ h.road = rd ∧ h.len = l
 pos : ∀ u, ∀ h ∈ A u, 1 ≤ h.len
 node : ∀ u, ∀ h ∈ A u, h.dst ∈ ids
 zero : left b 0
 uniq : ∀ x d d', left x d → left x d' → d = d'
 nonneg : ∀ x d, left x d → 0 ≤ d
 tri : ∀ u, ∀ h ∈ A u, ∀ d, left h.dst d → ∃ d', left u d' ∧ d' ≤ d + h.len
 next : ∀ x d, x ≠ b → left x d → ∃ h ∈ A x, ∃ r, left h.dst r ∧ r + h.len = d
section
variable {A : Int → List Hp} {left : Int → Int → Prop} {b : Int} {hp : Int → Int → Option (Int × Int)} {ids : List Int}
theorem Grd.ge (g : Grd A left b hp ids) {x z : Rte} (h : Compl hp ids b x z) : ∃ d, left (lastI x.nodes) d ∧ x.len + d ≤ z.len := by
 induction h with
 | here h1 => rw [h1]; exact ⟨0, g.zero, by omega⟩
 | @step x y nx rd l h1 h2 h3 h4 _ ih =>
  obtain ⟨d, hd, hle⟩ := ih
  rw [lastI_snoc] at hd
  obtain ⟨h, hh, rfl, rfl, rfl⟩ := g.back _ _ _ _ h4
  obtain ⟨d', k1, k2⟩ := g.tri _ h hh d hd
  exact ⟨d', k1, by simp only at hle; omega⟩
theorem pair_lt {L : List Hp} (h : L.Pairwise (fun x y => x.dst < y.dst)) {i j : Nat} (hi : i < L.length) (hj : j < L.length) (hij : i < j) : L[i].dst < L[j].dst := (List.pairwise_iff_getElem.1 h) i j hi hj hij
theorem Grd.lex (g : Grd A left b hp ids) {x z : Rte} (h : Compl hp ids b x z) : ∀ {d : Int} {R : List Hp}, left (lastI x.nodes) d → z.len = x.len + d → Way A left b (lastI x.nodes) R → befL z.nodes (x.nodes ++ R.map Hp.dst) = false := by
 induction h with
 | here h1 =>
  intro d R _ _ hw
  rw [h1] at hw
  rw [hw.at_end]
  simp [befL_irrefl]
 | @step x y nx rd l h1 h2 h3 h4 h5 ih =>
  intro d R hd he hw
  obtain ⟨dy, e1, e2⟩ := g.ge h5
  rw [lastI_snoc] at e1
  simp only at e2
  obtain ⟨h, hh, q1, q2, q3⟩ := g.back _ _ _ _ h4
  obtain ⟨d', k1, k2⟩ := g.tri _ h hh dy (by rw [q1]; exact e1)
  have := g.uniq _ _ _ hd k1
  subst this
  have hkp : Keeps left (lastI x.nodes) h := ⟨dy, d, by rw [q1]; exact e1, hd, by omega⟩
  cases hw with
  | done => exact absurd rfl h1
  | @step _ R2 i hne hi hk hf hw2 =>
   obtain ⟨T, hT⟩ := h5.pre
   obtain ⟨j, hj, hjh⟩ := List.getElem_of_mem hh
   have hij : i ≤ j := by
    rcases Nat.lt_or_ge j i with c | c
    ·exact absurd (by rw [hjh]; exact hkp) (hf j c)
    ·exact c
   by_cases e : i = j
   ·subst e
    rw [hjh] at hw2 ⊢
    have := ih (d := dy) (R := R2) (by rw [lastI_snoc]; exact e1) (by simp only; omega) (by rw [lastI_snoc, ← q1]; exact hw2)
    simp only [List.append_assoc, List.singleton_append] at this
    rw [List.map_cons, q1]
    exact this
   ·have hlt := pair_lt (g.sorted _) hi hj (by omega)
    rw [hjh, q1] at hlt
    rw [hT]
    simp only [List.append_assoc, List.singleton_append, List.map_cons]
    rw [befL_app, if_neg (by omega)]
    simp; omega
theorem Grd.compl (g : Grd A left b hp ids) : ∀ {R : List Hp} {x : Rte} {d : Int}, Way A left b (lastI x.nodes) R → left (lastI x.nodes) d → (∀ u ∈ x.nodes, ∀ e, left u e → d ≤ e) → Compl hp ids b x ⟨x.nodes ++ R.map Hp.dst, x.roads ++ R.map Hp.road, x.len + d⟩
 | [], x, d, hw, hd, _ => by
  generalize hl : lastI x.nodes = c at hw hd
  cases hw with
  | done =>
   have := g.uniq _ _ _ hd g.zero
   subst this
   have e : (⟨x.nodes ++ ([] : List Hp).map Hp.dst, x.roads ++ ([] : List Hp).map Hp.road, x.len + 0⟩ : Rte) = x := by simp
   rw [e]
   exact .here hl
 | h :: R, x, d, hw, hd, hm => by
  generalize hl : lastI x.nodes = c at hw hd
  cases hw with
  | @step _ _ i hne hi hk hf hw2 =>
   obtain ⟨r, d', k1, k2, k3⟩ := hk
   have := g.uniq _ _ _ hd k2
   subst this
   have hmem := List.getElem_mem hi
   have h1 := g.pos _ _ hmem
   have hno : (A c)[i].dst ∉ x.nodes := fun q => by have := hm _ q _ k1; omega
   have ih := g.compl (R := R) (x := ⟨x.nodes ++ [(A c)[i].dst], x.roads ++ [(A c)[i].road], x.len + (A c)[i].len⟩) (d := r) (by simp only; rw [lastI_snoc]; exact hw2) (by simp only; rw [lastI_snoc]; exact k1) (by
    intro u hu e he
    simp only [List.mem_append, List.mem_singleton] at hu
    rcases hu with hu | rfl
    ·have := hm u hu e he; omega
    ·have := g.uniq _ _ _ he k1; omega)
   have := Compl.step (by rw [hl]; exact hne) (g.node _ _ hmem) hno (by rw [hl]; exact g.hop _ _ hmem) ih
   have e : (⟨(x.nodes ++ [(A c)[i].dst]) ++ R.map Hp.dst, (x.roads ++ [(A c)[i].road]) ++ R.map Hp.road, x.len + (A c)[i].len + r⟩ : Rte) = ⟨x.nodes ++ ((A c)[i] :: R).map Hp.dst, x.roads ++ ((A c)[i] :: R).map Hp.road, x.len + d⟩ := by
    simp only [List.append_assoc, List.singleton_append, List.map_cons, Rte.mk.injEq, true_and]
    omega
   rw [e] at this
   exact this
theorem first_of {α : Type} (L : List α) (p : α → Prop) (h : ∃ x ∈ L, p x) : ∃ (i : Nat) (hi : i < L.length), p L[i] ∧ ∀ (j : Nat) (hj : j < i), ¬p L[j] := by
 obtain ⟨x, hx, hp⟩ := h
 obtain ⟨k, hk, hkx⟩ := List.getElem_of_mem hx
 have hp : p L[k] := by rw [hkx]; exact hp
 clear hkx hx
 induction k using Nat.strongRecOn with
 | _ k ih =>
  by_cases h : ∃ j, ∃ hj : j < k, p (L[j]'(by omega))
  ·obtain ⟨j, hj, hpj⟩ := h
   exact ih j hj (by omega) hpj
  ·exact ⟨k, hk, hp, fun j hj q => h ⟨j, hj, q⟩⟩
theorem Grd.way (g : Grd A left b hp ids) : ∀ (m : Nat) (x d : Int), d.toNat = m → left x d → ∃ R, Way A left b x R := by
 intro m
 induction m using Nat.strongRecOn with
 | _ m ih =>
  intro x d hm hd
  by_cases hx : x = b
  ·subst hx; exact ⟨[], .done⟩
  ·obtain ⟨h, hh, r, k1, k2⟩ := g.next x d hx hd
   obtain ⟨i, hi, q1, q2⟩ := first_of (A x) (Keeps left x) ⟨h, hh, r, d, k1, hd, k2⟩
   obtain ⟨r', d', j1, j2, j3⟩ := q1
   have := g.uniq _ _ _ hd j2
   subst this
   have p1 := g.pos _ _ (List.getElem_mem hi)
   have p2 := g.nonneg _ _ j1
   obtain ⟨R, hR⟩ := ih r'.toNat (by omega) _ r' rfl j1
   exact ⟨_, .step hx hi ⟨r', d, j1, hd, j3⟩ q2 hR⟩
theorem Grd.some (g : Grd A left b hp ids) {a d : Int} {R : List Hp} (hd : left a d) (hw : Way A left b a R) {f : Nat} (hf : unused ids [a] ≤ f) : routesF hp ids b f ⟨[a], [], 0⟩ = some ⟨a :: R.map Hp.dst, R.map Hp.road, d⟩ := by
 obtain ⟨s1, s2⟩ := routesF_spec hp ids b f ⟨[a], [], 0⟩ hf
 have hG := g.compl (x := ⟨[a], [], 0⟩) (R := R) (d := d) hw hd (by
  intro u hu e he
  simp only [List.mem_singleton] at hu
  subst hu
  have := g.uniq _ _ _ he hd
  omega)
 simp only [List.singleton_append, List.nil_append, Int.zero_add] at hG
 cases hr : routesF hp ids b f ⟨[a], [], 0⟩ with
 | none => exact absurd hG (s2 hr _)
 | some y =>
  obtain ⟨y1, y2⟩ := s1 y hr
  have b1 := y2 _ hG
  obtain ⟨d', q1, q2⟩ := g.ge y1
  have := g.uniq _ _ _ (show left a d' from q1) hd
  subst this
  simp only [Int.zero_add] at q2
  have e : y.len = d' := by
   by_cases c : d' < y.len
   ·have : betterR ⟨a :: R.map Hp.dst, R.map Hp.road, d'⟩ y = true := (betterR_iff _ _).2 (.inl c)
    rw [b1] at this; cases this
   ·omega
  have l1 := g.lex y1 (d := d') (R := R) hd (by simp only; omega) hw
  have l2 : befL (a :: R.map Hp.dst) y.nodes = false := by
   cases c : befL (a :: R.map Hp.dst) y.nodes with
   | false => rfl
   | true =>
    have : betterR ⟨a :: R.map Hp.dst, R.map Hp.road, d'⟩ y = true := (betterR_iff _ _).2 (.inr ⟨e.symm, c⟩)
    rw [b1] at this; cases this
  exact congrArg Option.some (y1.same hG (befL_eq l1 l2))
theorem Grd.none (g : Grd A left b hp ids) {a : Int} (hd : ∀ d, ¬left a d) {f : Nat} (hf : unused ids [a] ≤ f) : routesF hp ids b f ⟨[a], [], 0⟩ = none := by
 obtain ⟨s1, s2⟩ := routesF_spec hp ids b f ⟨[a], [], 0⟩ hf
 cases hr : routesF hp ids b f ⟨[a], [], 0⟩ with
 | none => rfl
 | some y =>
  obtain ⟨d, k, _⟩ := g.ge (s1 y hr).1
  exact absurd k (hd d)
end
theorem leads_rev (a b : Int) (r : Rd) : leadsB b a r.rev = leadsB a b r := by
 simp only [leadsB, Rd.rev]
 cases (r.src == a) <;> cases (r.dst == b) <;> cases r.one <;> cases (r.dst == a) <;> cases (r.src == b) <;> rfl
theorem hopN_rev (n : Net) (a b : Int) : hopN n.rev b a = hopN n a b := by
 have : ∀ (rs : List Rd) (h : Hst), (rs.map Rd.rev).foldl (hopS b a) h = rs.foldl (hopS a b) h := by
  intro rs
  induction rs with
  | nil => intro h; rfl
  | cons r rs ih =>
   intro h
   rw [List.map_cons, List.foldl_cons, List.foldl_cons, ih]
   congr 1
   unfold hopS
   rw [leads_rev]
   rfl
 exact this n.roads _
theorem srtR_rev {n : Net} (h : SrtR n.roads) : SrtR n.rev.roads := fun i j hij hj => by
 have hj' : j < n.roads.length := by simpa [Net.rev] using hj
 have := h i j hij hj'
 show ((n.roads.map Rd.rev)[i]!).id < ((n.roads.map Rd.rev)[j]!).id
 rw [getElem!_pos (n.roads.map Rd.rev) i (by simp; omega), getElem!_pos (n.roads.map Rd.rev) j (by simpa using hj'), List.getElem_map, List.getElem_map]
 rwa [getElem!_pos n.roads i (by omega), getElem!_pos n.roads j hj'] at this
/-- The law's hop, as what is looked up. -/
def hp2 (n : Net) (a b : Int) : Option (Int × Int) := if (hopN n a b).ok then some ((hopN n a b).road, (hopN n a b).len) else none
theorem hp2_of {n : Net} (hs : SrtR n.roads) {u : Int} {L : List Hp} (hL : Fin (hopsG n.roads u) L) {h : Hp} (hh : h ∈ L) : hp2 n u h.dst = some (h.road, h.len) := by
 obtain ⟨i1, i2⟩ := hopN_fin hs (b := h.dst) hL
 obtain ⟨e1, e2⟩ := i2 h hh rfl
 unfold hp2
 rw [i1.2 ⟨h, hh, rfl⟩, e1, e2]
 rfl
theorem hp2_back {n : Net} (hs : SrtR n.roads) {u v rd l : Int} {L : List Hp} (hL : Fin (hopsG n.roads u) L) (h : hp2 n u v = some (rd, l)) : ∃ g ∈ L, g.dst = v ∧ g.road = rd ∧ g.len = l := by
 obtain ⟨i1, i2⟩ := hopN_fin hs (b := v) hL
 unfold hp2 at h
 split at h
 ·rename_i ho
  obtain ⟨g, hg, e⟩ := i1.1 ho
  obtain ⟨e1, e2⟩ := i2 g hg e
  injection h with h
  injection h with h1 h2
  exact ⟨g, hg, e, by omega, by omega⟩
 ·cases h
theorem grd_of {n : Net} (hs : SrtR n.roads) {A B : Int → List Hp} (hA : ∀ k, Fin (hopsG n.roads k) (A k)) (hB : ∀ k, Fin (hopsG n.rev.roads k) (B k)) (b : Int) {ids : List Int} (hpos : ∀ u, ∀ h ∈ A u, 1 ≤ h.len) (hids : ∀ u, ∀ h ∈ A u, h.dst ∈ ids) : Grd A (Least B b) b (hp2 n) ids := by
 have hsr := srtR_rev hs
 -- each hop forward has its hop back
 have fwd : ∀ u, ∀ h ∈ A u, ∃ g ∈ B h.dst, g.dst = u ∧ g.len = h.len := fun u h hh => by
  have e := hp2_of hs (hA u) hh
  have e2 : hp2 n.rev h.dst u = some (h.road, h.len) := by unfold hp2 at e ⊢; rw [hopN_rev]; exact e
  obtain ⟨g, hg, q1, _, q3⟩ := hp2_back hsr (hB h.dst) e2
  exact ⟨g, hg, q1, q3⟩
 have bwd : ∀ u, ∀ g ∈ B u, ∃ h ∈ A g.dst, h.dst = u ∧ h.len = g.len := fun u g hg => by
  have e := hp2_of hsr (hB u) hg
  have e2 : hp2 n g.dst u = some (g.road, g.len) := by unfold hp2 at e ⊢; rw [hopN_rev] at e; exact e
  obtain ⟨h, hh, q1, _, q3⟩ := hp2_back hs (hA g.dst) e2
  exact ⟨h, hh, q1, q3⟩
 have hposB : ∀ u, ∀ g ∈ B u, 1 ≤ g.len := fun u g hg => by
  obtain ⟨h, hh, _, e⟩ := bwd u g hg
  have := hpos _ h hh
  omega
 have hB0 : ∀ u, ∀ g ∈ B u, 0 ≤ g.len := fun u g hg => by have := hposB u g hg; omega
 refine ⟨fun u => (fin_spec (hA u)).1, fun u h hh => hp2_of hs (hA u) hh, fun u v rd l h => hp2_back hs (hA u) h, hpos, hids, ⟨.nil, fun d' h => walk_nonneg hB0 h⟩, fun x d d' h h' => h.unique h', fun x d h => walk_nonneg hB0 h.1, fun u h hh d hd => ?_, fun x d hx hd => ?_⟩
 ·obtain ⟨g, hg, q1, q2⟩ := fwd u h hh
  have hw := Walk.snoc hd.1 hg
  rw [q1, q2] at hw
  obtain ⟨e, he⟩ := least_ex hB0 _ _ rfl hw
  exact ⟨e, he, he.2 _ hw⟩
 ·obtain ⟨hw, hmin⟩ := hd
  cases hw with
  | nil => exact absurd rfl hx
  | @snoc u d' g hw hg =>
   obtain ⟨h, hh, q1, q2⟩ := bwd u g hg
   refine ⟨h, hh, d', ?_, by omega⟩
   rw [q1]
   exact ⟨hw, fun e he => by have := hmin _ (Walk.snoc he hg); omega⟩
end Go.Proofs.YtcelpkbmcmnogaaGreatDoor
