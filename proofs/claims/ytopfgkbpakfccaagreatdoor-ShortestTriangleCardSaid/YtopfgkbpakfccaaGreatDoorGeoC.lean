/-
  Positions of a grid, plain: the least way is not longer than any sequence of moves, and is one.
-/
import Derived.Test.YtopfgkbpakfccaaGreatDoorGeoB
set_option linter.unusedSimpArgs false
set_option linter.unusedVariables false
namespace Go.Proofs.YtopfgkbpakfccaaGreatDoor
open Go Go.Vi
noncomputable def dstN (n : Net) (p q : Plc) : Option Rat := if (betweenN n (rtN n) p q).2 = 0 then some (betweenN n (rtN n) p q).1.len else none
/-- A way over an exit and an entry. -/
def Chx (n : Net) (p q : Plc) (d : Rat) : Prop := ∃ e ∈ (exitsN n p).1, ∃ f ∈ (entriesN n q).1, ∃ R l, rtN n e.node f.node = some (R, l) ∧ d = e.len + f.len + (l : Rat)
theorem ch_mem {n : Net} {p q : Plc} {c : Chc} : c ∈ choicesN (rtN n) (exitsN n p).1 (entriesN n q).1 ↔ ∃ e ∈ (exitsN n p).1, ∃ f ∈ (entriesN n q).1, ∃ R l, rtN n e.node f.node = some (R, l) ∧ c = ⟨e.len + f.len + (l : Rat), R, l, e, f⟩ := by
  unfold choicesN
  rw [List.mem_flatMap]
  constructor
  · rintro ⟨e, he, hc⟩
    obtain ⟨f, hf, hc⟩ := List.mem_filterMap.1 hc
    unfold chcOf at hc
    cases hr : rtN n e.node f.node with
    | none => rw [hr] at hc; cases hc
    | some Rl =>
      obtain ⟨R, l⟩ := Rl
      rw [hr] at hc
      injection hc with hc
      exact ⟨e, he, f, hf, R, l, hr, hc.symm⟩
  · rintro ⟨e, he, f, hf, R, l, hr, rfl⟩
    exact ⟨e, he, List.mem_filterMap.2 ⟨f, hf, by unfold chcOf; rw [hr]⟩⟩
theorem chCmp_neg {a b : Chc} (h : chCmp a b < 0) : a.len ≤ b.len := by
  unfold chCmp at h
  simp only [orI] at h
  by_cases h1 : a.len < b.len
  · grind
  · by_cases h2 : b.len < a.len
    · have : cmpR a.len b.len = 1 := by unfold cmpR; rw [if_neg h1, if_pos h2]
      rw [this] at h
      simp at h
    · grind
theorem chCmp_not {a b : Chc} (h : ¬chCmp a b < 0) : b.len ≤ a.len := by
  unfold chCmp at h
  simp only [orI] at h
  by_cases h1 : a.len < b.len
  · have : cmpR a.len b.len = -1 := by unfold cmpR; rw [if_pos h1]
    rw [this] at h
    simp at h
  · grind
def leaS (acc : Option Chc) (x : Chc) : Option Chc := match acc with
  | none => some x
  | some b => if chCmp x b < 0 then some x else some b
theorem leastC_def (L : List Chc) : leastC L = L.foldl leaS none := by
  unfold leastC
  congr 1
theorem leastC_spec (L : List Chc) : (∀ c, leastC L = some c → c ∈ L ∧ ∀ c' ∈ L, c.len ≤ c'.len) ∧ (leastC L = none → L = []) := by
  have key : ∀ (L : List Chc) (acc : Option Chc) (Z : List Chc), (∀ c, acc = some c → c ∈ Z ∧ ∀ c' ∈ Z, c.len ≤ c'.len) → (acc = none → Z = []) →
      (∀ c, L.foldl leaS acc = some c → c ∈ Z ++ L ∧ ∀ c' ∈ Z ++ L, c.len ≤ c'.len) ∧ (L.foldl leaS acc = none → Z ++ L = []) := by
    intro L
    induction L with
    | nil => intro acc Z h1 h2; simpa using ⟨h1, h2⟩
    | cons x L ih =>
      intro acc Z h1 h2
      rw [List.foldl_cons]
      have e : Z ++ x :: L = (Z ++ [x]) ++ L := by simp
      rw [e]
      refine ih _ (Z ++ [x]) (fun c hc => ?_) (fun hn => ?_)
      · cases acc with
        | none =>
          simp only [leaS] at hc
          injection hc with hc
          subst hc
          rw [h2 rfl]
          exact ⟨by simp, fun c' hc' => by simp at hc'; subst hc'; exact Rat.le_refl⟩
        | some b =>
          obtain ⟨z1, z2⟩ := h1 b rfl
          simp only [leaS] at hc
          split at hc
          · rename_i hlt
            injection hc with hc
            subst hc
            have := chCmp_neg hlt
            refine ⟨by simp, fun c' hc' => ?_⟩
            rcases List.mem_append.1 hc' with hc' | hc'
            · have := z2 c' hc'; grind
            · simp at hc'; subst hc'; exact Rat.le_refl
          · rename_i hlt
            injection hc with hc
            subst hc
            have := chCmp_not hlt
            refine ⟨List.mem_append_left _ z1, fun c' hc' => ?_⟩
            rcases List.mem_append.1 hc' with hc' | hc'
            · exact z2 c' hc'
            · simp at hc'; subst hc'; exact this
      · cases acc with
        | none => simp only [leaS] at hn; cases hn
        | some b => simp only [leaS] at hn; split at hn <;> cases hn
  have := key L none [] (fun c h => by cases h) (fun _ => rfl)
  rw [leastC_def]
  simpa using this
theorem dst_same {n : Net} {p q : Plc} (hp : PosOK n p) (hq : PosOK n q) (hs : sameN n p q = true) : betweenN n (rtN n) p q = (⟨p, q, [], 0⟩, 0) := by
  unfold betweenN
  rw [if_neg (by rw [hp.chk, hq.chk]; decide), if_pos hs]
/-- What Between finds. -/
theorem bw_spec {n : Net} {p q : Plc} (hp : PosOK n p) (hq : PosOK n q) (hs : sameN n p q = false) : ((betweenN n (rtN n) p q).2 = 0 ∨ (betweenN n (rtN n) p q = (wyz, 31))) ∧ (∀ d, dstN n p q = some d → (Mv n p q d ∨ Chx n p q d) ∧ ∀ d', Mv n p q d' ∨ Chx n p q d' → d ≤ d') ∧ (dstN n p q = none → ∀ d', ¬(Mv n p q d' ∨ Chx n p q d')) := by
  obtain ⟨a1, a2⟩ := ahead_iff hp.chk hq.chk hs
  obtain ⟨c1, c2⟩ := leastC_spec (choicesN (rtN n) (exitsN n p).1 (entriesN n q).1)
  have e : betweenN n (rtN n) p q = match aheadN n p q, leastC (choicesN (rtN n) (exitsN n p).1 (entriesN n q).1) with
    | some l, none => (⟨p, q, (alongN n p q l).toList, l⟩, 0)
    | some l, some c => if cmpR l c.len ≤ 0 then (⟨p, q, (alongN n p q l).toList, l⟩, 0) else (⟨p, q, legsN n c p q, c.len⟩, 0)
    | none, none => (wyz, 31)
    | none, some c => (⟨p, q, legsN n c p q, c.len⟩, 0) := by
    unfold betweenN
    rw [if_neg (by rw [hp.chk, hq.chk]; decide), if_neg (by rw [hs]; simp)]
    cases aheadN n p q <;> cases leastC (choicesN (rtN n) (exitsN n p).1 (entriesN n q).1) <;> rfl
  have chx : ∀ c ∈ choicesN (rtN n) (exitsN n p).1 (entriesN n q).1, Chx n p q c.len := fun c hc => by
    obtain ⟨e, he, f, hf, R, l, hr, rfl⟩ := ch_mem.1 hc
    exact ⟨e, he, f, hf, R, l, hr, rfl⟩
  have chx' : ∀ d, Chx n p q d → ∃ c ∈ choicesN (rtN n) (exitsN n p).1 (entriesN n q).1, c.len = d := fun d ⟨e, he, f, hf, R, l, hr, hd⟩ => ⟨_, ch_mem.2 ⟨e, he, f, hf, R, l, hr, rfl⟩, hd.symm⟩
  unfold dstN
  cases ha : aheadN n p q with
  | none =>
    have hno := a2 ha
    cases hc : leastC (choicesN (rtN n) (exitsN n p).1 (entriesN n q).1) with
    | none =>
      rw [ha, hc] at e
      rw [e]
      refine ⟨.inr rfl, fun d hd => by simp at hd, fun _ d' hd' => ?_⟩
      rcases hd' with hd' | hd'
      · exact hno d' hd'
      · obtain ⟨c, hcm, _⟩ := chx' d' hd'
        rw [c2 hc] at hcm
        cases hcm
    | some c =>
      rw [ha, hc] at e
      rw [e]
      obtain ⟨k1, k2⟩ := c1 c hc
      refine ⟨.inl rfl, fun d hd => ?_, fun h => by simp at h⟩
      simp only [if_true] at hd
      injection hd with hd
      subst hd
      refine ⟨.inr (chx c k1), fun d' hd' => ?_⟩
      rcases hd' with hd' | hd'
      · exact absurd hd' (hno d')
      · obtain ⟨c', hcm, rfl⟩ := chx' d' hd'
        exact k2 c' hcm
  | some l =>
    obtain ⟨m1, m2⟩ := a1 l ha
    cases hc : leastC (choicesN (rtN n) (exitsN n p).1 (entriesN n q).1) with
    | none =>
      rw [ha, hc] at e
      rw [e]
      refine ⟨.inl rfl, fun d hd => ?_, fun h => by simp at h⟩
      simp only [if_true] at hd
      injection hd with hd
      subst hd
      refine ⟨.inl m1, fun d' hd' => ?_⟩
      rcases hd' with hd' | hd'
      · exact m2 d' hd'
      · obtain ⟨c, hcm, _⟩ := chx' d' hd'
        rw [c2 hc] at hcm
        cases hcm
    | some c =>
      rw [ha, hc] at e
      simp only at e
      obtain ⟨k1, k2⟩ := c1 c hc
      by_cases hl : cmpR l c.len ≤ 0
      · rw [if_pos hl] at e
        rw [e]
        have hl' : l ≤ c.len := by unfold cmpR at hl; split at hl <;> (try split at hl) <;> (first | grind | omega)
        refine ⟨.inl rfl, fun d hd => ?_, fun h => by simp at h⟩
        simp only [if_true] at hd
        injection hd with hd
        subst hd
        refine ⟨.inl m1, fun d' hd' => ?_⟩
        rcases hd' with hd' | hd'
        · exact m2 d' hd'
        · obtain ⟨c', hcm, rfl⟩ := chx' d' hd'
          have := k2 c' hcm
          grind
      · rw [if_neg hl] at e
        rw [e]
        have hl' : c.len ≤ l := by
          unfold cmpR at hl
          by_cases h1 : l < c.len
          · rw [if_pos h1] at hl; exact absurd (by decide) hl
          · grind
        refine ⟨.inl rfl, fun d hd => ?_, fun h => by simp at h⟩
        simp only [if_true] at hd
        injection hd with hd
        subst hd
        refine ⟨.inr (chx c k1), fun d' hd' => ?_⟩
        rcases hd' with hd' | hd'
        · have := m2 d' hd'; grind
        · obtain ⟨c', hcm, rfl⟩ := chx' d' hd'
          exact k2 c' hcm
theorem dst_le {n : Net} {p q : Plc} (hp : PosOK n p) (hq : PosOK n q) {D : Rat} (h0 : 0 ≤ D) (h : sameN n p q = true ∨ Mv n p q D ∨ Chx n p q D) : ∃ d, dstN n p q = some d ∧ d ≤ D := by
  cases hs : sameN n p q with
  | true =>
    refine ⟨0, ?_, h0⟩
    unfold dstN
    rw [dst_same hp hq hs]
    rfl
  | false =>
    obtain ⟨_, b1, b2⟩ := bw_spec hp hq hs
    have hh : Mv n p q D ∨ Chx n p q D := by
      rcases h with h | h
      · rw [hs] at h; cases h
      · exact h
    cases hd : dstN n p q with
    | none => exact absurd hh (b2 hd D)
    | some d => exact ⟨d, rfl, (b1 d hd).2 D hh⟩
theorem inc_node {n : Net} (h : GNet n) {x : Int} (hx : ∃ r ∈ n.roads, onR r x) : (nodeOf n.nodes x).isSome = true := by
  obtain ⟨r, hr, e | e⟩ := hx
  · rw [← e]; exact (road_nodes h hr).1
  · rw [← e]; exact (road_nodes h hr).2
theorem leads_fwd (r : Rd) : leadsB r.src r.dst r = true := by simp [leadsB]
theorem leads_bwd {r : Rd} (h : r.one = false) : leadsB r.dst r.src r = true := by simp [leadsB, h]
theorem exit_at {n : Net} {p : Plc} (hp : PosOK n p) {x : Int} (hx : nodeAtN n p = some x) : (⟨x, 0⟩ : Ed) ∈ (exitsN n p).1 := (ends_mem hp _ _ _).2 (.inl ⟨x, hx, rfl⟩)
theorem entry_at {n : Net} {p : Plc} (hp : PosOK n p) {x : Int} (hx : nodeAtN n p = some x) : (⟨x, 0⟩ : Ed) ∈ (entriesN n p).1 := (ends_mem hp _ _ _).2 (.inl ⟨x, hx, rfl⟩)
/-- Where a position on a road is seen from it. -/
theorem on_road {n : Net} (h : GNet n) {p : Plc} (hp : PosOK n p) {r : Rd} (hr : r ∈ n.roads) {a : Rat} (ha : offsN n r p = some a) : (∃ x, nodeAtN n p = some x ∧ onR r x ∧ a = offR r x) ∨ (nodeAtN n p = none ∧ roadOf n.roads p.road = some r ∧ a = p.off ∧ 0 < a ∧ a < (r.len : Rat)) := by
  rcases view h hp with ⟨x, hx, _, ho, _⟩ | ⟨hx, q, hq, hqr, h1, h2, ho⟩
  · rw [ho r hr] at ha
    split at ha
    · rename_i hon
      injection ha with ha
      exact .inl ⟨x, hx, hon, ha.symm⟩
    · cases ha
  · rw [ho r hr] at ha
    split at ha
    · rename_i e
      have := road_id h hr hq e
      subst this
      injection ha with ha
      subst ha
      exact .inr ⟨hx, hqr, rfl, h1, h2⟩
    · cases ha
theorem exit_dst {n : Net} (h : GNet n) {p : Plc} (hp : PosOK n p) {r : Rd} (hr : r ∈ n.roads) {a : Rat} (ha : offsN n r p = some a) : ∃ e ∈ (exitsN n p).1, ∃ R l, rtN n e.node r.dst = some (R, l) ∧ e.len + (l : Rat) ≤ (r.len : Rat) - a := by
  rcases on_road h hp hr ha with ⟨x, hx, hon, rfl⟩ | ⟨hx, hro, rfl, h1, h2⟩
  · refine ⟨_, exit_at hp hx, ?_⟩
    rcases hon with e | e
    · subst e
      obtain ⟨R, l, q1, q2⟩ := dist_hop h hr (leads_fwd r)
      have q3 : (l : Rat) ≤ (r.len : Rat) := Rat.intCast_le_intCast.2 q2
      exact ⟨R, l, q1, by rw [offR_src]; simp only; grind⟩
    · subst e
      obtain ⟨R, q1⟩ := dist_self h (road_nodes h hr).2
      exact ⟨R, 0, q1, by rw [offR_dst h hr]; show (0 : Rat) + ((0 : Int) : Rat) ≤ _; have : ((0 : Int) : Rat) = 0 := rfl; grind⟩
  · refine ⟨⟨r.dst, (r.len : Rat) - p.off⟩, (ends_mem hp _ _ _).2 (.inr ⟨hx, .inr ⟨rfl, by rw [hro]; rfl⟩⟩), ?_⟩
    obtain ⟨R, q1⟩ := dist_self h (road_nodes h hr).2
    exact ⟨R, 0, q1, by have : ((0 : Int) : Rat) = 0 := rfl; simp only; grind⟩
theorem exit_src {n : Net} (h : GNet n) {p : Plc} (hp : PosOK n p) {r : Rd} (hr : r ∈ n.roads) (h2w : r.one = false) {a : Rat} (ha : offsN n r p = some a) : ∃ e ∈ (exitsN n p).1, ∃ R l, rtN n e.node r.src = some (R, l) ∧ e.len + (l : Rat) ≤ a := by
  rcases on_road h hp hr ha with ⟨x, hx, hon, rfl⟩ | ⟨hx, hro, rfl, h1, h2⟩
  · refine ⟨_, exit_at hp hx, ?_⟩
    rcases hon with e | e
    · subst e
      obtain ⟨R, q1⟩ := dist_self h (road_nodes h hr).1
      exact ⟨R, 0, q1, by rw [offR_src]; show (0 : Rat) + ((0 : Int) : Rat) ≤ _; have : ((0 : Int) : Rat) = 0 := rfl; grind⟩
    · subst e
      obtain ⟨R, l, q1, q2⟩ := dist_hop h hr (leads_bwd h2w)
      have q3 : (l : Rat) ≤ (r.len : Rat) := Rat.intCast_le_intCast.2 q2
      exact ⟨R, l, q1, by rw [offR_dst h hr]; simp only; grind⟩
  · refine ⟨⟨r.src, p.off⟩, (ends_mem hp _ _ _).2 (.inr ⟨hx, .inl ⟨by rw [hro]; simp [h2w], by rw [hro]; rfl⟩⟩), ?_⟩
    obtain ⟨R, q1⟩ := dist_self h (road_nodes h hr).1
    exact ⟨R, 0, q1, by have : ((0 : Int) : Rat) = 0 := rfl; simp only; grind⟩
theorem entry_src {n : Net} (h : GNet n) {q : Plc} (hq : PosOK n q) {r : Rd} (hr : r ∈ n.roads) {b : Rat} (hb : offsN n r q = some b) : ∃ f ∈ (entriesN n q).1, ∃ R l, rtN n r.src f.node = some (R, l) ∧ (l : Rat) + f.len ≤ b := by
  rcases on_road h hq hr hb with ⟨x, hx, hon, rfl⟩ | ⟨hx, hro, rfl, h1, h2⟩
  · refine ⟨_, entry_at hq hx, ?_⟩
    rcases hon with e | e
    · subst e
      obtain ⟨R, q1⟩ := dist_self h (road_nodes h hr).1
      exact ⟨R, 0, q1, by rw [offR_src]; have : ((0 : Int) : Rat) = 0 := rfl; simp only; grind⟩
    · subst e
      obtain ⟨R, l, q1, q2⟩ := dist_hop h hr (leads_fwd r)
      have q3 : (l : Rat) ≤ (r.len : Rat) := Rat.intCast_le_intCast.2 q2
      exact ⟨R, l, q1, by rw [offR_dst h hr]; simp only; grind⟩
  · refine ⟨⟨r.src, q.off⟩, (ends_mem hq _ _ _).2 (.inr ⟨hx, .inl ⟨rfl, by rw [hro]; rfl⟩⟩), ?_⟩
    obtain ⟨R, q1⟩ := dist_self h (road_nodes h hr).1
    exact ⟨R, 0, q1, by have : ((0 : Int) : Rat) = 0 := rfl; simp only; grind⟩
theorem entry_dst {n : Net} (h : GNet n) {q : Plc} (hq : PosOK n q) {r : Rd} (hr : r ∈ n.roads) (h2w : r.one = false) {b : Rat} (hb : offsN n r q = some b) : ∃ f ∈ (entriesN n q).1, ∃ R l, rtN n r.dst f.node = some (R, l) ∧ (l : Rat) + f.len ≤ (r.len : Rat) - b := by
  rcases on_road h hq hr hb with ⟨x, hx, hon, rfl⟩ | ⟨hx, hro, rfl, h1, h2⟩
  · refine ⟨_, entry_at hq hx, ?_⟩
    rcases hon with e | e
    · subst e
      obtain ⟨R, l, q1, q2⟩ := dist_hop h hr (leads_bwd h2w)
      have q3 : (l : Rat) ≤ (r.len : Rat) := Rat.intCast_le_intCast.2 q2
      exact ⟨R, l, q1, by rw [offR_src]; simp only; grind⟩
    · subst e
      obtain ⟨R, q1⟩ := dist_self h (road_nodes h hr).2
      exact ⟨R, 0, q1, by rw [offR_dst h hr]; have : ((0 : Int) : Rat) = 0 := rfl; simp only; grind⟩
  · refine ⟨⟨r.dst, (r.len : Rat) - q.off⟩, (ends_mem hq _ _ _).2 (.inr ⟨hx, .inr ⟨by rw [hro]; simp [h2w], by rw [hro]; rfl⟩⟩), ?_⟩
    obtain ⟨R, q1⟩ := dist_self h (road_nodes h hr).2
    exact ⟨R, 0, q1, by have : ((0 : Int) : Rat) = 0 := rfl; simp only; grind⟩
theorem exit_step {n : Net} (h : GNet n) {p q : Plc} (hp : PosOK n p) (hq : PosOK n q) {d0 : Rat} (hm : Mv n p q d0) {e2 : Ed} (he : e2 ∈ (exitsN n q).1) : ∃ e1 ∈ (exitsN n p).1, ∃ R l, rtN n e1.node e2.node = some (R, l) ∧ e1.len + (l : Rat) ≤ d0 + e2.len := by
  obtain ⟨r, hr, a, b, ha, hb, hdir, rfl⟩ := hm
  have hl := len_le h hr
  have ab : b - a ≤ absR (b - a) ∧ a - b ≤ absR (b - a) := by rw [absR_eq]; split <;> grind
  obtain ⟨_, a0, _⟩ := offs_in h hp hr ha
  rcases on_road h hq hr hb with ⟨y, hy, hon, rfl⟩ | ⟨hy, hro, rfl, h1, h2⟩
  · rcases (ends_mem hq _ _ _).1 he with ⟨z, hz, rfl⟩ | ⟨hz, _⟩
    · rw [hy] at hz
      injection hz with hz
      subst hz
      by_cases hys : r.src = y
      · subst hys
        rw [offR_src] at ab hdir ⊢
        cases ho : r.one with
        | false =>
          obtain ⟨e, he1, R, l, q1, q2⟩ := exit_src h hp hr ho ha
          exact ⟨e, he1, R, l, q1, by simp only; grind⟩
        | true =>
          have := hdir ho
          rcases on_road h hp hr ha with ⟨x, hx, honx, rfl⟩ | ⟨hx, hro, rfl, g1, g2⟩
          · rcases honx with e | e
            · subst e
              obtain ⟨R, q1⟩ := dist_self h (road_nodes h hr).1
              have z0 : ((0 : Int) : Rat) = 0 := rfl
              exact ⟨_, exit_at hp hx, R, 0, q1, by simp only; grind⟩
            · subst e
              rw [offR_dst h hr] at this
              grind
          · grind
      · have hyd : r.dst = y := by
          rcases hon with e | e
          · exact absurd e hys
          · exact e
        subst hyd
        rw [offR_dst h hr] at ab ⊢
        obtain ⟨e, he1, R, l, q1, q2⟩ := exit_dst h hp hr ha
        exact ⟨e, he1, R, l, q1, by simp only; grind⟩
    · rw [hy] at hz; cases hz
  · rcases (ends_mem hq _ _ _).1 he with ⟨z, hz, rfl⟩ | ⟨_, hz⟩
    · rw [hy] at hz; cases hz
    · rw [hro] at hz
      simp only [Option.getD_some] at hz
      rcases hz with ⟨ho, rfl⟩ | ⟨_, rfl⟩
      · obtain ⟨e, he1, R, l, q1, q2⟩ := exit_src h hp hr (by simpa using ho) ha
        exact ⟨e, he1, R, l, q1, by simp only; grind⟩
      · obtain ⟨e, he1, R, l, q1, q2⟩ := exit_dst h hp hr ha
        exact ⟨e, he1, R, l, q1, by simp only; grind⟩
theorem entry_mv {n : Net} (h : GNet n) {q t : Plc} (ht : PosOK n t) {x : Int} {r : Rd} (hr : r ∈ n.roads) (hon : onR r x) {b : Rat} (hb : offsN n r t = some b) (hdir : r.one = true → offR r x ≤ b) : ∃ f ∈ (entriesN n t).1, ∃ R l, rtN n x f.node = some (R, l) ∧ (l : Rat) + f.len ≤ absR (b - offR r x) := by
  have hl := len_le h hr
  obtain ⟨_, b0, _⟩ := offs_in h ht hr hb
  by_cases hxs : r.src = x
  · subst hxs
    obtain ⟨f, hf, R, l, q1, q2⟩ := entry_src h ht hr hb
    exact ⟨f, hf, R, l, q1, by rw [offR_src, absR_eq]; split <;> grind⟩
  · have hxd : r.dst = x := by
      rcases hon with e | e
      · exact absurd e hxs
      · exact e
    subst hxd
    cases ho : r.one with
    | false =>
      obtain ⟨f, hf, R, l, q1, q2⟩ := entry_dst h ht hr ho hb
      exact ⟨f, hf, R, l, q1, by rw [offR_dst h hr, absR_eq]; split <;> grind⟩
    | true =>
      have := hdir ho
      rw [offR_dst h hr] at this ⊢
      rcases on_road h ht hr hb with ⟨z, hz, honz, rfl⟩ | ⟨hz, hro, rfl, g1, g2⟩
      · rcases honz with e | e
        · subst e
          rw [offR_src] at this
          grind
        · subst e
          obtain ⟨R, q1⟩ := dist_self h (road_nodes h hr).2
          have z0 : ((0 : Int) : Rat) = 0 := rfl
          refine ⟨_, entry_at ht hz, R, 0, q1, ?_⟩
          have := absR_nonneg (offR r r.dst - (r.len : Rat))
          simp only
          grind
      · grind
theorem offs_same {n : Net} (h : GNet n) {q t : Plc} (hq : PosOK n q) (ht : PosOK n t) (hs : sameN n q t = true) {r : Rd} (hr : r ∈ n.roads) : offsN n r q = offsN n r t := by
  rcases (same_iff h hq ht).1 hs with ⟨x, h1, h2⟩ | ⟨_, _, rfl⟩
  · rcases view h hq with ⟨y, hy, _, o1, _⟩ | ⟨hy, _⟩
    · rcases view h ht with ⟨z, hz, _, o2, _⟩ | ⟨hz, _⟩
      · rw [h1] at hy; injection hy with hy; subst hy
        rw [h2] at hz; injection hz with hz; subst hz
        rw [o1 r hr, o2 r hr]
      · rw [h2] at hz; cases hz
    · rw [h1] at hy; cases hy
  · rfl
/-- One move more. -/
theorem mv_step {n : Net} (h : GNet n) {p q t : Plc} (hp : PosOK n p) (hq : PosOK n q) (ht : PosOK n t) {d0 e : Rat} (hm : Mv n p q d0) (hd : dstN n q t = some e) : ∃ d, dstN n p t = some d ∧ d ≤ d0 + e := by
  have hm0 := hm.nonneg
  cases hs : sameN n q t with
  | true =>
    have he : e = 0 := by
      unfold dstN at hd
      rw [dst_same hq ht hs] at hd
      simp at hd
      exact hd.symm
    subst he
    obtain ⟨r, hr, a, b, ha, hb, hdir, rfl⟩ := hm
    refine dst_le hp ht (by grind) (.inr (.inl ?_))
    exact ⟨r, hr, a, b, ha, by rw [← offs_same h hq ht hs hr]; exact hb, hdir, by grind⟩
  | false =>
    obtain ⟨_, b1, _⟩ := bw_spec hq ht hs
    obtain ⟨hk, _⟩ := b1 e hd
    rcases hk with hk | ⟨e2, he2, f, hf, R2, l2, q1, rfl⟩
    · have hk0 := hk.nonneg
      obtain ⟨r, hr, a, b, ha, hb, hdir, hde⟩ := hm
      obtain ⟨r2, hr2, a2, b2, ha2, hb2, hdir2, hde2⟩ := hk
      by_cases hrr : r = r2
      · subst hrr
        rw [hb] at ha2
        injection ha2 with ha2
        subst ha2
        have hmv : Mv n p t (absR (b2 - a)) := ⟨r, hr, a, b2, ha, hb2, fun ho => by have := hdir ho; have := hdir2 ho; grind, rfl⟩
        obtain ⟨d, k1, k2⟩ := dst_le hp ht (absR_nonneg _) (.inr (.inl hmv))
        refine ⟨d, k1, ?_⟩
        have : absR (b2 - a) ≤ absR (b - a) + absR (b2 - b) := by rw [absR_eq, absR_eq, absR_eq]; split <;> split <;> split <;> grind
        grind
      · -- q lies at a node of both roads
        rcases on_road h hq hr2 ha2 with ⟨x, hx, hon2, rfl⟩ | ⟨hx, hro, _⟩
        · obtain ⟨f, hf, R2, l2, k1, k2⟩ := entry_mv h (q := q) ht hr2 hon2 hb2 hdir2
          obtain ⟨e1, he1, R1, l1, j1, j2⟩ := exit_step h hp hq ⟨r, hr, a, b, ha, hb, hdir, hde⟩ (exit_at hq hx)
          obtain ⟨R, l, i1, i2⟩ := dist_tri h j1 k1
          have i3 : (l : Rat) ≤ (l1 : Rat) + (l2 : Rat) := by rw [← Rat.intCast_add]; exact Rat.intCast_le_intCast.2 i2
          have hl0 : (0 : Rat) ≤ (l : Rat) := Rat.intCast_le_intCast.2 (rt_in h i1).1
          obtain ⟨_, e0, _⟩ := ends_in h hp _ _ he1
          obtain ⟨_, f0, _⟩ := ends_in h ht _ _ hf
          obtain ⟨d, c1, c2⟩ := dst_le hp ht (D := e1.len + f.len + (l : Rat)) (by grind) (.inr (.inr ⟨e1, he1, f, hf, R, l, i1, rfl⟩))
          refine ⟨d, c1, ?_⟩
          simp only at j2
          grind
        · rcases on_road h hq hr hb with ⟨y, hy, _⟩ | ⟨_, hro', _⟩
          · rw [hx] at hy; cases hy
          · rw [hro] at hro'
            injection hro' with hro'
            exact absurd hro'.symm hrr
    · obtain ⟨e1, he1, R1, l1, j1, j2⟩ := exit_step h hp hq hm he2
      obtain ⟨R, l, i1, i2⟩ := dist_tri h j1 q1
      have i3 : (l : Rat) ≤ (l1 : Rat) + (l2 : Rat) := by rw [← Rat.intCast_add]; exact Rat.intCast_le_intCast.2 i2
      have hl0 : (0 : Rat) ≤ (l : Rat) := Rat.intCast_le_intCast.2 (rt_in h i1).1
      obtain ⟨_, e0, _⟩ := ends_in h hp _ _ he1
      obtain ⟨_, f0, _⟩ := ends_in h ht _ _ hf
      obtain ⟨d, c1, c2⟩ := dst_le hp ht (D := e1.len + f.len + (l : Rat)) (by grind) (.inr (.inr ⟨e1, he1, f, hf, R, l, i1, rfl⟩))
      exact ⟨d, c1, by grind⟩
/-- A sequence of moves. -/
inductive Trav (n : Net) : Plc → Plc → Rat → Prop
  | nil {p : Plc} : PosOK n p → Trav n p p 0
  | cons {p q t : Plc} {d e : Rat} : PosOK n p → Mv n p q d → Trav n q t e → Trav n p t (d + e)
theorem Trav.pos {n : Net} {p q : Plc} {d : Rat} (h : Trav n p q d) : PosOK n p ∧ PosOK n q ∧ 0 ≤ d := by
  induction h with
  | nil h => exact ⟨h, h, Rat.le_refl⟩
  | cons h1 h2 _ ih => exact ⟨h1, ih.2.1, by have := h2.nonneg; have := ih.2.2; grind⟩
theorem Trav.append {n : Net} {p q t : Plc} {d e : Rat} (h1 : Trav n p q d) (h2 : Trav n q t e) : Trav n p t (d + e) := by
  induction h1 with
  | nil h => rw [Rat.zero_add]; exact h2
  | cons k1 k2 _ ih => rw [Rat.add_assoc]; exact .cons k1 k2 (ih h2)
theorem trav_le {n : Net} (h : GNet n) {p q : Plc} {L : Rat} (ht : Trav n p q L) : ∃ d, dstN n p q = some d ∧ d ≤ L := by
  induction ht with
  | @nil p hp =>
    refine dst_le hp hp Rat.le_refl (.inl ?_)
    rw [same_iff h hp hp]
    cases hx : nodeAtN n p with
    | some x => exact .inl ⟨x, rfl, rfl⟩
    | none => exact .inr ⟨rfl, rfl, rfl⟩
  | cons hp hm hr ih =>
    obtain ⟨d, h1, h2⟩ := ih
    obtain ⟨d', k1, k2⟩ := mv_step h hp hr.pos.1 hr.pos.2.1 hm h1
    exact ⟨d', k1, by grind⟩
theorem offs_at {n : Net} (h : GNet n) {x : Int} (hx : ∃ r ∈ n.roads, onR r x) {r : Rd} (hr : r ∈ n.roads) (hon : onR r x) : offsN n r (atN n x).1 = some (offR r x) := by
  obtain ⟨_, hp, hn⟩ := at_pos h hx
  rcases view h hp with ⟨y, hy, _, ho, _⟩ | ⟨hy, _⟩
  · rw [hn] at hy; injection hy with hy; subst hy
    rw [ho r hr, if_pos hon]
  · rw [hn] at hy; cases hy
theorem same_mv {n : Net} (h : GNet n) {p q : Plc} (hp : PosOK n p) (hq : PosOK n q) (hs : sameN n p q = true) : Mv n p q 0 := by
  obtain ⟨r, hr, ha⟩ : ∃ r ∈ n.roads, ∃ a, offsN n r p = some a := by
    obtain ⟨r, _, hm, hid, _⟩ := hp.rd
    exact ⟨r, hm, p.off, by unfold offsN; rw [if_pos hid.symm]⟩
  obtain ⟨a, ha⟩ := ha
  exact ⟨r, hr, a, a, ha, by rw [← offs_same h hp hq hs hr]; exact ha, fun _ => Rat.le_refl, by rw [absR_eq]; split <;> grind⟩
theorem exit_inc {n : Net} (h : GNet n) {p : Plc} (hp : PosOK n p) {e : Ed} (he : e ∈ (exitsN n p).1) : (∃ r ∈ n.roads, onR r e.node) ∧ Mv n p (atN n e.node).1 e.len := by
  rcases view h hp with ⟨x, hx, hinc, _⟩ | ⟨hx, r, hr, hro, h1, h2, ho⟩
  · rcases (ends_mem hp _ _ _).1 he with ⟨z, hz, rfl⟩ | ⟨hz, _⟩
    · rw [hx] at hz; injection hz with hz; subst hz
      obtain ⟨_, q1, q2⟩ := at_pos h hinc
      exact ⟨hinc, same_mv h hp q1 ((same_iff h hp q1).2 (.inl ⟨x, hx, q2⟩))⟩
    · rw [hx] at hz; cases hz
  · have hof := ho r hr
    rw [if_pos rfl] at hof
    rcases (ends_mem hp _ _ _).1 he with ⟨z, hz, _⟩ | ⟨_, hz⟩
    · rw [hx] at hz; cases hz
    · rw [hro] at hz
      simp only [Option.getD_some] at hz
      rcases hz with ⟨hone, rfl⟩ | ⟨_, rfl⟩
      · have hinc : ∃ q ∈ n.roads, onR q r.src := ⟨r, hr, .inl rfl⟩
        refine ⟨hinc, r, hr, p.off, 0, hof, by rw [offs_at h hinc hr (.inl rfl), offR_src], fun ho1 => ?_, by rw [absR_eq]; split <;> grind⟩
        rw [ho1] at hone; cases hone
      · have hinc : ∃ q ∈ n.roads, onR q r.dst := ⟨r, hr, .inr rfl⟩
        exact ⟨hinc, r, hr, p.off, (r.len : Rat), hof, by rw [offs_at h hinc hr (.inr rfl), offR_dst h hr], fun _ => by grind, by rw [absR_eq]; split <;> grind⟩
theorem entry_inc {n : Net} (h : GNet n) {p : Plc} (hp : PosOK n p) {e : Ed} (he : e ∈ (entriesN n p).1) : (∃ r ∈ n.roads, onR r e.node) ∧ Mv n (atN n e.node).1 p e.len := by
  rcases view h hp with ⟨x, hx, hinc, _⟩ | ⟨hx, r, hr, hro, h1, h2, ho⟩
  · rcases (ends_mem hp _ _ _).1 he with ⟨z, hz, rfl⟩ | ⟨hz, _⟩
    · rw [hx] at hz; injection hz with hz; subst hz
      obtain ⟨_, q1, q2⟩ := at_pos h hinc
      exact ⟨hinc, same_mv h q1 hp ((same_iff h q1 hp).2 (.inl ⟨x, q2, hx⟩))⟩
    · rw [hx] at hz; cases hz
  · have hof := ho r hr
    rw [if_pos rfl] at hof
    rcases (ends_mem hp _ _ _).1 he with ⟨z, hz, _⟩ | ⟨_, hz⟩
    · rw [hx] at hz; cases hz
    · rw [hro] at hz
      simp only [Option.getD_some] at hz
      rcases hz with ⟨_, rfl⟩ | ⟨hone, rfl⟩
      · have hinc : ∃ q ∈ n.roads, onR q r.src := ⟨r, hr, .inl rfl⟩
        exact ⟨hinc, r, hr, 0, p.off, by rw [offs_at h hinc hr (.inl rfl), offR_src], hof, fun _ => by grind, by rw [absR_eq]; split <;> grind⟩
      · have hinc : ∃ q ∈ n.roads, onR q r.dst := ⟨r, hr, .inr rfl⟩
        refine ⟨hinc, r, hr, (r.len : Rat), p.off, by rw [offs_at h hinc hr (.inr rfl), offR_dst h hr], hof, fun ho1 => ?_, by rw [absR_eq]; split <;> grind⟩
        rw [ho1] at hone; cases hone
theorem walk_trav {n : Net} (h : GNet n) {x y l : Int} (hy : ∃ r ∈ n.roads, onR r y) (hw : Walk (finA n.rev) y x l) : (∃ r ∈ n.roads, onR r x) ∧ Trav n (atN n x).1 (atN n y).1 (l : Rat) := by
  induction hw with
  | nil => exact ⟨hy, .nil (at_pos h hy).2.1⟩
  | @snoc u d g hw hg ih =>
    obtain ⟨iu, it⟩ := ih
    have e := hp2_of (srtR_rev h.ok.roads) (finA_of n.rev u) hg
    have e2 : hp2 n g.dst u = some (g.road, g.len) := by unfold hp2 at e ⊢; rw [hopN_rev] at e; exact e
    obtain ⟨k, hk, k1, k2, k3⟩ := hp2_back h.ok.roads (finA_of n g.dst) e2
    obtain ⟨r, hr, hl, r1, r2⟩ := (hopsG_iff n.roads g.dst k.dst k.road k.len).1 ((fin_spec (finA_of n g.dst)).2.1 k hk).1
    rw [k1] at hl
    simp only [leadsB, Bool.or_eq_true, Bool.and_eq_true, beq_iff_eq, Bool.not_eq_true'] at hl
    have hlen : (r.len : Rat) = (g.len : Rat) := by rw [r2, k3]
    have hrl := len_le h hr
    have inc : ∃ r ∈ n.roads, onR r g.dst := by
      rcases hl with ⟨e1, _⟩ | ⟨⟨_, e1⟩, _⟩
      · exact ⟨r, hr, .inl e1⟩
      · exact ⟨r, hr, .inr e1⟩
    refine ⟨inc, ?_⟩
    have hmv : Mv n (atN n g.dst).1 (atN n u).1 (g.len : Rat) := by
      rcases hl with ⟨e1, e3⟩ | ⟨⟨e0, e1⟩, e3⟩
      · refine ⟨r, hr, 0, (r.len : Rat), ?_, ?_, fun _ => by grind, by rw [absR_eq]; split <;> grind⟩
        · rw [offs_at h inc hr (.inl e1), ← e1, offR_src]
        · rw [offs_at h iu hr (.inr e3), ← e3, offR_dst h hr]
      · refine ⟨r, hr, (r.len : Rat), 0, ?_, ?_, (fun ho => by rw [e0] at ho; cases ho), by rw [absR_eq]; split <;> grind⟩
        · rw [offs_at h inc hr (.inr e1), ← e1, offR_dst h hr]
        · rw [offs_at h iu hr (.inl e3), ← e3, offR_src]
    have := Trav.cons (at_pos h inc).2.1 hmv it
    rw [Rat.intCast_add, Rat.add_comm]
    exact this
/-- The least way is a sequence of moves. -/
theorem dst_trav {n : Net} (h : GNet n) {p q : Plc} (hp : PosOK n p) (hq : PosOK n q) {d : Rat} (hd : dstN n p q = some d) : Trav n p q d := by
  have one : ∀ {d}, Mv n p q d → Trav n p q d := fun {d} hm => by
    have := Trav.cons hp hm (.nil hq)
    rwa [Rat.add_zero] at this
  cases hs : sameN n p q with
  | true =>
    have he : d = 0 := by
      unfold dstN at hd
      rw [dst_same hp hq hs] at hd
      simp at hd
      exact hd.symm
    subst he
    exact one (same_mv h hp hq hs)
  | false =>
    obtain ⟨_, b1, _⟩ := bw_spec hp hq hs
    rcases (b1 d hd).1 with hm | ⟨e, he, f, hf, R, l, hr, rfl⟩
    · exact one hm
    · obtain ⟨i1, m1⟩ := exit_inc h hp he
      obtain ⟨i2, m2⟩ := entry_inc h hq hf
      obtain ⟨_, t⟩ := walk_trav h i2 (route_at ((rtN_of n _ _ _ _).1 hr)).1.1
      have := Trav.cons hp m1 (t.append (.cons (at_pos h i2).2.1 m2 (.nil hq)))
      have e : e.len + f.len + (l : Rat) = e.len + ((l : Rat) + (f.len + 0)) := by grind
      rw [e]
      exact this
theorem dst_tri {n : Net} (h : GNet n) {a b c : Plc} (ha : PosOK n a) (hb : PosOK n b) (hc : PosOK n c) {x y : Rat} (h1 : dstN n a b = some x) (h2 : dstN n b c = some y) : ∃ z, dstN n a c = some z ∧ z ≤ x + y :=
  trav_le h ((dst_trav h ha hb h1).append (dst_trav h hb hc h2))
end Go.Proofs.YtopfgkbpakfccaaGreatDoor
