/-
  Positions of a grid, plain: nodes and roads; distances of nodes; moves along one road.
-/
import Derived.Test.YtopfgkbpakfccaaGreatDoorGeoA
set_option linter.unusedSimpArgs false
set_option linter.unusedVariables false
namespace Go.Proofs.YtopfgkbpakfccaaGreatDoor
open Go Go.Vi
theorem road_id {n : Net} (h : GNet n) {r q : Rd} (hr : r ∈ n.roads) (hq : q ∈ n.roads) (e : r.id = q.id) : r = q := by
  have h1 := roadOf_mem h.ok.roads hr
  have h2 := roadOf_mem h.ok.roads hq
  rw [e, h2] at h1
  exact (Option.some.inj h1).symm
theorem road_ne {n : Net} (h : GNet n) {r : Rd} (hr : r ∈ n.roads) : r.src ≠ r.dst := (roadErr_zero (h.ok.road r hr).2).2.2.2
theorem road_nodes {n : Net} (h : GNet n) {r : Rd} (hr : r ∈ n.roads) : (nodeOf n.nodes r.src).isSome = true ∧ (nodeOf n.nodes r.dst).isSome = true := (roadErr_zero (h.ok.road r hr).2).2.2.1
theorem offR_src (r : Rd) : offR r r.src = 0 := by unfold offR; rw [if_pos rfl]
theorem offR_dst {n : Net} (h : GNet n) {r : Rd} (hr : r ∈ n.roads) : offR r r.dst = (r.len : Rat) := by unfold offR; rw [if_neg (road_ne h hr)]
def onR (r : Rd) (x : Int) : Prop := r.src = x ∨ r.dst = x
instance (r : Rd) (x : Int) : Decidable (onR r x) := inferInstanceAs (Decidable (_ ∨ _))
/-- Where a position is: at a node, or inside a road. -/
theorem view {n : Net} (h : GNet n) {p : Plc} (hp : PosOK n p) :
    (∃ x, nodeAtN n p = some x ∧ (∃ r ∈ n.roads, onR r x) ∧ (∀ r ∈ n.roads, offsN n r p = if onR r x then some (offR r x) else none) ∧ ∃ r ∈ n.roads, roadOf n.roads p.road = some r ∧ onR r x ∧ p.off = offR r x) ∨
    (nodeAtN n p = none ∧ ∃ r ∈ n.roads, roadOf n.roads p.road = some r ∧ 0 < p.off ∧ p.off < (r.len : Rat) ∧ ∀ q ∈ n.roads, offsN n q p = if q.id = r.id then some p.off else none) := by
  obtain ⟨r, hr, hm, hid, h1, h2⟩ := hp.rd
  have hl := len_le h hm
  have hn : nodeAtN n p = if p.off = offR r r.src then some r.src else if p.off = offR r r.dst then some r.dst else none := by
    unfold nodeAtN
    rw [if_pos hp.chk, hr]
  have same : ∀ q ∈ n.roads, p.road = q.id ↔ q = r := fun q hq => ⟨fun e => road_id h hq hm (by rw [← e, hid]), fun e => by rw [e, hid]⟩
  have atn : ∀ x, nodeAtN n p = some x → p.off = offR r x → onR r x → (∀ q ∈ n.roads, offsN n q p = if onR q x then some (offR q x) else none) := fun x hx ho hon q hq => by
    unfold offsN
    by_cases hqr : p.road = q.id
    · rw [if_pos hqr]
      have := (same q hq).1 hqr
      subst this
      rw [if_pos hon, ho]
    · rw [if_neg hqr, hx]
      rfl
  by_cases e1 : p.off = offR r r.src
  · rw [if_pos e1] at hn
    exact .inl ⟨r.src, hn, ⟨r, hm, .inl rfl⟩, atn _ hn e1 (.inl rfl), r, hm, hr, .inl rfl, e1⟩
  · rw [if_neg e1] at hn
    by_cases e2 : p.off = offR r r.dst
    · rw [if_pos e2] at hn
      exact .inl ⟨r.dst, hn, ⟨r, hm, .inr rfl⟩, atn _ hn e2 (.inr rfl), r, hm, hr, .inr rfl, e2⟩
    · rw [if_neg e2] at hn
      rw [offR_src] at e1
      rw [offR_dst h hm] at e2
      refine .inr ⟨hn, r, hm, hr, by grind, by grind, fun q hq => ?_⟩
      unfold offsN
      by_cases hqr : p.road = q.id
      · rw [if_pos hqr, if_pos (by rw [← hqr, hid])]
      · rw [if_neg hqr, hn, if_neg (fun e => hqr (by rw [e, hid]))]
/-- The position of a node at which a road begins or ends. -/
theorem at_pos {n : Net} (h : GNet n) {x : Int} (hx : ∃ r ∈ n.roads, onR r x) : (atN n x).2 = 0 ∧ PosOK n (atN n x).1 ∧ nodeAtN n (atN n x).1 = some x := by
  have hnode : (nodeOf n.nodes x).isSome = true := by
    obtain ⟨r, hr, e | e⟩ := hx
    · rw [← e]; exact (road_nodes h hr).1
    · rw [← e]; exact (road_nodes h hr).2
  unfold atN
  rw [if_pos hnode]
  cases hf : n.roads.find? (fun r => r.src == x || r.dst == x) with
  | none =>
    obtain ⟨r, hr, e⟩ := hx
    have := List.find?_eq_none.1 hf r hr
    exfalso
    apply this
    rcases e with e | e <;> simp [e]
  | some r =>
    have h1 := List.find?_some hf
    have hm := List.mem_of_find?_eq_some hf
    have hl := len_le h hm
    have hro := roadOf_mem h.ok.roads hm
    have hon : onR r x := by
      simp only [Bool.or_eq_true, beq_iff_eq] at h1
      exact h1
    have hof := offR_in h hm x
    have hchk : chkP n ⟨r.id, offR r x⟩ = 0 := by
      unfold chkP
      simp only
      rw [hro]
      simp only
      rw [if_neg (fun hh => by have := num_lt.1 hh; grind), if_neg (fun hh => by
        unfold offR at hh
        split at hh <;> grind)]
    refine ⟨rfl, ⟨hchk, hof.1⟩, ?_⟩
    unfold nodeAtN
    simp only
    rw [if_pos hchk, hro]
    simp only
    rcases hon with e | e
    · subst e; rw [if_pos rfl]
    · subst e
      have hne : ¬ offR r r.dst = offR r r.src := by
        rw [offR_src, offR_dst h hm]
        grind
      rw [if_neg hne, if_pos rfl]
theorem same_iff {n : Net} (h : GNet n) {p q : Plc} (hp : PosOK n p) (hq : PosOK n q) : sameN n p q = true ↔ (∃ x, nodeAtN n p = some x ∧ nodeAtN n q = some x) ∨ (nodeAtN n p = none ∧ nodeAtN n q = none ∧ p = q) := by
  have nrm : ∀ {p : Plc}, PosOK n p → (normN n p).2 = 0 ∧ (∀ x, nodeAtN n p = some x → (normN n p).1 = (atN n x).1) ∧ (nodeAtN n p = none → (normN n p).1 = p) := fun {p} hp => by
    rcases view h hp with ⟨x, hx, hr, _⟩ | ⟨hx, _⟩
    · have e : normN n p = atN n x := by unfold normN; rw [if_pos hp.chk, hx]
      rw [e]
      exact ⟨(at_pos h hr).1, fun y hy => by rw [hx] at hy; injection hy with hy; rw [hy], fun hy => by rw [hx] at hy; cases hy⟩
    · have e : normN n p = (p, 0) := by unfold normN; rw [if_pos hp.chk, hx]
      rw [e]
      exact ⟨rfl, (fun y hy => by rw [hx] at hy; cases hy), fun _ => rfl⟩
  obtain ⟨p1, p2, p3⟩ := nrm hp
  obtain ⟨q1, q2, q3⟩ := nrm hq
  have hs : sameN n p q = true ↔ (normN n p).1 = (normN n q).1 := by
    unfold sameN
    rw [p1, q1]
    simp only [beq_self_eq_true, Bool.true_and, Bool.and_eq_true, decide_eq_true_eq]
    constructor
    · rintro ⟨e1, e2⟩
      generalize (normN n p).1 = a at *
      generalize (normN n q).1 = b at *
      cases a; cases b
      simp only at e1 e2
      rw [e1, e2]
    · intro e; rw [e]; exact ⟨rfl, rfl⟩
  rw [hs]
  rcases view h hp with ⟨x, hx, hrx, _⟩ | ⟨hx, _⟩ <;> rcases view h hq with ⟨y, hy, hry, _⟩ | ⟨hy, _⟩
  · rw [p2 x hx, q2 y hy, hx, hy]
    constructor
    · intro e
      have a1 := (at_pos h hrx).2.2
      rw [e, (at_pos h hry).2.2] at a1
      injection a1 with a1
      exact .inl ⟨x, rfl, by rw [a1]⟩
    · rintro (⟨z, e1, e2⟩ | ⟨e1, _⟩)
      · injection e1 with e1
        injection e2 with e2
        rw [e1, e2]
      · cases e1
  · rw [p2 x hx, q3 hy, hx, hy]
    constructor
    · intro e
      have a1 := (at_pos h hrx).2.2
      rw [e, hy] at a1
      cases a1
    · rintro (⟨z, _, e2⟩ | ⟨e1, _⟩)
      · cases e2
      · cases e1
  · rw [p3 hx, q2 y hy, hx, hy]
    constructor
    · intro e
      have a1 := (at_pos h hry).2.2
      rw [← e, hx] at a1
      cases a1
    · rintro (⟨z, e1, _⟩ | ⟨_, e2, _⟩)
      · cases e1
      · cases e2
  · rw [p3 hx, q3 hy, hx, hy]
    constructor
    · intro e; exact .inr ⟨rfl, rfl, e⟩
    · rintro (⟨z, e1, _⟩ | ⟨_, _, e⟩)
      · cases e1
      · exact e
/-! Distances of nodes. -/
theorem rt_least {n : Net} (h : GNet n) {x y l : Int} (hx : (nodeOf n.nodes x).isSome = true) (hy : (nodeOf n.nodes y).isSome = true) (hd : Least (finA n.rev) y x l) : ∃ R, rtN n x y = some (R, l) := by
  obtain ⟨R, hR⟩ := (grd_n h.ok y).way _ x l rfl hd
  exact ⟨R, (rtN_of n x y R l).2 ⟨hx, hy, finA n, finA n.rev, finA_of n, finA_of n.rev, hd, hR⟩⟩
theorem revB_pos {n : Net} (h : GNet n) : ∀ u, ∀ g ∈ finA n.rev u, 0 ≤ g.len := fun u g hg => by
  have e := hp2_of (srtR_rev h.ok.roads) (finA_of n.rev u) hg
  have e2 : hp2 n g.dst u = some (g.road, g.len) := by unfold hp2 at e ⊢; rw [hopN_rev] at e; exact e
  obtain ⟨k, hk, _, _, e3⟩ := hp2_back h.ok.roads (finA_of n g.dst) e2
  have := (h.ok.hop (finA_of n) _ k hk).1
  omega
theorem rt_walk {n : Net} (h : GNet n) {x y d : Int} (hx : (nodeOf n.nodes x).isSome = true) (hy : (nodeOf n.nodes y).isSome = true) (hw : Walk (finA n.rev) y x d) : ∃ R l, rtN n x y = some (R, l) ∧ l ≤ d := by
  obtain ⟨e, he⟩ := least_ex (revB_pos h) _ _ rfl hw
  obtain ⟨R, hR⟩ := rt_least h hx hy he
  exact ⟨R, e, hR, he.2 _ hw⟩
theorem dist_self {n : Net} (h : GNet n) {x : Int} (hx : (nodeOf n.nodes x).isSome = true) : ∃ R, rtN n x x = some (R, 0) := rt_least h hx hx ⟨.nil, fun d' hd => walk_nonneg (revB_pos h) hd⟩
theorem dist_tri {n : Net} (h : GNet n) {x y z l1 l2 : Int} {R1 R2 : List Hp} (h1 : rtN n x y = some (R1, l1)) (h2 : rtN n y z = some (R2, l2)) : ∃ R l, rtN n x z = some (R, l) ∧ l ≤ l1 + l2 := by
  have d1 := (route_at ((rtN_of n _ _ _ _).1 h1)).1
  have d2 := (route_at ((rtN_of n _ _ _ _).1 h2)).1
  obtain ⟨R, l, e1, e2⟩ := rt_walk h (rt_node h1).1 (rt_node h2).2 (walk_append d2.1 d1.1)
  exact ⟨R, l, e1, by omega⟩
theorem dist_hop {n : Net} (h : GNet n) {r : Rd} (hr : r ∈ n.roads) {x y : Int} (hl : leadsB x y r = true) : ∃ R l, rtN n x y = some (R, l) ∧ l ≤ r.len := by
  have hxy : (nodeOf n.nodes x).isSome = true ∧ (nodeOf n.nodes y).isSome = true := by
    obtain ⟨a, b⟩ := road_nodes h hr
    simp only [leadsB, Bool.or_eq_true, Bool.and_eq_true, beq_iff_eq] at hl
    rcases hl with ⟨e1, e2⟩ | ⟨⟨_, e1⟩, e2⟩
    · rw [← e1, ← e2]; exact ⟨a, b⟩
    · rw [← e1, ← e2]; exact ⟨b, a⟩
  have hm := (hopsG_iff n.rev.roads y x r.id r.len).2 ⟨r.rev, List.mem_map.2 ⟨r, hr, rfl⟩, by rw [leads_rev]; exact hl, rfl, rfl⟩
  obtain ⟨_, f2, f3⟩ := fin_spec (finA_of n.rev y)
  obtain ⟨g, hg, hgd⟩ := f3 _ hm
  have hgl := (f2 g hg).2 _ hm hgd.symm
  have hw := Walk.snoc (A := finA n.rev) (s := y) .nil hg
  rw [hgd, Int.zero_add] at hw
  obtain ⟨R, l, e1, e2⟩ := rt_walk h hxy.1 hxy.2 hw
  refine ⟨R, l, e1, ?_⟩
  unfold hpLt at hgl
  simp only [hgd] at hgl
  have := not_or.1 hgl
  have := not_or.1 (not_and.1 this.2 trivial)
  omega
/-! Moves along one road. -/
def Mv (n : Net) (p q : Plc) (d : Rat) : Prop := ∃ r ∈ n.roads, ∃ a b, offsN n r p = some a ∧ offsN n r q = some b ∧ (r.one = true → a ≤ b) ∧ d = absR (b - a)
theorem absR_nonneg (a : Rat) : 0 ≤ absR a := by rw [absR_eq]; split <;> grind
theorem Mv.nonneg {n : Net} {p q : Plc} {d : Rat} (h : Mv n p q d) : 0 ≤ d := by
  obtain ⟨r, _, a, b, _, _, _, rfl⟩ := h
  exact absR_nonneg _
/-- The search along single roads finds the least move. -/
theorem ahead_iff {n : Net} {p q : Plc} (hp : chkP n p = 0) (hq : chkP n q = 0) (hs : sameN n p q = false) : (∀ l, aheadN n p q = some l → Mv n p q l ∧ ∀ d, Mv n p q d → l ≤ d) ∧ (aheadN n p q = none → ∀ d, ¬Mv n p q d) := by
  have e : aheadN n p q = n.roads.foldl (aheadStep n p q) none := by
    unfold aheadN
    rw [if_neg (by rw [hp, hq]; simp), if_neg (by rw [hs]; simp)]
  rw [e]
  let M := fun (rs : List Rd) (d : Rat) => ∃ r ∈ rs, ∃ a b, offsN n r p = some a ∧ offsN n r q = some b ∧ (r.one = true → a ≤ b) ∧ d = absR (b - a)
  have key : ∀ (rs : List Rd) (acc : Option Rat) (Z : Rat → Prop), (∀ l, acc = some l → Z l ∧ ∀ d, Z d → l ≤ d) → (acc = none → ∀ d, ¬Z d) →
      (∀ l, rs.foldl (aheadStep n p q) acc = some l → (Z l ∨ M rs l) ∧ ∀ d, (Z d ∨ M rs d) → l ≤ d) ∧ (rs.foldl (aheadStep n p q) acc = none → ∀ d, ¬(Z d ∨ M rs d)) := by
    intro rs
    induction rs with
    | nil =>
      intro acc Z h1 h2
      refine ⟨fun l hl => ⟨.inl (h1 l hl).1, fun d hd => ?_⟩, fun hn d hd => ?_⟩
      · rcases hd with hd | ⟨r, hr, _⟩
        · exact (h1 l hl).2 d hd
        · cases hr
      · rcases hd with hd | ⟨r, hr, _⟩
        · exact h2 hn d hd
        · cases hr
    | cons r rs ih =>
      intro acc Z h1 h2
      rw [List.foldl_cons]
      have Mr : ∀ d, (Z d ∨ M (r :: rs) d) ↔ ((Z d ∨ ∃ a b, offsN n r p = some a ∧ offsN n r q = some b ∧ (r.one = true → a ≤ b) ∧ d = absR (b - a)) ∨ M rs d) := fun d => by
        constructor
        · rintro (hz | ⟨s, hs, hh⟩)
          · exact .inl (.inl hz)
          · rcases List.mem_cons.1 hs with rfl | hs
            · exact .inl (.inr hh)
            · exact .inr ⟨s, hs, hh⟩
        · rintro ((hz | hh) | ⟨s, hs, hh⟩)
          · exact .inl hz
          · exact .inr ⟨r, List.mem_cons_self, hh⟩
          · exact .inr ⟨s, List.mem_cons_of_mem _ hs, hh⟩
      have := ih (aheadStep n p q acc r) (fun d => Z d ∨ ∃ a b, offsN n r p = some a ∧ offsN n r q = some b ∧ (r.one = true → a ≤ b) ∧ d = absR (b - a)) ?_ ?_
      · obtain ⟨i1, i2⟩ := this
        refine ⟨fun l hl => ?_, fun hn d hd => i2 hn d ((Mr d).1 hd)⟩
        obtain ⟨j1, j2⟩ := i1 l hl
        exact ⟨(Mr l).2 j1, fun d hd => j2 d ((Mr d).1 hd)⟩
      · intro l hl
        unfold aheadStep at hl
        cases ha : offsN n r p with
        | none =>
          rw [ha] at hl
          obtain ⟨z1, z2⟩ := h1 l hl
          exact ⟨.inl z1, fun d hd => by rcases hd with hd | ⟨a, b, q1, _⟩; exact z2 d hd; cases q1⟩
        | some a =>
          cases hb : offsN n r q with
          | none =>
            rw [ha, hb] at hl
            obtain ⟨z1, z2⟩ := h1 l hl
            exact ⟨.inl z1, fun d hd => by rcases hd with hd | ⟨a, b, _, q2, _⟩; exact z2 d hd; cases q2⟩
          | some b =>
            rw [ha, hb] at hl
            simp only at hl
            unfold aheadAdd at hl
            by_cases hc : r.one = true ∧ (b - a).num < 0
            · rw [if_pos hc] at hl
              obtain ⟨z1, z2⟩ := h1 l hl
              refine ⟨.inl z1, fun d hd => ?_⟩
              rcases hd with hd | ⟨a', b', q1, q2, q3, _⟩
              · exact z2 d hd
              · injection q1 with q1; injection q2 with q2
                subst q1; subst q2
                have := q3 hc.1
                have := num_lt.1 hc.2
                grind
            · rw [if_neg hc] at hl
              have hdir : r.one = true → a ≤ b := fun ho => by
                have : ¬(b - a).num < 0 := fun hh => hc ⟨ho, hh⟩
                rw [num_lt] at this
                grind
              cases acc with
              | none =>
                simp only at hl
                injection hl with hl
                subst hl
                refine ⟨.inr ⟨a, b, rfl, rfl, hdir, rfl⟩, fun d hd => ?_⟩
                rcases hd with hd | ⟨a', b', q1, q2, _, q4⟩
                · exact absurd hd (h2 rfl d)
                · injection q1 with q1; injection q2 with q2
                  subst q1; subst q2
                  rw [q4]; exact Rat.le_refl
              | some l0 =>
                simp only at hl
                obtain ⟨z1, z2⟩ := h1 l0 rfl
                have hcm : cmpR (absR (b - a)) l0 < 0 ↔ absR (b - a) < l0 := by unfold cmpR; split <;> (try split) <;> grind
                by_cases hlt : cmpR (absR (b - a)) l0 < 0
                · rw [if_pos hlt] at hl
                  injection hl with hl
                  subst hl
                  have := hcm.1 hlt
                  refine ⟨.inr ⟨a, b, rfl, rfl, hdir, rfl⟩, fun d hd => ?_⟩
                  rcases hd with hd | ⟨a', b', q1, q2, _, q4⟩
                  · have := z2 d hd; grind
                  · injection q1 with q1; injection q2 with q2
                    subst q1; subst q2
                    rw [q4]; exact Rat.le_refl
                · rw [if_neg hlt] at hl
                  injection hl with hl
                  subst hl
                  refine ⟨.inl z1, fun d hd => ?_⟩
                  rcases hd with hd | ⟨a', b', q1, q2, _, q4⟩
                  · exact z2 d hd
                  · injection q1 with q1; injection q2 with q2
                    subst q1; subst q2
                    rw [q4]
                    exact Rat.not_lt.1 (fun hh => hlt (hcm.2 hh))
      · intro hn d hd
        unfold aheadStep at hn
        cases ha : offsN n r p with
        | none =>
          rw [ha] at hn
          rcases hd with hd | ⟨a, b, q1, _⟩
          · exact h2 hn d hd
          · rw [ha] at q1; cases q1
        | some a =>
          cases hb : offsN n r q with
          | none =>
            rw [ha, hb] at hn
            rcases hd with hd | ⟨a, b, _, q2, _⟩
            · exact h2 hn d hd
            · rw [hb] at q2; cases q2
          | some b =>
            rw [ha, hb] at hn
            simp only at hn
            unfold aheadAdd at hn
            by_cases hc : r.one = true ∧ (b - a).num < 0
            · rw [if_pos hc] at hn
              rcases hd with hd | ⟨a', b', q1, q2, q3, _⟩
              · exact h2 hn d hd
              · rw [ha] at q1; rw [hb] at q2
                injection q1 with q1; injection q2 with q2
                subst q1; subst q2
                have := q3 hc.1
                have := num_lt.1 hc.2
                grind
            · rw [if_neg hc] at hn
              exfalso
              cases acc with
              | none => simp only at hn; cases hn
              | some l0 => simp only at hn; split at hn <;> cases hn
  have := key n.roads none (fun _ => False) (fun l hl => by cases hl) (fun _ d hd => hd)
  obtain ⟨i1, i2⟩ := this
  refine ⟨fun l hl => ?_, fun hn d hd => i2 hn d (.inr hd)⟩
  obtain ⟨j1, j2⟩ := i1 l hl
  refine ⟨?_, fun d hd => j2 d (.inr hd)⟩
  rcases j1 with j1 | j1
  · exact j1.elim
  · exact j1
end Go.Proofs.YtopfgkbpakfccaaGreatDoor
