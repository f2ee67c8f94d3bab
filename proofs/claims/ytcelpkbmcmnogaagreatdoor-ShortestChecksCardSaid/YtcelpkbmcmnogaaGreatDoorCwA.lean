/-
 The least way of a grid, leg by leg, plain; the position on a way behind some length.
-/
import Derived.Test.YtcelpkbmcmnogaaGreatDoorGeoM
set_option linter.unusedSimpArgs false
set_option linter.unusedVariables false
namespace Go.Proofs.YtcelpkbmcmnogaaGreatDoor
open Go Go.Vi
theorem num_gt {a : Rat} : 0 < a.num ↔ 0 < a := by
 have h : 0 ≤ (-a).num ↔ 0 ≤ -a := Rat.num_nonneg
 have e : (-a).num = -a.num := rfl
 rw [e] at h
 constructor
 ·intro h1
  have : ¬ 0 ≤ -a := fun h2 => by have := h.2 h2; omega
  grind
 ·intro h1
  have : ¬ 0 ≤ -a.num := fun h2 => by have := h.1 h2; grind
  omega
theorem same_refl {n : Net} (h : GNet n) {p : Plc} (hp : PosOK n p) : sameN n p p = true := by
 rw [same_iff h hp hp]
 cases hx : nodeAtN n p with
 | some x => exact .inl ⟨x, rfl, rfl⟩
 | none => exact .inr ⟨rfl, rfl, rfl⟩
theorem same_symm {n : Net} (h : GNet n) {p q : Plc} (hp : PosOK n p) (hq : PosOK n q) (hs : sameN n p q = true) : sameN n q p = true := by
 rw [same_iff h hq hp]
 rcases (same_iff h hp hq).1 hs with ⟨x, h1, h2⟩ | ⟨h1, h2, h3⟩
 ·exact .inl ⟨x, h2, h1⟩
 ·exact .inr ⟨h2, h1, h3.symm⟩
theorem same_trans {n : Net} (h : GNet n) {p q t : Plc} (hp : PosOK n p) (hq : PosOK n q) (ht : PosOK n t) (h1 : sameN n p q = true) (h2 : sameN n q t = true) : sameN n p t = true := by
 rw [same_iff h hp ht]
 rcases (same_iff h hp hq).1 h1 with ⟨x, a1, a2⟩ | ⟨a1, a2, a3⟩ <;> rcases (same_iff h hq ht).1 h2 with ⟨y, b1, b2⟩ | ⟨b1, b2, b3⟩
 ·rw [a2] at b1; injection b1 with b1; subst b1
  exact .inl ⟨x, a1, b2⟩
 ·rw [a2] at b1; cases b1
 ·rw [a2] at b1; cases b1
 ·exact .inr ⟨a1, b2, a3.trans b3⟩
/-- A position on a road. -/
theorem pos_on {n : Net} (h : GNet n) {r : Rd} (hr : r ∈ n.roads) {a : Rat} (g : G64 a) (h1 : 0 ≤ a) (h2 : a ≤ (r.len : Rat)) : PosOK n ⟨r.id, a⟩ := by
 refine ⟨?_, g⟩
 unfold chkP
 rw [roadOf_mem h.ok.roads hr]
 simp only
 rw [if_neg (fun h' => by have := num_lt.1 h'; grind), if_neg (fun h' => by grind)]
theorem pos_end {n : Net} (h : GNet n) {r : Rd} (hr : r ∈ n.roads) {x : Int} (hon : onR r x) : PosOK n ⟨r.id, offR r x⟩ ∧ nodeAtN n ⟨r.id, offR r x⟩ = some x := by
 have hl := len_le h hr
 obtain ⟨g, h1, _⟩ := offR_in h hr x
 have h2 : offR r x ≤ (r.len : Rat) := by unfold offR; split <;> grind
 have hp := pos_on h hr g h1 h2
 refine ⟨hp, ?_⟩
 unfold nodeAtN
 rw [if_pos hp.chk, roadOf_mem h.ok.roads hr]
 simp only
 rcases hon with e | e
 ·rw [← e, if_pos rfl]
 ·rw [← e, offR_src, offR_dst h hr, if_neg (by grind), if_pos rfl]
theorem offs_pos {n : Net} (h : GNet n) {p : Plc} (hp : PosOK n p) {r : Rd} (hr : r ∈ n.roads) {a : Rat} (ha : offsN n r p = some a) : PosOK n ⟨r.id, a⟩ ∧ sameN n p ⟨r.id, a⟩ = true := by
 rcases on_road h hp hr ha with ⟨x, hx, hon, rfl⟩ | ⟨hx, hro, rfl, h1, h2⟩
 ·obtain ⟨q1, q2⟩ := pos_end h hr hon
  exact ⟨q1, (same_iff h hp q1).2 (.inl ⟨x, hx, q2⟩)⟩
 ·obtain ⟨r', hr', hm, hid, _⟩ := hp.rd
  rw [hro] at hr'
  injection hr' with hr'
  subst hr'
  have e : (⟨r.id, p.off⟩ : Plc) = p := by rw [hid]
  rw [e]
  exact ⟨hp, same_refl h hp⟩
/-- A leg from a position. -/
structure MvL (n : Net) (s : Plc) (x : Lg) : Prop where
 rd : ∃ r ∈ n.roads, r.id = x.road ∧ (r.one = true → x.a ≤ x.b)
 fa : PosOK n ⟨x.road, x.a⟩
 fb : PosOK n ⟨x.road, x.b⟩
 same : sameN n s ⟨x.road, x.a⟩ = true
inductive Cw (n : Net) : Plc → List Lg → Plc → Rat → Prop
 | nil {p q : Plc} : PosOK n p → PosOK n q → sameN n p q = true → Cw n p [] q 0
 | cons {p q : Plc} {x : Lg} {L : List Lg} {s : Rat} : PosOK n p → MvL n p x → x.a ≠ x.b → Cw n ⟨x.road, x.b⟩ L q s → Cw n p (x :: L) q (absR (x.b - x.a) + s)
theorem Cw.pos {n : Net} {p q : Plc} {L : List Lg} {s : Rat} (h : Cw n p L q s) : PosOK n p ∧ PosOK n q ∧ 0 ≤ s := by
 induction h with
 | nil h1 h2 _ => exact ⟨h1, h2, Rat.le_refl⟩
 | @cons p q x L s h1 _ _ _ ih => exact ⟨h1, ih.2.1, by have := absR_nonneg (x.b - x.a); have := ih.2.2; grind⟩
theorem Cw.same {n : Net} (hn : GNet n) {p q t : Plc} {L : List Lg} {s : Rat} (h : Cw n p L q s) (ht : PosOK n t) (hs : sameN n q t = true) : Cw n p L t s := by
 induction h with
 | nil h1 h2 h3 => exact .nil h1 ht (same_trans hn h1 h2 ht h3 hs)
 | cons h1 h2 h3 _ ih => exact .cons h1 h2 h3 (ih hs)
theorem Cw.snoc {n : Net} (hn : GNet n) {p q : Plc} {L : List Lg} {s : Rat} (h : Cw n p L q s) {x : Lg} (hx : MvL n q x) (hne : x.a ≠ x.b) : Cw n p (L ++ [x]) ⟨x.road, x.b⟩ (s + absR (x.b - x.a)) := by
 induction h with
 | nil h1 h2 h3 =>
  have := Cw.cons h1 ⟨hx.rd, hx.fa, hx.fb, same_trans hn h1 h2 hx.fa h3 hx.same⟩ hne (.nil hx.fb hx.fb (same_refl hn hx.fb))
  rw [Rat.add_zero] at this
  rw [Rat.zero_add]
  exact this
 | cons h1 h2 h3 _ ih =>
  have := Cw.cons h1 h2 h3 (ih hx)
  rw [Rat.add_assoc]
  exact this
theorem Cw.addL {n : Net} (hn : GNet n) {p q : Plc} {L : List Lg} {s : Rat} (h : Cw n p L q s) {x : Lg} (hx : MvL n q x) : Cw n p (addL L x) ⟨x.road, x.b⟩ (s + absR (x.b - x.a)) := by
 unfold Go.Proofs.YtcelpkbmcmnogaaGreatDoor.addL
 by_cases e : x.a = x.b
 ·rw [if_pos e]
  have e0 : absR (x.b - x.a) = 0 := by rw [e, absR_eq]; split <;> grind
  rw [e0, Rat.add_zero]
  have hs := hx.same
  rw [e] at hs
  exact h.same hn hx.fb hs
 ·rw [if_neg e]
  exact h.snoc hn hx e
/-! The legs of a way over two nodes. -/
theorem way_hops {A : Int → List Hp} {left : Int → Int → Prop} {b a : Int} {R : List Hp} (h : Way A left b a R) : ∀ k, k < R.length → R[k]! ∈ A (a :: R.map Hp.dst)[k]! ∧ (a :: R.map Hp.dst)[k + 1]! = (R[k]!).dst := by
 induction h with
 | done => intro k hk; simp at hk
 | @step a R i hne hi hk hf hw ih =>
  intro k hk
  cases k with
  | zero => simp
  | succ k =>
   have := ih k (by simpa using hk)
   simpa using this
theorem way_sum {A : Int → List Hp} {left : Int → Int → Prop} (hu : ∀ u d d', left u d → left u d' → d = d') {b a : Int} {R : List Hp} (h0 : left b 0) (h : Way A left b a R) : ∀ d, left a d → d = (R.map Hp.len).sum := by
 induction h with
 | done => intro d hd; simpa using hu _ _ _ hd h0
 | @step a R i hne hi hk hf hw ih =>
  intro d hd
  obtain ⟨r, d', h1, h2, h3⟩ := hk
  have e1 := ih r h1
  have e2 := hu _ _ _ hd h2
  rw [List.map_cons, List.sum_cons, ← e1, e2]
  omega
/-- The nodes of a route, one by one. -/
theorem rt_hops {n : Net} {a b l : Int} {R : List Hp} (hr : rtN n a b = some (R, l)) : (∀ k, k < R.length → ∃ r ∈ n.roads, leadsB (a :: R.map Hp.dst)[k]! (a :: R.map Hp.dst)[k + 1]! r = true ∧ r.id = (R[k]!).road ∧ r.len = (R[k]!).len) := by
 intro k hk
 obtain ⟨_, hw⟩ := route_at ((rtN_of n _ _ _ _).1 hr)
 obtain ⟨h1, h2⟩ := way_hops hw k hk
 rw [h2]
 generalize (a :: R.map Hp.dst)[k]! = u at *
 exact (hopsG_iff n.roads u (R[k]!).dst (R[k]!).road (R[k]!).len).1 ((fin_spec (finA_of n u)).2.1 _ h1).1
theorem rt_sum {n : Net} (h : GNet n) {a b l : Int} {R : List Hp} (hr : rtN n a b = some (R, l)) : l = (R.map Hp.len).sum ∧ (a :: R.map Hp.dst)[R.length]! = b := by
 obtain ⟨hd, hw⟩ := route_at ((rtN_of n _ _ _ _).1 hr)
 have h0 : Least (finA n.rev) b b 0 := ⟨.nil, fun d' hd => walk_nonneg (revB_pos h) hd⟩
 refine ⟨way_sum (left := Least (finA n.rev) b) (fun u d d' h h' => h.unique h') h0 hw l hd, ?_⟩
 rcases hw.last with ⟨rfl, e⟩ | ⟨P, g, rfl, e, _⟩
 ·simpa using e
 ·simp [e]
theorem node_same {n : Net} (h : GNet n) {p q : Plc} (hp : PosOK n p) (hq : PosOK n q) {x : Int} (h1 : nodeAtN n p = some x) (h2 : nodeAtN n q = some x) : sameN n p q = true := (same_iff h hp hq).2 (.inl ⟨x, h1, h2⟩)
/-- A leg between the ends of a road. -/
theorem hop_leg {n : Net} (h : GNet n) {r : Rd} (hr : r ∈ n.roads) {x y : Int} (hl : leadsB x y r = true) : (∃ r ∈ n.roads, onR r x) ∧ (∃ r ∈ n.roads, onR r y) ∧ MvL n (atN n x).1 ⟨r.id, endN n r.id x, endN n r.id y⟩ ∧ absR (endN n r.id y - endN n r.id x) = (r.len : Rat) ∧ sameN n ⟨r.id, endN n r.id y⟩ (atN n y).1 = true := by
 have ee : ∀ z, endN n r.id z = offR r z := fun z => by unfold endN; rw [roadOf_mem h.ok.roads hr]; rfl
 rw [ee, ee]
 have hl2 := len_le h hr
 simp only [leadsB, Bool.or_eq_true, Bool.and_eq_true, beq_iff_eq, Bool.not_eq_true'] at hl
 have onx : onR r x := by
  rcases hl with ⟨e1, e2⟩ | ⟨⟨e0, e1⟩, e2⟩
  ·exact .inl e1
  ·exact .inr e1
 have ony : onR r y := by
  rcases hl with ⟨e1, e2⟩ | ⟨⟨e0, e1⟩, e2⟩
  ·exact .inr e2
  ·exact .inl e2
 obtain ⟨x1, x2⟩ := pos_end h hr onx
 obtain ⟨y1, y2⟩ := pos_end h hr ony
 obtain ⟨_, u1, u2⟩ := at_pos h ⟨r, hr, onx⟩
 obtain ⟨_, v1, v2⟩ := at_pos h ⟨r, hr, ony⟩
 refine ⟨⟨r, hr, onx⟩, ⟨r, hr, ony⟩, ⟨⟨r, hr, rfl, fun ho => ?_⟩, x1, y1, node_same h u1 x1 u2 x2⟩, ?_, node_same h y1 v1 y2 v2⟩
 ·rcases hl with ⟨e1, e2⟩ | ⟨⟨e0, e1⟩, e2⟩
  ·rw [← e1, ← e2, offR_src, offR_dst h hr]; simp only; grind
  ·rw [e0] at ho; cases ho
 ·rcases hl with ⟨e1, e2⟩ | ⟨⟨e0, e1⟩, e2⟩
  ·rw [← e1, ← e2, offR_src, offR_dst h hr, absR_eq]; split <;> grind
  ·rw [← e1, ← e2, offR_src, offR_dst h hr, absR_eq]; split <;> grind
theorem exit_leg {n : Net} (h : GNet n) {p : Plc} (hp : PosOK n p) {e : Ed} (he : e ∈ (exitsN n p).1) (c : Chc) (hc : c.ex = e) : (∃ r ∈ n.roads, onR r e.node) ∧ Cw n p (legs0 n c p) (atN n e.node).1 e.len := by
 subst hc
 unfold legs0
 have ones := exit_inc h hp he
 refine ⟨ones.1, ?_⟩
 obtain ⟨_, u1, u2⟩ := at_pos h ones.1
 rcases view h hp with ⟨x, hx, hinc, _⟩ | ⟨hx, r, hr, hro, h1, h2, ho⟩
 ·rcases (ends_mem hp _ _ _).1 he with ⟨z, hz, e⟩ | ⟨hz, _⟩
  ·rw [hx] at hz; injection hz with hz; subst hz
   rw [e] at u1 u2 ⊢
   rw [if_neg (by show ¬ 0 < (0 : Rat).num; decide)]
   exact .nil hp u1 (node_same h hp u1 hx u2)
  ·rw [hx] at hz; cases hz
 ·obtain ⟨r', hr', _, hid, _⟩ := hp.rd
  rw [hro] at hr'
  injection hr' with hr'
  subst hr'
  rcases (ends_mem hp _ _ _).1 he with ⟨z, hz, _⟩ | ⟨_, hz⟩
  ·rw [hx] at hz; cases hz
  ·rw [hro] at hz
   simp only [Option.getD_some] at hz
   have ee : ∀ z, endN n p.road z = offR r z := fun z => by unfold endN; rw [hro]; rfl
   have pp : ∀ z, (⟨p.road, z⟩ : Plc) = ⟨r.id, z⟩ := fun z => by rw [hid]
   have p0 : (⟨p.road, p.off⟩ : Plc) = p := rfl
   rcases hz with ⟨hone, e⟩ | ⟨_, e⟩
   ·rw [e] at u1 u2 ⊢
    simp only at u1 u2 ⊢
    rw [if_pos (num_gt.2 h1), ee, offR_src]
    obtain ⟨y1, y2⟩ := pos_end h hr (x := r.src) (.inl rfl)
    rw [offR_src, ← pp] at y1 y2
    have hl : MvL n p ⟨p.road, p.off, 0⟩ := ⟨⟨r, hr, hid, fun ho1 => by rw [ho1] at hone; cases hone⟩, hp, y1, same_refl h hp⟩
    have := (Cw.nil hp hp (same_refl h hp)).addL h hl
    have e3 : (0 : Rat) + absR (0 - p.off) = p.off := by rw [absR_eq]; split <;> grind
    simp only at this
    rw [e3] at this
    exact this.same h u1 (node_same h y1 u1 y2 u2)
   ·rw [e] at u1 u2 ⊢
    simp only at u1 u2 ⊢
    have h2' : 0 < (r.len : Rat) - p.off := by grind
    rw [if_pos (num_gt.2 h2'), ee, offR_dst h hr]
    obtain ⟨y1, y2⟩ := pos_end h hr (x := r.dst) (.inr rfl)
    rw [offR_dst h hr, ← pp] at y1 y2
    have hl : MvL n p ⟨p.road, p.off, (r.len : Rat)⟩ := ⟨⟨r, hr, hid, fun _ => by simp only; grind⟩, hp, y1, same_refl h hp⟩
    have := (Cw.nil hp hp (same_refl h hp)).addL h hl
    have e3 : (0 : Rat) + absR ((r.len : Rat) - p.off) = (r.len : Rat) - p.off := by rw [absR_eq]; split <;> grind
    simp only at this
    rw [e3] at this
    exact this.same h u1 (node_same h y1 u1 y2 u2)
theorem mid_legs {n : Net} (h : GNet n) {p : Plc} {c : Chc} {b : Int} (hr : rtN n c.ex.node b = some (c.R, c.rl)) (h0 : Cw n p (legs0 n c p) (atN n c.ex.node).1 c.ex.len) : Cw n p (legs1 n c p) (atN n b).1 (c.ex.len + (c.rl : Rat)) := by
 obtain ⟨hs, he⟩ := rt_sum h hr
 have hh := rt_hops hr
 have key : ∀ k, k ≤ c.R.length → Cw n p ((List.range k).foldl (midL n c) (legs0 n c p)) (atN n (nodesC c)[k]!).1 (c.ex.len + ((((c.R.take k).map Hp.len).sum : Int) : Rat)) := by
  intro k
  induction k with
  | zero =>
   intro _
   have e : (nodesC c)[0]! = c.ex.node := rfl
   rw [e]
   have e2 : c.ex.len + ((((c.R.take 0).map Hp.len).sum : Int) : Rat) = c.ex.len := by
    have : ((0 : Int) : Rat) = 0 := rfl
    simp
    grind
   rw [e2]
   exact h0
  | succ k ih =>
   intro hk
   have hi := ih (by omega)
   obtain ⟨r, hr, hl, e1, e2⟩ := hh k (by omega)
   rw [List.range_succ, List.foldl_append, List.foldl_cons, List.foldl_nil]
   unfold midL
   rw [← e1]
   obtain ⟨_, hy, m1, m2, m3⟩ := hop_leg h hr hl
   have := (hi.addL h m1).same h (at_pos h hy).2.1 m3
   rw [m2] at this
   have e3 : c.ex.len + ((((c.R.take k).map Hp.len).sum : Int) : Rat) + (r.len : Rat) = c.ex.len + ((((c.R.take (k + 1)).map Hp.len).sum : Int) : Rat) := by
    rw [List.take_add_one, List.map_append, List.sum_append, Rat.intCast_add]
    have : c.R[k]? = some (c.R[k]!) := by rw [getElem!_pos c.R k (by omega), List.getElem?_eq_getElem]
    rw [this, e2]
    simp
    grind
   rw [e3] at this
   exact this
 have := key c.R.length (Nat.le_refl _)
 rw [List.take_length, ← hs] at this
 have e4 : (nodesC c)[c.R.length]! = b := he
 rw [e4] at this
 exact this
theorem entry_leg {n : Net} (h : GNet n) {p q : Plc} (hq : PosOK n q) {e : Ed} (he : e ∈ (entriesN n q).1) (c : Chc) (hc : c.en = e) {s : Rat} (h1 : Cw n p (legs1 n c p) (atN n e.node).1 s) : Cw n p (legsN n c p q) q (s + e.len) := by
 subst hc
 unfold legsN
 have ones := entry_inc h hq he
 obtain ⟨_, u1, u2⟩ := at_pos h ones.1
 rcases view h hq with ⟨x, hx, hinc, _⟩ | ⟨hx, r, hr, hro, g1, g2, ho⟩
 ·rcases (ends_mem hq _ _ _).1 he with ⟨z, hz, e⟩ | ⟨hz, _⟩
  ·rw [hx] at hz; injection hz with hz; subst hz
   rw [e] at u1 u2 h1 ⊢
   rw [if_neg (by show ¬ 0 < (0 : Rat).num; decide)]
   simp only at h1 u1 u2 ⊢
   rw [Rat.add_zero]
   exact h1.same h hq (node_same h u1 hq u2 hx)
  ·rw [hx] at hz; cases hz
 ·obtain ⟨r', hr', _, hid, _⟩ := hq.rd
  rw [hro] at hr'
  injection hr' with hr'
  subst hr'
  rcases (ends_mem hq _ _ _).1 he with ⟨z, hz, _⟩ | ⟨_, hz⟩
  ·rw [hx] at hz; cases hz
  ·rw [hro] at hz
   simp only [Option.getD_some] at hz
   have ee : ∀ z, endN n q.road z = offR r z := fun z => by unfold endN; rw [hro]; rfl
   have pp : ∀ z, (⟨q.road, z⟩ : Plc) = ⟨r.id, z⟩ := fun z => by rw [hid]
   rcases hz with ⟨_, e⟩ | ⟨hone, e⟩
   ·rw [e] at u1 u2 h1 ⊢
    simp only at u1 u2 h1 ⊢
    rw [if_pos (num_gt.2 g1), ee, offR_src]
    obtain ⟨y1, y2⟩ := pos_end h hr (x := r.src) (.inl rfl)
    rw [offR_src, ← pp] at y1 y2
    have hl : MvL n (atN n r.src).1 ⟨q.road, 0, q.off⟩ := ⟨⟨r, hr, hid, fun ho1 => by simp only; grind⟩, y1, hq, node_same h u1 y1 u2 y2⟩
    have := h1.addL h hl
    have e3 : absR (q.off - 0) = q.off := by rw [absR_eq]; split <;> grind
    simp only at this
    rw [e3] at this
    exact this
   ·rw [e] at u1 u2 h1 ⊢
    simp only at u1 u2 h1 ⊢
    have h2' : 0 < (r.len : Rat) - q.off := by grind
    rw [if_pos (num_gt.2 h2'), ee, offR_dst h hr]
    obtain ⟨y1, y2⟩ := pos_end h hr (x := r.dst) (.inr rfl)
    rw [offR_dst h hr, ← pp] at y1 y2
    have hl : MvL n (atN n r.dst).1 ⟨q.road, (r.len : Rat), q.off⟩ := ⟨⟨r, hr, hid, fun ho1 => by rw [ho1] at hone; cases hone⟩, y1, hq, node_same h u1 y1 u2 y2⟩
    have := h1.addL h hl
    have e3 : absR (q.off - (r.len : Rat)) = (r.len : Rat) - q.off := by rw [absR_eq]; split <;> grind
    simp only at this
    rw [e3] at this
    exact this
theorem along_leg {n : Net} (h : GNet n) {p q : Plc} (hp : PosOK n p) (hq : PosOK n q) (hs : sameN n p q = false) {l : Rat} (hm : Mv n p q l) : Cw n p (alongN n p q l).toList q l := by
 obtain ⟨r, hr, a, b, ha, hb, ho, rfl⟩ := hm
 have hne : ∀ {r : Rd}, r ∈ n.roads → ∀ {a b : Rat}, offsN n r p = some a → offsN n r q = some b → a ≠ b := fun {r} hr {a b} ha hb e => by
  subst e
  obtain ⟨a1, a2⟩ := offs_pos h hp hr ha
  obtain ⟨b1, b2⟩ := offs_pos h hq hr hb
  rw [same_trans h hp a1 hq a2 (same_symm h hq a1 b2)] at hs
  cases hs
 have hab := hne hr ha hb
 have hx : (alongN n p q (absR (b - a))).isSome = true := by
  unfold alongN
  rw [List.findSome?_isSome_iff]
  refine ⟨r, hr, ?_⟩
  unfold alongP
  rw [ha, hb]
  simp only
  have hc : r.one = false ∨ 0 < (b - a).num := ?_
  ·rw [if_pos ⟨hc, trivial⟩]
   rfl
  ·cases hone : r.one with
   | false => exact .inl rfl
   | true =>
    right
    have := ho hone
    have h0 : 0 < b - a := by grind
    exact num_gt.2 h0
 obtain ⟨x, hx⟩ := Option.isSome_iff_exists.1 hx
 rw [hx]
 unfold alongN at hx
 obtain ⟨r2, hr2, hx⟩ := List.exists_of_findSome?_eq_some hx
 unfold alongP at hx
 split at hx
 ·rename_i a2 b2 ha2 hb2
  split at hx
  ·rename_i hc
   injection hx with hx
   obtain ⟨a3, a4⟩ := offs_pos h hp hr2 ha2
   obtain ⟨b3, b4⟩ := offs_pos h hq hr2 hb2
   have hl : MvL n p ⟨r2.id, a2, b2⟩ := ⟨⟨r2, hr2, rfl, fun ho2 => by
    rcases hc.1 with h1 | h1
    ·rw [h1] at ho2; cases ho2
    ·have := num_gt.1 h1
     simp only
     grind⟩, a3, b3, a4⟩
   have := (Cw.cons hp hl (hne hr2 ha2 hb2) (.nil b3 hq (same_symm h hq b3 b4)))
   simp only at this
   rw [Rat.add_zero, hc.2, hx] at this
   exact this
  ·cases hx
 ·cases hx
/-- The least way is a way. -/
theorem bw_way {n : Net} (h : GNet n) {p q : Plc} (hp : PosOK n p) (hq : PosOK n q) (hd : (betweenN n (rtN n) p q).2 = 0) : ∃ L l, betweenN n (rtN n) p q = (⟨p, q, L, l⟩, 0) ∧ Cw n p L q l := by
 cases hs : sameN n p q with
 | true => exact ⟨_, _, dst_same hp hq hs, .nil hp hq hs⟩
 | false =>
  obtain ⟨a1, a2⟩ := ahead_iff hp.chk hq.chk hs
  obtain ⟨c1, c2⟩ := leastC_spec (choicesN (rtN n) (exitsN n p).1 (entriesN n q).1)
  have cho : ∀ c, leastC (choicesN (rtN n) (exitsN n p).1 (entriesN n q).1) = some c → Cw n p (legsN n c p q) q c.len := fun c hc => by
   obtain ⟨e, he, f, hf, R, l, hr, rfl⟩ := ch_mem.1 (c1 c hc).1
   have w0 := (exit_leg h hp he ⟨e.len + f.len + (l : Rat), R, l, e, f⟩ rfl).2
   have w1 := mid_legs h (c := ⟨e.len + f.len + (l : Rat), R, l, e, f⟩) (b := f.node) hr w0
   have w2 := entry_leg h hq hf ⟨e.len + f.len + (l : Rat), R, l, e, f⟩ rfl w1
   have e3 : e.len + (l : Rat) + f.len = e.len + f.len + (l : Rat) := by grind
   simp only at w2
   rw [e3] at w2
   exact w2
  have ahd : ∀ l, aheadN n p q = some l → Cw n p (alongN n p q l).toList q l := fun l hl => along_leg h hp hq hs (a1 l hl).1
  have e : betweenN n (rtN n) p q = match aheadN n p q, leastC (choicesN (rtN n) (exitsN n p).1 (entriesN n q).1) with
   | some l, none => (⟨p, q, (alongN n p q l).toList, l⟩, 0)
   | some l, some c => if cmpR l c.len ≤ 0 then (⟨p, q, (alongN n p q l).toList, l⟩, 0) else (⟨p, q, legsN n c p q, c.len⟩, 0)
   | none, none => (wyz, 31)
   | none, some c => (⟨p, q, legsN n c p q, c.len⟩, 0) := by
   unfold betweenN
   rw [if_neg (by rw [hp.chk, hq.chk]; decide), if_neg (by rw [hs]; simp)]
   cases aheadN n p q <;> cases leastC (choicesN (rtN n) (exitsN n p).1 (entriesN n q).1) <;> rfl
  rw [e] at hd ⊢
  cases ha : aheadN n p q with
  | none =>
   cases hc : leastC (choicesN (rtN n) (exitsN n p).1 (entriesN n q).1) with
   | none => rw [ha, hc] at hd; simp at hd
   | some c => exact ⟨_, _, rfl, cho c hc⟩
  | some l =>
   cases hc : leastC (choicesN (rtN n) (exitsN n p).1 (entriesN n q).1) with
   | none => exact ⟨_, _, rfl, ahd l ha⟩
   | some c =>
    simp only
    split
    ·exact ⟨_, _, rfl, ahd l ha⟩
    ·exact ⟨_, _, rfl, cho c hc⟩
end Go.Proofs.YtcelpkbmcmnogaaGreatDoor
