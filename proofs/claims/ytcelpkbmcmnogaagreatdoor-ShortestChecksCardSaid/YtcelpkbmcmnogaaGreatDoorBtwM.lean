/-
 The law's way, plain: its direct leg, its legs and its choice are the program's.
 What the law's way keeps in memory while it chooses.
-/
import Derived.Test.YtcelpkbmcmnogaaGreatDoorCwA
import Derived.Test.YtcelpkbmcmnogaaGreatDoorAlgW
set_option linter.unusedSimpArgs false
set_option linter.unusedVariables false
namespace Go.Proofs.YtcelpkbmcmnogaaGreatDoor
open Go Go.Vi
/-! The direct leg. -/
def dirC (n : Net) (p q : Plc) (len : Rat) (r : Rd) (x y : Rat) : Bool := sameN n p ⟨r.id, x⟩ && sameN n q ⟨r.id, y⟩ && decide (absR (y - x) = len) && (!r.one || decide (0 < (y - x).num))
def dirS (n : Net) (p q : Plc) (len : Rat) (r : Rd) (acc : Option Lg) (xy : Rat × Rat) : Option Lg := if dirC n p q len r xy.1 xy.2 then some ⟨r.id, xy.1, xy.2⟩ else acc
def dirP (p q : Plc) (r : Rd) : List (Rat × Rat) := [(0, 0), (0, (r.len : Rat)), (0, q.off), ((r.len : Rat), 0), ((r.len : Rat), (r.len : Rat)), ((r.len : Rat), q.off), (p.off, 0), (p.off, (r.len : Rat)), (p.off, q.off)]
def dirR (n : Net) (p q : Plc) (len : Rat) (r : Rd) : Option Lg := (dirP p q r).foldl (dirS n p q len r) none
def dirN (n : Net) (p q : Plc) (len : Rat) : Option Lg := n.roads.findSome? (dirR n p q len)
theorem same_offs {n : Net} (h : GNet n) {p : Plc} (hp : PosOK n p) {r : Rd} (hr : r ∈ n.roads) {x : Rat} (g : G64 x) : sameN n p ⟨r.id, x⟩ = true ↔ offsN n r p = some x := by
 constructor
 ·intro hs
  by_cases hc : chkP n ⟨r.id, x⟩ = 0
  ·have hq : PosOK n ⟨r.id, x⟩ := ⟨hc, g⟩
   rw [offs_same h hp hq hs hr]
   unfold offsN
   rw [if_pos rfl]
  ·exfalso
   have e : (normN n ⟨r.id, x⟩).2 = chkP n ⟨r.id, x⟩ := by unfold normN; rw [if_neg hc]
   unfold sameN at hs
   rw [e] at hs
   simp only [Bool.and_eq_true, beq_iff_eq] at hs
   exact hc hs.1.2
 ·exact fun ha => (offs_pos h hp hr ha).2
theorem offs_cand {n : Net} {p : Plc} {r : Rd} {a : Rat} (ha : offsN n r p = some a) : a = 0 ∨ a = (r.len : Rat) ∨ a = p.off := by
 unfold offsN at ha
 split at ha
 ·injection ha with ha; exact .inr (.inr ha.symm)
 ·split at ha
  ·split at ha
   ·injection ha with ha
    unfold offR at ha
    split at ha
    ·exact .inl ha.symm
    ·exact .inr (.inl ha.symm)
   ·cases ha
  ·cases ha
theorem dirS_fold {n : Net} {p q : Plc} {len : Rat} {r : Rd} {a b : Rat} : ∀ (l : List (Rat × Rat)) (acc : Option Lg), (∀ x ∈ l, dirC n p q len r x.1 x.2 = true → x = (a, b)) → ((∃ x ∈ l, dirC n p q len r x.1 x.2 = true) → l.foldl (dirS n p q len r) acc = some ⟨r.id, a, b⟩) ∧ ((∀ x ∈ l, dirC n p q len r x.1 x.2 = false) → l.foldl (dirS n p q len r) acc = acc) := by
 intro l
 induction l with
 | nil => intro acc _; exact ⟨(fun ⟨x, hx, _⟩ => by cases hx), fun _ => rfl⟩
 | cons y l ih =>
  intro acc hu
  rw [List.foldl_cons]
  obtain ⟨i1, i2⟩ := ih (dirS n p q len r acc y) (fun x hx => hu x (List.mem_cons_of_mem _ hx))
  constructor
  ·rintro ⟨x, hx, hc⟩
   by_cases hl : ∃ x ∈ l, dirC n p q len r x.1 x.2 = true
   ·exact i1 hl
   ·rw [i2 (fun x hx => by
     cases h : dirC n p q len r x.1 x.2 with
     | false => rfl
     | true => exact absurd ⟨x, hx, h⟩ hl)]
    rcases List.mem_cons.1 hx with rfl | hx
    ·unfold dirS
     rw [hc]
     have := hu x List.mem_cons_self hc
     rw [this]
     rfl
    ·exact absurd ⟨x, hx, hc⟩ hl
  ·intro hn
   rw [i2 (fun x hx => hn x (List.mem_cons_of_mem _ hx))]
   unfold dirS
   rw [hn y List.mem_cons_self]
   rfl
theorem dirR_eq {n : Net} (h : GNet n) {p q : Plc} (hp : PosOK n p) (hq : PosOK n q) (len : Rat) {r : Rd} (hr : r ∈ n.roads) : dirR n p q len r = alongP n p q len r := by
 have g : ∀ x ∈ dirP p q r, G64 x.1 ∧ G64 x.2 := fun x hx => by
  have g0 := g64_zero
  have g1 := g64_int r.len
  have g2 := hp.g
  have g3 := hq.g
  simp only [dirP, List.mem_cons, List.mem_nil_iff, or_false] at hx
  rcases hx with rfl | rfl | rfl | rfl | rfl | rfl | rfl | rfl | rfl <;> exact ⟨by assumption, by assumption⟩
 have hc : ∀ x ∈ dirP p q r, (dirC n p q len r x.1 x.2 = true ↔ (offsN n r p = some x.1 ∧ offsN n r q = some x.2) ∧ (r.one = false ∨ 0 < (x.2 - x.1).num) ∧ absR (x.2 - x.1) = len) := fun x hx => by
  obtain ⟨g1, g2⟩ := g x hx
  unfold dirC
  simp only [Bool.and_eq_true, Bool.or_eq_true, decide_eq_true_eq, Bool.not_eq_true']
  rw [same_offs h hp hr g1, same_offs h hq hr g2]
  constructor
  ·rintro ⟨⟨⟨h1, h2⟩, h3⟩, h4⟩; exact ⟨⟨h1, h2⟩, h4, h3⟩
  ·rintro ⟨⟨h1, h2⟩, h4, h3⟩; exact ⟨⟨⟨h1, h2⟩, h3⟩, h4⟩
 unfold dirR alongP
 cases ha : offsN n r p with
 | none =>
  refine (dirS_fold (a := 0) (b := 0) _ none (fun x hx hd => ?_)).2 (fun x hx => ?_)
  ·have := ((hc x hx).1 hd).1.1; rw [ha] at this; cases this
  ·cases hd : dirC n p q len r x.1 x.2 with
   | false => rfl
   | true => have := ((hc x hx).1 hd).1.1; rw [ha] at this; cases this
 | some a =>
  cases hb : offsN n r q with
  | none =>
   refine (dirS_fold (a := 0) (b := 0) _ none (fun x hx hd => ?_)).2 (fun x hx => ?_)
   ·have := ((hc x hx).1 hd).1.2; rw [hb] at this; cases this
   ·cases hd : dirC n p q len r x.1 x.2 with
    | false => rfl
    | true => have := ((hc x hx).1 hd).1.2; rw [hb] at this; cases this
  | some b =>
   have un : ∀ x ∈ dirP p q r, dirC n p q len r x.1 x.2 = true → x = (a, b) := fun x hx hd => by
    obtain ⟨⟨h1, h2⟩, _⟩ := (hc x hx).1 hd
    rw [ha] at h1; rw [hb] at h2
    injection h1 with h1
    injection h2 with h2
    obtain ⟨u, v⟩ := x
    simp only at h1 h2
    rw [h1, h2]
   obtain ⟨f1, f2⟩ := dirS_fold (a := a) (b := b) (dirP p q r) none un
   have mem : (a, b) ∈ dirP p q r := by
    rcases offs_cand ha with h1 | h1 | h1 <;> rcases offs_cand hb with h2 | h2 | h2 <;> rw [h1, h2] <;> simp [dirP]
   simp only
   by_cases hk : (r.one = false ∨ 0 < (b - a).num) ∧ absR (b - a) = len
   ·rw [if_pos hk]
    exact f1 ⟨(a, b), mem, (hc _ mem).2 ⟨⟨ha, hb⟩, hk⟩⟩
   ·rw [if_neg hk]
    refine f2 (fun x hx => ?_)
    cases hd : dirC n p q len r x.1 x.2 with
    | false => rfl
    | true =>
     have e := un x hx hd
     subst e
     exact absurd ((hc _ hx).1 hd).2 hk
theorem find_congr {α β : Type} {f g : α → Option β} : ∀ (l : List α), (∀ x ∈ l, f x = g x) → l.findSome? f = l.findSome? g
 | [], _ => rfl
 | a :: l, h => by
  rw [List.findSome?_cons, List.findSome?_cons, h a List.mem_cons_self, find_congr l (fun x hx => h x (List.mem_cons_of_mem _ hx))]
theorem dirN_eq {n : Net} (h : GNet n) {p q : Plc} (hp : PosOK n p) (hq : PosOK n q) (len : Rat) : dirN n p q len = alongN n p q len := find_congr _ (fun _ hr => dirR_eq h hp hq len hr)
/-! The legs over a route. -/
def endL (n : Net) (id x : Int) : Rat := if ((roadOf n.roads id).getD rd0).dst = x then (((roadOf n.roads id).getD rd0).len : Rat) else 0
def lgs0 (n : Net) (p : Plc) (a : Int) : List Lg := if (nodeAtN n p).isSome then [] else addL [] ⟨p.road, p.off, endL n p.road a⟩
def lgsM (n : Net) (nodes roads : List Int) (L : List Lg) (i : Nat) : List Lg := addL L ⟨roads[i]!, endL n roads[i]! nodes[i]!, endL n roads[i]! nodes[i + 1]!⟩
def lgs1 (n : Net) (p : Plc) (nodes roads : List Int) : List Lg := (List.range roads.length).foldl (lgsM n nodes roads) (lgs0 n p nodes[0]!)
def lgsN (n : Net) (p q : Plc) (nodes roads : List Int) : List Lg := if (nodeAtN n q).isSome then lgs1 n p nodes roads else addL (lgs1 n p nodes roads) ⟨q.road, endL n q.road nodes[nodes.length - 1]!, q.off⟩
theorem endL_eq {n : Net} (h : GNet n) {r : Rd} (hr : r ∈ n.roads) {x : Int} (hx : onR r x) : endL n r.id x = endN n r.id x := by
 have hne := road_ne h hr
 unfold endL endN offR
 rw [roadOf_mem h.ok.roads hr]
 simp only [Option.getD_some]
 rcases hx with e | e
 ·rw [if_pos e, if_neg (fun h2 => hne (by rw [e, h2]))]
 ·rw [if_pos e, if_neg (fun h2 => hne (by rw [e, h2]))]
theorem ex_zero {n : Net} (h : GNet n) {p : Plc} (hp : PosOK n p) (bf bt : Bool) {e : Ed} (he : e ∈ (endsN n p bf bt).1) : ((nodeAtN n p).isSome = true ∧ ¬ 0 < e.len.num) ∨ (nodeAtN n p = none ∧ 0 < e.len.num ∧ ∃ r ∈ n.roads, r.id = p.road ∧ onR r e.node) := by
 rcases view h hp with ⟨x, hx, hinc, _⟩ | ⟨hx, r, hr, hro, h1, h2, ho⟩
 ·left
  rcases (ends_mem hp _ _ _).1 he with ⟨z, hz, e⟩ | ⟨hz, _⟩
  ·rw [hx, e]
   exact ⟨rfl, by show ¬ 0 < (0 : Rat).num; decide⟩
  ·rw [hx] at hz; cases hz
 ·right
  obtain ⟨r', hr', _, hid, _⟩ := hp.rd
  rw [hro] at hr'
  injection hr' with hr'
  subst hr'
  have pos : ∀ {y : Rat}, 0 < y → 0 < y.num := fun {y} hy => num_gt.2 hy
  rcases (ends_mem hp _ _ _).1 he with ⟨z, hz, _⟩ | ⟨_, hz⟩
  ·rw [hx] at hz; cases hz
  ·rw [hro] at hz
   simp only [Option.getD_some] at hz
   rcases hz with ⟨_, e⟩ | ⟨_, e⟩
   ·rw [e]; exact ⟨hx, pos h1, r, hr, hid, .inl rfl⟩
   ·rw [e]; exact ⟨hx, pos (by simp only; grind), r, hr, hid, .inr rfl⟩
theorem lgsN_eq {n : Net} (h : GNet n) {p q : Plc} (hp : PosOK n p) (hq : PosOK n q) {c : Chc} (hc : c ∈ choicesN (rtN n) (exitsN n p).1 (entriesN n q).1) : lgsN n p q (nodesC c) (c.R.map Hp.road) = legsN n c p q := by
 obtain ⟨e, he, f, hf, R, l, hr, rfl⟩ := ch_mem.1 hc
 have hh := rt_hops hr
 obtain ⟨_, hlast⟩ := rt_sum h hr
 have e0 : lgs0 n p e.node = legs0 n ⟨e.len + f.len + (l : Rat), R, l, e, f⟩ p := by
  unfold lgs0 legs0
  rcases ex_zero h hp _ _ he with ⟨h1, h2⟩ | ⟨h1, h2, r, hr, hid, hon⟩
  ·rw [if_pos h1, if_neg h2]
  ·rw [h1, if_neg (by simp), if_pos h2, ← hid, endL_eq h hr hon]
 have e1 : lgs1 n p (nodesC ⟨e.len + f.len + (l : Rat), R, l, e, f⟩) (R.map Hp.road) = legs1 n ⟨e.len + f.len + (l : Rat), R, l, e, f⟩ p := by
  unfold lgs1 legs1
  rw [List.length_map]
  have z : (nodesC ⟨e.len + f.len + (l : Rat), R, l, e, f⟩)[0]! = e.node := rfl
  rw [z, e0]
  have key : ∀ k, k ≤ R.length → (List.range k).foldl (lgsM n (nodesC ⟨e.len + f.len + (l : Rat), R, l, e, f⟩) (R.map Hp.road)) (legs0 n ⟨e.len + f.len + (l : Rat), R, l, e, f⟩ p) = (List.range k).foldl (midL n ⟨e.len + f.len + (l : Rat), R, l, e, f⟩) (legs0 n ⟨e.len + f.len + (l : Rat), R, l, e, f⟩ p) := by
   intro k
   induction k with
   | zero => intro _; rfl
   | succ k ih =>
    intro hk
    rw [List.range_succ, List.foldl_append, List.foldl_append, ih (by omega), List.foldl_cons, List.foldl_nil, List.foldl_cons, List.foldl_nil]
    unfold lgsM midL
    have em : (R.map Hp.road)[k]! = (R[k]!).road := by
     rw [getElem!_pos _ k (by rw [List.length_map]; omega), getElem!_pos R k (by omega), List.getElem_map]
    obtain ⟨r, hr2, hl, e2, _⟩ := hh k (by omega)
    have q1 : (nodesC ⟨e.len + f.len + (l : Rat), R, l, e, f⟩) = e.node :: R.map Hp.dst := rfl
    rw [em, ← e2, q1]
    have on1 : onR r (e.node :: R.map Hp.dst)[k]! := by
     simp only [leadsB, Bool.or_eq_true, Bool.and_eq_true, beq_iff_eq, Bool.not_eq_true'] at hl
     rcases hl with ⟨a1, a2⟩ | ⟨⟨_, a1⟩, a2⟩
     ·exact .inl a1
     ·exact .inr a1
    have on2 : onR r (e.node :: R.map Hp.dst)[k + 1]! := by
     simp only [leadsB, Bool.or_eq_true, Bool.and_eq_true, beq_iff_eq, Bool.not_eq_true'] at hl
     rcases hl with ⟨a1, a2⟩ | ⟨⟨_, a1⟩, a2⟩
     ·exact .inr a2
     ·exact .inl a2
    rw [endL_eq h hr2 on1, endL_eq h hr2 on2]
  exact key R.length (Nat.le_refl _)
 unfold lgsN legsN
 simp only
 rw [e1]
 have q2 : (nodesC ⟨e.len + f.len + (l : Rat), R, l, e, f⟩)[(nodesC ⟨e.len + f.len + (l : Rat), R, l, e, f⟩).length - 1]! = f.node := by
  have : (nodesC ⟨e.len + f.len + (l : Rat), R, l, e, f⟩).length - 1 = R.length := by simp [nodesC]
  rw [this]
  exact hlast
 rcases ex_zero h hq _ _ hf with ⟨h1, h2⟩ | ⟨h1, h2, r, hr, hid, hon⟩
 ·rw [if_pos h1, if_neg h2]
 ·rw [h1, if_neg (by simp), if_pos h2, q2, ← hid, endL_eq h hr hon]
/-! The choice. -/
theorem cmpL_bef : ∀ (L M : List Int), cmpL L M < 0 ↔ befL L M = true
 | [], [] => by simp [cmpL, befL]
 | [], b :: M => by simp [cmpL, befL]
 | a :: L, [] => by simp [cmpL, befL]
 | a :: L, b :: M => by
  have ih := cmpL_bef L M
  unfold cmpL befL cmpI
  by_cases h1 : a < b
  ·simp [h1]; omega
  ·by_cases h2 : b < a
   ·simp [h1, h2]; omega
   ·have : a = b := by omega
    subst this
    simpa using ih
/-- What the law keeps of a choice: its length and its route. -/
structure Bst where (len : Rat) (nodes roads : List Int) (rl : Int)
def bstS (acc : Option Bst) (a b : Ed) (o : Option Rte) : Option Bst := match o with
 | none => acc
 | some r => match acc with
  | none => some ⟨a.len + (r.len : Rat) + b.len, r.nodes, r.roads, r.len⟩
  | some z => if cmpR (a.len + (r.len : Rat) + b.len) z.len < 0 ∨ (cmpR (a.len + (r.len : Rat) + b.len) z.len = 0 ∧ befL r.nodes z.nodes = true) then some ⟨a.len + (r.len : Rat) + b.len, r.nodes, r.roads, r.len⟩ else some z
def toB (c : Chc) : Bst := ⟨c.len, nodesC c, c.R.map Hp.road, c.rl⟩
def bstN (n : Net) (X Y : List Ed) : Option Bst := X.foldl (fun acc a => Y.foldl (fun acc b => bstS acc a b (lstN n a.node b.node)) acc) none
theorem ch_bef (c z : Chc) : chCmp c z < 0 ↔ cmpR c.len z.len < 0 ∨ (cmpR c.len z.len = 0 ∧ befL (nodesC c) (nodesC z) = true) := by
 rw [← cmpL_bef]
 unfold chCmp
 simp only [orI]
 by_cases h : cmpR c.len z.len = 0
 ·rw [if_pos h, h]
  by_cases h2 : cmpL (nodesC c) (nodesC z) = 0
  ·rw [if_pos h2, h2]; simp
  ·rw [if_neg h2]; simp
 ·rw [if_neg h]; simp [h]
theorem bst_step {n : Net} (h : GNet n) {a b : Ed} (ha : (nodeOf n.nodes a.node).isSome = true) (hb : (nodeOf n.nodes b.node).isSome = true) (acc : Option Chc) : bstS (acc.map toB) a b (lstN n a.node b.node) = (((chcOf (rtN n) a b).toList).foldl leaS acc).map toB := by
 unfold chcOf
 cases hr : rtN n a.node b.node with
 | none =>
  rw [lstN_none h.ok h.few ha hb hr]
  rfl
 | some Rl =>
  obtain ⟨R, l⟩ := Rl
  rw [lstN_some h.ok h.few hr]
  have e : a.len + (l : Rat) + b.len = a.len + b.len + (l : Rat) := by grind
  simp only [Option.toList_some, List.foldl_cons, List.foldl_nil]
  cases acc with
  | none =>
   simp only [bstS, leaS, Option.map_none, Option.map_some, toB, e]
   rfl
  | some z =>
   simp only [bstS, leaS, Option.map_some, e]
   have hc := ch_bef ⟨a.len + b.len + (l : Rat), R, l, a, b⟩ z
   by_cases hlt : chCmp ⟨a.len + b.len + (l : Rat), R, l, a, b⟩ z < 0
   ·have h1 : cmpR (a.len + b.len + (l : Rat)) (toB z).len < 0 ∨ cmpR (a.len + b.len + (l : Rat)) (toB z).len = 0 ∧ befL (a.node :: R.map Hp.dst) (toB z).nodes = true := hc.1 hlt
    rw [if_pos hlt, if_pos h1]
    rfl
   ·have h1 : ¬(cmpR (a.len + b.len + (l : Rat)) (toB z).len < 0 ∨ cmpR (a.len + b.len + (l : Rat)) (toB z).len = 0 ∧ befL (a.node :: R.map Hp.dst) (toB z).nodes = true) := fun h => hlt (hc.2 h)
    rw [if_neg hlt, if_neg h1]
    rfl
theorem bst_in {n : Net} (h : GNet n) (X Y : List Ed) (hx : ∀ a ∈ X, (nodeOf n.nodes a.node).isSome = true) (hy : ∀ b ∈ Y, (nodeOf n.nodes b.node).isSome = true) : bstN n X Y = (leastC (choicesN (rtN n) X Y)).map toB := by
 have inner : ∀ (Y : List Ed) (a : Ed) (acc : Option Chc), (nodeOf n.nodes a.node).isSome = true → (∀ b ∈ Y, (nodeOf n.nodes b.node).isSome = true) → Y.foldl (fun acc b => bstS acc a b (lstN n a.node b.node)) (acc.map toB) = ((Y.filterMap (chcOf (rtN n) a)).foldl leaS acc).map toB := by
  intro Y
  induction Y with
  | nil => intro a acc _ _; rfl
  | cons b Y ih =>
   intro a acc ha hb
   rw [List.foldl_cons, bst_step h ha (hb b List.mem_cons_self), ih a _ ha (fun x hx => hb x (List.mem_cons_of_mem _ hx)), List.filterMap_cons]
   cases chcOf (rtN n) a b <;> rfl
 have outer : ∀ (X : List Ed) (acc : Option Chc), (∀ a ∈ X, (nodeOf n.nodes a.node).isSome = true) → X.foldl (fun acc a => Y.foldl (fun acc b => bstS acc a b (lstN n a.node b.node)) acc) (acc.map toB) = ((choicesN (rtN n) X Y).foldl leaS acc).map toB := by
  intro X
  induction X with
  | nil => intro acc _; rfl
  | cons a X ih =>
   intro acc ha
   rw [List.foldl_cons, inner Y a acc (ha a List.mem_cons_self) hy, ih _ (fun x hx => ha x (List.mem_cons_of_mem _ hx))]
   unfold choicesN
   rw [List.flatMap_cons, List.foldl_append]
 unfold bstN
 rw [leastC_def]
 exact outer X none hx
def lg0 : Lg := ⟨0, 0, 0⟩
/-- The law's least way. -/
def btwL (n : Net) (p q : Plc) : Wy × Bool := if sameN n p q then (⟨p, q, [], 0⟩, true) else match aheadN n p q, bstN n (exitsN n p).1 (entriesN n q).1 with
 | some a, none => (⟨p, q, [(dirN n p q a).getD lg0], a⟩, true)
 | some a, some z => if cmpR a z.len ≤ 0 then (⟨p, q, [(dirN n p q a).getD lg0], a⟩, true) else (⟨p, q, lgsN n p q z.nodes z.roads, z.len⟩, true)
 | none, none => (wyz, false)
 | none, some z => (⟨p, q, lgsN n p q z.nodes z.roads, z.len⟩, true)
theorem btwL_eq {n : Net} (h : GNet n) {p q : Plc} (hp : PosOK n p) (hq : PosOK n q) : btwL n p q = ((betweenN n (rtN n) p q).1, decide ((betweenN n (rtN n) p q).2 = 0)) := by
 unfold btwL
 cases hs : sameN n p q with
 | true => rw [dst_same hp hq hs]; rfl
 | false =>
  rw [if_neg (by simp)]
  rw [bst_in h _ _ (fun a ha => inc_node h (exit_inc h hp ha).1) (fun b hb => inc_node h (entry_inc h hq hb).1)]
  obtain ⟨a1, a2⟩ := ahead_iff hp.chk hq.chk hs
  obtain ⟨c1, c2⟩ := leastC_spec (choicesN (rtN n) (exitsN n p).1 (entriesN n q).1)
  have ahd : ∀ l, aheadN n p q = some l → [(dirN n p q l).getD lg0] = (alongN n p q l).toList := fun l hl => by
   rw [dirN_eq h hp hq]
   have hw := along_leg h hp hq hs (a1 l hl).1
   cases ho : alongN n p q l with
   | some x => rfl
   | none =>
    rw [ho] at hw
    cases hw with
    | nil _ _ h3 => rw [h3] at hs; cases hs
  have cho : ∀ c, leastC (choicesN (rtN n) (exitsN n p).1 (entriesN n q).1) = some c → lgsN n p q (nodesC c) (c.R.map Hp.road) = legsN n c p q := fun c hc => lgsN_eq h hp hq (c1 c hc).1
  have e : betweenN n (rtN n) p q = match aheadN n p q, leastC (choicesN (rtN n) (exitsN n p).1 (entriesN n q).1) with
   | some l, none => (⟨p, q, (alongN n p q l).toList, l⟩, 0)
   | some l, some c => if cmpR l c.len ≤ 0 then (⟨p, q, (alongN n p q l).toList, l⟩, 0) else (⟨p, q, legsN n c p q, c.len⟩, 0)
   | none, none => (wyz, 31)
   | none, some c => (⟨p, q, legsN n c p q, c.len⟩, 0) := by
   unfold betweenN
   rw [if_neg (by rw [hp.chk, hq.chk]; decide), if_neg (by rw [hs]; simp)]
   cases aheadN n p q <;> cases leastC (choicesN (rtN n) (exitsN n p).1 (entriesN n q).1) <;> rfl
  rw [e]
  cases ha : aheadN n p q with
  | none =>
   cases hc : leastC (choicesN (rtN n) (exitsN n p).1 (entriesN n q).1) with
   | none => rfl
   | some c => simp [toB, cho c hc]
  | some l =>
   cases hc : leastC (choicesN (rtN n) (exitsN n p).1 (entriesN n q).1) with
   | none => simp [ahd l ha]
   | some c =>
    simp only [Option.map_some, toB]
    by_cases hle : cmpR l c.len ≤ 0
    ·simp [hle, ahd l ha]
    ·simp [hle, cho c hc]
end Go.Proofs.YtcelpkbmcmnogaaGreatDoor
namespace Go.Proofs.YtcelpkbmcmnogaaGreatDoor
open Go Go.RowKit Go.Vi
theorem RtAt.set1 {B : Nat} {w : World} {vn vr : Value} {r : Rte} (h : RtAt B w vn vr r) {b : Nat} (hl : RtLow (b + 1) vn vr) (i : Nat) (x : Value) : RtAt B (w.setCell ⟨b, i, none⟩ x) vn vr r :=
 ⟨sl_set h.nodes _ _ (fun ad n c e => by have := hl.1 ad n c e; show ad.block ≠ b; omega), sl_set h.roads _ _ (fun ad n c e => by have := hl.2 ad n c e; show ad.block ≠ b; omega)⟩
theorem lst_in {n : Net} (h : GNet n) {a b : Int} (ha : (nodeOf n.nodes a).isSome = true) (hb : (nodeOf n.nodes b).isSome = true) {r : Rte} (hr : lstN n a b = some r) : r.nodes.length ≤ 9 ∧ r.roads.length ≤ 8 ∧ r.nodes.length = r.roads.length + 1 ∧ 0 ≤ r.len ∧ r.len ≤ 384 := by
 cases hn : rtN n a b with
 | none => rw [lstN_none h.ok h.few ha hb hn] at hr; cases hr
 | some Rl =>
  obtain ⟨R, l⟩ := Rl
  rw [lstN_some h.ok h.few hn] at hr
  injection hr with hr
  subst hr
  have := rt_in h hn
  obtain ⟨h1, h2, h3⟩ := this
  exact ⟨by simp; omega, by simp; omega, by simp, h1, h2⟩
def b0B : Bst := ⟨0, [], [], 0⟩
structure BstOK (z : Bst) : Prop where
 len : G64 z.len ∧ 0 ≤ z.len ∧ z.len ≤ 480
 nodes : z.nodes.length ≤ 9
 roads : z.roads.length ≤ 8
theorem b0_ok : BstOK b0B := ⟨⟨g64_zero, Rat.le_refl, by show (0 : Rat) ≤ 480; decide⟩, by decide, by decide⟩
structure BtM (B b6 b8 : Nat) (p q : Plc) (X Y : List Ed) (vX vY vn vr : Value) (z : Bst) (w : World) : Prop where
 way : w.heap[b6]? = some (.cells #[.int .i64 p.road, .bool (zs p.off.num), .string (zx p.off.num), .bool false, .string (ry p.off.den), .int .i64 q.road, .bool (zs q.off.num), .string (zx q.off.num), .bool false, .string (ry q.off.den), .slice none 0 0, .bool (zs z.len.num), .string (zx z.len.num), .bool false, .string (ry z.len.den)] 46 (0, 0))
 best : w.heap[b8]? = some (.cells #[vn, vr, .int .i64 z.rl] 64 (0, 0))
 rt : RtAt w.heap.size w vn vr ⟨z.nodes, z.roads, z.rl⟩
 low : RtLow (b8 + 1) vn vr
 x : Ow B w 83 5 vX (X.map Ed.cs)
 y : Ow B w 83 5 vY (Y.map Ed.cs)
theorem BtM.keep {B b6 b8 : Nat} {p q : Plc} {X Y : List Ed} {vX vY vn vr : Value} {z : Bst} {w w' : World} (h : BtM B b6 b8 p q X Y vX vY vn vr z w) (hb : Below w.heap.size w w') : BtM B b6 b8 p q X Y vX vY vn vr z w' :=
 ⟨keepObj hb h.way, keepObj hb h.best, h.rt.later hb, h.low, h.x.keep hb, h.y.keep hb⟩
theorem BtM.put {B b6 b8 : Nat} {p q : Plc} {X Y : List Ed} {vX vY vn vr : Value} {z : Bst} {w : World} (h : BtM B b6 b8 p q X Y vX vY vn vr z w) (hlt : b6 < b8) {z' : Bst} {un ur : Value} (hr : RtAt w.heap.size w un ur ⟨z'.nodes, z'.roads, z'.rl⟩) (hl : RtLow (b8 + 1) un ur) :
  BtM B b6 b8 p q X Y vX vY un ur z' (((((((w.setCell ⟨b6, 11, none⟩ (.bool (zs z'.len.num))).setCell ⟨b6, 12, none⟩ (.string (zx z'.len.num))).setCell ⟨b6, 13, none⟩ (.bool false)).setCell ⟨b6, 14, none⟩ (.string (ry z'.len.den))).setCell ⟨b8, 0, none⟩ un).setCell ⟨b8, 1, none⟩ ur).setCell ⟨b8, 2, none⟩ (.int .i64 z'.rl)) := by
 have d1 : b6 ≠ b8 := by omega
 have d2 : b8 ≠ b6 := by omega
 have l6 : RtLow (b6 + 1) un ur := hl.mono (by omega)
 have ow : ∀ {u : Value} {R : List (List Value)}, Ow B w 83 5 u R → Ow B (((((((w.setCell ⟨b6, 11, none⟩ (.bool (zs z'.len.num))).setCell ⟨b6, 12, none⟩ (.string (zx z'.len.num))).setCell ⟨b6, 13, none⟩ (.bool false)).setCell ⟨b6, 14, none⟩ (.string (ry z'.len.den))).setCell ⟨b8, 0, none⟩ un).setCell ⟨b8, 1, none⟩ ur).setCell ⟨b8, 2, none⟩ (.int .i64 z'.rl)) 83 5 u R := fun {u R} ho => by
  have n6 : u.ownBlock ≠ some b6 := fun e => absurd (ho.type b6 e _ _ _ h.way) (by decide)
  have n8 : u.ownBlock ≠ some b8 := fun e => absurd (ho.type b8 e _ _ _ h.best) (by decide)
  exact ((((((ho.keepSet ⟨b6, 11, none⟩ n6 _).keepSet ⟨b6, 12, none⟩ n6 _).keepSet ⟨b6, 13, none⟩ n6 _).keepSet ⟨b6, 14, none⟩ n6 _).keepSet ⟨b8, 0, none⟩ n8 _).keepSet ⟨b8, 1, none⟩ n8 _).keepSet ⟨b8, 2, none⟩ n8 _
 refine ⟨?_, ?_, ?_, hl, ow h.x, ow h.y⟩
 ·refine obj_setOther (obj_setOther (obj_setOther ?_ d1) d1) d1
  rw [obj_set (obj_set (obj_set (obj_set h.way)))]
  simp
 ·rw [obj_set (obj_set (obj_set (obj_setOther (obj_setOther (obj_setOther (obj_setOther h.best d2) d2) d2) d2)))]
  simp
 ·have e : (((((((w.setCell ⟨b6, 11, none⟩ (.bool (zs z'.len.num))).setCell ⟨b6, 12, none⟩ (.string (zx z'.len.num))).setCell ⟨b6, 13, none⟩ (.bool false)).setCell ⟨b6, 14, none⟩ (.string (ry z'.len.den))).setCell ⟨b8, 0, none⟩ un).setCell ⟨b8, 1, none⟩ ur).setCell ⟨b8, 2, none⟩ (.int .i64 z'.rl)).heap.size = w.heap.size := by simp [World.setCell]
  rw [e]
  exact ((((((hr.set1 l6 11 _).set1 l6 12 _).set1 l6 13 _).set1 l6 14 _).set1 hl 0 _).set1 hl 1 _).set1 hl 2 _
def takeB (acc : Option Bst) (c : Int) (bf : Bool) : Bool := match acc with
 | none => true
 | some _ => decide (c < 0) || (decide (c = 0) && bf)
theorem bst_some (acc : Option Bst) (a b : Ed) (r : Rte) : bstS acc a b (some r) = if takeB acc (cmpR (a.len + (r.len : Rat) + b.len) (acc.getD b0B).len) (befL r.nodes (acc.getD b0B).nodes) then some ⟨a.len + (r.len : Rat) + b.len, r.nodes, r.roads, r.len⟩ else acc := by
 cases acc with
 | none => rfl
 | some z =>
  simp only [bstS, takeB, Option.getD_some]
  by_cases h1 : cmpR (a.len + (r.len : Rat) + b.len) z.len < 0
  ·simp [h1]
  ·by_cases h2 : cmpR (a.len + (r.len : Rat) + b.len) z.len = 0
   ·by_cases hb : befL r.nodes z.nodes = true <;> simp [h2, hb]
   ·simp [h1, h2]
theorem bst_ok {a b : Ed} {r : Rte} (ha : G64 a.len ∧ 0 ≤ a.len ∧ a.len ≤ 48) (hb : G64 b.len ∧ 0 ≤ b.len ∧ b.len ≤ 48) (hr : r.nodes.length ≤ 9 ∧ r.roads.length ≤ 8 ∧ r.nodes.length = r.roads.length + 1 ∧ 0 ≤ r.len ∧ r.len ≤ 384) : BstOK ⟨a.len + (r.len : Rat) + b.len, r.nodes, r.roads, r.len⟩ ∧ Sm a.len ∧ Sm b.len ∧ Sm (r.len : Rat) ∧ Sm (a.len + (r.len : Rat)) ∧ Sm (a.len + (r.len : Rat) + b.len) := by
 obtain ⟨a1, a2, a3⟩ := ha
 obtain ⟨b1, b2, b3⟩ := hb
 obtain ⟨r1, r2, _, r3, r4⟩ := hr
 have l1 : (0 : Rat) ≤ (r.len : Rat) := Rat.intCast_le_intCast.2 r3
 have l2 : (r.len : Rat) ≤ 384 := Rat.intCast_le_intCast.2 r4
 have g := g64_add (g64_add a1 (g64_int r.len)) b1
 exact ⟨⟨⟨g, by simp only; grind, by simp only; grind⟩, r1, r2⟩, sm_g64 a1 (by grind) (by grind), sm_g64 b1 (by grind) (by grind), sm_g64 (g64_int _) (by grind) (by grind), sm_g64 (g64_add a1 (g64_int _)) (by grind) (by grind), sm_g64 g (by grind) (by grind)⟩
theorem rt_put {wr Z : World} {un ur : Value} {r : Rte} {T : TypeId} (hr : RtAt ((wr.alloc (.cells #[.slice none 0 0, .slice none 0 0, .int .i64 0] T)).junk Z).heap.size ((wr.alloc (.cells #[.slice none 0 0, .slice none 0 0, .int .i64 0] T)).junk Z) un ur r) (hl : RtLow (wr.heap.size + 1) un ur) (l : Int) : RtAt ((wr.alloc (.cells #[un, ur, .int .i64 l] T)).junk Z).heap.size ((wr.alloc (.cells #[un, ur, .int .i64 l] T)).junk Z) un ur r := by
 have e : (wr.alloc (.cells #[un, ur, .int .i64 l] T)).junk Z = ((((wr.alloc (.cells #[.slice none 0 0, .slice none 0 0, .int .i64 0] T)).junk Z).setCell ⟨wr.heap.size, 0, none⟩ un).setCell ⟨wr.heap.size, 1, none⟩ ur).setCell ⟨wr.heap.size, 2, none⟩ (.int .i64 l) := by
  rw [← junk_set3 (by simp)]
  congr 1
  simp [go_sem]
 rw [e]
 have hs : (((((wr.alloc (.cells #[.slice none 0 0, .slice none 0 0, .int .i64 0] T)).junk Z).setCell ⟨wr.heap.size, 0, none⟩ un).setCell ⟨wr.heap.size, 1, none⟩ ur).setCell ⟨wr.heap.size, 2, none⟩ (.int .i64 l)).heap.size = ((wr.alloc (.cells #[.slice none 0 0, .slice none 0 0, .int .i64 0] T)).junk Z).heap.size := by simp [World.setCell]
 rw [hs]
 exact hr.set3 hl _ _ _
theorem rt_one {wr Z : World} {un ur : Value} {r : Rte} (hr : RtAt (wr.junk Z).heap.size (wr.junk Z) un ur r) (o : Obj) : RtAt ((wr.junk Z).alloc o).heap.size ((wr.junk Z).alloc o) un ur r := hr.later ((Below.refl _ _).alloc (Nat.le_refl _) _)
end Go.Proofs.YtcelpkbmcmnogaaGreatDoor
