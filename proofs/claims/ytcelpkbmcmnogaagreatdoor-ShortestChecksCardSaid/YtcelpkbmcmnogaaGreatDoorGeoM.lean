/-
 Positions of a grid, plain: multiples of 1/64; what is looked at between two positions is small.
 Positions of a grid, plain: nodes and roads; distances of nodes; moves along one road.
 Positions of a grid, plain: the least way is not longer than any sequence of moves, and is one.
-/
import Derived.Test.YtcelpkbmcmnogaaGreatDoorLwU
import Derived.Test.YtcelpkbmcmnogaaGreatDoorShoG
import Derived.Test.YtcelpkbmcmnogaaGreatDoorLenW
set_option linter.unusedSimpArgs false
set_option linter.unusedVariables false
namespace Go.Proofs.YtcelpkbmcmnogaaGreatDoor
open Go Go.Vi
/-- A multiple of 1/64. -/
def G64 (x : Rat) : Prop := ∃ k : Int, x * 64 = (k : Rat)
theorem g64_int (z : Int) : G64 (z : Rat) := ⟨z * 64, by rw [Rat.intCast_mul]; rfl⟩
theorem g64_zero : G64 0 := ⟨0, by grind⟩
theorem g64_add {x y : Rat} (hx : G64 x) (hy : G64 y) : G64 (x + y) := by
 obtain ⟨k, hk⟩ := hx
 obtain ⟨j, hj⟩ := hy
 exact ⟨k + j, by rw [Rat.intCast_add]; grind⟩
theorem g64_sub {x y : Rat} (hx : G64 x) (hy : G64 y) : G64 (x - y) := by
 obtain ⟨k, hk⟩ := hx
 obtain ⟨j, hj⟩ := hy
 exact ⟨k - j, by rw [Rat.intCast_sub]; grind⟩
theorem num_lt {a : Rat} : a.num < 0 ↔ a < 0 := by rw [← Int.not_le, Rat.num_nonneg, Rat.not_le]
theorem absR_eq (a : Rat) : absR a = if a < 0 then -a else a := by
 unfold absR
 by_cases h : a < 0
 ·rw [if_pos (num_lt.2 h), if_pos h]
 ·rw [if_neg (fun h' => h (num_lt.1 h')), if_neg h]
theorem g64_abs {x : Rat} (hx : G64 x) : G64 (absR x) := by
 rw [absR_eq]
 split
 ·obtain ⟨k, hk⟩ := hx
  exact ⟨-k, by rw [Rat.intCast_neg]; grind⟩
 ·exact hx
theorem sm_g64 {x : Rat} (h : G64 x) (h1 : -1000000 ≤ x) (h2 : x ≤ 1000000) : Sm x := by
 obtain ⟨k, hk⟩ := h
 have e : x = mkRat k 64 := by rw [Rat.mkRat_eq_div]; grind
 have k1 : -64000000 ≤ k := by
  have : ((-64000000 : Int) : Rat) ≤ (k : Rat) := by rw [← hk]; show (-64000000 : Rat) ≤ _; grind
  exact Rat.intCast_le_intCast.1 this
 have k2 : k ≤ 64000000 := by
  have : (k : Rat) ≤ ((64000000 : Int) : Rat) := by rw [← hk]; show _ ≤ (64000000 : Rat); grind
  exact Rat.intCast_le_intCast.1 this
 refine ⟨?_, ?_⟩
 ·rw [e, Rat.num_mkRat, if_neg (by decide)]
  have h3 : (k / ((Nat.gcd 64 k.natAbs : Nat) : Int)).natAbs ≤ k.natAbs := Int.natAbs_ediv_le_natAbs _ _
  omega
 ·rw [e, Rat.den_mkRat, if_neg (by decide)]
  have h3 : 64 / Nat.gcd 64 k.natAbs ≤ 64 := Nat.div_le_self _ _
  omega
/-- A valid position. -/
structure PosOK (n : Net) (p : Plc) : Prop where
 chk : chkP n p = 0
 g : G64 p.off
theorem PosOK.rd {n : Net} {p : Plc} (h : PosOK n p) : ∃ r, roadOf n.roads p.road = some r ∧ r ∈ n.roads ∧ r.id = p.road ∧ 0 ≤ p.off ∧ p.off ≤ (r.len : Rat) := by
 have hc := h.chk
 unfold chkP at hc
 cases hr : roadOf n.roads p.road with
 | none => rw [hr] at hc; cases hc
 | some r =>
  rw [hr] at hc
  simp only at hc
  have hid : r.id = p.road := by
   have := List.find?_some hr
   simpa using this
  split at hc
  ·cases hc
  ·rename_i h1
   split at hc
   ·cases hc
   ·rename_i h2
    refine ⟨r, rfl, road_in hr, hid, ?_, Rat.not_lt.1 h2⟩
    have : ¬p.off < 0 := fun h => h1 (num_lt.2 h)
    exact Rat.not_lt.1 this
theorem len_le {n : Net} (h : GNet n) {r : Rd} (hr : r ∈ n.roads) : (1 : Rat) ≤ (r.len : Rat) ∧ (r.len : Rat) ≤ 48 := by
 obtain ⟨h1, h2⟩ := h.len r hr
 exact ⟨Rat.intCast_le_intCast.2 h1, Rat.intCast_le_intCast.2 h2⟩
theorem offR_in {n : Net} (h : GNet n) {r : Rd} (hr : r ∈ n.roads) (x : Int) : G64 (offR r x) ∧ 0 ≤ offR r x ∧ offR r x ≤ 48 := by
 have := len_le h hr
 unfold offR
 split
 ·exact ⟨g64_zero, by grind, by grind⟩
 ·exact ⟨g64_int _, by grind, by grind⟩
theorem offs_in {n : Net} (h : GNet n) {p : Plc} (hp : PosOK n p) {r : Rd} (hr : r ∈ n.roads) {a : Rat} (ha : offsN n r p = some a) : G64 a ∧ 0 ≤ a ∧ a ≤ 48 := by
 unfold offsN at ha
 split at ha
 ·injection ha with ha
  subst ha
  obtain ⟨q, _, hq, _, h1, h2⟩ := hp.rd
  have := len_le h hq
  exact ⟨hp.g, h1, by grind⟩
 ·split at ha
  ·split at ha
   ·injection ha with ha
    subst ha
    exact offR_in h hr _
   ·cases ha
  ·cases ha
theorem mem_srtE {l : List Ed} {e : Ed} : e ∈ srtE l ↔ e ∈ l := by
 unfold srtE
 split
 ·rename_i a b
  split
  ·simp only [List.mem_cons, List.mem_nil_iff, or_false]; exact or_comm
  ·rfl
 ·rfl
theorem srtE_len (l : List Ed) : (srtE l).length = l.length := by
 unfold srtE
 split
 ·split <;> rfl
 ·rfl
/-- The ends of a position, one by one. -/
theorem ends_mem {n : Net} {p : Plc} (hp : PosOK n p) (bf bt : Bool) (e : Ed) : e ∈ (endsN n p bf bt).1 ↔ (∃ x, nodeAtN n p = some x ∧ e = ⟨x, 0⟩) ∨ (nodeAtN n p = none ∧ ((bf = true ∧ e = ⟨((roadOf n.roads p.road).getD rd0).src, p.off⟩) ∨ (bt = true ∧ e = ⟨((roadOf n.roads p.road).getD rd0).dst, (((roadOf n.roads p.road).getD rd0).len : Rat) - p.off⟩))) := by
 unfold endsN
 rw [if_pos hp.chk]
 cases nodeAtN n p with
 | some x => simp
 | none =>
  simp only
  rw [mem_srtE]
  cases bf <;> cases bt <;> simp
theorem ends_few (n : Net) (p : Plc) (bf bt : Bool) : (endsN n p bf bt).1.length ≤ 2 := by
 unfold endsN
 split
 ·split
  ·simp
  ·simp only
   rw [srtE_len]
   cases bf <;> cases bt <;> simp
 ·simp
theorem ends_in {n : Net} (h : GNet n) {p : Plc} (hp : PosOK n p) (bf bt : Bool) {e : Ed} (he : e ∈ (endsN n p bf bt).1) : G64 e.len ∧ 0 ≤ e.len ∧ e.len ≤ 48 := by
 obtain ⟨r, hr, hm, _, h1, h2⟩ := hp.rd
 have hl := len_le h hm
 rcases (ends_mem hp bf bt e).1 he with ⟨x, _, rfl⟩ | ⟨_, ⟨_, rfl⟩ | ⟨_, rfl⟩⟩
 ·exact ⟨g64_zero, by simp only; grind, by simp only; grind⟩
 ·exact ⟨hp.g, h1, by simp only; grind⟩
 ·rw [hr]
  simp only [Option.getD_some]
  exact ⟨g64_sub (g64_int _) hp.g, by grind, by grind⟩
theorem routesF_len {hp : Int → Int → Option (Int × Int)} {ids : List Int} {tgt D : Int} (hD : 0 ≤ D) (hl : ∀ a b rd l, hp a b = some (rd, l) → l ≤ D) : ∀ (f : Nat) (x y : Rte), routesF hp ids tgt f x = some y → y.len ≤ x.len + f * D
 | 0, x, y, h => by
  unfold routesF at h
  split at h
  ·injection h with h; subst h; simp
  ·cases h
 | f + 1, x, y, h => by
  have hf : 0 ≤ (f : Int) * D := Int.mul_nonneg (by omega) hD
  have e : ((f + 1 : Nat) : Int) * D = f * D + D := by rw [Int.natCast_succ, Int.add_mul]; omega
  rw [e]
  unfold routesF at h
  split at h
  ·injection h with h; subst h; omega
  ·have key : ∀ (l : List Int) (acc : Option Rte), (∀ a, acc = some a → a.len ≤ x.len + (f * D + D)) → ∀ y, l.foldl (stepR hp (routesF hp ids tgt f) x) acc = some y → y.len ≤ x.len + (f * D + D) := by
    intro l
    induction l with
    | nil => intro acc ha y hy; exact ha y hy
    | cons q l ih =>
     intro acc ha y hy
     rw [List.foldl_cons] at hy
     refine ih _ (fun a hq => ?_) y hy
     unfold stepR at hq
     split at hq
     ·exact ha a hq
     ·split at hq
      ·exact ha a hq
      ·rename_i rd l' hh
       have hl' := hl _ _ _ _ hh
       unfold pickR at hq
       split at hq
       ·exact ha a hq
       ·rename_i z hz
        have hzl := routesF_len hD hl f _ z hz
        simp only at hzl
        split at hq
        ·injection hq with hq; subst hq; omega
        ·split at hq
         ·injection hq with hq; subst hq; omega
         ·exact ha a hq
   exact key ids none (fun a h => by cases h) y h
/-- A route of a grid is short. -/
theorem rt_in {n : Net} (h : GNet n) {a b : Int} {R : List Hp} {l : Int} (hr : rtN n a b = some (R, l)) : 0 ≤ l ∧ l ≤ 384 ∧ R.length ≤ 8 := by
 have hls := lstN_some h.ok h.few hr
 have h1 := routesF_few 8 _ _ hls
 have h2 := routesF_len (D := 48) (by decide) (fun a b rd l hh => by
  obtain ⟨g, hg, _, _, e⟩ := hp2_back h.ok.roads (finA_of n a) hh
  obtain ⟨r, hr, _, e2, _⟩ := hop_road (finA_of n) hg
  have := (h.len r hr).2
  omega) 8 _ _ hls
 obtain ⟨hd, _⟩ := route_at ((rtN_of n a b R l).1 hr)
 have h3 := (grd_n h.ok b).nonneg a l hd
 simp only [List.length_cons, List.length_map, List.length_nil] at h1
 simp only at h2
 omega
theorem ahead_in {n : Net} (h : GNet n) {p q : Plc} (hp : PosOK n p) (hq : PosOK n q) {l : Rat} (hl : aheadN n p q = some l) : G64 l ∧ 0 ≤ l ∧ l ≤ 48 := by
 unfold aheadN at hl
 split at hl
 ·cases hl
 ·split at hl
  ·injection hl with hl
   subst hl
   exact ⟨g64_zero, by grind, by grind⟩
  ·have key : ∀ (rs : List Rd) (acc : Option Rat), (∀ r ∈ rs, r ∈ n.roads) → (∀ x, acc = some x → G64 x ∧ 0 ≤ x ∧ x ≤ 48) → ∀ x, rs.foldl (aheadStep n p q) acc = some x → G64 x ∧ 0 ≤ x ∧ x ≤ 48 := by
    intro rs
    induction rs with
    | nil => intro acc _ ha x hx; exact ha x hx
    | cons r rs ih =>
     intro acc hm ha x hx
     rw [List.foldl_cons] at hx
     refine ih _ (fun r hr => hm r (List.mem_cons_of_mem _ hr)) (fun y hy => ?_) x hx
     have hr := hm r List.mem_cons_self
     unfold aheadStep at hy
     split at hy
     ·rename_i a b e1 e2
      obtain ⟨a1, a2, a3⟩ := offs_in h hp hr e1
      obtain ⟨b1, b2, b3⟩ := offs_in h hq hr e2
      have hab : G64 (absR (b - a)) ∧ 0 ≤ absR (b - a) ∧ absR (b - a) ≤ 48 := by
       refine ⟨g64_abs (g64_sub b1 a1), ?_, ?_⟩ <;> (rw [absR_eq]; split <;> grind)
      unfold aheadAdd at hy
      split at hy
      ·exact ha y hy
      ·split at hy
       ·injection hy with hy; subst hy; exact hab
       ·split at hy
        ·injection hy with hy; subst hy; exact hab
        ·exact ha y hy
     ·exact ha y hy
   exact key n.roads none (fun r hr => hr) (fun x hx => by cases hx) l hl
/-- What Between looks at is small. -/
theorem geo_fit {n : Net} (h : GNet n) {p q : Plc} (hp : PosOK n p) (hq : PosOK n q) : BwFit n (rtN n) p q where
 hp := by obtain ⟨r, _, hm, _, h1, h2⟩ := hp.rd; have := len_le h hm; exact sm_g64 hp.g (by grind) (by grind)
 hq := by obtain ⟨r, _, hm, _, h1, h2⟩ := hq.rd; have := len_le h hm; exact sm_g64 hq.g (by grind) (by grind)
 near := fun r hr a b ha hb => by
  obtain ⟨a1, a2, a3⟩ := offs_in h hp hr ha
  obtain ⟨b1, b2, b3⟩ := offs_in h hq hr hb
  exact sm_g64 (g64_sub b1 a1) (by grind) (by grind)
 fit := fun a ha b hb => by
  obtain ⟨a1, a2, a3⟩ := ends_in h hp _ _ ha
  obtain ⟨b1, b2, b3⟩ := ends_in h hq _ _ hb
  exact ⟨sm_g64 a1 (by grind) (by grind), sm_g64 b1 (by grind) (by grind), sm_g64 (g64_add a1 b1) (by grind) (by grind), fun R l hr => by have := rt_in h hr; omega⟩
 few1 := ends_few _ _ _ _
 few2 := ends_few _ _ _ _
 lens := fun c hc => by
  unfold choicesN at hc
  obtain ⟨a, ha, hc⟩ := List.mem_flatMap.1 hc
  obtain ⟨b, hb, hc⟩ := List.mem_filterMap.1 hc
  obtain ⟨a1, a2, a3⟩ := ends_in h hp _ _ ha
  obtain ⟨b1, b2, b3⟩ := ends_in h hq _ _ hb
  unfold chcOf at hc
  split at hc
  ·cases hc
  ·rename_i R l hr
   injection hc with hc
   subst hc
   obtain ⟨l1, l2, l3⟩ := rt_in h hr
   have l1' : (0 : Rat) ≤ (l : Rat) := Rat.intCast_le_intCast.2 l1
   have l2' : (l : Rat) ≤ 384 := Rat.intCast_le_intCast.2 l2
   exact ⟨sm_g64 (g64_add (g64_add a1 b1) (g64_int l)) (by grind) (by grind), sm_g64 a1 (by grind) (by grind), sm_g64 b1 (by grind) (by grind), by simp only; omega⟩
 ahead := fun l hl => by
  obtain ⟨l1, l2, l3⟩ := ahead_in h hp hq hl
  exact sm_g64 l1 (by grind) (by grind)
end Go.Proofs.YtcelpkbmcmnogaaGreatDoor
namespace Go.Proofs.YtcelpkbmcmnogaaGreatDoor
open Go Go.Vi
theorem road_id {n : Net} (h : GNet n) {r q : Rd} (hr : r ∈ n.roads) (hq : q ∈ n.roads) (e : r.id = q.id) : r = q := by
 have h1 := roadOf_mem h.ok.roads hr
 have h2 := roadOf_mem h.ok.roads hq
 rw [e, h2] at h1
 exact (Option.some.inj h1).symm
theorem road_ne {n : Net} (h : GNet n) {r : Rd} (hr : r ∈ n.roads) : r.src ≠ r.dst := (roadErr_zero (h.ok.road r hr).2).2.2.2
theorem road_nodes {n : Net} (h : GNet n) {r : Rd} (hr : r ∈ n.roads) : (nodeOf n.nodes r.src).isSome = true ∧ (nodeOf n.nodes r.dst).isSome = true := (roadErr_zero (h.ok.road r hr).2).2.2.1
theorem offR_src (r : Rd) : offR r r.src = 0 := by unfold offR; rw [if_pos rfl]
theorem offR_dst {n : Net} (h : GNet n) {r : Rd} (hr : r ∈ n.roads) : offR r r.dst = (r.len : Rat) := by unfold offR; rw [if_neg (road_ne h hr)]
def onR (r : Rd) (x : Int) : Prop := r.src = x ∨ r.dst = x
instance (r : Rd) (x : Int) : Decidable (onR r x) := inferInstanceAs (Decidable (_ ∨ _))
/-- Where a position is: at a node, or inside a road. -/
theorem view {n : Net} (h : GNet n) {p : Plc} (hp : PosOK n p) :
  (∃ x, nodeAtN n p = some x ∧ (∃ r ∈ n.roads, onR r x) ∧ (∀ r ∈ n.roads, offsN n r p = if onR r x then some (offR r x) else none) ∧ ∃ r ∈ n.roads, roadOf n.roads p.road = some r ∧ onR r x ∧ p.off = offR r x) ∨
  (nodeAtN n p = none ∧ ∃ r ∈ n.roads, roadOf n.roads p.road = some r ∧ 0 < p.off ∧ p.off < (r.len : Rat) ∧ ∀ q ∈ n.roads, offsN n q p = if q.id = r.id then some p.off else none) := by
 obtain ⟨r, hr, hm, hid, h1, h2⟩ := hp.rd
 have hl := len_le h hm
 have hn : nodeAtN n p = if p.off = offR r r.src then some r.src else if p.off = offR r r.dst then some r.dst else none := by
  unfold nodeAtN
  rw [if_pos hp.chk, hr]
 have same : ∀ q ∈ n.roads, p.road = q.id ↔ q = r := fun q hq => ⟨fun e => road_id h hq hm (by rw [← e, hid]), fun e => by rw [e, hid]⟩
 have atn : ∀ x, nodeAtN n p = some x → p.off = offR r x → onR r x → (∀ q ∈ n.roads, offsN n q p = if onR q x then some (offR q x) else none) := fun x hx ho hon q hq => by
  unfold offsN
  by_cases hqr : p.road = q.id
  ·rw [if_pos hqr]
   have := (same q hq).1 hqr
   subst this
   rw [if_pos hon, ho]
  ·rw [if_neg hqr, hx]
   rfl
 by_cases e1 : p.off = offR r r.src
 ·rw [if_pos e1] at hn
  exact .inl ⟨r.src, hn, ⟨r, hm, .inl rfl⟩, atn _ hn e1 (.inl rfl), r, hm, hr, .inl rfl, e1⟩
 ·rw [if_neg e1] at hn
  by_cases e2 : p.off = offR r r.dst
  ·rw [if_pos e2] at hn
   exact .inl ⟨r.dst, hn, ⟨r, hm, .inr rfl⟩, atn _ hn e2 (.inr rfl), r, hm, hr, .inr rfl, e2⟩
  ·rw [if_neg e2] at hn
   rw [offR_src] at e1
   rw [offR_dst h hm] at e2
   refine .inr ⟨hn, r, hm, hr, by grind, by grind, fun q hq => ?_⟩
   unfold offsN
   by_cases hqr : p.road = q.id
   ·rw [if_pos hqr, if_pos (by rw [← hqr, hid])]
   ·rw [if_neg hqr, hn, if_neg (fun e => hqr (by rw [e, hid]))]
/-- The position of a node at which a road begins or ends. -/
theorem at_pos {n : Net} (h : GNet n) {x : Int} (hx : ∃ r ∈ n.roads, onR r x) : (atN n x).2 = 0 ∧ PosOK n (atN n x).1 ∧ nodeAtN n (atN n x).1 = some x := by
 have hnode : (nodeOf n.nodes x).isSome = true := by
  obtain ⟨r, hr, e | e⟩ := hx
  ·rw [← e]; exact (road_nodes h hr).1
  ·rw [← e]; exact (road_nodes h hr).2
 unfold atN
 rw [if_pos hnode]
 cases hf : n.roads.find? (fun r => r.src == x || r.dst == x) with
 | none =>
  obtain ⟨r, hr, e⟩ := hx
  have := List.find?_eq_none.1 hf r hr
  exfalso
  apply this
  rcases e with e | e <;> simp [e]
 | some r =>
  have h1 := List.find?_some hf
  have hm := List.mem_of_find?_eq_some hf
  have hl := len_le h hm
  have hro := roadOf_mem h.ok.roads hm
  have hon : onR r x := by
   simp only [Bool.or_eq_true, beq_iff_eq] at h1
   exact h1
  have hof := offR_in h hm x
  have hchk : chkP n ⟨r.id, offR r x⟩ = 0 := by
   unfold chkP
   simp only
   rw [hro]
   simp only
   rw [if_neg (fun hh => by have := num_lt.1 hh; grind), if_neg (fun hh => by
    unfold offR at hh
    split at hh <;> grind)]
  refine ⟨rfl, ⟨hchk, hof.1⟩, ?_⟩
  unfold nodeAtN
  simp only
  rw [if_pos hchk, hro]
  simp only
  rcases hon with e | e
  ·subst e; rw [if_pos rfl]
  ·subst e
   have hne : ¬ offR r r.dst = offR r r.src := by
    rw [offR_src, offR_dst h hm]
    grind
   rw [if_neg hne, if_pos rfl]
theorem same_iff {n : Net} (h : GNet n) {p q : Plc} (hp : PosOK n p) (hq : PosOK n q) : sameN n p q = true ↔ (∃ x, nodeAtN n p = some x ∧ nodeAtN n q = some x) ∨ (nodeAtN n p = none ∧ nodeAtN n q = none ∧ p = q) := by
 have nrm : ∀ {p : Plc}, PosOK n p → (normN n p).2 = 0 ∧ (∀ x, nodeAtN n p = some x → (normN n p).1 = (atN n x).1) ∧ (nodeAtN n p = none → (normN n p).1 = p) := fun {p} hp => by
  rcases view h hp with ⟨x, hx, hr, _⟩ | ⟨hx, _⟩
  ·have e : normN n p = atN n x := by unfold normN; rw [if_pos hp.chk, hx]
   rw [e]
   exact ⟨(at_pos h hr).1, fun y hy => by rw [hx] at hy; injection hy with hy; rw [hy], fun hy => by rw [hx] at hy; cases hy⟩
  ·have e : normN n p = (p, 0) := by unfold normN; rw [if_pos hp.chk, hx]
   rw [e]
   exact ⟨rfl, (fun y hy => by rw [hx] at hy; cases hy), fun _ => rfl⟩
 obtain ⟨p1, p2, p3⟩ := nrm hp
 obtain ⟨q1, q2, q3⟩ := nrm hq
 have hs : sameN n p q = true ↔ (normN n p).1 = (normN n q).1 := by
  unfold sameN
  rw [p1, q1]
  simp only [beq_self_eq_true, Bool.true_and, Bool.and_eq_true, decide_eq_true_eq]
  constructor
  ·rintro ⟨e1, e2⟩
   generalize (normN n p).1 = a at *
   generalize (normN n q).1 = b at *
   cases a; cases b
   simp only at e1 e2
   rw [e1, e2]
  ·intro e; rw [e]; exact ⟨rfl, rfl⟩
 rw [hs]
 rcases view h hp with ⟨x, hx, hrx, _⟩ | ⟨hx, _⟩ <;> rcases view h hq with ⟨y, hy, hry, _⟩ | ⟨hy, _⟩
 ·rw [p2 x hx, q2 y hy, hx, hy]
  constructor
  ·intro e
   have a1 := (at_pos h hrx).2.2
   rw [e, (at_pos h hry).2.2] at a1
   injection a1 with a1
   exact .inl ⟨x, rfl, by rw [a1]⟩
  ·rintro (⟨z, e1, e2⟩ | ⟨e1, _⟩)
   ·injection e1 with e1
    injection e2 with e2
    rw [e1, e2]
   ·cases e1
 ·rw [p2 x hx, q3 hy, hx, hy]
  constructor
  ·intro e
   have a1 := (at_pos h hrx).2.2
   rw [e, hy] at a1
   cases a1
  ·rintro (⟨z, _, e2⟩ | ⟨e1, _⟩)
   ·cases e2
   ·cases e1
 ·rw [p3 hx, q2 y hy, hx, hy]
  constructor
  ·intro e
   have a1 := (at_pos h hry).2.2
   rw [← e, hx] at a1
   cases a1
  ·rintro (⟨z, e1, _⟩ | ⟨_, e2, _⟩)
   ·cases e1
   ·cases e2
 ·rw [p3 hx, q3 hy, hx, hy]
  constructor
  ·intro e; exact .inr ⟨rfl, rfl, e⟩
  ·rintro (⟨z, e1, _⟩ | ⟨_, _, e⟩)
   ·cases e1
   ·exact e
/-! Distances of nodes. -/
theorem revB_pos {n : Net} (h : GNet n) : ∀ u, ∀ g ∈ finA n.rev u, 0 ≤ g.len := fun u g hg => by
 have e := hp2_of (srtR_rev h.ok.roads) (finA_of n.rev u) hg
 have e2 : hp2 n g.dst u = some (g.road, g.len) := by unfold hp2 at e ⊢; rw [hopN_rev] at e; exact e
 obtain ⟨k, hk, _, _, e3⟩ := hp2_back h.ok.roads (finA_of n g.dst) e2
 have := (h.ok.hop (finA_of n) _ k hk).1
 omega
/-! Moves along one road. -/
def Mv (n : Net) (p q : Plc) (d : Rat) : Prop := ∃ r ∈ n.roads, ∃ a b, offsN n r p = some a ∧ offsN n r q = some b ∧ (r.one = true → a ≤ b) ∧ d = absR (b - a)
theorem absR_nonneg (a : Rat) : 0 ≤ absR a := by rw [absR_eq]; split <;> grind
theorem Mv.nonneg {n : Net} {p q : Plc} {d : Rat} (h : Mv n p q d) : 0 ≤ d := by
 obtain ⟨r, _, a, b, _, _, _, rfl⟩ := h
 exact absR_nonneg _
/-- The search along single roads finds the least move. -/
theorem ahead_iff {n : Net} {p q : Plc} (hp : chkP n p = 0) (hq : chkP n q = 0) (hs : sameN n p q = false) : (∀ l, aheadN n p q = some l → Mv n p q l ∧ ∀ d, Mv n p q d → l ≤ d) ∧ (aheadN n p q = none → ∀ d, ¬Mv n p q d) := by
 have e : aheadN n p q = n.roads.foldl (aheadStep n p q) none := by
  unfold aheadN
  rw [if_neg (by rw [hp, hq]; simp), if_neg (by rw [hs]; simp)]
 rw [e]
 let M := fun (rs : List Rd) (d : Rat) => ∃ r ∈ rs, ∃ a b, offsN n r p = some a ∧ offsN n r q = some b ∧ (r.one = true → a ≤ b) ∧ d = absR (b - a)
 have key : ∀ (rs : List Rd) (acc : Option Rat) (Z : Rat → Prop), (∀ l, acc = some l → Z l ∧ ∀ d, Z d → l ≤ d) → (acc = none → ∀ d, ¬Z d) →
   (∀ l, rs.foldl (aheadStep n p q) acc = some l → (Z l ∨ M rs l) ∧ ∀ d, (Z d ∨ M rs d) → l ≤ d) ∧ (rs.foldl (aheadStep n p q) acc = none → ∀ d, ¬(Z d ∨ M rs d)) := by
  intro rs
  induction rs with
  | nil =>
   intro acc Z h1 h2
   refine ⟨fun l hl => ⟨.inl (h1 l hl).1, fun d hd => ?_⟩, fun hn d hd => ?_⟩
   ·rcases hd with hd | ⟨r, hr, _⟩
    ·exact (h1 l hl).2 d hd
    ·cases hr
   ·rcases hd with hd | ⟨r, hr, _⟩
    ·exact h2 hn d hd
    ·cases hr
  | cons r rs ih =>
   intro acc Z h1 h2
   rw [List.foldl_cons]
   have Mr : ∀ d, (Z d ∨ M (r :: rs) d) ↔ ((Z d ∨ ∃ a b, offsN n r p = some a ∧ offsN n r q = some b ∧ (r.one = true → a ≤ b) ∧ d = absR (b - a)) ∨ M rs d) := fun d => by
    constructor
    ·rintro (hz | ⟨s, hs, hh⟩)
     ·exact .inl (.inl hz)
     ·rcases List.mem_cons.1 hs with rfl | hs
      ·exact .inl (.inr hh)
      ·exact .inr ⟨s, hs, hh⟩
    ·rintro ((hz | hh) | ⟨s, hs, hh⟩)
     ·exact .inl hz
     ·exact .inr ⟨r, List.mem_cons_self, hh⟩
     ·exact .inr ⟨s, List.mem_cons_of_mem _ hs, hh⟩
   have := ih (aheadStep n p q acc r) (fun d => Z d ∨ ∃ a b, offsN n r p = some a ∧ offsN n r q = some b ∧ (r.one = true → a ≤ b) ∧ d = absR (b - a)) ?_ ?_
   ·obtain ⟨i1, i2⟩ := this
    refine ⟨fun l hl => ?_, fun hn d hd => i2 hn d ((Mr d).1 hd)⟩
    obtain ⟨j1, j2⟩ := i1 l hl
    exact ⟨(Mr l).2 j1, fun d hd => j2 d ((Mr d).1 hd)⟩
   ·intro l hl
    unfold aheadStep at hl
    cases ha : offsN n r p with
    | none =>
     rw [ha] at hl
     obtain ⟨z1, z2⟩ := h1 l hl
     exact ⟨.inl z1, fun d hd => by rcases hd with hd | ⟨a, b, q1, _⟩; exact z2 d hd; cases q1⟩
    | some a =>
     cases hb : offsN n r q with
     | none =>
      rw [ha, hb] at hl
      obtain ⟨z1, z2⟩ := h1 l hl
      exact ⟨.inl z1, fun d hd => by rcases hd with hd | ⟨a, b, _, q2, _⟩; exact z2 d hd; cases q2⟩
     | some b =>
      rw [ha, hb] at hl
      simp only at hl
      unfold aheadAdd at hl
      by_cases hc : r.one = true ∧ (b - a).num < 0
      ·rw [if_pos hc] at hl
       obtain ⟨z1, z2⟩ := h1 l hl
       refine ⟨.inl z1, fun d hd => ?_⟩
       rcases hd with hd | ⟨a', b', q1, q2, q3, _⟩
       ·exact z2 d hd
       ·injection q1 with q1; injection q2 with q2
        subst q1; subst q2
        have := q3 hc.1
        have := num_lt.1 hc.2
        grind
      ·rw [if_neg hc] at hl
       have hdir : r.one = true → a ≤ b := fun ho => by
        have : ¬(b - a).num < 0 := fun hh => hc ⟨ho, hh⟩
        rw [num_lt] at this
        grind
       cases acc with
       | none =>
        simp only at hl
        injection hl with hl
        subst hl
        refine ⟨.inr ⟨a, b, rfl, rfl, hdir, rfl⟩, fun d hd => ?_⟩
        rcases hd with hd | ⟨a', b', q1, q2, _, q4⟩
        ·exact absurd hd (h2 rfl d)
        ·injection q1 with q1; injection q2 with q2
         subst q1; subst q2
         rw [q4]; exact Rat.le_refl
       | some l0 =>
        simp only at hl
        obtain ⟨z1, z2⟩ := h1 l0 rfl
        have hcm : cmpR (absR (b - a)) l0 < 0 ↔ absR (b - a) < l0 := by unfold cmpR; split <;> (try split) <;> grind
        by_cases hlt : cmpR (absR (b - a)) l0 < 0
        ·rw [if_pos hlt] at hl
         injection hl with hl
         subst hl
         have := hcm.1 hlt
         refine ⟨.inr ⟨a, b, rfl, rfl, hdir, rfl⟩, fun d hd => ?_⟩
         rcases hd with hd | ⟨a', b', q1, q2, _, q4⟩
         ·have := z2 d hd; grind
         ·injection q1 with q1; injection q2 with q2
          subst q1; subst q2
          rw [q4]; exact Rat.le_refl
        ·rw [if_neg hlt] at hl
         injection hl with hl
         subst hl
         refine ⟨.inl z1, fun d hd => ?_⟩
         rcases hd with hd | ⟨a', b', q1, q2, _, q4⟩
         ·exact z2 d hd
         ·injection q1 with q1; injection q2 with q2
          subst q1; subst q2
          rw [q4]
          exact Rat.not_lt.1 (fun hh => hlt (hcm.2 hh))
   ·intro hn d hd
    unfold aheadStep at hn
    cases ha : offsN n r p with
    | none =>
     rw [ha] at hn
     rcases hd with hd | ⟨a, b, q1, _⟩
     ·exact h2 hn d hd
     ·rw [ha] at q1; cases q1
    | some a =>
     cases hb : offsN n r q with
     | none =>
      rw [ha, hb] at hn
      rcases hd with hd | ⟨a, b, _, q2, _⟩
      ·exact h2 hn d hd
      ·rw [hb] at q2; cases q2
     | some b =>
      rw [ha, hb] at hn
      simp only at hn
      unfold aheadAdd at hn
      by_cases hc : r.one = true ∧ (b - a).num < 0
      ·rw [if_pos hc] at hn
       rcases hd with hd | ⟨a', b', q1, q2, q3, _⟩
       ·exact h2 hn d hd
       ·rw [ha] at q1; rw [hb] at q2
        injection q1 with q1; injection q2 with q2
        subst q1; subst q2
        have := q3 hc.1
        have := num_lt.1 hc.2
        grind
      ·rw [if_neg hc] at hn
       exfalso
       cases acc with
       | none => simp only at hn; cases hn
       | some l0 => simp only at hn; split at hn <;> cases hn
 have := key n.roads none (fun _ => False) (fun l hl => by cases hl) (fun _ d hd => hd)
 obtain ⟨i1, i2⟩ := this
 refine ⟨fun l hl => ?_, fun hn d hd => i2 hn d (.inr hd)⟩
 obtain ⟨j1, j2⟩ := i1 l hl
 refine ⟨?_, fun d hd => j2 d (.inr hd)⟩
 rcases j1 with j1 | j1
 ·exact j1.elim
 ·exact j1
end Go.Proofs.YtcelpkbmcmnogaaGreatDoor
namespace Go.Proofs.YtcelpkbmcmnogaaGreatDoor
open Go Go.Vi
noncomputable def dstN (n : Net) (p q : Plc) : Option Rat := if (betweenN n (rtN n) p q).2 = 0 then some (betweenN n (rtN n) p q).1.len else none
/-- A way over an exit and an entry. -/
def Chx (n : Net) (p q : Plc) (d : Rat) : Prop := ∃ e ∈ (exitsN n p).1, ∃ f ∈ (entriesN n q).1, ∃ R l, rtN n e.node f.node = some (R, l) ∧ d = e.len + f.len + (l : Rat)
theorem ch_mem {n : Net} {p q : Plc} {c : Chc} : c ∈ choicesN (rtN n) (exitsN n p).1 (entriesN n q).1 ↔ ∃ e ∈ (exitsN n p).1, ∃ f ∈ (entriesN n q).1, ∃ R l, rtN n e.node f.node = some (R, l) ∧ c = ⟨e.len + f.len + (l : Rat), R, l, e, f⟩ := by
 unfold choicesN
 rw [List.mem_flatMap]
 constructor
 ·rintro ⟨e, he, hc⟩
  obtain ⟨f, hf, hc⟩ := List.mem_filterMap.1 hc
  unfold chcOf at hc
  cases hr : rtN n e.node f.node with
  | none => rw [hr] at hc; cases hc
  | some Rl =>
   obtain ⟨R, l⟩ := Rl
   rw [hr] at hc
   injection hc with hc
   exact ⟨e, he, f, hf, R, l, hr, hc.symm⟩
 ·rintro ⟨e, he, f, hf, R, l, hr, rfl⟩
  exact ⟨e, he, List.mem_filterMap.2 ⟨f, hf, by unfold chcOf; rw [hr]⟩⟩
theorem chCmp_neg {a b : Chc} (h : chCmp a b < 0) : a.len ≤ b.len := by
 unfold chCmp at h
 simp only [orI] at h
 by_cases h1 : a.len < b.len
 ·grind
 ·by_cases h2 : b.len < a.len
  ·have : cmpR a.len b.len = 1 := by unfold cmpR; rw [if_neg h1, if_pos h2]
   rw [this] at h
   simp at h
  ·grind
theorem chCmp_not {a b : Chc} (h : ¬chCmp a b < 0) : b.len ≤ a.len := by
 unfold chCmp at h
 simp only [orI] at h
 by_cases h1 : a.len < b.len
 ·have : cmpR a.len b.len = -1 := by unfold cmpR; rw [if_pos h1]
  rw [this] at h
  simp at h
 ·grind
def leaS (acc : Option Chc) (x : Chc) : Option Chc := match acc with
 | none => some x
 | some b => if chCmp x b < 0 then some x else some b
theorem leastC_def (L : List Chc) : leastC L = L.foldl leaS none := by
 unfold leastC
 congr 1
theorem leastC_spec (L : List Chc) : (∀ c, leastC L = some c → c ∈ L ∧ ∀ c' ∈ L, c.len ≤ c'.len) ∧ (leastC L = none → L = []) := by
 have key : ∀ (L : List Chc) (acc : Option Chc) (Z : List Chc), (∀ c, acc = some c → c ∈ Z ∧ ∀ c' ∈ Z, c.len ≤ c'.len) → (acc = none → Z = []) →
   (∀ c, L.foldl leaS acc = some c → c ∈ Z ++ L ∧ ∀ c' ∈ Z ++ L, c.len ≤ c'.len) ∧ (L.foldl leaS acc = none → Z ++ L = []) := by
  intro L
  induction L with
  | nil => intro acc Z h1 h2; simpa using ⟨h1, h2⟩
  | cons x L ih =>
   intro acc Z h1 h2
   rw [List.foldl_cons]
   have e : Z ++ x :: L = (Z ++ [x]) ++ L := by simp
   rw [e]
   refine ih _ (Z ++ [x]) (fun c hc => ?_) (fun hn => ?_)
   ·cases acc with
    | none =>
     simp only [leaS] at hc
     injection hc with hc
     subst hc
     rw [h2 rfl]
     exact ⟨by simp, fun c' hc' => by simp at hc'; subst hc'; exact Rat.le_refl⟩
    | some b =>
     obtain ⟨z1, z2⟩ := h1 b rfl
     simp only [leaS] at hc
     split at hc
     ·rename_i hlt
      injection hc with hc
      subst hc
      have := chCmp_neg hlt
      refine ⟨by simp, fun c' hc' => ?_⟩
      rcases List.mem_append.1 hc' with hc' | hc'
      ·have := z2 c' hc'; grind
      ·simp at hc'; subst hc'; exact Rat.le_refl
     ·rename_i hlt
      injection hc with hc
      subst hc
      have := chCmp_not hlt
      refine ⟨List.mem_append_left _ z1, fun c' hc' => ?_⟩
      rcases List.mem_append.1 hc' with hc' | hc'
      ·exact z2 c' hc'
      ·simp at hc'; subst hc'; exact this
   ·cases acc with
    | none => simp only [leaS] at hn; cases hn
    | some b => simp only [leaS] at hn; split at hn <;> cases hn
 have := key L none [] (fun c h => by cases h) (fun _ => rfl)
 rw [leastC_def]
 simpa using this
theorem dst_same {n : Net} {p q : Plc} (hp : PosOK n p) (hq : PosOK n q) (hs : sameN n p q = true) : betweenN n (rtN n) p q = (⟨p, q, [], 0⟩, 0) := by
 unfold betweenN
 rw [if_neg (by rw [hp.chk, hq.chk]; decide), if_pos hs]
/-- What Between finds. -/
theorem bw_spec {n : Net} {p q : Plc} (hp : PosOK n p) (hq : PosOK n q) (hs : sameN n p q = false) : ((betweenN n (rtN n) p q).2 = 0 ∨ (betweenN n (rtN n) p q = (wyz, 31))) ∧ (∀ d, dstN n p q = some d → (Mv n p q d ∨ Chx n p q d) ∧ ∀ d', Mv n p q d' ∨ Chx n p q d' → d ≤ d') ∧ (dstN n p q = none → ∀ d', ¬(Mv n p q d' ∨ Chx n p q d')) := by
 obtain ⟨a1, a2⟩ := ahead_iff hp.chk hq.chk hs
 obtain ⟨c1, c2⟩ := leastC_spec (choicesN (rtN n) (exitsN n p).1 (entriesN n q).1)
 have e : betweenN n (rtN n) p q = match aheadN n p q, leastC (choicesN (rtN n) (exitsN n p).1 (entriesN n q).1) with
  | some l, none => (⟨p, q, (alongN n p q l).toList, l⟩, 0)
  | some l, some c => if cmpR l c.len ≤ 0 then (⟨p, q, (alongN n p q l).toList, l⟩, 0) else (⟨p, q, legsN n c p q, c.len⟩, 0)
  | none, none => (wyz, 31)
  | none, some c => (⟨p, q, legsN n c p q, c.len⟩, 0) := by
  unfold betweenN
  rw [if_neg (by rw [hp.chk, hq.chk]; decide), if_neg (by rw [hs]; simp)]
  cases aheadN n p q <;> cases leastC (choicesN (rtN n) (exitsN n p).1 (entriesN n q).1) <;> rfl
 have chx : ∀ c ∈ choicesN (rtN n) (exitsN n p).1 (entriesN n q).1, Chx n p q c.len := fun c hc => by
  obtain ⟨e, he, f, hf, R, l, hr, rfl⟩ := ch_mem.1 hc
  exact ⟨e, he, f, hf, R, l, hr, rfl⟩
 have chx' : ∀ d, Chx n p q d → ∃ c ∈ choicesN (rtN n) (exitsN n p).1 (entriesN n q).1, c.len = d := fun d ⟨e, he, f, hf, R, l, hr, hd⟩ => ⟨_, ch_mem.2 ⟨e, he, f, hf, R, l, hr, rfl⟩, hd.symm⟩
 unfold dstN
 cases ha : aheadN n p q with
 | none =>
  have hno := a2 ha
  cases hc : leastC (choicesN (rtN n) (exitsN n p).1 (entriesN n q).1) with
  | none =>
   rw [ha, hc] at e
   rw [e]
   refine ⟨.inr rfl, fun d hd => by simp at hd, fun _ d' hd' => ?_⟩
   rcases hd' with hd' | hd'
   ·exact hno d' hd'
   ·obtain ⟨c, hcm, _⟩ := chx' d' hd'
    rw [c2 hc] at hcm
    cases hcm
  | some c =>
   rw [ha, hc] at e
   rw [e]
   obtain ⟨k1, k2⟩ := c1 c hc
   refine ⟨.inl rfl, fun d hd => ?_, fun h => by simp at h⟩
   simp only [if_true] at hd
   injection hd with hd
   subst hd
   refine ⟨.inr (chx c k1), fun d' hd' => ?_⟩
   rcases hd' with hd' | hd'
   ·exact absurd hd' (hno d')
   ·obtain ⟨c', hcm, rfl⟩ := chx' d' hd'
    exact k2 c' hcm
 | some l =>
  obtain ⟨m1, m2⟩ := a1 l ha
  cases hc : leastC (choicesN (rtN n) (exitsN n p).1 (entriesN n q).1) with
  | none =>
   rw [ha, hc] at e
   rw [e]
   refine ⟨.inl rfl, fun d hd => ?_, fun h => by simp at h⟩
   simp only [if_true] at hd
   injection hd with hd
   subst hd
   refine ⟨.inl m1, fun d' hd' => ?_⟩
   rcases hd' with hd' | hd'
   ·exact m2 d' hd'
   ·obtain ⟨c, hcm, _⟩ := chx' d' hd'
    rw [c2 hc] at hcm
    cases hcm
  | some c =>
   rw [ha, hc] at e
   simp only at e
   obtain ⟨k1, k2⟩ := c1 c hc
   by_cases hl : cmpR l c.len ≤ 0
   ·rw [if_pos hl] at e
    rw [e]
    have hl' : l ≤ c.len := by unfold cmpR at hl; split at hl <;> (try split at hl) <;> (first | grind | omega)
    refine ⟨.inl rfl, fun d hd => ?_, fun h => by simp at h⟩
    simp only [if_true] at hd
    injection hd with hd
    subst hd
    refine ⟨.inl m1, fun d' hd' => ?_⟩
    rcases hd' with hd' | hd'
    ·exact m2 d' hd'
    ·obtain ⟨c', hcm, rfl⟩ := chx' d' hd'
     have := k2 c' hcm
     grind
   ·rw [if_neg hl] at e
    rw [e]
    have hl' : c.len ≤ l := by
     unfold cmpR at hl
     by_cases h1 : l < c.len
     ·rw [if_pos h1] at hl; exact absurd (by decide) hl
     ·grind
    refine ⟨.inl rfl, fun d hd => ?_, fun h => by simp at h⟩
    simp only [if_true] at hd
    injection hd with hd
    subst hd
    refine ⟨.inr (chx c k1), fun d' hd' => ?_⟩
    rcases hd' with hd' | hd'
    ·have := m2 d' hd'; grind
    ·obtain ⟨c', hcm, rfl⟩ := chx' d' hd'
     exact k2 c' hcm
theorem inc_node {n : Net} (h : GNet n) {x : Int} (hx : ∃ r ∈ n.roads, onR r x) : (nodeOf n.nodes x).isSome = true := by
 obtain ⟨r, hr, e | e⟩ := hx
 ·rw [← e]; exact (road_nodes h hr).1
 ·rw [← e]; exact (road_nodes h hr).2
/-- Where a position on a road is seen from it. -/
theorem on_road {n : Net} (h : GNet n) {p : Plc} (hp : PosOK n p) {r : Rd} (hr : r ∈ n.roads) {a : Rat} (ha : offsN n r p = some a) : (∃ x, nodeAtN n p = some x ∧ onR r x ∧ a = offR r x) ∨ (nodeAtN n p = none ∧ roadOf n.roads p.road = some r ∧ a = p.off ∧ 0 < a ∧ a < (r.len : Rat)) := by
 rcases view h hp with ⟨x, hx, _, ho, _⟩ | ⟨hx, q, hq, hqr, h1, h2, ho⟩
 ·rw [ho r hr] at ha
  split at ha
  ·rename_i hon
   injection ha with ha
   exact .inl ⟨x, hx, hon, ha.symm⟩
  ·cases ha
 ·rw [ho r hr] at ha
  split at ha
  ·rename_i e
   have := road_id h hr hq e
   subst this
   injection ha with ha
   subst ha
   exact .inr ⟨hx, hqr, rfl, h1, h2⟩
  ·cases ha
theorem offs_same {n : Net} (h : GNet n) {q t : Plc} (hq : PosOK n q) (ht : PosOK n t) (hs : sameN n q t = true) {r : Rd} (hr : r ∈ n.roads) : offsN n r q = offsN n r t := by
 rcases (same_iff h hq ht).1 hs with ⟨x, h1, h2⟩ | ⟨_, _, rfl⟩
 ·rcases view h hq with ⟨y, hy, _, o1, _⟩ | ⟨hy, _⟩
  ·rcases view h ht with ⟨z, hz, _, o2, _⟩ | ⟨hz, _⟩
   ·rw [h1] at hy; injection hy with hy; subst hy
    rw [h2] at hz; injection hz with hz; subst hz
    rw [o1 r hr, o2 r hr]
   ·rw [h2] at hz; cases hz
  ·rw [h1] at hy; cases hy
 ·rfl
/-- A sequence of moves. -/
inductive Trav (n : Net) : Plc → Plc → Rat → Prop
 | nil {p : Plc} : PosOK n p → Trav n p p 0
 | cons {p q t : Plc} {d e : Rat} : PosOK n p → Mv n p q d → Trav n q t e → Trav n p t (d + e)
theorem Trav.pos {n : Net} {p q : Plc} {d : Rat} (h : Trav n p q d) : PosOK n p ∧ PosOK n q ∧ 0 ≤ d := by
 induction h with
 | nil h => exact ⟨h, h, Rat.le_refl⟩
 | cons h1 h2 _ ih => exact ⟨h1, ih.2.1, by have := h2.nonneg; have := ih.2.2; grind⟩
theorem Trav.append {n : Net} {p q t : Plc} {d e : Rat} (h1 : Trav n p q d) (h2 : Trav n q t e) : Trav n p t (d + e) := by
 induction h1 with
 | nil h => rw [Rat.zero_add]; exact h2
 | cons k1 k2 _ ih => rw [Rat.add_assoc]; exact .cons k1 k2 (ih h2)
theorem offs_at {n : Net} (h : GNet n) {x : Int} (hx : ∃ r ∈ n.roads, onR r x) {r : Rd} (hr : r ∈ n.roads) (hon : onR r x) : offsN n r (atN n x).1 = some (offR r x) := by
 obtain ⟨_, hp, hn⟩ := at_pos h hx
 rcases view h hp with ⟨y, hy, _, ho, _⟩ | ⟨hy, _⟩
 ·rw [hn] at hy; injection hy with hy; subst hy
  rw [ho r hr, if_pos hon]
 ·rw [hn] at hy; cases hy
theorem same_mv {n : Net} (h : GNet n) {p q : Plc} (hp : PosOK n p) (hq : PosOK n q) (hs : sameN n p q = true) : Mv n p q 0 := by
 obtain ⟨r, hr, ha⟩ : ∃ r ∈ n.roads, ∃ a, offsN n r p = some a := by
  obtain ⟨r, _, hm, hid, _⟩ := hp.rd
  exact ⟨r, hm, p.off, by unfold offsN; rw [if_pos hid.symm]⟩
 obtain ⟨a, ha⟩ := ha
 exact ⟨r, hr, a, a, ha, by rw [← offs_same h hp hq hs hr]; exact ha, fun _ => Rat.le_refl, by rw [absR_eq]; split <;> grind⟩
theorem exit_inc {n : Net} (h : GNet n) {p : Plc} (hp : PosOK n p) {e : Ed} (he : e ∈ (exitsN n p).1) : (∃ r ∈ n.roads, onR r e.node) ∧ Mv n p (atN n e.node).1 e.len := by
 rcases view h hp with ⟨x, hx, hinc, _⟩ | ⟨hx, r, hr, hro, h1, h2, ho⟩
 ·rcases (ends_mem hp _ _ _).1 he with ⟨z, hz, rfl⟩ | ⟨hz, _⟩
  ·rw [hx] at hz; injection hz with hz; subst hz
   obtain ⟨_, q1, q2⟩ := at_pos h hinc
   exact ⟨hinc, same_mv h hp q1 ((same_iff h hp q1).2 (.inl ⟨x, hx, q2⟩))⟩
  ·rw [hx] at hz; cases hz
 ·have hof := ho r hr
  rw [if_pos rfl] at hof
  rcases (ends_mem hp _ _ _).1 he with ⟨z, hz, _⟩ | ⟨_, hz⟩
  ·rw [hx] at hz; cases hz
  ·rw [hro] at hz
   simp only [Option.getD_some] at hz
   rcases hz with ⟨hone, rfl⟩ | ⟨_, rfl⟩
   ·have hinc : ∃ q ∈ n.roads, onR q r.src := ⟨r, hr, .inl rfl⟩
    refine ⟨hinc, r, hr, p.off, 0, hof, by rw [offs_at h hinc hr (.inl rfl), offR_src], fun ho1 => ?_, by rw [absR_eq]; split <;> grind⟩
    rw [ho1] at hone; cases hone
   ·have hinc : ∃ q ∈ n.roads, onR q r.dst := ⟨r, hr, .inr rfl⟩
    exact ⟨hinc, r, hr, p.off, (r.len : Rat), hof, by rw [offs_at h hinc hr (.inr rfl), offR_dst h hr], fun _ => by grind, by rw [absR_eq]; split <;> grind⟩
theorem entry_inc {n : Net} (h : GNet n) {p : Plc} (hp : PosOK n p) {e : Ed} (he : e ∈ (entriesN n p).1) : (∃ r ∈ n.roads, onR r e.node) ∧ Mv n (atN n e.node).1 p e.len := by
 rcases view h hp with ⟨x, hx, hinc, _⟩ | ⟨hx, r, hr, hro, h1, h2, ho⟩
 ·rcases (ends_mem hp _ _ _).1 he with ⟨z, hz, rfl⟩ | ⟨hz, _⟩
  ·rw [hx] at hz; injection hz with hz; subst hz
   obtain ⟨_, q1, q2⟩ := at_pos h hinc
   exact ⟨hinc, same_mv h q1 hp ((same_iff h q1 hp).2 (.inl ⟨x, q2, hx⟩))⟩
  ·rw [hx] at hz; cases hz
 ·have hof := ho r hr
  rw [if_pos rfl] at hof
  rcases (ends_mem hp _ _ _).1 he with ⟨z, hz, _⟩ | ⟨_, hz⟩
  ·rw [hx] at hz; cases hz
  ·rw [hro] at hz
   simp only [Option.getD_some] at hz
   rcases hz with ⟨_, rfl⟩ | ⟨hone, rfl⟩
   ·have hinc : ∃ q ∈ n.roads, onR q r.src := ⟨r, hr, .inl rfl⟩
    exact ⟨hinc, r, hr, 0, p.off, by rw [offs_at h hinc hr (.inl rfl), offR_src], hof, fun _ => by grind, by rw [absR_eq]; split <;> grind⟩
   ·have hinc : ∃ q ∈ n.roads, onR q r.dst := ⟨r, hr, .inr rfl⟩
    refine ⟨hinc, r, hr, (r.len : Rat), p.off, by rw [offs_at h hinc hr (.inr rfl), offR_dst h hr], hof, fun ho1 => ?_, by rw [absR_eq]; split <;> grind⟩
    rw [ho1] at hone; cases hone
end Go.Proofs.YtcelpkbmcmnogaaGreatDoor
