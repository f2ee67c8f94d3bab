/-
  Positions at nodes, plain: their distance is the nodes'.
-/
import Derived.Test.YtopfgkbpakfccaaGreatDoorPlcB
set_option linter.unusedSimpArgs false
set_option linter.unusedVariables false
namespace Go.Proofs.YtopfgkbpakfccaaGreatDoor
open Go Go.RowKit Go.Vi
theorem hop_inc {n : Net} (h : GNet n) {u : Int} {g : Hp} (hg : g ∈ finA n.rev u) : ∃ r ∈ n.roads, onR r g.dst ∧ onR r u := by
  have e := hp2_of (srtR_rev h.ok.roads) (finA_of n.rev u) hg
  have e2 : hp2 n g.dst u = some (g.road, g.len) := by unfold hp2 at e ⊢; rw [hopN_rev] at e; exact e
  obtain ⟨k, hk, k1, k2, k3⟩ := hp2_back h.ok.roads (finA_of n g.dst) e2
  obtain ⟨r, hr, hl, r1, r2⟩ := (hopsG_iff n.roads g.dst k.dst k.road k.len).1 ((fin_spec (finA_of n g.dst)).2.1 k hk).1
  rw [k1] at hl
  simp only [leadsB, Bool.or_eq_true, Bool.and_eq_true, beq_iff_eq, Bool.not_eq_true'] at hl
  rcases hl with ⟨e1, e3⟩ | ⟨⟨_, e1⟩, e3⟩
  · exact ⟨r, hr, .inl e1, .inr e3⟩
  · exact ⟨r, hr, .inr e1, .inl e3⟩
theorem walk_inc {n : Net} (h : GNet n) {x y l : Int} (hw : Walk (finA n.rev) y x l) : x = y ∨ ((∃ r ∈ n.roads, onR r x) ∧ ∃ r ∈ n.roads, onR r y) := by
  induction hw with
  | nil => exact .inl rfl
  | @snoc u d g hw hg ih =>
    obtain ⟨r, hr, h1, h2⟩ := hop_inc h hg
    refine .inr ⟨⟨r, hr, h1⟩, ?_⟩
    rcases ih with rfl | ⟨_, ih⟩
    · exact ⟨r, hr, h2⟩
    · exact ih
theorem rt_inc {n : Net} (h : GNet n) {x y l : Int} {R : List Hp} (hr : rtN n x y = some (R, l)) : x = y ∨ ((∃ r ∈ n.roads, onR r x) ∧ ∃ r ∈ n.roads, onR r y) := walk_inc h (route_at ((rtN_of n _ _ _ _).1 hr)).1.1
theorem at_err {n : Net} {x : Int} (hx : ¬∃ r ∈ n.roads, onR r x) : (atN n x).2 ≠ 0 := by
  unfold atN
  split
  · split
    · rename_i r hf
      have h1 := List.find?_some hf
      simp only [Bool.or_eq_true, beq_iff_eq] at h1
      exact absurd ⟨r, List.mem_of_find?_eq_some hf, h1⟩ hx
    · decide
  · decide
theorem ed_at {n : Net} {p : Plc} (hp : PosOK n p) {x : Int} (hx : nodeAtN n p = some x) {bf bt : Bool} {e : Ed} (he : e ∈ (endsN n p bf bt).1) : e = ⟨x, 0⟩ := by
  rcases (ends_mem hp _ _ _).1 he with ⟨z, hz, rfl⟩ | ⟨hz, _⟩
  · rw [hx] at hz; injection hz with hz; subst hz; rfl
  · rw [hx] at hz; cases hz
theorem dst_at {n : Net} (h : GNet n) {x y : Int} (hx : ∃ r ∈ n.roads, onR r x) (hy : ∃ r ∈ n.roads, onR r y) : dstN n (atN n x).1 (atN n y).1 = (rtN n x y).map fun p => (p.2 : Rat) := by
  obtain ⟨_, hp, np⟩ := at_pos h hx
  obtain ⟨_, hq, nq⟩ := at_pos h hy
  by_cases hxy : x = y
  · subst hxy
    obtain ⟨R, hR⟩ := dist_self h (inc_node h hx)
    have hs : sameN n (atN n x).1 (atN n x).1 = true := (same_iff h hp hp).2 (.inl ⟨x, np, np⟩)
    rw [hR]
    unfold dstN
    rw [dst_same hp hp hs]
    rfl
  · have hs : sameN n (atN n x).1 (atN n y).1 = false := by
      cases hh : sameN n (atN n x).1 (atN n y).1 with
      | false => rfl
      | true =>
        rcases (same_iff h hp hq).1 hh with ⟨z, h1, h2⟩ | ⟨h1, _⟩
        · rw [np] at h1; rw [nq] at h2
          injection h1 with h1; injection h2 with h2
          exact absurd (h1.trans h2.symm) hxy
        · rw [np] at h1; cases h1
    obtain ⟨_, b1, b2⟩ := bw_spec hp hq hs
    have hmv : ∀ d, Mv n (atN n x).1 (atN n y).1 d → ∃ R l, rtN n x y = some (R, l) ∧ (l : Rat) ≤ d := fun d hm => by
      obtain ⟨r, hr, a, b, ha, hb, hdir, rfl⟩ := hm
      have hl := len_le h hr
      rcases on_road h hp hr ha with ⟨x', e1, hon, rfl⟩ | ⟨e1, _⟩
      · rw [np] at e1; injection e1 with e1; subst e1
        rcases on_road h hq hr hb with ⟨y', e2, hon2, rfl⟩ | ⟨e2, _⟩
        · rw [nq] at e2; injection e2 with e2; subst e2
          rcases hon with e3 | e3
          · rcases hon2 with e4 | e4
            · exact absurd (e3.symm.trans e4) hxy
            · subst e3; subst e4
              obtain ⟨R, l, q1, q2⟩ := dist_hop h hr (leads_fwd r)
              have q3 : (l : Rat) ≤ (r.len : Rat) := Rat.intCast_le_intCast.2 q2
              exact ⟨R, l, q1, by rw [offR_src, offR_dst h hr, absR_eq]; split <;> grind⟩
          · rcases hon2 with e4 | e4
            · subst e3; subst e4
              cases ho : r.one with
              | true =>
                have := hdir ho
                rw [offR_src, offR_dst h hr] at this
                grind
              | false =>
                obtain ⟨R, l, q1, q2⟩ := dist_hop h hr (leads_bwd ho)
                have q3 : (l : Rat) ≤ (r.len : Rat) := Rat.intCast_le_intCast.2 q2
                exact ⟨R, l, q1, by rw [offR_src, offR_dst h hr, absR_eq]; split <;> grind⟩
            · exact absurd (e3.symm.trans e4) hxy
        · rw [nq] at e2; cases e2
      · rw [np] at e1; cases e1
    have hch : ∀ d, Chx n (atN n x).1 (atN n y).1 d ↔ ∃ R l, rtN n x y = some (R, l) ∧ d = (l : Rat) := fun d => by
      constructor
      · rintro ⟨e, he, f, hf, R, l, hr, rfl⟩
        have e1 := ed_at hp np he
        have e2 := ed_at hq nq hf
        subst e1; subst e2
        exact ⟨R, l, hr, by simp only; grind⟩
      · rintro ⟨R, l, hr, rfl⟩
        exact ⟨_, exit_at hp np, _, entry_at hq nq, R, l, hr, by simp only; grind⟩
    cases hr : rtN n x y with
    | none =>
      cases hd : dstN n (atN n x).1 (atN n y).1 with
      | none => rfl
      | some d =>
        rcases (b1 d hd).1 with hm | hc
        · obtain ⟨R, l, q, _⟩ := hmv d hm; rw [hr] at q; cases q
        · obtain ⟨R, l, q, _⟩ := (hch d).1 hc; rw [hr] at q; cases q
    | some Rl =>
      obtain ⟨R, l⟩ := Rl
      have hl : Chx n (atN n x).1 (atN n y).1 (l : Rat) := (hch _).2 ⟨R, l, hr, rfl⟩
      cases hd : dstN n (atN n x).1 (atN n y).1 with
      | none => exact absurd (.inr hl) (b2 hd _)
      | some d =>
        have h1 := (b1 d hd).2 _ (.inr hl)
        have h2 : (l : Rat) ≤ d := by
          rcases (b1 d hd).1 with hm | hc
          · obtain ⟨R', l', q, q2⟩ := hmv d hm; rw [hr] at q; injection q with q; injection q with _ q; subst q; exact q2
          · obtain ⟨R', l', q, q2⟩ := (hch d).1 hc; rw [hr] at q; injection q with q; injection q with _ q; subst q; rw [q2]; exact Rat.le_refl
        have h3 : d = (l : Rat) := by grind
        rw [h3]
        rfl
/-- FindRoute, as its length alone. -/
theorem fr_q {n : Net} (h : GNet n) (v1 v2 : Value) {x y : Int} (hx : (nodeOf n.nodes x).isSome = true) (hy : (nodeOf n.nodes y).isSome = true) (w : World) (hN : NetAt w.heap.size w v1 v2 n) :
    Calls Tryz.prog 16 #[.agg #[v1, v2], .int .i64 x, .int .i64 y] w fun e w2 => ∃ (a : Option Addr) (m c : Nat) (a' : Option Addr) (m' c' : Nat) (l k : Int), e = .returned (.tuple #[.agg #[.slice a m c, .slice a' m' c', .int .i64 l], .int .i64 k]) ∧ ((k = 0 ∧ ∃ R, rtN n x y = some (R, l)) ∨ (k = 31 ∧ rtN n x y = none ∧ l = 0)) ∧ Below w.heap.size w w2 := by
  refine (findRoute_any n x y v1 v2 w hN h.ok (by have := h.most; omega)).mono ?_
  rintro e w2 ⟨ho, hb⟩
  rcases ho with ⟨R, len, vn, vr, rfl, hR, _, _, o1, o2⟩ | ⟨c, rfl, hc, hno⟩
  · obtain ⟨a, m, c, rfl⟩ := o1.val
    obtain ⟨a', m', c', rfl⟩ := o2.val
    exact ⟨a, m, c, a', m', c', len, 0, rfl, .inl ⟨rfl, R, (rtN_of n x y R len).2 hR⟩, hb⟩
  · refine ⟨none, 0, 0, none, 0, 0, 0, c, rfl, .inr ⟨?_, ?_, rfl⟩, hb⟩
    · rw [hc]; unfold routeErr; rw [hx, hy]; rfl
    · cases hr : rtN n x y with
      | none => rfl
      | some Rl => exact absurd ((rtN_of n x y Rl.1 Rl.2).1 hr) (hno _ _)
/-- Between, as its length alone; no way: length 0. -/
theorem btn_q {n : Net} (h : GNet n) (v1 v2 : Value) {p q : Plc} (hp : PosOK n p) (hq : PosOK n q) (w : World) (hN : NetAt w.heap.size w v1 v2 n) :
    Calls Tryz.prog 21 #[.agg #[v1, v2], .agg #[.int .i64 p.road, .bool (zs p.off.num), .string (zx p.off.num), .bool false, .string (ry p.off.den)], .agg #[.int .i64 q.road, .bool (zs q.off.num), .string (zx q.off.num), .bool false, .string (ry q.off.den)]] w fun e w2 => ∃ (P Q : Plc) (a : Option Addr) (m c : Nat) (l : Rat) (k : Int), e = .returned (.tuple #[.agg #[.int .i64 P.road, .bool (zs P.off.num), .string (zx P.off.num), .bool false, .string (ry P.off.den), .int .i64 Q.road, .bool (zs Q.off.num), .string (zx Q.off.num), .bool false, .string (ry Q.off.den), .slice a m c, .bool (zs l.num), .string (zx l.num), .bool false, .string (ry l.den)], .int .i64 k]) ∧ ((k = 0 ∧ dstN n p q = some l) ∨ (k = 31 ∧ dstN n p q = none ∧ l = 0)) ∧ Below w.heap.size w w2 := by
  refine (between_q n (rtN n) (rtN_of n) v1 v2 p q w hN h.ok (by have := h.most; omega) (geo_fit h hp hq)).mono ?_
  rintro e w2 ⟨v, rfl, ho, hb⟩
  obtain ⟨a, m, c, rfl⟩ := ho.val
  refine ⟨_, _, a, m, c, _, _, rfl, ?_, hb⟩
  rcases dst_err hp hq with h1 | ⟨h1, h2⟩
  · exact .inl h1
  · refine .inr ⟨h1, h2, ?_⟩
    cases hs : sameN n p q with
    | true => rw [dst_same hp hq hs] at h1; cases h1
    | false =>
      rcases (bw_spec hp hq hs).1 with h | h
      · rw [h] at h1; cases h1
      · rw [h]; rfl
end Go.Proofs.YtopfgkbpakfccaaGreatDoor
