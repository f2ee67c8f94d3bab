/-
  Between at positions that are not valid, plain; the least way is accepted.
-/
import Derived.Test.YtopfgkbpakfccaaGreatDoorCkwW
set_option linter.unusedSimpArgs false
set_option linter.unusedVariables false
namespace Go.Proofs.YtopfgkbpakfccaaGreatDoor
open Go Go.Vi
theorem ends_bad {n : Net} {p : Plc} (h : chkP n p ≠ 0) (bf bt : Bool) : (endsN n p bf bt).1 = [] := by
  unfold endsN
  rw [if_neg h]
theorem bw_bad {n : Net} {rt : Int → Int → Option (List Hp × Int)} {p q : Plc} (hp : Sm p.off) (hq : Sm q.off) (hn : Near2 n p q) (hb : chkP n p ≠ 0 ∨ chkP n q ≠ 0) (hc : orI [chkP n p, chkP n q] ≠ 0) : BwFit n rt p q ∧ betweenN n rt p q = (wyz, orI [chkP n p, chkP n q]) := by
  have he : (exitsN n p).1 = [] ∨ (entriesN n q).1 = [] := by
    rcases hb with h | h
    · exact .inl (ends_bad h _ _)
    · exact .inr (ends_bad h _ _)
  have hch : choicesN rt (exitsN n p).1 (entriesN n q).1 = [] := by
    unfold choicesN
    rcases he with e | e
    · rw [e]; rfl
    · rw [e]; induction (exitsN n p).1 with
      | nil => rfl
      | cons a l ih => rw [List.flatMap_cons, ih]; rfl
  refine ⟨⟨hp, hq, hn, ?_, ends_few _ _ _ _, ends_few _ _ _ _, ?_, ?_⟩, ?_⟩
  · intro a ha b hb'
    rcases he with e | e
    · rw [e] at ha; cases ha
    · rw [e] at hb'; cases hb'
  · intro c hc'; rw [hch] at hc'; cases hc'
  · intro l hl
    unfold aheadN at hl
    rw [if_pos hb] at hl
    cases hl
  · unfold betweenN
    rw [if_pos hc]
theorem chk_neg {n : Net} (h : GNet n) {q : Plc} (hq : PosOK n q) : chkP n ⟨q.road, ((-1 : Int) : Rat)⟩ = 2 := by
  obtain ⟨r, hr, _⟩ := hq.rd
  unfold chkP
  simp only
  rw [hr]
  simp only
  rw [if_pos (by decide)]
theorem chk_plz {n : Net} (h : GNet n) : chkP n plz = 9 := by
  have hr : roadOf n.roads plz.road = none := by
    unfold roadOf
    rw [List.find?_eq_none]
    intro r hr
    have := (h.ok.road r hr).1
    have hz : plz.road = 0 := rfl
    rw [hz]
    simp
    omega
  unfold chkP
  rw [hr]
theorem bw_neg {n : Net} (h : GNet n) {p q : Plc} (hp : PosOK n p) (hq : PosOK n q) : BwFit n (rtN n) p ⟨q.road, ((-1 : Int) : Rat)⟩ ∧ betweenN n (rtN n) p ⟨q.road, ((-1 : Int) : Rat)⟩ = (wyz, 2) := by
  have c2 := chk_neg h hq
  have sp : Sm p.off := by
    obtain ⟨r, _, hm, _, h1, h2⟩ := hp.rd
    have := len_le h hm
    exact sm_g64 hp.g (by grind) (by grind)
  have e : orI [chkP n p, chkP n ⟨q.road, ((-1 : Int) : Rat)⟩] = 2 := by rw [c2, hp.chk]; rfl
  have hb := bw_bad (rt := rtN n) sp (sm_int (z := -1) (by decide)) (fun r hr a b ha hb => ?_) (.inr (by rw [c2]; decide)) (by rw [e]; decide)
  · rw [e] at hb
    exact hb
  · obtain ⟨g, a0, a1⟩ := offs_in h hp hr ha
    unfold offsN at hb
    simp only at hb
    split at hb
    · injection hb with hb
      subst hb
      have : ((-1 : Int) : Rat) = -1 := rfl
      exact sm_g64 (g64_sub (g64_int _) g) (by grind) (by grind)
    · have : nodeAtN n ⟨q.road, ((-1 : Int) : Rat)⟩ = none := by unfold nodeAtN; rw [if_neg (by rw [c2]; decide)]
      rw [this] at hb
      cases hb
theorem bw_neg0 {n : Net} (h : GNet n) {q : Plc} : BwFit n (rtN n) plz ⟨q.road, ((-1 : Int) : Rat)⟩ ∧ betweenN n (rtN n) plz ⟨q.road, ((-1 : Int) : Rat)⟩ = (wyz, 9) := by
  have c9 := chk_plz h
  have e : orI [chkP n plz, chkP n ⟨q.road, ((-1 : Int) : Rat)⟩] = 9 := by rw [or_two, c9]; rfl
  have hb := bw_bad (rt := rtN n) (p := plz) (q := ⟨q.road, ((-1 : Int) : Rat)⟩) sm_zero (sm_int (z := -1) (by decide)) (fun r hr a b ha hb => ?_) (.inl (by rw [c9]; decide)) (by rw [e]; decide)
  · rw [e] at hb
    exact hb
  · unfold offsN at ha
    split at ha
    · rename_i hrr
      have := (h.ok.road r hr).1
      have hz : plz.road = 0 := rfl
      omega
    · have : nodeAtN n plz = none := by unfold nodeAtN; rw [if_neg (by rw [c9]; decide)]
      rw [this] at ha
      cases ha
/-- CheckWay accepts a way. -/
theorem ck_ok {n : Net} (h : GNet n) {p q : Plc} {L : List Lg} {s : Rat} (hc : Cw n p L q s) : ∀ y, ckL n q (y + s) L p y = 0 := by
  induction hc with
  | nil h1 h2 h3 =>
    intro y
    unfold ckL
    rw [h3, Rat.add_zero]
    simp
  | @cons p q x L s h1 h2 h3 hc ih =>
    intro y
    unfold ckL
    obtain ⟨r, hr, e, ho⟩ := h2.rd
    have hl : ckLeg n x p = 0 := by
      unfold ckLeg
      rw [h2.fa.chk, h2.fb.chk, if_neg (by decide)]
      have c0 : cmpR x.a x.b ≠ 0 := by
        unfold cmpR
        split
        · decide
        · split
          · decide
          · exact fun _ => h3 (by grind)
      have er : (roadOf n.roads x.road).getD rd0 = r := by rw [← e, roadOf_mem h.ok.roads hr]; rfl
      rw [if_neg c0, er, if_neg, h2.same]
      · simp
      · rintro ⟨c1, one⟩
        have := ho one
        unfold cmpR at c1
        split at c1
        · exact absurd c1 (by decide)
        · rename_i hn
          exact h3 (by grind)
    rw [hl, if_neg (by simp)]
    have := ih (y + absR (x.b - x.a))
    have e2 : y + absR (x.b - x.a) + s = y + (absR (x.b - x.a) + s) := by grind
    rw [e2] at this
    exact this
theorem ckw_ok {n : Net} (h : GNet n) {p q : Plc} {L : List Lg} {s : Rat} (hc : Cw n p L q s) : ckwN n p q L s = 0 := by
  unfold ckwN
  obtain ⟨h1, h2, _⟩ := hc.pos
  rw [h1.chk, h2.chk, if_neg (by decide)]
  have := ck_ok h hc 0
  rwa [Rat.zero_add] at this
theorem cw_sm {n : Net} (h : GNet n) {p q : Plc} {L : List Lg} {s : Rat} (hc : Cw n p L q s) : ∀ x ∈ L, LgSm x := by
  induction hc with
  | nil => intro x hx; cases hx
  | cons h1 h2 h3 _ ih =>
    intro x hx
    rcases List.mem_cons.1 hx with rfl | hx
    · have f : ∀ {p : Plc}, PosOK n p → G64 p.off ∧ 0 ≤ p.off ∧ p.off ≤ 48 := fun {p} hp => by
        obtain ⟨r, _, hm, _, h1, h2⟩ := hp.rd
        have := len_le h hm
        exact ⟨hp.g, h1, by grind⟩
      obtain ⟨a1, a2, a3⟩ := f h2.fa
      obtain ⟨b1, b2, b3⟩ := f h2.fb
      simp only at a1 a2 a3 b1 b2 b3
      exact ⟨a1, b1, by grind, by grind, by grind, by grind⟩
    · exact ih x hx
/-- The least way has few legs. -/
theorem bw_few {n : Net} (h : GNet n) {p q : Plc} (hp : PosOK n p) (hq : PosOK n q) : (betweenN n (rtN n) p q).1.legs.length ≤ 10 := by
  have al : ∀ l, (alongN n p q l).toList.length ≤ 10 := fun l => by cases alongN n p q l <;> simp
  have lg : ∀ c, leastC (choicesN (rtN n) (exitsN n p).1 (entriesN n q).1) = some c → (legsN n c p q).length ≤ 10 := fun c hc => by
    obtain ⟨e, he, f, hf, R, l, hr, rfl⟩ := ch_mem.1 ((leastC_spec _).1 c hc).1
    have h8 := (rt_in h hr).2.2
    have l0 : (legs0 n ⟨e.len + f.len + (l : Rat), R, l, e, f⟩ p).length ≤ 1 := by
      unfold legs0
      split
      · exact addL_len _ _
      · simp
    have l1 : ∀ k, ((List.range k).foldl (midL n ⟨e.len + f.len + (l : Rat), R, l, e, f⟩) (legs0 n ⟨e.len + f.len + (l : Rat), R, l, e, f⟩ p)).length ≤ k + 1 := by
      intro k
      induction k with
      | zero => simpa using l0
      | succ k ih =>
        rw [List.range_succ, List.foldl_append, List.foldl_cons, List.foldl_nil]
        exact Nat.le_trans (addL_len _ _) (by omega)
    have l2 : (legs1 n ⟨e.len + f.len + (l : Rat), R, l, e, f⟩ p).length ≤ 9 := by
      unfold legs1
      have := l1 R.length
      simp only at this ⊢
      omega
    unfold legsN
    split
    · exact Nat.le_trans (addL_len _ _) (by omega)
    · omega
  unfold betweenN
  split
  · simp [wyz]
  · split
    · simp
    · cases ha : aheadN n p q <;> cases hc : leastC (choicesN (rtN n) (exitsN n p).1 (entriesN n q).1)
      · simp [wyz]
      · exact lg _ hc
      · exact al _
      · simp only
        split
        · exact al _
        · exact lg _ hc
end Go.Proofs.YtopfgkbpakfccaaGreatDoor
