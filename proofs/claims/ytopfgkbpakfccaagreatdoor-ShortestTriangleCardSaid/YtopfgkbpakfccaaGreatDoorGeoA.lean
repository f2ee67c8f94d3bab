/-
  Positions of a grid, plain: multiples of 1/64; what is looked at between two positions is small.
-/
import Derived.Test.YtopfgkbpakfccaaGreatDoorLwU
import Derived.Test.YtopfgkbpakfccaaGreatDoorShoG
import Derived.Test.YtopfgkbpakfccaaGreatDoorLenW
set_option linter.unusedSimpArgs false
set_option linter.unusedVariables false
namespace Go.Proofs.YtopfgkbpakfccaaGreatDoor
open Go Go.Vi
/-- A multiple of 1/64. -/
def G64 (x : Rat) : Prop := ∃ k : Int, x * 64 = (k : Rat)
theorem g64_int (z : Int) : G64 (z : Rat) := ⟨z * 64, by rw [Rat.intCast_mul]; rfl⟩
theorem g64_zero : G64 0 := ⟨0, by grind⟩
theorem g64_add {x y : Rat} (hx : G64 x) (hy : G64 y) : G64 (x + y) := by
  obtain ⟨k, hk⟩ := hx
  obtain ⟨j, hj⟩ := hy
  exact ⟨k + j, by rw [Rat.intCast_add]; grind⟩
theorem g64_sub {x y : Rat} (hx : G64 x) (hy : G64 y) : G64 (x - y) := by
  obtain ⟨k, hk⟩ := hx
  obtain ⟨j, hj⟩ := hy
  exact ⟨k - j, by rw [Rat.intCast_sub]; grind⟩
theorem num_lt {a : Rat} : a.num < 0 ↔ a < 0 := by rw [← Int.not_le, Rat.num_nonneg, Rat.not_le]
theorem absR_eq (a : Rat) : absR a = if a < 0 then -a else a := by
  unfold absR
  by_cases h : a < 0
  · rw [if_pos (num_lt.2 h), if_pos h]
  · rw [if_neg (fun h' => h (num_lt.1 h')), if_neg h]
theorem g64_abs {x : Rat} (hx : G64 x) : G64 (absR x) := by
  rw [absR_eq]
  split
  · obtain ⟨k, hk⟩ := hx
    exact ⟨-k, by rw [Rat.intCast_neg]; grind⟩
  · exact hx
theorem sm_g64 {x : Rat} (h : G64 x) (h1 : -1000000 ≤ x) (h2 : x ≤ 1000000) : Sm x := by
  obtain ⟨k, hk⟩ := h
  have e : x = mkRat k 64 := by rw [Rat.mkRat_eq_div]; grind
  have k1 : -64000000 ≤ k := by
    have : ((-64000000 : Int) : Rat) ≤ (k : Rat) := by rw [← hk]; show (-64000000 : Rat) ≤ _; grind
    exact Rat.intCast_le_intCast.1 this
  have k2 : k ≤ 64000000 := by
    have : (k : Rat) ≤ ((64000000 : Int) : Rat) := by rw [← hk]; show _ ≤ (64000000 : Rat); grind
    exact Rat.intCast_le_intCast.1 this
  refine ⟨?_, ?_⟩
  · rw [e, Rat.num_mkRat, if_neg (by decide)]
    have h3 : (k / ((Nat.gcd 64 k.natAbs : Nat) : Int)).natAbs ≤ k.natAbs := Int.natAbs_ediv_le_natAbs _ _
    omega
  · rw [e, Rat.den_mkRat, if_neg (by decide)]
    have h3 : 64 / Nat.gcd 64 k.natAbs ≤ 64 := Nat.div_le_self _ _
    omega
/-- A valid position. -/
structure PosOK (n : Net) (p : Plc) : Prop where
  chk : chkP n p = 0
  g : G64 p.off
theorem PosOK.rd {n : Net} {p : Plc} (h : PosOK n p) : ∃ r, roadOf n.roads p.road = some r ∧ r ∈ n.roads ∧ r.id = p.road ∧ 0 ≤ p.off ∧ p.off ≤ (r.len : Rat) := by
  have hc := h.chk
  unfold chkP at hc
  cases hr : roadOf n.roads p.road with
  | none => rw [hr] at hc; cases hc
  | some r =>
    rw [hr] at hc
    simp only at hc
    have hid : r.id = p.road := by
      have := List.find?_some hr
      simpa using this
    split at hc
    · cases hc
    · rename_i h1
      split at hc
      · cases hc
      · rename_i h2
        refine ⟨r, rfl, road_in hr, hid, ?_, Rat.not_lt.1 h2⟩
        have : ¬p.off < 0 := fun h => h1 (num_lt.2 h)
        exact Rat.not_lt.1 this
theorem len_le {n : Net} (h : GNet n) {r : Rd} (hr : r ∈ n.roads) : (1 : Rat) ≤ (r.len : Rat) ∧ (r.len : Rat) ≤ 48 := by
  obtain ⟨h1, h2⟩ := h.len r hr
  exact ⟨Rat.intCast_le_intCast.2 h1, Rat.intCast_le_intCast.2 h2⟩
theorem offR_in {n : Net} (h : GNet n) {r : Rd} (hr : r ∈ n.roads) (x : Int) : G64 (offR r x) ∧ 0 ≤ offR r x ∧ offR r x ≤ 48 := by
  have := len_le h hr
  unfold offR
  split
  · exact ⟨g64_zero, by grind, by grind⟩
  · exact ⟨g64_int _, by grind, by grind⟩
theorem offs_in {n : Net} (h : GNet n) {p : Plc} (hp : PosOK n p) {r : Rd} (hr : r ∈ n.roads) {a : Rat} (ha : offsN n r p = some a) : G64 a ∧ 0 ≤ a ∧ a ≤ 48 := by
  unfold offsN at ha
  split at ha
  · injection ha with ha
    subst ha
    obtain ⟨q, _, hq, _, h1, h2⟩ := hp.rd
    have := len_le h hq
    exact ⟨hp.g, h1, by grind⟩
  · split at ha
    · split at ha
      · injection ha with ha
        subst ha
        exact offR_in h hr _
      · cases ha
    · cases ha
theorem mem_srtE {l : List Ed} {e : Ed} : e ∈ srtE l ↔ e ∈ l := by
  unfold srtE
  split
  · rename_i a b
    split
    · simp only [List.mem_cons, List.mem_nil_iff, or_false]; exact or_comm
    · rfl
  · rfl
theorem srtE_len (l : List Ed) : (srtE l).length = l.length := by
  unfold srtE
  split
  · split <;> rfl
  · rfl
/-- The ends of a position, one by one. -/
theorem ends_mem {n : Net} {p : Plc} (hp : PosOK n p) (bf bt : Bool) (e : Ed) : e ∈ (endsN n p bf bt).1 ↔ (∃ x, nodeAtN n p = some x ∧ e = ⟨x, 0⟩) ∨ (nodeAtN n p = none ∧ ((bf = true ∧ e = ⟨((roadOf n.roads p.road).getD rd0).src, p.off⟩) ∨ (bt = true ∧ e = ⟨((roadOf n.roads p.road).getD rd0).dst, (((roadOf n.roads p.road).getD rd0).len : Rat) - p.off⟩))) := by
  unfold endsN
  rw [if_pos hp.chk]
  cases nodeAtN n p with
  | some x => simp
  | none =>
    simp only
    rw [mem_srtE]
    cases bf <;> cases bt <;> simp
theorem ends_few (n : Net) (p : Plc) (bf bt : Bool) : (endsN n p bf bt).1.length ≤ 2 := by
  unfold endsN
  split
  · split
    · simp
    · simp only
      rw [srtE_len]
      cases bf <;> cases bt <;> simp
  · simp
theorem ends_in {n : Net} (h : GNet n) {p : Plc} (hp : PosOK n p) (bf bt : Bool) {e : Ed} (he : e ∈ (endsN n p bf bt).1) : G64 e.len ∧ 0 ≤ e.len ∧ e.len ≤ 48 := by
  obtain ⟨r, hr, hm, _, h1, h2⟩ := hp.rd
  have hl := len_le h hm
  rcases (ends_mem hp bf bt e).1 he with ⟨x, _, rfl⟩ | ⟨_, ⟨_, rfl⟩ | ⟨_, rfl⟩⟩
  · exact ⟨g64_zero, by simp only; grind, by simp only; grind⟩
  · exact ⟨hp.g, h1, by simp only; grind⟩
  · rw [hr]
    simp only [Option.getD_some]
    exact ⟨g64_sub (g64_int _) hp.g, by grind, by grind⟩
theorem routesF_len {hp : Int → Int → Option (Int × Int)} {ids : List Int} {tgt D : Int} (hD : 0 ≤ D) (hl : ∀ a b rd l, hp a b = some (rd, l) → l ≤ D) : ∀ (f : Nat) (x y : Rte), routesF hp ids tgt f x = some y → y.len ≤ x.len + f * D
  | 0, x, y, h => by
    unfold routesF at h
    split at h
    · injection h with h; subst h; simp
    · cases h
  | f + 1, x, y, h => by
    have hf : 0 ≤ (f : Int) * D := Int.mul_nonneg (by omega) hD
    have e : ((f + 1 : Nat) : Int) * D = f * D + D := by rw [Int.natCast_succ, Int.add_mul]; omega
    rw [e]
    unfold routesF at h
    split at h
    · injection h with h; subst h; omega
    · have key : ∀ (l : List Int) (acc : Option Rte), (∀ a, acc = some a → a.len ≤ x.len + (f * D + D)) → ∀ y, l.foldl (stepR hp (routesF hp ids tgt f) x) acc = some y → y.len ≤ x.len + (f * D + D) := by
        intro l
        induction l with
        | nil => intro acc ha y hy; exact ha y hy
        | cons q l ih =>
          intro acc ha y hy
          rw [List.foldl_cons] at hy
          refine ih _ (fun a hq => ?_) y hy
          unfold stepR at hq
          split at hq
          · exact ha a hq
          · split at hq
            · exact ha a hq
            · rename_i rd l' hh
              have hl' := hl _ _ _ _ hh
              unfold pickR at hq
              split at hq
              · exact ha a hq
              · rename_i z hz
                have hzl := routesF_len hD hl f _ z hz
                simp only at hzl
                split at hq
                · injection hq with hq; subst hq; omega
                · split at hq
                  · injection hq with hq; subst hq; omega
                  · exact ha a hq
      exact key ids none (fun a h => by cases h) y h
/-- A route of a grid is short. -/
theorem rt_in {n : Net} (h : GNet n) {a b : Int} {R : List Hp} {l : Int} (hr : rtN n a b = some (R, l)) : 0 ≤ l ∧ l ≤ 384 ∧ R.length ≤ 8 := by
  have hls := lstN_some h.ok h.few hr
  have h1 := routesF_few 8 _ _ hls
  have h2 := routesF_len (D := 48) (by decide) (fun a b rd l hh => by
    obtain ⟨g, hg, _, _, e⟩ := hp2_back h.ok.roads (finA_of n a) hh
    obtain ⟨r, hr, _, e2, _⟩ := hop_road (finA_of n) hg
    have := (h.len r hr).2
    omega) 8 _ _ hls
  obtain ⟨hd, _⟩ := route_at ((rtN_of n a b R l).1 hr)
  have h3 := (grd_n h.ok b).nonneg a l hd
  simp only [List.length_cons, List.length_map, List.length_nil] at h1
  simp only at h2
  omega
theorem ahead_in {n : Net} (h : GNet n) {p q : Plc} (hp : PosOK n p) (hq : PosOK n q) {l : Rat} (hl : aheadN n p q = some l) : G64 l ∧ 0 ≤ l ∧ l ≤ 48 := by
  unfold aheadN at hl
  split at hl
  · cases hl
  · split at hl
    · injection hl with hl
      subst hl
      exact ⟨g64_zero, by grind, by grind⟩
    · have key : ∀ (rs : List Rd) (acc : Option Rat), (∀ r ∈ rs, r ∈ n.roads) → (∀ x, acc = some x → G64 x ∧ 0 ≤ x ∧ x ≤ 48) → ∀ x, rs.foldl (aheadStep n p q) acc = some x → G64 x ∧ 0 ≤ x ∧ x ≤ 48 := by
        intro rs
        induction rs with
        | nil => intro acc _ ha x hx; exact ha x hx
        | cons r rs ih =>
          intro acc hm ha x hx
          rw [List.foldl_cons] at hx
          refine ih _ (fun r hr => hm r (List.mem_cons_of_mem _ hr)) (fun y hy => ?_) x hx
          have hr := hm r List.mem_cons_self
          unfold aheadStep at hy
          split at hy
          · rename_i a b e1 e2
            obtain ⟨a1, a2, a3⟩ := offs_in h hp hr e1
            obtain ⟨b1, b2, b3⟩ := offs_in h hq hr e2
            have hab : G64 (absR (b - a)) ∧ 0 ≤ absR (b - a) ∧ absR (b - a) ≤ 48 := by
              refine ⟨g64_abs (g64_sub b1 a1), ?_, ?_⟩ <;> (rw [absR_eq]; split <;> grind)
            unfold aheadAdd at hy
            split at hy
            · exact ha y hy
            · split at hy
              · injection hy with hy; subst hy; exact hab
              · split at hy
                · injection hy with hy; subst hy; exact hab
                · exact ha y hy
          · exact ha y hy
      exact key n.roads none (fun r hr => hr) (fun x hx => by cases hx) l hl
/-- What Between looks at is small. -/
theorem geo_fit {n : Net} (h : GNet n) {p q : Plc} (hp : PosOK n p) (hq : PosOK n q) : BwFit n (rtN n) p q where
  hp := by obtain ⟨r, _, hm, _, h1, h2⟩ := hp.rd; have := len_le h hm; exact sm_g64 hp.g (by grind) (by grind)
  hq := by obtain ⟨r, _, hm, _, h1, h2⟩ := hq.rd; have := len_le h hm; exact sm_g64 hq.g (by grind) (by grind)
  near := fun r hr a b ha hb => by
    obtain ⟨a1, a2, a3⟩ := offs_in h hp hr ha
    obtain ⟨b1, b2, b3⟩ := offs_in h hq hr hb
    exact sm_g64 (g64_sub b1 a1) (by grind) (by grind)
  fit := fun a ha b hb => by
    obtain ⟨a1, a2, a3⟩ := ends_in h hp _ _ ha
    obtain ⟨b1, b2, b3⟩ := ends_in h hq _ _ hb
    exact ⟨sm_g64 a1 (by grind) (by grind), sm_g64 b1 (by grind) (by grind), sm_g64 (g64_add a1 b1) (by grind) (by grind), fun R l hr => by have := rt_in h hr; omega⟩
  few1 := ends_few _ _ _ _
  few2 := ends_few _ _ _ _
  lens := fun c hc => by
    unfold choicesN at hc
    obtain ⟨a, ha, hc⟩ := List.mem_flatMap.1 hc
    obtain ⟨b, hb, hc⟩ := List.mem_filterMap.1 hc
    obtain ⟨a1, a2, a3⟩ := ends_in h hp _ _ ha
    obtain ⟨b1, b2, b3⟩ := ends_in h hq _ _ hb
    unfold chcOf at hc
    split at hc
    · cases hc
    · rename_i R l hr
      injection hc with hc
      subst hc
      obtain ⟨l1, l2, l3⟩ := rt_in h hr
      have l1' : (0 : Rat) ≤ (l : Rat) := Rat.intCast_le_intCast.2 l1
      have l2' : (l : Rat) ≤ 384 := Rat.intCast_le_intCast.2 l2
      exact ⟨sm_g64 (g64_add (g64_add a1 b1) (g64_int l)) (by grind) (by grind), sm_g64 a1 (by grind) (by grind), sm_g64 b1 (by grind) (by grind), by simp only; omega⟩
  ahead := fun l hl => by
    obtain ⟨l1, l2, l3⟩ := ahead_in h hp hq hl
    exact sm_g64 l1 (by grind) (by grind)
end Go.Proofs.YtopfgkbpakfccaaGreatDoor
