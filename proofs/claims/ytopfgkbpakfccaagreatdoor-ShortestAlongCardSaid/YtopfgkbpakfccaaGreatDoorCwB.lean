/-
  A position on a least way parts it into two least ways, plain.
-/
import Derived.Test.YtopfgkbpakfccaaGreatDoorCwA
import Derived.Test.YtopfgkbpakfccaaGreatDoorPlcM
set_option linter.unusedSimpArgs false
set_option linter.unusedVariables false
namespace Go.Proofs.YtopfgkbpakfccaaGreatDoor
open Go Go.Vi
theorem norm_pos {n : Net} (h : GNet n) {p : Plc} (hp : PosOK n p) : (normN n p).2 = 0 ∧ PosOK n (normN n p).1 ∧ normN n (normN n p).1 = normN n p ∧ sameN n p (normN n p).1 = true := by
  rcases view h hp with ⟨x, hx, hr, _⟩ | ⟨hx, _⟩
  · have e : normN n p = atN n x := by unfold normN; rw [if_pos hp.chk, hx]
    obtain ⟨a1, a2, a3⟩ := at_pos h hr
    have e2 : normN n (atN n x).1 = atN n x := by
      conv => lhs; unfold normN
      rw [if_pos a2.chk, a3]
    rw [e]
    exact ⟨a1, a2, e2, node_same h hp a2 hx a3⟩
  · have e : normN n p = (p, 0) := by unfold normN; rw [if_pos hp.chk, hx]
    rw [e]
    exact ⟨rfl, hp, e, same_refl h hp⟩
theorem pt_law {n : Net} (h : GNet n) {p q : Plc} (hp : PosOK n p) (hq : PosOK n q) {L : List Lg} {l t : Rat} (hc : Cw n p L q l) (hd : dstN n p q = some l) (t0 : 0 ≤ t) (t1 : t ≤ l) (g : G64 t) :
    (normN n (ptN p L t)).2 = 0 ∧ PosOK n (normN n (ptN p L t)).1 ∧ normN n (normN n (ptN p L t)).1 = normN n (ptN p L t) ∧ dstN n p (normN n (ptN p L t)).1 = some t ∧ dstN n (normN n (ptN p L t)).1 q = some (l - t) := by
  obtain ⟨i1, i2, i3⟩ := hc.pt h t0 t1 g (fun _ => rfl)
  obtain ⟨j1, j2, j3, j4⟩ := norm_pos h i1
  refine ⟨j1, j2, j3, ?_⟩
  generalize (normN n (ptN p L t)).1 = m at *
  generalize ptN p L t = m0 at *
  have k1 : Trav n p m t := by
    have := i2.append (.cons i1 (same_mv h i1 j2 j4) (.nil j2))
    rwa [Rat.add_zero, Rat.add_zero] at this
  have k2 : Trav n m q (l - t) := by
    have := Trav.cons j2 (same_mv h j2 i1 (same_symm h i1 j2 j4)) i3
    rwa [Rat.zero_add] at this
  obtain ⟨d1, a1, a2⟩ := trav_le h k1
  obtain ⟨d2, b1, b2⟩ := trav_le h k2
  obtain ⟨z, c1, c2⟩ := dst_tri h hp j2 hq a1 b1
  rw [hd] at c1
  injection c1 with c1
  have e1 : d1 = t := by grind
  have e2 : d2 = l - t := by grind
  rw [a1, b1, e1, e2]
  exact ⟨rfl, rfl⟩
/-- A multiple of 1/8. -/
def G8 (x : Rat) : Prop := ∃ k : Int, x * 8 = (k : Rat)
theorem g8_int (z : Int) : G8 (z : Rat) := ⟨z * 8, by rw [Rat.intCast_mul]; rfl⟩
theorem g8_add {x y : Rat} (hx : G8 x) (hy : G8 y) : G8 (x + y) := by
  obtain ⟨k, hk⟩ := hx
  obtain ⟨j, hj⟩ := hy
  exact ⟨k + j, by rw [Rat.intCast_add]; grind⟩
theorem g8_sub {x y : Rat} (hx : G8 x) (hy : G8 y) : G8 (x - y) := by
  obtain ⟨k, hk⟩ := hx
  obtain ⟨j, hj⟩ := hy
  exact ⟨k - j, by rw [Rat.intCast_sub]; grind⟩
theorem g8_abs {x : Rat} (hx : G8 x) : G8 (absR x) := by
  rw [absR_eq]
  split
  · obtain ⟨k, hk⟩ := hx
    exact ⟨-k, by rw [Rat.intCast_neg]; grind⟩
  · exact hx
theorem g8_offR (r : Rd) (x : Int) : G8 (offR r x) := by
  unfold offR
  split
  · exact g8_int 0
  · exact g8_int _
theorem g8_offs {n : Net} {p : Plc} (g : G8 p.off) {r : Rd} {a : Rat} (ha : offsN n r p = some a) : G8 a := by
  unfold offsN at ha
  split at ha
  · injection ha with ha; subst ha; exact g
  · split at ha
    · split at ha
      · injection ha with ha; subst ha; exact g8_offR _ _
      · cases ha
    · cases ha
theorem g8_ends {n : Net} {p : Plc} (hp : PosOK n p) (g : G8 p.off) (bf bt : Bool) {e : Ed} (he : e ∈ (endsN n p bf bt).1) : G8 e.len := by
  rcases (ends_mem hp bf bt e).1 he with ⟨x, _, rfl⟩ | ⟨_, ⟨_, rfl⟩ | ⟨_, rfl⟩⟩
  · exact g8_int 0
  · exact g
  · exact g8_sub (g8_int _) g
theorem g8_dst {n : Net} {p q : Plc} (hp : PosOK n p) (hq : PosOK n q) (gp : G8 p.off) (gq : G8 q.off) {d : Rat} (hd : dstN n p q = some d) : G8 d := by
  cases hs : sameN n p q with
  | true =>
    unfold dstN at hd
    rw [dst_same hp hq hs] at hd
    simp at hd
    rw [← hd]
    exact g8_int 0
  | false =>
    obtain ⟨_, b1, _⟩ := bw_spec hp hq hs
    rcases (b1 d hd).1 with ⟨r, hr, a, b, ha, hb, _, rfl⟩ | ⟨e, he, f, hf, R, l, hr, rfl⟩
    · exact g8_abs (g8_sub (g8_offs gq hb) (g8_offs gp ha))
    · exact g8_add (g8_add (g8_ends hp gp _ _ he) (g8_ends hq gq _ _ hf)) (g8_int _)
theorem g8_part {l : Rat} (g : G8 l) (h0 : 0 ≤ l) {k : Int} (k0 : 0 ≤ k) (k8 : k ≤ 8) : G64 (l * mkRat k 8) ∧ 0 ≤ l * mkRat k 8 ∧ l * mkRat k 8 ≤ l := by
  obtain ⟨j, hj⟩ := g
  have e : mkRat k 8 = (k : Rat) / 8 := by rw [Rat.mkRat_eq_div]; rfl
  have k0' : (0 : Rat) ≤ (k : Rat) := Rat.intCast_le_intCast.2 k0
  have k8' : (k : Rat) ≤ 8 := Rat.intCast_le_intCast.2 k8
  rw [e]
  refine ⟨⟨j * k, ?_⟩, ?_, ?_⟩
  · rw [Rat.intCast_mul, ← hj]
    grind
  · have : 0 ≤ l * (k : Rat) := Rat.mul_nonneg h0 k0'
    grind
  · have : l * (k : Rat) ≤ l * 8 := Rat.mul_le_mul_of_nonneg_left k8' h0
    grind
theorem plcOff_g8 (l y : Int) : G8 (plcOff l y) := by
  unfold plcOff
  split
  · exact g8_int _
  · refine ⟨l * y.tmod 5 * 2, ?_⟩
    have e : mkRat (l * y.tmod 5) 4 = ((l * y.tmod 5 : Int) : Rat) / 4 := by rw [Rat.mkRat_eq_div]; rfl
    rw [e, Rat.intCast_mul (l * y.tmod 5) 2]
    have h2 : ((2 : Int) : Rat) = 2 := rfl
    rw [h2]
    generalize ((l * y.tmod 5 : Int) : Rat) = z at *
    grind
theorem place_g8 (n : Net) (x y : Int) : G8 (placeN n x y).off := plcOff_g8 _ _
end Go.Proofs.YtopfgkbpakfccaaGreatDoor
