/-
 Between at positions that are not valid, plain; the least way is accepted.
-/
import Derived.Test.YtcelpkbmcmnogaaGreatDoorCkwW
set_option linter.unusedSimpArgs false
set_option linter.unusedVariables false
namespace Go.Proofs.YtcelpkbmcmnogaaGreatDoor
open Go Go.Vi
theorem cw_sm {n : Net} (h : GNet n) {p q : Plc} {L : List Lg} {s : Rat} (hc : Cw n p L q s) : ∀ x ∈ L, LgSm x := by
 induction hc with
 | nil => intro x hx; cases hx
 | cons h1 h2 h3 _ ih =>
  intro x hx
  rcases List.mem_cons.1 hx with rfl | hx
  ·have f : ∀ {p : Plc}, PosOK n p → G64 p.off ∧ 0 ≤ p.off ∧ p.off ≤ 48 := fun {p} hp => by
    obtain ⟨r, _, hm, _, h1, h2⟩ := hp.rd
    have := len_le h hm
    exact ⟨hp.g, h1, by grind⟩
   obtain ⟨a1, a2, a3⟩ := f h2.fa
   obtain ⟨b1, b2, b3⟩ := f h2.fb
   simp only at a1 a2 a3 b1 b2 b3
   exact ⟨a1, b1, by grind, by grind, by grind, by grind⟩
  ·exact ih x hx
/-- The least way has few legs. -/
theorem bw_few {n : Net} (h : GNet n) {p q : Plc} (hp : PosOK n p) (hq : PosOK n q) : (betweenN n (rtN n) p q).1.legs.length ≤ 10 := by
 have al : ∀ l, (alongN n p q l).toList.length ≤ 10 := fun l => by cases alongN n p q l <;> simp
 have lg : ∀ c, leastC (choicesN (rtN n) (exitsN n p).1 (entriesN n q).1) = some c → (legsN n c p q).length ≤ 10 := fun c hc => by
  obtain ⟨e, he, f, hf, R, l, hr, rfl⟩ := ch_mem.1 ((leastC_spec _).1 c hc).1
  have h8 := (rt_in h hr).2.2
  have l0 : (legs0 n ⟨e.len + f.len + (l : Rat), R, l, e, f⟩ p).length ≤ 1 := by
   unfold legs0
   split
   ·exact addL_len _ _
   ·simp
  have l1 : ∀ k, ((List.range k).foldl (midL n ⟨e.len + f.len + (l : Rat), R, l, e, f⟩) (legs0 n ⟨e.len + f.len + (l : Rat), R, l, e, f⟩ p)).length ≤ k + 1 := by
   intro k
   induction k with
   | zero => simpa using l0
   | succ k ih =>
    rw [List.range_succ, List.foldl_append, List.foldl_cons, List.foldl_nil]
    exact Nat.le_trans (addL_len _ _) (by omega)
  have l2 : (legs1 n ⟨e.len + f.len + (l : Rat), R, l, e, f⟩ p).length ≤ 9 := by
   unfold legs1
   have := l1 R.length
   simp only at this ⊢
   omega
  unfold legsN
  split
  ·exact Nat.le_trans (addL_len _ _) (by omega)
  ·omega
 unfold betweenN
 split
 ·simp [wyz]
 ·split
  ·simp
  ·cases ha : aheadN n p q <;> cases hc : leastC (choicesN (rtN n) (exitsN n p).1 (entriesN n q).1)
   ·simp [wyz]
   ·exact lg _ hc
   ·exact al _
   ·simp only
    split
    ·exact al _
    ·exact lg _ hc
end Go.Proofs.YtcelpkbmcmnogaaGreatDoor
