/-
  The plain law of delivery: lists of batches, extended and added to, in the program's order and in the model's.
-/
import Derived.Test.YthkhgfdjdpfoiaaGreatBatL
set_option linter.unusedSimpArgs false
set_option linter.unusedVariables false
namespace Go.Vi
open Go Go.RowKit
section
variable {α : Type}
/-- Batches up to number m. -/
def ext (L : List (List α)) (m : Nat) : List (List α) := L ++ List.replicate (m + 1 - L.length) []
def addAt (L : List (List α)) (k : Nat) (r : α) : List (List α) := L.set k (L.getD k [] ++ [r])
def addFor (L : List (List α)) (k : Nat) : Nat → α → List (List α)
  | 0, _ => L
  | c + 1, r => addFor (addAt L k r) (k + 1) c r
def addExt (L : List (List α)) (k : Nat) : Nat → α → List (List α)
  | 0, _ => L
  | c + 1, r => addExt (addAt (ext L k) k r) (k + 1) c r
theorem ext_len (L : List (List α)) (m : Nat) : m < (ext L m).length := by unfold ext; simp; omega
theorem ext_len_le (L : List (List α)) (m b : Nat) (h : L.length ≤ b) (hm : m < b) : (ext L m).length ≤ b := by unfold ext; simp; omega
theorem ext_done (L : List (List α)) (m : Nat) (h : m < L.length) : ext L m = L := by unfold ext; rw [show m + 1 - L.length = 0 by omega]; simp
theorem ext_push (L : List (List α)) (m : Nat) (h : L.length ≤ m) : ext (L ++ [[]]) m = ext L m := by
  unfold ext
  rw [List.append_assoc, List.length_append]
  congr 1
  rw [show m + 1 - L.length = (m + 1 - (L.length + [([] : List α)].length)) + 1 by simp; omega, List.replicate_succ]
  rfl
theorem ext_get (L : List (List α)) (m i : Nat) : (ext L m).getD i [] = L.getD i [] := by
  unfold ext
  rw [List.getD_eq_getElem?_getD, List.getD_eq_getElem?_getD]
  rcases Nat.lt_or_ge i L.length with h | h
  · rw [List.getElem?_append_left h]
  · rw [List.getElem?_append_right h, List.getElem?_eq_none h, List.getElem?_replicate]
    split <;> rfl
theorem addAt_len (L : List (List α)) (k : Nat) (r : α) : (addAt L k r).length = L.length := by simp [addAt]
theorem addAt_get (L : List (List α)) (k i : Nat) (r : α) : ((addAt L k r).getD i []).length ≤ (L.getD i []).length + 1 := by
  unfold addAt
  rw [List.getD_eq_getElem?_getD, List.getElem?_set]
  split
  · rename_i h; subst h
    split
    · simp
    · simp
  · rw [← List.getD_eq_getElem?_getD]; omega
theorem ext_addAt (L : List (List α)) (k : Nat) (r : α) : ext (addAt (ext L k) k r) (k + 1) = addAt (ext L (k + 1)) k r := by
  have h1 := ext_len L k
  have hx : ext L (k + 1) = ext (ext L k) (k + 1) := by
    unfold ext
    rw [List.append_assoc, List.length_append, List.length_replicate, List.replicate_append_replicate]
    congr 2
    omega
  rw [hx]
  generalize ext L k = E at h1
  unfold addAt
  have h2 : (ext E (k + 1)).getD k [] = E.getD k [] := ext_get E (k + 1) k
  rw [h2]
  unfold ext
  rw [List.length_set, List.set_append_left _ _ h1]
theorem addExt_len (L : List (List α)) (r : α) : ∀ (c k b : Nat), L.length ≤ b → k + c ≤ b → (addExt L k c r).length ≤ b := by
  intro c
  induction c generalizing L with
  | zero => intro k b h _; exact h
  | succ c ih =>
    intro k b h1 h2
    exact ih _ (k + 1) b (by rw [addAt_len]; exact ext_len_le L k b h1 (by omega)) (by omega)
theorem addExt_get (L : List (List α)) (r : α) : ∀ (c k b : Nat), (∀ i, (L.getD i []).length ≤ b) → ∀ i, ((addExt L k c r).getD i []).length ≤ b + c := by
  intro c
  induction c generalizing L with
  | zero => intro k b h i; exact h i
  | succ c ih =>
    intro k b h1 i
    have := ih (addAt (ext L k) k r) (k + 1) (b + 1) (fun j => by
      have h3 := addAt_get (ext L k) k j r
      rw [ext_get] at h3
      have := h1 j
      omega) i
    show ((addExt (addAt (ext L k) k r) (k + 1) c r).getD i []).length ≤ b + (c + 1)
    omega
theorem addExt_one (L : List (List α)) (k : Nat) (r : α) : addExt L k 1 r = addFor (ext L k) k 1 r := rfl
theorem addExt_two (L : List (List α)) (k : Nat) (r : α) : addExt L k 2 r = addFor (ext L (k + 1)) k 2 r := by
  show addAt (ext (addAt (ext L k) k r) (k + 1)) (k + 1) r = addAt (addAt (ext L (k + 1)) k r) (k + 1) r
  rw [ext_addAt]
end
/-- What happens to a report. -/
structure Fte where (lose twice : Bool) (late : Int)
instance : Inhabited Fte := ⟨⟨false, false, 0⟩⟩
def Fte.cs (f : Fte) : List Go.Value := [.bool f.lose, .bool f.twice, .int .i64 f.late]
def fateAt (F : List Fte) (i : Nat) : Fte := F.getD i ⟨false, false, 0⟩
/-- How often it arrives. -/
def Fte.cnt (f : Fte) : Nat := if f.lose then 0 else if f.twice then 2 else 1
theorem Fte.cnt_le (f : Fte) : f.cnt ≤ 2 := by
  unfold Fte.cnt
  split
  · omega
  · split <;> omega
def FOk (F : List Fte) : Prop := ∀ f ∈ F, 0 ≤ f.late ∧ f.late ≤ 16
instance (F : List Fte) : Decidable (FOk F) := by unfold FOk; infer_instance
theorem fateAt_ok {F : List Fte} (h : FOk F) (i : Nat) : 0 ≤ (fateAt F i).late ∧ (fateAt F i).late ≤ 16 := by
  unfold fateAt
  rw [List.getD_eq_getElem?_getD]
  rcases Nat.lt_or_ge i F.length with g | g
  · rw [List.getElem?_eq_getElem g]; exact h _ (List.getElem_mem g)
  · rw [List.getElem?_eq_none g]; exact ⟨by decide, by decide⟩
def delOk (size : Int) (F : List Fte) : Bool := decide ((1 ≤ size ∧ size ≤ 4096) ∧ FOk F)
section
variable {α : Type} [Inhabited α]
/-- The first batch of report i. -/
def firstD (z : Nat) (F : List Fte) (i : Nat) : Nat := i / z + (fateAt F i).late.toNat
/-- The batches when k reports have been delivered. -/
def delS (z : Nat) (F : List Fte) (R : List α) : Nat → List (List α)
  | 0 => [[]]
  | k + 1 => addExt (delS z F R k) (firstD z F k) (fateAt F k).cnt R[k]!
theorem firstD_le {z : Nat} {F : List Fte} (h : FOk F) (k : Nat) : firstD z F k ≤ k + 16 := by
  unfold firstD
  have h1 := fateAt_ok h k
  have h2 : k / z ≤ k := Nat.div_le_self k z
  omega
theorem delS_len {z : Nat} {F : List Fte} (h : FOk F) (R : List α) : ∀ k, (delS z F R k).length ≤ k + 18
  | 0 => by simp [delS]
  | k + 1 => by
    have h1 := delS_len (z := z) h R k
    have h2 := firstD_le (z := z) h k
    have h3 := (fateAt F k).cnt_le
    exact addExt_len _ _ _ _ _ (by omega) (by omega)
theorem delS_get (z : Nat) (F : List Fte) (R : List α) : ∀ k i, ((delS z F R k).getD i []).length ≤ 2 * k
  | 0, i => by
    cases i with
    | zero => simp [delS]
    | succ i => simp [delS]
  | k + 1, i => by
    have h1 := delS_get z F R k
    have h3 := (fateAt F k).cnt_le
    have := addExt_get (delS z F R k) R[k]! (fateAt F k).cnt (firstD z F k) (2 * k) h1 i
    show ((addExt _ _ _ _).getD i []).length ≤ _
    omega
theorem delS_lose {z : Nat} {F : List Fte} {R : List α} {k : Nat} (h : (fateAt F k).lose = true) : delS z F R (k + 1) = delS z F R k := by
  show addExt _ _ _ _ = _
  rw [show (fateAt F k).cnt = 0 by simp [Fte.cnt, h]]
  rfl
theorem delS_once {z : Nat} {F : List Fte} {R : List α} {k : Nat} (h : (fateAt F k).lose = false) (h2 : (fateAt F k).twice = false) : delS z F R (k + 1) = addFor (ext (delS z F R k) (firstD z F k)) (firstD z F k) 1 R[k]! := by
  show addExt _ _ _ _ = _
  rw [show (fateAt F k).cnt = 1 by simp [Fte.cnt, h, h2]]
  exact addExt_one _ _ _
theorem delS_twice {z : Nat} {F : List Fte} {R : List α} {k : Nat} (h : (fateAt F k).lose = false) (h2 : (fateAt F k).twice = true) : delS z F R (k + 1) = addFor (ext (delS z F R k) (firstD z F k + 1)) (firstD z F k) 2 R[k]! := by
  show addExt _ _ _ _ = _
  rw [show (fateAt F k).cnt = 2 by simp [Fte.cnt, h, h2]]
  exact addExt_two _ _ _
end
section
variable {α : Type}
/-- Lists of batches as rows. -/
def LV (cs : α → List Value) (L : List (List α)) : List (List (List Value)) := L.map fun l => l.map cs
theorem LV_len (cs : α → List Value) (L : List (List α)) : (LV cs L).length = L.length := by simp [LV]
theorem LV_push (cs : α → List Value) (L : List (List α)) : LV cs (L ++ [[]]) = LV cs L ++ [[]] := by simp [LV]
theorem LV_get (cs : α → List Value) (L : List (List α)) (i : Nat) : (LV cs L).getD i [] = (L.getD i []).map cs := by
  unfold LV
  rw [List.getD_eq_getElem?_getD, List.getD_eq_getElem?_getD, List.getElem?_map]
  cases L[i]? <;> rfl
theorem LV_addAt (cs : α → List Value) (L : List (List α)) (k : Nat) (r : α) : LV cs (addAt L k r) = (LV cs L).set k ((LV cs L).getD k [] ++ [cs r]) := by
  rw [LV_get]
  unfold LV addAt
  rw [List.map_set, List.map_append]
  rfl
end
section
variable {w : World} {B eB eR kR eX kX : Nat} {V : List (Value × Value)} {L : List (List (List Value))} {X : List (List Value)}
theorem Bat.made (w : World) (eB eR kR eX kX : Nat) : Bat (w.alloc (.cells #[.slice none 0 0, .slice none 0 0] eB)) w.heap.size eB eR kR eX kX (.slice (some ⟨w.heap.size, 0, none⟩) 1 1) [(.slice none 0 0, .slice none 0 0)] [[]] [] := by
  have hg : ∀ (i : Nat) (p : Value × Value), [((.slice none 0 0 : Value), (.slice none 0 0 : Value))][i]? = some p → p = (.slice none 0 0, .slice none 0 0) ∧ i = 0 := fun i p h => by
    cases i with
    | zero => simp at h; exact ⟨h.symm, rfl⟩
    | succ i => simp at h
  refine ⟨⟨⟨rfl, .inr ⟨w.heap.size, 1, #[.slice none 0 0, .slice none 0 0], rfl, Nat.le_refl _, obj_last _ _, Nat.le_refl _, by unfold maxLen; omega, rfl, rfl⟩⟩, fun r hr => by simp at hr; subst hr; rfl⟩, by simp, rfl, fun i p h => ?_, fun p h => ?_, fun i p hi h => ?_, fun i j p q g h1 h2 h3 h4 => ?_⟩
  · obtain ⟨rfl, rfl⟩ := hg i p h
    exact Ow.nil _ _ _ _
  · obtain ⟨rfl, _⟩ := hg 0 p h
    exact Ow.nil _ _ _ _
  · obtain ⟨rfl, _⟩ := hg i p h; rfl
  · rw [(hg i p h1).2, (hg j q h2).2]
/-- A row of a pair's first slice grows by one, and is stored back. -/
theorem Bat.add {w1 : World} {g n cap gg np cc : Nat} (h : Bat w B eB eR kR eX kX (.slice (some ⟨g, 0, none⟩) n cap) V L X) (hR : eR ≠ eB) (hX : eX ≠ eB) (hRX : eR ≠ eX) (k : Nat) (p : Value × Value) (hk : V[k]? = some p) {r : List Value} (hr : r.length = kR) (hg : w.grownBy w1 p.1.ownBlock) (hn : (L.getD k []).length = np)
    (ho : w1.ownsRow B eR kR (.slice (some ⟨gg, 0, none⟩) (np + 1) cc) (np + 1) ((L.getD k []).flatten ++ r)) (hat : p.1.ownBlock = some gg ∨ w.heap.size ≤ gg) :
    Bat (w1.setCell ⟨g, k * 2, none⟩ (.slice (some ⟨gg, 0, none⟩) (np + 1) cc)) B eB eR kR eX kX (.slice (some ⟨g, 0, none⟩) n cap) (V.set k (.slice (some ⟨gg, 0, none⟩) (np + 1) cc, p.2)) (L.set k (L.getD k [] ++ [r])) X := by
  refine h.back hR hX hRX k p hk hg ?_ ?_
  · subst hn
    exact Ow.grow (R := L.getD k []) (N := [r]) (m := 1) (by simpa using ho) rfl (h.rep k p hk).2 (fun x hx => by simp at hx; subst hx; exact hr)
  · rcases hat with e | e
    · exact .inl e.symm
    · exact .inr fun b hb => by simp [Value.ownBlock] at hb; omega
end
/-- No row lies in block b. -/
def Avoid (V : List (Value × Value)) (b : Nat) : Prop := ∀ (i : Nat) (p : Value × Value), V[i]? = some p → p.1.ownBlock ≠ some b
theorem Avoid.push {V : List (Value × Value)} {b : Nat} (h : Avoid V b) : Avoid (V ++ [(.slice none 0 0, .slice none 0 0)]) b := fun i p hp => by
  rcases Nat.lt_or_ge i V.length with hi | hi
  · rw [List.getElem?_append_left hi] at hp; exact h i p hp
  · rw [List.getElem?_append_right hi] at hp
    rcases Nat.eq_zero_or_pos (i - V.length) with e | e
    · rw [e] at hp; simp at hp; subst hp; simp [Value.ownBlock]
    · rw [List.getElem?_eq_none (by simp; omega)] at hp; cases hp
theorem Avoid.set {V : List (Value × Value)} {b k : Nat} (h : Avoid V b) {q : Value × Value} (hq : q.1.ownBlock ≠ some b) : Avoid (V.set k q) b := fun i p hp => by
  rw [List.getElem?_set] at hp
  split at hp
  · split at hp
    · injection hp with hp; subst hp; exact hq
    · cases hp
  · exact h i p hp
theorem Avoid.fresh {w : World} {B eB eR kR eX kX : Nat} {v : Value} {V : List (Value × Value)} {L : List (List (List Value))} {X : List (List Value)} (h : Bat w B eB eR kR eX kX v V L X) {b : Nat} (hb : w.heap.size ≤ b) : Avoid V b := fun i p hp e => by
  have := ((h.rep i p hp).blk b e).2
  omega
theorem Bat.excAt {w : World} {B eB eR kR eX kX : Nat} {v : Value} {V : List (Value × Value)} {L : List (List (List Value))} {X : List (List Value)} (h : Bat w B eB eR kR eX kX v V L X) (i : Nat) (p : Value × Value) (hp : V[i]? = some p) : Ow B w eX kX p.2 (if i = 0 then X else []) := by
  by_cases h0 : i = 0
  · subst h0; rw [if_pos rfl]; exact h.exc p hp
  · rw [if_neg h0, h.none_ i p (by omega) hp]; exact Ow.nil _ _ _ _
theorem Bat.mono {w : World} {B B' eB eR kR eX kX : Nat} {v : Value} {V : List (Value × Value)} {L : List (List (List Value))} {X : List (List Value)} (h : Bat w B eB eR kR eX kX v V L X) (hB : B' ≤ B) : Bat w B' eB eR kR eX kX v V L X :=
  ⟨h.own.mono hB, h.pos, h.len, fun i p hp => (h.rep i p hp).mono hB, fun p hp => (h.exc p hp).mono hB, h.none_, h.apart⟩
theorem Ow.far2 {B B' : Nat} {w : World} {e1 e2 k1 k2 : Nat} {v1 v2 : Value} {R1 R2 : List (List Value)} (h1 : Ow B w e1 k1 v1 R1) (h2 : Ow B' w e2 k2 v2 R2) (he : e1 ≠ e2) : v1.ownBlock = none ∨ v1.ownBlock ≠ v2.ownBlock :=
  (h1.mono (Nat.zero_le _)).apart (h2.mono (Nat.zero_le _)) he
end Go.Vi
