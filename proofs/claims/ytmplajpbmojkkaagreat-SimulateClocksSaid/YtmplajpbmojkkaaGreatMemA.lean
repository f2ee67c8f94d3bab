/-
  Words for memory that the proofs of this folder share: a slice of rows in memory, and small laws on worlds. No program is named here.
  A map with int keys in memory: its entries in the order in which they came; look-up, store, length.
  Ranging over a map with int keys: what a step gives, and what stays.
  A slice of rows in memory that a call has made: its row is owned.
  A map from ints to slices of the call's own: each key's slice owns a row, no two keys share one.
  Heads and tails of owned rows, as the append laws ask for them.
  A region that draws its order, with a condition on the world that holds as long as one operation (a store) has not come up: loads that come ahead of it may be taken first. No program is named here.
-/
import Derived.WalkKit
import Derived.WalkSpells
import Derived.Deep.QuietTactic
import Derived.BigQuiet
import Derived.Lib.Hide
import Derived.Deep.Quiet
import Derived.Maps.OwnSet
import Derived.Maps.RangeRun
import Derived.Maps.Range
import Derived.OwnWalk
import Derived.Deep.AppendSrc
import Derived.Deep.AppendLies
import Derived.Deep.RegionLawGrows
import Derived.Deep.RegionHeld3
set_option linter.unusedSimpArgs false
set_option linter.unusedVariables false
namespace Go.Vi
open Go Go.RowKit
/-- The slice value `v` lies below block `B` of `w`; its rows (of `k` cells each) are `R`. -/
def Sl (B : Nat) (w : World) (k : Nat) (v : Value) (R : List (List Value)) : Prop :=
  ∃ (a : Option Addr) (cap : Nat), v = .slice a R.length cap ∧ R.length ≤ cap ∧ cap ≤ maxLen ∧ (∀ r ∈ R, r.length = k) ∧ (a = none → R = []) ∧
    ∀ ad, a = some ad → ad.spot = none ∧ ad.block < B ∧ ∀ (i : Nat) (h : i < R.length) (c : Nat) (x : Value), R[i][c]? = some x → w.cell? ⟨ad.block, ad.off + i * k + c, none⟩ = some x
theorem Sl.keep {B B' : Nat} {w w' : World} {k : Nat} {v : Value} {R : List (List Value)} (h : Sl B w k v R) (hb : Below B' w w') (hB : B ≤ B') : Sl B w' k v R := by
  obtain ⟨a, cap, h1, h2, h3, h4, h5, h6⟩ := h
  refine ⟨a, cap, h1, h2, h3, h4, h5, fun ad e => ?_⟩
  obtain ⟨g1, g2, g3⟩ := h6 ad e
  refine ⟨g1, g2, fun i hi c x hx => ?_⟩
  rw [hb.cell (p := ⟨ad.block, _, none⟩) (Nat.lt_of_lt_of_le g2 hB)]
  exact g3 i hi c x hx
theorem Sl.mono {B B' : Nat} {w : World} {k : Nat} {v : Value} {R : List (List Value)} (h : Sl B w k v R) (hB : B ≤ B') : Sl B' w k v R := by
  obtain ⟨a, cap, h1, h2, h3, h4, h5, h6⟩ := h
  exact ⟨a, cap, h1, h2, h3, h4, h5, fun ad e => by
    obtain ⟨g1, g2, g3⟩ := h6 ad e
    exact ⟨g1, Nat.lt_of_lt_of_le g2 hB, g3⟩⟩
/-- Opened: the value's shape for every walk. -/
theorem Sl.open {B : Nat} {w : World} {k : Nat} {v : Value} {R : List (List Value)} (h : Sl B w k v R) :
    ∃ (a : Option Addr) (n cap : Nat), v = .slice a n cap ∧ R.length = n ∧ n ≤ cap ∧ cap ≤ maxLen := by
  obtain ⟨a, cap, h1, h2, h3, _⟩ := h
  exact ⟨a, _, cap, h1, rfl, h2, h3⟩
theorem Sl.none_ {B : Nat} {w : World} {k n cap : Nat} {R : List (List Value)} (h : Sl B w k (.slice none n cap) R) : R = [] := by
  obtain ⟨a', cap', h1, _, _, _, h5, _⟩ := h
  injection h1 with e1 e2 e3
  exact h5 e1.symm
theorem Sl.addr {B : Nat} {w : World} {k n cap : Nat} {ad : Addr} {R : List (List Value)} (h : Sl B w k (.slice (some ad) n cap) R) : ∃ b off, ad = ⟨b, off, none⟩ ∧ b < B := by
  obtain ⟨a', cap', h1, _, _, _, _, h6⟩ := h
  injection h1 with e1 e2 e3
  obtain ⟨g1, g2, _⟩ := h6 ad e1.symm
  obtain ⟨b, off, s⟩ := ad
  simp only at g1
  subst g1
  exact ⟨b, off, rfl, g2⟩
theorem Sl.len {B : Nat} {w : World} {k n cap : Nat} {a : Option Addr} {R : List (List Value)} (h : Sl B w k (.slice a n cap) R) : R.length = n := by
  obtain ⟨a', cap', h1, _⟩ := h
  cases h1; rfl
/-- What lay below the heap's end lies there in every later world. -/
theorem Sl.later {w w' : World} {k : Nat} {v : Value} {R : List (List Value)} (h : Sl w.heap.size w k v R) (hb : Below w.heap.size w w') : Sl w'.heap.size w' k v R :=
  (h.keep hb (Nat.le_refl _)).mono hb.size
theorem Sl.at {B : Nat} {w : World} {k cap n : Nat} {a : Option Addr} {R : List (List Value)} (h : Sl B w k (.slice a n cap) R) (i : Nat) (hi : i < R.length) :
    ∃ b off, a = some ⟨b, off, none⟩ ∧ b < B ∧ ∀ (j : Nat) (hj : j < R.length) (c : Nat) (x : Value), R[j][c]? = some x → w.cell? ⟨b, off + j * k + c, none⟩ = some x := by
  obtain ⟨a', cap', h1, _, _, _, h5, h6⟩ := h
  cases h1
  cases a with
  | none => rw [h5 rfl] at hi; simp at hi
  | some ad =>
    obtain ⟨g1, g2, g3⟩ := h6 ad rfl
    obtain ⟨b, off, spot⟩ := ad
    simp only at g1
    subst g1
    exact ⟨b, off, rfl, g2, g3⟩
theorem drewN_ {B : Nat} {a w : World} (h : Below B a w) (n : Nat) : Below B a (w.drewN n) := h.trans ⟨rfl, rfl, rfl, Nat.le_refl _, fun _ _ => rfl⟩
/-- A call behind w: from the world w on. -/
theorem from_ {w W W1 : World} (h2 : Below W.heap.size W W1) (h : Below w.heap.size w W) : Below w.heap.size w W1 := h.trans (h2.mono h.size)
theorem bcell {W w1 : World} (hb : Below W.heap.size W w1) : (∀ b o, b < W.heap.size → w1.cell? ⟨b, o, none⟩ = W.cell? ⟨b, o, none⟩) ∧ (∀ b o, b < W.heap.size → w1.frozen? ⟨b, o, none⟩ = W.frozen? ⟨b, o, none⟩) :=
  ⟨fun b o h => hb.cell (p := ⟨b, o, none⟩) h, fun b o h => hb.frozen (p := ⟨b, o, none⟩) h⟩
/-! A block whose content is known: it stays so over whatever turns elsewhere. -/
theorem keepObj {W w1 : World} {b : Nat} {o : Obj} (hb : Below W.heap.size W w1) (h : W.heap[b]? = some o) : w1.heap[b]? = some o := by
  have hlt : b < W.heap.size := by
    rcases Nat.lt_or_ge b W.heap.size with g | g
    · exact g
    · rw [Array.getElem?_eq_none g] at h; cases h
  rw [hb.block b hlt]; exact h
theorem obj_last (X : World) (o : Obj) : (X.alloc o).heap[X.heap.size]? = some o := by show (X.heap.push o)[X.heap.size]? = _; simp
theorem obj_last2 (X : World) (A B : Obj) : ((X.alloc A).alloc B).heap[X.heap.size + 1]? = some B := by
  have q := obj_last (X.alloc A) B
  have e : (X.alloc A).heap.size = X.heap.size + 1 := by simp
  rw [e] at q; exact q
theorem obj_old {X : World} {b : Nat} {o o' : Obj} (h : X.heap[b]? = some o) : (X.alloc o').heap[b]? = some o := by
  have hlt : b < X.heap.size := by
    rcases Nat.lt_or_ge b X.heap.size with g | g
    · exact g
    · rw [Array.getElem?_eq_none g] at h; cases h
  rw [Below.heap_alloc _ _ _ hlt]; exact h
theorem obj_lt {X : World} {b : Nat} {o : Obj} (h : X.heap[b]? = some o) : b < X.heap.size := by
  rcases Nat.lt_or_ge b X.heap.size with g | g
  · exact g
  · rw [Array.getElem?_eq_none g] at h; cases h
theorem obj_cell {w : World} {b : Nat} {cs : Array Value} {T : TypeId} {fr : Nat × Nat} (h : w.heap[b]? = some (.cells cs T fr)) (off : Nat) : w.cell? ⟨b, off, none⟩ = cs[off]? := by simp [World.cell?, h]
theorem obj_free {w : World} {b : Nat} {cs : Array Value} {T : TypeId} (h : w.heap[b]? = some (.cells cs T (0, 0))) (off : Nat) : w.frozen? ⟨b, off, none⟩ = false := by simp [World.frozen?, h]
theorem obj_set {w : World} {b off : Nat} {cs : Array Value} {T : TypeId} {fr : Nat × Nat} {v : Value} (h : w.heap[b]? = some (.cells cs T fr)) : (w.setCell ⟨b, off, none⟩ v).heap[b]? = some (.cells (cs.setIfInBounds off v) T fr) := by
  simp [World.setCell, Array.getElem?_modify, h]
theorem obj_setOther {w : World} {b : Nat} {o : Obj} {a : Addr} {v : Value} (h : w.heap[b]? = some o) (hne : b ≠ a.block) : (w.setCell a v).heap[b]? = some o := by
  rw [Below.heap_setCell _ _ _ _ hne]; exact h
end Go.Vi
namespace Go.Vi
open Go Go.RowKit
/-- The entry at a key, in a list of entries without a key twice. -/
def look {α : Type} : List (Int × α) → Int → Option α
  | [], _ => none
  | p :: E, k => if p.1 = k then some p.2 else look E k
def put {α : Type} : List (Int × α) → Int → α → List (Int × α)
  | [], k, v => [(k, v)]
  | p :: E, k, v => if p.1 = k then (k, v) :: E else p :: put E k v
theorem look_put {α : Type} (k : Int) (v : α) (j : Int) : ∀ E : List (Int × α), look (put E k v) j = if j = k then some v else look E j
  | [] => by
    by_cases h : j = k
    · subst h; simp [put, look]
    · simp [put, look, h, Ne.symm h]
  | p :: E => by
    unfold put
    by_cases h : p.1 = k
    · rw [if_pos h]
      by_cases hj : j = k
      · subst hj; simp [look]
      · have h2 : ¬ p.1 = j := fun e => hj (by rw [← e, h])
        simp [look, hj, Ne.symm hj, h2]
    · rw [if_neg h]
      by_cases hj : p.1 = j
      · have : ¬ j = k := fun e => h (by rw [hj, e])
        simp [look, hj, this]
      · simp only [look, if_neg hj]; exact look_put k v j E
theorem keys_put {α : Type} (k : Int) (v : α) : ∀ E : List (Int × α), ∀ x, x ∈ (put E k v).map (·.1) ↔ x = k ∨ x ∈ E.map (·.1)
  | [], x => by simp [put]
  | p :: E, x => by
    unfold put
    by_cases h : p.1 = k
    · rw [if_pos h]; simp [h]
    · rw [if_neg h]
      have := keys_put k v E x
      simp only [List.map_cons, List.mem_cons, this]
      constructor
      · rintro (h | h | h) <;> simp [h]
      · rintro (h | h | h) <;> simp [h]
theorem nodup_put {α : Type} (k : Int) (v : α) : ∀ E : List (Int × α), (E.map (·.1)).Nodup → ((put E k v).map (·.1)).Nodup
  | [], _ => by simp [put]
  | p :: E, hn => by
    unfold put
    simp only [List.map_cons, List.nodup_cons] at hn
    by_cases h : p.1 = k
    · rw [if_pos h]; simp only [List.map_cons, List.nodup_cons]; rw [← h]; exact hn
    · rw [if_neg h]
      simp only [List.map_cons, List.nodup_cons]
      refine ⟨fun hm => ?_, nodup_put k v E hn.2⟩
      rcases (keys_put k v E p.1).1 hm with g | g
      · exact h g
      · exact hn.1 g
theorem look_none {α : Type} (k : Int) : ∀ E : List (Int × α), look E k = none ↔ k ∉ E.map (·.1)
  | [] => by simp [look]
  | p :: E => by
    unfold look
    by_cases h : p.1 = k
    · rw [if_pos h]; simp [h]
    · rw [if_neg h, look_none k E]; simp [Ne.symm h]
theorem look_mem {α : Type} {k : Int} {v : α} : ∀ {E : List (Int × α)}, look E k = some v → (k, v) ∈ E
  | p :: E, h => by
    unfold look at h
    by_cases hp : p.1 = k
    · rw [if_pos hp] at h
      injection h with h
      have : p = (k, v) := Prod.ext hp h
      rw [this]; exact List.mem_cons_self ..
    · rw [if_neg hp] at h; exact List.mem_cons_of_mem _ (look_mem h)
theorem mem_look {α : Type} {k : Int} {v : α} : ∀ {E : List (Int × α)}, (E.map (·.1)).Nodup → (k, v) ∈ E → look E k = some v
  | p :: E, hn, h => by
    simp only [List.map_cons, List.nodup_cons] at hn
    unfold look
    rcases List.mem_cons.1 h with h | h
    · rw [← h]; simp
    · have : ¬ p.1 = k := fun e => hn.1 (by rw [e]; exact List.mem_map.2 ⟨_, h, rfl⟩)
      rw [if_neg this]; exact mem_look hn.2 h
theorem put_new {α : Type} (k : Int) (v : α) : ∀ E : List (Int × α), look E k = none → put E k v = E ++ [(k, v)]
  | [], _ => rfl
  | p :: E, h => by
    unfold look at h
    by_cases hp : p.1 = k
    · rw [if_pos hp] at h; cases h
    · rw [if_neg hp] at h
      unfold put
      rw [if_neg hp, put_new k v E h]; rfl
theorem map_modify_born (l : List MapEntry) (j : Nat) (x v : Value) : (l.modify j fun e => { e with key := x, val := v }).map (·.born) = l.map (·.born) := by
  induction l generalizing j with
  | nil => simp
  | cons e l ih => cases j with
    | zero => simp
    | succ j => simp [ih]
/-- What an entry is, as key and value. -/
def kv (e : MapEntry) : Value × Value := (e.key, e.val)
def ikv (p : Int × Value) : Value × Value := (.int .i64 p.1, p.2)
/-- Block `b` is a map with int keys whose entries are `E`, in the order of their coming; no key twice. -/
def IMap (w : World) (b : Nat) (E : List (Int × Value)) : Prop :=
  ∃ (es : Array MapEntry) (clock : Nat), w.heap[b]? = some (.map es clock) ∧ es.toList.map kv = E.map ikv ∧ (E.map (·.1)).Nodup ∧
    es.toList.Pairwise (fun x y => x.born < y.born) ∧ ∀ e ∈ es.toList, e.born < clock
theorem find_int (k : Int) : ∀ (l : List MapEntry) (E : List (Int × Value)) (i : Nat), l.map kv = E.map ikv →
    (look E k = none ∧ Instr.findNow (.int .i64) (.int .i64 k) l i = some none) ∨
    ∃ (j : Nat) (e : MapEntry), l[j]? = some e ∧ e.key = .int .i64 k ∧ look E k = some e.val ∧ Instr.findNow (.int .i64) (.int .i64 k) l i = some (some (i + j, e.val)) ∧
      ∀ v, (l.modify j fun e => { e with key := .int .i64 k, val := v }).map kv = (put E k v).map ikv
  | [], [], i, _ => .inl ⟨rfl, rfl⟩
  | [], p :: E, i, h => by simp at h
  | e :: l, [], i, h => by simp at h
  | e :: l, p :: E, i, h => by
    simp only [List.map_cons, List.cons.injEq] at h
    obtain ⟨h1, h2⟩ := h
    simp only [kv, ikv, Prod.mk.injEq] at h1
    obtain ⟨hk, hv⟩ := h1
    have hs : Instr.sameNow (.int .i64) (.int .i64 k) e.key = some (k == p.1) := by rw [hk]; rfl
    by_cases hp : p.1 = k
    · refine .inr ⟨0, e, rfl, by rw [hk, hp], by simp [look, hp, hv], ?_, fun v => ?_⟩
      · have : (k == p.1) = true := by simp [hp]
        simp only [Instr.findNow, hs, this]; rfl
      · simp [put, hp, kv, ikv]
        exact h2
    · have hb : (k == p.1) = false := by simpa using fun e => hp e.symm
      rcases find_int k l E (i + 1) h2 with ⟨g1, g2⟩ | ⟨j, e', g1, g2, g3, g4, g5⟩
      · refine .inl ⟨by simp [look, hp, g1], ?_⟩
        simp only [Instr.findNow, hs, hb]; exact g2
      · refine .inr ⟨j + 1, e', by simpa using g1, g2, by simp [look, hp, g3], ?_, fun v => ?_⟩
        · simp only [Instr.findNow, hs, hb]; rw [g4]; congr 2; simp; omega
        · have := g5 v
          simp only [put, if_neg hp, List.modify_succ_cons, List.map_cons, this]
          simp [kv, ikv, hk, hv]
section
variable {P : Program} {w : World} {b : Nat} {E : List (Int × Value)}
theorem IMap.lt (h : IMap w b E) : b < w.heap.size := by
  obtain ⟨es, c, h1, _⟩ := h; exact obj_lt h1
theorem IMap.nodup (h : IMap w b E) : (E.map (·.1)).Nodup := by
  obtain ⟨es, c, _, _, h3, _⟩ := h; exact h3
/-- A map stays over whatever turns elsewhere. -/
theorem IMap.kept {w' : World} {row : Option Nat} (h : IMap w b E) (hg : w.grownBy w' row) (hne : some b ≠ row) : IMap w' b E := by
  obtain ⟨es, c, h1, h2⟩ := h
  exact ⟨es, c, by rw [hg.block b (obj_lt h1) hne]; exact h1, h2⟩
theorem IMap.keep {w' : World} (h : IMap w b E) (hb : Below w.heap.size w w') : IMap w' b E := by
  obtain ⟨es, c, h1, h2⟩ := h
  exact ⟨es, c, keepObj hb h1, h2⟩
theorem IMap.setCell (h : IMap w b E) (a : Addr) (v : Value) : IMap (w.setCell a v) b E := by
  obtain ⟨es, c, h1, h2⟩ := h
  refine ⟨es, c, ?_, h2⟩
  simp only [World.setCell, Array.getElem?_modify]
  split <;> simp [h1]
theorem IMap.made (w : World) : IMap (w.alloc (.map #[] 0)) w.heap.size [] := ⟨#[], 0, obj_last _ _, rfl, by simp, by simp, by simp⟩
theorem IMap.lookup {t k e : TypeId} (h : IMap w b E) (ht : P.underlying t = some (.map k e)) (hk : P.underlying k = some (.int .i64)) {z : Value} (hz : (zeroValue e).run P w = .ok z w) (x : Int) (c : Bool) :
    (Instr.lookup t (.map (some b)) (.int .i64 x) c).run P w = .ok (if c then .tuple #[(look E x).getD z, .bool (look E x).isSome] else (look E x).getD z) w := by
  obtain ⟨es, clock, hb, h2, _⟩ := h
  have hck := MapKept.run_checkKey (P := P) (w := w) (k := .int .i64 x) hk (by simp [MapKept.IsKey]) es.isEmpty 9999
  rcases find_int x es.toList E 0 h2 with ⟨g1, g2⟩ | ⟨j, e0, g1, g2, g3, g4, _⟩
  · simp [Instr.lookup, run_underlying ht, MapKept.run_getObj_map hb, hck, Instr.findKey, run_underlying hk, g1, g2, hz, Result.andThen]
  · simp [Instr.lookup, run_underlying ht, MapKept.run_getObj_map hb, hck, Instr.findKey, run_underlying hk, g3, g4, Result.andThen]
/-- A look-up in a map that is nil. -/
theorem run_lookup_nilmap {t k e : TypeId} (w : World) (ht : P.underlying t = some (.map k e)) (hk : P.underlying k = some (.int .i64)) {z : Value} (hz : (zeroValue e).run P w = .ok z w) (x : Int) (c : Bool) :
    (Instr.lookup t (.map none) (.int .i64 x) c).run P w = .ok (if c then .tuple #[z, .bool false] else z) w := by
  have hck := MapKept.run_checkKey (P := P) (w := w) (k := .int .i64 x) hk (by simp [MapKept.IsKey]) true 9999
  simp [Instr.lookup, run_underlying ht, hck, Instr.findKey, run_underlying hk, Instr.findNow, hz, Result.andThen]
/-- The object behind a store. -/
def mput (k : Int) (v : Value) : Obj → Obj
  | .map es c => match Instr.findNow (.int .i64) (.int .i64 k) es.toList 0 with
    | some (some (j, _)) => .map (es.modify j fun e => { e with key := .int .i64 k, val := v }) c
    | _ => .map (es.push { key := .int .i64 k, val := v, born := c }) (c + 1)
  | o => o
def mset (w : World) (b : Nat) (k : Int) (v : Value) : World := { w with heap := w.heap.modify b (mput k v) }
theorem size_mset (w : World) (b : Nat) (k : Int) (v : Value) : (mset w b k v).heap.size = w.heap.size := by simp [mset]
theorem mset_grown (w : World) (b : Nat) (k : Int) (v : Value) : w.grownBy (mset w b k v) (some b) :=
  ⟨rfl, rfl, rfl, by rw [size_mset]; exact Nat.le_refl _, fun i _ hne => by simp only [mset, Array.getElem?_modify]; rw [if_neg (fun e => hne (by rw [e]))]⟩
theorem setIf_modify {es : Array MapEntry} {clock : Nat} (hb : w.heap[b]? = some (.map es clock)) (k : Int) (v : Value) (o : Obj) (ho : mput k v (.map es clock) = o) : w.heap.setIfInBounds b o = w.heap.modify b (mput k v) := by
  apply Array.ext_getElem?
  intro i
  rw [Array.getElem?_setIfInBounds, Array.getElem?_modify]
  by_cases hi : b = i
  · subst hi; rw [if_pos rfl, if_pos rfl, if_pos (obj_lt hb), hb, ← ho]; rfl
  · rw [if_neg hi, if_neg hi]
theorem IMap.update {t k e : TypeId} (h : IMap w b E) (ht : P.underlying t = some (.map k e)) (hk : P.underlying k = some (.int .i64)) (x : Int) (v : Value) :
    (Instr.mapUpdate t (.map (some b)) (.int .i64 x) v).run P w = .ok () (mset w b x v) := by
  obtain ⟨es, clock, hb, h2, _⟩ := h
  have hck := MapKept.run_checkKey (P := P) (w := w) (k := .int .i64 x) hk (by simp [MapKept.IsKey]) false 9999
  rcases find_int x es.toList E 0 h2 with ⟨g1, g2⟩ | ⟨j, e0, g1, g2, g3, g4, _⟩
  · have hm : mput x v (.map es clock) = .map (es.push { key := .int .i64 x, val := v, born := clock }) (clock + 1) := by simp only [mput, g2]
    simp [Instr.mapUpdate, run_underlying ht, MapKept.run_getObj_map hb, hck, Instr.findKey, run_underlying hk, g2, Result.andThen, MapKept.run_setObj_map _ hb]
    rw [setIf_modify hb x v _ hm]; rfl
  · have hm : mput x v (.map es clock) = .map (es.modify j fun e => { e with key := .int .i64 x, val := v }) clock := by simp only [mput, g4, Nat.zero_add]
    have hj : es[j]? = some e0 := by rw [← Array.getElem?_toList]; exact g1
    have hs : Instr.sameBits 10000 (.int .i64 x) (.int .i64 x) = true := by simp [Instr.sameBits]
    simp [Instr.mapUpdate, run_underlying ht, MapKept.run_getObj_map hb, hck, Instr.findKey, run_underlying hk, g4, Result.andThen, MapKept.run_setObj_map _ hb, Instr.keyThatStays, hj, g2, hs]
    rw [setIf_modify hb x v _ hm]; rfl
theorem IMap.updated (h : IMap w b E) (x : Int) (v : Value) : IMap (mset w b x v) b (put E x v) := by
  obtain ⟨es, clock, hb, h2, h3, h4, h5⟩ := h
  have hobj : (mset w b x v).heap[b]? = some (mput x v (.map es clock)) := by simp [mset, Array.getElem?_modify, hb]
  rcases find_int x es.toList E 0 h2 with ⟨g1, g2⟩ | ⟨j, e0, g1, g2, g3, g4, g5⟩
  · refine ⟨es.push { key := .int .i64 x, val := v, born := clock }, clock + 1, by rw [hobj]; simp only [mput, g2], ?_, nodup_put x v E h3, ?_, ?_⟩
    · have : put E x v = E ++ [(x, v)] := put_new x v E g1
      rw [this, Array.toList_push, List.map_append, h2, List.map_append]; rfl
    · rw [Array.toList_push, List.pairwise_append]
      exact ⟨h4, by simp, fun a ha y hy => by simp at hy; subst hy; exact h5 a ha⟩
    · intro e he
      rw [Array.toList_push] at he
      rcases List.mem_append.1 he with g | g
      · have := h5 e g; omega
      · simp at g; subst g; simp
  · rw [Nat.zero_add] at g4
    refine ⟨es.modify j fun e => { e with key := .int .i64 x, val := v }, clock, by rw [hobj]; simp only [mput, g4], ?_, nodup_put x v E h3, ?_, ?_⟩
    · rw [Array.toList_modify]; exact g5 v
    · rw [Array.toList_modify]
      have e1 : (es.toList.modify j fun e => { e with key := (.int .i64 x : Value), val := v }).map (·.born) = es.toList.map (·.born) := map_modify_born _ _ _ _
      have h4' : (es.toList.map (·.born)).Pairwise (· < ·) := List.pairwise_map.2 h4
      rw [← e1] at h4'
      exact List.pairwise_map.1 h4'
    · intro e he
      rw [Array.toList_modify] at he
      have e1 : (es.toList.modify j fun e => { e with key := (.int .i64 x : Value), val := v }).map (·.born) = es.toList.map (·.born) := map_modify_born _ _ _ _
      have hm : e.born ∈ es.toList.map (·.born) := by rw [← e1]; exact List.mem_map.2 ⟨e, he, rfl⟩
      obtain ⟨e', h', h''⟩ := List.mem_map.1 hm
      rw [← h'']; exact h5 e' h'
theorem IMap.len {t k e : TypeId} (h : IMap w b E) (ht : P.underlying t = some (.map k e)) (ty : TypeId) : (Builtin.len_ #[t] ty #[.map (some b)]).run P w = .ok (.int .i64 E.length) w := by
  obtain ⟨es, clock, hb, h2, _⟩ := h
  have : es.size = E.length := by have := congrArg List.length h2; simpa using this
  simp [Builtin.len_, Builtin.lenOf, run_underlying ht, MapKept.run_getObj_map hb, this, Result.andThen, goInt]
end
end Go.Vi
namespace Go.Vi
open Go Go.RowKit Go.ChangeMaps
/-- Block `r` is an iterator over the map of block `b`, which holds `E`; the keys `seen` have come, the last one first; nothing has been added since. -/
def IIter (w : World) (r b : Nat) (E : List (Int × Value)) (seen : List Int) : Prop :=
  ∃ (es : Array MapEntry) (clock : Nat) (bs : Array Nat), w.heap[b]? = some (.map es clock) ∧ es.toList.map kv = E.map ikv ∧ (E.map (·.1)).Nodup ∧
    es.toList.Pairwise (fun x y => x.born < y.born) ∧ (∀ e ∈ es.toList, e.born < clock) ∧ w.heap[r]? = some (.mapIter (some b) clock bs clock) ∧
    (∀ e ∈ es.toList, ∀ k, e.key = .int .i64 k → (bs.contains e.born = true ↔ k ∈ seen)) ∧
    (∀ k l, seen = k :: l → ∃ e ∈ es.toList, ∃ bs' : Array Nat, e.key = .int .i64 k ∧ bs = bs'.push e.born) ∧ (∀ k ∈ seen, k ∈ E.map (·.1))
section
variable {P : Program} {w : World} {r b : Nat} {E : List (Int × Value)} {seen : List Int}
theorem IIter.map (h : IIter w r b E seen) : IMap w b E := by
  obtain ⟨es, clock, bs, h1, h2, h3, h4, h5, _⟩ := h
  exact ⟨es, clock, h1, h2, h3, h4, h5⟩
theorem IIter.lt (h : IIter w r b E seen) : r < w.heap.size := by
  obtain ⟨es, clock, bs, _, _, _, _, _, h6, _⟩ := h
  exact obj_lt h6
theorem IIter.kept {w' : World} {row : Option Nat} (h : IIter w r b E seen) (hg : w.grownBy w' row) (hb : some b ≠ row) (hr : some r ≠ row) : IIter w' r b E seen := by
  obtain ⟨es, clock, bs, h1, h2, h3, h4, h5, h6, h7⟩ := h
  exact ⟨es, clock, bs, by rw [hg.block b (obj_lt h1) hb]; exact h1, h2, h3, h4, h5, by rw [hg.block r (obj_lt h6) hr]; exact h6, h7⟩
theorem IIter.keep {w' : World} (h : IIter w r b E seen) (hb : Below w.heap.size w w') : IIter w' r b E seen := by
  obtain ⟨es, clock, bs, h1, h2, h3, h4, h5, h6, h7⟩ := h
  exact ⟨es, clock, bs, keepObj hb h1, h2, h3, h4, h5, keepObj hb h6, h7⟩
theorem kv_key {l : List MapEntry} {E : List (Int × Value)} (h : l.map kv = E.map ikv) {e : MapEntry} (he : e ∈ l) : ∃ k, e.key = .int .i64 k ∧ (k, e.val) ∈ E := by
  have : kv e ∈ E.map ikv := by rw [← h]; exact List.mem_map.2 ⟨e, he, rfl⟩
  obtain ⟨p, hp, hpe⟩ := List.mem_map.1 this
  simp only [ikv, kv, Prod.mk.injEq] at hpe
  exact ⟨p.1, hpe.1.symm, by rw [← hpe.2]; exact hp⟩
theorem kv_ent {l : List MapEntry} {E : List (Int × Value)} (h : l.map kv = E.map ikv) {k : Int} {v : Value} (hm : (k, v) ∈ E) : ∃ e ∈ l, e.key = .int .i64 k ∧ e.val = v := by
  have : ikv (k, v) ∈ l.map kv := by rw [h]; exact List.mem_map.2 ⟨_, hm, rfl⟩
  obtain ⟨e, he, hpe⟩ := List.mem_map.1 this
  simp only [ikv, kv, Prod.mk.injEq] at hpe
  exact ⟨e, he, hpe.1, hpe.2⟩
theorem born_inj {l : List MapEntry} (h : l.Pairwise (fun x y => x.born < y.born)) {e e' : MapEntry} (he : e ∈ l) (he' : e' ∈ l) (hb : e.born = e'.born) : e = e' := by
  induction l with
  | nil => cases he
  | cons a l ih =>
    rw [List.pairwise_cons] at h
    rcases List.mem_cons.1 he with rfl | g
    · rcases List.mem_cons.1 he' with g' | g'
      · exact g'.symm
      · have := h.1 e' g'; omega
    · rcases List.mem_cons.1 he' with rfl | g'
      · have := h.1 e g; omega
      · exact ih h.2 g g'
theorem entry_eq_of_key_kv {l : List MapEntry} {E : List (Int × Value)} (h : l.map kv = E.map ikv) (hn : (E.map (·.1)).Nodup) {e e' : MapEntry} (he : e ∈ l) (he' : e' ∈ l) (hk : e.key = e'.key) : e = e' := by
  have hp : l.Pairwise (fun x y => x.key ≠ y.key) := by
    have e1 : l.map (·.key) = (E.map (·.1)).map (fun k => (.int .i64 k : Value)) := by
      have := congrArg (List.map Prod.fst) h
      simpa [kv, ikv, Function.comp_def] using this
    have e2 : ((E.map (·.1)).map (fun k => (.int .i64 k : Value))).Nodup := List.Pairwise.map _ (fun a b hab hc => hab (by injection hc)) hn
    rw [← e1] at e2
    exact List.pairwise_map.1 e2
  exact Go.entry_eq_of_key hp he he' hk
theorem IMap.range {t k e : TypeId} (h : IMap w b E) (ht : P.underlying t = some (.map k e)) :
    ∃ o, (Instr.range t (.map (some b))).run P w = .ok (.pointer (some ⟨w.heap.size, 0, none⟩)) (w.alloc o) ∧ IIter (w.alloc o) w.heap.size b E [] := by
  obtain ⟨es, clock, h1, h2, h3, h4, h5⟩ := h
  refine ⟨.mapIter (some b) clock #[] clock, ?_, es, clock, #[], obj_old h1, h2, h3, h4, h5, obj_last _ _, by simp, by simp, by simp⟩
  simp [Instr.range, run_underlying ht, MapKept.run_getObj_map h1, Result.andThen]
theorem run_setObj_iter {m : Option Nat} {s c : Nat} {bs : Array Nat} (hr : w.heap[r]? = some (.mapIter m s bs c)) (o' : Obj) : (setObj r o').run P w = .ok () { w with heap := w.heap.setIfInBounds r o' } := by
  simp [setObj, Sem.run, hr]
theorem run_getObj_iter {m : Option Nat} {s c : Nat} {bs : Array Nat} (hr : w.heap[r]? = some (.mapIter m s bs c)) : (getObj r).run P w = .ok (.mapIter m s bs c) w := by
  simp [getObj, Sem.run, hr]
theorem IIter.next (h : IIter w r b E seen) (hne : r ≠ b) (ty : TypeId) :
    ((∀ k ∈ E.map (·.1), k ∈ seen) ∧ (Instr.next (.pointer (some ⟨r, 0, none⟩)) false ty).run P w = .ok (.tuple #[.bool false]) w) ∨
    ∃ k v w', k ∉ seen ∧ (k, v) ∈ E ∧ (Instr.next (.pointer (some ⟨r, 0, none⟩)) false ty).run P w = .ok (.tuple #[.bool true, .int .i64 k, v]) w' ∧ IIter w' r b E (k :: seen) ∧ w.grownBy w' (some r) ∧ w'.heap.size = w.heap.size := by
  obtain ⟨es, clock, bs, h1, h2, h3, h4, h5, h6, h7, h8, h9⟩ := h
  have hmemk : ∀ k ∈ E.map (·.1), ∃ e ∈ es.toList, e.key = .int .i64 k := fun k hk => by
    obtain ⟨p, hp, rfl⟩ := List.mem_map.1 hk
    obtain ⟨e, he, hek, _⟩ := kv_ent h2 (k := p.1) (v := p.2) hp
    exact ⟨e, he, hek⟩
  rcases Go.run_next_at (P := P) w ty r b clock clock bs es clock h6 h1 h5 (Nat.le_refl _) with ⟨g1, g2⟩ | ⟨e, g1, w1, g2, g3⟩
  · refine .inl ⟨fun k hk => ?_, g2⟩
    obtain ⟨e, he, hek⟩ := hmemk k hk
    have hnot : e ∉ (leftOf es bs).toList := by
      have : (leftOf es bs) = #[] := Array.eq_empty_of_size_eq_zero g1
      rw [this]; simp
    have : bs.contains e.born = true := by
      rcases hc : bs.contains e.born with _ | _
      · exact absurd (by simp only [leftOf, Array.toList_filter, List.mem_filter]; exact ⟨he, by rw [hc]; rfl⟩) hnot
      · rfl
    exact (h7 e he k hek).1 this
  · have he : e ∈ es.toList ∧ bs.contains e.born = false := by
      simp only [leftOf, Array.toList_filter, List.mem_filter] at g1
      exact ⟨g1.1, by simpa using g1.2⟩
    obtain ⟨k, hek, hkE⟩ := kv_key h2 he.1
    have hkseen : k ∉ seen := fun hks => by
      have := (h7 e he.1 k hek).2 hks
      rw [he.2] at this; cases this
    rw [hek] at g3
    have hw1 : w1.heap = w.heap := by rcases g2 with rfl | rfl <;> rfl
    have hrl := obj_lt h6
    have hsz : (setBlock w1 r (.mapIter (some b) clock (bs.push e.born) clock)).heap.size = w.heap.size := by simp [setBlock, hw1]
    refine .inr ⟨k, e.val, _, hkseen, hkE, g3, ⟨es, clock, bs.push e.born, ?_, h2, h3, h4, h5, ?_, ?_, ?_, ?_⟩, ?_, hsz⟩
    · simp only [setBlock, hw1]; rw [Array.getElem?_setIfInBounds_ne hne]; exact h1
    · simp [setBlock, hw1, hrl]
    · intro e' he' k' hk'
      rw [Array.contains_push]
      by_cases hkk : k' = k
      · subst hkk
        have : e' = e := entry_eq_of_key_kv h2 h3 he' he.1 (by rw [hk', hek])
        subst this; simp
      · have hb' : (e'.born == e.born) = false := by
          rcases hx : (e'.born == e.born) with _ | _
          · rfl
          · have hbb : e'.born = e.born := by simpa using hx
            have : e' = e := born_inj h4 he' he.1 hbb
            subst this
            rw [hek] at hk'; injection hk' with _ h; exact absurd h.symm hkk
        have := h7 e' he' k' hk'
        simp only [hb', Bool.or_false, Bool.false_or, List.mem_cons, hkk, false_or]
        exact this
    · intro k' l hkl
      injection hkl with h _
      subst h
      exact ⟨e, he.1, bs, hek, rfl⟩
    · intro k' hk'
      rcases List.mem_cons.1 hk' with rfl | h
      · exact List.mem_map.2 ⟨_, hkE, rfl⟩
      · exact h9 k' h
    · refine ⟨?_, ?_, ?_, by rw [hsz]; exact Nat.le_refl _, fun i _ hi => ?_⟩
      · rcases g2 with rfl | rfl <;> rfl
      · rcases g2 with rfl | rfl <;> rfl
      · rcases g2 with rfl | rfl <;> rfl
      · simp only [setBlock, hw1]; rw [Array.getElem?_setIfInBounds_ne (fun e => hi (by rw [e]))]
theorem IIter.entry {k : Int} (h : IIter w r b E (k :: seen)) {v : Value} (hv : (k, v) ∈ E) : (Instr.entry (.pointer (some ⟨r, 0, none⟩))).run P w = .ok (.tuple #[.int .i64 k, v]) w := by
  obtain ⟨es, clock, bs, h1, h2, h3, h4, h5, h6, h7, h8, h9⟩ := h
  obtain ⟨e, he, bs', hek, rfl⟩ := h8 k seen rfl
  have hn : (es.toList.map (·.born)).Nodup := by
    have : (es.toList.map (·.born)).Pairwise (· < ·) := List.pairwise_map.2 h4
    exact this.imp (fun h => Nat.ne_of_lt h)
  have hr := Go.run_entry_at (P := P) w r b clock bs' es clock e h6 h1 he hn
  obtain ⟨k', hek', hm⟩ := kv_key h2 he
  rw [hek] at hek'; injection hek' with _ hk'; subst hk'
  have : e.val = v := by
    have a1 := mem_look h3 hm
    have a2 := mem_look h3 hv
    rw [a1] at a2; injection a2
  rw [hr, hek, this]
/-- A store at a key that is there leaves the iterator's way. -/
theorem IIter.updated (h : IIter w r b E seen) (hne : r ≠ b) (x : Int) (hx : x ∈ E.map (·.1)) (v : Value) : IIter (mset w b x v) r b (put E x v) seen := by
  obtain ⟨es, clock, bs, h1, h2, h3, h4, h5, h6, h7, h8, h9⟩ := h
  have hobj : (mset w b x v).heap[b]? = some (mput x v (.map es clock)) := by simp [mset, Array.getElem?_modify, h1]
  rcases find_int x es.toList E 0 h2 with ⟨g1, g2⟩ | ⟨j, e0, g1, g2, g3, g4, g5⟩
  · exact absurd hx ((look_none x E).1 g1)
  · rw [Nat.zero_add] at g4
    have e1 : (es.toList.modify j fun e => { e with key := (.int .i64 x : Value), val := v }).map (·.born) = es.toList.map (·.born) := map_modify_born _ _ _ _
    have hmem : ∀ e ∈ (es.toList.modify j fun e => { e with key := (.int .i64 x : Value), val := v }), ∃ e' ∈ es.toList, e'.born = e.born ∧ e'.key = e.key := by
      intro e he
      obtain ⟨i, hi⟩ := List.getElem?_of_mem he
      rw [List.getElem?_modify] at hi
      by_cases hij : j = i
      · subst hij
        rw [g1] at hi
        simp at hi
        exact ⟨e0, List.mem_of_getElem? g1, by rw [← hi], by rw [← hi, g2]⟩
      · simp [hij] at hi
        exact ⟨e, List.mem_of_getElem? (i := i) (by rw [Array.getElem?_toList]; exact hi), rfl, rfl⟩
    have hmem2 : ∀ e ∈ es.toList, ∃ e' ∈ (es.toList.modify j fun e => { e with key := (.int .i64 x : Value), val := v }), e'.born = e.born ∧ e'.key = e.key := by
      intro e he
      obtain ⟨i, hi⟩ := List.getElem?_of_mem he
      by_cases hij : j = i
      · subst hij
        rw [g1] at hi; injection hi with hi; subst hi
        refine ⟨{ e0 with key := .int .i64 x, val := v }, List.mem_of_getElem? (i := j) (by rw [List.getElem?_modify, g1]; simp), rfl, by simp [g2]⟩
      · exact ⟨e, List.mem_of_getElem? (i := i) (by rw [List.getElem?_modify, hi]; simp [hij]), rfl, rfl⟩
    refine ⟨es.modify j fun e => { e with key := .int .i64 x, val := v }, clock, bs, by rw [hobj]; simp only [mput, g4], ?_, nodup_put x v E h3, ?_, ?_, ?_, ?_, ?_, ?_⟩
    · rw [Array.toList_modify]; exact g5 v
    · rw [Array.toList_modify]
      have h4' : (es.toList.map (·.born)).Pairwise (· < ·) := List.pairwise_map.2 h4
      rw [← e1] at h4'
      exact List.pairwise_map.1 h4'
    · intro e he
      rw [Array.toList_modify] at he
      obtain ⟨e', h', hb, _⟩ := hmem e he
      rw [← hb]; exact h5 e' h'
    · simp only [mset, Array.getElem?_modify]; rw [if_neg (fun e => hne e.symm)]; exact h6
    · intro e he k hk
      rw [Array.toList_modify] at he
      obtain ⟨e', h', hb, hkk⟩ := hmem e he
      rw [← hb]; exact h7 e' h' k (by rw [hkk]; exact hk)
    · intro k l hkl
      obtain ⟨e, he, bs', hek, hbs⟩ := h8 k l hkl
      obtain ⟨e', h', hb, hkk⟩ := hmem2 e he
      exact ⟨e', by rw [Array.toList_modify]; exact h', bs', by rw [hkk]; exact hek, by rw [hb]; exact hbs⟩
    · intro k hk
      exact (keys_put x v E k).2 (.inr (h9 k hk))
theorem keys_put_same {α : Type} (k : Int) (v : α) : ∀ E : List (Int × α), k ∈ E.map (·.1) → (put E k v).map (·.1) = E.map (·.1)
  | [], h => by simp at h
  | p :: E, h => by
    simp only [put]
    split
    · rename_i hp; simp [hp]
    · rename_i hp
      simp only [List.map_cons, List.mem_cons] at h ⊢
      rcases h with h | h
      · exact absurd h.symm hp
      · rw [keys_put_same k v E h]
/-- How many keys are still to come. -/
def mleft (E : List (Int × Value)) (seen : List Int) : Nat := ((E.map (·.1)).filter fun k => decide (k ∉ seen)).length
theorem left_len {bs : Array Nat} {seen : List Int} : ∀ (l : List MapEntry) (E : List (Int × Value)), l.map kv = E.map ikv → (∀ e ∈ l, ∀ k, e.key = .int .i64 k → (bs.contains e.born = true ↔ k ∈ seen)) →
    (l.filter fun e => !bs.contains e.born).length = mleft E seen
  | [], [], _, _ => rfl
  | [], p :: E, h, _ => by simp at h
  | e :: l, [], h, _ => by simp at h
  | e :: l, p :: E, h, hs => by
    simp only [List.map_cons, List.cons.injEq] at h
    obtain ⟨h1, h2⟩ := h
    simp only [kv, ikv, Prod.mk.injEq] at h1
    have ih := left_len l E h2 (fun e he => hs e (List.mem_cons_of_mem _ he))
    have hk := hs e List.mem_cons_self p.1 h1.1
    by_cases hm : p.1 ∈ seen
    · have hb := hk.2 hm
      rw [List.filter_cons_of_neg (by rw [hb]; decide), ih]
      simp [mleft, hm]
    · have hb : bs.contains e.born = false := by
        rcases hc : bs.contains e.born with _ | _
        · rfl
        · exact absurd (hk.1 hc) hm
      rw [List.filter_cons_of_pos (by rw [hb]; rfl), List.length_cons, ih]
      simp [mleft, hm]
theorem IIter.left (h : IIter w r b E seen) : w.rangeLeft b r = mleft E seen := by
  obtain ⟨es, clock, bs, h1, h2, h3, h4, h5, h6, h7, h8, h9⟩ := h
  simp only [World.rangeLeft, h1, h6, leftOf]
  rw [← left_len es.toList E h2 h7, ← Array.length_toList, Array.toList_filter]
theorem mleft_lt {E E' : List (Int × Value)} {seen : List Int} {k : Int} (h : k ∉ seen) (hk : k ∈ E.map (·.1)) (hE : E'.map (·.1) = E.map (·.1)) : mleft E' (k :: seen) < mleft E seen := by
  unfold mleft
  rw [hE]
  generalize E.map (·.1) = l at hk
  induction l with
  | nil => simp at hk
  | cons x l ih =>
    have hle : ∀ l : List Int, (l.filter fun j => decide (j ∉ k :: seen)).length ≤ (l.filter fun j => decide (j ∉ seen)).length := by
      intro l
      induction l with
      | nil => simp
      | cons y l ih =>
        by_cases hy : y ∈ seen
        · simp [hy]; simpa using ih
        · by_cases hyk : y = k
          · simp [hyk, h]; have := ih; simp at this; omega
          · simp [hy, hyk]; simpa using ih
    by_cases hx : x = k
    · have := hle l
      simp [hx, h] at this ⊢
      omega
    · rcases List.mem_cons.1 hk with e | e
      · exact absurd e.symm hx
      · have := ih e
        by_cases hy : x ∈ seen
        · simp [hy] at this ⊢; exact this
        · simp [hy, hx] at this ⊢; exact this
end
end Go.Vi
namespace Go.Vi
open Go Go.RowKit
theorem flatten_get {R : List (List Value)} {k : Nat} (hR : ∀ r ∈ R, r.length = k) : ∀ (i : Nat) (h : i < R.length) (c : Nat), c < k → R.flatten[i * k + c]? = R[i][c]? := by
  induction R with
  | nil => intro i h; simp at h
  | cons r R ih =>
    intro i h c hc
    have hr := hR r (List.mem_cons_self ..)
    cases i with
    | zero => rw [List.flatten_cons, Nat.zero_mul, Nat.zero_add, List.getElem?_append_left (by omega)]; rfl
    | succ i =>
      rw [List.flatten_cons, List.getElem?_append_right (by rw [hr, Nat.add_mul]; omega), hr, show (i + 1) * k + c - k = i * k + c from by rw [Nat.add_mul]; omega]
      exact ih (fun r h => hR r (List.mem_cons_of_mem _ h)) i (by simpa using h) c hc
theorem flatten_len {R : List (List Value)} {k : Nat} (hR : ∀ r ∈ R, r.length = k) : R.flatten.length = R.length * k := by
  induction R with
  | nil => simp
  | cons r R ih => rw [List.flatten_cons, List.length_append, hR r (List.mem_cons_self ..), ih (fun r h => hR r (List.mem_cons_of_mem _ h)), List.length_cons, Nat.add_mul]; omega
/-- `v` owns the rows `R`, of `k` cells each, in a block from `B` on. -/
def Ow (B : Nat) (w : World) (e k : Nat) (v : Value) (R : List (List Value)) : Prop := w.ownsRow B e k v R.length R.flatten ∧ ∀ r ∈ R, r.length = k
theorem Ow.sl {B : Nat} {w : World} {e k : Nat} {v : Value} {R : List (List Value)} (h : Ow B w e k v R) : Sl w.heap.size w k v R := by
  obtain ⟨⟨h0, h1⟩, h2⟩ := h
  rcases h1 with ⟨rfl, hn⟩ | ⟨g, cap, cur, rfl, hg, hh, hc, hm, hs, ht⟩
  · have : R = [] := List.length_eq_zero_iff.1 hn
    subst this
    exact ⟨none, 0, rfl, by simp, by simp [maxLen], by simp, fun _ => rfl, fun ad e => by cases e⟩
  · refine ⟨some ⟨g, 0, none⟩, cap, rfl, hc, hm, h2, (fun e => nomatch e), fun ad e => ?_⟩
    cases e
    have hlt : g < w.heap.size := by
      rcases Nat.lt_or_ge g w.heap.size with h | h
      · exact h
      · rw [Array.getElem?_eq_none h] at hh; cases hh
    refine ⟨rfl, hlt, fun i hi c x hx => ?_⟩
    have hck : c < k := by
      have := h2 R[i] (List.getElem_mem hi)
      rcases Nat.lt_or_ge c k with h | h
      · exact h
      · rw [List.getElem?_eq_none (by omega)] at hx; cases hx
    have ho : w.ownsRow B e k (.slice (some ⟨g, 0, none⟩) R.length cap) R.length R.flatten := ⟨h0, .inr ⟨g, cap, cur, rfl, hg, hh, hc, hm, hs, ht⟩⟩
    have hj : i * k + c < R.length * k := by
      have : (i + 1) * k ≤ R.length * k := Nat.mul_le_mul_right k hi
      rw [Nat.add_mul] at this; omega
    have := ho.cellAt (i * k + c) hj
    simp only [Nat.zero_add]
    rw [this, flatten_get h2 i hi c hck]
    exact hx
theorem Ow.mono {B B' : Nat} {w : World} {e k : Nat} {v : Value} {R : List (List Value)} (h : Ow B w e k v R) (hB : B' ≤ B) : Ow B' w e k v R := by
  refine ⟨⟨h.1.1, ?_⟩, h.2⟩
  rcases h.1.2 with g | ⟨g, cap, cur, h1, h2, h3⟩
  · exact .inl g
  · exact .inr ⟨g, cap, cur, h1, Nat.le_trans hB h2, h3⟩
/-- Owned rows stay while nothing below the heap's end is written. -/
theorem Ow.keep {B : Nat} {w w' : World} {e k : Nat} {v : Value} {R : List (List Value)} (h : Ow B w e k v R) (hb : Below w.heap.size w w') : Ow B w' e k v R := by
  refine ⟨⟨h.1.1, ?_⟩, h.2⟩
  rcases h.1.2 with g | ⟨g, cap, cur, h1, h2, h3, h4⟩
  · exact .inl g
  · have hlt : g < w.heap.size := by
      rcases Nat.lt_or_ge g w.heap.size with h | h
      · exact h
      · rw [Array.getElem?_eq_none h] at h3; cases h3
    exact .inr ⟨g, cap, cur, h1, h2, by rw [hb.block g hlt]; exact h3, h4⟩
theorem Ow.nil (B : Nat) (w : World) (e k : Nat) : Ow B w e k (.slice none 0 0) [] := ⟨World.ownsRow_nil _ _ _ _, fun r h => by cases h⟩
theorem Ow.grow {B : Nat} {w' : World} {e k : Nat} {v : Value} {R N : List (List Value)} {m : Nat} (h : w'.ownsRow B e k v (R.length + m) (R.flatten ++ N.flatten)) (hm : N.length = m) (hR : ∀ r ∈ R, r.length = k) (hN : ∀ r ∈ N, r.length = k) : Ow B w' e k v (R ++ N) := by
  subst hm
  refine ⟨by rw [List.length_append, List.flatten_append]; exact h, fun r hr => ?_⟩
  rcases List.mem_append.1 hr with g | g
  · exact hR r g
  · exact hN r g
/-- The cells behind a slice's address, as the append laws ask for them. -/
theorem Sl.news {B : Nat} {w : World} {k n cap b off : Nat} {R : List (List Value)} (h : Sl B w k (.slice (some ⟨b, off, none⟩) n cap) R) (hk : 0 < k) : ∀ j u, R.flatten[j]? = some u → w.cell? ((⟨b, off, none⟩ : Addr).add j) = some u := by
  intro j u hu
  obtain ⟨a', cap', h1, _, _, h4, h5, h6⟩ := h
  cases h1
  obtain ⟨_, _, g3⟩ := h6 _ rfl
  have hj : j < R.length * k := by
    rw [← flatten_len h4]
    rcases Nat.lt_or_ge j R.flatten.length with h | h
    · exact h
    · rw [List.getElem?_eq_none h] at hu; cases hu
  have hi : j / k < R.length := (Nat.div_lt_iff_lt_mul hk).2 hj
  have e : j / k * k + j % k = j := by rw [Nat.mul_comm]; exact Nat.div_add_mod j k
  have := flatten_get h4 (j / k) hi (j % k) (Nat.mod_lt _ hk)
  rw [e, hu] at this
  have g := g3 (j / k) hi (j % k) u this.symm
  simp only at g
  rw [Nat.add_assoc, e] at g
  unfold Addr.add
  split
  · rename_i h0; subst h0; simpa using g
  · exact g
theorem flatten_set {k : Nat} (u : Value) : ∀ (R : List (List Value)), (∀ r ∈ R, r.length = k) → ∀ (i : Nat) (h : i < R.length) (c : Nat), c < k → R.flatten.set (i * k + c) u = (R.set i (R[i].set c u)).flatten
  | [], _, i, h, _, _ => by simp at h
  | r :: R, hR, 0, h, c, hc => by
    have hr := hR r (List.mem_cons_self ..)
    simp only [List.flatten_cons, Nat.zero_mul, Nat.zero_add, List.set_cons_zero, List.getElem_cons_zero]
    rw [List.set_append_left _ _ (by omega)]
  | r :: R, hR, i + 1, h, c, hc => by
    have hr := hR r (List.mem_cons_self ..)
    simp only [List.flatten_cons, List.set_cons_succ, List.getElem_cons_succ]
    rw [List.set_append_right _ _ (by rw [hr, Nat.add_mul]; omega), hr, show (i + 1) * k + c - k = i * k + c from by rw [Nat.add_mul]; omega, flatten_set u R (fun r h => hR r (List.mem_cons_of_mem _ h)) i (by simpa using h) c hc]
/-- A store into a cell of an owned row. -/
theorem Ow.store {B : Nat} {w : World} {e k g n cap : Nat} {R : List (List Value)} (h : Ow B w e k (.slice (some ⟨g, 0, none⟩) n cap) R) (i : Nat) (hi : i < R.length) (c : Nat) (hc : c < k) (u : Value) :
    Ow B (w.setCell ⟨g, i * k + c, none⟩ u) e k (.slice (some ⟨g, 0, none⟩) n cap) (R.set i (R[i].set c u)) := by
  obtain ⟨h1, h2⟩ := h
  have hn : R.length = n := by
    rcases h1.2 with ⟨e1, _⟩ | ⟨_, _, _, e1, _⟩
    · cases e1
    · injection e1 with _ e2 _; exact e2.symm
  subst hn
  have h3 := h1.stored (i * k + c) u
  rw [flatten_set u R h2 i hi c hc] at h3
  refine ⟨by rw [List.length_set]; exact h3.1, fun r hr => ?_⟩
  rcases List.mem_or_eq_of_mem_set hr with g | g
  · exact h2 r g
  · rw [g, List.length_set]; exact h2 _ (List.getElem_mem hi)
/-- What an owned row's cells hold, and that they may be written. -/
theorem Ow.cell {B : Nat} {w : World} {e k g n cap : Nat} {R : List (List Value)} (h : Ow B w e k (.slice (some ⟨g, 0, none⟩) n cap) R) (i : Nat) (hi : i < R.length) (c : Nat) (hc : c < k) : w.cell? ⟨g, i * k + c, none⟩ = R[i][c]? := by
  obtain ⟨h1, h2⟩ := h
  have hn : R.length = n := by
    rcases h1.2 with ⟨e1, _⟩ | ⟨_, _, _, e1, _⟩
    · cases e1
    · injection e1 with _ e2 _; exact e2.symm
  subst hn
  have hj : i * k + c < R.length * k := by
    have : (i + 1) * k ≤ R.length * k := Nat.mul_le_mul_right k hi
    rw [Nat.add_mul] at this; omega
  rw [h1.cellAt _ hj, flatten_get h2 i hi c hc]
theorem Ow.free {B : Nat} {w : World} {e k g n cap : Nat} {R : List (List Value)} (h : Ow B w e k (.slice (some ⟨g, 0, none⟩) n cap) R) (j : Nat) : w.frozen? ⟨g, j, none⟩ = false := by
  obtain ⟨h1, h2⟩ := h
  have hn : R.length = n := by
    rcases h1.2 with ⟨e1, _⟩ | ⟨_, _, _, e1, _⟩
    · cases e1
    · injection e1 with _ e2 _; exact e2.symm
  subst hn
  exact h1.frozenAt j
theorem Ow.val {B : Nat} {w : World} {e k : Nat} {v : Value} {R : List (List Value)} (h : Ow B w e k v R) : ∃ (a : Option Addr) (n cap : Nat), v = .slice a n cap := by
  obtain ⟨a, n, cap, rfl, _⟩ := h.sl.open
  exact ⟨a, n, cap, rfl⟩
/-- The shape of an owned slice, for a walk: nil, or the head of a block. -/
theorem Ow.shape {B : Nat} {w : World} {e k : Nat} {v : Value} {R : List (List Value)} (h : Ow B w e k v R) : (v = .slice none 0 0 ∧ R = []) ∨ ∃ g cap, v = .slice (some ⟨g, 0, none⟩) R.length cap ∧ B ≤ g ∧ g < w.heap.size ∧ R.length ≤ cap := by
  rcases h.1.2 with ⟨h1, h2⟩ | ⟨g, cap, cur, h1, h2, h3, h4, _⟩
  · exact .inl ⟨h1, List.length_eq_zero_iff.1 h2⟩
  · refine .inr ⟨g, cap, h1, h2, ?_, h4⟩
    rcases Nat.lt_or_ge g w.heap.size with h | h
    · exact h
    · rw [Array.getElem?_eq_none h] at h3; cases h3
/-- Owned rows stay while another block, or a new one, turns. -/
theorem Ow.setOther {B : Nat} {w : World} {e k g n cap : Nat} {R : List (List Value)} (h : Ow B w e k (.slice (some ⟨g, 0, none⟩) n cap) R) (a : Addr) (ha : a.block ≠ g) (u : Value) : Ow B (w.setCell a u) e k (.slice (some ⟨g, 0, none⟩) n cap) R := by
  refine ⟨⟨h.1.1, ?_⟩, h.2⟩
  rcases h.1.2 with g1 | ⟨g', cap', cur, h1, h2, h3, h4⟩
  · exact .inl g1
  · refine .inr ⟨g', cap', cur, h1, h2, ?_, h4⟩
    injection h1 with e1 _ _
    injection e1 with e1
    injection e1 with e1
    subst e1
    rw [Below.heap_setCell _ _ _ _ (fun e => ha e.symm)]
    exact h3
theorem Ow.blk {B : Nat} {w : World} {e k : Nat} {v : Value} {R : List (List Value)} (h : Ow B w e k v R) (b : Nat) (hb : v.ownBlock = some b) : B ≤ b ∧ b < w.heap.size := h.1.lt b hb
theorem Ow.type {B : Nat} {w : World} {e k : Nat} {v : Value} {R : List (List Value)} (h : Ow B w e k v R) (b : Nat) (hb : v.ownBlock = some b) : ∀ cs T fr, w.heap[b]? = some (.cells cs T fr) → T = e := by
  intro cs T fr hc
  rcases h.1.2 with ⟨g, _⟩ | ⟨g, cap, cur, h1, h2, h3, h4⟩
  · subst g; simp [Value.ownBlock] at hb
  · subst h1
    simp [Value.ownBlock] at hb
    subst hb
    rw [h3] at hc
    injection hc with hc
    injection hc with _ hc _
    exact hc.symm
theorem Ow.keepSet {B : Nat} {w : World} {e k : Nat} {v : Value} {R : List (List Value)} (h : Ow B w e k v R) (a : Addr) (ha : v.ownBlock ≠ some a.block) (u : Value) : Ow B (w.setCell a u) e k v R := by
  rcases h.shape with ⟨rfl, rfl⟩ | ⟨g, cap, rfl, _⟩
  · exact Ow.nil _ _ _ _
  · exact h.setOther a (fun e => ha (by rw [e]; rfl)) u
/-- Two stores into one owned row. -/
theorem Ow.store2 {B : Nat} {w : World} {e k g n cap : Nat} {R : List (List Value)} (h : Ow B w e k (.slice (some ⟨g, 0, none⟩) n cap) R) (i : Nat) (hi : i < R.length) (c c' : Nat) (hc : c < k) (hc' : c' < k) (u u' : Value) :
    Ow B ((w.setCell ⟨g, i * k + c, none⟩ u).setCell ⟨g, i * k + c', none⟩ u') e k (.slice (some ⟨g, 0, none⟩) n cap) (R.set i ((R[i].set c u).set c' u')) := by
  have h1 := (h.store i hi c hc u).store i (by rw [List.length_set]; exact hi) c' hc' u'
  rw [List.getElem_set_self, List.set_set] at h1
  exact h1
end Go.Vi
namespace Go.Vi
open Go Go.RowKit
/-- Owned rows stay over the growth of another row. -/
theorem Ow.kept {B : Nat} {w w' : World} {row : Option Nat} {e k : Nat} {v : Value} {R : List (List Value)} (h : Ow B w e k v R) (hg : w.grownBy w' row) (hne : v.ownBlock = none ∨ v.ownBlock ≠ row) : Ow B w' e k v R :=
  ⟨h.1.kept hg hne, h.2⟩
theorem grown_of {w w' : World} {row : Option Nat} (h : Below w.heap.size w w') : w.grownBy w' row := ⟨h.os, h.tape, h.output, h.size, fun i hi _ => h.block i hi⟩
/-- 'clear' of what lies behind the first p rows. -/
theorem Ow.cleared {P : Program} {B e k g n cap p t : Nat} {w : World} {R : List (List Value)} {z : Value} (h : Ow B w e k (.slice (some ⟨g, 0, none⟩) n cap) R) (ht : P.underlying t = some (.slice e)) (hz : ∀ w, (zeroValue e).run P w = .ok z w) (hk0 : 0 < k) (hzs : z.cells.size = k) (hz1 : ∀ v ∈ z.cells.toList, v.oneCell' = true) (hp : p < n) (c : Nat) :
    ∃ W', (∀ ty, (Builtin.clear_ #[t] ty #[.slice (some ⟨g, p * k, none⟩) (n - p) c]).run P w = .ok (.tuple #[]) W') ∧ Ow B W' e k (.slice (some ⟨g, 0, none⟩) p cap) (R.take p) ∧ w.grownBy W' (some g) := by
  rcases h.1.2 with ⟨e0, _⟩ | ⟨g', cap', cur, e0, hb, hg, hn, hm, hs, htk⟩
  · cases e0
  · injection e0 with e1 e2 e3
    injection e1 with e1
    injection e1 with e1
    subst e1; subst e3; subst e2
    have hzc : (Builtin.zeroCells z.cells (R.length - p)).size = (R.length - p) * k := by simp [Builtin.zeroCells, hzs]
    have hle : p * k + (R.length - p) * k ≤ cur.size := by
      rw [← Nat.add_mul, hs, show p + (R.length - p) = R.length by omega]
      exact Nat.mul_le_mul_right k hn
    have hone : ∀ v ∈ (Builtin.zeroCells z.cells (R.length - p)).toList, v.oneCell' = true := by
      intro v hv
      simp only [Builtin.zeroCells, Array.toList_map, List.mem_map] at hv
      obtain ⟨i, _, rfl⟩ := hv
      have hi : i % z.cells.size < z.cells.size := Nat.mod_lt _ (by omega)
      rw [getElem!_pos z.cells _ hi]
      exact hz1 _ (by simp)
    have hst := run_storeCells_at (P := P) g (p * k) e (Builtin.zeroCells z.cells (R.length - p)).toList 0 cur w hg (by simpa [hzc] using hle) hone
    refine ⟨w.setRow g (cur.toList.take (p * k + 0) ++ (Builtin.zeroCells z.cells (R.length - p)).toList ++ cur.toList.drop (p * k + 0 + (Builtin.zeroCells z.cells (R.length - p)).toList.length)).toArray, fun ty => ?_, ?_, ?_⟩
    · obtain ⟨m, hm2⟩ : ∃ m, R.length - p = m + 1 := ⟨R.length - p - 1, by omega⟩
      rw [hm2] at hst ⊢
      simp only [Builtin.clear_, Sem.run_bind, Sem.run_pure]
      simp [run_underlying ht, hz, hst, Result.andThen]
    · refine ⟨⟨?_, .inr ⟨g, cap, (cur.toList.take (p * k + 0) ++ (Builtin.zeroCells z.cells (R.length - p)).toList ++ cur.toList.drop (p * k + 0 + (Builtin.zeroCells z.cells (R.length - p)).toList.length)).toArray, by simp; omega, hb, ?_, by simp; omega, hm, ?_, ?_⟩⟩, fun r hr => h.2 r (List.mem_of_mem_take hr)⟩
      · rw [flatten_len (k := k) (fun r hr => h.2 r (List.mem_of_mem_take hr))]
      · simp [World.setRow, Array.getElem?_modify, hg]
      · simp [hzc]; omega
      · have hpk : (R.take p).length * k = p * k := by simp [Nat.min_eq_left (Nat.le_of_lt hp)]
        rw [hpk]
        simp only [Nat.add_zero, List.append_assoc]
        rw [List.take_append_of_le_length (by simp; omega), List.take_take, Nat.min_self]
        have q : cur.toList.take (p * k) = (cur.toList.take (R.length * k)).take (p * k) := by rw [List.take_take, Nat.min_eq_left (Nat.mul_le_mul_right k (Nat.le_of_lt hp))]
        rw [q, htk]
        have hsp : R.flatten = (R.take p).flatten ++ (R.drop p).flatten := by rw [← List.flatten_append, List.take_append_drop]
        rw [hsp, List.take_append_of_le_length (by rw [flatten_len (k := k) (fun r hr => h.2 r (List.mem_of_mem_take hr)), hpk]; exact Nat.le_refl _)]
        rw [List.take_of_length_le (by rw [flatten_len (k := k) (fun r hr => h.2 r (List.mem_of_mem_take hr)), hpk]; exact Nat.le_refl _)]
    · refine ⟨rfl, rfl, rfl, by simp [World.setRow], fun j hj hne => ?_⟩
      have : g ≠ j := fun e => hne (by rw [e])
      simp [World.setRow, Array.getElem?_modify, this]
def GOk (w : World) (B e c : Nat) (E : List (Int × Value)) (H : Int → List (List Value)) : Prop :=
  (∀ k, look E k = none → H k = []) ∧ (∀ k v, look E k = some v → H k ≠ [] ∧ Ow B w e c v (H k)) ∧
  ∀ k k' v v' g, look E k = some v → look E k' = some v' → v.ownBlock = some g → v'.ownBlock = some g → k = k'
def GMap (w : World) (B e c b : Nat) (H : Int → List (List Value)) : Prop := ∃ E, IMap w b E ∧ GOk w B e c E H
section
variable {w : World} {B e c b : Nat} {H : Int → List (List Value)} {E : List (Int × Value)}
theorem GOk.keep {w' : World} (h : GOk w B e c E H) (hb : Below w.heap.size w w') : GOk w' B e c E H :=
  ⟨h.1, fun k v hk => ⟨(h.2.1 k v hk).1, (h.2.1 k v hk).2.keep hb⟩, h.2.2⟩
theorem GOk.kept {w' : World} {row : Option Nat} (h : GOk w B e c E H) (hg : w.grownBy w' row) (hne : ∀ k v, look E k = some v → v.ownBlock = none ∨ v.ownBlock ≠ row) : GOk w' B e c E H :=
  ⟨h.1, fun k v hk => ⟨(h.2.1 k v hk).1, (h.2.1 k v hk).2.kept hg (hne k v hk)⟩, h.2.2⟩
theorem Ow.ne_iter {k : Nat} {v : Value} {R : List (List Value)} {r : Nat} {E : List (Int × Value)} {seen : List Int} (h : Ow B w e k v R) (hi : IIter w r b E seen) : v.ownBlock = none ∨ v.ownBlock ≠ some r := by
  obtain ⟨es, clock, bs, h1, h2, h3, h4, h5, h6, _⟩ := hi
  rcases h.1.2 with ⟨g, _⟩ | ⟨g, cap, cur, e0, hb, hg, _⟩
  · left; rw [g]; rfl
  · right; rw [e0]
    intro e
    simp [Value.ownBlock] at e
    subst e
    rw [hg] at h6; cases h6
theorem GMap.keep {w' : World} (h : GMap w B e c b H) (hb : Below w.heap.size w w') : GMap w' B e c b H := by
  obtain ⟨E, h1, h2⟩ := h
  exact ⟨E, h1.keep hb, h2.keep hb⟩
theorem GMap.lt (h : GMap w B e c b H) : b < w.heap.size := by
  obtain ⟨E, h1, _⟩ := h; exact h1.lt
theorem GMap.made (w : World) (B e c : Nat) : GMap (w.alloc (.map #[] 0)) B e c w.heap.size fun _ => [] :=
  ⟨[], IMap.made w, fun _ _ => rfl, fun _ _ h => by simp [look] at h, fun _ _ _ _ _ h => by simp [look] at h⟩
/-- What a key holds, and that a store of a grown row at this key restores the relation. -/
theorem GOk.back (h : GOk w B e c E H) (hBb : b < B) (k : Int) {v : Value} (hv : v = (look E k).getD (.slice none 0 0)) {w1 : World} {v' : Value} {R' : List (List Value)} (hg : w.grownBy w1 v.ownBlock) (hB : Ow B w1 e c v' R')
    (hat : v'.ownBlock = v.ownBlock ∨ ∀ g, v'.ownBlock = some g → w.heap.size ≤ g) (hR : R' ≠ []) : GOk (mset w1 b k v') B e c (put E k v') fun x => if x = k then R' else H x := by
  have hbl : ∀ (x : Value) (R : List (List Value)), Ow B w1 e c x R → x.ownBlock = none ∨ x.ownBlock ≠ some b := fun x R hx => by
    cases hq : x.ownBlock with
    | none => exact .inl rfl
    | some g => right; intro e; injection e with e; have := (hx.blk g hq).1; omega
  have hother : ∀ (j : Int) (u : Value), j ≠ k → look E j = some u → Ow B w1 e c u (H j) := fun j u hj hu => by
    refine (h.2.1 j u hu).2.kept hg ?_
    cases hq : u.ownBlock with
    | none => exact .inl rfl
    | some g =>
      right; intro e
      cases hl : look E k with
      | none => rw [hl] at hv; simp at hv; subst hv; simp [Value.ownBlock] at e
      | some v0 =>
        rw [hl] at hv; simp at hv; subst hv
        exact hj (h.2.2 _ _ _ _ g hu hl hq e.symm)
  have hsep : ∀ (j : Int) (u : Value) (g : Nat), j ≠ k → look E j = some u → u.ownBlock = some g → v'.ownBlock ≠ some g := fun j u g hj hu hq e => by
    rcases hat with ha | ha
    · rw [ha] at e
      cases hl : look E k with
      | none => rw [hl] at hv; simp at hv; subst hv; simp [Value.ownBlock] at e
      | some v0 =>
        rw [hl] at hv; simp at hv; subst hv
        exact hj (h.2.2 _ _ _ _ g hu hl hq e)
    · have := ha g e
      have := ((h.2.1 j u hu).2.blk g hq).2
      omega
  have hG := mset_grown w1 b k v'
  refine ⟨fun j hj => ?_, fun j u hj => ?_, fun j j' u u' g hu hu' hq hq' => ?_⟩
  · rw [look_put] at hj
    by_cases hjk : j = k
    · simp [hjk] at hj
    · simp [hjk] at hj ⊢; exact h.1 j hj
  · rw [look_put] at hj
    by_cases hjk : j = k
    · simp [hjk] at hj ⊢; subst hj
      exact ⟨hR, hB.kept hG (hbl _ _ hB)⟩
    · simp [hjk] at hj ⊢
      exact ⟨(h.2.1 j u hj).1, (hother j u hjk hj).kept hG (hbl _ _ (hother j u hjk hj))⟩
  · rw [look_put] at hu hu'
    by_cases hjk : j = k <;> by_cases hjk' : j' = k
    · rw [hjk, hjk']
    · simp [hjk, hjk'] at hu hu'
      subst hu
      exact absurd hq (hsep j' u' g hjk' hu' hq')
    · simp [hjk, hjk'] at hu hu'
      subst hu'
      exact absurd hq' (hsep j u g hjk hu hq)
    · simp [hjk, hjk'] at hu hu'
      exact h.2.2 _ _ _ _ g hu hu' hq hq'
theorem GMap.at {P : Program} {t kt e' : TypeId} (h : GMap w B e c b H) (hBb : b < B) (ht : P.underlying t = some (.map kt e')) (hk : P.underlying kt = some (.int .i64)) (hz : ∀ W, (zeroValue e').run P W = .ok (.slice none 0 0) W) (k : Int) :
    ∃ v, Ow B w e c v (H k) ∧ (∀ W, w.grownBy W v.ownBlock → (Instr.lookup t (.map (some b)) (.int .i64 k) false).run P W = .ok v W) ∧
      ∀ w1 v' R', w.grownBy w1 v.ownBlock → Ow B w1 e c v' R' → (v'.ownBlock = v.ownBlock ∨ ∀ g, v'.ownBlock = some g → w.heap.size ≤ g) → R' ≠ [] →
        (Instr.mapUpdate t (.map (some b)) (.int .i64 k) v').run P w1 = .ok () (mset w1 b k v') ∧ GMap (mset w1 b k v') B e c b fun x => if x = k then R' else H x := by
  obtain ⟨E, h1, h2⟩ := h
  have hne : some b ≠ ((look E k).getD (.slice none 0 0)).ownBlock := by
    cases hl : look E k with
    | none => simp [Value.ownBlock]
    | some v =>
      intro e
      have := ((h2.2.1 k v hl).2.blk b (by simpa using e.symm)).1
      omega
  refine ⟨(look E k).getD (.slice none 0 0), ?_, fun W hW => ?_, fun w1 v' R' hg hB hat hR => ?_⟩
  · cases hl : look E k with
    | none => rw [h2.1 k hl]; exact Ow.nil _ _ _ _
    | some v => exact (h2.2.1 k v hl).2
  · have := (h1.kept hW hne).lookup (P := P) ht hk (hz W) k false
    simpa using this
  · have hI : IMap w1 b E := h1.kept hg hne
    exact ⟨hI.update ht hk k v', put E k v', hI.updated k v', h2.back hBb k rfl hg hB hat hR⟩
end
end Go.Vi
namespace Go.Vi
open Go Go.RowKit
/-- The tail of a slice of rows. -/
theorem Sl.tail {B : Nat} {w : World} {k n cap b off : Nat} {R : List (List Value)} (h : Sl B w k (.slice (some ⟨b, off, none⟩) n cap) R) {p : Nat} (hp : p ≤ n) : Sl B w k (.slice (some ⟨b, off + p * k, none⟩) (n - p) (cap - p)) (R.drop p) := by
  obtain ⟨a', cap', h1, h2, h3, h4, h5, h6⟩ := h
  injection h1 with e1 e2 e3
  subst e1 e2 e3
  refine ⟨_, _, by rw [List.length_drop], by rw [List.length_drop]; omega, by omega, fun r hr => h4 r (List.mem_of_mem_drop hr), fun e => (by cases e), fun ad e => ?_⟩
  cases e
  obtain ⟨_, g2, g3⟩ := h6 _ rfl
  refine ⟨rfl, g2, fun i hi c x hx => ?_⟩
  rw [List.length_drop] at hi
  rw [List.getElem_drop] at hx
  have := g3 (p + i) (by omega) c x hx
  simp only at this ⊢
  rw [show off + p * k + i * k + c = off + (p + i) * k + c by rw [Nat.add_mul]; omega]
  exact this
/-- Its head, full. -/
theorem Sl.head {B : Nat} {w : World} {k n cap b off : Nat} {R : List (List Value)} (h : Sl B w k (.slice (some ⟨b, off, none⟩) n cap) R) {p : Nat} (hp : p ≤ n) : Sl B w k (.slice (some ⟨b, off, none⟩) p p) (R.take p) := by
  obtain ⟨a', cap', h1, h2, h3, h4, h5, h6⟩ := h
  injection h1 with e1 e2 e3
  subst e1 e2 e3
  have hl : (R.take p).length = p := by rw [List.length_take]; omega
  refine ⟨_, p, by rw [hl], by omega, by omega, fun r hr => h4 r (List.mem_of_mem_take hr), fun e => (by cases e), fun ad e => ?_⟩
  cases e
  obtain ⟨_, g2, g3⟩ := h6 _ rfl
  refine ⟨rfl, g2, fun i hi c x hx => ?_⟩
  rw [hl] at hi
  rw [List.getElem_take] at hx
  exact g3 i (by omega) c x hx
/-- The head of an owned row, to be copied by an append. -/
theorem Ow.headOlds {B : Nat} {w : World} {e k n cap : Nat} {ao : Option Addr} {R : List (List Value)} (h : Ow B w e k (.slice ao n cap) R) (hk : 0 < k) {p : Nat} (hp : p ≤ n) :
    (ao = none → p = 0 ∧ p = 0) ∧ ((R.take p).flatten).length = p * k ∧ ∀ b, ao = some b → ∀ j u, ((R.take p).flatten)[j]? = some u → w.cell? (b.add j) = some u := by
  have hl : R.length = n := h.sl.len
  have hr : ((R.take p).flatten).length = p * k := by
    rw [flatten_len (fun r hr => h.2 r (List.mem_of_mem_take hr)), List.length_take, Nat.min_eq_left (by omega)]
  refine ⟨fun e1 => ?_, hr, fun b e1 j u hu => ?_⟩
  · subst e1
    have := h.sl.none_
    rw [this] at hl
    simp at hl
    omega
  · subst e1
    obtain ⟨bb, off, rfl, _⟩ := h.sl.addr
    exact (h.sl.head hp).news hk j u hu
/-- The tail of an owned row that is not empty. -/
theorem Ow.tailNews {B : Nat} {w : World} {e k n cap : Nat} {ao : Option Addr} {R : List (List Value)} (h : Ow B w e k (.slice ao n cap) R) (hk : 0 < k) {p : Nat} (hp : p < n) :
    ∃ g, ao = some ⟨g, 0, none⟩ ∧ ((R.drop p).flatten).length = (n - p) * k ∧ ∀ j u, ((R.drop p).flatten)[j]? = some u → w.cell? ((⟨g, p * k, none⟩ : Addr).add j) = some u := by
  have hl : R.length = n := h.sl.len
  rcases h.shape with ⟨e1, e2⟩ | ⟨g, cap', e1, _⟩
  · subst e2; simp at hl; omega
  · injection e1 with e2 _ _
    subst e2
    refine ⟨g, rfl, by rw [flatten_len (fun r hr => h.2 r (List.mem_of_mem_drop hr)), List.length_drop, hl], fun j u hu => ?_⟩
    have h1 := (h.sl.tail (p := p) (by omega)).news hk j u hu
    rw [Nat.zero_add] at h1
    exact h1
/-- What the growing append leaves, written out. -/
theorem ownsRow_out {w : World} {base e size n : Nat} {v : Value} {xs : List Value} (h : w.ownsRow base e size v n xs) (hn : 0 < n) : ∃ g cap, v = .slice (some ⟨g, 0, none⟩) n cap ∧ base ≤ g ∧ g < w.heap.size ∧ n ≤ cap ∧ cap ≤ maxLen ∧ ∀ j u, xs[j]? = some u → w.cell? ((⟨g, 0, none⟩ : Addr).add j) = some u := by
  have h0 := h
  rcases h.2 with ⟨_, e1⟩ | ⟨g, cap, cur, h1, h2, h3, h4, h5, _⟩
  · omega
  · subst h1
    refine ⟨g, cap, rfl, h2, ?_, h4, h5, h0.cells rfl⟩
    rcases Nat.lt_or_ge g w.heap.size with h | h
    · exact h
    · rw [Array.getElem?_eq_none h] at h3; cases h3
/-- Nothing is appended. -/
theorem run_append_zero {P : Program} (w : World) (t ty e : TypeId) (i : TypeInfo) (ht : P.underlying t = some (.slice e)) (hi : P.info? e = some i) (b off n cap : Nat) (a2 : Option Addr) (c : Nat) (hn : n ≤ cap) :
    (Builtin.append_ #[t, t] ty #[.slice (some ⟨b, off, none⟩) n cap, .slice a2 0 c]).run P w = .ok (.slice (some ⟨b, off, none⟩) n cap) w := by
  have hs : Src P i.size t (.slice a2 0 c) 0 [] w := by
    cases a2 with
    | none => exact Src.ofNil w ht c
    | some a => exact Src.ofSlice w ht a 0 c [] (by simp) (fun j u h => by simp at h) (fun u h => by cases h)
  have := run_append_room_src w t t ty e i ht hi b off n cap _ 0 [] hs (by omega) (fun j h => by simp at h) (fun j h => by simp at h)
  rw [this]
  rfl
end Go.Vi
namespace Go.Vi
open Go
section
variable {P : Program} {ops : Array Oper} {Q : Exit → Act → World → Prop} {md : Region.Mode} {k : Nat} {C : World → Prop}
/-- Every order from here on; C is shown behind each operation till number k has come up. -/
def Till (P : Program) (md : Region.Mode) (ops : Array Oper) (Q : Exit → Act → World → Prop) (k : Nat) (C : World → Prop) : Nat → Array Bool → Act → World → Prop
  | 0, L, a, w => Region.ready md ops L = [] ∧ Q .normal a w
  | n + 1, L, a, w => (Region.ready md ops L = [] → Q .normal a w) ∧
      ∀ i ∈ Region.ready md ops L, wpOp P ops Q i (fun a' w' => ((L.setIfInBounds i true).getD k true = false → C w') ∧ Till P md ops Q k C n (L.setIfInBounds i true) a' w') a w
theorem Till.any : ∀ (n : Nat) (L : Array Bool) (a : Act) (w : World), Till P md ops Q k C n L a w → wpAny P md ops Q n L a w
  | 0, _, _, _, h => h
  | n + 1, L, _, _, h => ⟨h.1, fun i hi => wpOp_mono (fun a' w' h' => Till.any n _ a' w' h'.2) (h.2 i hi)⟩
/-- Number k waits for number i. -/
def waitsFor (md : Region.Mode) (ops : Array Oper) (k i : Nat) : Bool := match ops[k]? with
  | some o => o.after.any fun e => Region.binds md e && e.on == i
  | none => false
/-- None of W can come up while number i has not: each waits for i or for another one of W. -/
def shutIn (md : Region.Mode) (ops : Array Oper) (W : List Nat) (i : Nat) : Bool := W.all fun m => waitsFor md ops m i || W.any fun m' => waitsFor md ops m m'
theorem waitsFor_on {m i : Nat} {o : Oper} (h : waitsFor md ops m i = true) (ho : ops[m]? = some o) : ∃ e ∈ o.after, Region.binds md e = true ∧ e.on = i := by
  unfold waitsFor at h
  rw [ho] at h
  obtain ⟨e, he, hb⟩ := Array.any_eq_true'.1 h
  simp only [Bool.and_eq_true, beq_iff_eq] at hb
  exact ⟨e, he, hb⟩
theorem getD_listed {L : Array Bool} {m : Nat} (h : L.getD m false = true) (h' : L.getD m true = false) : False := by
  rcases Nat.lt_or_ge m L.size with hlt | hge
  · rw [Array.getD_eq_getD_getElem?, Array.getElem?_eq_getElem hlt] at h h'
    simp only [Option.getD_some] at h h'
    rw [h] at h'; cases h'
  · rw [Array.getD_eq_getD_getElem?, Array.getElem?_eq_none hge] at h; cases h
theorem shutIn_not {W : List Nat} {i j : Nat} {oj : Oper} {L : Array Bool} (h : shutIn md ops W i = true) (hj : ops[j]? = some oj) (hno : ∀ e ∈ oj.after, Region.binds md e = true → e.on ≠ i)
    (hall : ∀ e ∈ oj.after, Region.binds md e = true → L.getD e.on false = true) (hu : ∀ m ∈ W, L.getD m true = false) : j ∉ W := by
  intro hm
  have h1 := (List.all_eq_true.1 h) j hm
  simp only [Bool.or_eq_true] at h1
  rcases h1 with h1 | h1
  · obtain ⟨e, he, hb, ho⟩ := waitsFor_on h1 hj
    exact hno e he hb ho
  · obtain ⟨m', hm', h2⟩ := List.any_eq_true.1 h1
    obtain ⟨e, he, hb, ho⟩ := waitsFor_on h2 hj
    exact getD_listed (ho ▸ hall e he hb) (hu m' hm')
theorem Till.first {i : Nat} {oi : Oper} {v : Value} (hi : ops[i]? = some oi) (hs : Region.noSelect ops = true) {W : List Nat} (hW : shutIn md ops W i = true) (hkW : k ∈ W) (hiW : i ∉ W)
    (hQ : ∀ c a w, Q (.panic c) (a.put oi.dst v) w → Q (.panic c) a w) :
    ∀ (n : Nat) (L : Array Bool) (a : Act) (w : World),
      (∀ (j : Nat) (oj : Oper), ops[j]? = some oj → j ≠ i → L.getD j true = false → (∀ e ∈ oj.after, Region.binds md e = true → e.on ≠ i) → oi.apart ops oj = true) →
      i ∈ Region.ready md ops L → (∀ m ∈ W, L.getD m true = false) → YieldsIf P ops C oi v a → C w →
      Till P md ops Q k C n (L.setIfInBounds i true) (a.put oi.dst v) w → Till P md ops Q k C (n + 1) L a w := by
  intro n
  induction n with
  | zero =>
    intro L a w _ hr hu hy hC H
    refine ⟨fun h => by rw [h] at hr; (cases hr), fun j hj => ?_⟩
    by_cases hji : j = i
    · subst hji
      exact hy.wpOp hi hC ⟨fun _ => hC, H⟩
    · have hm := ready_mono (i := i) hj hji
      rw [H.1] at hm
      cases hm
  | succ n ih =>
    intro L a w hfree hr hu hy hC H
    refine ⟨fun h => by rw [h] at hr; (cases hr), fun j hj => ?_⟩
    by_cases hji : j = i
    · subst hji
      exact hy.wpOp hi hC ⟨fun _ => hC, H⟩
    · have hstep := H.2 j (ready_mono hj hji)
      obtain ⟨hjL, oj, hoj, hafter⟩ := mem_ready.1 hj
      have hiL := (mem_ready.1 hr).1
      have hno : ∀ e ∈ oj.after, Region.binds md e = true → e.on ≠ i := by
        intro e he hb heq
        have hlisted := hafter e he hb
        rw [heq] at hlisted
        exact getD_listed hlisted hiL
      have hjW := shutIn_not hW hoj hno hafter hu
      have hjk : j ≠ k := fun e => hjW (e ▸ hkW)
      have hik : i ≠ k := fun e => hiW (e ▸ hkW)
      have hput := wpOp_putIf hoj (hfree j oj hoj hji hjL hno) (fun cs b => Region.noSelect_spec hs i oi cs b hi) (fun cs b => Region.noSelect_spec hs j oj cs b hoj) hQ hy hstep
      have hu2 : ∀ m ∈ W, (L.setIfInBounds j true).getD m true = false := fun m hm => by
        have hne : j ≠ m := fun e => hjW (by rw [e]; exact hm)
        rw [getD_set_ne true hne]; exact hu m hm
      have hu3 : ((L.setIfInBounds i true).setIfInBounds j true).getD k true = false := by rw [getD_set_ne true hjk, getD_set_ne true hik]; exact hu k hkW
      refine wpOp_mono (fun a' w' h3 => ?_) hput
      obtain ⟨hy', hC', ht⟩ := h3
      have hCw := hC' hu3
      refine ⟨fun _ => hCw, ih (L.setIfInBounds j true) a' w' (fun m om hm hmi hun hnom => ?_) (ready_mono hr (Ne.symm hji)) hu2 hy' hCw ?_⟩
      · by_cases hjm : j = m
        · subst hjm; exact hfree _ _ hm hmi hjL hnom
        · rw [getD_set_ne true hjm] at hun; exact hfree m om hm hmi hun hnom
      · rw [Array.setIfInBounds_comm _ _ hji]; exact ht
theorem till_take {i : Nat} (W : List Nat) {oi : Oper} {v : Value} {n : Nat} {L : Array Bool} {a : Act} {w : World} (hi : ops[i]? = some oi) (hs : Region.noSelect ops = true) (hW : shutIn md ops W i = true) (hkW : W.contains k = true) (hiW : W.contains i = false) (hf : Region.free md ops L i = true)
    (hr : (Region.ready md ops L).contains i = true) (hu : (W.all fun m => !L.getD m true) = true) (hQ : ∀ c a w, Q (.panic c) (a.put oi.dst v) w → Q (.panic c) a w) (hw : Region.wanted oi (yielded ops a.tmps) = true)
    (hy : ∀ w, C w → (execOp a.eval oi).run P w = .ok (.value v) w) (hC : C w) (h : Till P md ops Q k C n (L.setIfInBounds i true) (a.put oi.dst v) w) : Till P md ops Q k C (n + 1) L a w :=
  Till.first hi hs hW (by simpa using hkW) (by simpa using hiW) hQ n L a w (Region.free_spec hi hf) (by simpa using hr) (fun m hm => by have := (List.all_eq_true.1 hu) m hm; simpa using this) (.inl ⟨hw, hy⟩) hC h
/-- The steps that may come up. -/
def TillReady (P : Program) (md : Region.Mode) (ops : Array Oper) (Q : Exit → Act → World → Prop) (k : Nat) (C : World → Prop) (n : Nat) (L : Array Bool) (a : Act) (w : World) (rs : List Nat) : Prop :=
  ∀ i ∈ rs, wpOp P ops Q i (fun a' w' => ((L.setIfInBounds i true).getD k true = false → C w') ∧ Till P md ops Q k C n (L.setIfInBounds i true) a' w') a w
theorem till_ready {rs : List Nat} {n : Nat} {L : Array Bool} {a : Act} {w : World} (hr : Region.ready md ops L = rs) (hne : (rs == []) = false) (h : TillReady P md ops Q k C n L a w rs) : Till P md ops Q k C (n + 1) L a w :=
  ⟨fun h0 => absurd hne (by rw [hr] at h0; rw [h0]; decide), by rw [hr]; exact h⟩
theorem TillReady.nil {n : Nat} {L : Array Bool} {a : Act} {w : World} : TillReady P md ops Q k C n L a w [] := fun _ h => nomatch h
theorem TillReady.cons {n : Nat} {L : Array Bool} {a : Act} {w : World} {i : Nat} {o : Oper} {rs : List Nat} (ho : ops[i]? = some o)
    (h : ∀ K : Act → World → Prop, Shut (∀ a w, ((L.setIfInBounds i true).getD k true = false → C w) → Till P md ops Q k C n (L.setIfInBounds i true) a w → K a w) → if Region.wanted o (yielded ops a.tmps) = true then Oper.wp P o a w K Q else K (a.put o.dst undef) w)
    (hs : TillReady P md ops Q k C n L a w rs) : TillReady P md ops Q k C n L a w (i :: rs) := by
  intro j hj
  rcases List.mem_cons.1 hj with rfl | hj
  · exact wpOp_step ho fun K hK => h K fun a w h1 h2 => hK a w ⟨h1, h2⟩
  · exact hs j hj
theorem till_done {n : Nat} {L : Array Bool} {a : Act} {w : World} (hr : Region.ready md ops L = []) (h : Q .normal a w) : Till P md ops Q k C n L a w := by
  cases n with
  | zero => exact ⟨hr, h⟩
  | succ n => exact ⟨fun _ => h, by rw [hr]; simp⟩
theorem till_begin {id : Nat} {a : Act} {w : World} (hm : P.follows .mixedOrders = true) (h : Till P .any ops Q k C ops.size (Array.replicate ops.size false) a w.drew) : (Code.region id ops true).wp P Q a w :=
  wp_region_any hm (Till.any _ _ _ _ h)
end
end Go.Vi
