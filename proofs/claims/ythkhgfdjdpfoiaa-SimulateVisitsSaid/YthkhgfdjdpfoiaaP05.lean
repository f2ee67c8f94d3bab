/-
  What a network is that its check accepts.
  The model's hops and legs as data.
  A region that draws its order, with a condition on the world that holds as long as one operation (a store) has not come up: loads that come ahead of it may be taken first. No program is named here.
-/
import Derived.Test.YthkhgfdjdpfoiaaP02
import Derived.Test.YthkhgfdjdpfoiaaP04
import Derived.Test.YthkhgfdjdpfoiaaLens
import Derived.Test.YthkhgfdjdpfoiaaP03
import Derived.Deep.RegionHeld3
set_option linter.unusedSimpArgs false
set_option linter.unusedVariables false
namespace Go.Proofs.Ythkhgfdjdpfoiaa
open Go Go.Vi
theorem roadErr_zero {q : List Nd} {r : Rd} (h : roadErr q r = 0) : (1 ≤ r.lim ∧ r.lim ≤ 1048576) ∧ (1 ≤ r.len ∧ r.len ≤ 1073741824) ∧ ((nodeOf q r.src).isSome = true ∧ (nodeOf q r.dst).isSome = true) ∧ r.src ≠ r.dst := by
  unfold roadErr at h
  split at h
  · simp at h
  · rename_i h1
    split at h
    · simp at h
    · rename_i h2
      split at h
      · simp at h
      · rename_i h3
        refine ⟨by omega, by omega, ?_, h2⟩
        constructor
        · cases hs : (nodeOf q r.src).isSome with
          | true => rfl
          | false => exact absurd (.inl hs) h1
        · cases hs : (nodeOf q r.dst).isSome with
          | true => rfl
          | false => exact absurd (.inr hs) h1
theorem roadsErr_ok {q : List Nd} : ∀ (l : List Rd) (b : Int), roadsErr q l b = 0 → (∀ i j, i < j → j < l.length → l[i]!.id < l[j]!.id) ∧ (∀ x ∈ l, b < x.id ∧ 1 ≤ x.id ∧ x.id ≤ 1073741824 ∧ roadErr q x = 0)
  | [], _, _ => ⟨fun i j _ h => by simp at h, fun x h => by cases h⟩
  | x :: r, b, h => by
    unfold roadsErr at h
    split at h
    · rename_i h1; exact absurd h h1
    · rename_i h1
      split at h
      · rename_i h2; exact absurd h h2
      · rename_i h2
        obtain ⟨g1, g2, g3⟩ := idErr_zero (Classical.not_not.1 h1)
        obtain ⟨k1, k2⟩ := roadsErr_ok r x.id h
        have hn : roadErr q x = 0 := Classical.not_not.1 h2
        refine ⟨fun i j hij hj => ?_, fun y hy => ?_⟩
        · cases j with
          | zero => omega
          | succ j =>
            have hj' : j < r.length := by simpa using hj
            cases i with
            | zero =>
              have := (k2 r[j] (List.getElem_mem hj')).1
              show x.id < (r[j]!).id
              rw [getElem!_pos r j hj']; exact this
            | succ i => exact k1 i j (by omega) hj'
        · rcases List.mem_cons.1 hy with rfl | hy
          · exact ⟨g3, g1, g2, hn⟩
          · have := k2 y hy; exact ⟨by omega, this.2⟩
structure NetOK (n : Net) : Prop where
  nodes : SrtN n.nodes
  roads : SrtR n.roads
  few : n.nodes.length ≤ 256 ∧ n.roads.length ≤ 1024
  road : ∀ x ∈ n.roads, 1 ≤ x.id ∧ roadErr n.nodes x = 0
theorem netOK_of {n : Net} (h : netErr n = 0) : NetOK n := by
  unfold netErr at h
  split at h
  · simp at h
  · rename_i h1
    split at h
    · rename_i h2; exact absurd h h2
    · rename_i h2
      have h3 := nodesErr_ok _ _ (Classical.not_not.1 h2)
      have h4 := roadsErr_ok _ _ h
      exact ⟨h3.1, h4.1, ⟨by omega, by omega⟩, fun x hx => ⟨(h4.2 x hx).2.1, (h4.2 x hx).2.2.2⟩⟩
theorem NetOK.len {n : Net} (h : NetOK n) : ∀ x ∈ n.roads, 1 ≤ x.len ∧ x.len ≤ 1073741824 := fun x hx => (roadErr_zero (h.road x hx).2).2.1
/-- A hop is a road's. -/
theorem hop_road {n : Net} {A : Int → List Hp} (hA : ∀ k, Fin (hopsG n.roads k) (A k)) {u : Int} {h : Hp} (hh : h ∈ A u) : ∃ r ∈ n.roads, h.road = r.id ∧ h.len = r.len ∧ ((u = r.src ∧ h.dst = r.dst) ∨ (u = r.dst ∧ h.dst = r.src)) := by
  obtain ⟨r, hr, h1 | h1⟩ := hopsG_mem n.roads u h ((fin_mem (hA u)).1 h hh)
  · obtain ⟨rfl, rfl⟩ := h1
    exact ⟨r, hr, rfl, rfl, .inl ⟨rfl, rfl⟩⟩
  · obtain ⟨_, rfl, rfl⟩ := h1
    exact ⟨r, hr, rfl, rfl, .inr ⟨rfl, rfl⟩⟩
theorem NetOK.hop {n : Net} (h : NetOK n) {A : Int → List Hp} (hA : ∀ k, Fin (hopsG n.roads k) (A k)) : ∀ u, ∀ x ∈ A u, 1 ≤ x.len ∧ x.len ≤ 1073741824 := fun u x hx => by
  obtain ⟨r, hr, _, e, _⟩ := hop_road hA hx
  rw [e]; exact h.len r hr
theorem roadOf_mem {l : List Rd} (hs : SrtR l) {r : Rd} (hr : r ∈ l) : roadOf l r.id = some r := by
  obtain ⟨i, hi, rfl⟩ := List.getElem_of_mem hr
  unfold roadOf
  rw [List.find?_eq_some_iff_getElem]
  refine ⟨by simp, i, hi, rfl, fun j hj => ?_⟩
  have := hs j i hj hi
  rw [getElem!_pos l i hi, getElem!_pos l j (by omega)] at this
  simp; omega
end Go.Proofs.Ythkhgfdjdpfoiaa
namespace Go.Proofs.Ythkhgfdjdpfoiaa
open Go Go.RowKit Go.Vi
structure Hpm where (road src dst time : Int)
instance : Inhabited Hpm := ⟨⟨0, 0, 0, 0⟩⟩
def Hpm.cs (h : Hpm) : List Value := [.int .i64 h.road, .int .i64 h.src, .int .i64 h.dst, .int .i64 h.time]
abbrev Hpm.v (h : Hpm) : Value := .agg #[.int .i64 h.road, .int .i64 h.src, .int .i64 h.dst, .int .i64 h.time]
def rat0 : RatD := ⟨false, ⟨#[]⟩, false, ⟨#[]⟩⟩
def leg0 : LegD := ⟨rat0, rat0, 0, rat0, rat0⟩
theorem rd_len {n : Net} (hK : NetOK n) (id : Int) : 0 ≤ ((roadOf n.roads id).getD rd0).len ∧ ((roadOf n.roads id).getD rd0).len ≤ 1073741824 := by
  unfold roadOf
  cases hf : n.roads.find? fun x => x.id == id with
  | none => simp [rd0]
  | some x =>
    have := hK.len x (List.mem_of_find?_eq_some hf)
    simp only [Option.getD_some]; omega
end Go.Proofs.Ythkhgfdjdpfoiaa
namespace Go.Vi
open Go
section
variable {P : Program} {ops : Array Oper} {Q : Exit → Act → World → Prop} {md : Region.Mode} {k : Nat} {C : World → Prop}
/-- Every order from here on; C is shown behind each operation till number k has come up. -/
def Till (P : Program) (md : Region.Mode) (ops : Array Oper) (Q : Exit → Act → World → Prop) (k : Nat) (C : World → Prop) : Nat → Array Bool → Act → World → Prop
  | 0, L, a, w => Region.ready md ops L = [] ∧ Q .normal a w
  | n + 1, L, a, w => (Region.ready md ops L = [] → Q .normal a w) ∧
      ∀ i ∈ Region.ready md ops L, wpOp P ops Q i (fun a' w' => ((L.setIfInBounds i true).getD k true = false → C w') ∧ Till P md ops Q k C n (L.setIfInBounds i true) a' w') a w
theorem Till.any : ∀ (n : Nat) (L : Array Bool) (a : Act) (w : World), Till P md ops Q k C n L a w → wpAny P md ops Q n L a w
  | 0, _, _, _, h => h
  | n + 1, L, _, _, h => ⟨h.1, fun i hi => wpOp_mono (fun a' w' h' => Till.any n _ a' w' h'.2) (h.2 i hi)⟩
/-- Number k waits for number i. -/
def waitsFor (md : Region.Mode) (ops : Array Oper) (k i : Nat) : Bool := match ops[k]? with
  | some o => o.after.any fun e => Region.binds md e && e.on == i
  | none => false
/-- None of W can come up while number i has not: each waits for i or for another one of W. -/
def shutIn (md : Region.Mode) (ops : Array Oper) (W : List Nat) (i : Nat) : Bool := W.all fun m => waitsFor md ops m i || W.any fun m' => waitsFor md ops m m'
theorem waitsFor_on {m i : Nat} {o : Oper} (h : waitsFor md ops m i = true) (ho : ops[m]? = some o) : ∃ e ∈ o.after, Region.binds md e = true ∧ e.on = i := by
  unfold waitsFor at h
  rw [ho] at h
  obtain ⟨e, he, hb⟩ := Array.any_eq_true'.1 h
  simp only [Bool.and_eq_true, beq_iff_eq] at hb
  exact ⟨e, he, hb⟩
theorem getD_listed {L : Array Bool} {m : Nat} (h : L.getD m false = true) (h' : L.getD m true = false) : False := by
  rcases Nat.lt_or_ge m L.size with hlt | hge
  · rw [Array.getD_eq_getD_getElem?, Array.getElem?_eq_getElem hlt] at h h'
    simp only [Option.getD_some] at h h'
    rw [h] at h'; cases h'
  · rw [Array.getD_eq_getD_getElem?, Array.getElem?_eq_none hge] at h; cases h
theorem shutIn_not {W : List Nat} {i j : Nat} {oj : Oper} {L : Array Bool} (h : shutIn md ops W i = true) (hj : ops[j]? = some oj) (hno : ∀ e ∈ oj.after, Region.binds md e = true → e.on ≠ i)
    (hall : ∀ e ∈ oj.after, Region.binds md e = true → L.getD e.on false = true) (hu : ∀ m ∈ W, L.getD m true = false) : j ∉ W := by
  intro hm
  have h1 := (List.all_eq_true.1 h) j hm
  simp only [Bool.or_eq_true] at h1
  rcases h1 with h1 | h1
  · obtain ⟨e, he, hb, ho⟩ := waitsFor_on h1 hj
    exact hno e he hb ho
  · obtain ⟨m', hm', h2⟩ := List.any_eq_true.1 h1
    obtain ⟨e, he, hb, ho⟩ := waitsFor_on h2 hj
    exact getD_listed (ho ▸ hall e he hb) (hu m' hm')
theorem Till.first {i : Nat} {oi : Oper} {v : Value} (hi : ops[i]? = some oi) (hs : Region.noSelect ops = true) {W : List Nat} (hW : shutIn md ops W i = true) (hkW : k ∈ W) (hiW : i ∉ W)
    (hQ : ∀ c a w, Q (.panic c) (a.put oi.dst v) w → Q (.panic c) a w) :
    ∀ (n : Nat) (L : Array Bool) (a : Act) (w : World),
      (∀ (j : Nat) (oj : Oper), ops[j]? = some oj → j ≠ i → L.getD j true = false → (∀ e ∈ oj.after, Region.binds md e = true → e.on ≠ i) → oi.apart ops oj = true) →
      i ∈ Region.ready md ops L → (∀ m ∈ W, L.getD m true = false) → YieldsIf P ops C oi v a → C w →
      Till P md ops Q k C n (L.setIfInBounds i true) (a.put oi.dst v) w → Till P md ops Q k C (n + 1) L a w := by
  intro n
  induction n with
  | zero =>
    intro L a w _ hr hu hy hC H
    refine ⟨fun h => by rw [h] at hr; (cases hr), fun j hj => ?_⟩
    by_cases hji : j = i
    · subst hji
      exact hy.wpOp hi hC ⟨fun _ => hC, H⟩
    · have hm := ready_mono (i := i) hj hji
      rw [H.1] at hm
      cases hm
  | succ n ih =>
    intro L a w hfree hr hu hy hC H
    refine ⟨fun h => by rw [h] at hr; (cases hr), fun j hj => ?_⟩
    by_cases hji : j = i
    · subst hji
      exact hy.wpOp hi hC ⟨fun _ => hC, H⟩
    · have hstep := H.2 j (ready_mono hj hji)
      obtain ⟨hjL, oj, hoj, hafter⟩ := mem_ready.1 hj
      have hiL := (mem_ready.1 hr).1
      have hno : ∀ e ∈ oj.after, Region.binds md e = true → e.on ≠ i := by
        intro e he hb heq
        have hlisted := hafter e he hb
        rw [heq] at hlisted
        exact getD_listed hlisted hiL
      have hjW := shutIn_not hW hoj hno hafter hu
      have hjk : j ≠ k := fun e => hjW (e ▸ hkW)
      have hik : i ≠ k := fun e => hiW (e ▸ hkW)
      have hput := wpOp_putIf hoj (hfree j oj hoj hji hjL hno) (fun cs b => Region.noSelect_spec hs i oi cs b hi) (fun cs b => Region.noSelect_spec hs j oj cs b hoj) hQ hy hstep
      have hu2 : ∀ m ∈ W, (L.setIfInBounds j true).getD m true = false := fun m hm => by
        have hne : j ≠ m := fun e => hjW (by rw [e]; exact hm)
        rw [getD_set_ne true hne]; exact hu m hm
      have hu3 : ((L.setIfInBounds i true).setIfInBounds j true).getD k true = false := by rw [getD_set_ne true hjk, getD_set_ne true hik]; exact hu k hkW
      refine wpOp_mono (fun a' w' h3 => ?_) hput
      obtain ⟨hy', hC', ht⟩ := h3
      have hCw := hC' hu3
      refine ⟨fun _ => hCw, ih (L.setIfInBounds j true) a' w' (fun m om hm hmi hun hnom => ?_) (ready_mono hr (Ne.symm hji)) hu2 hy' hCw ?_⟩
      · by_cases hjm : j = m
        · subst hjm; exact hfree _ _ hm hmi hjL hnom
        · rw [getD_set_ne true hjm] at hun; exact hfree m om hm hmi hun hnom
      · rw [Array.setIfInBounds_comm _ _ hji]; exact ht
theorem till_take {i : Nat} (W : List Nat) {oi : Oper} {v : Value} {n : Nat} {L : Array Bool} {a : Act} {w : World} (hi : ops[i]? = some oi) (hs : Region.noSelect ops = true) (hW : shutIn md ops W i = true) (hkW : W.contains k = true) (hiW : W.contains i = false) (hf : Region.free md ops L i = true)
    (hr : (Region.ready md ops L).contains i = true) (hu : (W.all fun m => !L.getD m true) = true) (hQ : ∀ c a w, Q (.panic c) (a.put oi.dst v) w → Q (.panic c) a w) (hw : Region.wanted oi (yielded ops a.tmps) = true)
    (hy : ∀ w, C w → (execOp a.eval oi).run P w = .ok (.value v) w) (hC : C w) (h : Till P md ops Q k C n (L.setIfInBounds i true) (a.put oi.dst v) w) : Till P md ops Q k C (n + 1) L a w :=
  Till.first hi hs hW (by simpa using hkW) (by simpa using hiW) hQ n L a w (Region.free_spec hi hf) (by simpa using hr) (fun m hm => by have := (List.all_eq_true.1 hu) m hm; simpa using this) (.inl ⟨hw, hy⟩) hC h
/-- The steps that may come up. -/
def TillReady (P : Program) (md : Region.Mode) (ops : Array Oper) (Q : Exit → Act → World → Prop) (k : Nat) (C : World → Prop) (n : Nat) (L : Array Bool) (a : Act) (w : World) (rs : List Nat) : Prop :=
  ∀ i ∈ rs, wpOp P ops Q i (fun a' w' => ((L.setIfInBounds i true).getD k true = false → C w') ∧ Till P md ops Q k C n (L.setIfInBounds i true) a' w') a w
theorem till_ready {rs : List Nat} {n : Nat} {L : Array Bool} {a : Act} {w : World} (hr : Region.ready md ops L = rs) (hne : (rs == []) = false) (h : TillReady P md ops Q k C n L a w rs) : Till P md ops Q k C (n + 1) L a w :=
  ⟨fun h0 => absurd hne (by rw [hr] at h0; rw [h0]; decide), by rw [hr]; exact h⟩
theorem TillReady.nil {n : Nat} {L : Array Bool} {a : Act} {w : World} : TillReady P md ops Q k C n L a w [] := fun _ h => nomatch h
theorem TillReady.cons {n : Nat} {L : Array Bool} {a : Act} {w : World} {i : Nat} {o : Oper} {rs : List Nat} (ho : ops[i]? = some o)
    (h : ∀ K : Act → World → Prop, Shut (∀ a w, ((L.setIfInBounds i true).getD k true = false → C w) → Till P md ops Q k C n (L.setIfInBounds i true) a w → K a w) → if Region.wanted o (yielded ops a.tmps) = true then Oper.wp P o a w K Q else K (a.put o.dst undef) w)
    (hs : TillReady P md ops Q k C n L a w rs) : TillReady P md ops Q k C n L a w (i :: rs) := by
  intro j hj
  rcases List.mem_cons.1 hj with rfl | hj
  · exact wpOp_step ho fun K hK => h K fun a w h1 h2 => hK a w ⟨h1, h2⟩
  · exact hs j hj
theorem till_done {n : Nat} {L : Array Bool} {a : Act} {w : World} (hr : Region.ready md ops L = []) (h : Q .normal a w) : Till P md ops Q k C n L a w := by
  cases n with
  | zero => exact ⟨hr, h⟩
  | succ n => exact ⟨fun _ => h, by rw [hr]; simp⟩
theorem till_begin {id : Nat} {a : Act} {w : World} (hm : P.follows .mixedOrders = true) (h : Till P .any ops Q k C ops.size (Array.replicate ops.size false) a w.drew) : (Code.region id ops true).wp P Q a w :=
  wp_region_any hm (Till.any _ _ _ _ h)
end
end Go.Vi
