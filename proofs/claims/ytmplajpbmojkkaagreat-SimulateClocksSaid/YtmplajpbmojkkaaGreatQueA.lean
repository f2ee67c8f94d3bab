/-
  Routes: the plain law. A way goes along the first hops that keep to the least lengths.
  The queue's methods, through the interface of container/heap.
  The queue's methods, walked.
-/
import Derived.Test.YtmplajpbmojkkaaGreatHopA
import Derived.Test.YtmplajpbmojkkaaGreatHopG
import Derived.ChangeKeysEq
set_option linter.unusedSimpArgs false
set_option linter.unusedVariables false
namespace Go.Proofs.YtmplajpbmojkkaaGreat
open Go Go.Vi
theorem fin_unique {L A B : List Hp} (h : Fin L A) (h' : Fin L B) : A = B := by
  obtain ⟨S, h1, h2, rfl⟩ := h
  obtain ⟨T, g1, g2, rfl⟩ := h'
  have e : S = T := List.Perm.eq_of_pairwise (le := fun a b => ¬hpLt b a) (fun a b _ _ q q' => by
    unfold hpLt at q q'
    obtain ⟨a1, a2, a3⟩ := a
    obtain ⟨b1, b2, b3⟩ := b
    simp only at q q'
    have e1 : a1 = b1 := by omega
    have e2 : a3 = b3 := by omega
    have e3 : a2 = b2 := by omega
    subst e1; subst e2; subst e3; rfl) h2 g2 (h1.trans g1.symm)
  rw [e]
/-- A hop of a node that keeps to the lengths left. -/
def Keeps (left : Int → Int → Prop) (a : Int) (h : Hp) : Prop := ∃ r d, left h.dst r ∧ left a d ∧ r + h.len = d
/-- The way from a node to b: the hops taken. -/
inductive Way (A : Int → List Hp) (left : Int → Int → Prop) (b : Int) : Int → List Hp → Prop
  | done : Way A left b b []
  | step {a : Int} {R : List Hp} {i : Nat} (hne : a ≠ b) (hi : i < (A a).length) (hk : Keeps left a (A a)[i]) (hf : ∀ (j : Nat) (hj : j < i), ¬Keeps left a (A a)[j]) (hw : Way A left b (A a)[i].dst R) : Way A left b a ((A a)[i] :: R)
section
variable {A : Int → List Hp} {left : Int → Int → Prop} {b a : Int} {R R' : List Hp}
theorem Way.next {i : Nat} (h : Way A left b a R) (hne : a ≠ b) (hi : i < (A a).length) (hk : Keeps left a (A a)[i]) (hf : ∀ (j : Nat) (hj : j < i), ¬Keeps left a (A a)[j]) : ∃ R', R = (A a)[i] :: R' ∧ Way A left b (A a)[i].dst R' := by
  cases h with
  | done => exact absurd rfl hne
  | @step _ R2 j hne' hj hk' hf' hw =>
    rcases Nat.lt_trichotomy i j with h1 | h1 | h1
    · exact absurd hk (hf' i h1)
    · subst h1; exact ⟨R2, rfl, hw⟩
    · exact absurd hk' (hf j h1)
theorem Way.stuck (hne : a ≠ b) (hf : ∀ (j : Nat) (hj : j < (A a).length), ¬Keeps left a (A a)[j]) : ¬Way A left b a R := by
  intro h
  cases h with
  | done => exact hne rfl
  | step _ hi hk _ _ => exact hf _ hi hk
theorem Way.at_end (h : Way A left b b R) : R = [] := by
  cases h with
  | done => rfl
  | step hne _ _ _ _ => exact absurd rfl hne
theorem Way.unique (h : Way A left b a R) (h' : Way A left b a R') : R = R' := by
  induction h generalizing R' with
  | done => exact h'.at_end.symm
  | step hne hi hk hf _ ih =>
    obtain ⟨R2, rfl, h2⟩ := h'.next hne hi hk hf
    rw [ih h2]
/-- Where a way ends, and that it comes there but once. -/
theorem Way.last (h : Way A left b a R) : (R = [] ∧ a = b) ∨ ∃ P g, R = P ++ [g] ∧ g.dst = b ∧ ∀ x ∈ P, x.dst ≠ b := by
  induction h with
  | done => exact .inl ⟨rfl, rfl⟩
  | @step a R i hne hi hk hf hw ih =>
    right
    rcases ih with ⟨rfl, e⟩ | ⟨P, g, rfl, e, hp⟩
    · exact ⟨[], (A a)[i], rfl, e, fun x hx => by cases hx⟩
    · refine ⟨(A a)[i] :: P, g, rfl, e, fun x hx => ?_⟩
      rcases List.mem_cons.1 hx with rfl | hx
      · intro e2
        rw [e2] at hw
        have := hw.at_end
        simp at this
      · exact hp x hx
theorem Way.mem (h : Way A left b a R) : ∀ x ∈ R, ∃ u, x ∈ A u := by
  induction h with
  | done => intro x hx; cases hx
  | @step a R i hne hi hk hf hw ih =>
    intro x hx
    rcases List.mem_cons.1 hx with rfl | hx
    · exact ⟨a, List.getElem_mem hi⟩
    · exact ih x hx
end
/-- A route of a network: its hops. -/
def IsRoute (n : Net) (a b : Int) (R : List Hp) (len : Int) : Prop := (nodeOf n.nodes a).isSome ∧ (nodeOf n.nodes b).isSome ∧ ∃ A B : Int → List Hp, (∀ k, Fin (hopsG n.roads k) (A k)) ∧ (∀ k, Fin (hopsG n.rev.roads k) (B k)) ∧ Least B b a len ∧ Way A (Least B b) b a R
theorem IsRoute.unique {n : Net} {a b : Int} {R R' : List Hp} {l l' : Int} (h : IsRoute n a b R l) (h' : IsRoute n a b R' l') : R = R' ∧ l = l' := by
  obtain ⟨_, _, A, B, h1, h2, h3, h4⟩ := h
  obtain ⟨_, _, A', B', g1, g2, g3, g4⟩ := h'
  have e1 : A = A' := funext fun k => fin_unique (h1 k) (g1 k)
  have e2 : B = B' := funext fun k => fin_unique (h2 k) (g2 k)
  subst e1; subst e2
  exact ⟨h4.unique g4, h3.unique g3⟩
end Go.Proofs.YtmplajpbmojkkaaGreat
namespace Go.Vi
open Go Go.RowKit
theorem wrapnil {P : Program} {w : World} (ts : Array TypeId) (t : TypeId) (a : Addr) (x y : ByteArray) : (Builtin.ssaWrapNilChk_ ts t #[.pointer (some a), .string x, .string y]).run P w = .ok (.pointer (some a)) w := rfl
theorem method_val {P : Program} {t e fuel f : Nat} {name : String} (ht : P.underlying t = some (.pointer e)) (hm : ((P.info? t).bind fun i => i.methods.find? (·.name == name)).map (fun m => (m.path.toList.length, m.func)) = some (0, some (f, false)))
    {a : Addr} {v : Value} {w : World} (hl : (loadVar e a).run P w = .ok v w) : (method (fuel + 1) t (.pointer (some a)) name).run P w = .ok (f, v) w := by
  cases hi : P.info? t with
  | none => rw [hi] at hm; simp at hm
  | some i =>
    rw [hi] at hm
    cases hf : i.methods.find? (·.name == name) with
    | none => simp [hf] at hm
    | some m =>
      simp [hf] at hm
      obtain ⟨hp, hfn⟩ := hm
      unfold method
      simp [run_typeInfo _ hi, hf, hp, follow, hfn, receiverAt, run_underlying ht, Result.andThen, Place.get, strVal, wrapnil, hl, asAddr]
theorem method_ptr {P : Program} {t e fuel f : Nat} {name : String} (ht : P.underlying t = some (.pointer e)) (hm : ((P.info? t).bind fun i => i.methods.find? (·.name == name)).map (fun m => (m.path.toList.length, m.func)) = some (0, some (f, true)))
    {a : Addr} {w : World} : (method (fuel + 1) t (.pointer (some a)) name).run P w = .ok (f, .pointer (some a)) w := by
  cases hi : P.info? t with
  | none => rw [hi] at hm; simp at hm
  | some i =>
    rw [hi] at hm
    cases hf : i.methods.find? (·.name == name) with
    | none => simp [hf] at hm
    | some m =>
      simp [hf] at hm
      obtain ⟨hp, hfn⟩ := hm
      unfold method
      simp [run_typeInfo _ hi, hf, hp, follow, hfn, receiverAt, run_underlying ht, Result.andThen, Place.get]
theorem nil_ahead {P : Program} {t e fuel f : Nat} {b : Bool} {name : String} (ht : P.underlying t = some (.pointer e)) (hm : ((P.info? t).bind fun i => i.methods.find? (·.name == name)).map (fun m => (m.path.toList.length, m.func)) = some (0, some (f, b)))
    {a : Addr} {w : World} : (nilAhead (fuel + 1) t (.pointer (some a)) name).run P w = .ok (some false) w := by
  cases hi : P.info? t with
  | none => rw [hi] at hm; simp at hm
  | some i =>
    rw [hi] at hm
    cases hf : i.methods.find? (·.name == name) with
    | none => simp [hf] at hm
    | some m =>
      simp [hf] at hm
      obtain ⟨hp, hfn⟩ := hm
      unfold nilAhead
      cases b <;> simp [run_typeInfo _ hi, hf, hp, followBlind, hfn, run_underlying ht, Result.andThen]
end Go.Vi
namespace Go.Proofs.YtmplajpbmojkkaaGreat
open Go Go.RowKit Go.Vi
theorem mLen : (((Tryz.prog.info? 201).bind fun i => i.methods.find? (·.name == "Len")).map fun m => (m.path.toList.length, m.func)) = some (0, some (87, false)) := by kernel_rfl
end Go.Proofs.YtmplajpbmojkkaaGreat
namespace Go.Vi
open Go Go.RowKit
/-- All but the queue's variable and its row is as it was. -/
structure QF (w w' : World) (qb : Nat) (row : Option Nat) : Prop where
  os : w'.os = w.os
  tape : w'.tape = w.tape
  output : w'.output = w.output
  size : w.heap.size ≤ w'.heap.size
  block : ∀ k, k < w.heap.size → k ≠ qb → some k ≠ row → w'.heap[k]? = w.heap[k]?
theorem QF.refl (w : World) (qb : Nat) (row : Option Nat) : QF w w qb row := ⟨rfl, rfl, rfl, Nat.le_refl _, fun _ _ _ _ => rfl⟩
theorem QF.of_grown {w w' : World} {row : Option Nat} (h : w.grownBy w' row) (qb : Nat) : QF w w' qb row := ⟨h.os, h.tape, h.output, h.size, fun k hk _ hr => h.block k hk hr⟩
theorem QF.trans {w w1 w2 : World} {qb : Nat} {row row1 : Option Nat} (h : QF w w1 qb row) (h2 : QF w1 w2 qb row1) (hr : row1 = row ∨ ∀ g, row1 = some g → w.heap.size ≤ g) : QF w w2 qb row :=
  ⟨h2.os.trans h.os, h2.tape.trans h.tape, h2.output.trans h.output, Nat.le_trans h.size h2.size, fun k hk hq hrow => by
    rw [h2.block k (Nat.lt_of_lt_of_le hk h.size) hq, h.block k hk hq hrow]
    rcases hr with e | e
    · rw [e]; exact hrow
    · intro e2; have := e k e2.symm; omega⟩
theorem QF.below {B : Nat} {w0 w w' : World} {qb : Nat} {row : Option Nat} (hb : Below B w0 w) (h : QF w w' qb row) (hB : B ≤ w.heap.size) (hq : B ≤ qb) (hr : ∀ g, row = some g → B ≤ g) : Below B w0 w' :=
  hb.trans ⟨h.os, h.tape, h.output, h.size, fun k hk => h.block k (by omega) (by omega) (fun e => by have := hr k e.symm; omega)⟩
theorem below_qf {w w' : World} (h : Below w.heap.size w w') (qb : Nat) (row : Option Nat) : QF w w' qb row := ⟨h.os, h.tape, h.output, h.size, fun k hk _ _ => h.block k hk⟩
theorem qf_set (w : World) (qb o : Nat) (u : Value) (row : Option Nat) : QF w (w.setCell ⟨qb, o, none⟩ u) qb row := by
  refine ⟨rfl, rfl, rfl, by simp [World.setCell], fun j hj hne _ => ?_⟩
  have : qb ≠ j := fun e => hne e.symm
  simp [World.setCell, Array.getElem?_modify, this]
end Go.Vi
namespace Go.Proofs.YtmplajpbmojkkaaGreat
open Go Go.RowKit Go.Vi
theorem uQP : Tryz.prog.underlying 201 = some (.pointer 202) := by kernel_rfl
theorem mLess : (((Tryz.prog.info? 201).bind fun i => i.methods.find? (·.name == "Less")).map fun m => (m.path.toList.length, m.func)) = some (0, some (147, false)) := by kernel_rfl
theorem mSwap : (((Tryz.prog.info? 201).bind fun i => i.methods.find? (·.name == "Swap")).map fun m => (m.path.toList.length, m.func)) = some (0, some (150, false)) := by kernel_rfl
theorem mPush : (((Tryz.prog.info? 201).bind fun i => i.methods.find? (·.name == "Push")).map fun m => (m.path.toList.length, m.func)) = some (0, some (149, true)) := by kernel_rfl
theorem mPop : (((Tryz.prog.info? 201).bind fun i => i.methods.find? (·.name == "Pop")).map fun m => (m.path.toList.length, m.func)) = some (0, some (148, true)) := by kernel_rfl
/-- The queue's variable and what its slice owns. -/
structure QAt (w : World) (B qb : Nat) (v : Value) (L : List Hp) : Prop where
  var : w.heap[qb]? = some (.cells #[v] 202 (0, 0))
  own : Ow B w 193 3 v (L.map Hp.cs)
theorem QAt.apart {w : World} {B qb g n cap : Nat} {L : List Hp} (h : QAt w B qb (.slice (some ⟨g, 0, none⟩) n cap) L) : g ≠ qb := by
  intro e
  subst e
  have := h.own.type g rfl _ _ _ h.var
  simp at this
theorem uQue : Tryz.prog.underlying 202 = some (.slice 193) := by kernel_rfl
theorem qlen_any (a : Option Addr) (n cap : Nat) (w : World) : Calls Tryz.prog 87 #[.slice a n cap] w fun e w' => e = .returned (.int .i64 n) ∧ w = w' := by
  go_enter Tryz.func87, Tryz.ntmps87
  go_wp2
  go_ret
  exact ⟨rfl, rfl⟩
theorem qless_any {B g n cap : Nat} {L : List Hp} (i k : Nat) (w : World) (h : Ow B w 193 3 (.slice (some ⟨g, 0, none⟩) n cap) (L.map Hp.cs)) (hn : L.length = n) (hn1 : n ≤ 100000) (hi : i < n) (hk : k < n) :
    Calls Tryz.prog 147 #[.slice (some ⟨g, 0, none⟩) n cap, .int .i64 i, .int .i64 k] w fun e w' => e = .returned (.bool (decide (L[i]!.len < L[k]!.len))) ∧ ∃ q, w' = w.drewN q := by
  obtain ⟨a0, a1, a2⟩ := hp_cell h (i := i) (by omega)
  obtain ⟨b0, b1, b2⟩ := hp_cell h (i := k) (by omega)
  generalize L[i]! = x at a0 a1 a2 ⊢
  generalize L[k]! = y at b0 b1 b2 ⊢
  clear h hn
  have p0 : (0 : Int) ≤ (i : Int) := by omega
  have p1 : (i : Int) < (n : Int) := by omega
  have p2 : (0 : Int) ≤ (k : Int) := by omega
  have p3 : (k : Int) < (n : Int) := by omega
  go_enter Tryz.func147, Tryz.ntmps147
  go_wp2_with fail
  go_quiet (fail)
  go_wp2
  go_ret
  exact ⟨rfl, _, rfl⟩
set_option maxHeartbeats 1000000 in
theorem qswap_any {B g n cap : Nat} {L : List Hp} (i k : Nat) (w : World) (h : Ow B w 193 3 (.slice (some ⟨g, 0, none⟩) n cap) (L.map Hp.cs)) (hn : L.length = n) (hn1 : n ≤ 100000) (hi : i < n) (hk : k < n) :
    Calls Tryz.prog 150 #[.slice (some ⟨g, 0, none⟩) n cap, .int .i64 i, .int .i64 k] w fun e w' => e = .returned (.tuple #[]) ∧ Ow B w' 193 3 (.slice (some ⟨g, 0, none⟩) n cap) ((swpL L i k).map Hp.cs) ∧ w.grownBy w' (some g) := by
  obtain ⟨a0, a1, a2⟩ := hp_cell h (i := i) (by omega)
  obtain ⟨b0, b1, b2⟩ := hp_cell h (i := k) (by omega)
  generalize hx : L[i]! = x at a0 a1 a2
  generalize hy : L[k]! = y at b0 b1 b2
  have HA := Lib.hid (⟨hx, hy⟩ : L[i]! = x ∧ L[k]! = y)
  have f0 := h.free (i * 3)
  have f1 := h.free (i * 3 + 1)
  have f2 := h.free (i * 3 + 2)
  have e0 := h.free (k * 3)
  have e1 := h.free (k * 3 + 1)
  have e2 := h.free (k * 3 + 2)
  have HO := Lib.hid h
  have HN := Lib.hid hn
  clear h hn hx hy
  have p0 : (0 : Int) ≤ (i : Int) := by omega
  have p1 : (i : Int) < (n : Int) := by omega
  have p2 : (0 : Int) ≤ (k : Int) := by omega
  have p3 : (k : Int) < (n : Int) := by omega
  by_cases hik : i = k
  · subst hik
    go_enter Tryz.func150, Tryz.ntmps150
    go_wp2_with fail
    go_region
    go_end0
    have hx := HA.out.1.symm.trans HA.out.2
    subst hx
    have h1 := hp_set HO.out (by rw [HN.out]; exact hi) x
    have h2 := hp_set h1 (by rw [List.length_set, HN.out]; exact hi) x
    refine ⟨rfl, ?_, ?_⟩
    · rw [show swpL L i i = (L.set i x).set i x by simp only [swpL, HA.out.1]]
      exact h2.keep ((Below.refl _ _).drew)
    · exact ((row3 w g _ _ _ _ _ _).trans (row3 _ g _ _ _ _ _ _)).trans (grown_of ((Below.refl _ _).drew))
  · have n0 : ¬k * 3 = i * 3 := by omega
    have n1 : ¬k * 3 = i * 3 + 1 := by omega
    have n2 : ¬k * 3 = i * 3 + 2 := by omega
    have n3 : ¬k * 3 + 1 = i * 3 := by omega
    have n4 : ¬k * 3 + 1 = i * 3 + 2 := by omega
    have n5 : ¬k * 3 + 2 = i * 3 := by omega
    have n6 : ¬k * 3 + 2 = i * 3 + 1 := by omega
    have n7 : ¬k = i := by omega
    go_enter Tryz.func150, Tryz.ntmps150
    go_wp2_with fail
    go_region
    go_end0
    have h1 := hp_set HO.out (by rw [HN.out]; exact hi) y
    have h2 := hp_set h1 (by rw [List.length_set, HN.out]; exact hk) x
    refine ⟨rfl, ?_, ?_⟩
    · rw [show swpL L i k = (L.set i y).set k x by simp only [swpL, HA.out.1, HA.out.2]]
      exact h2.keep ((Below.refl _ _).drew)
    · exact ((row3 w g _ _ _ _ _ _).trans (row3 _ g _ _ _ _ _ _)).trans (grown_of ((Below.refl _ _).drew))
theorem take_own {B g n cap : Nat} {w : World} {e : Nat} {L : List Hp} (h : Ow B w e 3 (.slice (some ⟨g, 0, none⟩) n cap) (L.map Hp.cs)) {m : Nat} (hm : m ≤ L.length) : Ow B w e 3 (.slice (some ⟨g, 0, none⟩) m cap) ((L.take m).map Hp.cs) := by
  rcases h.1.2 with ⟨e0, _⟩ | ⟨g', cap', cur, e0, hb, hg, hn, hc, hs, ht⟩
  · cases e0
  · injection e0 with e1 e2 e3
    injection e1 with e1
    injection e1 with e1
    subst e1; subst e3; subst e2
    simp only [List.length_map] at hn ht
    have hR : ∀ r ∈ L.map Hp.cs, r.length = 3 := fun r hr => by obtain ⟨x, _, rfl⟩ := List.mem_map.1 hr; rfl
    have hR2 : ∀ r ∈ (L.take m).map Hp.cs, r.length = 3 := fun r hr => by obtain ⟨x, _, rfl⟩ := List.mem_map.1 hr; rfl
    refine ⟨⟨flatten_len hR2, .inr ⟨g, cap, cur, by simp [Nat.min_eq_left hm], hb, hg, by simp [Nat.min_eq_left hm]; omega, hc, hs, ?_⟩⟩, hR2⟩
    have hl : ((L.take m).map Hp.cs).length = m := by simp [Nat.min_eq_left hm]
    rw [hl]
    have q : cur.toList.take (m * 3) = (cur.toList.take (L.length * 3)).take (m * 3) := by rw [List.take_take, Nat.min_eq_left (Nat.mul_le_mul_right 3 hm)]
    rw [q, ht]
    have hsp : (L.map Hp.cs).flatten = ((L.take m).map Hp.cs).flatten ++ ((L.drop m).map Hp.cs).flatten := by rw [← List.flatten_append, ← List.map_append, List.take_append_drop]
    rw [hsp, List.take_append_of_le_length (by rw [flatten_len hR2, hl]; exact Nat.le_refl _)]
    exact List.take_of_length_le (by rw [flatten_len hR2, hl]; exact Nat.le_refl _)
theorem qpop_any {B g qb n cap : Nat} {L : List Hp} (w : World) (h : QAt w B qb (.slice (some ⟨g, 0, none⟩) n cap) L) (hn : L.length = n) (hn1 : n ≤ 100000) (hn0 : 0 < n) :
    Calls Tryz.prog 148 #[.pointer (some ⟨qb, 0, none⟩)] w fun e w' => e = .returned (.iface 193 L[n - 1]!.v) ∧ QAt w' B qb (.slice (some ⟨g, 0, none⟩) (n - 1) cap) (L.take (n - 1)) ∧ QF w w' qb (some g) := by
  obtain ⟨r, hr⟩ : ∃ r, n = r + 1 := ⟨n - 1, by omega⟩
  obtain ⟨a0, a1, a2⟩ := hp_cell h.own (i := r) (by omega)
  have hc := obj_cell h.var 0
  have hfr := obj_free h.var 0
  simp at hc
  have hrr : n - 1 = r := by omega
  rw [hrr]
  generalize hx : L[r]! = x at a0 a1 a2 ⊢
  have hcap : n ≤ cap := by
    rcases h.own.shape with ⟨h1, _⟩ | ⟨g', cap', h1, _, _, h2⟩
    · cases h1
    · injection h1 with h3 h4 h5; subst h4; subst h5; exact h2
  have HQ := Lib.hid h
  have HN := Lib.hid hn
  have HR := Lib.hid hr
  have hgz := (h.own.blk g rfl).2
  have hqz := obj_lt h.var
  have p0 : (0 : Int) ≤ (r : Int) := by omega
  have p1 : (r : Int) < (n : Int) := by omega
  have p2 : (n : Int) - 1 = (r : Int) := by omega
  have p3 : IntKind.i64.wrap (r : Int) = (r : Int) := IntWalk.i64_in _ (by omega)
  have p4 : (r : Int) ≤ (cap : Int) := by omega
  have p5 : r ≤ cap := by omega
  clear h hn hr hrr hx hn0 hcap
  go_enter Tryz.func148, Tryz.ntmps148
  go_wp2_with fail
  go_ret
  have hgq := HQ.out.apart
  refine ⟨rfl, ⟨obj_old (obj_set HQ.out.var), ((take_own HQ.out.own (m := r) (by rw [HN.out, HR.out]; omega)).keepSet _ (fun e => hgq (by injection e with e)) _).keep ((Below.refl _ _).alloc (Nat.le_refl _) _)⟩, ?_⟩
  exact (qf_set w qb 0 _ _).trans (below_qf ((Below.refl _ _).alloc (Nat.le_refl _) _) _ _) (.inl rfl)
theorem hopAssert (x : Hp) (w : World) : (Instr.typeAssert (.iface 193 x.v) 20 193 false).run Tryz.prog w = .ok x.v w := by kernel_rfl
set_option maxRecDepth 100000 in
theorem qpush_any {B g qb n cap : Nat} {L : List Hp} (x : Hp) (w : World) (h : QAt w B qb (.slice (some ⟨g, 0, none⟩) n cap) L) (hn : L.length = n) (hn1 : n ≤ 100000) (hB : B ≤ w.heap.size) :
    Calls Tryz.prog 149 #[.pointer (some ⟨qb, 0, none⟩), .iface 193 x.v] w fun e w' => e = .returned (.tuple #[]) ∧ ∃ g' cap', QAt w' B qb (.slice (some ⟨g', 0, none⟩) (n + 1) cap') (L ++ [x]) ∧ QF w w' qb (some g) ∧ (g' = g ∨ w.heap.size ≤ g') := by
  have hc := obj_cell h.var 0
  have hfr := obj_free h.var 0
  simp at hc
  have hgz := (h.own.blk g rfl).2
  have hqz := obj_lt h.var
  have hgq := h.apart
  have HQ := Lib.hid h
  have HN := Lib.hid hn
  have hta := hopAssert x
  have HOW : Hid (∀ W, Below w.heap.size w W → W.ownsRow B 193 3 (.slice (some ⟨g, 0, none⟩) n cap) n (L.map Hp.cs).flatten) := fun W hW => by
    have q := (h.own.keep hW).1
    rw [List.length_map, hn] at q
    exact q
  obtain ⟨i0, hi, hz0, hz1, hz2⟩ := info_parts iHop
  clear h hn
  go_enter Tryz.func149, Tryz.ntmps149
  go_wp2_with fail
  go_region_law
    ((refine step_append_lies _ (by rfl) _ _ _ (by rfl) B 193 i0 _ 3 24 uQue hi hz0 hz1 hz2 rfl (by decide) (.slice (some ⟨g, 0, none⟩) n cap) n (L.map Hp.cs).flatten (by rfl) (HOW.out _ (by (repeat (first | with_reducible exact Below.refl _ _ | with_reducible assumption | ((with_reducible refine Below.setCell ?_ ?_ _); rotate_left; focus (first | exact Nat.le_refl _ | omega | exact Below.size (by assumption) | (simp; done) | (simp; omega))) | ((with_reducible refine Below.alloc ?_ ?_ _); rotate_left; focus (first | exact Nat.le_refl _ | omega | exact Below.size (by assumption) | (simp; done) | (simp; omega))) | (with_reducible refine Below.drew ?_) | (with_reducible refine drewN_ ?_ _)))))
        ⟨w.heap.size, 0, none⟩ 1 1 x.cs (by rfl) rfl (World.news_of_block (cs := #[.int .i64 x.dst, .int .i64 x.road, .int .i64 x.len]) (t := 193) (fr := (0, 0)) (obj_last _ _)) (hp_one _)
        (by omega) (by unfold maxLen; omega) (by omega) (by simp; omega) _ rfl ?_
      intro gg cc w1 hown1 hgrow hat hlt1
      have hgrow2 : World.grownBy _ w1 (some g) := hgrow
      have hall : w.grownBy w1 (some g) := (grown_of (by (repeat (first | with_reducible exact Below.refl _ _ | with_reducible assumption | ((with_reducible refine Below.setCell ?_ ?_ _); rotate_left; focus (first | exact Nat.le_refl _ | omega | exact Below.size (by assumption) | (simp; done) | (simp; omega))) | ((with_reducible refine Below.alloc ?_ ?_ _); rotate_left; focus (first | exact Nat.le_refl _ | omega | exact Below.size (by assumption) | (simp; done) | (simp; omega))) | (with_reducible refine Below.drew ?_) | (with_reducible refine drewN_ ?_ _))))).trans hgrow2
      have hc1 := hall.cell_far ⟨qb, 0, none⟩ hqz (fun e => hgq (by injection e with e; exact e.symm))
      have hf1 := hall.frozen_far ⟨qb, 0, none⟩ hqz (fun e => hgq (by injection e with e; exact e.symm))
      rw [hc] at hc1
      rw [hfr] at hf1))
  all_goals
    go_wp2
    go_end0
    have hgg : (gg = g ∨ w.heap.size ≤ gg) ∧ gg ≠ qb := by
      rcases hat with e | e
      · injection e with e; subst e; exact ⟨.inl rfl, hgq⟩
      · simp at e; exact ⟨.inr (by omega), by omega⟩
    have hO : Ow B w1 193 3 (.slice (some ⟨gg, 0, none⟩) (n + 1) cc) ((L ++ [x]).map Hp.cs) := by
      have hl : (L.map Hp.cs).length = n := by rw [List.length_map, HN.out]
      have := Ow.grow (R := L.map Hp.cs) (N := [x.cs]) (m := 1) (by rw [hl]; simpa using hown1) rfl (fun r hr => by obtain ⟨y, _, rfl⟩ := List.mem_map.1 hr; rfl) (fun r hr => by simp at hr; subst hr; rfl)
      simpa using this
    have hv1 : w1.heap[qb]? = some (.cells #[.slice (some ⟨g, 0, none⟩) n cap] 202 (0, 0)) := by
      rw [hall.block qb hqz (fun e => hgq (by injection e with e; exact e.symm))]; exact HQ.out.var
    exact ⟨rfl, gg, cc, ⟨obj_set hv1, hO.keepSet _ (fun e => hgg.2 (by injection e with e)) _⟩, (QF.of_grown hall qb).trans (qf_set _ _ _ _ _) (.inl rfl), hgg.1⟩
end Go.Proofs.YtmplajpbmojkkaaGreat
