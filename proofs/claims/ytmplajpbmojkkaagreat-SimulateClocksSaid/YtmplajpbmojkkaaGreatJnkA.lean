/-
  A world behind a call that leaves old memory alone, written so that the walk sees through it; a drawn region of reads and such calls, with a tail of stores.
  append of one element to a slice that the call owns, in the words of owned rows.
  Whole rows in blocks of their own, read and written at once: a struct of many cells is one word to the walk. No program is named here.
-/
import Derived.Test.YtmplajpbmojkkaaGreatMemA
import Derived.StillTail
import Derived.Deep.MidRow
set_option linter.unusedSimpArgs false
set_option linter.unusedVariables false
namespace Go.Vi
open Go Go.RowKit
/-- W's blocks as they are, whatever X has behind them. -/
def _root_.Go.World.junk (W X : World) : World := { X with os := W.os, tape := W.tape, output := W.output, heap := W.heap ++ X.heap.extract W.heap.size X.heap.size }
theorem junk_below (W X : World) : Below W.heap.size W (W.junk X) := by
  refine ⟨rfl, rfl, rfl, ?_, fun k hk => ?_⟩
  · show W.heap.size ≤ (W.heap ++ _).size
    simp
  · show (W.heap ++ _)[k]? = _
    rw [Array.getElem?_append_left hk]
theorem junk_of {W X : World} (h : Below W.heap.size W X) : W.junk X = X := by
  obtain ⟨hp, tp, dr, os, out⟩ := X
  have e1 : os = W.os := h.os
  have e2 : tp = W.tape := h.tape
  have e3 : out = W.output := h.output
  subst e1 e2 e3
  have : W.heap ++ hp.extract W.heap.size hp.size = hp := by
    have hs : W.heap.size ≤ hp.size := h.size
    apply Array.ext_getElem?
    intro k
    by_cases hk : k < W.heap.size
    · rw [Array.getElem?_append_left hk]; exact (h.block k hk).symm
    · rw [Array.getElem?_append_right (by omega)]
      rw [Array.getElem?_extract]
      have e : W.heap.size + (k - W.heap.size) = k := by omega
      rw [e]
      by_cases h2 : k < hp.size
      · rw [if_pos (by omega)]
      · rw [if_neg (by omega), Array.getElem?_eq_none (by omega)]
  unfold World.junk
  simp only [this]
theorem junk_cell (W X : World) (n i : Nat) (h : n < W.heap.size) : (W.junk X).cell? ⟨n, i, none⟩ = W.cell? ⟨n, i, none⟩ := (junk_below W X).cell (p := ⟨n, i, none⟩) h
theorem junk_frozen (W X : World) (n i : Nat) (h : n < W.heap.size) : (W.junk X).frozen? ⟨n, i, none⟩ = W.frozen? ⟨n, i, none⟩ := (junk_below W X).frozen (p := ⟨n, i, none⟩) h
theorem junk_heap (W X : World) (n : Nat) (h : n < W.heap.size) : (W.junk X).heap[n]? = W.heap[n]? := (junk_below W X).block n h
/-- Block n is there: found by instances, however deep the world is written out. -/
class Lo (n : Nat) (W : World) : Prop where
  lt : n < W.heap.size
instance Lo.junk {n : Nat} {W X : World} [h : Lo n W] : Lo n (W.junk X) := ⟨Nat.lt_of_lt_of_le h.lt (junk_below W X).size⟩
instance Lo.alloc {n : Nat} {W : World} {O : Obj} [h : Lo n W] : Lo n (W.alloc O) := ⟨by have := h.lt; simp; omega⟩
instance Lo.drew {n : Nat} {W : World} [h : Lo n W] : Lo n W.drew := ⟨h.lt⟩
instance Lo.drewN {n k : Nat} {W : World} [h : Lo n W] : Lo n (W.drewN k) := ⟨h.lt⟩
instance Lo.setCell {n : Nat} {W : World} {a : Addr} {v : Value} [h : Lo n W] : Lo n (W.setCell a v) := ⟨by have := h.lt; simp [World.setCell]; omega⟩
instance Lo.new {W : World} {O : Obj} : Lo W.heap.size (W.alloc O) := ⟨by simp⟩
instance Lo.new1 {W : World} {O O1 : Obj} : Lo (W.heap.size + 1) ((W.alloc O).alloc O1) := ⟨by simp⟩
instance Lo.new2 {W : World} {O O1 O2 : Obj} : Lo (W.heap.size + 1 + 1) (((W.alloc O).alloc O1).alloc O2) := ⟨by simp⟩
instance Lo.new3 {W : World} {O O1 O2 O3 : Obj} : Lo (W.heap.size + 1 + 1 + 1) ((((W.alloc O).alloc O1).alloc O2).alloc O3) := ⟨by simp⟩
instance Lo.new4 {W : World} {O O1 O2 O3 O4 : Obj} : Lo (W.heap.size + 1 + 1 + 1 + 1) (((((W.alloc O).alloc O1).alloc O2).alloc O3).alloc O4) := ⟨by simp⟩
instance Lo.new5 {W : World} {O O1 O2 O3 O4 O5 : Obj} : Lo (W.heap.size + 1 + 1 + 1 + 1 + 1) ((((((W.alloc O).alloc O1).alloc O2).alloc O3).alloc O4).alloc O5) := ⟨by simp⟩
instance Lo.new6 {W : World} {O O1 O2 O3 O4 O5 O6 : Obj} : Lo (W.heap.size + 1 + 1 + 1 + 1 + 1 + 1) (((((((W.alloc O).alloc O1).alloc O2).alloc O3).alloc O4).alloc O5).alloc O6) := ⟨by simp⟩
/-- Old memory is as it was: found by instances. -/
class Bw (w W : World) : Prop where
  b : Below w.heap.size w W
instance Bw.refl {w : World} : Bw w w := ⟨Below.refl _ _⟩
instance Bw.alloc {w W : World} {O : Obj} [h : Bw w W] : Bw w (W.alloc O) := ⟨h.b.alloc h.b.size O⟩
instance Bw.drew {w W : World} [h : Bw w W] : Bw w W.drew := ⟨h.b.drew⟩
instance Bw.drewN {w W : World} {n : Nat} [h : Bw w W] : Bw w (W.drewN n) := ⟨drewN_ h.b n⟩
instance Bw.junk {w W X : World} [h : Bw w W] : Bw w (W.junk X) := ⟨h.b.trans ((junk_below W X).mono h.b.size)⟩
theorem lo_lt (n : Nat) (W : World) [h : Lo n W] : (n < W.heap.size) = True := eq_true h.lt
theorem lo_ne (n : Nat) (W : World) [h : Lo n W] : (n = W.heap.size) = False := eq_false (by have := h.lt; omega)
theorem lo_ne' (n : Nat) (W : World) [h : Lo n W] : (W.heap.size = n) = False := eq_false (by have := h.lt; omega)
theorem junk_setCell (W X : World) (n i : Nat) (v : Value) (h : n < W.heap.size) : (W.junk X).setCell ⟨n, i, none⟩ v = (W.setCell ⟨n, i, none⟩ v).junk X := by
  have hs : (W.setCell ⟨n, i, none⟩ v).heap.size = W.heap.size := by simp [World.setCell]
  have e : ((W.junk X).setCell ⟨n, i, none⟩ v).heap = ((W.setCell ⟨n, i, none⟩ v).junk X).heap := by
    simp only [World.junk, World.setCell]
    apply Array.ext_getElem?
    intro k
    simp only [Array.getElem?_modify, Array.getElem?_append, Array.size_modify]
    by_cases hk : n = k
    · subst hk; simp [h]
    · simp [hk]
  have e2 : ∀ A B : World, A.heap = B.heap → A.os = B.os → A.tape = B.tape → A.output = B.output → A.drawn = B.drawn → A = B := fun A B h1 h2 h3 h4 h5 => by
    cases A; cases B; simp only at h1 h2 h3 h4 h5; subst h1 h2 h3 h4 h5; rfl
  exact e2 _ _ e rfl rfl rfl rfl
theorem junk_junk (W X Y : World) : (W.junk X).junk Y = W.junk ((W.junk X).junk Y) := by
  symm
  exact junk_of ((junk_below W X).trans ((junk_below _ Y).mono (junk_below W X).size))
theorem junk_drew (W X : World) : (W.junk X).drew = W.junk X.drew := rfl
theorem drew_junk (W X : World) : W.drew.junk X = W.junk X := rfl
theorem _root_.Go.RowKit.Below.junk {B : Nat} {a W : World} (h : Below B a W) (hB : B ≤ W.heap.size) (X : World) : Below B a (W.junk X) := h.trans ((junk_below W X).mono hB)
theorem below_some {W w' : World} (h : Below W.heap.size W w') : ∃ X, w' = W.junk X := ⟨w', (junk_of h).symm⟩
/-- A contract that leaves old memory alone, in the walk's own words. -/
theorem jk {P : Program} {f : FuncId} {args : Array Value} {w : World} {v : Value} (h : Calls P f args w fun e w' => e = .returned v ∧ Below w.heap.size w w') : Calls P f args w fun e w' => e = .returned v ∧ ∃ X, w' = w.junk X :=
  h.mono fun _ _ ⟨he, hb⟩ => ⟨he, below_some hb⟩
/-- .. inside a drawn region. -/
theorem jq {P : Program} {f : FuncId} {args : Array Value} {W X : World} {v : Value} (h : Calls P f args (W.junk X) fun e w' => e = .returned v ∧ Below (W.junk X).heap.size (W.junk X) w') : Calls P f args (W.junk X) fun e w' => e = .returned v ∧ ∃ Y, w' = W.junk Y :=
  (jk h).mono fun _ _ ⟨he, Y, hY⟩ => ⟨he, (W.junk X).junk Y, by rw [hY, ← junk_junk]⟩
end Go.Vi
namespace Go.Vi
open Go
section
variable {P : Program} {ops : Array Oper} {md : Region.Mode} {C : World → Prop} {v : Value}
/-- A drawn region whose first n operations are quiet in the class C and whose others come behind them. -/
def HeadQ (P : Program) (md : Region.Mode) (ops : Array Oper) (C : World → Prop) (n : Nat) (L : Array Bool → Act → Prop) : Nat → Array Bool → Act → Prop
  | 0, l, a => L l a
  | f + 1, l, a => Region.ready md ops l ≠ [] ∧ ∀ i ∈ Region.ready md ops l, i < n ∧ qOp P ops C i (HeadQ P md ops C n L f (l.setIfInBounds i true)) a
theorem HeadQ.any {n g : Nat} {L : Array Bool → Act → Prop} {Q : Exit → Act → World → Prop} (hL : ∀ l a w, C w → L l a → wpAny P md ops Q g l a w) :
    ∀ (f : Nat) (l : Array Bool) (a : Act) (w : World), C w → HeadQ P md ops C n L f l a → wpAny P md ops Q (f + g) l a w
  | 0, l, a, w, hw, h => by rw [Nat.zero_add]; exact hL _ _ _ hw h
  | f + 1, l, a, w, hw, h => by
    rw [show f + 1 + g = (f + g) + 1 by omega]
    exact ⟨fun h0 => absurd h0 h.1, fun i hi => wpOp_of_qOp hw (fun a' w' hw' h' => HeadQ.any hL f _ a' w' hw' h') (h.2 i hi).2⟩
/-- Every operation from number k on and below n has one behind it, up to n, that waits for it. -/
def sinkFrom (md : Region.Mode) (ops : Array Oper) (n k : Nat) : Bool := (List.range n).all fun i => decide (i < k) || (List.range (n + 1)).any fun j => decide (i < j) && Region.waitsFor md ops j i
theorem waits_from {n k : Nat} {L : Array Bool} (hs : sinkFrom md ops n k = true) (hc : Region.chainB md ops n = true) (hn : n < ops.size) (inv : HeadInv md ops n L) :
    ∀ (d i : Nat), n - i = d → k ≤ i → i < n → L.getD i true = false → ∀ t, n ≤ t → t ∉ Region.ready md ops L := by
  intro d
  induction d using Nat.strongRecOn with
  | _ d ih =>
    intro i hd hk hi hun t ht hr
    obtain ⟨_, ot, hot, hall⟩ := mem_ready.1 hr
    have htlt : t < ops.size := (Array.getElem?_eq_some_iff.1 hot).1
    have hfalse : ∀ {j : Nat}, L.getD j true = false → L.getD j false = true → False := fun h1 h2 => getD_listed h2 h1
    have hlst : ∀ {j : Nat}, j < L.size → L.getD j false = false → L.getD j true = false := fun h h2 => by simp [h] at h2 ⊢; exact h2
    by_cases htn : t = n
    · subst htn
      have h1 := List.all_eq_true.1 hs i (List.mem_range.2 hi)
      simp only [Bool.or_eq_true, decide_eq_true_eq] at h1
      rcases h1 with h1 | h1
      · omega
      obtain ⟨j, hj, hj2⟩ := List.any_eq_true.1 h1
      simp only [Bool.and_eq_true, decide_eq_true_eq] at hj2
      obtain ⟨oj, hoj, e, he, hb, hon⟩ := Region.waitsFor_spec hj2.2
      have hjle := List.mem_range.1 hj
      by_cases hjt : j = t
      · subst hjt
        obtain rfl : oj = ot := Option.some.inj (hoj.symm.trans hot)
        exact hfalse hun (hon ▸ hall e he hb)
      · cases hl : L.getD j false with
        | true => exact hfalse hun (hon ▸ inv.closed j oj hoj hl e he hb)
        | false => exact ih (t - j) (by omega) j rfl (by omega) (by omega) (hlst (by rw [inv.size]; omega) hl) t (Nat.le_refl _) hr
    · have h1 := List.all_eq_true.1 hc t (List.mem_range.2 htlt)
      simp only [Bool.or_eq_true, decide_eq_true_eq] at h1
      rcases h1 with h1 | h1
      · omega
      · obtain ⟨o', ho', e, he, hb, hon⟩ := Region.waitsFor_spec h1
        obtain rfl : o' = ot := Option.some.inj (ho'.symm.trans hot)
        exact hfalse (inv.tail (t - 1) (by omega) (by omega)) (hon ▸ hall e he hb)
theorem HeadQ.first {n k i : Nat} {oi : Oper} {v : Value} {L : Array Bool → Act → Prop} (hi : ops[i]? = some oi) (hsel : Region.noSelect ops = true) (hs : sinkFrom md ops n k = true) (hc : Region.chainB md ops n = true) (hn : n < ops.size)
    (hki : k ≤ i) (hin : i < n) (hdone : ∀ l a, L l a → ∀ j ∈ Region.ready md ops l, n ≤ j) :
    ∀ (f : Nat) (l : Array Bool) (a : Act), HeadInv md ops n l →
      (∀ (j : Nat) (oj : Oper), ops[j]? = some oj → j ≠ i → l.getD j true = false → (∀ e ∈ oj.after, Region.binds md e = true → e.on ≠ i) → oi.apart ops oj = true) →
      i ∈ Region.ready md ops l → YieldsIn P ops C oi v a → HeadQ P md ops C n L f (l.setIfInBounds i true) (a.put oi.dst v) → HeadQ P md ops C n L (f + 1) l a := by
  have hlow : ∀ (l : Array Bool), HeadInv md ops n l → i ∈ Region.ready md ops l → ∀ j ∈ Region.ready md ops l, j < n := fun l inv hr j hj => by
    rcases Nat.lt_or_ge j n with h | h
    · exact h
    · exact absurd hj (waits_from hs hc hn inv _ i rfl hki hin (mem_ready.1 hr).1 j h)
  intro f
  induction f with
  | zero =>
    intro l a inv _ hr hy H
    refine ⟨fun h => by rw [h] at hr; (cases hr), fun j hj => ⟨hlow l inv hr j hj, ?_⟩⟩
    by_cases hji : j = i
    · subst hji; exact hy.qOp hi H
    · have h1 := hdone _ _ H j (ready_mono hj hji)
      have h2 := hlow l inv hr j hj
      omega
  | succ f ih =>
    intro l a inv hfree hr hy H
    refine ⟨fun h => by rw [h] at hr; (cases hr), fun j hj => ⟨hlow l inv hr j hj, ?_⟩⟩
    by_cases hji : j = i
    · subst hji; exact hy.qOp hi H
    · have h1 := (H.2 j (ready_mono hj hji)).2
      have hjl := hlow l inv hr j hj
      obtain ⟨hjun, oj, hoj, hall⟩ := mem_ready.1 hj
      have hno : ∀ e ∈ oj.after, Region.binds md e = true → e.on ≠ i := fun e he hb heq => by
        have q := hall e he hb
        rw [heq] at q
        exact getD_listed q (mem_ready.1 hr).1
      have h2 := qOp_put hoj (hfree j oj hoj hji hjun hno) (fun cs b => Region.noSelect_spec hsel i oi cs b hi) (fun cs b => Region.noSelect_spec hsel j oj cs b hoj) hy h1
      refine qOp_mono (fun a' h3 => ih (l.setIfInBounds j true) a' (inv.set hj hjl) (fun k ok hk hki hun hnok => ?_) (ready_mono hr (Ne.symm hji)) h3.1 ?_) h2
      · by_cases hjk : j = k
        · subst hjk; exact hfree _ _ hk hki hjun hnok
        · rw [getD_set_ne true hjk] at hun; exact hfree k ok hk hki hun hnok
      · rw [Array.setIfInBounds_comm _ _ hji]; exact h3.2
theorem HeadQ.lex {n g q : Nat} {Lq : Act → Prop} (hsel : Region.noSelect ops = true) (hs : sinkFrom md ops n q = true) (hc : Region.chainB md ops n = true) (hn : n < ops.size) :
    ∀ (l : List Oper) (k : Nat) (L : Array Bool) (a : Act), q ≤ k → (∀ j, j < l.length → l[j]? = ops[k + j]?) → k + l.length = n → HeadInv md ops n L →
    Region.lexHead md ops g l.length k L = true → wpQuiet P ops C Lq l a →
    HeadQ P md ops C n (fun L' a' => Region.seqB md ops g n L' = true ∧ Lq a') l.length L a
  | [], k, L, a, _, _, hk, _, hB, h => by
    have e : k = n := by simpa using hk
    subst e
    exact ⟨by simpa [Region.lexHead] using hB, h⟩
  | o :: l, k, L, a, hqk, hl, hk, inv, hB, h => by
    have h0 : ops[k]? = some o := by simpa using (hl 0 (by simp)).symm
    simp only [List.length_cons, Region.lexHead, Bool.and_eq_true] at hB
    obtain ⟨⟨hr, hf⟩, hB'⟩ := hB
    have hkn : k < n := by simp only [List.length_cons] at hk; omega
    have hr' : k ∈ Region.ready md ops L := by simpa using hr
    have hst : qOp P ops C k (wpQuiet P ops C Lq l) a := by unfold qOp; simp only [h0]; exact h
    obtain ⟨v, hy, hK⟩ := yieldsIn_of_qOp h0 hst
    exact HeadQ.first h0 hsel hs hc hn hqk hkn (fun L' a' hL => seqB_ready hL.1) l.length L a inv (Region.free_spec h0 hf) hr' hy
      (HeadQ.lex hsel hs hc hn l (k + 1) _ _ (by omega) (fun j hj => by have := hl (j + 1) (by simp; omega); simpa [Nat.add_assoc, Nat.add_comm 1 j] using this) (by simp only [List.length_cons] at hk; omega) (inv.set hr' hkn) hB' hK)
/-- The conditions on a region with q operations taken first, the others below n quiet, and a tail. -/
def tailB (md : Region.Mode) (ops : Array Oper) (n q : Nat) (L : Array Bool) : Bool :=
  Region.noSelect ops && decide (n < ops.size) && sinkFrom md ops n q && Region.chainB md ops n && Region.lexHead md ops (ops.size - n) (n - q) q L
/-- A drawn region: its first n operations quiet in the class, the others behind them in the order of the text. -/
theorem any_quiet_tail {Q : Exit → Act → World → Prop} {a : Act} {w : World} {l : List Oper} (n q : Nat) (L : Array Bool) (hqn : q ≤ n) (inv0 : HeadInv .any l.toArray n L) (hB : tailB .any l.toArray n q L = true) (hC : C w)
    (h : wpQuiet P l.toArray C (fun a' => ∀ w', C w' → wpList P l.toArray Q (l.drop n) a' w') ((l.take n).drop q) a) : wpAny P .any l.toArray Q (l.toArray.size - q) L a w := by
  simp only [tailB, Bool.and_eq_true, decide_eq_true_eq] at hB
  obtain ⟨⟨⟨⟨hsel, hn⟩, hs⟩, hc⟩, hlex⟩ := hB
  have hn' : n < l.length := by simpa using hn
  have htl : ((l.take n).drop q).length = n - q := by simp; omega
  have hdl : (l.drop n).length = l.toArray.size - n := by simp
  have H := HeadQ.lex (md := .any) (g := l.toArray.size - n) hsel hs hc hn ((l.take n).drop q) q L a (Nat.le_refl _) (fun j hj => by
    have hj' : j < n - q := by rw [htl] at hj; exact hj
    rw [List.getElem?_drop, List.getElem?_take_of_lt (by omega)]
    simp) (by rw [htl]; omega) inv0 (by rw [htl]; exact hlex) h
  have := HeadQ.any (Q := Q) (g := l.toArray.size - n) (fun L a' w' hw' hL => by
    have := wpAny_of_seq (md := .any) (Q' := Q) (l.drop n) n L a' w' (fun j => by simp [List.getElem?_drop]) (by rw [hdl]; exact hL.1) (hL.2 w' hw')
    rwa [hdl] at this) _ _ _ _ hC H
  rw [htl, show n - q + (l.toArray.size - n) = l.toArray.size - q by simp; omega] at this
  exact this
theorem inv_none (md : Region.Mode) (ops : Array Oper) (n : Nat) : HeadInv md ops n (Array.replicate ops.size false) :=
  ⟨by simp, fun j oj _ hl => by rw [getD_replicate_false] at hl; (cases hl), fun t _ ht => getD_in (by simpa using ht) (getD_replicate_false _ _)⟩
theorem wp_quiet_tail {id : Nat} {Q : Exit → Act → World → Prop} {a : Act} {w : World} {l : List Oper} (n : Nat) (hm : P.follows .mixedOrders = true) (hB : tailB .any l.toArray n 0 (Array.replicate l.toArray.size false) = true) (hC : C w.drew)
    (h : wpQuiet P l.toArray C (fun a' => ∀ w', C w' → wpList P l.toArray Q (l.drop n) a' w') (l.take n) a) : (Code.region id l.toArray true).wp P Q a w :=
  wp_region_any hm (any_quiet_tail n 0 _ (Nat.zero_le _) (inv_none _ _ _) hB hC (by simpa using h))
/-- .. the first one a copy: it may come late, but is taken first. -/
theorem wp_quiet_tail1 {id : Nat} {Q : Exit → Act → World → Prop} {a : Act} {w : World} {o : Oper} {l : List Oper} (x : Operand) (n : Nat) (ho : o.op = .move x) (hg : o.guard = none) (hm : P.follows .mixedOrders = true) (h1n : 1 ≤ n)
    (hf : (Region.free .any (o :: l).toArray (Array.replicate (o :: l).toArray.size false) 0 && (Region.ready .any (o :: l).toArray (Array.replicate (o :: l).toArray.size false)).contains 0 && o.after.isEmpty) = true)
    (hB : tailB .any (o :: l).toArray n 1 ((Array.replicate (o :: l).toArray.size false).setIfInBounds 0 true) = true) (hQ : ∀ c a w, Q (.panic c) (a.put o.dst v) w → Q (.panic c) a w) (hC : C w.drew) (hv : a.eval x = v)
    (h : wpQuiet P (o :: l).toArray C (fun a' => ∀ w', C w' → wpList P (o :: l).toArray Q ((o :: l).drop n) a' w') (((o :: l).take n).drop 1) (a.put o.dst v)) : (Code.region id (o :: l).toArray true).wp P Q a w := by
  simp only [Bool.and_eq_true] at hf
  obtain ⟨⟨hf1, hf2⟩, hf3⟩ := hf
  have hsel : Region.noSelect (o :: l).toArray = true := by
    simp only [tailB, Bool.and_eq_true] at hB
    exact hB.1.1.1.1
  refine wp_region_any hm ?_
  have hsz : (o :: l).toArray.size = ((o :: l).toArray.size - 1) + 1 := by simp
  have hi : (o :: l).toArray[0]? = some o := by simp
  have hy : Yields P (o :: l).toArray o v a := .inl ⟨by unfold Region.wanted; rw [hg], fun w => by
    rw [BigFrame.run_move x ho, hv]⟩
  have hinv : HeadInv .any (o :: l).toArray n ((Array.replicate (o :: l).toArray.size false).setIfInBounds 0 true) := by
    have h0 := inv_none .any (o :: l).toArray n
    refine ⟨by simp, fun j oj hj hl e he hb => ?_, fun t ht ht' => by rw [getD_set_ne true (by omega)]; exact h0.tail t ht ht'⟩
    by_cases h0j : 0 = j
    · subst h0j
      obtain rfl : o = oj := Option.some.inj (hi.symm.trans hj)
      rw [Array.isEmpty_iff] at hf3
      rw [hf3] at he
      simp at he
    · rw [getD_set_ne false h0j, getD_replicate_false] at hl; cases hl
  have hrest := any_quiet_tail (Q := Q) n 1 _ h1n hinv hB hC h
  have := wpAny_take (P := P) hi hsel hf1 hf2 hQ hy hrest
  rw [hsz]
  exact this
/-- .. the class: old memory as it is. -/
theorem wp_jtail {id : Nat} {Q : Exit → Act → World → Prop} {a : Act} {w : World} {l : List Oper} (n : Nat) (hm : P.follows .mixedOrders = true) (hB : tailB .any l.toArray n 0 (Array.replicate l.toArray.size false) = true)
    (h : wpQuiet P l.toArray (fun w' => ∃ X, w' = w.junk X) (fun a' => ∀ w', (∃ X, w' = w.junk X) → wpList P l.toArray Q (l.drop n) a' w') (l.take n) a) : (Code.region id l.toArray true).wp P Q a w :=
  wp_quiet_tail n hm hB (below_some (RowKit.Below.refl _ w).drew) h
/-- .. with a copy ahead. -/
theorem wp_jtail1 {id : Nat} {Q : Exit → Act → World → Prop} {a : Act} {w : World} {o : Oper} {l : List Oper} (x : Operand) (n : Nat) (ho : o.op = .move x) (hg : o.guard = none) (hm : P.follows .mixedOrders = true) (h1n : 1 ≤ n)
    (hf : (Region.free .any (o :: l).toArray (Array.replicate (o :: l).toArray.size false) 0 && (Region.ready .any (o :: l).toArray (Array.replicate (o :: l).toArray.size false)).contains 0 && o.after.isEmpty) = true)
    (hB : tailB .any (o :: l).toArray n 1 ((Array.replicate (o :: l).toArray.size false).setIfInBounds 0 true) = true) (hQ : ∀ c a w, Q (.panic c) (a.put o.dst v) w → Q (.panic c) a w) (hv : a.eval x = v)
    (h : wpQuiet P (o :: l).toArray (fun w' => ∃ X, w' = w.junk X) (fun a' => ∀ w', (∃ X, w' = w.junk X) → wpList P (o :: l).toArray Q ((o :: l).drop n) a' w') (((o :: l).take n).drop 1) (a.put o.dst v)) : (Code.region id (o :: l).toArray true).wp P Q a w :=
  wp_quiet_tail1 x n ho hg hm h1n hf hB hQ (below_some (RowKit.Below.refl _ w).drew) hv h
/-- .. with no tail. -/
theorem wp_jregion {id : Nat} {Q : Exit → Act → World → Prop} {a : Act} {w : World} {l : List Oper} (hm : P.follows .mixedOrders = true) (hB : Region.lexB .any l.toArray = true)
    (h : wpQuiet P l.toArray (fun w' => ∃ X, w' = w.junk X) (fun a' => ∀ w', (∃ X, w' = w.junk X) → Q .normal a' w') l a) : (Code.region id l.toArray true).wp P Q a w :=
  wp_region_quiet (C := fun w' => ∃ X, w' = w.junk X) hm hB (below_some (RowKit.Below.refl _ w).drew) (by simpa using h)
end
end Go.Vi
namespace Go.Vi
open Go Go.RowKit
theorem obj_junk {W X : World} {b : Nat} {o : Obj} (h : W.heap[b]? = some o) : (W.junk X).heap[b]? = some o := keepObj (junk_below W X) h
theorem ap2 {P : Program} {ops : Array Oper} {rest : List Oper} {o : Oper} {a : Act} {Q : Exit → Act → World → Prop} {w : World} (hgd : o.guard = none) (s x : Operand) (t : TypeId)
    (ho : o.op = .call { callee := .builtin .append, args := #[s, x], argTypes := #[t, t] })
    {e : TypeId} {i : TypeInfo} {z : Value} {size bytes : Nat} (ht : P.underlying t = some (.slice e)) (hi : P.info? e = some i) (hz : i.zero = some z) (hsize : i.size = size) (hby : i.bytes = bytes) (hzs : z.cells.size = size) (hsz : 0 < size)
    {α : Type} {cs : α → List Value} (hcs : ∀ y, (cs y).length = size) {base : Nat} {v : Value} {L : List α} (own : Ow base w e size v (L.map cs)) (hs : a.eval s = v) (y : α) (b : Nat) (hx : a.eval x = .slice (some ⟨b, 0, none⟩) 1 1)
    (hb : w.heap[b]? = some (.cells (cs y).toArray e (0, 0))) (h1 : ∀ u ∈ cs y, u.oneCell' = true) (hL : L.length < 1000000) (hbytes : bytes ≤ 1000) (hbase : base ≤ w.heap.size)
    (h : ∀ g cap w', Ow base w' e size (.slice (some ⟨g, 0, none⟩) (L.length + 1) cap) ((L ++ [y]).map cs) → Below base w w' → w.grownBy w' v.ownBlock → base ≤ g → g < w'.heap.size → L.length + 1 ≤ cap → cap ≤ maxLen → wpList P ops Q rest (a.put o.dst (.slice (some ⟨g, 0, none⟩) (L.length + 1) cap)) w') :
    wpList P ops Q (o :: rest) a w := by
  refine wpList_append_lies _ hgd s x t ho base e i z size bytes ht hi hz hsize hby hzs hsz v (L.map cs).length (L.map cs).flatten hs own.1 ⟨b, 0, none⟩ 1 1 (cs y) hx (by rw [hcs]; omega) (by have := World.news_of_block hb; simpa using this) h1 (by omega) ?_ ?_ hbase _ rfl ?_
  · rw [List.length_map]; unfold maxLen; omega
  · rw [List.length_map]
    have h2 : (L.length + 1) * bytes ≤ 1000000 * 1000 := Nat.mul_le_mul (by omega) hbytes
    omega
  · intro g cap w' hown hgrow hat hlt
    have hR : ∀ r ∈ L.map cs, r.length = size := own.2
    have o2 : Ow base w' e size (.slice (some ⟨g, 0, none⟩) (L.length + 1) cap) ((L ++ [y]).map cs) := by
      rw [List.length_map] at hown
      refine ⟨?_, fun r hr => by obtain ⟨q, _, rfl⟩ := List.mem_map.1 hr; exact hcs q⟩
      rw [List.map_append, List.length_append, List.flatten_append]
      simpa using hown
    have hbl : Below base w w' := (Below.refl _ _).grown hgrow hbase (fun k hk => (own.blk k hk).1)
    have hs := o2.shape
    rw [List.length_map]
    rcases hs with ⟨e1, _⟩ | ⟨g', cap', e1, hg, _⟩
    · cases e1
    · injection e1 with e2 e3 e4
      injection e2 with e2
      injection e2 with e2
      subst e2
      obtain ⟨a3, n3, c3, q1, q2, q3, q4⟩ := o2.sl.open
      injection q1 with q5 q6 q7
      subst q7
      rw [List.length_map, List.length_append] at q2
      exact h g cap w' o2 hbl hgrow hg hlt (by simp at q2; omega) q4
/-- A block of another type than the row appended to is as it was. -/
theorem keepBlk {B k b : Nat} {e T : TypeId} {w w' : World} {v : Value} {A : List (List Value)} {cs : Array Value} {fr : Nat × Nat} (ho : Ow B w e k v A) (hg : w.grownBy w' v.ownBlock) (hb : w.heap[b]? = some (.cells cs T fr)) (hne : T ≠ e) : w'.heap[b]? = some (.cells cs T fr) := by
  rw [hg.block b (obj_lt hb) (fun h => hne (ho.type b h.symm _ _ _ hb)), hb]
theorem ap1 {P : Program} {ops : Array Oper} {rest : List Oper} {o : Oper} {a : Act} {Q : Exit → Act → World → Prop} {w : World} (hgd : o.guard = none) (s x : Operand) (t : TypeId)
    (ho : o.op = .call { callee := .builtin .append, args := #[s, x], argTypes := #[t, t] })
    {e : TypeId} {i : TypeInfo} {z : Value} {size bytes : Nat} (ht : P.underlying t = some (.slice e)) (hi : P.info? e = some i) (hz : i.zero = some z) (hsize : i.size = size) (hby : i.bytes = bytes) (hzs : z.cells.size = size) (hsz : 0 < size)
    {α : Type} {cs : α → List Value} (hcs : ∀ y, (cs y).length = size) {base : Nat} {v : Value} {L : List α} (own : Ow base w e size v (L.map cs)) (hs : a.eval s = v) (y : α) (b : Nat) (hx : a.eval x = .slice (some ⟨b, 0, none⟩) 1 1)
    (hb : w.heap[b]? = some (.cells (cs y).toArray e (0, 0))) (h1 : ∀ u ∈ cs y, u.oneCell' = true) (hL : L.length < 1000000) (hbytes : bytes ≤ 1000) (hbase : base ≤ w.heap.size)
    (h : ∀ g cap w', Ow base w' e size (.slice (some ⟨g, 0, none⟩) (L.length + 1) cap) ((L ++ [y]).map cs) → Below base w w' → base ≤ g → g < w'.heap.size → L.length + 1 ≤ cap → cap ≤ maxLen → wpList P ops Q rest (a.put o.dst (.slice (some ⟨g, 0, none⟩) (L.length + 1) cap)) w') :
    wpList P ops Q (o :: rest) a w :=
  ap2 hgd s x t ho ht hi hz hsize hby hzs hsz hcs own hs y b hx hb h1 hL hbytes hbase fun g cap w' q1 q2 _ q3 q4 q5 q6 => h g cap w' q1 q2 q3 q4 q5 q6
end Go.Vi
namespace Go.Vi
open Go Go.RowKit
/-- The cells of block b, if they are n and free. -/
def rowN (n : Nat) (w : World) (b : Nat) : Option (Array Value) := match w.heap[b]? with
  | some (.cells c _ fr) => if c.size = n ∧ fr = (0, 0) then some c else none
  | _ => none
theorem rowN_alloc_at (n : Nat) (W : World) (c : Array Value) (t : TypeId) (b : Nat) (h : b = W.heap.size) (hs : c.size = n) : rowN n (W.alloc (.cells c t)) b = some c := by
  subst h
  unfold rowN
  rw [obj_last]
  simp [hs]
theorem rowN_alloc (n : Nat) (W : World) (O : Obj) (b : Nat) [h : Lo b W] : rowN n (W.alloc O) b = rowN n W b := by
  unfold rowN
  rw [Below.heap_alloc W O b h.lt]
theorem rowN_junk (n : Nat) (W X : World) (b : Nat) [h : Lo b W] : rowN n (W.junk X) b = rowN n W b := by
  unfold rowN
  rw [junk_heap W X b h.lt]
theorem rowN_drew (n : Nat) (W : World) (b : Nat) : rowN n W.drew b = rowN n W b := rfl
theorem rowN_drewN (n k : Nat) (W : World) (b : Nat) : rowN n (W.drewN k) b = rowN n W b := rfl
def setRow (w : World) (b : Nat) (c : Array Value) : World := { w with heap := w.heap.modify b fun | .cells _ t fr => .cells c t fr | o => o }
theorem world_ext {A B : World} (h1 : A.heap = B.heap) (h2 : A.os = B.os) (h3 : A.tape = B.tape) (h4 : A.output = B.output) (h5 : A.drawn = B.drawn) : A = B := by
  cases A; cases B; simp only at h1 h2 h3 h4 h5; subst h1 h2 h3 h4 h5; rfl
theorem setRow_alloc_at (W : World) (c c' : Array Value) (t : TypeId) (b : Nat) (h : b = W.heap.size) : setRow (W.alloc (.cells c t)) b c' = W.alloc (.cells c' t) := by
  subst h
  refine world_ext ?_ rfl rfl rfl rfl
  unfold setRow World.alloc
  apply Array.ext_getElem?
  intro k
  simp only [Array.getElem?_modify, Array.getElem?_push]
  by_cases hk : k = W.heap.size
  · subst hk; simp
  · simp [hk, Ne.symm hk]
theorem setRow_alloc (W : World) (O : Obj) (c : Array Value) (b : Nat) [h : Lo b W] : setRow (W.alloc O) b c = (setRow W b c).alloc O := by
  refine world_ext ?_ rfl rfl rfl rfl
  have := h.lt
  unfold setRow World.alloc
  apply Array.ext_getElem?
  intro k
  simp only [Array.getElem?_modify, Array.getElem?_push, Array.size_modify]
  by_cases hk : k = W.heap.size
  · subst hk; simp [Nat.ne_of_lt this]
  · simp [hk]
theorem setRow_junk (W X : World) (c : Array Value) (b : Nat) [h : Lo b W] : setRow (W.junk X) b c = (setRow W b c).junk X := by
  refine world_ext ?_ rfl rfl rfl rfl
  have := h.lt
  simp only [World.junk, setRow]
  apply Array.ext_getElem?
  intro k
  simp only [Array.getElem?_modify, Array.getElem?_append, Array.size_modify]
  by_cases hk : b = k
  · subst hk; simp [this]
  · simp [hk]
theorem setRow_drew (W : World) (b : Nat) (c : Array Value) : setRow W.drew b c = (setRow W b c).drew := rfl
instance Lo.setRow {n b : Nat} {W : World} {c : Array Value} [h : Lo n W] : Lo n (setRow W b c) := ⟨by have := h.lt; simp only [Go.Vi.setRow, Array.size_modify]; exact this⟩
def putCs : Array Value → Nat → List Value → Array Value
  | c, _, [] => c
  | c, o, v :: r => putCs (c.setIfInBounds o v) (o + 1) r
theorem putCs_size : ∀ (vs : List Value) (c : Array Value) (o : Nat), (putCs c o vs).size = c.size
  | [], _, _ => rfl
  | v :: r, c, o => by rw [putCs, putCs_size r]; simp
theorem putCs_get : ∀ (vs : List Value) (c : Array Value) (o j : Nat), o + vs.length ≤ c.size → (putCs c o vs)[j]? = if o ≤ j ∧ j < o + vs.length then vs[j - o]? else c[j]?
  | [], c, o, j, _ => by rw [if_neg (by simp only [List.length_nil]; omega)]; rfl
  | v :: r, c, o, j, h => by
    simp only [List.length_cons] at h
    rw [putCs, putCs_get r (c.setIfInBounds o v) (o + 1) j (by simp; omega)]
    simp only [List.length_cons]
    by_cases h1 : o + 1 ≤ j ∧ j < o + 1 + r.length
    · rw [if_pos h1, if_pos (by omega)]
      have e : j - o = (j - (o + 1)) + 1 := by omega
      rw [e]; rfl
    · rw [if_neg h1]
      by_cases h2 : j = o
      · subst h2
        rw [if_pos (by omega), Nat.sub_self, Array.getElem?_setIfInBounds]
        rw [if_pos rfl, if_pos (by omega)]
        rfl
      · rw [if_neg (by omega), Array.getElem?_setIfInBounds_ne (Ne.symm h2)]
theorem setCells_heap : ∀ (vs : List Value) (w : World) (b o : Nat), w.setCells b o vs = { w with heap := w.heap.modify b fun | .cells c t fr => .cells (putCs c o vs) t fr | o => o }
  | [], w, b, o => by
    refine world_ext ?_ rfl rfl rfl rfl
    simp only [World.setCells]
    apply Array.ext_getElem?
    intro k
    rw [Array.getElem?_modify]
    by_cases hk : b = k
    · subst hk
      simp only [if_true]
      cases w.heap[b]? with
      | none => rfl
      | some x => cases x <;> rfl
    · simp [hk]
  | v :: r, w, b, o => by
    rw [World.setCells, setCells_heap r]
    refine world_ext ?_ rfl rfl rfl rfl
    simp only [World.setCell]
    apply Array.ext_getElem?
    intro k
    simp only [Array.getElem?_modify]
    by_cases hk : b = k
    · subst hk
      simp only [if_true]
      cases w.heap[b]? with
      | none => rfl
      | some x => cases x <;> simp [putCs]
    · simp [hk]
theorem setCells_row {n : Nat} {w : World} {b : Nat} {c : Array Value} (h : (rowN n w b).isSome = true) (hc : c.size = n) : w.setCells b 0 c.toList = setRow w b c := by
  rw [setCells_heap]
  refine world_ext ?_ rfl rfl rfl rfl
  simp only [setRow]
  apply Array.ext_getElem?
  intro k
  simp only [Array.getElem?_modify]
  by_cases hk : b = k
  · subst hk
    simp only [if_true]
    unfold rowN at h
    cases hx : w.heap[b]? with
    | none => rfl
    | some x =>
      rw [hx] at h
      cases x with
      | cells d t fr =>
        simp only at h
        split at h
        · rename_i hd
          simp only [Option.map_some, Option.some.injEq, Obj.cells.injEq, and_true]
          apply Array.ext_getElem?
          intro j
          rw [putCs_get _ _ _ _ (by simp; omega)]
          simp only [Nat.zero_le, true_and, Nat.zero_add, Nat.sub_zero, Array.length_toList]
          by_cases hj : j < c.size
          · rw [if_pos hj]; simp
          · rw [if_neg hj, Array.getElem?_eq_none (by omega), Array.getElem?_eq_none (by omega)]
        · simp at h
      | _ => simp at h
  · simp [hk]
theorem rowN_cells {n : Nat} {w : World} {b : Nat} {c : Array Value} (h : rowN n w b = some c) : c.size = n ∧ ∃ t, w.heap[b]? = some (.cells c t (0, 0)) := by
  unfold rowN at h
  cases hx : w.heap[b]? with
  | none => rw [hx] at h; simp at h
  | some x =>
    rw [hx] at h
    cases x with
    | cells d t fr =>
      simp only at h
      split at h
      · rename_i hd
        injection h with h
        subst h
        obtain ⟨h1, h2⟩ := hd
        subst h2
        exact ⟨h1, t, rfl⟩
      · simp at h
    | _ => simp at h
theorem loadVar_row {P : Program} {n : Nat} {ty : TypeId} {d : TypeDesc} (hu : P.underlying ty = some d) (hd : d.isRow = true) (hi : (P.info? ty).map (·.size) = some n) (w : World) (b : Nat) (h : (rowN n w b).isSome = true) :
    (loadVar ty ⟨b, 0, none⟩).run P w = .ok (.agg ((rowN n w b).getD #[])) w := by
  obtain ⟨c, hc⟩ := Option.isSome_iff_exists.1 h
  obtain ⟨h1, t, h2⟩ := rowN_cells hc
  rw [hc]
  have := run_loadVar_mid (P := P) w b 0 ty c.toList d (fun j v hj => by
    rw [Nat.zero_add, cell_of_row w b j c t (0, 0) h2]; simpa using hj) hu hd (by simpa [h1] using hi)
  simpa using this
theorem loadVar_is {P : Program} {n : Nat} {ty : TypeId} {d : TypeDesc} (hu : P.underlying ty = some d) (hd : d.isRow = true) (hi : (P.info? ty).map (·.size) = some n) {w : World} {b : Nat} {c : Array Value} (h : rowN n w b = some c) : (loadVar ty ⟨b, 0, none⟩).run P w = .ok (.agg c) w := by
  have := loadVar_row (P := P) hu hd hi w b (by rw [h]; rfl)
  rw [h] at this
  exact this
theorem storeVar_row {P : Program} {n : Nat} {ty : TypeId} (hi : (P.info? ty).map (·.size) = some n) (w : World) (b : Nat) (c : Array Value) (h : (rowN n w b).isSome = true) (hc : c.size = n) (h1 : c.all (·.oneCell') = true) :
    (storeVar ty ⟨b, 0, none⟩ (.agg c)).run P w = .ok () (setRow w b c) := by
  obtain ⟨d, hd⟩ := Option.isSome_iff_exists.1 h
  obtain ⟨g1, t, g2⟩ := rowN_cells hd
  rw [run_storeVar_mid w b 0 ty c (fun j hj => ⟨by rw [Nat.zero_add, cell_of_row w b j d t (0, 0) g2]; simp; omega, by rw [Nat.zero_add]; exact obj_free g2 j⟩) (by rw [hc]; exact hi) h1, setCells_row h hc]
theorem rowN_setRow {n : Nat} {W : World} {b : Nat} {c : Array Value} (h : (rowN n W b).isSome = true) (hc : c.size = n) : rowN n (setRow W b c) b = some c := by
  obtain ⟨d, hd⟩ := Option.isSome_iff_exists.1 h
  obtain ⟨g1, t, g2⟩ := rowN_cells hd
  unfold rowN setRow
  simp [Array.getElem?_modify, g2, hc]
theorem below_setRow {B b : Nat} {a W : World} {c : Array Value} (h : Below B a W) (hb : B ≤ b) : Below B a (setRow W b c) :=
  h.trans ⟨rfl, rfl, rfl, by simp [setRow], fun k hk => by
    simp only [setRow, Array.getElem?_modify]
    rw [if_neg (by omega)]⟩
theorem res_row_tmp {P : Program} {fn : Func} {a t : Tmp} {T : TypeId} (h : fn.results = #[.cell a T, .tmp t]) (tmps : Array Value) (b : Nat) (hp : tmps.getD a undef = .pointer (some ⟨b, 0, none⟩)) (v : Value) (w : World) (hl : (loadVar T ⟨b, 0, none⟩).run P w = .ok v w) :
    (results fn tmps).run P w = .ok (.tuple #[v, tmps.getD t undef]) w := by
  simp only [Array.getD_eq_getD_getElem?] at hp
  simp [results, h, hp, hl, asAddr]
section
variable {P : Program} {ops : Array Oper} {rest : List Oper} {op : Oper} {a : Act} {w : World} {Q : Exit → Act → World → Prop} {n : Nat} {ty : TypeId} {d : TypeDesc}
theorem wl_of (hw : Region.wanted op (yielded ops a.tmps) = true) (h : op.wp P a w (wpList P ops Q rest) Q) : wpList P ops Q (op :: rest) a w := by
  rw [wpList, if_pos hw]; exact .inl h
/-- A whole row is read. -/
theorem wl_load (hw : Region.wanted op (yielded ops a.tmps) = true) (x : Operand) (ho : op.op = .load ty x) (hu : P.underlying ty = some d) (hd : d.isRow = true) (hi : (P.info? ty).map (·.size) = some n) (b : Nat) (hx : a.eval x = .pointer (some ⟨b, 0, none⟩)) (c : Array Value) (hr : rowN n w b = some c)
    (h : wpList P ops Q rest (a.put op.dst (.agg c)) w) : wpList P ops Q (op :: rest) a w := by
  refine wl_of hw ?_
  have := loadVar_row (P := P) hu hd hi w b (by rw [hr]; rfl)
  rw [hr] at this
  unfold Oper.wp execOp
  simp only [ho, hx, Instr.loadAt, Instr.sureAddr, Sem.run_bind, Sem.run_pure, Result.andThen_ok, this]
  exact h
/-- .. out of the middle of old memory. -/
theorem wl_mid (hw : Region.wanted op (yielded ops a.tmps) = true) (x : Operand) (ho : op.op = .load ty x) (b o : Nat) (hx : a.eval x = .pointer (some ⟨b, o, none⟩)) (v : Value) (hl : (loadVar ty ⟨b, o, none⟩).run P w = .ok v w)
    (h : wpList P ops Q rest (a.put op.dst v) w) : wpList P ops Q (op :: rest) a w := by
  refine wl_of hw ?_
  unfold Oper.wp execOp
  simp only [ho, hx, Instr.loadAt, Instr.sureAddr, Sem.run_bind, Sem.run_pure, Result.andThen_ok, hl]
  exact h
/-- A whole row is written. -/
theorem wl_store (hw : Region.wanted op (yielded ops a.tmps) = true) (x y : Operand) (ho : op.op = .store ty x y) (hi : (P.info? ty).map (·.size) = some n) (b : Nat) (hx : a.eval x = .pointer (some ⟨b, 0, none⟩)) (c : Array Value) (hy : a.eval y = .agg c) (hr : (rowN n w b).isSome = true) (hc : c.size = n) (h1 : c.all (·.oneCell') = true)
    (h : wpList P ops Q rest (a.put op.dst undef) (setRow w b c)) : wpList P ops Q (op :: rest) a w := by
  refine wl_of hw ?_
  have := storeVar_row (P := P) hi w b c hr hc h1
  unfold Oper.wp execOp
  simp only [ho, hx, hy, Instr.storeAt, Instr.sureAddr, Sem.run_bind, Sem.run_pure, Result.andThen_ok, this]
  exact h
end
end Go.Vi
