/-
 The kinds of facts in a flow: a value, a function of other values, an owned slice, an owned box.
-/
import Derived.Test.YtcelpkbmcmnogaaGreatDoorFlwA
set_option linter.unusedSimpArgs false
set_option linter.unusedVariables false
namespace Go.Vi
open Go Go.RowKit
inductive FK where
 | val (v : Value)
 | fn (c : (Nat → Value) → Value)
 | own (e k : Nat) (R : List (List Value))
 | box (T : TypeId) (p : Nat) (cs : (Nat → Value) → Array Value)
 | rel (R : (Nat → Value) → Prop)
 | pair (e1 k1 : Nat) (R1 : List (List Value)) (e2 k2 : Nat) (R2 : List (List Value))
 | ptr (e k : Nat) (R : List (List Value)) (off : Nat)
 | sub (F : Value → Value) (e k : Nat) (R : List (List Value))
 | none_
def fkΦ (B : Nat) (ks : List FK) (i : Nat) (f : Nat → Value) (w : World) (S : Nat → Prop) : Prop :=
 match ks[i]? with
 | some (.val v) => f i = v
 | some (.fn c) => f i = c f
 | some (.own e k R) => ∃ g cap, f i = .slice (some ⟨g, 0, none⟩) R.length cap ∧ S g ∧ Ow B w e k (.slice (some ⟨g, 0, none⟩) R.length cap) R
 | some (.box T p cs) => ∃ b, f p = .pointer (some ⟨b, 0, none⟩) ∧ S b ∧ B ≤ b ∧ w.heap[b]? = some (.cells (cs f) T (0, 0))
 | some (.rel R) => R f
 | some (.pair e1 k1 R1 e2 k2 R2) => ∃ v1 v2, f i = .agg #[v1, v2] ∧ (∀ g, v1.ownBlock = some g → S g) ∧ (∀ g, v2.ownBlock = some g → S g) ∧ Ow B w e1 k1 v1 R1 ∧ Ow B w e2 k2 v2 R2
 | some (.ptr e k R off) => ∃ g cap, f i = .pointer (some ⟨g, off, none⟩) ∧ S g ∧ Ow B w e k (.slice (some ⟨g, 0, none⟩) R.length cap) R
 | some (.sub F e k R) => ∃ v, f i = F v ∧ (∀ g, v.ownBlock = some g → S g) ∧ Ow B w e k v R
 | _ => True
theorem ow_local {B e k : Nat} {w w' : World} {v : Value} {R : List (List Value)} (h : Ow B w e k v R) (hb : ∀ g, v.ownBlock = some g → w'.heap[g]? = w.heap[g]?) : Ow B w' e k v R := by
 obtain ⟨⟨h1, h2⟩, h3⟩ := h
 refine ⟨⟨h1, ?_⟩, h3⟩
 rcases h2 with h2 | ⟨g, cap, cur, q1, q2, q3, q4⟩
 ·exact .inl h2
 ·refine .inr ⟨g, cap, cur, q1, q2, ?_, q4⟩
  rw [hb g (by rw [q1]; rfl)]
  exact q3
/-- What the functions among the kinds look at. -/
def FkLoc (ks : List FK) (rd : List (Nat × List Nat)) : Prop := ∀ (i : Nat) (k : FK), ks[i]? = some k → match k with
 | .fn c => ∀ f f' : Nat → Value, (∀ j, j = i ∨ j ∈ usesOf rd i → f j = f' j) → c f = c f'
 | .box _ p cs => (p = i ∨ p ∈ usesOf rd i) ∧ ∀ f f' : Nat → Value, (∀ j, j = i ∨ j ∈ usesOf rd i → f j = f' j) → cs f = cs f'
 | .rel R => ∀ f f' : Nat → Value, (∀ j, j = i ∨ j ∈ usesOf rd i → f j = f' j) → R f → R f'
 | _ => True
theorem fk_loc {B : Nat} {ks : List FK} {rd : List (Nat × List Nat)} (hL : FkLoc ks rd) (i : Nat) (f f' : Nat → Value) (w w' : World) (S : Nat → Prop) (hf : ∀ j, j = i ∨ j ∈ usesOf rd i → f j = f' j) (hS : ∀ g, S g → w'.heap[g]? = w.heap[g]?) (h : fkΦ B ks i f w S) : fkΦ B ks i f' w' S := by
 unfold fkΦ at h ⊢
 have hi := hf i (.inl rfl)
 cases hk : ks[i]? with
 | none => trivial
 | some k =>
  rw [hk] at h
  have hl := hL i k hk
  cases k with
  | val v => simp only at h ⊢; rw [← hi]; exact h
  | fn c => simp only at h hl ⊢; rw [← hi, ← hl f f' hf]; exact h
  | own e k R =>
   simp only at h ⊢
   rw [← hi]
   obtain ⟨g, cap, q1, q2, q3⟩ := h
   exact ⟨g, cap, q1, q2, ow_local q3 (fun g' hg' => by injection hg' with hg'; subst hg'; exact hS g q2)⟩
  | box T p cs =>
   simp only at h hl ⊢
   obtain ⟨b, q1, q2, q3, q4⟩ := h
   refine ⟨b, ?_, q2, q3, ?_⟩
   ·rw [← hf p hl.1]; exact q1
   ·rw [hS b q2, ← hl.2 f f' hf]; exact q4
  | rel R => exact hl f f' hf h
  | pair e1 k1 R1 e2 k2 R2 =>
   simp only at h ⊢
   rw [← hi]
   obtain ⟨v1, v2, q1, q2, q3, q4, q5⟩ := h
   exact ⟨v1, v2, q1, q2, q3, ow_local q4 (fun g hg => hS g (q2 g hg)), ow_local q5 (fun g hg => hS g (q3 g hg))⟩
  | ptr e k R off =>
   simp only at h ⊢
   rw [← hi]
   obtain ⟨g, cap, q1, q2, q3⟩ := h
   exact ⟨g, cap, q1, q2, ow_local q3 (fun g' hg' => by injection hg' with hg'; subst hg'; exact hS g q2)⟩
  | sub F e k R =>
   simp only at h ⊢
   rw [← hi]
   obtain ⟨v, q1, q2, q3⟩ := h
   exact ⟨v, q1, q2, ow_local q3 (fun g hg => hS g (q2 g hg))⟩
  | none_ => trivial
section
variable {P : Program} {o : Oper} {ρ : Operand → Value} {B i : Nat} {ks : List FK} {us : List (Nat × List Nat)} {f : Nat → Value} {w w' : World} {S : Nat → Nat → Prop} {v : Value}
/-- The goal of a step. -/
def FlowK (B : Nat) (ks : List FK) (us : List (Nat × List Nat)) (i : Nat) (o : Oper) (f : Nat → Value) (w : World) (S : Nat → Nat → Prop) (v : Value) (w' : World) : Prop :=
 Ext (fun g => ∃ j ∈ usesOf us i, S j g) w w' ∧ ∃ T : Nat → Prop, (∀ g, T g → ((∃ j ∈ usesOf us i, S j g) ∨ w.heap.size ≤ g) ∧ g < w'.heap.size) ∧ ∀ f', (∀ k, k ≠ i → f' k = f k) → (o.dst.isSome = true → f' i = v) → fkΦ B ks i f' w' T
theorem fl_val (hk : ks[i]? = some (.val v)) (hd : o.dst.isSome = true) (h : (execOp ρ o).run P w = .ok (.value v) w) : FlowStep P ρ o w (FlowK B ks us i o f w S) :=
 FlowStep.val h ⟨Ext.refl _ _, fun _ => False, fun _ h => h.elim, fun f' _ hv => by unfold fkΦ; rw [hk]; exact hv hd⟩
theorem fl_fn {c : (Nat → Value) → Value} (hk : ks[i]? = some (.fn c)) (hd : o.dst.isSome = true) (hc : ∀ f', (∀ k, k ≠ i → f' k = f k) → c f' = c f) (h : (execOp ρ o).run P w = .ok (.value (c f)) w) : FlowStep P ρ o w (FlowK B ks us i o f w S) :=
 FlowStep.val h ⟨Ext.refl _ _, fun _ => False, fun _ h => h.elim, fun f' hf hv => by unfold fkΦ; rw [hk]; simp only; rw [hv hd, hc f' hf]⟩
theorem fl_own {e k g cap : Nat} {R : List (List Value)} (hk : ks[i]? = some (.own e k R)) (hd : o.dst.isSome = true) (h : (execOp ρ o).run P w = .ok (.value (.slice (some ⟨g, 0, none⟩) R.length cap)) w') (hE : Ext (fun g => ∃ j ∈ usesOf us i, S j g) w w') (hO : Ow B w' e k (.slice (some ⟨g, 0, none⟩) R.length cap) R) (hT : ((∃ j ∈ usesOf us i, S j g) ∨ w.heap.size ≤ g) ∧ g < w'.heap.size) : FlowStep P ρ o w (FlowK B ks us i o f w S) :=
 FlowStep.val h ⟨hE, fun g' => g' = g, fun g' hg' => by subst hg'; exact hT, fun f' _ hv => by unfold fkΦ; rw [hk]; simp only; rw [hv hd]; exact ⟨g, cap, rfl, rfl, hO⟩⟩
/-- The address of an element of a slice that one owns: it takes the slice over. -/
theorem fl_ptr {e k g cap off : Nat} {R : List (List Value)} (hk : ks[i]? = some (.ptr e k R off)) (hd : o.dst.isSome = true) (h : (execOp ρ o).run P w = .ok (.value (.pointer (some ⟨g, off, none⟩))) w) (hu : ∃ j ∈ usesOf us i, S j g) (hg : g < w.heap.size) (hO : Ow B w e k (.slice (some ⟨g, 0, none⟩) R.length cap) R) : FlowStep P ρ o w (FlowK B ks us i o f w S) :=
 FlowStep.val h ⟨Ext.refl _ _, fun g' => g' = g, fun g' hg' => by subst hg'; exact ⟨.inl hu, hg⟩, fun f' _ hv => by unfold fkΦ; rw [hk]; simp only; rw [hv hd]; exact ⟨g, cap, rfl, rfl, hO⟩⟩
/-- A call that hands back a fresh slice in a value. -/
theorem fl_call_sub {fn : FuncId} {args : Array Value} {F : Value → Value} {e k : Nat} {R : List (List Value)} (hk : ks[i]? = some (.sub F e k R)) (hd : o.dst.isSome = true) (hB : B ≤ w.heap.size) (h : (execOp ρ o).run P w = .ok (.enter fn args) w)
  (hC : Calls P fn args w fun x w' => (∃ v, x = .returned (F v) ∧ Ow w.heap.size w' e k v R) ∧ Below w.heap.size w w') : FlowStep P ρ o w (FlowK B ks us i o f w S) :=
 FlowStep.call h hC (fun x w'' ⟨⟨v, he, o1⟩, hb⟩ => ⟨_, he, Ext.of_below hb, fun g => v.ownBlock = some g, fun g hg => ⟨.inr (o1.blk g hg).1, (o1.blk g hg).2⟩, fun f' hf hv => by
  unfold fkΦ; rw [hk]; exact ⟨v, hv hd, fun g hg => hg, o1.mono hB⟩⟩)
/-- A slice literal. -/
theorem fl_lit {e k n : Nat} {R : List (List Value)} {cs : Array Value} (hk : ks[i]? = some (.own e k R)) (hd : o.dst.isSome = true) (hn : R.length = n) (hR : ∀ r ∈ R, r.length = k) (hc : cs = R.flatten.toArray) (hm : n ≤ maxLen) (hB : B ≤ w.heap.size) (h : (execOp ρ o).run P w = .ok (.value (.slice (some ⟨w.heap.size, 0, none⟩) n n)) (w.alloc (.cells cs e))) : FlowStep P ρ o w (FlowK B ks us i o f w S) := by
 subst hn
 refine fl_own hk hd h (Ext.of_below ((RowKit.Below.refl _ _).alloc (Nat.le_refl _) _)) ?_ ⟨.inr (Nat.le_refl _), by simp⟩
 subst hc
 have hl := flatten_len hR
 refine ⟨⟨hl, .inr ⟨w.heap.size, R.length, _, rfl, hB, obj_last _ _, Nat.le_refl _, hm, by simpa using hl, ?_⟩⟩, hR⟩
 rw [List.take_of_length_le (by simp [hl])]
theorem fl_box {T : TypeId} {cs : (Nat → Value) → Array Value} (hk : ks[i]? = some (.box T i cs)) (hd : o.dst.isSome = true) (hB : B ≤ w.heap.size) (hc : ∀ f', (∀ k, k ≠ i → f' k = f k) → cs f' = cs f) (h : (execOp ρ o).run P w = .ok (.value (.pointer (some ⟨w.heap.size, 0, none⟩))) (w.alloc (.cells (cs f) T))) : FlowStep P ρ o w (FlowK B ks us i o f w S) :=
 FlowStep.val h ⟨Ext.of_below ((RowKit.Below.refl _ _).alloc (Nat.le_refl _) _), fun g => g = w.heap.size, fun g hg => by subst hg; exact ⟨.inr (Nat.le_refl _), by simp⟩, fun f' hf hv => by
  unfold fkΦ; rw [hk]; simp only; rw [hv hd, hc f' hf]; exact ⟨_, rfl, rfl, hB, obj_last _ _⟩⟩
/-- A store into a box that one owns. -/
theorem fl_store {T : TypeId} {p b : Nat} {cs : (Nat → Value) → Array Value} (hk : ks[i]? = some (.box T p cs)) (hip : p ≠ i) (hu : ∃ j ∈ usesOf us i, S j b) (hp : f p = .pointer (some ⟨b, 0, none⟩)) (hB : B ≤ b) (hb : b < w.heap.size) (hc : ∀ f', (∀ k, k ≠ i → f' k = f k) → cs f' = cs f)
  (h : (execOp ρ o).run P w = .ok .skip w') (hE : Ext (fun g => g = b) w w') (hw : w'.heap[b]? = some (.cells (cs f) T (0, 0))) : FlowStep P ρ o w (FlowK B ks us i o f w S) :=
 FlowStep.skip h ⟨⟨hE.1, hE.2.1, hE.2.2.1, hE.2.2.2.1, fun g hg hn => hE.2.2.2.2 g hg (fun e => hn (by subst e; exact hu))⟩, fun g => g = b, fun g hg => by subst hg; exact ⟨.inl hu, obj_lt hw⟩, fun f' hf _ => by
  unfold fkΦ; rw [hk]; simp only; rw [hc f' hf, hf p hip]; exact ⟨_, hp, rfl, hB, hw⟩⟩
theorem exec_append {s x : Operand} {t : TypeId} {v1 v2 : Value} (ho : o.op = .call { callee := .builtin .append, args := #[s, x], argTypes := #[t, t] }) (h1 : ρ s = v1) (h2 : ρ x = v2) (hr : (Builtin.append_ #[t, t] o.type #[v1, v2]).run P w = .ok v w') : (execOp ρ o).run P w = .ok (.value v) w' := by
 unfold execOp
 simp only [ho, resolve, invoke, builtin, Sem.run_bind, Sem.run_pure, Result.andThen_ok, List.map_toArray, List.map_cons, List.map_nil, h1, h2, hr]
/-- An append to what one owns. -/
theorem fl_app {e k bytes j : Nat} {R N : List (List Value)} {s x : Operand} {t : TypeId} {v2 : Value} {C : Nat} {it : TypeInfo} {z : Value} (hk : ks[i]? = some (.own e k (R ++ N))) (hd : o.dst.isSome = true) (ho : o.op = .call { callee := .builtin .append, args := #[s, x], argTypes := #[t, t] })
  (ht : P.underlying t = some (.slice e)) (hi : P.info? e = some it) (hz : it.zero = some z) (hsize : it.size = k) (hby : it.bytes = bytes) (hzs : z.cells.size = k) (hsz : 0 < k) (hj : j ∈ usesOf us i) (hB : B ≤ w.heap.size)
  (hO : ∃ g cap, f j = .slice (some ⟨g, 0, none⟩) R.length cap ∧ S j g ∧ Ow B w e k (.slice (some ⟨g, 0, none⟩) R.length cap) R) (h1 : ρ s = f j) (h2 : ρ x = v2) (hN : Sl C w k v2 N) (hc : ∀ u ∈ N.flatten, u.oneCell' = true) (hl : R.length + N.length ≤ 1000000) (hb : bytes ≤ 1000) : FlowStep P ρ o w (FlowK B ks us i o f w S) := by
 obtain ⟨g, cap, q1, q2, q3⟩ := hO
 rw [q1] at h1
 obtain ⟨a, m, c, rfl, hm, _, _⟩ := hN.open
 have hcap : R.length ≤ cap := by
  rcases q3.shape with ⟨e1, _⟩ | ⟨_, _, e1, _, _, e2⟩
  ·cases e1
  ·injection e1 with _ _ e3; omega
 have hg : g < w.heap.size := (q3.blk g rfl).2
 by_cases h0 : m = 0
 ·subst h0
  have hN0 : N = [] := List.eq_nil_of_length_eq_zero hm
  subst hN0
  rw [List.append_nil] at hk
  refine fl_own hk hd (exec_append ho h1 h2 (run_append_zero w t o.type e it ht hi g 0 R.length cap a c hcap)) (Ext.refl _ _) q3 ⟨.inl ⟨j, hj, q2⟩, hg⟩
 ·obtain ⟨ad, rfl⟩ : ∃ ad, a = some ad := by
   cases a with
   | none => have := hN.none_; subst this; simp at hm; omega
   | some ad => exact ⟨ad, rfl⟩
  obtain ⟨b, off, rfl, _⟩ := hN.addr
  have hfl : N.flatten.length = m * k := by
   rw [flatten_len (fun r hr => ?_), hm]
   obtain ⟨_, _, _, _, _, hr', _⟩ := hN
   exact hr' r hr
  obtain ⟨g', cap', w', r1, r2, r3, r4, r5⟩ := run_append_lies (P := P) w t o.type B e it z k bytes ht hi hz hsize hby hzs hsz (.slice (some ⟨g, 0, none⟩) R.length cap) R.length R.flatten q3.1 ⟨b, off, none⟩ m c N.flatten hfl (hN.news hsz) hc (by omega) (by unfold maxLen; omega) (by
   have h3 : (R.length + m) * bytes ≤ 1000000 * 1000 := Nat.mul_le_mul (by omega) hb
   omega) hB w.heap.size rfl
  subst hm
  rw [← List.length_append] at r1 r2
  refine fl_own hk hd (exec_append ho h1 h2 r1) (Ext.of_grown r3 (fun g2 hg2 => by injection hg2 with hg2; subst hg2; exact ⟨j, hj, q2⟩)) ?_ ⟨?_, r5⟩
  ·refine ⟨?_, fun r hr => ?_⟩
   ·rw [List.flatten_append]
    exact r2
   ·rcases List.mem_append.1 hr with h | h
    ·exact q3.2 r h
    ·obtain ⟨_, _, _, _, _, hr', _⟩ := hN
     exact hr' r h
  ·rcases r4 with h | h
   ·injection h with h
    subst h
    exact .inl ⟨j, hj, q2⟩
   ·exact .inr (by omega)
end
def fkLoc1 (rd : List (Nat × List Nat)) (i : Nat) : FK → Prop
 | .fn c => ∀ f f' : Nat → Value, (∀ j, j = i ∨ j ∈ usesOf rd i → f j = f' j) → c f = c f'
 | .box _ p cs => (p = i ∨ p ∈ usesOf rd i) ∧ ∀ f f' : Nat → Value, (∀ j, j = i ∨ j ∈ usesOf rd i → f j = f' j) → cs f = cs f'
 | .rel R => ∀ f f' : Nat → Value, (∀ j, j = i ∨ j ∈ usesOf rd i → f j = f' j) → R f → R f'
 | _ => True
def FkLocAll (rd : List (Nat × List Nat)) : Nat → List FK → Prop
 | _, [] => True
 | i, k :: l => fkLoc1 rd i k ∧ FkLocAll rd (i + 1) l
theorem fkLoc_at {rd : List (Nat × List Nat)} : ∀ (ks : List FK) (m : Nat), FkLocAll rd m ks → ∀ i k, ks[i]? = some k → fkLoc1 rd (m + i) k
 | [], _, _, i, k, h => by simp at h
 | x :: ks, m, hA, i, k, h => by
  cases i with
  | zero =>
   simp only [List.getElem?_cons_zero, Option.some.injEq] at h
   subst h
   exact hA.1
  | succ i =>
   simp only [List.getElem?_cons_succ] at h
   have := fkLoc_at ks (m + 1) hA.2 i k h
   rw [show m + 1 + i = m + (i + 1) by omega] at this
   exact this
theorem fkLoc_of {ks : List FK} {rd : List (Nat × List Nat)} (h : FkLocAll rd 0 ks) : FkLoc ks rd := fun i k hk => by
 have := fkLoc_at ks 0 h i k hk
 rw [Nat.zero_add] at this
 cases k <;> exact this
/-- Each operation's step, one after another: what it reads, by small tables (dd: what each operation writes; ext: slots from before; dp: on what it leans). -/
def FlowAll (P : Program) (W : World) (ks : List FK) (us : List (Nat × List Nat)) (dd : List (Nat × Option Tmp)) (ext : List (Tmp × Value)) (dp : List (Nat × List Nat)) : Nat → List Oper → Prop
 | _, [] => True
 | i, o :: l => (∀ (f : Nat → Value) (ρ : Operand → Value) (w : World) (S : Nat → Nat → Prop), (∀ j t, (j, some t) ∈ dd → ρ (.tmp t) = f j) → (∀ p ∈ ext, ρ (.tmp p.1) = p.2) → ((∀ v, ρ (.const v) = v) ∧ ∀ g, ρ (.func g) = .func (.func g) #[] #[]) → Below W.heap.size W w → (∀ j, (usesOf dp i).contains j = true → fkΦ W.heap.size ks j f w (S j) ∧ ∀ g, S j g → W.heap.size ≤ g ∧ g < w.heap.size) →
  (∀ j k, (usesOf dp i).contains j = true → (usesOf dp i).contains k = true → j ≠ k → ∀ g, S j g → ¬S k g) → FlowStep P ρ o w (FlowK W.heap.size ks us i o f w S)) ∧ FlowAll P W ks us dd ext dp (i + 1) l
theorem flowAll_at {P : Program} {W : World} {ks : List FK} {us : List (Nat × List Nat)} {dd : List (Nat × Option Tmp)} {ext : List (Tmp × Value)} {dp : List (Nat × List Nat)} : ∀ (l : List Oper) (k : Nat), FlowAll P W ks us dd ext dp k l → ∀ i o, l[i]? = some o → ∀ (f : Nat → Value) (ρ : Operand → Value) (w : World) (S : Nat → Nat → Prop), (∀ j t, (j, some t) ∈ dd → ρ (.tmp t) = f j) → (∀ p ∈ ext, ρ (.tmp p.1) = p.2) → ((∀ v, ρ (.const v) = v) ∧ ∀ g, ρ (.func g) = .func (.func g) #[] #[]) → Below W.heap.size W w → (∀ j, (usesOf dp (k + i)).contains j = true → fkΦ W.heap.size ks j f w (S j) ∧ ∀ g, S j g → W.heap.size ≤ g ∧ g < w.heap.size) →
  (∀ j j', (usesOf dp (k + i)).contains j = true → (usesOf dp (k + i)).contains j' = true → j ≠ j' → ∀ g, S j g → ¬S j' g) → FlowStep P ρ o w (FlowK W.heap.size ks us (k + i) o f w S)
 | [], _, _, i, o, h => by simp at h
 | x :: l, k, hA, i, o, h => by
  cases i with
  | zero =>
   simp only [List.getElem?_cons_zero, Option.some.injEq] at h
   subst h
   exact hA.1
  | succ i =>
   simp only [List.getElem?_cons_succ] at h
   have := flowAll_at l (k + 1) hA.2 i o h
   rw [show k + 1 + i = k + (i + 1) by omega] at this
   exact this
def dpB (ops : Array Oper) (us dp : List (Nat × List Nat)) : Bool := (List.range ops.size).all fun i => (usesOf dp i).all fun j => availB ops us i j
def ExtOK (a : Act) : List (Tmp × Value) → Prop
 | [] => True
 | (t, v) :: l => a.eval (.tmp t) = v ∧ ExtOK a l
theorem extOK_at {a : Act} : ∀ (l : List (Tmp × Value)), ExtOK a l → ∀ p ∈ l, a.eval (.tmp p.1) = p.2
 | [], _, p, hp => by cases hp
 | (t, v) :: l, h, p, hp => by
  rcases List.mem_cons.1 hp with rfl | hp
  ·exact h.1
  ·exact extOK_at l h.2 p hp
def extB (dd : List (Nat × Option Tmp)) (ext : List Tmp) : Bool := ext.all fun t => dd.all fun p => !(p.2 == some t)
def endB (us : List (Nat × List Nat)) (n j : Nat) : Bool := decide (j < n) && (List.range n).all fun i => !(usesOf us i).contains j
theorem dd_dst {l : List Oper} {dd : List (Nat × Option Tmp)} (h : (List.range l.length).map (fun j => (j, dstOf l.toArray j)) = dd) {j : Nat} {t : Tmp} (hm : (j, some t) ∈ dd) : j < l.length ∧ dstOf l.toArray j = some t := by
 rw [← h] at hm
 obtain ⟨k, hk, e⟩ := List.mem_map.1 hm
 injection e with e1 e2
 subst e1
 exact ⟨List.mem_range.1 hk, e2⟩
/-- A region that draws its order, by its flow: tables and one step an operation. -/
theorem wp_flow2 {P : Program} {id : Nat} {a : Act} {W : World} {l : List Oper} (us rd dp : List (Nat × List Nat)) (dd : List (Nat × Option Tmp)) (ext : List (Tmp × Value)) (ks : List FK) {Q : Exit → Act → World → Prop} (hm : P.follows .mixedOrders = true)
  (hB : flowB l.toArray us rd a.tmps.size = true) (hdd : (List.range l.length).map (fun j => (j, dstOf l.toArray j)) = dd) (hdp : dpB l.toArray us dp = true) (hx : extB dd (ext.map (·.1)) = true) (hX : ExtOK a ext) (hL : FkLocAll rd 0 ks) (hA : FlowAll P W ks us dd ext dp 0 l)
  (h : ∀ (f : Nat → Value) (w : World) (S : Nat → Nat → Prop), Below W.heap.size W w → (∀ j, endB us l.length j = true → fkΦ W.heap.size ks j f w (S j) ∧ ∀ g, S j g → W.heap.size ≤ g ∧ g < w.heap.size) →
   (∀ j k, endB us l.length j = true → endB us l.length k = true → j ≠ k → ∀ g, S j g → ¬S k g) → Q .normal (putAll a f dd) w) : (Code.region id l.toArray true).wp P Q a W := by
 refine wp_flow (Φ := fkΦ W.heap.size ks) hm ⟨hB, fun i f f' w w' S _ hf _ hS h => fk_loc (fkLoc_of hL) i f f' w w' S hf hS h, fun i o ho f w S hb hd hs => ?_⟩ (fun f w S hb h1 h2 => ?_)
 ·have hi : i < l.toArray.size := (Array.getElem?_eq_some_iff.1 ho).1
  have hav : ∀ j, (usesOf dp i).contains j = true → availB l.toArray us i j = true := fun j hj => by
   have := List.all_eq_true.1 hdp i (List.mem_range.2 hi)
   exact List.all_eq_true.1 this j (by simpa using hj)
  have := flowAll_at l 0 hA i o (by simpa using ho)
  simp only [Nat.zero_add] at this
  refine this f _ w S (fun j t hm => ?_) (fun p hp => ?_) ⟨fun v => rfl, fun g => rfl⟩ ((RowKit.Below.refl W.heap.size W).drew.trans hb) (fun j hj => hd j (hav j hj)) (fun j k hj hk => hs j k (hav j hj) (hav k hk))
  ·obtain ⟨hj, hdj⟩ := dd_dst hdd hm
   have := find_dst hB (show j < l.toArray.size by simpa using hj) hdj
   unfold revF
   simp only [this]
  ·have hn : (List.range l.toArray.size).find? (fun j => dstOf l.toArray j == some p.1) = none := by
    apply List.find?_eq_none.2
    intro j hj he
    have h1 := List.all_eq_true.1 hx p.1 (List.mem_map.2 ⟨p, hp, rfl⟩)
    have h2 := List.all_eq_true.1 h1 (j, dstOf l.toArray j) (by rw [← hdd]; exact List.mem_map.2 ⟨j, by simpa using hj, rfl⟩)
    simp only [Bool.not_eq_true'] at h2
    rw [h2] at he; cases he
   unfold revF
   simp only [hn]
   exact extOK_at ext hX p hp
 ·rw [hdd]
  have key : ∀ j, endB us l.length j = true → j < l.length ∧ ∀ i, i < l.length → j ∉ usesOf us i := fun j hj => by
   unfold endB at hj
   simp only [Bool.and_eq_true, decide_eq_true_eq] at hj
   refine ⟨hj.1, fun i hi hm => ?_⟩
   have := List.all_eq_true.1 hj.2 i (List.mem_range.2 hi)
   simp [hm] at this
  exact h f w S hb (fun j hj => h1 j (key j hj).1 (key j hj).2) (fun j k hj hk => h2 j k (key j hj).1 (key k hk).1 (key j hj).2 (key k hk).2)
end Go.Vi
