/-
 A region that draws its order and makes new memory: each operation owns what it makes till another one takes it over; one fact an operation serves every order.
-/
import Derived.Test.YtcelpkbmcmnogaaGreatDoorJnkA
set_option linter.unusedSimpArgs false
set_option linter.unusedVariables false
namespace Go.Vi
open Go Go.RowKit
/-- What an operation does, in a world: its value, and the world behind it. -/
def FlowStep (P : Program) (ρ : Operand → Value) (o : Oper) (w : World) (K : Value → World → Prop) : Prop :=
 match (execOp ρ o).run P w with
 | .ok (.value v) w' => K v w'
 | .ok .skip w' => K undef w'
 | .ok (.enter f args) w' => Calls P f args w' fun e w'' => ∃ v, e = .returned v ∧ K v w''
 | _ => False
theorem FlowStep.wp {P : Program} {a : Act} {o : Oper} {w : World} {K : Value → World → Prop} {N : Act → World → Prop} {Q : Exit → Act → World → Prop} (h : FlowStep P a.eval o w K) (hK : ∀ v w', K v w' → N (a.put o.dst v) w') : o.wp P a w N Q := by
 unfold Oper.wp
 unfold FlowStep at h
 generalize (execOp a.eval o).run P w = r at *
 cases r with
 | ok n w' =>
  cases n <;> simp only at h <;> simp only [Oper.upon]
  case value u => exact hK _ _ h
  case skip => exact hK _ _ h
  case enter f args => exact h.mono fun e w'' ⟨v, he, hw⟩ => by subst he; exact hK _ _ hw
 | halt x w' => simp only at h
theorem FlowStep.val {P : Program} {ρ : Operand → Value} {o : Oper} {w w' : World} {v : Value} {K : Value → World → Prop} (h : (execOp ρ o).run P w = .ok (.value v) w') (hK : K v w') : FlowStep P ρ o w K := by
 unfold FlowStep; rw [h]; exact hK
theorem FlowStep.skip {P : Program} {ρ : Operand → Value} {o : Oper} {w w' : World} {K : Value → World → Prop} (h : (execOp ρ o).run P w = .ok .skip w') (hK : K undef w') : FlowStep P ρ o w K := by
 unfold FlowStep; rw [h]; exact hK
theorem FlowStep.call {P : Program} {ρ : Operand → Value} {o : Oper} {w w' : World} {f : FuncId} {args : Array Value} {K : Value → World → Prop} {R : Ending → World → Prop} (h : (execOp ρ o).run P w = .ok (.enter f args) w') (hC : Calls P f args w' R) (hK : ∀ e w'', R e w'' → ∃ v, e = .returned v ∧ K v w'') : FlowStep P ρ o w K := by
 unfold FlowStep; rw [h]; exact hC.mono hK
/-- Old blocks outside U are as they were. -/
def Ext (U : Nat → Prop) (w w' : World) : Prop := w'.os = w.os ∧ w'.tape = w.tape ∧ w'.output = w.output ∧ w.heap.size ≤ w'.heap.size ∧ ∀ g, g < w.heap.size → ¬U g → w'.heap[g]? = w.heap[g]?
theorem Ext.refl (U : Nat → Prop) (w : World) : Ext U w w := ⟨rfl, rfl, rfl, Nat.le_refl _, fun _ _ _ => rfl⟩
theorem Ext.of_below {U : Nat → Prop} {w w' : World} (h : Below w.heap.size w w') : Ext U w w' := ⟨h.os, h.tape, h.output, h.size, fun g hg _ => h.block g hg⟩
theorem Ext.of_grown {U : Nat → Prop} {w w' : World} {row : Option Nat} (h : w.grownBy w' row) (hr : ∀ g, row = some g → U g) : Ext U w w' := ⟨h.os, h.tape, h.output, h.size, fun g hg hU => h.block g hg (fun e => hU (hr g e.symm))⟩
section
variable {P : Program} {ops : Array Oper}
/-- The slots that the operations write. -/
def dstOf (ops : Array Oper) (i : Nat) : Option Tmp := (ops[i]?).bind (·.dst)
def dep (ops : Array Oper) (i j : Nat) : Bool := match ops[i]? with | some o => o.after.any fun e => Region.binds .any e && e.on == j | none => false
/-- The value that operation j has left. -/
def valF (ops : Array Oper) (a : Act) (j : Nat) : Value := match dstOf ops j with | some t => a.tmps.getD t undef | none => undef
/-- A slot, read in the midst of the region. -/
def revF (ops : Array Oper) (a0 : Act) (f : Nat → Value) : Operand → Value
 | .tmp t => match (List.range ops.size).find? fun j => dstOf ops j == some t with
  | some j => f j
  | none => a0.eval (.tmp t)
 | x => a0.eval x
def usesOf (us : List (Nat × List Nat)) (i : Nat) : List Nat := ((us.find? fun p => p.1 == i).map (·.2)).getD []
/-- What is asked of the region: by program. -/
def flowB (ops : Array Oper) (us rd : List (Nat × List Nat)) (N : Nat) : Bool :=
 Region.noSelect ops &&
 ((List.range ops.size).all fun i => match ops[i]? with
  | some o => o.guard.isNone && (o.after.all fun e => !Region.binds .any e || decide (e.on < i)) &&
   (match o.dst with | some t => decide (t < N) && (List.range ops.size).all (fun j => j == i || !(dstOf ops j == some t)) | none => true) &&
   (o.op.operands.all fun x => match x with
    | .tmp t => (match (List.range ops.size).find? fun j => dstOf ops j == some t with | some j => dep ops i j | none => true)
    | _ => true) &&
   ((usesOf us i).all fun j => dep ops i j && (List.range ops.size).all fun k => k == i || !(usesOf us k).contains j) &&
   ((usesOf rd i).all fun j => j == i || dep ops i j)
  | none => false) && (us.all fun p => decide (p.1 < ops.size))
/-- What operation i may lean on. -/
def availB (ops : Array Oper) (us : List (Nat × List Nat)) (i j : Nat) : Bool := dep ops i j && (List.range ops.size).all fun k => k == i || !(usesOf us k).contains j
/-- The facts of a region: of each operation, over the values so far and a world, and what it owns. -/
structure Flow (P : Program) (ops : Array Oper) (a0 : Act) (W : World) (us rd : List (Nat × List Nat)) (Φ : Nat → (Nat → Value) → World → (Nat → Prop) → Prop) : Prop where
 ok : flowB ops us rd a0.tmps.size = true
 loc : ∀ i f f' w w' S, i < ops.size → (∀ j, j = i ∨ j ∈ usesOf rd i → f j = f' j) → w.heap.size ≤ w'.heap.size → (∀ g, S g → w'.heap[g]? = w.heap[g]?) → Φ i f w S → Φ i f' w' S
 step : ∀ i o, ops[i]? = some o → ∀ (f : Nat → Value) (w : World) (S : Nat → Nat → Prop), Below W.heap.size W w → (∀ j, availB ops us i j = true → Φ j f w (S j) ∧ ∀ g, S j g → W.heap.size ≤ g ∧ g < w.heap.size) →
  (∀ j k, availB ops us i j = true → availB ops us i k = true → j ≠ k → ∀ g, S j g → ¬S k g) →
  FlowStep P (revF ops a0 f) o w fun v w' => Ext (fun g => ∃ j ∈ usesOf us i, S j g) w w' ∧ ∃ T : Nat → Prop, (∀ g, T g → ((∃ j ∈ usesOf us i, S j g) ∨ w.heap.size ≤ g) ∧ g < w'.heap.size) ∧ ∀ f', (∀ k, k ≠ i → f' k = f k) → (o.dst.isSome = true → f' i = v) → Φ i f' w' T
def liveP (ops : Array Oper) (us : List (Nat × List Nat)) (L : Array Bool) (j : Nat) : Prop := j < ops.size ∧ L.getD j false = true ∧ ∀ i, i < ops.size → j ∈ usesOf us i → L.getD i false = false
/-- What holds in the midst of the region. -/
structure FlowInv (ops : Array Oper) (a0 : Act) (W : World) (us : List (Nat × List Nat)) (Φ : Nat → (Nat → Value) → World → (Nat → Prop) → Prop) (L : Array Bool) (b : Act) (w : World) : Prop where
 bel : Below W.heap.size W w
 size : b.tmps.size = a0.tmps.size
 defs : b.defers = a0.defers
 far : ∀ t, (∀ j, j < ops.size → dstOf ops j ≠ some t) → b.tmps.getD t undef = a0.tmps.getD t undef
 closed : ∀ i, i < ops.size → L.getD i false = true → ∀ j, dep ops i j = true → L.getD j false = true
 lsize : L.size = ops.size
 own : ∃ S : Nat → Nat → Prop, (∀ j, liveP ops us L j → Φ j (valF ops b) w (S j) ∧ ∀ g, S j g → W.heap.size ≤ g ∧ g < w.heap.size) ∧ ∀ j k, liveP ops us L j → liveP ops us L k → j ≠ k → ∀ g, S j g → ¬S k g
theorem dep_of {i j : Nat} {o : Oper} (ho : ops[i]? = some o) : dep ops i j = true ↔ ∃ e ∈ o.after, Region.binds .any e = true ∧ e.on = j := by
 unfold dep
 rw [ho]
 simp only [Array.any_eq_true', Bool.and_eq_true, beq_iff_eq]
theorem getD_tf {L : Array Bool} {i : Nat} (h : L.getD i true = false) : L.getD i false = false := by
 by_cases hi : i < L.size
 ·simp [hi] at h ⊢; exact h
 ·simp [hi] at h
theorem getD_set_self {L : Array Bool} {i : Nat} (h : i < L.size) (d : Bool) : (L.setIfInBounds i true).getD i d = true := by simp [h]
theorem getD_put_self {a : Act} {t : Tmp} {v : Value} (h : t < a.tmps.size) : (a.put (some t) v).tmps.getD t undef = v := by simp [Act.put, h]
theorem getD_put_ne {a : Act} {d : Option Tmp} {t : Tmp} {v : Value} (h : d ≠ some t) : (a.put d v).tmps.getD t undef = a.tmps.getD t undef := by
 cases d with
 | none => rfl
 | some d =>
  have hne : d ≠ t := fun e => h (by rw [e])
  simp [Act.put, Array.getElem?_setIfInBounds_ne hne]
theorem put_size (a : Act) (d : Option Tmp) (v : Value) : (a.put d v).tmps.size = a.tmps.size := by
 cases d <;> simp [Act.put]
theorem put_defs (a : Act) (d : Option Tmp) (v : Value) : (a.put d v).defers = a.defers := by
 cases d <;> rfl
structure FlowAt (ops : Array Oper) (us rd : List (Nat × List Nat)) (N i : Nat) (o : Oper) : Prop where
 guard : o.guard = none
 lt : ∀ j, dep ops i j = true → j < i
 dst : ∀ t, o.dst = some t → t < N ∧ ∀ j, j < ops.size → dstOf ops j = some t → j = i
 opr : ∀ t, .tmp t ∈ o.op.operands → ∀ j, (List.range ops.size).find? (fun j => dstOf ops j == some t) = some j → dep ops i j = true
 use : ∀ j ∈ usesOf us i, dep ops i j = true ∧ ∀ k, k < ops.size → j ∈ usesOf us k → k = i
 read : ∀ j ∈ usesOf rd i, j = i ∨ dep ops i j = true
theorem flow_at {us rd : List (Nat × List Nat)} {N i : Nat} {o : Oper} (h : flowB ops us rd N = true) (ho : ops[i]? = some o) : FlowAt ops us rd N i o := by
 unfold flowB at h
 simp only [Bool.and_eq_true] at h
 have hi : i < ops.size := (Array.getElem?_eq_some_iff.1 ho).1
 have h1 := List.all_eq_true.1 h.1.2 i (List.mem_range.2 hi)
 rw [ho] at h1
 simp only [Bool.and_eq_true] at h1
 obtain ⟨⟨⟨⟨⟨g1, g2⟩, g3⟩, g4⟩, g5⟩, g6⟩ := h1
 refine ⟨by simpa using g1, fun j hj => ?_, fun t ht => ?_, fun t ht j hj => ?_, fun j hj => ?_, fun j hj => ?_⟩
 ·obtain ⟨e, he, hb, rfl⟩ := (dep_of ho).1 hj
  have := Array.all_eq_true'.1 g2 e he
  simpa [hb] using this
 ·rw [ht] at g3
  simp only [Bool.and_eq_true, decide_eq_true_eq] at g3
  refine ⟨g3.1, fun j hj he => ?_⟩
  have := List.all_eq_true.1 g3.2 j (List.mem_range.2 hj)
  simpa [he] using this
 ·have := Array.all_eq_true'.1 g4 _ ht
  simp only [hj] at this
  exact this
 ·have := List.all_eq_true.1 g5 j hj
  simp only [Bool.and_eq_true] at this
  refine ⟨this.1, fun k hk hjk => ?_⟩
  have h2 := List.all_eq_true.1 this.2 k (List.mem_range.2 hk)
  simp only [Bool.or_eq_true, beq_iff_eq, Bool.not_eq_true', List.contains_eq_mem, decide_eq_false_iff_not] at h2
  rcases h2 with h2 | h2
  ·exact h2
  ·exact absurd hjk h2
 ·have := List.all_eq_true.1 g6 j hj
  simpa using this
theorem find_dst {us rd : List (Nat × List Nat)} {N j : Nat} {t : Tmp} (h : flowB ops us rd N = true) (hj : j < ops.size) (hd : dstOf ops j = some t) : (List.range ops.size).find? (fun j => dstOf ops j == some t) = some j := by
 obtain ⟨o, ho⟩ : ∃ o, ops[j]? = some o := ⟨_, Array.getElem?_eq_some_iff.2 ⟨hj, rfl⟩⟩
 have hot : o.dst = some t := by unfold dstOf at hd; rw [ho] at hd; exact hd
 cases hf : (List.range ops.size).find? (fun j => dstOf ops j == some t) with
 | none =>
  have := List.find?_eq_none.1 hf j (List.mem_range.2 hj)
  simp [hd] at this
 | some k =>
  have h1 := List.find?_some hf
  have h2 := List.mem_of_find?_eq_some hf
  rw [((flow_at h ho).dst t hot).2 k (List.mem_range.1 h2) (by simpa using h1)]
theorem flow_step {a0 : Act} {W : World} {us rd : List (Nat × List Nat)} {Φ : Nat → (Nat → Value) → World → (Nat → Prop) → Prop} (F : Flow P ops a0 W us rd Φ) {Q : Exit → Act → World → Prop} {L : Array Bool} {b : Act} {w : World} (I : FlowInv ops a0 W us Φ L b w) {i : Nat} (hr : i ∈ Region.ready .any ops L) :
  wpOp P ops Q i (fun b' w' => FlowInv ops a0 W us Φ (L.setIfInBounds i true) b' w') b w := by
 obtain ⟨hun, o, ho, hall⟩ := mem_ready.1 hr
 have hi : i < ops.size := (Array.getElem?_eq_some_iff.1 ho).1
 have A := flow_at F.ok ho
 have hunF := getD_tf hun
 have hdone : ∀ j, dep ops i j = true → L.getD j false = true := fun j hj => by
  obtain ⟨e, he, hb, rfl⟩ := (dep_of ho).1 hj
  exact hall e he hb
 have hsel : ∀ cs b, o.op ≠ .select cs b := fun cs b => by
  have h := F.ok
  unfold flowB at h
  simp only [Bool.and_eq_true] at h
  exact Region.noSelect_spec h.1.1 i o cs b ho
 obtain ⟨S, hS1, hS2⟩ := I.own
 have hlive : ∀ j, availB ops us i j = true → liveP ops us L j := fun j hj => by
  unfold availB at hj
  simp only [Bool.and_eq_true] at hj
  have hji := A.lt j hj.1
  refine ⟨by omega, hdone j hj.1, fun k hk hjk => ?_⟩
  have h2 := List.all_eq_true.1 hj.2 k (List.mem_range.2 hk)
  simp only [Bool.or_eq_true, beq_iff_eq, Bool.not_eq_true', List.contains_eq_mem, decide_eq_false_iff_not] at h2
  rcases h2 with h2 | h2
  ·rw [h2]; exact hunF
  ·exact absurd hjk h2
 have hstep := F.step i o ho (valF ops b) w S I.bel (fun j hj => hS1 j (hlive j hj)) (fun j k hj hk hne => hS2 j k (hlive j hj) (hlive k hk) hne)
 -- the operands read as they read in the midst
 have hev : execOp (revF ops a0 (valF ops b)) o = execOp b.eval o := execOp_congr o hsel fun x hx => by
  cases x with
  | tmp t =>
   unfold revF
   simp only
   cases hf : (List.range ops.size).find? (fun j => dstOf ops j == some t) with
   | some j =>
    have h1 := List.find?_some hf
    simp only [beq_iff_eq] at h1
    show valF ops b j = b.eval (.tmp t)
    unfold valF
    rw [h1]
    rfl
   | none =>
    have h1 := List.find?_eq_none.1 hf
    exact (I.far t (fun j hj he => h1 j (List.mem_range.2 hj) (by simp [he]))).symm
  | const v => rfl
  | global g => rfl
  | func f => rfl
 have hstep' : FlowStep P b.eval o w fun v w' => Ext (fun g => ∃ j ∈ usesOf us i, S j g) w w' ∧ ∃ T : Nat → Prop, (∀ g, T g → ((∃ j ∈ usesOf us i, S j g) ∨ w.heap.size ≤ g) ∧ g < w'.heap.size) ∧ ∀ f', (∀ k, k ≠ i → f' k = valF ops b k) → (o.dst.isSome = true → f' i = v) → Φ i f' w' T := by
  unfold FlowStep at hstep ⊢
  rw [hev] at hstep
  exact hstep
 unfold wpOp
 rw [ho]
 simp only [Region.wanted, A.guard]
 rw [if_pos trivial]
 refine .inl (hstep'.wp (N := fun b' w' => FlowInv ops a0 W us Φ (L.setIfInBounds i true) b' w') ?_)
 rintro v w' ⟨hE, T, hT, hΦ⟩
 obtain ⟨x1, x2, x3, x4, x5⟩ := hE
 have hdi : dstOf ops i = o.dst := by unfold dstOf; rw [ho]; rfl
 have hiL : i < L.size := by rw [I.lsize]; exact hi
 -- values of the others stay
 have hval : ∀ k, k < ops.size → k ≠ i → valF ops (b.put o.dst v) k = valF ops b k := fun k hk hki => by
  unfold valF
  cases hd : dstOf ops k with
  | none => rfl
  | some t =>
   refine getD_put_ne (fun e => hki ?_)
   exact ((A.dst t e).2 k hk hd)
 have hvalF : ∀ k, k ≠ i → valF ops (b.put o.dst v) k = valF ops b k := fun k hki => by
  by_cases hk : k < ops.size
  ·exact hval k hk hki
  ·have : dstOf ops k = none := by unfold dstOf; rw [Array.getElem?_eq_none (by omega)]; rfl
   unfold valF; rw [this]
 have hvi : o.dst.isSome = true → valF ops (b.put o.dst v) i = v := fun hs => by
  obtain ⟨t, ht⟩ := Option.isSome_iff_exists.1 hs
  unfold valF
  rw [hdi, ht]
  exact getD_put_self (by rw [I.size]; exact (A.dst t ht).1)
 have hUold : ∀ j ∈ usesOf us i, liveP ops us L j := fun j hj => by
  obtain ⟨d1, d2⟩ := A.use j hj
  have := A.lt j d1
  exact ⟨by omega, hdone j d1, fun k hk hjk => by rw [d2 k hk hjk]; exact hunF⟩
 -- who lives on
 have hliveOld : ∀ k, liveP ops us (L.setIfInBounds i true) k → k ≠ i → liveP ops us L k ∧ k ∉ usesOf us i := fun k hk hki => by
  obtain ⟨k1, k2, k3⟩ := hk
  rw [getD_set_ne false (Ne.symm hki)] at k2
  refine ⟨⟨k1, k2, fun m hm hkm => ?_⟩, fun hku => ?_⟩
  ·have := k3 m hm hkm
   by_cases hmi : m = i
   ·rw [hmi]; exact hunF
   ·rwa [getD_set_ne false (Ne.symm hmi)] at this
  ·have := k3 i hi hku
   rw [getD_set_self hiL] at this; cases this
 refine ⟨?_, by rw [put_size]; exact I.size, by rw [put_defs]; exact I.defs, fun t ht => ?_, fun m hm hml j hj => ?_, by rw [Array.size_setIfInBounds]; exact I.lsize, ?_⟩
 ·refine ⟨x1.trans I.bel.os, x2.trans I.bel.tape, x3.trans I.bel.output, Nat.le_trans I.bel.size x4, fun g hg => ?_⟩
  rw [x5 g (Nat.lt_of_lt_of_le hg I.bel.size) (fun ⟨j, hj, hjg⟩ => by have := ((hS1 j (hUold j hj)).2 g hjg).1; omega)]
  exact I.bel.block g hg
 ·rw [getD_put_ne (fun e => ht i hi (by rw [hdi]; exact e))]
  exact I.far t ht
 ·by_cases hmi : m = i
  ·subst hmi
   have := hdone j hj
   by_cases hji : j = m
   ·subst hji; exact getD_set_self hiL false
   ·rwa [getD_set_ne false (Ne.symm hji)]
  ·rw [getD_set_ne false (Ne.symm hmi)] at hml
   have := I.closed m hm hml j hj
   by_cases hji : j = i
   ·subst hji; exact getD_set_self hiL false
   ·rwa [getD_set_ne false (Ne.symm hji)]
 ·refine ⟨fun k => if k = i then T else S k, fun k hk => ?_, fun j k hj hk hne g hjg hkg => ?_⟩
  ·by_cases hki : k = i
   ·subst hki
    simp only [if_true]
    refine ⟨hΦ _ hvalF hvi, fun g hg => ?_⟩
    obtain ⟨t1, t2⟩ := hT g hg
    refine ⟨?_, t2⟩
    rcases t1 with ⟨j, hj, hjg⟩ | t1
    ·exact ((hS1 j (hUold j hj)).2 g hjg).1
    ·exact Nat.le_trans I.bel.size t1
   ·simp only [if_neg hki]
    obtain ⟨hl, hnu⟩ := hliveOld k hk hki
    obtain ⟨p1, p2⟩ := hS1 k hl
    refine ⟨F.loc k _ _ w w' (S k) hl.1 (fun j hj => ?_) x4 (fun g hg => ?_) p1, fun g hg => ⟨(p2 g hg).1, Nat.lt_of_lt_of_le (p2 g hg).2 x4⟩⟩
    ·obtain ⟨ok, hok⟩ : ∃ ok, ops[k]? = some ok := ⟨_, Array.getElem?_eq_some_iff.2 ⟨hl.1, rfl⟩⟩
     have hji : j ≠ i := by
      intro e
      rcases hj with hj | hj
      ·exact hki (hj.symm.trans e)
      ·rcases (flow_at F.ok hok).read j hj with h | h
       ·exact hki (h.symm.trans e)
       ·have := I.closed k hl.1 hl.2.1 j h
        rw [e, hunF] at this; cases this
     exact (hvalF j hji).symm
    ·exact x5 g (p2 g hg).2 (fun ⟨j, hj, hjg⟩ => hS2 j k (hUold j hj) hl (fun e => hnu (e ▸ hj)) g hjg hg)
  ·by_cases hji : j = i
   ·subst hji
    simp only [if_true] at hjg
    have hki : k ≠ j := Ne.symm hne
    simp only [if_neg hki] at hkg
    obtain ⟨hl, hnu⟩ := hliveOld k hk hki
    rcases (hT g hjg).1 with ⟨m, hm, hmg⟩ | h
    ·exact hS2 m k (hUold m hm) hl (fun e => hnu (e ▸ hm)) g hmg hkg
    ·have := ((hS1 k hl).2 g hkg).2; omega
   ·simp only [if_neg hji] at hjg
    obtain ⟨hlj, hnj⟩ := hliveOld j hj hji
    by_cases hki : k = i
    ·subst hki
     simp only [if_true] at hkg
     rcases (hT g hkg).1 with ⟨m, hm, hmg⟩ | h
     ·exact hS2 m j (hUold m hm) hlj (fun e => hnj (e ▸ hm)) g hmg hjg
     ·have := ((hS1 j hlj).2 g hjg).2; omega
    ·simp only [if_neg hki] at hkg
     obtain ⟨hlk, _⟩ := hliveOld k hk hki
     exact hS2 j k hlj hlk hne g hjg hkg
def unl (n : Nat) (L : Array Bool) : Nat := (List.range n).countP fun i => !L.getD i false
theorem unl_step {n i : Nat} {L : Array Bool} (hn : L.size = n) (hi : i < n) (h : L.getD i false = false) : unl n (L.setIfInBounds i true) + 1 = unl n L := by
 unfold unl
 have key : ∀ (l : List Nat), l.Nodup → (i ∈ l → l.countP (fun k => !(L.setIfInBounds i true).getD k false) + 1 = l.countP fun k => !L.getD k false) ∧ (i ∉ l → l.countP (fun k => !(L.setIfInBounds i true).getD k false) = l.countP fun k => !L.getD k false) := by
  intro l
  induction l with
  | nil => intro _; exact ⟨(fun h => by cases h), fun _ => rfl⟩
  | cons x l ih =>
   intro hnd
   obtain ⟨hx, hl⟩ := List.nodup_cons.1 hnd
   obtain ⟨i1, i2⟩ := ih hl
   rw [List.countP_cons, List.countP_cons]
   refine ⟨fun hm => ?_, fun hm => ?_⟩
   ·rcases List.mem_cons.1 hm with e | hm
    ·subst e
     rw [i2 hx, getD_set_self (by rw [hn]; exact hi), h]
     simp
    ·have hxi : i ≠ x := fun e => hx (e ▸ hm)
     rw [getD_set_ne false hxi]
     have := i1 hm
     omega
   ·have hxi : i ≠ x := fun e => hm (e ▸ List.mem_cons_self)
    rw [getD_set_ne false hxi, i2 (fun h => hm (List.mem_cons_of_mem _ h))]
 exact (key _ List.nodup_range).1 (List.mem_range.2 hi)
theorem flow_done {us rd : List (Nat × List Nat)} {N : Nat} {L : Array Bool} (h : flowB ops us rd N = true) (hn : L.size = ops.size) (hr : Region.ready .any ops L = []) : ∀ i, i < ops.size → L.getD i false = true := by
 intro i
 induction i using Nat.strongRecOn with
 | _ i ih =>
  intro hi
  cases hl : L.getD i false with
  | true => rfl
  | false =>
   obtain ⟨o, ho⟩ : ∃ o, ops[i]? = some o := ⟨_, Array.getElem?_eq_some_iff.2 ⟨hi, rfl⟩⟩
   have A := flow_at h ho
   have hm : i ∈ Region.ready .any ops L := mem_ready.2 ⟨getD_in (by rw [hn]; exact hi) hl, o, ho, fun e he hb => by
    have hd : dep ops i e.on = true := (dep_of ho).2 ⟨e, he, hb, rfl⟩
    have := A.lt _ hd
    exact ih e.on this (by omega)⟩
   rw [hr] at hm
   cases hm
theorem flow_any {a0 : Act} {W : World} {us rd : List (Nat × List Nat)} {Φ : Nat → (Nat → Value) → World → (Nat → Prop) → Prop} (F : Flow P ops a0 W us rd Φ) {Q : Exit → Act → World → Prop} (hQ : ∀ b w, (∀ L : Array Bool, (∀ i, i < ops.size → L.getD i false = true) → FlowInv ops a0 W us Φ L b w → Q .normal b w)) :
  ∀ (n : Nat) (L : Array Bool) (b : Act) (w : World), unl ops.size L = n → FlowInv ops a0 W us Φ L b w → wpAny P .any ops Q n L b w
 | 0, L, b, w, hn, I => by
  have hall : ∀ i, i < ops.size → L.getD i false = true := fun i hi => by
   unfold unl at hn
   have := List.countP_eq_zero.1 hn i (List.mem_range.2 hi)
   simpa using this
  refine ⟨?_, hQ b w L hall I⟩
  cases hr : Region.ready .any ops L with
  | nil => rfl
  | cons x xs =>
   obtain ⟨h1, o, ho, _⟩ := mem_ready.1 (show x ∈ Region.ready .any ops L by rw [hr]; exact List.mem_cons_self)
   have := hall x (Array.getElem?_eq_some_iff.1 ho).1
   rw [getD_tf h1] at this; cases this
 | n + 1, L, b, w, hn, I => by
  refine ⟨fun hr => hQ b w L (flow_done F.ok I.lsize hr) I, fun i hi => ?_⟩
  obtain ⟨h1, o, ho, _⟩ := mem_ready.1 hi
  have hil := (Array.getElem?_eq_some_iff.1 ho).1
  have := unl_step I.lsize hil (getD_tf h1)
  exact wpOp_mono (fun b' w' I' => flow_any F hQ n _ b' w' (by omega) I') (flow_step F I hi)
/-- The frame behind the region: each slot that it writes holds a value. -/
def putAll (a0 : Act) (f : Nat → Value) : List (Nat × Option Tmp) → Act
 | [] => a0
 | (j, d) :: l => (putAll a0 f l).put d (f j)
theorem putAll_get (a0 : Act) (f : Nat → Value) (t : Tmp) : ∀ (l : List (Nat × Option Tmp)), (∀ p ∈ l, p.2 = some t → t < a0.tmps.size) → (∀ p ∈ l, ∀ q ∈ l, p.2 = some t → q.2 = some t → p.1 = q.1) → (putAll a0 f l).tmps.getD t undef = match l.find? fun p => p.2 == some t with | some p => f p.1 | none => a0.tmps.getD t undef
 | [], _, _ => rfl
 | (j, d) :: l, h1, h2 => by
  have hs : ∀ l : List (Nat × Option Tmp), (putAll a0 f l).tmps.size = a0.tmps.size := by
   intro l
   induction l with
   | nil => rfl
   | cons p l ih => obtain ⟨j, d⟩ := p; unfold putAll; rw [put_size]; exact ih
  unfold putAll
  by_cases hd : d = some t
  ·subst hd
   rw [getD_put_self (by rw [hs]; exact h1 _ List.mem_cons_self rfl)]
   simp
  ·rw [getD_put_ne hd, putAll_get a0 f t l (fun p hp => h1 p (List.mem_cons_of_mem _ hp)) (fun p hp q hq => h2 p (List.mem_cons_of_mem _ hp) q (List.mem_cons_of_mem _ hq))]
   rw [List.find?_cons_of_neg (by simpa using hd)]
theorem act_ext {a b : Act} (hs : a.tmps.size = b.tmps.size) (hd : a.defers = b.defers) (h : ∀ t, a.tmps.getD t undef = b.tmps.getD t undef) : a = b := by
 obtain ⟨at_, ad⟩ := a
 obtain ⟨bt, bd⟩ := b
 simp only at hs hd h
 subst hd
 congr 1
 apply Array.ext hs
 intro i h1 h2
 have := h i
 simpa [h1, h2] using this
/-- A region that draws its order, by its flow. -/
theorem wp_flow {id : Nat} {a : Act} {W : World} {l : List Oper} {us rd : List (Nat × List Nat)} {Φ : Nat → (Nat → Value) → World → (Nat → Prop) → Prop} {Q : Exit → Act → World → Prop} (hm : P.follows .mixedOrders = true) (F : Flow P l.toArray a W.drew us rd Φ)
  (h : ∀ (f : Nat → Value) (w : World) (S : Nat → Nat → Prop), Below W.heap.size W w → (∀ j, j < l.length → (∀ i, i < l.length → j ∉ usesOf us i) → Φ j f w (S j) ∧ ∀ g, S j g → W.heap.size ≤ g ∧ g < w.heap.size) →
   (∀ j k, j < l.length → k < l.length → (∀ i, i < l.length → j ∉ usesOf us i) → (∀ i, i < l.length → k ∉ usesOf us i) → j ≠ k → ∀ g, S j g → ¬S k g) →
   Q .normal (putAll a f ((List.range l.length).map fun j => (j, dstOf l.toArray j))) w) : (Code.region id l.toArray true).wp P Q a W := by
 refine wp_region_any hm ?_
 refine flow_any F (fun b w L hL I => ?_) _ _ _ _ ?_ ?_
 ·obtain ⟨S, h1, h2⟩ := I.own
  have hlv : ∀ j, j < l.length → (∀ i, i < l.length → j ∉ usesOf us i) → liveP l.toArray us L j := fun j hj hn => ⟨by simpa using hj, hL j (by simpa using hj), fun i hi hu => absurd hu (hn i (by simpa using hi))⟩
  have := h (valF l.toArray b) w S ((RowKit.Below.refl W.heap.size W).drew.trans I.bel) (fun j hj hn => h1 j (hlv j hj hn)) (fun j k hj hk hjn hkn hne => h2 j k (hlv j hj hjn) (hlv k hk hkn) hne)
  have e : b = putAll a (valF l.toArray b) ((List.range l.length).map fun j => (j, dstOf l.toArray j)) := by
   have hs : ∀ l' : List (Nat × Option Tmp), (putAll a (valF l.toArray b) l').tmps.size = a.tmps.size ∧ (putAll a (valF l.toArray b) l').defers = a.defers := by
    intro l'
    induction l' with
    | nil => exact ⟨rfl, rfl⟩
    | cons p l' ih => obtain ⟨j, d⟩ := p; unfold putAll; rw [put_size, put_defs]; exact ih
   refine act_ext (by rw [(hs _).1]; exact I.size) (by rw [(hs _).2]; exact I.defs) (fun t => ?_)
   have dOf : ∀ j, j < l.toArray.size → ∀ t, dstOf l.toArray j = some t → t < a.tmps.size ∧ ∀ k, k < l.toArray.size → dstOf l.toArray k = some t → k = j := fun j hj t hd => by
    obtain ⟨o, ho⟩ : ∃ o, l.toArray[j]? = some o := ⟨_, Array.getElem?_eq_some_iff.2 ⟨hj, rfl⟩⟩
    have hot : o.dst = some t := by unfold dstOf at hd; rw [ho] at hd; exact hd
    exact (flow_at F.ok ho).dst t hot
   rw [putAll_get]
   ·cases hf : ((List.range l.length).map fun j => (j, dstOf l.toArray j)).find? fun p => p.2 == some t with
    | some p =>
     have q1 := List.find?_some hf
     have q2 := List.mem_of_find?_eq_some hf
     obtain ⟨j, hj, rfl⟩ := List.mem_map.1 q2
     simp only [beq_iff_eq] at q1
     show _ = valF l.toArray b j
     unfold valF
     rw [q1]
    | none =>
     refine I.far t (fun j hj he => ?_)
     have := List.find?_eq_none.1 hf (j, dstOf l.toArray j) (List.mem_map.2 ⟨j, List.mem_range.2 (by simpa using hj), rfl⟩)
     simp [he] at this
   ·intro p hp hpt
    obtain ⟨j, hj, rfl⟩ := List.mem_map.1 hp
    exact (dOf j (by simpa using hj) t hpt).1
   ·intro p hp q hq hpt hqt
    obtain ⟨j, hj, rfl⟩ := List.mem_map.1 hp
    obtain ⟨k, hk, rfl⟩ := List.mem_map.1 hq
    exact ((dOf k (by simpa using hk) t hqt).2 j (by simpa using hj) hpt)
  rw [e]
  exact this
 ·unfold unl
  rw [List.countP_eq_length.2 (fun i hi => by rw [getD_replicate_false]; rfl), List.length_range]
 ·refine ⟨Below.refl _ _, rfl, rfl, fun t _ => rfl, (fun i hi h => by rw [getD_replicate_false] at h; cases h), by simp, fun _ _ => False, fun j hj => ?_, fun j k hj => ?_⟩
  ·have := hj.2.1; rw [getD_replicate_false] at this; cases this
  ·have := hj.2.1; rw [getD_replicate_false] at this; cases this
end
end Go.Vi
