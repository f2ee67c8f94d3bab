/-
  The least sums of chains.
-/
import Derived.Test.YtmplajpbmojkkaaGreatClcE
set_option linter.unusedSimpArgs false
set_option linter.unusedVariables false
namespace Go.Proofs.YtmplajpbmojkkaaGreat
open Go Go.RowKit Go.Vi
attribute [local go_sem ↓] lo_lt lo_ne lo_ne'
attribute [local go_sem] junk_cell junk_frozen junk_setCell junk_drew drew_junk
/-- Does exchange number i make a sum less? -/
def upd (L : List Exc) (D : List (Int × Int)) (i : Nat) : Bool := match Vi.look D L[i]!.frm with
  | none => false
  | some a => match Vi.look D L[i]!.dst with
    | none => true
    | some b => decide (a + wgt L[i]! < b)
def nws (L : List Exc) (D : List (Int × Int)) (i : Nat) : Int := (Vi.look D L[i]!.frm).getD 0 + wgt L[i]!
/-- What holds in round r ahead of exchange i; from round K on nothing gets less. -/
structure SrI (L : List Exc) (K : Nat) (I : Nat → Nat → List (Int × Int) → List (Int × Int) → Prop) (D0 : List (Int × Int)) : Prop where
  h0 : I 0 0 D0 []
  up : ∀ r i D Y, i < L.length → I r i D Y → upd L D i = true → r < K ∧ I r (i + 1) (put D L[i]!.dst (nws L D i)) (put Y L[i]!.dst i)
  no : ∀ r i D Y, i < L.length → I r i D Y → upd L D i = false → I r (i + 1) D Y
  nx : ∀ r D Y, I r L.length D Y → I (r + 1) 0 D Y
  bd : ∀ r i D Y, I r i D Y → ∀ x s, Vi.look D x = some s → -1125899906842624 ≤ s ∧ s ≤ 1125899906842624
def ini (ds : List Int) : List (Int × Int) := ds.foldl (fun D d => put D d 0) []
theorem obj_mset {w : World} {b g : Nat} {k : Int} {v : Value} {o : Obj} (h : w.heap[g]? = some o) (hne : ¬ g = b) : (mset w b k v).heap[g]? = some o := by
  simp only [mset, Array.getElem?_modify]
  rw [if_neg (fun e => hne e.symm)]; exact h
theorem imap_mset {w : World} {b g : Nat} {E : List (Int × Value)} {k : Int} {v : Value} (h : IMap w g E) (hne : ¬ g = b) : IMap (mset w b k v) g E :=
  h.kept (mset_grown w b k v) (fun e => hne (by injection e))
/-- The memory of a search. -/
structure FrM (w : World) (bg br bs b1 b2 : Nat) (G : Array Value) (D Y : List (Int × Int)) (wr : World) : Prop where
  g : wr.heap[bg]? = some (.cells G 125 (0, 0))
  r : wr.heap[br]? = some (.cells #[.map none, .map none] 128 (0, 0))
  s : wr.heap[bs]? = some (.cells #[.map (some b1), .map (some b2)] 128 (0, 0))
  m1 : IMap wr b1 (ivI D)
  m2 : IMap wr b2 (ivI Y)
  b : Below w.heap.size w wr
theorem FrM.keep {w : World} {bg br bs b1 b2 : Nat} {G : Array Value} {D Y : List (Int × Int)} {wr w' : World} (h : FrM w bg br bs b1 b2 G D Y wr) (hb : Below wr.heap.size wr w') : FrM w bg br bs b1 b2 G D Y w' :=
  ⟨keepObj hb h.g, keepObj hb h.r, keepObj hb h.s, h.m1.keep hb, h.m2.keep hb, h.b.trans (hb.mono h.b.size)⟩
structure Far (w : World) (bg br bs b1 b2 : Nat) : Prop where
  d : ¬ bg = b1 ∧ ¬ br = b1 ∧ ¬ bs = b1 ∧ ¬ bg = b2 ∧ ¬ br = b2 ∧ ¬ bs = b2 ∧ ¬ b1 = b2 ∧ ¬ b2 = b1 ∧ ¬ br = bs ∧ ¬ br = bg ∧ ¬ bg = bs
  w : w.heap.size ≤ bg ∧ w.heap.size ≤ br ∧ w.heap.size ≤ bs ∧ w.heap.size ≤ b1 ∧ w.heap.size ≤ b2
theorem FrM.set1 {w : World} {bg br bs b1 b2 : Nat} {G : Array Value} {D Y : List (Int × Int)} {wr : World} (h : FrM w bg br bs b1 b2 G D Y wr) (hF : Far w bg br bs b1 b2) (k x : Int) : FrM w bg br bs b1 b2 G (put D k x) Y (mset wr b1 k (.int .i64 x)) := by
  obtain ⟨⟨f1, f2, f3, f4, f5, f6, f7, f8, _⟩, ⟨_, _, _, g4, g5⟩⟩ := hF
  haveI : Bw w wr := ⟨h.b⟩
  exact ⟨obj_mset h.g f1, obj_mset h.r f2, obj_mset h.s f3, by rw [← put_ivI]; exact h.m1.updated k _, imap_mset h.m2 f8, (bw_mset (w := w) (X := wr) g4).b⟩
theorem FrM.set2 {w : World} {bg br bs b1 b2 : Nat} {G : Array Value} {D Y : List (Int × Int)} {wr : World} (h : FrM w bg br bs b1 b2 G D Y wr) (hF : Far w bg br bs b1 b2) (k x : Int) : FrM w bg br bs b1 b2 G D (put Y k x) (mset wr b2 k (.int .i64 x)) := by
  obtain ⟨⟨f1, f2, f3, f4, f5, f6, f7, f8, _⟩, ⟨_, _, _, g4, g5⟩⟩ := hF
  haveI : Bw w wr := ⟨h.b⟩
  exact ⟨obj_mset h.g f4, obj_mset h.r f5, obj_mset h.s f6, imap_mset h.m1 f7, by rw [← put_ivI]; exact h.m2.updated k _, (bw_mset (w := w) (X := wr) g5).b⟩
def mE (w : World) (b : Nat) (o : Obj) : World := { w with heap := w.heap.modify b (fun _ => o) }
theorem mE_obj {w : World} {b : Nat} {o o2 : Obj} (h : w.heap[b]? = some o) : (mE w b o2).heap[b]? = some o2 := by simp [mE, Array.getElem?_modify, h]
theorem mE_cell {w : World} {b g i : Nat} {o : Obj} (h : ¬ g = b) : (mE w b o).cell? ⟨g, i, none⟩ = w.cell? ⟨g, i, none⟩ := by
  simp only [World.cell?, mE, Array.getElem?_modify]
  rw [if_neg (fun e => h e.symm)]
theorem mE_mE (w : World) (b : Nat) (o1 o2 : Obj) : mE (mE w b o1) b o2 = mE w b o2 := by
  have e : (w.heap.modify b (fun _ => o1)).modify b (fun _ => o2) = w.heap.modify b (fun _ => o2) := by
    apply Array.ext_getElem?
    intro i
    rw [Array.getElem?_modify, Array.getElem?_modify, Array.getElem?_modify]
    by_cases h : b = i
    · simp only [h, if_true]; cases w.heap[i]? <;> rfl
    · simp [h]
  simp only [mE, e]
theorem mset_mE {w : World} {b : Nat} {o : Obj} (h : w.heap[b]? = some o) (k : Int) (v : Value) : mset w b k v = mE w b (mput k v o) := by
  have e : w.heap.modify b (mput k v) = w.heap.modify b (fun _ => mput k v o) := by
    apply Array.ext_getElem?
    intro i
    rw [Array.getElem?_modify, Array.getElem?_modify]
    by_cases hi : b = i
    · subst hi; simp [h]
    · simp [hi]
  simp only [mset, mE, e]
theorem setIf_mE {w : World} {b : Nat} {o : Obj} (h : w.heap[b]? = some o) (o2 : Obj) : ({ w with heap := w.heap.setIfInBounds b o2 } : World) = mE w b o2 := by
  have e : w.heap.setIfInBounds b o2 = w.heap.modify b (fun _ => o2) := by
    apply Array.ext_getElem?
    intro i
    rw [Array.getElem?_setIfInBounds, Array.getElem?_modify]
    by_cases hi : b = i
    · subst hi; simp [obj_lt h, h]
    · simp [hi]
  simp only [mE, e]
theorem imap_mE {w : World} {b g : Nat} {E : List (Int × Value)} {o : Obj} (h : IMap w g E) (hne : ¬ g = b) : IMap (mE w b o) g E := by
  obtain ⟨es, c, h1, h2⟩ := h
  refine ⟨es, c, ?_, h2⟩
  simp only [mE, Array.getElem?_modify]
  rw [if_neg (fun e => hne e.symm)]; exact h1
theorem born_at {l : List MapEntry} (hn : (l.map (·.born)).Nodup) {j : Nat} {e0 : MapEntry} (h : l[j]? = some e0) : l.findIdx? (fun e => ((e.born : Nat) : Int) == ((e0.born : Nat) : Int)) = some j := by
  induction l generalizing j with
  | nil => simp at h
  | cons a r ih =>
    simp only [List.map_cons, List.nodup_cons] at hn
    cases j with
    | zero =>
      simp only [List.getElem?_cons_zero, Option.some.injEq] at h
      subst h
      simp [List.findIdx?_cons]
    | succ j =>
      simp only [List.getElem?_cons_succ] at h
      have hne : a.born ≠ e0.born := fun e1 => hn.1 (List.mem_map.2 ⟨e0, List.mem_of_getElem? h, e1.symm⟩)
      have hb : (((a.born : Nat) : Int) == ((e0.born : Nat) : Int)) = false := by
        simp only [beq_eq_false_iff_ne, ne_eq, Int.natCast_inj]
        exact hne
      rw [List.findIdx?_cons, hb]
      simp [ih hn.2 h]
theorem idx_arr (xs : Array MapEntry) (p : MapEntry → Bool) : xs.findIdx? p = xs.toList.findIdx? p := by
  cases xs
  simp
/-- An entry is made, then written: as one store. -/
theorem entry_q {V : World} {b : Nat} {D : List (Int × Int)} (h : IMap V b (ivI D)) (k : Int) :
    ∃ (v0 : Value) (st : Nat) (o o1 : Obj), V.heap[b]? = some o ∧ (∀ W : World, W.heap[b]? = some o → (Instr.mapEntry 78 (.map (some b)) (.int .i64 k)).run Tryz.prog W = .ok (.tuple #[v0, .int .i64 st]) (mE W b o1)) ∧
      ∀ (W : World) (val : Value), W.heap[b]? = some o1 → (Instr.entryStore 78 (.map (some b)) (.int .i64 st) val).run Tryz.prog W = .ok () (mE W b (mput k val o)) := by
  obtain ⟨es, clock, hb, h2, h3, h4, h5⟩ := h
  have hnd : (es.toList.map (·.born)).Nodup := List.pairwise_map.2 (h4.imp (fun h e => by omega))
  have hck := fun W : World => MapKept.run_checkKey (P := Tryz.prog) (w := W) (k := .int .i64 k) uInt (by simp [MapKept.IsKey]) false 9999
  rcases find_int k es.toList (ivI D) 0 h2 with ⟨g1, g2⟩ | ⟨j, e0, g1, g2, g3, g4, _⟩
  · refine ⟨.int .i64 0, clock, .map es clock, .map (es.push ⟨.int .i64 k, .int .i64 0, clock⟩) (clock + 1), hb, fun W hW => ?_, fun W val hW => ?_⟩
    · simp [Instr.mapEntry, run_underlying uLens, MapKept.run_getObj_map hW, hck, Instr.findKey, run_underlying uInt, g2, zInt, Result.andThen, MapKept.run_setObj_map _ hW, goInt]
      exact setIf_mE hW _
    · have hidx : (es.push ⟨.int .i64 k, .int .i64 0, clock⟩).findIdx? (fun e => ((e.born : Nat) : Int) == ((clock : Nat) : Int)) = some es.size := by
        rw [idx_arr]
        refine born_at (e0 := ⟨.int .i64 k, .int .i64 0, clock⟩) ?_ (by simp)
        rw [Array.toList_push, List.map_append]
        refine List.nodup_append.2 ⟨hnd, by simp, fun a ha c hc e => ?_⟩
        obtain ⟨y, hy, rfl⟩ := List.mem_map.1 ha
        simp at hc
        have := h5 y hy
        omega
      simp only [Instr.entryStore, Sem.run_bind, MapKept.run_getObj_map hW, Result.andThen, asInt, asIntOf, Sem.run_pure, hidx]
      rw [MapKept.run_setObj_map _ hW, setIf_mE hW]
      simp only [mput, g2]
      have e : (es.push ⟨.int .i64 k, .int .i64 0, clock⟩).modify es.size (fun e => { e with val := val }) = es.push ⟨.int .i64 k, val, clock⟩ := by
        apply Array.ext_getElem?
        intro i
        rw [Array.getElem?_modify, Array.getElem?_push, Array.getElem?_push]
        by_cases hi : es.size = i
        · subst hi; simp
        · rw [if_neg hi, if_neg (fun e => hi e.symm), if_neg (fun e => hi e.symm)]
      rw [e]
  · rw [Nat.zero_add] at g4
    have hj : es[j]? = some e0 := by rw [← Array.getElem?_toList]; exact g1
    have hs : Instr.sameBits 10000 (.int .i64 k) (.int .i64 k) = true := by simp [Instr.sameBits]
    refine ⟨e0.val, e0.born, .map es clock, .map (es.modify j fun e => { e with key := .int .i64 k }) clock, hb, fun W hW => ?_, fun W val hW => ?_⟩
    · simp [Instr.mapEntry, run_underlying uLens, MapKept.run_getObj_map hW, hck, Instr.findKey, run_underlying uInt, g4, Result.andThen, MapKept.run_setObj_map _ hW, goInt, Instr.keyThatStays, hj, g2, hs]
      exact setIf_mE hW _
    · have hidx : (es.modify j fun e => { e with key := (.int .i64 k : Value) }).findIdx? (fun e => ((e.born : Nat) : Int) == ((e0.born : Nat) : Int)) = some j := by
        rw [idx_arr]
        refine born_at (e0 := { e0 with key := .int .i64 k }) ?_ (by rw [Array.toList_modify, List.getElem?_modify, g1]; simp)
        rw [Array.toList_modify]
        have e1 : (es.toList.modify j fun e => { e with key := (.int .i64 k : Value) }).map (·.born) = es.toList.map (·.born) := by
          apply List.ext_getElem?
          intro i
          rw [List.getElem?_map, List.getElem?_modify, List.getElem?_map]
          cases es.toList[i]? with
          | none => rfl
          | some y => by_cases h : j = i <;> simp [h]
        rw [e1]; exact hnd
      simp only [Instr.entryStore, Sem.run_bind, MapKept.run_getObj_map hW, Result.andThen, asInt, asIntOf, Sem.run_pure, hidx]
      rw [MapKept.run_setObj_map _ hW, setIf_mE hW]
      simp only [mput, g4]
      have e : (es.modify j fun e => { e with key := (.int .i64 k : Value) }).modify j (fun e => { e with val := val }) = es.modify j fun e => { e with key := .int .i64 k, val := val } := by
        apply Array.ext_getElem?
        intro i
        rw [Array.getElem?_modify, Array.getElem?_modify, Array.getElem?_modify]
        by_cases h : j = i
        · simp only [h, if_true]; cases es[i]? <;> rfl
        · simp [h]
      rw [e]
def FromOut (L : List Exc) (I : Nat → Nat → List (Int × Int) → List (Int × Int) → Prop) (w : World) (e : Ending) (w' : World) : Prop := ∃ (b1 b2 : Nat) (D Y : List (Int × Int)) (r : Nat), e = .returned (.tuple #[.agg #[.map (some b1), .map (some b2)], .int .i64 (-1)]) ∧ IMap w' b1 (ivI D) ∧ IMap w' b2 (ivI Y) ∧ I r L.length D Y ∧ (∀ i, i < L.length → upd L D i = false) ∧ Below w.heap.size w w'
set_option maxRecDepth 100000 in
set_option maxHeartbeats 8000000 in
theorem from_q (L : List Exc) (v vs vd : Value) (ds : List Int) (size K : Nat) (I : Nat → Nat → List (Int × Int) → List (Int × Int) → Prop) (w : World) (hv : Sl w.heap.size w 5 v (L.map Exc.cs)) (hvs : Sl w.heap.size w 1 vs ((allI L.length).map i1)) (hvd : Sl w.heap.size w 1 vd (ds.map i1)) (hL : ∀ x ∈ L, ExOK x) (hm : L.length ≤ 100) (hds : ds.length ≤ 201) (hsz : size ≤ 201) (hK : K ≤ size) (hI : SrI L K I (ini ds)) :
    Calls Tryz.prog 42 #[.agg #[v, vs, .int .i64 size], vd] w (FromOut L I w) := by
  obtain ⟨a, n, cap, rfl, hn, _, _⟩ := hv.open
  obtain ⟨aS, nS, cS, rfl, hns, _, _⟩ := hvs.open
  obtain ⟨ad, nd, cd, rfl, hnd, _, _⟩ := hvd.open
  rw [List.length_map] at hn hnd
  rw [List.length_map, allI_len, hn] at hns
  subst hns
  have HV := Lib.hid hv
  have HVS := Lib.hid hvs
  have HVD := Lib.hid hvd
  have HN := Lib.hid hn
  have HND := Lib.hid hnd
  have HL := Lib.hid hL
  have HI := Lib.hid hI
  have hn100 : n ≤ 100 := by omega
  have hnd201 : nd ≤ 201 := by omega
  have hmm := @run_makeMap Tryz.prog
  clear hv hvs hvd hn hnd hL hm hds hI
  go_enter Tryz.func42, Tryz.ntmps42
  go_wp2_with fail
  obtain ⟨V, hV⟩ : ∃ V, V = (((((w.alloc (.cells #[.slice a n cap, .slice aS n cS, .int .i64 size] 125)).alloc (.cells #[.map none, .map none] 128)).alloc (.map #[] 0)).alloc (.map #[] 0)).alloc (.cells #[.map (some (w.heap.size + 1 + 1)), .map (some (w.heap.size + 1 + 1 + 1))] 128)) := ⟨_, rfl⟩
  have HF : Hid (Far w w.heap.size (w.heap.size + 1) (w.heap.size + 1 + 1 + 1 + 1) (w.heap.size + 1 + 1) (w.heap.size + 1 + 1 + 1)) := Lib.hid ⟨by refine ⟨?_, ?_, ?_, ?_, ?_, ?_, ?_, ?_, ?_, ?_, ?_⟩ <;> omega, by refine ⟨?_, ?_, ?_, ?_, ?_⟩ <;> omega⟩
  have HM : Hid (FrM w w.heap.size (w.heap.size + 1) (w.heap.size + 1 + 1 + 1 + 1) (w.heap.size + 1 + 1) (w.heap.size + 1 + 1 + 1) #[.slice a n cap, .slice aS n cS, .int .i64 size] [] [] V) := Lib.hid ⟨by rw [hV]; exact obj_old (obj_old (obj_old (obj_old (obj_last _ _)))), by rw [hV]; exact obj_old (obj_old (obj_old (obj_last2 _ _ _))), by
    rw [hV]
    have q := obj_last ((((w.alloc (.cells #[.slice a n cap, .slice aS n cS, .int .i64 size] 125)).alloc (.cells #[.map none, .map none] 128)).alloc (.map #[] 0)).alloc (.map #[] 0)) (.cells #[.map (some (w.heap.size + 1 + 1)), .map (some (w.heap.size + 1 + 1 + 1))] 128)
    simpa using q, by
    rw [hV]
    have q := IMap.made ((w.alloc (.cells #[.slice a n cap, .slice aS n cS, .int .i64 size] 125)).alloc (.cells #[.map none, .map none] 128))
    have q2 := (q.keep ((Below.refl _ _).alloc (Nat.le_refl _) (.map #[] 0))).keep ((Below.refl _ _).alloc (Nat.le_refl _) (.cells #[.map (some (w.heap.size + 1 + 1)), .map (some (w.heap.size + 1 + 1 + 1))] 128))
    simpa [ivI] using q2, by
    rw [hV]
    have q := IMap.made (((w.alloc (.cells #[.slice a n cap, .slice aS n cS, .int .i64 size] 125)).alloc (.cells #[.map none, .map none] 128)).alloc (.map #[] 0))
    have q2 := q.keep ((Below.refl _ _).alloc (Nat.le_refl _) (.cells #[.map (some (w.heap.size + 1 + 1)), .map (some (w.heap.size + 1 + 1 + 1))] 128))
    simpa [ivI] using q2, by rw [hV]; exact Bw.b⟩
  rw [← hV]
  clear hV hmm
  generalize w.heap.size + 1 + 1 + 1 + 1 = bs at *
  generalize w.heap.size + 1 + 1 + 1 = b2 at *
  generalize w.heap.size + 1 + 1 = b1 at *
  generalize w.heap.size + 1 = br at *
  generalize hbg : w.heap.size = bg at HF HM ⊢
  clear hbg
  go_loopw [27] (fun s27 wr => ∃ (k : Nat), s27 = .int .i64 k ∧ k ≤ nd ∧ Hid (FrM w bg br bs b1 b2 #[.slice a n cap, .slice aS n cS, .int .i64 size] (ini (ds.take k)) [] wr)) (fun s27 _ => nd - (intOf s27).toNat)
  case atStart => exact ⟨0, rfl, Nat.zero_le _, HM⟩
  case round =>
    clear HM
    obtain ⟨k, rfl, hk, HM⟩ := hrel
    have s0 := obj_cell HM.out.s 0
    simp at s0
    by_cases hlt : k < nd
    · have hkl : k < ds.length := by rw [HND.out]; exact hlt
      obtain ⟨b, off, rfl, hb, c0⟩ := i1_cells HVD.out k hkl
      rw [← HM.out.b.cell (p := ⟨b, _, none⟩) hb] at c0
      have hT : ini (ds.take (k + 1)) = put (ini (ds.take k)) ds[k]! 0 := by
        unfold ini
        rw [List.take_add_one, List.getElem?_eq_getElem hkl, getElem!_pos ds k hkl, List.foldl_append]; rfl
      have HM2 := Lib.hid (HM.out.set1 HF.out ds[k]! 0)
      rw [← hT] at HM2
      clear hT
      generalize ds[k]! = x at *
      have hu := HM.out.m1.update (P := Tryz.prog) uLens tInt x (.int .i64 0)
      go_wp2_with fail
      go_roundw
      case rel => exact ⟨k + 1, by go_num, by omega, HM2⟩
      case measure => simp [intOf]; omega
    · obtain rfl : k = nd := by omega
      have HM2 : Hid (FrM w bg br bs b1 b2 #[.slice a n cap, .slice aS n cS, .int .i64 size] (ini ds) [] wr) := Lib.hid (by have h := HM.out; rwa [List.take_of_length_le (by rw [HND.out]; exact Nat.le_refl _)] at h)
      have g2 := obj_cell HM2.out.g 2
      simp at g2
      have hws : IntKind.i64.wrap ((size : Int) + 1) = (size : Int) + 1 := IntWalk.i64_in _ (by omega)
      clear HM s0
      go_wp2_with fail
      clear g2
      go_loopw [38] (fun s38 wx => ∃ (r : Nat) (D Y : List (Int × Int)), s38 = .int .i64 r ∧ r ≤ K ∧ Hid (I r 0 D Y) ∧ Hid (FrM w bg br bs b1 b2 #[.slice a n cap, .slice aS n cS, .int .i64 size] D Y wx)) (fun s38 _ => size + 1 - (intOf s38).toNat)
      case atStart => exact ⟨0, ini ds, [], rfl, Nat.zero_le _, Lib.hid HI.out.h0, HM2⟩
      case round =>
        clear HM2
        obtain ⟨r, D, Y, rfl, hr, HIr, HM⟩ := hrel
        have g0 := obj_cell HM.out.g 0
        have g1 := obj_cell HM.out.g 1
        simp at g0 g1
        have hrs : (r : Int) < (size : Int) + 1 := by omega
        go_wp2_with fail
        clear g0 g1
        go_loopw [43, 9] (fun s43 s9 wx => ∃ (k : Nat) (D2 Y2 : List (Int × Int)) (l : Int), s43 = .int .i64 k ∧ s9 = .int .i64 l ∧ k ≤ n ∧ Hid (I r k D2 Y2) ∧ Hid (FrM w bg br bs b1 b2 #[.slice a n cap, .slice aS n cS, .int .i64 size] D2 Y2 wx) ∧ Hid ((l = -1 ∧ D2 = D ∧ Y2 = Y ∧ ∀ i, i < k → upd L D i = false) ∨ (0 ≤ l ∧ l ≤ 100 ∧ r < K))) (fun s43 _ _ => n - (intOf s43).toNat)
        case atStart => exact ⟨0, D, Y, -1, rfl, rfl, Nat.zero_le _, HIr, HM, Lib.hid (.inl ⟨rfl, rfl, rfl, fun i h => by omega⟩)⟩
        case round =>
          -- ROUND
          clear HM HIr
          obtain ⟨k, D2, Y2, l, rfl, rfl, hk, HIk, HM, HC⟩ := hrel

          have s0 := obj_cell HM.out.s 0
          have s1 := obj_cell HM.out.s 1
          have g0 := obj_cell HM.out.g 0
          simp at s0 s1 g0
          haveI ls : Lo bs wr := ⟨obj_lt HM.out.s⟩
          haveI lg : Lo bg wr := ⟨obj_lt HM.out.g⟩
          by_cases hlt : k < n
          · have hkl : k < L.length := by rw [HN.out]; exact hlt
            obtain ⟨b, off, rfl, hb, c0, c1, c2, c3, c4⟩ := ex_cells HV.out k hkl
            obtain ⟨bi, offi, rfl, hbi, ci⟩ := i1_cells HVS.out k (by rw [allI_len]; exact hkl)
            rw [allI_at hkl] at ci
            rw [← HM.out.b.cell (p := ⟨b, _, none⟩) hb] at c0 c1 c2 c3 c4
            rw [← HM.out.b.cell (p := ⟨bi, _, none⟩) hbi] at ci
            haveI lb : Lo b wr := ⟨Nat.lt_of_lt_of_le hb HM.out.b.size⟩
            haveI lbi : Lo bi wr := ⟨Nat.lt_of_lt_of_le hbi HM.out.b.size⟩
            have hmem : L[k]! ∈ L := by rw [getElem!_pos L k hkl]; exact List.getElem_mem hkl
            have HXO := Lib.hid (HL.out _ hmem)
            have HNO : Hid (upd L D2 k = false → Hid (I r (k + 1) D2 Y2)) := Lib.hid (fun h => Lib.hid (HI.out.no r k D2 Y2 hkl HIk.out h))
            have HUP : Hid (upd L D2 k = true → r < K ∧ I r (k + 1) (put D2 L[k]!.dst (nws L D2 k)) (put Y2 L[k]!.dst k)) := Lib.hid (fun h => HI.out.up r k D2 Y2 hkl HIk.out h)
            have HUD : Hid (upd L D2 k = match Vi.look D2 L[k]!.frm with | none => false | some a => match Vi.look D2 L[k]!.dst with | none => true | some b => decide (a + wgt L[k]! < b)) := Lib.hid rfl
            have HNW : Hid (nws L D2 k = (Vi.look D2 L[k]!.frm).getD 0 + wgt L[k]!) := Lib.hid rfl
            have HBD := Lib.hid (fun x s h => HI.out.bd r k D2 Y2 HIk.out x s h)
            generalize L[k]! = x at *
            have hl1 := look_two (w := wr.alloc (.cells #[.int .i64 x.frm, .int .i64 x.dst, .int .i64 x.sent, .int .i64 x.got, .int .i64 x.least] 81)) (HM.out.m1.keep ((Below.refl _ _).alloc (Nat.le_refl _) _)) x.frm
            have hl2 := look_two (w := wr.alloc (.cells #[.int .i64 x.frm, .int .i64 x.dst, .int .i64 x.sent, .int .i64 x.got, .int .i64 x.least] 81)) (HM.out.m1.keep ((Below.refl _ _).alloc (Nat.le_refl _) _)) x.dst
            have HWT := Lib.hid (fun w' => weight_q x w' HXO.out)
            have HWB : Hid (-4398046511104 ≤ wgt x ∧ wgt x ≤ 4398046511104) := Lib.hid (by obtain ⟨_, _, q1, q2, q3⟩ := HXO.out; unfold wgt; omega)
            have hwk : IntKind.i64.wrap (k : Int) = (k : Int) := IntWalk.i64_in _ (by omega)
            have hk0 : (0 : Int) ≤ (k : Int) := by omega
            have hkn : (k : Int) < (n : Int) := by omega
            clear hmem
            cases hA : Vi.look D2 x.frm with
            | none =>
              have huf : upd L D2 k = false := by rw [HUD.out, hA]
              rw [hA] at hl1
              simp only [Option.getD_none, Option.isSome_none] at hl1
              have HUF := Lib.hid huf
              clear hA huf
              go_wp2_with fail
              have huf := HUF.out
              go_roundw
              case rel =>
                refine ⟨k + 1, D2, Y2, l, by go_num, rfl, by omega, HNO.out huf, Lib.hid (HM.out.keep Bw.b), Lib.hid ?_⟩
                rcases HC.out with ⟨h1, h2, h3, h4⟩ | h
                · refine .inl ⟨h1, h2, h3, fun i hi => ?_⟩
                  rcases Nat.lt_or_eq_of_le (Nat.le_of_lt_succ hi) with h | h
                  · exact h4 i h
                  · rw [h, ← h2]; exact huf
                · exact .inr h
              case measure => simp [intOf]; omega
            | some sa =>
              have hsa := HBD.out _ _ hA
              have HNW2 : Hid (nws L D2 k = sa + wgt x) := Lib.hid (by rw [HNW.out, hA]; rfl)
              have hwb := HWB.out
              have hws : IntKind.i64.wrap (sa + wgt x) = sa + wgt x := IntWalk.i64_in _ (by omega)
              cases hB : Vi.look D2 x.dst with
              | none =>
                have hut : upd L D2 k = true := by rw [HUD.out, hA]; simp only; rw [hB]
                have HU := Lib.hid (HUP.out hut)
                rw [hA] at hl1
                rw [hB] at hl2
                simp only [Option.getD_none, Option.isSome_none, Option.getD_some, Option.isSome_some] at hl1 hl2
                rw [HNW2.out] at HU
                have HA := Lib.hid hA
                clear hA hB hut HUP HNO HUD HNW HIk
                go_upto_region 17 with fail
                obtain ⟨V, hV⟩ : ∃ V, V = (wr.alloc (.cells #[.int .i64 x.frm, .int .i64 x.dst, .int .i64 x.sent, .int .i64 x.got, .int .i64 x.least] 81)) := ⟨_, rfl⟩
                have HMV : Hid (FrM w bg br bs b1 b2 _ D2 Y2 V) := Lib.hid (by rw [hV]; exact HM.out.keep Bw.b)
                have HXV : Hid (V.heap[wr.heap.size]? = some (.cells #[.int .i64 x.frm, .int .i64 x.dst, .int .i64 x.sent, .int .i64 x.got, .int .i64 x.least] 81 (0, 0))) := Lib.hid (by rw [hV]; first | exact obj_last _ _ | exact obj_junk (obj_last _ _))
                have m1 : ¬ wr.heap.size = b1 := by have := HM.out.m1.lt; omega
                have m2 : ¬ wr.heap.size = b2 := by have := HM.out.m2.lt; omega
                rw [← hV]
                clear hV s0 s1 g0 ls lg lb lbi c0 c1 c2 c3 c4 ci hl1 hl2
                generalize wr.heap.size = bx at *
                have s0 := obj_cell HMV.out.s 0
                have s1 := obj_cell HMV.out.s 1
                have x0 := obj_cell HXV.out 0
                have x1 := obj_cell HXV.out 1
                have x2 := obj_cell HXV.out 2
                have x3 := obj_cell HXV.out 3
                have x4 := obj_cell HXV.out 4
                simp at s0 s1 x0 x1 x2 x3 x4
                haveI lsv : Lo bs V := ⟨obj_lt HMV.out.s⟩
                haveI lxv : Lo bx V := ⟨obj_lt HXV.out⟩
                obtain ⟨v0, st, o, o1, ho, hme0, hes0⟩ := entry_q HMV.out.m1 x.dst
                have hbb := HF.out.d
                obtain ⟨_, _, q3, _, _, q6, q7, q8, _⟩ := hbb
                have hme : ∀ A, (Instr.mapEntry 78 (.map (some b1)) (.int .i64 x.dst)).run Tryz.prog (V.junk A) = .ok (.tuple #[v0, .int .i64 st]) (mE (V.junk A) b1 o1) := fun A => hme0 _ (obj_junk ho)
                have hes : ∀ A, (Instr.entryStore 78 (.map (some b1)) (.int .i64 st) (.int .i64 (sa + wgt x))).run Tryz.prog (mE (V.junk A) b1 o1) = .ok () (mE (mE (V.junk A) b1 o1) b1 (mput x.dst (.int .i64 (sa + wgt x)) o)) := fun A => hes0 _ _ (mE_obj (obj_junk ho))
                have hmu : ∀ A, (Instr.mapUpdate 78 (.map (some b2)) (.int .i64 x.dst) (.int .i64 k)).run Tryz.prog (mE (mE (V.junk A) b1 o1) b1 (mput x.dst (.int .i64 (sa + wgt x)) o)) = .ok () (mset (mE (mE (V.junk A) b1 o1) b1 (mput x.dst (.int .i64 (sa + wgt x)) o)) b2 x.dst (.int .i64 k)) := fun A => (imap_mE (imap_mE (HMV.out.m2.keep (junk_below V A)) q8) q8).update uLens tInt x.dst (.int .i64 k)
                have HO := Lib.hid ho
                clear ho hme0 hes0
                go_region_held3 (fun w' => w'.cell? ⟨bs, 0, none⟩ = some (.map (some b1)) ∧ w'.cell? ⟨bs, 1, none⟩ = some (.map (some b2)) ∧ w'.cell? ⟨bx, 0, none⟩ = some (.int .i64 x.frm) ∧ w'.cell? ⟨bx, 1, none⟩ = some (.int .i64 x.dst) ∧ w'.cell? ⟨bx, 2, none⟩ = some (.int .i64 x.sent) ∧ w'.cell? ⟨bx, 3, none⟩ = some (.int .i64 x.got) ∧ w'.cell? ⟨bx, 4, none⟩ = some (.int .i64 x.least)) (refine ⟨?_, ?_, ?_, ?_, ?_, ?_, ?_⟩ <;> simp [go_sem, mE_cell, mset_cell, q3, q6, m1, m2, s0, s1, x0, x1, x2, x3, x4]) (first | ((with_reducible refine (jk (HWT.out _)).mono ?_); rintro e _ ⟨rfl, X, rfl⟩) | fail)
                all_goals
                  go_wp2_with fail
                  go_roundw
                  case rel =>
                    refine ⟨k + 1, put D2 x.dst (sa + wgt x), put Y2 x.dst k, (k : Int), by go_num, rfl, by omega, Lib.hid HU.out.2, Lib.hid ?_, Lib.hid (.inr ⟨by omega, by omega, HU.out.1⟩)⟩
                    rw [mE_mE, ← mset_mE (obj_junk HO.out)]
                    exact ((HMV.out.keep (junk_below V X)).set1 HF.out x.dst (sa + wgt x)).set2 HF.out x.dst k
                  case measure => simp [intOf]; omega
              | some sb =>
                have hsb := HBD.out _ _ hB
                by_cases hlt2 : sa + wgt x < sb
                · have hut : upd L D2 k = true := by rw [HUD.out, hA]; simp only; rw [hB]; simpa using hlt2
                  have HU := Lib.hid (HUP.out hut)
                  rw [hA] at hl1
                  rw [hB] at hl2
                  simp only [Option.getD_some, Option.isSome_some] at hl1 hl2
                  rw [HNW2.out] at HU
                  clear hA hB hut HUP HNO HUD HNW HIk
                  have hd : decide (sa + wgt x < sb) = true := by simpa using hlt2
                  go_wp2_with fail
                  refine (jk (HWT.out _)).mono ?_
                  rintro e _ ⟨rfl, X1, rfl⟩
                  go_upto_region 17 with fail
                  obtain ⟨V, hV⟩ : ∃ V, V = ((wr.alloc (.cells #[.int .i64 x.frm, .int .i64 x.dst, .int .i64 x.sent, .int .i64 x.got, .int .i64 x.least] 81)).junk X1) := ⟨_, rfl⟩
                  have HMV : Hid (FrM w bg br bs b1 b2 _ D2 Y2 V) := Lib.hid (by rw [hV]; exact HM.out.keep Bw.b)
                  have HXV : Hid (V.heap[wr.heap.size]? = some (.cells #[.int .i64 x.frm, .int .i64 x.dst, .int .i64 x.sent, .int .i64 x.got, .int .i64 x.least] 81 (0, 0))) := Lib.hid (by rw [hV]; first | exact obj_last _ _ | exact obj_junk (obj_last _ _))
                  have m1 : ¬ wr.heap.size = b1 := by have := HM.out.m1.lt; omega
                  have m2 : ¬ wr.heap.size = b2 := by have := HM.out.m2.lt; omega
                  rw [← hV]
                  clear hV s0 s1 g0 ls lg lb lbi c0 c1 c2 c3 c4 ci hl1 hl2
                  generalize wr.heap.size = bx at *
                  have s0 := obj_cell HMV.out.s 0
                  have s1 := obj_cell HMV.out.s 1
                  have x0 := obj_cell HXV.out 0
                  have x1 := obj_cell HXV.out 1
                  have x2 := obj_cell HXV.out 2
                  have x3 := obj_cell HXV.out 3
                  have x4 := obj_cell HXV.out 4
                  simp at s0 s1 x0 x1 x2 x3 x4
                  haveI lsv : Lo bs V := ⟨obj_lt HMV.out.s⟩
                  haveI lxv : Lo bx V := ⟨obj_lt HXV.out⟩
                  obtain ⟨v0, st, o, o1, ho, hme0, hes0⟩ := entry_q HMV.out.m1 x.dst
                  have hbb := HF.out.d
                  obtain ⟨_, _, q3, _, _, q6, q7, q8, _⟩ := hbb
                  have hme : ∀ A, (Instr.mapEntry 78 (.map (some b1)) (.int .i64 x.dst)).run Tryz.prog (V.junk A) = .ok (.tuple #[v0, .int .i64 st]) (mE (V.junk A) b1 o1) := fun A => hme0 _ (obj_junk ho)
                  have hes : ∀ A, (Instr.entryStore 78 (.map (some b1)) (.int .i64 st) (.int .i64 (sa + wgt x))).run Tryz.prog (mE (V.junk A) b1 o1) = .ok () (mE (mE (V.junk A) b1 o1) b1 (mput x.dst (.int .i64 (sa + wgt x)) o)) := fun A => hes0 _ _ (mE_obj (obj_junk ho))
                  have hmu : ∀ A, (Instr.mapUpdate 78 (.map (some b2)) (.int .i64 x.dst) (.int .i64 k)).run Tryz.prog (mE (mE (V.junk A) b1 o1) b1 (mput x.dst (.int .i64 (sa + wgt x)) o)) = .ok () (mset (mE (mE (V.junk A) b1 o1) b1 (mput x.dst (.int .i64 (sa + wgt x)) o)) b2 x.dst (.int .i64 k)) := fun A => (imap_mE (imap_mE (HMV.out.m2.keep (junk_below V A)) q8) q8).update uLens tInt x.dst (.int .i64 k)
                  have HO := Lib.hid ho
                  clear ho hme0 hes0
                  go_region_held3 (fun w' => w'.cell? ⟨bs, 0, none⟩ = some (.map (some b1)) ∧ w'.cell? ⟨bs, 1, none⟩ = some (.map (some b2)) ∧ w'.cell? ⟨bx, 0, none⟩ = some (.int .i64 x.frm) ∧ w'.cell? ⟨bx, 1, none⟩ = some (.int .i64 x.dst) ∧ w'.cell? ⟨bx, 2, none⟩ = some (.int .i64 x.sent) ∧ w'.cell? ⟨bx, 3, none⟩ = some (.int .i64 x.got) ∧ w'.cell? ⟨bx, 4, none⟩ = some (.int .i64 x.least)) (refine ⟨?_, ?_, ?_, ?_, ?_, ?_, ?_⟩ <;> simp [go_sem, mE_cell, mset_cell, q3, q6, m1, m2, s0, s1, x0, x1, x2, x3, x4]) (first | ((with_reducible refine (jk (HWT.out _)).mono ?_); rintro e _ ⟨rfl, X, rfl⟩) | fail)
                  all_goals
                    go_wp2_with fail
                    go_roundw
                    case rel =>
                      refine ⟨k + 1, put D2 x.dst (sa + wgt x), put Y2 x.dst k, (k : Int), by go_num, rfl, by omega, Lib.hid HU.out.2, Lib.hid ?_, Lib.hid (.inr ⟨by omega, by omega, HU.out.1⟩)⟩
                      rw [mE_mE, ← mset_mE (obj_junk HO.out)]
                      exact ((HMV.out.keep (junk_below V X)).set1 HF.out x.dst (sa + wgt x)).set2 HF.out x.dst k
                    case measure => simp [intOf]; omega
                · have huf : upd L D2 k = false := by rw [HUD.out, hA]; simp only; rw [hB]; simpa using hlt2
                  rw [hA] at hl1
                  rw [hB] at hl2
                  simp only [Option.getD_some, Option.isSome_some] at hl1 hl2
                  have HUF := Lib.hid huf
                  clear hA hB huf
                  go_wp2_with fail
                  refine (jk (HWT.out _)).mono ?_
                  rintro e _ ⟨rfl, X1, rfl⟩
                  go_wp2_with fail
                  have huf := HUF.out
                  go_roundw
                  case rel =>
                    refine ⟨k + 1, D2, Y2, l, by go_num, rfl, by omega, HNO.out huf, Lib.hid (HM.out.keep Bw.b), Lib.hid ?_⟩
                    rcases HC.out with ⟨h1, h2, h3, h4⟩ | h
                    · refine .inl ⟨h1, h2, h3, fun i hi => ?_⟩
                      rcases Nat.lt_or_eq_of_le (Nat.le_of_lt_succ hi) with h | h
                      · exact h4 i h
                      · rw [h, ← h2]; exact huf
                    · exact .inr h
                  case measure => simp [intOf]; omega
          · obtain rfl : k = n := by omega
            rcases HC.out with ⟨h1, h2, h3, h4⟩ | ⟨h1, h2, h3⟩
            · subst h1 h2 h3
              haveI lr : Lo br wr := ⟨obj_lt HM.out.r⟩
              have r0 := obj_cell HM.out.r 0
              have r1 := obj_cell HM.out.r 1
              have rf0 := obj_free HM.out.r 0
              have rf1 := obj_free HM.out.r 1
              simp at r0 r1
              have HQ := Lib.hid (show ∀ i, i < L.length → upd L D2 i = false by rw [HN.out]; exact h4)
              have HIk2 : Hid (I r L.length D2 Y2) := Lib.hid (by rw [HN.out]; exact HIk.out)
              clear h4 HC
              go_wp2_with fail
              refine bodyPost_ret (v := .tuple #[.agg #[.map (some b1), .map (some b2)], .int .i64 (-1)]) ?hres rfl ?_
              case hres => simp [results, Tryz.results42, go_sem, r0, r1, rf0, rf1]
              have q := HF.out.d
              refine ⟨b1, b2, D2, Y2, r, rfl, ?_, ?_, HIk2.out, HQ.out, ?_⟩
              · exact (HM.out.m1.setCell _ _).setCell _ _
              · exact (HM.out.m2.setCell _ _).setCell _ _
              · exact (HM.out.b.setCell HF.out.w.2.1 _).setCell HF.out.w.2.1 _
            · have hneg : ¬ l < 0 := by omega
              have HNX := Lib.hid (HI.out.nx r D2 Y2 (by rw [HN.out]; exact HIk.out))
              go_wp2_with fail
              go_roundw
              case rel => exact ⟨r + 1, D2, Y2, by go_num, by omega, HNX, HM⟩
              case measure => simp [intOf]; omega
end Go.Proofs.YtmplajpbmojkkaaGreat
