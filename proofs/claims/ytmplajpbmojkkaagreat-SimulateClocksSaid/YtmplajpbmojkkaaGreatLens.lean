/-
  shortest.lengths, walked: the least lengths.
-/
import Derived.Test.YtmplajpbmojkkaaGreatHpA
import Derived.Test.YtmplajpbmojkkaaGreatHopA
set_option linter.unusedSimpArgs false
set_option linter.unusedVariables false
namespace Go.Vi
open Go Go.RowKit
/-- A map of ints. -/
def ivI (D : List (Int × Int)) : List (Int × Value) := D.map fun p => (p.1, .int .i64 p.2)
theorem look_ivI (D : List (Int × Int)) (k : Int) : Vi.look (ivI D) k = (Vi.look D k).map (.int .i64) := by
  induction D with
  | nil => rfl
  | cons p D ih =>
    simp only [ivI, List.map_cons, Vi.look] at ih ⊢
    split
    · rfl
    · exact ih
theorem put_ivI (D : List (Int × Int)) (k d : Int) : put (ivI D) k (.int .i64 d) = ivI (put D k d) := by
  induction D with
  | nil => rfl
  | cons p D ih =>
    simp only [ivI, List.map_cons, put] at ih ⊢
    split
    · rfl
    · rw [List.map_cons, ih]
theorem keys_ivI (D : List (Int × Int)) : (ivI D).map (·.1) = D.map (·.1) := by simp [ivI, Function.comp_def]
theorem nodup_len {l : List Int} : ∀ {m : List Int}, l.Nodup → (∀ x ∈ l, x ∈ m) → l.length ≤ m.length := by
  induction l with
  | nil => intro m _ _; exact Nat.zero_le _
  | cons x l ih =>
    intro m hn hs
    have hx := hs x List.mem_cons_self
    have h1 := ih (m := m.erase x) (List.nodup_cons.1 hn).2 (fun y hy => (List.mem_erase_of_ne (fun e => (List.nodup_cons.1 hn).1 (by rw [← e]; exact hy))).2 (hs y (List.mem_cons_of_mem _ hy)))
    rw [List.length_erase_of_mem hx] at h1
    have : 0 < m.length := List.length_pos_of_mem hx
    simp; omega
theorem len_put {D : List (Int × Int)} {k d : Int} (h : Vi.look D k = none) : (put D k d).length = D.length + 1 := by
  rw [put_new k d D h]; simp
def mapSize (w : World) (b : Nat) : Nat := match w.heap[b]? with | some (.map es _) => es.size | _ => 0
theorem IMap.size {w : World} {b : Nat} {E : List (Int × Value)} (h : IMap w b E) : mapSize w b = E.length := by
  obtain ⟨es, c, h1, h2, _⟩ := h
  have := congrArg List.length h2
  simp at this
  simp [mapSize, h1, this]
theorem IMap.qf {w w' : World} {b qb : Nat} {row : Option Nat} {E : List (Int × Value)} (h : IMap w b E) (hq : QF w w' qb row) (h1 : b ≠ qb) (h2 : some b ≠ row) : IMap w' b E := by
  obtain ⟨es, c, hb, h3⟩ := h
  exact ⟨es, c, by rw [hq.block b (obj_lt hb) h1 h2]; exact hb, h3⟩
end Go.Vi
namespace Go.Proofs.YtmplajpbmojkkaaGreat
open Go Go.RowKit Go.Vi
theorem uLens : Tryz.prog.underlying 78 = some (.map 3 3) := by kernel_rfl
theorem zInt (w : World) : (zeroValue 3).run Tryz.prog w = .ok (.int .i64 0) w := by kernel_rfl
theorem mem_cmpct : ∀ (L : List Hp) (p x : Hp), x ∈ cmpct p L → x ∈ L
  | [], _, _, h => by simp [cmpct] at h
  | y :: L, p, x, h => by
    simp only [cmpct] at h
    split at h
    · exact List.mem_cons_of_mem _ (mem_cmpct L y x h)
    · rcases List.mem_cons.1 h with rfl | h
      · exact List.mem_cons_self
      · exact List.mem_cons_of_mem _ (mem_cmpct L y x h)
theorem cmpct_len : ∀ (L : List Hp) (p : Hp), (cmpct p L).length ≤ L.length
  | [], _ => Nat.le_refl _
  | y :: L, p => by
    have := cmpct_len L y
    simp only [cmpct]
    split <;> simp <;> omega
theorem fin_mem {L L' : List Hp} (h : Fin L L') : (∀ x ∈ L', x ∈ L) ∧ L'.length ≤ L.length := by
  obtain ⟨S, h1, _, rfl⟩ := h
  cases S with
  | nil => exact ⟨fun x hx => by simp [compactL] at hx, Nat.zero_le _⟩
  | cons y S =>
    refine ⟨fun x hx => ?_, ?_⟩
    · rcases List.mem_cons.1 hx with rfl | hx
      · exact h1.mem_iff.1 List.mem_cons_self
      · exact h1.mem_iff.1 (List.mem_cons_of_mem _ (mem_cmpct S y x hx))
    · rw [← h1.length_eq]
      have := cmpct_len S y
      simp [compactL]; omega
theorem hopsG_mem (rs : List Rd) : ∀ u, ∀ h ∈ hopsG rs u, ∃ r ∈ rs, (u = r.src ∧ h = ⟨r.dst, r.id, r.len⟩) ∨ (r.one = false ∧ u = r.dst ∧ h = ⟨r.src, r.id, r.len⟩) := by
  suffices g : ∀ (rs : List Rd) (G : Int → List Hp) u, ∀ h ∈ rs.foldl hopStep G u, h ∈ G u ∨ ∃ r ∈ rs, (u = r.src ∧ h = ⟨r.dst, r.id, r.len⟩) ∨ (r.one = false ∧ u = r.dst ∧ h = ⟨r.src, r.id, r.len⟩) by
    intro u h hh
    rcases g rs _ u h hh with h1 | h1
    · simp at h1
    · exact h1
  intro rs
  induction rs with
  | nil => intro G u h hh; exact .inl hh
  | cons r rs ih =>
    intro G u h hh
    rcases ih _ u h hh with h1 | ⟨r', h2, h3⟩
    · have hadd : ∀ (G : Int → List Hp) (k : Int) (x : Hp), h ∈ addH G k x u → h ∈ G u ∨ (u = k ∧ h = x) := by
        intro G k x hx
        simp only [addH] at hx
        split at hx
        · rename_i e
          rcases List.mem_append.1 hx with h4 | h4
          · left; rw [e]; exact h4
          · right; exact ⟨e, by simpa using h4⟩
        · exact .inl hx
      unfold hopStep at h1
      split at h1
      · rcases hadd _ _ _ h1 with h4 | ⟨h4, h5⟩
        · exact .inl h4
        · exact .inr ⟨r, List.mem_cons_self, .inl ⟨h4, h5⟩⟩
      · rename_i ho
        rcases hadd _ _ _ h1 with h4 | ⟨h4, h5⟩
        · rcases hadd _ _ _ h4 with h6 | ⟨h6, h7⟩
          · exact .inl h6
          · exact .inr ⟨r, List.mem_cons_self, .inl ⟨h6, h7⟩⟩
        · exact .inr ⟨r, List.mem_cons_self, .inr ⟨by simpa using ho, h4, h5⟩⟩
    · exact .inr ⟨r', List.mem_cons_of_mem _ h2, h3⟩
/-- The ends of the roads. -/
def endsOf (rs : List Rd) : List Int := rs.map Rd.src ++ rs.map Rd.dst
/-- What a search leans on of the hops. -/
structure HOk (A : Int → List Hp) (ends : List Int) : Prop where
  lens : ∀ u, ∀ h ∈ A u, 0 ≤ h.len ∧ h.len ≤ 1073741824
  dsts : ∀ u, ∀ h ∈ A u, h.dst ∈ ends
  deg : ∀ u, (A u).length ≤ 200
  few : ends.length ≤ 200
theorem hok_of {rs : List Rd} {H : Int → List Hp} (hsz : rs.length ≤ 100) (hlen : ∀ r ∈ rs, 0 ≤ r.len ∧ r.len ≤ 1073741824) (hF : ∀ k, Fin (hopsG rs k) (H k)) : HOk H (endsOf rs) := by
  refine ⟨fun u h hh => ?_, fun u h hh => ?_, fun u => ?_, by simp [endsOf]; omega⟩
  · obtain ⟨r, hr, h1 | h1⟩ := hopsG_mem rs u h ((fin_mem (hF u)).1 h hh)
    · rw [h1.2]; exact hlen r hr
    · rw [h1.2.2]; exact hlen r hr
  · obtain ⟨r, hr, h1 | h1⟩ := hopsG_mem rs u h ((fin_mem (hF u)).1 h hh)
    · rw [h1.2]; exact List.mem_append_right _ (List.mem_map.2 ⟨r, hr, rfl⟩)
    · rw [h1.2.2]; exact List.mem_append_left _ (List.mem_map.2 ⟨r, hr, rfl⟩)
  · have := (fin_mem (hF u)).2
    have := hopsG_len rs u
    omega
/-- How far the search has come: in numbers. -/
structure DNum (A : Int → List Hp) (s : Int) (ends : List Int) (D : List (Int × Int)) (L : List Hp) (i : Nat) : Prop where
  keys : (D.map (·.1)).Nodup
  sub : ∀ x ∈ D.map (·.1), x ∈ s :: ends
  dsts : ∀ q ∈ L, q.dst ∈ s :: ends
  lens : ∀ q ∈ L, 0 ≤ q.len ∧ q.len ≤ D.length * 1073741824
  long : L.length + 200 ≤ 1 + D.length * 200 + i
  vals : ∀ x d, Vi.look D x = some d → 0 ≤ d ∧ d ≤ D.length * 1073741824
theorem dnum_few {A : Int → List Hp} {s : Int} {ends : List Int} {D : List (Int × Int)} {L : List Hp} {c : Nat} (h : DNum A s ends D L c) (he : ends.length ≤ 200) : D.length ≤ 201 := by
  have := nodup_len h.keys h.sub
  simp at this; omega
theorem dnum_start (A : Int → List Hp) (s : Int) (ends : List Int) : DNum A s ends [] [⟨s, 0, 0⟩] 200 :=
  ⟨by simp, by simp, fun q hq => by simp at hq; subst hq; exact List.mem_cons_self, fun q hq => by simp at hq; subst hq; simp, by simp, fun x d h => by simp [Vi.look] at h⟩
theorem dnum_skip {A : Int → List Hp} {s : Int} {ends : List Int} {D : List (Int × Int)} {L L' : List Hp} {c : Nat} {q : Hp} (h : DNum A s ends D L c) (hp : (q :: L').Perm L) : DNum A s ends D L' c :=
  ⟨h.keys, h.sub, fun x hx => h.dsts x (hp.mem_iff.1 (List.mem_cons_of_mem _ hx)), fun x hx => h.lens x (hp.mem_iff.1 (List.mem_cons_of_mem _ hx)), by have := hp.length_eq; have := h.long; simp at *; omega, h.vals⟩
theorem dnum_settle {A : Int → List Hp} {s : Int} {ends : List Int} {D : List (Int × Int)} {L L' : List Hp} {q : Hp} (h : DNum A s ends D L 200) (hp : (q :: L').Perm L) (hq : Vi.look D q.dst = none) :
    DNum A s ends (put D q.dst q.len) L' 0 ∧ 0 ≤ q.len ∧ q.len + 1073741824 ≤ (put D q.dst q.len).length * 1073741824 := by
  have hqL : q ∈ L := hp.mem_iff.1 List.mem_cons_self
  have hl := len_put (d := q.len) hq
  have hq2 := h.lens q hqL
  refine ⟨⟨nodup_put _ _ _ h.keys, fun x hx => ?_, fun x hx => h.dsts x (hp.mem_iff.1 (List.mem_cons_of_mem _ hx)), fun x hx => ?_, ?_, fun x d hx => ?_⟩, hq2.1, by rw [hl]; omega⟩
  · rcases (keys_put _ _ _ x).1 hx with rfl | hx
    · exact h.dsts q hqL
    · exact h.sub x hx
  · have := h.lens x (hp.mem_iff.1 (List.mem_cons_of_mem _ hx))
    rw [hl]; omega
  · have h1 := hp.length_eq
    have h2 := h.long
    rw [hl]; simp at h1; omega
  · rw [look_put] at hx
    split at hx
    · injection hx with hx
      rw [hl]; omega
    · have := h.vals x d hx
      rw [hl]; omega
theorem dnum_push {A : Int → List Hp} {s : Int} {ends : List Int} {D : List (Int × Int)} {L L' : List Hp} {c : Nat} {x : Hp} (h : DNum A s ends D L c) (hp : L'.Perm (x :: L)) (hx : x.dst ∈ ends) (h0 : 0 ≤ x.len ∧ x.len ≤ D.length * 1073741824) : DNum A s ends D L' (c + 1) := by
  refine ⟨h.keys, h.sub, fun y hy => ?_, fun y hy => ?_, ?_, h.vals⟩
  · rcases List.mem_cons.1 (hp.mem_iff.1 hy) with rfl | hy
    · exact List.mem_cons_of_mem _ hx
    · exact h.dsts y hy
  · rcases List.mem_cons.1 (hp.mem_iff.1 hy) with rfl | hy
    · exact h0
    · exact h.lens y hy
  · have h1 := hp.length_eq
    have h2 := h.long
    simp at h1; omega
theorem dnum_more {A : Int → List Hp} {s : Int} {ends : List Int} {D : List (Int × Int)} {L : List Hp} {c c' : Nat} (h : DNum A s ends D L c) (hc : c ≤ c') : DNum A s ends D L c' :=
  ⟨h.keys, h.sub, h.dsts, h.lens, by have := h.long; omega, h.vals⟩
/-- What holds while lengths searches: w1 is the world behind hops. -/
structure LenMid (w1 : World) (A : Int → List Hp) (s : Int) (ends : List Int) (D : List (Int × Int)) (L : List Hp) (v : Int) (i c : Nat) (g cap : Nat) (wx : World) : Prop where
  low : Below w1.heap.size w1 wx
  out : IMap wx w1.heap.size (ivI D)
  q : QAt wx (w1.heap.size + 1) (w1.heap.size + 2) (.slice (some ⟨g, 0, none⟩) L.length cap) L
  heap : HeapOK Hp.len L
  inv : DInv A s D L v i
  num : DNum A s ends D L c
def sliceLen (w : World) (b : Nat) : Nat := match w.cell? ⟨b, 0, none⟩ with | some (.slice _ n _) => n | _ => 0
theorem QAt.len {w : World} {B qb n cap g : Nat} {L : List Hp} (h : QAt w B qb (.slice (some ⟨g, 0, none⟩) n cap) L) : sliceLen w qb = n := by simp [sliceLen, h.cell]
/-- Behind the store of a settled length. -/
structure LenSet (w1 : World) (D : List (Int × Int)) (q0 : Hp) (L' : List Hp) (g cap xb : Nat) (wx : World) : Prop where
  low : Below w1.heap.size w1 wx
  out : IMap wx w1.heap.size (ivI (put D q0.dst q0.len))
  q : QAt wx (w1.heap.size + 1) (w1.heap.size + 2) (.slice (some ⟨g, 0, none⟩) L'.length cap) L'
  obj : wx.heap[xb]? = some (.cells #[.int .i64 q0.dst, .int .i64 q0.road, .int .i64 q0.len] 193)
  ne : g ≠ xb ∧ w1.heap.size + 2 < xb
theorem len_set {w1 w2 : World} {D : List (Int × Int)} {q0 : Hp} {L' : List Hp} {g n cap : Nat} (hl : Below w1.heap.size w1 w2) (hI : IMap (w2.alloc (.cells #[.int .i64 q0.dst, .int .i64 q0.road, .int .i64 q0.len] 193)) w1.heap.size (ivI D))
    (hQ : QAt w2 (w1.heap.size + 1) (w1.heap.size + 2) (.slice (some ⟨g, 0, none⟩) n cap) L') (hg : w1.heap.size + 1 ≤ g) :
    LenSet w1 D q0 L' g cap w2.heap.size (mset (w2.alloc (.cells #[.int .i64 q0.dst, .int .i64 q0.road, .int .i64 q0.len] 193)) w1.heap.size q0.dst (.int .i64 q0.len)) := by
  have hz := hl.size
  have hqz := obj_lt hQ.var
  have hgz := (hQ.own.blk g rfl).2
  have hn : n = L'.length := by
    rcases hQ.own.shape with ⟨h1, _⟩ | ⟨g', cap', h1, _⟩
    · cases h1
    · injection h1 with _ h2 _; simpa using h2
  subst hn
  have hG := mset_grown (w2.alloc (.cells #[.int .i64 q0.dst, .int .i64 q0.road, .int .i64 q0.len] 193)) w1.heap.size q0.dst (.int .i64 q0.len)
  have hQ2 := hQ.keep (w' := w2.alloc (.cells #[.int .i64 q0.dst, .int .i64 q0.road, .int .i64 q0.len] 193)) ((Below.refl _ _).alloc (Nat.le_refl _) _)
  refine ⟨?_, ?_, ⟨?_, hQ2.own.kept hG (.inr (fun e => by simp [Value.ownBlock] at e; omega))⟩, ?_, ⟨by omega, by omega⟩⟩
  · exact ((hl.alloc hz _).grown hG (by simp; omega) (fun b hb => by injection hb with hb; omega))
  · rw [← put_ivI]; exact hI.updated _ _
  · rw [hG.block _ (obj_lt hQ2.var) (fun e => by injection e with e; omega)]; exact hQ2.var
  · have ho := obj_last w2 (.cells #[.int .i64 q0.dst, .int .i64 q0.road, .int .i64 q0.len] 193)
    rw [hG.block _ (obj_lt ho) (fun e => by injection e with e; omega)]; exact ho
theorem hops_look {w1 : World} {B b : Nat} {H : Int → List Hp} (hG : GMap w1 B 193 3 b (rowsH H)) (hb : b < B) (u : Int) :
    ∃ (a : Option Addr) (n c : Nat), Ow B w1 193 3 (.slice a n c) ((H u).map Hp.cs) ∧ (H u).length = n ∧ ∀ W, Below w1.heap.size w1 W → (Instr.lookup 188 (.map (some b)) (.int .i64 u) false).run Tryz.prog W = .ok (.slice a n c) W := by
  obtain ⟨v, h1, h2, _⟩ := hG.at (P := Tryz.prog) hb uHopMap uInt zHops u
  obtain ⟨a, n, c, rfl⟩ := h1.val
  exact ⟨a, n, c, h1, by have := h1.sl.len; simpa [rowsH] using this, fun W hW => h2 W (grown_of hW)⟩
theorem ow_at {B e n c : Nat} {w : World} {a : Option Addr} {L : List Hp} (h : Ow B w e 3 (.slice a n c) (L.map Hp.cs)) (hL : L ≠ []) : ∃ g, a = some ⟨g, 0, none⟩ ∧ B ≤ g ∧ g < w.heap.size := by
  rcases h.shape with ⟨_, h2⟩ | ⟨g, cap, h1, h2, h3, _⟩
  · exact absurd (List.map_eq_nil_iff.1 h2) hL
  · injection h1 with h1; exact ⟨g, h1, h2, h3⟩
theorem heap_least {q0 : Hp} {L0 : List Hp} (h : HeapOK Hp.len (q0 :: L0)) : ∀ x ∈ q0 :: L0, q0.len ≤ x.len := by
  intro x hx
  obtain ⟨k, hk, rfl⟩ := List.getElem_of_mem hx
  have := heap_min h k hk
  rw [getElem!_pos (q0 :: L0) k hk] at this
  exact this
/-- Within the loop over the hops of a settled node. -/
structure LenIn (w1 : World) (A : Int → List Hp) (s : Int) (ends : List Int) (D : List (Int × Int)) (q0 : Hp) (L : List Hp) (k m xb g cap : Nat) (wx : World) : Prop where
  mid : LenMid w1 A s ends D L q0.dst k k g cap wx
  obj : wx.heap[xb]? = some (.cells #[.int .i64 q0.dst, .int .i64 q0.road, .int .i64 q0.len] 193)
  ne : g ≠ xb ∧ w1.heap.size + 2 < xb
  few : L.length ≤ m + k
set_option maxRecDepth 100000 in
set_option maxHeartbeats 8000000 in
theorem lengths_any (n : Net) (s : Int) (v1 v2 : Value) (w : World) (hN : NetAt w.heap.size w v1 v2 n) (hsz : n.roads.length ≤ 100) (hlen : ∀ r ∈ n.roads, 0 ≤ r.len ∧ r.len ≤ 1073741824) :
    Calls Tryz.prog 75 #[.agg #[v1, v2], .int .i64 s] w fun e w' => (∃ b D, e = .returned (.map (some b)) ∧ w.heap.size ≤ b ∧ IMap w' b (ivI D) ∧ (D.map (·.1)).Nodup ∧ (∀ x d, Vi.look D x = some d → 0 ≤ d ∧ d ≤ 216895848448) ∧ ∃ H, (∀ k, Fin (hopsG n.roads k) (H k)) ∧ ∀ x d, Vi.look D x = some d ↔ Least H s x d) ∧ Below w.heap.size w w' := by
  have HN := Lib.hid hN
  have HS := Lib.hid hsz
  have HLN := Lib.hid hlen
  clear hN hsz hlen
  have hmm := @run_makeMap Tryz.prog
  go_enter Tryz.func75, Tryz.ntmps75
  go_wp2_with (go_at_call 77; refine (hops_any n v1 v2 _ (HN.out.later (by (repeat (first | with_reducible exact Below.refl _ _ | with_reducible assumption | ((with_reducible refine Below.setCell ?_ ?_ _); rotate_left; focus (first | exact Nat.le_refl _ | omega | exact Below.size (by assumption) | (simp; done) | (simp; omega))) | ((with_reducible refine Below.alloc ?_ ?_ _); rotate_left; focus (first | exact Nat.le_refl _ | omega | exact Below.size (by assumption) | (simp; done) | (simp; omega))) | (with_reducible refine Below.drew ?_) | (with_reducible refine drewN_ ?_ _))))) (by have := HS.out; omega)).mono ?_; rintro e w1 ⟨rfl, ⟨H, hG, hF⟩, hb1⟩; simp at hG; have hB1 := from_ (w := w) hb1 (by (repeat (first | with_reducible exact Below.refl _ _ | with_reducible assumption | ((with_reducible refine Below.setCell ?_ ?_ _); rotate_left; focus (first | exact Nat.le_refl _ | omega | exact Below.size (by assumption) | (simp; done) | (simp; omega))) | ((with_reducible refine Below.alloc ?_ ?_ _); rotate_left; focus (first | exact Nat.le_refl _ | omega | exact Below.size (by assumption) | (simp; done) | (simp; omega))) | (with_reducible refine Below.drew ?_) | (with_reducible refine drewN_ ?_ _)))); have HG := Lib.hid hG; have HF := Lib.hid hF; have HB1 := Lib.hid hB1; have hz1 := hb1.size; simp at hz1; clear hG hF hB1 hb1)
  have HK := Lib.hid (hok_of HS.out HLN.out HF.out)
  have hta := fun x => hopAssert x
  go_loopw [] (fun wx => ∃ D L v g cap, Hid (LenMid w1 H s (endsOf n.roads) D L v (H v).length 200 g cap wx)) (fun wx => (201 - mapSize wx w1.heap.size) * 200 + sliceLen wx (w1.heap.size + 2))
  case atStart =>
    refine ⟨[], [⟨s, 0, 0⟩], s, w1.heap.size + 1, 1, ⟨(by (repeat (first | with_reducible exact Below.refl _ _ | with_reducible assumption | ((with_reducible refine Below.setCell ?_ ?_ _); rotate_left; focus (first | exact Nat.le_refl _ | omega | exact Below.size (by assumption) | (simp; done) | (simp; omega))) | ((with_reducible refine Below.alloc ?_ ?_ _); rotate_left; focus (first | exact Nat.le_refl _ | omega | exact Below.size (by assumption) | (simp; done) | (simp; omega))) | (with_reducible refine Below.drew ?_) | (with_reducible refine drewN_ ?_ _)))), ?_, ⟨?_, ?_⟩, ?_, dinv_start _ _ _ _ _, dnum_start _ _ _⟩⟩
    · exact ((IMap.made w1).keep ((Below.refl _ _).alloc (Nat.le_refl _) _)).keep ((Below.refl _ _).alloc (Nat.le_refl _) _)
    · have q := obj_last ((w1.alloc (.map #[] 0)).alloc (.cells #[.int .i64 s, .int .i64 0, .int .i64 0] 193)) (.cells #[.slice (some ⟨w1.heap.size + 1, 0, none⟩) 1 1] 202)
      simpa using q
    · have q := World.ownsRow_lit (base := w1.heap.size + 1) (e := 193) (size := 3) (w1.alloc (.map #[] 0)) #[.int .i64 s, .int .i64 0, .int .i64 0] 1 (by simp) (by unfold maxLen; omega) rfl
      refine (Ow.keep (w := (w1.alloc (.map #[] 0)).alloc (.cells #[.int .i64 s, .int .i64 0, .int .i64 0] 193)) ⟨?_, fun r hr => by simp at hr; subst hr; rfl⟩ ((Below.refl _ _).alloc (Nat.le_refl _) _))
      simpa [Hp.cs] using q
    · intro k hk hn _
      simp at hn; omega
  case round =>
    obtain ⟨D, L, v, g, cap, hM⟩ := hrel
    have hc := hM.out.q.cell
    cases L with
    | nil =>
      go_wp2_with (go_at_call 87; refine (qlen_any _ _ _ _).mono ?_; rintro e' w2 ⟨rfl, rfl⟩)
      go_ret
      refine ⟨⟨_, D, rfl, by omega, hM.out.out, hM.out.num.keys, fun x d hx => by have h1 := hM.out.num.vals x d hx; have h2 := dnum_few hM.out.num HK.out.few; omega, H, HF.out, dinv_done (fun u h hh => (HK.out.lens u h hh).1) hM.out.inv⟩, ?_⟩
      have hB := HB1.out
      exact hB.trans (hM.out.low.mono (by omega))
    | cons q0 L0 =>
      have hgb := (hM.out.q.own.blk g rfl).1
      cases hD : Vi.look D q0.dst with
      | some d0 =>
        have HLK : Hid (∀ W, IMap W w1.heap.size (ivI D) → (Instr.lookup 78 (.map (some w1.heap.size)) (.int .i64 q0.dst) true).run Tryz.prog W = .ok (.tuple #[.int .i64 d0, .bool true]) W) := fun W hW => by
          have := hW.lookup (P := Tryz.prog) uLens uInt (zInt W) q0.dst true
          rw [look_ivI, hD] at this
          exact this
        have HD := Lib.hid hD
        clear hD
        go_wp2_with (first
          | (go_at_call 87; refine (qlen_any _ _ _ _).mono ?_; rintro e' w2 ⟨rfl, rfl⟩)
          | (go_at_call 88; refine (hpop_any (n := L0.length) _ hM.out.q rfl (by have h1 := dnum_few hM.out.num HK.out.few; have h2 := hM.out.num.long; simp at h2; omega) hM.out.heap).mono ?_; rintro e' w2 ⟨rfl, L', hQ2, hP2, hH2, hF2⟩; have hI2 := hM.out.out.qf hF2 (by omega) (by intro e; injection e with e; omega); have hlk := HLK.out (w2.alloc (.cells #[.int .i64 q0.dst, .int .i64 q0.road, .int .i64 q0.len] 193)) (hI2.keep ((Below.refl _ _).alloc (Nat.le_refl _) _)); have hlw := QF.below hM.out.low hF2 hM.out.low.size (by omega) (by intro g2 hg2; injection hg2 with hg2; omega); have HI2 := Lib.hid hI2; have HLW := Lib.hid hlw; have HQ2 := Lib.hid hQ2; have HP2 := Lib.hid hP2; have HH2 := Lib.hid hH2; have HF2 := Lib.hid hF2; clear hQ2 hP2 hH2 hF2 hI2 hlw))
        go_roundw
        case rel =>
          exact ⟨D, L', v, g, cap, ⟨HLW.out.trans ((Below.refl _ _).alloc (HLW.out.size) _), HI2.out.keep ((Below.refl _ _).alloc (Nat.le_refl _) _), by have q := HQ2.out.keep (w' := w2.alloc (.cells #[.int .i64 q0.dst, .int .i64 q0.road, .int .i64 q0.len] 193)) ((Below.refl _ _).alloc (Nat.le_refl _) _); have hl := HP2.out.length_eq; simp at hl; rw [← hl] at q; exact q, HH2.out, dinv_skip hM.out.inv HP2.out ⟨_, HD.out⟩, dnum_skip hM.out.num HP2.out⟩⟩
        case measure =>
          have a := (HI2.out.keep ((Below.refl _ _).alloc (Nat.le_refl _) (.cells #[.int .i64 q0.dst, .int .i64 q0.road, .int .i64 q0.len] 193))).size
          have b := (HQ2.out.keep (w' := w2.alloc (.cells #[.int .i64 q0.dst, .int .i64 q0.road, .int .i64 q0.len] 193)) ((Below.refl _ _).alloc (Nat.le_refl _) _)).len
          have c := hM.out.out.size
          have d := hM.out.q.len
          rw [a, b, c, d]
          simp
      | none =>
        have HLK : Hid (∀ W, IMap W w1.heap.size (ivI D) → (Instr.lookup 78 (.map (some w1.heap.size)) (.int .i64 q0.dst) true).run Tryz.prog W = .ok (.tuple #[.int .i64 0, .bool false]) W) := fun W hW => by
          have := hW.lookup (P := Tryz.prog) uLens uInt (zInt W) q0.dst true
          rw [look_ivI, hD] at this
          exact this
        have HD := Lib.hid hD
        clear hD
        obtain ⟨a0, n0, c0, hO, hn0, hLH⟩ := hops_look HG.out (by omega) q0.dst
        have HO := Lib.hid hO
        have HN0 := Lib.hid hn0
        have HLH := Lib.hid hLH
        clear hO hn0 hLH
        go_wp2_with (first
          | (go_at_call 87; refine (qlen_any _ _ _ _).mono ?_; rintro e' w2 ⟨rfl, rfl⟩)
          | (go_at_call 88; refine (hpop_any (n := L0.length) _ hM.out.q rfl (by have h1 := dnum_few hM.out.num HK.out.few; have h2 := hM.out.num.long; simp at h2; omega) hM.out.heap).mono ?_; rintro e' w2 ⟨rfl, L', hQ2, hP2, hH2, hF2⟩; have hI2 := hM.out.out.qf hF2 (by omega) (by intro e; injection e with e; omega); have hI3 := hI2.keep (w' := w2.alloc (.cells #[.int .i64 q0.dst, .int .i64 q0.road, .int .i64 q0.len] 193)) ((Below.refl _ _).alloc (Nat.le_refl _) _); have hlk := HLK.out _ hI3; have hup := hI3.update (P := Tryz.prog) uLens uInt q0.dst (.int .i64 q0.len); have hlw := QF.below hM.out.low hF2 hM.out.low.size (by omega) (by intro g2 hg2; injection hg2 with hg2; omega); have hst := len_set hlw hI3 hQ2 hgb; have HST := Lib.hid hst; have hlh := HLH.out _ hst.low; have hob := hst.obj; have x0 := obj_cell hob 0; have x2 := obj_cell hob 2; simp at x0 x2; have HP2 := Lib.hid hP2; have HH2 := Lib.hid hH2; clear hQ2 hP2 hH2 hF2 hI2 hlw hI3 hst hob))
        have hset := dnum_settle (q := q0) hM.out.num HP2.out HD.out
        have hdeg : n0 ≤ 200 := by rw [← HN0.out]; exact HK.out.deg _
        have hfew := dnum_few hset.1 HK.out.few
        have HSET := Lib.hid hset
        have HINV := Lib.hid (dinv_settle (q := q0) (fun u h hh => (HK.out.lens u h hh).1) hM.out.inv HP2.out (heap_least hM.out.heap) HD.out)
        have HLL := Lib.hid (len_put (d := q0.len) HD.out)
        clear hset
        generalize mset (w2.alloc (.cells #[.int .i64 q0.dst, .int .i64 q0.road, .int .i64 q0.len] 193)) w1.heap.size q0.dst (.int .i64 q0.len) = w3 at HST x0 x2 hlh ⊢
        clear hlk hup hlh
        go_loopw [49] (fun s49 wx => ∃ (k : Nat) (L : List Hp) (g' cap' : Nat), s49 = .int .i64 k ∧ k ≤ n0 ∧ Hid (LenIn w1 H s (endsOf n.roads) (put D q0.dst q0.len) q0 L k L'.length w2.heap.size g' cap' wx)) (fun s49 _ => n0 - (intOf s49).toNat)
        case atStart => exact ⟨0, L', g, cap, rfl, Nat.zero_le _, ⟨HST.out.low, HST.out.out, HST.out.q, HH2.out, HINV.out, HSET.out.1⟩, HST.out.obj, HST.out.ne, Nat.le_refl _⟩
        case round =>
          obtain ⟨k, L, g', cap', rfl, hk, hI⟩ := hrel
          have qc := hI.out.mid.q.cell
          have x0 := obj_cell hI.out.obj 0
          have x2 := obj_cell hI.out.obj 2
          simp at x0 x2
          have hxz := obj_lt hI.out.obj
          have hqz := obj_lt hI.out.mid.q.var
          by_cases hlt : k < n0
          · have hkH : k < (H q0.dst).length := by rw [HN0.out]; exact hlt
            obtain ⟨gr, rfl, hgr1, hgr2⟩ := ow_at HO.out (fun e => by rw [e] at hkH; simp at hkH)
            obtain ⟨b0, b1, b2⟩ := hp_cell (HO.out.keep hI.out.mid.low) (i := k) hkH
            generalize hh : (H q0.dst)[k]! = h at b0 b1 b2
            have hmem : h ∈ H q0.dst := by rw [← hh, getElem!_pos (H q0.dst) k hkH]; exact List.getElem_mem hkH
            have hhl := HK.out.lens _ h hmem
            have HHD := Lib.hid (HK.out.dsts _ h hmem)
            rw [getElem!_pos (H q0.dst) k hkH] at hh
            have HHH := Lib.hid hh
            clear hh hmem
            cases hD2 : Vi.look (put D q0.dst q0.len) h.dst with
            | some d2 =>
              have HLK2 : Hid (∀ W, IMap W w1.heap.size (ivI (put D q0.dst q0.len)) → (Instr.lookup 78 (.map (some w1.heap.size)) (.int .i64 h.dst) true).run Tryz.prog W = .ok (.tuple #[.int .i64 d2, .bool true]) W) := fun W hW => by
                have := hW.lookup (P := Tryz.prog) uLens uInt (zInt W) h.dst true
                rw [look_ivI, hD2] at this
                exact this
              have HD2 := Lib.hid hD2
              clear hD2
              have hlk2 := HLK2.out (wr.alloc (.cells #[.int .i64 h.dst, .int .i64 h.road, .int .i64 h.len] 193)) (hI.out.mid.out.keep (by (repeat (first | with_reducible exact Below.refl _ _ | with_reducible assumption | ((with_reducible refine Below.setCell ?_ ?_ _); rotate_left; focus (first | exact Nat.le_refl _ | omega | exact Below.size (by assumption) | (simp; done) | (simp; omega))) | ((with_reducible refine Below.alloc ?_ ?_ _); rotate_left; focus (first | exact Nat.le_refl _ | omega | exact Below.size (by assumption) | (simp; done) | (simp; omega))) | (with_reducible refine Below.drew ?_) | (with_reducible refine drewN_ ?_ _)))))
              go_wp2_with fail
              go_roundw
              case rel =>
                have hbw := (Below.refl wr.heap.size wr).alloc (Nat.le_refl _) (.cells #[.int .i64 h.dst, .int .i64 h.road, .int .i64 h.len] 193)
                exact ⟨k + 1, L, g', cap', by go_num, by omega, ⟨⟨hI.out.mid.low.trans ((Below.refl _ _).alloc hI.out.mid.low.size _), hI.out.mid.out.keep hbw, hI.out.mid.q.keep hbw, hI.out.mid.heap, dinv_seen hI.out.mid.inv hkH ⟨d2, by rw [HHH.out]; exact HD2.out⟩, dnum_more hI.out.mid.num (Nat.le_succ k)⟩, obj_old hI.out.obj, hI.out.ne, by have := hI.out.few; omega⟩⟩
              case measure => simp [intOf]; omega
            | none =>
              have HLK2 : Hid (∀ W, IMap W w1.heap.size (ivI (put D q0.dst q0.len)) → (Instr.lookup 78 (.map (some w1.heap.size)) (.int .i64 h.dst) true).run Tryz.prog W = .ok (.tuple #[.int .i64 0, .bool false]) W) := fun W hW => by
                have := hW.lookup (P := Tryz.prog) uLens uInt (zInt W) h.dst true
                rw [look_ivI, hD2] at this
                exact this
              clear hD2
              have hlk2 := HLK2.out (wr.alloc (.cells #[.int .i64 h.dst, .int .i64 h.road, .int .i64 h.len] 193)) (hI.out.mid.out.keep (by (repeat (first | with_reducible exact Below.refl _ _ | with_reducible assumption | ((with_reducible refine Below.setCell ?_ ?_ _); rotate_left; focus (first | exact Nat.le_refl _ | omega | exact Below.size (by assumption) | (simp; done) | (simp; omega))) | ((with_reducible refine Below.alloc ?_ ?_ _); rotate_left; focus (first | exact Nat.le_refl _ | omega | exact Below.size (by assumption) | (simp; done) | (simp; omega))) | (with_reducible refine Below.drew ?_) | (with_reducible refine drewN_ ?_ _)))))
              have hq0 := HSET.out.2.1
              have hq1 : q0.len ≤ 214748364800 := by have := HSET.out.2.2; omega
              obtain ⟨hhl1, hhl2⟩ := hhl
              have hLL : L.length ≤ 90000 := by have := hI.out.mid.num.long; omega
              have hBz : w1.heap.size + 1 ≤ wr.heap.size := by have := hI.out.ne; omega
              have hbw := (Below.refl wr.heap.size wr).alloc (Nat.le_refl _) (.cells #[.int .i64 h.dst, .int .i64 h.road, .int .i64 h.len] 193)
              have HBW := Lib.hid hbw
              clear hbw
              go_wp2_with (go_at_call 89; refine (hpush_any ⟨h.dst, 0, q0.len + h.len⟩ _ (hI.out.mid.q.keep HBW.out) rfl hLL (by simp; omega) hI.out.mid.heap).mono ?_; rintro e' w4 ⟨rfl, g2, cap2, L2, hQ4, hP4, hH4, hF4, hg4⟩; have HQ4 := Lib.hid hQ4; have HP4 := Lib.hid hP4; have HH4 := Lib.hid hH4; have HF4 := Lib.hid hF4; have HG4 := Lib.hid hg4; clear hQ4 hP4 hH4 hF4 hg4)
              go_roundw
              case rel =>
                have hl4 := HP4.out.length_eq
                simp at hl4
                have hq4 := HQ4.out
                rw [← hl4] at hq4
                have hne := hI.out.ne
                have hgb := (hI.out.mid.q.own.blk g' rfl).1
                have hz4 := HF4.out.size
                simp at hz4
                refine ⟨k + 1, L2, g2, cap2, by go_num, by omega, ⟨⟨?_, ?_, hq4, HH4.out, ?_, ?_⟩, ?_, ?_, ?_⟩⟩
                · exact QF.below (hI.out.mid.low.trans ((Below.refl _ _).alloc hI.out.mid.low.size _)) HF4.out (by simp; omega) (by omega) (fun g3 hg3 => by injection hg3 with hg3; omega)
                · exact (hI.out.mid.out.keep HBW.out).qf HF4.out (by omega) (fun e => by injection e with e; omega)
                · exact dinv_push (dv := q0.len) (r := 0) hI.out.mid.inv hkH (by rw [look_put, if_pos rfl]) (by rw [HHH.out]; exact HP4.out)
                · exact dnum_push hI.out.mid.num HP4.out HHD.out ⟨by show 0 ≤ q0.len + h.len; omega, by show q0.len + h.len ≤ _; have := HSET.out.2.2; omega⟩
                · rw [HF4.out.block _ (by simp; omega) (by omega) (fun e => by injection e with e; exact hne.1 e.symm)]
                  exact obj_old hI.out.obj
                · rcases HG4.out with e | e
                  · rw [e]; exact hne
                  · simp at e; exact ⟨by omega, hne.2⟩
                · have := hI.out.few; omega
              case measure => simp [intOf]; omega
          · obtain rfl : k = n0 := by omega
            go_wp2
            go_roundw
            case rel =>
              refine ⟨put D q0.dst q0.len, L, q0.dst, g', cap', ⟨hI.out.mid.low, hI.out.mid.out, hI.out.mid.q, hI.out.mid.heap, ?_, dnum_more hI.out.mid.num hdeg⟩⟩
              rw [HN0.out]; exact hI.out.mid.inv
            case measure =>
              have a := hI.out.mid.out.size
              have b := hI.out.mid.q.len
              have c := hM.out.out.size
              have d := hM.out.q.len
              have e := HLL.out
              have f := HP2.out.length_eq
              have fw := hI.out.few
              rw [a, b, c, d]
              simp [ivI] at *
              omega
end Go.Proofs.YtmplajpbmojkkaaGreat
