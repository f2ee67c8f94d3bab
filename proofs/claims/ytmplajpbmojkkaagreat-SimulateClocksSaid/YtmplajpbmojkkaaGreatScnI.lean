/-
  A story in memory.
-/
import Derived.Test.YtmplajpbmojkkaaGreatScnB
set_option linter.unusedSimpArgs false
set_option linter.unusedVariables false
namespace Go.Proofs.YtmplajpbmojkkaaGreat
open Go Go.RowKit Go.Vi
theorem byteQuo {n : Int} (h : Byte n) : IntKind.u8.wrap (n.tdiv 16) = n.tdiv 16 ∧ IntKind.i64.wrap (n.tdiv 16) = n.tdiv 16 ∧ 0 ≤ n.tdiv 16 ∧ n.tdiv 16 ≤ 15 := by
  obtain ⟨h1, h2⟩ := h
  have e : n.tdiv 16 = n / 16 := Int.tdiv_eq_ediv_of_nonneg h1
  rw [e]
  have h3 : 0 ≤ n / 16 ∧ n / 16 ≤ 15 := by omega
  refine ⟨?_, IntWalk.i64_in _ (by omega), h3.1, h3.2⟩
  unfold IntKind.wrap
  simp [IntKind.signed, IntKind.bits]
  omega
structure St2 where (a b : Int)
structure Sy4 where (a b c d : Int)
structure Drv where (dev start speed : Int) (stops : List St2)
structure Wat where (off : Int) (syncs : List Sy4)
instance : Inhabited St2 := ⟨⟨0, 0⟩⟩
instance : Inhabited Sy4 := ⟨⟨0, 0, 0, 0⟩⟩
instance : Inhabited Drv := ⟨⟨0, 0, 0, []⟩⟩
instance : Inhabited Wat := ⟨⟨0, []⟩⟩
def St2.cs (x : St2) : List Value := [.int .u8 x.a, .int .u8 x.b]
def Sy4.cs (x : Sy4) : List Value := [.int .u8 x.a, .int .u8 x.b, .int .u8 x.c, .int .u8 x.d]
def Drv.cs (x : Drv) (v : Value) : List Value := [.int .u8 x.dev, .int .u8 x.start, .int .u8 x.speed, v]
def Wat.cs (x : Wat) (v : Value) : List Value := [.int .i8 x.off, v]
def St2.fits (x : St2) : Prop := Byte x.a ∧ Byte x.b
def Sy4.fits (x : Sy4) : Prop := Byte x.a ∧ Byte x.b ∧ Byte x.c ∧ Byte x.d
def Drv.fits (x : Drv) : Prop := Byte x.dev ∧ Byte x.start ∧ Byte x.speed ∧ ∀ s ∈ x.stops, s.fits
def Wat.fits (x : Wat) : Prop := (-128 ≤ x.off ∧ x.off ≤ 127) ∧ ∀ s ∈ x.syncs, s.fits
/-- A slice of rows that came in inside memory: as Sl; or it is empty, and nothing is known of where it points. -/
def SlE (B : Nat) (w : World) (k : Nat) (v : Value) (R : List (List Value)) : Prop := Sl B w k v R ∨ (R = [] ∧ ∃ a cap, v = .slice a 0 cap ∧ cap ≤ maxLen)
theorem SlE.keep {B B' : Nat} {w w' : World} {k : Nat} {v : Value} {R : List (List Value)} (h : SlE B w k v R) (hb : Below B' w w') (hB : B ≤ B') : SlE B w' k v R := h.imp (fun h => h.keep hb hB) id
theorem SlE.mono {B B' : Nat} {w : World} {k : Nat} {v : Value} {R : List (List Value)} (h : SlE B w k v R) (hB : B ≤ B') : SlE B' w k v R := h.imp (fun h => h.mono hB) id
theorem SlE.open {B : Nat} {w : World} {k : Nat} {v : Value} {R : List (List Value)} (h : SlE B w k v R) : ∃ (a : Option Addr) (n cap : Nat), v = .slice a n cap ∧ R.length = n ∧ n ≤ cap ∧ cap ≤ maxLen := by
  rcases h with h | ⟨rfl, a, cap, rfl, hc⟩
  · exact h.open
  · exact ⟨a, 0, cap, rfl, rfl, Nat.zero_le _, hc⟩
theorem SlE.cells {α : Type} [Inhabited α] {cs : α → List Value} {B k n cap : Nat} {w : World} {a : Option Addr} {L : List α} (h : SlE B w k (.slice a n cap) (L.map cs)) (i : Nat) (hi : i < L.length) :
    ∃ b off, a = some ⟨b, off, none⟩ ∧ b < B ∧ ∀ j, j < L.length → ∀ (c : Nat) (x : Value), (cs L[j]!)[c]? = some x → w.cell? ⟨b, off + j * k + c, none⟩ = some x := by
  rcases h with h | ⟨h, _⟩
  · exact h.cells i hi
  · rw [List.map_eq_nil_iff] at h
    subst h
    simp at hi
/-- Rows that hold, in their last cell, a slice of rows. -/
def NestAt {α β : Type} [Inhabited α] (cs : α → Value → List Value) (sub : α → List β) (ccs : β → List Value) (k kk : Nat) (B : Nat) (w : World) (v : Value) (L : List α) : Prop :=
  ∃ V : List Value, V.length = L.length ∧ Sl B w k v (List.zipWith cs L V) ∧ ∀ i, i < L.length → SlE B w kk V[i]! ((sub L[i]!).map ccs)
section
variable {α β : Type} [Inhabited α] {cs : α → Value → List Value} {sub : α → List β} {ccs : β → List Value} {k kk : Nat} {B B' : Nat} {w w' : World} {v : Value} {L : List α}
theorem NestAt.keep (h : NestAt cs sub ccs k kk B w v L) (hb : Below B' w w') (hB : B ≤ B') : NestAt cs sub ccs k kk B w' v L := by
  obtain ⟨V, h1, h2, h3⟩ := h
  exact ⟨V, h1, h2.keep hb hB, fun i hi => (h3 i hi).keep hb hB⟩
theorem NestAt.mono (h : NestAt cs sub ccs k kk B w v L) (hB : B ≤ B') : NestAt cs sub ccs k kk B' w v L := by
  obtain ⟨V, h1, h2, h3⟩ := h
  exact ⟨V, h1, h2.mono hB, fun i hi => (h3 i hi).mono hB⟩
theorem NestAt.open (h : NestAt cs sub ccs k kk B w v L) : ∃ (a : Option Addr) (n cap : Nat), v = .slice a n cap ∧ L.length = n ∧ n ≤ cap ∧ cap ≤ maxLen := by
  obtain ⟨V, h1, h2, _⟩ := h
  obtain ⟨a, n, cap, e, hl, h3, h4⟩ := h2.open
  exact ⟨a, n, cap, e, by rw [List.length_zipWith, h1, Nat.min_self] at hl; exact hl, h3, h4⟩
theorem NestAt.at {n cap : Nat} {a : Option Addr} (h : NestAt cs sub ccs k kk B w (.slice a n cap) L) (i : Nat) (hi : i < L.length) :
    ∃ b off, a = some ⟨b, off, none⟩ ∧ b < B ∧ ∀ j, j < L.length → ∃ u, SlE B w kk u ((sub L[j]!).map ccs) ∧ ∀ (c : Nat) (x : Value), (cs L[j]! u)[c]? = some x → w.cell? ⟨b, off + j * k + c, none⟩ = some x := by
  obtain ⟨V, h1, h2, h3⟩ := h
  obtain ⟨b, off, e, hb, hc⟩ := h2.at i (by simp [h1]; exact hi)
  refine ⟨b, off, e, hb, fun j hj => ⟨V[j]!, h3 j hj, fun c x hx => ?_⟩⟩
  have hjV : j < V.length := by omega
  refine hc j (by simp [h1]; exact hj) c x ?_
  rw [List.getElem_zipWith]
  rw [getElem!_pos L j hj, getElem!_pos V j hjV] at hx
  exact hx
end
structure Sto where (spots : List Spt) (lanes : List Lne) (drives : List Drv) (watches : List Wat) (gap : Int) (un : Bool)
structure StoAt (B : Nat) (w : World) (vp vq vd va : Value) (x : Sto) : Prop where
  sp : Sl B w 2 vp (x.spots.map Spt.cs)
  ln : Sl B w 5 vq (x.lanes.map Lne.cs)
  dr : NestAt Drv.cs Drv.stops St2.cs 4 2 B w vd x.drives
  wa : NestAt Wat.cs Wat.syncs Sy4.cs 2 4 B w va x.watches
  nil : ∀ n c, vq = .slice none n c → c = 0
theorem StoAt.keep {B B' : Nat} {w w' : World} {vp vq vd va : Value} {x : Sto} (h : StoAt B w vp vq vd va x) (hb : Below B' w w') (hB : B ≤ B') : StoAt B w' vp vq vd va x := ⟨h.sp.keep hb hB, h.ln.keep hb hB, h.dr.keep hb hB, h.wa.keep hb hB, h.nil⟩
theorem StoAt.mono {B B' : Nat} {w : World} {vp vq vd va : Value} {x : Sto} (h : StoAt B w vp vq vd va x) (hB : B ≤ B') : StoAt B' w vp vq vd va x := ⟨h.sp.mono hB, h.ln.mono hB, h.dr.mono hB, h.wa.mono hB, h.nil⟩
theorem StoAt.later {w w' : World} {vp vq vd va : Value} {x : Sto} (h : StoAt w.heap.size w vp vq vd va x) (hb : Below w.heap.size w w') : StoAt w'.heap.size w' vp vq vd va x := (h.keep hb (Nat.le_refl _)).mono hb.size
structure Sto.fits (x : Sto) : Prop where
  sp : ∀ s ∈ x.spots, s.fits
  ln : ∀ l ∈ x.lanes, l.fits
  dr : ∀ d ∈ x.drives, d.fits
  wa : ∀ a ∈ x.watches, a.fits
  gap : Byte x.gap
def Sto.short (x : Sto) : Bool := x.drives.all (fun d => decide (d.stops.length ≤ 5)) && x.watches.all (fun a => decide (a.syncs.length ≤ 3)) && decide (x.drives.length ≤ 3) && decide (x.watches.length ≤ 2)
abbrev Sto.v (x : Sto) (vp vq vd va : Value) : Value := .agg #[vp, vq, vd, va, .int .u8 x.gap, .bool x.un]
/-- A row beside another row, and beside the box into which that one's slice is stored. -/
theorem ow_beside {B : Nat} {w w' : World} {e e' k k' bx : Nat} {v v' : Value} {A A' : List (List Value)} {cs : Array Value} {T : TypeId} {fr : Nat × Nat} (h : Ow B w e k v A) (h' : Ow B w e' k' v' A') (hne : e ≠ e') (hg : w.grownBy w' v.ownBlock) (hb1 : w'.heap[bx]? = some (.cells cs T fr)) (hT : T ≠ e') (off : Nat) (u : Value) : Ow B (w'.setCell ⟨bx, off, none⟩ u) e' k' v' A' :=
  (h'.kept hg (rows_apart h h' hne)).keepSet _ (fun e2 => hT ((h'.kept hg (rows_apart h h' hne)).type _ e2 _ _ _ hb1)) _
/-- The scenario's box and its rows, while it is built. -/
structure SM (w0 : World) (bx : Nat) (v1 v2 v3 v4 v5 : Value) (gap : Int) (N : List Nd) (R : List Rd) (V : List Value) (T : List Trp) (C : List Clk) (Y : List Snc) (wr : World) : Prop where
  box : wr.heap[bx]? = some (.cells #[v1, v2, .int .i64 gap, v3, v4, v5] 40 (0, 0))
  nod : Ow w0.heap.size wr 88 3 v1 (N.map Nd.cs)
  rds : Ow w0.heap.size wr 90 6 v2 (R.map Rd.cs)
  trp : Ow w0.heap.size wr 61 5 v3 (List.zipWith Trp.cs T V)
  len : V.length = T.length
  vis : ∀ i, i < T.length → Ow w0.heap.size wr 92 2 V[i]! (T[i]!.vis.map Vis.cs)
  clk : Ow w0.heap.size wr 48 2 v4 (C.map Clk.cs)
  snc : Ow w0.heap.size wr 58 6 v5 (Y.map Snc.cs)
  low : Below w0.heap.size w0 wr
  hbx : w0.heap.size ≤ bx
section
variable {w0 wr w' : World} {bx : Nat} {v1 v2 v3 v4 v5 : Value} {gap : Int} {N : List Nd} {R : List Rd} {V : List Value} {T : List Trp} {C : List Clk} {Y : List Snc}
theorem SM.keep (h : SM w0 bx v1 v2 v3 v4 v5 gap N R V T C Y wr) (hb : Below wr.heap.size wr w') : SM w0 bx v1 v2 v3 v4 v5 gap N R V T C Y w' :=
  ⟨keepObj hb h.box, h.nod.keep hb, h.rds.keep hb, h.trp.keep hb, h.len, fun i hi => (h.vis i hi).keep hb, h.clk.keep hb, h.snc.keep hb, h.low.trans (hb.mono h.low.size), h.hbx⟩
theorem SM.off3 (h : SM w0 bx v1 v2 v3 v4 v5 gap N R V T C Y wr) : v3.ownBlock ≠ some bx := fun e => absurd (h.trp.type _ e _ _ _ h.box) (by decide)
theorem SM.off4 (h : SM w0 bx v1 v2 v3 v4 v5 gap N R V T C Y wr) : v4.ownBlock ≠ some bx := fun e => absurd (h.clk.type _ e _ _ _ h.box) (by decide)
theorem SM.off5 (h : SM w0 bx v1 v2 v3 v4 v5 gap N R V T C Y wr) : v5.ownBlock ≠ some bx := fun e => absurd (h.snc.type _ e _ _ _ h.box) (by decide)
theorem at_ne {v : Value} {g bx : Nat} {w : World} (hoff : v.ownBlock ≠ some bx) (hlt : bx < w.heap.size) (hat : v.ownBlock = some g ∨ w.heap.size ≤ g) : g ≠ bx := by
  rcases hat with e | e
  · intro e2; exact hoff (by rw [e, e2])
  · omega
theorem SM.addC (h : SM w0 bx v1 v2 v3 v4 v5 gap N R V T C Y wr) {x : Clk} {n g cap : Nat} (hn : n = C.length) (hg : wr.grownBy w' v4.ownBlock) (ho : w'.ownsRow w0.heap.size 48 2 (.slice (some ⟨g, 0, none⟩) (n + 1) cap) (n + 1) ((C.map Clk.cs).flatten ++ x.cs)) (hat : v4.ownBlock = some g ∨ wr.heap.size ≤ g) :
    SM w0 bx v1 v2 v3 (.slice (some ⟨g, 0, none⟩) (n + 1) cap) v5 gap N R V T (C ++ [x]) Y (w'.setCell ⟨bx, 4, none⟩ (.slice (some ⟨g, 0, none⟩) (n + 1) cap)) := by
  subst hn
  have hbox := obj_lt h.box
  have hb1 : w'.heap[bx]? = _ := (hg.block bx hbox (fun e => h.off4 e.symm)).trans h.box
  have hne := at_ne h.off4 hbox hat
  have hO : Ow w0.heap.size w' 48 2 (.slice (some ⟨g, 0, none⟩) (C.length + 1) cap) ((C ++ [x]).map Clk.cs) := by
    rw [List.map_append]
    exact Ow.grow (R := C.map Clk.cs) (N := [x.cs]) (m := 1) (by rw [List.length_map]; simpa only [List.flatten_cons, List.flatten_nil, List.append_nil] using ho) rfl (fun r hr => by obtain ⟨y, _, rfl⟩ := List.mem_map.1 hr; rfl) (fun r hr => by simp at hr; subst hr; rfl)
  exact ⟨obj_set hb1, ow_beside h.clk h.nod (by decide) hg hb1 (by decide) _ _, ow_beside h.clk h.rds (by decide) hg hb1 (by decide) _ _, ow_beside h.clk h.trp (by decide) hg hb1 (by decide) _ _, h.len, fun i hi => ow_beside h.clk (h.vis i hi) (by decide) hg hb1 (by decide) _ _, hO.keepSet _ (fun e => hne (by simpa [Value.ownBlock] using e)) _, ow_beside h.clk h.snc (by decide) hg hb1 (by decide) _ _, (h.low.grown hg h.low.size (fun b hb => (h.clk.blk b hb).1)).setCell h.hbx _, h.hbx⟩
theorem SM.addY (h : SM w0 bx v1 v2 v3 v4 v5 gap N R V T C Y wr) {x : Snc} {n g cap : Nat} (hn : n = Y.length) (hg : wr.grownBy w' v5.ownBlock) (ho : w'.ownsRow w0.heap.size 58 6 (.slice (some ⟨g, 0, none⟩) (n + 1) cap) (n + 1) ((Y.map Snc.cs).flatten ++ x.cs)) (hat : v5.ownBlock = some g ∨ wr.heap.size ≤ g) :
    SM w0 bx v1 v2 v3 v4 (.slice (some ⟨g, 0, none⟩) (n + 1) cap) gap N R V T C (Y ++ [x]) (w'.setCell ⟨bx, 5, none⟩ (.slice (some ⟨g, 0, none⟩) (n + 1) cap)) := by
  subst hn
  have hbox := obj_lt h.box
  have hb1 : w'.heap[bx]? = _ := (hg.block bx hbox (fun e => h.off5 e.symm)).trans h.box
  have hne := at_ne h.off5 hbox hat
  have hO : Ow w0.heap.size w' 58 6 (.slice (some ⟨g, 0, none⟩) (Y.length + 1) cap) ((Y ++ [x]).map Snc.cs) := by
    rw [List.map_append]
    exact Ow.grow (R := Y.map Snc.cs) (N := [x.cs]) (m := 1) (by rw [List.length_map]; simpa only [List.flatten_cons, List.flatten_nil, List.append_nil] using ho) rfl (fun r hr => by obtain ⟨y, _, rfl⟩ := List.mem_map.1 hr; rfl) (fun r hr => by simp at hr; subst hr; rfl)
  exact ⟨obj_set hb1, ow_beside h.snc h.nod (by decide) hg hb1 (by decide) _ _, ow_beside h.snc h.rds (by decide) hg hb1 (by decide) _ _, ow_beside h.snc h.trp (by decide) hg hb1 (by decide) _ _, h.len, fun i hi => ow_beside h.snc (h.vis i hi) (by decide) hg hb1 (by decide) _ _, ow_beside h.snc h.clk (by decide) hg hb1 (by decide) _ _, hO.keepSet _ (fun e => hne (by simpa [Value.ownBlock] using e)) _, (h.low.grown hg h.low.size (fun b hb => (h.snc.blk b hb).1)).setCell h.hbx _, h.hbx⟩
theorem zip_app {α β γ : Type} (f : α → β → γ) (L : List α) (V : List β) (x : α) (u : β) (h : V.length = L.length) : List.zipWith f (L ++ [x]) (V ++ [u]) = List.zipWith f L V ++ [f x u] := by
  rw [List.zipWith_append h.symm]; rfl
theorem SM.addT (h : SM w0 bx v1 v2 v3 v4 v5 gap N R V T C Y wr) {x : Trp} {u : Value} {n g cap : Nat} (hu : Ow w0.heap.size wr 92 2 u (x.vis.map Vis.cs)) (hn : n = T.length) (hg : wr.grownBy w' v3.ownBlock) (ho : w'.ownsRow w0.heap.size 61 5 (.slice (some ⟨g, 0, none⟩) (n + 1) cap) (n + 1) ((List.zipWith Trp.cs T V).flatten ++ x.cs u)) (hat : v3.ownBlock = some g ∨ wr.heap.size ≤ g) :
    SM w0 bx v1 v2 (.slice (some ⟨g, 0, none⟩) (n + 1) cap) v4 v5 gap N R (V ++ [u]) (T ++ [x]) C Y (w'.setCell ⟨bx, 3, none⟩ (.slice (some ⟨g, 0, none⟩) (n + 1) cap)) := by
  subst hn
  have hbox := obj_lt h.box
  have hb1 : w'.heap[bx]? = _ := (hg.block bx hbox (fun e => h.off3 e.symm)).trans h.box
  have hne := at_ne h.off3 hbox hat
  have hzl : (List.zipWith Trp.cs T V).length = T.length := by rw [List.length_zipWith, h.len, Nat.min_self]
  have hO : Ow w0.heap.size w' 61 5 (.slice (some ⟨g, 0, none⟩) (T.length + 1) cap) (List.zipWith Trp.cs (T ++ [x]) (V ++ [u])) := by
    rw [zip_app _ _ _ _ _ h.len]
    exact Ow.grow (R := List.zipWith Trp.cs T V) (N := [x.cs u]) (m := 1) (by rw [hzl]; simpa only [List.flatten_cons, List.flatten_nil, List.append_nil] using ho) rfl (fun r hr => h.trp.2 r hr) (fun r hr => by simp at hr; subst hr; rfl)
  refine ⟨obj_set hb1, ow_beside h.trp h.nod (by decide) hg hb1 (by decide) _ _, ow_beside h.trp h.rds (by decide) hg hb1 (by decide) _ _, hO.keepSet _ (fun e => hne (by simpa [Value.ownBlock] using e)) _, by simp [h.len], fun i hi => ?_, ow_beside h.trp h.clk (by decide) hg hb1 (by decide) _ _, ow_beside h.trp h.snc (by decide) hg hb1 (by decide) _ _, (h.low.grown hg h.low.size (fun b hb => (h.trp.blk b hb).1)).setCell h.hbx _, h.hbx⟩
  by_cases hiT : i < T.length
  · rw [get_app _ _ _ hiT, get_app _ _ _ (by rw [h.len]; exact hiT)]
    exact ow_beside h.trp (h.vis i hiT) (by decide) hg hb1 (by decide) _ _
  · obtain rfl : i = T.length := by simp at hi; omega
    rw [get_last, ← h.len, get_last]
    exact ow_beside h.trp hu (by decide) hg hb1 (by decide) _ _
/-- What was built is a scenario in memory. -/
theorem SM.scn (h : SM w0 bx v1 v2 v3 v4 v5 gap N R V T C Y wr) : ScnAt wr.heap.size wr v1 v2 v3 v4 v5 ⟨⟨N, R⟩, gap, T, C, Y⟩ :=
  ⟨⟨h.nod.sl, h.rds.sl⟩, ⟨V, h.len, h.trp.sl, fun i hi => (h.vis i hi).sl⟩, h.clk.sl, h.snc.sl⟩
end
theorem SM.startA {w0 w2 : World} {v1 v2 : Value} {gap : Int} {N : List Nd} {R : List Rd} (hW : Below w0.heap.size w0 w2) (o1 : Ow w0.heap.size w2 88 3 v1 (N.map Nd.cs)) (o2 : Ow w0.heap.size w2 90 6 v2 (R.map Rd.cs)) :
    SM w0 w2.heap.size v1 v2 (.slice none 0 0) (.slice none 0 0) (.slice none 0 0) gap N R [] [] [] [] (w2.alloc (.cells #[v1, v2, .int .i64 gap, .slice none 0 0, .slice none 0 0, .slice none 0 0] 40)) :=
  ⟨obj_last _ _, o1.keep ((Below.refl _ _).alloc (Nat.le_refl _) _), o2.keep ((Below.refl _ _).alloc (Nat.le_refl _) _), Ow.nil _ _ _ _, rfl, fun i hi => by simp at hi, Ow.nil _ _ _ _, Ow.nil _ _ _ _, hW.alloc hW.size _, hW.size⟩
theorem SM.startB {w0 w2 : World} {v1 v2 c0 c1 c2 c3 c4 c5 : Value} {gap : Int} {b : Nat} {N : List Nd} {R : List Rd} (hb : w2.heap[b]? = some (.cells #[c0, c1, c2, c3, c4, c5] 40 (0, 0))) (hB : w0.heap.size ≤ b) (hW : Below w0.heap.size w0 w2) (o1 : Ow w0.heap.size w2 88 3 v1 (N.map Nd.cs)) (o2 : Ow w0.heap.size w2 90 6 v2 (R.map Rd.cs)) :
    SM w0 b v1 v2 (.slice none 0 0) (.slice none 0 0) (.slice none 0 0) gap N R [] [] [] [] ((((((w2.setCell ⟨b, 0, none⟩ v1).setCell ⟨b, 1, none⟩ v2).setCell ⟨b, 2, none⟩ (.int .i64 gap)).setCell ⟨b, 3, none⟩ (.slice none 0 0)).setCell ⟨b, 4, none⟩ (.slice none 0 0)).setCell ⟨b, 5, none⟩ (.slice none 0 0)) := by
  have n1 : v1.ownBlock ≠ some b := fun e => absurd (o1.type _ e _ _ _ hb) (by decide)
  have n2 : v2.ownBlock ≠ some b := fun e => absurd (o2.type _ e _ _ _ hb) (by decide)
  refine ⟨?_, (((((o1.keepSet _ n1 _).keepSet _ n1 _).keepSet _ n1 _).keepSet _ n1 _).keepSet _ n1 _).keepSet _ n1 _, (((((o2.keepSet _ n2 _).keepSet _ n2 _).keepSet _ n2 _).keepSet _ n2 _).keepSet _ n2 _).keepSet _ n2 _, Ow.nil _ _ _ _, rfl, fun i hi => by simp at hi, Ow.nil _ _ _ _, Ow.nil _ _ _ _, (((((hW.setCell hB _).setCell hB _).setCell hB _).setCell hB _).setCell hB _).setCell hB _, hB⟩
  rw [obj_set (obj_set (obj_set (obj_set (obj_set (obj_set hb)))))]
  simp
theorem obj_setV2 {w : World} {b : Nat} {T : TypeId} {fr : Nat × Nat} {c0 c1 v0 v1 : Value} (h : w.heap[b]? = some (.cells #[c0, c1] T fr)) : ((w.setCell ⟨b, 0, none⟩ v0).setCell ⟨b, 1, none⟩ v1).heap[b]? = some (.cells #[v0, v1] T fr) := by
  rw [obj_set (obj_set h)]
  simp
/-- A visit is appended, and the new slice stored into its trip. -/
theorem vis_add {B b g n cap : Nat} {wr w' : World} {v c0 c1 c2 c3 : Value} {X : List Vis} {x : Vis} (hbox : wr.heap[b]? = some (.cells #[c0, c1, c2, c3, v] 61 (0, 0))) (hO : Ow B wr 92 2 v (X.map Vis.cs)) (hn : n = X.length) (hg : wr.grownBy w' v.ownBlock) (ho : w'.ownsRow B 92 2 (.slice (some ⟨g, 0, none⟩) (n + 1) cap) (n + 1) ((X.map Vis.cs).flatten ++ x.cs)) (hat : v.ownBlock = some g ∨ wr.heap.size ≤ g) :
    (w'.setCell ⟨b, 4, none⟩ (.slice (some ⟨g, 0, none⟩) (n + 1) cap)).heap[b]? = some (.cells #[c0, c1, c2, c3, .slice (some ⟨g, 0, none⟩) (n + 1) cap] 61 (0, 0)) ∧ Ow B (w'.setCell ⟨b, 4, none⟩ (.slice (some ⟨g, 0, none⟩) (n + 1) cap)) 92 2 (.slice (some ⟨g, 0, none⟩) (n + 1) cap) ((X ++ [x]).map Vis.cs) ∧
    ∀ (b' : Nat) (cs : Array Value) (T : TypeId) (fr : Nat × Nat), wr.heap[b']? = some (.cells cs T fr) → b' ≠ b → T ≠ 92 → (w'.setCell ⟨b, 4, none⟩ (.slice (some ⟨g, 0, none⟩) (n + 1) cap)).heap[b']? = some (.cells cs T fr) := by
  subst hn
  have hoff : v.ownBlock ≠ some b := fun e => absurd (hO.type _ e _ _ _ hbox) (by decide)
  have hlt := obj_lt hbox
  have hb1 := (hg.block b hlt (fun e => hoff e.symm)).trans hbox
  have hne := at_ne hoff hlt hat
  refine ⟨obj_set hb1, ?_, fun b' cs T fr ho' hne' hT => ?_⟩
  · have hO2 : Ow B w' 92 2 (.slice (some ⟨g, 0, none⟩) (X.length + 1) cap) ((X ++ [x]).map Vis.cs) := by
      rw [List.map_append]
      exact Ow.grow (R := X.map Vis.cs) (N := [x.cs]) (m := 1) (by rw [List.length_map]; simpa only [List.flatten_cons, List.flatten_nil, List.append_nil] using ho) rfl (fun r hr => by obtain ⟨y, _, rfl⟩ := List.mem_map.1 hr; rfl) (fun r hr => by simp at hr; subst hr; rfl)
    exact hO2.keepSet _ (fun e => hne (by simpa [Value.ownBlock] using e)) _
  · have hnb : v.ownBlock ≠ some b' := fun e => hT (hO.type b' e _ _ _ ho')
    exact obj_setOther ((hg.block b' (obj_lt ho') (fun e => hnb e.symm)).trans ho') hne'
theorem obj_set6' {w : World} {b : Nat} {T : TypeId} {fr : Nat × Nat} {c0 c1 c2 c3 c4 c5 : Value} (h : w.heap[b]? = some (.cells #[c0, c1, c2, c3, c4, c5] T fr)) (v0 v1 v2 v3 v4 v5 : Value) : ((((((w.setCell ⟨b, 0, none⟩ v0).setCell ⟨b, 1, none⟩ v1).setCell ⟨b, 2, none⟩ v2).setCell ⟨b, 3, none⟩ v3).setCell ⟨b, 4, none⟩ v4).setCell ⟨b, 5, none⟩ v5).heap[b]? = some (.cells #[v0, v1, v2, v3, v4, v5] T fr) := by
  rw [obj_set (obj_set (obj_set (obj_set (obj_set (obj_set h)))))]
  simp
/-- The rows alone. -/
structure SR (w0 : World) (v1 v2 v3 v4 v5 : Value) (N : List Nd) (R : List Rd) (V : List Value) (T : List Trp) (C : List Clk) (Y : List Snc) (wr : World) : Prop where
  nod : Ow w0.heap.size wr 88 3 v1 (N.map Nd.cs)
  rds : Ow w0.heap.size wr 90 6 v2 (R.map Rd.cs)
  trp : Ow w0.heap.size wr 61 5 v3 (List.zipWith Trp.cs T V)
  len : V.length = T.length
  vis : ∀ i, i < T.length → Ow w0.heap.size wr 92 2 V[i]! (T[i]!.vis.map Vis.cs)
  clk : Ow w0.heap.size wr 48 2 v4 (C.map Clk.cs)
  snc : Ow w0.heap.size wr 58 6 v5 (Y.map Snc.cs)
section
variable {w0 wr : World} {bx : Nat} {v1 v2 v3 v4 v5 : Value} {gap : Int} {N : List Nd} {R : List Rd} {V : List Value} {T : List Trp} {C : List Clk} {Y : List Snc}
theorem SM.rows (h : SM w0 bx v1 v2 v3 v4 v5 gap N R V T C Y wr) : SR w0 v1 v2 v3 v4 v5 N R V T C Y wr := ⟨h.nod, h.rds, h.trp, h.len, h.vis, h.clk, h.snc⟩
theorem own_off {B b : Nat} {w : World} {e k : Nat} {v : Value} {A : List (List Value)} (h : Ow B w e k v A) (hb : b < B) : v.ownBlock ≠ some b := fun e => by have := h.blk b e; omega
theorem SR.set (h : SR w0 v1 v2 v3 v4 v5 N R V T C Y wr) {b : Nat} (hb : b < w0.heap.size) (off : Nat) (u : Value) : SR w0 v1 v2 v3 v4 v5 N R V T C Y (wr.setCell ⟨b, off, none⟩ u) :=
  ⟨h.nod.keepSet _ (own_off h.nod hb) _, h.rds.keepSet _ (own_off h.rds hb) _, h.trp.keepSet _ (own_off h.trp hb) _, h.len, fun i hi => (h.vis i hi).keepSet _ (own_off (h.vis i hi) hb) _, h.clk.keepSet _ (own_off h.clk hb) _, h.snc.keepSet _ (own_off h.snc hb) _⟩
theorem SR.mono {w1 : World} (h : SR w0 v1 v2 v3 v4 v5 N R V T C Y wr) (hz : w1.heap.size ≤ w0.heap.size) : SR w1 v1 v2 v3 v4 v5 N R V T C Y wr :=
  ⟨h.nod.mono hz, h.rds.mono hz, h.trp.mono hz, h.len, fun i hi => (h.vis i hi).mono hz, h.clk.mono hz, h.snc.mono hz⟩
theorem SR.keep {w' : World} (h : SR w0 v1 v2 v3 v4 v5 N R V T C Y wr) (hb : Below wr.heap.size wr w') : SR w0 v1 v2 v3 v4 v5 N R V T C Y w' :=
  ⟨h.nod.keep hb, h.rds.keep hb, h.trp.keep hb, h.len, fun i hi => (h.vis i hi).keep hb, h.clk.keep hb, h.snc.keep hb⟩
theorem SR.scn (h : SR w0 v1 v2 v3 v4 v5 N R V T C Y wr) (gap : Int) : ScnAt wr.heap.size wr v1 v2 v3 v4 v5 ⟨⟨N, R⟩, gap, T, C, Y⟩ :=
  ⟨⟨h.nod.sl, h.rds.sl⟩, ⟨V, h.len, h.trp.sl, fun i hi => (h.vis i hi).sl⟩, h.clk.sl, h.snc.sl⟩
end
theorem isScnT : (match Tryz.prog.underlying 40 with | some (.struct _) => true | _ => false) = true := by kernel_rfl
theorem uScnT : ∃ fs, Tryz.prog.underlying 40 = some (.struct fs) := by
  have h := isScnT
  split at h
  · rename_i fs hq; exact ⟨fs, hq⟩
  · cases h
theorem iScnT : (Tryz.prog.info? 40).map (·.size) = some 6 := by kernel_rfl
theorem own_sy {B b : Nat} {w : World} {x : Sy4} (hb : w.heap[b]? = some (.cells #[.int .u8 x.a, .int .u8 x.b, .int .u8 x.c, .int .u8 x.d] 110 (0, 0))) (hB : B ≤ b) : Ow B w 110 4 (.slice (some ⟨b, 0, none⟩) 1 1) ([x].map Sy4.cs) :=
  ⟨⟨by simp [Sy4.cs], .inr ⟨b, 1, _, rfl, hB, hb, Nat.le_refl _, by unfold maxLen; omega, rfl, by simp [Sy4.cs]⟩⟩, fun r hr => by simp at hr; subst hr; rfl⟩
/-- A watch's syncs: in memory that came in, or in a row of the call's own. -/
def ZAt (w0 : World) (v : Value) (Z : List Sy4) (wx : World) : Prop := SlE w0.heap.size wx 4 v (Z.map Sy4.cs) ∨ Ow w0.heap.size wx 110 4 v (Z.map Sy4.cs)
theorem ZAt.sl {w0 wx : World} {v : Value} {Z : List Sy4} (h : ZAt w0 v Z wx) (hz : w0.heap.size ≤ wx.heap.size) : SlE wx.heap.size wx 4 v (Z.map Sy4.cs) := by
  rcases h with h | h
  · exact h.mono hz
  · exact .inl h.sl
theorem ZAt.keep {w0 wx w' : World} {v : Value} {Z : List Sy4} (h : ZAt w0 v Z wx) (hb : Below wx.heap.size wx w') (hz : w0.heap.size ≤ wx.heap.size) : ZAt w0 v Z w' := by
  rcases h with h | h
  · exact .inl (h.keep hb hz)
  · exact .inr (h.keep hb)
section
variable {w0 wr w' : World} {bx : Nat} {v1 v2 v3 v4 v5 : Value} {gap : Int} {N : List Nd} {R : List Rd} {V : List Value} {T : List Trp} {C : List Clk} {Y : List Snc}
theorem SM.z5 (h : SM w0 bx v1 v2 v3 v4 v5 gap N R V T C Y wr) {v : Value} {Z : List Sy4} (hz : ZAt w0 v Z wr) (hg : wr.grownBy w' v5.ownBlock) (u : Value) : ZAt w0 v Z (w'.setCell ⟨bx, 5, none⟩ u) := by
  rcases hz with hz | hz
  · exact .inl (hz.keep (((Below.refl w0.heap.size wr).grown hg h.low.size (fun b hb => (h.snc.blk b hb).1)).setCell h.hbx _) (Nat.le_refl _))
  · exact .inr (ow_beside h.snc hz (by decide) hg ((hg.block bx (obj_lt h.box) (fun e => h.off5 e.symm)).trans h.box) (by decide) _ _)
theorem SM.obj5 (h : SM w0 bx v1 v2 v3 v4 v5 gap N R V T C Y wr) (hg : wr.grownBy w' v5.ownBlock) {b : Nat} {cs : Array Value} {ty : TypeId} {fr : Nat × Nat} (ho : wr.heap[b]? = some (.cells cs ty fr)) (hT : ty ≠ 58) (hT2 : ty ≠ 40) (u : Value) : (w'.setCell ⟨bx, 5, none⟩ u).heap[b]? = some (.cells cs ty fr) := by
  have hne : b ≠ bx := fun e => by rw [e, h.box] at ho; injection ho with ho; injection ho with _ ho _; exact hT2 ho.symm
  have hnb : v5.ownBlock ≠ some b := fun e => hT (h.snc.type b e _ _ _ ho)
  exact obj_setOther ((hg.block b (obj_lt ho) (fun e => hnb e.symm)).trans ho) hne
end
theorem clk_cell1 (x : Clk) : ∀ u ∈ x.cs, u.oneCell' = true := by
  intro u hu
  simp only [Clk.cs, List.mem_cons, List.mem_nil_iff, or_false] at hu
  rcases hu with h | h <;> rw [h] <;> rfl
theorem snc_cell1 (x : Snc) : ∀ u ∈ x.cs, u.oneCell' = true := by
  intro u hu
  simp only [Snc.cs, List.mem_cons, List.mem_nil_iff, or_false] at hu
  rcases hu with h | h | h | h | h | h <;> rw [h] <;> rfl
theorem vis_cell1 (x : Vis) : ∀ u ∈ x.cs, u.oneCell' = true := by
  intro u hu
  simp only [Vis.cs, List.mem_cons, List.mem_nil_iff, or_false] at hu
  rcases hu with h | h <;> rw [h] <;> rfl
theorem trp_cell1 (x : Trp) (a : Option Addr) (n c : Nat) : ∀ u ∈ x.cs (.slice a n c), u.oneCell' = true := by
  intro u hu
  simp only [Trp.cs, List.mem_cons, List.mem_nil_iff, or_false] at hu
  rcases hu with h | h | h | h | h <;> rw [h] <;> rfl
theorem uClkS : Tryz.prog.underlying 37 = some (.slice 48) := by kernel_rfl
theorem iClkS : (Tryz.prog.info? 48).map (fun i => (i.zero, i.size, i.bytes)) = some (some (.agg #[.int .i64 0, .int .i64 0]), 2, 16) := by kernel_rfl
theorem uSncS : Tryz.prog.underlying 38 = some (.slice 58) := by kernel_rfl
theorem iSncS : (Tryz.prog.info? 58).map (fun i => (i.zero, i.size, i.bytes)) = some (some (.agg #[.int .i64 0, .int .i64 0, .int .i64 0, .int .i64 0, .int .i64 0, .int .i64 0]), 6, 48) := by kernel_rfl
theorem uVisS : Tryz.prog.underlying 59 = some (.slice 92) := by kernel_rfl
theorem iVisS : (Tryz.prog.info? 92).map (fun i => (i.zero, i.size, i.bytes)) = some (some (.agg #[.int .i64 0, .int .i64 0]), 2, 16) := by kernel_rfl
theorem uTrpS : Tryz.prog.underlying 36 = some (.slice 61) := by kernel_rfl
theorem iTrpS : (Tryz.prog.info? 61).map (fun i => (i.zero, i.size, i.bytes)) = some (some (.agg #[.int .i64 0, .int .i64 0, .int .i64 0, .int .i64 0, .slice none 0 0]), 5, 56) := by kernel_rfl
end Go.Proofs.YtmplajpbmojkkaaGreat
