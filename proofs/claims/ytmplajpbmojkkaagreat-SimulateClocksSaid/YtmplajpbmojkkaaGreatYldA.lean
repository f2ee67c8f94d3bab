/-
  The model's walk of a trip: the plain laws.
  The closure of simulate's stops: a hop's stops are appended.
-/
import Derived.Test.YtmplajpbmojkkaaGreatHopsM
set_option linter.unusedSimpArgs false
set_option linter.unusedVariables false
namespace Go.Proofs.YtmplajpbmojkkaaGreat
open Go Go.RowKit Go.Vi
theorem way_desc {A : Int → List Hp} {left : Int → Int → Prop} (hl : ∀ x d d', left x d → left x d' → d = d') (hA : ∀ u, ∀ g ∈ A u, 1 ≤ g.len) {a b : Int} {R : List Hp} (h : Way A left b a R) : ∀ d, left a d → (∀ x ∈ R, ∃ r, left x.dst r ∧ r < d) ∧ (R.map Hp.dst).Nodup := by
  induction h with
  | done => intro d _; exact ⟨(fun x hx => nomatch hx), List.nodup_nil⟩
  | @step a R i hne hi hk hf hw ih =>
    intro d hd
    obtain ⟨r, d', h1, h2, h3⟩ := hk
    have e := hl _ _ _ hd h2
    subst e
    have hlen := hA a _ (List.getElem_mem hi)
    obtain ⟨g1, g2⟩ := ih r h1
    refine ⟨fun x hx => ?_, ?_⟩
    · rcases List.mem_cons.1 hx with rfl | hx
      · exact ⟨r, h1, by omega⟩
      · obtain ⟨q, hq, hlt⟩ := g1 x hx
        exact ⟨q, hq, by omega⟩
    · rw [List.map_cons, List.nodup_cons]
      refine ⟨fun hm => ?_, g2⟩
      obtain ⟨x, hx, e⟩ := List.mem_map.1 hm
      obtain ⟨q, hq, hlt⟩ := g1 x hx
      rw [e] at hq
      have := hl _ _ _ hq h1
      omega
theorem route_few {n : Net} {a b l : Int} {R : List Hp} (h : IsRoute n a b R l) (hK : NetOK n) (hsz : n.roads.length ≤ 100) : R.length ≤ 200 := by
  obtain ⟨_, _, A, B, hA, _, hB, hw⟩ := h
  have hn := (way_desc (left := Least B b) (fun x d d' h1 h2 => Least.unique h1 h2) (fun u g hg => (hK.hop hA u g hg).1) hw l hB).2
  have hm : ∀ x ∈ R.map Hp.dst, x ∈ endsOf n.roads := by
    intro x hx
    obtain ⟨g, hg, rfl⟩ := List.mem_map.1 hx
    obtain ⟨u, hu⟩ := hw.mem g hg
    obtain ⟨r, hr, _, _, h1 | h1⟩ := hop_road hA hu
    · rw [h1.2]; exact List.mem_append_right _ (List.mem_map.2 ⟨r, hr, rfl⟩)
    · rw [h1.2]; exact List.mem_append_left _ (List.mem_map.2 ⟨r, hr, rfl⟩)
  have := nodup_len hn hm
  simp [endsOf] at this
  omega
/-- The hops' times. -/
theorem hop_time {S : Scn} (hK : NetOK S.net) {speed a b l : Int} {R : List Hp} (h : IsRoute S.net a b R l) (hs : 1 ≤ speed ∧ speed ≤ 1048576) : ∀ x ∈ R, 1 ≤ hopTime S.net speed x.road := by
  intro x hx
  obtain ⟨r, hr, h1, _⟩ := route_rd h hK x hx
  have hz := roadErr_zero (hK.road r hr).2
  unfold hopTime
  rw [h1]
  exact (tdiv_time r.len (min speed r.lim) hz.2.1.1 (by have := hz.1.1; omega)).1
/-- A tour, part of which is done. -/
def cont (r : Except Int (List Stp)) (L : List Stp) : Except Int (List Stp) := match r with
  | .error c => .error c
  | .ok rest => .ok (L ++ rest)
theorem cont_nil (r : Except Int (List Stp)) : cont r [] = r := by cases r <;> rfl
theorem cont_cont (r : Except Int (List Stp)) (L L' : List Stp) : cont (cont r L') L = cont r (L ++ L') := by cases r <;> simp [cont]
theorem tour_at {S : Scn} {speed : Int} {l : List Vis} {k : Nat} (h : k < l.length) (p : Option Int) (now : Int) : tour S speed p now (l.drop k) = match driveIf S speed p l[k]!.node with
    | .error e => .error e
    | .ok m => cont (tour S speed (some l[k]!.node) (gone now m + l[k]!.wait) (l.drop (k + 1))) (moves now m ++ waits S.gap l[k]!.node l[k]!.wait.toNat (gone now m) (gone now m + l[k]!.wait)) := by
  rw [List.drop_eq_getElem_cons h, getElem!_pos l k h]
  conv => lhs; unfold tour
  cases driveIf S speed p l[k].node with
  | error e => rfl
  | ok m =>
    simp only [cont]
    cases tour S speed (some l[k].node) (gone now m + l[k].wait) (l.drop (k + 1)) <;> rfl
/-- One stop of waiting. -/
theorem waits_step {gap node now fin : Int} {k : Nat} (h : now < fin) (hk : fin - now ≤ (k : Int)) : ∃ j, k = j + 1 ∧ waits gap node k now fin = ⟨min (now + gap) fin, node⟩ :: waits gap node j (min (now + gap) fin) fin := by
  cases k with
  | zero => simp at hk; omega
  | succ j =>
    refine ⟨j, rfl, ?_⟩
    conv => lhs; unfold waits
    rw [if_pos h]
theorem waits_none {gap node now fin : Int} {k : Nat} (h : ¬now < fin) : waits gap node k now fin = [] := by
  cases k with
  | zero => rfl
  | succ j => unfold waits; rw [if_neg h]
theorem waits_fuel {gap node fin : Int} (hg : 1 ≤ gap) : ∀ (k k' : Nat) (now : Int), fin - now ≤ k → fin - now ≤ k' → waits gap node k now fin = waits gap node k' now fin
  | 0, k', now, h, _ => by
    rw [waits_none (k := k') (by simp at h; omega)]; rfl
  | k + 1, k', now, h, h' => by
    by_cases hlt : now < fin
    · obtain ⟨j, hj, e⟩ := waits_step (gap := gap) (node := node) hlt h
      obtain ⟨j', hj', e'⟩ := waits_step (gap := gap) (node := node) hlt h'
      rw [e, e', waits_fuel hg j j' _ (by omega) (by omega)]
    · rw [waits_none hlt, waits_none hlt]
theorem iStop : (Tryz.prog.info? 66).map (fun i => (i.zero, i.size, i.bytes)) = some (some (.agg #[.int .i64 0, .int .i64 0]), 2, 16) := by kernel_rfl
theorem uStops : Tryz.prog.underlying 54 = some (.slice 66) := by kernel_rfl
theorem uLegs : Tryz.prog.underlying 113 = some (.slice 156) := by kernel_rfl
theorem stp_one (x : Stp) : ∀ u ∈ x.cs, u.oneCell' = true := by
  intro u hu
  simp only [Stp.cs, List.mem_cons, List.mem_nil_iff, or_false] at hu
  rcases hu with h | h <;> rw [h] <;> rfl
theorem leg_one (x : LegD) : ∀ u ∈ x.cs, u.oneCell' = true := by
  intro u hu
  simp only [LegD.cs, List.mem_cons, List.mem_nil_iff, or_false] at hu
  rcases hu with h | h | h | h | h | h | h | h | h | h | h | h | h | h | h | h | h <;> rw [h] <;> rfl
/-- The walk's two slices in memory. -/
structure WMem (B : Nat) (W0 : World) (vo vl : Value) (L : List Stp) (G : List LegD) (wx : World) : Prop where
  low : Below B W0 wx
  sz : B ≤ wx.heap.size
  out : Ow B wx 66 2 vo (L.map Stp.cs)
  leg : Ow B wx 156 17 vl (G.map LegD.cs)
section
variable {B : Nat} {W0 wx w' : World} {vo vl : Value} {L : List Stp} {G : List LegD}
theorem WMem.keep (h : WMem B W0 vo vl L G wx) (hb : Below wx.heap.size wx w') : WMem B W0 vo vl L G w' := ⟨h.low.trans (hb.mono h.sz), Nat.le_trans h.sz hb.size, h.out.keep hb, h.leg.keep hb⟩
theorem WMem.apart (h : WMem B W0 vo vl L G wx) (g : Nat) (h1 : vo.ownBlock = some g) : vl.ownBlock ≠ some g := by
  intro h2
  rcases h.out.1.2 with ⟨e, _⟩ | ⟨g', cap, cur, e, _, hh, _⟩
  · rw [e] at h1; simp [Value.ownBlock] at h1
  · have hg : g' = g := by rw [e] at h1; simpa [Value.ownBlock] using h1
    have := h.leg.type g h2 _ _ _ (hg ▸ hh)
    simp at this
theorem WMem.apart2 (h : WMem B W0 vo vl L G wx) : vl.ownBlock = none ∨ vl.ownBlock ≠ vo.ownBlock := by
  cases hq : vl.ownBlock with
  | none => exact .inl rfl
  | some g => exact .inr fun e => h.apart g e.symm hq
theorem WMem.apart3 (h : WMem B W0 vo vl L G wx) : vo.ownBlock = none ∨ vo.ownBlock ≠ vl.ownBlock := by
  cases hq : vo.ownBlock with
  | none => exact .inl rfl
  | some g => exact .inr fun e => h.apart g hq e.symm
theorem WMem.add (h : WMem B W0 vo vl L G wx) {x : Stp} {n g cap : Nat} (hn : n = L.length) (hg : wx.grownBy w' vo.ownBlock) (ho : w'.ownsRow B 66 2 (.slice (some ⟨g, 0, none⟩) (n + 1) cap) (n + 1) ((L.map Stp.cs).flatten ++ x.cs)) : WMem B W0 (.slice (some ⟨g, 0, none⟩) (n + 1) cap) vl (L ++ [x]) G w' := by
  subst hn
  refine ⟨h.low.grown hg h.sz (fun b hb => (h.out.blk b hb).1), Nat.le_trans h.sz hg.size, ?_, h.leg.kept hg h.apart2⟩
  rw [List.map_append]
  exact Ow.grow (R := L.map Stp.cs) (N := [x.cs]) (m := 1) (by rw [List.length_map]; simpa only [List.flatten_cons, List.flatten_nil, List.append_nil] using ho) rfl (fun r hr => by obtain ⟨y, _, rfl⟩ := List.mem_map.1 hr; rfl) (fun r hr => by simp at hr; subst hr; rfl)
theorem WMem.addLeg (h : WMem B W0 vo vl L G wx) {x : LegD} {n g cap : Nat} (hn : n = G.length) (hg : wx.grownBy w' vl.ownBlock) (ho : w'.ownsRow B 156 17 (.slice (some ⟨g, 0, none⟩) (n + 1) cap) (n + 1) ((G.map LegD.cs).flatten ++ x.cs)) : WMem B W0 vo (.slice (some ⟨g, 0, none⟩) (n + 1) cap) L (G ++ [x]) w' := by
  subst hn
  refine ⟨h.low.grown hg h.sz (fun b hb => (h.leg.blk b hb).1), Nat.le_trans h.sz hg.size, h.out.kept hg h.apart3, ?_⟩
  rw [List.map_append]
  exact Ow.grow (R := G.map LegD.cs) (N := [x.cs]) (m := 1) (by rw [List.length_map]; simpa only [List.flatten_cons, List.flatten_nil, List.append_nil] using ho) rfl (fun r hr => by obtain ⟨y, _, rfl⟩ := List.mem_map.1 hr; rfl) (fun r hr => by simp at hr; subst hr; rfl)
end
end Go.Proofs.YtmplajpbmojkkaaGreat
namespace Go.Proofs.YtmplajpbmojkkaaGreat
open Go Go.RowKit Go.Vi
structure Shp where (src dst road begin long : Int)
abbrev Shp.v (h : Shp) : Value := .agg #[.int .i64 h.src, .int .i64 h.dst, .int .i64 h.road, .int .i64 h.begin, .int .i64 h.long]
/-- The captured variable and its row. -/
structure OAt (w : World) (B bo : Nat) (v : Value) (L : List Stp) : Prop where
  var : w.heap[bo]? = some (.cells #[v] 54 (0, 0))
  own : Ow B w 66 2 v (L.map Stp.cs)
theorem OAt.apart {w : World} {B bo : Nat} {v : Value} {L : List Stp} (h : OAt w B bo v L) : v.ownBlock ≠ some bo := by
  intro e
  have := h.own.type bo e _ _ _ h.var
  simp at this
theorem OAt.keep {w w' : World} {B bo : Nat} {v : Value} {L : List Stp} (h : OAt w B bo v L) (hb : Below w.heap.size w w') : OAt w' B bo v L := ⟨keepObj hb h.var, h.own.keep hb⟩
/-- Behind the append and the store. -/
theorem OAt.add {w w1 : World} {B bo n g cap : Nat} {v : Value} {L : List Stp} {x : Stp} (h : OAt w B bo v L) (hn : n = L.length) (hg : w.grownBy w1 v.ownBlock) (ho : w1.ownsRow B 66 2 (.slice (some ⟨g, 0, none⟩) (n + 1) cap) (n + 1) ((L.map Stp.cs).flatten ++ x.cs)) (hat : v.ownBlock = some g ∨ w.heap.size ≤ g) :
    OAt (w1.setCell ⟨bo, 0, none⟩ (.slice (some ⟨g, 0, none⟩) (n + 1) cap)) B bo (.slice (some ⟨g, 0, none⟩) (n + 1) cap) (L ++ [x]) ∧ QF w (w1.setCell ⟨bo, 0, none⟩ (.slice (some ⟨g, 0, none⟩) (n + 1) cap)) bo v.ownBlock := by
  subst hn
  have hbo := obj_lt h.var
  have hv1 : w1.heap[bo]? = some (.cells #[v] 54 (0, 0)) := by rw [hg.block bo hbo (fun e => h.apart e.symm)]; exact h.var
  have hne : g ≠ bo := by
    rcases hat with e | e
    · intro e2; exact h.apart (by rw [e, e2])
    · omega
  have hO : Ow B w1 66 2 (.slice (some ⟨g, 0, none⟩) (L.length + 1) cap) ((L ++ [x]).map Stp.cs) := by
    rw [List.map_append]
    exact Ow.grow (R := L.map Stp.cs) (N := [x.cs]) (m := 1) (by rw [List.length_map]; simpa only [List.flatten_cons, List.flatten_nil, List.append_nil] using ho) rfl (fun r hr => by obtain ⟨y, _, rfl⟩ := List.mem_map.1 hr; rfl) (fun r hr => by simp at hr; subst hr; rfl)
  exact ⟨⟨obj_set hv1, hO.keepSet _ (fun e => hne (by simpa [Value.ownBlock] using e)) _⟩, (QF.of_grown hg bo).trans (qf_set _ _ _ _ _) (.inl rfl)⟩
set_option maxRecDepth 100000 in
set_option maxHeartbeats 4000000 in
theorem yieldRoad_any (h : Shp) (hr : h.road ≠ 0) (gap : Int) (v1 v2 v3 v4 v5 v : Value) {B bo bs : Nat} {L : List Stp} (w : World) (hs : w.heap[bs]? = some (.cells #[v1, v2, .int .i64 gap, v3, v4, v5] 40)) (hO : OAt w B bo v L) (hL : L.length ≤ 100000) (hB : B ≤ w.heap.size)
    (hb : 0 ≤ h.begin ∧ h.begin ≤ 1125899906842624) (hl : 0 ≤ h.long ∧ h.long ≤ 1125899906842624) :
    Calls Tryz.prog 46 #[h.v, .pointer (some ⟨bs, 0, none⟩), .pointer (some ⟨bo, 0, none⟩)] w fun e w' => e = .returned (.tuple #[]) ∧ ∃ v', OAt w' B bo v' (L ++ [⟨h.begin + h.long, h.dst⟩]) ∧ QF w w' bo v.ownBlock ∧ (v'.ownBlock = v.ownBlock ∨ ∀ g, v'.ownBlock = some g → w.heap.size ≤ g) := by
  obtain ⟨a, n, c, rfl⟩ := hO.own.val
  have hn := hO.own.sl.len
  rw [List.length_map] at hn
  rw [hn] at hL
  have hc := obj_cell hO.var 0
  have hfr := obj_free hO.var 0
  have hg := obj_cell hs 2
  simp at hc hg
  have hzo := obj_lt hO.var
  have hzs := obj_lt hs
  have HO := Lib.hid hO
  have HN := Lib.hid hn
  have hr' : (h.road == 0) = false := by simpa using hr
  have HOW : Hid (∀ W, Below w.heap.size w W → W.ownsRow B 66 2 (.slice a n c) n (L.map Stp.cs).flatten) := fun W hW => by
    have q := (hO.own.keep hW).1
    rw [List.length_map, hn] at q
    exact q
  obtain ⟨i0, hi, hz0, hz1, hz2⟩ := info_parts iStop
  obtain ⟨hb1, hb2⟩ := hb
  obtain ⟨hl1, hl2⟩ := hl
  clear hO hn hs hr
  go_enter Tryz.func46, Tryz.ntmps46
  go_wp2
  go_loopw [4] (fun s4 wr => s4 = .int .i64 gap ∧ wr = w.alloc (.cells #[.int .i64 h.src, .int .i64 h.dst, .int .i64 h.road, .int .i64 h.begin, .int .i64 h.long] 135)) (fun _ _ => 0)
  case atStart => exact ⟨rfl, rfl⟩
  case round =>
    obtain ⟨rfl, rfl⟩ := hrel
    go_wp2_with (at_builtin; refine wpList_append_lies _ (by rfl) _ _ _ (by rfl) B 66 i0 _ 2 16 uStops hi hz0 hz1 hz2 rfl (by decide) (.slice a n c) n (L.map Stp.cs).flatten (by rfl) (HOW.out _ (by (repeat (first | with_reducible exact Below.refl _ _ | with_reducible assumption | ((with_reducible refine Below.setCell ?_ ?_ _); rotate_left; focus (first | exact Nat.le_refl _ | omega | exact Below.size (by assumption) | (simp; done) | (simp; omega))) | ((with_reducible refine Below.alloc ?_ ?_ _); rotate_left; focus (first | exact Nat.le_refl _ | omega | exact Below.size (by assumption) | (simp; done) | (simp; omega))) | (with_reducible refine Below.drew ?_) | (with_reducible refine drewN_ ?_ _))))) ⟨w.heap.size + 1, 0, none⟩ 1 1 (⟨h.begin + h.long, h.dst⟩ : Stp).cs (by rfl) rfl (World.news_of_block (cs := #[.int .i64 (h.begin + h.long), .int .i64 h.dst]) (t := 66) (fr := (0, 0)) (obj_last2 _ _ _)) (stp_one _) (by omega) (by unfold maxLen; omega) (by omega) (by simp; omega) _ rfl ?_; intro gg cap w1 hown1 hgrow hat hlt1; have hall := (grown_of (w := w) (row := (Value.slice a n c).ownBlock) (by (repeat (first | with_reducible exact Below.refl _ _ | with_reducible assumption | ((with_reducible refine Below.setCell ?_ ?_ _); rotate_left; focus (first | exact Nat.le_refl _ | omega | exact Below.size (by assumption) | (simp; done) | (simp; omega))) | ((with_reducible refine Below.alloc ?_ ?_ _); rotate_left; focus (first | exact Nat.le_refl _ | omega | exact Below.size (by assumption) | (simp; done) | (simp; omega))) | (with_reducible refine Below.drew ?_) | (with_reducible refine drewN_ ?_ _))))).trans hgrow; have hc1 := (hall.cell_far ⟨bo, 0, none⟩ hzo (fun e => HO.out.apart e.symm)).trans hc; have hf1 := (hall.frozen_far ⟨bo, 0, none⟩ hzo (fun e => HO.out.apart e.symm)).trans hfr; have HAT := Lib.hid (show (Value.slice a n c).ownBlock = some gg ∨ w.heap.size ≤ gg from hat.imp id (fun e => by rw [e]; first | (simp; done) | (simp; omega))); have HALL := Lib.hid hall; have HOWN := Lib.hid hown1; clear hgrow hat hall hown1)
    go_end0
    have q := HO.out.add HN.out.symm HALL.out HOWN.out HAT.out
    exact ⟨rfl, _, q.1, q.2, HAT.out.elim (fun e => .inl (by rw [e]; rfl)) (fun e => .inr (fun g hg => by simp [Value.ownBlock] at hg; omega))⟩
/-- What a wait leaves in the list. -/
def Waited (L W L' : List Stp) : Prop := (L.length + W.length ≤ 256 → L' = L ++ W) ∧ (256 < L.length + W.length → 256 < L'.length) ∧ L'.length ≤ max (L.length + 1) 258
set_option maxRecDepth 100000 in
set_option maxHeartbeats 4000000 in
theorem yieldWait_any (src dst begin long gap : Int) (v1 v2 v3 v4 v5 v : Value) {B bo bs : Nat} {L : List Stp} (w : World) (hs : w.heap[bs]? = some (.cells #[v1, v2, .int .i64 gap, v3, v4, v5] 40)) (hO : OAt w B bo v L) (hL : L.length ≤ 100000) (hB : B ≤ w.heap.size) (hbs : bs ≠ bo) (hbl : ∀ g, v.ownBlock = some g → g ≠ bs)
    (hb : 0 ≤ begin ∧ begin ≤ 1125899906842624) (hl : 0 < long ∧ long ≤ 1073741824) (hg : 1 ≤ gap ∧ gap ≤ 1073741824) :
    Calls Tryz.prog 46 #[(⟨src, dst, 0, begin, long⟩ : Shp).v, .pointer (some ⟨bs, 0, none⟩), .pointer (some ⟨bo, 0, none⟩)] w fun e w' => e = .returned (.tuple #[]) ∧ ∃ v' L', Waited L (waits gap dst long.toNat begin (begin + long)) L' ∧ OAt w' B bo v' L' ∧ QF w w' bo v.ownBlock ∧ (v'.ownBlock = v.ownBlock ∨ ∀ g, v'.ownBlock = some g → w.heap.size ≤ g) := by
  obtain ⟨i0, hi, hz0, hz1, hz2⟩ := info_parts iStop
  have hcg := obj_cell hs 2
  simp at hcg
  have hzs := obj_lt hs
  obtain ⟨hb1, hb2⟩ := hb
  obtain ⟨hl1, hl2⟩ := hl
  obtain ⟨hg1, hg2⟩ := hg
  have HO := Lib.hid hO
  have HS := Lib.hid hs
  clear hO hs
  go_enter Tryz.func46, Tryz.ntmps46
  go_wp2
  go_loopw [4] (fun s4 wr => ∃ (t : Int) (v' : Value) (L' : List Stp), s4 = .int .i64 (t + gap) ∧ 0 ≤ t ∧ t < long ∧ L'.length ≤ max L.length 257 ∧ Hid (L' ++ waits gap dst long.toNat (begin + t) (begin + long) = L ++ waits gap dst long.toNat begin (begin + long)) ∧ Hid (OAt wr B bo v' L') ∧ Hid (QF w wr bo v.ownBlock) ∧ Hid (v'.ownBlock = v.ownBlock ∨ ∀ g, v'.ownBlock = some g → w.heap.size < g) ∧ Hid (wr.heap[w.heap.size]? = some (.cells #[.int .i64 src, .int .i64 dst, .int .i64 0, .int .i64 begin, .int .i64 long] 135))) (fun s4 _ => (long + gap - intOf s4).toNat)
  case atStart =>
    refine ⟨0, v, L, by simp, by omega, hl1, by omega, by show _ = _; simp, HO.out.keep (by (repeat (first | with_reducible exact Below.refl _ _ | with_reducible assumption | ((with_reducible refine Below.setCell ?_ ?_ _); rotate_left; focus (first | exact Nat.le_refl _ | omega | exact Below.size (by assumption) | (simp; done) | (simp; omega))) | ((with_reducible refine Below.alloc ?_ ?_ _); rotate_left; focus (first | exact Nat.le_refl _ | omega | exact Below.size (by assumption) | (simp; done) | (simp; omega))) | (with_reducible refine Below.drew ?_) | (with_reducible refine drewN_ ?_ _)))), below_qf (by (repeat (first | with_reducible exact Below.refl _ _ | with_reducible assumption | ((with_reducible refine Below.setCell ?_ ?_ _); rotate_left; focus (first | exact Nat.le_refl _ | omega | exact Below.size (by assumption) | (simp; done) | (simp; omega))) | ((with_reducible refine Below.alloc ?_ ?_ _); rotate_left; focus (first | exact Nat.le_refl _ | omega | exact Below.size (by assumption) | (simp; done) | (simp; omega))) | (with_reducible refine Below.drew ?_) | (with_reducible refine drewN_ ?_ _)))) _ _, .inl rfl, obj_last _ _⟩
  case round =>
    obtain ⟨t, v', L', rfl, ht0, ht1, hLl, hE, hO2, hF, hW, hH⟩ := hrel
    obtain ⟨a, n, c, rfl⟩ := hO2.out.own.val
    have hn := hO2.out.own.sl.len
    rw [List.length_map] at hn
    have hc := obj_cell hO2.out.var 0
    have hfr := obj_free hO2.out.var 0
    have h1 := obj_cell hH.out 1
    have h2 := obj_cell hH.out 2
    have h3 := obj_cell hH.out 3
    have h4 := obj_cell hH.out 4
    have hgs : wr.cell? ⟨bs, 2, none⟩ = some (.int .i64 gap) := by
      have q := hF.out.block bs hzs hbs (fun e => hbl bs e.symm rfl)
      have q2 : wr.heap[bs]? = _ := q.trans HS.out
      have := obj_cell q2 2
      simpa using this
    simp at hc h1 h2 h3 h4
    have hzo := obj_lt hO2.out.var
    have hzh := obj_lt hH.out
    have hzz := hF.out.size
    have hzs2 : bs < wr.heap.size := by omega
    have hn2 : n ≤ 100257 := by omega
    have HN := Lib.hid hn
    have HOW : Hid (∀ W, Below wr.heap.size wr W → W.ownsRow B 66 2 (.slice a n c) n (L'.map Stp.cs).flatten) := fun W hW => by
      have q := (hO2.out.own.keep hW).1
      rw [List.length_map, hn] at q
      exact q
    clear hn
    have HNB : Hid ((Value.slice a n c).ownBlock ≠ some bs) := by
      intro e
      rcases hW.out with h | h
      · rw [h] at e; exact hbl bs e rfl
      · have := h bs e; omega
    have HNH : Hid ((Value.slice a n c).ownBlock ≠ some w.heap.size) := by
      intro e
      have hb := (hO2.out.own.blk _ e)
      rcases hW.out with h | h
      · rw [h] at e
        have := (HO.out.own.blk _ e).2; omega
      · have := h _ e; omega
    have hgn : gap ≤ 1073741824 := hg2
    by_cases hlt : t + gap < long
    · by_cases hnl : n ≤ 256
      · have hnl' : (n : Int) ≤ 256 := by omega
        go_wp2_with (at_builtin; refine wpList_append_lies _ (by rfl) _ _ _ (by rfl) B 66 i0 _ 2 16 uStops hi hz0 hz1 hz2 rfl (by decide) (.slice a n c) n (L'.map Stp.cs).flatten (by rfl) (HOW.out _ (by (repeat (first | with_reducible exact Below.refl _ _ | with_reducible assumption | ((with_reducible refine Below.setCell ?_ ?_ _); rotate_left; focus (first | exact Nat.le_refl _ | omega | exact Below.size (by assumption) | (simp; done) | (simp; omega))) | ((with_reducible refine Below.alloc ?_ ?_ _); rotate_left; focus (first | exact Nat.le_refl _ | omega | exact Below.size (by assumption) | (simp; done) | (simp; omega))) | (with_reducible refine Below.drew ?_) | (with_reducible refine drewN_ ?_ _))))) ⟨wr.heap.size, 0, none⟩ 1 1 (⟨begin + (t + gap), dst⟩ : Stp).cs (by rfl) rfl (World.news_of_block (cs := #[.int .i64 (begin + (t + gap)), .int .i64 dst]) (t := 66) (fr := (0, 0)) (obj_last _ _)) (stp_one _) (by omega) (by unfold maxLen; omega) (by omega) (by simp; omega) _ rfl ?_; intro gg cap w1 hown1 hgrow hat hlt1; have hall := (grown_of (w := wr) (row := (Value.slice a n c).ownBlock) (by (repeat (first | with_reducible exact Below.refl _ _ | with_reducible assumption | ((with_reducible refine Below.setCell ?_ ?_ _); rotate_left; focus (first | exact Nat.le_refl _ | omega | exact Below.size (by assumption) | (simp; done) | (simp; omega))) | ((with_reducible refine Below.alloc ?_ ?_ _); rotate_left; focus (first | exact Nat.le_refl _ | omega | exact Below.size (by assumption) | (simp; done) | (simp; omega))) | (with_reducible refine Below.drew ?_) | (with_reducible refine drewN_ ?_ _))))).trans hgrow; have hc1 := (hall.cell_far ⟨bo, 0, none⟩ hzo (fun e => hO2.out.apart e.symm)).trans hc; have hf1 := (hall.frozen_far ⟨bo, 0, none⟩ hzo (fun e => hO2.out.apart e.symm)).trans hfr; have hgs1 := (hall.cell_far ⟨bs, 2, none⟩ hzs2 (fun e => HNB.out e.symm)).trans hgs; have HAT := Lib.hid (show (Value.slice a n c).ownBlock = some gg ∨ wr.heap.size ≤ gg from hat.imp id (fun e => by rw [e]; first | exact Nat.le_refl _ | (simp; done) | (simp; omega))); have HH1 := Lib.hid (row_keeps (b := w.heap.size) hall (fun e => HNH.out e) hH.out); have hz1 := hall.size; have HALL := Lib.hid hall; have HOWN := Lib.hid hown1; clear hgrow hat hall hown1)
        go_roundw
        case rel =>
          have q := hO2.out.add (x := ⟨begin + (t + gap), dst⟩) HN.out.symm HALL.out HOWN.out HAT.out
          have hW2 : (Value.slice (some ⟨gg, 0, none⟩) (n + 1) cap).ownBlock = v.ownBlock ∨ ∀ g, (Value.slice (some ⟨gg, 0, none⟩) (n + 1) cap).ownBlock = some g → w.heap.size < g := by
            rcases HAT.out with e | e
            · rcases hW.out with h | h
              · left; rw [← h, e]; rfl
              · right; intro g hg; have hgg : gg = g := by simpa [Value.ownBlock] using hg
                subst hgg; exact h gg e
            · right; intro g hg; have hgg : gg = g := by simpa [Value.ownBlock] using hg
              omega
          have hst := waits_step (gap := gap) (node := dst) (now := begin + t) (fin := begin + long) (k := long.toNat) (by omega) (by omega)
          obtain ⟨j, hj, he⟩ := hst
          have hmin : min (begin + t + gap) (begin + long) = begin + (t + gap) := by omega
          rw [hmin, waits_fuel (gap := gap) (node := dst) (fin := begin + long) hg1 j long.toNat (begin + (t + gap)) (by omega) (by omega)] at he
          refine ⟨t + gap, _, L' ++ [⟨begin + (t + gap), dst⟩], rfl, by omega, hlt, by have := HN.out; simp; omega, ?_, Lib.hid q.1, Lib.hid (hF.out.trans q.2 ?_), Lib.hid hW2, ?_⟩
          · show _ = _
            rw [← hE.out, he]; simp
          · rcases hW.out with h | h
            · exact .inl h
            · exact .inr (fun g hg => Nat.le_of_lt (h g hg))
          · exact obj_setOther HH1.out (fun e => by have := HO.out.var; have := obj_lt this; simp at e; omega)
        case measure => simp [intOf]; omega
      · have hnl' : ¬(n : Int) ≤ 256 := by omega
        go_wp2_with (at_builtin; refine wpList_append_lies _ (by rfl) _ _ _ (by rfl) B 66 i0 _ 2 16 uStops hi hz0 hz1 hz2 rfl (by decide) (.slice a n c) n (L'.map Stp.cs).flatten (by rfl) (HOW.out _ (by (repeat (first | with_reducible exact Below.refl _ _ | with_reducible assumption | ((with_reducible refine Below.setCell ?_ ?_ _); rotate_left; focus (first | exact Nat.le_refl _ | omega | exact Below.size (by assumption) | (simp; done) | (simp; omega))) | ((with_reducible refine Below.alloc ?_ ?_ _); rotate_left; focus (first | exact Nat.le_refl _ | omega | exact Below.size (by assumption) | (simp; done) | (simp; omega))) | (with_reducible refine Below.drew ?_) | (with_reducible refine drewN_ ?_ _))))) ⟨wr.heap.size, 0, none⟩ 1 1 (⟨begin + long, dst⟩ : Stp).cs (by rfl) rfl (World.news_of_block (cs := #[.int .i64 (begin + long), .int .i64 dst]) (t := 66) (fr := (0, 0)) (obj_last _ _)) (stp_one _) (by omega) (by unfold maxLen; omega) (by omega) (by simp; omega) _ rfl ?_; intro gg cap w1 hown1 hgrow hat hlt1; have hall := (grown_of (w := wr) (row := (Value.slice a n c).ownBlock) (by (repeat (first | with_reducible exact Below.refl _ _ | with_reducible assumption | ((with_reducible refine Below.setCell ?_ ?_ _); rotate_left; focus (first | exact Nat.le_refl _ | omega | exact Below.size (by assumption) | (simp; done) | (simp; omega))) | ((with_reducible refine Below.alloc ?_ ?_ _); rotate_left; focus (first | exact Nat.le_refl _ | omega | exact Below.size (by assumption) | (simp; done) | (simp; omega))) | (with_reducible refine Below.drew ?_) | (with_reducible refine drewN_ ?_ _))))).trans hgrow; have hc1 := (hall.cell_far ⟨bo, 0, none⟩ hzo (fun e => hO2.out.apart e.symm)).trans hc; have hf1 := (hall.frozen_far ⟨bo, 0, none⟩ hzo (fun e => hO2.out.apart e.symm)).trans hfr; have hgs1 := (hall.cell_far ⟨bs, 2, none⟩ hzs2 (fun e => HNB.out e.symm)).trans hgs; have HAT := Lib.hid (show (Value.slice a n c).ownBlock = some gg ∨ wr.heap.size ≤ gg from hat.imp id (fun e => by rw [e]; first | exact Nat.le_refl _ | (simp; done) | (simp; omega))); have HH1 := Lib.hid (row_keeps (b := w.heap.size) hall (fun e => HNH.out e) hH.out); have hz1 := hall.size; have HALL := Lib.hid hall; have HOWN := Lib.hid hown1; clear hgrow hat hall hown1)
        go_end0
        have q := hO2.out.add (x := ⟨begin + long, dst⟩) HN.out.symm HALL.out HOWN.out HAT.out
        have hlen := congrArg List.length hE.out
        simp only [List.length_append] at hlen
        have hnn := HN.out
        refine ⟨rfl, _, _, ⟨fun h => by omega, fun h => by simp; omega, by simp; omega⟩, q.1, hF.out.trans q.2 ?_, ?_⟩
        · rcases hW.out with h | h
          · exact .inl h
          · exact .inr (fun g hg => Nat.le_of_lt (h g hg))
        · rcases HAT.out with e | e
          · rcases hW.out with h | h
            · left; rw [← h, e]; rfl
            · right; intro g hg; have hgg : gg = g := by simpa [Value.ownBlock] using hg
              subst hgg; exact Nat.le_of_lt (h gg e)
          · right; intro g hg; have hgg : gg = g := by simpa [Value.ownBlock] using hg
            omega
    · go_wp2_with (at_builtin; refine wpList_append_lies _ (by rfl) _ _ _ (by rfl) B 66 i0 _ 2 16 uStops hi hz0 hz1 hz2 rfl (by decide) (.slice a n c) n (L'.map Stp.cs).flatten (by rfl) (HOW.out _ (by (repeat (first | with_reducible exact Below.refl _ _ | with_reducible assumption | ((with_reducible refine Below.setCell ?_ ?_ _); rotate_left; focus (first | exact Nat.le_refl _ | omega | exact Below.size (by assumption) | (simp; done) | (simp; omega))) | ((with_reducible refine Below.alloc ?_ ?_ _); rotate_left; focus (first | exact Nat.le_refl _ | omega | exact Below.size (by assumption) | (simp; done) | (simp; omega))) | (with_reducible refine Below.drew ?_) | (with_reducible refine drewN_ ?_ _))))) ⟨wr.heap.size, 0, none⟩ 1 1 (⟨begin + long, dst⟩ : Stp).cs (by rfl) rfl (World.news_of_block (cs := #[.int .i64 (begin + long), .int .i64 dst]) (t := 66) (fr := (0, 0)) (obj_last _ _)) (stp_one _) (by omega) (by unfold maxLen; omega) (by omega) (by simp; omega) _ rfl ?_; intro gg cap w1 hown1 hgrow hat hlt1; have hall := (grown_of (w := wr) (row := (Value.slice a n c).ownBlock) (by (repeat (first | with_reducible exact Below.refl _ _ | with_reducible assumption | ((with_reducible refine Below.setCell ?_ ?_ _); rotate_left; focus (first | exact Nat.le_refl _ | omega | exact Below.size (by assumption) | (simp; done) | (simp; omega))) | ((with_reducible refine Below.alloc ?_ ?_ _); rotate_left; focus (first | exact Nat.le_refl _ | omega | exact Below.size (by assumption) | (simp; done) | (simp; omega))) | (with_reducible refine Below.drew ?_) | (with_reducible refine drewN_ ?_ _))))).trans hgrow; have hc1 := (hall.cell_far ⟨bo, 0, none⟩ hzo (fun e => hO2.out.apart e.symm)).trans hc; have hf1 := (hall.frozen_far ⟨bo, 0, none⟩ hzo (fun e => hO2.out.apart e.symm)).trans hfr; have hgs1 := (hall.cell_far ⟨bs, 2, none⟩ hzs2 (fun e => HNB.out e.symm)).trans hgs; have HAT := Lib.hid (show (Value.slice a n c).ownBlock = some gg ∨ wr.heap.size ≤ gg from hat.imp id (fun e => by rw [e]; first | exact Nat.le_refl _ | (simp; done) | (simp; omega))); have HH1 := Lib.hid (row_keeps (b := w.heap.size) hall (fun e => HNH.out e) hH.out); have hz1 := hall.size; have HALL := Lib.hid hall; have HOWN := Lib.hid hown1; clear hgrow hat hall hown1)
      go_end0
      have q := hO2.out.add (x := ⟨begin + long, dst⟩) HN.out.symm HALL.out HOWN.out HAT.out
      obtain ⟨j, hj, he⟩ := waits_step (gap := gap) (node := dst) (now := begin + t) (fin := begin + long) (k := long.toNat) (by omega) (by omega)
      have hmin : min (begin + t + gap) (begin + long) = begin + long := by omega
      rw [hmin, waits_none (gap := gap) (node := dst) (now := begin + long) (fin := begin + long) (k := j) (by omega)] at he
      have hEE := hE.out
      rw [he] at hEE
      have hlen := congrArg List.length hEE
      simp only [List.length_append, List.length_cons, List.length_nil] at hlen
      have hnn := HN.out
      refine ⟨rfl, _, _, ⟨fun _ => hEE, fun h => by simp; omega, by simp; omega⟩, q.1, hF.out.trans q.2 ?_, ?_⟩
      · rcases hW.out with h | h
        · exact .inl h
        · exact .inr (fun g hg => Nat.le_of_lt (h g hg))
      · rcases HAT.out with e | e
        · rcases hW.out with h | h
          · left; rw [← h, e]; rfl
          · right; intro g hg; have hgg : gg = g := by simpa [Value.ownBlock] using hg
            subst hgg; exact Nat.le_of_lt (h gg e)
        · right; intro g hg; have hgg : gg = g := by simpa [Value.ownBlock] using hg
          omega
end Go.Proofs.YtmplajpbmojkkaaGreat
