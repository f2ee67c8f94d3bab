/-
  shortest.hops, the first loop: the hops of each node, as the roads come.
-/
import Derived.Test.YtmplajpbmojkkaaGreatMemA
import Derived.Test.YtmplajpbmojkkaaGreatHopA
import Derived.Test.YtmplajpbmojkkaaGreatSrtA
import Derived.Test.YtmplajpbmojkkaaGreatNetA
import Derived.Deep.DeepCutAuto
set_option linter.unusedSimpArgs false
set_option linter.unusedVariables false
namespace Go.Proofs.YtmplajpbmojkkaaGreat
open Go Go.RowKit Go.Vi
def addH (G : Int → List Hp) (k : Int) (h : Hp) : Int → List Hp := fun x => if x = k then G k ++ [h] else G x
def hopStep (G : Int → List Hp) (r : Rd) : Int → List Hp := if r.one then addH G r.src ⟨r.dst, r.id, r.len⟩ else addH (addH G r.src ⟨r.dst, r.id, r.len⟩) r.dst ⟨r.src, r.id, r.len⟩
def hopsG (rs : List Rd) : Int → List Hp := rs.foldl hopStep fun _ => []
def rowsH (G : Int → List Hp) : Int → List (List Value) := fun x => (G x).map Hp.cs
theorem rowsH_add (G : Int → List Hp) (k : Int) (h : Hp) : (fun x => if x = k then rowsH G k ++ [h.cs] else rowsH G x) = rowsH (addH G k h) := by
  funext x
  simp only [rowsH, addH]
  split <;> simp
theorem addH_len {G : Int → List Hp} {n : Nat} (hG : ∀ x, (G x).length ≤ n) (k : Int) (h : Hp) : ∀ x, (addH G k h x).length ≤ n + 1 := by
  intro x
  simp only [addH]
  split
  · have := hG k; simp; omega
  · have := hG x; omega
theorem hopsG_step {rs : List Rd} {k : Nat} (h : k < rs.length) : hopsG (rs.take (k + 1)) = hopStep (hopsG (rs.take k)) rs[k]! := by
  unfold hopsG
  rw [List.take_succ_eq_append_getElem h, getElem!_pos rs k h, List.foldl_append]
  rfl
theorem hopsG_len (rs : List Rd) : ∀ x, (hopsG rs x).length ≤ 2 * rs.length := by
  suffices h : ∀ (rs : List Rd) (G : Int → List Hp) (n : Nat), (∀ x, (G x).length ≤ n) → ∀ x, (rs.foldl hopStep G x).length ≤ n + 2 * rs.length by
    intro x
    have := h rs (fun _ => []) 0 (fun _ => Nat.le_refl _) x
    simp at this; exact this
  intro rs
  induction rs with
  | nil => intro G n hG x; simpa using hG x
  | cons r rs ih =>
    intro G n hG x
    rw [List.foldl_cons]
    have h2 : ∀ x, (hopStep G r x).length ≤ n + 2 := by
      intro x
      unfold hopStep
      split
      · have := addH_len hG r.src ⟨r.dst, r.id, r.len⟩ x; omega
      · have := addH_len (addH_len hG r.src ⟨r.dst, r.id, r.len⟩) r.dst ⟨r.src, r.id, r.len⟩ x; omega
    have := ih _ (n + 2) h2 x
    simp; omega
theorem iHop : (Tryz.prog.info? 193).map (fun i => (i.zero, i.size, i.bytes)) = some (some (.agg #[.int .i64 0, .int .i64 0, .int .i64 0]), 3, 24) := by kernel_rfl
theorem uHopMap : Tryz.prog.underlying 188 = some (.map 3 191) := by kernel_rfl
theorem uInt : Tryz.prog.underlying 3 = some (.int .i64) := by kernel_rfl
theorem zHops (w : World) : (zeroValue 191).run Tryz.prog w = .ok (.slice none 0 0) w := by kernel_rfl
theorem hp_one (h : Hp) : ∀ u ∈ h.cs, u.oneCell' = true := by
  intro u hu
  simp only [Hp.cs, List.mem_cons, List.mem_nil_iff, or_false] at hu
  rcases hu with h | h | h <;> rw [h] <;> rfl
/-- What holds at the head of a round: the map reads as the hops of the roads so far. -/
structure HopMid (w : World) (rs : List Rd) (k : Nat) (wr : World) : Prop where
  map : GMap wr (w.heap.size + 2) 193 3 (w.heap.size + 1) (rowsH (hopsG (rs.take k)))
  below : Below w.heap.size w wr
  size : w.heap.size + 2 ≤ wr.heap.size
noncomputable def lkv (k : Int) (b : Nat) (w : World) : Value := match (Instr.lookup 188 (.map (some b)) (.int .i64 k) false).run Tryz.prog w with | .ok x _ => x | _ => .bool false
theorem lkv_run {k : Int} {b : Nat} {w : World} {x : Value} (h : (Instr.lookup 188 (.map (some b)) (.int .i64 k) false).run Tryz.prog w = .ok x w) :
    (Instr.lookup 188 (.map (some b)) (.int .i64 k) false).run Tryz.prog w = .ok (lkv k b w) w ∧ lkv k b w = x := by
  have e : lkv k b w = x := by unfold lkv; rw [h]
  exact ⟨by rw [e]; exact h, e⟩
/-- One step: m[k] = append(m[k], h). -/
theorem hop_at {w : World} {G : Int → List Hp} {wr : World} (h : GMap wr (w.heap.size + 2) 193 3 (w.heap.size + 1) (rowsH G)) (k : Int) (x : Hp) :
    ∃ v, Ow (w.heap.size + 2) wr 193 3 v (rowsH G k) ∧ (∀ b, v.ownBlock = some b → (b < wr.heap.size ∧ w.heap.size + 2 ≤ b) ∧ ∀ cs T fr, wr.heap[b]? = some (.cells cs T fr) → T = 193) ∧
      Hid (∀ W, wr.grownBy W v.ownBlock → (Instr.lookup 188 (.map (some (w.heap.size + 1))) (.int .i64 k) false).run Tryz.prog W = .ok (lkv k (w.heap.size + 1) W) W ∧ lkv k (w.heap.size + 1) W = v) ∧
      Hid (∀ w1 gg cap H, wr.grownBy w1 v.ownBlock → w1.ownsRow (w.heap.size + 2) 193 3 (.slice (some ⟨gg, 0, none⟩) ((rowsH G k).length + 1) cap) ((rowsH G k).length + 1) ((rowsH G k).flatten ++ x.cs) → (v.ownBlock = some gg ∨ gg = H) → wr.heap.size ≤ H →
        (Instr.mapUpdate 188 (.map (some (w.heap.size + 1))) (.int .i64 k) (.slice (some ⟨gg, 0, none⟩) ((rowsH G k).length + 1) cap)).run Tryz.prog w1 = .ok () (mset w1 (w.heap.size + 1) k (.slice (some ⟨gg, 0, none⟩) ((rowsH G k).length + 1) cap)) ∧
        GMap (mset w1 (w.heap.size + 1) k (.slice (some ⟨gg, 0, none⟩) ((rowsH G k).length + 1) cap)) (w.heap.size + 2) 193 3 (w.heap.size + 1) (rowsH (addH G k x)) ∧
        (Instr.lookup 188 (.map (some (w.heap.size + 1))) (.int .i64 k) false).run Tryz.prog (mset w1 (w.heap.size + 1) k (.slice (some ⟨gg, 0, none⟩) ((rowsH G k).length + 1) cap)) =
          .ok (lkv k (w.heap.size + 1) (mset w1 (w.heap.size + 1) k (.slice (some ⟨gg, 0, none⟩) ((rowsH G k).length + 1) cap))) (mset w1 (w.heap.size + 1) k (.slice (some ⟨gg, 0, none⟩) ((rowsH G k).length + 1) cap))) := by
  obtain ⟨v, h1, h2, h3⟩ := h.at (P := Tryz.prog) (by omega) uHopMap uInt zHops k
  refine ⟨v, h1, fun b hb => ⟨⟨(h1.blk b hb).2, (h1.blk b hb).1⟩, h1.type b hb⟩, fun W hW => lkv_run (h2 W hW), fun w1 gg cap H hg ho hat hH => ?_⟩
  have hO : Ow (w.heap.size + 2) w1 193 3 (.slice (some ⟨gg, 0, none⟩) ((rowsH G k).length + 1) cap) (rowsH G k ++ [x.cs]) := Ow.grow (m := 1) (by simpa using ho) rfl (fun r hr => by obtain ⟨y, _, rfl⟩ := List.mem_map.1 hr; rfl) (fun r hr => by simp at hr; subst hr; rfl)
  obtain ⟨h4, h5⟩ := h3 w1 _ _ hg hO (hat.elim (fun h => .inl (by rw [h]; rfl)) (fun h => .inr (fun g hg => by injection hg with hg; subst hg; rw [h]; exact hH))) (by simp)
  rw [rowsH_add] at h5
  obtain ⟨v2, _, h6, _⟩ := h5.at (P := Tryz.prog) (by omega) uHopMap uInt zHops k
  exact ⟨h4, h5, (lkv_run (h6 _ (grown_of (Below.refl _ _)))).1⟩
theorem row_keeps {wr w1 : World} {b : Nat} {v : Value} {o : Obj} (hg : wr.grownBy w1 v.ownBlock) (hne : v.ownBlock ≠ some b) (ho : wr.heap[b]? = some o) : w1.heap[b]? = some o := by
  rw [hg.block b (obj_lt ho) (Ne.symm hne)]; exact ho
theorem mset_old {wr w1 : World} {b B : Nat} {k : Int} {u v : Value} {o : Obj} (hg : wr.grownBy w1 v.ownBlock) (hne : v.ownBlock ≠ some b) (hB : B ≠ b) (ho : wr.heap[b]? = some o) : (mset w1 B k u).heap[b]? = some o := by
  have hb := obj_lt ho
  have h1 : w1.heap[b]? = some o := by rw [hg.block b hb (Ne.symm hne)]; exact ho
  rw [(mset_grown w1 B k u).block b (obj_lt h1) (fun e => hB (by injection e with e; exact e.symm))]
  exact h1
theorem mset_below {C : Nat} {w wr w1 : World} {B : Nat} {k : Int} {u v : Value} (h : Below C w wr) (hC : C ≤ wr.heap.size) (hg : wr.grownBy w1 v.ownBlock) (hv : ∀ b, v.ownBlock = some b → C ≤ b) (hB : C ≤ B) : Below C w (mset w1 B k u) :=
  (h.grown hg hC hv).grown (mset_grown w1 B k u) (Nat.le_trans hC hg.size) (fun j hj => by injection hj with hj; omega)
/-- What sorting and compacting make of a node's hops. -/
def Fin (L L' : List Hp) : Prop := ∃ S : List Hp, S.Perm L ∧ S.Pairwise (fun a b => ¬hpLt b a) ∧ L' = compactL S
/-- The second loop: the keys seen are done. -/
structure RngMid (w : World) (G0 : Int → List Hp) (r : Nat) (seen : List Int) (E : List (Int × Value)) (H : Int → List Hp) (wr : World) : Prop where
  it : IIter wr r (w.heap.size + 1) E seen
  ok : GOk wr (w.heap.size + 2) 193 3 E (rowsH H)
  dones : ∀ k ∈ seen, Fin (G0 k) (H k)
  rests : ∀ k, k ∉ seen → H k = G0 k
  below : Below w.heap.size w wr
  size : w.heap.size + 2 ≤ wr.heap.size
  low : w.heap.size + 2 ≤ r
theorem cmpct_ne {L : List Hp} (h : L ≠ []) : compactL L ≠ [] := by
  cases L with
  | nil => exact absurd rfl h
  | cons x r => simp [compactL]
/-- A round of the second loop: the store of what is sorted and compacted. -/
theorem rng_back {w wq w3 : World} {r : Nat} {seen : List Int} {E : List (Int × Value)} {H : Int → List Hp} {q : Int} {g m m' cap : Nat} {S : List Hp} (hit : IIter wq r (w.heap.size + 1) E (q :: seen)) (hok : GOk wq (w.heap.size + 2) 193 3 E (rowsH H)) (hne : r ≠ w.heap.size + 1)
    (hlk : Vi.look E q = some (.slice (some ⟨g, 0, none⟩) m cap)) (hg : wq.grownBy w3 (some g)) (hC : Ow (w.heap.size + 2) w3 193 3 (.slice (some ⟨g, 0, none⟩) m' cap) ((compactL S).map Hp.cs)) (hS : S ≠ []) :
    (Instr.mapUpdate 188 (.map (some (w.heap.size + 1))) (.int .i64 q) (.slice (some ⟨g, 0, none⟩) m' cap)).run Tryz.prog w3 = .ok () (mset w3 (w.heap.size + 1) q (.slice (some ⟨g, 0, none⟩) m' cap)) ∧
    IIter (mset w3 (w.heap.size + 1) q (.slice (some ⟨g, 0, none⟩) m' cap)) r (w.heap.size + 1) (put E q (.slice (some ⟨g, 0, none⟩) m' cap)) (q :: seen) ∧
    GOk (mset w3 (w.heap.size + 1) q (.slice (some ⟨g, 0, none⟩) m' cap)) (w.heap.size + 2) 193 3 (put E q (.slice (some ⟨g, 0, none⟩) m' cap)) (rowsH fun x => if x = q then compactL S else H x) ∧
    w.heap.size + 2 ≤ g := by
  obtain ⟨_, hO⟩ := hok.2.1 q _ hlk
  have hgb := hO.blk g rfl
  have hgr : some r ≠ some g := by
    rcases hO.ne_iter hit with h | h
    · cases h
    · exact fun e => h (by rw [e]; rfl)
  have hgb2 : some (w.heap.size + 1) ≠ some g := fun e => by injection e with e; omega
  have hit3 := hit.kept hg hgb2 hgr
  have hm : q ∈ E.map (·.1) := List.mem_map.2 ⟨_, look_mem hlk, rfl⟩
  refine ⟨hit3.map.update uHopMap uInt q _, hit3.updated hne q hm _, ?_, hgb.1⟩
  have hb := hok.back (b := w.heap.size + 1) (by omega) q (v := .slice (some ⟨g, 0, none⟩) m cap) (by rw [hlk]; rfl) (w1 := w3) hg hC (.inl rfl) (by simpa using cmpct_ne hS)
  have e : (fun x => if x = q then (compactL S).map Hp.cs else rowsH H x) = rowsH fun x => if x = q then compactL S else H x := by
    funext x; simp only [rowsH]; split <;> rfl
  rw [e] at hb
  exact hb
/-- Behind the first store of a round. -/
structure HopHalf (w : World) (G : Int → List Hp) (x : Rd) (g : Nat) (wA : World) : Prop where
  map : GMap wA (w.heap.size + 2) 193 3 (w.heap.size + 1) (rowsH G)
  obj : wA.heap[g]? = some (.cells #[.int .i64 x.id, .int .i64 x.src, .int .i64 x.dst, .int .i64 x.len, .int .i64 x.lim, .bool x.one] 90)
  below : Below w.heap.size w wA
  size : g + 1 ≤ wA.heap.size
set_option maxRecDepth 100000 in
set_option maxHeartbeats 2000000 in
theorem hops_any (n : Net) (v1 v2 : Value) (w : World) (hN : NetAt w.heap.size w v1 v2 n) (hsz2 : n.roads.length ≤ 1000) :
    Calls Tryz.prog 77 #[.agg #[v1, v2]] w fun e w' => e = .returned (.map (some (w.heap.size + 1))) ∧ (∃ H : Int → List Hp, GMap w' (w.heap.size + 2) 193 3 (w.heap.size + 1) (rowsH H) ∧ ∀ k, Fin (hopsG n.roads k) (H k)) ∧ Below w.heap.size w w' := by
  obtain ⟨a2, n2, c2, rfl, hn, hn1, hn2⟩ := hN.2.open
  rw [List.length_map] at hn
  have hn3 : n2 ≤ 1000 := by rw [← hn]; exact hsz2
  have HN := Lib.hid hN
  have HL := Lib.hid hn
  clear hN hn hn2 hsz2
  obtain ⟨i0, hi, hz0, hz1, hz2⟩ := info_parts iHop
  have hmm := @run_makeMap Tryz.prog
  go_enter Tryz.func77, Tryz.ntmps77
  go_wp2
  go_loopw [12] (fun s12 wr => ∃ k : Nat, s12 = .int .i64 k ∧ k ≤ n2 ∧ Hid (HopMid w n.roads k wr)) (fun s12 _ => n2 - (intOf s12).toNat)
  case atStart =>
    refine ⟨0, rfl, Nat.zero_le _, ?_, (by (repeat (first | with_reducible exact Below.refl _ _ | with_reducible assumption | ((with_reducible refine Below.setCell ?_ ?_ _); rotate_left; focus (first | exact Nat.le_refl _ | omega | exact Below.size (by assumption) | (simp; done) | (simp; omega))) | ((with_reducible refine Below.alloc ?_ ?_ _); rotate_left; focus (first | exact Nat.le_refl _ | omega | exact Below.size (by assumption) | (simp; done) | (simp; omega))) | (with_reducible refine Below.drew ?_) | (with_reducible refine drewN_ ?_ _)))), (by first | exact Nat.le_refl _ | omega | exact Below.size (by assumption) | (simp; done) | (simp; omega))⟩
    have := GMap.made (w.alloc (.cells #[v1, .slice a2 n2 c2] 35)) (w.heap.size + 2) 193 3
    have q : (w.alloc (.cells #[v1, .slice a2 n2 c2] 35)).heap.size = w.heap.size + 1 := by simp
    rw [q] at this
    exact this
  case round =>
    obtain ⟨k, rfl, hk, hM⟩ := hrel
    by_cases hlt : k < n2
    · have hkl : k < n.roads.length := by rw [HL.out]; exact hlt
      obtain ⟨b, off, rfl, hblt, d⟩ := rd_cells (HN.out.2.later hM.out.below) k hkl
      obtain ⟨d0, d1, d2, d3, d4, d5⟩ := d k hkl
      generalize hx : n.roads[k]! = x at d0 d1 d2 d3 d4 d5
      have HX := Lib.hid hx
      clear hx d
      obtain ⟨v, hv, hvb, LK, BK⟩ := hop_at hM.out.map x.src ⟨x.dst, x.id, x.len⟩
      have HV := Lib.hid hv
      have HVB := Lib.hid hvb
      have hln := hopsG_len (n.roads.take k) x.src
      have hln2 : (rowsH (hopsG (n.roads.take k)) x.src).length ≤ 2000 := by
        rw [List.length_take] at hln
        simp only [rowsH, List.length_map]
        omega
      clear hv hvb hln
      go_upto_region 5 with fail
      go_cut [] (fun wx => Hid (HopHalf w (addH (hopsG (n.roads.take k)) x.src ⟨x.dst, x.id, x.len⟩) x wr.heap.size wx))
      case first =>
        go_region_held3 (fun w' => w'.cell? ⟨wr.heap.size, 0, none⟩ = some (.int .i64 x.id) ∧ w'.cell? ⟨wr.heap.size, 1, none⟩ = some (.int .i64 x.src) ∧ w'.cell? ⟨wr.heap.size, 2, none⟩ = some (.int .i64 x.dst) ∧ w'.cell? ⟨wr.heap.size, 3, none⟩ = some (.int .i64 x.len) ∧
            (Instr.lookup 188 (.map (some (w.heap.size + 1))) (.int .i64 x.src) false).run Tryz.prog w' = .ok (lkv x.src (w.heap.size + 1) w') w')
          (first
            | (go_split_ands; refine ⟨by go_keep, by go_keep, by go_keep, by go_keep, ?_⟩; exact (LK.out _ (grown_of (by (repeat (first | with_reducible exact Below.refl _ _ | with_reducible assumption | ((with_reducible refine Below.setCell ?_ ?_ _); rotate_left; focus (first | exact Nat.le_refl _ | omega | exact Below.size (by assumption) | (simp; done) | (simp; omega))) | ((with_reducible refine Below.alloc ?_ ?_ _); rotate_left; focus (first | exact Nat.le_refl _ | omega | exact Below.size (by assumption) | (simp; done) | (simp; omega))) | (with_reducible refine Below.drew ?_) | (with_reducible refine drewN_ ?_ _)))))).1)
            | (go_split_ands; refine ⟨?_, ?_, ?_, ?_, (LK.out _ hall).1⟩ <;> (rw [hgrow.cell_far _ (by simp; omega) (fun e => by have := (HVB.out _ e.symm).1.1; simp at this)]; go_keep))
            | (go_split_ands; refine ⟨?_, ?_, ?_, ?_, HLK.out⟩ <;> (rw [obj_cell HOB.out]; rfl)))
          ((refine step_append_lies _ (by rfl) _ _ _ (by rfl) (w.heap.size + 2) 193 i0 _ 3 24 uHops hi hz0 hz1 hz2 rfl (by decide) v (rowsH (hopsG (n.roads.take k)) x.src).length (rowsH (hopsG (n.roads.take k)) x.src).flatten (by exact (LK.out _ (grown_of (by (repeat (first | with_reducible exact Below.refl _ _ | with_reducible assumption | ((with_reducible refine Below.setCell ?_ ?_ _); rotate_left; focus (first | exact Nat.le_refl _ | omega | exact Below.size (by assumption) | (simp; done) | (simp; omega))) | ((with_reducible refine Below.alloc ?_ ?_ _); rotate_left; focus (first | exact Nat.le_refl _ | omega | exact Below.size (by assumption) | (simp; done) | (simp; omega))) | (with_reducible refine Below.drew ?_) | (with_reducible refine drewN_ ?_ _)))))).2) (HV.out.keep (by (repeat (first | with_reducible exact Below.refl _ _ | with_reducible assumption | ((with_reducible refine Below.setCell ?_ ?_ _); rotate_left; focus (first | exact Nat.le_refl _ | omega | exact Below.size (by assumption) | (simp; done) | (simp; omega))) | ((with_reducible refine Below.alloc ?_ ?_ _); rotate_left; focus (first | exact Nat.le_refl _ | omega | exact Below.size (by assumption) | (simp; done) | (simp; omega))) | (with_reducible refine Below.drew ?_) | (with_reducible refine drewN_ ?_ _))))).1
              ⟨wr.heap.size + 1, 0, none⟩ 1 1 (⟨x.dst, x.id, x.len⟩ : Hp).cs (by rfl) rfl (World.news_of_block (cs := #[.int .i64 x.dst, .int .i64 x.id, .int .i64 x.len]) (t := 193) (fr := (0, 0)) (obj_last2 _ _ _)) (hp_one _)
              (by omega) (by unfold maxLen; omega) (by omega) (by have := hM.out.size; simp; omega) _ rfl ?_
            intro gg cap w1 hown1 hgrow hat hlt1
            have hall := (grown_of (w := wr) (row := v.ownBlock) (by (repeat (first | with_reducible exact Below.refl _ _ | with_reducible assumption | ((with_reducible refine Below.setCell ?_ ?_ _); rotate_left; focus (first | exact Nat.le_refl _ | omega | exact Below.size (by assumption) | (simp; done) | (simp; omega))) | ((with_reducible refine Below.alloc ?_ ?_ _); rotate_left; focus (first | exact Nat.le_refl _ | omega | exact Below.size (by assumption) | (simp; done) | (simp; omega))) | (with_reducible refine Below.drew ?_) | (with_reducible refine drewN_ ?_ _))))).trans hgrow
            obtain ⟨hup, hgm, hlk⟩ := BK.out w1 gg cap _ hall hown1 hat (by simp; omega)
            have HGM := Lib.hid hgm
            have HLK := Lib.hid hlk
            have hob := mset_old (B := w.heap.size + 1) (k := x.src) (u := .slice (some ⟨gg, 0, none⟩) ((rowsH (hopsG (n.roads.take k)) x.src).length + 1) cap) hgrow (fun e => by have := (HVB.out _ e).1.1; omega) (by have := hM.out.size; omega) (obj_old (obj_last wr (.cells #[.int .i64 x.id, .int .i64 x.src, .int .i64 x.dst, .int .i64 x.len, .int .i64 x.lim, .bool x.one] 90)))
            have HOB := Lib.hid hob
            have hba := mset_below (C := w.heap.size) (w := w) (B := w.heap.size + 1) (k := x.src) (u := .slice (some ⟨gg, 0, none⟩) ((rowsH (hopsG (n.roads.take k)) x.src).length + 1) cap) (by have hB := hM.out.below; have hz := hM.out.size; (repeat (first | with_reducible exact Below.refl _ _ | with_reducible assumption | ((with_reducible refine Below.setCell ?_ ?_ _); rotate_left; focus (first | exact Nat.le_refl _ | omega | exact Below.size (by assumption) | (simp; done) | (simp; omega))) | ((with_reducible refine Below.alloc ?_ ?_ _); rotate_left; focus (first | exact Nat.le_refl _ | omega | exact Below.size (by assumption) | (simp; done) | (simp; omega))) | (with_reducible refine Below.drew ?_) | (with_reducible refine drewN_ ?_ _)))) (by have := hM.out.below.size; simp; omega) hgrow (fun b hb => by have := (HVB.out _ hb).1.2; omega) (by omega)
            have HBA := Lib.hid hba
            have hza := Nat.le_trans hgrow.size (mset_grown w1 (w.heap.size + 1) x.src (.slice (some ⟨gg, 0, none⟩) ((rowsH (hopsG (n.roads.take k)) x.src).length + 1) cap)).size
            clear hgm hlk hob hba))
        all_goals
          go_wp2_with fail
          go_meet
          simp at hza
          exact ⟨HGM.out, HOB.out, HBA.out, by omega⟩
      case rest =>
        have HGM := Lib.hid hcut.out.map
        have HOB := Lib.hid hcut.out.obj
        have HBA := Lib.hid hcut.out.below
        have hza := hcut.out.size
        clear LK BK HV HVB hln2 hcut
        have o5 := obj_cell HOB.out 5
        simp at o5
        cases hone : x.one with
        | true =>
          rw [hone] at o5
          go_wp2
          go_roundw
          case rel =>
            refine ⟨k + 1, by go_num, by omega, ?_, HBA.out, by have := hM.out.size; omega⟩
            rw [hopsG_step hkl, HX.out, hopStep, hone]
            exact HGM.out
          case measure => simp [intOf]; omega
        | false =>
          rw [hone] at o5
          have o0 := obj_cell HOB.out 0
          have o1 := obj_cell HOB.out 1
          have o2 := obj_cell HOB.out 2
          have o3 := obj_cell HOB.out 3
          simp at o0 o1 o2 o3
          obtain ⟨v, hv, hvb, LK, BK⟩ := hop_at HGM.out x.dst ⟨x.src, x.id, x.len⟩
          have HV := Lib.hid hv
          have HVB := Lib.hid hvb
          have hln := addH_len (hopsG_len (n.roads.take k)) x.src ⟨x.dst, x.id, x.len⟩ x.dst
          have hln2 : (rowsH (addH (hopsG (n.roads.take k)) x.src ⟨x.dst, x.id, x.len⟩) x.dst).length ≤ 3000 := by
            rw [List.length_take] at hln
            simp only [rowsH, List.length_map]
            omega
          clear hv hvb hln
          generalize hR : rowsH (addH (hopsG (n.roads.take k)) x.src ⟨x.dst, x.id, x.len⟩) x.dst = R at hln2 HV BK
          go_wp2_with fail
          go_region_held3 (fun w' => w'.cell? ⟨wr.heap.size, 0, none⟩ = some (.int .i64 x.id) ∧ w'.cell? ⟨wr.heap.size, 1, none⟩ = some (.int .i64 x.src) ∧ w'.cell? ⟨wr.heap.size, 2, none⟩ = some (.int .i64 x.dst) ∧ w'.cell? ⟨wr.heap.size, 3, none⟩ = some (.int .i64 x.len) ∧
              (Instr.lookup 188 (.map (some (w.heap.size + 1))) (.int .i64 x.dst) false).run Tryz.prog w' = .ok (lkv x.dst (w.heap.size + 1) w') w')
            (first
              | (go_split_ands; refine ⟨by go_keep, by go_keep, by go_keep, by go_keep, ?_⟩; exact (LK.out _ (grown_of (by (repeat (first | with_reducible exact Below.refl _ _ | with_reducible assumption | ((with_reducible refine Below.setCell ?_ ?_ _); rotate_left; focus (first | exact Nat.le_refl _ | omega | exact Below.size (by assumption) | (simp; done) | (simp; omega))) | ((with_reducible refine Below.alloc ?_ ?_ _); rotate_left; focus (first | exact Nat.le_refl _ | omega | exact Below.size (by assumption) | (simp; done) | (simp; omega))) | (with_reducible refine Below.drew ?_) | (with_reducible refine drewN_ ?_ _)))))).1)
              | (go_split_ands; refine ⟨?_, ?_, ?_, ?_, (LK.out _ hall).1⟩ <;> (rw [obj_cell HOC.out]; rfl))
              | (go_split_ands; refine ⟨?_, ?_, ?_, ?_, HLK.out⟩ <;> (rw [obj_cell HOD.out]; rfl)))
            ((refine step_append_lies _ (by rfl) _ _ _ (by rfl) (w.heap.size + 2) 193 i0 _ 3 24 uHops hi hz0 hz1 hz2 rfl (by decide) v R.length R.flatten (by exact (LK.out _ (grown_of (by (repeat (first | with_reducible exact Below.refl _ _ | with_reducible assumption | ((with_reducible refine Below.setCell ?_ ?_ _); rotate_left; focus (first | exact Nat.le_refl _ | omega | exact Below.size (by assumption) | (simp; done) | (simp; omega))) | ((with_reducible refine Below.alloc ?_ ?_ _); rotate_left; focus (first | exact Nat.le_refl _ | omega | exact Below.size (by assumption) | (simp; done) | (simp; omega))) | (with_reducible refine Below.drew ?_) | (with_reducible refine drewN_ ?_ _)))))).2) (HV.out.keep (by (repeat (first | with_reducible exact Below.refl _ _ | with_reducible assumption | ((with_reducible refine Below.setCell ?_ ?_ _); rotate_left; focus (first | exact Nat.le_refl _ | omega | exact Below.size (by assumption) | (simp; done) | (simp; omega))) | ((with_reducible refine Below.alloc ?_ ?_ _); rotate_left; focus (first | exact Nat.le_refl _ | omega | exact Below.size (by assumption) | (simp; done) | (simp; omega))) | (with_reducible refine Below.drew ?_) | (with_reducible refine drewN_ ?_ _))))).1
                ⟨wc.heap.size, 0, none⟩ 1 1 (⟨x.src, x.id, x.len⟩ : Hp).cs (by rfl) rfl (World.news_of_block (cs := #[.int .i64 x.src, .int .i64 x.id, .int .i64 x.len]) (t := 193) (fr := (0, 0)) (obj_last _ _)) (hp_one _)
                (by omega) (by unfold maxLen; omega) (by omega) (by have hz := hM.out.size; have hz2 := hza; first | (simp; done) | (simp; omega)) _ rfl ?_
              intro gg cap w1 hown1 hgrow hat hlt1
              have hall := (grown_of (w := wc) (row := v.ownBlock) (by (repeat (first | with_reducible exact Below.refl _ _ | with_reducible assumption | ((with_reducible refine Below.setCell ?_ ?_ _); rotate_left; focus (first | exact Nat.le_refl _ | omega | exact Below.size (by assumption) | (simp; done) | (simp; omega))) | ((with_reducible refine Below.alloc ?_ ?_ _); rotate_left; focus (first | exact Nat.le_refl _ | omega | exact Below.size (by assumption) | (simp; done) | (simp; omega))) | (with_reducible refine Below.drew ?_) | (with_reducible refine drewN_ ?_ _))))).trans hgrow
              obtain ⟨hup, hgm, hlk⟩ := BK.out w1 gg cap _ hall hown1 hat (by first | (simp; done) | (simp; omega))
              have HGM2 := Lib.hid hgm
              have HLK := Lib.hid hlk
              have HOC := Lib.hid (row_keeps hgrow (fun e => by have := (HVB.out _ e).2 _ _ _ HOB.out; simp at this) (obj_old HOB.out))
              have HOD := Lib.hid (mset_old (B := w.heap.size + 1) (k := x.dst) (u := .slice (some ⟨gg, 0, none⟩) (R.length + 1) cap) hgrow (fun e => by have := (HVB.out _ e).2 _ _ _ HOB.out; simp at this) (by have := hM.out.size; omega) (obj_old HOB.out))
              have hba := mset_below (C := w.heap.size) (w := w) (B := w.heap.size + 1) (k := x.dst) (u := .slice (some ⟨gg, 0, none⟩) (R.length + 1) cap) (by have hB := HBA.out; have hz := hM.out.size; (repeat (first | with_reducible exact Below.refl _ _ | with_reducible assumption | ((with_reducible refine Below.setCell ?_ ?_ _); rotate_left; focus (first | exact Nat.le_refl _ | omega | exact Below.size (by assumption) | (simp; done) | (simp; omega))) | ((with_reducible refine Below.alloc ?_ ?_ _); rotate_left; focus (first | exact Nat.le_refl _ | omega | exact Below.size (by assumption) | (simp; done) | (simp; omega))) | (with_reducible refine Below.drew ?_) | (with_reducible refine drewN_ ?_ _)))) (by have := hM.out.below.size; first | (simp; done) | (simp; omega)) hgrow (fun b hb => by have := (HVB.out _ hb).1.2; omega) (by omega)
              have HBC := Lib.hid hba
              have hzc := Nat.le_trans hgrow.size (mset_grown w1 (w.heap.size + 1) x.dst (.slice (some ⟨gg, 0, none⟩) (R.length + 1) cap)).size
              clear hgm hlk hba))
          all_goals
            go_wp2
            go_roundw
            case rel =>
              simp at hzc
              refine ⟨k + 1, by go_num, by omega, ?_, HBC.out, by have := hM.out.size; omega⟩
              rw [hopsG_step hkl, HX.out, hopStep, hone]
              exact HGM2.out
            case measure => simp [intOf]; omega
    · obtain rfl : k = n2 := by omega
      have hmap := hM.out.map
      rw [List.take_of_length_le (by rw [HL.out]; exact Nat.le_refl _)] at hmap
      obtain ⟨E0, hI, hG⟩ := hmap
      obtain ⟨o, hrng, hit⟩ := hI.range (P := Tryz.prog) uHopMap
      have HG := Lib.hid hG
      have HIT := Lib.hid hit
      have HB := Lib.hid hM.out.below
      have HZ := Lib.hid hM.out.size
      have HR := Lib.hid (hopsG_len n.roads)
      generalize hG0 : hopsG n.roads = G0 at HG HR
      have HG0 := Lib.hid hG0
      clear hG0
      obtain ⟨wr0, hwr⟩ : ∃ x, x = wr := ⟨wr, rfl⟩
      subst hwr
      clear hI hit hG hM
      go_wp2_with fail
      go_loopw [] (fun wx => ∃ seen E H, Hid (RngMid w G0 wr0.heap.size seen E H wx)) (fun wx => wx.rangeLeft (w.heap.size + 1) wr0.heap.size)
      case atStart =>
        refine ⟨[], E0, G0, HIT.out, HG.out.keep (by (repeat (first | with_reducible exact Below.refl _ _ | with_reducible assumption | ((with_reducible refine Below.setCell ?_ ?_ _); rotate_left; focus (first | exact Nat.le_refl _ | omega | exact Below.size (by assumption) | (simp; done) | (simp; omega))) | ((with_reducible refine Below.alloc ?_ ?_ _); rotate_left; focus (first | exact Nat.le_refl _ | omega | exact Below.size (by assumption) | (simp; done) | (simp; omega))) | (with_reducible refine Below.drew ?_) | (with_reducible refine drewN_ ?_ _)))), by simp, fun _ _ => rfl, ?_, ?_, HZ.out⟩
        · have hB := HB.out
          have hz := HZ.out
          (repeat (first | with_reducible exact Below.refl _ _ | with_reducible assumption | ((with_reducible refine Below.setCell ?_ ?_ _); rotate_left; focus (first | exact Nat.le_refl _ | omega | exact Below.size (by assumption) | (simp; done) | (simp; omega))) | ((with_reducible refine Below.alloc ?_ ?_ _); rotate_left; focus (first | exact Nat.le_refl _ | omega | exact Below.size (by assumption) | (simp; done) | (simp; omega))) | (with_reducible refine Below.drew ?_) | (with_reducible refine drewN_ ?_ _)))
        · have hz := HZ.out
          simp; omega
      case round =>
        obtain ⟨seen, E, H, hM⟩ := hrel
        have hne : wr0.heap.size ≠ w.heap.size + 1 := by have := hM.out.low; omega
        rcases hM.out.it.next (P := Tryz.prog) hne 0 with ⟨hall, hnx⟩ | ⟨q, v, wq, hks, hkE, hnx, hit', hg', hsz'⟩
        · go_wp2
          go_ret
          refine ⟨rfl, ⟨H, ⟨E, hM.out.it.map, hM.out.ok⟩, fun a => ?_⟩, hM.out.below⟩
          rw [HG0.out]
          by_cases ha : a ∈ seen
          · exact hM.out.dones a ha
          · have h1 := hM.out.rests a ha
            have h2 : Vi.look E a = none := (look_none a E).2 (fun h => ha (hall a h))
            have h3 : H a = [] := by have := hM.out.ok.1 a h2; simpa [rowsH] using this
            rw [← h1, h3]
            exact ⟨[], List.Perm.refl _, List.Pairwise.nil, rfl⟩
        · have hlk := mem_look hM.out.it.map.nodup hkE
          have hent := hit'.entry (P := Tryz.prog) hkE
          have hq := hM.out.rests q hks
          have hok := hM.out.ok.kept hg' (fun j u hj => (hM.out.ok.2.1 j u hj).2.ne_iter hM.out.it)
          obtain ⟨hnn, hO⟩ := hok.2.1 q v hlk
          rcases hO.shape with ⟨_, h0⟩ | ⟨g, cap, hv, hg1, hg2, hg3⟩
          · exact absurd h0 hnn
          · have hlen : (rowsH H q).length ≤ 3000 := by
              have h1 := HR.out q
              have h2 := HL.out
              rw [← hq] at h1
              simp only [rowsH, List.length_map]
              omega
            generalize hm : (rowsH H q).length = m at hv hlen
            subst hv
            have HIT' := Lib.hid hit'
            have HOK := Lib.hid hok
            have HO := Lib.hid hO
            have HG' := Lib.hid hg'
            have HS' := Lib.hid hsz'
            have HM' := Lib.hid hm
            have HLK := Lib.hid hlk
            have HKE := Lib.hid hkE
            have HQ := Lib.hid hq
            clear hit' hok hO hnn hg' hsz' hm hlk hkE hq
            go_wp2_with (first
              | (go_at_call 92; refine (sortHops_any (H q) _ HO.out (by have := HM'.out; simp [rowsH] at this; omega)).mono ?_; rintro e' w2 ⟨rfl, S, hS1, hS2, hS3, hS4⟩; have HS1 := Lib.hid hS1; have HS2 := Lib.hid hS2; have HS3 := Lib.hid hS3; have HS4 := Lib.hid hS4; clear hS1 hS2 hS3 hS4)
              | (go_at_call 94; refine (compact_any S _ HS3.out (by have := HM'.out; simp [rowsH] at this; rw [HS1.out.length_eq]; exact this) (by omega)).mono ?_; rintro e' w3 ⟨⟨m', rfl, hC1⟩, hC2⟩; have hg3 := HS4.out.trans hC2; obtain ⟨hup, hRM⟩ := rng_back HIT'.out HOK.out hne HLK.out hg3 hC1 (fun e => by have h1 := HS1.out; rw [e] at h1; have h2 := (HOK.out.2.1 q _ HLK.out).1; rw [rowsH, h1.nil_eq.symm] at h2; exact h2 rfl); have HRM := Lib.hid hRM; have HG3 := Lib.hid hg3; clear hRM hC1 hC2 hg3))
            all_goals
              go_roundw
              case rel =>
                obtain ⟨h1, h2, h3⟩ := HRM.out
                have hz := hM.out.size
                have hz2 := HG'.out.size
                have hz3 := HG3.out.size
                refine ⟨q :: seen, _, _, ⟨h1, h2, fun j hj => ?_, fun j hj => ?_, ?_, ?_, hM.out.low⟩⟩
                · by_cases hjq : j = q
                  · subst hjq
                    simp only [if_true]
                    exact ⟨S, by rw [← HQ.out]; exact HS1.out, HS2.out, rfl⟩
                  · simp only [hjq, if_false]
                    exact hM.out.dones j (List.mem_of_ne_of_mem hjq hj)
                · simp only [List.mem_cons, not_or] at hj
                  simp only [hj.1, if_false]
                  exact hM.out.rests j hj.2
                · have hlow := hM.out.low
                  exact ((hM.out.below.grown HG'.out (by omega) (fun b hb => by injection hb with hb; omega)).grown HG3.out (by omega) (fun b hb => by injection hb with hb; omega)).grown (mset_grown _ _ _ _) (by omega) (fun b hb => by injection hb with hb; omega)
                · rw [size_mset]; omega
              case measure =>
                obtain ⟨h1, h2, h3⟩ := HRM.out
                rw [h1.left, hM.out.it.left]
                have hm : q ∈ E.map (·.1) := List.mem_map.2 ⟨_, HKE.out, rfl⟩
                exact mleft_lt hks hm (keys_put_same _ _ _ hm)
end Go.Proofs.YtmplajpbmojkkaaGreat
