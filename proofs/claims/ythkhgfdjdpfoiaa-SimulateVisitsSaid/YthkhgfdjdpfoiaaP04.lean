/-
  network.Reverse, walked.
  Routes: the plain law. A way goes along the first hops that keep to the least lengths.
  The queue's methods, through the interface of container/heap.
  Binary heaps on lists: the plain laws of up and down.
  The queue's methods, walked.
-/
import Derived.Test.YthkhgfdjdpfoiaaP02
import Derived.Deep.RegionHeld3
import Derived.Deep.DeepCutAuto
import Derived.Test.YthkhgfdjdpfoiaaP03
import Derived.Test.YthkhgfdjdpfoiaaHopG
import Derived.ChangeKeysEq
set_option linter.unusedSimpArgs false
set_option linter.unusedVariables false
namespace Go.Proofs.Ythkhgfdjdpfoiaa
open Go Go.RowKit Go.Vi
def Rd.rev (x : Rd) : Rd := { x with src := x.dst, dst := x.src }
def Net.rev (n : Net) : Net := ⟨n.nodes, n.roads.map Rd.rev⟩
/-- Behind the copies: the result's variable, the new network's, the copied rows, apart. -/
structure RevMid (w : World) (n : Net) (g : Nat) (v1 v2 : Value) (R : List (List Value)) (wx : World) : Prop where
  obj : wx.heap[g]? = some (.cells #[v1, v2] 35)
  res : wx.heap[w.heap.size + 1]? = some (.cells #[.slice none 0 0, .slice none 0 0] 35)
  low : w.heap.size + 2 ≤ g
  own1 : Ow (w.heap.size + 2) wx 55 3 v1 (n.nodes.map Nd.cs)
  own2 : Ow (w.heap.size + 2) wx 85 6 v2 R
  apart : ∀ b, v2.ownBlock = some b → b ≠ g ∧ v1.ownBlock ≠ some b ∧ w.heap.size + 2 ≤ b
  below : Below w.heap.size w wx
def revRows (l : List Rd) (k : Nat) : List (List Value) := ((l.take k).map Rd.rev ++ l.drop k).map Rd.cs
theorem revRows_len (l : List Rd) (k : Nat) : (revRows l k).length = l.length := by simp [revRows]; omega
theorem revRows_at {l : List Rd} {k : Nat} (h : k < l.length) : (revRows l k)[k]'(by rw [revRows_len]; exact h) = l[k]!.cs := by
  simp only [revRows, List.getElem_map]
  rw [List.getElem_append_right (by simp; omega)]
  simp [getElem!_pos l k h, Nat.min_eq_left (Nat.le_of_lt h)]
theorem revRows_step {l : List Rd} {k : Nat} (h : k < l.length) : (revRows l k).set k l[k]!.rev.cs = revRows l (k + 1) := by
  unfold revRows
  rw [List.drop_eq_getElem_cons h, List.take_succ_eq_append_getElem h, getElem!_pos l k h]
  simp only [List.map_append, List.map_cons, List.map_nil]
  have e : k - (List.map Rd.cs (List.map Rd.rev (List.take k l))).length = 0 := by simp; omega
  rw [List.set_append_right _ _ (by simp; omega), e, List.set_cons_zero, List.append_assoc]
  rfl
set_option maxHeartbeats 2000000 in
theorem reverse_any (n : Net) (v1 v2 : Value) (w : World) (hN : NetAt w.heap.size w v1 v2 n) (hsz : n.nodes.length ≤ 1000000) (hsz2 : n.roads.length ≤ 1000000) :
    Calls Try.prog 56 #[.agg #[v1, v2]] w fun e w' => (∃ v1' v2', e = .returned (.agg #[v1', v2']) ∧ NetAt w'.heap.size w' v1' v2' n.rev) ∧ Below w.heap.size w w' := by
  have HN := Lib.hid hN
  have HS := Lib.hid hsz
  have HS2 := Lib.hid hsz2
  clear hN hsz hsz2
  go_enter Try.func56, Try.ntmps56
  go_upto_region 1 with fail
  go_cut [3] (fun s3 wx => ∃ g a1 n1 c1 a2 n2 c2, s3 = .pointer (some ⟨g, 0, none⟩) ∧ Hid (RevMid w n g (.slice a1 n1 c1) (.slice a2 n2 c2) (n.roads.map Rd.cs) wx))
  case first =>
    have SOF : Hid (∀ w' : World, Below (w.heap.size + 2) ((w.alloc (.cells #[v1, v2] 35)).alloc (.cells #[.slice none 0 0, .slice none 0 0] 35)) w' → w'.cell? ⟨w.heap.size, 0, none⟩ = some v1 ∧ w'.cell? ⟨w.heap.size, 1, none⟩ = some v2) :=
      fun w' h => ⟨by rw [h.cell (by simp)]; simp, by rw [h.cell (by simp)]; simp⟩
    have SR : Hid (∀ w' : World, Below (w.heap.size + 2) ((w.alloc (.cells #[v1, v2] 35)).alloc (.cells #[.slice none 0 0, .slice none 0 0] 35)) w' → w'.heap[w.heap.size + 1]? = some (.cells #[.slice none 0 0, .slice none 0 0] 35)) :=
      fun w' h => by rw [h.block _ (by omega)]; have q := obj_last (w.alloc (.cells #[v1, v2] 35)) (.cells #[.slice none 0 0, .slice none 0 0] 35); simpa using q
    have FW : Hid (∀ W W1 : World, Below W.heap.size W W1 → Below (w.heap.size + 2) ((w.alloc (.cells #[v1, v2] 35)).alloc (.cells #[.slice none 0 0, .slice none 0 0] 35)) W → w.heap.size + 2 ≤ W.heap.size → Below (w.heap.size + 2) ((w.alloc (.cells #[v1, v2] 35)).alloc (.cells #[.slice none 0 0, .slice none 0 0] 35)) W1) := fun W W1 h2 h hN => h.trans (h2.mono hN)
    go_region_held3 (fun w' => w'.cell? ⟨w.heap.size, 0, none⟩ = some v1 ∧ w'.cell? ⟨w.heap.size, 1, none⟩ = some v2) (exact SOF.out _ (by (repeat (first | with_reducible exact Below.refl _ _ | with_reducible assumption | ((with_reducible refine Below.setCell ?_ ?_ _); rotate_left; focus (first | exact Nat.le_refl _ | omega | exact Below.size (by assumption) | (simp; done) | (simp; omega))) | ((with_reducible refine Below.alloc ?_ ?_ _); rotate_left; focus (first | exact Nat.le_refl _ | omega | exact Below.size (by assumption) | (simp; done) | (simp; omega))) | (with_reducible refine Below.drew ?_) | (with_reducible refine drewN_ ?_ _)))))
      (first
        | (go_at_call 67; refine (cloneNode_any n.nodes _ _ (HN.out.1.later (by (repeat (first | with_reducible exact Below.refl _ _ | with_reducible assumption | ((with_reducible refine Below.setCell ?_ ?_ _); rotate_left; focus (first | exact Nat.le_refl _ | omega | exact Below.size (by assumption) | (simp; done) | (simp; omega))) | ((with_reducible refine Below.alloc ?_ ?_ _); rotate_left; focus (first | exact Nat.le_refl _ | omega | exact Below.size (by assumption) | (simp; done) | (simp; omega))) | (with_reducible refine Below.drew ?_) | (with_reducible refine drewN_ ?_ _))))) HS.out).mono ?_; rintro e w1 ⟨⟨v1', rfl, ho1⟩, hb1⟩; obtain ⟨a1, n1, c1, rfl⟩ := ho1.val; have z1 := hb1.size; simp at z1; have hB1 := from_ (w := w) hb1 (by (repeat (first | with_reducible exact Below.refl _ _ | with_reducible assumption | ((with_reducible refine Below.setCell ?_ ?_ _); rotate_left; focus (first | exact Nat.le_refl _ | omega | exact Below.size (by assumption) | (simp; done) | (simp; omega))) | ((with_reducible refine Below.alloc ?_ ?_ _); rotate_left; focus (first | exact Nat.le_refl _ | omega | exact Below.size (by assumption) | (simp; done) | (simp; omega))) | (with_reducible refine Below.drew ?_) | (with_reducible refine drewN_ ?_ _)))); have hD1 := FW.out _ _ hb1 (by (repeat (first | with_reducible exact Below.refl _ _ | with_reducible assumption | ((with_reducible refine Below.setCell ?_ ?_ _); rotate_left; focus (first | exact Nat.le_refl _ | omega | exact Below.size (by assumption) | (simp; done) | (simp; omega))) | ((with_reducible refine Below.alloc ?_ ?_ _); rotate_left; focus (first | exact Nat.le_refl _ | omega | exact Below.size (by assumption) | (simp; done) | (simp; omega))) | (with_reducible refine Below.drew ?_) | (with_reducible refine drewN_ ?_ _)))) (by first | exact Nat.le_refl _ | omega | exact Below.size (by assumption) | (simp; done) | (simp; omega)); have q1 := keepObj hb1 (obj_last _ _); simp at q1; have q2 := obj_cell q1; have q3 := obj_free q1; have HB1 := Lib.hid hb1; clear hb1)
        | (go_at_call 68; refine (cloneRoad_any n.roads _ _ (HN.out.2.later (by (repeat (first | with_reducible exact Below.refl _ _ | with_reducible assumption | ((with_reducible refine Below.setCell ?_ ?_ _); rotate_left; focus (first | exact Nat.le_refl _ | omega | exact Below.size (by assumption) | (simp; done) | (simp; omega))) | ((with_reducible refine Below.alloc ?_ ?_ _); rotate_left; focus (first | exact Nat.le_refl _ | omega | exact Below.size (by assumption) | (simp; done) | (simp; omega))) | (with_reducible refine Below.drew ?_) | (with_reducible refine drewN_ ?_ _))))) HS2.out).mono ?_; rintro e w2 ⟨⟨v2', rfl, ho2⟩, hb2⟩; obtain ⟨a2, n2, c2, rfl⟩ := ho2.val; have z2 := hb2.size; (try simp at z2); have hB2 := from_ (w := w) hb2 (by (repeat (first | with_reducible exact Below.refl _ _ | with_reducible assumption | ((with_reducible refine Below.setCell ?_ ?_ _); rotate_left; focus (first | exact Nat.le_refl _ | omega | exact Below.size (by assumption) | (simp; done) | (simp; omega))) | ((with_reducible refine Below.alloc ?_ ?_ _); rotate_left; focus (first | exact Nat.le_refl _ | omega | exact Below.size (by assumption) | (simp; done) | (simp; omega))) | (with_reducible refine Below.drew ?_) | (with_reducible refine drewN_ ?_ _)))); have hE2 := from_ (w := w1) hb2 (by (repeat (first | with_reducible exact Below.refl _ _ | with_reducible assumption | ((with_reducible refine Below.setCell ?_ ?_ _); rotate_left; focus (first | exact Nat.le_refl _ | omega | exact Below.size (by assumption) | (simp; done) | (simp; omega))) | ((with_reducible refine Below.alloc ?_ ?_ _); rotate_left; focus (first | exact Nat.le_refl _ | omega | exact Below.size (by assumption) | (simp; done) | (simp; omega))) | (with_reducible refine Below.drew ?_) | (with_reducible refine drewN_ ?_ _)))); have hD2 := FW.out _ _ hb2 (by (repeat (first | with_reducible exact Below.refl _ _ | with_reducible assumption | ((with_reducible refine Below.setCell ?_ ?_ _); rotate_left; focus (first | exact Nat.le_refl _ | omega | exact Below.size (by assumption) | (simp; done) | (simp; omega))) | ((with_reducible refine Below.alloc ?_ ?_ _); rotate_left; focus (first | exact Nat.le_refl _ | omega | exact Below.size (by assumption) | (simp; done) | (simp; omega))) | (with_reducible refine Below.drew ?_) | (with_reducible refine drewN_ ?_ _)))) (by first | exact Nat.le_refl _ | omega | exact Below.size (by assumption) | (simp; done) | (simp; omega)); (first | have r1 := keepObj hb2 (obj_last _ _) | have r1 := keepObj hb2 q1); (try simp at r1); have r2 := obj_cell r1; have r3 := obj_free r1; have HB2 := Lib.hid hb2; clear hb2))
    · go_wp2_with fail
      go_meet
      have o1 := (ho1.mono (B' := w.heap.size + 2) (by first | exact Nat.le_refl _ | omega | exact Below.size (by assumption) | (simp; done) | (simp; omega))).keep hE2
      have o2 := ho2.mono (B' := w.heap.size + 2) (by first | exact Nat.le_refl _ | omega | exact Below.size (by assumption) | (simp; done) | (simp; omega))
      refine ⟨w2.heap.size, a1, n1, c1, a2, n2, c2, rfl, obj_last _ _, SR.out _ (by (repeat (first | with_reducible exact Below.refl _ _ | with_reducible assumption | ((with_reducible refine Below.setCell ?_ ?_ _); rotate_left; focus (first | exact Nat.le_refl _ | omega | exact Below.size (by assumption) | (simp; done) | (simp; omega))) | ((with_reducible refine Below.alloc ?_ ?_ _); rotate_left; focus (first | exact Nat.le_refl _ | omega | exact Below.size (by assumption) | (simp; done) | (simp; omega))) | (with_reducible refine Below.drew ?_) | (with_reducible refine drewN_ ?_ _)))), (by first | exact Nat.le_refl _ | omega | exact Below.size (by assumption) | (simp; done) | (simp; omega)), o1.keep (by (repeat (first | with_reducible exact Below.refl _ _ | with_reducible assumption | ((with_reducible refine Below.setCell ?_ ?_ _); rotate_left; focus (first | exact Nat.le_refl _ | omega | exact Below.size (by assumption) | (simp; done) | (simp; omega))) | ((with_reducible refine Below.alloc ?_ ?_ _); rotate_left; focus (first | exact Nat.le_refl _ | omega | exact Below.size (by assumption) | (simp; done) | (simp; omega))) | (with_reducible refine Below.drew ?_) | (with_reducible refine drewN_ ?_ _)))), o2.keep (by (repeat (first | with_reducible exact Below.refl _ _ | with_reducible assumption | ((with_reducible refine Below.setCell ?_ ?_ _); rotate_left; focus (first | exact Nat.le_refl _ | omega | exact Below.size (by assumption) | (simp; done) | (simp; omega))) | ((with_reducible refine Below.alloc ?_ ?_ _); rotate_left; focus (first | exact Nat.le_refl _ | omega | exact Below.size (by assumption) | (simp; done) | (simp; omega))) | (with_reducible refine Below.drew ?_) | (with_reducible refine drewN_ ?_ _)))), fun b hb => ?_, (by (repeat (first | with_reducible exact Below.refl _ _ | with_reducible assumption | ((with_reducible refine Below.setCell ?_ ?_ _); rotate_left; focus (first | exact Nat.le_refl _ | omega | exact Below.size (by assumption) | (simp; done) | (simp; omega))) | ((with_reducible refine Below.alloc ?_ ?_ _); rotate_left; focus (first | exact Nat.le_refl _ | omega | exact Below.size (by assumption) | (simp; done) | (simp; omega))) | (with_reducible refine Below.drew ?_) | (with_reducible refine drewN_ ?_ _))))⟩
      have x1 := ho2.blk b hb
      refine ⟨by omega, fun h => ?_, by (try simp at x1); omega⟩
      have x2 := ho1.blk b h
      (try simp at x1 x2); omega
    · go_wp2_with fail
      go_meet
      have o1 := (ho1.mono (B' := w.heap.size + 2) (by first | exact Nat.le_refl _ | omega | exact Below.size (by assumption) | (simp; done) | (simp; omega))).keep hE2
      have o2 := ho2.mono (B' := w.heap.size + 2) (by first | exact Nat.le_refl _ | omega | exact Below.size (by assumption) | (simp; done) | (simp; omega))
      have y2 : ∀ b, (Value.slice a2 n2 c2).ownBlock = some b → b ≠ w1.heap.size ∧ (Value.slice a1 n1 c1).ownBlock ≠ some b ∧ w.heap.size + 2 ≤ b := fun b hb => by
        have x1 := ho2.blk b hb
        simp at x1
        refine ⟨by omega, fun h => ?_, by omega⟩
        have x2 := ho1.blk b h
        simp at x2; omega
      have y1 : ∀ b, (Value.slice a1 n1 c1).ownBlock = some b → b ≠ w1.heap.size := fun b hb => by have := ho1.blk b hb; simp at this; omega
      refine ⟨w1.heap.size, a1, n1, c1, a2, n2, c2, rfl, obj_set (obj_set r1), SR.out _ (by (repeat (first | with_reducible exact Below.refl _ _ | with_reducible assumption | ((with_reducible refine Below.setCell ?_ ?_ _); rotate_left; focus (first | exact Nat.le_refl _ | omega | exact Below.size (by assumption) | (simp; done) | (simp; omega))) | ((with_reducible refine Below.alloc ?_ ?_ _); rotate_left; focus (first | exact Nat.le_refl _ | omega | exact Below.size (by assumption) | (simp; done) | (simp; omega))) | (with_reducible refine Below.drew ?_) | (with_reducible refine drewN_ ?_ _)))), (by first | exact Nat.le_refl _ | omega | exact Below.size (by assumption) | (simp; done) | (simp; omega)), (o1.keepSet _ ?_ _).keepSet _ ?_ _, (o2.keepSet _ ?_ _).keepSet _ ?_ _, y2, (by (repeat (first | with_reducible exact Below.refl _ _ | with_reducible assumption | ((with_reducible refine Below.setCell ?_ ?_ _); rotate_left; focus (first | exact Nat.le_refl _ | omega | exact Below.size (by assumption) | (simp; done) | (simp; omega))) | ((with_reducible refine Below.alloc ?_ ?_ _); rotate_left; focus (first | exact Nat.le_refl _ | omega | exact Below.size (by assumption) | (simp; done) | (simp; omega))) | (with_reducible refine Below.drew ?_) | (with_reducible refine drewN_ ?_ _))))⟩
      · exact fun h => (y1 _ h rfl)
      · exact fun h => (y1 _ h rfl)
      · exact fun h => ((y2 _ h).1 rfl)
      · exact fun h => ((y2 _ h).1 rfl)
    · go_wp2_with fail
      go_meet
      have o1 := (ho1.mono (B' := w.heap.size + 2) (by first | exact Nat.le_refl _ | omega | exact Below.size (by assumption) | (simp; done) | (simp; omega))).keep hE2
      have o2 := ho2.mono (B' := w.heap.size + 2) (by first | exact Nat.le_refl _ | omega | exact Below.size (by assumption) | (simp; done) | (simp; omega))
      have y2 : ∀ b, (Value.slice a2 n2 c2).ownBlock = some b → b ≠ w.heap.size + 1 + 1 ∧ (Value.slice a1 n1 c1).ownBlock ≠ some b ∧ w.heap.size + 2 ≤ b := fun b hb => by
        have x1 := ho2.blk b hb
        refine ⟨by omega, fun h => ?_, by omega⟩
        have x2 := ho1.blk b h
        omega
      have y1 : ∀ b, (Value.slice a1 n1 c1).ownBlock = some b → b ≠ w.heap.size + 1 + 1 := fun b hb => by have := ho1.blk b hb; simp at this; omega
      refine ⟨w.heap.size + 1 + 1, a1, n1, c1, a2, n2, c2, rfl, obj_set (obj_set r1), SR.out _ (by (repeat (first | with_reducible exact Below.refl _ _ | with_reducible assumption | ((with_reducible refine Below.setCell ?_ ?_ _); rotate_left; focus (first | exact Nat.le_refl _ | omega | exact Below.size (by assumption) | (simp; done) | (simp; omega))) | ((with_reducible refine Below.alloc ?_ ?_ _); rotate_left; focus (first | exact Nat.le_refl _ | omega | exact Below.size (by assumption) | (simp; done) | (simp; omega))) | (with_reducible refine Below.drew ?_) | (with_reducible refine drewN_ ?_ _)))), (by first | exact Nat.le_refl _ | omega | exact Below.size (by assumption) | (simp; done) | (simp; omega)), (o1.keepSet _ ?_ _).keepSet _ ?_ _, (o2.keepSet _ ?_ _).keepSet _ ?_ _, y2, (by (repeat (first | with_reducible exact Below.refl _ _ | with_reducible assumption | ((with_reducible refine Below.setCell ?_ ?_ _); rotate_left; focus (first | exact Nat.le_refl _ | omega | exact Below.size (by assumption) | (simp; done) | (simp; omega))) | ((with_reducible refine Below.alloc ?_ ?_ _); rotate_left; focus (first | exact Nat.le_refl _ | omega | exact Below.size (by assumption) | (simp; done) | (simp; omega))) | (with_reducible refine Below.drew ?_) | (with_reducible refine drewN_ ?_ _))))⟩
      · exact fun h => (y1 _ h rfl)
      · exact fun h => (y1 _ h rfl)
      · exact fun h => ((y2 _ h).1 rfl)
      · exact fun h => ((y2 _ h).1 rfl)
  case rest =>
    obtain ⟨g, a1, n1, c1, a2, n2, c2, rfl, hM⟩ := hcut
    have m0 := obj_cell hM.out.obj 1
    simp at m0
    have hlen : n.roads.length = n2 := by have := hM.out.own2.sl.len; simpa using this
    have HL := Lib.hid hlen
    have hn2 : n2 ≤ 1000000 := by rw [← hlen]; exact HS2.out
    clear hlen
    go_wp2
    clear m0
    go_loopw [16] (fun s16 wr => ∃ k : Nat, s16 = .int .i64 k ∧ k ≤ n2 ∧ Hid (RevMid w n g (.slice a1 n1 c1) (.slice a2 n2 c2) (revRows n.roads k) wr)) (fun s16 _ => n2 - (intOf s16).toNat)
    case atStart => exact ⟨0, rfl, Nat.zero_le _, by show RevMid _ _ _ _ _ _ _; simpa [revRows] using hM.out⟩
    case round =>
      clear hM
      obtain ⟨k, rfl, hk, hM⟩ := hrel
      have m0 := obj_cell hM.out.obj 0
      have m1 := obj_cell hM.out.obj 1
      have mf := obj_free hM.out.obj
      have mz := obj_lt hM.out.obj
      simp at m0 m1
      by_cases hlt : k < n2
      · have hkl : k < n.roads.length := by rw [HL.out]; exact hlt
        have hkr : k < (revRows n.roads k).length := by rw [revRows_len]; exact hkl
        rcases hM.out.own2.shape with ⟨h1, h2⟩ | ⟨gr, cap, h1, h2, h3, h4⟩
        · rw [h2] at hkr; simp at hkr
        · rw [revRows_len, HL.out] at h1
          injection h1 with e1 e2 e3
          subst e1
          have hrow := revRows_at hkl
          have hc := fun c hc => hM.out.own2.cell k hkr c hc
          rw [hrow] at hc
          have d0 := hc 0 (by omega); have d1 := hc 1 (by omega); have d2 := hc 2 (by omega); have d3 := hc 3 (by omega); have d4 := hc 4 (by omega); have d5 := hc 5 (by omega)
          have hf := hM.out.own2.free
          have hgr := hM.out.apart gr rfl
          have hne : gr ≠ g := hgr.1
          clear hc hrow e2 e3
          generalize hx : n.roads[k]! = x at d0 d1 d2 d3 d4 d5
          have HX := Lib.hid hx
          clear hx hgr
          simp only [Rd.cs, List.getElem?_cons_zero, List.getElem?_cons_succ, Nat.add_zero] at d0 d1 d2 d3 d4 d5
          go_wp2
          go_region
          go_wp2
          go_roundw
          case rel =>
            have o1 := hM.out.own1
            have o2 := hM.out.own2
            have hb := hM.out.below
            have hz := hb.size
            have hg1 : (Value.slice a1 n1 c1).ownBlock ≠ some gr := (hM.out.apart gr rfl).2.1
            have hk2 : w.heap.size + 1 ≠ gr := by have := (hM.out.apart gr rfl).2.2; omega
            refine ⟨k + 1, by go_num, by omega, ⟨?_, ?_, hM.out.low, ?_, ?_, hM.out.apart, ?_⟩⟩
            · exact obj_old (obj_setOther (obj_setOther hM.out.obj (a := ⟨gr, k * 6 + 1, none⟩) (Ne.symm hne)) (a := ⟨gr, k * 6 + 2, none⟩) (Ne.symm hne))
            · exact obj_old (obj_setOther (obj_setOther hM.out.res (a := ⟨gr, k * 6 + 1, none⟩) hk2) (a := ⟨gr, k * 6 + 2, none⟩) hk2)
            · exact ((o1.keepSet _ hg1 _).keepSet _ hg1 _).keep (by (repeat (first | with_reducible exact Below.refl _ _ | with_reducible assumption | ((with_reducible refine Below.setCell ?_ ?_ _); rotate_left; focus (first | exact Nat.le_refl _ | omega | exact Below.size (by assumption) | (simp; done) | (simp; omega))) | ((with_reducible refine Below.alloc ?_ ?_ _); rotate_left; focus (first | exact Nat.le_refl _ | omega | exact Below.size (by assumption) | (simp; done) | (simp; omega))) | (with_reducible refine Below.drew ?_) | (with_reducible refine drewN_ ?_ _))))
            · have q := (o2.store2 k hkr 1 2 (by decide) (by decide) (.int .i64 x.dst) (.int .i64 x.src))
              rw [revRows_at hkl, HX.out] at q
              have e := revRows_step hkl
              rw [HX.out] at e
              rw [show (x.cs.set 1 (.int .i64 x.dst)).set 2 (.int .i64 x.src) = x.rev.cs from rfl, e] at q
              exact q.keep (by (repeat (first | with_reducible exact Below.refl _ _ | with_reducible assumption | ((with_reducible refine Below.setCell ?_ ?_ _); rotate_left; focus (first | exact Nat.le_refl _ | omega | exact Below.size (by assumption) | (simp; done) | (simp; omega))) | ((with_reducible refine Below.alloc ?_ ?_ _); rotate_left; focus (first | exact Nat.le_refl _ | omega | exact Below.size (by assumption) | (simp; done) | (simp; omega))) | (with_reducible refine Below.drew ?_) | (with_reducible refine drewN_ ?_ _))))
            · have hk3 : w.heap.size ≤ gr := by have := (hM.out.apart gr rfl).2.2; omega
              (repeat (first | with_reducible exact Below.refl _ _ | with_reducible assumption | ((with_reducible refine Below.setCell ?_ ?_ _); rotate_left; focus (first | exact Nat.le_refl _ | omega | exact Below.size (by assumption) | (simp; done) | (simp; omega))) | ((with_reducible refine Below.alloc ?_ ?_ _); rotate_left; focus (first | exact Nat.le_refl _ | omega | exact Below.size (by assumption) | (simp; done) | (simp; omega))) | (with_reducible refine Below.drew ?_) | (with_reducible refine drewN_ ?_ _)))
          case measure => simp [intOf]; omega
      · obtain rfl : k = n2 := by omega
        have r0 := obj_cell hM.out.res 0
        have r1 := obj_cell hM.out.res 1
        have rf := obj_free hM.out.res
        have rz := obj_lt hM.out.res
        simp at r0 r1
        go_wp2
        refine bodyPost_ret (v := .agg #[.slice a1 n1 c1, .slice a2 k c2]) ?_ rfl ?_
        · simp [results, Try.results56, go_sem, rf, r0, r1]
        · refine ⟨⟨_, _, rfl, ?_, ?_⟩, by have h := hM.out.below; (repeat (first | with_reducible exact Below.refl _ _ | with_reducible assumption | ((with_reducible refine Below.setCell ?_ ?_ _); rotate_left; focus (first | exact Nat.le_refl _ | omega | exact Below.size (by assumption) | (simp; done) | (simp; omega))) | ((with_reducible refine Below.alloc ?_ ?_ _); rotate_left; focus (first | exact Nat.le_refl _ | omega | exact Below.size (by assumption) | (simp; done) | (simp; omega))) | (with_reducible refine Below.drew ?_) | (with_reducible refine drewN_ ?_ _)))⟩
          · have hb1 : (Value.slice a1 n1 c1).ownBlock ≠ some (w.heap.size + 1) := fun h => by have := hM.out.own1.blk _ h; omega
            exact ((hM.out.own1.keepSet ⟨w.heap.size + 1, 0, none⟩ hb1 (.slice a1 n1 c1)).keepSet ⟨w.heap.size + 1, 1, none⟩ hb1 (.slice a2 k c2)).sl
          · have hb2 : (Value.slice a2 k c2).ownBlock ≠ some (w.heap.size + 1) := fun h => by have := hM.out.own2.blk _ h; omega
            have e : revRows n.roads k = n.rev.roads.map Rd.cs := by
              unfold revRows
              rw [List.take_of_length_le (by rw [HL.out]; exact Nat.le_refl _), List.drop_eq_nil_of_le (by rw [HL.out]; exact Nat.le_refl _), List.append_nil]; rfl
            rw [← e]
            exact ((hM.out.own2.keepSet ⟨w.heap.size + 1, 0, none⟩ hb2 (.slice a1 n1 c1)).keepSet ⟨w.heap.size + 1, 1, none⟩ hb2 (.slice a2 k c2)).sl
end Go.Proofs.Ythkhgfdjdpfoiaa
namespace Go.Proofs.Ythkhgfdjdpfoiaa
open Go Go.Vi
theorem fin_unique {L A B : List Hp} (h : Fin L A) (h' : Fin L B) : A = B := by
  obtain ⟨S, h1, h2, rfl⟩ := h
  obtain ⟨T, g1, g2, rfl⟩ := h'
  have e : S = T := List.Perm.eq_of_pairwise (le := fun a b => ¬hpLt b a) (fun a b _ _ q q' => by
    unfold hpLt at q q'
    obtain ⟨a1, a2, a3⟩ := a
    obtain ⟨b1, b2, b3⟩ := b
    simp only at q q'
    have e1 : a1 = b1 := by omega
    have e2 : a3 = b3 := by omega
    have e3 : a2 = b2 := by omega
    subst e1; subst e2; subst e3; rfl) h2 g2 (h1.trans g1.symm)
  rw [e]
/-- A hop of a node that keeps to the lengths left. -/
def Keeps (left : Int → Int → Prop) (a : Int) (h : Hp) : Prop := ∃ r d, left h.dst r ∧ left a d ∧ r + h.len = d
/-- The way from a node to b: the hops taken. -/
inductive Way (A : Int → List Hp) (left : Int → Int → Prop) (b : Int) : Int → List Hp → Prop
  | done : Way A left b b []
  | step {a : Int} {R : List Hp} {i : Nat} (hne : a ≠ b) (hi : i < (A a).length) (hk : Keeps left a (A a)[i]) (hf : ∀ (j : Nat) (hj : j < i), ¬Keeps left a (A a)[j]) (hw : Way A left b (A a)[i].dst R) : Way A left b a ((A a)[i] :: R)
section
variable {A : Int → List Hp} {left : Int → Int → Prop} {b a : Int} {R R' : List Hp}
theorem Way.next {i : Nat} (h : Way A left b a R) (hne : a ≠ b) (hi : i < (A a).length) (hk : Keeps left a (A a)[i]) (hf : ∀ (j : Nat) (hj : j < i), ¬Keeps left a (A a)[j]) : ∃ R', R = (A a)[i] :: R' ∧ Way A left b (A a)[i].dst R' := by
  cases h with
  | done => exact absurd rfl hne
  | @step _ R2 j hne' hj hk' hf' hw =>
    rcases Nat.lt_trichotomy i j with h1 | h1 | h1
    · exact absurd hk (hf' i h1)
    · subst h1; exact ⟨R2, rfl, hw⟩
    · exact absurd hk' (hf j h1)
theorem Way.stuck (hne : a ≠ b) (hf : ∀ (j : Nat) (hj : j < (A a).length), ¬Keeps left a (A a)[j]) : ¬Way A left b a R := by
  intro h
  cases h with
  | done => exact hne rfl
  | step _ hi hk _ _ => exact hf _ hi hk
theorem Way.at_end (h : Way A left b b R) : R = [] := by
  cases h with
  | done => rfl
  | step hne _ _ _ _ => exact absurd rfl hne
theorem Way.unique (h : Way A left b a R) (h' : Way A left b a R') : R = R' := by
  induction h generalizing R' with
  | done => exact h'.at_end.symm
  | step hne hi hk hf _ ih =>
    obtain ⟨R2, rfl, h2⟩ := h'.next hne hi hk hf
    rw [ih h2]
/-- Where a way ends, and that it comes there but once. -/
theorem Way.last (h : Way A left b a R) : (R = [] ∧ a = b) ∨ ∃ P g, R = P ++ [g] ∧ g.dst = b ∧ ∀ x ∈ P, x.dst ≠ b := by
  induction h with
  | done => exact .inl ⟨rfl, rfl⟩
  | @step a R i hne hi hk hf hw ih =>
    right
    rcases ih with ⟨rfl, e⟩ | ⟨P, g, rfl, e, hp⟩
    · exact ⟨[], (A a)[i], rfl, e, fun x hx => by cases hx⟩
    · refine ⟨(A a)[i] :: P, g, rfl, e, fun x hx => ?_⟩
      rcases List.mem_cons.1 hx with rfl | hx
      · intro e2
        rw [e2] at hw
        have := hw.at_end
        simp at this
      · exact hp x hx
theorem Way.mem (h : Way A left b a R) : ∀ x ∈ R, ∃ u, x ∈ A u := by
  induction h with
  | done => intro x hx; cases hx
  | @step a R i hne hi hk hf hw ih =>
    intro x hx
    rcases List.mem_cons.1 hx with rfl | hx
    · exact ⟨a, List.getElem_mem hi⟩
    · exact ih x hx
end
/-- A route of a network: its hops. -/
def IsRoute (n : Net) (a b : Int) (R : List Hp) (len : Int) : Prop := (nodeOf n.nodes a).isSome ∧ (nodeOf n.nodes b).isSome ∧ ∃ A B : Int → List Hp, (∀ k, Fin (hopsG n.roads k) (A k)) ∧ (∀ k, Fin (hopsG n.rev.roads k) (B k)) ∧ Least B b a len ∧ Way A (Least B b) b a R
theorem IsRoute.unique {n : Net} {a b : Int} {R R' : List Hp} {l l' : Int} (h : IsRoute n a b R l) (h' : IsRoute n a b R' l') : R = R' ∧ l = l' := by
  obtain ⟨_, _, A, B, h1, h2, h3, h4⟩ := h
  obtain ⟨_, _, A', B', g1, g2, g3, g4⟩ := h'
  have e1 : A = A' := funext fun k => fin_unique (h1 k) (g1 k)
  have e2 : B = B' := funext fun k => fin_unique (h2 k) (g2 k)
  subst e1; subst e2
  exact ⟨h4.unique g4, h3.unique g3⟩
end Go.Proofs.Ythkhgfdjdpfoiaa
namespace Go.Vi
open Go Go.RowKit
theorem wrapnil {P : Program} {w : World} (ts : Array TypeId) (t : TypeId) (a : Addr) (x y : ByteArray) : (Builtin.ssaWrapNilChk_ ts t #[.pointer (some a), .string x, .string y]).run P w = .ok (.pointer (some a)) w := rfl
theorem method_val {P : Program} {t e fuel f : Nat} {name : String} (ht : P.underlying t = some (.pointer e)) (hm : ((P.info? t).bind fun i => i.methods.find? (·.name == name)).map (fun m => (m.path.toList.length, m.func)) = some (0, some (f, false)))
    {a : Addr} {v : Value} {w : World} (hl : (loadVar e a).run P w = .ok v w) : (method (fuel + 1) t (.pointer (some a)) name).run P w = .ok (f, v) w := by
  cases hi : P.info? t with
  | none => rw [hi] at hm; simp at hm
  | some i =>
    rw [hi] at hm
    cases hf : i.methods.find? (·.name == name) with
    | none => simp [hf] at hm
    | some m =>
      simp [hf] at hm
      obtain ⟨hp, hfn⟩ := hm
      unfold method
      simp [run_typeInfo _ hi, hf, hp, follow, hfn, receiverAt, run_underlying ht, Result.andThen, Place.get, strVal, wrapnil, hl, asAddr]
theorem method_ptr {P : Program} {t e fuel f : Nat} {name : String} (ht : P.underlying t = some (.pointer e)) (hm : ((P.info? t).bind fun i => i.methods.find? (·.name == name)).map (fun m => (m.path.toList.length, m.func)) = some (0, some (f, true)))
    {a : Addr} {w : World} : (method (fuel + 1) t (.pointer (some a)) name).run P w = .ok (f, .pointer (some a)) w := by
  cases hi : P.info? t with
  | none => rw [hi] at hm; simp at hm
  | some i =>
    rw [hi] at hm
    cases hf : i.methods.find? (·.name == name) with
    | none => simp [hf] at hm
    | some m =>
      simp [hf] at hm
      obtain ⟨hp, hfn⟩ := hm
      unfold method
      simp [run_typeInfo _ hi, hf, hp, follow, hfn, receiverAt, run_underlying ht, Result.andThen, Place.get]
theorem nil_ahead {P : Program} {t e fuel f : Nat} {b : Bool} {name : String} (ht : P.underlying t = some (.pointer e)) (hm : ((P.info? t).bind fun i => i.methods.find? (·.name == name)).map (fun m => (m.path.toList.length, m.func)) = some (0, some (f, b)))
    {a : Addr} {w : World} : (nilAhead (fuel + 1) t (.pointer (some a)) name).run P w = .ok (some false) w := by
  cases hi : P.info? t with
  | none => rw [hi] at hm; simp at hm
  | some i =>
    rw [hi] at hm
    cases hf : i.methods.find? (·.name == name) with
    | none => simp [hf] at hm
    | some m =>
      simp [hf] at hm
      obtain ⟨hp, hfn⟩ := hm
      unfold nilAhead
      cases b <;> simp [run_typeInfo _ hi, hf, hp, followBlind, hfn, run_underlying ht, Result.andThen]
end Go.Vi
namespace Go.Proofs.Ythkhgfdjdpfoiaa
open Go Go.RowKit Go.Vi
theorem mLen : (((Try.prog.info? 167).bind fun i => i.methods.find? (·.name == "Len")).map fun m => (m.path.toList.length, m.func)) = some (0, some (64, false)) := by kernel_rfl
end Go.Proofs.Ythkhgfdjdpfoiaa
namespace Go.Vi
open Go
variable {α : Type} [Inhabited α]
def swpL (L : List α) (i j : Nat) : List α := (L.set i L[j]!).set j L[i]!
theorem swpL_len (L : List α) (i j : Nat) : (swpL L i j).length = L.length := by simp [swpL]
theorem swpL_get {L : List α} {i j : Nat} (hi : i < L.length) (hj : j < L.length) (k : Nat) : (swpL L i j)[k]! = if k = j then L[i]! else if k = i then L[j]! else L[k]! := by
  unfold swpL
  by_cases hk : k < L.length
  · rw [getElem!_pos _ k (by simpa using hk), List.getElem_set]
    by_cases h1 : j = k
    · simp [h1]
    · rw [if_neg h1, if_neg (fun e => h1 e.symm), List.getElem_set]
      by_cases h2 : i = k
      · simp [h2]
      · rw [if_neg h2, if_neg (fun e => h2 e.symm), getElem!_pos L k hk]
  · rw [if_neg (by omega), if_neg (by omega), getElem!_neg _ k (by simpa using hk), getElem!_neg L k hk]
theorem swpL_perm {L : List α} {i j : Nat} (hi : i < L.length) (hj : j < L.length) : (swpL L i j).Perm L := by
  have h := Array.swap_perm (xs := L.toArray) (i := i) (j := j) (by simpa using hi) (by simpa using hj)
  have e : (L.toArray.swap i j (by simpa using hi) (by simpa using hj)).toList = swpL L i j := by
    simp [Array.swap, swpL, getElem!_pos L i hi, getElem!_pos L j hj]
  rw [← e]
  exact Array.perm_iff_toList_perm.1 h
/-- The parent's place. -/
def par (k : Nat) : Nat := (k - 1) / 2
/-- Heap order by f below n, but for the pairs named. -/
def HeapBut (f : α → Int) (L : List α) (n : Nat) (ex : Nat → Prop) : Prop := ∀ k, 0 < k → k < n → ¬ex k → f L[par k]! ≤ f L[k]!
def HeapOK (f : α → Int) (L : List α) : Prop := HeapBut f L L.length fun _ => False
theorem heap_min {f : α → Int} {L : List α} {n : Nat} (h : HeapBut f L n fun _ => False) : ∀ k, k < n → f L[0]! ≤ f L[k]! := by
  intro k
  induction k using Nat.strongRecOn with
  | ind k ih =>
    intro hk
    rcases Nat.eq_zero_or_pos k with rfl | hp
    · exact Int.le_refl _
    · have h1 := ih (par k) (by unfold par; omega) (by unfold par; omega)
      have h2 := h k hp hk (fun h => h)
      omega
/-- Rising: all but j's pair with its parent, and j's children are no less than j's parent. -/
def Rising (f : α → Int) (L : List α) (j : Nat) : Prop := j < L.length ∧ HeapBut f L L.length (fun k => k = j) ∧ ∀ k, 0 < k → k < L.length → par k = j → 0 < j → f L[par j]! ≤ f L[k]!
theorem rising_done {f : α → Int} {L : List α} {j : Nat} (h : Rising f L j) (hj : j = 0 ∨ ¬f L[j]! < f L[par j]!) : HeapOK f L := by
  intro k hk hn _
  by_cases hkj : k = j
  · subst hkj
    rcases hj with hj | hj
    · omega
    · omega
  · exact h.2.1 k hk hn hkj
theorem rising_step {f : α → Int} {L : List α} {j : Nat} (h : Rising f L j) (hj : 0 < j) (hlt : f L[j]! < f L[par j]!) : Rising f (swpL L (par j) j) (par j) := by
  obtain ⟨h1, h2, h3⟩ := h
  have hp : par j < L.length := by unfold par; omega
  have hpj : par j ≠ j := by unfold par; omega
  refine ⟨by rw [swpL_len]; exact hp, fun k hk hn he => ?_, fun k hk hn hpk hpp => ?_⟩
  · rw [swpL_len] at hn
    rw [swpL_get hp h1, swpL_get hp h1]
    by_cases a : k = j
    · subst a
      rw [if_neg hpj, if_pos rfl, if_pos rfl]
      omega
    · rw [if_neg a, if_neg he]
      by_cases b : par k = j
      · rw [if_pos b]
        have := h3 k hk hn b hj
        exact this
      · rw [if_neg b]
        by_cases c : par k = par j
        · rw [if_pos c]
          have := h2 k hk hn a
          rw [c] at this; omega
        · rw [if_neg c]
          exact h2 k hk hn a
  · rw [swpL_len] at hn
    have hpp2 : par (par j) < L.length := by unfold par; omega
    rw [swpL_get hp h1, swpL_get hp h1]
    have q1 : par (par j) ≠ j := by unfold par at hpp ⊢; omega
    have q2 : par (par j) ≠ par j := by unfold par at hpp ⊢; omega
    rw [if_neg q1, if_neg q2]
    have hb := h2 (par j) hpp hp hpj
    by_cases a : k = j
    · rw [if_pos a]; exact hb
    · have q3 : k ≠ par j := by intro e; subst e; unfold par at hpk hk; omega
      rw [if_neg a, if_neg q3]
      have := h2 k hk hn a
      rw [hpk] at this; omega
/-- Sinking below n: all but i's children, and these are no less than i's parent. -/
def Sinking (f : α → Int) (L : List α) (n i : Nat) : Prop := n ≤ L.length ∧ HeapBut f L n (fun k => par k = i) ∧ ∀ k, 0 < k → k < n → par k = i → 0 < i → f L[par i]! ≤ f L[k]!
theorem sinking_leaf {f : α → Int} {L : List α} {n i : Nat} (h : Sinking f L n i) (hi : n ≤ 2 * i + 1) : HeapBut f L n fun _ => False := by
  intro k hk hn _
  by_cases hp : par k = i
  · unfold par at hp; omega
  · exact h.2.1 k hk hn hp
theorem sinking_done {f : α → Int} {L : List α} {n i j : Nat} (h : Sinking f L n i) (hmin : ∀ k, 0 < k → k < n → par k = i → f L[j]! ≤ f L[k]!) (hj : ¬f L[j]! < f L[i]!) : HeapBut f L n fun _ => False := by
  intro k hk hn _
  by_cases hp : par k = i
  · rw [hp]
    have := hmin k hk hn hp; omega
  · exact h.2.1 k hk hn hp
theorem sinking_step {f : α → Int} {L : List α} {n i j : Nat} (h : Sinking f L n i) (hj0 : 0 < j) (hjn : j < n) (hji : par j = i) (hmin : ∀ k, 0 < k → k < n → par k = i → f L[j]! ≤ f L[k]!) (hlt : f L[j]! < f L[i]!) : Sinking f (swpL L i j) n j := by
  obtain ⟨h1, h2, h3⟩ := h
  have hjL : j < L.length := by omega
  have hij : i < j := by unfold par at hji; omega
  have hiL : i < L.length := by omega
  refine ⟨by rw [swpL_len]; exact h1, fun k hk hn he => ?_, fun k hk hn hpk _ => ?_⟩
  · rw [swpL_get hiL hjL, swpL_get hiL hjL, if_neg he]
    by_cases a : par k = i
    · rw [if_pos a]
      have hki : k ≠ i := by intro e; subst e; unfold par at a; omega
      by_cases b : k = j
      · rw [if_pos b]; omega
      · rw [if_neg b, if_neg hki]; exact hmin k hk hn a
    · rw [if_neg a]
      have b : k ≠ j := by intro e; subst e; exact a hji
      rw [if_neg b]
      by_cases c : k = i
      · rw [if_pos c]
        have := h3 j hj0 hjn hji (by omega)
        rw [c]; exact this
      · rw [if_neg c]; exact h2 k hk hn a
  · rw [swpL_get hiL hjL, swpL_get hiL hjL, hji]
    have hkj : k ≠ j := by intro e; subst e; unfold par at hpk; omega
    have hki : k ≠ i := by intro e; subst e; unfold par at hpk; omega
    rw [if_neg (by omega), if_pos rfl, if_neg hkj, if_neg hki]
    have := h2 k hk hn (by show ¬par k = i; rw [hpk]; omega)
    rw [hpk] at this; exact this
end Go.Vi
namespace Go.Vi
open Go Go.RowKit
/-- All but the queue's variable and its row is as it was. -/
structure QF (w w' : World) (qb : Nat) (row : Option Nat) : Prop where
  os : w'.os = w.os
  tape : w'.tape = w.tape
  output : w'.output = w.output
  size : w.heap.size ≤ w'.heap.size
  block : ∀ k, k < w.heap.size → k ≠ qb → some k ≠ row → w'.heap[k]? = w.heap[k]?
theorem QF.refl (w : World) (qb : Nat) (row : Option Nat) : QF w w qb row := ⟨rfl, rfl, rfl, Nat.le_refl _, fun _ _ _ _ => rfl⟩
theorem QF.of_grown {w w' : World} {row : Option Nat} (h : w.grownBy w' row) (qb : Nat) : QF w w' qb row := ⟨h.os, h.tape, h.output, h.size, fun k hk _ hr => h.block k hk hr⟩
theorem QF.trans {w w1 w2 : World} {qb : Nat} {row row1 : Option Nat} (h : QF w w1 qb row) (h2 : QF w1 w2 qb row1) (hr : row1 = row ∨ ∀ g, row1 = some g → w.heap.size ≤ g) : QF w w2 qb row :=
  ⟨h2.os.trans h.os, h2.tape.trans h.tape, h2.output.trans h.output, Nat.le_trans h.size h2.size, fun k hk hq hrow => by
    rw [h2.block k (Nat.lt_of_lt_of_le hk h.size) hq, h.block k hk hq hrow]
    rcases hr with e | e
    · rw [e]; exact hrow
    · intro e2; have := e k e2.symm; omega⟩
theorem QF.below {B : Nat} {w0 w w' : World} {qb : Nat} {row : Option Nat} (hb : Below B w0 w) (h : QF w w' qb row) (hB : B ≤ w.heap.size) (hq : B ≤ qb) (hr : ∀ g, row = some g → B ≤ g) : Below B w0 w' :=
  hb.trans ⟨h.os, h.tape, h.output, h.size, fun k hk => h.block k (by omega) (by omega) (fun e => by have := hr k e.symm; omega)⟩
theorem below_qf {w w' : World} (h : Below w.heap.size w w') (qb : Nat) (row : Option Nat) : QF w w' qb row := ⟨h.os, h.tape, h.output, h.size, fun k hk _ _ => h.block k hk⟩
theorem qf_set (w : World) (qb o : Nat) (u : Value) (row : Option Nat) : QF w (w.setCell ⟨qb, o, none⟩ u) qb row := by
  refine ⟨rfl, rfl, rfl, by simp [World.setCell], fun j hj hne _ => ?_⟩
  have : qb ≠ j := fun e => hne e.symm
  simp [World.setCell, Array.getElem?_modify, this]
end Go.Vi
namespace Go.Proofs.Ythkhgfdjdpfoiaa
open Go Go.RowKit Go.Vi
theorem uQP : Try.prog.underlying 167 = some (.pointer 168) := by kernel_rfl
theorem mLess : (((Try.prog.info? 167).bind fun i => i.methods.find? (·.name == "Less")).map fun m => (m.path.toList.length, m.func)) = some (0, some (113, false)) := by kernel_rfl
theorem mSwap : (((Try.prog.info? 167).bind fun i => i.methods.find? (·.name == "Swap")).map fun m => (m.path.toList.length, m.func)) = some (0, some (116, false)) := by kernel_rfl
theorem mPush : (((Try.prog.info? 167).bind fun i => i.methods.find? (·.name == "Push")).map fun m => (m.path.toList.length, m.func)) = some (0, some (115, true)) := by kernel_rfl
theorem mPop : (((Try.prog.info? 167).bind fun i => i.methods.find? (·.name == "Pop")).map fun m => (m.path.toList.length, m.func)) = some (0, some (114, true)) := by kernel_rfl
/-- The queue's variable and what its slice owns. -/
structure QAt (w : World) (B qb : Nat) (v : Value) (L : List Hp) : Prop where
  var : w.heap[qb]? = some (.cells #[v] 168 (0, 0))
  own : Ow B w 162 3 v (L.map Hp.cs)
theorem QAt.apart {w : World} {B qb g n cap : Nat} {L : List Hp} (h : QAt w B qb (.slice (some ⟨g, 0, none⟩) n cap) L) : g ≠ qb := by
  intro e
  subst e
  have := h.own.type g rfl _ _ _ h.var
  simp at this
theorem uQue : Try.prog.underlying 168 = some (.slice 162) := by kernel_rfl
theorem qlen_any (a : Option Addr) (n cap : Nat) (w : World) : Calls Try.prog 64 #[.slice a n cap] w fun e w' => e = .returned (.int .i64 n) ∧ w = w' := by
  go_enter Try.func64, Try.ntmps64
  go_wp2
  go_ret
  exact ⟨rfl, rfl⟩
theorem qless_any {B g n cap : Nat} {L : List Hp} (i k : Nat) (w : World) (h : Ow B w 162 3 (.slice (some ⟨g, 0, none⟩) n cap) (L.map Hp.cs)) (hn : L.length = n) (hn1 : n ≤ 100000) (hi : i < n) (hk : k < n) :
    Calls Try.prog 113 #[.slice (some ⟨g, 0, none⟩) n cap, .int .i64 i, .int .i64 k] w fun e w' => e = .returned (.bool (decide (L[i]!.len < L[k]!.len))) ∧ ∃ q, w' = w.drewN q := by
  obtain ⟨a0, a1, a2⟩ := hp_cell h (i := i) (by omega)
  obtain ⟨b0, b1, b2⟩ := hp_cell h (i := k) (by omega)
  generalize L[i]! = x at a0 a1 a2 ⊢
  generalize L[k]! = y at b0 b1 b2 ⊢
  clear h hn
  have p0 : (0 : Int) ≤ (i : Int) := by omega
  have p1 : (i : Int) < (n : Int) := by omega
  have p2 : (0 : Int) ≤ (k : Int) := by omega
  have p3 : (k : Int) < (n : Int) := by omega
  go_enter Try.func113, Try.ntmps113
  go_wp2_with fail
  go_quiet (fail)
  go_wp2
  go_ret
  exact ⟨rfl, _, rfl⟩
set_option maxHeartbeats 1000000 in
theorem qswap_any {B g n cap : Nat} {L : List Hp} (i k : Nat) (w : World) (h : Ow B w 162 3 (.slice (some ⟨g, 0, none⟩) n cap) (L.map Hp.cs)) (hn : L.length = n) (hn1 : n ≤ 100000) (hi : i < n) (hk : k < n) :
    Calls Try.prog 116 #[.slice (some ⟨g, 0, none⟩) n cap, .int .i64 i, .int .i64 k] w fun e w' => e = .returned (.tuple #[]) ∧ Ow B w' 162 3 (.slice (some ⟨g, 0, none⟩) n cap) ((swpL L i k).map Hp.cs) ∧ w.grownBy w' (some g) := by
  obtain ⟨a0, a1, a2⟩ := hp_cell h (i := i) (by omega)
  obtain ⟨b0, b1, b2⟩ := hp_cell h (i := k) (by omega)
  generalize hx : L[i]! = x at a0 a1 a2
  generalize hy : L[k]! = y at b0 b1 b2
  have HA := Lib.hid (⟨hx, hy⟩ : L[i]! = x ∧ L[k]! = y)
  have f0 := h.free (i * 3)
  have f1 := h.free (i * 3 + 1)
  have f2 := h.free (i * 3 + 2)
  have e0 := h.free (k * 3)
  have e1 := h.free (k * 3 + 1)
  have e2 := h.free (k * 3 + 2)
  have HO := Lib.hid h
  have HN := Lib.hid hn
  clear h hn hx hy
  have p0 : (0 : Int) ≤ (i : Int) := by omega
  have p1 : (i : Int) < (n : Int) := by omega
  have p2 : (0 : Int) ≤ (k : Int) := by omega
  have p3 : (k : Int) < (n : Int) := by omega
  by_cases hik : i = k
  · subst hik
    go_enter Try.func116, Try.ntmps116
    go_wp2_with fail
    go_region
    go_end0
    have hx := HA.out.1.symm.trans HA.out.2
    subst hx
    have h1 := hp_set HO.out (by rw [HN.out]; exact hi) x
    have h2 := hp_set h1 (by rw [List.length_set, HN.out]; exact hi) x
    refine ⟨rfl, ?_, ?_⟩
    · rw [show swpL L i i = (L.set i x).set i x by simp only [swpL, HA.out.1]]
      exact h2.keep ((Below.refl _ _).drew)
    · exact ((row3 w g _ _ _ _ _ _).trans (row3 _ g _ _ _ _ _ _)).trans (grown_of ((Below.refl _ _).drew))
  · have n0 : ¬k * 3 = i * 3 := by omega
    have n1 : ¬k * 3 = i * 3 + 1 := by omega
    have n2 : ¬k * 3 = i * 3 + 2 := by omega
    have n3 : ¬k * 3 + 1 = i * 3 := by omega
    have n4 : ¬k * 3 + 1 = i * 3 + 2 := by omega
    have n5 : ¬k * 3 + 2 = i * 3 := by omega
    have n6 : ¬k * 3 + 2 = i * 3 + 1 := by omega
    have n7 : ¬k = i := by omega
    go_enter Try.func116, Try.ntmps116
    go_wp2_with fail
    go_region
    go_end0
    have h1 := hp_set HO.out (by rw [HN.out]; exact hi) y
    have h2 := hp_set h1 (by rw [List.length_set, HN.out]; exact hk) x
    refine ⟨rfl, ?_, ?_⟩
    · rw [show swpL L i k = (L.set i y).set k x by simp only [swpL, HA.out.1, HA.out.2]]
      exact h2.keep ((Below.refl _ _).drew)
    · exact ((row3 w g _ _ _ _ _ _).trans (row3 _ g _ _ _ _ _ _)).trans (grown_of ((Below.refl _ _).drew))
theorem take_own {B g n cap : Nat} {w : World} {e : Nat} {L : List Hp} (h : Ow B w e 3 (.slice (some ⟨g, 0, none⟩) n cap) (L.map Hp.cs)) {m : Nat} (hm : m ≤ L.length) : Ow B w e 3 (.slice (some ⟨g, 0, none⟩) m cap) ((L.take m).map Hp.cs) := by
  rcases h.1.2 with ⟨e0, _⟩ | ⟨g', cap', cur, e0, hb, hg, hn, hc, hs, ht⟩
  · cases e0
  · injection e0 with e1 e2 e3
    injection e1 with e1
    injection e1 with e1
    subst e1; subst e3; subst e2
    simp only [List.length_map] at hn ht
    have hR : ∀ r ∈ L.map Hp.cs, r.length = 3 := fun r hr => by obtain ⟨x, _, rfl⟩ := List.mem_map.1 hr; rfl
    have hR2 : ∀ r ∈ (L.take m).map Hp.cs, r.length = 3 := fun r hr => by obtain ⟨x, _, rfl⟩ := List.mem_map.1 hr; rfl
    refine ⟨⟨flatten_len hR2, .inr ⟨g, cap, cur, by simp [Nat.min_eq_left hm], hb, hg, by simp [Nat.min_eq_left hm]; omega, hc, hs, ?_⟩⟩, hR2⟩
    have hl : ((L.take m).map Hp.cs).length = m := by simp [Nat.min_eq_left hm]
    rw [hl]
    have q : cur.toList.take (m * 3) = (cur.toList.take (L.length * 3)).take (m * 3) := by rw [List.take_take, Nat.min_eq_left (Nat.mul_le_mul_right 3 hm)]
    rw [q, ht]
    have hsp : (L.map Hp.cs).flatten = ((L.take m).map Hp.cs).flatten ++ ((L.drop m).map Hp.cs).flatten := by rw [← List.flatten_append, ← List.map_append, List.take_append_drop]
    rw [hsp, List.take_append_of_le_length (by rw [flatten_len hR2, hl]; exact Nat.le_refl _)]
    exact List.take_of_length_le (by rw [flatten_len hR2, hl]; exact Nat.le_refl _)
theorem qpop_any {B g qb n cap : Nat} {L : List Hp} (w : World) (h : QAt w B qb (.slice (some ⟨g, 0, none⟩) n cap) L) (hn : L.length = n) (hn1 : n ≤ 100000) (hn0 : 0 < n) :
    Calls Try.prog 114 #[.pointer (some ⟨qb, 0, none⟩)] w fun e w' => e = .returned (.iface 162 L[n - 1]!.v) ∧ QAt w' B qb (.slice (some ⟨g, 0, none⟩) (n - 1) cap) (L.take (n - 1)) ∧ QF w w' qb (some g) := by
  obtain ⟨r, hr⟩ : ∃ r, n = r + 1 := ⟨n - 1, by omega⟩
  obtain ⟨a0, a1, a2⟩ := hp_cell h.own (i := r) (by omega)
  have hc := obj_cell h.var 0
  have hfr := obj_free h.var 0
  simp at hc
  have hrr : n - 1 = r := by omega
  rw [hrr]
  generalize hx : L[r]! = x at a0 a1 a2 ⊢
  have hcap : n ≤ cap := by
    rcases h.own.shape with ⟨h1, _⟩ | ⟨g', cap', h1, _, _, h2⟩
    · cases h1
    · injection h1 with h3 h4 h5; subst h4; subst h5; exact h2
  have HQ := Lib.hid h
  have HN := Lib.hid hn
  have HR := Lib.hid hr
  have hgz := (h.own.blk g rfl).2
  have hqz := obj_lt h.var
  have p0 : (0 : Int) ≤ (r : Int) := by omega
  have p1 : (r : Int) < (n : Int) := by omega
  have p2 : (n : Int) - 1 = (r : Int) := by omega
  have p3 : IntKind.i64.wrap (r : Int) = (r : Int) := IntWalk.i64_in _ (by omega)
  have p4 : (r : Int) ≤ (cap : Int) := by omega
  have p5 : r ≤ cap := by omega
  clear h hn hr hrr hx hn0 hcap
  go_enter Try.func114, Try.ntmps114
  go_wp2_with fail
  go_ret
  have hgq := HQ.out.apart
  refine ⟨rfl, ⟨obj_old (obj_set HQ.out.var), ((take_own HQ.out.own (m := r) (by rw [HN.out, HR.out]; omega)).keepSet _ (fun e => hgq (by injection e with e)) _).keep ((Below.refl _ _).alloc (Nat.le_refl _) _)⟩, ?_⟩
  exact (qf_set w qb 0 _ _).trans (below_qf ((Below.refl _ _).alloc (Nat.le_refl _) _) _ _) (.inl rfl)
theorem hopAssert (x : Hp) (w : World) : (Instr.typeAssert (.iface 162 x.v) 20 162 false).run Try.prog w = .ok x.v w := by kernel_rfl
set_option maxRecDepth 100000 in
theorem qpush_any {B g qb n cap : Nat} {L : List Hp} (x : Hp) (w : World) (h : QAt w B qb (.slice (some ⟨g, 0, none⟩) n cap) L) (hn : L.length = n) (hn1 : n ≤ 100000) (hB : B ≤ w.heap.size) :
    Calls Try.prog 115 #[.pointer (some ⟨qb, 0, none⟩), .iface 162 x.v] w fun e w' => e = .returned (.tuple #[]) ∧ ∃ g' cap', QAt w' B qb (.slice (some ⟨g', 0, none⟩) (n + 1) cap') (L ++ [x]) ∧ QF w w' qb (some g) ∧ (g' = g ∨ w.heap.size ≤ g') := by
  have hc := obj_cell h.var 0
  have hfr := obj_free h.var 0
  simp at hc
  have hgz := (h.own.blk g rfl).2
  have hqz := obj_lt h.var
  have hgq := h.apart
  have HQ := Lib.hid h
  have HN := Lib.hid hn
  have hta := hopAssert x
  have HOW : Hid (∀ W, Below w.heap.size w W → W.ownsRow B 162 3 (.slice (some ⟨g, 0, none⟩) n cap) n (L.map Hp.cs).flatten) := fun W hW => by
    have q := (h.own.keep hW).1
    rw [List.length_map, hn] at q
    exact q
  obtain ⟨i0, hi, hz0, hz1, hz2⟩ := info_parts iHop
  clear h hn
  go_enter Try.func115, Try.ntmps115
  go_wp2_with fail
  go_region_law
    ((refine step_append_lies _ (by rfl) _ _ _ (by rfl) B 162 i0 _ 3 24 uQue hi hz0 hz1 hz2 rfl (by decide) (.slice (some ⟨g, 0, none⟩) n cap) n (L.map Hp.cs).flatten (by rfl) (HOW.out _ (by (repeat (first | with_reducible exact Below.refl _ _ | with_reducible assumption | ((with_reducible refine Below.setCell ?_ ?_ _); rotate_left; focus (first | exact Nat.le_refl _ | omega | exact Below.size (by assumption) | (simp; done) | (simp; omega))) | ((with_reducible refine Below.alloc ?_ ?_ _); rotate_left; focus (first | exact Nat.le_refl _ | omega | exact Below.size (by assumption) | (simp; done) | (simp; omega))) | (with_reducible refine Below.drew ?_) | (with_reducible refine drewN_ ?_ _)))))
        ⟨w.heap.size, 0, none⟩ 1 1 x.cs (by rfl) rfl (World.news_of_block (cs := #[.int .i64 x.dst, .int .i64 x.road, .int .i64 x.len]) (t := 162) (fr := (0, 0)) (obj_last _ _)) (hp_one _)
        (by omega) (by unfold maxLen; omega) (by omega) (by simp; omega) _ rfl ?_
      intro gg cc w1 hown1 hgrow hat hlt1
      have hgrow2 : World.grownBy _ w1 (some g) := hgrow
      have hall : w.grownBy w1 (some g) := (grown_of (by (repeat (first | with_reducible exact Below.refl _ _ | with_reducible assumption | ((with_reducible refine Below.setCell ?_ ?_ _); rotate_left; focus (first | exact Nat.le_refl _ | omega | exact Below.size (by assumption) | (simp; done) | (simp; omega))) | ((with_reducible refine Below.alloc ?_ ?_ _); rotate_left; focus (first | exact Nat.le_refl _ | omega | exact Below.size (by assumption) | (simp; done) | (simp; omega))) | (with_reducible refine Below.drew ?_) | (with_reducible refine drewN_ ?_ _))))).trans hgrow2
      have hc1 := hall.cell_far ⟨qb, 0, none⟩ hqz (fun e => hgq (by injection e with e; exact e.symm))
      have hf1 := hall.frozen_far ⟨qb, 0, none⟩ hqz (fun e => hgq (by injection e with e; exact e.symm))
      rw [hc] at hc1
      rw [hfr] at hf1))
  all_goals
    go_wp2
    go_end0
    have hgg : (gg = g ∨ w.heap.size ≤ gg) ∧ gg ≠ qb := by
      rcases hat with e | e
      · injection e with e; subst e; exact ⟨.inl rfl, hgq⟩
      · simp at e; exact ⟨.inr (by omega), by omega⟩
    have hO : Ow B w1 162 3 (.slice (some ⟨gg, 0, none⟩) (n + 1) cc) ((L ++ [x]).map Hp.cs) := by
      have hl : (L.map Hp.cs).length = n := by rw [List.length_map, HN.out]
      have := Ow.grow (R := L.map Hp.cs) (N := [x.cs]) (m := 1) (by rw [hl]; simpa using hown1) rfl (fun r hr => by obtain ⟨y, _, rfl⟩ := List.mem_map.1 hr; rfl) (fun r hr => by simp at hr; subst hr; rfl)
      simpa using this
    have hv1 : w1.heap[qb]? = some (.cells #[.slice (some ⟨g, 0, none⟩) n cap] 168 (0, 0)) := by
      rw [hall.block qb hqz (fun e => hgq (by injection e with e; exact e.symm))]; exact HQ.out.var
    exact ⟨rfl, gg, cc, ⟨obj_set hv1, hO.keepSet _ (fun e => hgg.2 (by injection e with e)) _⟩, (QF.of_grown hall qb).trans (qf_set _ _ _ _ _) (.inl rfl), hgg.1⟩
end Go.Proofs.Ythkhgfdjdpfoiaa
