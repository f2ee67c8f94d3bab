/-
  network.Reverse, walked: its rows are fresh.
-/
import Derived.Test.YtopfgkbpakfccaaGreatDoorHopA
import Derived.Test.YtopfgkbpakfccaaGreatDoorNetA
import Derived.Deep.RegionHeld3
import Derived.Sort.Grow
import Derived.Test.YtopfgkbpakfccaaGreatDoorMemA
import Derived.Deep.DeepCutAuto
set_option linter.unusedSimpArgs false
set_option linter.unusedVariables false
namespace Go.Proofs.YtopfgkbpakfccaaGreatDoor
open Go Go.RowKit Go.Vi
set_option maxHeartbeats 2000000 in
theorem reverse_own (n : Net) (v1 v2 : Value) (w : World) (hN : NetAt w.heap.size w v1 v2 n) (hsz : n.nodes.length ≤ 1000000) (hsz2 : n.roads.length ≤ 1000000) :
    Calls Tryz.prog 27 #[.agg #[v1, v2]] w fun e w' => (∃ v1' v2', e = .returned (.agg #[v1', v2']) ∧ Ow w.heap.size w' 44 3 v1' (n.nodes.map Nd.cs) ∧ Ow w.heap.size w' 90 6 v2' (n.rev.roads.map Rd.cs)) ∧ Below w.heap.size w w' := by
  have HN := Lib.hid hN
  have HS := Lib.hid hsz
  have HS2 := Lib.hid hsz2
  clear hN hsz hsz2
  go_enter Tryz.func27, Tryz.ntmps27
  go_upto_region 1 with fail
  go_cut [3] (fun s3 wx => ∃ g a1 n1 c1 a2 n2 c2, s3 = .pointer (some ⟨g, 0, none⟩) ∧ Hid (RevMid w n g (.slice a1 n1 c1) (.slice a2 n2 c2) (n.roads.map Rd.cs) wx))
  case first =>
    have SOF : Hid (∀ w' : World, Below (w.heap.size + 2) ((w.alloc (.cells #[v1, v2] 30)).alloc (.cells #[.slice none 0 0, .slice none 0 0] 30)) w' → w'.cell? ⟨w.heap.size, 0, none⟩ = some v1 ∧ w'.cell? ⟨w.heap.size, 1, none⟩ = some v2) :=
      fun w' h => ⟨by rw [h.cell (by simp)]; simp, by rw [h.cell (by simp)]; simp⟩
    have SR : Hid (∀ w' : World, Below (w.heap.size + 2) ((w.alloc (.cells #[v1, v2] 30)).alloc (.cells #[.slice none 0 0, .slice none 0 0] 30)) w' → w'.heap[w.heap.size + 1]? = some (.cells #[.slice none 0 0, .slice none 0 0] 30)) :=
      fun w' h => by rw [h.block _ (by omega)]; have q := obj_last (w.alloc (.cells #[v1, v2] 30)) (.cells #[.slice none 0 0, .slice none 0 0] 30); simpa using q
    have FW : Hid (∀ W W1 : World, Below W.heap.size W W1 → Below (w.heap.size + 2) ((w.alloc (.cells #[v1, v2] 30)).alloc (.cells #[.slice none 0 0, .slice none 0 0] 30)) W → w.heap.size + 2 ≤ W.heap.size → Below (w.heap.size + 2) ((w.alloc (.cells #[v1, v2] 30)).alloc (.cells #[.slice none 0 0, .slice none 0 0] 30)) W1) := fun W W1 h2 h hN => h.trans (h2.mono hN)
    go_region_held3 (fun w' => w'.cell? ⟨w.heap.size, 0, none⟩ = some v1 ∧ w'.cell? ⟨w.heap.size, 1, none⟩ = some v2) (exact SOF.out _ (by (repeat (first | with_reducible exact Below.refl _ _ | with_reducible assumption | ((with_reducible refine Below.setCell ?_ ?_ _); rotate_left; focus (first | exact Nat.le_refl _ | omega | exact Below.size (by assumption) | (simp; done) | (simp; omega))) | ((with_reducible refine Below.alloc ?_ ?_ _); rotate_left; focus (first | exact Nat.le_refl _ | omega | exact Below.size (by assumption) | (simp; done) | (simp; omega))) | (with_reducible refine Below.drew ?_) | (with_reducible refine drewN_ ?_ _)))))
      (first
        | (go_at_call 68; refine (cloneNode_any n.nodes _ _ (HN.out.1.later (by (repeat (first | with_reducible exact Below.refl _ _ | with_reducible assumption | ((with_reducible refine Below.setCell ?_ ?_ _); rotate_left; focus (first | exact Nat.le_refl _ | omega | exact Below.size (by assumption) | (simp; done) | (simp; omega))) | ((with_reducible refine Below.alloc ?_ ?_ _); rotate_left; focus (first | exact Nat.le_refl _ | omega | exact Below.size (by assumption) | (simp; done) | (simp; omega))) | (with_reducible refine Below.drew ?_) | (with_reducible refine drewN_ ?_ _))))) HS.out).mono ?_; rintro e w1 ⟨⟨v1', rfl, ho1⟩, hb1⟩; obtain ⟨a1, n1, c1, rfl⟩ := ho1.val; have z1 := hb1.size; simp at z1; have hB1 := from_ (w := w) hb1 (by (repeat (first | with_reducible exact Below.refl _ _ | with_reducible assumption | ((with_reducible refine Below.setCell ?_ ?_ _); rotate_left; focus (first | exact Nat.le_refl _ | omega | exact Below.size (by assumption) | (simp; done) | (simp; omega))) | ((with_reducible refine Below.alloc ?_ ?_ _); rotate_left; focus (first | exact Nat.le_refl _ | omega | exact Below.size (by assumption) | (simp; done) | (simp; omega))) | (with_reducible refine Below.drew ?_) | (with_reducible refine drewN_ ?_ _)))); have hD1 := FW.out _ _ hb1 (by (repeat (first | with_reducible exact Below.refl _ _ | with_reducible assumption | ((with_reducible refine Below.setCell ?_ ?_ _); rotate_left; focus (first | exact Nat.le_refl _ | omega | exact Below.size (by assumption) | (simp; done) | (simp; omega))) | ((with_reducible refine Below.alloc ?_ ?_ _); rotate_left; focus (first | exact Nat.le_refl _ | omega | exact Below.size (by assumption) | (simp; done) | (simp; omega))) | (with_reducible refine Below.drew ?_) | (with_reducible refine drewN_ ?_ _)))) (by first | exact Nat.le_refl _ | omega | exact Below.size (by assumption) | (simp; done) | (simp; omega)); have q1 := keepObj hb1 (obj_last _ _); simp at q1; have q2 := obj_cell q1; have q3 := obj_free q1; have HB1 := Lib.hid hb1; clear hb1)
        | (go_at_call 69; refine (cloneRoad_any n.roads _ _ (HN.out.2.later (by (repeat (first | with_reducible exact Below.refl _ _ | with_reducible assumption | ((with_reducible refine Below.setCell ?_ ?_ _); rotate_left; focus (first | exact Nat.le_refl _ | omega | exact Below.size (by assumption) | (simp; done) | (simp; omega))) | ((with_reducible refine Below.alloc ?_ ?_ _); rotate_left; focus (first | exact Nat.le_refl _ | omega | exact Below.size (by assumption) | (simp; done) | (simp; omega))) | (with_reducible refine Below.drew ?_) | (with_reducible refine drewN_ ?_ _))))) HS2.out).mono ?_; rintro e w2 ⟨⟨v2', rfl, ho2⟩, hb2⟩; obtain ⟨a2, n2, c2, rfl⟩ := ho2.val; have z2 := hb2.size; (try simp at z2); have hB2 := from_ (w := w) hb2 (by (repeat (first | with_reducible exact Below.refl _ _ | with_reducible assumption | ((with_reducible refine Below.setCell ?_ ?_ _); rotate_left; focus (first | exact Nat.le_refl _ | omega | exact Below.size (by assumption) | (simp; done) | (simp; omega))) | ((with_reducible refine Below.alloc ?_ ?_ _); rotate_left; focus (first | exact Nat.le_refl _ | omega | exact Below.size (by assumption) | (simp; done) | (simp; omega))) | (with_reducible refine Below.drew ?_) | (with_reducible refine drewN_ ?_ _)))); have hE2 := from_ (w := w1) hb2 (by (repeat (first | with_reducible exact Below.refl _ _ | with_reducible assumption | ((with_reducible refine Below.setCell ?_ ?_ _); rotate_left; focus (first | exact Nat.le_refl _ | omega | exact Below.size (by assumption) | (simp; done) | (simp; omega))) | ((with_reducible refine Below.alloc ?_ ?_ _); rotate_left; focus (first | exact Nat.le_refl _ | omega | exact Below.size (by assumption) | (simp; done) | (simp; omega))) | (with_reducible refine Below.drew ?_) | (with_reducible refine drewN_ ?_ _)))); have hD2 := FW.out _ _ hb2 (by (repeat (first | with_reducible exact Below.refl _ _ | with_reducible assumption | ((with_reducible refine Below.setCell ?_ ?_ _); rotate_left; focus (first | exact Nat.le_refl _ | omega | exact Below.size (by assumption) | (simp; done) | (simp; omega))) | ((with_reducible refine Below.alloc ?_ ?_ _); rotate_left; focus (first | exact Nat.le_refl _ | omega | exact Below.size (by assumption) | (simp; done) | (simp; omega))) | (with_reducible refine Below.drew ?_) | (with_reducible refine drewN_ ?_ _)))) (by first | exact Nat.le_refl _ | omega | exact Below.size (by assumption) | (simp; done) | (simp; omega)); (first | have r1 := keepObj hb2 (obj_last _ _) | have r1 := keepObj hb2 q1); (try simp at r1); have r2 := obj_cell r1; have r3 := obj_free r1; have HB2 := Lib.hid hb2; clear hb2))
    · go_wp2_with fail
      go_meet
      have o1 := (ho1.mono (B' := w.heap.size + 2) (by first | exact Nat.le_refl _ | omega | exact Below.size (by assumption) | (simp; done) | (simp; omega))).keep hE2
      have o2 := ho2.mono (B' := w.heap.size + 2) (by first | exact Nat.le_refl _ | omega | exact Below.size (by assumption) | (simp; done) | (simp; omega))
      refine ⟨w2.heap.size, a1, n1, c1, a2, n2, c2, rfl, obj_last _ _, SR.out _ (by (repeat (first | with_reducible exact Below.refl _ _ | with_reducible assumption | ((with_reducible refine Below.setCell ?_ ?_ _); rotate_left; focus (first | exact Nat.le_refl _ | omega | exact Below.size (by assumption) | (simp; done) | (simp; omega))) | ((with_reducible refine Below.alloc ?_ ?_ _); rotate_left; focus (first | exact Nat.le_refl _ | omega | exact Below.size (by assumption) | (simp; done) | (simp; omega))) | (with_reducible refine Below.drew ?_) | (with_reducible refine drewN_ ?_ _)))), (by first | exact Nat.le_refl _ | omega | exact Below.size (by assumption) | (simp; done) | (simp; omega)), o1.keep (by (repeat (first | with_reducible exact Below.refl _ _ | with_reducible assumption | ((with_reducible refine Below.setCell ?_ ?_ _); rotate_left; focus (first | exact Nat.le_refl _ | omega | exact Below.size (by assumption) | (simp; done) | (simp; omega))) | ((with_reducible refine Below.alloc ?_ ?_ _); rotate_left; focus (first | exact Nat.le_refl _ | omega | exact Below.size (by assumption) | (simp; done) | (simp; omega))) | (with_reducible refine Below.drew ?_) | (with_reducible refine drewN_ ?_ _)))), o2.keep (by (repeat (first | with_reducible exact Below.refl _ _ | with_reducible assumption | ((with_reducible refine Below.setCell ?_ ?_ _); rotate_left; focus (first | exact Nat.le_refl _ | omega | exact Below.size (by assumption) | (simp; done) | (simp; omega))) | ((with_reducible refine Below.alloc ?_ ?_ _); rotate_left; focus (first | exact Nat.le_refl _ | omega | exact Below.size (by assumption) | (simp; done) | (simp; omega))) | (with_reducible refine Below.drew ?_) | (with_reducible refine drewN_ ?_ _)))), fun b hb => ?_, (by (repeat (first | with_reducible exact Below.refl _ _ | with_reducible assumption | ((with_reducible refine Below.setCell ?_ ?_ _); rotate_left; focus (first | exact Nat.le_refl _ | omega | exact Below.size (by assumption) | (simp; done) | (simp; omega))) | ((with_reducible refine Below.alloc ?_ ?_ _); rotate_left; focus (first | exact Nat.le_refl _ | omega | exact Below.size (by assumption) | (simp; done) | (simp; omega))) | (with_reducible refine Below.drew ?_) | (with_reducible refine drewN_ ?_ _))))⟩
      have x1 := ho2.blk b hb
      refine ⟨by omega, fun h => ?_, by (try simp at x1); omega⟩
      have x2 := ho1.blk b h
      (try simp at x1 x2); omega
    · go_wp2_with fail
      go_meet
      have o1 := (ho1.mono (B' := w.heap.size + 2) (by first | exact Nat.le_refl _ | omega | exact Below.size (by assumption) | (simp; done) | (simp; omega))).keep hE2
      have o2 := ho2.mono (B' := w.heap.size + 2) (by first | exact Nat.le_refl _ | omega | exact Below.size (by assumption) | (simp; done) | (simp; omega))
      have y2 : ∀ b, (Value.slice a2 n2 c2).ownBlock = some b → b ≠ w1.heap.size ∧ (Value.slice a1 n1 c1).ownBlock ≠ some b ∧ w.heap.size + 2 ≤ b := fun b hb => by
        have x1 := ho2.blk b hb
        simp at x1
        refine ⟨by omega, fun h => ?_, by omega⟩
        have x2 := ho1.blk b h
        simp at x2; omega
      have y1 : ∀ b, (Value.slice a1 n1 c1).ownBlock = some b → b ≠ w1.heap.size := fun b hb => by have := ho1.blk b hb; simp at this; omega
      refine ⟨w1.heap.size, a1, n1, c1, a2, n2, c2, rfl, obj_set (obj_set r1), SR.out _ (by (repeat (first | with_reducible exact Below.refl _ _ | with_reducible assumption | ((with_reducible refine Below.setCell ?_ ?_ _); rotate_left; focus (first | exact Nat.le_refl _ | omega | exact Below.size (by assumption) | (simp; done) | (simp; omega))) | ((with_reducible refine Below.alloc ?_ ?_ _); rotate_left; focus (first | exact Nat.le_refl _ | omega | exact Below.size (by assumption) | (simp; done) | (simp; omega))) | (with_reducible refine Below.drew ?_) | (with_reducible refine drewN_ ?_ _)))), (by first | exact Nat.le_refl _ | omega | exact Below.size (by assumption) | (simp; done) | (simp; omega)), (o1.keepSet _ ?_ _).keepSet _ ?_ _, (o2.keepSet _ ?_ _).keepSet _ ?_ _, y2, (by (repeat (first | with_reducible exact Below.refl _ _ | with_reducible assumption | ((with_reducible refine Below.setCell ?_ ?_ _); rotate_left; focus (first | exact Nat.le_refl _ | omega | exact Below.size (by assumption) | (simp; done) | (simp; omega))) | ((with_reducible refine Below.alloc ?_ ?_ _); rotate_left; focus (first | exact Nat.le_refl _ | omega | exact Below.size (by assumption) | (simp; done) | (simp; omega))) | (with_reducible refine Below.drew ?_) | (with_reducible refine drewN_ ?_ _))))⟩
      · exact fun h => (y1 _ h rfl)
      · exact fun h => (y1 _ h rfl)
      · exact fun h => ((y2 _ h).1 rfl)
      · exact fun h => ((y2 _ h).1 rfl)
    · go_wp2_with fail
      go_meet
      have o1 := (ho1.mono (B' := w.heap.size + 2) (by first | exact Nat.le_refl _ | omega | exact Below.size (by assumption) | (simp; done) | (simp; omega))).keep hE2
      have o2 := ho2.mono (B' := w.heap.size + 2) (by first | exact Nat.le_refl _ | omega | exact Below.size (by assumption) | (simp; done) | (simp; omega))
      have y2 : ∀ b, (Value.slice a2 n2 c2).ownBlock = some b → b ≠ w.heap.size + 1 + 1 ∧ (Value.slice a1 n1 c1).ownBlock ≠ some b ∧ w.heap.size + 2 ≤ b := fun b hb => by
        have x1 := ho2.blk b hb
        refine ⟨by omega, fun h => ?_, by omega⟩
        have x2 := ho1.blk b h
        omega
      have y1 : ∀ b, (Value.slice a1 n1 c1).ownBlock = some b → b ≠ w.heap.size + 1 + 1 := fun b hb => by have := ho1.blk b hb; simp at this; omega
      refine ⟨w.heap.size + 1 + 1, a1, n1, c1, a2, n2, c2, rfl, obj_set (obj_set r1), SR.out _ (by (repeat (first | with_reducible exact Below.refl _ _ | with_reducible assumption | ((with_reducible refine Below.setCell ?_ ?_ _); rotate_left; focus (first | exact Nat.le_refl _ | omega | exact Below.size (by assumption) | (simp; done) | (simp; omega))) | ((with_reducible refine Below.alloc ?_ ?_ _); rotate_left; focus (first | exact Nat.le_refl _ | omega | exact Below.size (by assumption) | (simp; done) | (simp; omega))) | (with_reducible refine Below.drew ?_) | (with_reducible refine drewN_ ?_ _)))), (by first | exact Nat.le_refl _ | omega | exact Below.size (by assumption) | (simp; done) | (simp; omega)), (o1.keepSet _ ?_ _).keepSet _ ?_ _, (o2.keepSet _ ?_ _).keepSet _ ?_ _, y2, (by (repeat (first | with_reducible exact Below.refl _ _ | with_reducible assumption | ((with_reducible refine Below.setCell ?_ ?_ _); rotate_left; focus (first | exact Nat.le_refl _ | omega | exact Below.size (by assumption) | (simp; done) | (simp; omega))) | ((with_reducible refine Below.alloc ?_ ?_ _); rotate_left; focus (first | exact Nat.le_refl _ | omega | exact Below.size (by assumption) | (simp; done) | (simp; omega))) | (with_reducible refine Below.drew ?_) | (with_reducible refine drewN_ ?_ _))))⟩
      · exact fun h => (y1 _ h rfl)
      · exact fun h => (y1 _ h rfl)
      · exact fun h => ((y2 _ h).1 rfl)
      · exact fun h => ((y2 _ h).1 rfl)
  case rest =>
    obtain ⟨g, a1, n1, c1, a2, n2, c2, rfl, hM⟩ := hcut
    have m0 := obj_cell hM.out.obj 1
    simp at m0
    have hlen : n.roads.length = n2 := by have := hM.out.own2.sl.len; simpa using this
    have HL := Lib.hid hlen
    have hn2 : n2 ≤ 1000000 := by rw [← hlen]; exact HS2.out
    clear hlen
    go_wp2
    clear m0
    go_loopw [16] (fun s16 wr => ∃ k : Nat, s16 = .int .i64 k ∧ k ≤ n2 ∧ Hid (RevMid w n g (.slice a1 n1 c1) (.slice a2 n2 c2) (revRows n.roads k) wr)) (fun s16 _ => n2 - (intOf s16).toNat)
    case atStart => exact ⟨0, rfl, Nat.zero_le _, by show RevMid _ _ _ _ _ _ _; simpa [revRows] using hM.out⟩
    case round =>
      clear hM
      obtain ⟨k, rfl, hk, hM⟩ := hrel
      have m0 := obj_cell hM.out.obj 0
      have m1 := obj_cell hM.out.obj 1
      have mf := obj_free hM.out.obj
      have mz := obj_lt hM.out.obj
      simp at m0 m1
      by_cases hlt : k < n2
      · have hkl : k < n.roads.length := by rw [HL.out]; exact hlt
        have hkr : k < (revRows n.roads k).length := by rw [revRows_len]; exact hkl
        rcases hM.out.own2.shape with ⟨h1, h2⟩ | ⟨gr, cap, h1, h2, h3, h4⟩
        · rw [h2] at hkr; simp at hkr
        · rw [revRows_len, HL.out] at h1
          injection h1 with e1 e2 e3
          subst e1
          have hrow := revRows_at hkl
          have hc := fun c hc => hM.out.own2.cell k hkr c hc
          rw [hrow] at hc
          have d0 := hc 0 (by omega); have d1 := hc 1 (by omega); have d2 := hc 2 (by omega); have d3 := hc 3 (by omega); have d4 := hc 4 (by omega); have d5 := hc 5 (by omega)
          have hf := hM.out.own2.free
          have hgr := hM.out.apart gr rfl
          have hne : gr ≠ g := hgr.1
          clear hc hrow e2 e3
          generalize hx : n.roads[k]! = x at d0 d1 d2 d3 d4 d5
          have HX := Lib.hid hx
          clear hx hgr
          simp only [Rd.cs, List.getElem?_cons_zero, List.getElem?_cons_succ, Nat.add_zero] at d0 d1 d2 d3 d4 d5
          go_wp2
          go_region
          go_wp2
          go_roundw
          case rel =>
            have o1 := hM.out.own1
            have o2 := hM.out.own2
            have hb := hM.out.below
            have hz := hb.size
            have hg1 : (Value.slice a1 n1 c1).ownBlock ≠ some gr := (hM.out.apart gr rfl).2.1
            have hk2 : w.heap.size + 1 ≠ gr := by have := (hM.out.apart gr rfl).2.2; omega
            refine ⟨k + 1, by go_num, by omega, ⟨?_, ?_, hM.out.low, ?_, ?_, hM.out.apart, ?_⟩⟩
            · exact obj_old (obj_setOther (obj_setOther hM.out.obj (a := ⟨gr, k * 6 + 1, none⟩) (Ne.symm hne)) (a := ⟨gr, k * 6 + 2, none⟩) (Ne.symm hne))
            · exact obj_old (obj_setOther (obj_setOther hM.out.res (a := ⟨gr, k * 6 + 1, none⟩) hk2) (a := ⟨gr, k * 6 + 2, none⟩) hk2)
            · exact ((o1.keepSet _ hg1 _).keepSet _ hg1 _).keep (by (repeat (first | with_reducible exact Below.refl _ _ | with_reducible assumption | ((with_reducible refine Below.setCell ?_ ?_ _); rotate_left; focus (first | exact Nat.le_refl _ | omega | exact Below.size (by assumption) | (simp; done) | (simp; omega))) | ((with_reducible refine Below.alloc ?_ ?_ _); rotate_left; focus (first | exact Nat.le_refl _ | omega | exact Below.size (by assumption) | (simp; done) | (simp; omega))) | (with_reducible refine Below.drew ?_) | (with_reducible refine drewN_ ?_ _))))
            · have q := (o2.store2 k hkr 1 2 (by decide) (by decide) (.int .i64 x.dst) (.int .i64 x.src))
              rw [revRows_at hkl, HX.out] at q
              have e := revRows_step hkl
              rw [HX.out] at e
              rw [show (x.cs.set 1 (.int .i64 x.dst)).set 2 (.int .i64 x.src) = x.rev.cs from rfl, e] at q
              exact q.keep (by (repeat (first | with_reducible exact Below.refl _ _ | with_reducible assumption | ((with_reducible refine Below.setCell ?_ ?_ _); rotate_left; focus (first | exact Nat.le_refl _ | omega | exact Below.size (by assumption) | (simp; done) | (simp; omega))) | ((with_reducible refine Below.alloc ?_ ?_ _); rotate_left; focus (first | exact Nat.le_refl _ | omega | exact Below.size (by assumption) | (simp; done) | (simp; omega))) | (with_reducible refine Below.drew ?_) | (with_reducible refine drewN_ ?_ _))))
            · have hk3 : w.heap.size ≤ gr := by have := (hM.out.apart gr rfl).2.2; omega
              (repeat (first | with_reducible exact Below.refl _ _ | with_reducible assumption | ((with_reducible refine Below.setCell ?_ ?_ _); rotate_left; focus (first | exact Nat.le_refl _ | omega | exact Below.size (by assumption) | (simp; done) | (simp; omega))) | ((with_reducible refine Below.alloc ?_ ?_ _); rotate_left; focus (first | exact Nat.le_refl _ | omega | exact Below.size (by assumption) | (simp; done) | (simp; omega))) | (with_reducible refine Below.drew ?_) | (with_reducible refine drewN_ ?_ _)))
          case measure => simp [intOf]; omega
      · obtain rfl : k = n2 := by omega
        have r0 := obj_cell hM.out.res 0
        have r1 := obj_cell hM.out.res 1
        have rf := obj_free hM.out.res
        have rz := obj_lt hM.out.res
        simp at r0 r1
        go_wp2
        refine bodyPost_ret (v := .agg #[.slice a1 n1 c1, .slice a2 k c2]) ?_ rfl ?_
        · simp [results, Tryz.results27, go_sem, rf, r0, r1]
        · refine ⟨⟨_, _, rfl, ?_, ?_⟩, by have h := hM.out.below; (repeat (first | with_reducible exact Below.refl _ _ | with_reducible assumption | ((with_reducible refine Below.setCell ?_ ?_ _); rotate_left; focus (first | exact Nat.le_refl _ | omega | exact Below.size (by assumption) | (simp; done) | (simp; omega))) | ((with_reducible refine Below.alloc ?_ ?_ _); rotate_left; focus (first | exact Nat.le_refl _ | omega | exact Below.size (by assumption) | (simp; done) | (simp; omega))) | (with_reducible refine Below.drew ?_) | (with_reducible refine drewN_ ?_ _)))⟩
          · have hb1 : (Value.slice a1 n1 c1).ownBlock ≠ some (w.heap.size + 1) := fun h => by have := hM.out.own1.blk _ h; omega
            exact ((hM.out.own1.keepSet ⟨w.heap.size + 1, 0, none⟩ hb1 (.slice a1 n1 c1)).keepSet ⟨w.heap.size + 1, 1, none⟩ hb1 (.slice a2 k c2)).mono (by omega)
          · have hb2 : (Value.slice a2 k c2).ownBlock ≠ some (w.heap.size + 1) := fun h => by have := hM.out.own2.blk _ h; omega
            have e : revRows n.roads k = n.rev.roads.map Rd.cs := by
              unfold revRows
              rw [List.take_of_length_le (by rw [HL.out]; exact Nat.le_refl _), List.drop_eq_nil_of_le (by rw [HL.out]; exact Nat.le_refl _), List.append_nil]; rfl
            rw [← e]
            exact ((hM.out.own2.keepSet ⟨w.heap.size + 1, 0, none⟩ hb2 (.slice a1 n1 c1)).keepSet ⟨w.heap.size + 1, 1, none⟩ hb2 (.slice a2 k c2)).mono (by omega)
end Go.Proofs.YtopfgkbpakfccaaGreatDoor
