/-
  network.Check, walked: the first error of a network.
-/
import Derived.Test.YtmplajpbmojkkaaGreatNetA
set_option linter.unusedSimpArgs false
set_option linter.unusedVariables false
namespace Go.Proofs.YtmplajpbmojkkaaGreat
open Go Go.RowKit Go.Vi
theorem id_any (a b : Int) (w : World) : Calls Tryz.prog 50 #[.int .i64 a, .int .i64 b] w fun e w' => e = .returned (.int .i64 (idErr a b)) ∧ w = w' := by
  go_enter Tryz.func50, Tryz.ntmps50
  go_wp2
  all_goals go_ret
  all_goals unfold idErr
  · rw [if_pos ‹_›]; exact ⟨rfl, rfl⟩
  · have h : (a == b) = true := ‹_›
    rw [if_neg (by omega), if_pos (by simpa using h)]; exact ⟨rfl, rfl⟩
  · have h : (a == b) = false := ‹_›
    rw [if_neg (by omega), if_neg (by simpa using h), if_pos ‹_›]; exact ⟨rfl, rfl⟩
  · have h : (a == b) = false := ‹_›
    rw [if_neg (by omega), if_neg (by simpa using h), if_neg (by omega)]; exact ⟨rfl, rfl⟩
  · rw [if_pos (by omega)]; exact ⟨rfl, rfl⟩
theorem wide_any (a : Int) (w : World) : Calls Tryz.prog 51 #[.int .i64 a] w fun e w' => e = .returned (.bool (wideB a)) ∧ w = w' := by
  go_enter Tryz.func51, Tryz.ntmps51
  by_cases h : a < -1048576
  · go_wp2
    go_ret
    exact ⟨by simp [wideB, h], rfl⟩
  · have h' : decide (a < -1048576) = false := by simpa using h
    go_wp2
    go_ret
    exact ⟨by simp only [wideB, h', Bool.false_or]; rfl, rfl⟩
set_option maxHeartbeats 1000000 in
theorem checkRoad_any (n : Net) (v1 v2 : Value) (r : Rd) (w : World) (hN : NetAt w.heap.size w v1 v2 n) (hs : SrtN n.nodes) (hsz : n.nodes.length ≤ 1000000) (hnear : ∀ id, Near ((nodeOf n.nodes id).getD nd0)) :
    Calls Tryz.prog 52 #[.agg #[v1, v2], r.v] w fun e w' => e = .returned (.int .i64 (roadErr n.nodes r)) ∧ Below w.heap.size w w' := by
  have ha := hnear r.src
  have hb := hnear r.dst
  unfold Near at ha hb
  generalize hA : nodeOf n.nodes r.src = A at ha
  generalize hB : nodeOf n.nodes r.dst = B at hb
  obtain ⟨x, hx⟩ : ∃ x, A.getD nd0 = x := ⟨_, rfl⟩
  obtain ⟨y, hy⟩ : ∃ y, B.getD nd0 = y := ⟨_, rfl⟩
  rw [hx] at ha
  rw [hy] at hb
  have hR : roadErr n.nodes r = if A.isSome = false ∨ B.isSome = false then 9 else if r.src = r.dst then 17 else if r.lim < 1 ∨ 1048576 < r.lim ∨ r.len < 1 ∨ 1073741824 < r.len ∨ r.len * r.len < (x.x - y.x) * (x.x - y.x) + (x.y - y.y) * (x.y - y.y) then 2 else 0 := by
    unfold roadErr; rw [hA, hB, hx, hy]
  have HN := Lib.hid hN
  have Hs := Lib.hid hs
  have HS := Lib.hid hsz
  have HA := Lib.hid hA
  have HB := Lib.hid hB
  have HX := Lib.hid hx
  have HY := Lib.hid hy
  have HR := Lib.hid hR
  obtain ⟨ha1, ha2, ha3, ha4⟩ := ha
  obtain ⟨hb1, hb2, hb3, hb4⟩ := hb
  have q1 : IntKind.i64.wrap (x.x - y.x) = x.x - y.x := IntWalk.i64_in _ (by omega)
  have q2 : IntKind.i64.wrap (x.y - y.y) = x.y - y.y := IntWalk.i64_in _ (by omega)
  have p1 : 0 ≤ (x.x - y.x) * (x.x - y.x) ∧ (x.x - y.x) * (x.x - y.x) ≤ 4398046511104 := sq_le _ 2097152 (by omega) (by omega)
  have p2 : 0 ≤ (x.y - y.y) * (x.y - y.y) ∧ (x.y - y.y) * (x.y - y.y) ≤ 4398046511104 := sq_le _ 2097152 (by omega) (by omega)
  have HP := Lib.hid (And.intro p1 p2)
  clear hN hs hsz hA hB hx hy hnear hR p1 p2
  go_enter Tryz.func52, Tryz.ntmps52
  go_wp2_with fail
  refine (node_any n _ _ _ _ (HN.out.later ?hn1) Hs.out HS.out).mono ?_
  case hn1 => (repeat (first | with_reducible exact Below.refl _ _ | with_reducible assumption | ((with_reducible refine Below.setCell ?_ ?_ _); rotate_left; focus (first | exact Nat.le_refl _ | omega | exact Below.size (by assumption) | (simp; done) | (simp; omega))) | ((with_reducible refine Below.alloc ?_ ?_ _); rotate_left; focus (first | exact Nat.le_refl _ | omega | exact Below.size (by assumption) | (simp; done) | (simp; omega))) | (with_reducible refine Below.drew ?_) | (with_reducible refine drewN_ ?_ _)))
  rintro e w1 ⟨rfl, hb1⟩
  rw [HA.out, HX.out]
  have HB1 := Lib.hid (from_ (w := w) hb1 (by (repeat (first | with_reducible exact Below.refl _ _ | with_reducible assumption | ((with_reducible refine Below.setCell ?_ ?_ _); rotate_left; focus (first | exact Nat.le_refl _ | omega | exact Below.size (by assumption) | (simp; done) | (simp; omega))) | ((with_reducible refine Below.alloc ?_ ?_ _); rotate_left; focus (first | exact Nat.le_refl _ | omega | exact Below.size (by assumption) | (simp; done) | (simp; omega))) | (with_reducible refine Below.drew ?_) | (with_reducible refine drewN_ ?_ _)))))
  have hz1 := hb1.size
  simp at hz1
  have hz1_0 : w.heap.size < w1.heap.size := by omega
  have hz1_1 : w.heap.size + 1 < w1.heap.size := by omega
  obtain ⟨hc1, hf1⟩ := bcell hb1
  clear hb1
  go_wp2_with fail
  refine (node_any n _ _ _ _ (HN.out.later ?hn2) Hs.out HS.out).mono ?_
  case hn2 => have hB := HB1.out; (repeat (first | with_reducible exact Below.refl _ _ | with_reducible assumption | ((with_reducible refine Below.setCell ?_ ?_ _); rotate_left; focus (first | exact Nat.le_refl _ | omega | exact Below.size (by assumption) | (simp; done) | (simp; omega))) | ((with_reducible refine Below.alloc ?_ ?_ _); rotate_left; focus (first | exact Nat.le_refl _ | omega | exact Below.size (by assumption) | (simp; done) | (simp; omega))) | (with_reducible refine Below.drew ?_) | (with_reducible refine drewN_ ?_ _)))
  rintro e w2 ⟨rfl, hb2⟩
  rw [HB.out, HY.out]
  have HB2 := Lib.hid (from_ (w := w) hb2 (by have hB := HB1.out; (repeat (first | with_reducible exact Below.refl _ _ | with_reducible assumption | ((with_reducible refine Below.setCell ?_ ?_ _); rotate_left; focus (first | exact Nat.le_refl _ | omega | exact Below.size (by assumption) | (simp; done) | (simp; omega))) | ((with_reducible refine Below.alloc ?_ ?_ _); rotate_left; focus (first | exact Nat.le_refl _ | omega | exact Below.size (by assumption) | (simp; done) | (simp; omega))) | (with_reducible refine Below.drew ?_) | (with_reducible refine drewN_ ?_ _)))))
  have hz2 := hb2.size
  simp at hz2
  have hz2_0 : w.heap.size < w2.heap.size := by omega
  have hz2_1 : w.heap.size + 1 < w2.heap.size := by omega
  have hz2_2 : w1.heap.size < w2.heap.size := by omega
  obtain ⟨hc2, hf2⟩ := bcell hb2
  clear hb2
  go_wp2_with fail
  go_quiet (fail)
  cases hA : A.isSome
  · go_wp2
    go_ret
    exact ⟨by rw [HR.out, if_pos (Or.inl hA)]; rfl, by have hB := HB2.out; (repeat (first | with_reducible exact Below.refl _ _ | with_reducible assumption | ((with_reducible refine Below.setCell ?_ ?_ _); rotate_left; focus (first | exact Nat.le_refl _ | omega | exact Below.size (by assumption) | (simp; done) | (simp; omega))) | ((with_reducible refine Below.alloc ?_ ?_ _); rotate_left; focus (first | exact Nat.le_refl _ | omega | exact Below.size (by assumption) | (simp; done) | (simp; omega))) | (with_reducible refine Below.drew ?_) | (with_reducible refine drewN_ ?_ _)))⟩
  · cases hB : B.isSome
    · go_wp2
      go_ret
      exact ⟨by rw [HR.out, if_pos (Or.inr hB)]; rfl, by have hB := HB2.out; (repeat (first | with_reducible exact Below.refl _ _ | with_reducible assumption | ((with_reducible refine Below.setCell ?_ ?_ _); rotate_left; focus (first | exact Nat.le_refl _ | omega | exact Below.size (by assumption) | (simp; done) | (simp; omega))) | ((with_reducible refine Below.alloc ?_ ?_ _); rotate_left; focus (first | exact Nat.le_refl _ | omega | exact Below.size (by assumption) | (simp; done) | (simp; omega))) | (with_reducible refine Below.drew ?_) | (with_reducible refine drewN_ ?_ _)))⟩
    · have HR2 : Hid (roadErr n.nodes r = if r.src = r.dst then 17 else if r.lim < 1 ∨ 1048576 < r.lim ∨ r.len < 1 ∨ 1073741824 < r.len ∨ r.len * r.len < (x.x - y.x) * (x.x - y.x) + (x.y - y.y) * (x.y - y.y) then 2 else 0) := by
        show roadErr n.nodes r = _
        rw [HR.out, if_neg (by simp [hA, hB])]
      by_cases hc : r.lim < 1 ∨ 1048576 < r.lim ∨ r.len < 1 ∨ 1073741824 < r.len
      · go_wp2
        · go_ret
          have he : (r.src == r.dst) = true := ‹_›
          exact ⟨by rw [HR2.out, if_pos (by simpa using he)]; rfl, by have hB := HB2.out; (repeat (first | with_reducible exact Below.refl _ _ | with_reducible assumption | ((with_reducible refine Below.setCell ?_ ?_ _); rotate_left; focus (first | exact Nat.le_refl _ | omega | exact Below.size (by assumption) | (simp; done) | (simp; omega))) | ((with_reducible refine Below.alloc ?_ ?_ _); rotate_left; focus (first | exact Nat.le_refl _ | omega | exact Below.size (by assumption) | (simp; done) | (simp; omega))) | (with_reducible refine Below.drew ?_) | (with_reducible refine drewN_ ?_ _)))⟩
        all_goals
          go_ret
          have he : (r.src == r.dst) = false := ‹_›
          exact ⟨by rw [HR2.out, if_neg (by simpa using he), if_pos (by omega)]; rfl, by have hB := HB2.out; (repeat (first | with_reducible exact Below.refl _ _ | with_reducible assumption | ((with_reducible refine Below.setCell ?_ ?_ _); rotate_left; focus (first | exact Nat.le_refl _ | omega | exact Below.size (by assumption) | (simp; done) | (simp; omega))) | ((with_reducible refine Below.alloc ?_ ?_ _); rotate_left; focus (first | exact Nat.le_refl _ | omega | exact Below.size (by assumption) | (simp; done) | (simp; omega))) | (with_reducible refine Below.drew ?_) | (with_reducible refine drewN_ ?_ _)))⟩
      · have h1 : 1 ≤ r.lim := by omega
        have h2 : r.lim ≤ 1048576 := by omega
        have h3 : 1 ≤ r.len := by omega
        have h4 : r.len ≤ 1073741824 := by omega
        have h5 : 0 ≤ r.len * r.len ∧ r.len * r.len ≤ 1152921504606846976 := sq_le _ 1073741824 (by omega) (by omega)
        obtain ⟨⟨g1, g2⟩, g3, g4⟩ := HP.out
        go_wp2
        · go_ret
          have he : (r.src == r.dst) = true := ‹_›
          exact ⟨by rw [HR2.out, if_pos (by simpa using he)]; rfl, by have hB := HB2.out; (repeat (first | with_reducible exact Below.refl _ _ | with_reducible assumption | ((with_reducible refine Below.setCell ?_ ?_ _); rotate_left; focus (first | exact Nat.le_refl _ | omega | exact Below.size (by assumption) | (simp; done) | (simp; omega))) | ((with_reducible refine Below.alloc ?_ ?_ _); rotate_left; focus (first | exact Nat.le_refl _ | omega | exact Below.size (by assumption) | (simp; done) | (simp; omega))) | (with_reducible refine Below.drew ?_) | (with_reducible refine drewN_ ?_ _)))⟩
        · have hq : r.len * r.len < (x.x - y.x) * (x.x - y.x) + (x.y - y.y) * (x.y - y.y) := by omega
          go_ret
          have he : (r.src == r.dst) = false := ‹_›
          exact ⟨by rw [HR2.out, if_neg (by simpa using he), if_pos (Or.inr (Or.inr (Or.inr (Or.inr hq))))]; rfl, by have hB := HB2.out; (repeat (first | with_reducible exact Below.refl _ _ | with_reducible assumption | ((with_reducible refine Below.setCell ?_ ?_ _); rotate_left; focus (first | exact Nat.le_refl _ | omega | exact Below.size (by assumption) | (simp; done) | (simp; omega))) | ((with_reducible refine Below.alloc ?_ ?_ _); rotate_left; focus (first | exact Nat.le_refl _ | omega | exact Below.size (by assumption) | (simp; done) | (simp; omega))) | (with_reducible refine Below.drew ?_) | (with_reducible refine drewN_ ?_ _)))⟩
        · have hq : (x.x - y.x) * (x.x - y.x) + (x.y - y.y) * (x.y - y.y) ≤ r.len * r.len := by omega
          go_ret
          have he : (r.src == r.dst) = false := ‹_›
          exact ⟨by rw [HR2.out, if_neg (by simpa using he), if_neg (by omega)]; rfl, by have hB := HB2.out; (repeat (first | with_reducible exact Below.refl _ _ | with_reducible assumption | ((with_reducible refine Below.setCell ?_ ?_ _); rotate_left; focus (first | exact Nat.le_refl _ | omega | exact Below.size (by assumption) | (simp; done) | (simp; omega))) | ((with_reducible refine Below.alloc ?_ ?_ _); rotate_left; focus (first | exact Nat.le_refl _ | omega | exact Below.size (by assumption) | (simp; done) | (simp; omega))) | (with_reducible refine Below.drew ?_) | (with_reducible refine drewN_ ?_ _)))⟩
set_option maxHeartbeats 2000000 in
theorem check_any (n : Net) (v1 v2 : Value) (w : World) (hN : NetAt w.heap.size w v1 v2 n) :
    Calls Tryz.prog 25 #[.agg #[v1, v2]] w fun e w' => e = .returned (.int .i64 (netErr n)) ∧ Below w.heap.size w w' := by
  have HN := Lib.hid hN; clear hN
  obtain ⟨a, ln, cap, rfl, hl, hl1, hl2⟩ := HN.out.1.open
  obtain ⟨a2, ln2, cap2, rfl, hm, hm1, hm2⟩ := HN.out.2.open
  rw [List.length_map] at hl hm
  have HL := Lib.hid hl; clear hl
  have HM := Lib.hid hm; clear hm
  by_cases hbig : 256 < ln ∨ 1024 < ln2
  · have HR : Hid (netErr n = 3) := by show netErr n = 3; unfold netErr; rw [HL.out, HM.out, if_pos hbig]
    by_cases h1 : 256 < ln
    · go_enter Tryz.func25, Tryz.ntmps25
      go_wp2
      go_ret
      exact ⟨by rw [HR.out]; rfl, (by (repeat (first | with_reducible exact Below.refl _ _ | with_reducible assumption | ((with_reducible refine Below.setCell ?_ ?_ _); rotate_left; focus (first | exact Nat.le_refl _ | omega | exact Below.size (by assumption) | (simp; done) | (simp; omega))) | ((with_reducible refine Below.alloc ?_ ?_ _); rotate_left; focus (first | exact Nat.le_refl _ | omega | exact Below.size (by assumption) | (simp; done) | (simp; omega))) | (with_reducible refine Below.drew ?_) | (with_reducible refine drewN_ ?_ _))))⟩
    · go_enter Tryz.func25, Tryz.ntmps25
      go_wp2
      go_ret
      exact ⟨by rw [HR.out]; rfl, (by (repeat (first | with_reducible exact Below.refl _ _ | with_reducible assumption | ((with_reducible refine Below.setCell ?_ ?_ _); rotate_left; focus (first | exact Nat.le_refl _ | omega | exact Below.size (by assumption) | (simp; done) | (simp; omega))) | ((with_reducible refine Below.alloc ?_ ?_ _); rotate_left; focus (first | exact Nat.le_refl _ | omega | exact Below.size (by assumption) | (simp; done) | (simp; omega))) | (with_reducible refine Below.drew ?_) | (with_reducible refine drewN_ ?_ _))))⟩
  · have h1 : ln ≤ 256 := by omega
    have h2 : ln2 ≤ 1024 := by omega
    have HR : Hid (netErr n = if nodesErr n.nodes 0 ≠ 0 then nodesErr n.nodes 0 else roadsErr n.nodes n.roads 0) := by show netErr n = _; unfold netErr; rw [HL.out, HM.out, if_neg hbig]
    clear hbig
    go_enter Tryz.func25, Tryz.ntmps25
    go_wp2
    go_loopw [3, 24] (fun s3 s24 wr => ∃ (k : Nat) (bf : Int), s24 = .int .i64 k ∧ s3 = .int .i64 bf ∧ k ≤ ln ∧ Hid (nodesErr n.nodes 0 = nodesErr (n.nodes.drop k) bf) ∧ Hid (Below (w.alloc (.cells #[.slice a ln cap, .slice a2 ln2 cap2] 35)).heap.size (w.alloc (.cells #[.slice a ln cap, .slice a2 ln2 cap2] 35)) wr)) (fun _ s24 _ => ln - (intOf s24).toNat)
    case atStart => exact ⟨0, 0, rfl, rfl, Nat.zero_le _, rfl, Below.refl _ _⟩
    case round =>
      obtain ⟨k, bf, rfl, rfl, hk, hE, hB⟩ := hrel
      have HBr := Lib.hid (from_ (w := w) hB.out (by (repeat (first | with_reducible exact Below.refl _ _ | with_reducible assumption | ((with_reducible refine Below.setCell ?_ ?_ _); rotate_left; focus (first | exact Nat.le_refl _ | omega | exact Below.size (by assumption) | (simp; done) | (simp; omega))) | ((with_reducible refine Below.alloc ?_ ?_ _); rotate_left; focus (first | exact Nat.le_refl _ | omega | exact Below.size (by assumption) | (simp; done) | (simp; omega))) | (with_reducible refine Below.drew ?_) | (with_reducible refine drewN_ ?_ _)))))
      have hz0 : w.heap.size < wr.heap.size := by have := hB.out.size; simp at this; omega
      have l0 : wr.cell? ⟨w.heap.size, 0, none⟩ = some (.slice a ln cap) := by rw [hB.out.cell (by simp)]; simp
      have l1 : wr.cell? ⟨w.heap.size, 1, none⟩ = some (.slice a2 ln2 cap2) := by rw [hB.out.cell (by simp)]; simp
      by_cases hlt : k < ln
      · obtain ⟨b, off, rfl, hb, hk3⟩ := nd_cells HN.out.1 k (by have := HL.out; omega)
        have hk3 := hk3 k (by have := HL.out; omega)
        rw [← HBr.out.cell (p := ⟨b, _, none⟩) hb, ← HBr.out.cell (p := ⟨b, _, none⟩) hb, ← HBr.out.cell (p := ⟨b, _, none⟩) hb] at hk3
        have hE2 := nodesErr_at (l := n.nodes) (k := k) (by rw [HL.out]; exact hlt) bf
        generalize n.nodes[k]! = x at hk3 hE2
        have HE2 := Lib.hid hE2
        obtain ⟨c0, c1, c2⟩ := hk3
        clear hE2
        by_cases he : idErr x.id bf = 0
        · have he' : (idErr x.id bf != 0) = false := by simpa using he
          by_cases hw : wideB x.x = true
          · go_wp2_with (first | (go_at_call 50; refine (id_any _ _ _).mono ?_; rintro e w' ⟨rfl, rfl⟩) | (go_at_call 51; refine (wide_any _ _).mono ?_; rintro e w' ⟨rfl, rfl⟩))
            go_ret
            have hv := pick1 HR.out (hE.out.trans (pick2 HE2.out he (if_pos (by simp [hw])))) (by decide)
            exact ⟨by rw [hv]; rfl, by have h := HBr.out; (repeat (first | with_reducible exact Below.refl _ _ | with_reducible assumption | ((with_reducible refine Below.setCell ?_ ?_ _); rotate_left; focus (first | exact Nat.le_refl _ | omega | exact Below.size (by assumption) | (simp; done) | (simp; omega))) | ((with_reducible refine Below.alloc ?_ ?_ _); rotate_left; focus (first | exact Nat.le_refl _ | omega | exact Below.size (by assumption) | (simp; done) | (simp; omega))) | (with_reducible refine Below.drew ?_) | (with_reducible refine drewN_ ?_ _)))⟩
          · have hw' : wideB x.x = false := by simpa using hw
            by_cases hy : wideB x.y = true
            · go_wp2_with (first | (go_at_call 50; refine (id_any _ _ _).mono ?_; rintro e w' ⟨rfl, rfl⟩) | (go_at_call 51; refine (wide_any _ _).mono ?_; rintro e w' ⟨rfl, rfl⟩))
              go_ret
              have hv := pick1 HR.out (hE.out.trans (pick2 HE2.out he (if_pos (by simp [hy])))) (by decide)
              exact ⟨by rw [hv]; rfl, by have h := HBr.out; (repeat (first | with_reducible exact Below.refl _ _ | with_reducible assumption | ((with_reducible refine Below.setCell ?_ ?_ _); rotate_left; focus (first | exact Nat.le_refl _ | omega | exact Below.size (by assumption) | (simp; done) | (simp; omega))) | ((with_reducible refine Below.alloc ?_ ?_ _); rotate_left; focus (first | exact Nat.le_refl _ | omega | exact Below.size (by assumption) | (simp; done) | (simp; omega))) | (with_reducible refine Below.drew ?_) | (with_reducible refine drewN_ ?_ _)))⟩
            · have hy' : wideB x.y = false := by simpa using hy
              go_wp2_with (first | (go_at_call 50; refine (id_any _ _ _).mono ?_; rintro e w' ⟨rfl, rfl⟩) | (go_at_call 51; refine (wide_any _ _).mono ?_; rintro e w' ⟨rfl, rfl⟩))
              go_roundw
              case rel =>
                refine ⟨k + 1, x.id, by go_num, rfl, by omega, ?_, by have h := hB.out; show Below _ _ _; (repeat (first | with_reducible exact Below.refl _ _ | with_reducible assumption | ((with_reducible refine Below.setCell ?_ ?_ _); rotate_left; focus (first | exact Nat.le_refl _ | omega | exact Below.size (by assumption) | (simp; done) | (simp; omega))) | ((with_reducible refine Below.alloc ?_ ?_ _); rotate_left; focus (first | exact Nat.le_refl _ | omega | exact Below.size (by assumption) | (simp; done) | (simp; omega))) | (with_reducible refine Below.drew ?_) | (with_reducible refine drewN_ ?_ _)))⟩
                show nodesErr n.nodes 0 = _
                exact hE.out.trans (pick2 HE2.out he (if_neg (by simp [hw', hy'])))
              case measure => simp [intOf]; omega
        · have he' : (idErr x.id bf != 0) = true := by simpa using he
          go_wp2_with (go_at_call 50; refine (id_any _ _ _).mono ?_; rintro e w' ⟨rfl, rfl⟩)
          go_ret
          have hv := pick1 HR.out (hE.out.trans (pick1 HE2.out rfl he)) he
          exact ⟨by rw [hv]; rfl, by have h := HBr.out; (repeat (first | with_reducible exact Below.refl _ _ | with_reducible assumption | ((with_reducible refine Below.setCell ?_ ?_ _); rotate_left; focus (first | exact Nat.le_refl _ | omega | exact Below.size (by assumption) | (simp; done) | (simp; omega))) | ((with_reducible refine Below.alloc ?_ ?_ _); rotate_left; focus (first | exact Nat.le_refl _ | omega | exact Below.size (by assumption) | (simp; done) | (simp; omega))) | (with_reducible refine Below.drew ?_) | (with_reducible refine drewN_ ?_ _)))⟩
      · obtain rfl : k = ln := by omega
        have hE0 : nodesErr n.nodes 0 = 0 := by rw [hE.out, List.drop_eq_nil_of_le (by rw [HL.out]; exact Nat.le_refl _)]; rfl
        have HNear := Lib.hid (near_of hE0)
        have HSrt := Lib.hid (nodesErr_ok _ _ hE0).1
        have HR2 : Hid (netErr n = roadsErr n.nodes n.roads 0) := by
          show netErr n = _
          rw [HR.out, if_neg (by simp [hE0])]
        clear hE0 hE HR
        obtain ⟨wo, rfl⟩ : ∃ wo : World, wo = wr := ⟨_, rfl⟩
        go_wp2
        go_loopw [3, 49] (fun s3 s49 wr => ∃ (k2 : Nat) (bf : Int), s49 = .int .i64 k2 ∧ s3 = .int .i64 bf ∧ k2 ≤ ln2 ∧ Hid (roadsErr n.nodes n.roads 0 = roadsErr n.nodes (n.roads.drop k2) bf) ∧ Hid (Below wo.heap.size wo wr)) (fun _ s49 _ => ln2 - (intOf s49).toNat)
        case atStart => exact ⟨0, 0, rfl, rfl, Nat.zero_le _, rfl, Below.refl _ _⟩
        case round =>
          obtain ⟨k2, bf2, rfl, rfl, hk2, hE, hB2⟩ := hrel
          have HBr2 := Lib.hid (from_ (w := w) hB2.out HBr.out)
          have hz0' : w.heap.size < wr.heap.size := by have := hB2.out.size; omega
          have l0' : wr.cell? ⟨w.heap.size, 0, none⟩ = some (.slice a k cap) := by rw [hB2.out.cell hz0]; exact l0
          have l1' : wr.cell? ⟨w.heap.size, 1, none⟩ = some (.slice a2 ln2 cap2) := by rw [hB2.out.cell hz0]; exact l1
          clear l0 l1
          by_cases hlt2 : k2 < ln2
          · obtain ⟨b, off, rfl, hb, hk3⟩ := rd_cells HN.out.2 k2 (by have := HM.out; omega)
            have hk3 := hk3 k2 (by have := HM.out; omega)
            rw [← HBr2.out.cell (p := ⟨b, _, none⟩) hb, ← HBr2.out.cell (p := ⟨b, _, none⟩) hb, ← HBr2.out.cell (p := ⟨b, _, none⟩) hb, ← HBr2.out.cell (p := ⟨b, _, none⟩) hb, ← HBr2.out.cell (p := ⟨b, _, none⟩) hb, ← HBr2.out.cell (p := ⟨b, _, none⟩) hb] at hk3
            have hE2 := roadsErr_at (q := n.nodes) (l := n.roads) (k := k2) (by rw [HM.out]; exact hlt2) bf2
            generalize n.roads[k2]! = x at hk3 hE2
            have HE2 := Lib.hid hE2
            obtain ⟨c0, c1, c2, c3, c4, c5⟩ := hk3
            clear hE2
            by_cases he : idErr x.id bf2 = 0
            · have he' : (idErr x.id bf2 != 0) = false := by simpa using he
              by_cases hw : roadErr n.nodes x = 0
              · have hw' : (roadErr n.nodes x != 0) = false := by simpa using hw
                go_wp2_with (go_at_call 50; refine (id_any _ _ _).mono ?_; rintro e w' ⟨rfl, rfl⟩)
                refine (checkRoad_any n _ _ x _ (HN.out.later ?hn) HSrt.out ?hsz HNear.out).mono ?_
                case hn => have h := HBr2.out; (repeat (first | with_reducible exact Below.refl _ _ | with_reducible assumption | ((with_reducible refine Below.setCell ?_ ?_ _); rotate_left; focus (first | exact Nat.le_refl _ | omega | exact Below.size (by assumption) | (simp; done) | (simp; omega))) | ((with_reducible refine Below.alloc ?_ ?_ _); rotate_left; focus (first | exact Nat.le_refl _ | omega | exact Below.size (by assumption) | (simp; done) | (simp; omega))) | (with_reducible refine Below.drew ?_) | (with_reducible refine drewN_ ?_ _)))
                case hsz => rw [HL.out]; omega
                rintro e w1 ⟨rfl, hb1⟩
                have HB1 := Lib.hid (from_ (w := w) hb1 (by have h := HBr2.out; (repeat (first | with_reducible exact Below.refl _ _ | with_reducible assumption | ((with_reducible refine Below.setCell ?_ ?_ _); rotate_left; focus (first | exact Nat.le_refl _ | omega | exact Below.size (by assumption) | (simp; done) | (simp; omega))) | ((with_reducible refine Below.alloc ?_ ?_ _); rotate_left; focus (first | exact Nat.le_refl _ | omega | exact Below.size (by assumption) | (simp; done) | (simp; omega))) | (with_reducible refine Below.drew ?_) | (with_reducible refine drewN_ ?_ _)))))
                have HB3 := Lib.hid (from_ (w := wo) hb1 (by have h := hB2.out; (repeat (first | with_reducible exact Below.refl _ _ | with_reducible assumption | ((with_reducible refine Below.setCell ?_ ?_ _); rotate_left; focus (first | exact Nat.le_refl _ | omega | exact Below.size (by assumption) | (simp; done) | (simp; omega))) | ((with_reducible refine Below.alloc ?_ ?_ _); rotate_left; focus (first | exact Nat.le_refl _ | omega | exact Below.size (by assumption) | (simp; done) | (simp; omega))) | (with_reducible refine Below.drew ?_) | (with_reducible refine drewN_ ?_ _)))))
                have m0 := hb1.cell (p := ⟨wr.heap.size, 0, none⟩) (by simp)
                simp at m0
                clear hb1
                go_wp2
                go_roundw
                case rel => exact ⟨k2 + 1, x.id, by go_num, rfl, by omega, hE.out.trans (pick2 HE2.out he (pick2 rfl hw rfl)), HB3.out⟩
                case measure => simp [intOf]; omega
              · have hw' : (roadErr n.nodes x != 0) = true := by simpa using hw
                go_wp2_with (go_at_call 50; refine (id_any _ _ _).mono ?_; rintro e w' ⟨rfl, rfl⟩)
                refine (checkRoad_any n _ _ x _ (HN.out.later ?hn) HSrt.out ?hsz HNear.out).mono ?_
                case hn => have h := HBr2.out; (repeat (first | with_reducible exact Below.refl _ _ | with_reducible assumption | ((with_reducible refine Below.setCell ?_ ?_ _); rotate_left; focus (first | exact Nat.le_refl _ | omega | exact Below.size (by assumption) | (simp; done) | (simp; omega))) | ((with_reducible refine Below.alloc ?_ ?_ _); rotate_left; focus (first | exact Nat.le_refl _ | omega | exact Below.size (by assumption) | (simp; done) | (simp; omega))) | (with_reducible refine Below.drew ?_) | (with_reducible refine drewN_ ?_ _)))
                case hsz => rw [HL.out]; omega
                rintro e w1 ⟨rfl, hb1⟩
                have HB1 := Lib.hid (from_ (w := w) hb1 (by have h := HBr2.out; (repeat (first | with_reducible exact Below.refl _ _ | with_reducible assumption | ((with_reducible refine Below.setCell ?_ ?_ _); rotate_left; focus (first | exact Nat.le_refl _ | omega | exact Below.size (by assumption) | (simp; done) | (simp; omega))) | ((with_reducible refine Below.alloc ?_ ?_ _); rotate_left; focus (first | exact Nat.le_refl _ | omega | exact Below.size (by assumption) | (simp; done) | (simp; omega))) | (with_reducible refine Below.drew ?_) | (with_reducible refine drewN_ ?_ _)))))
                clear hb1
                go_wp2
                go_ret
                have hv := HR2.out.trans (hE.out.trans (pick2 HE2.out he (pick1 rfl rfl hw)))
                exact ⟨by rw [hv]; rfl, HB1.out⟩
            · have he' : (idErr x.id bf2 != 0) = true := by simpa using he
              go_wp2_with (go_at_call 50; refine (id_any _ _ _).mono ?_; rintro e w' ⟨rfl, rfl⟩)
              go_ret
              have hv := HR2.out.trans (hE.out.trans (pick1 HE2.out rfl he))
              exact ⟨by rw [hv]; rfl, by have h := HBr2.out; (repeat (first | with_reducible exact Below.refl _ _ | with_reducible assumption | ((with_reducible refine Below.setCell ?_ ?_ _); rotate_left; focus (first | exact Nat.le_refl _ | omega | exact Below.size (by assumption) | (simp; done) | (simp; omega))) | ((with_reducible refine Below.alloc ?_ ?_ _); rotate_left; focus (first | exact Nat.le_refl _ | omega | exact Below.size (by assumption) | (simp; done) | (simp; omega))) | (with_reducible refine Below.drew ?_) | (with_reducible refine drewN_ ?_ _)))⟩
          · obtain rfl : k2 = ln2 := by omega
            go_wp2
            go_ret
            refine ⟨?_, by have h := HBr2.out; (repeat (first | with_reducible exact Below.refl _ _ | with_reducible assumption | ((with_reducible refine Below.setCell ?_ ?_ _); rotate_left; focus (first | exact Nat.le_refl _ | omega | exact Below.size (by assumption) | (simp; done) | (simp; omega))) | ((with_reducible refine Below.alloc ?_ ?_ _); rotate_left; focus (first | exact Nat.le_refl _ | omega | exact Below.size (by assumption) | (simp; done) | (simp; omega))) | (with_reducible refine Below.drew ?_) | (with_reducible refine drewN_ ?_ _)))⟩
            have hv : netErr n = 0 := by rw [HR2.out, hE.out, List.drop_eq_nil_of_le (by rw [HM.out]; exact Nat.le_refl _)]; rfl
            rw [hv]; rfl
end Go.Proofs.YtmplajpbmojkkaaGreat
