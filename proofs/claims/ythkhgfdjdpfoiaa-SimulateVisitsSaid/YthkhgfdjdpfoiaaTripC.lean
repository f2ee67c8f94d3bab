/-
  The model's checkTrip.
-/
import Derived.Test.YthkhgfdjdpfoiaaP07
set_option linter.unusedSimpArgs false
set_option linter.unusedVariables false
namespace Go.Proofs.Ythkhgfdjdpfoiaa
open Go Go.RowKit Go.Vi
def visErr (q : List Nd) : Option Int → List Vis → Int
  | _, [] => 0
  | p, v :: vs => if (nodeOf q v.node).isSome = false then 9 else if inB v.wait 0 1073741824 = false then 26 else if p = some v.node then 8 else visErr q (some v.node) vs
def tripErr (n : Net) (t : Trp) (last : Int) : Int :=
  if inB t.obj 1 1073741824 = false then 27 else if t.obj ≤ last then 7 else if inB t.start 0 1073741824 = false then 26 else if inB t.speed 1 1048576 = false then 2 else if t.vis.length = 0 then 10 else if 32 < t.vis.length then 3 else visErr n.nodes none t.vis
def prevOf (l : List Vis) (k : Nat) : Option Int := match k with | 0 => none | j + 1 => some l[j]!.node
theorem visErr_at {q : List Nd} {l : List Vis} {k : Nat} (h : k < l.length) (p : Option Int) : visErr q p (l.drop k) = if (nodeOf q l[k]!.node).isSome = false then 9 else if inB l[k]!.wait 0 1073741824 = false then 26 else if p = some l[k]!.node then 8 else visErr q (some l[k]!.node) (l.drop (k + 1)) := by
  rw [List.drop_eq_getElem_cons h, getElem!_pos l k h]; rfl
set_option maxHeartbeats 1000000 in
theorem checkTrip_any (n : Net) (v1 v2 v : Value) (t : Trp) (last : Int) (w : World) (hN : NetAt w.heap.size w v1 v2 n) (hs : SrtN n.nodes) (hsz : n.nodes.length ≤ 1000000) (hV : Sl w.heap.size w 2 v (t.vis.map Vis.cs)) (hV2 : t.vis.length ≤ 1000000) :
    Calls Try.prog 32 #[.agg #[v1, v2], t.v v, .int .i64 last] w fun e w' => e = .returned (.int .i64 (tripErr n t last)) ∧ Below w.heap.size w w' := by
  obtain ⟨a, m, c, rfl, hm, hm1, hm2⟩ := hV.open
  rw [List.length_map] at hm
  rw [hm] at hV2
  have HN := Lib.hid hN
  have HS := Lib.hid hs
  have HZ := Lib.hid hsz
  have HV := Lib.hid hV
  have HM := Lib.hid hm
  have hR : tripErr n t last = if inB t.obj 1 1073741824 = false then 27 else if t.obj ≤ last then 7 else if inB t.start 0 1073741824 = false then 26 else if inB t.speed 1 1048576 = false then 2 else if m = 0 then 10 else if 32 < m then 3 else visErr n.nodes none t.vis := by unfold tripErr; rw [hm]
  clear hN hs hsz hV hm hm2
  by_cases c1 : inB t.obj 1 1073741824 = false
  · rw [if_pos c1] at hR
    have HR := Lib.hid hR
    clear hR
    go_enter Try.func32, Try.ntmps32
    go_wp2_with (go_at_call 31; refine (within_any _ _ _ _).mono ?_; rintro e w' ⟨rfl, rfl⟩)
    go_ret
    exact ⟨by rw [HR.out]; rfl, (by (repeat (first | with_reducible exact Below.refl _ _ | with_reducible assumption | ((with_reducible refine Below.setCell ?_ ?_ _); rotate_left; focus (first | exact Nat.le_refl _ | omega | exact Below.size (by assumption) | (simp; done) | (simp; omega))) | ((with_reducible refine Below.alloc ?_ ?_ _); rotate_left; focus (first | exact Nat.le_refl _ | omega | exact Below.size (by assumption) | (simp; done) | (simp; omega))) | (with_reducible refine Below.drew ?_) | (with_reducible refine drewN_ ?_ _))))⟩
  rw [if_neg c1] at hR
  replace c1 : inB t.obj 1 1073741824 = true := by simpa using c1
  by_cases c2 : t.obj ≤ last
  · rw [if_pos c2] at hR
    have HR := Lib.hid hR
    clear hR
    go_enter Try.func32, Try.ntmps32
    go_wp2_with (go_at_call 31; refine (within_any _ _ _ _).mono ?_; rintro e w' ⟨rfl, rfl⟩)
    go_ret
    exact ⟨by rw [HR.out]; rfl, (by (repeat (first | with_reducible exact Below.refl _ _ | with_reducible assumption | ((with_reducible refine Below.setCell ?_ ?_ _); rotate_left; focus (first | exact Nat.le_refl _ | omega | exact Below.size (by assumption) | (simp; done) | (simp; omega))) | ((with_reducible refine Below.alloc ?_ ?_ _); rotate_left; focus (first | exact Nat.le_refl _ | omega | exact Below.size (by assumption) | (simp; done) | (simp; omega))) | (with_reducible refine Below.drew ?_) | (with_reducible refine drewN_ ?_ _))))⟩
  rw [if_neg c2] at hR
  by_cases c3 : inB t.start 0 1073741824 = false
  · rw [if_pos c3] at hR
    have HR := Lib.hid hR
    clear hR
    go_enter Try.func32, Try.ntmps32
    go_wp2_with (go_at_call 31; refine (within_any _ _ _ _).mono ?_; rintro e w' ⟨rfl, rfl⟩)
    go_ret
    exact ⟨by rw [HR.out]; rfl, (by (repeat (first | with_reducible exact Below.refl _ _ | with_reducible assumption | ((with_reducible refine Below.setCell ?_ ?_ _); rotate_left; focus (first | exact Nat.le_refl _ | omega | exact Below.size (by assumption) | (simp; done) | (simp; omega))) | ((with_reducible refine Below.alloc ?_ ?_ _); rotate_left; focus (first | exact Nat.le_refl _ | omega | exact Below.size (by assumption) | (simp; done) | (simp; omega))) | (with_reducible refine Below.drew ?_) | (with_reducible refine drewN_ ?_ _))))⟩
  rw [if_neg c3] at hR
  replace c3 : inB t.start 0 1073741824 = true := by simpa using c3
  by_cases c4 : inB t.speed 1 1048576 = false
  · rw [if_pos c4] at hR
    have HR := Lib.hid hR
    clear hR
    go_enter Try.func32, Try.ntmps32
    go_wp2_with (go_at_call 31; refine (within_any _ _ _ _).mono ?_; rintro e w' ⟨rfl, rfl⟩)
    go_ret
    exact ⟨by rw [HR.out]; rfl, (by (repeat (first | with_reducible exact Below.refl _ _ | with_reducible assumption | ((with_reducible refine Below.setCell ?_ ?_ _); rotate_left; focus (first | exact Nat.le_refl _ | omega | exact Below.size (by assumption) | (simp; done) | (simp; omega))) | ((with_reducible refine Below.alloc ?_ ?_ _); rotate_left; focus (first | exact Nat.le_refl _ | omega | exact Below.size (by assumption) | (simp; done) | (simp; omega))) | (with_reducible refine Below.drew ?_) | (with_reducible refine drewN_ ?_ _))))⟩
  rw [if_neg c4] at hR
  replace c4 : inB t.speed 1 1048576 = true := by simpa using c4
  by_cases c5 : m = 0
  · rw [if_pos c5] at hR
    have HR := Lib.hid hR
    subst c5
    clear hR
    go_enter Try.func32, Try.ntmps32
    go_wp2_with (go_at_call 31; refine (within_any _ _ _ _).mono ?_; rintro e w' ⟨rfl, rfl⟩)
    go_ret
    exact ⟨by rw [HR.out]; rfl, (by (repeat (first | with_reducible exact Below.refl _ _ | with_reducible assumption | ((with_reducible refine Below.setCell ?_ ?_ _); rotate_left; focus (first | exact Nat.le_refl _ | omega | exact Below.size (by assumption) | (simp; done) | (simp; omega))) | ((with_reducible refine Below.alloc ?_ ?_ _); rotate_left; focus (first | exact Nat.le_refl _ | omega | exact Below.size (by assumption) | (simp; done) | (simp; omega))) | (with_reducible refine Below.drew ?_) | (with_reducible refine drewN_ ?_ _))))⟩
  rw [if_neg c5] at hR
  have c5' : ((m : Int) == 0) = false := by simpa using c5
  by_cases c6 : 32 < m
  · rw [if_pos c6] at hR
    have HR := Lib.hid hR
    clear hR
    go_enter Try.func32, Try.ntmps32
    go_wp2_with (go_at_call 31; refine (within_any _ _ _ _).mono ?_; rintro e w' ⟨rfl, rfl⟩)
    go_ret
    exact ⟨by rw [HR.out]; rfl, (by (repeat (first | with_reducible exact Below.refl _ _ | with_reducible assumption | ((with_reducible refine Below.setCell ?_ ?_ _); rotate_left; focus (first | exact Nat.le_refl _ | omega | exact Below.size (by assumption) | (simp; done) | (simp; omega))) | ((with_reducible refine Below.alloc ?_ ?_ _); rotate_left; focus (first | exact Nat.le_refl _ | omega | exact Below.size (by assumption) | (simp; done) | (simp; omega))) | (with_reducible refine Below.drew ?_) | (with_reducible refine drewN_ ?_ _))))⟩
  rw [if_neg c6] at hR
  have HR := Lib.hid hR
  clear hR
  go_enter Try.func32, Try.ntmps32
  go_wp2_with (go_at_call 31; refine (within_any _ _ _ _).mono ?_; rintro e w' ⟨rfl, rfl⟩)
  go_loopw [7] (fun s7 wr => ∃ k : Nat, s7 = .int .i64 k ∧ k ≤ m ∧ Hid (visErr n.nodes none t.vis = visErr n.nodes (prevOf t.vis k) (t.vis.drop k)) ∧
      Hid (Below ((w.alloc (.cells #[v1, v2] 35)).alloc (.cells #[.int .i64 t.obj, .int .i64 t.dev, .int .i64 t.start, .int .i64 t.speed, .slice a m c] 45)).heap.size ((w.alloc (.cells #[v1, v2] 35)).alloc (.cells #[.int .i64 t.obj, .int .i64 t.dev, .int .i64 t.start, .int .i64 t.speed, .slice a m c] 45)) wr)) (fun s7 _ => m - (intOf s7).toNat)
  case atStart => exact ⟨0, rfl, Nat.zero_le _, rfl, Below.refl _ _⟩
  case round =>
    obtain ⟨k, rfl, hk, hE, hB⟩ := hrel
    have HBr := Lib.hid (from_ (w := w) hB.out (by (repeat (first | with_reducible exact Below.refl _ _ | with_reducible assumption | ((with_reducible refine Below.setCell ?_ ?_ _); rotate_left; focus (first | exact Nat.le_refl _ | omega | exact Below.size (by assumption) | (simp; done) | (simp; omega))) | ((with_reducible refine Below.alloc ?_ ?_ _); rotate_left; focus (first | exact Nat.le_refl _ | omega | exact Below.size (by assumption) | (simp; done) | (simp; omega))) | (with_reducible refine Below.drew ?_) | (with_reducible refine drewN_ ?_ _)))))
    have hz0 : w.heap.size + 2 ≤ wr.heap.size := by have := hB.out.size; simp at this; omega
    have hz1 : w.heap.size < wr.heap.size := by omega
    have hz2 : w.heap.size + 1 < wr.heap.size := by omega
    have l0 : wr.cell? ⟨w.heap.size, 0, none⟩ = some v1 := by rw [hB.out.cell (by simp; omega)]; simp
    have l1 : wr.cell? ⟨w.heap.size, 1, none⟩ = some v2 := by rw [hB.out.cell (by simp; omega)]; simp
    have l4 : wr.cell? ⟨w.heap.size + 1, 4, none⟩ = some (.slice a m c) := by rw [hB.out.cell (by simp)]; simp
    by_cases hlt : k < m
    · have hkl : k < t.vis.length := by rw [HM.out]; exact hlt
      obtain ⟨b, off, rfl, hb, hcs⟩ := HV.out.cells k hkl
      have k0 : w.cell? ⟨b, off + k * 2, none⟩ = _ := hcs k hkl 0 _ rfl
      have k1 : w.cell? ⟨b, off + k * 2 + 1, none⟩ = _ := hcs k hkl 1 _ rfl
      rw [← HBr.out.cell (p := ⟨b, _, none⟩) hb] at k0 k1
      have z5 : b < wr.heap.size := by omega
      have hE2 := visErr_at (q := n.nodes) hkl (prevOf t.vis k)
      rw [← hE.out] at hE2
      have hx : ∃ x, x = t.vis[k]! := ⟨_, rfl⟩
      obtain ⟨x, hx⟩ := hx
      rw [← hx] at k0 k1 hE2
      have hA : ∃ A, A = nodeOf n.nodes x.node := ⟨_, rfl⟩
      obtain ⟨A, hA⟩ := hA
      rw [← hA] at hE2
      have HA := Lib.hid hA
      clear hA
      cases hS : A.isSome with
      | false =>
        rw [if_pos hS] at hE2
        have HE2 := Lib.hid hE2
        clear hE2 hx hcs
        go_wp2_with (first | (go_at_call 31; refine (within_any _ _ _ _).mono ?_; rintro e w' ⟨rfl, rfl⟩) | (go_at_call 8; refine (node_any n v1 v2 _ _ (HN.out.later (by have h := HBr.out; (repeat (first | with_reducible exact Below.refl _ _ | with_reducible assumption | ((with_reducible refine Below.setCell ?_ ?_ _); rotate_left; focus (first | exact Nat.le_refl _ | omega | exact Below.size (by assumption) | (simp; done) | (simp; omega))) | ((with_reducible refine Below.alloc ?_ ?_ _); rotate_left; focus (first | exact Nat.le_refl _ | omega | exact Below.size (by assumption) | (simp; done) | (simp; omega))) | (with_reducible refine Below.drew ?_) | (with_reducible refine drewN_ ?_ _))))) HS.out HZ.out).mono ?_; rintro e w1 ⟨rfl, hb1⟩; rw [← HA.out]; have hB1 := from_ (w := w) hb1 (by have h := HBr.out; (repeat (first | with_reducible exact Below.refl _ _ | with_reducible assumption | ((with_reducible refine Below.setCell ?_ ?_ _); rotate_left; focus (first | exact Nat.le_refl _ | omega | exact Below.size (by assumption) | (simp; done) | (simp; omega))) | ((with_reducible refine Below.alloc ?_ ?_ _); rotate_left; focus (first | exact Nat.le_refl _ | omega | exact Below.size (by assumption) | (simp; done) | (simp; omega))) | (with_reducible refine Below.drew ?_) | (with_reducible refine drewN_ ?_ _)))); have HB1 := Lib.hid hB1; have hz9 := hb1.size; simp at hz9; have z1 : wr.heap.size < w1.heap.size := (by omega); have z2 : w.heap.size < w1.heap.size := (by omega); have z4 : b < w1.heap.size := (by omega); have z3 : w.heap.size + 1 < w1.heap.size := (by omega); obtain ⟨hc1, hf1⟩ := bcell hb1; clear hB1 hb1))
        go_ret
        exact ⟨by rw [HR.out, HE2.out]; rfl, by have h := HB1.out; (repeat (first | with_reducible exact Below.refl _ _ | with_reducible assumption | ((with_reducible refine Below.setCell ?_ ?_ _); rotate_left; focus (first | exact Nat.le_refl _ | omega | exact Below.size (by assumption) | (simp; done) | (simp; omega))) | ((with_reducible refine Below.alloc ?_ ?_ _); rotate_left; focus (first | exact Nat.le_refl _ | omega | exact Below.size (by assumption) | (simp; done) | (simp; omega))) | (with_reducible refine Below.drew ?_) | (with_reducible refine drewN_ ?_ _)))⟩
      | true =>
        rw [if_neg (by rw [hS]; decide)] at hE2
        cases hW : inB x.wait 0 1073741824 with
        | false =>
          rw [if_pos hW] at hE2
          have HE2 := Lib.hid hE2
          clear hE2 hx hcs
          go_wp2_with (first | (go_at_call 31; refine (within_any _ _ _ _).mono ?_; rintro e w' ⟨rfl, rfl⟩) | (go_at_call 8; refine (node_any n v1 v2 _ _ (HN.out.later (by have h := HBr.out; (repeat (first | with_reducible exact Below.refl _ _ | with_reducible assumption | ((with_reducible refine Below.setCell ?_ ?_ _); rotate_left; focus (first | exact Nat.le_refl _ | omega | exact Below.size (by assumption) | (simp; done) | (simp; omega))) | ((with_reducible refine Below.alloc ?_ ?_ _); rotate_left; focus (first | exact Nat.le_refl _ | omega | exact Below.size (by assumption) | (simp; done) | (simp; omega))) | (with_reducible refine Below.drew ?_) | (with_reducible refine drewN_ ?_ _))))) HS.out HZ.out).mono ?_; rintro e w1 ⟨rfl, hb1⟩; rw [← HA.out]; have hB1 := from_ (w := w) hb1 (by have h := HBr.out; (repeat (first | with_reducible exact Below.refl _ _ | with_reducible assumption | ((with_reducible refine Below.setCell ?_ ?_ _); rotate_left; focus (first | exact Nat.le_refl _ | omega | exact Below.size (by assumption) | (simp; done) | (simp; omega))) | ((with_reducible refine Below.alloc ?_ ?_ _); rotate_left; focus (first | exact Nat.le_refl _ | omega | exact Below.size (by assumption) | (simp; done) | (simp; omega))) | (with_reducible refine Below.drew ?_) | (with_reducible refine drewN_ ?_ _)))); have HB1 := Lib.hid hB1; have hz9 := hb1.size; simp at hz9; have z1 : wr.heap.size < w1.heap.size := (by omega); have z2 : w.heap.size < w1.heap.size := (by omega); have z4 : b < w1.heap.size := (by omega); have z3 : w.heap.size + 1 < w1.heap.size := (by omega); obtain ⟨hc1, hf1⟩ := bcell hb1; clear hB1 hb1))
          go_ret
          exact ⟨by rw [HR.out, HE2.out]; rfl, by have h := HB1.out; (repeat (first | with_reducible exact Below.refl _ _ | with_reducible assumption | ((with_reducible refine Below.setCell ?_ ?_ _); rotate_left; focus (first | exact Nat.le_refl _ | omega | exact Below.size (by assumption) | (simp; done) | (simp; omega))) | ((with_reducible refine Below.alloc ?_ ?_ _); rotate_left; focus (first | exact Nat.le_refl _ | omega | exact Below.size (by assumption) | (simp; done) | (simp; omega))) | (with_reducible refine Below.drew ?_) | (with_reducible refine drewN_ ?_ _)))⟩
        | true =>
          rw [if_neg (by rw [hW]; decide)] at hE2
          by_cases hk0 : k = 0
          · rw [if_neg (by rw [hk0]; simp [prevOf])] at hE2
            have HE2 := Lib.hid hE2
            have HX := Lib.hid hx
            have hk0' : decide (0 < k) = false := by simp; omega
            have hk1' : decide ((0 : Int) < (k : Int)) = false := by simp; omega
            have HK0 := Lib.hid hk0
            clear hE2 hx hcs hk0
            go_wp2_with (first | (go_at_call 31; refine (within_any _ _ _ _).mono ?_; rintro e w' ⟨rfl, rfl⟩) | (go_at_call 8; refine (node_any n v1 v2 _ _ (HN.out.later (by have h := HBr.out; (repeat (first | with_reducible exact Below.refl _ _ | with_reducible assumption | ((with_reducible refine Below.setCell ?_ ?_ _); rotate_left; focus (first | exact Nat.le_refl _ | omega | exact Below.size (by assumption) | (simp; done) | (simp; omega))) | ((with_reducible refine Below.alloc ?_ ?_ _); rotate_left; focus (first | exact Nat.le_refl _ | omega | exact Below.size (by assumption) | (simp; done) | (simp; omega))) | (with_reducible refine Below.drew ?_) | (with_reducible refine drewN_ ?_ _))))) HS.out HZ.out).mono ?_; rintro e w1 ⟨rfl, hb1⟩; rw [← HA.out]; have hB1 := from_ (w := w) hb1 (by have h := HBr.out; (repeat (first | with_reducible exact Below.refl _ _ | with_reducible assumption | ((with_reducible refine Below.setCell ?_ ?_ _); rotate_left; focus (first | exact Nat.le_refl _ | omega | exact Below.size (by assumption) | (simp; done) | (simp; omega))) | ((with_reducible refine Below.alloc ?_ ?_ _); rotate_left; focus (first | exact Nat.le_refl _ | omega | exact Below.size (by assumption) | (simp; done) | (simp; omega))) | (with_reducible refine Below.drew ?_) | (with_reducible refine drewN_ ?_ _)))); have HB1 := Lib.hid hB1; have HB3 := Lib.hid (from_ (w := ((w.alloc (.cells #[v1, v2] 35)).alloc (.cells #[.int .i64 t.obj, .int .i64 t.dev, .int .i64 t.start, .int .i64 t.speed, .slice (some ⟨b, off, none⟩) m c] 45))) hb1 (by have h := hB.out; (repeat (first | with_reducible exact Below.refl _ _ | with_reducible assumption | ((with_reducible refine Below.setCell ?_ ?_ _); rotate_left; focus (first | exact Nat.le_refl _ | omega | exact Below.size (by assumption) | (simp; done) | (simp; omega))) | ((with_reducible refine Below.alloc ?_ ?_ _); rotate_left; focus (first | exact Nat.le_refl _ | omega | exact Below.size (by assumption) | (simp; done) | (simp; omega))) | (with_reducible refine Below.drew ?_) | (with_reducible refine drewN_ ?_ _))))); have hz9 := hb1.size; simp at hz9; have z1 : wr.heap.size < w1.heap.size := (by omega); have z2 : w.heap.size < w1.heap.size := (by omega); have z4 : b < w1.heap.size := (by omega); have z3 : w.heap.size + 1 < w1.heap.size := (by omega); obtain ⟨hc1, hf1⟩ := bcell hb1; clear hB1 hb1))
            go_quiet (fail)
            go_wp2
            all_goals
              go_roundw
              case rel => exact ⟨k + 1, by go_num, by omega, by show _ = visErr n.nodes (some t.vis[k]!.node) _; rw [HE2.out, HX.out], by have h := HB3.out; show Below _ _ _; (repeat (first | with_reducible exact Below.refl _ _ | with_reducible assumption | ((with_reducible refine Below.setCell ?_ ?_ _); rotate_left; focus (first | exact Nat.le_refl _ | omega | exact Below.size (by assumption) | (simp; done) | (simp; omega))) | ((with_reducible refine Below.alloc ?_ ?_ _); rotate_left; focus (first | exact Nat.le_refl _ | omega | exact Below.size (by assumption) | (simp; done) | (simp; omega))) | (with_reducible refine Below.drew ?_) | (with_reducible refine drewN_ ?_ _)))⟩
              case measure => simp [intOf]; omega
          · obtain ⟨j, hj⟩ : ∃ j, j + 1 = k := ⟨k - 1, by omega⟩
            have hp : prevOf t.vis k = some t.vis[j]!.node := by subst hj; rfl
            rw [hp] at hE2
            have y0 : w.cell? ⟨b, off + j * 2, none⟩ = _ := hcs j (by omega) 0 _ rfl
            rw [← HBr.out.cell (p := ⟨b, _, none⟩) hb] at y0
            obtain ⟨y, hy⟩ : ∃ y, y = t.vis[j]! := ⟨_, rfl⟩
            rw [← hy] at y0 hE2
            have hj1 : (k : Int) - 1 = (j : Int) := by omega
            have hj2 : IntKind.i64.wrap (j : Int) = (j : Int) := IntWalk.i64_in _ (by omega)
            have hj3 : (0 : Int) < (k : Int) := by omega
            have hj4 : (j : Int) < (m : Int) := by omega
            have hj5 : j < m := by omega
            have hj6 : 0 < k := by omega
            have HJ := Lib.hid hj
            have HX := Lib.hid hx
            by_cases hd : y.node = x.node
            · rw [if_pos (by rw [hd])] at hE2
              have HE2 := Lib.hid hE2
              have hd' : (x.node == y.node) = true := by rw [hd]; simp
              clear hE2 hx hcs hy hj
              go_wp2_with (first | (go_at_call 31; refine (within_any _ _ _ _).mono ?_; rintro e w' ⟨rfl, rfl⟩) | (go_at_call 8; refine (node_any n v1 v2 _ _ (HN.out.later (by have h := HBr.out; (repeat (first | with_reducible exact Below.refl _ _ | with_reducible assumption | ((with_reducible refine Below.setCell ?_ ?_ _); rotate_left; focus (first | exact Nat.le_refl _ | omega | exact Below.size (by assumption) | (simp; done) | (simp; omega))) | ((with_reducible refine Below.alloc ?_ ?_ _); rotate_left; focus (first | exact Nat.le_refl _ | omega | exact Below.size (by assumption) | (simp; done) | (simp; omega))) | (with_reducible refine Below.drew ?_) | (with_reducible refine drewN_ ?_ _))))) HS.out HZ.out).mono ?_; rintro e w1 ⟨rfl, hb1⟩; rw [← HA.out]; have hB1 := from_ (w := w) hb1 (by have h := HBr.out; (repeat (first | with_reducible exact Below.refl _ _ | with_reducible assumption | ((with_reducible refine Below.setCell ?_ ?_ _); rotate_left; focus (first | exact Nat.le_refl _ | omega | exact Below.size (by assumption) | (simp; done) | (simp; omega))) | ((with_reducible refine Below.alloc ?_ ?_ _); rotate_left; focus (first | exact Nat.le_refl _ | omega | exact Below.size (by assumption) | (simp; done) | (simp; omega))) | (with_reducible refine Below.drew ?_) | (with_reducible refine drewN_ ?_ _)))); have HB1 := Lib.hid hB1; have HB3 := Lib.hid (from_ (w := ((w.alloc (.cells #[v1, v2] 35)).alloc (.cells #[.int .i64 t.obj, .int .i64 t.dev, .int .i64 t.start, .int .i64 t.speed, .slice (some ⟨b, off, none⟩) m c] 45))) hb1 (by have h := hB.out; (repeat (first | with_reducible exact Below.refl _ _ | with_reducible assumption | ((with_reducible refine Below.setCell ?_ ?_ _); rotate_left; focus (first | exact Nat.le_refl _ | omega | exact Below.size (by assumption) | (simp; done) | (simp; omega))) | ((with_reducible refine Below.alloc ?_ ?_ _); rotate_left; focus (first | exact Nat.le_refl _ | omega | exact Below.size (by assumption) | (simp; done) | (simp; omega))) | (with_reducible refine Below.drew ?_) | (with_reducible refine drewN_ ?_ _))))); have hz9 := hb1.size; simp at hz9; have z1 : wr.heap.size < w1.heap.size := (by omega); have z2 : w.heap.size < w1.heap.size := (by omega); have z4 : b < w1.heap.size := (by omega); have z3 : w.heap.size + 1 < w1.heap.size := (by omega); obtain ⟨hc1, hf1⟩ := bcell hb1; clear hB1 hb1))
              go_quiet (fail)
              go_wp2
              all_goals
                go_ret
                exact ⟨by rw [HR.out, HE2.out]; rfl, by have h := HB1.out; (repeat (first | with_reducible exact Below.refl _ _ | with_reducible assumption | ((with_reducible refine Below.setCell ?_ ?_ _); rotate_left; focus (first | exact Nat.le_refl _ | omega | exact Below.size (by assumption) | (simp; done) | (simp; omega))) | ((with_reducible refine Below.alloc ?_ ?_ _); rotate_left; focus (first | exact Nat.le_refl _ | omega | exact Below.size (by assumption) | (simp; done) | (simp; omega))) | (with_reducible refine Below.drew ?_) | (with_reducible refine drewN_ ?_ _)))⟩
            · rw [if_neg (by intro e; injection e with e; exact hd e)] at hE2
              have HE2 := Lib.hid hE2
              have hd' : (x.node == y.node) = false := by simpa using fun e => hd e.symm
              clear hE2 hx hcs hy hj
              go_wp2_with (first | (go_at_call 31; refine (within_any _ _ _ _).mono ?_; rintro e w' ⟨rfl, rfl⟩) | (go_at_call 8; refine (node_any n v1 v2 _ _ (HN.out.later (by have h := HBr.out; (repeat (first | with_reducible exact Below.refl _ _ | with_reducible assumption | ((with_reducible refine Below.setCell ?_ ?_ _); rotate_left; focus (first | exact Nat.le_refl _ | omega | exact Below.size (by assumption) | (simp; done) | (simp; omega))) | ((with_reducible refine Below.alloc ?_ ?_ _); rotate_left; focus (first | exact Nat.le_refl _ | omega | exact Below.size (by assumption) | (simp; done) | (simp; omega))) | (with_reducible refine Below.drew ?_) | (with_reducible refine drewN_ ?_ _))))) HS.out HZ.out).mono ?_; rintro e w1 ⟨rfl, hb1⟩; rw [← HA.out]; have hB1 := from_ (w := w) hb1 (by have h := HBr.out; (repeat (first | with_reducible exact Below.refl _ _ | with_reducible assumption | ((with_reducible refine Below.setCell ?_ ?_ _); rotate_left; focus (first | exact Nat.le_refl _ | omega | exact Below.size (by assumption) | (simp; done) | (simp; omega))) | ((with_reducible refine Below.alloc ?_ ?_ _); rotate_left; focus (first | exact Nat.le_refl _ | omega | exact Below.size (by assumption) | (simp; done) | (simp; omega))) | (with_reducible refine Below.drew ?_) | (with_reducible refine drewN_ ?_ _)))); have HB1 := Lib.hid hB1; have HB3 := Lib.hid (from_ (w := ((w.alloc (.cells #[v1, v2] 35)).alloc (.cells #[.int .i64 t.obj, .int .i64 t.dev, .int .i64 t.start, .int .i64 t.speed, .slice (some ⟨b, off, none⟩) m c] 45))) hb1 (by have h := hB.out; (repeat (first | with_reducible exact Below.refl _ _ | with_reducible assumption | ((with_reducible refine Below.setCell ?_ ?_ _); rotate_left; focus (first | exact Nat.le_refl _ | omega | exact Below.size (by assumption) | (simp; done) | (simp; omega))) | ((with_reducible refine Below.alloc ?_ ?_ _); rotate_left; focus (first | exact Nat.le_refl _ | omega | exact Below.size (by assumption) | (simp; done) | (simp; omega))) | (with_reducible refine Below.drew ?_) | (with_reducible refine drewN_ ?_ _))))); have hz9 := hb1.size; simp at hz9; have z1 : wr.heap.size < w1.heap.size := (by omega); have z2 : w.heap.size < w1.heap.size := (by omega); have z4 : b < w1.heap.size := (by omega); have z3 : w.heap.size + 1 < w1.heap.size := (by omega); obtain ⟨hc1, hf1⟩ := bcell hb1; clear hB1 hb1))
              go_quiet (fail)
              go_wp2
              all_goals
                go_roundw
                case rel => exact ⟨k + 1, by go_num, by omega, by show _ = visErr n.nodes (some t.vis[k]!.node) _; rw [HE2.out, HX.out], by have h := HB3.out; show Below _ _ _; (repeat (first | with_reducible exact Below.refl _ _ | with_reducible assumption | ((with_reducible refine Below.setCell ?_ ?_ _); rotate_left; focus (first | exact Nat.le_refl _ | omega | exact Below.size (by assumption) | (simp; done) | (simp; omega))) | ((with_reducible refine Below.alloc ?_ ?_ _); rotate_left; focus (first | exact Nat.le_refl _ | omega | exact Below.size (by assumption) | (simp; done) | (simp; omega))) | (with_reducible refine Below.drew ?_) | (with_reducible refine drewN_ ?_ _)))⟩
                case measure => simp [intOf]; omega
    · obtain rfl : k = m := by omega
      have hv : visErr n.nodes none t.vis = 0 := by rw [hE.out, List.drop_eq_nil_of_le (by rw [HM.out]; exact Nat.le_refl _)]; rfl
      have HV0 := Lib.hid hv
      clear hv
      go_wp2
      go_ret
      exact ⟨by rw [HR.out, HV0.out]; rfl, by have h := HBr.out; (repeat (first | with_reducible exact Below.refl _ _ | with_reducible assumption | ((with_reducible refine Below.setCell ?_ ?_ _); rotate_left; focus (first | exact Nat.le_refl _ | omega | exact Below.size (by assumption) | (simp; done) | (simp; omega))) | ((with_reducible refine Below.alloc ?_ ?_ _); rotate_left; focus (first | exact Nat.le_refl _ | omega | exact Below.size (by assumption) | (simp; done) | (simp; omega))) | (with_reducible refine Below.drew ?_) | (with_reducible refine drewN_ ?_ _)))⟩
end Go.Proofs.Ythkhgfdjdpfoiaa
