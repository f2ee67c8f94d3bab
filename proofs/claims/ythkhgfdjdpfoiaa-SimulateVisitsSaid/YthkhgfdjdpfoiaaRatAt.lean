/-
  network.At and the model's legs: the right cells, nothing more.
-/
import Derived.Test.YthkhgfdjdpfoiaaP03
import Derived.Test.YthkhgfdjdpfoiaaP05
set_option linter.unusedSimpArgs false
set_option linter.unusedVariables false
namespace Go.Proofs.Ythkhgfdjdpfoiaa
open Go Go.RowKit Go.Vi
structure PlcD where (road : Int) (q : RatD)
abbrev PlcD.v (p : PlcD) : Value := .agg #[.int .i64 p.road, .bool p.q.b, .string p.q.s, .bool p.q.c, .string p.q.t]
def plc0 : PlcD := ⟨0, false, ⟨#[]⟩, false, ⟨#[]⟩⟩
set_option maxRecDepth 100000 in
set_option maxHeartbeats 2000000 in
theorem at_any (n : Net) (v1 v2 : Value) (x : Int) (w : World) (hN : NetAt w.heap.size w v1 v2 n) (hK : NetOK n) :
    Calls Try.prog 46 #[.agg #[v1, v2], .int .i64 x] w fun e w' => (∃ (p : PlcD) (c : Int), e = .returned (.tuple #[p.v, .int .i64 c])) ∧ Below w.heap.size w w' := by
  obtain ⟨a2, n2, c2, rfl, hn, hn1, hn2⟩ := hN.2.open
  rw [List.length_map] at hn
  have hn3 : n2 ≤ 1024 := by rw [← hn]; exact hK.few.2
  have HN := Lib.hid hN
  have HK := Lib.hid hK
  have HL := Lib.hid hn
  clear hN hK hn hn2
  cases hA : (nodeOf n.nodes x).isSome with
  | false =>
    have HA := Lib.hid hA
    clear hA
    go_enter Try.func46, Try.ntmps46
    go_wp2_with (go_at_call 8; refine (node_any n v1 _ x _ (HN.out.later (by (repeat (first | with_reducible exact Below.refl _ _ | with_reducible assumption | ((with_reducible refine Below.setCell ?_ ?_ _); rotate_left; focus (first | exact Nat.le_refl _ | omega | exact Below.size (by assumption) | (simp; done) | (simp; omega))) | ((with_reducible refine Below.alloc ?_ ?_ _); rotate_left; focus (first | exact Nat.le_refl _ | omega | exact Below.size (by assumption) | (simp; done) | (simp; omega))) | (with_reducible refine Below.drew ?_) | (with_reducible refine drewN_ ?_ _))))) HK.out.nodes (by have := HK.out.few; omega)).mono ?_; rintro e w1 ⟨rfl, hb1⟩; rw [HA.out]; have hB1 := from_ (w := w) hb1 (by (repeat (first | with_reducible exact Below.refl _ _ | with_reducible assumption | ((with_reducible refine Below.setCell ?_ ?_ _); rotate_left; focus (first | exact Nat.le_refl _ | omega | exact Below.size (by assumption) | (simp; done) | (simp; omega))) | ((with_reducible refine Below.alloc ?_ ?_ _); rotate_left; focus (first | exact Nat.le_refl _ | omega | exact Below.size (by assumption) | (simp; done) | (simp; omega))) | (with_reducible refine Below.drew ?_) | (with_reducible refine drewN_ ?_ _)))); have HB1 := Lib.hid hB1; have q1 := keepObj hb1 (obj_last2 w (.cells #[v1, .slice a2 n2 c2] 35) (.cells #[.int .i64 0, .bool false, .string ⟨#[]⟩, .bool false, .string ⟨#[]⟩] 140)); have f0 := obj_cell q1 0; have f1 := obj_cell q1 1; have f2 := obj_cell q1 2; have f3 := obj_cell q1 3; have f4 := obj_cell q1 4; have g0 := obj_free q1 0; have g1 := obj_free q1 1; have g2 := obj_free q1 2; have g3 := obj_free q1 3; have g4 := obj_free q1 4; simp at f0 f1 f2 f3 f4; have z1 := obj_lt q1; clear hB1 hb1 q1)
    refine bodyPost_ret (v := .tuple #[plc0.v, .int .i64 9]) (by simp [results, Try.results46, go_sem, f0, f1, f2, f3, f4, g0, g1, g2, g3, g4, z1, plc0]) rfl ⟨⟨_, _, rfl⟩, ?_⟩
    have hB := HB1.out
    (repeat (first | with_reducible exact Below.refl _ _ | with_reducible assumption | ((with_reducible refine Below.setCell ?_ ?_ _); rotate_left; focus (first | exact Nat.le_refl _ | omega | exact Below.size (by assumption) | (simp; done) | (simp; omega))) | ((with_reducible refine Below.alloc ?_ ?_ _); rotate_left; focus (first | exact Nat.le_refl _ | omega | exact Below.size (by assumption) | (simp; done) | (simp; omega))) | (with_reducible refine Below.drew ?_) | (with_reducible refine drewN_ ?_ _)))
  | true =>
    have HA := Lib.hid hA
    clear hA
    go_enter Try.func46, Try.ntmps46
    go_wp2_with (go_at_call 8; refine (node_any n v1 _ x _ (HN.out.later (by (repeat (first | with_reducible exact Below.refl _ _ | with_reducible assumption | ((with_reducible refine Below.setCell ?_ ?_ _); rotate_left; focus (first | exact Nat.le_refl _ | omega | exact Below.size (by assumption) | (simp; done) | (simp; omega))) | ((with_reducible refine Below.alloc ?_ ?_ _); rotate_left; focus (first | exact Nat.le_refl _ | omega | exact Below.size (by assumption) | (simp; done) | (simp; omega))) | (with_reducible refine Below.drew ?_) | (with_reducible refine drewN_ ?_ _))))) HK.out.nodes (by have := HK.out.few; omega)).mono ?_; rintro e w1 ⟨rfl, hb1⟩; rw [HA.out]; have hB1 := from_ (w := w) hb1 (by (repeat (first | with_reducible exact Below.refl _ _ | with_reducible assumption | ((with_reducible refine Below.setCell ?_ ?_ _); rotate_left; focus (first | exact Nat.le_refl _ | omega | exact Below.size (by assumption) | (simp; done) | (simp; omega))) | ((with_reducible refine Below.alloc ?_ ?_ _); rotate_left; focus (first | exact Nat.le_refl _ | omega | exact Below.size (by assumption) | (simp; done) | (simp; omega))) | (with_reducible refine Below.drew ?_) | (with_reducible refine drewN_ ?_ _)))); have HB1 := Lib.hid hB1; have q1 := keepObj hb1 (obj_last2 w (.cells #[v1, .slice a2 n2 c2] 35) (.cells #[.int .i64 0, .bool false, .string ⟨#[]⟩, .bool false, .string ⟨#[]⟩] 140)); have p1 := keepObj hb1 (obj_old (obj_last w (.cells #[v1, .slice a2 n2 c2] 35))); have c10 := obj_cell p1 0; have c11 := obj_cell p1 1; simp at c10 c11; have z1 := obj_lt p1; have z2 := obj_lt q1; have Q1 := Lib.hid q1; clear hB1 hb1 q1 p1)
    go_loopw [22] (fun s22 wr => ∃ k : Nat, s22 = .int .i64 k ∧ k ≤ n2 ∧ Hid (Below w1.heap.size w1 wr)) (fun s22 _ => n2 - (intOf s22).toNat)
    case atStart => exact ⟨0, rfl, Nat.zero_le _, by show Below _ _ _; (repeat (first | with_reducible exact Below.refl _ _ | with_reducible assumption | ((with_reducible refine Below.setCell ?_ ?_ _); rotate_left; focus (first | exact Nat.le_refl _ | omega | exact Below.size (by assumption) | (simp; done) | (simp; omega))) | ((with_reducible refine Below.alloc ?_ ?_ _); rotate_left; focus (first | exact Nat.le_refl _ | omega | exact Below.size (by assumption) | (simp; done) | (simp; omega))) | (with_reducible refine Below.drew ?_) | (with_reducible refine drewN_ ?_ _)))⟩
    case round =>
      obtain ⟨k, rfl, hk, hB⟩ := hrel
      have hBw := HB1.out.trans (hB.out.mono HB1.out.size)
      have HBW := Lib.hid hBw
      clear hBw
      have q := keepObj hB.out Q1.out
      have f0 := obj_cell q 0
      have f1 := obj_cell q 1
      have f2 := obj_cell q 2
      have f3 := obj_cell q 3
      have f4 := obj_cell q 4
      have g0 := obj_free q 0
      have g1 := obj_free q 1
      have g2 := obj_free q 2
      have g3 := obj_free q 3
      have g4 := obj_free q 4
      simp at f0 f1 f2 f3 f4
      have z3 := obj_lt q
      have Q2 := Lib.hid q
      clear q
      by_cases hlt : k < n2
      · have hkl : k < n.roads.length := by rw [HL.out]; exact hlt
        obtain ⟨b, off, rfl, hb, d⟩ := rd_cells HN.out.2 k hkl
        obtain ⟨d0, d1, d2, d3, d4, d5⟩ := d k hkl
        rw [← HBW.out.cell (p := ⟨b, _, none⟩) hb] at d0 d1 d2 d3 d4 d5
        have hz := HBW.out.size
        have hbz : b < wr.heap.size := by omega
        have hmem : n.roads[k]! ∈ n.roads := by rw [getElem!_pos n.roads k hkl]; exact List.getElem_mem hkl
        have hlen := HK.out.len _ hmem
        generalize n.roads[k]! = r at d0 d1 d2 d3 d4 d5 hlen
        clear d hmem
        by_cases hx : r.src = x ∨ r.dst = x
        · have HO := Lib.hid (obj_last wr (.cells #[.int .i64 r.id, .int .i64 r.src, .int .i64 r.dst, .int .i64 r.len, .int .i64 r.lim, .bool r.one] 85))
          have hor : (r.src == x) = true ∨ (r.src == x) = false ∧ (r.dst == x) = true := by
            rcases hx with h | h
            · exact .inl (by simpa using h)
            · by_cases h2 : r.src = x
              · exact .inl (by simpa using h2)
              · exact .inr ⟨by simpa using h2, by simpa using h⟩
          clear hx
          rcases hor with h1 | ⟨h1, h2⟩
          all_goals
            go_wp2_with fail
            go_region_held3 (fun w' => w'.cell? ⟨wr.heap.size, 0, none⟩ = some (.int .i64 r.id) ∧ w'.cell? ⟨wr.heap.size, 1, none⟩ = some (.int .i64 r.src) ∧ w'.cell? ⟨wr.heap.size, 2, none⟩ = some (.int .i64 r.dst) ∧ w'.cell? ⟨wr.heap.size, 3, none⟩ = some (.int .i64 r.len) ∧ w'.cell? ⟨wr.heap.size, 4, none⟩ = some (.int .i64 r.lim) ∧ w'.cell? ⟨wr.heap.size, 5, none⟩ = some (.bool r.one))
              ((go_split_ands; refine ⟨?_, ?_, ?_, ?_, ?_, ?_⟩ <;> (rw [obj_cell (by repeat (first | with_reducible exact obj_last _ _ | with_reducible exact HO2.out | with_reducible exact HO.out | with_reducible refine obj_drew ?_ | with_reducible refine obj_drewN ?_ | with_reducible refine obj_old ?_ | ((with_reducible refine obj_setOther ?_ ?_); rotate_left; focus (first | omega | (simp; done) | (simp; omega)))))]; rfl)))
              ((go_at_call 53; refine (roff_any r x _ (by omega) (by omega)).mono ?_; rintro e w2 ⟨⟨y, rfl⟩, hb2⟩; have HO2 := Lib.hid (keepObj hb2 (b := wr.heap.size) (o := (.cells #[.int .i64 r.id, .int .i64 r.src, .int .i64 r.dst, .int .i64 r.len, .int .i64 r.lim, .bool r.one] 85)) (by repeat (first | with_reducible exact obj_last _ _ | with_reducible exact HO.out | with_reducible refine obj_drew ?_ | with_reducible refine obj_drewN ?_ | with_reducible refine obj_old ?_ | ((with_reducible refine obj_setOther ?_ ?_); rotate_left; focus (first | omega | (simp; done) | (simp; omega)))))); have hB2 := from_ (w := w) hb2 (by have h := HBW.out; (repeat (first | with_reducible exact Below.refl _ _ | with_reducible assumption | ((with_reducible refine Below.setCell ?_ ?_ _); rotate_left; focus (first | exact Nat.le_refl _ | omega | exact Below.size (by assumption) | (simp; done) | (simp; omega))) | ((with_reducible refine Below.alloc ?_ ?_ _); rotate_left; focus (first | exact Nat.le_refl _ | omega | exact Below.size (by assumption) | (simp; done) | (simp; omega))) | (with_reducible refine Below.drew ?_) | (with_reducible refine drewN_ ?_ _)))); have q := keepObj hb2 (b := w.heap.size + 1) (o := (.cells #[.int .i64 0, .bool false, .string ⟨#[]⟩, .bool false, .string ⟨#[]⟩] 140)) (by repeat (first | with_reducible exact obj_last _ _ | with_reducible exact Q2.out | with_reducible refine obj_drew ?_ | with_reducible refine obj_drewN ?_ | with_reducible refine obj_old ?_ | ((with_reducible refine obj_setOther ?_ ?_); rotate_left; focus (first | omega | (simp; done) | (simp; omega))))); have a0 := obj_cell q 0; have a1 := obj_cell q 1; have a2 := obj_cell q 2; have a3 := obj_cell q 3; have a4 := obj_cell q 4; have b0 := obj_free q 0; have b1 := obj_free q 1; have b2 := obj_free q 2; have b3 := obj_free q 3; have b4 := obj_free q 4; simp at a0 a1 a2 a3 a4; have zz := obj_lt q; clear hb2 q))
            all_goals
              go_wp2_with fail
              refine bodyPost_ret (v := .tuple #[(⟨r.id, y⟩ : PlcD).v, .int .i64 0]) (by simp [results, Try.results46, go_sem, a0, a1, a2, a3, a4, b0, b1, b2, b3, b4, zz]) rfl ⟨⟨_, _, rfl⟩, ?_⟩
              have h := hB2
              (repeat (first | with_reducible exact Below.refl _ _ | with_reducible assumption | ((with_reducible refine Below.setCell ?_ ?_ _); rotate_left; focus (first | exact Nat.le_refl _ | omega | exact Below.size (by assumption) | (simp; done) | (simp; omega))) | ((with_reducible refine Below.alloc ?_ ?_ _); rotate_left; focus (first | exact Nat.le_refl _ | omega | exact Below.size (by assumption) | (simp; done) | (simp; omega))) | (with_reducible refine Below.drew ?_) | (with_reducible refine drewN_ ?_ _)))
        · have h1 : (r.src == x) = false := by simpa using fun h => hx (.inl h)
          have h2 : (r.dst == x) = false := by simpa using fun h => hx (.inr h)
          clear hx
          go_wp2_with fail
          go_roundw
          case rel => exact ⟨k + 1, by go_num, by omega, by have h := hB.out; have hz1 := hB.out.size; show Below _ _ _; (repeat (first | with_reducible exact Below.refl _ _ | with_reducible assumption | ((with_reducible refine Below.setCell ?_ ?_ _); rotate_left; focus (first | exact Nat.le_refl _ | omega | exact Below.size (by assumption) | (simp; done) | (simp; omega))) | ((with_reducible refine Below.alloc ?_ ?_ _); rotate_left; focus (first | exact Nat.le_refl _ | omega | exact Below.size (by assumption) | (simp; done) | (simp; omega))) | (with_reducible refine Below.drew ?_) | (with_reducible refine drewN_ ?_ _)))⟩
          case measure => simp [intOf]; omega
      · obtain rfl : k = n2 := by omega
        go_wp2_with fail
        refine bodyPost_ret (v := .tuple #[plc0.v, .int .i64 12]) (by simp [results, Try.results46, go_sem, f0, f1, f2, f3, f4, g0, g1, g2, g3, g4, z3, plc0]) rfl ⟨⟨_, _, rfl⟩, ?_⟩
        have h := HBW.out
        (repeat (first | with_reducible exact Below.refl _ _ | with_reducible assumption | ((with_reducible refine Below.setCell ?_ ?_ _); rotate_left; focus (first | exact Nat.le_refl _ | omega | exact Below.size (by assumption) | (simp; done) | (simp; omega))) | ((with_reducible refine Below.alloc ?_ ?_ _); rotate_left; focus (first | exact Nat.le_refl _ | omega | exact Below.size (by assumption) | (simp; done) | (simp; omega))) | (with_reducible refine Below.drew ?_) | (with_reducible refine drewN_ ?_ _)))
end Go.Proofs.Ythkhgfdjdpfoiaa
