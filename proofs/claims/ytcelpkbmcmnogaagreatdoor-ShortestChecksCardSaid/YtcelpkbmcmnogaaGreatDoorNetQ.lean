/-
 Positions on a network, exactly: Normal, Same, offsets, Mirror.
-/
import Derived.Test.YtcelpkbmcmnogaaGreatDoorNetP
set_option linter.unusedSimpArgs false
set_option linter.unusedVariables false
namespace Go.Proofs.YtcelpkbmcmnogaaGreatDoor
open Go Go.RowKit Go.Vi
attribute [local go_sem ↓] lo_lt lo_ne lo_ne'
attribute [local go_sem] junk_cell junk_frozen junk_setCell junk_drew drew_junk
attribute [local go_sem high] eqR_run eqG_run eqP_run
theorem node_bw {n : Net} {v1 v2 : Value} {w : World} (hN : NetAt w.heap.size w v1 v2 n) (hK : NetOK n) (p : Plc) (hp : Sm p.off) : Hid (∀ (w' : World) [Bw w w'], Calls Tryz.prog 56 #[.agg #[v1, v2], p.v] w' fun e w2 => e = .returned (.tuple #[.int .i64 ((nodeAtN n p).getD 0), .bool (nodeAtN n p).isSome]) ∧ Below w'.heap.size w' w2) :=
 Lib.hid (fun w' _ => nodeAt_q n v1 v2 p w' (later_bw hN) hK hp)
theorem at_bw {n : Net} {v1 v2 : Value} {w : World} (hN : NetAt w.heap.size w v1 v2 n) (hK : NetOK n) (x : Int) : Hid (∀ (w' : World) [Bw w w'], Calls Tryz.prog 91 #[.agg #[v1, v2], .int .i64 x] w' fun e w2 => e = .returned (.tuple #[(atN n x).1.v, .int .i64 (atN n x).2]) ∧ Below w'.heap.size w' w2) :=
 Lib.hid (fun w' _ => at_q n v1 v2 x w' (later_bw hN) hK)
/-- The normal form of a position, or the error. -/
def normN (n : Net) (p : Plc) : Plc × Int := if chkP n p = 0 then match nodeAtN n p with
 | some x => atN n x
 | none => (p, 0) else (plz, chkP n p)
theorem sm_at {n : Net} (hK : NetOK n) (x : Int) : Sm (atN n x).1.off := by
 unfold atN
 split
 ·cases hf : n.roads.find? (fun r => r.src == x || r.dst == x) with
  | none => exact sm_zero
  | some r => exact sm_off x (hK.len r (List.mem_of_find?_eq_some hf))
 ·exact sm_zero
theorem sm_norm {n : Net} (hK : NetOK n) {p : Plc} (hp : Sm p.off) : Sm (normN n p).1.off := by
 unfold normN
 split
 ·cases nodeAtN n p with
  | none => exact hp
  | some x => exact sm_at hK x
 ·exact sm_zero
set_option maxHeartbeats 1000000 in
theorem normal_q (n : Net) (v1 v2 : Value) (p : Plc) (w : World) (hN : NetAt w.heap.size w v1 v2 n) (hK : NetOK n) (hp : Sm p.off) :
  Calls Tryz.prog 51 #[.agg #[v1, v2], p.v] w fun e w' => e = .returned (.tuple #[(normN n p).1.v, .int .i64 (normN n p).2]) ∧ Below w.heap.size w w' := by
 have HC := chk_bw hN hK p hp
 have HD := node_bw hN hK p hp
 have hv := chk_vals n p
 unfold normN
 by_cases h0 : chkP n p = 0
 ·rw [h0] at HC
  simp only [h0, if_true]
  cases hx : nodeAtN n p with
  | none =>
   rw [hx] at HD
   unfold Plc.v at HC HD ⊢
   clear h0 hv hN hK hx
   go_enter Tryz.func51, Tryz.ntmps51
   go_wp2_with fail
   refine (jk (HC.out _)).mono ?_
   rintro e _ ⟨rfl, X, rfl⟩
   go_wp2_with fail
   refine (jk (HD.out _)).mono ?_
   rintro e _ ⟨rfl, Y, rfl⟩
   go_wp2_with fail
   exact bodyPost_ret (v := .tuple #[.agg #[.int .i64 p.road, .bool (zs p.off.num), .string (zx p.off.num), .bool false, .string (ry p.off.den)], .int .i64 0]) (by simp [results, Tryz.results51, go_sem]) rfl ⟨rfl, Bw.b⟩
  | some x =>
   rw [hx] at HD
   have HA := at_bw hN hK x
   simp only
   generalize (atN n x).1 = q at HA ⊢
   generalize (atN n x).2 = c at HA ⊢
   unfold Plc.v at HC HD HA ⊢
   clear h0 hv hN hK hx
   go_enter Tryz.func51, Tryz.ntmps51
   go_wp2_with fail
   refine (jk (HC.out _)).mono ?_
   rintro e _ ⟨rfl, X, rfl⟩
   go_wp2_with fail
   refine (jk (HD.out _)).mono ?_
   rintro e _ ⟨rfl, Y, rfl⟩
   go_wp2_with fail
   refine (jk (HA.out _)).mono ?_
   rintro e _ ⟨rfl, Z, rfl⟩
   go_wp2_with fail
   exact bodyPost_ret (v := .tuple #[.agg #[.int .i64 q.road, .bool (zs q.off.num), .string (zx q.off.num), .bool false, .string (ry q.off.den)], .int .i64 c]) (by simp [results, Tryz.results51, go_sem]) rfl ⟨rfl, Bw.b⟩
 ·have hv2 : chkP n p = 2 ∨ chkP n p = 9 := hv.resolve_left h0
  simp only [h0, if_false, plz_v]
  unfold Plc.v at HC ⊢
  generalize chkP n p = c at *
  clear h0 hv hN hK HD
  rcases hv2 with rfl | rfl
  ·go_enter Tryz.func51, Tryz.ntmps51
   go_wp2_with fail
   refine (jk (HC.out _)).mono ?_
   rintro e _ ⟨rfl, X, rfl⟩
   go_wp2_with fail
   exact bodyPost_ret (v := .tuple #[.agg #[.int .i64 0, .bool false, .string ⟨#[]⟩, .bool false, .string ⟨#[]⟩], .int .i64 2]) (by simp [results, Tryz.results51, go_sem]) rfl ⟨rfl, Bw.b⟩
  ·go_enter Tryz.func51, Tryz.ntmps51
   go_wp2_with fail
   refine (jk (HC.out _)).mono ?_
   rintro e _ ⟨rfl, X, rfl⟩
   go_wp2_with fail
   exact bodyPost_ret (v := .tuple #[.agg #[.int .i64 0, .bool false, .string ⟨#[]⟩, .bool false, .string ⟨#[]⟩], .int .i64 9]) (by simp [results, Tryz.results51, go_sem]) rfl ⟨rfl, Bw.b⟩
theorem norm_bw {n : Net} {v1 v2 : Value} {w : World} (hN : NetAt w.heap.size w v1 v2 n) (hK : NetOK n) (p : Plc) (hp : Sm p.off) : Hid (∀ (w' : World) [Bw w w'], Calls Tryz.prog 51 #[.agg #[v1, v2], p.v] w' fun e w2 => e = .returned (.tuple #[(normN n p).1.v, .int .i64 (normN n p).2]) ∧ Below w'.heap.size w' w2) :=
 Lib.hid (fun w' _ => normal_q n v1 v2 p w' (later_bw hN) hK hp)
/-- Are two positions the same? -/
def sameN (n : Net) (p q : Plc) : Bool := ((normN n p).2 == 0) && ((normN n q).2 == 0) && (decide ((normN n p).1.road = (normN n q).1.road) && decide ((normN n p).1.off = (normN n q).1.off))
set_option maxHeartbeats 1000000 in
theorem same_q (n : Net) (v1 v2 : Value) (p q : Plc) (w : World) (hN : NetAt w.heap.size w v1 v2 n) (hK : NetOK n) (hp : Sm p.off) (hq : Sm q.off) :
  Calls Tryz.prog 17 #[.agg #[v1, v2], p.v, q.v] w fun e w' => e = .returned (.bool (sameN n p q)) ∧ Below w.heap.size w w' := by
 have HP := norm_bw hN hK p hp
 have HQ := norm_bw hN hK q hq
 have s0 := sm_norm hK hp
 have s1 := sm_norm hK hq
 unfold sameN
 generalize (normN n p).1 = a at *
 generalize (normN n q).1 = b at *
 generalize (normN n p).2 = c at *
 generalize (normN n q).2 = d at *
 unfold Plc.v at HP HQ ⊢
 clear hN hK hp hq
 cases h1 : (c == (0 : Int)) <;> cases h2 : (d == (0 : Int))
 all_goals
  go_enter Tryz.func17, Tryz.ntmps17
  go_wp2_with fail
  refine (jk (HP.out _)).mono ?_
  rintro e _ ⟨rfl, X, rfl⟩
  go_wp2_with fail
  refine (jk (HQ.out _)).mono ?_
  rintro e _ ⟨rfl, Y, rfl⟩
  go_wp2_with fail
  go_ret
  exact ⟨rfl, Bw.b⟩
theorem same_bw {n : Net} {v1 v2 : Value} {w : World} (hN : NetAt w.heap.size w v1 v2 n) (hK : NetOK n) (p q : Plc) (hp : Sm p.off) (hq : Sm q.off) : Hid (∀ (w' : World) [Bw w w'], Calls Tryz.prog 17 #[.agg #[v1, v2], p.v, q.v] w' fun e w2 => e = .returned (.bool (sameN n p q)) ∧ Below w'.heap.size w' w2) :=
 Lib.hid (fun w' _ => same_q n v1 v2 p q w' (later_bw hN) hK hp hq)
/-- The offset of a position on a road, if it lies on it. -/
def offsN (n : Net) (r : Rd) (p : Plc) : Option Rat := if p.road = r.id then some p.off else match nodeAtN n p with
 | some x => if r.src = x ∨ r.dst = x then some (offR r x) else none
 | none => none
set_option maxHeartbeats 1000000 in
theorem offsets_q (n : Net) (v1 v2 : Value) (r : Rd) (p : Plc) (w : World) (hN : NetAt w.heap.size w v1 v2 n) (hK : NetOK n) (hp : Sm p.off) (hr : 1 ≤ r.len ∧ r.len ≤ 1073741824) :
  Calls Tryz.prog 55 #[.agg #[v1, v2], r.v, p.v] w fun e w' => e = .returned (.tuple #[rV ((offsN n r p).getD 0), .bool (offsN n r p).isSome]) ∧ Below w.heap.size w w' := by
 have HD := node_bw hN hK p hp
 unfold offsN
 by_cases hi : p.road = r.id
 ·have hb : (p.road == r.id) = true := by simpa using hi
  rw [if_pos hi]
  simp only [Option.getD_some, Option.isSome_some]
  unfold Plc.v rV
  clear hi HD hN hK hr
  go_enter Tryz.func55, Tryz.ntmps55
  go_wp2_with fail
  exact bodyPost_ret (v := .tuple #[.agg #[.bool (zs p.off.num), .string (zx p.off.num), .bool false, .string (ry p.off.den)], .bool true]) (by simp [results, Tryz.results55, go_sem]) rfl ⟨rfl, Bw.b⟩
 ·have hb : (p.road == r.id) = false := by simpa using hi
  rw [if_neg hi]
  cases hx : nodeAtN n p with
  | none =>
   rw [hx] at HD
   simp only [Option.getD_none, Option.isSome_none, zero_v]
   unfold Plc.v at HD ⊢
   clear hi hN hK hr hx
   go_enter Tryz.func55, Tryz.ntmps55
   go_wp2_with fail
   refine (jk (HD.out _)).mono ?_
   rintro e _ ⟨rfl, X, rfl⟩
   go_wp2_with fail
   exact bodyPost_ret (v := .tuple #[.agg #[.bool false, .string ⟨#[]⟩, .bool false, .string ⟨#[]⟩], .bool false]) (by simp [results, Tryz.results55, go_sem]) rfl ⟨rfl, Bw.b⟩
  | some x =>
   rw [hx] at HD
   simp only [Option.getD_some, Option.isSome_some] at HD ⊢
   have HO := Lib.hid (fun w' => offset_q r x w' (by omega))
   generalize offR r x = o at HO ⊢
   have hc : ((r.src == x) = true ∧ (r.src = x ∨ r.dst = x)) ∨ ((r.src == x) = false ∧ (r.dst == x) = true ∧ (r.src = x ∨ r.dst = x)) ∨ ((r.src == x) = false ∧ (r.dst == x) = false ∧ ¬(r.src = x ∨ r.dst = x)) := by
    by_cases h1 : r.src = x <;> by_cases h2 : r.dst = x <;> simp [h1, h2]
   unfold Plc.v at HD ⊢
   clear hi hN hK hr hx
   rcases hc with ⟨h1, h⟩ | ⟨h1, h2, h⟩ | ⟨h1, h2, h⟩
   ·simp only [if_pos h, Option.getD_some, Option.isSome_some]
    unfold rV at HO ⊢
    clear h
    go_enter Tryz.func55, Tryz.ntmps55
    go_wp2_with fail
    refine (jk (HD.out _)).mono ?_
    rintro e _ ⟨rfl, X, rfl⟩
    go_wp2_with fail
    refine (jk (HO.out _)).mono ?_
    rintro e _ ⟨rfl, Y, rfl⟩
    go_wp2_with fail
    exact bodyPost_ret (v := .tuple #[.agg #[.bool (zs o.num), .string (zx o.num), .bool false, .string (ry o.den)], .bool true]) (by simp [results, Tryz.results55, go_sem]) rfl ⟨rfl, Bw.b⟩
   ·simp only [if_pos h, Option.getD_some, Option.isSome_some]
    unfold rV at HO ⊢
    clear h
    go_enter Tryz.func55, Tryz.ntmps55
    go_wp2_with fail
    refine (jk (HD.out _)).mono ?_
    rintro e _ ⟨rfl, X, rfl⟩
    go_wp2_with fail
    refine (jk (HO.out _)).mono ?_
    rintro e _ ⟨rfl, Y, rfl⟩
    go_wp2_with fail
    exact bodyPost_ret (v := .tuple #[.agg #[.bool (zs o.num), .string (zx o.num), .bool false, .string (ry o.den)], .bool true]) (by simp [results, Tryz.results55, go_sem]) rfl ⟨rfl, Bw.b⟩
   ·simp only [if_neg h, Option.getD_none, Option.isSome_none, zero_v]
    clear h HO
    go_enter Tryz.func55, Tryz.ntmps55
    go_wp2_with fail
    refine (jk (HD.out _)).mono ?_
    rintro e _ ⟨rfl, X, rfl⟩
    go_wp2_with fail
    exact bodyPost_ret (v := .tuple #[.agg #[.bool false, .string ⟨#[]⟩, .bool false, .string ⟨#[]⟩], .bool false]) (by simp [results, Tryz.results55, go_sem]) rfl ⟨rfl, Bw.b⟩
theorem offsets_bw {n : Net} {v1 v2 : Value} {w : World} (hN : NetAt w.heap.size w v1 v2 n) (hK : NetOK n) (r : Rd) (p : Plc) (hp : Sm p.off) (hr : 1 ≤ r.len ∧ r.len ≤ 1073741824) : Hid (∀ (w' : World) [Bw w w'], Calls Tryz.prog 55 #[.agg #[v1, v2], r.v, p.v] w' fun e w2 => e = .returned (.tuple #[rV ((offsN n r p).getD 0), .bool (offsN n r p).isSome]) ∧ Below w'.heap.size w' w2) :=
 Lib.hid (fun w' _ => offsets_q n v1 v2 r p w' (later_bw hN) hK hp hr)
end Go.Proofs.YtcelpkbmcmnogaaGreatDoor
