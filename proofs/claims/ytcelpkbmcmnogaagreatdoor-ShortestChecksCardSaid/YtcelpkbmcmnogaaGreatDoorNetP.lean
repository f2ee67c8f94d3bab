/-
 Positions on a network, exactly: offset, CheckPlace, At, NodeAt, Normal, Same.
-/
import Derived.Test.YtcelpkbmcmnogaaGreatDoorLwC
import Derived.Test.YtcelpkbmcmnogaaGreatDoorRatA
set_option linter.unusedSimpArgs false
set_option linter.unusedVariables false
namespace Go.Proofs.YtcelpkbmcmnogaaGreatDoor
open Go Go.RowKit Go.Vi
attribute [local go_sem ↓] lo_lt lo_ne lo_ne'
attribute [local go_sem] junk_cell junk_frozen junk_setCell junk_drew drew_junk
/-- A position. -/
structure Plc where (road : Int) (off : Rat)
def Plc.v (p : Plc) : Value := .agg #[.int .i64 p.road, .bool (zs p.off.num), .string (zx p.off.num), .bool false, .string (ry p.off.den)]
def plz : Plc := ⟨0, 0⟩
theorem zero_v : rV 0 = .agg #[.bool false, .string ⟨#[]⟩, .bool false, .string ⟨#[]⟩] := by
 unfold rV
 rw [ry_nil (by rfl), show zs (0 : Rat).num = false from rfl, show zx (0 : Rat).num = ⟨#[]⟩ from magS_zero]
theorem plz_v : plz.v = .agg #[.int .i64 0, .bool false, .string ⟨#[]⟩, .bool false, .string ⟨#[]⟩] := by
 have h := zero_v
 unfold rV at h
 injection h with h
 injection h with h
 unfold Plc.v plz
 simp only [List.cons.injEq, and_true] at h
 rw [h.1, h.2.1, h.2.2.2]
theorem later_bw {w w' : World} {v1 v2 : Value} {n : Net} [h : Bw w w'] (hN : NetAt w.heap.size w v1 v2 n) : NetAt w'.heap.size w' v1 v2 n := hN.later h.b
/-- The offset of a node at an end of a road. -/
def offR (r : Rd) (x : Int) : Rat := if r.src = x then 0 else (r.len : Rat)
theorem offset_q (r : Rd) (x : Int) (w : World) (h : r.len.natAbs < 9223372036854775808) :
  Calls Tryz.prog 95 #[r.v, .int .i64 x] w fun e w' => e = .returned (rV (offR r x)) ∧ Below w.heap.size w w' := by
 unfold offR
 by_cases hx : r.src = x
 ·rw [if_pos hx, zero_v]
  have hb : (r.src == x) = true := by simpa using hx
  clear hx h
  go_enter Tryz.func95, Tryz.ntmps95
  go_wp2_with fail
  exact bodyPost_ret (v := .agg #[.bool false, .string ⟨#[]⟩, .bool false, .string ⟨#[]⟩]) (by simp [results, Tryz.results95, go_sem]) rfl ⟨rfl, Bw.b⟩
 ·rw [if_neg hx]
  have hb : (r.src == x) = false := by simpa using hx
  have HF := Lib.hid (fun w' => fromInt_q r.len w' h)
  generalize (r.len : Rat) = q at HF ⊢
  simp only [rV] at HF ⊢
  clear hx h
  go_enter Tryz.func95, Tryz.ntmps95
  go_wp2_with fail
  refine (jk (HF.out _)).mono ?_
  rintro e _ ⟨rfl, X, rfl⟩
  go_wp2_with fail
  exact bodyPost_ret (v := .agg #[.bool (zs q.num), .string (zx q.num), .bool false, .string (ry q.den)]) (by simp [results, Tryz.results95, go_sem]) rfl ⟨rfl, Bw.b⟩
/-- The error of a position: 9 is ErrNotFound, 2 is ErrRange. -/
def chkP (n : Net) (p : Plc) : Int := match roadOf n.roads p.road with
 | none => 9
 | some r => if p.off.num < 0 then 2 else if (r.len : Rat) < p.off then 2 else 0
theorem sm_int {z : Int} (h : z.natAbs < 2147483648) : Sm (z : Rat) := ⟨h, by show 1 < 2147483648; omega⟩
theorem road_in {n : Net} {id : Int} {r : Rd} (h : roadOf n.roads id = some r) : r ∈ n.roads := List.mem_of_find?_eq_some h
set_option maxHeartbeats 1000000 in
theorem checkPlace_q (n : Net) (v1 v2 : Value) (p : Plc) (w : World) (hN : NetAt w.heap.size w v1 v2 n) (hK : NetOK n) (hp : Sm p.off) :
  Calls Tryz.prog 32 #[.agg #[v1, v2], p.v] w fun e w' => e = .returned (.int .i64 (chkP n p)) ∧ Below w.heap.size w w' := by
 have HR : Hid (∀ (w' : World) [Bw w w'], Calls Tryz.prog 36 #[.agg #[v1, v2], .int .i64 p.road] w' fun e w2 => e = .returned (.tuple #[((roadOf n.roads p.road).getD rd0).v, .bool (roadOf n.roads p.road).isSome]) ∧ Below w'.heap.size w' w2) :=
  Lib.hid (fun w' _ => road_any n v1 v2 p.road w' (later_bw hN) hK.roads (by have := hK.few; omega))
 obtain ⟨hp1, hp2⟩ := hp
 unfold chkP
 cases hr : roadOf n.roads p.road with
 | none =>
  rw [hr] at HR
  simp only [Option.getD_none, Option.isSome_none] at HR
  unfold Plc.v
  clear hr hp1 hp2
  go_enter Tryz.func32, Tryz.ntmps32
  go_wp2_with fail
  refine (jk (HR.out _)).mono ?_
  rintro e _ ⟨rfl, X, rfl⟩
  go_wp2_with fail
  go_ret
  exact ⟨rfl, Bw.b⟩
 | some r =>
  rw [hr] at HR
  simp only [Option.getD_some, Option.isSome_some] at HR ⊢
  have hlen := hK.len r (road_in hr)
  have HC := Lib.hid (fun w' => check_q p.off w' (by omega) (by omega))
  have HS := Lib.hid (fun w' => sign_q p.off w' (by omega))
  have HF := Lib.hid (fun w' => fromInt_q r.len w' (by omega))
  have HQ := Lib.hid (fun w' => compare_q p.off (r.len : Rat) w' ⟨hp1, hp2⟩ (sm_int (by omega)))
  have hcm : cmpR p.off r.len = -1 ∨ cmpR p.off r.len = 0 ∨ cmpR p.off r.len = 1 := by unfold cmpR; split <;> (try split) <;> simp
  have hgt : (r.len : Rat) < p.off ↔ cmpR p.off r.len = 1 := by
   unfold cmpR
   by_cases h1 : p.off < (r.len : Rat)
   ·rw [if_pos h1]; exact ⟨fun h => by grind, fun h => by simp at h⟩
   ·rw [if_neg h1]
    by_cases h2 : (r.len : Rat) < p.off
    ·rw [if_pos h2]; simp [h2]
    ·rw [if_neg h2]; simp [h2]
  unfold Plc.v
  simp only [hgt]
  generalize cmpR p.off r.len = c at *
  generalize (r.len : Rat) = lq at *
  have hsg : (p.off.num < 0 ∧ sgnZ p.off.num = -1) ∨ (¬ p.off.num < 0 ∧ sgnZ p.off.num = 0) ∨ (¬ p.off.num < 0 ∧ sgnZ p.off.num = 1) := by
   unfold sgnZ
   by_cases h1 : p.off.num < 0
   ·rw [if_pos h1]; exact .inl ⟨h1, rfl⟩
   ·rw [if_neg h1]
    by_cases h2 : p.off.num = 0
    ·rw [if_pos h2]; exact .inr (.inl ⟨h1, rfl⟩)
    ·rw [if_neg h2]; exact .inr (.inr ⟨h1, rfl⟩)
  generalize sgnZ p.off.num = s at *
  simp only [rV] at HC HS HF HQ
  clear hr hgt hN hK hp1 hp2
  rcases hsg with ⟨h, rfl⟩ | ⟨h, rfl⟩ | ⟨h, rfl⟩
  ·rw [if_pos h]
   clear hcm h
   go_enter Tryz.func32, Tryz.ntmps32
   go_wp2_with fail
   refine (jk (HR.out _)).mono ?_
   rintro e _ ⟨rfl, X, rfl⟩
   go_wp2_with fail
   refine (jk (HC.out _)).mono ?_
   rintro e _ ⟨rfl, Y, rfl⟩
   go_wp2_with fail
   refine wp_jregion (by kernel_rfl) (by kernel_rfl) ?_
   repeat (go_big_quiet_step (first | (first | (with_reducible exact jq (HS.out _)) | (with_reducible exact jq (HF.out _)) | (with_reducible exact jq (HQ.out _))) | fail))
   refine wpQuiet_nil ?_
   rintro _ ⟨Z, rfl⟩
   go_wp2_with fail
   go_ret
   exact ⟨rfl, Bw.b⟩
  all_goals
   rw [if_neg h]
   clear h
   rcases hcm with rfl | rfl | rfl
   all_goals
    go_enter Tryz.func32, Tryz.ntmps32
    go_wp2_with fail
    refine (jk (HR.out _)).mono ?_
    rintro e _ ⟨rfl, X, rfl⟩
    go_wp2_with fail
    refine (jk (HC.out _)).mono ?_
    rintro e _ ⟨rfl, Y, rfl⟩
    go_wp2_with fail
    refine wp_jregion (by kernel_rfl) (by kernel_rfl) ?_
    repeat (go_big_quiet_step (first | (first | (with_reducible exact jq (HS.out _)) | (with_reducible exact jq (HF.out _)) | (with_reducible exact jq (HQ.out _))) | fail))
    refine wpQuiet_nil ?_
    rintro _ ⟨Z, rfl⟩
    go_wp2_with fail
    go_ret
    exact ⟨rfl, Bw.b⟩
/-- == on fractions. -/
theorem eqR_run (a b : Rat) (w : World) (ha : Sm a) (hb : Sm b) : (binOp .eql 41 (.agg #[.bool (zs a.num), .string (zx a.num), .bool false, .string (ry a.den)]) (.agg #[.bool (zs b.num), .string (zx b.num), .bool false, .string (ry b.den)])).run Tryz.prog w = .ok (.bool (decide (a = b))) w := by
 by_cases h : a = b
 ·subst h
  simp [go_sem]
 ·rw [decide_eq_false h]
  have HD := rV_ne ha hb h
  clear h ha hb
  generalize zs a.num = a0 at *
  generalize zs b.num = b0 at *
  generalize zx a.num = a1 at *
  generalize zx b.num = b1 at *
  generalize ry a.den = a2 at *
  generalize ry b.den = b2 at *
  rcases HD with hd | ⟨rfl, hd⟩ | ⟨rfl, rfl, hd⟩
  all_goals simp [go_sem, hd]
theorem eqG_run (a b : Rat) (x y : Operand) (w : World) : (eqGuard .eql 41 x y (.agg #[.bool (zs a.num), .string (zx a.num), .bool false, .string (ry a.den)]) (.agg #[.bool (zs b.num), .string (zx b.num), .bool false, .string (ry b.den)])).run Tryz.prog w = .ok () w := by simp [go_sem]
theorem eqP_run (p q : Plc) (w : World) (ha : Sm p.off) (hb : Sm q.off) : (binOp .eql 43 (.agg #[.int .i64 p.road, .bool (zs p.off.num), .string (zx p.off.num), .bool false, .string (ry p.off.den)]) (.agg #[.int .i64 q.road, .bool (zs q.off.num), .string (zx q.off.num), .bool false, .string (ry q.off.den)])).run Tryz.prog w = .ok (.bool (decide (p.road = q.road) && decide (p.off = q.off))) w := by
 obtain ⟨pr, a⟩ := p
 obtain ⟨qr, b⟩ := q
 simp only at ha hb ⊢
 by_cases hr : pr = qr
 ·subst hr
  by_cases h : a = b
  ·subst h
   simp [go_sem]
  ·rw [decide_eq_false h]
   have HD := rV_ne ha hb h
   clear h ha hb
   generalize zs a.num = a0 at *
   generalize zs b.num = b0 at *
   generalize zx a.num = a1 at *
   generalize zx b.num = b1 at *
   generalize ry a.den = a2 at *
   generalize ry b.den = b2 at *
   rcases HD with hd | ⟨rfl, hd⟩ | ⟨rfl, rfl, hd⟩
   all_goals simp [go_sem, hd]
 ·have h1 : (pr == qr) = false := by simpa using hr
  rw [decide_eq_false hr]
  simp [go_sem, h1]
theorem find_at {α : Type} [Inhabited α] (l : List α) (p : α → Bool) : ∀ (k : Nat), k < l.length → (∀ j, j < k → p l[j]! = false) → p l[k]! = true → l.find? p = some l[k]! := by
 induction l with
 | nil => intro k hk; simp at hk
 | cons x l ih =>
  intro k hk h hp
  cases k with
  | zero => simp at hp; simp [hp]
  | succ k =>
   have h0 := h 0 (by omega)
   simp at h0
   simp at hk
   rw [List.find?_cons, h0]
   exact ih k hk (fun j hj => by have := h (j + 1) (by omega); simpa using this) (by simpa using hp)
theorem find_no {α : Type} [Inhabited α] (l : List α) (p : α → Bool) (h : ∀ j, j < l.length → p l[j]! = false) : l.find? p = none := by
 rw [List.find?_eq_none]
 intro x hx
 obtain ⟨i, hi, rfl⟩ := List.mem_iff_getElem.1 hx
 have := h i hi
 rw [getElem!_pos l i hi] at this
 simp [this]
theorem junk_self (W : World) : W = W.junk W := (junk_of (Below.refl _ _)).symm
theorem ex_junk {W W' : World} [h : Bw W W'] : ∃ U, W' = W.junk U := ⟨W', (junk_of h.b).symm⟩
theorem junk_bw {W W' : World} [h : Bw W W'] : W' = W.junk W' := (junk_of h.b).symm
/-- The position of a node: its first road; 9 is ErrNotFound, 12 is ErrGap. -/
def atN (n : Net) (x : Int) : Plc × Int := if (nodeOf n.nodes x).isSome then match n.roads.find? (fun r => r.src == x || r.dst == x) with
 | some r => (⟨r.id, offR r x⟩, 0)
 | none => (plz, 12) else (plz, 9)
set_option maxHeartbeats 2000000 in
theorem at_q (n : Net) (v1 v2 : Value) (x : Int) (w : World) (hN : NetAt w.heap.size w v1 v2 n) (hK : NetOK n) :
  Calls Tryz.prog 91 #[.agg #[v1, v2], .int .i64 x] w fun e w' => e = .returned (.tuple #[(atN n x).1.v, .int .i64 (atN n x).2]) ∧ Below w.heap.size w w' := by
 have HE : Hid (∀ (w' : World) [Bw w w'], Calls Tryz.prog 78 #[.agg #[v1, v2], .int .i64 x] w' fun e w2 => e = .returned (.tuple #[((nodeOf n.nodes x).getD nd0).v, .bool (nodeOf n.nodes x).isSome]) ∧ Below w'.heap.size w' w2) :=
  Lib.hid (fun w' _ => node_any n v1 v2 x w' (later_bw hN) hK.nodes (by have := hK.few; omega))
 obtain ⟨a2, n2, c2, rfl, hn, hn1, hn2⟩ := hN.2.open
 rw [List.length_map] at hn
 have hn3 : n2 ≤ 1024 := by rw [← hn]; exact hK.few.2
 have HN := Lib.hid hN
 have HK := Lib.hid hK
 have HL := Lib.hid hn
 clear hN hK hn hn2
 unfold atN
 generalize (nodeOf n.nodes x).getD nd0 = nd at HE
 cases hA : (nodeOf n.nodes x).isSome with
 | false =>
  rw [hA] at HE
  simp only [Bool.false_eq_true, if_false, plz_v]
  clear hA
  go_enter Tryz.func91, Tryz.ntmps91
  go_wp2_with fail
  refine (jk (HE.out _)).mono ?_
  rintro e _ ⟨rfl, X, rfl⟩
  go_wp2_with fail
  exact bodyPost_ret (v := .tuple #[.agg #[.int .i64 0, .bool false, .string ⟨#[]⟩, .bool false, .string ⟨#[]⟩], .int .i64 9]) (by simp [results, Tryz.results91, go_sem]) rfl ⟨rfl, Bw.b⟩
 | true =>
  rw [hA] at HE
  simp only [if_true]
  clear hA
  obtain ⟨out, hout⟩ : ∃ o : Plc × Int, (match n.roads.find? (fun r => r.src == x || r.dst == x) with | some r => (⟨r.id, offR r x⟩, 0) | none => (plz, 12)) = o := ⟨_, rfl⟩
  rw [hout]
  have HR := Lib.hid hout
  clear hout
  go_enter Tryz.func91, Tryz.ntmps91
  go_wp2_with fail
  refine (jk (HE.out _)).mono ?_
  rintro e _ ⟨rfl, X1, rfl⟩
  go_wp2_with fail
  go_loopw [22] (fun s22 wr => ∃ k : Nat, s22 = .int .i64 k ∧ k ≤ n2 ∧ Hid (∀ j, j < k → ((n.roads[j]!).src == x || (n.roads[j]!).dst == x) = false) ∧ ∃ X, wr = ((((w.alloc (.cells #[v1, .slice a2 n2 c2] 36)).alloc (.cells #[.int .i64 0, .bool false, .string ⟨#[]⟩, .bool false, .string ⟨#[]⟩] 43)).junk X1).alloc (.cells #[.int .i64 nd.id, .int .i64 nd.x, .int .i64 nd.y] 71)).junk X) (fun s22 _ => n2 - (intOf s22).toNat)
  case atStart => exact ⟨0, rfl, Nat.zero_le _, fun j hj => by omega, _, junk_self _⟩
  case round =>
   obtain ⟨k, rfl, hk, hB, X, rfl⟩ := hrel
   by_cases hlt : k < n2
   ·have hkl : k < n.roads.length := by rw [HL.out]; exact hlt
    obtain ⟨b, off, rfl, hb, d⟩ := rd_cells HN.out.2 k hkl
    obtain ⟨d0, d1, d2, d3, d4, d5⟩ := d k hkl
    haveI : Lo b w := ⟨hb⟩
    have hmem : n.roads[k]! ∈ n.roads := by rw [getElem!_pos n.roads k hkl]; exact List.getElem_mem hkl
    have hlen := HK.out.len _ hmem
    have HO := Lib.hid (fun w' => offset_q n.roads[k]! x w' (by omega))
    cases hx : ((n.roads[k]!).src == x || (n.roads[k]!).dst == x) with
    | true =>
     have hR : (⟨(n.roads[k]!).id, offR n.roads[k]! x⟩, 0) = out := by
      rw [← HR.out, find_at n.roads (fun r => r.src == x || r.dst == x) k hkl hB.out hx]
     have HR2 := Lib.hid hR
     generalize n.roads[k]! = r at d0 d1 d2 d3 d4 d5 hlen hx HO HR2
     clear d hmem hB hR
     generalize hq : offR r x = q at HO HR2
     have hor : (r.src == x) = true ∨ (r.src == x) = false ∧ (r.dst == x) = true := by
      cases h : r.src == x
      ·right; exact ⟨rfl, by rw [h] at hx; exact hx⟩
      ·left; rfl
     clear hx hq hlen
     simp only [rV] at HO
     rcases hor with h1 | ⟨h1, h2⟩
     all_goals
      go_wp2_with fail
      refine wp_jtail 6 (by kernel_rfl) (by kernel_rfl) ?_
      simp only [List.take_succ_cons, List.take_zero, List.drop_succ_cons, List.drop_zero]
      repeat (go_big_quiet_step (first | (with_reducible exact jq (HO.out _)) | fail))
      refine wpQuiet_nil ?_
      rintro _ ⟨Y, rfl⟩
      go_wp2_with fail
      exact bodyPost_ret (v := .tuple #[.agg #[.int .i64 r.id, .bool (zs q.num), .string (zx q.num), .bool false, .string (ry q.den)], .int .i64 0]) (by simp [results, Tryz.results91, go_sem]) rfl ⟨by rw [← HR2.out]; rfl, Bw.b⟩
    | false =>
     have hB2 : Hid (∀ j, j < k + 1 → ((n.roads[j]!).src == x || (n.roads[j]!).dst == x) = false) := Lib.hid (fun j hj => by
      rcases Nat.lt_or_ge j k with h | h
      ·exact hB.out j h
      ·obtain rfl : j = k := by omega
       exact hx)
     generalize n.roads[k]! = r at d0 d1 d2 d3 d4 d5 hlen hx HO
     clear d hmem hB HO hlen
     have h1 : (r.src == x) = false := by cases h : r.src == x <;> simp_all
     have h2 : (r.dst == x) = false := by cases h : r.dst == x <;> simp_all
     clear hx
     go_wp2_with fail
     go_roundw
     case rel => exact ⟨k + 1, by go_num, by omega, hB2, _, junk_bw⟩
     case measure => simp [intOf]; omega
   ·obtain rfl : k = n2 := by omega
    have hR : (plz, 12) = out := by
     rw [← HR.out, find_no n.roads (fun r => r.src == x || r.dst == x) (fun j hj => hB.out j (by rw [← HL.out]; exact hj))]
    have HR2 := Lib.hid hR
    clear hB hR
    go_wp2_with fail
    exact bodyPost_ret (v := .tuple #[.agg #[.int .i64 0, .bool false, .string ⟨#[]⟩, .bool false, .string ⟨#[]⟩], .int .i64 12]) (by simp [results, Tryz.results91, go_sem]) rfl ⟨by rw [← HR2.out, plz_v], Bw.b⟩
theorem chk_vals (n : Net) (p : Plc) : chkP n p = 0 ∨ chkP n p = 2 ∨ chkP n p = 9 := by
 unfold chkP
 cases roadOf n.roads p.road with
 | none => simp
 | some r => simp only; split <;> (try split) <;> simp
theorem chk_road {n : Net} {p : Plc} (h : chkP n p = 0) : ∃ r, roadOf n.roads p.road = some r := by
 unfold chkP at h
 cases hr : roadOf n.roads p.road with
 | none => rw [hr] at h; simp at h
 | some r => exact ⟨r, rfl⟩
theorem sm_zero : Sm 0 := ⟨by decide, by decide⟩
theorem sm_off {r : Rd} (x : Int) (h : 1 ≤ r.len ∧ r.len ≤ 1073741824) : Sm (offR r x) := by
 unfold offR
 split
 ·exact sm_zero
 ·exact sm_int (by omega)
/-- The node of a position. -/
def nodeAtN (n : Net) (p : Plc) : Option Int := if chkP n p = 0 then match roadOf n.roads p.road with
 | none => none
 | some r => if p.off = offR r r.src then some r.src else if p.off = offR r r.dst then some r.dst else none
 else none
theorem road_bw {n : Net} {v1 v2 : Value} {w : World} (hN : NetAt w.heap.size w v1 v2 n) (hK : NetOK n) (id : Int) : Hid (∀ (w' : World) [Bw w w'], Calls Tryz.prog 36 #[.agg #[v1, v2], .int .i64 id] w' fun e w2 => e = .returned (.tuple #[((roadOf n.roads id).getD rd0).v, .bool (roadOf n.roads id).isSome]) ∧ Below w'.heap.size w' w2) :=
 Lib.hid (fun w' _ => road_any n v1 v2 id w' (later_bw hN) hK.roads (by have := hK.few; omega))
theorem chk_bw {n : Net} {v1 v2 : Value} {w : World} (hN : NetAt w.heap.size w v1 v2 n) (hK : NetOK n) (p : Plc) (hp : Sm p.off) : Hid (∀ (w' : World) [Bw w w'], Calls Tryz.prog 32 #[.agg #[v1, v2], p.v] w' fun e w2 => e = .returned (.int .i64 (chkP n p)) ∧ Below w'.heap.size w' w2) :=
 Lib.hid (fun w' _ => checkPlace_q n v1 v2 p w' (later_bw hN) hK hp)
attribute [local go_sem high] eqR_run eqG_run eqP_run
set_option maxHeartbeats 2000000 in
theorem nodeAt_q (n : Net) (v1 v2 : Value) (p : Plc) (w : World) (hN : NetAt w.heap.size w v1 v2 n) (hK : NetOK n) (hp : Sm p.off) :
  Calls Tryz.prog 56 #[.agg #[v1, v2], p.v] w fun e w' => e = .returned (.tuple #[.int .i64 ((nodeAtN n p).getD 0), .bool (nodeAtN n p).isSome]) ∧ Below w.heap.size w w' := by
 have HC := chk_bw hN hK p hp
 have HR := road_bw hN hK p.road
 have hv := chk_vals n p
 unfold nodeAtN
 by_cases h0 : chkP n p = 0
 ·rw [h0] at HC
  simp only [h0, if_true]
  obtain ⟨r, hr⟩ := chk_road h0
  rw [hr] at HR
  simp only [hr, Option.getD_some, Option.isSome_some] at HR ⊢
  have hl := hK.len r (road_in hr)
  have s0 := sm_off r.src hl
  have s1 := sm_off r.dst hl
  have H0 := Lib.hid (fun w' => offset_q r r.src w' (by omega))
  have H1 := Lib.hid (fun w' => offset_q r r.dst w' (by omega))
  generalize offR r r.src = q0 at *
  generalize offR r r.dst = q1 at *
  obtain ⟨out, hout⟩ : ∃ o : Option Int, (if p.off = q0 then some r.src else if p.off = q1 then some r.dst else none) = o := ⟨_, rfl⟩
  rw [hout]
  have HT := Lib.hid hout
  have i0 : ∀ w, (Instr.index 172 (.agg #[.int .i64 r.src, .int .i64 r.dst]) (.int .i64 0)).run Tryz.prog w = .ok (.int .i64 r.src) w := fun _ => by kernel_rfl
  have i1 : ∀ w, (Instr.index 172 (.agg #[.int .i64 r.src, .int .i64 r.dst]) (.int .i64 1)).run Tryz.prog w = .ok (.int .i64 r.dst) w := fun _ => by kernel_rfl
  unfold Plc.v at HC ⊢
  simp only [rV] at H0 H1
  clear h0 hv hr hl hout hN hK
  go_enter Tryz.func56, Tryz.ntmps56
  go_wp2_with fail
  refine (jk (HC.out _)).mono ?_
  rintro e _ ⟨rfl, X, rfl⟩
  go_wp2_with fail
  refine (jk (HR.out _)).mono ?_
  rintro e _ ⟨rfl, Y, rfl⟩
  go_wp2_with fail
  go_loopw [9, 26] (fun s9 s26 wr => ∃ k : Nat, s26 = .int .i64 k ∧ k ≤ 2 ∧ Hid (0 < k → p.off ≠ q0) ∧ Hid (1 < k → p.off ≠ q1) ∧ ∃ Z, wr = (((((w.alloc (.cells #[v1, v2] 36)).alloc (.cells #[.int .i64 p.road, .bool (zs p.off.num), .string (zx p.off.num), .bool false, .string (ry p.off.den)] 43)).junk X).junk Y).alloc (.cells #[.int .i64 r.id, .int .i64 r.src, .int .i64 r.dst, .int .i64 r.len, .int .i64 r.lim, .bool r.one] 53)).junk Z) (fun _ s26 _ => 2 - (intOf s26).toNat)
  case atStart => exact ⟨0, rfl, by omega, fun h => by omega, fun h => by omega, _, junk_self _⟩
  case round =>
   obtain ⟨k, rfl, hk, F0, F1, Z, rfl⟩ := hrel
   obtain rfl | rfl | rfl : k = 0 ∨ k = 1 ∨ k = 2 := by omega
   ·by_cases hq : p.off = q0
    ·have hd : decide (p.off = q0) = true := by simpa using hq
     have HT2 : Hid (some r.src = out) := Lib.hid (by rw [← HT.out, if_pos hq])
     clear hq F0 F1 HT
     go_wp2_with fail
     refine wp_jregion (by kernel_rfl) (by kernel_rfl) ?_
     repeat (go_big_quiet_step (first | (with_reducible exact jq (H0.out _)) | fail))
     refine wpQuiet_nil ?_
     rintro _ ⟨Z2, rfl⟩
     go_wp2_with fail
     go_ret2
     exact ⟨by rw [← HT2.out]; rfl, Bw.b⟩
    ·have hd : decide (p.off = q0) = false := by simpa using hq
     have G0 : Hid (p.off ≠ q0) := Lib.hid hq
     clear hq F0 F1
     go_wp2_with fail
     refine wp_jregion (by kernel_rfl) (by kernel_rfl) ?_
     repeat (go_big_quiet_step (first | (with_reducible exact jq (H0.out _)) | fail))
     refine wpQuiet_nil ?_
     rintro _ ⟨Z2, rfl⟩
     go_wp2_with fail
     go_roundw
     case rel => exact ⟨1, by go_num, by omega, fun _ => G0.out, fun h => by omega, _, junk_bw⟩
     case measure => simp [intOf]
   ·have G0 : Hid (p.off ≠ q0) := Lib.hid (F0.out (by omega))
    by_cases hq : p.off = q1
    ·have hd : decide (p.off = q1) = true := by simpa using hq
     have HT2 : Hid (some r.dst = out) := Lib.hid (by rw [← HT.out, if_neg G0.out, if_pos hq])
     clear hq F0 F1 HT
     go_wp2_with fail
     refine wp_jregion (by kernel_rfl) (by kernel_rfl) ?_
     repeat (go_big_quiet_step (first | (with_reducible exact jq (H1.out _)) | fail))
     refine wpQuiet_nil ?_
     rintro _ ⟨Z2, rfl⟩
     go_wp2_with fail
     go_ret2
     exact ⟨by rw [← HT2.out]; rfl, Bw.b⟩
    ·have hd : decide (p.off = q1) = false := by simpa using hq
     have G1 : Hid (p.off ≠ q1) := Lib.hid hq
     clear hq F0 F1
     go_wp2_with fail
     refine wp_jregion (by kernel_rfl) (by kernel_rfl) ?_
     repeat (go_big_quiet_step (first | (with_reducible exact jq (H1.out _)) | fail))
     refine wpQuiet_nil ?_
     rintro _ ⟨Z2, rfl⟩
     go_wp2_with fail
     go_roundw
     case rel => exact ⟨2, by go_num, by omega, fun _ => G0.out, fun _ => G1.out, _, junk_bw⟩
     case measure => simp [intOf]
   ·have HT2 : Hid (none = out) := Lib.hid (by rw [← HT.out, if_neg (F0.out (by omega)), if_neg (F1.out (by omega))])
    clear F0 F1
    go_wp2_with fail
    go_ret2
    exact ⟨by rw [← HT2.out]; rfl, Bw.b⟩
 ·have hv2 : chkP n p = 2 ∨ chkP n p = 9 := hv.resolve_left h0
  simp only [h0, if_false, Option.getD_none, Option.isSome_none]
  unfold Plc.v at HC ⊢
  generalize chkP n p = c at *
  clear h0 hv hN hK
  rcases hv2 with rfl | rfl
  all_goals
   go_enter Tryz.func56, Tryz.ntmps56
   go_wp2_with fail
   refine (jk (HC.out _)).mono ?_
   rintro e _ ⟨rfl, X, rfl⟩
   go_wp2_with fail
   go_ret2
   exact ⟨rfl, Bw.b⟩
end Go.Proofs.YtcelpkbmcmnogaaGreatDoor
