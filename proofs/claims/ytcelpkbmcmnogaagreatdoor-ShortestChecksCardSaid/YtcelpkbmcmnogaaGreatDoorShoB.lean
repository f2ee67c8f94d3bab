/-
 Ways, exactly: along.
-/
import Derived.Test.YtcelpkbmcmnogaaGreatDoorEndA
set_option linter.unusedSimpArgs false
set_option linter.unusedVariables false
namespace Go.Proofs.YtcelpkbmcmnogaaGreatDoor
open Go Go.RowKit Go.Vi
attribute [local go_sem ↓] lo_lt lo_ne lo_ne'
attribute [local go_sem] junk_cell junk_frozen junk_setCell junk_drew drew_junk
attribute [local go_sem high] eqR_run eqG_run eqP_run
/-- A leg. -/
structure Lg where (road : Int) (a b : Rat)
instance : Inhabited Lg := ⟨⟨0, 0, 0⟩⟩
def Lg.cs (x : Lg) : List Value := [.int .i64 x.road, .bool (zs x.a.num), .string (zx x.a.num), .bool false, .string (ry x.a.den), .bool (zs x.b.num), .string (zx x.b.num), .bool false, .string (ry x.b.den)]
abbrev Lg.v (x : Lg) : Value := .agg #[.int .i64 x.road, .bool (zs x.a.num), .string (zx x.a.num), .bool false, .string (ry x.a.den), .bool (zs x.b.num), .string (zx x.b.num), .bool false, .string (ry x.b.den)]
/-- The leg along one road, if it has the length. -/
def alongP (n : Net) (p q : Plc) (len : Rat) (r : Rd) : Option Lg := match offsN n r p, offsN n r q with
 | some a, some b => if (r.one = false ∨ 0 < (b - a).num) ∧ absR (b - a) = len then some ⟨r.id, a, b⟩ else none
 | _, _ => none
def alongN (n : Net) (p q : Plc) (len : Rat) : Option Lg := n.roads.findSome? (alongP n p q len)
theorem some_at {α β : Type} [Inhabited α] (l : List α) (f : α → Option β) : ∀ (k : Nat), k < l.length → (∀ j, j < k → f l[j]! = none) → ∀ b, f l[k]! = some b → l.findSome? f = some b := by
 induction l with
 | nil => intro k hk; simp at hk
 | cons x l ih =>
  intro k hk h b hb
  cases k with
  | zero => simp at hb; simp [hb]
  | succ k =>
   have h0 := h 0 (by omega)
   simp at h0
   simp at hk
   rw [List.findSome?_cons, h0]
   exact ih k hk (fun j hj => by have := h (j + 1) (by omega); simpa using this) b (by simpa using hb)
theorem some_no {α β : Type} [Inhabited α] (l : List α) (f : α → Option β) (h : ∀ j, j < l.length → f l[j]! = none) : l.findSome? f = none := by
 rw [List.findSome?_eq_none_iff]
 intro x hx
 obtain ⟨i, hi, rfl⟩ := List.mem_iff_getElem.1 hx
 have := h i hi
 rw [getElem!_pos l i hi] at this
 exact this
/-- What along hands back. -/
def LegsOut (L : List Lg) (w : World) (e : Ending) (w' : World) : Prop := ∃ v, e = .returned v ∧ Ow w.heap.size w' 55 9 v (L.map Lg.cs) ∧ Below w.heap.size w w'
set_option maxRecDepth 100000 in
set_option maxHeartbeats 4000000 in
theorem along_q (n : Net) (v1 v2 : Value) (p q : Plc) (len : Rat) (w : World) (hN : NetAt w.heap.size w v1 v2 n) (hK : NetOK n) (hp : Sm p.off) (hq : Sm q.off) (hl : Sm len) (h2 : Near2 n p q) :
  Calls Tryz.prog 49 #[.agg #[v1, v2], p.v, q.v, rV len] w (LegsOut (alongN n p q len).toList w) := by
 obtain ⟨out, hout⟩ : ∃ o, alongN n p q len = o := ⟨_, rfl⟩
 rw [hout]
 have HT := Lib.hid hout
 obtain ⟨a2, n2, c2, rfl, hn, hn1, hn2⟩ := hN.2.open
 rw [List.length_map] at hn
 have hn3 : n2 ≤ 1024 := by rw [← hn]; exact hK.few.2
 have HN := Lib.hid hN
 have HK := Lib.hid hK
 have HL := Lib.hid hn
 have HP := Lib.hid hp
 have HQ := Lib.hid hq
 have HH := Lib.hid h2
 unfold Plc.v rV
 clear hN hK hn hn2 hout hp hq h2
 go_enter Tryz.func49, Tryz.ntmps49
 go_wp2_with fail
 go_loopw [19] (fun s19 wr => ∃ (k : Nat), s19 = .int .i64 k ∧ k ≤ n2 ∧ Hid (∀ j, j < k → alongP n p q len n.roads[j]! = none) ∧ ∃ U, wr = ((((w.alloc (.cells #[v1, .slice a2 n2 c2] 36)).alloc (.cells #[.int .i64 p.road, .bool (zs p.off.num), .string (zx p.off.num), .bool false, .string (ry p.off.den)] 43)).alloc (.cells #[.int .i64 q.road, .bool (zs q.off.num), .string (zx q.off.num), .bool false, .string (ry q.off.den)] 43)).alloc (.cells #[.bool (zs len.num), .string (zx len.num), .bool false, .string (ry len.den)] 41)).junk U) (fun s19 _ => n2 - (intOf s19).toNat)
 case atStart =>
  refine ⟨0, rfl, Nat.zero_le _, fun j hj => by omega, ?_⟩
  with_reducible exact ex_junk
 case round =>
  obtain ⟨k, rfl, hk, HF, U, rfl⟩ := hrel
  by_cases hlt : k < n2
  ·have hkl : k < n.roads.length := by rw [HL.out]; exact hlt
   obtain ⟨b, off, rfl, hb, d⟩ := rd_cells HN.out.2 k hkl
   obtain ⟨d0, d1, d2, d3, d4, d5⟩ := d k hkl
   haveI : Lo b w := ⟨hb⟩
   have hmem : n.roads[k]! ∈ n.roads := by rw [getElem!_pos n.roads k hkl]; exact List.getElem_mem hkl
   have hlen := HK.out.len _ hmem
   have HA := offS_bw HN.out HK.out n.roads[k]! p HP.out hlen
   have HB := offS_bw HN.out HK.out n.roads[k]! q HQ.out hlen
   have HS : Hid (∀ w', Calls Tryz.prog 35 #[rV ((offsN n n.roads[k]! q).getD 0), rV ((offsN n n.roads[k]! p).getD 0)] w' fun e w2 => e = .returned (rV ((offsN n n.roads[k]! q).getD 0 - (offsN n n.roads[k]! p).getD 0)) ∧ Below w'.heap.size w' w2) := Lib.hid (fun w' => sub_q _ _ w' (sm_offs HQ.out hlen) (sm_offs HP.out hlen))
   have HW : Hid (∀ a b, offsN n n.roads[k]! p = some a → offsN n n.roads[k]! q = some b → Sm (b - a)) := Lib.hid (HH.out _ hmem)
   have HB3 : Hid (alongP n p q len n.roads[k]! = none → ∀ j, j < k + 1 → alongP n p q len n.roads[j]! = none) := Lib.hid (fun h0 j hj => by
    rcases Nat.lt_or_ge j k with h | h
    ·exact HF.out j h
    ·obtain rfl : j = k := by omega
     exact h0)
   have HT3 : Hid (∀ l, alongP n p q len n.roads[k]! = some l → some l = out) := Lib.hid (fun l h => by rw [← HT.out]; exact (some_at n.roads (alongP n p q len) k hkl HF.out l h).symm)
   generalize n.roads[k]! = r at d0 d1 d2 d3 d4 d5 HA HB HS HW HB3 HT3
   clear d hmem hlen HF
   unfold Plc.v at HA HB
   cases ha : offsN n r p with
   | none =>
    have HB2 := Lib.hid (HB3.out (by simp only [alongP, ha]))
    rw [ha] at HA HS
    simp only [Option.getD_none, Option.isSome_none] at HA HS
    generalize offsN n r q = ob at HB HS
    simp only [rV] at HA HB HS
    clear ha HW HB3 HT3
    go_wp2_with fail
    refine (jk (HA.out _)).mono ?_
    rintro e _ ⟨rfl, V1, rfl⟩
    go_wp2_with fail
    refine (jk (HB.out _)).mono ?_
    rintro e _ ⟨rfl, V2, rfl⟩
    go_wp2_with fail
    refine (jk (HS.out _)).mono ?_
    rintro e _ ⟨rfl, V3, rfl⟩
    go_wp2_with fail
    refine wp_jregion (by kernel_rfl) (by kernel_rfl) ?_
    repeat (go_big_quiet_step (first | (fail) | fail))
    refine wpQuiet_nil ?_
    rintro _ ⟨V9, rfl⟩
    go_wp2_with fail
    go_roundw
    case rel =>
     refine ⟨k + 1, by go_num, by omega, HB2, ?_⟩
     with_reducible exact ex_junk
    case measure => simp [intOf]; omega
   | some a =>
    cases hb : offsN n r q with
    | none =>
     have HB2 := Lib.hid (HB3.out (by simp only [alongP, ha, hb]))
     rw [ha] at HA HS
     rw [hb] at HB HS
     simp only [Option.getD_none, Option.getD_some, Option.isSome_some, Option.isSome_none] at HA HB HS
     simp only [rV] at HA HB HS
     clear ha hb HW HB3 HT3
     go_wp2_with fail
     refine (jk (HA.out _)).mono ?_
     rintro e _ ⟨rfl, V1, rfl⟩
     go_wp2_with fail
     refine (jk (HB.out _)).mono ?_
     rintro e _ ⟨rfl, V2, rfl⟩
     go_wp2_with fail
     refine (jk (HS.out _)).mono ?_
     rintro e _ ⟨rfl, V3, rfl⟩
     go_wp2_with fail
     refine wp_jregion (by kernel_rfl) (by kernel_rfl) ?_
     repeat (go_big_quiet_step (first | (fail) | fail))
     refine wpQuiet_nil ?_
     rintro _ ⟨V9, rfl⟩
     go_wp2_with fail
     go_roundw
     case rel =>
      refine ⟨k + 1, by go_num, by omega, HB2, ?_⟩
      with_reducible exact ex_junk
     case measure => simp [intOf]; omega
    | some c =>
     have hsm := HW.out a c ha hb
     have hst : alongP n p q len r = if (r.one = false ∨ 0 < (c - a).num) ∧ absR (c - a) = len then some ⟨r.id, a, c⟩ else none := by simp only [alongP, ha, hb]
     rw [ha] at HA HS
     rw [hb] at HB HS
     simp only [Option.getD_some, Option.isSome_some] at HA HB HS
     have HG := Lib.hid (fun w' => sign_q (c - a) w' (by have := hsm.1; omega))
     have HAb := Lib.hid (fun w' => abs_q (c - a) w' (by have := hsm.1; omega))
     have hab := sm_abs hsm
     have hsg : (¬ 0 < (c - a).num ∧ sgnZ (c - a).num = -1) ∨ (¬ 0 < (c - a).num ∧ sgnZ (c - a).num = 0) ∨ (0 < (c - a).num ∧ sgnZ (c - a).num = 1) := by
      unfold sgnZ
      by_cases h1 : (c - a).num < 0
      ·rw [if_pos h1]; exact .inl ⟨by omega, rfl⟩
      ·rw [if_neg h1]
       by_cases h2 : (c - a).num = 0
       ·rw [if_pos h2]; exact .inr (.inl ⟨by omega, rfl⟩)
       ·rw [if_neg h2]; exact .inr (.inr ⟨by omega, rfl⟩)
     generalize c - a = d at HS HG HAb hab hst hsg
     generalize sgnZ d.num = sg at HG hsg
     generalize absR d = y at HAb hab hst
     clear ha hb HW hsm
     have hcase : (r.one = false ∧ y = len ∧ alongP n p q len r = some ⟨r.id, a, c⟩) ∨ (r.one = false ∧ y ≠ len ∧ alongP n p q len r = none) ∨ (r.one = true ∧ sg = -1 ∧ alongP n p q len r = none) ∨ (r.one = true ∧ sg = 0 ∧ alongP n p q len r = none) ∨ (r.one = true ∧ sg = 1 ∧ y = len ∧ alongP n p q len r = some ⟨r.id, a, c⟩) ∨ (r.one = true ∧ sg = 1 ∧ y ≠ len ∧ alongP n p q len r = none) := by
      rw [hst]
      by_cases hy : y = len
      ·cases r.one
       ·left; exact ⟨rfl, hy, by rw [if_pos ⟨.inl rfl, hy⟩]⟩
       ·rcases hsg with ⟨h1, h2⟩ | ⟨h1, h2⟩ | ⟨h1, h2⟩
        ·right; right; left; exact ⟨rfl, h2, by rw [if_neg (by simp; omega)]⟩
        ·right; right; right; left; exact ⟨rfl, h2, by rw [if_neg (by simp; omega)]⟩
        ·right; right; right; right; left; exact ⟨rfl, h2, hy, by rw [if_pos ⟨.inr h1, hy⟩]⟩
      ·have hn : (if (r.one = false ∨ 0 < d.num) ∧ y = len then some (⟨r.id, a, c⟩ : Lg) else none) = none := if_neg fun h => hy h.2
       rw [hn]
       cases r.one
       ·right; left; exact ⟨rfl, hy, rfl⟩
       ·rcases hsg with ⟨h1, h2⟩ | ⟨h1, h2⟩ | ⟨h1, h2⟩
        ·right; right; left; exact ⟨rfl, h2, rfl⟩
        ·right; right; right; left; exact ⟨rfl, h2, rfl⟩
        ·right; right; right; right; right; exact ⟨rfl, h2, hy, rfl⟩
     clear hst hsg
     simp only [rV] at HA HB HS HG HAb
     rcases hcase with ⟨h1, h2, h3⟩ | ⟨h1, h2, h3⟩ | ⟨h1, rfl, h3⟩ | ⟨h1, rfl, h3⟩ | ⟨h1, rfl, h2, h3⟩ | ⟨h1, rfl, h2, h3⟩
     ·have HT2 := Lib.hid (HT3.out _ h3)
      have hd : decide (y = len) = true := by simpa using h2
      simp only [Rd.v, h1] at HA HB
      clear h2 h3 HT3 HB3
      go_wp2_with fail
      refine (jk (HA.out _)).mono ?_
      rintro e _ ⟨rfl, V1, rfl⟩
      go_wp2_with fail
      refine (jk (HB.out _)).mono ?_
      rintro e _ ⟨rfl, V2, rfl⟩
      go_wp2_with fail
      refine (jk (HS.out _)).mono ?_
      rintro e _ ⟨rfl, V3, rfl⟩
      go_wp2_with fail
      refine wp_jregion (by kernel_rfl) (by kernel_rfl) ?_
      repeat (go_big_quiet_step (first | (first | (with_reducible exact jq (HG.out _)) | (with_reducible exact jq (HAb.out _))) | fail))
      refine wpQuiet_nil ?_
      rintro _ ⟨V9, rfl⟩
      go_wp2_with fail
      go_ret
      exact ⟨_, rfl, by rw [← HT2.out]; exact own_row (by rfl) (obj_last _ _) Bw.b.size, Bw.b⟩
     ·have HB2 := Lib.hid (HB3.out h3)
      have hd : decide (y = len) = false := by simpa using h2
      simp only [Rd.v, h1] at HA HB
      clear h2 h3 HT3 HB3
      go_wp2_with fail
      refine (jk (HA.out _)).mono ?_
      rintro e _ ⟨rfl, V1, rfl⟩
      go_wp2_with fail
      refine (jk (HB.out _)).mono ?_
      rintro e _ ⟨rfl, V2, rfl⟩
      go_wp2_with fail
      refine (jk (HS.out _)).mono ?_
      rintro e _ ⟨rfl, V3, rfl⟩
      go_wp2_with fail
      refine wp_jregion (by kernel_rfl) (by kernel_rfl) ?_
      repeat (go_big_quiet_step (first | (first | (with_reducible exact jq (HG.out _)) | (with_reducible exact jq (HAb.out _))) | fail))
      refine wpQuiet_nil ?_
      rintro _ ⟨V9, rfl⟩
      go_wp2_with fail
      go_roundw
      case rel =>
       refine ⟨k + 1, by go_num, by omega, HB2, ?_⟩
       with_reducible exact ex_junk
      case measure => simp [intOf]; omega
     ·have HB2 := Lib.hid (HB3.out h3)
      simp only [Rd.v, h1] at HA HB
      clear h3 HT3 HB3
      go_wp2_with fail
      refine (jk (HA.out _)).mono ?_
      rintro e _ ⟨rfl, V1, rfl⟩
      go_wp2_with fail
      refine (jk (HB.out _)).mono ?_
      rintro e _ ⟨rfl, V2, rfl⟩
      go_wp2_with fail
      refine (jk (HS.out _)).mono ?_
      rintro e _ ⟨rfl, V3, rfl⟩
      go_wp2_with fail
      refine wp_jregion (by kernel_rfl) (by kernel_rfl) ?_
      repeat (go_big_quiet_step (first | (first | (with_reducible exact jq (HG.out _)) | (with_reducible exact jq (HAb.out _))) | fail))
      refine wpQuiet_nil ?_
      rintro _ ⟨V9, rfl⟩
      go_wp2_with fail
      go_roundw
      case rel =>
       refine ⟨k + 1, by go_num, by omega, HB2, ?_⟩
       with_reducible exact ex_junk
      case measure => simp [intOf]; omega
     ·have HB2 := Lib.hid (HB3.out h3)
      simp only [Rd.v, h1] at HA HB
      clear h3 HT3 HB3
      go_wp2_with fail
      refine (jk (HA.out _)).mono ?_
      rintro e _ ⟨rfl, V1, rfl⟩
      go_wp2_with fail
      refine (jk (HB.out _)).mono ?_
      rintro e _ ⟨rfl, V2, rfl⟩
      go_wp2_with fail
      refine (jk (HS.out _)).mono ?_
      rintro e _ ⟨rfl, V3, rfl⟩
      go_wp2_with fail
      refine wp_jregion (by kernel_rfl) (by kernel_rfl) ?_
      repeat (go_big_quiet_step (first | (first | (with_reducible exact jq (HG.out _)) | (with_reducible exact jq (HAb.out _))) | fail))
      refine wpQuiet_nil ?_
      rintro _ ⟨V9, rfl⟩
      go_wp2_with fail
      go_roundw
      case rel =>
       refine ⟨k + 1, by go_num, by omega, HB2, ?_⟩
       with_reducible exact ex_junk
      case measure => simp [intOf]; omega
     ·have HT2 := Lib.hid (HT3.out _ h3)
      have hd : decide (y = len) = true := by simpa using h2
      simp only [Rd.v, h1] at HA HB
      clear h2 h3 HT3 HB3
      go_wp2_with fail
      refine (jk (HA.out _)).mono ?_
      rintro e _ ⟨rfl, V1, rfl⟩
      go_wp2_with fail
      refine (jk (HB.out _)).mono ?_
      rintro e _ ⟨rfl, V2, rfl⟩
      go_wp2_with fail
      refine (jk (HS.out _)).mono ?_
      rintro e _ ⟨rfl, V3, rfl⟩
      go_wp2_with fail
      refine wp_jregion (by kernel_rfl) (by kernel_rfl) ?_
      repeat (go_big_quiet_step (first | (first | (with_reducible exact jq (HG.out _)) | (with_reducible exact jq (HAb.out _))) | fail))
      refine wpQuiet_nil ?_
      rintro _ ⟨V9, rfl⟩
      go_wp2_with fail
      go_ret
      exact ⟨_, rfl, by rw [← HT2.out]; exact own_row (by rfl) (obj_last _ _) Bw.b.size, Bw.b⟩
     ·have HB2 := Lib.hid (HB3.out h3)
      have hd : decide (y = len) = false := by simpa using h2
      simp only [Rd.v, h1] at HA HB
      clear h2 h3 HT3 HB3
      go_wp2_with fail
      refine (jk (HA.out _)).mono ?_
      rintro e _ ⟨rfl, V1, rfl⟩
      go_wp2_with fail
      refine (jk (HB.out _)).mono ?_
      rintro e _ ⟨rfl, V2, rfl⟩
      go_wp2_with fail
      refine (jk (HS.out _)).mono ?_
      rintro e _ ⟨rfl, V3, rfl⟩
      go_wp2_with fail
      refine wp_jregion (by kernel_rfl) (by kernel_rfl) ?_
      repeat (go_big_quiet_step (first | (first | (with_reducible exact jq (HG.out _)) | (with_reducible exact jq (HAb.out _))) | fail))
      refine wpQuiet_nil ?_
      rintro _ ⟨V9, rfl⟩
      go_wp2_with fail
      go_roundw
      case rel =>
       refine ⟨k + 1, by go_num, by omega, HB2, ?_⟩
       with_reducible exact ex_junk
      case measure => simp [intOf]; omega
  ·obtain rfl : k = n2 := by omega
   have HT2 : Hid (none = out) := Lib.hid (by rw [← HT.out]; exact (some_no n.roads (alongP n p q len) (fun j hj => HF.out j (by rw [← HL.out]; exact hj))).symm)
   clear HF
   go_wp2_with fail
   go_ret
   exact ⟨_, rfl, by rw [← HT2.out]; exact Ow.nil _ _ _ _, Bw.b⟩
end Go.Proofs.YtcelpkbmcmnogaaGreatDoor
