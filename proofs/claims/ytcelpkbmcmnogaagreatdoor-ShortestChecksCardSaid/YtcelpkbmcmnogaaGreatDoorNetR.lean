/-
 Positions on a network, exactly: Ahead.
-/
import Derived.Test.YtcelpkbmcmnogaaGreatDoorNetQ
set_option linter.unusedSimpArgs false
set_option linter.unusedVariables false
namespace Go.Proofs.YtcelpkbmcmnogaaGreatDoor
open Go Go.RowKit Go.Vi
attribute [local go_sem ↓] lo_lt lo_ne lo_ne'
attribute [local go_sem] junk_cell junk_frozen junk_setCell junk_drew drew_junk
theorem zc0 : zs (0 : Rat).num = false := rfl
theorem zc1 : zx (0 : Rat).num = ⟨#[]⟩ := magS_zero
theorem zc2 : ry (0 : Rat).den = ⟨#[]⟩ := ry_nil rfl
/-- The least of the lengths found so far and one more, if its direction is permitted. -/
def aheadAdd (acc : Option Rat) (one : Bool) (d : Rat) : Option Rat := if one = true ∧ d.num < 0 then acc else match acc with
 | none => some (absR d)
 | some l => if cmpR (absR d) l < 0 then some (absR d) else some l
/-- One road of the search for the way along a single road. -/
def aheadStep (n : Net) (p q : Plc) (acc : Option Rat) (r : Rd) : Option Rat := match offsN n r p, offsN n r q with
 | some a, some b => aheadAdd acc r.one (b - a)
 | _, _ => acc
def aheadN (n : Net) (p q : Plc) : Option Rat := if chkP n p ≠ 0 ∨ chkP n q ≠ 0 then none else if sameN n p q then some 0 else n.roads.foldl (aheadStep n p q) none
theorem sm_offs {n : Net} {p : Plc} {r : Rd} (hp : Sm p.off) (hr : 1 ≤ r.len ∧ r.len ≤ 1073741824) : Sm ((offsN n r p).getD 0) := by
 unfold offsN
 split
 ·exact hp
 ·cases nodeAtN n p with
  | none => exact sm_zero
  | some x =>
   simp only
   split
   ·exact sm_off x hr
   ·exact sm_zero
theorem sm_abs {a : Rat} (h : Sm a) : Sm (absR a) := by
 obtain ⟨h1, h2⟩ := absR_num a
 unfold Sm at h ⊢
 rw [h1, h2]
 simpa using h
theorem take_one {α : Type} [Inhabited α] {β : Type} (f : β → α → β) (b : β) (l : List α) {k : Nat} (hk : k < l.length) : (l.take (k + 1)).foldl f b = f ((l.take k).foldl f b) l[k]! := by
 rw [List.take_succ_eq_append_getElem hk, List.foldl_append, getElem!_pos l k hk]
 rfl
/-- Whether the differences of the offsets on every road are small. -/
def Near2 (n : Net) (p q : Plc) : Prop := ∀ r ∈ n.roads, ∀ a b, offsN n r p = some a → offsN n r q = some b → Sm (b - a)
set_option maxRecDepth 100000 in
set_option maxHeartbeats 4000000 in
theorem ahead_q (n : Net) (v1 v2 : Value) (p q : Plc) (w : World) (hN : NetAt w.heap.size w v1 v2 n) (hK : NetOK n) (hp : Sm p.off) (hq : Sm q.off) (h2 : Near2 n p q) :
  Calls Tryz.prog 23 #[.agg #[v1, v2], p.v, q.v] w fun e w' => e = .returned (.tuple #[rV ((aheadN n p q).getD 0), .bool (aheadN n p q).isSome]) ∧ Below w.heap.size w w' := by
 have HC := chk_bw hN hK p hp
 have HD := chk_bw hN hK q hq
 have HE := same_bw hN hK p q hp hq
 have hv := chk_vals n p
 have hv2 := chk_vals n q
 unfold aheadN
 by_cases h0 : chkP n p = 0
 ·by_cases h1 : chkP n q = 0
  ·rw [h0] at HC
   rw [h1] at HD
   simp only [h0, h1, ne_eq, not_true_eq_false, or_self, if_false]
   cases hs : sameN n p q with
   | true =>
    rw [hs] at HE
    simp only [if_true, Option.getD_some, Option.isSome_some, zero_v]
    unfold Plc.v at HC HD HE ⊢
    clear h0 h1 hv hv2 hN hK hs
    go_enter Tryz.func23, Tryz.ntmps23
    go_wp2_with fail
    refine (jk (HC.out _)).mono ?_
    rintro e _ ⟨rfl, X, rfl⟩
    go_wp2_with fail
    refine (jk (HD.out _)).mono ?_
    rintro e _ ⟨rfl, Y, rfl⟩
    go_wp2_with fail
    refine (jk (HE.out _)).mono ?_
    rintro e _ ⟨rfl, Z, rfl⟩
    go_wp2_with fail
    exact bodyPost_ret (v := .tuple #[.agg #[.bool false, .string ⟨#[]⟩, .bool false, .string ⟨#[]⟩], .bool true]) (by simp [results, Tryz.results23, go_sem]) rfl ⟨rfl, Bw.b⟩
   | false =>
    rw [hs] at HE
    simp only [Bool.false_eq_true, if_false]
    obtain ⟨out, hout⟩ : ∃ o, n.roads.foldl (aheadStep n p q) none = o := ⟨_, rfl⟩
    rw [hout]
    have HT := Lib.hid hout
    obtain ⟨a2, n2, c2, rfl, hn, hn1, hn2⟩ := hN.2.open
    rw [List.length_map] at hn
    have hn3 : n2 ≤ 1024 := by rw [← hn]; exact hK.few.2
    have HN := Lib.hid hN
    have HK := Lib.hid hK
    have HL := Lib.hid hn
    have HP := Lib.hid hp
    have HQ := Lib.hid hq
    have HH := Lib.hid h2
    unfold Plc.v at HC HD HE ⊢
    clear h0 h1 hv hv2 hN hK hs hn hn2 hout hp hq h2
    go_enter Tryz.func23, Tryz.ntmps23
    go_wp2_with fail
    refine (jk (HC.out _)).mono ?_
    rintro e _ ⟨rfl, X, rfl⟩
    go_wp2_with fail
    refine (jk (HD.out _)).mono ?_
    rintro e _ ⟨rfl, Y, rfl⟩
    go_wp2_with fail
    refine (jk (HE.out _)).mono ?_
    rintro e _ ⟨rfl, Z, rfl⟩
    go_wp2_with fail
    go_loopw [9, 36] (fun s9 s36 wr => ∃ (k : Nat) (acc : Option Rat), s36 = .int .i64 k ∧ k ≤ n2 ∧ s9 = .bool acc.isSome ∧ Hid ((n.roads.take k).foldl (aheadStep n p q) none = acc) ∧ Hid (∀ l, acc = some l → Sm l) ∧ ∃ U, wr = ((((((((w.alloc (.cells #[v1, .slice a2 n2 c2] 36)).alloc (.cells #[.int .i64 p.road, .bool (zs p.off.num), .string (zx p.off.num), .bool false, .string (ry p.off.den)] 43)).alloc (.cells #[.int .i64 q.road, .bool (zs q.off.num), .string (zx q.off.num), .bool false, .string (ry q.off.den)] 43)).alloc (.cells #[.bool false, .string ⟨#[]⟩, .bool false, .string ⟨#[]⟩] 41)).junk X).junk Y).junk Z).alloc (.cells #[.bool (zs (acc.getD 0).num), .string (zx (acc.getD 0).num), .bool false, .string (ry (acc.getD 0).den)] 41)).junk U) (fun _ s36 _ => n2 - (intOf s36).toNat)
    case atStart =>
     refine ⟨0, none, rfl, Nat.zero_le _, rfl, Lib.hid rfl, Lib.hid (fun l h => by simp at h), ?_⟩
     rw [show (none : Option Rat).getD 0 = 0 from rfl, zc0, zc1, zc2]
     with_reducible exact ex_junk
    case round =>
     obtain ⟨k, acc, rfl, hk, rfl, HF, HM, U, rfl⟩ := hrel
     by_cases hlt : k < n2
     ·have hkl : k < n.roads.length := by rw [HL.out]; exact hlt
      obtain ⟨b, off, rfl, hb, d⟩ := rd_cells HN.out.2 k hkl
      obtain ⟨d0, d1, d2, d3, d4, d5⟩ := d k hkl
      haveI : Lo b w := ⟨hb⟩
      have hmem : n.roads[k]! ∈ n.roads := by rw [getElem!_pos n.roads k hkl]; exact List.getElem_mem hkl
      have hlen := HK.out.len _ hmem
      have HA := offsets_bw HN.out HK.out n.roads[k]! p HP.out hlen
      have HB := offsets_bw HN.out HK.out n.roads[k]! q HQ.out hlen
      have HS : Hid (∀ w', Calls Tryz.prog 35 #[rV ((offsN n n.roads[k]! q).getD 0), rV ((offsN n n.roads[k]! p).getD 0)] w' fun e w2 => e = .returned (rV ((offsN n n.roads[k]! q).getD 0 - (offsN n n.roads[k]! p).getD 0)) ∧ Below w'.heap.size w' w2) := Lib.hid (fun w' => sub_q _ _ w' (sm_offs HQ.out hlen) (sm_offs HP.out hlen))
      have HX := Lib.hid (take_one (aheadStep n p q) none n.roads hkl)
      rw [HF.out] at HX
      have HW : Hid (∀ a b, offsN n n.roads[k]! p = some a → offsN n n.roads[k]! q = some b → Sm (b - a)) := Lib.hid (HH.out _ hmem)
      generalize n.roads[k]! = r at d0 d1 d2 d3 d4 d5 HA HB HS HX HW
      clear d hmem hlen HF
      unfold Plc.v at HA HB
      cases ha : offsN n r p with
      | none =>
       have hst : aheadStep n p q acc r = acc := by simp only [aheadStep, ha]
       rw [hst] at HX
       rw [ha] at HA HS
       simp only [Option.getD_none, Option.isSome_none] at HA HS
       generalize offsN n r q = ob at HB HS
       simp only [rV] at HA HB HS
       clear ha hst HW
       go_wp2_with fail
       refine (jk (HA.out _)).mono ?_
       rintro e _ ⟨rfl, V1, rfl⟩
       go_wp2_with fail
       refine (jk (HB.out _)).mono ?_
       rintro e _ ⟨rfl, V2, rfl⟩
       go_wp2_with fail
       refine (jk (HS.out _)).mono ?_
       rintro e _ ⟨rfl, V3, rfl⟩
       go_wp2_with fail
       go_roundw
       case rel =>
        refine ⟨k + 1, acc, by go_num, by omega, rfl, HX, HM, ?_⟩
        with_reducible exact ex_junk
       case measure => simp [intOf]; omega
      | some a =>
       cases hb : offsN n r q with
       | none =>
        have hst : aheadStep n p q acc r = acc := by simp only [aheadStep, ha, hb]
        rw [hst] at HX
        rw [ha] at HA HS
        rw [hb] at HB HS
        simp only [Option.getD_none, Option.getD_some, Option.isSome_some, Option.isSome_none] at HA HB HS
        simp only [rV] at HA HB HS
        clear ha hb hst HW
        go_wp2_with fail
        refine (jk (HA.out _)).mono ?_
        rintro e _ ⟨rfl, V1, rfl⟩
        go_wp2_with fail
        refine (jk (HB.out _)).mono ?_
        rintro e _ ⟨rfl, V2, rfl⟩
        go_wp2_with fail
        refine (jk (HS.out _)).mono ?_
        rintro e _ ⟨rfl, V3, rfl⟩
        go_wp2_with fail
        go_roundw
        case rel =>
         refine ⟨k + 1, acc, by go_num, by omega, rfl, HX, HM, ?_⟩
         with_reducible exact ex_junk
        case measure => simp [intOf]; omega
       | some c =>
        have hsm := HW.out a c ha hb
        have hst : aheadStep n p q acc r = aheadAdd acc r.one (c - a) := by simp only [aheadStep, ha, hb]
        rw [hst] at HX
        rw [ha] at HA HS
        rw [hb] at HB HS
        simp only [Option.getD_some, Option.isSome_some] at HA HB HS
        have HG := Lib.hid (fun w' => sign_q (c - a) w' (by have := hsm.1; omega))
        have HAb := Lib.hid (fun w' => abs_q (c - a) w' (by have := hsm.1; omega))
        have hab := sm_abs hsm
        generalize c - a = d at HS HX HG HAb hab
        have hsg : (d.num < 0 ∧ sgnZ d.num < 0) ∨ (¬ d.num < 0 ∧ 0 ≤ sgnZ d.num) := by
         unfold sgnZ
         by_cases h : d.num < 0
         ·left; rw [if_pos h]; exact ⟨h, by omega⟩
         ·right; rw [if_neg h]; exact ⟨h, by split <;> omega⟩
        generalize sgnZ d.num = sg at HG hsg
        clear ha hb hst HW hsm
        have hcase : (r.one = true ∧ d.num < 0 ∧ sg < 0) ∨ (r.one = false ∧ ¬(r.one = true ∧ d.num < 0)) ∨ (r.one = true ∧ 0 ≤ sg ∧ ¬(r.one = true ∧ d.num < 0)) := by
         cases r.one
         ·right; left; exact ⟨rfl, fun h => Bool.noConfusion h.1⟩
         ·rcases hsg with ⟨h1, h2⟩ | ⟨h1, h2⟩
          ·left; exact ⟨rfl, h1, h2⟩
          ·right; right; exact ⟨rfl, h2, fun h => h1 h.2⟩
        clear hsg
        cases hacc : acc with
        | none =>
         rw [hacc] at HX HM
         have hnx : ¬(r.one = true ∧ d.num < 0) → aheadAdd none r.one d = some (absR d) := fun h => by simp only [aheadAdd, if_neg h]
         have hny : r.one = true ∧ d.num < 0 → aheadAdd none r.one d = none := fun h => by simp only [aheadAdd, if_pos h]
         generalize absR d = y at HX HAb hab hnx
         simp only [Option.getD_none]
         simp only [rV] at HA HB HS HG HAb
         have HM2 : Hid (∀ l, some y = some l → Sm l) := Lib.hid (fun l h => by injection h with h; rw [← h]; exact hab)
         clear hacc hab
         rcases hcase with ⟨h1, h2, h3⟩ | ⟨h1, h2⟩ | ⟨h1, h3, h2⟩
         ·rw [hny ⟨h1, h2⟩] at HX
          simp only [Rd.v, h1] at HA HB
          clear h2 hnx hny
          go_wp2_with fail
          refine (jk (HA.out _)).mono ?_
          rintro e _ ⟨rfl, V1, rfl⟩
          go_wp2_with fail
          refine (jk (HB.out _)).mono ?_
          rintro e _ ⟨rfl, V2, rfl⟩
          go_wp2_with fail
          refine (jk (HS.out _)).mono ?_
          rintro e _ ⟨rfl, V3, rfl⟩
          go_wp2_with fail
          refine (jk (HG.out _)).mono ?_
          rintro e _ ⟨rfl, V4, rfl⟩
          go_wp2_with fail
          go_roundw
          case rel =>
           refine ⟨k + 1, none, by go_num, by omega, rfl, HX, HM, ?_⟩
           simp only [Option.getD_some, Option.getD_none, Rat.num_ofNat, Rat.den_ofNat]
           with_reducible exact ex_junk
          case measure => simp [intOf]; omega
         ·rw [hnx h2] at HX
          simp only [Rd.v, h1] at HA HB
          clear h2 hnx hny
          go_wp2_with fail
          refine (jk (HA.out _)).mono ?_
          rintro e _ ⟨rfl, V1, rfl⟩
          go_wp2_with fail
          refine (jk (HB.out _)).mono ?_
          rintro e _ ⟨rfl, V2, rfl⟩
          go_wp2_with fail
          refine (jk (HS.out _)).mono ?_
          rintro e _ ⟨rfl, V3, rfl⟩
          go_wp2_with fail
          refine (jk (HAb.out _)).mono ?_
          rintro e _ ⟨rfl, V4, rfl⟩
          go_wp2_with fail
          go_roundw
          case rel =>
           refine ⟨k + 1, some y, by go_num, by omega, rfl, HX, HM2, ?_⟩
           simp only [Option.getD_some, Option.getD_none, Rat.num_ofNat, Rat.den_ofNat]
           with_reducible exact ex_junk
          case measure => simp [intOf]; omega
         ·rw [hnx h2] at HX
          simp only [Rd.v, h1] at HA HB
          clear h2 hnx hny
          go_wp2_with fail
          refine (jk (HA.out _)).mono ?_
          rintro e _ ⟨rfl, V1, rfl⟩
          go_wp2_with fail
          refine (jk (HB.out _)).mono ?_
          rintro e _ ⟨rfl, V2, rfl⟩
          go_wp2_with fail
          refine (jk (HS.out _)).mono ?_
          rintro e _ ⟨rfl, V3, rfl⟩
          go_wp2_with fail
          refine (jk (HG.out _)).mono ?_
          rintro e _ ⟨rfl, V4, rfl⟩
          go_wp2_with fail
          refine (jk (HAb.out _)).mono ?_
          rintro e _ ⟨rfl, V5, rfl⟩
          go_wp2_with fail
          go_roundw
          case rel =>
           refine ⟨k + 1, some y, by go_num, by omega, rfl, HX, HM2, ?_⟩
           simp only [Option.getD_some, Option.getD_none, Rat.num_ofNat, Rat.den_ofNat]
           with_reducible exact ex_junk
          case measure => simp [intOf]; omega
        | some l =>
         rw [hacc] at HX HM
         have HCm := Lib.hid (fun w' => compare_q (absR d) l w' hab (HM.out l rfl))
         have HM2 : Hid (∀ l, some (absR d) = some l → Sm l) := Lib.hid (fun l h => by injection h with h; rw [← h]; exact hab)
         have hny : r.one = true ∧ d.num < 0 → aheadAdd (some l) r.one d = some l := fun h => by simp only [aheadAdd, if_pos h]
         have hnx : ¬(r.one = true ∧ d.num < 0) → aheadAdd (some l) r.one d = if cmpR (absR d) l < 0 then some (absR d) else some l := fun h => by simp only [aheadAdd, if_neg h]
         generalize absR d = y at HX HAb hab hnx HCm HM2
         have hcm : (cmpR y l < 0 ∧ (if cmpR y l < 0 then some y else some l) = some y) ∨ (0 ≤ cmpR y l ∧ (if cmpR y l < 0 then some y else some l) = some l) := by
          by_cases h : cmpR y l < 0
          ·left; exact ⟨h, if_pos h⟩
          ·right; exact ⟨by omega, if_neg h⟩
         generalize (if cmpR y l < 0 then some y else some l) = nx at hnx hcm
         generalize cmpR y l = cm at HCm hcm
         simp only [Option.getD_some]
         simp only [rV] at HA HB HS HG HAb HCm
         clear hacc hab
         rcases hcase with ⟨h1, h2, h3⟩ | ⟨h1, h2⟩ | ⟨h1, h3, h2⟩
         ·rw [hny ⟨h1, h2⟩] at HX
          simp only [Rd.v, h1] at HA HB
          clear h2 hcm hnx hny
          go_wp2_with fail
          refine (jk (HA.out _)).mono ?_
          rintro e _ ⟨rfl, V1, rfl⟩
          go_wp2_with fail
          refine (jk (HB.out _)).mono ?_
          rintro e _ ⟨rfl, V2, rfl⟩
          go_wp2_with fail
          refine (jk (HS.out _)).mono ?_
          rintro e _ ⟨rfl, V3, rfl⟩
          go_wp2_with fail
          refine (jk (HG.out _)).mono ?_
          rintro e _ ⟨rfl, V4, rfl⟩
          go_wp2_with fail
          go_roundw
          case rel =>
           refine ⟨k + 1, some l, by go_num, by omega, rfl, HX, HM, ?_⟩
           simp only [Option.getD_some, Option.getD_none, Rat.num_ofNat, Rat.den_ofNat]
           with_reducible exact ex_junk
          case measure => simp [intOf]; omega
         ·rw [hnx h2] at HX
          simp only [Rd.v, h1] at HA HB
          clear h2 hnx hny
          rcases hcm with ⟨hc, rfl⟩ | ⟨hc, rfl⟩
          ·go_wp2_with fail
           refine (jk (HA.out _)).mono ?_
           rintro e _ ⟨rfl, V1, rfl⟩
           go_wp2_with fail
           refine (jk (HB.out _)).mono ?_
           rintro e _ ⟨rfl, V2, rfl⟩
           go_wp2_with fail
           refine (jk (HS.out _)).mono ?_
           rintro e _ ⟨rfl, V3, rfl⟩
           go_wp2_with fail
           refine (jk (HAb.out _)).mono ?_
           rintro e _ ⟨rfl, V4, rfl⟩
           go_wp2_with fail
           refine (jk (HCm.out _)).mono ?_
           rintro e _ ⟨rfl, V5, rfl⟩
           go_wp2_with fail
           go_roundw
           case rel =>
            refine ⟨k + 1, some y, by go_num, by omega, rfl, HX, HM2, ?_⟩
            simp only [Option.getD_some, Option.getD_none, Rat.num_ofNat, Rat.den_ofNat]
            with_reducible exact ex_junk
           case measure => simp [intOf]; omega
          ·go_wp2_with fail
           refine (jk (HA.out _)).mono ?_
           rintro e _ ⟨rfl, V1, rfl⟩
           go_wp2_with fail
           refine (jk (HB.out _)).mono ?_
           rintro e _ ⟨rfl, V2, rfl⟩
           go_wp2_with fail
           refine (jk (HS.out _)).mono ?_
           rintro e _ ⟨rfl, V3, rfl⟩
           go_wp2_with fail
           refine (jk (HAb.out _)).mono ?_
           rintro e _ ⟨rfl, V4, rfl⟩
           go_wp2_with fail
           refine (jk (HCm.out _)).mono ?_
           rintro e _ ⟨rfl, V5, rfl⟩
           go_wp2_with fail
           go_roundw
           case rel =>
            refine ⟨k + 1, some l, by go_num, by omega, rfl, HX, HM, ?_⟩
            simp only [Option.getD_some, Option.getD_none, Rat.num_ofNat, Rat.den_ofNat]
            with_reducible exact ex_junk
           case measure => simp [intOf]; omega
         ·rw [hnx h2] at HX
          simp only [Rd.v, h1] at HA HB
          clear h2 hnx hny
          rcases hcm with ⟨hc, rfl⟩ | ⟨hc, rfl⟩
          ·go_wp2_with fail
           refine (jk (HA.out _)).mono ?_
           rintro e _ ⟨rfl, V1, rfl⟩
           go_wp2_with fail
           refine (jk (HB.out _)).mono ?_
           rintro e _ ⟨rfl, V2, rfl⟩
           go_wp2_with fail
           refine (jk (HS.out _)).mono ?_
           rintro e _ ⟨rfl, V3, rfl⟩
           go_wp2_with fail
           refine (jk (HG.out _)).mono ?_
           rintro e _ ⟨rfl, V4, rfl⟩
           go_wp2_with fail
           refine (jk (HAb.out _)).mono ?_
           rintro e _ ⟨rfl, V5, rfl⟩
           go_wp2_with fail
           refine (jk (HCm.out _)).mono ?_
           rintro e _ ⟨rfl, V6, rfl⟩
           go_wp2_with fail
           go_roundw
           case rel =>
            refine ⟨k + 1, some y, by go_num, by omega, rfl, HX, HM2, ?_⟩
            simp only [Option.getD_some, Option.getD_none, Rat.num_ofNat, Rat.den_ofNat]
            with_reducible exact ex_junk
           case measure => simp [intOf]; omega
          ·go_wp2_with fail
           refine (jk (HA.out _)).mono ?_
           rintro e _ ⟨rfl, V1, rfl⟩
           go_wp2_with fail
           refine (jk (HB.out _)).mono ?_
           rintro e _ ⟨rfl, V2, rfl⟩
           go_wp2_with fail
           refine (jk (HS.out _)).mono ?_
           rintro e _ ⟨rfl, V3, rfl⟩
           go_wp2_with fail
           refine (jk (HG.out _)).mono ?_
           rintro e _ ⟨rfl, V4, rfl⟩
           go_wp2_with fail
           refine (jk (HAb.out _)).mono ?_
           rintro e _ ⟨rfl, V5, rfl⟩
           go_wp2_with fail
           refine (jk (HCm.out _)).mono ?_
           rintro e _ ⟨rfl, V6, rfl⟩
           go_wp2_with fail
           go_roundw
           case rel =>
            refine ⟨k + 1, some l, by go_num, by omega, rfl, HX, HM, ?_⟩
            simp only [Option.getD_some, Option.getD_none, Rat.num_ofNat, Rat.den_ofNat]
            with_reducible exact ex_junk
           case measure => simp [intOf]; omega
     ·obtain rfl : k = n2 := by omega
      have hR : acc = out := by rw [← HT.out, ← HF.out, List.take_of_length_le (by rw [HL.out]; exact Nat.le_refl _)]
      have HR := Lib.hid hR
      clear hR HF HM
      go_wp2_with fail
      exact bodyPost_ret (v := .tuple #[.agg #[.bool (zs (acc.getD 0).num), .string (zx (acc.getD 0).num), .bool false, .string (ry (acc.getD 0).den)], .bool acc.isSome]) (by simp [results, Tryz.results23, go_sem]) rfl ⟨by rw [← HR.out]; rfl, Bw.b⟩
  ·have hv3 : chkP n q = 2 ∨ chkP n q = 9 := hv2.resolve_left h1
   rw [h0] at HC
   rw [if_pos (.inr h1)]
   simp only [Option.getD_none, Option.isSome_none, zero_v]
   unfold Plc.v at HC HD ⊢
   generalize chkP n q = c at *
   clear h0 h1 hv hv2 hN hK HE
   rcases hv3 with rfl | rfl
   all_goals
    go_enter Tryz.func23, Tryz.ntmps23
    go_wp2_with fail
    refine (jk (HC.out _)).mono ?_
    rintro e _ ⟨rfl, X, rfl⟩
    go_wp2_with fail
    refine (jk (HD.out _)).mono ?_
    rintro e _ ⟨rfl, Y, rfl⟩
    go_wp2_with fail
    exact bodyPost_ret (v := .tuple #[.agg #[.bool false, .string ⟨#[]⟩, .bool false, .string ⟨#[]⟩], .bool false]) (by simp [results, Tryz.results23, go_sem]) rfl ⟨rfl, Bw.b⟩
 ·have hv3 : chkP n p = 2 ∨ chkP n p = 9 := hv.resolve_left h0
  rw [if_pos (.inl h0)]
  simp only [Option.getD_none, Option.isSome_none, zero_v]
  unfold Plc.v at HC ⊢
  generalize chkP n p = c at *
  clear h0 hv hv2 hN hK HE HD
  rcases hv3 with rfl | rfl
  all_goals
   go_enter Tryz.func23, Tryz.ntmps23
   go_wp2_with fail
   refine (jk (HC.out _)).mono ?_
   rintro e _ ⟨rfl, X, rfl⟩
   go_wp2_with fail
   exact bodyPost_ret (v := .tuple #[.agg #[.bool false, .string ⟨#[]⟩, .bool false, .string ⟨#[]⟩], .bool false]) (by simp [results, Tryz.results23, go_sem]) rfl ⟨rfl, Bw.b⟩
end Go.Proofs.YtcelpkbmcmnogaaGreatDoor
