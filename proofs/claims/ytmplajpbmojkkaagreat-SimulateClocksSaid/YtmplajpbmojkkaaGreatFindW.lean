/-
  shortest.FindRoute, walked.
-/
import Derived.Test.YtmplajpbmojkkaaGreatRatA
import Derived.Test.YtmplajpbmojkkaaGreatMemA
set_option linter.unusedSimpArgs false
set_option linter.unusedVariables false
namespace Go.Proofs.YtmplajpbmojkkaaGreat
open Go Go.RowKit Go.Vi
/-- The error of FindRoute where there is no way: 9 is ErrNotFound, 31 is ErrUnreachable. -/
def routeErr (n : Net) (a b : Int) : Int := if (nodeOf n.nodes a).isSome && (nodeOf n.nodes b).isSome then 31 else 9
theorem routeErr_ne (n : Net) (a b : Int) : routeErr n a b ≠ 0 := by unfold routeErr; split <;> decide
/-- What FindRoute hands back. -/
def RouteOut (n : Net) (a b : Int) (B : Nat) (e : Ending) (w' : World) : Prop :=
  (∃ (R : List Hp) (len : Int) (vn vr : Value), e = .returned (.tuple #[.agg #[vn, vr, .int .i64 len], .int .i64 0]) ∧ IsRoute n a b R len ∧ len ≤ 216895848448 ∧ R.length ≤ 216895848448 ∧ Ow B w' 3 1 vn ((a :: R.map Hp.dst).map i1) ∧ Ow B w' 3 1 vr ((R.map Hp.road).map i1)) ∨
  (∃ c : Int, e = .returned (.tuple #[.agg #[.slice none 0 0, .slice none 0 0, .int .i64 0], .int .i64 c]) ∧ c = routeErr n a b ∧ ∀ R l, ¬IsRoute n a b R l)
theorem look_two {w : World} {b : Nat} {D : List (Int × Int)} (h : IMap w b (ivI D)) (a : Int) : (Instr.lookup 78 (.map (some b)) (.int .i64 a) true).run Tryz.prog w = .ok (.tuple #[.int .i64 ((Vi.look D a).getD 0), .bool (Vi.look D a).isSome]) w := by
  have := h.lookup (P := Tryz.prog) uLens uInt (zInt w) a true
  rw [look_ivI] at this
  rw [this]
  cases Vi.look D a <;> rfl
set_option maxRecDepth 100000 in
set_option maxHeartbeats 8000000 in
theorem findRoute_any (n : Net) (a b : Int) (v1 v2 : Value) (w : World) (hN : NetAt w.heap.size w v1 v2 n) (hK : NetOK n) (hsz : n.roads.length ≤ 100) :
    Calls Tryz.prog 63 #[.agg #[v1, v2], .int .i64 a, .int .i64 b] w fun e w' => RouteOut n a b w.heap.size e w' ∧ Below w.heap.size w w' := by
  have HN := Lib.hid hN
  have HK := Lib.hid hK
  have HS := Lib.hid hsz
  clear hN hK hsz
  cases ha : (nodeOf n.nodes a).isSome with
  | false =>
    have HA := Lib.hid ha
    clear ha
    go_enter Tryz.func63, Tryz.ntmps63
    go_wp2_with (go_at_call 74; refine (has_any n v1 v2 _ _ (HN.out.later (by (repeat (first | with_reducible exact Below.refl _ _ | with_reducible assumption | ((with_reducible refine Below.setCell ?_ ?_ _); rotate_left; focus (first | exact Nat.le_refl _ | omega | exact Below.size (by assumption) | (simp; done) | (simp; omega))) | ((with_reducible refine Below.alloc ?_ ?_ _); rotate_left; focus (first | exact Nat.le_refl _ | omega | exact Below.size (by assumption) | (simp; done) | (simp; omega))) | (with_reducible refine Below.drew ?_) | (with_reducible refine drewN_ ?_ _))))) HK.out.nodes (by have := HK.out.few; omega)).mono ?_; rintro e w1 ⟨rfl, hb1⟩; rw [HA.out]; have hB1 := from_ (w := w) hb1 (by (repeat (first | with_reducible exact Below.refl _ _ | with_reducible assumption | ((with_reducible refine Below.setCell ?_ ?_ _); rotate_left; focus (first | exact Nat.le_refl _ | omega | exact Below.size (by assumption) | (simp; done) | (simp; omega))) | ((with_reducible refine Below.alloc ?_ ?_ _); rotate_left; focus (first | exact Nat.le_refl _ | omega | exact Below.size (by assumption) | (simp; done) | (simp; omega))) | (with_reducible refine Below.drew ?_) | (with_reducible refine drewN_ ?_ _)))); have HB1 := Lib.hid hB1; have hz1 := hb1.size; simp at hz1; obtain ⟨hc1, hf1⟩ := bcell hb1; clear hB1 hb1)
    refine bodyPost_ret (v := .tuple #[.agg #[.slice none 0 0, .slice none 0 0, .int .i64 0], .int .i64 9]) (by simp [results, Tryz.results63, go_sem, hc1, hf1, hz1]) rfl ⟨.inr ⟨9, rfl, by unfold routeErr; rw [HA.out]; rfl, fun R l h => by have := h.1; rw [HA.out] at this; cases this⟩, ?_⟩
    have hB := HB1.out
    (repeat (first | with_reducible exact Below.refl _ _ | with_reducible assumption | ((with_reducible refine Below.setCell ?_ ?_ _); rotate_left; focus (first | exact Nat.le_refl _ | omega | exact Below.size (by assumption) | (simp; done) | (simp; omega))) | ((with_reducible refine Below.alloc ?_ ?_ _); rotate_left; focus (first | exact Nat.le_refl _ | omega | exact Below.size (by assumption) | (simp; done) | (simp; omega))) | (with_reducible refine Below.drew ?_) | (with_reducible refine drewN_ ?_ _)))
  | true =>
    have HA := Lib.hid ha
    have h0 : True := trivial
    cases hb : (nodeOf n.nodes b).isSome with
    | false =>
      have HB := Lib.hid hb
      clear ha hb
      go_enter Tryz.func63, Tryz.ntmps63
      go_wp2_with (first | (go_at_call 74; have gg := h0; clear gg; refine (has_any n v1 v2 a _ (HN.out.later (by (repeat (first | with_reducible exact Below.refl _ _ | with_reducible assumption | ((with_reducible refine Below.setCell ?_ ?_ _); rotate_left; focus (first | exact Nat.le_refl _ | omega | exact Below.size (by assumption) | (simp; done) | (simp; omega))) | ((with_reducible refine Below.alloc ?_ ?_ _); rotate_left; focus (first | exact Nat.le_refl _ | omega | exact Below.size (by assumption) | (simp; done) | (simp; omega))) | (with_reducible refine Below.drew ?_) | (with_reducible refine drewN_ ?_ _))))) HK.out.nodes (by have := HK.out.few; omega)).mono ?_; rintro e w1 ⟨rfl, hb1⟩; rw [HA.out]; have hB1 := from_ (w := w) hb1 (by (repeat (first | with_reducible exact Below.refl _ _ | with_reducible assumption | ((with_reducible refine Below.setCell ?_ ?_ _); rotate_left; focus (first | exact Nat.le_refl _ | omega | exact Below.size (by assumption) | (simp; done) | (simp; omega))) | ((with_reducible refine Below.alloc ?_ ?_ _); rotate_left; focus (first | exact Nat.le_refl _ | omega | exact Below.size (by assumption) | (simp; done) | (simp; omega))) | (with_reducible refine Below.drew ?_) | (with_reducible refine drewN_ ?_ _)))); have HB1 := Lib.hid hB1; have hz1 := hb1.size; simp at hz1; have z1 : w.heap.size < w1.heap.size := (by omega); have z2 : w.heap.size + 1 < w1.heap.size := (by omega); obtain ⟨hc1, hf1⟩ := bcell hb1; clear hB1 hb1 h0) | (go_at_call 74; refine (has_any n v1 v2 b _ (HN.out.later (by have h := HB1.out; (repeat (first | with_reducible exact Below.refl _ _ | with_reducible assumption | ((with_reducible refine Below.setCell ?_ ?_ _); rotate_left; focus (first | exact Nat.le_refl _ | omega | exact Below.size (by assumption) | (simp; done) | (simp; omega))) | ((with_reducible refine Below.alloc ?_ ?_ _); rotate_left; focus (first | exact Nat.le_refl _ | omega | exact Below.size (by assumption) | (simp; done) | (simp; omega))) | (with_reducible refine Below.drew ?_) | (with_reducible refine drewN_ ?_ _))))) HK.out.nodes (by have := HK.out.few; omega)).mono ?_; rintro e w2 ⟨rfl, hb2⟩; rw [HB.out]; have hB2 := from_ (w := w) hb2 (by have h := HB1.out; (repeat (first | with_reducible exact Below.refl _ _ | with_reducible assumption | ((with_reducible refine Below.setCell ?_ ?_ _); rotate_left; focus (first | exact Nat.le_refl _ | omega | exact Below.size (by assumption) | (simp; done) | (simp; omega))) | ((with_reducible refine Below.alloc ?_ ?_ _); rotate_left; focus (first | exact Nat.le_refl _ | omega | exact Below.size (by assumption) | (simp; done) | (simp; omega))) | (with_reducible refine Below.drew ?_) | (with_reducible refine drewN_ ?_ _)))); have HB2 := Lib.hid hB2; have hz2 := hb2.size; have z3 : w.heap.size < w2.heap.size := (by omega); have z4 : w.heap.size + 1 < w2.heap.size := (by omega); obtain ⟨hc2, hf2⟩ := bcell hb2; clear hB2 hb2))
      refine bodyPost_ret (v := .tuple #[.agg #[.slice none 0 0, .slice none 0 0, .int .i64 0], .int .i64 9]) (by simp [results, Tryz.results63, go_sem, hc1, hf1, hc2, hf2, z1, z2, z3, z4]) rfl ⟨.inr ⟨9, rfl, by unfold routeErr; rw [HA.out, HB.out]; rfl, fun R l h => by have := h.2.1; rw [HB.out] at this; cases this⟩, ?_⟩
      have hB := HB2.out
      (repeat (first | with_reducible exact Below.refl _ _ | with_reducible assumption | ((with_reducible refine Below.setCell ?_ ?_ _); rotate_left; focus (first | exact Nat.le_refl _ | omega | exact Below.size (by assumption) | (simp; done) | (simp; omega))) | ((with_reducible refine Below.alloc ?_ ?_ _); rotate_left; focus (first | exact Nat.le_refl _ | omega | exact Below.size (by assumption) | (simp; done) | (simp; omega))) | (with_reducible refine Below.drew ?_) | (with_reducible refine drewN_ ?_ _)))
    | true =>
      have HB := Lib.hid hb
      clear ha hb
      have HKR : Hid (∀ r ∈ n.rev.roads, 0 ≤ r.len ∧ r.len ≤ 1073741824) := fun r hr => by
        obtain ⟨x, hx, rfl⟩ := List.mem_map.1 hr
        have := HK.out.len x hx
        show 0 ≤ x.len ∧ x.len ≤ _
        omega
      go_enter Tryz.func63, Tryz.ntmps63
      go_wp2_with (first | (go_at_call 74; have gg := h0; clear gg; refine (has_any n v1 v2 a _ (HN.out.later (by (repeat (first | with_reducible exact Below.refl _ _ | with_reducible assumption | ((with_reducible refine Below.setCell ?_ ?_ _); rotate_left; focus (first | exact Nat.le_refl _ | omega | exact Below.size (by assumption) | (simp; done) | (simp; omega))) | ((with_reducible refine Below.alloc ?_ ?_ _); rotate_left; focus (first | exact Nat.le_refl _ | omega | exact Below.size (by assumption) | (simp; done) | (simp; omega))) | (with_reducible refine Below.drew ?_) | (with_reducible refine drewN_ ?_ _))))) HK.out.nodes (by have := HK.out.few; omega)).mono ?_; rintro e w1 ⟨rfl, hb1⟩; rw [HA.out]; have hB1 := from_ (w := w) hb1 (by (repeat (first | with_reducible exact Below.refl _ _ | with_reducible assumption | ((with_reducible refine Below.setCell ?_ ?_ _); rotate_left; focus (first | exact Nat.le_refl _ | omega | exact Below.size (by assumption) | (simp; done) | (simp; omega))) | ((with_reducible refine Below.alloc ?_ ?_ _); rotate_left; focus (first | exact Nat.le_refl _ | omega | exact Below.size (by assumption) | (simp; done) | (simp; omega))) | (with_reducible refine Below.drew ?_) | (with_reducible refine drewN_ ?_ _)))); have HB1 := Lib.hid hB1; have hz1 := hb1.size; simp at hz1; have p1 := keepObj hb1 (obj_old (obj_last w (.cells #[v1, v2] 35))); have q1 := keepObj hb1 (obj_last2 w (.cells #[v1, v2] 35) (.cells #[.slice none 0 0, .slice none 0 0, .int .i64 0] 174)); have c10 := obj_cell p1 0; have c11 := obj_cell p1 1; simp at c10 c11; have P1 := Lib.hid p1; have Q1 := Lib.hid q1; clear hB1 hb1 h0 p1 q1) | (go_at_call 74; refine (has_any n v1 v2 b _ (HN.out.later HB1.out) HK.out.nodes (by have := HK.out.few; omega)).mono ?_; rintro e w2 ⟨rfl, hb2⟩; rw [HB.out]; have hB2 := from_ (w := w) hb2 HB1.out; have HB2 := Lib.hid hB2; have hz2 := hb2.size; have p2 := keepObj hb2 P1.out; have q2 := keepObj hb2 Q1.out; have c20 := obj_cell p2 0; have c21 := obj_cell p2 1; simp at c20 c21; have P2 := Lib.hid p2; have Q2 := Lib.hid q2; clear hB2 hb2 p2 q2 c10 c11 P1 Q1) | (go_at_call 76; refine (reverse_any n v1 v2 _ (HN.out.later HB2.out) (by have := HK.out.few; omega) (by have := HK.out.few; omega)).mono ?_; rintro e w3 ⟨⟨y1, y2, rfl, hN3⟩, hb3⟩; have HN3 := Lib.hid hN3; have hB3 := from_ (w := w) hb3 HB2.out; have HB3 := Lib.hid hB3; have hz3 := hb3.size; have P3 := Lib.hid (keepObj hb3 P2.out); have Q3 := Lib.hid (keepObj hb3 Q2.out); clear hB3 hb3 hN3 P2 Q2 c20 c21) | (go_at_call 75; refine (lengths_any n.rev b y1 y2 _ HN3.out (by have := HS.out; simp [Net.rev]; omega) HKR.out).mono ?_; rintro e w4 ⟨⟨bD, D, rfl, hbD, hI4, hnd, hval, HR, hFR, hLR⟩, hb4⟩; have HI4 := Lib.hid hI4; have HVAL := Lib.hid hval; have HFR := Lib.hid hFR; have HLR := Lib.hid hLR; have hB4 := from_ (w := w) hb4 HB3.out; have HB4 := Lib.hid hB4; have hz4 := hb4.size; have p4 := keepObj hb4 P3.out; have q4 := keepObj hb4 Q3.out; have c40 := obj_cell p4 0; have c41 := obj_cell p4 1; have f0 := obj_cell q4 0; have f1 := obj_cell q4 1; have f2 := obj_cell q4 2; have g0 := obj_free q4 0; have g1 := obj_free q4 1; have g2 := obj_free q4 2; simp at c40 c41 f0 f1 f2; have z7 := obj_lt p4; have z8 := obj_lt q4; have P4 := Lib.hid p4; have Q4 := Lib.hid q4; have hbD2 := hI4.lt; have hlk := look_two (w := w4.alloc (.cells #[.map (some bD)] 78)) (hI4.keep (by (repeat (first | with_reducible exact Below.refl _ _ | with_reducible assumption | ((with_reducible refine Below.setCell ?_ ?_ _); rotate_left; focus (first | exact Nat.le_refl _ | omega | exact Below.size (by assumption) | (simp; done) | (simp; omega))) | ((with_reducible refine Below.alloc ?_ ?_ _); rotate_left; focus (first | exact Nat.le_refl _ | omega | exact Below.size (by assumption) | (simp; done) | (simp; omega))) | (with_reducible refine Below.drew ?_) | (with_reducible refine drewN_ ?_ _))))) a; clear hB4 hb4 hnd hval hFR hLR hI4 P3 Q3 p4 q4) | (go_at_call 77; refine (hops_any n v1 v2 _ (HN.out.later (by have h := HB4.out; (repeat (first | with_reducible exact Below.refl _ _ | with_reducible assumption | ((with_reducible refine Below.setCell ?_ ?_ _); rotate_left; focus (first | exact Nat.le_refl _ | omega | exact Below.size (by assumption) | (simp; done) | (simp; omega))) | ((with_reducible refine Below.alloc ?_ ?_ _); rotate_left; focus (first | exact Nat.le_refl _ | omega | exact Below.size (by assumption) | (simp; done) | (simp; omega))) | (with_reducible refine Below.drew ?_) | (with_reducible refine drewN_ ?_ _))))) (by have := HS.out; omega)).mono ?_; rintro e w5 ⟨rfl, ⟨H, hG, hF⟩, hb5⟩; simp at hG; have HG := Lib.hid hG; have HF := Lib.hid hF; have hB5 := from_ (w := w) hb5 (by have h := HB4.out; (repeat (first | with_reducible exact Below.refl _ _ | with_reducible assumption | ((with_reducible refine Below.setCell ?_ ?_ _); rotate_left; focus (first | exact Nat.le_refl _ | omega | exact Below.size (by assumption) | (simp; done) | (simp; omega))) | ((with_reducible refine Below.alloc ?_ ?_ _); rotate_left; focus (first | exact Nat.le_refl _ | omega | exact Below.size (by assumption) | (simp; done) | (simp; omega))) | (with_reducible refine Below.drew ?_) | (with_reducible refine drewN_ ?_ _)))); have HB5 := Lib.hid hB5; have hz5 := hb5.size; simp at hz5; have Q5 := Lib.hid (keepObj hb5 (obj_old Q4.out)); have L5 := Lib.hid (keepObj hb5 (obj_last w4 (.cells #[.map (some bD)] 78))); have HI5 := Lib.hid ((HI4.out.keep ((Below.refl _ _).alloc (Nat.le_refl _) (.cells #[.map (some bD)] 78))).keep hb5); clear hG hF hB5 hb5 c40 c41 hlk P4 f0 f1 f2 g0 g1 g2))
      · have hno : Vi.look D a = none := by
          cases hx : Vi.look D a with
          | none => rfl
          | some d =>
            have : (Vi.look D a).isNone = true := by assumption
            rw [hx] at this; cases this
        have HNO := Lib.hid hno
        clear hno
        refine bodyPost_ret (v := .tuple #[.agg #[.slice none 0 0, .slice none 0 0, .int .i64 0], .int .i64 31]) (by simp [results, Tryz.results63, go_sem, f0, f1, f2, g0, g1, g2, z8]) rfl ⟨.inr ⟨31, rfl, by unfold routeErr; rw [HA.out, HB.out]; rfl, fun R l h => ?_⟩, ?_⟩
        · obtain ⟨_, _, A', B', _, hB', hl, _⟩ := h
          have e : B' = HR := funext fun k => fin_unique (hB' k) (HFR.out k)
          rw [e] at hl
          have := (HLR.out a l).2 hl
          rw [HNO.out] at this; cases this
        · have hB := HB4.out
          (repeat (first | with_reducible exact Below.refl _ _ | with_reducible assumption | ((with_reducible refine Below.setCell ?_ ?_ _); rotate_left; focus (first | exact Nat.le_refl _ | omega | exact Below.size (by assumption) | (simp; done) | (simp; omega))) | ((with_reducible refine Below.alloc ?_ ?_ _); rotate_left; focus (first | exact Nat.le_refl _ | omega | exact Below.size (by assumption) | (simp; done) | (simp; omega))) | (with_reducible refine Below.drew ?_) | (with_reducible refine drewN_ ?_ _)))
      · obtain ⟨da, hda⟩ : ∃ d, Vi.look D a = some d := by
          cases hx : Vi.look D a with
          | none =>
            have : (Vi.look D a).isNone = false := by assumption
            rw [hx] at this; cases this
          | some d => exact ⟨d, rfl⟩
        have hdd : (Vi.look D a).getD 0 = da := by rw [hda]; rfl
        rw [hdd]
        have HDA := Lib.hid hda
        have hds := HVAL.out a da hda
        have HA2 := Lib.hid (HK.out.hop HF.out)
        clear hda hdd
        go_loopw [13] (fun s13 wx => ∃ (bt : Nat) (P : List Hp) (x : Int) (vn vr : Value), s13 = .pointer (some ⟨bt, 0, none⟩) ∧ Hid (FMem w5 da (w5.heap.size + 1) bt (a :: P.map Hp.dst) (P.map Hp.road) x vn vr wx) ∧ Hid (FLog H (Least HR b) a b D da P x)) (fun s13 wx => ((Vi.look D (atI s13 wx)).getD 0).toNat)
        case atStart =>
          refine ⟨w5.heap.size + 2, [], a, _, _, rfl, fmem_start w5 a da, ⟨fun R => ⟨fun h => ⟨R, rfl, h⟩, fun ⟨R', e, h⟩ => by rw [e]; exact h⟩, da, HDA.out, hds.1, by simp⟩⟩
        case round =>
          obtain ⟨bt, P, x, vn, vr, rfl, hM, hL⟩ := hrel
          obtain ⟨an, nn, cn, rfl⟩ := hM.out.on.val
          obtain ⟨ar, nr, cr, rfl⟩ := hM.out.orr.val
          have o0 := obj_cell hM.out.out 0
          have o1 := obj_cell hM.out.out 1
          have o2 := obj_cell hM.out.out 2
          have t0 := obj_cell hM.out.cur 0
          have tf := obj_free hM.out.cur 0
          simp at o0 o1 o2 t0
          have hzx := hM.out.low.size
          have hbo := obj_lt hM.out.out
          have hbt := obj_lt hM.out.cur
          have hbtb := hM.out.bob.2.2
          by_cases hxb : x = b
          · have qx := keepObj hM.out.low Q5.out
            have f0 := obj_cell qx 0
            have f1 := obj_cell qx 1
            have f2 := obj_cell qx 2
            have g0 := obj_free qx 0
            have g1 := obj_free qx 1
            have g2 := obj_free qx 2
            simp at f0 f1 f2
            have z9 : w.heap.size + 1 < wr.heap.size := by omega
            have hxb' : (x == b) = true := by simpa using hxb
            go_wp2_with fail
            subst hxb
            refine bodyPost_ret (v := .tuple #[.agg #[.slice an nn cn, .slice ar nr cr, .int .i64 da], .int .i64 0]) (by simp [results, Tryz.results63, go_sem, f0, f1, f2, g0, g1, g2, z9]) rfl ⟨.inl ⟨P, da, _, _, rfl, ⟨HA.out, HB.out, H, HR, HF.out, HFR.out, (HLR.out _ _).1 HDA.out, (hL.out.way P).2 ⟨[], by simp, .done⟩⟩, hds.2, ?_, ?_, ?_⟩, ?_⟩
            · obtain ⟨d, _, h1, h2⟩ := hL.out.dist; omega
            · have hne : ∀ o, (Value.slice an nn cn).ownBlock ≠ some (⟨w.heap.size + 1, o, none⟩ : Addr).block := fun o e => by have := (hM.out.on.blk _ e).1; simp at this; omega
              exact (((hM.out.on.keepSet _ (hne 0) _).keepSet _ (hne 1) _).keepSet _ (hne 2) _).mono (by omega)
            · have hne : ∀ o, (Value.slice ar nr cr).ownBlock ≠ some (⟨w.heap.size + 1, o, none⟩ : Addr).block := fun o e => by have := (hM.out.orr.blk _ e).1; simp at this; omega
              exact (((hM.out.orr.keepSet _ (hne 0) _).keepSet _ (hne 1) _).keepSet _ (hne 2) _).mono (by omega)
            · have hB := HB5.out.trans (hM.out.low.mono HB5.out.size)
              (repeat (first | with_reducible exact Below.refl _ _ | with_reducible assumption | ((with_reducible refine Below.setCell ?_ ?_ _); rotate_left; focus (first | exact Nat.le_refl _ | omega | exact Below.size (by assumption) | (simp; done) | (simp; omega))) | ((with_reducible refine Below.alloc ?_ ?_ _); rotate_left; focus (first | exact Nat.le_refl _ | omega | exact Below.size (by assumption) | (simp; done) | (simp; omega))) | (with_reducible refine Below.drew ?_) | (with_reducible refine drewN_ ?_ _)))
          · have hxb' : (x == b) = false := by simpa using hxb
            obtain ⟨a0, n0, c0, hO, hn0, hLH⟩ := hops_look HG.out (by omega) x
            have HO := Lib.hid hO
            have HN0 := Lib.hid hn0
            have HLH := Lib.hid hLH
            clear hO hn0 hLH
            have hl1 := HLH.out wr hM.out.low
            have hn0b : n0 ≤ 200 := by rw [← HN0.out]; exact fin_few HF.out HS.out x
            rcases first_keep (H x) (keepB D x) with hall | ⟨k, hk, hkt, hkf⟩
            · go_wp2_with (go_at_call 78; refine (index_any (H x) a0 n0 c0 D x bD w4.heap.size bt _ (HO.out.keep hM.out.low).sl (by omega) (keepObj hM.out.low L5.out) hM.out.cur (HI5.out.keep hM.out.low) (fun h hh => by have := HA2.out x h hh; omega) (fun k r hr => by have := HVAL.out k r hr; omega)).mono ?_; rintro e' w6 ⟨⟨i, rfl, hi⟩, hb6⟩; have hi2 := ix_none hi hall; subst hi2; have hM6 := hM.out.keep hb6; have q6 := keepObj hM6.low Q5.out; have f0 := obj_cell q6 0; have f1 := obj_cell q6 1; have f2 := obj_cell q6 2; have g0 := obj_free q6 0; have g1 := obj_free q6 1; have g2 := obj_free q6 2; simp at f0 f1 f2; have z9 := obj_lt q6; have HM6 := Lib.hid hM6; clear hb6 hi hM6 q6)
              refine bodyPost_ret (v := .tuple #[.agg #[.slice none 0 0, .slice none 0 0, .int .i64 0], .int .i64 31]) (by simp [results, Tryz.results63, go_sem, f0, f1, f2, g0, g1, g2, z9]) rfl ⟨.inr ⟨31, rfl, by unfold routeErr; rw [HA.out, HB.out]; rfl, fun R l h => ?_⟩, ?_⟩
              · obtain ⟨_, _, A', B', hA', hB', _, hw⟩ := h
                have e : B' = HR := funext fun k => fin_unique (hB' k) (HFR.out k)
                have e2 : A' = H := funext fun k => fin_unique (hA' k) (HF.out k)
                rw [e, e2] at hw
                exact hL.out.stuck HLR.out hxb hall R hw
              · have hB := HB5.out.trans (HM6.out.low.mono HB5.out.size)
                (repeat (first | with_reducible exact Below.refl _ _ | with_reducible assumption | ((with_reducible refine Below.setCell ?_ ?_ _); rotate_left; focus (first | exact Nat.le_refl _ | omega | exact Below.size (by assumption) | (simp; done) | (simp; omega))) | ((with_reducible refine Below.alloc ?_ ?_ _); rotate_left; focus (first | exact Nat.le_refl _ | omega | exact Below.size (by assumption) | (simp; done) | (simp; omega))) | (with_reducible refine Below.drew ?_) | (with_reducible refine drewN_ ?_ _)))
            · have hkn : k < n0 := by rw [← HN0.out]; exact hk
              obtain ⟨gr, rfl, hgr1, hgr2⟩ := ow_at HO.out (fun e => by rw [e] at hk; simp at hk)
              obtain ⟨y, hy⟩ : ∃ y, y = (H x)[k]! := ⟨_, rfl⟩
              have HY := Lib.hid hy
              clear hy
              have hk1 : (0 : Int) ≤ (k : Int) := by omega
              have hk2 : (k : Int) < (n0 : Int) := by omega
              go_wp2_with (go_at_call 78; refine (index_any (H x) (some ⟨gr, 0, none⟩) n0 c0 D x bD w4.heap.size bt _ (HO.out.keep hM.out.low).sl (by omega) (keepObj hM.out.low L5.out) hM.out.cur (HI5.out.keep hM.out.low) (fun h hh => by have := HA2.out x h hh; omega) (fun k r hr => by have := HVAL.out k r hr; omega)).mono ?_; rintro e' w6 ⟨⟨i, rfl, hi⟩, hb6⟩; have hi2 := ix_some hi hk hkt hkf; subst hi2; have hM6 := hM.out.keep hb6; have hl2 := HLH.out w6 hM6.low; obtain ⟨b0, b1, b2⟩ := hp_cell (HO.out.keep hM6.low) (i := k) hk; rw [← HY.out] at b0 b1 b2; have z9 := hb6.size; have z10 : gr < w6.heap.size := (by omega); have t1 := obj_cell hM6.cur 0; simp at t1; have z11 : bt < w6.heap.size := (by omega); have HM6 := Lib.hid hM6; clear hb6 hi hM6)
              obtain ⟨i0, hi, hz0, hz1, hz2⟩ := info_parts iIntT
              have hM0 := HM6.out.keep (w' := w6.alloc (.cells #[.int .i64 y.dst, .int .i64 y.road, .int .i64 y.len] 193)) (by (repeat (first | with_reducible exact Below.refl _ _ | with_reducible assumption | ((with_reducible refine Below.setCell ?_ ?_ _); rotate_left; focus (first | exact Nat.le_refl _ | omega | exact Below.size (by assumption) | (simp; done) | (simp; omega))) | ((with_reducible refine Below.alloc ?_ ?_ _); rotate_left; focus (first | exact Nat.le_refl _ | omega | exact Below.size (by assumption) | (simp; done) | (simp; omega))) | (with_reducible refine Below.drew ?_) | (with_reducible refine drewN_ ?_ _))))
              have O0 := Lib.hid hM0.out
              have HM0 := Lib.hid hM0
              have H0 := Lib.hid (obj_last w6 (.cells #[.int .i64 y.dst, .int .i64 y.road, .int .i64 y.len] 193))
              have e0 := obj_cell HM6.out.out 0
              have e1 := obj_cell HM6.out.out 1
              simp at e0 e1
              have zb := obj_lt HM6.out.out
              have hnl : ((a :: P.map Hp.dst).map i1).length ≤ 216895848449 := by have := hL.out.dist; obtain ⟨d, _, h1, h2⟩ := this; simp; omega
              have hrl : ((P.map Hp.road).map i1).length ≤ 216895848449 := by have := hL.out.dist; obtain ⟨d, _, h1, h2⟩ := this; simp; omega
              have hap : (Value.slice ar nr cr).ownBlock = none ∨ (Value.slice ar nr cr).ownBlock ≠ (Value.slice an nn cn).ownBlock := by
                cases hq : (Value.slice ar nr cr).ownBlock with
                | none => exact .inl rfl
                | some g =>
                  right; intro e
                  exact (HM6.out.ap1 g e.symm).2.2 hq
              have HAP := Lib.hid hap
              have HNL := Lib.hid hnl
              have HRL := Lib.hid hrl
              clear hM0 hap hnl hrl b0 b1 b2 hl1 hl2 o0 o1 o2 t0 tf
              go_cut [] (fun wx => ∃ vn' vr', Hid (FMem w5 da (w5.heap.size + 1) bt ((a :: P.map Hp.dst) ++ [y.dst]) (P.map Hp.road ++ [y.road]) x vn' vr' wx) ∧ Hid (wx.heap[w6.heap.size]? = some (.cells #[.int .i64 y.dst, .int .i64 y.road, .int .i64 y.len] 193)))
              case first =>
                refine wp_region_noPanic ?_
                refine till_begin (k := 13) (C := fun w' => w'.heap[w6.heap.size]? = some (.cells #[.int .i64 y.dst, .int .i64 y.road, .int .i64 y.len] 193) ∧ w'.heap[w5.heap.size + 1]? = some (.cells #[.slice an nn cn, .slice ar nr cr, .int .i64 da] 174 (0, 0))) (by kernel_rfl) ?_
                have hC : (w6.alloc (.cells #[.int .i64 y.dst, .int .i64 y.road, .int .i64 y.len] 193)).drew.heap[w6.heap.size]? = some (.cells #[.int .i64 y.dst, .int .i64 y.road, .int .i64 y.len] 193) ∧ (w6.alloc (.cells #[.int .i64 y.dst, .int .i64 y.road, .int .i64 y.len] 193)).drew.heap[w5.heap.size + 1]? = some (.cells #[.slice an nn cn, .slice ar nr cr, .int .i64 da] 174 (0, 0)) := ⟨H0.out, O0.out⟩
                refine till_take (i := 0) (v := ?vt03) [13] rfl (by kernel_rfl) (by kernel_rfl) (by kernel_rfl) (by kernel_rfl) (by kernel_rfl) (by kernel_rfl) (by kernel_rfl) (fun _ _ _ h => h) (by rfl) ?yt03 hC ?rt03
                case yt03 =>
                  intro W hW
                  have k0 := obj_cell hW.1 0; have k1 := obj_cell hW.1 1; have k2 := obj_cell hW.2 0; have k3 := obj_cell hW.2 1
                  simp at k0 k1 k2 k3
                  clear hW
                  go_simp
                  with_reducible rfl
                try simp only [Act.put, List.setIfInBounds_toArray, List.set_cons_zero, List.set_cons_succ]
                refine till_take (i := 1) (v := ?vt112) [13] rfl (by kernel_rfl) (by kernel_rfl) (by kernel_rfl) (by kernel_rfl) (by kernel_rfl) (by kernel_rfl) (by kernel_rfl) (fun _ _ _ h => h) (by rfl) ?yt112 hC ?rt112
                case yt112 =>
                  intro W hW
                  have k0 := obj_cell hW.1 0; have k1 := obj_cell hW.1 1; have k2 := obj_cell hW.2 0; have k3 := obj_cell hW.2 1
                  simp at k0 k1 k2 k3
                  clear hW
                  go_simp
                  with_reducible rfl
                try simp only [Act.put, List.setIfInBounds_toArray, List.set_cons_zero, List.set_cons_succ]
                refine till_take (i := 2) (v := ?vt221) [13] rfl (by kernel_rfl) (by kernel_rfl) (by kernel_rfl) (by kernel_rfl) (by kernel_rfl) (by kernel_rfl) (by kernel_rfl) (fun _ _ _ h => h) (by rfl) ?yt221 hC ?rt221
                case yt221 =>
                  intro W hW
                  have k0 := obj_cell hW.1 0; have k1 := obj_cell hW.1 1; have k2 := obj_cell hW.2 0; have k3 := obj_cell hW.2 1
                  simp at k0 k1 k2 k3
                  clear hW
                  go_simp
                  with_reducible rfl
                try simp only [Act.put, List.setIfInBounds_toArray, List.set_cons_zero, List.set_cons_succ]
                refine till_take (i := 3) (v := ?vt330) [13] rfl (by kernel_rfl) (by kernel_rfl) (by kernel_rfl) (by kernel_rfl) (by kernel_rfl) (by kernel_rfl) (by kernel_rfl) (fun _ _ _ h => h) (by rfl) ?yt330 hC ?rt330
                case yt330 =>
                  intro W hW
                  have k0 := obj_cell hW.1 0; have k1 := obj_cell hW.1 1; have k2 := obj_cell hW.2 0; have k3 := obj_cell hW.2 1
                  simp at k0 k1 k2 k3
                  clear hW
                  go_simp
                  with_reducible rfl
                try simp only [Act.put, List.setIfInBounds_toArray, List.set_cons_zero, List.set_cons_succ]
                refine till_take (i := 6) (v := ?vt639) [13] rfl (by kernel_rfl) (by kernel_rfl) (by kernel_rfl) (by kernel_rfl) (by kernel_rfl) (by kernel_rfl) (by kernel_rfl) (fun _ _ _ h => h) (by rfl) ?yt639 hC ?rt639
                case yt639 =>
                  intro W hW
                  have k0 := obj_cell hW.1 0; have k1 := obj_cell hW.1 1; have k2 := obj_cell hW.2 0; have k3 := obj_cell hW.2 1
                  simp at k0 k1 k2 k3
                  clear hW
                  go_simp
                  with_reducible rfl
                try simp only [Act.put, List.setIfInBounds_toArray, List.set_cons_zero, List.set_cons_succ]
                refine till_take (i := 7) (v := ?vt748) [13] rfl (by kernel_rfl) (by kernel_rfl) (by kernel_rfl) (by kernel_rfl) (by kernel_rfl) (by kernel_rfl) (by kernel_rfl) (fun _ _ _ h => h) (by rfl) ?yt748 hC ?rt748
                case yt748 =>
                  intro W hW
                  have k0 := obj_cell hW.1 0; have k1 := obj_cell hW.1 1; have k2 := obj_cell hW.2 0; have k3 := obj_cell hW.2 1
                  simp at k0 k1 k2 k3
                  clear hW
                  go_simp
                  with_reducible rfl
                try simp only [Act.put, List.setIfInBounds_toArray, List.set_cons_zero, List.set_cons_succ]
                refine till_take (i := 8) (v := ?vt857) [13, 11, 10, 9] rfl (by kernel_rfl) (by kernel_rfl) (by kernel_rfl) (by kernel_rfl) (by kernel_rfl) (by kernel_rfl) (by kernel_rfl) (fun _ _ _ h => h) (by rfl) ?yt857 hC ?rt857
                case yt857 =>
                  intro W hW
                  have k0 := obj_cell hW.1 0; have k1 := obj_cell hW.1 1; have k2 := obj_cell hW.2 0; have k3 := obj_cell hW.2 1
                  simp at k0 k1 k2 k3
                  clear hW
                  go_simp
                  with_reducible rfl
                try simp only [Act.put, List.setIfInBounds_toArray, List.set_cons_zero, List.set_cons_succ]
                refine till_take (i := 9) (v := ?vt966) [13, 11, 10] rfl (by kernel_rfl) (by kernel_rfl) (by kernel_rfl) (by kernel_rfl) (by kernel_rfl) (by kernel_rfl) (by kernel_rfl) (fun _ _ _ h => h) (by rfl) ?yt966 hC ?rt966
                case yt966 =>
                  intro W hW
                  have k0 := obj_cell hW.1 0; have k1 := obj_cell hW.1 1; have k2 := obj_cell hW.2 0; have k3 := obj_cell hW.2 1
                  simp at k0 k1 k2 k3
                  clear hW
                  go_simp
                  with_reducible rfl
                try simp only [Act.put, List.setIfInBounds_toArray, List.set_cons_zero, List.set_cons_succ]
                refine till_ready (rs := [4, 10]) (by kernel_rfl) (by rfl) ?_
                refine TillReady.cons rfl (fun K hK => ?_) ?_
                focus
                  go_simp
                  refine hK.out _ _ (fun _ => ⟨(by repeat (first | exact obj_last _ _ | exact H2.out | exact H1.out | exact H0.out | refine obj_old ?_ | refine obj_setOther ?_ (by simp; omega))), (by repeat (first | exact obj_last _ _ | exact O2.out | exact O1.out | exact O0.out | refine obj_old ?_ | refine obj_setOther ?_ (by simp; omega)))⟩) ?_
                  clear hK K
                  try simp only [Act.put, List.setIfInBounds_toArray, List.set_cons_zero, List.set_cons_succ]
                  refine till_ready (rs := [5, 10]) (by kernel_rfl) (by rfl) ?_
                  refine TillReady.cons rfl (fun K hK => ?_) ?_
                  focus
                    refine step_append_lies _ (by rfl) _ _ _ (by rfl) w5.heap.size 3 i0 _ 1 8 uInts hi hz0 hz1 hz2 rfl (by decide) (.slice an nn cn) ((a :: P.map Hp.dst).map i1).length ((a :: P.map Hp.dst).map i1).flatten (by rfl) (HM6.out.on.keep (by (repeat (first | with_reducible exact Below.refl _ _ | with_reducible assumption | ((with_reducible refine Below.setCell ?_ ?_ _); rotate_left; focus (first | exact Nat.le_refl _ | omega | exact Below.size (by assumption) | (simp; done) | (simp; omega))) | ((with_reducible refine Below.alloc ?_ ?_ _); rotate_left; focus (first | exact Nat.le_refl _ | omega | exact Below.size (by assumption) | (simp; done) | (simp; omega))) | (with_reducible refine Below.drew ?_) | (with_reducible refine drewN_ ?_ _))))).1 _ 1 1 (i1 y.dst) (by rfl) rfl (by exact World.news_of_block (cs := #[.int .i64 y.dst]) (t := 3) (fr := (0, 0)) (by repeat (first | exact obj_last _ _ | exact obj_last2 _ _ _ | exact obj_last3 _ _ _ _ | refine obj_old ?_))) (i1_one _) (by omega) (by have := HNL.out; unfold maxLen; omega) (by have := HNL.out; omega) (by have := HM6.out.low.size; first | (simp; done) | (simp; omega)) _ rfl ?_
                    intro gg1 cc1 W1 ho1 hg1 ha1 hl1
                    have hz1' := hg1.size
                    simp at hz1'
                    have G1 := Lib.hid ((grown_of (w := w6) (row := (Value.slice an nn cn).ownBlock) (by (repeat (first | with_reducible exact Below.refl _ _ | with_reducible assumption | ((with_reducible refine Below.setCell ?_ ?_ _); rotate_left; focus (first | exact Nat.le_refl _ | omega | exact Below.size (by assumption) | (simp; done) | (simp; omega))) | ((with_reducible refine Below.alloc ?_ ?_ _); rotate_left; focus (first | exact Nat.le_refl _ | omega | exact Below.size (by assumption) | (simp; done) | (simp; omega))) | (with_reducible refine Below.drew ?_) | (with_reducible refine drewN_ ?_ _))))).trans hg1)
                    have H1 := Lib.hid (row_keeps (b := w6.heap.size) (o := (.cells #[.int .i64 y.dst, .int .i64 y.road, .int .i64 y.len] 193)) hg1 (fun e => by have := (HM6.out.on.blk _ e).2; first | omega | (simp at this; omega)) (by repeat (first | exact obj_last _ _ | exact H2.out | exact H1.out | exact H0.out | refine obj_old ?_ | refine obj_setOther ?_ (by simp; omega))))
                    have O1 := Lib.hid (row_keeps (b := w5.heap.size + 1) (o := (.cells #[.slice an nn cn, .slice ar nr cr, .int .i64 da] 174 (0, 0))) hg1 (fun e => (HM6.out.ap1 _ e).1 rfl) (by repeat (first | exact obj_last _ _ | exact O2.out | exact O1.out | exact O0.out | refine obj_old ?_ | refine obj_setOther ?_ (by simp; omega))))
                    have OR1 := Lib.hid (HM6.out.orr.kept G1.out HAP.out)
                    have OW1 : Hid (Ow w5.heap.size W1 3 1 (.slice (some ⟨gg1, 0, none⟩) (P.length + 1 + 1) cc1) (((a :: P.map Hp.dst) ++ [y.dst]).map i1)) := by
                      have q := Ow.grow (R := ((a :: P.map Hp.dst).map i1)) (N := [i1 y.dst]) (m := 1) (by simpa only [List.flatten_cons, List.flatten_nil, List.append_nil] using ho1) rfl (i1_len _) (fun r hr => by simp at hr; subst hr; rfl)
                      simp only [List.length_map, List.length_cons] at q
                      show Ow _ _ _ _ _ _
                      rw [List.map_append]
                      exact q
                    have AT1 := Lib.hid (show (Value.slice an nn cn).ownBlock = some gg1 ∨ w6.heap.size ≤ gg1 from ha1.imp id (fun e => by rw [e]; first | (simp; done) | (simp; omega)))
                    refine hK.out _ _ (fun _ => ⟨H1.out, O1.out⟩) ?_
                    clear hK K ho1 hg1 ha1 hl1
                    try simp only [Act.put, List.setIfInBounds_toArray, List.set_cons_zero, List.set_cons_succ]
                    refine till_take (i := 12) (v := ?vt12103) [13] rfl (by kernel_rfl) (by kernel_rfl) (by kernel_rfl) (by kernel_rfl) (by kernel_rfl) (by kernel_rfl) (by kernel_rfl) (fun _ _ _ h => h) (by rfl) ?yt12103 ⟨H1.out, O1.out⟩ ?rt12103
                    case yt12103 =>
                      intro W hW
                      have k0 := obj_cell hW.1 0; have k1 := obj_cell hW.1 1; have k2 := obj_cell hW.2 0; have k3 := obj_cell hW.2 1
                      simp at k0 k1 k2 k3
                      clear hW
                      go_simp
                      with_reducible rfl
                    try simp only [Act.put, List.setIfInBounds_toArray, List.set_cons_zero, List.set_cons_succ]
                    refine till_ready (rs := [10]) (by kernel_rfl) (by rfl) ?_
                    refine TillReady.cons rfl (fun K hK => ?_) ?_
                    focus
                      go_simp
                      refine hK.out _ _ (fun _ => ⟨(by repeat (first | exact obj_last _ _ | exact H2.out | exact H1.out | exact H0.out | refine obj_old ?_ | refine obj_setOther ?_ (by simp; omega))), (by repeat (first | exact obj_last _ _ | exact O2.out | exact O1.out | exact O0.out | refine obj_old ?_ | refine obj_setOther ?_ (by simp; omega)))⟩) ?_
                      clear hK K
                      try simp only [Act.put, List.setIfInBounds_toArray, List.set_cons_zero, List.set_cons_succ]
                      refine till_ready (rs := [11]) (by kernel_rfl) (by rfl) ?_
                      refine TillReady.cons rfl (fun K hK => ?_) ?_
                      focus
                        refine step_append_lies _ (by rfl) _ _ _ (by rfl) w5.heap.size 3 i0 _ 1 8 uInts hi hz0 hz1 hz2 rfl (by decide) (.slice ar nr cr) ((P.map Hp.road).map i1).length ((P.map Hp.road).map i1).flatten (by rfl) (OR1.out.keep (by (repeat (first | with_reducible exact Below.refl _ _ | with_reducible assumption | ((with_reducible refine Below.setCell ?_ ?_ _); rotate_left; focus (first | exact Nat.le_refl _ | omega | exact Below.size (by assumption) | (simp; done) | (simp; omega))) | ((with_reducible refine Below.alloc ?_ ?_ _); rotate_left; focus (first | exact Nat.le_refl _ | omega | exact Below.size (by assumption) | (simp; done) | (simp; omega))) | (with_reducible refine Below.drew ?_) | (with_reducible refine drewN_ ?_ _))))).1 _ 1 1 (i1 y.road) (by rfl) rfl (by exact World.news_of_block (cs := #[.int .i64 y.road]) (t := 3) (fr := (0, 0)) (by first | exact N1.out | exact obj_last _ _)) (i1_one _) (by omega) (by have := HRL.out; unfold maxLen; omega) (by have := HRL.out; omega) (by have := HM6.out.low.size; first | omega | (simp; omega)) _ rfl ?_
                        intro gg2 cc2 W2 ho2 hg2 ha2 hl2
                        have G2 := Lib.hid ((grown_of (w := W1) (row := (Value.slice ar nr cr).ownBlock) (by (repeat (first | with_reducible exact Below.refl _ _ | with_reducible assumption | ((with_reducible refine Below.setCell ?_ ?_ _); rotate_left; focus (first | exact Nat.le_refl _ | omega | exact Below.size (by assumption) | (simp; done) | (simp; omega))) | ((with_reducible refine Below.alloc ?_ ?_ _); rotate_left; focus (first | exact Nat.le_refl _ | omega | exact Below.size (by assumption) | (simp; done) | (simp; omega))) | (with_reducible refine Below.drew ?_) | (with_reducible refine drewN_ ?_ _))))).trans hg2)
                        have hz2' := G2.out.size
                        have H2 := Lib.hid (row_keeps (b := w6.heap.size) (o := (.cells #[.int .i64 y.dst, .int .i64 y.road, .int .i64 y.len] 193)) hg2 (fun e => by have := (HM6.out.orr.blk _ e).2; first | omega | (simp at this; omega)) (by repeat (first | exact obj_last _ _ | exact H1.out | refine obj_old ?_ | refine obj_setOther ?_ (by simp; omega))))
                        have O2 := Lib.hid (row_keeps (b := w5.heap.size + 1) (o := (.cells #[.slice an nn cn, .slice ar nr cr, .int .i64 da] 174 (0, 0))) hg2 (fun e => (HM6.out.ap2 _ e).1 rfl) (by repeat (first | exact obj_last _ _ | exact O1.out | refine obj_old ?_ | refine obj_setOther ?_ (by simp; omega))))
                        have OW2 : Hid (Ow w5.heap.size W2 3 1 (.slice (some ⟨gg2, 0, none⟩) (P.length + 1) cc2) ((P.map Hp.road ++ [y.road]).map i1)) := by
                          have q := Ow.grow (R := ((P.map Hp.road).map i1)) (N := [i1 y.road]) (m := 1) (by simpa only [List.flatten_cons, List.flatten_nil, List.append_nil] using ho2) rfl (i1_len _) (fun r hr => by simp at hr; subst hr; rfl)
                          simp only [List.length_map, List.length_cons] at q
                          show Ow _ _ _ _ _ _
                          rw [List.map_append]
                          exact q
                        have AT2 := Lib.hid (show (Value.slice ar nr cr).ownBlock = some gg2 ∨ W1.heap.size ≤ gg2 from ha2.imp id (fun e => by rw [e]; first | exact Nat.le_refl _ | (simp; done) | (simp; omega)))
                        have q0 := obj_cell O2.out 0; have q1 := obj_cell O2.out 1; have q2 := obj_free O2.out 0; have q3 := obj_free O2.out 1
                        simp at q0 q1
                        refine hK.out _ _ (fun _ => ⟨H2.out, O2.out⟩) ?_
                        clear hK K ho2 hg2 ha2 hl2
                        try simp only [Act.put, List.setIfInBounds_toArray, List.set_cons_zero, List.set_cons_succ]
                        refine till_ready (rs := [13]) (by kernel_rfl) (by rfl) ?_
                        refine TillReady.cons rfl (fun K hK => ?_) ?_
                        focus
                          go_simp
                          refine hK.out _ _ (fun h => by cases (show true = false from h)) ?_
                          clear hK K
                          try simp only [Act.put, List.setIfInBounds_toArray, List.set_cons_zero, List.set_cons_succ]
                          refine till_ready (rs := [14]) (by kernel_rfl) (by rfl) ?_
                          refine TillReady.cons rfl (fun K hK => ?_) ?_
                          focus
                            go_simp
                            refine hK.out _ _ (fun h => by cases (show true = false from h)) ?_
                            clear hK K
                            try simp only [Act.put, List.setIfInBounds_toArray, List.set_cons_zero, List.set_cons_succ]
                            refine till_ready (rs := [15]) (by kernel_rfl) (by rfl) ?_
                            refine TillReady.cons rfl (fun K hK => ?_) ?_
                            focus
                              go_simp
                              refine hK.out _ _ (fun h => by cases (show true = false from h)) ?_
                              clear hK K
                              try simp only [Act.put, List.setIfInBounds_toArray, List.set_cons_zero, List.set_cons_succ]
                              refine till_done (by kernel_rfl) ?_
                              refine NoPanic.normal ?_
                              go_wp2_with fail
                              go_meet
                              exact ⟨_, _, HM6.out.join G1.out OW1.out AT1.out G2.out OW2.out AT2.out, obj_setOther (obj_setOther H2.out (by simp; omega)) (by simp; omega)⟩
                            exact TillReady.nil
                          exact TillReady.nil
                        exact TillReady.nil
                      exact TillReady.nil
                    exact TillReady.nil
                  refine TillReady.cons rfl (fun K hK => ?_) ?_
                  focus
                    go_simp
                    refine hK.out _ _ (fun _ => ⟨(by repeat (first | exact obj_last _ _ | exact H2.out | exact H1.out | exact H0.out | refine obj_old ?_ | refine obj_setOther ?_ (by simp; omega))), (by repeat (first | exact obj_last _ _ | exact O2.out | exact O1.out | exact O0.out | refine obj_old ?_ | refine obj_setOther ?_ (by simp; omega)))⟩) ?_
                    clear hK K
                    try simp only [Act.put, List.setIfInBounds_toArray, List.set_cons_zero, List.set_cons_succ]
                    refine till_ready (rs := [5]) (by kernel_rfl) (by rfl) ?_
                    refine TillReady.cons rfl (fun K hK => ?_) ?_
                    focus
                      refine step_append_lies _ (by rfl) _ _ _ (by rfl) w5.heap.size 3 i0 _ 1 8 uInts hi hz0 hz1 hz2 rfl (by decide) (.slice an nn cn) ((a :: P.map Hp.dst).map i1).length ((a :: P.map Hp.dst).map i1).flatten (by rfl) (HM6.out.on.keep (by (repeat (first | with_reducible exact Below.refl _ _ | with_reducible assumption | ((with_reducible refine Below.setCell ?_ ?_ _); rotate_left; focus (first | exact Nat.le_refl _ | omega | exact Below.size (by assumption) | (simp; done) | (simp; omega))) | ((with_reducible refine Below.alloc ?_ ?_ _); rotate_left; focus (first | exact Nat.le_refl _ | omega | exact Below.size (by assumption) | (simp; done) | (simp; omega))) | (with_reducible refine Below.drew ?_) | (with_reducible refine drewN_ ?_ _))))).1 _ 1 1 (i1 y.dst) (by rfl) rfl (by exact World.news_of_block (cs := #[.int .i64 y.dst]) (t := 3) (fr := (0, 0)) (by repeat (first | exact obj_last _ _ | exact obj_last2 _ _ _ | exact obj_last3 _ _ _ _ | refine obj_old ?_))) (i1_one _) (by omega) (by have := HNL.out; unfold maxLen; omega) (by have := HNL.out; omega) (by have := HM6.out.low.size; first | (simp; done) | (simp; omega)) _ rfl ?_
                      intro gg1 cc1 W1 ho1 hg1 ha1 hl1
                      have hz1' := hg1.size
                      simp at hz1'
                      have G1 := Lib.hid ((grown_of (w := w6) (row := (Value.slice an nn cn).ownBlock) (by (repeat (first | with_reducible exact Below.refl _ _ | with_reducible assumption | ((with_reducible refine Below.setCell ?_ ?_ _); rotate_left; focus (first | exact Nat.le_refl _ | omega | exact Below.size (by assumption) | (simp; done) | (simp; omega))) | ((with_reducible refine Below.alloc ?_ ?_ _); rotate_left; focus (first | exact Nat.le_refl _ | omega | exact Below.size (by assumption) | (simp; done) | (simp; omega))) | (with_reducible refine Below.drew ?_) | (with_reducible refine drewN_ ?_ _))))).trans hg1)
                      have H1 := Lib.hid (row_keeps (b := w6.heap.size) (o := (.cells #[.int .i64 y.dst, .int .i64 y.road, .int .i64 y.len] 193)) hg1 (fun e => by have := (HM6.out.on.blk _ e).2; first | omega | (simp at this; omega)) (by repeat (first | exact obj_last _ _ | exact H2.out | exact H1.out | exact H0.out | refine obj_old ?_ | refine obj_setOther ?_ (by simp; omega))))
                      have O1 := Lib.hid (row_keeps (b := w5.heap.size + 1) (o := (.cells #[.slice an nn cn, .slice ar nr cr, .int .i64 da] 174 (0, 0))) hg1 (fun e => (HM6.out.ap1 _ e).1 rfl) (by repeat (first | exact obj_last _ _ | exact O2.out | exact O1.out | exact O0.out | refine obj_old ?_ | refine obj_setOther ?_ (by simp; omega))))
                      have N1 := Lib.hid (row_keeps (b := w6.heap.size + 1 + 1) (o := .cells #[.int .i64 y.road] 3) hg1 (fun e => by have := (HM6.out.on.blk _ e).2; first | omega | (simp at this; omega)) (by repeat (first | exact obj_last2 _ _ _ | exact obj_last3 _ _ _ _ | refine obj_old ?_)))
                      have OR1 := Lib.hid (HM6.out.orr.kept G1.out HAP.out)
                      have OW1 : Hid (Ow w5.heap.size W1 3 1 (.slice (some ⟨gg1, 0, none⟩) (P.length + 1 + 1) cc1) (((a :: P.map Hp.dst) ++ [y.dst]).map i1)) := by
                        have q := Ow.grow (R := ((a :: P.map Hp.dst).map i1)) (N := [i1 y.dst]) (m := 1) (by simpa only [List.flatten_cons, List.flatten_nil, List.append_nil] using ho1) rfl (i1_len _) (fun r hr => by simp at hr; subst hr; rfl)
                        simp only [List.length_map, List.length_cons] at q
                        show Ow _ _ _ _ _ _
                        rw [List.map_append]
                        exact q
                      have AT1 := Lib.hid (show (Value.slice an nn cn).ownBlock = some gg1 ∨ w6.heap.size ≤ gg1 from ha1.imp id (fun e => by rw [e]; first | (simp; done) | (simp; omega)))
                      refine hK.out _ _ (fun _ => ⟨H1.out, O1.out⟩) ?_
                      clear hK K ho1 hg1 ha1 hl1
                      try simp only [Act.put, List.setIfInBounds_toArray, List.set_cons_zero, List.set_cons_succ]
                      refine till_take (i := 12) (v := ?vt12199) [13] rfl (by kernel_rfl) (by kernel_rfl) (by kernel_rfl) (by kernel_rfl) (by kernel_rfl) (by kernel_rfl) (by kernel_rfl) (fun _ _ _ h => h) (by rfl) ?yt12199 ⟨H1.out, O1.out⟩ ?rt12199
                      case yt12199 =>
                        intro W hW
                        have k0 := obj_cell hW.1 0; have k1 := obj_cell hW.1 1; have k2 := obj_cell hW.2 0; have k3 := obj_cell hW.2 1
                        simp at k0 k1 k2 k3
                        clear hW
                        go_simp
                        with_reducible rfl
                      try simp only [Act.put, List.setIfInBounds_toArray, List.set_cons_zero, List.set_cons_succ]
                      refine till_ready (rs := [11]) (by kernel_rfl) (by rfl) ?_
                      refine TillReady.cons rfl (fun K hK => ?_) ?_
                      focus
                        refine step_append_lies _ (by rfl) _ _ _ (by rfl) w5.heap.size 3 i0 _ 1 8 uInts hi hz0 hz1 hz2 rfl (by decide) (.slice ar nr cr) ((P.map Hp.road).map i1).length ((P.map Hp.road).map i1).flatten (by rfl) (OR1.out.keep (by (repeat (first | with_reducible exact Below.refl _ _ | with_reducible assumption | ((with_reducible refine Below.setCell ?_ ?_ _); rotate_left; focus (first | exact Nat.le_refl _ | omega | exact Below.size (by assumption) | (simp; done) | (simp; omega))) | ((with_reducible refine Below.alloc ?_ ?_ _); rotate_left; focus (first | exact Nat.le_refl _ | omega | exact Below.size (by assumption) | (simp; done) | (simp; omega))) | (with_reducible refine Below.drew ?_) | (with_reducible refine drewN_ ?_ _))))).1 _ 1 1 (i1 y.road) (by rfl) rfl (by exact World.news_of_block (cs := #[.int .i64 y.road]) (t := 3) (fr := (0, 0)) (by first | exact N1.out | exact obj_last _ _)) (i1_one _) (by omega) (by have := HRL.out; unfold maxLen; omega) (by have := HRL.out; omega) (by have := HM6.out.low.size; first | omega | (simp; omega)) _ rfl ?_
                        intro gg2 cc2 W2 ho2 hg2 ha2 hl2
                        have G2 := Lib.hid ((grown_of (w := W1) (row := (Value.slice ar nr cr).ownBlock) (by (repeat (first | with_reducible exact Below.refl _ _ | with_reducible assumption | ((with_reducible refine Below.setCell ?_ ?_ _); rotate_left; focus (first | exact Nat.le_refl _ | omega | exact Below.size (by assumption) | (simp; done) | (simp; omega))) | ((with_reducible refine Below.alloc ?_ ?_ _); rotate_left; focus (first | exact Nat.le_refl _ | omega | exact Below.size (by assumption) | (simp; done) | (simp; omega))) | (with_reducible refine Below.drew ?_) | (with_reducible refine drewN_ ?_ _))))).trans hg2)
                        have hz2' := G2.out.size
                        have H2 := Lib.hid (row_keeps (b := w6.heap.size) (o := (.cells #[.int .i64 y.dst, .int .i64 y.road, .int .i64 y.len] 193)) hg2 (fun e => by have := (HM6.out.orr.blk _ e).2; first | omega | (simp at this; omega)) (by repeat (first | exact obj_last _ _ | exact H1.out | refine obj_old ?_ | refine obj_setOther ?_ (by simp; omega))))
                        have O2 := Lib.hid (row_keeps (b := w5.heap.size + 1) (o := (.cells #[.slice an nn cn, .slice ar nr cr, .int .i64 da] 174 (0, 0))) hg2 (fun e => (HM6.out.ap2 _ e).1 rfl) (by repeat (first | exact obj_last _ _ | exact O1.out | refine obj_old ?_ | refine obj_setOther ?_ (by simp; omega))))
                        have OW2 : Hid (Ow w5.heap.size W2 3 1 (.slice (some ⟨gg2, 0, none⟩) (P.length + 1) cc2) ((P.map Hp.road ++ [y.road]).map i1)) := by
                          have q := Ow.grow (R := ((P.map Hp.road).map i1)) (N := [i1 y.road]) (m := 1) (by simpa only [List.flatten_cons, List.flatten_nil, List.append_nil] using ho2) rfl (i1_len _) (fun r hr => by simp at hr; subst hr; rfl)
                          simp only [List.length_map, List.length_cons] at q
                          show Ow _ _ _ _ _ _
                          rw [List.map_append]
                          exact q
                        have AT2 := Lib.hid (show (Value.slice ar nr cr).ownBlock = some gg2 ∨ W1.heap.size ≤ gg2 from ha2.imp id (fun e => by rw [e]; first | exact Nat.le_refl _ | (simp; done) | (simp; omega)))
                        have q0 := obj_cell O2.out 0; have q1 := obj_cell O2.out 1; have q2 := obj_free O2.out 0; have q3 := obj_free O2.out 1
                        simp at q0 q1
                        refine hK.out _ _ (fun _ => ⟨H2.out, O2.out⟩) ?_
                        clear hK K ho2 hg2 ha2 hl2
                        try simp only [Act.put, List.setIfInBounds_toArray, List.set_cons_zero, List.set_cons_succ]
                        refine till_ready (rs := [13]) (by kernel_rfl) (by rfl) ?_
                        refine TillReady.cons rfl (fun K hK => ?_) ?_
                        focus
                          go_simp
                          refine hK.out _ _ (fun h => by cases (show true = false from h)) ?_
                          clear hK K
                          try simp only [Act.put, List.setIfInBounds_toArray, List.set_cons_zero, List.set_cons_succ]
                          refine till_ready (rs := [14]) (by kernel_rfl) (by rfl) ?_
                          refine TillReady.cons rfl (fun K hK => ?_) ?_
                          focus
                            go_simp
                            refine hK.out _ _ (fun h => by cases (show true = false from h)) ?_
                            clear hK K
                            try simp only [Act.put, List.setIfInBounds_toArray, List.set_cons_zero, List.set_cons_succ]
                            refine till_ready (rs := [15]) (by kernel_rfl) (by rfl) ?_
                            refine TillReady.cons rfl (fun K hK => ?_) ?_
                            focus
                              go_simp
                              refine hK.out _ _ (fun h => by cases (show true = false from h)) ?_
                              clear hK K
                              try simp only [Act.put, List.setIfInBounds_toArray, List.set_cons_zero, List.set_cons_succ]
                              refine till_done (by kernel_rfl) ?_
                              refine NoPanic.normal ?_
                              go_wp2_with fail
                              go_meet
                              exact ⟨_, _, HM6.out.join G1.out OW1.out AT1.out G2.out OW2.out AT2.out, obj_setOther (obj_setOther H2.out (by simp; omega)) (by simp; omega)⟩
                            exact TillReady.nil
                          exact TillReady.nil
                        exact TillReady.nil
                      exact TillReady.nil
                    exact TillReady.nil
                  exact TillReady.nil
                refine TillReady.cons rfl (fun K hK => ?_) ?_
                focus
                  go_simp
                  refine hK.out _ _ (fun _ => ⟨(by repeat (first | exact obj_last _ _ | exact H2.out | exact H1.out | exact H0.out | refine obj_old ?_ | refine obj_setOther ?_ (by simp; omega))), (by repeat (first | exact obj_last _ _ | exact O2.out | exact O1.out | exact O0.out | refine obj_old ?_ | refine obj_setOther ?_ (by simp; omega)))⟩) ?_
                  clear hK K
                  try simp only [Act.put, List.setIfInBounds_toArray, List.set_cons_zero, List.set_cons_succ]
                  refine till_ready (rs := [4]) (by kernel_rfl) (by rfl) ?_
                  refine TillReady.cons rfl (fun K hK => ?_) ?_
                  focus
                    go_simp
                    refine hK.out _ _ (fun _ => ⟨(by repeat (first | exact obj_last _ _ | exact H2.out | exact H1.out | exact H0.out | refine obj_old ?_ | refine obj_setOther ?_ (by simp; omega))), (by repeat (first | exact obj_last _ _ | exact O2.out | exact O1.out | exact O0.out | refine obj_old ?_ | refine obj_setOther ?_ (by simp; omega)))⟩) ?_
                    clear hK K
                    try simp only [Act.put, List.setIfInBounds_toArray, List.set_cons_zero, List.set_cons_succ]
                    refine till_ready (rs := [5]) (by kernel_rfl) (by rfl) ?_
                    refine TillReady.cons rfl (fun K hK => ?_) ?_
                    focus
                      refine step_append_lies _ (by rfl) _ _ _ (by rfl) w5.heap.size 3 i0 _ 1 8 uInts hi hz0 hz1 hz2 rfl (by decide) (.slice an nn cn) ((a :: P.map Hp.dst).map i1).length ((a :: P.map Hp.dst).map i1).flatten (by rfl) (HM6.out.on.keep (by (repeat (first | with_reducible exact Below.refl _ _ | with_reducible assumption | ((with_reducible refine Below.setCell ?_ ?_ _); rotate_left; focus (first | exact Nat.le_refl _ | omega | exact Below.size (by assumption) | (simp; done) | (simp; omega))) | ((with_reducible refine Below.alloc ?_ ?_ _); rotate_left; focus (first | exact Nat.le_refl _ | omega | exact Below.size (by assumption) | (simp; done) | (simp; omega))) | (with_reducible refine Below.drew ?_) | (with_reducible refine drewN_ ?_ _))))).1 _ 1 1 (i1 y.dst) (by rfl) rfl (by exact World.news_of_block (cs := #[.int .i64 y.dst]) (t := 3) (fr := (0, 0)) (by repeat (first | exact obj_last _ _ | exact obj_last2 _ _ _ | exact obj_last3 _ _ _ _ | refine obj_old ?_))) (i1_one _) (by omega) (by have := HNL.out; unfold maxLen; omega) (by have := HNL.out; omega) (by have := HM6.out.low.size; first | (simp; done) | (simp; omega)) _ rfl ?_
                      intro gg1 cc1 W1 ho1 hg1 ha1 hl1
                      have hz1' := hg1.size
                      simp at hz1'
                      have G1 := Lib.hid ((grown_of (w := w6) (row := (Value.slice an nn cn).ownBlock) (by (repeat (first | with_reducible exact Below.refl _ _ | with_reducible assumption | ((with_reducible refine Below.setCell ?_ ?_ _); rotate_left; focus (first | exact Nat.le_refl _ | omega | exact Below.size (by assumption) | (simp; done) | (simp; omega))) | ((with_reducible refine Below.alloc ?_ ?_ _); rotate_left; focus (first | exact Nat.le_refl _ | omega | exact Below.size (by assumption) | (simp; done) | (simp; omega))) | (with_reducible refine Below.drew ?_) | (with_reducible refine drewN_ ?_ _))))).trans hg1)
                      have H1 := Lib.hid (row_keeps (b := w6.heap.size) (o := (.cells #[.int .i64 y.dst, .int .i64 y.road, .int .i64 y.len] 193)) hg1 (fun e => by have := (HM6.out.on.blk _ e).2; first | omega | (simp at this; omega)) (by repeat (first | exact obj_last _ _ | exact H2.out | exact H1.out | exact H0.out | refine obj_old ?_ | refine obj_setOther ?_ (by simp; omega))))
                      have O1 := Lib.hid (row_keeps (b := w5.heap.size + 1) (o := (.cells #[.slice an nn cn, .slice ar nr cr, .int .i64 da] 174 (0, 0))) hg1 (fun e => (HM6.out.ap1 _ e).1 rfl) (by repeat (first | exact obj_last _ _ | exact O2.out | exact O1.out | exact O0.out | refine obj_old ?_ | refine obj_setOther ?_ (by simp; omega))))
                      have N1 := Lib.hid (row_keeps (b := w6.heap.size + 1) (o := .cells #[.int .i64 y.road] 3) hg1 (fun e => by have := (HM6.out.on.blk _ e).2; first | omega | (simp at this; omega)) (by repeat (first | exact obj_last2 _ _ _ | exact obj_last3 _ _ _ _ | refine obj_old ?_)))
                      have OR1 := Lib.hid (HM6.out.orr.kept G1.out HAP.out)
                      have OW1 : Hid (Ow w5.heap.size W1 3 1 (.slice (some ⟨gg1, 0, none⟩) (P.length + 1 + 1) cc1) (((a :: P.map Hp.dst) ++ [y.dst]).map i1)) := by
                        have q := Ow.grow (R := ((a :: P.map Hp.dst).map i1)) (N := [i1 y.dst]) (m := 1) (by simpa only [List.flatten_cons, List.flatten_nil, List.append_nil] using ho1) rfl (i1_len _) (fun r hr => by simp at hr; subst hr; rfl)
                        simp only [List.length_map, List.length_cons] at q
                        show Ow _ _ _ _ _ _
                        rw [List.map_append]
                        exact q
                      have AT1 := Lib.hid (show (Value.slice an nn cn).ownBlock = some gg1 ∨ w6.heap.size ≤ gg1 from ha1.imp id (fun e => by rw [e]; first | (simp; done) | (simp; omega)))
                      refine hK.out _ _ (fun _ => ⟨H1.out, O1.out⟩) ?_
                      clear hK K ho1 hg1 ha1 hl1
                      try simp only [Act.put, List.setIfInBounds_toArray, List.set_cons_zero, List.set_cons_succ]
                      refine till_take (i := 12) (v := ?vt12296) [13] rfl (by kernel_rfl) (by kernel_rfl) (by kernel_rfl) (by kernel_rfl) (by kernel_rfl) (by kernel_rfl) (by kernel_rfl) (fun _ _ _ h => h) (by rfl) ?yt12296 ⟨H1.out, O1.out⟩ ?rt12296
                      case yt12296 =>
                        intro W hW
                        have k0 := obj_cell hW.1 0; have k1 := obj_cell hW.1 1; have k2 := obj_cell hW.2 0; have k3 := obj_cell hW.2 1
                        simp at k0 k1 k2 k3
                        clear hW
                        go_simp
                        with_reducible rfl
                      try simp only [Act.put, List.setIfInBounds_toArray, List.set_cons_zero, List.set_cons_succ]
                      refine till_ready (rs := [11]) (by kernel_rfl) (by rfl) ?_
                      refine TillReady.cons rfl (fun K hK => ?_) ?_
                      focus
                        refine step_append_lies _ (by rfl) _ _ _ (by rfl) w5.heap.size 3 i0 _ 1 8 uInts hi hz0 hz1 hz2 rfl (by decide) (.slice ar nr cr) ((P.map Hp.road).map i1).length ((P.map Hp.road).map i1).flatten (by rfl) (OR1.out.keep (by (repeat (first | with_reducible exact Below.refl _ _ | with_reducible assumption | ((with_reducible refine Below.setCell ?_ ?_ _); rotate_left; focus (first | exact Nat.le_refl _ | omega | exact Below.size (by assumption) | (simp; done) | (simp; omega))) | ((with_reducible refine Below.alloc ?_ ?_ _); rotate_left; focus (first | exact Nat.le_refl _ | omega | exact Below.size (by assumption) | (simp; done) | (simp; omega))) | (with_reducible refine Below.drew ?_) | (with_reducible refine drewN_ ?_ _))))).1 _ 1 1 (i1 y.road) (by rfl) rfl (by exact World.news_of_block (cs := #[.int .i64 y.road]) (t := 3) (fr := (0, 0)) (by first | exact N1.out | exact obj_last _ _)) (i1_one _) (by omega) (by have := HRL.out; unfold maxLen; omega) (by have := HRL.out; omega) (by have := HM6.out.low.size; first | omega | (simp; omega)) _ rfl ?_
                        intro gg2 cc2 W2 ho2 hg2 ha2 hl2
                        have G2 := Lib.hid ((grown_of (w := W1) (row := (Value.slice ar nr cr).ownBlock) (by (repeat (first | with_reducible exact Below.refl _ _ | with_reducible assumption | ((with_reducible refine Below.setCell ?_ ?_ _); rotate_left; focus (first | exact Nat.le_refl _ | omega | exact Below.size (by assumption) | (simp; done) | (simp; omega))) | ((with_reducible refine Below.alloc ?_ ?_ _); rotate_left; focus (first | exact Nat.le_refl _ | omega | exact Below.size (by assumption) | (simp; done) | (simp; omega))) | (with_reducible refine Below.drew ?_) | (with_reducible refine drewN_ ?_ _))))).trans hg2)
                        have hz2' := G2.out.size
                        have H2 := Lib.hid (row_keeps (b := w6.heap.size) (o := (.cells #[.int .i64 y.dst, .int .i64 y.road, .int .i64 y.len] 193)) hg2 (fun e => by have := (HM6.out.orr.blk _ e).2; first | omega | (simp at this; omega)) (by repeat (first | exact obj_last _ _ | exact H1.out | refine obj_old ?_ | refine obj_setOther ?_ (by simp; omega))))
                        have O2 := Lib.hid (row_keeps (b := w5.heap.size + 1) (o := (.cells #[.slice an nn cn, .slice ar nr cr, .int .i64 da] 174 (0, 0))) hg2 (fun e => (HM6.out.ap2 _ e).1 rfl) (by repeat (first | exact obj_last _ _ | exact O1.out | refine obj_old ?_ | refine obj_setOther ?_ (by simp; omega))))
                        have OW2 : Hid (Ow w5.heap.size W2 3 1 (.slice (some ⟨gg2, 0, none⟩) (P.length + 1) cc2) ((P.map Hp.road ++ [y.road]).map i1)) := by
                          have q := Ow.grow (R := ((P.map Hp.road).map i1)) (N := [i1 y.road]) (m := 1) (by simpa only [List.flatten_cons, List.flatten_nil, List.append_nil] using ho2) rfl (i1_len _) (fun r hr => by simp at hr; subst hr; rfl)
                          simp only [List.length_map, List.length_cons] at q
                          show Ow _ _ _ _ _ _
                          rw [List.map_append]
                          exact q
                        have AT2 := Lib.hid (show (Value.slice ar nr cr).ownBlock = some gg2 ∨ W1.heap.size ≤ gg2 from ha2.imp id (fun e => by rw [e]; first | exact Nat.le_refl _ | (simp; done) | (simp; omega)))
                        have q0 := obj_cell O2.out 0; have q1 := obj_cell O2.out 1; have q2 := obj_free O2.out 0; have q3 := obj_free O2.out 1
                        simp at q0 q1
                        refine hK.out _ _ (fun _ => ⟨H2.out, O2.out⟩) ?_
                        clear hK K ho2 hg2 ha2 hl2
                        try simp only [Act.put, List.setIfInBounds_toArray, List.set_cons_zero, List.set_cons_succ]
                        refine till_ready (rs := [13]) (by kernel_rfl) (by rfl) ?_
                        refine TillReady.cons rfl (fun K hK => ?_) ?_
                        focus
                          go_simp
                          refine hK.out _ _ (fun h => by cases (show true = false from h)) ?_
                          clear hK K
                          try simp only [Act.put, List.setIfInBounds_toArray, List.set_cons_zero, List.set_cons_succ]
                          refine till_ready (rs := [14]) (by kernel_rfl) (by rfl) ?_
                          refine TillReady.cons rfl (fun K hK => ?_) ?_
                          focus
                            go_simp
                            refine hK.out _ _ (fun h => by cases (show true = false from h)) ?_
                            clear hK K
                            try simp only [Act.put, List.setIfInBounds_toArray, List.set_cons_zero, List.set_cons_succ]
                            refine till_ready (rs := [15]) (by kernel_rfl) (by rfl) ?_
                            refine TillReady.cons rfl (fun K hK => ?_) ?_
                            focus
                              go_simp
                              refine hK.out _ _ (fun h => by cases (show true = false from h)) ?_
                              clear hK K
                              try simp only [Act.put, List.setIfInBounds_toArray, List.set_cons_zero, List.set_cons_succ]
                              refine till_done (by kernel_rfl) ?_
                              refine NoPanic.normal ?_
                              go_wp2_with fail
                              go_meet
                              exact ⟨_, _, HM6.out.join G1.out OW1.out AT1.out G2.out OW2.out AT2.out, obj_setOther (obj_setOther H2.out (by simp; omega)) (by simp; omega)⟩
                            exact TillReady.nil
                          exact TillReady.nil
                        exact TillReady.nil
                      exact TillReady.nil
                    exact TillReady.nil
                  exact TillReady.nil
                exact TillReady.nil
              case rest =>
                obtain ⟨vn2, vr2, hM7, hH7⟩ := hcut
                have k0 := obj_cell hH7.out 0
                have t0 := obj_cell hM7.out.cur 0
                have tf := obj_free hM7.out.cur 0
                have zt := obj_lt hM7.out.cur
                have zh := obj_lt hH7.out
                have znb : w6.heap.size ≠ bt := by omega
                simp at k0 t0
                go_wp2_with fail
                go_roundw
                case rel =>
                  have hy := HY.out
                  rw [getElem!_pos (H x) k hk] at hy
                  have hn := hL.out.next HLR.out (fun k r hr => (HVAL.out k r hr).1) (fun u g hg => (HA2.out u g hg).1) hxb hk hkt hkf
                  rw [← hy] at hn
                  refine ⟨_, P ++ [y], y.dst, vn2, vr2, rfl, ?_, hn.1⟩
                  have q := hM7.out.move y.dst
                  rw [List.map_append, List.map_append]
                  exact q
                case measure =>
                  have hy := HY.out
                  rw [getElem!_pos (H x) k hk] at hy
                  have hn := hL.out.next HLR.out (fun k r hr => (HVAL.out k r hr).1) (fun u g hg => (HA2.out u g hg).1) hxb hk hkt hkf
                  rw [← hy] at hn
                  rw [(hM7.out.move y.dst).at, hM.out.at]
                  exact hn.2
end Go.Proofs.YtmplajpbmojkkaaGreat
