/-
 The times of stops: they rise, and lie within bounds.
 simulate's checkWays: the first error of the ways and of the times.
 simulate's Check, where all but the ways is right.
 simulate's Stops.
-/
import Derived.Test.YtmplajpbmojkkaaGreatTrpA
import Derived.Test.YtmplajpbmojkkaaGreatClkA
import Derived.Test.YtmplajpbmojkkaaGreatStopW
set_option linter.unusedSimpArgs false
set_option linter.unusedVariables false
namespace Go.Proofs.YtmplajpbmojkkaaGreat
open Go Go.Vi
def Rise (lo hi : Int) (L : List Stp) : Prop := L.Pairwise (fun a b => a.time ≤ b.time) ∧ ∀ x ∈ L, lo ≤ x.time ∧ x.time ≤ hi
theorem Rise.nil (lo hi : Int) : Rise lo hi [] := ⟨List.Pairwise.nil, fun x hx => by cases hx⟩
theorem Rise.append {lo mid hi : Int} {A B : List Stp} (h : Rise lo mid A) (h2 : Rise mid hi B) (h1 : lo ≤ mid) (h3 : mid ≤ hi) : Rise lo hi (A ++ B) := by
 refine ⟨List.pairwise_append.2 ⟨h.1, h2.1, fun a ha b hb => by have := (h.2 a ha).2; have := (h2.2 b hb).1; omega⟩, fun x hx => ?_⟩
 rcases List.mem_append.1 hx with g | g
 ·have := h.2 x g; omega
 ·have := h2.2 x g; omega
theorem Rise.up {lo hi hi' : Int} {A : List Stp} (h : Rise lo hi A) (hh : hi ≤ hi') : Rise lo hi' A := ⟨h.1, fun x hx => by have := h.2 x hx; omega⟩
theorem moves_rise (l : List (Int × Int)) (h : ∀ p ∈ l, 1 ≤ p.2) : ∀ now, Rise now (gone now l) (moves now l) ∧ now ≤ gone now l := by
 induction l with
 | nil => intro now; exact ⟨Rise.nil _ _, Int.le_refl _⟩
 | cons p l ih =>
  intro now
  obtain ⟨d, t⟩ := p
  have ht : 1 ≤ t := h (d, t) List.mem_cons_self
  obtain ⟨h1, h2⟩ := ih (fun q hq => h q (List.mem_cons_of_mem _ hq)) (now + t)
  simp only [moves, gone]
  refine ⟨⟨List.pairwise_cons.2 ⟨fun x hx => (h1.2 x hx).1, h1.1⟩, fun x hx => ?_⟩, by omega⟩
  rcases List.mem_cons.1 hx with rfl | hx
  ·exact ⟨by show now ≤ now + t; omega, h2⟩
  ·have := h1.2 x hx; omega
theorem waits_rise (gap node : Int) (hg : 1 ≤ gap) : ∀ (k : Nat) (now fin : Int), now ≤ fin → Rise now fin (waits gap node k now fin)
 | 0, now, fin, h => Rise.nil _ _
 | k + 1, now, fin, h => by
  unfold waits
  split
  ·rename_i hlt
   have h1 := waits_rise gap node hg k (min (now + gap) fin) fin (by omega)
   refine ⟨List.pairwise_cons.2 ⟨fun x hx => (h1.2 x hx).1, h1.1⟩, fun x hx => ?_⟩
   rcases List.mem_cons.1 hx with rfl | hx
   ·exact ⟨by show now ≤ min (now + gap) fin; omega, by show min (now + gap) fin ≤ fin; omega⟩
   ·have := h1.2 x hx; omega
  ·exact Rise.nil _ _
theorem drive_good {S : Scn} (hK : NetOK S.net) (hsz : S.net.roads.length ≤ 100) {speed : Int} (hs : 1 ≤ speed ∧ speed ≤ 1048576) {a b : Int} {l : List (Int × Int)} (h : driveTo S speed a b = .ok l) : l.length ≤ 200 ∧ ∀ p ∈ l, 1 ≤ p.2 ∧ p.2 ≤ S.gap := by
 unfold driveTo at h
 split at h
 ·cases h
 ·rename_i R hR
  obtain ⟨len, hR'⟩ := of_routeOf hR
  split at h
  ·cases h
  ·rename_i hn
   injection h with h
   subst h
   refine ⟨by rw [List.length_map]; exact route_few hR' hK hsz, fun p hp => ?_⟩
   obtain ⟨g, hg, rfl⟩ := List.mem_map.1 hp
   refine ⟨hop_time hK hR' hs g hg, ?_⟩
   by_cases q : S.gap < hopTime S.net speed g.road
   ·exact absurd ⟨g, hg, q⟩ hn
   ·omega
theorem driveIf_good {S : Scn} (hK : NetOK S.net) (hsz : S.net.roads.length ≤ 100) {speed : Int} (hs : 1 ≤ speed ∧ speed ≤ 1048576) {p : Option Int} {b : Int} {l : List (Int × Int)} (h : driveIf S speed p b = .ok l) : l.length ≤ 200 ∧ ∀ p ∈ l, 1 ≤ p.2 ∧ p.2 ≤ S.gap := by
 cases p with
 | none => simp only [driveIf] at h; injection h with h; subst h; exact ⟨by simp, fun p hp => by cases hp⟩
 | some a => exact drive_good hK hsz hs h
theorem tour_rise {S : Scn} (hK : NetOK S.net) (hsz : S.net.roads.length ≤ 100) (hg : 1 ≤ S.gap ∧ S.gap ≤ 1073741824) {speed : Int} (hs : 1 ≤ speed ∧ speed ≤ 1048576) : ∀ (vs : List Vis) (p : Option Int) (now : Int) (rest : List Stp), (∀ v ∈ vs, 0 ≤ v.wait ∧ v.wait ≤ 1073741824) → tour S speed p now vs = .ok rest → Rise now (now + vs.length * 215822106624) rest
 | [], _, now, rest, _, h => by unfold tour at h; injection h with h; subst h; exact Rise.nil _ _
 | v :: vs, p, now, rest, hw, h => by
  unfold tour at h
  split at h
  ·cases h
  ·rename_i l hl
   split at h
   ·cases h
   ·rename_i rest2 hr
    injection h with h
    subst h
    obtain ⟨hl1, hl2⟩ := driveIf_good hK hsz hs hl
    have hv := hw v List.mem_cons_self
    have h1 := moves_rise l (fun p hp => (hl2 p hp).1) now
    have h2 := gone_le l S.gap hl2 now
    have h3 : (l.length : Int) * S.gap ≤ 200 * 1073741824 := Int.mul_le_mul (by omega) hg.2 (by omega) (by omega)
    have h4 := waits_rise S.gap v.node hg.1 v.wait.toNat (gone now l) (gone now l + v.wait) (by omega)
    have h5 := tour_rise hK hsz hg hs vs (some v.node) (gone now l + v.wait) rest2 (fun u hu => hw u (List.mem_cons_of_mem _ hu)) hr
    have hlen : (((v :: vs).length : Nat) : Int) = (vs.length : Int) + 1 := by simp
    rw [hlen]
    exact ((h1.1.append h4 h1.2 (by omega)).append h5 (by omega) (by omega)).up (by omega)
/-- What a trip is that its check accepts. -/
structure TripFit (t : Trp) : Prop where
 vis : 0 < t.vis.length
 few : t.vis.length ≤ 32
 start : 0 ≤ t.start ∧ t.start ≤ 1073741824
 speed : 1 ≤ t.speed ∧ t.speed ≤ 1048576
 wait : ∀ k, k < t.vis.length → 0 ≤ t.vis[k]!.wait ∧ t.vis[k]!.wait ≤ 1073741824
theorem tripFit_of {n : Net} {t : Trp} {last : Int} (h : tripErr n t last = 0) : TripFit t := by
 obtain ⟨_, _, h3, h4, h5, h6, h7⟩ := tripErr_zero h
 exact ⟨by omega, h6, inB_iff.1 h3, inB_iff.1 h4, fun k hk => inB_iff.1 (visErr_zero _ _ h7 k hk).2.1⟩
theorem stops_rise {S : Scn} (hK : NetOK S.net) (hsz : S.net.roads.length ≤ 100) (hg : 1 ≤ S.gap ∧ S.gap ≤ 1073741824) {t : Trp} (ht : TripFit t) {L : List Stp} (h : stopsS S t = .ok L) : Rise t.start (t.start + 6906307411968) L ∧ (∃ rest, L = ⟨t.start, t.vis[0]!.node⟩ :: rest) ∧ L.length ≤ 256 := by
 unfold stopsS at h
 split at h
 ·cases h
 ·rename_i rest hr
  split at h
  ·cases h
  ·rename_i hlen
   injection h with h
   subst h
   have h1 := tour_rise hK hsz hg ht.speed t.vis none t.start rest (fun v hv => by
    obtain ⟨i, hi, rfl⟩ := List.getElem_of_mem hv
    have := ht.wait i hi
    rw [getElem!_pos t.vis i hi] at this; exact this) hr
   have h2 := ht.few
   have h3 := h1.up (hi' := t.start + 6906307411968) (by omega)
   refine ⟨⟨List.pairwise_cons.2 ⟨fun x hx => (h3.2 x hx).1, h3.1⟩, fun x hx => ?_⟩, ⟨rest, rfl⟩, by simp; omega⟩
   rcases List.mem_cons.1 hx with rfl | hx
   ·exact ⟨Int.le_refl _, by show t.start ≤ _; omega⟩
   ·exact h3.2 x hx
theorem rise_last {lo hi : Int} {L : List Stp} (h : Rise lo hi L) : ∀ x ∈ L, x.time ≤ (L[L.length - 1]!).time := by
 intro x hx
 obtain ⟨i, hi, rfl⟩ := List.getElem_of_mem hx
 rw [getElem!_pos L (L.length - 1) (by omega)]
 rcases Nat.lt_or_ge i (L.length - 1) with q | q
 ·exact List.pairwise_iff_getElem.1 h.1 i (L.length - 1) hi (by omega) q
 ·have : i = L.length - 1 := by omega
  subst this; exact Int.le_refl _
/-- The error of the ways: of the trips' stops, or of the syncs' times. -/
noncomputable def wayErrT (S : Scn) : List Trp → Int
 | [] => 0
 | t :: T => match stopsS S t with
  | .error c => c
  | .ok L => if L.all (fun x => inB (x.time + offOf S.clocks t.dev) 0 1073741824) then wayErrT S T else 26
def sncIn (C : List Clk) (x : Snc) : Bool := inB (x.sent + x.out + offOf C x.dev) 0 1073741824 && inB (x.sent + x.out + x.back) 0 1073741824
noncomputable def wayErr (S : Scn) : Int := if wayErrT S S.trips = 0 then (if S.syncs.all (sncIn S.clocks) then 0 else 26) else wayErrT S S.trips
theorem wayErrT_at {S : Scn} {T : List Trp} {k : Nat} (h : k < T.length) : wayErrT S (T.drop k) = match stopsS S T[k]! with
  | .error c => c
  | .ok L => if L.all (fun x => inB (x.time + offOf S.clocks T[k]!.dev) 0 1073741824) then wayErrT S (T.drop (k + 1)) else 26 := by
 rw [List.drop_eq_getElem_cons h, getElem!_pos T k h]
 conv => lhs; unfold wayErrT
theorem all_at {α : Type} {p : α → Bool} {l : List α} (h : ∀ i (hi : i < l.length), p l[i] = true) : l.all p = true := by
 rw [List.all_eq_true]
 intro x hx
 obtain ⟨i, hi, rfl⟩ := List.getElem_of_mem hx
 exact h i hi
theorem not_all_at {α : Type} {p : α → Bool} {l : List α} {i : Nat} (hi : i < l.length) (h : p l[i] = false) : ¬l.all p = true := by
 rw [List.all_eq_true]
 intro g
 have := g _ (List.getElem_mem hi)
 rw [h] at this
 cases this
theorem off_bound {S : Scn} (h : ClocksOK S) (d : Int) : -1048576 ≤ offOf S.clocks d ∧ offOf S.clocks d ≤ 1048576 := by
 unfold offOf
 cases hc : clkOf S.clocks d with
 | none => exact ⟨by decide, by decide⟩
 | some c =>
  have hm : c ∈ S.clocks := List.mem_of_find?_eq_some hc
  obtain ⟨i, hi, rfl⟩ := List.getElem_of_mem hm
  have := (h.clk i hi).2.2
  rw [getElem!_pos S.clocks i hi] at this
  exact this
end Go.Proofs.YtmplajpbmojkkaaGreat
namespace Go.Proofs.YtmplajpbmojkkaaGreat
open Go Go.RowKit Go.Vi
theorem lens_one {w : World} {b : Nat} {E : List (Int × Int)} (h : IMap w b (ivI E)) (a d : Int) (ha : Vi.look E a = some d) : (Instr.lookup 78 (.map (some b)) (.int .i64 a) false).run Tryz.prog w = .ok (.int .i64 d) w := by
 have := h.lookup (P := Tryz.prog) uLens uInt (zInt w) a false
 rw [look_ivI, ha] at this
 exact this
set_option maxRecDepth 100000 in
set_option maxHeartbeats 4000000 in
theorem checkWays_any (S : Scn) (v1 v2 v3 v4 v5 : Value) (w : World) (hS : ScnAt w.heap.size w v1 v2 v3 v4 v5 S) (hK : NetOK S.net) (hsz : S.net.roads.length ≤ 100) (hC : ClocksOK S) (hT : ∀ i, i < S.trips.length → TripFit S.trips[i]!) (hg : 1 ≤ S.gap ∧ S.gap ≤ 1073741824) (hz4 : S.clocks.length ≤ 1000) (hz3 : S.trips.length ≤ 1000) (hz5 : S.syncs.length ≤ 1000) :
  Calls Tryz.prog 30 #[S.v v1 v2 v3 v4 v5] w fun e w' => e = .returned (.int .i64 (wayErr S)) ∧ Below w.heap.size w w' := by
 obtain ⟨a3, n3, c3, rfl, hn3, hn31, hn32⟩ := hS.trips.open
 obtain ⟨a4, n4, c4, rfl, hn4, hn41, hn42⟩ := hS.clocks.open
 obtain ⟨a5, n5, c5, rfl, hn5, hn51, hn52⟩ := hS.syncs.open
 rw [List.length_map] at hn4 hn5
 rw [hn3] at hz3
 rw [hn4] at hz4
 rw [hn5] at hz5
 have HS := Lib.hid hS
 have HK := Lib.hid hK
 have HC := Lib.hid hC
 have HT := Lib.hid hT
 have HN3 := Lib.hid hn3
 have HN4 := Lib.hid hn4
 have HN5 := Lib.hid hn5
 clear hS hK hC hT hn3 hn4 hn5 hn31 hn32 hn41 hn42 hn51 hn52
 have P0 := Lib.hid (obj_last w (.cells #[v1, v2, .int .i64 S.gap, .slice a3 n3 c3, .slice a4 n4 c4, .slice a5 n5 c5] 40))
 go_enter Tryz.func30, Tryz.ntmps30
 go_wp2_with (go_at_call 15; refine (offsets_any S v1 v2 _ _ _ _ (HS.out.clocks.later (by (repeat (first | with_reducible exact Below.refl _ _ | with_reducible assumption | ((with_reducible first | refine Below.setCell ?_ ?_ _ | refine Below.alloc ?_ ?_ _); rotate_left; focus (first | exact Nat.le_refl _ | omega | exact Below.size (by assumption) | (simp <;> omega))) | with_reducible refine Below.drew ?_ | with_reducible refine drewN_ ?_ _)))) (by rw [HN4.out]; exact hz4)).mono ?_; rintro e w2 ⟨⟨bm, rfl, hbm, hI⟩, hb2⟩; have hP2 := keepObj hb2 P0.out; have m3 := obj_cell hP2 3; simp at m3; have B2 := Lib.hid (from_ (w := w) hb2 (by (repeat (first | with_reducible exact Below.refl _ _ | with_reducible assumption | ((with_reducible first | refine Below.setCell ?_ ?_ _ | refine Below.alloc ?_ ?_ _); rotate_left; focus (first | exact Nat.le_refl _ | omega | exact Below.size (by assumption) | (simp <;> omega))) | with_reducible refine Below.drew ?_ | with_reducible refine drewN_ ?_ _)))); have HI := Lib.hid hI; have zb2 := obj_lt hP2; have PW := Lib.hid hP2; clear hb2 hI hP2)
 go_loopw [18] (fun s18 wr => ∃ k : Nat, s18 = .int .i64 k ∧ k ≤ n3 ∧ Hid (wayErrT S S.trips = wayErrT S (S.trips.drop k)) ∧ Hid (Below w2.heap.size w2 wr)) (fun s18 _ => n3 - (intOf s18).toNat)
 case atStart => exact ⟨0, rfl, Nat.zero_le _, rfl, Below.refl _ _⟩
 case round =>
  obtain ⟨k, rfl, hk, hE, hB⟩ := hrel
  have hPw := keepObj hB.out PW.out
  have l0 := obj_cell hPw 0
  have l1 := obj_cell hPw 1
  have l2 := obj_cell hPw 2
  have l3 := obj_cell hPw 3
  have l4 := obj_cell hPw 4
  have l5 := obj_cell hPw 5
  simp at l0 l1 l2 l3 l4 l5
  have zb := obj_lt hPw
  have BX := Lib.hid (B2.out.trans (hB.out.mono B2.out.size))
  have PX := Lib.hid hPw
  clear hPw
  by_cases hlt : k < n3
  ·have hkl : k < S.trips.length := by rw [HN3.out]; exact hlt
   obtain ⟨b, off, rfl, hb, hcs⟩ := HS.out.trips.at k hkl
   obtain ⟨v, hv, t0, t1, t2, t3, t4⟩ := hcs k hkl
   rw [← BX.out.cell (p := ⟨b, _, none⟩) hb] at t0 t1 t2 t3 t4
   have hzb : b < wr.heap.size := by have := BX.out.size; omega
   have hd := HC.out.dev k hkl
   have hlo := off_look HC.out S.trips[k]!.dev
   rw [if_pos hd] at hlo
   have hob := off_bound HC.out S.trips[k]!.dev
   have hfit := HT.out k hkl
   have hat := wayErrT_at (S := S) hkl
   obtain ⟨t, ht⟩ : ∃ t, t = S.trips[k]! := ⟨_, rfl⟩
   rw [← ht] at t0 t1 t2 t3 hlo hob hfit hat hv
   obtain ⟨o, ho⟩ : ∃ o, o = offOf S.clocks t.dev := ⟨_, rfl⟩
   rw [← ho] at hlo hob hat
   obtain ⟨av, m, cv, rfl, _, _, _⟩ := hv.open
   have HV := Lib.hid hv
   have HLO := Lib.hid hlo
   have HAT := Lib.hid hat
   have HFIT := Lib.hid hfit
   obtain ⟨ho1, ho2⟩ := hob
   clear hcs hd ht hlo hat hfit hv ho
   go_wp2_with fail
   obtain ⟨W1, hW1⟩ : ∃ W1, W1 = wr.alloc (.cells #[.int .i64 t.obj, .int .i64 t.dev, .int .i64 t.start, .int .i64 t.speed, .slice av m cv] 61) := ⟨_, rfl⟩
   obtain ⟨bt, hbt⟩ : ∃ z, wr.heap.size = z := ⟨_, rfl⟩
   have PT := Lib.hid (obj_last wr (.cells #[.int .i64 t.obj, .int .i64 t.dev, .int .i64 t.start, .int .i64 t.speed, .slice av m cv] 61))
   have BT := Lib.hid (BX.out.trans (((Below.refl wr.heap.size wr).alloc (Nat.le_refl _) (.cells #[.int .i64 t.obj, .int .i64 t.dev, .int .i64 t.start, .int .i64 t.speed, .slice av m cv] 61)).mono BX.out.size))
   have B2T := Lib.hid (hB.out.trans (((Below.refl wr.heap.size wr).alloc (Nat.le_refl _) (.cells #[.int .i64 t.obj, .int .i64 t.dev, .int .i64 t.start, .int .i64 t.speed, .slice av m cv] 61)).mono hB.out.size))
   have zW1 : bt < W1.heap.size := by rw [hW1, ← hbt]; simp
   have zW1' : W1.heap.size ≤ bt + 1 := by rw [hW1, ← hbt]; simp
   rw [← hW1, hbt] at PT ⊢
   rw [← hW1] at BT B2T
   have PX1 := Lib.hid (keepObj ((Below.refl wr.heap.size wr).alloc (Nat.le_refl _) (.cells #[.int .i64 t.obj, .int .i64 t.dev, .int .i64 t.start, .int .i64 t.speed, .slice av m cv] 61)) PX.out)
   rw [← hW1] at PX1
   clear hW1
   refine (stopsW_any S t v1 v2 _ _ _ _ W1 ((HS.out.net.keep BT.out (Nat.le_refl _)).mono (by omega)) ((HV.out.keep BT.out (Nat.le_refl _)).mono (by omega)) HFIT.out.vis HK.out hsz hg HFIT.out.speed HFIT.out.start HFIT.out.few HFIT.out.wait).mono ?_
   rintro e w3 ⟨hR, hb3⟩
   have BT3 := Lib.hid (BT.out.trans (hb3.mono BT.out.size))
   have B23 := Lib.hid (B2T.out.trans (hb3.mono B2T.out.size))
   have PT3 := Lib.hid (keepObj hb3 PT.out)
   have PX3 := Lib.hid (keepObj hb3 PX1.out)
   have hz3' := hb3.size
   clear hb3 t0 t1 t2 t3 t4 l0 l1 l2 l3 l4 l5
   cases hst : stopsS S t with
   | error c =>
    rw [hst] at hR
    obtain ⟨hc, rfl⟩ := hR
    have hc' : (c != 0) = true := by simpa using hc
    have HE := Lib.hid (show wayErr S = c from by
     have h1 := hE.out
     rw [HAT.out, hst] at h1
     unfold wayErr
     rw [h1, if_neg hc])
    clear hst
    go_wp2_with fail
    go_ret
    exact ⟨by (rw [HE.out]; first | done | rfl), BT3.out⟩
   | ok L =>
    rw [hst] at hR
    obtain ⟨vl, rfl, hO, hL256⟩ := hR
    obtain ⟨al, nl, cl, rfl⟩ := hO.val
    have hnl := hO.sl.len
    rw [List.length_map] at hnl
    have HNL := Lib.hid hnl
    have hRise := (stops_rise HK.out hsz hg HFIT.out hst).1
    have HR := Lib.hid hRise
    have hstart := HFIT.out.start
    have HSL := Lib.hid hO.sl
    have HA2 := Lib.hid (show wayErrT S S.trips = if L.all (fun x => inB (x.time + o) 0 1073741824) then wayErrT S (S.trips.drop (k + 1)) else 26 from by
     have h1 := hE.out
     rw [HAT.out, hst] at h1
     exact h1)
    rw [hnl] at hL256
    have t1 := obj_cell PT3.out 1
    simp at t1
    have zt1 := obj_lt PT3.out
    clear hO hnl hRise hst
    go_wp2_with fail
    go_loopw [33] (fun s33 wx => ∃ q : Nat, s33 = .int .i64 q ∧ q ≤ nl ∧ Hid (∀ i, i < q → inB (L[i]!.time + o) 0 1073741824 = true) ∧ Hid (Below w3.heap.size w3 wx)) (fun s33 _ => nl - (intOf s33).toNat)
    case atStart => exact ⟨0, rfl, Nat.zero_le _, fun i hi => absurd hi (Nat.not_lt_zero _), Below.refl _ _⟩
    case round =>
     obtain ⟨q, rfl, hq, hQ, hBq⟩ := hrel
     by_cases hlq : q < nl
     ·have hql : q < L.length := by rw [HNL.out]; exact hlq
      obtain ⟨b2, off2, rfl, hb2, hcs⟩ := HSL.out.cells q hql
      have x0 : w3.cell? ⟨b2, off2 + q * 2, none⟩ = _ := hcs q hql 0 _ rfl
      have x1 : w3.cell? ⟨b2, off2 + q * 2 + 1, none⟩ = _ := hcs q hql 1 _ rfl
      have y1 := (hBq.out.cell (p := ⟨bt, 1, none⟩) zt1).trans t1
      rw [← hBq.out.cell (p := ⟨b2, _, none⟩) hb2] at x0 x1
      have zq := hBq.out.size
      have hzb2 : b2 < wr.heap.size := by omega
      have hzt2 : bt < wr.heap.size := by omega
      obtain ⟨x, hx⟩ : ∃ x, x = L[q]! := ⟨_, rfl⟩
      have hxm : L[q]! ∈ L := by rw [getElem!_pos L q hql]; exact List.getElem_mem hql
      have hxt := HR.out.2 _ hxm
      rw [← hx] at x0 x1 hxt
      have HX := Lib.hid hx
      obtain ⟨hx1, hx2⟩ := hxt
      have hsum : IntKind.i64.wrap (x.time + o) = x.time + o := IntWalk.i64_in _ (by omega)
      have hlk := lens_one (w := wr.alloc (.cells #[.int .i64 x.time, .int .i64 x.node] 66)) (((HI.out.keep B23.out).keep (hBq.out.mono (by omega))).keep (by (repeat (first | with_reducible exact Below.refl _ _ | with_reducible assumption | ((with_reducible first | refine Below.setCell ?_ ?_ _ | refine Below.alloc ?_ ?_ _); rotate_left; focus (first | exact Nat.le_refl _ | omega | exact Below.size (by assumption) | (simp <;> omega))) | with_reducible refine Below.drew ?_ | with_reducible refine drewN_ ?_ _)))) t.dev _ HLO.out
      clear hcs hx hxm
      by_cases hin : inB (x.time + o) 0 1073741824 = true
      ·go_wp2_with (go_at_call 26; refine (between_any _ _ _ _).mono ?_; rintro e w' ⟨rfl, rfl⟩)
       go_roundw
       case rel =>
        refine ⟨q + 1, by go_num, by omega, fun i hi => ?_, by have h := hBq.out; show Below _ _ _; (repeat (first | with_reducible exact Below.refl _ _ | with_reducible assumption | ((with_reducible first | refine Below.setCell ?_ ?_ _ | refine Below.alloc ?_ ?_ _); rotate_left; focus (first | exact Nat.le_refl _ | omega | exact Below.size (by assumption) | (simp <;> omega))) | with_reducible refine Below.drew ?_ | with_reducible refine drewN_ ?_ _))⟩
        rcases Nat.lt_succ_iff_lt_or_eq.1 hi with h1 | h1
        ·exact hQ.out i h1
        ·subst h1; rw [← HX.out]; exact hin
       case measure => simp [intOf]; omega
      ·replace hin : inB (x.time + o) 0 1073741824 = false := by simpa using hin
       have HE := Lib.hid (show wayErr S = 26 from by
        have h1 := HA2.out
        rw [if_neg (not_all_at hql (by rw [← getElem!_pos L q hql, ← HX.out]; exact hin))] at h1
        unfold wayErr
        rw [h1]
        rfl)
       go_wp2_with (go_at_call 26; refine (between_any _ _ _ _).mono ?_; rintro e w' ⟨rfl, rfl⟩)
       go_ret
       exact ⟨by (rw [HE.out]; first | done | rfl), by have h := BT3.out.trans (hBq.out.mono BT3.out.size); (repeat (first | with_reducible exact Below.refl _ _ | with_reducible assumption | ((with_reducible first | refine Below.setCell ?_ ?_ _ | refine Below.alloc ?_ ?_ _); rotate_left; focus (first | exact Nat.le_refl _ | omega | exact Below.size (by assumption) | (simp <;> omega))) | with_reducible refine Below.drew ?_ | with_reducible refine drewN_ ?_ _))⟩
     ·obtain rfl : q = nl := by omega
      have HE2 := Lib.hid (show wayErrT S S.trips = wayErrT S (S.trips.drop (k + 1)) from by
       have h1 := HA2.out
       rw [if_pos (all_at (fun i hi => by have := hQ.out i (by rw [← HNL.out]; exact hi); rw [getElem!_pos L i hi] at this; exact this))] at h1
       exact h1)
      go_wp2_with fail
      go_roundw
      case rel => exact ⟨k + 1, by go_num, by omega, HE2.out, by have h := B23.out.trans (hBq.out.mono B23.out.size); show Below _ _ _; (repeat (first | with_reducible exact Below.refl _ _ | with_reducible assumption | ((with_reducible first | refine Below.setCell ?_ ?_ _ | refine Below.alloc ?_ ?_ _); rotate_left; focus (first | exact Nat.le_refl _ | omega | exact Below.size (by assumption) | (simp <;> omega))) | with_reducible refine Below.drew ?_ | with_reducible refine drewN_ ?_ _))⟩
      case measure => simp [intOf]; omega
  ·obtain rfl : k = n3 := by omega
   have HE0 := Lib.hid (show wayErrT S S.trips = 0 from by
    rw [hE.out, List.drop_eq_nil_of_le (by rw [HN3.out]; exact Nat.le_refl _)]; rfl)
   obtain ⟨wo, rfl⟩ : ∃ wo : World, wo = wr := ⟨_, rfl⟩
   go_wp2_with fail
   go_loopw [51] (fun s51 wr => ∃ k2 : Nat, s51 = .int .i64 k2 ∧ k2 ≤ n5 ∧ Hid (∀ i, i < k2 → sncIn S.clocks S.syncs[i]! = true) ∧ Hid (Below wo.heap.size wo wr)) (fun s51 _ => n5 - (intOf s51).toNat)
   case atStart => exact ⟨0, rfl, Nat.zero_le _, fun i hi => absurd hi (Nat.not_lt_zero _), Below.refl _ _⟩
   case round =>
    obtain ⟨k2, rfl, hk2, hQ, hB3⟩ := hrel
    have BX3 := Lib.hid (BX.out.trans (hB3.out.mono BX.out.size))
    by_cases hlt2 : k2 < n5
    ·have hkl2 : k2 < S.syncs.length := by rw [HN5.out]; exact hlt2
     obtain ⟨b, off, rfl, hb, hcs⟩ := HS.out.syncs.cells k2 hkl2
     have t0 : w.cell? ⟨b, off + k2 * 6, none⟩ = _ := hcs k2 hkl2 0 _ rfl
     have t1 : w.cell? ⟨b, off + k2 * 6 + 1, none⟩ = _ := hcs k2 hkl2 1 _ rfl
     have t2 : w.cell? ⟨b, off + k2 * 6 + 2, none⟩ = _ := hcs k2 hkl2 2 _ rfl
     have t3 : w.cell? ⟨b, off + k2 * 6 + 3, none⟩ = _ := hcs k2 hkl2 3 _ rfl
     have t4 : w.cell? ⟨b, off + k2 * 6 + 4, none⟩ = _ := hcs k2 hkl2 4 _ rfl
     have t5 : w.cell? ⟨b, off + k2 * 6 + 5, none⟩ = _ := hcs k2 hkl2 5 _ rfl
     rw [← BX3.out.cell (p := ⟨b, _, none⟩) hb] at t0 t1 t2 t3 t4 t5
     have hzb : b < wr.heap.size := by have := BX3.out.size; omega
     obtain ⟨g0, g1, g2, g3, g4, g5, g6⟩ := HC.out.snc k2 hkl2
     have hlo := off_look HC.out S.syncs[k2]!.dev
     rw [if_pos g0] at hlo
     have hob := off_bound HC.out S.syncs[k2]!.dev
     obtain ⟨x, hx⟩ : ∃ x, x = S.syncs[k2]! := ⟨_, rfl⟩
     rw [← hx] at t0 t1 t2 t3 t4 t5 g1 g2 g3 g4 g5 g6 hlo hob
     have HX := Lib.hid hx
     obtain ⟨o, ho⟩ : ∃ o, o = offOf S.clocks x.dev := ⟨_, rfl⟩
     rw [← ho] at hlo hob
     obtain ⟨ho1, ho2⟩ := hob
     have hsn : sncIn S.clocks x = (inB (x.sent + x.out + o) 0 1073741824 && inB (x.sent + x.out + x.back) 0 1073741824) := by rw [ho]; rfl
     have HSN := Lib.hid hsn
     have hlk := lens_one (w := wr.alloc (.cells #[.int .i64 x.dev, .int .i64 x.sent, .int .i64 x.out, .int .i64 x.back, .int .i64 x.so, .int .i64 x.sb] 58)) (((HI.out.keep hB.out).keep hB3.out).keep (by (repeat (first | with_reducible exact Below.refl _ _ | with_reducible assumption | ((with_reducible first | refine Below.setCell ?_ ?_ _ | refine Below.alloc ?_ ?_ _); rotate_left; focus (first | exact Nat.le_refl _ | omega | exact Below.size (by assumption) | (simp <;> omega))) | with_reducible refine Below.drew ?_ | with_reducible refine drewN_ ?_ _)))) x.dev _ hlo
     clear hcs hx g0 g1 g5 g6 hlo ho hsn
     obtain ⟨g21, g22⟩ := g2
     obtain ⟨g31, g32⟩ := g3
     obtain ⟨g41, g42⟩ := g4
     have s1 : IntKind.i64.wrap (x.sent + x.out) = x.sent + x.out := IntWalk.i64_in _ (by omega)
     have s2 : IntKind.i64.wrap (x.sent + x.out + o) = x.sent + x.out + o := IntWalk.i64_in _ (by omega)
     have s3 : IntKind.i64.wrap (x.sent + x.out + x.back) = x.sent + x.out + x.back := IntWalk.i64_in _ (by omega)
     by_cases hi1 : inB (x.sent + x.out + o) 0 1073741824 = true
     ·by_cases hi2 : inB (x.sent + x.out + x.back) 0 1073741824 = true
      ·go_wp2_with (go_at_call 26; refine (between_any _ _ _ _).mono ?_; rintro e w' ⟨rfl, rfl⟩)
       go_roundw
       case rel =>
        refine ⟨k2 + 1, by go_num, by omega, fun i hi => ?_, by have h := hB3.out; show Below _ _ _; (repeat (first | with_reducible exact Below.refl _ _ | with_reducible assumption | ((with_reducible first | refine Below.setCell ?_ ?_ _ | refine Below.alloc ?_ ?_ _); rotate_left; focus (first | exact Nat.le_refl _ | omega | exact Below.size (by assumption) | (simp <;> omega))) | with_reducible refine Below.drew ?_ | with_reducible refine drewN_ ?_ _))⟩
        rcases Nat.lt_succ_iff_lt_or_eq.1 hi with h1 | h1
        ·exact hQ.out i h1
        ·subst h1; rw [← HX.out, HSN.out, hi1, hi2]; rfl
       case measure => simp [intOf]; omega
      ·replace hi2 : inB (x.sent + x.out + x.back) 0 1073741824 = false := by simpa using hi2
       have HE := Lib.hid (show wayErr S = 26 from by
        unfold wayErr
        rw [if_pos HE0.out, if_neg (not_all_at hkl2 (by rw [← getElem!_pos S.syncs k2 hkl2, ← HX.out, HSN.out, hi1, hi2]; rfl))])
       go_wp2_with (go_at_call 26; refine (between_any _ _ _ _).mono ?_; rintro e w' ⟨rfl, rfl⟩)
       go_ret
       exact ⟨by (rw [HE.out]; first | done | rfl), by have h := BX3.out; (repeat (first | with_reducible exact Below.refl _ _ | with_reducible assumption | ((with_reducible first | refine Below.setCell ?_ ?_ _ | refine Below.alloc ?_ ?_ _); rotate_left; focus (first | exact Nat.le_refl _ | omega | exact Below.size (by assumption) | (simp <;> omega))) | with_reducible refine Below.drew ?_ | with_reducible refine drewN_ ?_ _))⟩
     ·replace hi1 : inB (x.sent + x.out + o) 0 1073741824 = false := by simpa using hi1
      have HE := Lib.hid (show wayErr S = 26 from by
       unfold wayErr
       rw [if_pos HE0.out, if_neg (not_all_at hkl2 (by rw [← getElem!_pos S.syncs k2 hkl2, ← HX.out, HSN.out, hi1]; rfl))])
      go_wp2_with (go_at_call 26; refine (between_any _ _ _ _).mono ?_; rintro e w' ⟨rfl, rfl⟩)
      go_ret
      exact ⟨by (rw [HE.out]; first | done | rfl), by have h := BX3.out; (repeat (first | with_reducible exact Below.refl _ _ | with_reducible assumption | ((with_reducible first | refine Below.setCell ?_ ?_ _ | refine Below.alloc ?_ ?_ _); rotate_left; focus (first | exact Nat.le_refl _ | omega | exact Below.size (by assumption) | (simp <;> omega))) | with_reducible refine Below.drew ?_ | with_reducible refine drewN_ ?_ _))⟩
    ·obtain rfl : k2 = n5 := by omega
     have HE := Lib.hid (show wayErr S = 0 from by
      unfold wayErr
      rw [if_pos HE0.out, if_pos (all_at (fun i hi => by have := hQ.out i (by rw [← HN5.out]; exact hi); rw [getElem!_pos S.syncs i hi] at this; exact this))])
     go_wp2_with fail
     go_ret
     exact ⟨by (rw [HE.out]; first | done | rfl), BX3.out⟩
end Go.Proofs.YtmplajpbmojkkaaGreat
namespace Go.Proofs.YtmplajpbmojkkaaGreat
open Go Go.RowKit Go.Vi
/-- A scenario of which all but the ways is right. -/
structure Fit (S : Scn) : Prop where
 net : netErr S.net = 0
 few : S.net.roads.length ≤ 100
 gap : 1 ≤ S.gap ∧ S.gap ≤ 1073741824
 ntrips : S.trips.length ≤ 64
 trips : TripsOK S
 clocks : ClocksOK S
 nclocks : S.clocks.length ≤ 1000
 nsyncs : S.syncs.length ≤ 1000
set_option maxRecDepth 100000 in
set_option maxHeartbeats 4000000 in
theorem checkW_any (S : Scn) (v1 v2 v3 v4 v5 : Value) (w : World) (hS : ScnAt w.heap.size w v1 v2 v3 v4 v5 S) (hF : Fit S) :
  Calls Tryz.prog 12 #[S.v v1 v2 v3 v4 v5] w fun e w' => e = .returned (.int .i64 (wayErr S)) ∧ Below w.heap.size w w' := by
 obtain ⟨a3, n3, c3, rfl, hn3, hn31, hn32⟩ := hS.trips.open
 have hnt := hF.ntrips
 rw [hn3] at hnt
 have hgap := inB_ok hF.gap
 have HS := Lib.hid hS
 have HF := Lib.hid hF
 have HK := Lib.hid (netOK_of hF.net)
 clear hS hF hn3 hn31 hn32
 have P0 := Lib.hid (obj_last w (.cells #[v1, v2, .int .i64 S.gap, .slice a3 n3 c3, v4, v5] 40))
 go_enter Tryz.func12, Tryz.ntmps12
 go_wp2_with fail
 refine (check_any S.net v1 v2 _ (HS.out.net.later (by (repeat (first | with_reducible exact Below.refl _ _ | with_reducible assumption | ((with_reducible first | refine Below.setCell ?_ ?_ _ | refine Below.alloc ?_ ?_ _); rotate_left; focus (first | exact Nat.le_refl _ | omega | exact Below.size (by assumption) | (simp <;> omega))) | with_reducible refine Below.drew ?_ | with_reducible refine drewN_ ?_ _))))).mono ?_
 rintro e w2 ⟨rfl, hb2⟩
 rw [HF.out.net]
 have P2 := Lib.hid (keepObj hb2 P0.out)
 have B2 := Lib.hid (from_ (w := w) hb2 (by (repeat (first | with_reducible exact Below.refl _ _ | with_reducible assumption | ((with_reducible first | refine Below.setCell ?_ ?_ _ | refine Below.alloc ?_ ?_ _); rotate_left; focus (first | exact Nat.le_refl _ | omega | exact Below.size (by assumption) | (simp <;> omega))) | with_reducible refine Below.drew ?_ | with_reducible refine drewN_ ?_ _))))
 have l0 := obj_cell P2.out 0
 have l1 := obj_cell P2.out 1
 have l2 := obj_cell P2.out 2
 have l3 := obj_cell P2.out 3
 have l4 := obj_cell P2.out 4
 have l5 := obj_cell P2.out 5
 simp at l0 l1 l2 l3 l4 l5
 have z2 := obj_lt P2.out
 have hnt' : ¬(64 : Int) < (n3 : Int) := by omega
 clear hb2
 go_wp2_with (go_at_call 26; refine (between_any _ _ _ _).mono ?_; rintro e w' ⟨rfl, rfl⟩)
 go_loopw [33] (fun s33 wr => ∃ k : Nat, s33 = .int .i64 k ∧ k ≤ 4 ∧ (k = 4 → wayErr S = 0) ∧ Hid (wr.heap[w2.heap.size]? = some (.cells #[.func (.func 27) #[(.agg #[v1, v2, .int .i64 S.gap, .slice a3 n3 c3, v4, v5])] #[], .func (.func 28) #[(.agg #[v1, v2, .int .i64 S.gap, .slice a3 n3 c3, v4, v5])] #[], .func (.func 29) #[(.agg #[v1, v2, .int .i64 S.gap, .slice a3 n3 c3, v4, v5])] #[], .func (.func 30) #[(.agg #[v1, v2, .int .i64 S.gap, .slice a3 n3 c3, v4, v5])] #[]] 107)) ∧ Hid (Below w2.heap.size w2 wr)) (fun s33 _ => 4 - (intOf s33).toNat)
 case atStart => exact ⟨0, rfl, by omega, fun h => by omega, obj_last _ _, by show Below _ _ _; (repeat (first | with_reducible exact Below.refl _ _ | with_reducible assumption | ((with_reducible first | refine Below.setCell ?_ ?_ _ | refine Below.alloc ?_ ?_ _); rotate_left; focus (first | exact Nat.le_refl _ | omega | exact Below.size (by assumption) | (simp <;> omega))) | with_reducible refine Below.drew ?_ | with_reducible refine drewN_ ?_ _))⟩
 case round =>
  obtain ⟨k, rfl, hk, hE, hA, hB⟩ := hrel
  have BX := Lib.hid (B2.out.trans (hB.out.mono B2.out.size))
  have zA := obj_lt hA.out
  rcases (by omega : k = 0 ∨ k = 1 ∨ k = 2 ∨ k = 3 ∨ k = 4) with rfl | rfl | rfl | rfl | rfl
  ·have c0 := obj_cell hA.out 0
   simp at c0
   go_wp2_with fail
   refine (checkTrips_any S v1 v2 _ v4 v5 _ (HS.out.later BX.out) HK.out.nodes (by have := HK.out.few; omega) HF.out.trips (by have := HF.out.ntrips; omega)).mono ?_
   rintro e w3 ⟨rfl, hb3⟩
   have HA3 := Lib.hid (keepObj hb3 hA.out)
   have B3 := Lib.hid (hB.out.trans (hb3.mono hB.out.size))
   have hB3 := Lib.hid (BX.out.trans (hb3.mono BX.out.size))
   clear hb3
   go_wp2_with fail
   go_roundw
   case rel => exact ⟨1, by go_num, by omega, fun h => by omega, HA3.out, B3.out⟩
   case measure => simp [intOf]
  ·have c0 := obj_cell hA.out 1
   simp at c0
   go_wp2_with fail
   refine (checkClocksS_any S v1 v2 _ v4 v5 _ (HS.out.later BX.out) HF.out.clocks HF.out.nclocks (by have := HF.out.ntrips; omega)).mono ?_
   rintro e w3 ⟨rfl, hb3⟩
   have HA3 := Lib.hid (keepObj hb3 hA.out)
   have B3 := Lib.hid (hB.out.trans (hb3.mono hB.out.size))
   have hB3 := Lib.hid (BX.out.trans (hb3.mono BX.out.size))
   clear hb3
   go_wp2_with fail
   go_roundw
   case rel => exact ⟨2, by go_num, by omega, fun h => by omega, HA3.out, B3.out⟩
   case measure => simp [intOf]
  ·have c0 := obj_cell hA.out 2
   simp at c0
   go_wp2_with fail
   refine (checkSyncs_any S v1 v2 _ v4 v5 _ (HS.out.later BX.out) HF.out.clocks HF.out.nclocks HF.out.nsyncs).mono ?_
   rintro e w3 ⟨rfl, hb3⟩
   have HA3 := Lib.hid (keepObj hb3 hA.out)
   have B3 := Lib.hid (hB.out.trans (hb3.mono hB.out.size))
   have hB3 := Lib.hid (BX.out.trans (hb3.mono BX.out.size))
   clear hb3
   go_wp2_with fail
   go_roundw
   case rel => exact ⟨3, by go_num, by omega, fun h => by omega, HA3.out, B3.out⟩
   case measure => simp [intOf]
  ·have c0 := obj_cell hA.out 3
   simp at c0
   go_wp2_with fail
   refine (checkWays_any S v1 v2 _ v4 v5 _ (HS.out.later BX.out) HK.out HF.out.few HF.out.clocks (fun i hi => tripFit_of (HF.out.trips i hi)) HF.out.gap HF.out.nclocks (by have := HF.out.ntrips; omega) HF.out.nsyncs).mono ?_
   rintro e w3 ⟨rfl, hb3⟩
   have HA3 := Lib.hid (keepObj hb3 hA.out)
   have B3 := Lib.hid (hB.out.trans (hb3.mono hB.out.size))
   have hB3 := Lib.hid (BX.out.trans (hb3.mono BX.out.size))
   clear hb3
   by_cases hz : wayErr S = 0
   ·have HZ := Lib.hid hz
    rw [hz]
    clear hz
    go_wp2_with fail
    go_roundw
    case rel => exact ⟨4, by go_num, by omega, fun h => HZ.out, HA3.out, B3.out⟩
    case measure => simp [intOf]
   ·have hz' : (wayErr S != 0) = true := by simpa using hz
    go_wp2_with fail
    go_ret
    exact ⟨rfl, hB3.out⟩
  ·have HZ := hE rfl
   go_wp2_with fail
   go_ret
   exact ⟨rfl, BX.out⟩
end Go.Proofs.YtmplajpbmojkkaaGreat
namespace Go.Proofs.YtmplajpbmojkkaaGreat
open Go Go.RowKit Go.Vi
theorem driveIf_err {S : Scn} {speed : Int} {p : Option Int} {b c : Int} (h : driveIf S speed p b = .error c) : c ≠ 0 := by
 cases p with
 | none => cases h
 | some a =>
  simp only [driveIf] at h
  unfold driveTo at h
  split at h
  ·injection h with h; omega
  ·split at h
   ·injection h with h; omega
   ·cases h
theorem tour_err {S : Scn} {speed : Int} : ∀ (vs : List Vis) (p : Option Int) (now c : Int), tour S speed p now vs = .error c → c ≠ 0
 | [], _, _, _, h => by unfold tour at h; cases h
 | v :: vs, p, now, c, h => by
  unfold tour at h
  split at h
  ·rename_i e he
   injection h with h
   subst h
   exact driveIf_err he
  ·rename_i l hl
   split at h
   ·rename_i e he
    injection h with h
    subst h
    exact tour_err vs _ _ _ he
   ·cases h
theorem stopsS_err {S : Scn} {t : Trp} {c : Int} (h : stopsS S t = .error c) : c ≠ 0 := by
 unfold stopsS at h
 split at h
 ·rename_i e he
  injection h with h
  subst h
  exact tour_err _ _ _ _ he
 ·split at h
  ·injection h with h; omega
  ·cases h
theorem wayErrT_zero {S : Scn} : ∀ (T : List Trp), wayErrT S T = 0 → ∀ t ∈ T, ∃ L, stopsS S t = .ok L ∧ ∀ x ∈ L, inB (x.time + offOf S.clocks t.dev) 0 1073741824 = true
 | [], _ => fun t ht => by cases ht
 | t :: T, h => fun u hu => by
  unfold wayErrT at h
  split at h
  ·rename_i c hc
   exact absurd h (stopsS_err hc)
  ·rename_i L hL
   split at h
   ·rename_i hall
    rcases List.mem_cons.1 hu with rfl | hu
    ·exact ⟨L, hL, fun x hx => List.all_eq_true.1 hall x hx⟩
    ·exact wayErrT_zero T h u hu
   ·simp at h
theorem wayErr_zero {S : Scn} (h : wayErr S = 0) : wayErrT S S.trips = 0 := by
 unfold wayErr at h
 split at h
 ·rename_i h1; exact h1
 ·exact h
set_option maxRecDepth 100000 in
set_option maxHeartbeats 4000000 in
theorem trip_any (S : Scn) (v1 v2 v3 v4 v5 : Value) (i : Nat) (w : World) (hS : ScnAt w.heap.size w v1 v2 v3 v4 v5 S) (hF : Fit S) (hW : wayErr S = 0) (hi : i < S.trips.length) :
  Calls Tryz.prog 18 #[S.v v1 v2 v3 v4 v5, .int .i64 i] w fun e w' => (∃ v, e = .returned (.tuple #[S.trips[i]!.v v, .int .i64 0]) ∧ Sl w.heap.size w 2 v (S.trips[i]!.vis.map Vis.cs)) ∧ Below w.heap.size w w' := by
 obtain ⟨a3, n3, c3, rfl, hn3, hn31, hn32⟩ := hS.trips.open
 have hnt := hF.ntrips
 obtain ⟨b, off, rfl, hb, hcs⟩ := hS.trips.at i hi
 obtain ⟨v, hv, t0, t1, t2, t3, t4⟩ := hcs i hi
 rw [hn3] at hnt hi
 obtain ⟨t, ht⟩ : ∃ t, t = S.trips[i]! := ⟨_, rfl⟩
 rw [← ht] at t0 t1 t2 t3 hv ⊢
 obtain ⟨av, m, cv, rfl, _, _, _⟩ := hv.open
 have HV := Lib.hid hv
 have HS := Lib.hid hS
 have HF := Lib.hid hF
 have HW := Lib.hid hW
 have hi1 : (0 : Int) ≤ (i : Int) := by omega
 have hi2 : (i : Int) < (n3 : Int) := by omega
 have hi3 : ¬(i : Int) < 0 := by omega
 have hi4 : ¬(n3 : Int) ≤ (i : Int) := by omega
 clear hS hF hW hn3 hn31 hn32 hcs hv ht
 have P0 := Lib.hid (obj_old (o' := .cells #[.int .i64 0, .int .i64 0, .int .i64 0, .int .i64 0, .slice none 0 0] 61) (obj_last w (.cells #[v1, v2, .int .i64 S.gap, .slice (some ⟨b, off, none⟩) n3 c3, v4, v5] 40)))
 have T0 := Lib.hid (obj_last2 w (.cells #[v1, v2, .int .i64 S.gap, .slice (some ⟨b, off, none⟩) n3 c3, v4, v5] 40) (.cells #[.int .i64 0, .int .i64 0, .int .i64 0, .int .i64 0, .slice none 0 0] 61))
 go_enter Tryz.func18, Tryz.ntmps18
 go_wp2_with fail
 refine (checkW_any S v1 v2 _ v4 v5 _ (HS.out.later (by (repeat (first | with_reducible exact Below.refl _ _ | with_reducible assumption | ((with_reducible first | refine Below.setCell ?_ ?_ _ | refine Below.alloc ?_ ?_ _); rotate_left; focus (first | exact Nat.le_refl _ | omega | exact Below.size (by assumption) | (simp <;> omega))) | with_reducible refine Below.drew ?_ | with_reducible refine drewN_ ?_ _)))) HF.out).mono ?_
 rintro e w2 ⟨rfl, hb2⟩
 rw [HW.out]
 have P2 := Lib.hid (keepObj hb2 P0.out)
 have T2 := Lib.hid (keepObj hb2 T0.out)
 have B2 := Lib.hid (from_ (w := w) hb2 (by (repeat (first | with_reducible exact Below.refl _ _ | with_reducible assumption | ((with_reducible first | refine Below.setCell ?_ ?_ _ | refine Below.alloc ?_ ?_ _); rotate_left; focus (first | exact Nat.le_refl _ | omega | exact Below.size (by assumption) | (simp <;> omega))) | with_reducible refine Below.drew ?_ | with_reducible refine drewN_ ?_ _))))
 rw [← B2.out.cell (p := ⟨b, _, none⟩) hb] at t0 t1 t2 t3 t4
 have l3 := obj_cell P2.out 3
 have k0 := obj_cell T2.out 0
 have k1 := obj_cell T2.out 1
 have k2 := obj_cell T2.out 2
 have k3 := obj_cell T2.out 3
 have k4 := obj_cell T2.out 4
 have m0 := obj_free T2.out 0
 have m1 := obj_free T2.out 1
 have m2 := obj_free T2.out 2
 have m3 := obj_free T2.out 3
 have m4 := obj_free T2.out 4
 simp at l3 k0 k1 k2 k3 k4
 have z1 := obj_lt P2.out
 have z2 := obj_lt T2.out
 have zb : b < w2.heap.size := by have := B2.out.size; omega
 clear hb2
 go_wp2_with fail
 refine bodyPost_ret (v := .tuple #[t.v (.slice av m cv), .int .i64 0]) (by simp [results, Tryz.results18, go_sem, k0, k1, k2, k3, k4, m0, m1, m2, m3, m4, z2]) rfl ⟨⟨_, rfl, HV.out⟩, ?_⟩
 have h := B2.out
 (repeat (first | with_reducible exact Below.refl _ _ | with_reducible assumption | ((with_reducible first | refine Below.setCell ?_ ?_ _ | refine Below.alloc ?_ ?_ _); rotate_left; focus (first | exact Nat.le_refl _ | omega | exact Below.size (by assumption) | (simp <;> omega))) | with_reducible refine Below.drew ?_ | with_reducible refine drewN_ ?_ _))
set_option maxRecDepth 100000 in
set_option maxHeartbeats 4000000 in
theorem stopsF_any (S : Scn) (v1 v2 v3 v4 v5 : Value) (i : Nat) (w : World) (hS : ScnAt w.heap.size w v1 v2 v3 v4 v5 S) (hF : Fit S) (hW : wayErr S = 0) (hi : i < S.trips.length) :
  Calls Tryz.prog 10 #[S.v v1 v2 v3 v4 v5, .int .i64 i] w fun e w' => (∃ L v, stopsS S S.trips[i]! = .ok L ∧ e = .returned (.tuple #[v, .int .i64 0]) ∧ Ow w.heap.size w' 66 2 v (L.map Stp.cs) ∧ L.length ≤ 256) ∧ Below w.heap.size w w' := by
 have HS := Lib.hid hS
 have HF := Lib.hid hF
 have HW := Lib.hid hW
 have HK := Lib.hid (netOK_of hF.net)
 have HI := Lib.hid hi
 have hfit := tripFit_of (hF.trips i hi)
 have hok := wayErrT_zero _ (wayErr_zero hW) S.trips[i]! (by rw [getElem!_pos S.trips i hi]; exact List.getElem_mem hi)
 obtain ⟨t, ht⟩ : ∃ t, t = S.trips[i]! := ⟨_, rfl⟩
 rw [← ht] at hfit hok ⊢
 have HTT := Lib.hid ht
 have HFIT := Lib.hid hfit
 have HOK := Lib.hid hok
 clear hS hF hW hi ht hfit hok
 have P0 := Lib.hid (obj_last w (.cells #[v1, v2, .int .i64 S.gap, v3, v4, v5] 40))
 go_enter Tryz.func10, Tryz.ntmps10
 go_wp2_with fail
 refine (trip_any S v1 v2 v3 v4 v5 i _ (HS.out.later (by (repeat (first | with_reducible exact Below.refl _ _ | with_reducible assumption | ((with_reducible first | refine Below.setCell ?_ ?_ _ | refine Below.alloc ?_ ?_ _); rotate_left; focus (first | exact Nat.le_refl _ | omega | exact Below.size (by assumption) | (simp <;> omega))) | with_reducible refine Below.drew ?_ | with_reducible refine drewN_ ?_ _)))) HF.out HW.out HI.out).mono ?_
 rintro e w2 ⟨⟨v, rfl, hV⟩, hb2⟩
 rw [← HTT.out] at hV ⊢
 obtain ⟨av, m, cv, rfl, _, _, _⟩ := hV.open
 have P2 := Lib.hid (keepObj hb2 P0.out)
 have HV := Lib.hid ((hV.keep hb2 (Nat.le_refl _)).mono hb2.size)
 have B2 := Lib.hid (from_ (w := w) hb2 (by (repeat (first | with_reducible exact Below.refl _ _ | with_reducible assumption | ((with_reducible first | refine Below.setCell ?_ ?_ _ | refine Below.alloc ?_ ?_ _); rotate_left; focus (first | exact Nat.le_refl _ | omega | exact Below.size (by assumption) | (simp <;> omega))) | with_reducible refine Below.drew ?_ | with_reducible refine drewN_ ?_ _))))
 have l0 := obj_cell P2.out 0
 have l1 := obj_cell P2.out 1
 have l2 := obj_cell P2.out 2
 have l3 := obj_cell P2.out 3
 have l4 := obj_cell P2.out 4
 have l5 := obj_cell P2.out 5
 simp at l0 l1 l2 l3 l4 l5
 have z1 := obj_lt P2.out
 clear hb2 hV
 go_wp2_with fail
 refine (stopsW_any S t v1 v2 v3 v4 v5 _ _ ((HS.out.net.keep B2.out (Nat.le_refl _)).mono B2.out.size |>.later (by (repeat (first | with_reducible exact Below.refl _ _ | with_reducible assumption | ((with_reducible first | refine Below.setCell ?_ ?_ _ | refine Below.alloc ?_ ?_ _); rotate_left; focus (first | exact Nat.le_refl _ | omega | exact Below.size (by assumption) | (simp <;> omega))) | with_reducible refine Below.drew ?_ | with_reducible refine drewN_ ?_ _)))) (HV.out.later (by (repeat (first | with_reducible exact Below.refl _ _ | with_reducible assumption | ((with_reducible first | refine Below.setCell ?_ ?_ _ | refine Below.alloc ?_ ?_ _); rotate_left; focus (first | exact Nat.le_refl _ | omega | exact Below.size (by assumption) | (simp <;> omega))) | with_reducible refine Below.drew ?_ | with_reducible refine drewN_ ?_ _)))) HFIT.out.vis HK.out HF.out.few HF.out.gap HFIT.out.speed HFIT.out.start HFIT.out.few HFIT.out.wait).mono ?_
 rintro e w3 ⟨hR, hb3⟩
 have B3 := Lib.hid (from_ (w := w) hb3 (by have h := B2.out; (repeat (first | with_reducible exact Below.refl _ _ | with_reducible assumption | ((with_reducible first | refine Below.setCell ?_ ?_ _ | refine Below.alloc ?_ ?_ _); rotate_left; focus (first | exact Nat.le_refl _ | omega | exact Below.size (by assumption) | (simp <;> omega))) | with_reducible refine Below.drew ?_ | with_reducible refine drewN_ ?_ _))))
 obtain ⟨L, hL, _⟩ := HOK.out
 rw [hL] at hR
 obtain ⟨v, rfl, hO, hlen⟩ := hR
 have HO := Lib.hid (hO.mono (B' := w.heap.size) (by have := B2.out.size; first | (simp; omega) | omega))
 have HL := Lib.hid hL
 have HLEN := Lib.hid hlen
 clear hb3 hL hO hlen l0 l1 l2 l3 l4 l5
 go_wp2_with fail
 go_ret2
 exact ⟨⟨L, v, HL.out, rfl, HO.out, HLEN.out⟩, B3.out⟩
end Go.Proofs.YtmplajpbmojkkaaGreat
