/-
  Scenarios and the stops of their trips: the plain law.
  The model's offset and exchanges of a scenario.
  The model's checkTrip.
-/
import Derived.Test.YtmplajpbmojkkaaGreatQueA
import Derived.Test.YtmplajpbmojkkaaGreatScnB
set_option linter.unusedSimpArgs false
set_option linter.unusedVariables false
namespace Go.Proofs.YtmplajpbmojkkaaGreat
open Go Go.Vi
/-- How long a road takes. -/
def rdTime (speed : Int) (x : Rd) : Int := (x.len + min speed x.lim - 1).tdiv (min speed x.lim)
def hopTime (n : Net) (speed id : Int) : Int := rdTime speed ((roadOf n.roads id).getD rd0)
open Classical in
noncomputable def routeOf (n : Net) (a b : Int) : Option (List Hp) := if h : ∃ R l, IsRoute n a b R l then some h.choose else none
theorem routeOf_some {n : Net} {a b l : Int} {R : List Hp} (h : IsRoute n a b R l) : routeOf n a b = some R := by
  unfold routeOf
  have hx : ∃ R l, IsRoute n a b R l := ⟨R, l, h⟩
  rw [dif_pos hx]
  obtain ⟨l', h'⟩ := hx.choose_spec
  rw [(h'.unique h).1]
theorem routeOf_none {n : Net} {a b : Int} (h : ∀ R l, ¬IsRoute n a b R l) : routeOf n a b = none := by
  unfold routeOf
  rw [dif_neg]
  rintro ⟨R, l, hx⟩
  exact h R l hx
theorem of_routeOf {n : Net} {a b : Int} {R : List Hp} (h : routeOf n a b = some R) : ∃ l, IsRoute n a b R l := by
  unfold routeOf at h
  split at h
  · rename_i hx
    injection h with h
    obtain ⟨l', h'⟩ := hx.choose_spec
    rw [h] at h'
    exact ⟨l', h'⟩
  · cases h
open Classical in
/-- The hops of a drive, each with its end and its time; or the error. -/
noncomputable def driveTo (S : Scn) (speed a b : Int) : Except Int (List (Int × Int)) :=
  match routeOf S.net a b with
  | none => .error 31
  | some R => if ∃ h ∈ R, S.gap < hopTime S.net speed h.road then .error 25 else .ok (R.map fun h => (h.dst, hopTime S.net speed h.road))
def moves : Int → List (Int × Int) → List Stp
  | _, [] => []
  | now, (d, t) :: l => ⟨now + t, d⟩ :: moves (now + t) l
def gone : Int → List (Int × Int) → Int
  | now, [] => now
  | now, (_, t) :: l => gone (now + t) l
def waits (gap node : Int) : Nat → Int → Int → List Stp
  | 0, _, _ => []
  | k + 1, now, fin => if now < fin then ⟨min (now + gap) fin, node⟩ :: waits gap node k (min (now + gap) fin) fin else []
noncomputable def driveIf (S : Scn) (speed : Int) (prev : Option Int) (b : Int) : Except Int (List (Int × Int)) :=
  match prev with
  | none => .ok []
  | some a => driveTo S speed a b
noncomputable def tour (S : Scn) (speed : Int) : Option Int → Int → List Vis → Except Int (List Stp)
  | _, _, [] => .ok []
  | prev, now, v :: vs =>
    match driveIf S speed prev v.node with
    | .error e => .error e
    | .ok l =>
      match tour S speed (some v.node) (gone now l + v.wait) vs with
      | .error e => .error e
      | .ok rest => .ok (moves now l ++ waits S.gap v.node v.wait.toNat (gone now l) (gone now l + v.wait) ++ rest)
noncomputable def stopsS (S : Scn) (t : Trp) : Except Int (List Stp) :=
  match tour S t.speed none t.start t.vis with
  | .error e => .error e
  | .ok L => if 256 < L.length + 1 then .error 3 else .ok (⟨t.start, (t.vis[0]!).node⟩ :: L)
theorem moves_append (l l' : List (Int × Int)) : ∀ now, moves now (l ++ l') = moves now l ++ moves (gone now l) l' := by
  induction l with
  | nil => intro now; rfl
  | cons p l ih => intro now; obtain ⟨d, t⟩ := p; simp only [List.cons_append, moves, gone, ih]
theorem gone_append (l l' : List (Int × Int)) : ∀ now, gone now (l ++ l') = gone (gone now l) l' := by
  induction l with
  | nil => intro now; rfl
  | cons p l ih => intro now; obtain ⟨d, t⟩ := p; simp only [List.cons_append, gone, ih]
theorem moves_nodes (l : List (Int × Int)) : ∀ now, ∀ m ∈ moves now l, ∃ p ∈ l, m.node = p.1 := by
  induction l with
  | nil => intro now m hm; cases hm
  | cons p l ih =>
    intro now m hm
    obtain ⟨d, t⟩ := p
    rcases List.mem_cons.1 hm with rfl | hm
    · exact ⟨(d, t), List.mem_cons_self, rfl⟩
    · obtain ⟨q, hq, h⟩ := ih _ m hm
      exact ⟨q, List.mem_cons_of_mem _ hq, h⟩
theorem waits_nodes (gap node : Int) : ∀ (k : Nat) (now fin : Int), ∀ u ∈ waits gap node k now fin, u.node = node
  | 0, _, _ => fun u hu => by cases hu
  | k + 1, now, fin => fun u hu => by
    unfold waits at hu
    split at hu
    · rcases List.mem_cons.1 hu with rfl | hu
      · rfl
      · exact waits_nodes gap node k _ _ u hu
    · cases hu
/-- Waiting: nothing, or stops ahead of the end and one at the end. -/
theorem waits_end (gap node : Int) (hg : 1 ≤ gap) : ∀ (k : Nat) (now fin : Int), fin - now ≤ k → now ≤ fin → (waits gap node k now fin = [] ∧ now = fin) ∨ ∃ W0 z, waits gap node k now fin = W0 ++ [z] ∧ z.time = fin ∧ now < fin ∧ ∀ u ∈ W0, u.time < fin
  | 0, now, fin => fun h1 h2 => .inl ⟨rfl, by simp at h1; omega⟩
  | k + 1, now, fin => fun h1 h2 => by
    unfold waits
    by_cases h : now < fin
    · rw [if_pos h]
      right
      rcases waits_end gap node hg k (min (now + gap) fin) fin (by omega) (by omega) with ⟨e1, e2⟩ | ⟨W0, z, e1, e2, e3, e4⟩
      · rw [e1]
        exact ⟨[], _, rfl, e2, h, fun u hu => by cases hu⟩
      · rw [e1]
        refine ⟨_ :: W0, z, rfl, e2, h, fun u hu => ?_⟩
        rcases List.mem_cons.1 hu with rfl | hu
        · exact e3
        · exact e4 u hu
    · rw [if_neg h]
      exact .inl ⟨rfl, by omega⟩
/-- A drive between two nodes that differ: it comes to its end once, and last. -/
theorem driveTo_last {S : Scn} {speed a b : Int} {l : List (Int × Int)} (h : driveTo S speed a b = .ok l) (hne : a ≠ b) : ∃ P t, l = P ++ [(b, t)] ∧ ∀ p ∈ P, p.1 ≠ b := by
  unfold driveTo at h
  split at h
  · cases h
  · rename_i R hR
    split at h
    · cases h
    · injection h with h
      obtain ⟨len, _, _, A, B, _, _, _, hw⟩ := of_routeOf hR
      rcases hw.last with ⟨_, e⟩ | ⟨P, g, rfl, e, hp⟩
      · exact absurd e hne
      · subst h
        refine ⟨P.map fun h => (h.dst, hopTime S.net speed h.road), hopTime S.net speed g.road, by simp [e], fun p hp' => ?_⟩
        obtain ⟨x, hx, rfl⟩ := List.mem_map.1 hp'
        exact hp x hx
/-- One visit of a tour, from the stop x on: the law's way to look at it. -/
theorem tour_step {S : Scn} {speed : Int} {prev : Option Int} {v : Vis} {vs : List Vis} {rest : List Stp} {x : Stp} (hg : 1 ≤ S.gap) (hw : 0 ≤ v.wait) (h : tour S speed prev x.time (v :: vs) = .ok rest) (hp : (prev = none ∧ x.node = v.node) ∨ (prev = some x.node ∧ x.node ≠ v.node)) :
    ∃ M y W rest2, x :: rest = M ++ y :: (W ++ rest2) ∧ (∀ m ∈ M, m.node ≠ v.node) ∧ y.node = v.node ∧ (∀ u ∈ W, u.node = v.node) ∧
      ((W = [] ∧ v.wait = 0) ∨ ∃ W0 z, W = W0 ++ [z] ∧ z.time = y.time + v.wait ∧ 0 < v.wait ∧ ∀ u ∈ W0, u.time < y.time + v.wait) ∧ tour S speed (some v.node) (y.time + v.wait) vs = .ok rest2 := by
  unfold tour at h
  split at h
  · cases h
  · rename_i l hl
    split at h
    · cases h
    · rename_i rest2 hr
      injection h with h
      subst h
      have hW := waits_end S.gap v.node hg v.wait.toNat (gone x.time l) (gone x.time l + v.wait) (by omega) (by omega)
      have hWn := waits_nodes S.gap v.node v.wait.toNat (gone x.time l) (gone x.time l + v.wait)
      have hW2 : (waits S.gap v.node v.wait.toNat (gone x.time l) (gone x.time l + v.wait) = [] ∧ v.wait = 0) ∨ ∃ W0 z, waits S.gap v.node v.wait.toNat (gone x.time l) (gone x.time l + v.wait) = W0 ++ [z] ∧ z.time = gone x.time l + v.wait ∧ 0 < v.wait ∧ ∀ u ∈ W0, u.time < gone x.time l + v.wait := by
        rcases hW with ⟨e1, e2⟩ | ⟨W0, z, e1, e2, e3, e4⟩
        · exact .inl ⟨e1, by omega⟩
        · exact .inr ⟨W0, z, e1, e2, by omega, e4⟩
      rcases hp with ⟨rfl, hx⟩ | ⟨rfl, hx⟩
      · simp only [driveIf] at hl
        injection hl with hl
        subst hl
        exact ⟨[], x, waits S.gap v.node v.wait.toNat (gone x.time []) (gone x.time [] + v.wait), rest2, rfl, (fun m hm => nomatch hm), hx, hWn, hW2, hr⟩
      · obtain ⟨P, t, rfl, hP⟩ := driveTo_last hl hx
        have e1 : moves x.time (P ++ [(v.node, t)]) = moves x.time P ++ [⟨gone x.time P + t, v.node⟩] := by rw [moves_append]; rfl
        have e2 : gone x.time (P ++ [(v.node, t)]) = gone x.time P + t := by rw [gone_append]; rfl
        rw [e2] at hWn hW2 hr
        refine ⟨x :: moves x.time P, ⟨gone x.time P + t, v.node⟩, _, rest2, by rw [e1, e2]; simp, fun m hm => ?_, rfl, hWn, hW2, hr⟩
        rcases List.mem_cons.1 hm with rfl | hm
        · exact hx
        · obtain ⟨p, hp, e⟩ := moves_nodes _ _ m hm
          rw [e]; exact hP p hp
end Go.Proofs.YtmplajpbmojkkaaGreat
namespace Go.Proofs.YtmplajpbmojkkaaGreat
open Go Go.RowKit Go.Vi
theorem clkOf_at {C : List Clk} {k : Nat} (h : k < C.length) (d : Int) : clkOf (C.drop k) d = if C[k]!.dev == d then some C[k]! else clkOf (C.drop (k + 1)) d := by
  rw [List.drop_eq_getElem_cons h, getElem!_pos C k h]
  unfold clkOf
  rw [List.find?_cons]
  split <;> rename_i q
  · rw [if_pos q]
  · rw [if_neg (by rw [q]; decide)]
theorem offset_any (S : Scn) (v1 v2 v3 v4 v5 : Value) (d : Int) (w : World) (hC : Sl w.heap.size w 2 v4 (S.clocks.map Clk.cs)) (hsz : S.clocks.length ≤ 1000) :
    Calls Tryz.prog 36 #[S.v v1 v2 v3 v4 v5, .int .i64 d] w fun e w' => e = .returned (.tuple #[.int .i64 (offOf S.clocks d), .bool (hasOff S.clocks d)]) ∧ Below w.heap.size w w' := by
  obtain ⟨a, n, c, rfl, hn, hn1, hn2⟩ := hC.open
  rw [List.length_map] at hn
  rw [hn] at hsz
  have HC := Lib.hid hC
  have HL := Lib.hid hn
  clear hC hn hn2
  go_enter Tryz.func36, Tryz.ntmps36
  go_wp2
  go_loopw [6] (fun s6 wr => ∃ k : Nat, s6 = .int .i64 k ∧ k ≤ n ∧ Hid (clkOf S.clocks d = clkOf (S.clocks.drop k) d) ∧ wr = w.alloc (.cells #[v1, v2, .int .i64 S.gap, v3, .slice a n c, v5] 40)) (fun s6 _ => n - (intOf s6).toNat)
  case atStart => exact ⟨0, rfl, Nat.zero_le _, rfl, rfl⟩
  case round =>
    obtain ⟨k, rfl, hk, hF, rfl⟩ := hrel
    by_cases hlt : k < n
    · have hkl : k < S.clocks.length := by rw [HL.out]; exact hlt
      obtain ⟨b, off, rfl, hb, hcs⟩ := HC.out.cells k hkl
      have hk2 := hcs k hkl
      have hE := clkOf_at hkl d
      rw [← hF.out] at hE
      generalize S.clocks[k]! = x at hk2 hE
      have k0 : w.cell? ⟨b, off + k * 2, none⟩ = _ := hk2 0 _ rfl
      have k1 := hk2 1 _ rfl
      have HE := Lib.hid hE
      clear hcs hk2 hE hF
      by_cases hd : x.dev == d
      · go_wp2
        go_ret2
        refine ⟨?_, (by (repeat (first | with_reducible exact Below.refl _ _ | with_reducible assumption | ((with_reducible refine Below.setCell ?_ ?_ _); rotate_left; focus (first | exact Nat.le_refl _ | omega | exact Below.size (by assumption) | (simp; done) | (simp; omega))) | ((with_reducible refine Below.alloc ?_ ?_ _); rotate_left; focus (first | exact Nat.le_refl _ | omega | exact Below.size (by assumption) | (simp; done) | (simp; omega))) | (with_reducible refine Below.drew ?_) | (with_reducible refine drewN_ ?_ _))))⟩
        have hv := HE.out
        rw [if_pos hd] at hv
        simp [offOf, hasOff, hv]
      · have hd' : (x.dev == d) = false := by simpa using hd
        go_wp2
        go_roundw
        case rel =>
          refine ⟨k + 1, by go_num, by omega, ?_, by first | rfl | trivial⟩
          show clkOf S.clocks d = _
          rw [HE.out, if_neg hd]
        case measure => simp [intOf]; omega
    · obtain rfl : k = n := by omega
      have hN : Hid (clkOf S.clocks d = none) := by
        show _ = _
        rw [hF.out, List.drop_eq_nil_of_le (by rw [HL.out]; exact Nat.le_refl _)]; rfl
      go_wp2
      go_ret2
      refine ⟨?_, (by (repeat (first | with_reducible exact Below.refl _ _ | with_reducible assumption | ((with_reducible refine Below.setCell ?_ ?_ _); rotate_left; focus (first | exact Nat.le_refl _ | omega | exact Below.size (by assumption) | (simp; done) | (simp; omega))) | ((with_reducible refine Below.alloc ?_ ?_ _); rotate_left; focus (first | exact Nat.le_refl _ | omega | exact Below.size (by assumption) | (simp; done) | (simp; omega))) | (with_reducible refine Below.drew ?_) | (with_reducible refine drewN_ ?_ _))))⟩
      simp [offOf, hasOff, hN.out]
/-- The times at which a sync's two messages come. -/
def gotOut (S : Scn) (x : Snc) : Int := x.sent + x.out + offOf S.clocks x.dev
def gotBack (x : Snc) : Int := x.sent + x.out + x.back
def exchV (S : Scn) (x : Snc) : Value := .agg #[.int .i64 0, .int .i64 x.dev, .int .i64 x.sent, .int .i64 (gotOut S x), .int .i64 (x.out - x.so), .int .i64 x.dev, .int .i64 0, .int .i64 (gotOut S x), .int .i64 (gotBack x), .int .i64 (x.back - x.sb)]
theorem exchanges_any (S : Scn) (v1 v2 v3 v4 v5 : Value) (x : Snc) (w : World) (hC : Sl w.heap.size w 2 v4 (S.clocks.map Clk.cs)) (hsz : S.clocks.length ≤ 1000) (ho : -1073741824 ≤ offOf S.clocks x.dev ∧ offOf S.clocks x.dev ≤ 1073741824)
    (h1 : 0 ≤ x.sent ∧ x.sent ≤ 1073741824) (h2 : 0 ≤ x.out ∧ x.out ≤ 1073741824) (h3 : 0 ≤ x.back ∧ x.back ≤ 1073741824) (h4 : 0 ≤ x.so ∧ x.so ≤ x.out) (h5 : 0 ≤ x.sb ∧ x.sb ≤ x.back) :
    Calls Tryz.prog 37 #[S.v v1 v2 v3 v4 v5, x.v] w fun e w' => e = .returned (exchV S x) ∧ Below w.heap.size w w' := by
  have HC := Lib.hid hC
  obtain ⟨o, hoo⟩ : ∃ o, o = offOf S.clocks x.dev := ⟨_, rfl⟩
  rw [← hoo] at ho
  have hv : exchV S x = .agg #[.int .i64 0, .int .i64 x.dev, .int .i64 x.sent, .int .i64 (x.sent + x.out + o), .int .i64 (x.out - x.so), .int .i64 x.dev, .int .i64 0, .int .i64 (x.sent + x.out + o), .int .i64 (x.sent + x.out + x.back), .int .i64 (x.back - x.sb)] := by simp only [exchV, gotOut, gotBack, ← hoo]
  rw [hv]
  have HO := Lib.hid hoo
  have HSZ := Lib.hid hsz
  clear hC hoo hv hsz
  go_enter Tryz.func37, Tryz.ntmps37
  go_wp2_with (go_at_call 36; refine (offset_any S v1 v2 v3 v4 v5 x.dev _ (HC.out.later (by (repeat (first | with_reducible exact Below.refl _ _ | with_reducible assumption | ((with_reducible refine Below.setCell ?_ ?_ _); rotate_left; focus (first | exact Nat.le_refl _ | omega | exact Below.size (by assumption) | (simp; done) | (simp; omega))) | ((with_reducible refine Below.alloc ?_ ?_ _); rotate_left; focus (first | exact Nat.le_refl _ | omega | exact Below.size (by assumption) | (simp; done) | (simp; omega))) | (with_reducible refine Below.drew ?_) | (with_reducible refine drewN_ ?_ _))))) HSZ.out).mono ?_; rintro e w1 ⟨rfl, hb1⟩; rw [← HO.out]; have hB1 := from_ (w := w) hb1 (by (repeat (first | with_reducible exact Below.refl _ _ | with_reducible assumption | ((with_reducible refine Below.setCell ?_ ?_ _); rotate_left; focus (first | exact Nat.le_refl _ | omega | exact Below.size (by assumption) | (simp; done) | (simp; omega))) | ((with_reducible refine Below.alloc ?_ ?_ _); rotate_left; focus (first | exact Nat.le_refl _ | omega | exact Below.size (by assumption) | (simp; done) | (simp; omega))) | (with_reducible refine Below.drew ?_) | (with_reducible refine drewN_ ?_ _)))); have HB1 := Lib.hid hB1; have hz1 := hb1.size; simp at hz1; obtain ⟨hc1, hf1⟩ := bcell hb1; clear hB1 hb1)
  refine bodyPost_ret ?_ rfl ⟨rfl, ?_⟩
  · simp [results, Tryz.results37, go_sem, hc1, hf1, hz1]
  · have hB := HB1.out
    (repeat (first | with_reducible exact Below.refl _ _ | with_reducible assumption | ((with_reducible refine Below.setCell ?_ ?_ _); rotate_left; focus (first | exact Nat.le_refl _ | omega | exact Below.size (by assumption) | (simp; done) | (simp; omega))) | ((with_reducible refine Below.alloc ?_ ?_ _); rotate_left; focus (first | exact Nat.le_refl _ | omega | exact Below.size (by assumption) | (simp; done) | (simp; omega))) | (with_reducible refine Below.drew ?_) | (with_reducible refine drewN_ ?_ _)))
end Go.Proofs.YtmplajpbmojkkaaGreat
namespace Go.Proofs.YtmplajpbmojkkaaGreat
open Go Go.RowKit Go.Vi
def visErr (q : List Nd) : Option Int → List Vis → Int
  | _, [] => 0
  | p, v :: vs => if (nodeOf q v.node).isSome = false then 9 else if inB v.wait 0 1073741824 = false then 26 else if p = some v.node then 8 else visErr q (some v.node) vs
def tripErr (n : Net) (t : Trp) (last : Int) : Int :=
  if inB t.obj 1 1073741824 = false then 27 else if t.obj ≤ last then 7 else if inB t.start 0 1073741824 = false then 26 else if inB t.speed 1 1048576 = false then 2 else if t.vis.length = 0 then 10 else if 32 < t.vis.length then 3 else visErr n.nodes none t.vis
def prevOf (l : List Vis) (k : Nat) : Option Int := match k with | 0 => none | j + 1 => some l[j]!.node
theorem visErr_at {q : List Nd} {l : List Vis} {k : Nat} (h : k < l.length) (p : Option Int) : visErr q p (l.drop k) = if (nodeOf q l[k]!.node).isSome = false then 9 else if inB l[k]!.wait 0 1073741824 = false then 26 else if p = some l[k]!.node then 8 else visErr q (some l[k]!.node) (l.drop (k + 1)) := by
  rw [List.drop_eq_getElem_cons h, getElem!_pos l k h]; rfl
set_option maxHeartbeats 1000000 in
theorem checkTrip_any (n : Net) (v1 v2 v : Value) (t : Trp) (last : Int) (w : World) (hN : NetAt w.heap.size w v1 v2 n) (hs : SrtN n.nodes) (hsz : n.nodes.length ≤ 1000000) (hV : Sl w.heap.size w 2 v (t.vis.map Vis.cs)) (hV2 : t.vis.length ≤ 1000000) :
    Calls Tryz.prog 33 #[.agg #[v1, v2], t.v v, .int .i64 last] w fun e w' => e = .returned (.int .i64 (tripErr n t last)) ∧ Below w.heap.size w w' := by
  obtain ⟨a, m, c, rfl, hm, hm1, hm2⟩ := hV.open
  rw [List.length_map] at hm
  rw [hm] at hV2
  have HN := Lib.hid hN
  have HS := Lib.hid hs
  have HZ := Lib.hid hsz
  have HV := Lib.hid hV
  have HM := Lib.hid hm
  have hR : tripErr n t last = if inB t.obj 1 1073741824 = false then 27 else if t.obj ≤ last then 7 else if inB t.start 0 1073741824 = false then 26 else if inB t.speed 1 1048576 = false then 2 else if m = 0 then 10 else if 32 < m then 3 else visErr n.nodes none t.vis := by unfold tripErr; rw [hm]
  clear hN hs hsz hV hm hm2
  by_cases c1 : inB t.obj 1 1073741824 = false
  · rw [if_pos c1] at hR
    have HR := Lib.hid hR
    clear hR
    go_enter Tryz.func33, Tryz.ntmps33
    go_wp2_with (go_at_call 32; refine (within_any _ _ _ _).mono ?_; rintro e w' ⟨rfl, rfl⟩)
    go_ret
    exact ⟨by rw [HR.out]; rfl, (by (repeat (first | with_reducible exact Below.refl _ _ | with_reducible assumption | ((with_reducible refine Below.setCell ?_ ?_ _); rotate_left; focus (first | exact Nat.le_refl _ | omega | exact Below.size (by assumption) | (simp; done) | (simp; omega))) | ((with_reducible refine Below.alloc ?_ ?_ _); rotate_left; focus (first | exact Nat.le_refl _ | omega | exact Below.size (by assumption) | (simp; done) | (simp; omega))) | (with_reducible refine Below.drew ?_) | (with_reducible refine drewN_ ?_ _))))⟩
  rw [if_neg c1] at hR
  replace c1 : inB t.obj 1 1073741824 = true := by simpa using c1
  by_cases c2 : t.obj ≤ last
  · rw [if_pos c2] at hR
    have HR := Lib.hid hR
    clear hR
    go_enter Tryz.func33, Tryz.ntmps33
    go_wp2_with (go_at_call 32; refine (within_any _ _ _ _).mono ?_; rintro e w' ⟨rfl, rfl⟩)
    go_ret
    exact ⟨by rw [HR.out]; rfl, (by (repeat (first | with_reducible exact Below.refl _ _ | with_reducible assumption | ((with_reducible refine Below.setCell ?_ ?_ _); rotate_left; focus (first | exact Nat.le_refl _ | omega | exact Below.size (by assumption) | (simp; done) | (simp; omega))) | ((with_reducible refine Below.alloc ?_ ?_ _); rotate_left; focus (first | exact Nat.le_refl _ | omega | exact Below.size (by assumption) | (simp; done) | (simp; omega))) | (with_reducible refine Below.drew ?_) | (with_reducible refine drewN_ ?_ _))))⟩
  rw [if_neg c2] at hR
  by_cases c3 : inB t.start 0 1073741824 = false
  · rw [if_pos c3] at hR
    have HR := Lib.hid hR
    clear hR
    go_enter Tryz.func33, Tryz.ntmps33
    go_wp2_with (go_at_call 32; refine (within_any _ _ _ _).mono ?_; rintro e w' ⟨rfl, rfl⟩)
    go_ret
    exact ⟨by rw [HR.out]; rfl, (by (repeat (first | with_reducible exact Below.refl _ _ | with_reducible assumption | ((with_reducible refine Below.setCell ?_ ?_ _); rotate_left; focus (first | exact Nat.le_refl _ | omega | exact Below.size (by assumption) | (simp; done) | (simp; omega))) | ((with_reducible refine Below.alloc ?_ ?_ _); rotate_left; focus (first | exact Nat.le_refl _ | omega | exact Below.size (by assumption) | (simp; done) | (simp; omega))) | (with_reducible refine Below.drew ?_) | (with_reducible refine drewN_ ?_ _))))⟩
  rw [if_neg c3] at hR
  replace c3 : inB t.start 0 1073741824 = true := by simpa using c3
  by_cases c4 : inB t.speed 1 1048576 = false
  · rw [if_pos c4] at hR
    have HR := Lib.hid hR
    clear hR
    go_enter Tryz.func33, Tryz.ntmps33
    go_wp2_with (go_at_call 32; refine (within_any _ _ _ _).mono ?_; rintro e w' ⟨rfl, rfl⟩)
    go_ret
    exact ⟨by rw [HR.out]; rfl, (by (repeat (first | with_reducible exact Below.refl _ _ | with_reducible assumption | ((with_reducible refine Below.setCell ?_ ?_ _); rotate_left; focus (first | exact Nat.le_refl _ | omega | exact Below.size (by assumption) | (simp; done) | (simp; omega))) | ((with_reducible refine Below.alloc ?_ ?_ _); rotate_left; focus (first | exact Nat.le_refl _ | omega | exact Below.size (by assumption) | (simp; done) | (simp; omega))) | (with_reducible refine Below.drew ?_) | (with_reducible refine drewN_ ?_ _))))⟩
  rw [if_neg c4] at hR
  replace c4 : inB t.speed 1 1048576 = true := by simpa using c4
  by_cases c5 : m = 0
  · rw [if_pos c5] at hR
    have HR := Lib.hid hR
    subst c5
    clear hR
    go_enter Tryz.func33, Tryz.ntmps33
    go_wp2_with (go_at_call 32; refine (within_any _ _ _ _).mono ?_; rintro e w' ⟨rfl, rfl⟩)
    go_ret
    exact ⟨by rw [HR.out]; rfl, (by (repeat (first | with_reducible exact Below.refl _ _ | with_reducible assumption | ((with_reducible refine Below.setCell ?_ ?_ _); rotate_left; focus (first | exact Nat.le_refl _ | omega | exact Below.size (by assumption) | (simp; done) | (simp; omega))) | ((with_reducible refine Below.alloc ?_ ?_ _); rotate_left; focus (first | exact Nat.le_refl _ | omega | exact Below.size (by assumption) | (simp; done) | (simp; omega))) | (with_reducible refine Below.drew ?_) | (with_reducible refine drewN_ ?_ _))))⟩
  rw [if_neg c5] at hR
  have c5' : ((m : Int) == 0) = false := by simpa using c5
  by_cases c6 : 32 < m
  · rw [if_pos c6] at hR
    have HR := Lib.hid hR
    clear hR
    go_enter Tryz.func33, Tryz.ntmps33
    go_wp2_with (go_at_call 32; refine (within_any _ _ _ _).mono ?_; rintro e w' ⟨rfl, rfl⟩)
    go_ret
    exact ⟨by rw [HR.out]; rfl, (by (repeat (first | with_reducible exact Below.refl _ _ | with_reducible assumption | ((with_reducible refine Below.setCell ?_ ?_ _); rotate_left; focus (first | exact Nat.le_refl _ | omega | exact Below.size (by assumption) | (simp; done) | (simp; omega))) | ((with_reducible refine Below.alloc ?_ ?_ _); rotate_left; focus (first | exact Nat.le_refl _ | omega | exact Below.size (by assumption) | (simp; done) | (simp; omega))) | (with_reducible refine Below.drew ?_) | (with_reducible refine drewN_ ?_ _))))⟩
  rw [if_neg c6] at hR
  have HR := Lib.hid hR
  clear hR
  go_enter Tryz.func33, Tryz.ntmps33
  go_wp2_with (go_at_call 32; refine (within_any _ _ _ _).mono ?_; rintro e w' ⟨rfl, rfl⟩)
  go_loopw [7] (fun s7 wr => ∃ k : Nat, s7 = .int .i64 k ∧ k ≤ m ∧ Hid (visErr n.nodes none t.vis = visErr n.nodes (prevOf t.vis k) (t.vis.drop k)) ∧
      Hid (Below ((w.alloc (.cells #[v1, v2] 35)).alloc (.cells #[.int .i64 t.obj, .int .i64 t.dev, .int .i64 t.start, .int .i64 t.speed, .slice a m c] 61)).heap.size ((w.alloc (.cells #[v1, v2] 35)).alloc (.cells #[.int .i64 t.obj, .int .i64 t.dev, .int .i64 t.start, .int .i64 t.speed, .slice a m c] 61)) wr)) (fun s7 _ => m - (intOf s7).toNat)
  case atStart => exact ⟨0, rfl, Nat.zero_le _, rfl, Below.refl _ _⟩
  case round =>
    obtain ⟨k, rfl, hk, hE, hB⟩ := hrel
    have HBr := Lib.hid (from_ (w := w) hB.out (by (repeat (first | with_reducible exact Below.refl _ _ | with_reducible assumption | ((with_reducible refine Below.setCell ?_ ?_ _); rotate_left; focus (first | exact Nat.le_refl _ | omega | exact Below.size (by assumption) | (simp; done) | (simp; omega))) | ((with_reducible refine Below.alloc ?_ ?_ _); rotate_left; focus (first | exact Nat.le_refl _ | omega | exact Below.size (by assumption) | (simp; done) | (simp; omega))) | (with_reducible refine Below.drew ?_) | (with_reducible refine drewN_ ?_ _)))))
    have hz0 : w.heap.size + 2 ≤ wr.heap.size := by have := hB.out.size; simp at this; omega
    have hz1 : w.heap.size < wr.heap.size := by omega
    have hz2 : w.heap.size + 1 < wr.heap.size := by omega
    have l0 : wr.cell? ⟨w.heap.size, 0, none⟩ = some v1 := by rw [hB.out.cell (by simp; omega)]; simp
    have l1 : wr.cell? ⟨w.heap.size, 1, none⟩ = some v2 := by rw [hB.out.cell (by simp; omega)]; simp
    have l4 : wr.cell? ⟨w.heap.size + 1, 4, none⟩ = some (.slice a m c) := by rw [hB.out.cell (by simp)]; simp
    by_cases hlt : k < m
    · have hkl : k < t.vis.length := by rw [HM.out]; exact hlt
      obtain ⟨b, off, rfl, hb, hcs⟩ := HV.out.cells k hkl
      have k0 : w.cell? ⟨b, off + k * 2, none⟩ = _ := hcs k hkl 0 _ rfl
      have k1 : w.cell? ⟨b, off + k * 2 + 1, none⟩ = _ := hcs k hkl 1 _ rfl
      rw [← HBr.out.cell (p := ⟨b, _, none⟩) hb] at k0 k1
      have z5 : b < wr.heap.size := by omega
      have hE2 := visErr_at (q := n.nodes) hkl (prevOf t.vis k)
      rw [← hE.out] at hE2
      have hx : ∃ x, x = t.vis[k]! := ⟨_, rfl⟩
      obtain ⟨x, hx⟩ := hx
      rw [← hx] at k0 k1 hE2
      have hA : ∃ A, A = nodeOf n.nodes x.node := ⟨_, rfl⟩
      obtain ⟨A, hA⟩ := hA
      rw [← hA] at hE2
      have HA := Lib.hid hA
      clear hA
      cases hS : A.isSome with
      | false =>
        rw [if_pos hS] at hE2
        have HE2 := Lib.hid hE2
        clear hE2 hx hcs
        go_wp2_with (first | (go_at_call 32; refine (within_any _ _ _ _).mono ?_; rintro e w' ⟨rfl, rfl⟩) | (go_at_call 47; refine (node_any n v1 v2 _ _ (HN.out.later (by have h := HBr.out; (repeat (first | with_reducible exact Below.refl _ _ | with_reducible assumption | ((with_reducible refine Below.setCell ?_ ?_ _); rotate_left; focus (first | exact Nat.le_refl _ | omega | exact Below.size (by assumption) | (simp; done) | (simp; omega))) | ((with_reducible refine Below.alloc ?_ ?_ _); rotate_left; focus (first | exact Nat.le_refl _ | omega | exact Below.size (by assumption) | (simp; done) | (simp; omega))) | (with_reducible refine Below.drew ?_) | (with_reducible refine drewN_ ?_ _))))) HS.out HZ.out).mono ?_; rintro e w1 ⟨rfl, hb1⟩; rw [← HA.out]; have hB1 := from_ (w := w) hb1 (by have h := HBr.out; (repeat (first | with_reducible exact Below.refl _ _ | with_reducible assumption | ((with_reducible refine Below.setCell ?_ ?_ _); rotate_left; focus (first | exact Nat.le_refl _ | omega | exact Below.size (by assumption) | (simp; done) | (simp; omega))) | ((with_reducible refine Below.alloc ?_ ?_ _); rotate_left; focus (first | exact Nat.le_refl _ | omega | exact Below.size (by assumption) | (simp; done) | (simp; omega))) | (with_reducible refine Below.drew ?_) | (with_reducible refine drewN_ ?_ _)))); have HB1 := Lib.hid hB1; have hz9 := hb1.size; simp at hz9; have z1 : wr.heap.size < w1.heap.size := (by omega); have z2 : w.heap.size < w1.heap.size := (by omega); have z4 : b < w1.heap.size := (by omega); have z3 : w.heap.size + 1 < w1.heap.size := (by omega); obtain ⟨hc1, hf1⟩ := bcell hb1; clear hB1 hb1))
        go_ret
        exact ⟨by rw [HR.out, HE2.out]; rfl, by have h := HB1.out; (repeat (first | with_reducible exact Below.refl _ _ | with_reducible assumption | ((with_reducible refine Below.setCell ?_ ?_ _); rotate_left; focus (first | exact Nat.le_refl _ | omega | exact Below.size (by assumption) | (simp; done) | (simp; omega))) | ((with_reducible refine Below.alloc ?_ ?_ _); rotate_left; focus (first | exact Nat.le_refl _ | omega | exact Below.size (by assumption) | (simp; done) | (simp; omega))) | (with_reducible refine Below.drew ?_) | (with_reducible refine drewN_ ?_ _)))⟩
      | true =>
        rw [if_neg (by rw [hS]; decide)] at hE2
        cases hW : inB x.wait 0 1073741824 with
        | false =>
          rw [if_pos hW] at hE2
          have HE2 := Lib.hid hE2
          clear hE2 hx hcs
          go_wp2_with (first | (go_at_call 32; refine (within_any _ _ _ _).mono ?_; rintro e w' ⟨rfl, rfl⟩) | (go_at_call 47; refine (node_any n v1 v2 _ _ (HN.out.later (by have h := HBr.out; (repeat (first | with_reducible exact Below.refl _ _ | with_reducible assumption | ((with_reducible refine Below.setCell ?_ ?_ _); rotate_left; focus (first | exact Nat.le_refl _ | omega | exact Below.size (by assumption) | (simp; done) | (simp; omega))) | ((with_reducible refine Below.alloc ?_ ?_ _); rotate_left; focus (first | exact Nat.le_refl _ | omega | exact Below.size (by assumption) | (simp; done) | (simp; omega))) | (with_reducible refine Below.drew ?_) | (with_reducible refine drewN_ ?_ _))))) HS.out HZ.out).mono ?_; rintro e w1 ⟨rfl, hb1⟩; rw [← HA.out]; have hB1 := from_ (w := w) hb1 (by have h := HBr.out; (repeat (first | with_reducible exact Below.refl _ _ | with_reducible assumption | ((with_reducible refine Below.setCell ?_ ?_ _); rotate_left; focus (first | exact Nat.le_refl _ | omega | exact Below.size (by assumption) | (simp; done) | (simp; omega))) | ((with_reducible refine Below.alloc ?_ ?_ _); rotate_left; focus (first | exact Nat.le_refl _ | omega | exact Below.size (by assumption) | (simp; done) | (simp; omega))) | (with_reducible refine Below.drew ?_) | (with_reducible refine drewN_ ?_ _)))); have HB1 := Lib.hid hB1; have hz9 := hb1.size; simp at hz9; have z1 : wr.heap.size < w1.heap.size := (by omega); have z2 : w.heap.size < w1.heap.size := (by omega); have z4 : b < w1.heap.size := (by omega); have z3 : w.heap.size + 1 < w1.heap.size := (by omega); obtain ⟨hc1, hf1⟩ := bcell hb1; clear hB1 hb1))
          go_ret
          exact ⟨by rw [HR.out, HE2.out]; rfl, by have h := HB1.out; (repeat (first | with_reducible exact Below.refl _ _ | with_reducible assumption | ((with_reducible refine Below.setCell ?_ ?_ _); rotate_left; focus (first | exact Nat.le_refl _ | omega | exact Below.size (by assumption) | (simp; done) | (simp; omega))) | ((with_reducible refine Below.alloc ?_ ?_ _); rotate_left; focus (first | exact Nat.le_refl _ | omega | exact Below.size (by assumption) | (simp; done) | (simp; omega))) | (with_reducible refine Below.drew ?_) | (with_reducible refine drewN_ ?_ _)))⟩
        | true =>
          rw [if_neg (by rw [hW]; decide)] at hE2
          by_cases hk0 : k = 0
          · rw [if_neg (by rw [hk0]; simp [prevOf])] at hE2
            have HE2 := Lib.hid hE2
            have HX := Lib.hid hx
            have hk0' : decide (0 < k) = false := by simp; omega
            have hk1' : decide ((0 : Int) < (k : Int)) = false := by simp; omega
            have HK0 := Lib.hid hk0
            clear hE2 hx hcs hk0
            go_wp2_with (first | (go_at_call 32; refine (within_any _ _ _ _).mono ?_; rintro e w' ⟨rfl, rfl⟩) | (go_at_call 47; refine (node_any n v1 v2 _ _ (HN.out.later (by have h := HBr.out; (repeat (first | with_reducible exact Below.refl _ _ | with_reducible assumption | ((with_reducible refine Below.setCell ?_ ?_ _); rotate_left; focus (first | exact Nat.le_refl _ | omega | exact Below.size (by assumption) | (simp; done) | (simp; omega))) | ((with_reducible refine Below.alloc ?_ ?_ _); rotate_left; focus (first | exact Nat.le_refl _ | omega | exact Below.size (by assumption) | (simp; done) | (simp; omega))) | (with_reducible refine Below.drew ?_) | (with_reducible refine drewN_ ?_ _))))) HS.out HZ.out).mono ?_; rintro e w1 ⟨rfl, hb1⟩; rw [← HA.out]; have hB1 := from_ (w := w) hb1 (by have h := HBr.out; (repeat (first | with_reducible exact Below.refl _ _ | with_reducible assumption | ((with_reducible refine Below.setCell ?_ ?_ _); rotate_left; focus (first | exact Nat.le_refl _ | omega | exact Below.size (by assumption) | (simp; done) | (simp; omega))) | ((with_reducible refine Below.alloc ?_ ?_ _); rotate_left; focus (first | exact Nat.le_refl _ | omega | exact Below.size (by assumption) | (simp; done) | (simp; omega))) | (with_reducible refine Below.drew ?_) | (with_reducible refine drewN_ ?_ _)))); have HB1 := Lib.hid hB1; have HB3 := Lib.hid (from_ (w := ((w.alloc (.cells #[v1, v2] 35)).alloc (.cells #[.int .i64 t.obj, .int .i64 t.dev, .int .i64 t.start, .int .i64 t.speed, .slice (some ⟨b, off, none⟩) m c] 61))) hb1 (by have h := hB.out; (repeat (first | with_reducible exact Below.refl _ _ | with_reducible assumption | ((with_reducible refine Below.setCell ?_ ?_ _); rotate_left; focus (first | exact Nat.le_refl _ | omega | exact Below.size (by assumption) | (simp; done) | (simp; omega))) | ((with_reducible refine Below.alloc ?_ ?_ _); rotate_left; focus (first | exact Nat.le_refl _ | omega | exact Below.size (by assumption) | (simp; done) | (simp; omega))) | (with_reducible refine Below.drew ?_) | (with_reducible refine drewN_ ?_ _))))); have hz9 := hb1.size; simp at hz9; have z1 : wr.heap.size < w1.heap.size := (by omega); have z2 : w.heap.size < w1.heap.size := (by omega); have z4 : b < w1.heap.size := (by omega); have z3 : w.heap.size + 1 < w1.heap.size := (by omega); obtain ⟨hc1, hf1⟩ := bcell hb1; clear hB1 hb1))
            go_quiet (fail)
            go_wp2
            all_goals
              go_roundw
              case rel => exact ⟨k + 1, by go_num, by omega, by show _ = visErr n.nodes (some t.vis[k]!.node) _; rw [HE2.out, HX.out], by have h := HB3.out; show Below _ _ _; (repeat (first | with_reducible exact Below.refl _ _ | with_reducible assumption | ((with_reducible refine Below.setCell ?_ ?_ _); rotate_left; focus (first | exact Nat.le_refl _ | omega | exact Below.size (by assumption) | (simp; done) | (simp; omega))) | ((with_reducible refine Below.alloc ?_ ?_ _); rotate_left; focus (first | exact Nat.le_refl _ | omega | exact Below.size (by assumption) | (simp; done) | (simp; omega))) | (with_reducible refine Below.drew ?_) | (with_reducible refine drewN_ ?_ _)))⟩
              case measure => simp [intOf]; omega
          · obtain ⟨j, hj⟩ : ∃ j, j + 1 = k := ⟨k - 1, by omega⟩
            have hp : prevOf t.vis k = some t.vis[j]!.node := by subst hj; rfl
            rw [hp] at hE2
            have y0 : w.cell? ⟨b, off + j * 2, none⟩ = _ := hcs j (by omega) 0 _ rfl
            rw [← HBr.out.cell (p := ⟨b, _, none⟩) hb] at y0
            obtain ⟨y, hy⟩ : ∃ y, y = t.vis[j]! := ⟨_, rfl⟩
            rw [← hy] at y0 hE2
            have hj1 : (k : Int) - 1 = (j : Int) := by omega
            have hj2 : IntKind.i64.wrap (j : Int) = (j : Int) := IntWalk.i64_in _ (by omega)
            have hj3 : (0 : Int) < (k : Int) := by omega
            have hj4 : (j : Int) < (m : Int) := by omega
            have hj5 : j < m := by omega
            have hj6 : 0 < k := by omega
            have HJ := Lib.hid hj
            have HX := Lib.hid hx
            by_cases hd : y.node = x.node
            · rw [if_pos (by rw [hd])] at hE2
              have HE2 := Lib.hid hE2
              have hd' : (x.node == y.node) = true := by rw [hd]; simp
              clear hE2 hx hcs hy hj
              go_wp2_with (first | (go_at_call 32; refine (within_any _ _ _ _).mono ?_; rintro e w' ⟨rfl, rfl⟩) | (go_at_call 47; refine (node_any n v1 v2 _ _ (HN.out.later (by have h := HBr.out; (repeat (first | with_reducible exact Below.refl _ _ | with_reducible assumption | ((with_reducible refine Below.setCell ?_ ?_ _); rotate_left; focus (first | exact Nat.le_refl _ | omega | exact Below.size (by assumption) | (simp; done) | (simp; omega))) | ((with_reducible refine Below.alloc ?_ ?_ _); rotate_left; focus (first | exact Nat.le_refl _ | omega | exact Below.size (by assumption) | (simp; done) | (simp; omega))) | (with_reducible refine Below.drew ?_) | (with_reducible refine drewN_ ?_ _))))) HS.out HZ.out).mono ?_; rintro e w1 ⟨rfl, hb1⟩; rw [← HA.out]; have hB1 := from_ (w := w) hb1 (by have h := HBr.out; (repeat (first | with_reducible exact Below.refl _ _ | with_reducible assumption | ((with_reducible refine Below.setCell ?_ ?_ _); rotate_left; focus (first | exact Nat.le_refl _ | omega | exact Below.size (by assumption) | (simp; done) | (simp; omega))) | ((with_reducible refine Below.alloc ?_ ?_ _); rotate_left; focus (first | exact Nat.le_refl _ | omega | exact Below.size (by assumption) | (simp; done) | (simp; omega))) | (with_reducible refine Below.drew ?_) | (with_reducible refine drewN_ ?_ _)))); have HB1 := Lib.hid hB1; have HB3 := Lib.hid (from_ (w := ((w.alloc (.cells #[v1, v2] 35)).alloc (.cells #[.int .i64 t.obj, .int .i64 t.dev, .int .i64 t.start, .int .i64 t.speed, .slice (some ⟨b, off, none⟩) m c] 61))) hb1 (by have h := hB.out; (repeat (first | with_reducible exact Below.refl _ _ | with_reducible assumption | ((with_reducible refine Below.setCell ?_ ?_ _); rotate_left; focus (first | exact Nat.le_refl _ | omega | exact Below.size (by assumption) | (simp; done) | (simp; omega))) | ((with_reducible refine Below.alloc ?_ ?_ _); rotate_left; focus (first | exact Nat.le_refl _ | omega | exact Below.size (by assumption) | (simp; done) | (simp; omega))) | (with_reducible refine Below.drew ?_) | (with_reducible refine drewN_ ?_ _))))); have hz9 := hb1.size; simp at hz9; have z1 : wr.heap.size < w1.heap.size := (by omega); have z2 : w.heap.size < w1.heap.size := (by omega); have z4 : b < w1.heap.size := (by omega); have z3 : w.heap.size + 1 < w1.heap.size := (by omega); obtain ⟨hc1, hf1⟩ := bcell hb1; clear hB1 hb1))
              go_quiet (fail)
              go_wp2
              all_goals
                go_ret
                exact ⟨by rw [HR.out, HE2.out]; rfl, by have h := HB1.out; (repeat (first | with_reducible exact Below.refl _ _ | with_reducible assumption | ((with_reducible refine Below.setCell ?_ ?_ _); rotate_left; focus (first | exact Nat.le_refl _ | omega | exact Below.size (by assumption) | (simp; done) | (simp; omega))) | ((with_reducible refine Below.alloc ?_ ?_ _); rotate_left; focus (first | exact Nat.le_refl _ | omega | exact Below.size (by assumption) | (simp; done) | (simp; omega))) | (with_reducible refine Below.drew ?_) | (with_reducible refine drewN_ ?_ _)))⟩
            · rw [if_neg (by intro e; injection e with e; exact hd e)] at hE2
              have HE2 := Lib.hid hE2
              have hd' : (x.node == y.node) = false := by simpa using fun e => hd e.symm
              clear hE2 hx hcs hy hj
              go_wp2_with (first | (go_at_call 32; refine (within_any _ _ _ _).mono ?_; rintro e w' ⟨rfl, rfl⟩) | (go_at_call 47; refine (node_any n v1 v2 _ _ (HN.out.later (by have h := HBr.out; (repeat (first | with_reducible exact Below.refl _ _ | with_reducible assumption | ((with_reducible refine Below.setCell ?_ ?_ _); rotate_left; focus (first | exact Nat.le_refl _ | omega | exact Below.size (by assumption) | (simp; done) | (simp; omega))) | ((with_reducible refine Below.alloc ?_ ?_ _); rotate_left; focus (first | exact Nat.le_refl _ | omega | exact Below.size (by assumption) | (simp; done) | (simp; omega))) | (with_reducible refine Below.drew ?_) | (with_reducible refine drewN_ ?_ _))))) HS.out HZ.out).mono ?_; rintro e w1 ⟨rfl, hb1⟩; rw [← HA.out]; have hB1 := from_ (w := w) hb1 (by have h := HBr.out; (repeat (first | with_reducible exact Below.refl _ _ | with_reducible assumption | ((with_reducible refine Below.setCell ?_ ?_ _); rotate_left; focus (first | exact Nat.le_refl _ | omega | exact Below.size (by assumption) | (simp; done) | (simp; omega))) | ((with_reducible refine Below.alloc ?_ ?_ _); rotate_left; focus (first | exact Nat.le_refl _ | omega | exact Below.size (by assumption) | (simp; done) | (simp; omega))) | (with_reducible refine Below.drew ?_) | (with_reducible refine drewN_ ?_ _)))); have HB1 := Lib.hid hB1; have HB3 := Lib.hid (from_ (w := ((w.alloc (.cells #[v1, v2] 35)).alloc (.cells #[.int .i64 t.obj, .int .i64 t.dev, .int .i64 t.start, .int .i64 t.speed, .slice (some ⟨b, off, none⟩) m c] 61))) hb1 (by have h := hB.out; (repeat (first | with_reducible exact Below.refl _ _ | with_reducible assumption | ((with_reducible refine Below.setCell ?_ ?_ _); rotate_left; focus (first | exact Nat.le_refl _ | omega | exact Below.size (by assumption) | (simp; done) | (simp; omega))) | ((with_reducible refine Below.alloc ?_ ?_ _); rotate_left; focus (first | exact Nat.le_refl _ | omega | exact Below.size (by assumption) | (simp; done) | (simp; omega))) | (with_reducible refine Below.drew ?_) | (with_reducible refine drewN_ ?_ _))))); have hz9 := hb1.size; simp at hz9; have z1 : wr.heap.size < w1.heap.size := (by omega); have z2 : w.heap.size < w1.heap.size := (by omega); have z4 : b < w1.heap.size := (by omega); have z3 : w.heap.size + 1 < w1.heap.size := (by omega); obtain ⟨hc1, hf1⟩ := bcell hb1; clear hB1 hb1))
              go_quiet (fail)
              go_wp2
              all_goals
                go_roundw
                case rel => exact ⟨k + 1, by go_num, by omega, by show _ = visErr n.nodes (some t.vis[k]!.node) _; rw [HE2.out, HX.out], by have h := HB3.out; show Below _ _ _; (repeat (first | with_reducible exact Below.refl _ _ | with_reducible assumption | ((with_reducible refine Below.setCell ?_ ?_ _); rotate_left; focus (first | exact Nat.le_refl _ | omega | exact Below.size (by assumption) | (simp; done) | (simp; omega))) | ((with_reducible refine Below.alloc ?_ ?_ _); rotate_left; focus (first | exact Nat.le_refl _ | omega | exact Below.size (by assumption) | (simp; done) | (simp; omega))) | (with_reducible refine Below.drew ?_) | (with_reducible refine drewN_ ?_ _)))⟩
                case measure => simp [intOf]; omega
    · obtain rfl : k = m := by omega
      have hv : visErr n.nodes none t.vis = 0 := by rw [hE.out, List.drop_eq_nil_of_le (by rw [HM.out]; exact Nat.le_refl _)]; rfl
      have HV0 := Lib.hid hv
      clear hv
      go_wp2
      go_ret
      exact ⟨by rw [HR.out, HV0.out]; rfl, by have h := HBr.out; (repeat (first | with_reducible exact Below.refl _ _ | with_reducible assumption | ((with_reducible refine Below.setCell ?_ ?_ _); rotate_left; focus (first | exact Nat.le_refl _ | omega | exact Below.size (by assumption) | (simp; done) | (simp; omega))) | ((with_reducible refine Below.alloc ?_ ?_ _); rotate_left; focus (first | exact Nat.le_refl _ | omega | exact Below.size (by assumption) | (simp; done) | (simp; omega))) | (with_reducible refine Below.drew ?_) | (with_reducible refine drewN_ ?_ _)))⟩
end Go.Proofs.YtmplajpbmojkkaaGreat
