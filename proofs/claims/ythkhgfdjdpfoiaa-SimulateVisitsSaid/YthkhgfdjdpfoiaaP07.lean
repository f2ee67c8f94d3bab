/-
  Scenarios and the stops of their trips: the plain law.
  The model's offset and exchanges of a scenario.
-/
import Derived.Test.YthkhgfdjdpfoiaaP04
import Derived.Test.YthkhgfdjdpfoiaaP02
set_option linter.unusedSimpArgs false
set_option linter.unusedVariables false
namespace Go.Proofs.Ythkhgfdjdpfoiaa
open Go Go.Vi
/-- How long a road takes. -/
def rdTime (speed : Int) (x : Rd) : Int := (x.len + min speed x.lim - 1).tdiv (min speed x.lim)
def hopTime (n : Net) (speed id : Int) : Int := rdTime speed ((roadOf n.roads id).getD rd0)
open Classical in
noncomputable def routeOf (n : Net) (a b : Int) : Option (List Hp) := if h : ∃ R l, IsRoute n a b R l then some h.choose else none
theorem routeOf_some {n : Net} {a b l : Int} {R : List Hp} (h : IsRoute n a b R l) : routeOf n a b = some R := by
  unfold routeOf
  have hx : ∃ R l, IsRoute n a b R l := ⟨R, l, h⟩
  rw [dif_pos hx]
  obtain ⟨l', h'⟩ := hx.choose_spec
  rw [(h'.unique h).1]
theorem routeOf_none {n : Net} {a b : Int} (h : ∀ R l, ¬IsRoute n a b R l) : routeOf n a b = none := by
  unfold routeOf
  rw [dif_neg]
  rintro ⟨R, l, hx⟩
  exact h R l hx
theorem of_routeOf {n : Net} {a b : Int} {R : List Hp} (h : routeOf n a b = some R) : ∃ l, IsRoute n a b R l := by
  unfold routeOf at h
  split at h
  · rename_i hx
    injection h with h
    obtain ⟨l', h'⟩ := hx.choose_spec
    rw [h] at h'
    exact ⟨l', h'⟩
  · cases h
open Classical in
/-- The hops of a drive, each with its end and its time; or the error. -/
noncomputable def driveTo (S : Scn) (speed a b : Int) : Except Int (List (Int × Int)) :=
  match routeOf S.net a b with
  | none => .error 31
  | some R => if ∃ h ∈ R, S.gap < hopTime S.net speed h.road then .error 25 else .ok (R.map fun h => (h.dst, hopTime S.net speed h.road))
def moves : Int → List (Int × Int) → List Stp
  | _, [] => []
  | now, (d, t) :: l => ⟨now + t, d⟩ :: moves (now + t) l
def gone : Int → List (Int × Int) → Int
  | now, [] => now
  | now, (_, t) :: l => gone (now + t) l
def waits (gap node : Int) : Nat → Int → Int → List Stp
  | 0, _, _ => []
  | k + 1, now, fin => if now < fin then ⟨min (now + gap) fin, node⟩ :: waits gap node k (min (now + gap) fin) fin else []
noncomputable def driveIf (S : Scn) (speed : Int) (prev : Option Int) (b : Int) : Except Int (List (Int × Int)) :=
  match prev with
  | none => .ok []
  | some a => driveTo S speed a b
noncomputable def tour (S : Scn) (speed : Int) : Option Int → Int → List Vis → Except Int (List Stp)
  | _, _, [] => .ok []
  | prev, now, v :: vs =>
    match driveIf S speed prev v.node with
    | .error e => .error e
    | .ok l =>
      match tour S speed (some v.node) (gone now l + v.wait) vs with
      | .error e => .error e
      | .ok rest => .ok (moves now l ++ waits S.gap v.node v.wait.toNat (gone now l) (gone now l + v.wait) ++ rest)
noncomputable def stopsS (S : Scn) (t : Trp) : Except Int (List Stp) :=
  match tour S t.speed none t.start t.vis with
  | .error e => .error e
  | .ok L => if 256 < L.length + 1 then .error 3 else .ok (⟨t.start, (t.vis[0]!).node⟩ :: L)
theorem moves_append (l l' : List (Int × Int)) : ∀ now, moves now (l ++ l') = moves now l ++ moves (gone now l) l' := by
  induction l with
  | nil => intro now; rfl
  | cons p l ih => intro now; obtain ⟨d, t⟩ := p; simp only [List.cons_append, moves, gone, ih]
theorem gone_append (l l' : List (Int × Int)) : ∀ now, gone now (l ++ l') = gone (gone now l) l' := by
  induction l with
  | nil => intro now; rfl
  | cons p l ih => intro now; obtain ⟨d, t⟩ := p; simp only [List.cons_append, gone, ih]
theorem moves_nodes (l : List (Int × Int)) : ∀ now, ∀ m ∈ moves now l, ∃ p ∈ l, m.node = p.1 := by
  induction l with
  | nil => intro now m hm; cases hm
  | cons p l ih =>
    intro now m hm
    obtain ⟨d, t⟩ := p
    rcases List.mem_cons.1 hm with rfl | hm
    · exact ⟨(d, t), List.mem_cons_self, rfl⟩
    · obtain ⟨q, hq, h⟩ := ih _ m hm
      exact ⟨q, List.mem_cons_of_mem _ hq, h⟩
theorem waits_nodes (gap node : Int) : ∀ (k : Nat) (now fin : Int), ∀ u ∈ waits gap node k now fin, u.node = node
  | 0, _, _ => fun u hu => by cases hu
  | k + 1, now, fin => fun u hu => by
    unfold waits at hu
    split at hu
    · rcases List.mem_cons.1 hu with rfl | hu
      · rfl
      · exact waits_nodes gap node k _ _ u hu
    · cases hu
/-- Waiting: nothing, or stops ahead of the end and one at the end. -/
theorem waits_end (gap node : Int) (hg : 1 ≤ gap) : ∀ (k : Nat) (now fin : Int), fin - now ≤ k → now ≤ fin → (waits gap node k now fin = [] ∧ now = fin) ∨ ∃ W0 z, waits gap node k now fin = W0 ++ [z] ∧ z.time = fin ∧ now < fin ∧ ∀ u ∈ W0, u.time < fin
  | 0, now, fin => fun h1 h2 => .inl ⟨rfl, by simp at h1; omega⟩
  | k + 1, now, fin => fun h1 h2 => by
    unfold waits
    by_cases h : now < fin
    · rw [if_pos h]
      right
      rcases waits_end gap node hg k (min (now + gap) fin) fin (by omega) (by omega) with ⟨e1, e2⟩ | ⟨W0, z, e1, e2, e3, e4⟩
      · rw [e1]
        exact ⟨[], _, rfl, e2, h, fun u hu => by cases hu⟩
      · rw [e1]
        refine ⟨_ :: W0, z, rfl, e2, h, fun u hu => ?_⟩
        rcases List.mem_cons.1 hu with rfl | hu
        · exact e3
        · exact e4 u hu
    · rw [if_neg h]
      exact .inl ⟨rfl, by omega⟩
/-- A drive between two nodes that differ: it comes to its end once, and last. -/
theorem driveTo_last {S : Scn} {speed a b : Int} {l : List (Int × Int)} (h : driveTo S speed a b = .ok l) (hne : a ≠ b) : ∃ P t, l = P ++ [(b, t)] ∧ ∀ p ∈ P, p.1 ≠ b := by
  unfold driveTo at h
  split at h
  · cases h
  · rename_i R hR
    split at h
    · cases h
    · injection h with h
      obtain ⟨len, _, _, A, B, _, _, _, hw⟩ := of_routeOf hR
      rcases hw.last with ⟨_, e⟩ | ⟨P, g, rfl, e, hp⟩
      · exact absurd e hne
      · subst h
        refine ⟨P.map fun h => (h.dst, hopTime S.net speed h.road), hopTime S.net speed g.road, by simp [e], fun p hp' => ?_⟩
        obtain ⟨x, hx, rfl⟩ := List.mem_map.1 hp'
        exact hp x hx
/-- One visit of a tour, from the stop x on: the law's way to look at it. -/
theorem tour_step {S : Scn} {speed : Int} {prev : Option Int} {v : Vis} {vs : List Vis} {rest : List Stp} {x : Stp} (hg : 1 ≤ S.gap) (hw : 0 ≤ v.wait) (h : tour S speed prev x.time (v :: vs) = .ok rest) (hp : (prev = none ∧ x.node = v.node) ∨ (prev = some x.node ∧ x.node ≠ v.node)) :
    ∃ M y W rest2, x :: rest = M ++ y :: (W ++ rest2) ∧ (∀ m ∈ M, m.node ≠ v.node) ∧ y.node = v.node ∧ (∀ u ∈ W, u.node = v.node) ∧
      ((W = [] ∧ v.wait = 0) ∨ ∃ W0 z, W = W0 ++ [z] ∧ z.time = y.time + v.wait ∧ 0 < v.wait ∧ ∀ u ∈ W0, u.time < y.time + v.wait) ∧ tour S speed (some v.node) (y.time + v.wait) vs = .ok rest2 := by
  unfold tour at h
  split at h
  · cases h
  · rename_i l hl
    split at h
    · cases h
    · rename_i rest2 hr
      injection h with h
      subst h
      have hW := waits_end S.gap v.node hg v.wait.toNat (gone x.time l) (gone x.time l + v.wait) (by omega) (by omega)
      have hWn := waits_nodes S.gap v.node v.wait.toNat (gone x.time l) (gone x.time l + v.wait)
      have hW2 : (waits S.gap v.node v.wait.toNat (gone x.time l) (gone x.time l + v.wait) = [] ∧ v.wait = 0) ∨ ∃ W0 z, waits S.gap v.node v.wait.toNat (gone x.time l) (gone x.time l + v.wait) = W0 ++ [z] ∧ z.time = gone x.time l + v.wait ∧ 0 < v.wait ∧ ∀ u ∈ W0, u.time < gone x.time l + v.wait := by
        rcases hW with ⟨e1, e2⟩ | ⟨W0, z, e1, e2, e3, e4⟩
        · exact .inl ⟨e1, by omega⟩
        · exact .inr ⟨W0, z, e1, e2, by omega, e4⟩
      rcases hp with ⟨rfl, hx⟩ | ⟨rfl, hx⟩
      · simp only [driveIf] at hl
        injection hl with hl
        subst hl
        exact ⟨[], x, waits S.gap v.node v.wait.toNat (gone x.time []) (gone x.time [] + v.wait), rest2, rfl, (fun m hm => nomatch hm), hx, hWn, hW2, hr⟩
      · obtain ⟨P, t, rfl, hP⟩ := driveTo_last hl hx
        have e1 : moves x.time (P ++ [(v.node, t)]) = moves x.time P ++ [⟨gone x.time P + t, v.node⟩] := by rw [moves_append]; rfl
        have e2 : gone x.time (P ++ [(v.node, t)]) = gone x.time P + t := by rw [gone_append]; rfl
        rw [e2] at hWn hW2 hr
        refine ⟨x :: moves x.time P, ⟨gone x.time P + t, v.node⟩, _, rest2, by rw [e1, e2]; simp, fun m hm => ?_, rfl, hWn, hW2, hr⟩
        rcases List.mem_cons.1 hm with rfl | hm
        · exact hx
        · obtain ⟨p, hp, e⟩ := moves_nodes _ _ m hm
          rw [e]; exact hP p hp
end Go.Proofs.Ythkhgfdjdpfoiaa
namespace Go.Proofs.Ythkhgfdjdpfoiaa
open Go Go.RowKit Go.Vi
theorem clkOf_at {C : List Clk} {k : Nat} (h : k < C.length) (d : Int) : clkOf (C.drop k) d = if C[k]!.dev == d then some C[k]! else clkOf (C.drop (k + 1)) d := by
  rw [List.drop_eq_getElem_cons h, getElem!_pos C k h]
  unfold clkOf
  rw [List.find?_cons]
  split <;> rename_i q
  · rw [if_pos q]
  · rw [if_neg (by rw [q]; decide)]
theorem offset_any (S : Scn) (v1 v2 v3 v4 v5 : Value) (d : Int) (w : World) (hC : Sl w.heap.size w 2 v4 (S.clocks.map Clk.cs)) (hsz : S.clocks.length ≤ 1000) :
    Calls Try.prog 35 #[S.v v1 v2 v3 v4 v5, .int .i64 d] w fun e w' => e = .returned (.tuple #[.int .i64 (offOf S.clocks d), .bool (hasOff S.clocks d)]) ∧ Below w.heap.size w w' := by
  obtain ⟨a, n, c, rfl, hn, hn1, hn2⟩ := hC.open
  rw [List.length_map] at hn
  rw [hn] at hsz
  have HC := Lib.hid hC
  have HL := Lib.hid hn
  clear hC hn hn2
  go_enter Try.func35, Try.ntmps35
  go_wp2
  go_loopw [6] (fun s6 wr => ∃ k : Nat, s6 = .int .i64 k ∧ k ≤ n ∧ Hid (clkOf S.clocks d = clkOf (S.clocks.drop k) d) ∧ wr = w.alloc (.cells #[v1, v2, .int .i64 S.gap, v3, .slice a n c, v5] 40)) (fun s6 _ => n - (intOf s6).toNat)
  case atStart => exact ⟨0, rfl, Nat.zero_le _, rfl, rfl⟩
  case round =>
    obtain ⟨k, rfl, hk, hF, rfl⟩ := hrel
    by_cases hlt : k < n
    · have hkl : k < S.clocks.length := by rw [HL.out]; exact hlt
      obtain ⟨b, off, rfl, hb, hcs⟩ := HC.out.cells k hkl
      have hk2 := hcs k hkl
      have hE := clkOf_at hkl d
      rw [← hF.out] at hE
      generalize S.clocks[k]! = x at hk2 hE
      have k0 : w.cell? ⟨b, off + k * 2, none⟩ = _ := hk2 0 _ rfl
      have k1 := hk2 1 _ rfl
      have HE := Lib.hid hE
      clear hcs hk2 hE hF
      by_cases hd : x.dev == d
      · go_wp2
        go_ret2
        refine ⟨?_, (by (repeat (first | with_reducible exact Below.refl _ _ | with_reducible assumption | ((with_reducible refine Below.setCell ?_ ?_ _); rotate_left; focus (first | exact Nat.le_refl _ | omega | exact Below.size (by assumption) | (simp; done) | (simp; omega))) | ((with_reducible refine Below.alloc ?_ ?_ _); rotate_left; focus (first | exact Nat.le_refl _ | omega | exact Below.size (by assumption) | (simp; done) | (simp; omega))) | (with_reducible refine Below.drew ?_) | (with_reducible refine drewN_ ?_ _))))⟩
        have hv := HE.out
        rw [if_pos hd] at hv
        simp [offOf, hasOff, hv]
      · have hd' : (x.dev == d) = false := by simpa using hd
        go_wp2
        go_roundw
        case rel =>
          refine ⟨k + 1, by go_num, by omega, ?_, by first | rfl | trivial⟩
          show clkOf S.clocks d = _
          rw [HE.out, if_neg hd]
        case measure => simp [intOf]; omega
    · obtain rfl : k = n := by omega
      have hN : Hid (clkOf S.clocks d = none) := by
        show _ = _
        rw [hF.out, List.drop_eq_nil_of_le (by rw [HL.out]; exact Nat.le_refl _)]; rfl
      go_wp2
      go_ret2
      refine ⟨?_, (by (repeat (first | with_reducible exact Below.refl _ _ | with_reducible assumption | ((with_reducible refine Below.setCell ?_ ?_ _); rotate_left; focus (first | exact Nat.le_refl _ | omega | exact Below.size (by assumption) | (simp; done) | (simp; omega))) | ((with_reducible refine Below.alloc ?_ ?_ _); rotate_left; focus (first | exact Nat.le_refl _ | omega | exact Below.size (by assumption) | (simp; done) | (simp; omega))) | (with_reducible refine Below.drew ?_) | (with_reducible refine drewN_ ?_ _))))⟩
      simp [offOf, hasOff, hN.out]
/-- The times at which a sync's two messages come. -/
def gotOut (S : Scn) (x : Snc) : Int := x.sent + x.out + offOf S.clocks x.dev
def gotBack (x : Snc) : Int := x.sent + x.out + x.back
def exchV (S : Scn) (x : Snc) : Value := .agg #[.int .i64 0, .int .i64 x.dev, .int .i64 x.sent, .int .i64 (gotOut S x), .int .i64 (x.out - x.so), .int .i64 x.dev, .int .i64 0, .int .i64 (gotOut S x), .int .i64 (gotBack x), .int .i64 (x.back - x.sb)]
theorem exchanges_any (S : Scn) (v1 v2 v3 v4 v5 : Value) (x : Snc) (w : World) (hC : Sl w.heap.size w 2 v4 (S.clocks.map Clk.cs)) (hsz : S.clocks.length ≤ 1000) (ho : -1073741824 ≤ offOf S.clocks x.dev ∧ offOf S.clocks x.dev ≤ 1073741824)
    (h1 : 0 ≤ x.sent ∧ x.sent ≤ 1073741824) (h2 : 0 ≤ x.out ∧ x.out ≤ 1073741824) (h3 : 0 ≤ x.back ∧ x.back ≤ 1073741824) (h4 : 0 ≤ x.so ∧ x.so ≤ x.out) (h5 : 0 ≤ x.sb ∧ x.sb ≤ x.back) :
    Calls Try.prog 36 #[S.v v1 v2 v3 v4 v5, x.v] w fun e w' => e = .returned (exchV S x) ∧ Below w.heap.size w w' := by
  have HC := Lib.hid hC
  obtain ⟨o, hoo⟩ : ∃ o, o = offOf S.clocks x.dev := ⟨_, rfl⟩
  rw [← hoo] at ho
  have hv : exchV S x = .agg #[.int .i64 0, .int .i64 x.dev, .int .i64 x.sent, .int .i64 (x.sent + x.out + o), .int .i64 (x.out - x.so), .int .i64 x.dev, .int .i64 0, .int .i64 (x.sent + x.out + o), .int .i64 (x.sent + x.out + x.back), .int .i64 (x.back - x.sb)] := by simp only [exchV, gotOut, gotBack, ← hoo]
  rw [hv]
  have HO := Lib.hid hoo
  have HSZ := Lib.hid hsz
  clear hC hoo hv hsz
  go_enter Try.func36, Try.ntmps36
  go_wp2_with (go_at_call 35; refine (offset_any S v1 v2 v3 v4 v5 x.dev _ (HC.out.later (by (repeat (first | with_reducible exact Below.refl _ _ | with_reducible assumption | ((with_reducible refine Below.setCell ?_ ?_ _); rotate_left; focus (first | exact Nat.le_refl _ | omega | exact Below.size (by assumption) | (simp; done) | (simp; omega))) | ((with_reducible refine Below.alloc ?_ ?_ _); rotate_left; focus (first | exact Nat.le_refl _ | omega | exact Below.size (by assumption) | (simp; done) | (simp; omega))) | (with_reducible refine Below.drew ?_) | (with_reducible refine drewN_ ?_ _))))) HSZ.out).mono ?_; rintro e w1 ⟨rfl, hb1⟩; rw [← HO.out]; have hB1 := from_ (w := w) hb1 (by (repeat (first | with_reducible exact Below.refl _ _ | with_reducible assumption | ((with_reducible refine Below.setCell ?_ ?_ _); rotate_left; focus (first | exact Nat.le_refl _ | omega | exact Below.size (by assumption) | (simp; done) | (simp; omega))) | ((with_reducible refine Below.alloc ?_ ?_ _); rotate_left; focus (first | exact Nat.le_refl _ | omega | exact Below.size (by assumption) | (simp; done) | (simp; omega))) | (with_reducible refine Below.drew ?_) | (with_reducible refine drewN_ ?_ _)))); have HB1 := Lib.hid hB1; have hz1 := hb1.size; simp at hz1; obtain ⟨hc1, hf1⟩ := bcell hb1; clear hB1 hb1)
  refine bodyPost_ret ?_ rfl ⟨rfl, ?_⟩
  · simp [results, Try.results36, go_sem, hc1, hf1, hz1]
  · have hB := HB1.out
    (repeat (first | with_reducible exact Below.refl _ _ | with_reducible assumption | ((with_reducible refine Below.setCell ?_ ?_ _); rotate_left; focus (first | exact Nat.le_refl _ | omega | exact Below.size (by assumption) | (simp; done) | (simp; omega))) | ((with_reducible refine Below.alloc ?_ ?_ _); rotate_left; focus (first | exact Nat.le_refl _ | omega | exact Below.size (by assumption) | (simp; done) | (simp; omega))) | (with_reducible refine Below.drew ?_) | (with_reducible refine drewN_ ?_ _)))
end Go.Proofs.Ythkhgfdjdpfoiaa
