/-
  simulate's Stops.
  Memory while the model walks: the two rows, and what stays beside them.
-/
import Derived.Test.YthkhgfdjdpfoiaaCheckW
import Derived.Test.YthkhgfdjdpfoiaaStay
set_option linter.unusedSimpArgs false
set_option linter.unusedVariables false
namespace Go.Proofs.Ythkhgfdjdpfoiaa
open Go Go.RowKit Go.Vi
theorem driveIf_err {S : Scn} {speed : Int} {p : Option Int} {b c : Int} (h : driveIf S speed p b = .error c) : c ≠ 0 := by
  cases p with
  | none => cases h
  | some a =>
    simp only [driveIf] at h
    unfold driveTo at h
    split at h
    · injection h with h; omega
    · split at h
      · injection h with h; omega
      · cases h
theorem tour_err {S : Scn} {speed : Int} : ∀ (vs : List Vis) (p : Option Int) (now c : Int), tour S speed p now vs = .error c → c ≠ 0
  | [], _, _, _, h => by unfold tour at h; cases h
  | v :: vs, p, now, c, h => by
    unfold tour at h
    split at h
    · rename_i e he
      injection h with h
      subst h
      exact driveIf_err he
    · rename_i l hl
      split at h
      · rename_i e he
        injection h with h
        subst h
        exact tour_err vs _ _ _ he
      · cases h
theorem stopsS_err {S : Scn} {t : Trp} {c : Int} (h : stopsS S t = .error c) : c ≠ 0 := by
  unfold stopsS at h
  split at h
  · rename_i e he
    injection h with h
    subst h
    exact tour_err _ _ _ _ he
  · split at h
    · injection h with h; omega
    · cases h
theorem wayErrT_zero {S : Scn} : ∀ (T : List Trp), wayErrT S T = 0 → ∀ t ∈ T, ∃ L, stopsS S t = .ok L ∧ ∀ x ∈ L, inB (x.time + offOf S.clocks t.dev) 0 1073741824 = true
  | [], _ => fun t ht => by cases ht
  | t :: T, h => fun u hu => by
    unfold wayErrT at h
    split at h
    · rename_i c hc
      exact absurd h (stopsS_err hc)
    · rename_i L hL
      split at h
      · rename_i hall
        rcases List.mem_cons.1 hu with rfl | hu
        · exact ⟨L, hL, fun x hx => List.all_eq_true.1 hall x hx⟩
        · exact wayErrT_zero T h u hu
      · simp at h
theorem wayErr_zero {S : Scn} (h : wayErr S = 0) : wayErrT S S.trips = 0 := by
  unfold wayErr at h
  split at h
  · rename_i h1; exact h1
  · exact h
set_option maxRecDepth 100000 in
set_option maxHeartbeats 4000000 in
theorem trip_any (S : Scn) (v1 v2 v3 v4 v5 : Value) (i : Nat) (w : World) (hS : ScnAt w.heap.size w v1 v2 v3 v4 v5 S) (hF : Fit S) (hW : wayErr S = 0) (hi : i < S.trips.length) :
    Calls Try.prog 14 #[S.v v1 v2 v3 v4 v5, .int .i64 i] w fun e w' => (∃ v, e = .returned (.tuple #[S.trips[i]!.v v, .int .i64 0]) ∧ Sl w.heap.size w 2 v (S.trips[i]!.vis.map Vis.cs)) ∧ Below w.heap.size w w' := by
  obtain ⟨a3, n3, c3, rfl, hn3, hn31, hn32⟩ := hS.trips.open
  have hnt := hF.ntrips
  obtain ⟨b, off, rfl, hb, hcs⟩ := hS.trips.at i hi
  obtain ⟨v, hv, t0, t1, t2, t3, t4⟩ := hcs i hi
  rw [hn3] at hnt hi
  obtain ⟨t, ht⟩ : ∃ t, t = S.trips[i]! := ⟨_, rfl⟩
  rw [← ht] at t0 t1 t2 t3 hv ⊢
  obtain ⟨av, m, cv, rfl, _, _, _⟩ := hv.open
  have HV := Lib.hid hv
  have HS := Lib.hid hS
  have HF := Lib.hid hF
  have HW := Lib.hid hW
  have hi1 : (0 : Int) ≤ (i : Int) := by omega
  have hi2 : (i : Int) < (n3 : Int) := by omega
  have hi3 : ¬(i : Int) < 0 := by omega
  have hi4 : ¬(n3 : Int) ≤ (i : Int) := by omega
  clear hS hF hW hn3 hn31 hn32 hcs hv ht
  have P0 := Lib.hid (obj_old (o' := .cells #[.int .i64 0, .int .i64 0, .int .i64 0, .int .i64 0, .slice none 0 0] 45) (obj_last w (.cells #[v1, v2, .int .i64 S.gap, .slice (some ⟨b, off, none⟩) n3 c3, v4, v5] 40)))
  have T0 := Lib.hid (obj_last2 w (.cells #[v1, v2, .int .i64 S.gap, .slice (some ⟨b, off, none⟩) n3 c3, v4, v5] 40) (.cells #[.int .i64 0, .int .i64 0, .int .i64 0, .int .i64 0, .slice none 0 0] 45))
  go_enter Try.func14, Try.ntmps14
  go_wp2_with fail
  refine (checkW_any S v1 v2 _ v4 v5 _ (HS.out.later (by (repeat (first | with_reducible exact Below.refl _ _ | with_reducible assumption | ((with_reducible refine Below.setCell ?_ ?_ _); rotate_left; focus (first | exact Nat.le_refl _ | omega | exact Below.size (by assumption) | (simp; done) | (simp; omega))) | ((with_reducible refine Below.alloc ?_ ?_ _); rotate_left; focus (first | exact Nat.le_refl _ | omega | exact Below.size (by assumption) | (simp; done) | (simp; omega))) | (with_reducible refine Below.drew ?_) | (with_reducible refine drewN_ ?_ _))))) HF.out).mono ?_
  rintro e w2 ⟨rfl, hb2⟩
  rw [HW.out]
  have P2 := Lib.hid (keepObj hb2 P0.out)
  have T2 := Lib.hid (keepObj hb2 T0.out)
  have B2 := Lib.hid (from_ (w := w) hb2 (by (repeat (first | with_reducible exact Below.refl _ _ | with_reducible assumption | ((with_reducible refine Below.setCell ?_ ?_ _); rotate_left; focus (first | exact Nat.le_refl _ | omega | exact Below.size (by assumption) | (simp; done) | (simp; omega))) | ((with_reducible refine Below.alloc ?_ ?_ _); rotate_left; focus (first | exact Nat.le_refl _ | omega | exact Below.size (by assumption) | (simp; done) | (simp; omega))) | (with_reducible refine Below.drew ?_) | (with_reducible refine drewN_ ?_ _)))))
  rw [← B2.out.cell (p := ⟨b, _, none⟩) hb] at t0 t1 t2 t3 t4
  have l3 := obj_cell P2.out 3
  have k0 := obj_cell T2.out 0
  have k1 := obj_cell T2.out 1
  have k2 := obj_cell T2.out 2
  have k3 := obj_cell T2.out 3
  have k4 := obj_cell T2.out 4
  have m0 := obj_free T2.out 0
  have m1 := obj_free T2.out 1
  have m2 := obj_free T2.out 2
  have m3 := obj_free T2.out 3
  have m4 := obj_free T2.out 4
  simp at l3 k0 k1 k2 k3 k4
  have z1 := obj_lt P2.out
  have z2 := obj_lt T2.out
  have zb : b < w2.heap.size := by have := B2.out.size; omega
  clear hb2
  go_wp2_with fail
  refine bodyPost_ret (v := .tuple #[t.v (.slice av m cv), .int .i64 0]) (by simp [results, Try.results14, go_sem, k0, k1, k2, k3, k4, m0, m1, m2, m3, m4, z2]) rfl ⟨⟨_, rfl, HV.out⟩, ?_⟩
  have h := B2.out
  (repeat (first | with_reducible exact Below.refl _ _ | with_reducible assumption | ((with_reducible refine Below.setCell ?_ ?_ _); rotate_left; focus (first | exact Nat.le_refl _ | omega | exact Below.size (by assumption) | (simp; done) | (simp; omega))) | ((with_reducible refine Below.alloc ?_ ?_ _); rotate_left; focus (first | exact Nat.le_refl _ | omega | exact Below.size (by assumption) | (simp; done) | (simp; omega))) | (with_reducible refine Below.drew ?_) | (with_reducible refine drewN_ ?_ _)))
set_option maxRecDepth 100000 in
set_option maxHeartbeats 4000000 in
theorem stopsF_any (S : Scn) (v1 v2 v3 v4 v5 : Value) (i : Nat) (w : World) (hS : ScnAt w.heap.size w v1 v2 v3 v4 v5 S) (hF : Fit S) (hW : wayErr S = 0) (hi : i < S.trips.length) :
    Calls Try.prog 7 #[S.v v1 v2 v3 v4 v5, .int .i64 i] w fun e w' => (∃ L v, stopsS S S.trips[i]! = .ok L ∧ e = .returned (.tuple #[v, .int .i64 0]) ∧ Ow w.heap.size w' 51 2 v (L.map Stp.cs) ∧ L.length ≤ 256) ∧ Below w.heap.size w w' := by
  have HS := Lib.hid hS
  have HF := Lib.hid hF
  have HW := Lib.hid hW
  have HK := Lib.hid (netOK_of hF.net)
  have HI := Lib.hid hi
  have hfit := tripFit_of (hF.trips i hi)
  have hok := wayErrT_zero _ (wayErr_zero hW) S.trips[i]! (by rw [getElem!_pos S.trips i hi]; exact List.getElem_mem hi)
  obtain ⟨t, ht⟩ : ∃ t, t = S.trips[i]! := ⟨_, rfl⟩
  rw [← ht] at hfit hok ⊢
  have HTT := Lib.hid ht
  have HFIT := Lib.hid hfit
  have HOK := Lib.hid hok
  clear hS hF hW hi ht hfit hok
  have P0 := Lib.hid (obj_last w (.cells #[v1, v2, .int .i64 S.gap, v3, v4, v5] 40))
  go_enter Try.func7, Try.ntmps7
  go_wp2_with fail
  refine (trip_any S v1 v2 v3 v4 v5 i _ (HS.out.later (by (repeat (first | with_reducible exact Below.refl _ _ | with_reducible assumption | ((with_reducible refine Below.setCell ?_ ?_ _); rotate_left; focus (first | exact Nat.le_refl _ | omega | exact Below.size (by assumption) | (simp; done) | (simp; omega))) | ((with_reducible refine Below.alloc ?_ ?_ _); rotate_left; focus (first | exact Nat.le_refl _ | omega | exact Below.size (by assumption) | (simp; done) | (simp; omega))) | (with_reducible refine Below.drew ?_) | (with_reducible refine drewN_ ?_ _))))) HF.out HW.out HI.out).mono ?_
  rintro e w2 ⟨⟨v, rfl, hV⟩, hb2⟩
  rw [← HTT.out] at hV ⊢
  obtain ⟨av, m, cv, rfl, _, _, _⟩ := hV.open
  have P2 := Lib.hid (keepObj hb2 P0.out)
  have HV := Lib.hid ((hV.keep hb2 (Nat.le_refl _)).mono hb2.size)
  have B2 := Lib.hid (from_ (w := w) hb2 (by (repeat (first | with_reducible exact Below.refl _ _ | with_reducible assumption | ((with_reducible refine Below.setCell ?_ ?_ _); rotate_left; focus (first | exact Nat.le_refl _ | omega | exact Below.size (by assumption) | (simp; done) | (simp; omega))) | ((with_reducible refine Below.alloc ?_ ?_ _); rotate_left; focus (first | exact Nat.le_refl _ | omega | exact Below.size (by assumption) | (simp; done) | (simp; omega))) | (with_reducible refine Below.drew ?_) | (with_reducible refine drewN_ ?_ _)))))
  have l0 := obj_cell P2.out 0
  have l1 := obj_cell P2.out 1
  have l2 := obj_cell P2.out 2
  have l3 := obj_cell P2.out 3
  have l4 := obj_cell P2.out 4
  have l5 := obj_cell P2.out 5
  simp at l0 l1 l2 l3 l4 l5
  have z1 := obj_lt P2.out
  clear hb2 hV
  go_wp2_with fail
  refine (stopsW_any S t v1 v2 v3 v4 v5 _ _ ((HS.out.net.keep B2.out (Nat.le_refl _)).mono B2.out.size |>.later (by (repeat (first | with_reducible exact Below.refl _ _ | with_reducible assumption | ((with_reducible refine Below.setCell ?_ ?_ _); rotate_left; focus (first | exact Nat.le_refl _ | omega | exact Below.size (by assumption) | (simp; done) | (simp; omega))) | ((with_reducible refine Below.alloc ?_ ?_ _); rotate_left; focus (first | exact Nat.le_refl _ | omega | exact Below.size (by assumption) | (simp; done) | (simp; omega))) | (with_reducible refine Below.drew ?_) | (with_reducible refine drewN_ ?_ _))))) (HV.out.later (by (repeat (first | with_reducible exact Below.refl _ _ | with_reducible assumption | ((with_reducible refine Below.setCell ?_ ?_ _); rotate_left; focus (first | exact Nat.le_refl _ | omega | exact Below.size (by assumption) | (simp; done) | (simp; omega))) | ((with_reducible refine Below.alloc ?_ ?_ _); rotate_left; focus (first | exact Nat.le_refl _ | omega | exact Below.size (by assumption) | (simp; done) | (simp; omega))) | (with_reducible refine Below.drew ?_) | (with_reducible refine drewN_ ?_ _))))) HFIT.out.vis HK.out HF.out.few HF.out.gap HFIT.out.speed HFIT.out.start HFIT.out.few HFIT.out.wait).mono ?_
  rintro e w3 ⟨hR, hb3⟩
  have B3 := Lib.hid (from_ (w := w) hb3 (by have h := B2.out; (repeat (first | with_reducible exact Below.refl _ _ | with_reducible assumption | ((with_reducible refine Below.setCell ?_ ?_ _); rotate_left; focus (first | exact Nat.le_refl _ | omega | exact Below.size (by assumption) | (simp; done) | (simp; omega))) | ((with_reducible refine Below.alloc ?_ ?_ _); rotate_left; focus (first | exact Nat.le_refl _ | omega | exact Below.size (by assumption) | (simp; done) | (simp; omega))) | (with_reducible refine Below.drew ?_) | (with_reducible refine drewN_ ?_ _)))))
  obtain ⟨L, hL, _⟩ := HOK.out
  rw [hL] at hR
  obtain ⟨v, rfl, hO, hlen⟩ := hR
  have HO := Lib.hid (hO.mono (B' := w.heap.size) (by have := B2.out.size; first | (simp; omega) | omega))
  have HL := Lib.hid hL
  have HLEN := Lib.hid hlen
  clear hb3 hL hO hlen l0 l1 l2 l3 l4 l5
  go_wp2_with fail
  go_ret2
  exact ⟨⟨L, v, HL.out, rfl, HO.out, HLEN.out⟩, B3.out⟩
end Go.Proofs.Ythkhgfdjdpfoiaa
namespace Go.Proofs.Ythkhgfdjdpfoiaa
open Go Go.RowKit Go.Vi
/-- The walk's memory from the world W on, in which the rows lay in the blocks ro and rl. -/
structure WM (B : Nat) (W0 W : World) (ro rl : Option Nat) (vo vl : Value) (L : List Stp) (G : List LegD) (wx : World) : Prop where
  mem : WMem B W0 vo vl L G wx
  size : W.heap.size ≤ wx.heap.size
  block : ∀ b, b < W.heap.size → some b ≠ ro → some b ≠ rl → wx.heap[b]? = W.heap[b]?
  atO : vo.ownBlock = ro ∨ ∀ g, vo.ownBlock = some g → W.heap.size ≤ g
  atL : vl.ownBlock = rl ∨ ∀ g, vl.ownBlock = some g → W.heap.size ≤ g
  tyO : ∀ b cs T fr, ro = some b → W.heap[b]? = some (.cells cs T fr) → T = 51
  tyL : ∀ b cs T fr, rl = some b → W.heap[b]? = some (.cells cs T fr) → T = 135
section
variable {B : Nat} {W0 W wx w' : World} {ro rl : Option Nat} {vo vl : Value} {L : List Stp} {G : List LegD}
theorem WM.start (h : WMem B W0 vo vl L G W) : WM B W0 W vo.ownBlock vl.ownBlock vo vl L G W :=
  ⟨h, Nat.le_refl _, fun _ _ _ _ => rfl, .inl rfl, .inl rfl, fun b cs T fr hb hc => h.out.type b hb cs T fr hc, fun b cs T fr hb hc => h.leg.type b hb cs T fr hc⟩
theorem WM.keep (h : WM B W0 W ro rl vo vl L G wx) (hb : Below wx.heap.size wx w') : WM B W0 W ro rl vo vl L G w' :=
  ⟨h.mem.keep hb, Nat.le_trans h.size hb.size, fun b h1 h2 h3 => (hb.block b (Nat.lt_of_lt_of_le h1 h.size)).trans (h.block b h1 h2 h3), h.atO, h.atL, h.tyO, h.tyL⟩
theorem WM.obj (h : WM B W0 W ro rl vo vl L G wx) {b : Nat} {cs : Array Value} {T : TypeId} {fr : Nat × Nat} (hb : W.heap[b]? = some (.cells cs T fr)) (h1 : T ≠ 51) (h2 : T ≠ 135) : wx.heap[b]? = some (.cells cs T fr) := by
  rw [h.block b (obj_lt hb) (fun e => h1 (h.tyO b cs T fr e.symm hb)) (fun e => h2 (h.tyL b cs T fr e.symm hb))]
  exact hb
theorem WM.add (h : WM B W0 W ro rl vo vl L G wx) {x : Stp} {n g cap : Nat} (hn : n = L.length) (hg : wx.grownBy w' vo.ownBlock) (ho : w'.ownsRow B 51 2 (.slice (some ⟨g, 0, none⟩) (n + 1) cap) (n + 1) ((L.map Stp.cs).flatten ++ x.cs)) (hat : vo.ownBlock = some g ∨ wx.heap.size ≤ g) : WM B W0 W ro rl (.slice (some ⟨g, 0, none⟩) (n + 1) cap) vl (L ++ [x]) G w' := by
  refine ⟨h.mem.add hn hg ho, Nat.le_trans h.size hg.size, fun b h1 h2 h3 => ?_, ?_, h.atL, h.tyO, h.tyL⟩
  · rw [hg.block b (Nat.lt_of_lt_of_le h1 h.size) (fun e => ?_)]
    · exact h.block b h1 h2 h3
    · rcases h.atO with q | q
      · exact h2 (e.trans q)
      · have := q b e.symm; omega
  · show some g = ro ∨ ∀ g', some g = some g' → W.heap.size ≤ g'
    rcases hat with e | e
    · rw [← e]
      rcases h.atO with q | q
      · exact .inl q
      · exact .inr fun g' hg' => q g' hg'
    · refine .inr fun g' hg' => ?_
      injection hg' with hg'
      have := h.size; omega
theorem WM.addLeg (h : WM B W0 W ro rl vo vl L G wx) {x : LegD} {n g cap : Nat} (hn : n = G.length) (hg : wx.grownBy w' vl.ownBlock) (ho : w'.ownsRow B 135 17 (.slice (some ⟨g, 0, none⟩) (n + 1) cap) (n + 1) ((G.map LegD.cs).flatten ++ x.cs)) (hat : vl.ownBlock = some g ∨ wx.heap.size ≤ g) : WM B W0 W ro rl vo (.slice (some ⟨g, 0, none⟩) (n + 1) cap) L (G ++ [x]) w' := by
  refine ⟨h.mem.addLeg hn hg ho, Nat.le_trans h.size hg.size, fun b h1 h2 h3 => ?_, h.atO, ?_, h.tyO, h.tyL⟩
  · rw [hg.block b (Nat.lt_of_lt_of_le h1 h.size) (fun e => ?_)]
    · exact h.block b h1 h2 h3
    · rcases h.atL with q | q
      · exact h3 (e.trans q)
      · have := q b e.symm; omega
  · show some g = rl ∨ ∀ g', some g = some g' → W.heap.size ≤ g'
    rcases hat with e | e
    · rw [← e]
      rcases h.atL with q | q
      · exact .inl q
      · exact .inr fun g' hg' => q g' hg'
    · refine .inr fun g' hg' => ?_
      injection hg' with hg'
      have := h.size; omega
end
/-- What the model's walk hands back. -/
def WalkRes (r : Except Int (List Stp)) (B : Nat) (e : Ending) (w' : World) : Prop := match r with
  | .error c => c ≠ 0 ∧ e = .returned (.tuple #[.slice none 0 0, .slice none 0 0, .int .i64 c])
  | .ok L => ∃ vo vl, e = .returned (.tuple #[vo, vl, .int .i64 0]) ∧ Ow B w' 51 2 vo (L.map Stp.cs)
/-- Whether a list has come over the limit. -/
def over (L : List Stp) : Int := if 256 < L.length then 3 else 0
theorem DriveOut.shape {S : Scn} {speed a b : Int} {B : Nat} {e : Ending} {w' : World} (h : DriveOut S speed a b B e w') : ∃ va vb, e = .returned (.tuple #[va, vb]) := by
  rcases h with ⟨c, _, _, h⟩ | ⟨R, len, v, _, _, _, _, h, _⟩
  · exact ⟨_, _, h⟩
  · exact ⟨_, _, h⟩
/-- The waits, part of which are in the list. -/
theorem waits_out {gap node fin : Int} (hg : 1 ≤ gap) {k : Nat} {now : Int} {L L' : List Stp} (hf : fin - now ≤ k) {now' : Int} (h : L' ++ waits gap node k now' fin = L ++ waits gap node k now fin) (hx : ¬now' < fin ∨ 256 < L'.length) (hlen : L'.length ≤ max L.length 257) : Waited L (waits gap node k now fin) L' := by
  have hl := congrArg List.length h
  simp only [List.length_append] at hl
  rcases hx with hx | hx
  · rw [waits_none hx, List.append_nil] at h
    rw [waits_none hx] at hl
    simp only [List.length_nil] at hl
    exact ⟨fun _ => h, fun _ => by omega, by omega⟩
  · exact ⟨fun h1 => by omega, fun _ => hx, by omega⟩
theorem Ow.moved {B : Nat} {w wx : World} {e k : Nat} {v : Value} {R : List (List Value)} (h : Ow B w e k v R) (hk : ∀ (b : Nat) (cs : Array Value) (fr : Nat × Nat), w.heap[b]? = some (Obj.cells cs e fr) → wx.heap[b]? = some (Obj.cells cs e fr)) : Ow B wx e k v R := by
  refine ⟨⟨h.1.1, ?_⟩, h.2⟩
  rcases h.1.2 with g | ⟨g, cap, cur, h1, h2, h3, h4⟩
  · exact .inl g
  · exact .inr ⟨g, cap, cur, h1, h2, hk _ _ _ h3, h4⟩
theorem hpmL_at (S : Scn) (speed a : Int) (R : List Hp) {n k : Nat} (hk : k < n) : (hpmL S speed a R n)[k]! = hpmOf S speed a R k := by
  rw [getElem!_pos _ k (by rw [hpmL_len]; exact hk)]
  simp [hpmL]
theorem iLeg : (Try.prog.info? 135).map (fun i => (i.zero, i.size, i.bytes)) = some (some leg0.v, 17, 200) := by kernel_rfl
/-- The cells of a row of hops. -/
theorem hop_cells {B n cap : Nat} {w : World} {a : Option Addr} {H : List Hpm} (h : Ow B w 138 4 (.slice a n cap) (H.map Hpm.cs)) (k : Nat) (hk : k < H.length) : ∃ b off, a = some ⟨b, off, none⟩ ∧ b < w.heap.size ∧ w.cell? ⟨b, off + k * 4, none⟩ = some (.int .i64 H[k]!.road) ∧ w.cell? ⟨b, off + k * 4 + 1, none⟩ = some (.int .i64 H[k]!.src) ∧ w.cell? ⟨b, off + k * 4 + 2, none⟩ = some (.int .i64 H[k]!.dst) ∧ w.cell? ⟨b, off + k * 4 + 3, none⟩ = some (.int .i64 H[k]!.time) := by
  obtain ⟨b, off, h1, h2, h3⟩ := h.sl.cells k hk
  exact ⟨b, off, h1, h2, h3 k hk 0 _ rfl, h3 k hk 1 _ rfl, h3 k hk 2 _ rfl, h3 k hk 3 _ rfl⟩
end Go.Proofs.Ythkhgfdjdpfoiaa
