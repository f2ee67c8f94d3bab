/-
  simulate's drive with the closure of stops.
  Memory while a drive yields, and the plain laws of its rounds.
-/
import Derived.Test.YthkhgfdjdpfoiaaYieldS
import Derived.Test.YthkhgfdjdpfoiaaTripS
set_option linter.unusedSimpArgs false
set_option linter.unusedVariables false
namespace Go.Proofs.Ythkhgfdjdpfoiaa
open Go Go.RowKit Go.Vi
/-- FindRoute where there is a route, and where there is none. -/
theorem findRoute_ok (n : Net) (a b : Int) (v1 v2 : Value) (w : World) (hN : NetAt w.heap.size w v1 v2 n) (hK : NetOK n) (hsz : n.roads.length ≤ 100) {R : List Hp} {l : Int} (hR : IsRoute n a b R l) :
    Calls Try.prog 48 #[.agg #[v1, v2], .int .i64 a, .int .i64 b] w fun e w' => (∃ vn vr, e = .returned (.tuple #[.agg #[vn, vr, .int .i64 l], .int .i64 0]) ∧ Ow w.heap.size w' 3 1 vn ((a :: R.map Hp.dst).map i1) ∧ Ow w.heap.size w' 3 1 vr ((R.map Hp.road).map i1)) ∧ Below w.heap.size w w' := by
  refine (findRoute_any n a b v1 v2 w hN hK hsz).mono ?_
  rintro e w' ⟨h | ⟨c, _, _, hno⟩, hb⟩
  · obtain ⟨R', l', vn, vr, he, hR', _, _, h1, h2⟩ := h
    obtain ⟨e1, e2⟩ := hR'.unique hR
    subst e1; subst e2
    exact ⟨⟨vn, vr, he, h1, h2⟩, hb⟩
  · exact absurd hR (hno _ _)
theorem findRoute_no (n : Net) (a b : Int) (v1 v2 : Value) (w : World) (hN : NetAt w.heap.size w v1 v2 n) (hK : NetOK n) (hsz : n.roads.length ≤ 100) (hR : ∀ R l, ¬IsRoute n a b R l) :
    Calls Try.prog 48 #[.agg #[v1, v2], .int .i64 a, .int .i64 b] w fun e w' => (∃ c : Int, e = .returned (.tuple #[.agg #[.slice none 0 0, .slice none 0 0, .int .i64 0], .int .i64 c]) ∧ (c != 0) = true) ∧ Below w.heap.size w w' := by
  refine (findRoute_any n a b v1 v2 w hN hK hsz).mono ?_
  rintro e w' ⟨h | ⟨c, he, hc, _⟩, hb⟩
  · obtain ⟨R', l', vn, vr, he, hR', _⟩ := h
    exact absurd hR' (hR _ _)
  · exact ⟨⟨c, he, by simpa using hc⟩, hb⟩
/-- The hops of a route as a drive counts them. -/
def hopsT (S : Scn) (speed : Int) (R : List Hp) : List (Int × Int) := R.map fun h => (h.dst, hopTime S.net speed h.road)
def Full (L0 W L : List Stp) : Prop := (L0.length + W.length ≤ 256 → L = L0 ++ W) ∧ (256 < L0.length + W.length → 256 < L.length)
theorem Full.nil (L0 : List Stp) : Full L0 [] L0 := ⟨fun _ => by simp, fun h => by simpa using h⟩
theorem Full.wait {L0 W L W2 L2 : List Stp} (h : Full L0 W L) (h2 : Waited L W2 L2) (hL : 256 < L.length → 256 < L2.length) : Full L0 (W ++ W2) L2 := by
  constructor
  · intro hl
    simp at hl
    have e := h.1 (by omega)
    have e2 := h2.1 (by rw [e]; simp; omega)
    rw [e2, e]; simp
  · intro hl
    simp at hl
    by_cases hc : 256 < L0.length + W.length
    · exact hL (h.2 hc)
    · have e := h.1 (by omega)
      exact h2.2.1 (by rw [e]; simp; omega)
theorem Full.one {L0 W L : List Stp} (h : Full L0 W L) (x : Stp) : Full L0 (W ++ [x]) (L ++ [x]) := by
  constructor
  · intro hl
    simp at hl
    rw [h.1 (by omega)]; simp
  · intro hl
    simp at hl
    by_cases hc : 256 < L0.length + W.length
    · have := h.2 hc; simp; omega
    · rw [h.1 (by omega)]; simp; omega
theorem moves_take (l : List (Int × Int)) (now : Int) {k : Nat} (hk : k < l.length) : moves now (l.take (k + 1)) = moves now (l.take k) ++ [⟨gone now (l.take k) + l[k].2, l[k].1⟩] ∧ gone now (l.take (k + 1)) = gone now (l.take k) + l[k].2 := by
  rw [List.take_succ_eq_append_getElem hk, moves_append, gone_append]
  exact ⟨rfl, rfl⟩
theorem gone_le (l : List (Int × Int)) (g : Int) (h : ∀ p ∈ l, 1 ≤ p.2 ∧ p.2 ≤ g) : ∀ now, now ≤ gone now l ∧ gone now l ≤ now + l.length * g := by
  induction l with
  | nil => intro now; simp [gone]
  | cons p l ih =>
    intro now
    obtain ⟨d, t⟩ := p
    have h1 := h (d, t) List.mem_cons_self
    have h2 := ih (fun q hq => h q (List.mem_cons_of_mem _ hq)) (now + t)
    simp only [gone, List.length_cons]
    rw [show ((l.length + 1 : Nat) : Int) * g = l.length * g + g from by rw [Int.natCast_add, Int.add_mul]; simp]
    simp at h1
    omega
end Go.Proofs.Ythkhgfdjdpfoiaa
namespace Go.Proofs.Ythkhgfdjdpfoiaa
open Go Go.RowKit Go.Vi
/-- Memory while a drive yields: W0 is the world behind the drive's own boxes. -/
structure DM (C : Nat) (W0 : World) (bo : Nat) (v0 v : Value) (L : List Stp) (wx : World) : Prop where
  qf : QF W0 wx bo v0.ownBlock
  oat : OAt wx C bo v L
  own : v.ownBlock = v0.ownBlock ∨ ∀ g, v.ownBlock = some g → W0.heap.size ≤ g
section
variable {C bo : Nat} {W0 W1 wx w' : World} {v0 v v' : Value} {L L' : List Stp}
theorem DM.keep (h : DM C W0 bo v0 v L wx) (hb : Below wx.heap.size wx w') : DM C W0 bo v0 v L w' :=
  ⟨h.qf.trans (below_qf hb bo v0.ownBlock) (.inl rfl), h.oat.keep hb, h.own⟩
theorem DM.yield (h : DM C W0 bo v0 v L wx) (hO : OAt w' C bo v' L') (hF : QF wx w' bo v.ownBlock) (hw : v'.ownBlock = v.ownBlock ∨ ∀ g, v'.ownBlock = some g → wx.heap.size ≤ g) : DM C W0 bo v0 v' L' w' := by
  refine ⟨h.qf.trans hF h.own, hO, ?_⟩
  have hz := h.qf.size
  rcases hw with e | e
  · rw [e]; exact h.own
  · exact .inr fun g hg => Nat.le_trans hz (e g hg)
theorem DM.trans (h : DM C W0 bo v0 v L W1) (h2 : DM C W1 bo v v' L' wx) : DM C W0 bo v0 v' L' wx := by
  refine ⟨h.qf.trans h2.qf h.own, h2.oat, ?_⟩
  rcases h2.own with e | e
  · rw [e]; exact h.own
  · exact .inr fun g hg => Nat.le_trans h.qf.size (e g hg)
theorem DM.block (h : DM C W0 bo v0 v L wx) {b : Nat} {o : Obj} (ho : W0.heap[b]? = some o) (h1 : b ≠ bo) (h2 : ∀ g, v0.ownBlock = some g → g ≠ b) : wx.heap[b]? = some o := by
  rw [h.qf.block b (obj_lt ho) h1 (fun e => h2 b e.symm rfl)]; exact ho
theorem DM.low (h : DM C W0 bo v0 v L wx) {w : World} (hb : Below C w W0) (hz : C ≤ W0.heap.size) (hq : C ≤ bo) (hr : ∀ g, v0.ownBlock = some g → C ≤ g) : Below C w wx := QF.below hb h.qf hz hq hr
/-- The row of a drive, apart from a block of the beginning. -/
theorem DM.off (h : DM C W0 bo v0 v L wx) {b : Nat} (hb : b < W0.heap.size) (h2 : ∀ g, v0.ownBlock = some g → g ≠ b) : ∀ g, v.ownBlock = some g → g ≠ b := by
  intro g hg
  rcases h.own with e | e
  · rw [e] at hg; exact h2 g hg
  · have := e g hg; omega
end
/-- What a drive hands back, and what it leaves. -/
def DriveRes (r : Except Int (List Stp)) (C bo : Nat) (v0 : Value) (L0 : List Stp) (w : World) (e : Ending) (w' : World) : Prop :=
  ∃ c : Int, e = .returned (.int .i64 c) ∧ QF w w' bo v0.ownBlock ∧ match r with
    | .error c' => c = c' ∧ c' ≠ 0
    | .ok rest => c = 0 ∧ ∃ v' L', Full L0 rest L' ∧ OAt w' C bo v' L' ∧ L'.length ≤ 10000
/-- The rest of a tour: what a round does to it. -/
abbrev TourAt (S : Scn) (speed : Int) (p : Option Int) (now : Int) (x : Vis) (vs : List Vis) (i : Nat) : Prop :=
  tour S speed p now (vs.drop i) = match driveIf S speed p x.node with
    | .error e => .error e
    | .ok m => cont (tour S speed (some x.node) (gone now m + x.wait) (vs.drop (i + 1))) (moves now m ++ waits S.gap x.node x.wait.toNat (gone now m) (gone now m + x.wait))
theorem tour_next {S : Scn} {speed now : Int} {vs : List Vis} {i : Nat} {p : Option Int} {x : Vis} {Pre : List Stp} {l : List (Int × Int)} {T : Except Int (List Stp)} (hT : T = cont (tour S speed p now (vs.drop i)) Pre) (ha : TourAt S speed p now x vs i) (hx : x = vs[i]!) (hd : driveIf S speed p x.node = .ok l) :
    T = cont (tour S speed (prevOf vs (i + 1)) (gone now l + x.wait) (vs.drop (i + 1))) ((Pre ++ moves now l) ++ waits S.gap x.node x.wait.toNat (gone now l) (gone now l + x.wait)) := by
  unfold TourAt at ha
  rw [hT, ha, hd]
  show cont (cont _ _) Pre = _
  rw [cont_cont, List.append_assoc, hx]
  rfl
theorem tour_fail {S : Scn} {speed now : Int} {vs : List Vis} {i : Nat} {p : Option Int} {x : Vis} {Pre : List Stp} {c : Int} {T : Except Int (List Stp)} (hT : T = cont (tour S speed p now (vs.drop i)) Pre) (ha : TourAt S speed p now x vs i) (hd : driveIf S speed p x.node = .error c) : T = .error c := by
  unfold TourAt at ha
  rw [hT, ha, hd]
  rfl
/-- The hops of a route, part of which is driven. -/
theorem hopsT_len (S : Scn) (speed : Int) (R : List Hp) : (hopsT S speed R).length = R.length := by simp [hopsT]
theorem hopsT_at (S : Scn) (speed : Int) (R : List Hp) {k : Nat} (hk : k < R.length) : (hopsT S speed R)[k]'(by rw [hopsT_len]; exact hk) = (R[k]!.dst, hopTime S.net speed R[k]!.road) := by
  simp [hopsT, getElem!_pos R k hk]
theorem moves_step (S : Scn) (speed now : Int) (R : List Hp) {k : Nat} (hk : k < R.length) :
    moves now ((hopsT S speed R).take (k + 1)) = moves now ((hopsT S speed R).take k) ++ [⟨gone now ((hopsT S speed R).take k) + hopTime S.net speed R[k]!.road, R[k]!.dst⟩] ∧ gone now ((hopsT S speed R).take (k + 1)) = gone now ((hopsT S speed R).take k) + hopTime S.net speed R[k]!.road := by
  have h := moves_take (hopsT S speed R) now (k := k) (by rw [hopsT_len]; exact hk)
  rw [hopsT_at S speed R hk] at h
  exact h
theorem moves_all (S : Scn) (speed : Int) (R : List Hp) : (hopsT S speed R).take R.length = hopsT S speed R := List.take_of_length_le (by rw [hopsT_len]; exact Nat.le_refl _)
theorem drive_ok {S : Scn} {speed a b l : Int} {R : List Hp} (hR : IsRoute S.net a b R l) (hg : ∀ j, j < R.length → hopTime S.net speed R[j]!.road ≤ S.gap) : driveTo S speed a b = .ok (hopsT S speed R) := by
  unfold driveTo
  rw [routeOf_some hR]
  refine if_neg ?_
  rintro ⟨h, hh, hlt⟩
  obtain ⟨i, hi, rfl⟩ := List.getElem_of_mem hh
  have := hg i hi
  rw [getElem!_pos R i hi] at this
  omega
theorem drive_late {S : Scn} {speed a b l : Int} {R : List Hp} (hR : IsRoute S.net a b R l) {k : Nat} (hk : k < R.length) (hg : S.gap < hopTime S.net speed R[k]!.road) : driveTo S speed a b = .error 25 := by
  unfold driveTo
  rw [routeOf_some hR]
  exact if_pos ⟨R[k]!, by rw [getElem!_pos R k hk]; exact List.getElem_mem hk, hg⟩
theorem drive_none {S : Scn} {speed a b : Int} (h : ¬∃ R l, IsRoute S.net a b R l) : driveTo S speed a b = .error 31 := by
  unfold driveTo
  rw [routeOf_none (fun R l hr => h ⟨R, l, hr⟩)]
/-- An owned row of numbers: its cells. -/
theorem int_own {B n cap : Nat} {w : World} {a : Option Addr} {L : List Int} (h : Ow B w 3 1 (.slice a n cap) (L.map i1)) (i : Nat) (hi : i < L.length) : ∃ g, a = some ⟨g, 0, none⟩ ∧ B ≤ g ∧ g < w.heap.size ∧ ∀ j, j < L.length → w.cell? ⟨g, j, none⟩ = some (.int .i64 L[j]!) := by
  rcases h.shape with ⟨_, e⟩ | ⟨g, c, e, h1, h2, _⟩
  · rw [List.map_eq_nil_iff] at e; rw [e] at hi; simp at hi
  · injection e with e1 e2 e3
    subst e1
    refine ⟨g, rfl, h1, h2, fun j hj => ?_⟩
    have := h.cell j (by rw [List.length_map]; exact hj) 0 (by omega)
    rw [Nat.mul_one, Nat.add_zero] at this
    rw [this, List.getElem_map, getElem!_pos L j hj]
    rfl
theorem roadOf_id {l : List Rd} {id : Int} {r : Rd} (h : roadOf l id = some r) : r.id = id := by
  have := List.find?_some h
  simpa using this
theorem cell_blk {w w' : World} {b : Nat} (h : w'.heap[b]? = w.heap[b]?) (o : Nat) : w'.cell? ⟨b, o, none⟩ = w.cell? ⟨b, o, none⟩ := by simp [World.cell?, h]
theorem obj_set3 {w : World} {b : Nat} {T : TypeId} {fr : Nat × Nat} {c0 c1 c2 v0 v1 v2 : Value} (h : w.heap[b]? = some (.cells #[c0, c1, c2] T fr)) : (((w.setCell ⟨b, 0, none⟩ v0).setCell ⟨b, 1, none⟩ v1).setCell ⟨b, 2, none⟩ v2).heap[b]? = some (.cells #[v0, v1, v2] T fr) := by
  rw [obj_set (obj_set (obj_set h))]
  simp
theorem own_set3 {B B' b e k : Nat} {w : World} {v u0 u1 u2 : Value} {R : List (List Value)} (h : Ow B w e k v R) (hb : b < B) (hB : B' ≤ B) : Ow B' (((w.setCell ⟨b, 0, none⟩ u0).setCell ⟨b, 1, none⟩ u1).setCell ⟨b, 2, none⟩ u2) e k v R := by
  have hne : v.ownBlock ≠ some b := fun h1 => by have := (h.blk _ h1).1; omega
  exact (((h.keepSet ⟨b, 0, none⟩ hne u0).keepSet ⟨b, 1, none⟩ hne u1).keepSet ⟨b, 2, none⟩ hne u2).mono hB
theorem own_alloc {B B' e k : Nat} {w : World} {v : Value} {R : List (List Value)} {o : Obj} (h : Ow B w e k v R) (hB : B' ≤ B) : Ow B' (w.alloc o) e k v R := (h.keep ((Below.refl w.heap.size w).alloc (Nat.le_refl _) o)).mono hB
end Go.Proofs.Ythkhgfdjdpfoiaa
