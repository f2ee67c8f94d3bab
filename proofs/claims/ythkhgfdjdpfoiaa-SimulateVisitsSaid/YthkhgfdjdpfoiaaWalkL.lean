/-
  The model's walk of a trip: the plain laws.
-/
import Derived.Test.YthkhgfdjdpfoiaaHopsM
set_option linter.unusedSimpArgs false
set_option linter.unusedVariables false
namespace Go.Proofs.Ythkhgfdjdpfoiaa
open Go Go.RowKit Go.Vi
theorem way_desc {A : Int → List Hp} {left : Int → Int → Prop} (hl : ∀ x d d', left x d → left x d' → d = d') (hA : ∀ u, ∀ g ∈ A u, 1 ≤ g.len) {a b : Int} {R : List Hp} (h : Way A left b a R) : ∀ d, left a d → (∀ x ∈ R, ∃ r, left x.dst r ∧ r < d) ∧ (R.map Hp.dst).Nodup := by
  induction h with
  | done => intro d _; exact ⟨(fun x hx => nomatch hx), List.nodup_nil⟩
  | @step a R i hne hi hk hf hw ih =>
    intro d hd
    obtain ⟨r, d', h1, h2, h3⟩ := hk
    have e := hl _ _ _ hd h2
    subst e
    have hlen := hA a _ (List.getElem_mem hi)
    obtain ⟨g1, g2⟩ := ih r h1
    refine ⟨fun x hx => ?_, ?_⟩
    · rcases List.mem_cons.1 hx with rfl | hx
      · exact ⟨r, h1, by omega⟩
      · obtain ⟨q, hq, hlt⟩ := g1 x hx
        exact ⟨q, hq, by omega⟩
    · rw [List.map_cons, List.nodup_cons]
      refine ⟨fun hm => ?_, g2⟩
      obtain ⟨x, hx, e⟩ := List.mem_map.1 hm
      obtain ⟨q, hq, hlt⟩ := g1 x hx
      rw [e] at hq
      have := hl _ _ _ hq h1
      omega
theorem route_few {n : Net} {a b l : Int} {R : List Hp} (h : IsRoute n a b R l) (hK : NetOK n) (hsz : n.roads.length ≤ 100) : R.length ≤ 200 := by
  obtain ⟨_, _, A, B, hA, _, hB, hw⟩ := h
  have hn := (way_desc (left := Least B b) (fun x d d' h1 h2 => Least.unique h1 h2) (fun u g hg => (hK.hop hA u g hg).1) hw l hB).2
  have hm : ∀ x ∈ R.map Hp.dst, x ∈ endsOf n.roads := by
    intro x hx
    obtain ⟨g, hg, rfl⟩ := List.mem_map.1 hx
    obtain ⟨u, hu⟩ := hw.mem g hg
    obtain ⟨r, hr, _, _, h1 | h1⟩ := hop_road hA hu
    · rw [h1.2]; exact List.mem_append_right _ (List.mem_map.2 ⟨r, hr, rfl⟩)
    · rw [h1.2]; exact List.mem_append_left _ (List.mem_map.2 ⟨r, hr, rfl⟩)
  have := nodup_len hn hm
  simp [endsOf] at this
  omega
/-- The hops' times. -/
theorem hop_time {S : Scn} (hK : NetOK S.net) {speed a b l : Int} {R : List Hp} (h : IsRoute S.net a b R l) (hs : 1 ≤ speed ∧ speed ≤ 1048576) : ∀ x ∈ R, 1 ≤ hopTime S.net speed x.road := by
  intro x hx
  obtain ⟨r, hr, h1, _⟩ := route_rd h hK x hx
  have hz := roadErr_zero (hK.road r hr).2
  unfold hopTime
  rw [h1]
  exact (tdiv_time r.len (min speed r.lim) hz.2.1.1 (by have := hz.1.1; omega)).1
/-- A tour, part of which is done. -/
def cont (r : Except Int (List Stp)) (L : List Stp) : Except Int (List Stp) := match r with
  | .error c => .error c
  | .ok rest => .ok (L ++ rest)
theorem cont_nil (r : Except Int (List Stp)) : cont r [] = r := by cases r <;> rfl
theorem cont_cont (r : Except Int (List Stp)) (L L' : List Stp) : cont (cont r L') L = cont r (L ++ L') := by cases r <;> simp [cont]
theorem tour_at {S : Scn} {speed : Int} {l : List Vis} {k : Nat} (h : k < l.length) (p : Option Int) (now : Int) : tour S speed p now (l.drop k) = match driveIf S speed p l[k]!.node with
    | .error e => .error e
    | .ok m => cont (tour S speed (some l[k]!.node) (gone now m + l[k]!.wait) (l.drop (k + 1))) (moves now m ++ waits S.gap l[k]!.node l[k]!.wait.toNat (gone now m) (gone now m + l[k]!.wait)) := by
  rw [List.drop_eq_getElem_cons h, getElem!_pos l k h]
  conv => lhs; unfold tour
  cases driveIf S speed p l[k].node with
  | error e => rfl
  | ok m =>
    simp only [cont]
    cases tour S speed (some l[k].node) (gone now m + l[k].wait) (l.drop (k + 1)) <;> rfl
/-- One stop of waiting. -/
theorem waits_step {gap node now fin : Int} {k : Nat} (h : now < fin) (hk : fin - now ≤ (k : Int)) : ∃ j, k = j + 1 ∧ waits gap node k now fin = ⟨min (now + gap) fin, node⟩ :: waits gap node j (min (now + gap) fin) fin := by
  cases k with
  | zero => simp at hk; omega
  | succ j =>
    refine ⟨j, rfl, ?_⟩
    conv => lhs; unfold waits
    rw [if_pos h]
theorem waits_none {gap node now fin : Int} {k : Nat} (h : ¬now < fin) : waits gap node k now fin = [] := by
  cases k with
  | zero => rfl
  | succ j => unfold waits; rw [if_neg h]
theorem waits_fuel {gap node fin : Int} (hg : 1 ≤ gap) : ∀ (k k' : Nat) (now : Int), fin - now ≤ k → fin - now ≤ k' → waits gap node k now fin = waits gap node k' now fin
  | 0, k', now, h, _ => by
    rw [waits_none (k := k') (by simp at h; omega)]; rfl
  | k + 1, k', now, h, h' => by
    by_cases hlt : now < fin
    · obtain ⟨j, hj, e⟩ := waits_step (gap := gap) (node := node) hlt h
      obtain ⟨j', hj', e'⟩ := waits_step (gap := gap) (node := node) hlt h'
      rw [e, e', waits_fuel hg j j' _ (by omega) (by omega)]
    · rw [waits_none hlt, waits_none hlt]
theorem iStop : (Try.prog.info? 51).map (fun i => (i.zero, i.size, i.bytes)) = some (some (.agg #[.int .i64 0, .int .i64 0]), 2, 16) := by kernel_rfl
theorem uStops : Try.prog.underlying 46 = some (.slice 51) := by kernel_rfl
theorem uLegs : Try.prog.underlying 104 = some (.slice 135) := by kernel_rfl
theorem stp_one (x : Stp) : ∀ u ∈ x.cs, u.oneCell' = true := by
  intro u hu
  simp only [Stp.cs, List.mem_cons, List.mem_nil_iff, or_false] at hu
  rcases hu with h | h <;> rw [h] <;> rfl
theorem leg_one (x : LegD) : ∀ u ∈ x.cs, u.oneCell' = true := by
  intro u hu
  simp only [LegD.cs, List.mem_cons, List.mem_nil_iff, or_false] at hu
  rcases hu with h | h | h | h | h | h | h | h | h | h | h | h | h | h | h | h | h <;> rw [h] <;> rfl
/-- The walk's two slices in memory. -/
structure WMem (B : Nat) (W0 : World) (vo vl : Value) (L : List Stp) (G : List LegD) (wx : World) : Prop where
  low : Below B W0 wx
  sz : B ≤ wx.heap.size
  out : Ow B wx 51 2 vo (L.map Stp.cs)
  leg : Ow B wx 135 17 vl (G.map LegD.cs)
section
variable {B : Nat} {W0 wx w' : World} {vo vl : Value} {L : List Stp} {G : List LegD}
theorem WMem.keep (h : WMem B W0 vo vl L G wx) (hb : Below wx.heap.size wx w') : WMem B W0 vo vl L G w' := ⟨h.low.trans (hb.mono h.sz), Nat.le_trans h.sz hb.size, h.out.keep hb, h.leg.keep hb⟩
theorem WMem.apart (h : WMem B W0 vo vl L G wx) (g : Nat) (h1 : vo.ownBlock = some g) : vl.ownBlock ≠ some g := by
  intro h2
  rcases h.out.1.2 with ⟨e, _⟩ | ⟨g', cap, cur, e, _, hh, _⟩
  · rw [e] at h1; simp [Value.ownBlock] at h1
  · have hg : g' = g := by rw [e] at h1; simpa [Value.ownBlock] using h1
    have := h.leg.type g h2 _ _ _ (hg ▸ hh)
    simp at this
theorem WMem.apart2 (h : WMem B W0 vo vl L G wx) : vl.ownBlock = none ∨ vl.ownBlock ≠ vo.ownBlock := by
  cases hq : vl.ownBlock with
  | none => exact .inl rfl
  | some g => exact .inr fun e => h.apart g e.symm hq
theorem WMem.apart3 (h : WMem B W0 vo vl L G wx) : vo.ownBlock = none ∨ vo.ownBlock ≠ vl.ownBlock := by
  cases hq : vo.ownBlock with
  | none => exact .inl rfl
  | some g => exact .inr fun e => h.apart g hq e.symm
theorem WMem.add (h : WMem B W0 vo vl L G wx) {x : Stp} {n g cap : Nat} (hn : n = L.length) (hg : wx.grownBy w' vo.ownBlock) (ho : w'.ownsRow B 51 2 (.slice (some ⟨g, 0, none⟩) (n + 1) cap) (n + 1) ((L.map Stp.cs).flatten ++ x.cs)) : WMem B W0 (.slice (some ⟨g, 0, none⟩) (n + 1) cap) vl (L ++ [x]) G w' := by
  subst hn
  refine ⟨h.low.grown hg h.sz (fun b hb => (h.out.blk b hb).1), Nat.le_trans h.sz hg.size, ?_, h.leg.kept hg h.apart2⟩
  rw [List.map_append]
  exact Ow.grow (R := L.map Stp.cs) (N := [x.cs]) (m := 1) (by rw [List.length_map]; simpa only [List.flatten_cons, List.flatten_nil, List.append_nil] using ho) rfl (fun r hr => by obtain ⟨y, _, rfl⟩ := List.mem_map.1 hr; rfl) (fun r hr => by simp at hr; subst hr; rfl)
theorem WMem.addLeg (h : WMem B W0 vo vl L G wx) {x : LegD} {n g cap : Nat} (hn : n = G.length) (hg : wx.grownBy w' vl.ownBlock) (ho : w'.ownsRow B 135 17 (.slice (some ⟨g, 0, none⟩) (n + 1) cap) (n + 1) ((G.map LegD.cs).flatten ++ x.cs)) : WMem B W0 vo (.slice (some ⟨g, 0, none⟩) (n + 1) cap) L (G ++ [x]) w' := by
  subst hn
  refine ⟨h.low.grown hg h.sz (fun b hb => (h.leg.blk b hb).1), Nat.le_trans h.sz hg.size, h.out.kept hg h.apart3, ?_⟩
  rw [List.map_append]
  exact Ow.grow (R := G.map LegD.cs) (N := [x.cs]) (m := 1) (by rw [List.length_map]; simpa only [List.flatten_cons, List.flatten_nil, List.append_nil] using ho) rfl (fun r hr => by obtain ⟨y, _, rfl⟩ := List.mem_map.1 hr; rfl) (fun r hr => by simp at hr; subst hr; rfl)
end
end Go.Proofs.Ythkhgfdjdpfoiaa
