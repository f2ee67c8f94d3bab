/-
 Memory while the model walks: the two rows, and what stays beside them.
 The model's walk of a trip.
-/
import Derived.Test.YtmplajpbmojkkaaGreatStay
import Derived.Test.YtmplajpbmojkkaaGreatTimA
import Derived.Deep.RegionHeld3
import Derived.Deep.DeepCutAuto
set_option linter.unusedSimpArgs false
set_option linter.unusedVariables false
namespace Go.Proofs.YtmplajpbmojkkaaGreat
open Go Go.RowKit Go.Vi
/-- The walk's memory from the world W on, in which the rows lay in the blocks ro and rl. -/
structure WM (B : Nat) (W0 W : World) (ro rl : Option Nat) (vo vl : Value) (L : List Stp) (G : List LegD) (wx : World) : Prop where
 mem : WMem B W0 vo vl L G wx
 size : W.heap.size ≤ wx.heap.size
 block : ∀ b, b < W.heap.size → some b ≠ ro → some b ≠ rl → wx.heap[b]? = W.heap[b]?
 atO : vo.ownBlock = ro ∨ ∀ g, vo.ownBlock = some g → W.heap.size ≤ g
 atL : vl.ownBlock = rl ∨ ∀ g, vl.ownBlock = some g → W.heap.size ≤ g
 tyO : ∀ b cs T fr, ro = some b → W.heap[b]? = some (.cells cs T fr) → T = 66
 tyL : ∀ b cs T fr, rl = some b → W.heap[b]? = some (.cells cs T fr) → T = 156
section
variable {B : Nat} {W0 W wx w' : World} {ro rl : Option Nat} {vo vl : Value} {L : List Stp} {G : List LegD}
theorem WM.start (h : WMem B W0 vo vl L G W) : WM B W0 W vo.ownBlock vl.ownBlock vo vl L G W :=
 ⟨h, Nat.le_refl _, fun _ _ _ _ => rfl, .inl rfl, .inl rfl, fun b cs T fr hb hc => h.out.type b hb cs T fr hc, fun b cs T fr hb hc => h.leg.type b hb cs T fr hc⟩
theorem WM.keep (h : WM B W0 W ro rl vo vl L G wx) (hb : Below wx.heap.size wx w') : WM B W0 W ro rl vo vl L G w' :=
 ⟨h.mem.keep hb, Nat.le_trans h.size hb.size, fun b h1 h2 h3 => (hb.block b (Nat.lt_of_lt_of_le h1 h.size)).trans (h.block b h1 h2 h3), h.atO, h.atL, h.tyO, h.tyL⟩
theorem WM.obj (h : WM B W0 W ro rl vo vl L G wx) {b : Nat} {cs : Array Value} {T : TypeId} {fr : Nat × Nat} (hb : W.heap[b]? = some (.cells cs T fr)) (h1 : T ≠ 66) (h2 : T ≠ 156) : wx.heap[b]? = some (.cells cs T fr) := by
 rw [h.block b (obj_lt hb) (fun e => h1 (h.tyO b cs T fr e.symm hb)) (fun e => h2 (h.tyL b cs T fr e.symm hb))]
 exact hb
theorem WM.add (h : WM B W0 W ro rl vo vl L G wx) {x : Stp} {n g cap : Nat} (hn : n = L.length) (hg : wx.grownBy w' vo.ownBlock) (ho : w'.ownsRow B 66 2 (.slice (some ⟨g, 0, none⟩) (n + 1) cap) (n + 1) ((L.map Stp.cs).flatten ++ x.cs)) (hat : vo.ownBlock = some g ∨ wx.heap.size ≤ g) : WM B W0 W ro rl (.slice (some ⟨g, 0, none⟩) (n + 1) cap) vl (L ++ [x]) G w' := by
 refine ⟨h.mem.add hn hg ho, Nat.le_trans h.size hg.size, fun b h1 h2 h3 => ?_, ?_, h.atL, h.tyO, h.tyL⟩
 ·rw [hg.block b (Nat.lt_of_lt_of_le h1 h.size) (fun e => ?_)]
  ·exact h.block b h1 h2 h3
  ·rcases h.atO with q | q
   ·exact h2 (e.trans q)
   ·have := q b e.symm; omega
 ·show some g = ro ∨ ∀ g', some g = some g' → W.heap.size ≤ g'
  rcases hat with e | e
  ·rw [← e]
   rcases h.atO with q | q
   ·exact .inl q
   ·exact .inr fun g' hg' => q g' hg'
  ·refine .inr fun g' hg' => ?_
   injection hg' with hg'
   have := h.size; omega
theorem WM.addLeg (h : WM B W0 W ro rl vo vl L G wx) {x : LegD} {n g cap : Nat} (hn : n = G.length) (hg : wx.grownBy w' vl.ownBlock) (ho : w'.ownsRow B 156 17 (.slice (some ⟨g, 0, none⟩) (n + 1) cap) (n + 1) ((G.map LegD.cs).flatten ++ x.cs)) (hat : vl.ownBlock = some g ∨ wx.heap.size ≤ g) : WM B W0 W ro rl vo (.slice (some ⟨g, 0, none⟩) (n + 1) cap) L (G ++ [x]) w' := by
 refine ⟨h.mem.addLeg hn hg ho, Nat.le_trans h.size hg.size, fun b h1 h2 h3 => ?_, h.atO, ?_, h.tyO, h.tyL⟩
 ·rw [hg.block b (Nat.lt_of_lt_of_le h1 h.size) (fun e => ?_)]
  ·exact h.block b h1 h2 h3
  ·rcases h.atL with q | q
   ·exact h3 (e.trans q)
   ·have := q b e.symm; omega
 ·show some g = rl ∨ ∀ g', some g = some g' → W.heap.size ≤ g'
  rcases hat with e | e
  ·rw [← e]
   rcases h.atL with q | q
   ·exact .inl q
   ·exact .inr fun g' hg' => q g' hg'
  ·refine .inr fun g' hg' => ?_
   injection hg' with hg'
   have := h.size; omega
end
/-- What the model's walk hands back. -/
def WalkRes (r : Except Int (List Stp)) (B : Nat) (e : Ending) (w' : World) : Prop := match r with
 | .error c => c ≠ 0 ∧ e = .returned (.tuple #[.slice none 0 0, .slice none 0 0, .int .i64 c])
 | .ok L => ∃ vo vl, e = .returned (.tuple #[vo, vl, .int .i64 0]) ∧ Ow B w' 66 2 vo (L.map Stp.cs)
/-- Whether a list has come over the limit. -/
def over (L : List Stp) : Int := if 256 < L.length then 3 else 0
theorem DriveOut.shape {S : Scn} {speed a b : Int} {B : Nat} {e : Ending} {w' : World} (h : DriveOut S speed a b B e w') : ∃ va vb, e = .returned (.tuple #[va, vb]) := by
 rcases h with ⟨c, _, _, h⟩ | ⟨R, len, v, _, _, _, _, h, _⟩
 ·exact ⟨_, _, h⟩
 ·exact ⟨_, _, h⟩
/-- The waits, part of which are in the list. -/
theorem waits_out {gap node fin : Int} (hg : 1 ≤ gap) {k : Nat} {now : Int} {L L' : List Stp} (hf : fin - now ≤ k) {now' : Int} (h : L' ++ waits gap node k now' fin = L ++ waits gap node k now fin) (hx : ¬now' < fin ∨ 256 < L'.length) (hlen : L'.length ≤ max L.length 257) : Waited L (waits gap node k now fin) L' := by
 have hl := congrArg List.length h
 simp only [List.length_append] at hl
 rcases hx with hx | hx
 ·rw [waits_none hx, List.append_nil] at h
  rw [waits_none hx] at hl
  simp only [List.length_nil] at hl
  exact ⟨fun _ => h, fun _ => by omega, by omega⟩
 ·exact ⟨fun h1 => by omega, fun _ => hx, by omega⟩
theorem Ow.moved {B : Nat} {w wx : World} {e k : Nat} {v : Value} {R : List (List Value)} (h : Ow B w e k v R) (hk : ∀ (b : Nat) (cs : Array Value) (fr : Nat × Nat), w.heap[b]? = some (Obj.cells cs e fr) → wx.heap[b]? = some (Obj.cells cs e fr)) : Ow B wx e k v R := by
 refine ⟨⟨h.1.1, ?_⟩, h.2⟩
 rcases h.1.2 with g | ⟨g, cap, cur, h1, h2, h3, h4⟩
 ·exact .inl g
 ·exact .inr ⟨g, cap, cur, h1, h2, hk _ _ _ h3, h4⟩
theorem hpmL_at (S : Scn) (speed a : Int) (R : List Hp) {n k : Nat} (hk : k < n) : (hpmL S speed a R n)[k]! = hpmOf S speed a R k := by
 rw [getElem!_pos _ k (by rw [hpmL_len]; exact hk)]
 simp [hpmL]
theorem iLeg : (Tryz.prog.info? 156).map (fun i => (i.zero, i.size, i.bytes)) = some (some leg0.v, 17, 200) := by kernel_rfl
/-- The cells of a row of hops. -/
theorem hop_cells {B n cap : Nat} {w : World} {a : Option Addr} {H : List Hpm} (h : Ow B w 159 4 (.slice a n cap) (H.map Hpm.cs)) (k : Nat) (hk : k < H.length) : ∃ b off, a = some ⟨b, off, none⟩ ∧ b < w.heap.size ∧ w.cell? ⟨b, off + k * 4, none⟩ = some (.int .i64 H[k]!.road) ∧ w.cell? ⟨b, off + k * 4 + 1, none⟩ = some (.int .i64 H[k]!.src) ∧ w.cell? ⟨b, off + k * 4 + 2, none⟩ = some (.int .i64 H[k]!.dst) ∧ w.cell? ⟨b, off + k * 4 + 3, none⟩ = some (.int .i64 H[k]!.time) := by
 obtain ⟨b, off, h1, h2, h3⟩ := h.sl.cells k hk
 exact ⟨b, off, h1, h2, h3 k hk 0 _ rfl, h3 k hk 1 _ rfl, h3 k hk 2 _ rfl, h3 k hk 3 _ rfl⟩
end Go.Proofs.YtmplajpbmojkkaaGreat
namespace Go.Proofs.YtmplajpbmojkkaaGreat
open Go Go.RowKit Go.Vi
set_option maxRecDepth 100000 in
set_option maxHeartbeats 8000000 in
theorem walk_any (S : Scn) (t : Trp) (v1 v2 v3 v4 v5 vt : Value) (w : World) (hN : NetAt w.heap.size w v1 v2 S.net) (hV : Sl w.heap.size w 2 vt (t.vis.map Vis.cs)) (hK : NetOK S.net) (hsz : S.net.roads.length ≤ 100) (hg : 1 ≤ S.gap ∧ S.gap ≤ 1073741824) (hT : TripFit t) :
  Calls Tryz.prog 35 #[S.v v1 v2 v3 v4 v5, t.v vt] w fun e w' => WalkRes (stopsS S t) w.heap.size e w' ∧ Below w.heap.size w w' := by
 obtain ⟨av, m, cv, rfl, hm, hm1, hm2⟩ := hV.open
 rw [List.length_map] at hm
 have hne := hT.vis
 have hvl := hT.few
 rw [hm] at hvl
 have hm0 : 0 < m := by omega
 have hi0 : (0 : Int) < (m : Int) := by omega
 obtain ⟨b, off, rfl, hb, hcs⟩ := hV.cells 0 hne
 have o0 : w.cell? ⟨b, off + 0 * 2, none⟩ = _ := hcs 0 hne 0 _ rfl
 rw [Nat.zero_mul, Nat.add_zero] at o0
 obtain ⟨xo, hxo⟩ : ∃ xo, xo = t.vis[0]! := ⟨_, rfl⟩
 rw [← hxo] at o0
 have HXO := Lib.hid hxo
 have HN := Lib.hid hN
 have HCS := Lib.hid hcs
 have HK := Lib.hid hK
 have HT := Lib.hid hT
 have HM := Lib.hid hm
 have hsp := hT.speed
 have hst := hT.start
 clear hN hV hK hT hm hm2 hcs hxo hne
 have P0 := Lib.hid (obj_old (o' := .cells #[.int .i64 t.obj, .int .i64 t.dev, .int .i64 t.start, .int .i64 t.speed, .slice (some ⟨b, off, none⟩) m cv] 61) (obj_last w (.cells #[v1, v2, .int .i64 S.gap, v3, v4, v5] 40)))
 have T0 := Lib.hid (obj_last2 w (.cells #[v1, v2, .int .i64 S.gap, v3, v4, v5] 40) (.cells #[.int .i64 t.obj, .int .i64 t.dev, .int .i64 t.start, .int .i64 t.speed, .slice (some ⟨b, off, none⟩) m cv] 61))
 have B0 := Lib.hid (((Below.refl w.heap.size w).alloc (Nat.le_refl _) (.cells #[v1, v2, .int .i64 S.gap, v3, v4, v5] 40)).alloc (by simp) (.cells #[.int .i64 t.obj, .int .i64 t.dev, .int .i64 t.start, .int .i64 t.speed, .slice (some ⟨b, off, none⟩) m cv] 61))
 go_enter Tryz.func35, Tryz.ntmps35
 go_wp2_with fail
 obtain ⟨W0, hW0⟩ : ∃ W0, W0 = (w.alloc (.cells #[v1, v2, .int .i64 S.gap, v3, v4, v5] 40)).alloc (.cells #[.int .i64 t.obj, .int .i64 t.dev, .int .i64 t.start, .int .i64 t.speed, .slice (some ⟨b, off, none⟩) m cv] 61) := ⟨_, rfl⟩
 have hz0 : w.heap.size + 1 < W0.heap.size := by rw [hW0]; simp
 have hz0e : w.heap.size + 1 + 1 = W0.heap.size := by rw [hW0]; simp
 rw [← hW0] at P0 T0 B0 ⊢
 simp only [hz0e]
 clear hW0 hz0e
 have hM0 : WMem W0.heap.size W0 (.slice (some ⟨W0.heap.size, 0, none⟩) 1 1) (.slice none 0 0) [⟨t.start, xo.node⟩] [] (W0.alloc (.cells #[.int .i64 t.start, .int .i64 xo.node] 66)) :=
  ⟨(Below.refl W0.heap.size W0).alloc (Nat.le_refl _) _, by simp, own_stp (x := ⟨t.start, xo.node⟩) (obj_last _ _) (Nat.le_refl _), Ow.nil _ _ _ _⟩
 have HM0 := Lib.hid hM0
 clear hM0
 go_loopw [7, 8, 9, 10, 11] (fun s7 s8 s9 s10 s11 wx => ∃ (i : Nat) (now : Int) (Pre : List Stp) (vo vl : Value) (L : List Stp) (G : List LegD), s11 = .int .i64 i ∧ s7 = .int .i64 now ∧ vo = s8 ∧ vl = s9 ∧ s10 = .int .i64 (over L) ∧ i ≤ m ∧ 0 ≤ now ∧ now ≤ 1073741824 + i * 217969590272 ∧ L.length ≤ 258 + 210 * i ∧ G.length ≤ 210 * i ∧ Hid (WMem W0.heap.size W0 vo vl L G wx) ∧ Hid (tour S t.speed none t.start t.vis = cont (tour S t.speed (prevOf t.vis i) now (t.vis.drop i)) Pre) ∧ Hid (Full [⟨t.start, xo.node⟩] Pre L)) (fun _ _ _ _ s11 _ => m - (intOf s11).toNat)
 case atStart => exact ⟨0, t.start, [], _, _, _, [], rfl, rfl, rfl, rfl, rfl, Nat.zero_le _, hst.1, by simp; exact hst.2, by simp, by simp, HM0.out, (cont_nil _).symm, Full.nil _⟩
 case round =>
  obtain ⟨i, now, Pre, vo, vl, L, G, rfl, rfl, rfl, rfl, rfl, hi, hn0, hn1, hLl, hGl, hM, hTT, hF⟩ := hrel
  have hP := keepObj hM.out.low P0.out
  have hTr := keepObj hM.out.low T0.out
  have p0 := obj_cell hP 0
  have p1 := obj_cell hP 1
  have p2 := obj_cell hP 2
  have p3 := obj_cell hP 3
  have p4 := obj_cell hP 4
  have p5 := obj_cell hP 5
  have r0 := obj_cell hTr 0
  have r1 := obj_cell hTr 1
  have r2 := obj_cell hTr 2
  have r3 := obj_cell hTr 3
  have r4 := obj_cell hTr 4
  simp at p0 p1 p2 p3 p4 p5 r0 r1 r2 r3 r4
  have zp := obj_lt hP
  have zt := obj_lt hTr
  have hzx := hM.out.low.size
  have BX := Lib.hid (B0.out.trans (hM.out.low.mono B0.out.size))
  have PX := Lib.hid hP
  have TX := Lib.hid hTr
  clear hP hTr
  by_cases hlt : i < m
  ·have hil : i < t.vis.length := by rw [HM.out]; exact hlt
   have x0 : w.cell? ⟨b, off + i * 2, none⟩ = _ := HCS.out i hil 0 _ rfl
   have x1 : w.cell? ⟨b, off + i * 2 + 1, none⟩ = _ := HCS.out i hil 1 _ rfl
   rw [← BX.out.cell (p := ⟨b, _, none⟩) hb] at x0 x1
   have hzb : b < wr.heap.size := by omega
   have hwi := HT.out.wait i hil
   have hta := tour_at (S := S) (speed := t.speed) hil (prevOf t.vis i) now
   obtain ⟨x, hx⟩ : ∃ x, x = t.vis[i]! := ⟨_, rfl⟩
   rw [← hx] at x0 x1 hwi hta
   have HX := Lib.hid hx
   have HTA := Lib.hid hta
   clear hx hta
   obtain ⟨hw1, hw2⟩ := hwi
   have hk1 : (0 : Int) ≤ (i : Int) := by omega
   have hk2 : (i : Int) < (m : Int) := by omega
   go_upto_if 42 with fail
   obtain ⟨Wv, hWv⟩ : ∃ W, W = wr.alloc (.cells #[.int .i64 x.node, .int .i64 x.wait] 92) := ⟨_, rfl⟩
   obtain ⟨bv, hbv⟩ : ∃ z, wr.heap.size = z := ⟨_, rfl⟩
   have PV := Lib.hid (obj_last wr (.cells #[.int .i64 x.node, .int .i64 x.wait] 92))
   have BV := Lib.hid ((Below.refl wr.heap.size wr).alloc (Nat.le_refl _) (.cells #[.int .i64 x.node, .int .i64 x.wait] 92))
   rw [← hWv, hbv] at PV ⊢
   rw [← hWv] at BV
   have zbv := obj_lt PV.out
   have zwv := BV.out.size
   have PXv := Lib.hid (keepObj BV.out PX.out)
   have TXv := Lib.hid (keepObj BV.out TX.out)
   have BXv := Lib.hid (BX.out.trans (BV.out.mono BX.out.size))
   have HMv := Lib.hid (hM.out.keep BV.out)
   have hbvW : W0.heap.size ≤ bv := by rw [← hbv]; exact hM.out.sz
   have q0 := (BV.out.cell (p := ⟨w.heap.size, 0, none⟩) zp).trans p0
   have q1 := (BV.out.cell (p := ⟨w.heap.size, 1, none⟩) zp).trans p1
   have q2 := (BV.out.cell (p := ⟨w.heap.size, 2, none⟩) zp).trans p2
   have q3 := (BV.out.cell (p := ⟨w.heap.size, 3, none⟩) zp).trans p3
   have q4 := (BV.out.cell (p := ⟨w.heap.size, 4, none⟩) zp).trans p4
   have q5 := (BV.out.cell (p := ⟨w.heap.size, 5, none⟩) zp).trans p5
   have tb0 := (BV.out.cell (p := ⟨w.heap.size + 1, 0, none⟩) zt).trans r0
   have tb1 := (BV.out.cell (p := ⟨w.heap.size + 1, 1, none⟩) zt).trans r1
   have tb2 := (BV.out.cell (p := ⟨w.heap.size + 1, 2, none⟩) zt).trans r2
   have tb3 := (BV.out.cell (p := ⟨w.heap.size + 1, 3, none⟩) zt).trans r3
   have tb4 := (BV.out.cell (p := ⟨w.heap.size + 1, 4, none⟩) zt).trans r4
   have q6 : Wv.cell? ⟨bv, 0, none⟩ = some (.int .i64 x.node) := by have := obj_cell PV.out 0; simpa using this
   have zp1 : w.heap.size < Wv.heap.size := by omega
   have zt1 : w.heap.size + 1 < Wv.heap.size := by omega
   have zb1 : b < Wv.heap.size := by omega
   clear hWv hbv p0 p1 p2 p3 p4 p5 r0 r1 r2 r3 r4 x0 x1
   go_cut [7, 8, 9] (fun s7 s8 s9 wx => ∃ (l : List (Int × Int)) (nk : Int) (vo' vl' : Value) (L' : List Stp) (G' : List LegD), s7 = .int .i64 nk ∧ vo' = s8 ∧ vl' = s9 ∧ now ≤ nk ∧ nk ≤ now + 214748364800 ∧ L.length ≤ L'.length ∧ L'.length ≤ L.length + 200 ∧ G'.length ≤ G.length + 200 ∧ Hid (driveIf S t.speed (prevOf t.vis i) x.node = .ok l) ∧ Hid (nk = gone now l) ∧ Hid (Full [⟨t.start, xo.node⟩] (Pre ++ moves now l) L') ∧ Hid (WMem W0.heap.size W0 vo' vl' L' G' wx) ∧ Hid (wx.heap[bv]? = some (.cells #[.int .i64 x.node, .int .i64 x.wait] 92)) ∧ Wv.heap.size ≤ wx.heap.size)
   case first =>
    by_cases hi0 : i = 0
    ·have hi0' : decide (0 < i) = false := by rw [hi0]; rfl
     have HI0 := Lib.hid hi0
     have hi1 : ¬(0 : Int) < (i : Int) := by omega
     have hi2 : ¬0 < i := by omega
     clear hi0
     go_wp2_with fail
     go_meet
     exact ⟨[], now, vo, vl, L, G, rfl, rfl, rfl, Int.le_refl _, by omega, Nat.le_refl _, by omega, by omega, by show _ = _; rw [HI0.out]; rfl, rfl, by show Full _ _ _; simpa [moves] using hF.out, HMv.out, PV.out, Nat.le_refl _⟩
    ·have hip : 0 < i := by omega
     obtain ⟨j, hj⟩ : ∃ j, i = j + 1 := ⟨i - 1, by omega⟩
     have hjm : j < m := by omega
     have hjl : j < t.vis.length := by rw [HM.out]; exact hjm
     have ej : ((i : Int) - 1) = (j : Int) := by omega
     have ew : IntKind.i64.wrap (j : Int) = (j : Int) := IntWalk.i64_in _ (by omega)
     have hj1 : (0 : Int) ≤ (j : Int) := by omega
     have hj2 : (j : Int) < (m : Int) := by omega
     have hk3 : (0 : Int) < (i : Int) := by omega
     have y0 : w.cell? ⟨b, off + j * 2, none⟩ = _ := HCS.out j hjl 0 _ rfl
     rw [← BXv.out.cell (p := ⟨b, _, none⟩) hb] at y0
     obtain ⟨y, hy⟩ : ∃ y, y = t.vis[j]! := ⟨_, rfl⟩
     rw [← hy] at y0
     have HPREV := Lib.hid (show prevOf t.vis i = some y.node by rw [hj, hy]; rfl)
     have HNW := Lib.hid ((HN.out.keep BXv.out (Nat.le_refl _)).mono (B' := Wv.heap.size) (by omega))
     clear hi0 hj hy
     go_wp2_with fail
     go_cut [13, 14] (fun s13 s14 wx => Hid (DriveOut S t.speed y.node x.node Wv.heap.size (.returned (.tuple #[s13, s14])) wx) ∧ Hid (Below Wv.heap.size Wv wx))
     case first =>
      go_region_held3 (fun w' => w'.cell? ⟨w.heap.size, 0, none⟩ = some v1 ∧ w'.cell? ⟨w.heap.size, 1, none⟩ = some v2 ∧ w'.cell? ⟨w.heap.size, 2, none⟩ = some (.int .i64 S.gap) ∧ w'.cell? ⟨w.heap.size, 3, none⟩ = some v3 ∧ w'.cell? ⟨w.heap.size, 4, none⟩ = some v4 ∧ w'.cell? ⟨w.heap.size, 5, none⟩ = some v5 ∧ w'.cell? ⟨w.heap.size + 1, 0, none⟩ = some (.int .i64 t.obj) ∧ w'.cell? ⟨w.heap.size + 1, 1, none⟩ = some (.int .i64 t.dev) ∧ w'.cell? ⟨w.heap.size + 1, 2, none⟩ = some (.int .i64 t.start) ∧ w'.cell? ⟨w.heap.size + 1, 3, none⟩ = some (.int .i64 t.speed) ∧ w'.cell? ⟨w.heap.size + 1, 4, none⟩ = some (.slice (some ⟨b, off, none⟩) m cv) ∧ w'.cell? ⟨b, off + j * 2, none⟩ = some (.int .i64 y.node) ∧ w'.cell? ⟨bv, 0, none⟩ = some (.int .i64 x.node))
       (((go_split_ands; refine ⟨?_, ?_, ?_, ?_, ?_, ?_, ?_, ?_, ?_, ?_, ?_, ?_, ?_⟩ <;> first | with_reducible assumption | exact ((show Below Wv.heap.size Wv _ from (by (repeat (first | with_reducible exact Below.refl _ _ | with_reducible assumption | ((with_reducible first | refine Below.setCell ?_ ?_ _ | refine Below.alloc ?_ ?_ _); rotate_left; focus (first | exact Nat.le_refl _ | omega | exact Below.size (by assumption) | (simp <;> omega))) | with_reducible refine Below.drew ?_ | with_reducible refine drewN_ ?_ _)))).cell (p := ⟨_, _, none⟩) (by first | with_reducible assumption | omega)).trans (by with_reducible assumption))))
       ((go_at_call 53; refine (hopsM_any S t v1 v2 v3 v4 v5 _ y.node x.node _ (HNW.out.later (by (repeat (first | with_reducible exact Below.refl _ _ | with_reducible assumption | ((with_reducible first | refine Below.setCell ?_ ?_ _ | refine Below.alloc ?_ ?_ _); rotate_left; focus (first | exact Nat.le_refl _ | omega | exact Below.size (by assumption) | (simp <;> omega))) | with_reducible refine Below.drew ?_ | with_reducible refine drewN_ ?_ _)))) HK.out hsz hsp hg.1).mono ?_; rintro e w2 ⟨hD, hb2⟩; obtain ⟨va, vb, rfl⟩ := hD.shape; have HD := Lib.hid hD; have B2 := from_ (w := Wv) hb2 (by (repeat (first | with_reducible exact Below.refl _ _ | with_reducible assumption | ((with_reducible first | refine Below.setCell ?_ ?_ _ | refine Below.alloc ?_ ?_ _); rotate_left; focus (first | exact Nat.le_refl _ | omega | exact Below.size (by assumption) | (simp <;> omega))) | with_reducible refine Below.drew ?_ | with_reducible refine drewN_ ?_ _))); clear hb2 hD))
      all_goals
       go_wp2_with fail
       go_meet
       exact ⟨HD.out, by show Below _ _ _; (repeat (first | with_reducible exact Below.refl _ _ | with_reducible assumption | ((with_reducible first | refine Below.setCell ?_ ?_ _ | refine Below.alloc ?_ ?_ _); rotate_left; focus (first | exact Nat.le_refl _ | omega | exact Below.size (by assumption) | (simp <;> omega))) | with_reducible refine Below.drew ?_ | with_reducible refine drewN_ ?_ _))⟩
     case rest =>
      obtain ⟨hD, hBd⟩ := hcut
      rcases hD.out with ⟨c, hdt, hc, he⟩ | ⟨R, len, v, hR, hlen, hRl, hgp, he, hO⟩
      ·cases he
       have hc' : (c != 0) = true := by simpa using hc
       have HE := Lib.hid (show stopsS S t = .error c from by
        unfold stopsS
        rw [tour_fail hTT.out HTA.out (c := c) (by rw [HPREV.out]; exact hdt)])
       clear hdt hc hD
       go_wp2_with fail
       go_ret3
       refine ⟨?_, by have h := BXv.out.trans (hBd.out.mono BXv.out.size); (repeat (first | with_reducible exact Below.refl _ _ | with_reducible assumption | ((with_reducible first | refine Below.setCell ?_ ?_ _ | refine Below.alloc ?_ ?_ _); rotate_left; focus (first | exact Nat.le_refl _ | omega | exact Below.size (by assumption) | (simp <;> omega))) | with_reducible refine Below.drew ?_ | with_reducible refine drewN_ ?_ _))⟩
       unfold WalkRes
       rw [HE.out]
       exact ⟨by simpa using hc', rfl⟩
      ·cases he
       obtain ⟨ah, nh, ch, rfl⟩ := hO.val
       have hnh := hO.sl.len
       rw [List.length_map, hpmL_len] at hnh
       have HNH := Lib.hid hnh
       have hfew := route_few hR HK.out hsz
       rw [hnh] at hfew
       have HR := Lib.hid hR
       have HGP := Lib.hid hgp
       have HTM := Lib.hid (hop_time HK.out hR hsp)
       have HO := Lib.hid hO
       have HMd := Lib.hid (HMv.out.keep hBd.out)
       have PVd := Lib.hid (keepObj hBd.out PV.out)
       have PXd := Lib.hid (keepObj hBd.out PXv.out)
       have TXd := Lib.hid (keepObj hBd.out TXv.out)
       have BXd := Lib.hid (BXv.out.trans (hBd.out.mono BXv.out.size))
       have hzd := hBd.out.size
       have HWS := Lib.hid (WM.start HMd.out)
       have HDR := Lib.hid (show driveIf S t.speed (prevOf t.vis i) x.node = .ok (hopsT S t.speed R) from by rw [HPREV.out]; exact drive_ok hR (fun q hq => by have := hgp R[q]! (by rw [getElem!_pos R q hq]; exact List.getElem_mem hq); exact this))
       clear hD hR hgp hO hnh hlen hRl q0 q1 q2 q3 q4 q5 q6 tb0 tb1 tb2 tb3 tb4 y0
       go_wp2_with fail
       go_loopw [7, 8, 9, 15] (fun s7 s8 s9 s15 wx => ∃ (k : Nat) (nk : Int) (vo' vl' : Value) (L' : List Stp) (G' : List LegD), s15 = .int .i64 k ∧ s7 = .int .i64 nk ∧ vo' = s8 ∧ vl' = s9 ∧ k ≤ nh ∧ now ≤ nk ∧ nk ≤ now + k * 1073741824 ∧ L.length ≤ L'.length ∧ L'.length ≤ L.length + k ∧ G'.length ≤ G.length + k ∧ Hid (nk = gone now ((hopsT S t.speed R).take k)) ∧ Hid (WM W0.heap.size W0 wc vo.ownBlock vl.ownBlock vo' vl' L' G' wx) ∧ Hid (Full [⟨t.start, xo.node⟩] (Pre ++ moves now ((hopsT S t.speed R).take k)) L')) (fun _ _ _ s15 _ => nh - (intOf s15).toNat)
       case atStart => exact ⟨0, now, _, _, L, G, rfl, rfl, rfl, rfl, Nat.zero_le _, by omega, by omega, Nat.le_refl _, by omega, by omega, rfl, HWS.out, by show Full _ _ _; simpa [moves] using hF.out⟩
       case round =>
        obtain ⟨k, nk, vo', vl', L', G', rfl, rfl, rfl, rfl, hk, hnk1, hnk2, hLk0, hLk, hGk, hNK, hMk, hFk⟩ := hrel
        have hPk := hMk.out.obj PXd.out (by decide) (by decide)
        have hVk := hMk.out.obj PVd.out (by decide) (by decide)
        have p0 := obj_cell hPk 0
        have p1 := obj_cell hPk 1
        simp at p0 p1
        have zpk := obj_lt hPk
        have zvk := obj_lt hVk
        have VKW := Lib.hid hVk
        have BXk := Lib.hid (B0.out.trans (hMk.out.mem.low.mono B0.out.size))
        have zBk := hMk.out.mem.sz
        clear hPk hVk
        by_cases hltk : k < nh
        ·have hkR : k < R.length := by rw [HNH.out]; exact hltk
         obtain ⟨al, nl, cl, rfl⟩ := hMk.out.mem.leg.val
         obtain ⟨ao, no, co, rfl⟩ := hMk.out.mem.out.val
         have hnl := hMk.out.mem.leg.sl.len
         have hno := hMk.out.mem.out.sl.len
         rw [List.length_map] at hnl hno
         rw [hnl] at hGk
         rw [hno] at hLk
         have hOx := Ow.moved HO.out (fun b cs fr hb => hMk.out.obj hb (by decide) (by decide))
         obtain ⟨bh, oh, rfl, hbh, h0, h1, h2, h3⟩ := hop_cells hOx k (by rw [hpmL_len]; exact hkR)
         rw [hpmL_at _ _ _ _ hkR] at h0 h1 h2 h3
         obtain ⟨u, hu⟩ : ∃ u, u = hpmOf S t.speed y.node R k := ⟨_, rfl⟩
         have hRk := List.getElem_mem hkR
         rw [← getElem!_pos R k hkR] at hRk
         have hgpk := HGP.out _ hRk
         have htmk := HTM.out _ hRk
         have hmv := moves_step S t.speed now R hkR
         have hu2 : R[k]!.dst = u.dst := by rw [hu]; rfl
         have hu3 : hopTime S.net t.speed R[k]!.road = u.time := by rw [hu]; rfl
         rw [hu3] at hgpk htmk
         rw [hu2, hu3, ← hNK.out] at hmv
         rw [← hu] at h0 h1 h2 h3
         have HMV := Lib.hid hmv
         have HNL := Lib.hid hnl
         have HNO := Lib.hid hno
         have HOP : Hid (∀ wx' : World, (∀ (b : Nat) (cs : Array Value) (fr : Nat × Nat), wr.heap[b]? = some (Obj.cells cs 159 fr) → wx'.heap[b]? = some (Obj.cells cs 159 fr)) → wx'.cell? ⟨bh, oh + k * 4, none⟩ = some (.int .i64 u.road) ∧ wx'.cell? ⟨bh, oh + k * 4 + 1, none⟩ = some (.int .i64 u.src) ∧ wx'.cell? ⟨bh, oh + k * 4 + 2, none⟩ = some (.int .i64 u.dst) ∧ wx'.cell? ⟨bh, oh + k * 4 + 3, none⟩ = some (.int .i64 u.time)) := fun wx' hq => by
          obtain ⟨bh', oh', e', _, g0, g1, g2, g3⟩ := hop_cells (Ow.moved hOx hq) k (by rw [hpmL_len]; exact hkR)
          injection e' with e'
          injection e' with e1 e2
          subst e1; subst e2
          rw [hpmL_at _ _ _ _ hkR, ← hu] at g0 g1 g2 g3
          exact ⟨g0, g1, g2, g3⟩
         have HNI := Lib.hid ((HN.out.keep BXk.out (Nat.le_refl _)).mono (B' := wr.heap.size) (by have := BXk.out.size; omega))
         have HOWL : Hid (∀ W, Below wr.heap.size wr W → W.ownsRow W0.heap.size 156 17 (.slice al nl cl) nl (G'.map LegD.cs).flatten) := fun W hW => by
          have q := (hMk.out.mem.leg.keep hW).1
          rw [List.length_map, HNL.out] at q
          exact q
         obtain ⟨i0, hi0, hz0, hz1, hz2⟩ := info_parts iLeg
         obtain ⟨i1, hi1, hy0, hy1, hy2⟩ := info_parts iStop
         have hk5 : (0 : Int) ≤ (k : Int) := by omega
         have hk6 : (k : Int) < (nh : Int) := by omega
         have hk7 : k < nh := hltk
         clear hnl hno hOx hu hu2 hu3 hRk hmv
         go_wp2_with fail
         go_region_held3 (fun w' => w'.cell? ⟨w.heap.size, 0, none⟩ = some v1 ∧ w'.cell? ⟨w.heap.size, 1, none⟩ = some v2 ∧ w'.cell? ⟨bh, oh + k * 4, none⟩ = some (.int .i64 u.road) ∧ w'.cell? ⟨bh, oh + k * 4 + 1, none⟩ = some (.int .i64 u.src) ∧ w'.cell? ⟨bh, oh + k * 4 + 2, none⟩ = some (.int .i64 u.dst) ∧ w'.cell? ⟨bh, oh + k * 4 + 3, none⟩ = some (.int .i64 u.time))
          ((first | (go_split_ands; refine ⟨?_, ?_, ?_, ?_, ?_, ?_⟩ <;> first | with_reducible assumption | exact ((show Below wr.heap.size wr _ from (by (repeat (first | with_reducible exact Below.refl _ _ | with_reducible assumption | ((with_reducible first | refine Below.setCell ?_ ?_ _ | refine Below.alloc ?_ ?_ _); rotate_left; focus (first | exact Nat.le_refl _ | omega | exact Below.size (by assumption) | (simp <;> omega))) | with_reducible refine Below.drew ?_ | with_reducible refine drewN_ ?_ _)))).cell (p := ⟨_, _, none⟩) (by first | with_reducible assumption | omega)).trans (by with_reducible assumption)) | (go_split_ands; exact ⟨j0, j1, j2, j3, j4, j5⟩)))
          ((first | (go_at_call 54; refine (leg_any S.net v1 v2 u nk _ (HNI.out.later (by (repeat (first | with_reducible exact Below.refl _ _ | with_reducible assumption | ((with_reducible first | refine Below.setCell ?_ ?_ _ | refine Below.alloc ?_ ?_ _); rotate_left; focus (first | exact Nat.le_refl _ | omega | exact Below.size (by assumption) | (simp <;> omega))) | with_reducible refine Below.drew ?_ | with_reducible refine drewN_ ?_ _)))) HK.out ⟨by omega, by omega⟩ ⟨by omega, by omega⟩).mono ?_; rintro e w5 ⟨⟨g, rfl⟩, hb5⟩; have B5 := from_ (w := wr) hb5 (by (repeat (first | with_reducible exact Below.refl _ _ | with_reducible assumption | ((with_reducible first | refine Below.setCell ?_ ?_ _ | refine Below.alloc ?_ ?_ _); rotate_left; focus (first | exact Nat.le_refl _ | omega | exact Below.size (by assumption) | (simp <;> omega))) | with_reducible refine Below.drew ?_ | with_reducible refine drewN_ ?_ _))); clear hb5) | (refine step_append_lies _ (by rfl) _ _ _ (by rfl) W0.heap.size 156 i0 _ 17 200 uLegs hi0 hz0 hz1 hz2 rfl (by decide) (.slice al nl cl) nl (G'.map LegD.cs).flatten (by rfl) (HOWL.out _ (by (repeat (first | with_reducible exact Below.refl _ _ | with_reducible assumption | ((with_reducible first | refine Below.setCell ?_ ?_ _ | refine Below.alloc ?_ ?_ _); rotate_left; focus (first | exact Nat.le_refl _ | omega | exact Below.size (by assumption) | (simp <;> omega))) | with_reducible refine Below.drew ?_ | with_reducible refine drewN_ ?_ _)))) ⟨w5.heap.size, 0, none⟩ 1 1 g.cs (by rfl) rfl (World.news_of_block (cs := #[.bool g.f.b, .string g.f.s, .bool g.f.c, .string g.f.t, .bool g.t.b, .string g.t.s, .bool g.t.c, .string g.t.t, .int .i64 g.road, .bool g.a.b, .string g.a.s, .bool g.a.c, .string g.a.t, .bool g.z.b, .string g.z.s, .bool g.z.c, .string g.z.t]) (t := 156) (fr := (0, 0)) (obj_last _ _)) (leg_one g) (by omega) (by unfold maxLen; omega) (by omega) (by have := B5.size; first | omega | (simp; omega)) _ rfl ?_; intro gg cap w6 hown1 hgrow hat hlt1; have hall : wr.grownBy w6 (Value.slice al nl cl).ownBlock := (grown_of (by (repeat (first | with_reducible exact Below.refl _ _ | with_reducible assumption | ((with_reducible first | refine Below.setCell ?_ ?_ _ | refine Below.alloc ?_ ?_ _); rotate_left; focus (first | exact Nat.le_refl _ | omega | exact Below.size (by assumption) | (simp <;> omega))) | with_reducible refine Below.drew ?_ | with_reducible refine drewN_ ?_ _)))).trans hgrow; have HALL := Lib.hid hall; have HOWN := Lib.hid hown1; have HAT := Lib.hid (show (Value.slice al nl cl).ownBlock = some gg ∨ wr.heap.size ≤ gg from hat.imp id (fun e => by rw [e]; have := B5.size; first | omega | (simp; omega))); have HM6 := Lib.hid (hMk.out.addLeg HNL.out.symm HALL.out HOWN.out HAT.out); have hp6 := HM6.out.obj PXd.out (by decide) (by decide); have j0 := obj_cell hp6 0; have j1 := obj_cell hp6 1; have jp2 := obj_cell hp6 2; simp at j0 j1 jp2; obtain ⟨j2, j3, j4, j5⟩ := HOP.out w6 (fun b cs fr hb => row_keeps hall (fun e => by have := hMk.out.mem.leg.type _ e _ _ _ hb; exact absurd this (by decide)) hb); clear hgrow hat hlt1 hall hown1 hp6)))
         all_goals
          have HOW6 : Hid (∀ W, Below w6.heap.size w6 W → W.ownsRow W0.heap.size 66 2 (.slice ao no co) no (L'.map Stp.cs).flatten) := fun W hW => by
           have q := (HM6.out.mem.out.keep hW).1
           rw [List.length_map, HNO.out] at q
           exact q
          have hB6 := HM6.out.mem.sz
          have zbh6 : bh < w6.heap.size := Nat.lt_of_lt_of_le hbh HALL.out.size
          clear j0 j1 jp2
          go_wp2_with (at_builtin; refine wpList_append_lies _ (by rfl) _ _ _ (by rfl) W0.heap.size 66 i1 _ 2 16 uStops hi1 hy0 hy1 hy2 rfl (by decide) (.slice ao no co) no (L'.map Stp.cs).flatten (by rfl) (HOW6.out _ (by (repeat (first | with_reducible exact Below.refl _ _ | with_reducible assumption | ((with_reducible first | refine Below.setCell ?_ ?_ _ | refine Below.alloc ?_ ?_ _); rotate_left; focus (first | exact Nat.le_refl _ | omega | exact Below.size (by assumption) | (simp <;> omega))) | with_reducible refine Below.drew ?_ | with_reducible refine drewN_ ?_ _)))) ⟨w6.heap.size, 0, none⟩ 1 1 (⟨nk + u.time, u.dst⟩ : Stp).cs (by rfl) rfl (World.news_of_block (cs := #[.int .i64 (nk + u.time), .int .i64 u.dst]) (t := 66) (fr := (0, 0)) (obj_last _ _)) (stp_one _) (by omega) (by unfold maxLen; omega) (by omega) (by simp; omega) _ rfl ?_; intro g2 cap2 w7 hown2 hgrow2 hat2 hlt2; have hall2 : w6.grownBy w7 ((.slice ao no co) : Value).ownBlock := (grown_of (by (repeat (first | with_reducible exact Below.refl _ _ | with_reducible assumption | ((with_reducible first | refine Below.setCell ?_ ?_ _ | refine Below.alloc ?_ ?_ _); rotate_left; focus (first | exact Nat.le_refl _ | omega | exact Below.size (by assumption) | (simp <;> omega))) | with_reducible refine Below.drew ?_ | with_reducible refine drewN_ ?_ _)))).trans hgrow2; have HALL2 := Lib.hid hall2; have HOWN2 := Lib.hid hown2; have HAT2 := Lib.hid (show ((.slice ao no co) : Value).ownBlock = some g2 ∨ w6.heap.size ≤ g2 from hat2.imp id (fun e => by rw [e]; first | exact Nat.le_refl _ | (simp; done) | (simp; omega))); have HM7 := Lib.hid (HM6.out.add HNO.out.symm HALL2.out HOWN2.out HAT2.out); clear hgrow2 hat2 hall2 hown2)
          go_roundw
          case rel =>
           refine ⟨k + 1, nk + u.time, _, _, L' ++ [(⟨nk + u.time, u.dst⟩ : Stp)], G' ++ [g], by go_num, rfl, rfl, rfl, by omega, by omega, by omega, by simp; omega, by have := HNO.out; simp; omega, by have := HNL.out; simp; omega, HMV.out.2.symm, HM7.out, ?_⟩
           show Full _ _ _
           rw [HMV.out.1, ← List.append_assoc]
           exact hFk.out.one _
          case measure => simp [intOf]; omega
        ·obtain rfl : k = nh := by omega
         have hall0 : (hopsT S t.speed R).take k = hopsT S t.speed R := by rw [← HNH.out]; exact moves_all S t.speed R
         have hNK2 := hNK.out
         have hFk2 := hFk.out
         rw [hall0] at hNK2 hFk2
         have HNK := Lib.hid hNK2
         have HFK := Lib.hid hFk2
         have hszw := hMk.out.size
         clear hNK2 hFk2 hall0
         go_wp2_with fail
         go_meet
         exact ⟨hopsT S t.speed R, nk, _, _, L', G', rfl, rfl, rfl, hnk1, by omega, hLk0, by omega, by omega, HDR.out, HNK.out, HFK.out, hMk.out.mem, VKW.out, by omega⟩
   case rest =>
    obtain ⟨l, nk, vo', vl', L', G', rfl, rfl, rfl, hnk1, hnk2, hL0, hL', hG', hDR, hNK, hFd, hMd, hVd, hzd⟩ := hcut
    obtain ⟨al, nl, cl, rfl⟩ := hMd.out.leg.val
    obtain ⟨ao, no, co, rfl⟩ := hMd.out.out.val
    have hnl := hMd.out.leg.sl.len
    have hno := hMd.out.out.sl.len
    rw [List.length_map] at hnl hno
    rw [hnl] at hG'
    rw [hno] at hL0 hL'
    have HNL := Lib.hid hnl
    have HNO := Lib.hid hno
    have hPc := keepObj hMd.out.low P0.out
    have p0 := obj_cell hPc 0
    have p1 := obj_cell hPc 1
    have vv0 := obj_cell hVd.out 0
    have vv1 := obj_cell hVd.out 1
    simp at p0 p1 vv0 vv1
    have zpc := obj_lt hPc
    have zvc := obj_lt hVd.out
    have BXc := Lib.hid (B0.out.trans (hMd.out.low.mono B0.out.size))
    have HNc := Lib.hid ((HN.out.keep BXc.out (Nat.le_refl _)).mono (B' := wc.heap.size) (by have := BXc.out.size; omega))
    have hsum : IntKind.i64.wrap (nk + x.wait) = nk + x.wait := IntWalk.i64_in _ (by omega)
    have hB1 := hMd.out.sz
    clear hPc hnl hno q0 q1 q2 q3 q4 q5 q6 tb0 tb1 tb2 tb3 tb4
    go_upto_region 21 with (go_at_call 55; refine (at_any S.net v1 v2 x.node _ (HNc.out.later (by (repeat (first | with_reducible exact Below.refl _ _ | with_reducible assumption | ((with_reducible first | refine Below.setCell ?_ ?_ _ | refine Below.alloc ?_ ?_ _); rotate_left; focus (first | exact Nat.le_refl _ | omega | exact Below.size (by assumption) | (simp <;> omega))) | with_reducible refine Below.drew ?_ | with_reducible refine drewN_ ?_ _)))) HK.out).mono ?_; rintro e w2 ⟨⟨p, c, rfl⟩, hb2⟩; have vv1' := (hb2.cell (p := ⟨bv, 1, none⟩) zvc).trans vv1; have zv2 : bv < w2.heap.size := (by have := hb2.size; omega); have HB2 := Lib.hid hb2; clear hb2)
    obtain ⟨W2, hW2⟩ : ∃ W, W = w2.alloc (.cells #[.int .i64 p.road, .bool p.q.b, .string p.q.s, .bool p.q.c, .string p.q.t] 161) := ⟨_, rfl⟩
    have B2 := Lib.hid (HB2.out.alloc HB2.out.size (.cells #[.int .i64 p.road, .bool p.q.b, .string p.q.s, .bool p.q.c, .string p.q.t] 161))
    rw [← hW2] at B2
    simp only [← hW2]
    clear hW2 vv1'
    have HM2 := Lib.hid (hMd.out.keep B2.out)
    have PV2 := Lib.hid (keepObj B2.out hVd.out)
    have PX2 := Lib.hid (keepObj HM2.out.low P0.out)
    have p0' := obj_cell PX2.out 0
    have p1' := obj_cell PX2.out 1
    have vw0 := obj_cell PV2.out 0
    have vw1 := obj_cell PV2.out 1
    simp at p0' p1' vw0 vw1
    have zp2 := obj_lt PX2.out
    have zv2' := obj_lt PV2.out
    have hB2 := HM2.out.sz
    have BX2 := Lib.hid (B0.out.trans (HM2.out.low.mono B0.out.size))
    have HN2 := Lib.hid ((HN.out.keep BX2.out (Nat.le_refl _)).mono (B' := W2.heap.size) (by have := BX2.out.size; omega))
    obtain ⟨i0, hi0, hz0', hz1', hz2'⟩ := info_parts iLeg
    obtain ⟨i1, hi1, hy0, hy1, hy2⟩ := info_parts iStop
    clear p0 p1 vv0 vv1
    go_cut [113] (fun s113 wx => ∃ bb : Bool, s113 = .bool bb ∧ (bb = true → 0 < x.wait) ∧ W2 = wx)
    case first =>
     by_cases hwz : 0 < x.wait
     ·by_cases hc0 : c = 0
      ·have hc0' : (c == 0) = true := by simpa using hc0
       go_wp2_with fail
       go_meet
       exact ⟨_, rfl, (fun _ => hwz), rfl⟩
      ·have hc0' : (c == 0) = false := by simpa using hc0
       go_wp2_with fail
       go_meet
       exact ⟨_, rfl, (fun h => by simp at h), rfl⟩
     ·go_wp2_with fail
      go_meet
      exact ⟨_, rfl, (fun h => by simp at h), rfl⟩
    case rest =>
    obtain ⟨bb, rfl, hbb, hww⟩ := hcut
    subst hww
    go_upto_if 113 with fail
    go_cut [9] (fun s9 wx => ∃ (vl2 : Value) (G2 : List LegD), vl2 = s9 ∧ G2.length ≤ nl + 1 ∧ Hid (WMem W0.heap.size W0 (.slice ao no co) vl2 L' G2 wx) ∧ Hid (wx.heap[bv]? = some (.cells #[.int .i64 x.node, .int .i64 x.wait] 92)))
    case first =>
     have HOWL : Hid (∀ W, Below W2.heap.size W2 W → W.ownsRow W0.heap.size 156 17 (.slice al nl cl) nl (G'.map LegD.cs).flatten) := fun W hW => by
      have q := (HM2.out.leg.keep hW).1
      rw [List.length_map, HNL.out] at q
      exact q
     cases bb with
     | true =>
       have hwz := hbb rfl
       go_wp2_with (first | (go_at_call 56; refine (stay_any S.net v1 v2 x.node nk (nk + x.wait) _ (HN2.out.later (by (repeat (first | with_reducible exact Below.refl _ _ | with_reducible assumption | ((with_reducible first | refine Below.setCell ?_ ?_ _ | refine Below.alloc ?_ ?_ _); rotate_left; focus (first | exact Nat.le_refl _ | omega | exact Below.size (by assumption) | (simp <;> omega))) | with_reducible refine Below.drew ?_ | with_reducible refine drewN_ ?_ _)))) HK.out ⟨by omega, by omega⟩ ⟨by omega, by omega⟩).mono ?_; rintro e w5 ⟨⟨g, rfl⟩, hb5⟩; have B5 := from_ (w := W2) hb5 (by (repeat (first | with_reducible exact Below.refl _ _ | with_reducible assumption | ((with_reducible first | refine Below.setCell ?_ ?_ _ | refine Below.alloc ?_ ?_ _); rotate_left; focus (first | exact Nat.le_refl _ | omega | exact Below.size (by assumption) | (simp <;> omega))) | with_reducible refine Below.drew ?_ | with_reducible refine drewN_ ?_ _))); clear hb5) | (at_builtin; refine wpList_append_lies _ (by rfl) _ _ _ (by rfl) W0.heap.size 156 i0 _ 17 200 uLegs hi0 hz0' hz1' hz2' rfl (by decide) (.slice al nl cl) nl (G'.map LegD.cs).flatten (by rfl) (HOWL.out _ (by (repeat (first | with_reducible exact Below.refl _ _ | with_reducible assumption | ((with_reducible first | refine Below.setCell ?_ ?_ _ | refine Below.alloc ?_ ?_ _); rotate_left; focus (first | exact Nat.le_refl _ | omega | exact Below.size (by assumption) | (simp <;> omega))) | with_reducible refine Below.drew ?_ | with_reducible refine drewN_ ?_ _)))) ⟨w5.heap.size, 0, none⟩ 1 1 g.cs (by rfl) rfl (World.news_of_block (cs := #[.bool g.f.b, .string g.f.s, .bool g.f.c, .string g.f.t, .bool g.t.b, .string g.t.s, .bool g.t.c, .string g.t.t, .int .i64 g.road, .bool g.a.b, .string g.a.s, .bool g.a.c, .string g.a.t, .bool g.z.b, .string g.z.s, .bool g.z.c, .string g.z.t]) (t := 156) (fr := (0, 0)) (obj_last _ _)) (leg_one g) (by omega) (by unfold maxLen; omega) (by omega) (by have := B5.size; first | omega | (simp; omega)) _ rfl ?_; intro gg cap w6 hown1 hgrow hat hlt1; have hall : W2.grownBy w6 (Value.slice al nl cl).ownBlock := (grown_of (by (repeat (first | with_reducible exact Below.refl _ _ | with_reducible assumption | ((with_reducible first | refine Below.setCell ?_ ?_ _ | refine Below.alloc ?_ ?_ _); rotate_left; focus (first | exact Nat.le_refl _ | omega | exact Below.size (by assumption) | (simp <;> omega))) | with_reducible refine Below.drew ?_ | with_reducible refine drewN_ ?_ _)))).trans hgrow; have HALL := Lib.hid hall; have HOWN := Lib.hid hown1; have HV6 := Lib.hid (row_keeps hall (fun e => by have := HM2.out.leg.type _ e _ _ _ PV2.out; exact absurd this (by decide)) PV2.out); clear hgrow hat hall hown1))
       go_meet
       exact ⟨_, G' ++ [g], rfl, by have := HNL.out; simp; omega, HM2.out.addLeg HNL.out.symm HALL.out HOWN.out, HV6.out⟩
     | false =>
      go_wp2_with fail
      go_meet
      exact ⟨_, G', rfl, by have := HNL.out; omega, HM2.out, PV2.out⟩
    case rest =>
     obtain ⟨vl2, G2, rfl, hG2, hM2, hV2⟩ := hcut
     have HWS := Lib.hid (WM.start hM2.out)
     have PXe := Lib.hid (keepObj hM2.out.low P0.out)
     clear p0' p1' vw0 vw1
     go_wp2_with fail
     go_loopw [7, 8] (fun s7 s8 wx => ∃ (tt : Int) (vo2 : Value) (L2 : List Stp), s7 = .int .i64 tt ∧ vo2 = s8 ∧ nk ≤ tt ∧ tt ≤ nk + x.wait ∧ no ≤ L2.length ∧ L2.length ≤ max no 257 ∧ Hid (L2 ++ waits S.gap x.node x.wait.toNat tt (nk + x.wait) = L' ++ waits S.gap x.node x.wait.toNat nk (nk + x.wait)) ∧ Hid (WM W0.heap.size W0 wc (Value.slice ao no co).ownBlock vl2.ownBlock vo2 vl2 L2 G2 wx)) (fun s7 _ _ => (nk + x.wait - intOf s7).toNat)
     case atStart => exact ⟨nk, _, L', rfl, rfl, Int.le_refl _, by omega, by have := HNO.out; omega, by have := HNO.out; omega, rfl, HWS.out⟩
     case round =>
      obtain ⟨tt, vo2, L2, rfl, rfl, htt1, htt2, hn21, hn22, hE, hMw⟩ := hrel
      obtain ⟨aw, nw, cw, rfl⟩ := hMw.out.mem.out.val
      have hnw := hMw.out.mem.out.sl.len
      rw [List.length_map] at hnw
      have HNW := Lib.hid hnw
      rw [hnw] at hn21 hn22
      have hPw := hMw.out.obj PXe.out (by decide) (by decide)
      have hVw := hMw.out.obj hV2.out (by decide) (by decide)
      have pg2 := obj_cell hPw 2
      have vw0 := obj_cell hVw 0
      simp at pg2 vw0
      have zpw := obj_lt hPw
      have zvw := obj_lt hVw
      have hBw := hMw.out.mem.sz
      have HOWW : Hid (∀ W, Below wr.heap.size wr W → W.ownsRow W0.heap.size 66 2 (.slice aw nw cw) nw (L2.map Stp.cs).flatten) := fun W hW => by
       have q := (hMw.out.mem.out.keep hW).1
       rw [List.length_map, HNW.out] at q
       exact q
      clear hnw hPw hVw
      have hnw9 : nw ≤ 100000 := by omega
      by_cases h1 : tt < nk + x.wait
      ·by_cases h2 : nw ≤ 256
       ·have h2' : (nw : Int) ≤ 256 := by omega
        have hwr : IntKind.i64.wrap (tt + S.gap) = tt + S.gap := IntWalk.i64_in _ (by omega)
        obtain ⟨tq, htq⟩ : ∃ z, min (tt + S.gap) (nk + x.wait) = z := ⟨_, rfl⟩
        have htq1 : tt < tq ∧ tq ≤ nk + x.wait := by omega
        go_wp2_with (at_builtin; refine wpList_append_lies _ (by rfl) _ _ _ (by rfl) W0.heap.size 66 i1 _ 2 16 uStops hi1 hy0 hy1 hy2 rfl (by decide) (.slice aw nw cw) nw (L2.map Stp.cs).flatten (by rfl) (HOWW.out _ (by (repeat (first | with_reducible exact Below.refl _ _ | with_reducible assumption | ((with_reducible first | refine Below.setCell ?_ ?_ _ | refine Below.alloc ?_ ?_ _); rotate_left; focus (first | exact Nat.le_refl _ | omega | exact Below.size (by assumption) | (simp <;> omega))) | with_reducible refine Below.drew ?_ | with_reducible refine drewN_ ?_ _)))) ⟨wr.heap.size, 0, none⟩ 1 1 (⟨tq, x.node⟩ : Stp).cs (by rfl) rfl (World.news_of_block (cs := #[.int .i64 (tq), .int .i64 x.node]) (t := 66) (fr := (0, 0)) (obj_last _ _)) (stp_one _) (by omega) (by unfold maxLen; omega) (by omega) (by simp; omega) _ rfl ?_; intro g2 cap2 w7 hown2 hgrow2 hat2 hlt2; have hall2 : wr.grownBy w7 ((.slice aw nw cw) : Value).ownBlock := (grown_of (by (repeat (first | with_reducible exact Below.refl _ _ | with_reducible assumption | ((with_reducible first | refine Below.setCell ?_ ?_ _ | refine Below.alloc ?_ ?_ _); rotate_left; focus (first | exact Nat.le_refl _ | omega | exact Below.size (by assumption) | (simp <;> omega))) | with_reducible refine Below.drew ?_ | with_reducible refine drewN_ ?_ _)))).trans hgrow2; have HALL2 := Lib.hid hall2; have HOWN2 := Lib.hid hown2; have HAT2 := Lib.hid (show ((.slice aw nw cw) : Value).ownBlock = some g2 ∨ wr.heap.size ≤ g2 from hat2.imp id (fun e => by rw [e]; first | exact Nat.le_refl _ | (simp; done) | (simp; omega))); have HMX := Lib.hid (hMw.out.add HNW.out.symm HALL2.out HOWN2.out HAT2.out); clear hgrow2 hat2 hall2 hown2)
        go_roundw
        case rel =>
         have hst := waits_step (gap := S.gap) (node := x.node) (now := tt) (fin := nk + x.wait) (k := x.wait.toNat) h1 (by omega)
         obtain ⟨jj, hjj, he⟩ := hst
         rw [htq, waits_fuel (gap := S.gap) (node := x.node) (fin := nk + x.wait) hg.1 jj x.wait.toNat tq (by omega) (by omega)] at he
         refine ⟨tq, _, L2 ++ [(⟨tq, x.node⟩ : Stp)], rfl, rfl, by omega, by omega, by have := HNW.out; simp; omega, by have := HNW.out; simp; omega, ?_, HMX.out⟩
         show _ = _
         rw [← hE.out, he]; simp
        case measure => simp [intOf]; omega
       ·have h2' : ¬(nw : Int) ≤ 256 := by omega
        have h3' : (256 : Int) < (nw : Int) := by omega
        have h3 : 256 < nw := by omega
        have HWT := Lib.hid (waits_out hg.1 (by omega) hE.out (.inr (by have := HNW.out; omega)) (by have h1 := HNO.out; have h2 := HNW.out; omega))
        go_wp2_with fail
        go_roundw
        case rel =>
         have q := tour_next hTT.out HTA.out HX.out hDR.out
         rw [← hNK.out] at q
         have h8 := HNO.out
         have h9 := HNW.out
         have hF2 := hFd.out.wait (L2 := L2) (W2 := waits S.gap x.node x.wait.toNat nk (nk + x.wait)) HWT.out (fun h => by omega)
         rw [hNK.out] at hF2
         rw [← hNK.out] at hF2
         refine ⟨i + 1, nk + x.wait, _, _, _, L2, G2, by go_num, rfl, rfl, rfl, ?_, by omega, by omega, by omega, by omega, by omega, hMw.out.mem, q, hF2⟩
         unfold over; rw [if_pos (by omega)]
        case measure => simp [intOf]; omega
      ·by_cases h3 : 256 < nw
       ·have h3' : (256 : Int) < (nw : Int) := by omega
        have HWT := Lib.hid (waits_out hg.1 (by omega) hE.out (.inl h1) (by have h1 := HNO.out; have h2 := HNW.out; omega))
        go_wp2_with fail
        go_roundw
        case rel =>
         have q := tour_next hTT.out HTA.out HX.out hDR.out
         rw [← hNK.out] at q
         have h8 := HNO.out
         have h9 := HNW.out
         have hF2 := hFd.out.wait (L2 := L2) (W2 := waits S.gap x.node x.wait.toNat nk (nk + x.wait)) HWT.out (fun h => by omega)
         rw [hNK.out] at hF2
         rw [← hNK.out] at hF2
         refine ⟨i + 1, nk + x.wait, _, _, _, L2, G2, by go_num, rfl, rfl, rfl, ?_, by omega, by omega, by omega, by omega, by omega, hMw.out.mem, q, hF2⟩
         unfold over; rw [if_pos (by omega)]
        case measure => simp [intOf]; omega
       ·have h3' : ¬(256 : Int) < (nw : Int) := by omega
        have HWT := Lib.hid (waits_out hg.1 (by omega) hE.out (.inl h1) (by have h1 := HNO.out; have h2 := HNW.out; omega))
        go_wp2_with fail
        go_roundw
        case rel =>
         have q := tour_next hTT.out HTA.out HX.out hDR.out
         rw [← hNK.out] at q
         have h8 := HNO.out
         have h9 := HNW.out
         have hF2 := hFd.out.wait (L2 := L2) (W2 := waits S.gap x.node x.wait.toNat nk (nk + x.wait)) HWT.out (fun h => by omega)
         rw [hNK.out] at hF2
         rw [← hNK.out] at hF2
         refine ⟨i + 1, nk + x.wait, _, _, _, L2, G2, by go_num, rfl, rfl, rfl, ?_, by omega, by omega, by omega, by omega, by omega, hMw.out.mem, q, hF2⟩
         unfold over; rw [if_neg (by omega), if_neg (by omega)]
        case measure => simp [intOf]; omega
  ·obtain rfl : i = m := by omega
   have hTT2 := hTT.out
   rw [List.drop_eq_nil_of_le (by rw [HM.out]; exact Nat.le_refl _)] at hTT2
   have hTT3 : tour S t.speed none t.start t.vis = .ok Pre := by rw [hTT2]; simp [tour, cont]
   have HF := Lib.hid hF.out
   by_cases hov : 256 < L.length
   ·have ho : over L = 3 := if_pos hov
    have HE := Lib.hid (show stopsS S t = .error 3 from by
     unfold stopsS
     rw [hTT3]
     refine if_pos ?_
     rcases Nat.lt_or_ge 256 (Pre.length + 1) with h | h
     ·exact h
     ·have h5 := HF.out.1 (by simp; omega)
      rw [h5] at hov
      simp at hov
      omega)
    rw [ho]
    clear hTT2 hTT3 ho
    go_wp2_with fail
    go_ret3
    refine ⟨?_, BX.out⟩
    unfold WalkRes
    rw [HE.out]
    exact ⟨by decide, rfl⟩
   ·have ho : over L = 0 := if_neg hov
    have hpre : Pre.length + 1 ≤ 256 := by
     rcases Nat.lt_or_ge 256 (Pre.length + 1) with h | h
     ·have := HF.out.2 (by simp; omega)
      omega
     ·exact h
    have HLL := Lib.hid (HF.out.1 (by simp; omega))
    have HE := Lib.hid (show stopsS S t = .ok (⟨t.start, xo.node⟩ :: Pre) from by
     unfold stopsS
     rw [hTT3, HXO.out]
     exact if_neg (by omega))
    rw [ho]
    clear hTT2 hTT3 ho
    go_wp2_with fail
    go_ret3
    refine ⟨?_, BX.out⟩
    unfold WalkRes
    rw [HE.out]
    refine ⟨_, _, rfl, ?_⟩
    have q := hM.out.out.mono (B' := w.heap.size) (by omega)
    rw [HLL.out] at q
    exact q
end Go.Proofs.YtmplajpbmojkkaaGreat
