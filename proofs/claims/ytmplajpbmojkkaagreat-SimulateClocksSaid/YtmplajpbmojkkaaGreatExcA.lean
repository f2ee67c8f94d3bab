/-
 simulate.Exchanges, walked.
 Comparing reports, and exchanges: equal lists.
-/
import Derived.Test.YtmplajpbmojkkaaGreatRepA
set_option linter.unusedSimpArgs false
set_option linter.unusedVariables false
namespace Go.Proofs.YtmplajpbmojkkaaGreat
open Go Go.RowKit Go.Vi
structure Exc where (frm dst sent got least : Int)
instance : Inhabited Exc := ⟨⟨0, 0, 0, 0, 0⟩⟩
def Exc.cs (x : Exc) : List Value := [.int .i64 x.frm, .int .i64 x.dst, .int .i64 x.sent, .int .i64 x.got, .int .i64 x.least]
def excA (S : Scn) (x : Snc) : Exc := ⟨0, x.dev, x.sent, gotOut S x, x.out - x.so⟩
def excB (S : Scn) (x : Snc) : Exc := ⟨x.dev, 0, gotOut S x, gotBack x, x.back - x.sb⟩
def excS (S : Scn) (k : Nat) : List Exc := (S.syncs.take k).flatMap fun x => [excA S x, excB S x]
theorem excS_succ (S : Scn) {k : Nat} (h : k < S.syncs.length) : excS S (k + 1) = excS S k ++ [excA S S.syncs[k]!, excB S S.syncs[k]!] := by
 unfold excS
 rw [List.take_add_one, List.getElem?_eq_getElem h, List.flatMap_append, getElem!_pos S.syncs k h]
 simp
theorem excS_len (S : Scn) : ∀ k, k ≤ S.syncs.length → (excS S k).length = 2 * k
 | 0, _ => by simp [excS]
 | k + 1, h => by rw [excS_succ S h, List.length_append, excS_len S k (Nat.le_of_lt h)]; simp; omega
theorem uExcT : Tryz.prog.underlying 43 = some (.slice 81) := by kernel_rfl
theorem iExcT : (Tryz.prog.info? 81).map (fun i => (i.zero, i.size, i.bytes)) = some (some (.agg #[.int .i64 0, .int .i64 0, .int .i64 0, .int .i64 0, .int .i64 0]), 5, 40) := by kernel_rfl
theorem exc_cell1 (x y : Exc) : ∀ u ∈ x.cs ++ y.cs, u.oneCell' = true := by
 intro u hu
 simp only [Exc.cs, List.mem_append, List.mem_cons, List.mem_nil_iff, or_false] at hu
 rcases hu with (h | h | h | h | h) | (h | h | h | h | h) <;> rw [h] <;> rfl
theorem exc_add {B g n cap : Nat} {w' : World} {A : List Exc} {x y : Exc} (hn : n = A.length) (ho : w'.ownsRow B 81 5 (.slice (some ⟨g, 0, none⟩) (n + 2) cap) (n + 2) ((A.map Exc.cs).flatten ++ (x.cs ++ y.cs))) : Ow B w' 81 5 (.slice (some ⟨g, 0, none⟩) (n + 2) cap) ((A ++ [x, y]).map Exc.cs) := by
 subst hn
 rw [List.map_append]
 exact Ow.grow (R := A.map Exc.cs) (N := [x.cs, y.cs]) (m := 2) (by rw [List.length_map]; simpa only [List.flatten_cons, List.flatten_nil, List.append_nil] using ho) rfl (fun r hr => by obtain ⟨y, _, rfl⟩ := List.mem_map.1 hr; rfl) (fun r hr => by simp at hr; rcases hr with rfl | rfl <;> rfl)
set_option maxRecDepth 100000 in
set_option maxHeartbeats 8000000 in
theorem exchangesW_any (S : Scn) (v1 v2 v3 v4 v5 : Value) (w : World) (hS : ScnAt w.heap.size w v1 v2 v3 v4 v5 S) (hF : Fit S) (hW : wayErr S = 0) :
  Calls Tryz.prog 7 #[S.v v1 v2 v3 v4 v5] w fun e w' => (∃ v, e = .returned (.tuple #[v, .int .i64 0]) ∧ Ow w.heap.size w' 81 5 v ((excS S S.syncs.length).map Exc.cs)) ∧ Below w.heap.size w w' := by
 obtain ⟨a3, n3, c3, rfl, hn3, hn31, hn32⟩ := hS.trips.open
 obtain ⟨a4, n4, c4, rfl, hn4, hn41, hn42⟩ := hS.clocks.open
 obtain ⟨a5, n5, c5, rfl, hn5, hn51, hn52⟩ := hS.syncs.open
 rw [List.length_map] at hn5
 have hns := hF.nsyncs
 rw [hn5] at hns
 have HS := Lib.hid hS
 have HF := Lib.hid hF
 have HW := Lib.hid hW
 have HN5 := Lib.hid hn5
 clear hS hF hW hn3 hn4 hn5 hn31 hn32 hn41 hn42 hn51 hn52
 have P0 := Lib.hid (obj_last w (.cells #[v1, v2, .int .i64 S.gap, .slice a3 n3 c3, .slice a4 n4 c4, .slice a5 n5 c5] 40))
 obtain ⟨ex0_, exi, ex0, ex1, ex2⟩ := info_parts iExcT
 go_enter Tryz.func7, Tryz.ntmps7
 go_wp2_with fail
 refine (checkW_any S _ _ _ _ _ _ (HS.out.later (by (repeat (first | with_reducible exact Below.refl _ _ | with_reducible assumption | ((with_reducible first | refine Below.setCell ?_ ?_ _ | refine Below.alloc ?_ ?_ _); rotate_left; focus (first | exact Nat.le_refl _ | omega | exact Below.size (by assumption) | (simp <;> omega))) | with_reducible refine Below.drew ?_ | with_reducible refine drewN_ ?_ _)))) HF.out).mono ?_
 rintro e w1 ⟨rfl, hb1⟩
 rw [HW.out]
 have P1 := Lib.hid (keepObj hb1 P0.out)
 have B1 := Lib.hid (from_ (w := w) hb1 (by (repeat (first | with_reducible exact Below.refl _ _ | with_reducible assumption | ((with_reducible first | refine Below.setCell ?_ ?_ _ | refine Below.alloc ?_ ?_ _); rotate_left; focus (first | exact Nat.le_refl _ | omega | exact Below.size (by assumption) | (simp <;> omega))) | with_reducible refine Below.drew ?_ | with_reducible refine drewN_ ?_ _))))
 have l0 := obj_cell P1.out 0
 have l1 := obj_cell P1.out 1
 have l2 := obj_cell P1.out 2
 have l3 := obj_cell P1.out 3
 have l4 := obj_cell P1.out 4
 have l5 := obj_cell P1.out 5
 simp at l0 l1 l2 l3 l4 l5
 clear hb1
 go_wp2_with fail
 refine (offsets_any S _ _ _ _ _ _ (HS.out.clocks.later B1.out) HF.out.nclocks).mono ?_
 rintro e w2 ⟨⟨bm, rfl, hbm, hI⟩, hb2⟩
 have hP2 := keepObj hb2 P1.out
 have m5 := obj_cell hP2 5
 simp at m5
 have B2 := Lib.hid (B1.out.trans (hb2.mono B1.out.size))
 have HI := Lib.hid hI
 have zb2 := obj_lt hP2
 have PW := Lib.hid hP2
 clear hb2 hI hP2 l0 l1 l2 l3 l4 l5 P1 B1
 go_wp2_with fail
 go_loopw [5, 20] (fun s5 s20 wx => ∃ (k : Nat) (va : Value), s20 = .int .i64 k ∧ va = s5 ∧ k ≤ n5 ∧ Hid (Ow w2.heap.size wx 81 5 va ((excS S k).map Exc.cs)) ∧ Hid (Below w2.heap.size w2 wx)) (fun _ s20 _ => n5 - (intOf s20).toNat)
 case atStart => exact ⟨0, _, rfl, rfl, Nat.zero_le _, Ow.nil _ _ _ _, Below.refl _ _⟩
 case round =>
  obtain ⟨k, va, rfl, rfl, hk, hO, hB⟩ := hrel
  have BX := Lib.hid (B2.out.trans (hB.out.mono B2.out.size))
  by_cases hlt : k < n5
  ·have hkl : k < S.syncs.length := by rw [HN5.out]; exact hlt
   obtain ⟨b, off, rfl, hb, hcs⟩ := HS.out.syncs.cells k hkl
   have t0 : w.cell? ⟨b, off + k * 6, none⟩ = _ := hcs k hkl 0 _ rfl
   have t1 := hcs k hkl 1 _ rfl
   have t2 := hcs k hkl 2 _ rfl
   have t3 := hcs k hkl 3 _ rfl
   have t4 := hcs k hkl 4 _ rfl
   have t5 := hcs k hkl 5 _ rfl
   rw [← BX.out.cell (p := ⟨b, _, none⟩) hb] at t0 t1 t2 t3 t4 t5
   have hzb : b < wr.heap.size := by have := BX.out.size; omega
   have hsn := HF.out.clocks.snc k hkl
   have hss := excS_succ S hkl
   obtain ⟨x, hx⟩ : ∃ x, x = S.syncs[k]! := ⟨_, rfl⟩
   rw [← hx] at t0 t1 t2 t3 t4 t5 hsn hss
   obtain ⟨hs1, hs2, ⟨hs3, hs4⟩, ⟨hs5, hs6⟩, ⟨hs7, hs8⟩, ⟨hs9, hs10⟩, ⟨hs11, hs12⟩⟩ := hsn
   have hlo := off_look HF.out.clocks x.dev
   rw [if_pos hs1] at hlo
   obtain ⟨ho1, ho2⟩ := off_bound HF.out.clocks x.dev
   obtain ⟨o, ho⟩ : ∃ o, o = offOf S.clocks x.dev := ⟨_, rfl⟩
   rw [← ho] at hlo ho1 ho2
   have ha : excA S x = ⟨0, x.dev, x.sent, x.sent + x.out + o, x.out - x.so⟩ := by simp only [excA, gotOut, ← ho]
   have hbb : excB S x = ⟨x.dev, 0, x.sent + x.out + o, x.sent + x.out + x.back, x.back - x.sb⟩ := by simp only [excB, gotOut, gotBack, ← ho]
   have HA := Lib.hid ha
   have HBB := Lib.hid hbb
   have HSS := Lib.hid hss
   have q1 : IntKind.i64.wrap (x.sent + x.out) = x.sent + x.out := IntWalk.i64_in _ (by omega)
   have q2 : IntKind.i64.wrap (x.sent + x.out + o) = x.sent + x.out + o := IntWalk.i64_in _ (by omega)
   have q3 : IntKind.i64.wrap (x.sent + x.out + x.back) = x.sent + x.out + x.back := IntWalk.i64_in _ (by omega)
   have q4 : IntKind.i64.wrap (x.out - x.so) = x.out - x.so := IntWalk.i64_in _ (by omega)
   have q5 : IntKind.i64.wrap (x.back - x.sb) = x.back - x.sb := IntWalk.i64_in _ (by omega)
   have hlk := lens_one (w := wr.alloc (.cells #[.int .i64 x.dev, .int .i64 x.sent, .int .i64 x.out, .int .i64 x.back, .int .i64 x.so, .int .i64 x.sb] 58)) ((HI.out.keep hB.out).keep ((Below.refl wr.heap.size wr).alloc (Nat.le_refl _) (.cells #[.int .i64 x.dev, .int .i64 x.sent, .int .i64 x.out, .int .i64 x.back, .int .i64 x.so, .int .i64 x.sb] 58))) x.dev _ hlo
   have hk1 : (0 : Int) ≤ (k : Int) := by omega
   have hk2 : (k : Int) < (n5 : Int) := by omega
   obtain ⟨ab, n', cb, rfl⟩ := hO.out.val
   have hn' := hO.out.sl.len
   rw [List.length_map, excS_len S k (by omega)] at hn'
   have HNB := Lib.hid (show n' = (excS S k).length by rw [excS_len S k (by omega)]; omega)
   have HN2 := Lib.hid hn'
   have hnbb : n' ≤ 2000 := by omega
   have HOWN : Hid (∀ W, Below wr.heap.size wr W → W.ownsRow w2.heap.size 81 5 (.slice ab n' cb) n' ((excS S k).map Exc.cs).flatten) := fun W hW => by
    have qq := (hO.out.keep hW).1
    rw [List.length_map, ← HNB.out] at qq
    exact qq
   have hBw : w2.heap.size ≤ wr.heap.size := hB.out.size
   clear hcs hx hss hs1 hs2 hlo ho ha hbb hn'
   go_wp2_with (at_builtin; refine wpList_append_lies _ (by rfl) _ _ _ (by rfl) w2.heap.size 81 ex0_ _ 5 40 uExcT exi ex0 ex1 ex2 rfl (by decide) (.slice ab n' cb) n' ((excS S k).map Exc.cs).flatten (by rfl) (HOWN.out _ (by (repeat (first | with_reducible exact Below.refl _ _ | with_reducible assumption | ((with_reducible first | refine Below.setCell ?_ ?_ _ | refine Below.alloc ?_ ?_ _); rotate_left; focus (first | exact Nat.le_refl _ | omega | exact Below.size (by assumption) | (simp <;> omega))) | with_reducible refine Below.drew ?_ | with_reducible refine drewN_ ?_ _)))) ⟨wr.heap.size + 1, 0, none⟩ 2 2 ((⟨0, x.dev, x.sent, x.sent + x.out + o, x.out - x.so⟩ : Exc).cs ++ (⟨x.dev, 0, x.sent + x.out + o, x.sent + x.out + x.back, x.back - x.sb⟩ : Exc).cs) (by rfl) rfl (World.news_of_block (cs := #[.int .i64 0, .int .i64 x.dev, .int .i64 x.sent, .int .i64 (x.sent + x.out + o), .int .i64 (x.out - x.so), .int .i64 x.dev, .int .i64 0, .int .i64 (x.sent + x.out + o), .int .i64 (x.sent + x.out + x.back), .int .i64 (x.back - x.sb)]) (t := 81) (fr := (0, 0)) (obj_last2 _ _ _)) (exc_cell1 _ _) (by omega) (by unfold maxLen; omega) (by omega) (by have := hBw; first | omega | (simp; omega)) _ rfl ?_; intro g2 cap2 w7 hown2 hgrow2 hat2 hlt2; have hall2 : wr.grownBy w7 (Value.ownBlock (.slice ab n' cb)) := (grown_of (by (repeat (first | with_reducible exact Below.refl _ _ | with_reducible assumption | ((with_reducible first | refine Below.setCell ?_ ?_ _ | refine Below.alloc ?_ ?_ _); rotate_left; focus (first | exact Nat.le_refl _ | omega | exact Below.size (by assumption) | (simp <;> omega))) | with_reducible refine Below.drew ?_ | with_reducible refine drewN_ ?_ _)))).trans hgrow2; have HALL2 := Lib.hid hall2; have HOWN2 := Lib.hid hown2; clear hgrow2 hat2 hall2 hown2)
   go_roundw
   case rel =>
    refine ⟨k + 1, _, by go_num, rfl, by omega, ?_, ?_⟩
    ·show Ow _ _ _ _ _ _
     rw [HSS.out, HA.out, HBB.out]
     exact exc_add HNB.out HOWN2.out
    ·exact hB.out.grown HALL2.out hB.out.size (fun b hb => (hO.out.blk b hb).1)
   case measure => simp [intOf]; omega
  ·obtain rfl : k = n5 := by omega
   have hlt' : ¬(k : Int) < (k : Int) := by omega
   have hO' := hO.out
   rw [← HN5.out] at hO'
   have HO' := Lib.hid hO'
   clear hO'
   go_wp2_with fail
   go_ret2
   exact ⟨⟨_, rfl, HO'.out.mono B2.out.size⟩, BX.out⟩
end Go.Proofs.YtmplajpbmojkkaaGreat
namespace Go.Proofs.YtmplajpbmojkkaaGreat
open Go Go.RowKit Go.Vi
end Go.Proofs.YtmplajpbmojkkaaGreat
