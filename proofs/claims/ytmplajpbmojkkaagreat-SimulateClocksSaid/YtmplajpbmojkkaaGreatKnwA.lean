/-
 The chapter's first example: the plain law.
 The chapter's first example, walked.
 The checks of the chapter's examples, walked.
 Whether a story is short.
-/
import Derived.Test.YtmplajpbmojkkaaGreatRepA
import Derived.Test.YtmplajpbmojkkaaGreatScnI
set_option linter.unusedSimpArgs false
set_option linter.unusedVariables false
namespace Go.Proofs.YtmplajpbmojkkaaGreat
open Go Go.Vi Go.Sort
def exNet : Net := ⟨[⟨1, 0, 0⟩, ⟨2, 10, 0⟩], [⟨1, 1, 2, 10, 4, false⟩]⟩
def exTrp (dev : Int) : Trp := ⟨1, dev, 5, 9, [⟨1, 2⟩, ⟨2, 0⟩]⟩
def exS (gap dev : Int) (C : List Clk) (Y : List Snc) : Scn := ⟨exNet, gap, [exTrp dev], C, Y⟩
def exH (k : Int) : List Hp := if k = 2 then [⟨1, 1, 10⟩] else if k = 1 then [⟨2, 1, 10⟩] else []
theorem exH1 : hopsG exNet.roads = exH := by
 funext k
 show addH (addH (fun _ => []) 1 ⟨2, 1, 10⟩) 2 ⟨1, 1, 10⟩ k = exH k
 unfold addH exH
 by_cases h2 : k = 2
 ·simp [h2]
 ·by_cases h1 : k = 1
  ·simp [h1]
  ·simp [h1, h2]
theorem exH2 : hopsG exNet.rev.roads = exH := by
 funext k
 show addH (addH (fun _ => []) 2 ⟨1, 1, 10⟩) 1 ⟨2, 1, 10⟩ k = exH k
 unfold addH exH
 by_cases h2 : k = 2
 ·simp [h2]
 ·by_cases h1 : k = 1
  ·simp [h1]
  ·simp [h1, h2]
theorem fin_one (h : Hp) : Fin [h] [h] := ⟨[h], List.Perm.refl _, List.pairwise_singleton _ _, rfl⟩
theorem fin_nil : Fin [] [] := ⟨[], List.Perm.refl _, List.Pairwise.nil, rfl⟩
theorem exFin (k : Int) : Fin (exH k) (exH k) := by
 unfold exH
 split
 ·exact fin_one _
 ·split
  ·exact fin_one _
  ·exact fin_nil
theorem exLen {u : Int} {h : Hp} (hh : h ∈ exH u) : h.len = 10 := by
 unfold exH at hh
 split at hh
 ·simp at hh; rw [hh]
 ·split at hh
  ·simp at hh; rw [hh]
  ·cases hh
theorem exWalk {v d : Int} (h : Walk exH 2 v d) : 0 ≤ d ∧ (v = 1 → 10 ≤ d) := by
 induction h with
 | nil => exact ⟨Int.le_refl _, fun h => absurd h (by decide)⟩
 | snoc hw hh ih =>
  have := exLen hh
  omega
theorem exLeast1 : Least exH 2 1 10 := by
 refine ⟨?_, fun d h => (exWalk h).2 rfl⟩
 have := Walk.snoc (A := exH) (s := 2) (h := ⟨1, 1, 10⟩) Walk.nil (by simp [exH])
 simpa using this
theorem exLeast2 : Least exH 2 2 0 := ⟨Walk.nil, fun d h => (exWalk h).1⟩
theorem exRoute : IsRoute exNet 1 2 [⟨2, 1, 10⟩] 10 := by
 refine ⟨rfl, rfl, exH, exH, fun k => by rw [exH1]; exact exFin k, fun k => by rw [exH2]; exact exFin k, exLeast1, ?_⟩
 have h0 : 0 < (exH 1).length := by decide
 have e : (exH 1)[0] = ⟨2, 1, 10⟩ := rfl
 have := Way.step (A := exH) (left := Least exH 2) (b := 2) (a := 1) (R := []) (i := 0) (by decide) h0 ⟨0, 10, by rw [e]; exact exLeast2, exLeast1, by rw [e]; rfl⟩ (fun j hj => absurd hj (Nat.not_lt_zero _)) (by rw [e]; exact Way.done)
 rw [e] at this
 exact this
theorem exDrive (gap dev : Int) (C : List Clk) (Y : List Snc) : driveTo (exS gap dev C Y) 9 1 2 = if gap < 3 then .error 25 else .ok [(2, 3)] := by
 unfold driveTo
 have e1 : routeOf (exS gap dev C Y).net 1 2 = some [⟨2, 1, 10⟩] := routeOf_some exRoute
 rw [e1]
 have e2 : hopTime (exS gap dev C Y).net 9 1 = 3 := rfl
 by_cases h : gap < 3
 ·rw [if_pos h]
  simp only
  rw [if_pos ⟨⟨2, 1, 10⟩, by simp, by rw [e2]; exact h⟩]
 ·rw [if_neg h]
  simp only
  rw [if_neg]
  ·simp [e2]
  ·rintro ⟨x, hx, hlt⟩
   simp at hx
   rw [hx, e2] at hlt
   exact h hlt
theorem exStops (dev : Int) (C : List Clk) (Y : List Snc) : stopsS (exS 5 dev C Y) (exTrp dev) = .ok [⟨5, 1⟩, ⟨7, 1⟩, ⟨10, 2⟩] := by
 have hd := exDrive 5 dev C Y
 rw [if_neg (by decide)] at hd
 unfold stopsS
 have ht : tour (exS 5 dev C Y) (exTrp dev).speed none (exTrp dev).start (exTrp dev).vis = .ok [⟨7, 1⟩, ⟨10, 2⟩] := by
  show tour (exS 5 dev C Y) 9 none 5 [⟨1, 2⟩, ⟨2, 0⟩] = _
  unfold tour
  simp only [driveIf]
  unfold tour
  simp only [driveIf, hd]
  unfold tour
  rfl
 rw [ht]
 rfl
theorem exLate (dev : Int) (C : List Clk) (Y : List Snc) : stopsS (exS 1 dev C Y) (exTrp dev) = .error 25 := by
 have hd := exDrive 1 dev C Y
 rw [if_pos (by decide)] at hd
 unfold stopsS
 have ht : tour (exS 1 dev C Y) (exTrp dev).speed none (exTrp dev).start (exTrp dev).vis = .error 25 := by
  show tour (exS 1 dev C Y) 9 none 5 [⟨1, 2⟩, ⟨2, 0⟩] = _
  unfold tour
  simp only [driveIf]
  unfold tour
  simp only [driveIf, hd]
 rw [ht]
theorem exFit {gap dev : Int} {C : List Clk} {Y : List Snc} (hg : 1 ≤ gap ∧ gap ≤ 1073741824) (hC : (dev = 0 ∧ C = [] ∧ Y = []) ∨ (dev = 4 ∧ C = [⟨4, 100⟩] ∧ Y = [⟨4, 0, 0, 0, 0, 0⟩])) : Fit (exS gap dev C Y) := by
 have hcl : ClocksOK (exS gap dev C Y) := by
  rcases hC with ⟨rfl, rfl, rfl⟩ | ⟨rfl, rfl, rfl⟩
  ·refine ⟨fun k hk => absurd hk (Nat.not_lt_zero _), fun k hk => ?_, fun k hk => absurd hk (Nat.not_lt_zero _), fun k hk => absurd hk (Nat.not_lt_zero _)⟩
   have : k = 0 := by have : k < 1 := hk; omega
   subst this
   show hasOff [] 0 = true
   decide
  ·refine ⟨fun k hk => ?_, fun k hk => ?_, fun k hk => ?_, fun k hk => ?_⟩ <;> (have : k = 0 := by (have : k < 1 := hk); omega) <;> subst this
   ·show clkOK [⟨4, 100⟩] 0
    unfold clkOK
    decide
   ·show hasOff [⟨4, 100⟩] 4 = true
    decide
   ·show sncOK [⟨4, 100⟩] ⟨4, 0, 0, 0, 0, 0⟩
    unfold sncOK
    decide
   ·show gapOK [⟨4, 0, 0, 0, 0, 0⟩] ⟨4, 100⟩
    exact .inr ⟨_, List.mem_cons_self, rfl⟩
 refine ⟨by show netErr exNet = 0; decide, by show (1 : Nat) ≤ 100; decide, hg, by show (1 : Nat) ≤ 64; decide, ?_, hcl, ?_, ?_⟩
 ·intro i hi
  have : i = 0 := by have : i < 1 := hi; omega
  subst this
  rcases hC with ⟨rfl, _, _⟩ | ⟨rfl, _, _⟩
  ·show tripErr exNet (exTrp 0) 0 = 0
   decide
  ·show tripErr exNet (exTrp 4) 0 = 0
   decide
 ·rcases hC with ⟨_, rfl, _⟩ | ⟨_, rfl, _⟩
  ·show (0 : Nat) ≤ 1000; decide
  ·show (1 : Nat) ≤ 1000; decide
 ·rcases hC with ⟨_, _, rfl⟩ | ⟨_, _, rfl⟩
  ·show (0 : Nat) ≤ 1000; decide
  ·show (1 : Nat) ≤ 1000; decide
theorem exWay0 : wayErr (exS 5 0 [] []) = 0 := by
 unfold wayErr
 have : wayErrT (exS 5 0 [] []) (exS 5 0 [] []).trips = 0 := by
  show wayErrT (exS 5 0 [] []) [exTrp 0] = 0
  unfold wayErrT
  rw [exStops]
  rfl
 rw [this]
 rfl
theorem exWay4 : wayErr (exS 5 4 [⟨4, 100⟩] [⟨4, 0, 0, 0, 0, 0⟩]) = 0 := by
 unfold wayErr
 have : wayErrT (exS 5 4 [⟨4, 100⟩] [⟨4, 0, 0, 0, 0, 0⟩]) (exS 5 4 [⟨4, 100⟩] [⟨4, 0, 0, 0, 0, 0⟩]).trips = 0 := by
  show wayErrT (exS 5 4 [⟨4, 100⟩] [⟨4, 0, 0, 0, 0, 0⟩]) [exTrp 4] = 0
  unfold wayErrT
  rw [exStops]
  rfl
 rw [this]
 rfl
theorem exWayL (C : List Clk) (Y : List Snc) : wayErr (exS 1 4 C Y) = 25 := by
 unfold wayErr
 have : wayErrT (exS 1 4 C Y) (exS 1 4 C Y).trips = 25 := by
  show wayErrT (exS 1 4 C Y) [exTrp 4] = 25
  unfold wayErrT
  rw [exLate]
 rw [this]
 rfl
def exSnt : List Snt := [⟨5, ⟨1, 0, 0, 4, 105, 0, 0, false⟩⟩, ⟨7, ⟨1, 1, 0, 4, 107, 0, 0, false⟩⟩, ⟨10, ⟨1, 2, 0, 4, 110, 10, 0, false⟩⟩]
theorem exSent : sentS (exS 5 4 [⟨4, 100⟩] [⟨4, 0, 0, 0, 0, 0⟩]) 1 = exSnt := by
 show [exTrp 4].flatMap (sentOf (exS 5 4 [⟨4, 100⟩] [⟨4, 0, 0, 0, 0, 0⟩])) = exSnt
 simp only [List.flatMap_cons, List.flatMap_nil, List.append_nil]
 unfold sentOf
 rw [exStops]
 rfl
theorem exSort : sntSort exSnt = exSnt := by
 simp [sntSort, exSnt, Sort.insertionSort, insOuter, insInner, ltOf, sntCmp, orI, cmpI]
end Go.Proofs.YtmplajpbmojkkaaGreat
namespace Go.Proofs.YtmplajpbmojkkaaGreat
open Go Go.RowKit Go.Vi
theorem own_block {B b e k n : Nat} {w : World} {rows : List (List Value)} {cs : Array Value} (hb : w.heap[b]? = some (.cells cs e (0, 0))) (hc : cs = rows.flatten.toArray) (hB : B ≤ b) (hn : rows.length = n) (hk : ∀ r ∈ rows, r.length = k) (hm : n ≤ maxLen) : Ow B w e k (.slice (some ⟨b, 0, none⟩) n n) rows := by
 subst hc
 subst hn
 have hl := flatten_len hk
 refine ⟨⟨hl, .inr ⟨b, rows.length, _, rfl, hB, hb, Nat.le_refl _, hm, by simpa using hl, ?_⟩⟩, hk⟩
 rw [List.take_of_length_le (by simp [hl])]
theorem obj_at {X : World} {n : Nat} {o : Obj} (h : X.heap.size = n) : (X.alloc o).heap[n]? = some o := h ▸ obj_last X o
set_option maxRecDepth 100000 in
set_option maxHeartbeats 4000000 in
theorem example_any (w : World) : Calls Tryz.prog 9 #[] w fun e w' => (∃ v1 v2 v3 vv, e = .returned (.agg #[v1, v2, .int .i64 5, v3, .slice none 0 0, .slice none 0 0]) ∧ Ow w.heap.size w' 88 3 v1 (exNet.nodes.map Nd.cs) ∧ Ow w.heap.size w' 90 6 v2 (exNet.roads.map Rd.cs) ∧ Ow w.heap.size w' 61 5 v3 [(exTrp 0).cs vv] ∧ Ow w.heap.size w' 92 2 vv ((exTrp 0).vis.map Vis.cs)) ∧ Below w.heap.size w w' := by
 go_enter Tryz.func9, Tryz.ntmps9
 go_wp2_with fail
 obtain ⟨fs, hfs⟩ := uScnT
 refine bodyPost_ret (v := .agg #[.slice (some ⟨w.heap.size + 1, 0, none⟩) 2 2, .slice (some ⟨w.heap.size + 1 + 1, 0, none⟩) 1 1, .int .i64 5, .slice (some ⟨w.heap.size + 1 + 1 + 1 + 1 + 1 + 1, 0, none⟩) 1 1, .slice none 0 0, .slice none 0 0]) (results_cell_row (by rfl) _ _ w.heap.size _ _ _ _ (by rfl) (obj_old (obj_old (obj_old (obj_old (obj_old (obj_old (obj_last _ _))))))) hfs rfl iScnT) rfl ⟨⟨_, _, _, .slice (some ⟨w.heap.size + 1 + 1 + 1 + 1, 0, none⟩) 2 2, rfl, ?_, ?_, ?_, ?_⟩, (by (repeat (first | with_reducible exact Below.refl _ _ | with_reducible assumption | ((with_reducible first | refine Below.setCell ?_ ?_ _ | refine Below.alloc ?_ ?_ _); rotate_left; focus (first | exact Nat.le_refl _ | omega | exact Below.size (by assumption) | (simp <;> omega))) | with_reducible refine Below.drew ?_ | with_reducible refine drewN_ ?_ _)))⟩
 ·exact own_block (obj_old (obj_old (obj_old (obj_old (obj_old (obj_at (by simp))))))) (by rfl) (by omega) rfl (by intro r hr; obtain ⟨y, _, rfl⟩ := List.mem_map.1 hr; rfl) (by unfold maxLen; omega)
 ·exact own_block (obj_old (obj_old (obj_old (obj_old (obj_at (by simp)))))) (by rfl) (by omega) rfl (by intro r hr; obtain ⟨y, _, rfl⟩ := List.mem_map.1 hr; rfl) (by unfold maxLen; omega)
 ·exact own_block (obj_at (by simp)) (by rfl) (by omega) rfl (by intro r hr; simp at hr; subst hr; rfl) (by unfold maxLen; omega)
 ·exact own_block (obj_old (obj_old (obj_at (by simp)))) (by rfl) (by omega) rfl (by intro r hr; obtain ⟨y, _, rfl⟩ := List.mem_map.1 hr; rfl) (by unfold maxLen; omega)
end Go.Proofs.YtmplajpbmojkkaaGreat
namespace Go.Proofs.YtmplajpbmojkkaaGreat
open Go Go.RowKit Go.Vi
theorem own_allocK {B : Nat} {w : World} {e k : Nat} {v : Value} {A : List (List Value)} (h : Ow B w e k v A) (o : Obj) : Ow B (w.alloc o) e k v A := h.keep ((Below.refl _ _).alloc (Nat.le_refl _) _)
theorem own_old {B b : Nat} {w : World} {e k : Nat} {v : Value} {A : List (List Value)} (h : Ow B w e k v A) (hb : w.heap.size ≤ b) : v.ownBlock ≠ some b := fun e => by have := h.blk b e; omega
set_option maxRecDepth 100000 in
set_option maxHeartbeats 8000000 in
theorem known_any (w : World) : Calls Tryz.prog 4 #[] w fun e w' => e = .returned (.bool true) ∧ Below w.heap.size w w' := by
 go_enter Tryz.func4, Tryz.ntmps4
 go_wp2_with fail
 refine (example_any _).mono ?_
 rintro e w2 ⟨⟨v1, v2, v3, vv, rfl, o1, o2, o3, ov⟩, hb2⟩
 obtain ⟨a1, n1, c1, rfl⟩ := o1.val
 obtain ⟨a2, n2, c2, rfl⟩ := o2.val
 obtain ⟨g3, c3, rfl⟩ : ∃ g cap, v3 = .slice (some ⟨g, 0, none⟩) 1 cap := by
  rcases o3.shape with ⟨_, e⟩ | ⟨g, cap, e, _⟩
  ·cases e
  ·exact ⟨g, cap, e⟩
 have O1 := Lib.hid o1
 have O2 := Lib.hid o2
 have O3 := Lib.hid o3
 have OV := Lib.hid ov
 have B2 := Lib.hid hb2
 clear hb2 o1 o2 o3 ov
 go_wp2_with fail
 obtain ⟨W1, hW1⟩ : ∃ W, W = w2.alloc (.cells #[.slice a1 n1 c1, .slice a2 n2 c2, .int .i64 5, .slice (some ⟨g3, 0, none⟩) 1 c3, .slice none 0 0, .slice none 0 0] 40) := ⟨_, rfl⟩
 have PS := Lib.hid (obj_last w2 (.cells #[.slice a1 n1 c1, .slice a2 n2 c2, .int .i64 5, .slice (some ⟨g3, 0, none⟩) 1 c3, .slice none 0 0, .slice none 0 0] 40))
 have BS := Lib.hid ((Below.refl w2.heap.size w2).alloc (Nat.le_refl _) (.cells #[.slice a1 n1 c1, .slice a2 n2 c2, .int .i64 5, .slice (some ⟨g3, 0, none⟩) 1 c3, .slice none 0 0, .slice none 0 0] 40))
 obtain ⟨bt, hbt⟩ : ∃ z, w2.heap.size = z := ⟨_, rfl⟩
 have P1 := Lib.hid (own_allocK O1.out (.cells #[.slice a1 n1 c1, .slice a2 n2 c2, .int .i64 5, .slice (some ⟨g3, 0, none⟩) 1 c3, .slice none 0 0, .slice none 0 0] 40))
 have P2 := Lib.hid (own_allocK O2.out (.cells #[.slice a1 n1 c1, .slice a2 n2 c2, .int .i64 5, .slice (some ⟨g3, 0, none⟩) 1 c3, .slice none 0 0, .slice none 0 0] 40))
 have P3 := Lib.hid (own_allocK O3.out (.cells #[.slice a1 n1 c1, .slice a2 n2 c2, .int .i64 5, .slice (some ⟨g3, 0, none⟩) 1 c3, .slice none 0 0, .slice none 0 0] 40))
 have PV := Lib.hid (own_allocK OV.out (.cells #[.slice a1 n1 c1, .slice a2 n2 c2, .int .i64 5, .slice (some ⟨g3, 0, none⟩) 1 c3, .slice none 0 0, .slice none 0 0] 40))
 have x1 := own_old O1.out (b := bt) (by omega)
 have x2 := own_old O2.out (b := bt) (by omega)
 have x3 := own_old O3.out (b := bt) (by omega)
 have xv := own_old OV.out (b := bt) (by omega)
 have X1 := Lib.hid x1
 have X2 := Lib.hid x2
 have X3 := Lib.hid x3
 have XV := Lib.hid xv
 have hbtw : w.heap.size ≤ bt := by have := B2.out.size; omega
 have BW1 := Lib.hid (B2.out.trans (BS.out.mono B2.out.size))
 rw [hbt] at PS ⊢
 rw [← hW1] at PS BW1 P1 P2 P3 PV ⊢
 clear hW1 hbt BS O1 O2 O3 OV B2 x1 x2 x3 xv
 have hS0 : ScnAt W1.heap.size W1 (.slice a1 n1 c1) (.slice a2 n2 c2) (.slice (some ⟨g3, 0, none⟩) 1 c3) (.slice none 0 0) (.slice none 0 0) (exS 5 0 [] []) :=
  ⟨⟨P1.out.sl, P2.out.sl⟩, ⟨[vv], rfl, P3.out.sl, fun i hi => by
   have : i = 0 := by have : i < 1 := hi; omega
   subst this; exact PV.out.sl⟩, (Ow.nil W1.heap.size W1 0 2).sl, (Ow.nil W1.heap.size W1 0 6).sl⟩
 have hst := stopsF_any (exS 5 0 [] []) _ _ _ _ _ 0 W1 hS0 (exFit ⟨by decide, by decide⟩ (.inl ⟨rfl, rfl, rfl⟩)) exWay0 (by show 0 < 1; decide)
 have HST := Lib.hid hst
 clear hst hS0
 refine HST.out.mono ?_
 rintro e w3 ⟨⟨L, vl, hL, rfl, hOL, _⟩, hb3⟩
 have hL2 : L = [⟨5, 1⟩, ⟨7, 1⟩, ⟨10, 2⟩] := by
  have e := exStops 0 [] []
  have h2 : stopsS (exS 5 0 [] []) (exTrp 0) = .ok L := hL
  rw [e] at h2
  injection h2 with h2
  exact h2.symm
 subst hL2
 obtain ⟨gl, cl, rfl⟩ : ∃ g cap, vl = .slice (some ⟨g, 0, none⟩) 3 cap := by
  rcases hOL.shape with ⟨_, e⟩ | ⟨g, cap, e, _⟩
  ·cases e
  ·exact ⟨g, cap, e⟩
 have Q1 := Lib.hid (P1.out.keep hb3)
 have Q2 := Lib.hid (P2.out.keep hb3)
 have Q3 := Lib.hid (P3.out.keep hb3)
 have QV := Lib.hid (PV.out.keep hb3)
 have QL := Lib.hid (hOL.mono (B' := w.heap.size) (BW1.out.size))
 have PS3 := Lib.hid (keepObj hb3 PS.out)
 have BW3 := Lib.hid (BW1.out.trans (hb3.mono BW1.out.size))
 clear hb3 hOL hL P1 P2 P3 PV PS BW1 HST
 have s0 := obj_cell PS3.out 0
 have s1 := obj_cell PS3.out 1
 have s2 := obj_cell PS3.out 2
 have s3 := obj_cell PS3.out 3
 have s4 := obj_cell PS3.out 4
 have s5 := obj_cell PS3.out 5
 have s4f := obj_free PS3.out 4
 have s5f := obj_free PS3.out 5
 simp at s0 s1 s2 s3 s4 s5
 have t1 := Q3.out.cell 0 (by show 0 < 1; decide) 1 (by decide)
 have t1f := Q3.out.free 1
 simp [Trp.cs, exTrp] at t1
 have zt := obj_lt PS3.out
 have zg := (Q3.out.blk g3 rfl).2
 have hne : g3 ≠ bt := fun e => X3.out (by rw [← e]; rfl)
 have hg3w : w.heap.size ≤ g3 := (Q3.out.blk g3 rfl).1
 have y1 : (Value.slice a1 n1 c1).ownBlock ≠ some g3 := fun e => by
  rcases rows_apart Q3.out Q1.out (by decide) with h | h
  ·rw [h] at e; cases e
  ·exact h e
 have y2 : (Value.slice a2 n2 c2).ownBlock ≠ some g3 := fun e => by
  rcases rows_apart Q3.out Q2.out (by decide) with h | h
  ·rw [h] at e; cases e
  ·exact h e
 have yv : vv.ownBlock ≠ some g3 := fun e => by
  rcases rows_apart Q3.out QV.out (by decide) with h | h
  ·rw [h] at e; cases e
  ·exact h e
 have yl : (Value.slice (some ⟨gl, 0, none⟩) 3 cl).ownBlock ≠ some g3 := fun e => by
  rcases rows_apart Q3.out QL.out (by decide) with h | h
  ·rw [h] at e; cases e
  ·exact h e
 have xl : (Value.slice (some ⟨gl, 0, none⟩) 3 cl).ownBlock ≠ some bt := fun e => by
  have := QL.out.type _ e _ _ _ PS3.out
  exact absurd this (by decide)
 have Y1 := Lib.hid y1
 have Y2 := Lib.hid y2
 have YV := Lib.hid yv
 have YL := Lib.hid yl
 have XL := Lib.hid xl
 clear y1 y2 yv yl xl
 go_wp2_with fail
 obtain ⟨Wk, hWk⟩ : ∃ W, W = ((((w3.setCell ⟨bt, 4, none⟩ (.slice (some ⟨w3.heap.size, 0, none⟩) 1 1)).setCell ⟨bt, 5, none⟩ (.slice (some ⟨w3.heap.size + 1, 0, none⟩) 1 1)).setCell ⟨g3, 1, none⟩ (.int .i64 4)).alloc (.cells #[.int .i64 4, .int .i64 100] 48)).alloc (.cells #[.int .i64 4, .int .i64 0, .int .i64 0, .int .i64 0, .int .i64 0, .int .i64 0] 58) := ⟨_, rfl⟩
 have R1 := Lib.hid (own_allocK (own_allocK (((Q1.out.keepSet ⟨bt, 4, none⟩ X1.out (.slice (some ⟨w3.heap.size, 0, none⟩) 1 1)).keepSet ⟨bt, 5, none⟩ X1.out (.slice (some ⟨w3.heap.size + 1, 0, none⟩) 1 1)).keepSet ⟨g3, 1, none⟩ Y1.out (.int .i64 4)) (.cells #[.int .i64 4, .int .i64 100] 48)) (.cells #[.int .i64 4, .int .i64 0, .int .i64 0, .int .i64 0, .int .i64 0, .int .i64 0] 58))
 have R2 := Lib.hid (own_allocK (own_allocK (((Q2.out.keepSet ⟨bt, 4, none⟩ X2.out (.slice (some ⟨w3.heap.size, 0, none⟩) 1 1)).keepSet ⟨bt, 5, none⟩ X2.out (.slice (some ⟨w3.heap.size + 1, 0, none⟩) 1 1)).keepSet ⟨g3, 1, none⟩ Y2.out (.int .i64 4)) (.cells #[.int .i64 4, .int .i64 100] 48)) (.cells #[.int .i64 4, .int .i64 0, .int .i64 0, .int .i64 0, .int .i64 0, .int .i64 0] 58))
 have RV := Lib.hid (own_allocK (own_allocK (((QV.out.keepSet ⟨bt, 4, none⟩ XV.out (.slice (some ⟨w3.heap.size, 0, none⟩) 1 1)).keepSet ⟨bt, 5, none⟩ XV.out (.slice (some ⟨w3.heap.size + 1, 0, none⟩) 1 1)).keepSet ⟨g3, 1, none⟩ YV.out (.int .i64 4)) (.cells #[.int .i64 4, .int .i64 100] 48)) (.cells #[.int .i64 4, .int .i64 0, .int .i64 0, .int .i64 0, .int .i64 0, .int .i64 0] 58))
 have RL := Lib.hid (own_allocK (own_allocK (((QL.out.keepSet ⟨bt, 4, none⟩ XL.out (.slice (some ⟨w3.heap.size, 0, none⟩) 1 1)).keepSet ⟨bt, 5, none⟩ XL.out (.slice (some ⟨w3.heap.size + 1, 0, none⟩) 1 1)).keepSet ⟨g3, 1, none⟩ YL.out (.int .i64 4)) (.cells #[.int .i64 4, .int .i64 100] 48)) (.cells #[.int .i64 4, .int .i64 0, .int .i64 0, .int .i64 0, .int .i64 0, .int .i64 0] 58))
 have r3 := ((Q3.out.keepSet ⟨bt, 4, none⟩ X3.out (.slice (some ⟨w3.heap.size, 0, none⟩) 1 1)).keepSet ⟨bt, 5, none⟩ X3.out (.slice (some ⟨w3.heap.size + 1, 0, none⟩) 1 1)).store 0 (by show 0 < 1; decide) 1 (by decide) (.int .i64 4)
 have r3' : Ow w.heap.size (((w3.setCell ⟨bt, 4, none⟩ (.slice (some ⟨w3.heap.size, 0, none⟩) 1 1)).setCell ⟨bt, 5, none⟩ (.slice (some ⟨w3.heap.size + 1, 0, none⟩) 1 1)).setCell ⟨g3, 1, none⟩ (.int .i64 4)) 61 5 (.slice (some ⟨g3, 0, none⟩) 1 c3) [(exTrp 4).cs vv] := r3
 have R3 := Lib.hid (own_allocK (own_allocK r3' (.cells #[.int .i64 4, .int .i64 100] 48)) (.cells #[.int .i64 4, .int .i64 0, .int .i64 0, .int .i64 0, .int .i64 0, .int .i64 0] 58))
 have RS := Lib.hid (obj_old (o' := .cells #[.int .i64 4, .int .i64 0, .int .i64 0, .int .i64 0, .int .i64 0, .int .i64 0] 58) (obj_old (o' := .cells #[.int .i64 4, .int .i64 100] 48) (obj_setOther (a := ⟨g3, 1, none⟩) (v := .int .i64 4) (obj_set (off := 5) (v := .slice (some ⟨w3.heap.size + 1, 0, none⟩) 1 1) (obj_set (off := 4) (v := .slice (some ⟨w3.heap.size, 0, none⟩) 1 1) PS3.out)) (fun e => hne e.symm))))
 have hz3 := BW3.out.size
 have hk0 : Wk.heap.size = w3.heap.size + 2 := by rw [hWk]; simp
 have RC : Hid (Ow w.heap.size Wk 48 2 (.slice (some ⟨w3.heap.size, 0, none⟩) 1 1) ([(⟨4, 100⟩ : Clk)].map Clk.cs)) := by
  show Ow _ _ _ _ _ _
  rw [hWk]
  exact own_block (obj_old (obj_at (by simp))) (by rfl) hz3 rfl (by intro r hr; obtain ⟨y, _, rfl⟩ := List.mem_map.1 hr; rfl) (by unfold maxLen; omega)
 have RY : Hid (Ow w.heap.size Wk 58 6 (.slice (some ⟨w3.heap.size + 1, 0, none⟩) 1 1) ([(⟨4, 0, 0, 0, 0, 0⟩ : Snc)].map Snc.cs)) := by
  show Ow _ _ _ _ _ _
  rw [hWk]
  exact own_block (obj_at (by simp)) (by rfl) (by omega) rfl (by intro r hr; obtain ⟨y, _, rfl⟩ := List.mem_map.1 hr; rfl) (by unfold maxLen; omega)
 have BWk : Hid (Below w.heap.size w Wk) := by
  show Below _ _ _
  rw [hWk]
  have h := BW3.out
  (repeat (first | with_reducible exact Below.refl _ _ | with_reducible assumption | ((with_reducible first | refine Below.setCell ?_ ?_ _ | refine Below.alloc ?_ ?_ _); rotate_left; focus (first | exact Nat.le_refl _ | omega | exact Below.size (by assumption) | (simp <;> omega))) | with_reducible refine Below.drew ?_ | with_reducible refine drewN_ ?_ _))
 rw [← hWk] at R1 R2 RV RL R3 RS ⊢
 obtain ⟨bk, hbk⟩ : ∃ z, w3.heap.size = z := ⟨_, rfl⟩
 obtain ⟨by', hby⟩ : ∃ z, w3.heap.size + 1 = z := ⟨_, rfl⟩
 rw [hby] at RY RS ⊢
 rw [hbk] at RC RS ⊢
 clear hWk hbk hby hk0 r3 r3' s0 s1 s2 s3 s4 s5 s4f s5f t1 t1f zt zg Q1 Q2 Q3 QV QL PS3 BW3 hz3
 have hSk : ScnAt Wk.heap.size Wk (.slice a1 n1 c1) (.slice a2 n2 c2) (.slice (some ⟨g3, 0, none⟩) 1 c3) (.slice (some ⟨bk, 0, none⟩) 1 1) (.slice (some ⟨by', 0, none⟩) 1 1) (exS 5 4 [⟨4, 100⟩] [⟨4, 0, 0, 0, 0, 0⟩]) :=
  ⟨⟨R1.out.sl, R2.out.sl⟩, ⟨[vv], rfl, R3.out.sl, fun i hi => by
   have : i = 0 := by have : i < 1 := hi; omega
   subst this; exact RV.out.sl⟩, RC.out.sl, RY.out.sl⟩
 have hE1 : sentS (exS 5 4 [⟨4, 100⟩] [⟨4, 0, 0, 0, 0, 0⟩]) (exS 5 4 [⟨4, 100⟩] [⟨4, 0, 0, 0, 0, 0⟩]).trips.length = exSnt := exSent
 have hrep := reports_any (exS 5 4 [⟨4, 100⟩] [⟨4, 0, 0, 0, 0, 0⟩]) _ _ _ _ _ Wk hSk (exFit ⟨by decide, by decide⟩ (.inr ⟨rfl, rfl, rfl⟩)) exWay4 (by rw [hE1]; decide) (by rw [hE1]; decide)
 rw [hE1, exSort] at hrep
 have RS' := Lib.hid (show Wk.heap[bt]? = some (.cells #[.slice a1 n1 c1, .slice a2 n2 c2, .int .i64 5, .slice (some ⟨g3, 0, none⟩) 1 c3, .slice (some ⟨bk, 0, none⟩) 1 1, .slice (some ⟨by', 0, none⟩) 1 1] 40) by have := RS.out; simpa using this)
 have HREP := Lib.hid hrep
 clear hrep hE1 hSk RS
 refine HREP.out.mono ?_
 rintro e w5 ⟨⟨vr, rfl, hOr⟩, hb5⟩
 obtain ⟨gr, cr, rfl⟩ : ∃ g cap, vr = .slice (some ⟨g, 0, none⟩) 3 cap := by
  rcases hOr.shape with ⟨_, e⟩ | ⟨g, cap, e, _⟩
  ·cases e
  ·exact ⟨g, cap, e⟩
 have S1 := Lib.hid (R1.out.keep hb5)
 have S2 := Lib.hid (R2.out.keep hb5)
 have S3 := Lib.hid (R3.out.keep hb5)
 have SV := Lib.hid (RV.out.keep hb5)
 have SL := Lib.hid (RL.out.keep hb5)
 have SC := Lib.hid (RC.out.keep hb5)
 have SY := Lib.hid (RY.out.keep hb5)
 have SS := Lib.hid (keepObj hb5 RS'.out)
 have SR' := Lib.hid hOr
 have B5 := Lib.hid (BWk.out.trans (hb5.mono BWk.out.size))
 have hzk := obj_lt RS'.out
 clear hb5 hOr R1 R2 R3 RV RL RC RY RS' BWk HREP
 have s0 := obj_cell SS.out 0
 have s1 := obj_cell SS.out 1
 have s2 := obj_cell SS.out 2
 have s3 := obj_cell SS.out 3
 have s4 := obj_cell SS.out 4
 have s5 := obj_cell SS.out 5
 have s2f := obj_free SS.out 2
 simp at s0 s1 s2 s3 s4 s5
 have l10 := SL.out.cell 1 (by decide) 0 (by decide)
 have l11 := SL.out.cell 1 (by decide) 1 (by decide)
 have l20 := SL.out.cell 2 (by decide) 0 (by decide)
 have l21 := SL.out.cell 2 (by decide) 1 (by decide)
 simp [Stp.cs] at l10 l11 l20 l21
 have r4 := SR'.out.cell 2 (by decide) 4 (by decide)
 have r5 := SR'.out.cell 2 (by decide) 5 (by decide)
 simp [Rpt.cs, exSnt] at r4 r5
 have zt := obj_lt SS.out
 have zl := (SL.out.blk gl rfl).2
 have zr := (SR'.out.blk gr rfl).2
 have nel : gl ≠ bt := fun e => XL.out (by rw [← e]; rfl)
 have ner : gr ≠ bt := fun e => absurd (SR'.out.type gr rfl _ _ _ (by rw [e]; exact SS.out)) (by decide)
 have hbk : (Value.slice (some ⟨bk, 0, none⟩) 1 1).ownBlock ≠ some bt := fun e => absurd (SC.out.type _ e _ _ _ SS.out) (by decide)
 have hby : (Value.slice (some ⟨by', 0, none⟩) 1 1).ownBlock ≠ some bt := fun e => absurd (SY.out.type _ e _ _ _ SS.out) (by decide)
 have hS6 : ScnAt (w5.setCell ⟨bt, 2, none⟩ (.int .i64 1)).heap.size (w5.setCell ⟨bt, 2, none⟩ (.int .i64 1)) (.slice a1 n1 c1) (.slice a2 n2 c2) (.slice (some ⟨g3, 0, none⟩) 1 c3) (.slice (some ⟨bk, 0, none⟩) 1 1) (.slice (some ⟨by', 0, none⟩) 1 1) (exS 1 4 [⟨4, 100⟩] [⟨4, 0, 0, 0, 0, 0⟩]) :=
  ⟨⟨(S1.out.keepSet _ X1.out _).sl, (S2.out.keepSet _ X2.out _).sl⟩, ⟨[vv], rfl, (S3.out.keepSet _ X3.out _).sl, fun i hi => by
   have : i = 0 := by have : i < 1 := hi; omega
   subst this; exact (SV.out.keepSet _ XV.out _).sl⟩, (SC.out.keepSet _ hbk _).sl, (SY.out.keepSet _ hby _).sl⟩
 have hchk := checkW_any (exS 1 4 [⟨4, 100⟩] [⟨4, 0, 0, 0, 0, 0⟩]) _ _ _ _ _ _ hS6 (exFit ⟨by decide, by decide⟩ (.inr ⟨rfl, rfl, rfl⟩))
 rw [exWayL] at hchk
 have HCHK := Lib.hid hchk
 clear hchk hS6 hbk hby S1 S2 S3 SV SC SY X1 X2 X3 XV Y1 Y2 YV YL XL
 go_wp2_with (go_at_call 12; refine HCHK.out.mono ?_; rintro e w7 ⟨rfl, hb7⟩; have B7 := Lib.hid hb7; clear hb7)
 go_ret
 have hB7 : Below w.heap.size w (w5.setCell ⟨bt, 2, none⟩ (.int .i64 1)) := B5.out.setCell hbtw _
 exact ⟨rfl, hB7.trans (B7.out.mono hB7.size)⟩
end Go.Proofs.YtmplajpbmojkkaaGreat
namespace Go.Proofs.YtmplajpbmojkkaaGreat
open Go Go.RowKit Go.Vi
theorem all_get {α : Type} [Inhabited α] {p : α → Bool} {l : List α} (h : ∀ i, i < l.length → p l[i]! = true) : l.all p = true := by
 rw [List.all_eq_true]
 intro a ha
 obtain ⟨i, hi, rfl⟩ := List.getElem_of_mem ha
 have := h i hi
 rwa [getElem!_pos l i hi] at this
theorem not_all_get {α : Type} [Inhabited α] {p : α → Bool} {l : List α} {i : Nat} (hi : i < l.length) (h : p l[i]! = false) : l.all p = false := by
 cases hq : l.all p with
 | false => rfl
 | true =>
  have := (List.all_eq_true.1 hq) l[i]! (by rw [getElem!_pos l i hi]; exact List.getElem_mem hi)
  rw [h] at this; cases this
theorem Sto.short_true {x : Sto} (h1 : ∀ i, i < x.drives.length → x.drives[i]!.stops.length ≤ 5) (h2 : ∀ i, i < x.watches.length → x.watches[i]!.syncs.length ≤ 3) : x.short = (decide (x.drives.length ≤ 3) && decide (x.watches.length ≤ 2)) := by
 unfold Sto.short
 rw [all_get (fun i hi => by simpa using h1 i hi), all_get (fun i hi => by simpa using h2 i hi)]
 simp
theorem Sto.short_false1 {x : Sto} {i : Nat} (hi : i < x.drives.length) (h : 5 < x.drives[i]!.stops.length) : x.short = false := by
 unfold Sto.short
 rw [not_all_get hi (by simp only [decide_eq_false_iff_not]; omega)]
 simp
theorem Sto.short_false2 {x : Sto} {i : Nat} (hi : i < x.watches.length) (h : 3 < x.watches[i]!.syncs.length) : x.short = false := by
 unfold Sto.short
 rw [not_all_get hi (by simp only [decide_eq_false_iff_not]; omega)]
 simp
set_option maxRecDepth 100000 in
set_option maxHeartbeats 4000000 in
theorem short_any (x : Sto) (vp vq vd va : Value) (w : World) (hX : StoAt w.heap.size w vp vq vd va x) :
  Calls Tryz.prog 5 #[x.v vp vq vd va] w fun e w' => e = .returned (.bool x.short) ∧ Below w.heap.size w w' := by
 obtain ⟨ad, nd, cd, rfl, hnd, hnd1, hnd2⟩ := hX.dr.open
 obtain ⟨aa, na, ca, rfl, hna, hna1, hna2⟩ := hX.wa.open
 have HX := Lib.hid hX
 have HND := Lib.hid hnd
 have HNA := Lib.hid hna
 have hmd : nd ≤ maxLen := by omega
 have hma : na ≤ maxLen := by omega
 have hmd' : nd ≤ 9223372036854775807 := by unfold maxLen at hmd; omega
 have hma' : na ≤ 9223372036854775807 := by unfold maxLen at hma; omega
 have HMD := Lib.hid hmd'
 have HMA := Lib.hid hma'
 clear hX hnd hna hnd1 hnd2 hna1 hna2 hmd hma hmd' hma'
 have P0 := Lib.hid (obj_last w (.cells #[vp, vq, .slice ad nd cd, .slice aa na ca, .int .u8 x.gap, .bool x.un] 29))
 have B0 := Lib.hid ((Below.refl w.heap.size w).alloc (Nat.le_refl _) (.cells #[vp, vq, .slice ad nd cd, .slice aa na ca, .int .u8 x.gap, .bool x.un] 29))
 go_enter Tryz.func5, Tryz.ntmps5
 go_wp2_with fail
 obtain ⟨W0, hW0⟩ : ∃ W0, W0 = w.alloc (.cells #[vp, vq, .slice ad nd cd, .slice aa na ca, .int .u8 x.gap, .bool x.un] 29) := ⟨_, rfl⟩
 rw [← hW0] at P0 B0 ⊢
 clear hW0
 go_loopw [2, 3] (fun s2 s3 wr => ∃ i : Nat, s2 = .bool false ∧ s3 = .int .i64 i ∧ i ≤ nd ∧ Hid (∀ j, j < i → x.drives[j]!.stops.length ≤ 5) ∧ Hid (Below W0.heap.size W0 wr)) (fun _ s3 _ => nd - (intOf s3).toNat)
 case atStart => exact ⟨0, rfl, rfl, Nat.zero_le _, (fun j hj => by omega), Below.refl _ _⟩
 case round =>
  obtain ⟨i, rfl, rfl, hi, hst, hB⟩ := hrel
  have PX := keepObj hB.out P0.out
  have p2 := obj_cell PX 2
  simp at p2
  have zp := obj_lt PX
  have BX := Lib.hid (B0.out.trans (hB.out.mono B0.out.size))
  clear PX
  by_cases hlt : i < nd
  ·have hil : i < x.drives.length := by rw [HND.out]; exact hlt
   obtain ⟨b, off, rfl, hb, hcs⟩ := HX.out.dr.at i hil
   obtain ⟨u, hu, hcell⟩ := hcs i hil
   have d3 : w.cell? ⟨b, off + i * 4 + 3, none⟩ = _ := hcell 3 _ rfl
   rw [← BX.out.cell (p := ⟨b, _, none⟩) hb] at d3
   obtain ⟨as', m, cs', rfl, hm1, hm2, _⟩ := hu.open
   rw [List.length_map] at hm1
   have HM := Lib.hid hm1
   have hk1 : (0 : Int) ≤ (i : Int) := by omega
   have hk2 : (i : Int) < (nd : Int) := by omega
   clear hcs hcell hm1 hu
   by_cases h5 : 5 < m
   ·have h5' : (5 : Int) < (m : Int) := by omega
    have HF := Lib.hid (Sto.short_false1 (x := x) hil (by rw [HM.out]; exact h5))
    go_wp2_with fail
    go_ret
    exact ⟨by rw [HF.out]; rfl, BX.out⟩
   ·have h5' : ¬(5 : Int) < (m : Int) := by omega
    have wi : IntKind.i64.wrap ((i : Int) + 1) = (i : Int) + 1 := IntWalk.i64_in _ (by have := HMD.out; omega)
    go_wp2_with fail
    go_roundw
    case rel =>
     refine ⟨i + 1, rfl, by go_num, by omega, ?_, by have h := hB.out; show Below _ _ _; (repeat (first | with_reducible exact Below.refl _ _ | with_reducible assumption | ((with_reducible first | refine Below.setCell ?_ ?_ _ | refine Below.alloc ?_ ?_ _); rotate_left; focus (first | exact Nat.le_refl _ | omega | exact Below.size (by assumption) | (simp <;> omega))) | with_reducible refine Below.drew ?_ | with_reducible refine drewN_ ?_ _))⟩
     intro j hj
     rcases Nat.lt_succ_iff_lt_or_eq.1 hj with h | h
     ·exact hst.out j h
     ·subst h; rw [HM.out]; omega
    case measure => simp [intOf]; omega
  ·obtain rfl : i = nd := by omega
   have hlt' : ¬(i : Int) < (i : Int) := by omega
   have HST := hst
   clear hlt hst
   go_wp2_with fail
   clear p2 zp BX
   obtain ⟨W1, rfl⟩ : ∃ z : World, z = wr := ⟨_, rfl⟩
   go_loopw [2, 4] (fun s2 s4 wx => ∃ k : Nat, s2 = .bool false ∧ s4 = .int .i64 k ∧ k ≤ na ∧ Hid (∀ j, j < k → x.watches[j]!.syncs.length ≤ 3) ∧ Hid (Below W0.heap.size W0 wx)) (fun _ s4 _ => na - (intOf s4).toNat)
   case atStart => exact ⟨0, rfl, rfl, Nat.zero_le _, (fun j hj => by omega), hB.out⟩
   case round =>
    obtain ⟨k, rfl, rfl, hk, hst, hB2⟩ := hrel
    have PX := keepObj hB2.out P0.out
    have p2 := obj_cell PX 2
    have p3 := obj_cell PX 3
    simp at p2 p3
    have zp := obj_lt PX
    have BX := Lib.hid (B0.out.trans (hB2.out.mono B0.out.size))
    clear PX
    by_cases hlt : k < na
    ·have hil : k < x.watches.length := by rw [HNA.out]; exact hlt
     obtain ⟨b, off, rfl, hb, hcs⟩ := HX.out.wa.at k hil
     obtain ⟨u, hu, hcell⟩ := hcs k hil
     have d3 : w.cell? ⟨b, off + k * 2 + 1, none⟩ = _ := hcell 1 _ rfl
     rw [← BX.out.cell (p := ⟨b, _, none⟩) hb] at d3
     obtain ⟨as', m, cs', rfl, hm1, hm2, _⟩ := hu.open
     rw [List.length_map] at hm1
     have HM := Lib.hid hm1
     have hk1 : (0 : Int) ≤ (k : Int) := by omega
     have hk2 : (k : Int) < (na : Int) := by omega
     clear hcs hcell hm1 hu
     by_cases h5 : 3 < m
     ·have h5' : (3 : Int) < (m : Int) := by omega
      have HF := Lib.hid (Sto.short_false2 (x := x) hil (by rw [HM.out]; exact h5))
      go_wp2_with fail
      go_ret
      exact ⟨by rw [HF.out]; rfl, BX.out⟩
     ·have h5' : ¬(3 : Int) < (m : Int) := by omega
      have wi : IntKind.i64.wrap ((k : Int) + 1) = (k : Int) + 1 := IntWalk.i64_in _ (by have := HMA.out; omega)
      go_wp2_with fail
      go_roundw
      case rel =>
       refine ⟨k + 1, rfl, by go_num, by omega, ?_, by have h := hB2.out; show Below _ _ _; (repeat (first | with_reducible exact Below.refl _ _ | with_reducible assumption | ((with_reducible first | refine Below.setCell ?_ ?_ _ | refine Below.alloc ?_ ?_ _); rotate_left; focus (first | exact Nat.le_refl _ | omega | exact Below.size (by assumption) | (simp <;> omega))) | with_reducible refine Below.drew ?_ | with_reducible refine drewN_ ?_ _))⟩
       intro j hj
       rcases Nat.lt_succ_iff_lt_or_eq.1 hj with h | h
       ·exact hst.out j h
       ·subst h; rw [HM.out]; omega
      case measure => simp [intOf]; omega
    ·obtain rfl : k = na := by omega
     have hlt' : ¬(k : Int) < (k : Int) := by omega
     have HE := Lib.hid (Sto.short_true (x := x) (fun j hj => HST.out j (by have := HND.out; omega)) (fun j hj => hst.out j (by have := HNA.out; omega)))
     by_cases h3 : i ≤ 3
     ·have h3' : (i : Int) ≤ 3 := by omega
      by_cases h2 : k ≤ 2
      ·have h2' : (k : Int) ≤ 2 := by omega
       go_wp2_with fail
       go_ret
       exact ⟨by rw [HE.out, HND.out, HNA.out]; simp [h3, h2], BX.out⟩
      ·have h2' : ¬(k : Int) ≤ 2 := by omega
       go_wp2_with fail
       go_ret
       exact ⟨by rw [HE.out, HND.out, HNA.out]; simp [h2], BX.out⟩
     ·have h3' : ¬(i : Int) ≤ 3 := by omega
      go_wp2_with fail
      go_ret
      exact ⟨by rw [HE.out, HND.out, HNA.out]; simp; omega, BX.out⟩
end Go.Proofs.YtmplajpbmojkkaaGreat
