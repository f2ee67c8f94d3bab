/-
  simulate's offsets: a map of the clocks' offsets.
  simulate's checkClocks and checkSyncs at what the model accepts.
  simulate's checkSyncs at what the model accepts.
  The times of stops: they rise, and lie within bounds.
-/
import Derived.Test.YthkhgfdjdpfoiaaLens
import Derived.Test.YthkhgfdjdpfoiaaClkC
import Derived.Test.YthkhgfdjdpfoiaaP08
set_option linter.unusedSimpArgs false
set_option linter.unusedVariables false
namespace Go.Proofs.Ythkhgfdjdpfoiaa
open Go Go.RowKit Go.Vi
def offE (C : List Clk) : List (Int × Int) := C.foldl (fun E c => put E c.dev c.off) [(0, 0)]
theorem offE_look (C : List Clk) (d : Int) : ∀ (E : List (Int × Int)), C.Pairwise (fun a b => a.dev ≠ b.dev) → Vi.look (C.foldl (fun E c => put E c.dev c.off) E) d = match clkOf C d with
    | some c => some c.off
    | none => Vi.look E d := by
  induction C with
  | nil => intro E _; rfl
  | cons c C ih =>
    intro E hp
    obtain ⟨h1, h2⟩ := List.pairwise_cons.1 hp
    rw [List.foldl_cons, ih _ h2, look_put]
    unfold clkOf
    rw [List.find?_cons]
    by_cases hd : c.dev = d
    · have hn : C.find? (fun x => x.dev == d) = none := by
        rw [List.find?_eq_none]
        intro x hx
        have := h1 x hx
        simp; omega
      rw [hn]
      simp [hd]
    · have hd' : (c.dev == d) = false := by simpa using hd
      rw [hd']
      simp only
      cases C.find? (fun x => x.dev == d) with
      | some x => rfl
      | none => simp only; rw [if_neg (fun e => hd e.symm)]
theorem ClocksOK.pairwise {S : Scn} (h : ClocksOK S) : S.clocks.Pairwise (fun a b => a.dev ≠ b.dev) ∧ ∀ c ∈ S.clocks, 1 ≤ c.dev := by
  have hinc : ∀ j i, i < j → j < S.clocks.length → S.clocks[i]!.dev < S.clocks[j]!.dev := by
    intro j
    induction j with
    | zero => intro i hi; omega
    | succ j ih =>
      intro i hi hj
      have h1 := (h.clk (j + 1) hj).2.1 (by omega)
      rw [Nat.add_sub_cancel] at h1
      rcases Nat.lt_succ_iff_lt_or_eq.1 hi with h2 | h2
      · have := ih i h2 (by omega); omega
      · subst h2; exact h1
  refine ⟨?_, fun c hc => ?_⟩
  · rw [List.pairwise_iff_getElem]
    intro i j hi hj hij
    have := hinc j i hij hj
    rw [getElem!_pos S.clocks i hi, getElem!_pos S.clocks j hj] at this
    omega
  · obtain ⟨i, hi, rfl⟩ := List.getElem_of_mem hc
    have := (h.clk i hi).1.1
    rw [getElem!_pos S.clocks i hi] at this; exact this
/-- What the map says of a device. -/
theorem off_look {S : Scn} (h : ClocksOK S) (d : Int) : Vi.look (offE S.clocks) d = if hasOff S.clocks d then some (offOf S.clocks d) else none := by
  obtain ⟨h1, h2⟩ := h.pairwise
  unfold offE
  rw [offE_look _ _ _ h1]
  unfold hasOff offOf
  cases hc : clkOf S.clocks d with
  | some c => rfl
  | none =>
    by_cases hd : d = 0
    · subst hd; rfl
    · have hd' : (d == 0) = false := by simpa using hd
      simp [Vi.look, hd']
      omega
set_option maxRecDepth 100000 in
set_option maxHeartbeats 2000000 in
theorem offsets_any (S : Scn) (v1 v2 v3 v4 v5 : Value) (w : World) (hC : Sl w.heap.size w 2 v4 (S.clocks.map Clk.cs)) (hsz : S.clocks.length ≤ 1000) :
    Calls Try.prog 19 #[S.v v1 v2 v3 v4 v5] w fun e w' => (∃ b, e = .returned (.map (some b)) ∧ w.heap.size ≤ b ∧ IMap w' b (ivI (offE S.clocks))) ∧ Below w.heap.size w w' := by
  obtain ⟨a, n, c, rfl, hn, hn1, hn2⟩ := hC.open
  rw [List.length_map] at hn
  rw [hn] at hsz
  have HC := Lib.hid hC
  have HN := Lib.hid hn
  have hmm := @run_makeMap Try.prog
  clear hC hn hn2
  obtain ⟨W0, hW0⟩ : ∃ W0, W0 = (w.alloc (.cells #[v1, v2, .int .i64 S.gap, v3, .slice a n c, v5] 40)).alloc (.map #[] 0) := ⟨_, rfl⟩
  have hI0 : IMap W0 (w.heap.size + 1) (ivI []) := by
    have q := IMap.made (w.alloc (.cells #[v1, v2, .int .i64 S.gap, v3, .slice a n c, v5] 40))
    have e : (w.alloc (.cells #[v1, v2, .int .i64 S.gap, v3, .slice a n c, v5] 40)).heap.size = w.heap.size + 1 := by simp
    rw [e, ← hW0] at q
    exact q
  have hup0 := hI0.update (P := Try.prog) uLens uInt 0 (.int .i64 0)
  have hI1 := hI0.updated 0 (.int .i64 0)
  rw [put_ivI] at hI1
  have hP0 : W0.heap[w.heap.size]? = some (.cells #[v1, v2, .int .i64 S.gap, v3, .slice a n c, v5] 40) := by
    rw [hW0]; exact obj_old (obj_last w _)
  have hB0 : Below w.heap.size w W0 := by rw [hW0]; (repeat (first | with_reducible exact Below.refl _ _ | with_reducible assumption | ((with_reducible refine Below.setCell ?_ ?_ _); rotate_left; focus (first | exact Nat.le_refl _ | omega | exact Below.size (by assumption) | (simp; done) | (simp; omega))) | ((with_reducible refine Below.alloc ?_ ?_ _); rotate_left; focus (first | exact Nat.le_refl _ | omega | exact Below.size (by assumption) | (simp; done) | (simp; omega))) | (with_reducible refine Below.drew ?_) | (with_reducible refine drewN_ ?_ _)))
  have hz0 : W0.heap.size = w.heap.size + 2 := by rw [hW0]; simp
  have hG := mset_grown W0 (w.heap.size + 1) 0 (.int .i64 0)
  have hP1 : (mset W0 (w.heap.size + 1) 0 (.int .i64 0)).heap[w.heap.size]? = some (.cells #[v1, v2, .int .i64 S.gap, v3, .slice a n c, v5] 40) := by
    rw [hG.block _ (by omega) (fun e => by injection e with e; omega)]; exact hP0
  have l4 := obj_cell hP1 4
  simp at l4
  have P1 := Lib.hid hP1
  have HB1 := Lib.hid (hB0.grown hG (by omega) (fun b hb => by injection hb with hb; omega))
  have HI1 := Lib.hid hI1
  have hz1 := hG.size
  have hz2 : w.heap.size + 2 ≤ (mset W0 (w.heap.size + 1) 0 (.int .i64 0)).heap.size := by omega
  clear hI0 hI1 hP0 hB0 hG hP1 hz1 hz0
  subst hW0
  go_enter Try.func19, Try.ntmps19
  go_wp2
  clear hup0
  generalize mset ((w.alloc (.cells #[v1, v2, .int .i64 S.gap, v3, .slice a n c, v5] 40)).alloc (.map #[] 0)) (w.heap.size + 1) 0 (.int .i64 0) = W1 at HB1 HI1 P1 l4 hz2 ⊢
  go_loopw [11] (fun s11 wr => ∃ k : Nat, s11 = .int .i64 k ∧ k ≤ n ∧ Hid (IMap wr (w.heap.size + 1) (ivI (offE (S.clocks.take k)))) ∧ Hid (Below w.heap.size w wr) ∧ w.heap.size + 2 ≤ wr.heap.size) (fun s11 _ => n - (intOf s11).toNat)
  case atStart => exact ⟨0, rfl, Nat.zero_le _, HI1.out, HB1.out, hz2⟩
  case round =>
    obtain ⟨k, rfl, hk, hI, hB, hz⟩ := hrel
    by_cases hlt : k < n
    · have hkl : k < S.clocks.length := by rw [HN.out]; exact hlt
      obtain ⟨b, off, rfl, hb, hcs⟩ := HC.out.cells k hkl
      have k0 : w.cell? ⟨b, off + k * 2, none⟩ = _ := hcs k hkl 0 _ rfl
      have k1 : w.cell? ⟨b, off + k * 2 + 1, none⟩ = _ := hcs k hkl 1 _ rfl
      rw [← hB.out.cell (p := ⟨b, _, none⟩) hb] at k0 k1
      have hzb : b < wr.heap.size := by omega
      obtain ⟨x, hx⟩ : ∃ x, x = S.clocks[k]! := ⟨_, rfl⟩
      rw [← hx] at k0 k1
      have HX := Lib.hid hx
      clear hcs hx
      have hI2 := hI.out.keep ((Below.refl wr.heap.size wr).alloc (Nat.le_refl _) (.cells #[.int .i64 x.dev, .int .i64 x.off] 60))
      have hup := hI2.update (P := Try.prog) uLens uInt x.dev (.int .i64 x.off)
      have hI3 := hI2.updated x.dev (.int .i64 x.off)
      have HI3 := Lib.hid hI3
      clear hI2 hI3
      go_wp2_with fail
      go_roundw
      case rel =>
        have hG := mset_grown (wr.alloc (.cells #[.int .i64 x.dev, .int .i64 x.off] 60)) (w.heap.size + 1) x.dev (.int .i64 x.off)
        have hgz := hG.size
        simp at hgz
        refine ⟨k + 1, by go_num, by omega, ?_, ?_, by omega⟩
        · show IMap _ _ _
          have e : offE (S.clocks.take (k + 1)) = put (offE (S.clocks.take k)) x.dev x.off := by
            unfold offE
            rw [List.take_succ_eq_append_getElem hkl, List.foldl_append, HX.out, getElem!_pos S.clocks k hkl]; rfl
          rw [e, ← put_ivI]; exact HI3.out
        · exact (hB.out.alloc (by omega) _).grown hG (by simp; omega) (fun b hb => by injection hb with hb; omega)
      case measure => simp [intOf]; omega
    · obtain rfl : k = n := by omega
      go_wp2
      go_ret
      have hI := hI.out
      rw [List.take_of_length_le (by rw [HN.out]; exact Nat.le_refl _)] at hI
      exact ⟨⟨_, rfl, by omega, hI⟩, hB.out⟩
end Go.Proofs.Ythkhgfdjdpfoiaa
namespace Go.Proofs.Ythkhgfdjdpfoiaa
open Go Go.RowKit Go.Vi
theorem inB_ok {n lo hi : Int} (h : lo ≤ n ∧ n ≤ hi) : inB n lo hi = true := inB_iff.2 h
theorem lens_two {w : World} {b : Nat} {E : List (Int × Int)} (h : IMap w b (ivI E)) (a d : Int) (ha : Vi.look E a = some d) : (Instr.lookup 87 (.map (some b)) (.int .i64 a) true).run Try.prog w = .ok (.tuple #[.int .i64 d, .bool true]) w := by
  have := h.lookup (P := Try.prog) uLens uInt (zInt w) a true
  rw [look_ivI, ha] at this
  exact this
set_option maxRecDepth 100000 in
set_option maxHeartbeats 4000000 in
theorem checkClocksS_any (S : Scn) (v1 v2 v3 v4 v5 : Value) (w : World) (hS : ScnAt w.heap.size w v1 v2 v3 v4 v5 S) (hK : ClocksOK S) (hz4 : S.clocks.length ≤ 1000) (hz3 : S.trips.length ≤ 1000) :
    Calls Try.prog 27 #[S.v v1 v2 v3 v4 v5] w fun e w' => e = .returned (.int .i64 0) ∧ Below w.heap.size w w' := by
  obtain ⟨a3, n3, c3, rfl, hn3, hn31, hn32⟩ := hS.trips.open
  obtain ⟨a4, n4, c4, rfl, hn4, hn41, hn42⟩ := hS.clocks.open
  rw [List.length_map] at hn4
  rw [hn4] at hz4
  rw [hn3] at hz3
  have HS := Lib.hid hS
  have HK := Lib.hid hK
  have HN3 := Lib.hid hn3
  have HN4 := Lib.hid hn4
  clear hS hK hn3 hn4 hn32 hn31 hn41 hn42
  have P0 := Lib.hid (obj_last w (.cells #[v1, v2, .int .i64 S.gap, .slice a3 n3 c3, .slice a4 n4 c4, v5] 40))
  go_enter Try.func27, Try.ntmps27
  go_wp2
  obtain ⟨W0, hW0⟩ : ∃ W0, W0 = w.alloc (.cells #[v1, v2, .int .i64 S.gap, .slice a3 n3 c3, .slice a4 n4 c4, v5] 40) := ⟨_, rfl⟩
  have B0 := Lib.hid ((Below.refl w.heap.size w).alloc (Nat.le_refl _) (.cells #[v1, v2, .int .i64 S.gap, .slice a3 n3 c3, .slice a4 n4 c4, v5] 40))
  rw [← hW0] at P0 B0 ⊢
  clear hW0
  go_loopw [13] (fun s13 wr => ∃ k : Nat, s13 = .int .i64 k ∧ k ≤ n4 ∧ Hid (Below W0.heap.size W0 wr)) (fun s13 _ => n4 - (intOf s13).toNat)
  case atStart => exact ⟨0, rfl, Nat.zero_le _, Below.refl _ _⟩
  case round =>
    obtain ⟨k, rfl, hk, hB⟩ := hrel
    have hPw := keepObj hB.out P0.out
    have l0 := obj_cell hPw 0
    have l1 := obj_cell hPw 1
    have l2 := obj_cell hPw 2
    have l3 := obj_cell hPw 3
    have l4 := obj_cell hPw 4
    have l5 := obj_cell hPw 5
    simp at l0 l1 l2 l3 l4 l5
    have zb := obj_lt hPw
    have PW := Lib.hid hPw
    have BW := Lib.hid (B0.out.trans (hB.out.mono B0.out.size))
    clear hPw
    by_cases hlt : k < n4
    · have hkl : k < S.clocks.length := by rw [HN4.out]; exact hlt
      obtain ⟨b, off, rfl, hb, hcs⟩ := HS.out.clocks.cells k hkl
      have k0 : w.cell? ⟨b, off + k * 2, none⟩ = _ := hcs k hkl 0 _ rfl
      have k1 : w.cell? ⟨b, off + k * 2 + 1, none⟩ = _ := hcs k hkl 1 _ rfl
      rw [← BW.out.cell (p := ⟨b, _, none⟩) hb] at k0 k1
      have hzb : b < wr.heap.size := by have := BW.out.size; omega
      obtain ⟨g1, g2, g3⟩ := HK.out.clk k hkl
      obtain ⟨x, hx⟩ : ∃ x, x = S.clocks[k]! := ⟨_, rfl⟩
      rw [← hx] at k0 k1 g1 g2 g3
      have q1 := inB_ok g1
      have q2 := inB_ok g3
      by_cases hk0 : k = 0
      · have hk0' : decide (0 < k) = false := by simp; omega
        have hk1' : decide ((0 : Int) < (k : Int)) = false := by simp; omega
        clear hcs hx hk0 g1 g2 g3
        go_wp2_with (go_at_call 25; refine (between_any _ _ _ _).mono ?_; rintro e w' ⟨rfl, rfl⟩)
        go_quiet (fail)
        go_wp2_with (go_at_call 25; refine (between_any _ _ _ _).mono ?_; rintro e w' ⟨rfl, rfl⟩)
        go_roundw
        case rel => exact ⟨k + 1, by go_num, by omega, by have h := hB.out; show Below _ _ _; (repeat (first | with_reducible exact Below.refl _ _ | with_reducible assumption | ((with_reducible refine Below.setCell ?_ ?_ _); rotate_left; focus (first | exact Nat.le_refl _ | omega | exact Below.size (by assumption) | (simp; done) | (simp; omega))) | ((with_reducible refine Below.alloc ?_ ?_ _); rotate_left; focus (first | exact Nat.le_refl _ | omega | exact Below.size (by assumption) | (simp; done) | (simp; omega))) | (with_reducible refine Below.drew ?_) | (with_reducible refine drewN_ ?_ _)))⟩
        case measure => simp [intOf]; omega
      · obtain ⟨j, hj⟩ : ∃ j, j + 1 = k := ⟨k - 1, by omega⟩
        have y0 : w.cell? ⟨b, off + j * 2, none⟩ = _ := hcs j (by omega) 0 _ rfl
        rw [← BW.out.cell (p := ⟨b, _, none⟩) hb] at y0
        have hlt3 := g2 (by omega)
        have hkj : k - 1 = j := by omega
        rw [hkj] at hlt3
        obtain ⟨y, hy⟩ : ∃ y, y = S.clocks[j]! := ⟨_, rfl⟩
        rw [← hy] at y0 hlt3
        have hd' : decide (x.dev ≤ y.dev) = false := by simp; omega
        have hj1 : (k : Int) - 1 = (j : Int) := by omega
        have hj2 : IntKind.i64.wrap (j : Int) = (j : Int) := IntWalk.i64_in _ (by omega)
        have hj3 : (0 : Int) < (k : Int) := by omega
        have hj4 : (j : Int) < (n4 : Int) := by omega
        have hj5 : j < n4 := by omega
        have hj6 : 0 < k := by omega
        clear hcs hx hk0 g1 g2 g3 hy hkj hj
        go_wp2_with (go_at_call 25; refine (between_any _ _ _ _).mono ?_; rintro e w' ⟨rfl, rfl⟩)
        go_quiet (fail)
        go_wp2_with (go_at_call 25; refine (between_any _ _ _ _).mono ?_; rintro e w' ⟨rfl, rfl⟩)
        go_roundw
        case rel => exact ⟨k + 1, by go_num, by omega, by have h := hB.out; show Below _ _ _; (repeat (first | with_reducible exact Below.refl _ _ | with_reducible assumption | ((with_reducible refine Below.setCell ?_ ?_ _); rotate_left; focus (first | exact Nat.le_refl _ | omega | exact Below.size (by assumption) | (simp; done) | (simp; omega))) | ((with_reducible refine Below.alloc ?_ ?_ _); rotate_left; focus (first | exact Nat.le_refl _ | omega | exact Below.size (by assumption) | (simp; done) | (simp; omega))) | (with_reducible refine Below.drew ?_) | (with_reducible refine drewN_ ?_ _)))⟩
        case measure => simp [intOf]; omega
    · obtain rfl : k = n4 := by omega
      obtain ⟨wo, rfl⟩ : ∃ wo : World, wo = wr := ⟨_, rfl⟩
      go_wp2_with (go_at_call 19; refine (offsets_any S v1 v2 _ _ v5 _ (HS.out.clocks.later BW.out) (by rw [HN4.out]; exact hz4)).mono ?_; rintro e w2 ⟨⟨bm, rfl, hbm, hI⟩, hb2⟩; have hP2 := keepObj hb2 PW.out; have m3 := obj_cell hP2 3; simp at m3; have B2 := Lib.hid (BW.out.trans (hb2.mono BW.out.size)); have HI := Lib.hid hI; have zb2 := obj_lt hP2; clear hb2 hI hP2)
      go_loopw [49] (fun s49 wr => ∃ k2 : Nat, s49 = .int .i64 k2 ∧ k2 ≤ n3 ∧ Hid (Below w2.heap.size w2 wr)) (fun s49 _ => n3 - (intOf s49).toNat)
      case atStart => exact ⟨0, rfl, Nat.zero_le _, Below.refl _ _⟩
      case round =>
        obtain ⟨k2, rfl, hk2, hB3⟩ := hrel
        have BX := Lib.hid (B2.out.trans (hB3.out.mono B2.out.size))
        by_cases hlt2 : k2 < n3
        · have hkl2 : k2 < S.trips.length := by rw [HN3.out]; exact hlt2
          obtain ⟨b, off, rfl, hb, hcs⟩ := HS.out.trips.at k2 hkl2
          obtain ⟨v, hv, t0, t1, t2, t3, t4⟩ := hcs k2 hkl2
          rw [← BX.out.cell (p := ⟨b, _, none⟩) hb] at t0 t1 t2 t3 t4
          have hzb : b < wr.heap.size := by have := BX.out.size; omega
          have hd := HK.out.dev k2 hkl2
          have hlo := off_look HK.out S.trips[k2]!.dev
          rw [if_pos hd] at hlo
          obtain ⟨t, ht⟩ : ∃ t, t = S.trips[k2]! := ⟨_, rfl⟩
          rw [← ht] at t0 t1 t2 t3 hlo
          obtain ⟨av, m, cv, rfl, _, _, _⟩ := hv.open
          have hlk := lens_two (w := wr.alloc (.cells #[.int .i64 t.obj, .int .i64 t.dev, .int .i64 t.start, .int .i64 t.speed, .slice av m cv] 45)) ((HI.out.keep hB3.out).keep (by (repeat (first | with_reducible exact Below.refl _ _ | with_reducible assumption | ((with_reducible refine Below.setCell ?_ ?_ _); rotate_left; focus (first | exact Nat.le_refl _ | omega | exact Below.size (by assumption) | (simp; done) | (simp; omega))) | ((with_reducible refine Below.alloc ?_ ?_ _); rotate_left; focus (first | exact Nat.le_refl _ | omega | exact Below.size (by assumption) | (simp; done) | (simp; omega))) | (with_reducible refine Below.drew ?_) | (with_reducible refine drewN_ ?_ _))))) t.dev _ hlo
          clear hcs hv hd hlo ht
          go_wp2_with fail
          go_roundw
          case rel => exact ⟨k2 + 1, by go_num, by omega, by have h := hB3.out; show Below _ _ _; (repeat (first | with_reducible exact Below.refl _ _ | with_reducible assumption | ((with_reducible refine Below.setCell ?_ ?_ _); rotate_left; focus (first | exact Nat.le_refl _ | omega | exact Below.size (by assumption) | (simp; done) | (simp; omega))) | ((with_reducible refine Below.alloc ?_ ?_ _); rotate_left; focus (first | exact Nat.le_refl _ | omega | exact Below.size (by assumption) | (simp; done) | (simp; omega))) | (with_reducible refine Below.drew ?_) | (with_reducible refine drewN_ ?_ _)))⟩
          case measure => simp [intOf]; omega
        · obtain rfl : k2 = n3 := by omega
          go_wp2
          go_ret
          exact ⟨rfl, BX.out⟩
end Go.Proofs.Ythkhgfdjdpfoiaa
namespace Go.Proofs.Ythkhgfdjdpfoiaa
open Go Go.RowKit Go.Vi
def synE (X : List Snc) : List (Int × Value) := X.foldl (fun E x => put E x.dev (.bool true)) []
theorem syn_keep (X : List Snc) (d : Int) : ∀ E : List (Int × Value), Vi.look E d = some (.bool true) → Vi.look (X.foldl (fun E x => put E x.dev (.bool true)) E) d = some (.bool true) := by
  induction X with
  | nil => intro E h; exact h
  | cons x X ih =>
    intro E h
    rw [List.foldl_cons]
    apply ih
    rw [look_put]
    split
    · rfl
    · exact h
theorem syn_mem (X : List Snc) {x : Snc} (hx : x ∈ X) : ∀ E : List (Int × Value), Vi.look (X.foldl (fun E x => put E x.dev (.bool true)) E) x.dev = some (.bool true) := by
  induction X with
  | nil => cases hx
  | cons y X ih =>
    intro E
    rw [List.foldl_cons]
    rcases List.mem_cons.1 hx with rfl | h
    · apply syn_keep
      rw [look_put, if_pos rfl]
    · exact ih h _
theorem uSyn : Try.prog.underlying 122 = some (.map 3 4) := by kernel_rfl
theorem zBool (w : World) : (zeroValue 4).run Try.prog w = .ok (.bool false) w := by kernel_rfl
set_option maxRecDepth 100000 in
set_option maxHeartbeats 4000000 in
theorem checkSyncs_any (S : Scn) (v1 v2 v3 v4 v5 : Value) (w : World) (hS : ScnAt w.heap.size w v1 v2 v3 v4 v5 S) (hK : ClocksOK S) (hz4 : S.clocks.length ≤ 1000) (hz5 : S.syncs.length ≤ 1000) :
    Calls Try.prog 28 #[S.v v1 v2 v3 v4 v5] w fun e w' => e = .returned (.int .i64 0) ∧ Below w.heap.size w w' := by
  obtain ⟨a4, n4, c4, rfl, hn4, hn41, hn42⟩ := hS.clocks.open
  obtain ⟨a5, n5, c5, rfl, hn5, hn51, hn52⟩ := hS.syncs.open
  rw [List.length_map] at hn4 hn5
  rw [hn4] at hz4
  rw [hn5] at hz5
  have HS := Lib.hid hS
  have HK := Lib.hid hK
  have HN4 := Lib.hid hn4
  have HN5 := Lib.hid hn5
  have hmm := @run_makeMap Try.prog
  clear hS hK hn4 hn5 hn52 hn51 hn41 hn42
  have P0 := Lib.hid (obj_last w (.cells #[v1, v2, .int .i64 S.gap, v3, .slice a4 n4 c4, .slice a5 n5 c5] 40))
  go_enter Try.func28, Try.ntmps28
  go_wp2_with (go_at_call 19; refine (offsets_any S v1 v2 v3 _ _ _ (HS.out.clocks.later (by (repeat (first | with_reducible exact Below.refl _ _ | with_reducible assumption | ((with_reducible refine Below.setCell ?_ ?_ _); rotate_left; focus (first | exact Nat.le_refl _ | omega | exact Below.size (by assumption) | (simp; done) | (simp; omega))) | ((with_reducible refine Below.alloc ?_ ?_ _); rotate_left; focus (first | exact Nat.le_refl _ | omega | exact Below.size (by assumption) | (simp; done) | (simp; omega))) | (with_reducible refine Below.drew ?_) | (with_reducible refine drewN_ ?_ _))))) (by rw [HN4.out]; exact hz4)).mono ?_; rintro e w2 ⟨⟨bm, rfl, hbm, hI⟩, hb2⟩; have hP2 := keepObj hb2 P0.out; have m4 := obj_cell hP2 4; have m5 := obj_cell hP2 5; simp at m4 m5; have B2 := Lib.hid (from_ (w := w) hb2 (by (repeat (first | with_reducible exact Below.refl _ _ | with_reducible assumption | ((with_reducible refine Below.setCell ?_ ?_ _); rotate_left; focus (first | exact Nat.le_refl _ | omega | exact Below.size (by assumption) | (simp; done) | (simp; omega))) | ((with_reducible refine Below.alloc ?_ ?_ _); rotate_left; focus (first | exact Nat.le_refl _ | omega | exact Below.size (by assumption) | (simp; done) | (simp; omega))) | (with_reducible refine Below.drew ?_) | (with_reducible refine drewN_ ?_ _))))); have HI := Lib.hid hI; have zb2 := obj_lt hP2; have PW := Lib.hid hP2; clear hb2 hI hP2)
  go_loopw [17] (fun s17 wr => ∃ k : Nat, s17 = .int .i64 k ∧ k ≤ n5 ∧ Hid (IMap wr w2.heap.size (synE (S.syncs.take k))) ∧ Hid (Below w2.heap.size w2 wr)) (fun s17 _ => n5 - (intOf s17).toNat)
  case atStart => exact ⟨0, rfl, Nat.zero_le _, IMap.made w2, by show Below _ _ _; (repeat (first | with_reducible exact Below.refl _ _ | with_reducible assumption | ((with_reducible refine Below.setCell ?_ ?_ _); rotate_left; focus (first | exact Nat.le_refl _ | omega | exact Below.size (by assumption) | (simp; done) | (simp; omega))) | ((with_reducible refine Below.alloc ?_ ?_ _); rotate_left; focus (first | exact Nat.le_refl _ | omega | exact Below.size (by assumption) | (simp; done) | (simp; omega))) | (with_reducible refine Below.drew ?_) | (with_reducible refine drewN_ ?_ _)))⟩
  case round =>
    obtain ⟨k, rfl, hk, hY, hB⟩ := hrel
    have hPw := keepObj hB.out PW.out
    have l4 := obj_cell hPw 4
    have l5 := obj_cell hPw 5
    simp at l4 l5
    have zb := obj_lt hPw
    have BW := Lib.hid (B2.out.trans (hB.out.mono B2.out.size))
    clear hPw
    by_cases hlt : k < n5
    · have hkl : k < S.syncs.length := by rw [HN5.out]; exact hlt
      obtain ⟨b, off, rfl, hb, hcs⟩ := HS.out.syncs.cells k hkl
      have t0 : w.cell? ⟨b, off + k * 6, none⟩ = _ := hcs k hkl 0 _ rfl
      have t1 : w.cell? ⟨b, off + k * 6 + 1, none⟩ = _ := hcs k hkl 1 _ rfl
      have t2 : w.cell? ⟨b, off + k * 6 + 2, none⟩ = _ := hcs k hkl 2 _ rfl
      have t3 : w.cell? ⟨b, off + k * 6 + 3, none⟩ = _ := hcs k hkl 3 _ rfl
      have t4 : w.cell? ⟨b, off + k * 6 + 4, none⟩ = _ := hcs k hkl 4 _ rfl
      have t5 : w.cell? ⟨b, off + k * 6 + 5, none⟩ = _ := hcs k hkl 5 _ rfl
      rw [← BW.out.cell (p := ⟨b, _, none⟩) hb] at t0 t1 t2 t3 t4 t5
      have hzb : b < wr.heap.size := by have := BW.out.size; omega
      obtain ⟨g0, g1, g2, g3, g4, g5, g6⟩ := HK.out.snc k hkl
      have hlo := off_look HK.out S.syncs[k]!.dev
      rw [if_pos g0] at hlo
      obtain ⟨x, hx⟩ : ∃ x, x = S.syncs[k]! := ⟨_, rfl⟩
      rw [← hx] at t0 t1 t2 t3 t4 t5 g1 g2 g3 g4 g5 g6 hlo
      have HX := Lib.hid hx
      have g1' : (x.dev == 0) = false := by simpa using g1
      have q2 := inB_ok g2
      have q3 := inB_ok g3
      have q4 := inB_ok g4
      have q5 := inB_ok g5
      have q6 := inB_ok g6
      have hlk := lens_two (w := wr.alloc (.cells #[.int .i64 x.dev, .int .i64 x.sent, .int .i64 x.out, .int .i64 x.back, .int .i64 x.so, .int .i64 x.sb] 62)) ((HI.out.keep hB.out).keep (by (repeat (first | with_reducible exact Below.refl _ _ | with_reducible assumption | ((with_reducible refine Below.setCell ?_ ?_ _); rotate_left; focus (first | exact Nat.le_refl _ | omega | exact Below.size (by assumption) | (simp; done) | (simp; omega))) | ((with_reducible refine Below.alloc ?_ ?_ _); rotate_left; focus (first | exact Nat.le_refl _ | omega | exact Below.size (by assumption) | (simp; done) | (simp; omega))) | (with_reducible refine Below.drew ?_) | (with_reducible refine drewN_ ?_ _))))) x.dev _ hlo
      have hY2 := hY.out.keep ((Below.refl wr.heap.size wr).alloc (Nat.le_refl _) (.cells #[.int .i64 x.dev, .int .i64 x.sent, .int .i64 x.out, .int .i64 x.back, .int .i64 x.so, .int .i64 x.sb] 62))
      have hup := hY2.update (P := Try.prog) uSyn uInt x.dev (.bool true)
      have hY3 := hY2.updated x.dev (.bool true)
      have HY3 := Lib.hid hY3
      clear hcs hx g0 g1 g2 g3 g4 g5 g6 hlo hY2 hY3
      go_wp2_with (go_at_call 25; refine (between_any _ _ _ _).mono ?_; rintro e w' ⟨rfl, rfl⟩)
      go_roundw
      case rel =>
        have hG := mset_grown (wr.alloc (.cells #[.int .i64 x.dev, .int .i64 x.sent, .int .i64 x.out, .int .i64 x.back, .int .i64 x.so, .int .i64 x.sb] 62)) w2.heap.size x.dev (.bool true)
        have hbz := hB.out.size
        refine ⟨k + 1, by go_num, by omega, ?_, ?_⟩
        · show IMap _ _ _
          have e : synE (S.syncs.take (k + 1)) = put (synE (S.syncs.take k)) x.dev (.bool true) := by
            unfold synE
            rw [List.take_succ_eq_append_getElem hkl, List.foldl_append, HX.out, getElem!_pos S.syncs k hkl]; rfl
          rw [e]; exact HY3.out
        · exact (hB.out.alloc hbz _).grown hG (by simp; omega) (fun b hb => by injection hb with hb; omega)
      case measure => simp [intOf]; omega
    · obtain rfl : k = n5 := by omega
      have hY := hY.out
      rw [List.take_of_length_le (by rw [HN5.out]; exact Nat.le_refl _)] at hY
      have HY := Lib.hid hY
      clear hY
      obtain ⟨wo, rfl⟩ : ∃ wo : World, wo = wr := ⟨_, rfl⟩
      go_wp2
      go_loopw [75] (fun s75 wr => ∃ k2 : Nat, s75 = .int .i64 k2 ∧ k2 ≤ n4 ∧ Hid (Below wo.heap.size wo wr)) (fun s75 _ => n4 - (intOf s75).toNat)
      case atStart => exact ⟨0, rfl, Nat.zero_le _, Below.refl _ _⟩
      case round =>
        obtain ⟨k2, rfl, hk2, hB3⟩ := hrel
        have BX := Lib.hid (BW.out.trans (hB3.out.mono BW.out.size))
        by_cases hlt2 : k2 < n4
        · have hkl2 : k2 < S.clocks.length := by rw [HN4.out]; exact hlt2
          obtain ⟨b, off, rfl, hb, hcs⟩ := HS.out.clocks.cells k2 hkl2
          have k0 : w.cell? ⟨b, off + k2 * 2, none⟩ = _ := hcs k2 hkl2 0 _ rfl
          have k1 : w.cell? ⟨b, off + k2 * 2 + 1, none⟩ = _ := hcs k2 hkl2 1 _ rfl
          rw [← BX.out.cell (p := ⟨b, _, none⟩) hb] at k0 k1
          have hzb : b < wr.heap.size := by have := BX.out.size; omega
          have hg := HK.out.gap k2 hkl2
          obtain ⟨x, hx⟩ : ∃ x, x = S.clocks[k2]! := ⟨_, rfl⟩
          rw [← hx] at k0 k1 hg
          have hY4 := (HY.out.keep hB3.out).keep ((Below.refl wr.heap.size wr).alloc (Nat.le_refl _) (.cells #[.int .i64 x.dev, .int .i64 x.off] 60))
          have hlk := hY4.lookup (P := Try.prog) uSyn uInt (zBool _) x.dev false
          by_cases ho : x.off = 0
          · have ho' : (x.off != 0) = false := by simpa using ho
            clear hcs hx hY4 hlk hg ho
            go_wp2_with fail
            go_roundw
            case rel => exact ⟨k2 + 1, by go_num, by omega, by have h := hB3.out; show Below _ _ _; (repeat (first | with_reducible exact Below.refl _ _ | with_reducible assumption | ((with_reducible refine Below.setCell ?_ ?_ _); rotate_left; focus (first | exact Nat.le_refl _ | omega | exact Below.size (by assumption) | (simp; done) | (simp; omega))) | ((with_reducible refine Below.alloc ?_ ?_ _); rotate_left; focus (first | exact Nat.le_refl _ | omega | exact Below.size (by assumption) | (simp; done) | (simp; omega))) | (with_reducible refine Below.drew ?_) | (with_reducible refine drewN_ ?_ _)))⟩
            case measure => simp [intOf]; omega
          · have ho' : (x.off != 0) = true := by simpa using ho
            obtain ⟨y, hy, hyd⟩ := hg.resolve_left ho
            have hm := syn_mem S.syncs hy []
            rw [hyd] at hm
            have hm2 : Vi.look (synE S.syncs) x.dev = some (.bool true) := hm
            rw [hm2] at hlk
            have hlk2 : (Instr.lookup 122 (.map (some w2.heap.size)) (.int .i64 x.dev) false).run Try.prog (wr.alloc (.cells #[.int .i64 x.dev, .int .i64 x.off] 60)) = .ok (.bool true) (wr.alloc (.cells #[.int .i64 x.dev, .int .i64 x.off] 60)) := hlk
            clear hcs hx hY4 hlk hg ho hm hm2 hyd hy
            go_wp2_with fail
            go_roundw
            case rel => exact ⟨k2 + 1, by go_num, by omega, by have h := hB3.out; show Below _ _ _; (repeat (first | with_reducible exact Below.refl _ _ | with_reducible assumption | ((with_reducible refine Below.setCell ?_ ?_ _); rotate_left; focus (first | exact Nat.le_refl _ | omega | exact Below.size (by assumption) | (simp; done) | (simp; omega))) | ((with_reducible refine Below.alloc ?_ ?_ _); rotate_left; focus (first | exact Nat.le_refl _ | omega | exact Below.size (by assumption) | (simp; done) | (simp; omega))) | (with_reducible refine Below.drew ?_) | (with_reducible refine drewN_ ?_ _)))⟩
            case measure => simp [intOf]; omega
        · obtain rfl : k2 = n4 := by omega
          go_wp2
          go_ret
          exact ⟨rfl, BX.out⟩
end Go.Proofs.Ythkhgfdjdpfoiaa
namespace Go.Proofs.Ythkhgfdjdpfoiaa
open Go Go.Vi
def Rise (lo hi : Int) (L : List Stp) : Prop := L.Pairwise (fun a b => a.time ≤ b.time) ∧ ∀ x ∈ L, lo ≤ x.time ∧ x.time ≤ hi
theorem Rise.nil (lo hi : Int) : Rise lo hi [] := ⟨List.Pairwise.nil, fun x hx => by cases hx⟩
theorem Rise.append {lo mid hi : Int} {A B : List Stp} (h : Rise lo mid A) (h2 : Rise mid hi B) (h1 : lo ≤ mid) (h3 : mid ≤ hi) : Rise lo hi (A ++ B) := by
  refine ⟨List.pairwise_append.2 ⟨h.1, h2.1, fun a ha b hb => by have := (h.2 a ha).2; have := (h2.2 b hb).1; omega⟩, fun x hx => ?_⟩
  rcases List.mem_append.1 hx with g | g
  · have := h.2 x g; omega
  · have := h2.2 x g; omega
theorem Rise.up {lo hi hi' : Int} {A : List Stp} (h : Rise lo hi A) (hh : hi ≤ hi') : Rise lo hi' A := ⟨h.1, fun x hx => by have := h.2 x hx; omega⟩
theorem moves_rise (l : List (Int × Int)) (h : ∀ p ∈ l, 1 ≤ p.2) : ∀ now, Rise now (gone now l) (moves now l) ∧ now ≤ gone now l := by
  induction l with
  | nil => intro now; exact ⟨Rise.nil _ _, Int.le_refl _⟩
  | cons p l ih =>
    intro now
    obtain ⟨d, t⟩ := p
    have ht : 1 ≤ t := h (d, t) List.mem_cons_self
    obtain ⟨h1, h2⟩ := ih (fun q hq => h q (List.mem_cons_of_mem _ hq)) (now + t)
    simp only [moves, gone]
    refine ⟨⟨List.pairwise_cons.2 ⟨fun x hx => (h1.2 x hx).1, h1.1⟩, fun x hx => ?_⟩, by omega⟩
    rcases List.mem_cons.1 hx with rfl | hx
    · exact ⟨by show now ≤ now + t; omega, h2⟩
    · have := h1.2 x hx; omega
theorem waits_rise (gap node : Int) (hg : 1 ≤ gap) : ∀ (k : Nat) (now fin : Int), now ≤ fin → Rise now fin (waits gap node k now fin)
  | 0, now, fin, h => Rise.nil _ _
  | k + 1, now, fin, h => by
    unfold waits
    split
    · rename_i hlt
      have h1 := waits_rise gap node hg k (min (now + gap) fin) fin (by omega)
      refine ⟨List.pairwise_cons.2 ⟨fun x hx => (h1.2 x hx).1, h1.1⟩, fun x hx => ?_⟩
      rcases List.mem_cons.1 hx with rfl | hx
      · exact ⟨by show now ≤ min (now + gap) fin; omega, by show min (now + gap) fin ≤ fin; omega⟩
      · have := h1.2 x hx; omega
    · exact Rise.nil _ _
theorem drive_good {S : Scn} (hK : NetOK S.net) (hsz : S.net.roads.length ≤ 100) {speed : Int} (hs : 1 ≤ speed ∧ speed ≤ 1048576) {a b : Int} {l : List (Int × Int)} (h : driveTo S speed a b = .ok l) : l.length ≤ 200 ∧ ∀ p ∈ l, 1 ≤ p.2 ∧ p.2 ≤ S.gap := by
  unfold driveTo at h
  split at h
  · cases h
  · rename_i R hR
    obtain ⟨len, hR'⟩ := of_routeOf hR
    split at h
    · cases h
    · rename_i hn
      injection h with h
      subst h
      refine ⟨by rw [List.length_map]; exact route_few hR' hK hsz, fun p hp => ?_⟩
      obtain ⟨g, hg, rfl⟩ := List.mem_map.1 hp
      refine ⟨hop_time hK hR' hs g hg, ?_⟩
      by_cases q : S.gap < hopTime S.net speed g.road
      · exact absurd ⟨g, hg, q⟩ hn
      · omega
theorem driveIf_good {S : Scn} (hK : NetOK S.net) (hsz : S.net.roads.length ≤ 100) {speed : Int} (hs : 1 ≤ speed ∧ speed ≤ 1048576) {p : Option Int} {b : Int} {l : List (Int × Int)} (h : driveIf S speed p b = .ok l) : l.length ≤ 200 ∧ ∀ p ∈ l, 1 ≤ p.2 ∧ p.2 ≤ S.gap := by
  cases p with
  | none => simp only [driveIf] at h; injection h with h; subst h; exact ⟨by simp, fun p hp => by cases hp⟩
  | some a => exact drive_good hK hsz hs h
theorem tour_rise {S : Scn} (hK : NetOK S.net) (hsz : S.net.roads.length ≤ 100) (hg : 1 ≤ S.gap ∧ S.gap ≤ 1073741824) {speed : Int} (hs : 1 ≤ speed ∧ speed ≤ 1048576) : ∀ (vs : List Vis) (p : Option Int) (now : Int) (rest : List Stp), (∀ v ∈ vs, 0 ≤ v.wait ∧ v.wait ≤ 1073741824) → tour S speed p now vs = .ok rest → Rise now (now + vs.length * 215822106624) rest
  | [], _, now, rest, _, h => by unfold tour at h; injection h with h; subst h; exact Rise.nil _ _
  | v :: vs, p, now, rest, hw, h => by
    unfold tour at h
    split at h
    · cases h
    · rename_i l hl
      split at h
      · cases h
      · rename_i rest2 hr
        injection h with h
        subst h
        obtain ⟨hl1, hl2⟩ := driveIf_good hK hsz hs hl
        have hv := hw v List.mem_cons_self
        have h1 := moves_rise l (fun p hp => (hl2 p hp).1) now
        have h2 := gone_le l S.gap hl2 now
        have h3 : (l.length : Int) * S.gap ≤ 200 * 1073741824 := Int.mul_le_mul (by omega) hg.2 (by omega) (by omega)
        have h4 := waits_rise S.gap v.node hg.1 v.wait.toNat (gone now l) (gone now l + v.wait) (by omega)
        have h5 := tour_rise hK hsz hg hs vs (some v.node) (gone now l + v.wait) rest2 (fun u hu => hw u (List.mem_cons_of_mem _ hu)) hr
        have hlen : (((v :: vs).length : Nat) : Int) = (vs.length : Int) + 1 := by simp
        rw [hlen]
        exact ((h1.1.append h4 h1.2 (by omega)).append h5 (by omega) (by omega)).up (by omega)
/-- What a trip is that its check accepts. -/
structure TripFit (t : Trp) : Prop where
  vis : 0 < t.vis.length
  few : t.vis.length ≤ 32
  start : 0 ≤ t.start ∧ t.start ≤ 1073741824
  speed : 1 ≤ t.speed ∧ t.speed ≤ 1048576
  wait : ∀ k, k < t.vis.length → 0 ≤ t.vis[k]!.wait ∧ t.vis[k]!.wait ≤ 1073741824
theorem tripFit_of {n : Net} {t : Trp} {last : Int} (h : tripErr n t last = 0) : TripFit t := by
  obtain ⟨_, _, h3, h4, h5, h6, h7⟩ := tripErr_zero h
  exact ⟨by omega, h6, inB_iff.1 h3, inB_iff.1 h4, fun k hk => inB_iff.1 (visErr_zero _ _ h7 k hk).2.1⟩
theorem stops_rise {S : Scn} (hK : NetOK S.net) (hsz : S.net.roads.length ≤ 100) (hg : 1 ≤ S.gap ∧ S.gap ≤ 1073741824) {t : Trp} (ht : TripFit t) {L : List Stp} (h : stopsS S t = .ok L) : Rise t.start (t.start + 6906307411968) L ∧ (∃ rest, L = ⟨t.start, t.vis[0]!.node⟩ :: rest) ∧ L.length ≤ 256 := by
  unfold stopsS at h
  split at h
  · cases h
  · rename_i rest hr
    split at h
    · cases h
    · rename_i hlen
      injection h with h
      subst h
      have h1 := tour_rise hK hsz hg ht.speed t.vis none t.start rest (fun v hv => by
        obtain ⟨i, hi, rfl⟩ := List.getElem_of_mem hv
        have := ht.wait i hi
        rw [getElem!_pos t.vis i hi] at this; exact this) hr
      have h2 := ht.few
      have h3 := h1.up (hi' := t.start + 6906307411968) (by omega)
      refine ⟨⟨List.pairwise_cons.2 ⟨fun x hx => (h3.2 x hx).1, h3.1⟩, fun x hx => ?_⟩, ⟨rest, rfl⟩, by simp; omega⟩
      rcases List.mem_cons.1 hx with rfl | hx
      · exact ⟨Int.le_refl _, by show t.start ≤ _; omega⟩
      · exact h3.2 x hx
theorem rise_last {lo hi : Int} {L : List Stp} (h : Rise lo hi L) : ∀ x ∈ L, x.time ≤ (L[L.length - 1]!).time := by
  intro x hx
  obtain ⟨i, hi, rfl⟩ := List.getElem_of_mem hx
  rw [getElem!_pos L (L.length - 1) (by omega)]
  rcases Nat.lt_or_ge i (L.length - 1) with q | q
  · exact List.pairwise_iff_getElem.1 h.1 i (L.length - 1) hi (by omega) q
  · have : i = L.length - 1 := by omega
    subst this; exact Int.le_refl _
/-- The error of the ways: of the trips' stops, or of the syncs' times. -/
noncomputable def wayErrT (S : Scn) : List Trp → Int
  | [] => 0
  | t :: T => match stopsS S t with
    | .error c => c
    | .ok L => if L.all (fun x => inB (x.time + offOf S.clocks t.dev) 0 1073741824) then wayErrT S T else 26
def sncIn (C : List Clk) (x : Snc) : Bool := inB (x.sent + x.out + offOf C x.dev) 0 1073741824 && inB (x.sent + x.out + x.back) 0 1073741824
noncomputable def wayErr (S : Scn) : Int := if wayErrT S S.trips = 0 then (if S.syncs.all (sncIn S.clocks) then 0 else 26) else wayErrT S S.trips
theorem wayErrT_at {S : Scn} {T : List Trp} {k : Nat} (h : k < T.length) : wayErrT S (T.drop k) = match stopsS S T[k]! with
    | .error c => c
    | .ok L => if L.all (fun x => inB (x.time + offOf S.clocks T[k]!.dev) 0 1073741824) then wayErrT S (T.drop (k + 1)) else 26 := by
  rw [List.drop_eq_getElem_cons h, getElem!_pos T k h]
  conv => lhs; unfold wayErrT
theorem all_at {α : Type} {p : α → Bool} {l : List α} (h : ∀ i (hi : i < l.length), p l[i] = true) : l.all p = true := by
  rw [List.all_eq_true]
  intro x hx
  obtain ⟨i, hi, rfl⟩ := List.getElem_of_mem hx
  exact h i hi
theorem not_all_at {α : Type} {p : α → Bool} {l : List α} {i : Nat} (hi : i < l.length) (h : p l[i] = false) : ¬l.all p = true := by
  rw [List.all_eq_true]
  intro g
  have := g _ (List.getElem_mem hi)
  rw [h] at this
  cases this
theorem off_bound {S : Scn} (h : ClocksOK S) (d : Int) : -1048576 ≤ offOf S.clocks d ∧ offOf S.clocks d ≤ 1048576 := by
  unfold offOf
  cases hc : clkOf S.clocks d with
  | none => exact ⟨by decide, by decide⟩
  | some c =>
    have hm : c ∈ S.clocks := List.mem_of_find?_eq_some hc
    obtain ⟨i, hi, rfl⟩ := List.getElem_of_mem hm
    have := (h.clk i hi).2.2
    rw [getElem!_pos S.clocks i hi] at this
    exact this
end Go.Proofs.Ythkhgfdjdpfoiaa
