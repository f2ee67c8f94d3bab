/-
 Batches of reports and exchanges; when they compare equal.
-/
import Derived.Test.YthkhgfdjdpfoiaaGreatExcA
import Derived.Test.YthkhgfdjdpfoiaaGreatDelL
set_option linter.unusedSimpArgs false
set_option linter.unusedVariables false
namespace Go.Proofs.YthkhgfdjdpfoiaaGreat
open Go Go.RowKit Go.Vi
theorem uBatT : Tryz.prog.underlying 60 = some (.slice 115) := by kernel_rfl
theorem iBatT : (Tryz.prog.info? 115).map (fun i => (i.zero, i.size, i.bytes)) = some (some (.agg #[.slice none 0 0, .slice none 0 0]), 2, 48) := by kernel_rfl
/-- Whether delivery is permitted. -/
def delB (size : Int) (F : List Fte) : Bool := inB size 1 4096 && F.all fun f => inB f.late 0 16
abbrev BatR (w : World) (B : Nat) (v : Value) (V : List (Value × Value)) (L : List (List Rpt)) (X : List Exc) : Prop := Bat w B 115 77 8 51 5 v V (LV Rpt.cs L) (X.map Exc.cs)
def DelOut (size : Int) (F : List Fte) (R : List Rpt) (X : List Exc) (B : Nat) (e : Ending) (w' : World) : Prop :=
 (delB size F = true ∧ ∃ v V, e = .returned (.tuple #[v, .int .i64 0]) ∧ BatR w' B v V (delS size.toNat F R R.length) X) ∨ (delB size F = false ∧ e = .returned (.tuple #[.slice none 0 0, .int .i64 2]))
theorem delB_bad {size : Int} {F : List Fte} {k : Nat} (hk : k < F.length) (h : inB F[k]!.late 0 16 = false) : delB size F = false := by
 rw [← Bool.not_eq_true]
 intro hh
 unfold delB at hh
 rw [Bool.and_eq_true] at hh
 have := List.all_eq_true.1 hh.2 F[k]! (by rw [getElem!_pos F k hk]; exact List.getElem_mem hk)
 rw [h] at this; cases this
theorem delB_good {size : Int} {F : List Fte} (hs : inB size 1 4096 = true) (h : ∀ j, j < F.length → inB F[j]!.late 0 16 = true) : delB size F = true ∧ FOk F := by
 have h2 : ∀ f ∈ F, inB f.late 0 16 = true := fun f hf => by
  obtain ⟨i, hi, rfl⟩ := List.getElem_of_mem hf
  have := h i hi
  rw [getElem!_pos F i hi] at this; exact this
 exact ⟨by unfold delB; rw [hs, Bool.true_and]; exact List.all_eq_true.2 h2, fun f hf => inB_iff.1 (h2 f hf)⟩
set_option maxHeartbeats 4000000 in
theorem sameBatches_any (L : List (List Rpt)) (X : List Exc) (va vb : Value) (Va Vb : List (Value × Value)) (Ba Bb : Nat) (w : World) (ha : BatR w Ba va Va L X) (hb : BatR w Bb vb Vb L X) (hL : L.length ≤ 100000) (hR : ∀ i, (L.getD i []).length ≤ 1000000) (hX : X.length ≤ 1000000) :
  Calls Tryz.prog 16 #[va, vb] w fun e w' => e = .returned (.bool true) ∧ Below w.heap.size w w' := by
 obtain ⟨g1, c1, rfl, _, hg1, hc1⟩ := ha.shape
 obtain ⟨g2, c2, rfl, _, hg2, hc2⟩ := hb.shape
 have hla := ha.len
 have hlb := hb.len
 rw [LV_len] at hla hlb
 obtain ⟨n, hn⟩ : ∃ z, L.length = z := ⟨_, rfl⟩
 rw [hn] at hla hlb hL
 rw [← hla] at ha ⊢
 rw [← hlb] at hb ⊢
 have HA := Lib.hid ha
 have HB := Lib.hid hb
 have HLA := Lib.hid hla
 have HLB := Lib.hid hlb
 have HRR := Lib.hid hR
 have HXX := Lib.hid hX
 clear ha hb hla hlb hn hR hX hc1 hc2
 go_enter Tryz.func16, Tryz.ntmps16
 go_wp2_with fail
 go_loopw [5] (fun s5 wr => ∃ k : Nat, s5 = .int .i64 k ∧ k ≤ n ∧ Hid (Below w.heap.size w wr)) (fun s5 _ => n - (intOf s5).toNat)
 case atStart => exact ⟨0, rfl, Nat.zero_le _, Below.refl _ _⟩
 case round =>
  obtain ⟨k, rfl, hk, hBB⟩ := hrel
  by_cases hlt : k < n
  ·obtain ⟨p, hp⟩ : ∃ p, Va[k]? = some p := ⟨_, List.getElem?_eq_getElem (by rw [← HLA.out]; exact hlt)⟩
   obtain ⟨q, hq⟩ : ∃ q, Vb[k]? = some q := ⟨_, List.getElem?_eq_getElem (by rw [← HLB.out]; exact hlt)⟩
   have HAr := Lib.hid (HA.out.keep hBB.out)
   have HBr := Lib.hid (HB.out.keep hBB.out)
   have x0 := HAr.out.cell0 k p hp
   have x1 := HAr.out.cell1 k p hp
   have y0 := HBr.out.cell0 k q hq
   have y1 := HBr.out.cell1 k q hq
   have r1 := HAr.out.rep k p hp
   have r2 := HBr.out.rep k q hq
   have s1 := HAr.out.excAt k p hp
   have s2 := HBr.out.excAt k q hq
   rw [LV_get] at r1 r2
   have hz1 : g1 < wr.heap.size := by have := hBB.out.size; omega
   have hz2 : g2 < wr.heap.size := by have := hBB.out.size; omega
   have hXi : (if k = 0 then X.map Exc.cs else []) = (if k = 0 then X else []).map Exc.cs := by split <;> rfl
   rw [hXi] at s1 s2
   have hXl : (if k = 0 then X else []).length ≤ 1000000 := by
    split
    ·exact HXX.out
    ·simp
   obtain ⟨p1, p2⟩ := p
   obtain ⟨q1, q2⟩ := q
   have R1 := Lib.hid r1
   have R2 := Lib.hid r2
   have S1 := Lib.hid s1
   have S2 := Lib.hid s2
   have HXL := Lib.hid hXl
   have k1 : (0 : Int) ≤ (k : Int) := by omega
   have k2 : (k : Int) < (n : Int) := by omega
   clear hp hq r1 r2 s1 s2 hXi hXl
   go_wp2_with fail
   go_region_held3 (fun w' => w'.cell? ⟨g1, k * 2, none⟩ = some p1 ∧ w'.cell? ⟨g1, k * 2 + 1, none⟩ = some p2 ∧ w'.cell? ⟨g2, k * 2, none⟩ = some q1 ∧ w'.cell? ⟨g2, k * 2 + 1, none⟩ = some q2)
    (((go_split_ands; refine ⟨?_, ?_, ?_, ?_⟩ <;> first | with_reducible assumption | exact ((show Below wr.heap.size wr _ from (by (repeat (first | with_reducible exact Below.refl _ _ | with_reducible assumption | ((with_reducible first | refine Below.setCell ?_ ?_ _ | refine Below.alloc ?_ ?_ _); rotate_left; focus (first | exact Nat.le_refl _ | omega | exact Below.size (by assumption) | (simp <;> omega))) | with_reducible refine Below.drew ?_ | with_reducible refine drewN_ ?_ _)))).cell (p := ⟨_, _, none⟩) (by first | with_reducible assumption | omega)).trans (by with_reducible assumption))))
    ((first
     | (go_at_call 11; refine (sameReports_any (L.getD k []) _ _ _ ((R1.out.keep (by (repeat (first | with_reducible exact Below.refl _ _ | with_reducible assumption | ((with_reducible first | refine Below.setCell ?_ ?_ _ | refine Below.alloc ?_ ?_ _); rotate_left; focus (first | exact Nat.le_refl _ | omega | exact Below.size (by assumption) | (simp <;> omega))) | with_reducible refine Below.drew ?_ | with_reducible refine drewN_ ?_ _)))).sl) ((R2.out.keep (by (repeat (first | with_reducible exact Below.refl _ _ | with_reducible assumption | ((with_reducible first | refine Below.setCell ?_ ?_ _ | refine Below.alloc ?_ ?_ _); rotate_left; focus (first | exact Nat.le_refl _ | omega | exact Below.size (by assumption) | (simp <;> omega))) | with_reducible refine Below.drew ?_ | with_reducible refine drewN_ ?_ _)))).sl) (HRR.out k)).mono ?_; rintro e w5 ⟨rfl, hb5⟩; have B5 := from_ (w := wr) hb5 (by (repeat (first | with_reducible exact Below.refl _ _ | with_reducible assumption | ((with_reducible first | refine Below.setCell ?_ ?_ _ | refine Below.alloc ?_ ?_ _); rotate_left; focus (first | exact Nat.le_refl _ | omega | exact Below.size (by assumption) | (simp <;> omega))) | with_reducible refine Below.drew ?_ | with_reducible refine drewN_ ?_ _))))
     | (go_at_call 13; refine (sameExchanges_any (if k = 0 then X else []) _ _ _ ((S1.out.keep (by (repeat (first | with_reducible exact Below.refl _ _ | with_reducible assumption | ((with_reducible first | refine Below.setCell ?_ ?_ _ | refine Below.alloc ?_ ?_ _); rotate_left; focus (first | exact Nat.le_refl _ | omega | exact Below.size (by assumption) | (simp <;> omega))) | with_reducible refine Below.drew ?_ | with_reducible refine drewN_ ?_ _)))).sl) ((S2.out.keep (by (repeat (first | with_reducible exact Below.refl _ _ | with_reducible assumption | ((with_reducible first | refine Below.setCell ?_ ?_ _ | refine Below.alloc ?_ ?_ _); rotate_left; focus (first | exact Nat.le_refl _ | omega | exact Below.size (by assumption) | (simp <;> omega))) | with_reducible refine Below.drew ?_ | with_reducible refine drewN_ ?_ _)))).sl) HXL.out).mono ?_; rintro e w6 ⟨rfl, hb6⟩; have B6 := from_ (w := wr) hb6 (by (repeat (first | with_reducible exact Below.refl _ _ | with_reducible assumption | ((with_reducible first | refine Below.setCell ?_ ?_ _ | refine Below.alloc ?_ ?_ _); rotate_left; focus (first | exact Nat.le_refl _ | omega | exact Below.size (by assumption) | (simp <;> omega))) | with_reducible refine Below.drew ?_ | with_reducible refine drewN_ ?_ _))))))
   all_goals
    go_wp2_with fail
    go_roundw
    case rel => exact ⟨k + 1, by go_num, by omega, by have h := hBB.out; show Below _ _ _; exact h.trans (Below.mono (by (repeat (first | with_reducible exact Below.refl _ _ | with_reducible assumption | ((with_reducible first | refine Below.setCell ?_ ?_ _ | refine Below.alloc ?_ ?_ _); rotate_left; focus (first | exact Nat.le_refl _ | omega | exact Below.size (by assumption) | (simp <;> omega))) | with_reducible refine Below.drew ?_ | with_reducible refine drewN_ ?_ _))) h.size)⟩
    case measure => simp [intOf]; omega
  ·obtain rfl : k = n := by omega
   go_wp2
   go_ret
   exact ⟨rfl, hBB.out⟩
end Go.Proofs.YthkhgfdjdpfoiaaGreat
