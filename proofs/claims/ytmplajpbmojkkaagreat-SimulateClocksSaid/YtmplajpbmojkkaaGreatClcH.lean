/-
  What a chain of one exchange proves.
-/
import Derived.Test.YtmplajpbmojkkaaGreatClcG
set_option linter.unusedSimpArgs false
set_option linter.unusedVariables false
namespace Go.Proofs.YtmplajpbmojkkaaGreat
open Go Go.RowKit Go.Vi
attribute [local go_sem ↓] lo_lt lo_ne lo_ne'
attribute [local go_sem] junk_cell junk_frozen junk_setCell junk_drew drew_junk
set_option maxHeartbeats 1000000 in
theorem sum0_q (v : Value) (frm tt : Int) (w : World) (hne : frm ≠ tt) : Calls Tryz.prog 17 #[v, .slice none 0 0, .int .i64 frm, .int .i64 tt] w fun e w' => e = .returned (.tuple #[.int .i64 0, .int .i64 30]) ∧ Below w.heap.size w w' := by
  have hd : (frm != tt) = true := by simpa using hne
  go_enter Tryz.func17, Tryz.ntmps17
  go_wp2_with fail
  go_loopw [16, 10, 8] (fun s16 s10 s8 wr => s16 = .int .i64 0 ∧ s10 = .int .i64 frm ∧ s8 = .int .i64 0 ∧ wr = w) (fun _ _ _ _ => 0)
  case atStart => exact ⟨rfl, rfl, rfl, rfl⟩
  case round =>
    obtain ⟨rfl, rfl, rfl, rfl⟩ := hrel
    go_wp2_with fail
    go_ret2
    exact ⟨rfl, Below.refl _ _⟩
set_option maxRecDepth 100000 in
set_option maxHeartbeats 4000000 in
theorem sum1_q (L : List Exc) (v vc : Value) (frm tt : Int) (i : Nat) (w : World) (hv : Sl w.heap.size w 5 v (L.map Exc.cs)) (hc : Sl w.heap.size w 1 vc ([(i : Int)].map i1)) (hm : L.length ≤ 100) (hL : ∀ x ∈ L, ExOK x) (hi : i < L.length) (hf : L[i]!.frm = frm) (ht : L[i]!.dst = tt) :
    Calls Tryz.prog 17 #[v, vc, .int .i64 frm, .int .i64 tt] w fun e w' => e = .returned (.tuple #[.int .i64 (wgt L[i]!), .int .i64 0]) ∧ Below w.heap.size w w' := by
  obtain ⟨a, n, cap, rfl, hn, _, _⟩ := hv.open
  rw [List.length_map] at hn
  obtain ⟨a1, m1, k1, rfl, hm1, _, _⟩ := hc.open
  have hm1' : m1 = 1 := hm1.symm
  subst hm1'
  obtain ⟨bl, off, rfl, hb, c0, c1, c2, c3, c4⟩ := ex_cells hv i hi
  obtain ⟨bc, offc, rfl, hbc, d0⟩ := i1_cells hc 0 (by simp)
  have d0' : w.cell? ⟨bc, offc, none⟩ = some (.int .i64 (i : Int)) := d0
  have hmem : L[i]! ∈ L := by rw [getElem!_pos L i hi]; exact List.getElem_mem hi
  have HWT := Lib.hid (fun w' => weight_q L[i]! w' (hL _ hmem))
  have hiN : i < n := by omega
  have hi3 : (0 : Int) ≤ (i : Int) := by omega
  have hi4 : (i : Int) < (n : Int) := by omega
  have hi5 : ¬ (i : Int) < 0 := by omega
  have hi6 : ¬ (n : Int) ≤ (i : Int) := by omega
  have HWB : -4398046511104 ≤ wgt L[i]! ∧ wgt L[i]! ≤ 4398046511104 := by obtain ⟨_, _, q1, q2, q3⟩ := hL _ hmem; unfold wgt; omega
  rw [hf] at c0 HWT
  rw [ht] at c1 HWT
  generalize L[i]! = x at *
  have hw0 : IntKind.i64.wrap (0 + wgt x) = wgt x := by rw [Int.zero_add]; exact IntWalk.i64_in _ (by omega)
  have hw1 : IntKind.i64.wrap (wgt x) = wgt x := IntWalk.i64_in _ (by omega)
  clear hv hc hm hL hn hm1 d0 hmem hf ht hi
  go_enter Tryz.func17, Tryz.ntmps17
  go_wp2_with fail
  go_loopw [16, 10, 8] (fun s16 s10 s8 wr => ∃ f : Bool, s16 = .int .i64 (if f then 1 else 0) ∧ s10 = .int .i64 (if f then tt else frm) ∧ s8 = .int .i64 (if f then wgt x else 0) ∧ Hid (Below w.heap.size w wr)) (fun s16 _ _ _ => 1 - (intOf s16).toNat)
  case atStart => exact ⟨false, rfl, rfl, rfl, Lib.hid (Below.refl _ _)⟩
  case round =>
    obtain ⟨f, rfl, rfl, rfl, HB⟩ := hrel
    haveI bW : Bw w wr := ⟨HB.out⟩
    cases f with
    | true =>
      simp only [if_pos]
      go_wp2_with fail
      go_ret2
      exact ⟨rfl, Bw.b⟩
    | false =>
      simp only [if_neg Bool.false_ne_true]
      rw [← HB.out.cell (p := ⟨bl, _, none⟩) hb] at c0 c1 c2 c3 c4
      rw [← HB.out.cell (p := ⟨bc, _, none⟩) hbc] at d0'
      haveI lb : Lo bl wr := ⟨Nat.lt_of_lt_of_le hb HB.out.size⟩
      haveI lbc : Lo bc wr := ⟨Nat.lt_of_lt_of_le hbc HB.out.size⟩
      go_upto_region 7 with fail
      go_region_held3 (fun w' => w'.cell? ⟨bl, off + i * 5, none⟩ = some (.int .i64 frm) ∧ w'.cell? ⟨bl, off + i * 5 + 1, none⟩ = some (.int .i64 tt) ∧ w'.cell? ⟨bl, off + i * 5 + 2, none⟩ = some (.int .i64 x.sent) ∧ w'.cell? ⟨bl, off + i * 5 + 3, none⟩ = some (.int .i64 x.got) ∧ w'.cell? ⟨bl, off + i * 5 + 4, none⟩ = some (.int .i64 x.least)) (refine ⟨?_, ?_, ?_, ?_, ?_⟩ <;> simp [go_sem, c0, c1, c2, c3, c4]) (first | ((with_reducible refine (jk (HWT.out _)).mono ?_); rintro e _ ⟨rfl, X, rfl⟩) | fail)
      all_goals
        go_wp2_with fail
        go_roundw
        case rel => exact ⟨true, rfl, rfl, by simp [hw1], Lib.hid Bw.b⟩
        case measure => simp [intOf]
end Go.Proofs.YtmplajpbmojkkaaGreat
