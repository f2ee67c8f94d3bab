/-
  Clocks: the search in sorted numbers, the weight of an exchange, the sorted keys of a set.
-/
import Derived.Test.YtmplajpbmojkkaaGreatJnkA
import Derived.Test.YtmplajpbmojkkaaGreatExcA
import Derived.Test.YtmplajpbmojkkaaGreatKeyLay
set_option linter.unusedSimpArgs false
set_option linter.unusedVariables false
namespace Go.Proofs.YtmplajpbmojkkaaGreat
open Go Go.RowKit Go.Vi
theorem nanC_q (x : Int) (w : World) : Calls Tryz.prog 49 #[.int .i64 x] w fun e w' => e = .returned (.bool false) ∧ Below w.heap.size w w' := by
  go_enter Tryz.func49, Tryz.ntmps49
  go_wp2
  go_ret
  exact ⟨rfl, Below.refl _ _⟩
theorem nanS_q (x : Int) (w : World) : Calls Tryz.prog 58 #[.int .i64 x] w fun e w' => e = .returned (.bool false) ∧ Below w.heap.size w w' := by
  go_enter Tryz.func58, Tryz.ntmps58
  go_wp2
  go_ret
  exact ⟨rfl, Below.refl _ _⟩
theorem lessI_q (x y : Int) (w : World) : Calls Tryz.prog 57 #[.int .i64 x, .int .i64 y] w fun e w' => e = .returned (.bool (decide (x < y))) ∧ Below w.heap.size w w' := by
  have H1 := Lib.hid (fun w' => nanC_q x w')
  go_enter Tryz.func57, Tryz.ntmps57
  go_wp2_with fail
  refine (jk (H1.out _)).mono ?_
  rintro e _ ⟨rfl, X1, rfl⟩
  go_wp2_with fail
  all_goals
    go_ret
    exact ⟨rfl, Bw.b⟩
theorem i1_cells {B : Nat} {w : World} {a : Option Addr} {n cap : Nat} {L : List Int} (h : Sl B w 1 (.slice a n cap) (L.map i1)) (i : Nat) (hi : i < L.length) :
    ∃ b off, a = some ⟨b, off, none⟩ ∧ b < B ∧ w.cell? ⟨b, off + i, none⟩ = some (.int .i64 L[i]!) := by
  obtain ⟨b, off, h1, h2, h3⟩ := h.cells (cs := i1) i hi
  have := h3 i hi 0 _ rfl
  rw [Nat.mul_one, Nat.add_zero] at this
  exact ⟨b, off, h1, h2, this⟩
attribute [local go_sem ↓] lo_lt lo_ne lo_ne'
attribute [local go_sem] junk_cell junk_frozen junk_setCell junk_drew drew_junk
set_option maxHeartbeats 1000000 in
theorem bsInt_any (L : List Int) (a : Option Addr) (n cap : Nat) (t : Int) (w : World) (hn : L.length = n) (hc : Sl w.heap.size w 1 (.slice a n cap) (L.map i1)) (hsz : n ≤ 1000000)
   (hs : ∀ i j, i ≤ j → j < n → L[i]! ≤ L[j]!) :
   Calls Tryz.prog 38 #[.slice a n cap, .int .i64 t] w fun e w' => Found (fun i => L[i]!) n t e ∧ Below w.heap.size w w' := by
  have Hn := Lib.hid hn; clear hn
  have Hc := Lib.hid hc; clear hc
  have Hs := Lib.hid hs; clear hs
  have HLS := Lib.hid (fun x w' => lessI_q x t w')
  have HNA := Lib.hid (fun w' => nanS_q t w')
  go_enter Tryz.func38, Tryz.ntmps38
  go_wp2
  go_loopw [7, 8] (fun s9 s10 wr => ∃ lo hi : Nat, s9 = .int .i64 lo ∧ s10 = .int .i64 hi ∧ lo ≤ hi ∧ hi ≤ n ∧ Hid (Below w.heap.size w wr) ∧ Hid ((∀ k, k < lo → L[k]! < t) ∧ (∀ k, hi ≤ k → k < n → t ≤ L[k]!))) (fun s9 s10 _ => (intOf s10 - intOf s9).toNat)
  case atStart => exact ⟨0, n, rfl, rfl, Nat.zero_le _, Nat.le_refl _, Below.refl _ _, by intro k hk; omega, by intro k h1 h2; omega⟩
  case round =>
    obtain ⟨lo, hi, rfl, rfl, h1, h2, hB, hI⟩ := hrel
    by_cases hlt : lo < hi
    · obtain ⟨b, off, rfl, hb, hk⟩ := i1_cells Hc.out ((lo + hi) / 2) (by have := Hn.out; omega)
      rw [← hB.out.cell (p := ⟨b, _, none⟩) hb] at hk
      generalize hy : L[(lo + hi) / 2]! = y at hk
      have Y := Lib.hid hy; clear hy
      by_cases hc : y < t
      · have hd : decide (y < t) = true := by simpa using hc
        go_wp2_with (go_at_call 57; refine (HLS.out y _).mono ?_; rintro e w' ⟨rfl, hb1⟩; rw [hd]; have HB1 := Lib.hid hb1; clear hb1)
        go_roundw
        case rel =>
          refine ⟨(lo + hi) / 2 + 1, hi, by go_num, rfl, by omega, h2, hB.out.trans (HB1.out.mono hB.out.size), fun k hk => ?_, hI.out.2⟩
          have := Hs.out k ((lo + hi) / 2) (by omega) (by omega)
          rw [Y.out] at this
          omega
        case measure => simp [intOf]; omega
      · have hd : decide (y < t) = false := by simpa using hc
        go_wp2_with (go_at_call 57; refine (HLS.out y _).mono ?_; rintro e w' ⟨rfl, hb1⟩; rw [hd]; have HB1 := Lib.hid hb1; clear hb1)
        go_roundw
        case rel =>
          refine ⟨lo, (lo + hi) / 2, rfl, by go_num, by omega, by omega, hB.out.trans (HB1.out.mono hB.out.size), hI.out.1, fun k hk hk2 => ?_⟩
          have := Hs.out ((lo + hi) / 2) k (by omega) (by omega)
          rw [Y.out] at this
          omega
        case measure => simp [intOf]; omega
    · obtain rfl : hi = lo := by omega
      by_cases hn2 : hi < n
      · obtain ⟨b, off, rfl, hb, hk⟩ := i1_cells Hc.out hi (by have := Hn.out; omega)
        rw [← hB.out.cell (p := ⟨b, _, none⟩) hb] at hk
        generalize hy : L[hi]! = y at hk
        have Y := Lib.hid hy; clear hy
        by_cases he : y = t
        · have hd : (y == t) = true := by simpa using he
          go_wp2_with (go_at_call 58; refine (nanS_q _ _).mono ?_; rintro e w' ⟨rfl, hb1⟩; have HB1 := Lib.hid hb1; clear hb1)
          go_ret2
          refine ⟨⟨hi, _, h2, hI.out.1, hI.out.2, ?_, rfl⟩, hB.out⟩
          have e := Y.out
          simp only [e]
          simp [he, hn2]
        · have hd : (y == t) = false := by simpa using he
          go_wp2_with (go_at_call 58; refine (nanS_q _ _).mono ?_; rintro e w' ⟨rfl, hb1⟩; have HB1 := Lib.hid hb1; clear hb1)
          go_ret2
          refine ⟨⟨hi, _, h2, hI.out.1, hI.out.2, ?_, rfl⟩, hB.out.trans (HB1.out.mono hB.out.size)⟩
          have e := Y.out
          simp only [e]
          simp [he, hn2]
      · go_wp2
        go_ret2
        refine ⟨⟨hi, _, h2, hI.out.1, hI.out.2, ?_, rfl⟩, hB.out⟩
        simp [hn2]
theorem exj {W W' : World} [h : Bw W W'] : ∃ U, W' = W.junk U := ⟨W', (junk_of h.b).symm⟩
/-- The weight of an exchange, and its numbers. -/
def wgt (x : Exc) : Int := x.got - x.sent - x.least
structure ExOK (x : Exc) : Prop where
  frm : 0 ≤ x.frm ∧ x.frm ≤ 1073741824
  dst : 0 ≤ x.dst ∧ x.dst ≤ 1073741824
  sent : -1099511627776 ≤ x.sent ∧ x.sent ≤ 1099511627776
  got : -1099511627776 ≤ x.got ∧ x.got ≤ 1099511627776
  least : -1099511627776 ≤ x.least ∧ x.least ≤ 1099511627776
theorem weight_q (x : Exc) (w : World) (h : ExOK x) : Calls Tryz.prog 44 #[.agg #[.int .i64 x.frm, .int .i64 x.dst, .int .i64 x.sent, .int .i64 x.got, .int .i64 x.least]] w fun e w' => e = .returned (.int .i64 (wgt x)) ∧ Below w.heap.size w w' := by
  obtain ⟨_, _, s1, g1, l1⟩ := h
  unfold wgt
  have h1 : IntKind.i64.wrap (x.got - x.sent) = x.got - x.sent := IntWalk.i64_in _ (by omega)
  have h2 : IntKind.i64.wrap (x.got - x.sent - x.least) = x.got - x.sent - x.least := IntWalk.i64_in _ (by omega)
  go_enter Tryz.func44, Tryz.ntmps44
  go_wp2_with fail
  go_ret
  exact ⟨rfl, Bw.b⟩
end Go.Proofs.YtmplajpbmojkkaaGreat
