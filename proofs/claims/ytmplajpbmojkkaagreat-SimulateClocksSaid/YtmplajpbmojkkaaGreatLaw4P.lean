/-
  The exchanges of a scenario bound the offsets of its clocks: plain.
-/
import Derived.Test.YtmplajpbmojkkaaGreatClcK
set_option linter.unusedSimpArgs false
set_option linter.unusedVariables false
namespace Go.Proofs.YtmplajpbmojkkaaGreat
open Go Go.Vi
/-- The true offsets; the server's is 0. -/
def offT (S : Scn) (d : Int) : Int := if d = 0 then 0 else offOf S.clocks d
theorem mem_excS {S : Scn} {e : Exc} : e ∈ excS S S.syncs.length ↔ ∃ y ∈ S.syncs, e = excA S y ∨ e = excB S y := by
  unfold excS
  rw [List.take_length, List.mem_flatMap]
  constructor
  · rintro ⟨y, hy, h⟩; exact ⟨y, hy, by simpa using h⟩
  · rintro ⟨y, hy, h⟩; exact ⟨y, hy, by simpa using h⟩
theorem snc_ok {S : Scn} (h : ClocksOK S) {y : Snc} (hy : y ∈ S.syncs) : sncOK S.clocks y := by
  obtain ⟨i, hi, rfl⟩ := List.getElem_of_mem hy
  have := h.snc i hi
  rwa [getElem!_pos S.syncs i hi] at this
theorem wgt_A (S : Scn) {y : Snc} : wgt (excA S y) = offOf S.clocks y.dev + y.so := by
  unfold wgt excA gotOut; simp only; omega
theorem wgt_B (S : Scn) {y : Snc} : wgt (excB S y) = -(offOf S.clocks y.dev) + y.sb := by
  unfold wgt excB gotOut gotBack; simp only; omega
theorem exc_star {S : Scn} (h : ClocksOK S) : Star (excS S S.syncs.length) (offT S) := by
  have key : ∀ j, j < (excS S S.syncs.length).length → ∃ y ∈ S.syncs, (excS S S.syncs.length)[j]! = excA S y ∨ (excS S S.syncs.length)[j]! = excB S y := fun j hj => mem_excS.1 (mem_at hj)
  refine ⟨by simp [offT], fun j hj => ?_, fun j hj => ?_, fun j hj => ?_⟩
  all_goals
    obtain ⟨y, hy, he⟩ := key j hj
    obtain ⟨_, g1, g2, g3, g4, g5, g6⟩ := snc_ok h hy
    have hb := off_bound h y.dev
    have hA := wgt_A S (y := y)
    have hB := wgt_B S (y := y)
  · rcases he with e | e <;> rw [e]
    · exact .inl ⟨rfl, g1⟩
    · exact .inr ⟨rfl, g1⟩
  · rcases he with e | e <;> rw [e]
    · rw [hA]
      show offT S y.dev - offT S 0 ≤ _
      simp only [offT, if_neg g1, if_true]
      omega
    · rw [hB]
      show offT S 0 - offT S y.dev ≤ _
      simp only [offT, if_neg g1, if_true]
      omega
  · rcases he with e | e <;> rw [e]
    · rw [hA]; omega
    · rw [hB]; omega
theorem off_at {C : List Clk} (hp : C.Pairwise (fun a b => a.dev ≠ b.dev)) {c : Clk} (hc : c ∈ C) : offOf C c.dev = c.off := by
  have : clkOf C c.dev = some c := by
    unfold clkOf
    induction C with
    | nil => cases hc
    | cons a C ih =>
      rw [List.pairwise_cons] at hp
      rw [List.find?_cons]
      rcases List.mem_cons.1 hc with rfl | hc
      · simp
      · have : (a.dev == c.dev) = false := by simpa using hp.1 c hc
        rw [this]
        exact ih hp.2 hc
  unfold offOf
  rw [this]
theorem has_dev {C : List Clk} {d : Int} (h : hasOff C d = true) (h0 : d ≠ 0) : ∃ c ∈ C, c.dev = d := by
  unfold hasOff clkOf at h
  cases hf : C.find? fun c => c.dev == d with
  | none => rw [hf] at h; simp at h; exact absurd h h0
  | some c =>
    have h1 := List.find?_some hf
    exact ⟨c, List.mem_of_find?_eq_some hf, by simpa using h1⟩
theorem exc_ok {S : Scn} (h : ClocksOK S) : ∀ x ∈ excS S S.syncs.length, ExOK x := by
  intro e he
  obtain ⟨y, hy, hh⟩ := mem_excS.1 he
  obtain ⟨g0, g1, g2, g3, g4, g5, g6⟩ := snc_ok h hy
  have hb := off_bound h y.dev
  obtain ⟨c, hc, hcd⟩ := has_dev g0 g1
  obtain ⟨i, hi, rfl⟩ := List.getElem_of_mem hc
  have hk := (h.clk i hi).1
  rw [getElem!_pos S.clocks i hi, hcd] at hk
  rcases hh with rfl | rfl
  · exact ⟨by show (0 : Int) ≤ 0 ∧ (0 : Int) ≤ 1073741824; omega, by show 0 ≤ y.dev ∧ y.dev ≤ 1073741824; omega, by show -1099511627776 ≤ y.sent ∧ y.sent ≤ 1099511627776; omega, by show -1099511627776 ≤ gotOut S y ∧ gotOut S y ≤ 1099511627776; unfold gotOut; omega, by show -1099511627776 ≤ y.out - y.so ∧ y.out - y.so ≤ 1099511627776; omega⟩
  · exact ⟨by show 0 ≤ y.dev ∧ y.dev ≤ 1073741824; omega, by show (0 : Int) ≤ 0 ∧ (0 : Int) ≤ 1073741824; omega, by show -1099511627776 ≤ gotOut S y ∧ gotOut S y ≤ 1099511627776; unfold gotOut; omega, by show -1099511627776 ≤ gotBack y ∧ gotBack y ≤ 1099511627776; unfold gotBack; omega, by show -1099511627776 ≤ y.back - y.sb ∧ y.back - y.sb ≤ 1099511627776; omega⟩
theorem clk_pos {S : Scn} (h : ClocksOK S) {c : Clk} (hc : c ∈ S.clocks) : 0 < c.dev ∧ c.dev ≤ 1073741824 ∧ -1048576 ≤ c.off ∧ c.off ≤ 1048576 := by
  obtain ⟨i, hi, rfl⟩ := List.getElem_of_mem hc
  have hk := h.clk i hi
  have h1 := hk.1
  have h2 := hk.2.2
  rw [getElem!_pos S.clocks i hi] at h1 h2
  omega
/-- A clock that has a sync is known; one without has the offset 0. -/
theorem clk_cases {S : Scn} (h : ClocksOK S) (hn : S.syncs.length ≤ 50) {c : Clk} (hc : c ∈ S.clocks) : Dev (excS S S.syncs.length) (offT S) c.dev ∨ (c.off = 0 ∧ ¬ EndOf (excS S S.syncs.length) c.dev) := by
  have hp := clk_pos h hc
  by_cases hs : ∃ y ∈ S.syncs, y.dev = c.dev
  · left
    obtain ⟨y, hy, hd⟩ := hs
    have hA : excA S y ∈ excS S S.syncs.length := mem_excS.2 ⟨y, hy, .inl rfl⟩
    have hB : excB S y ∈ excS S S.syncs.length := mem_excS.2 ⟨y, hy, .inr rfl⟩
    obtain ⟨i, hi, ei⟩ := List.getElem_of_mem hA
    obtain ⟨j, hj, ej⟩ := List.getElem_of_mem hB
    refine ⟨exc_star h, exc_ok h, by rw [excS_len S _ (Nat.le_refl _)]; omega, ⟨hp.1, hp.2.1⟩, ⟨i, hi, ?_, ?_⟩, ⟨j, hj, ?_, ?_⟩⟩
    · rw [getElem!_pos _ i hi, ei]; rfl
    · rw [getElem!_pos _ i hi, ei]; exact hd
    · rw [getElem!_pos _ j hj, ej]; exact hd
    · rw [getElem!_pos _ j hj, ej]; rfl
  · right
    obtain ⟨i, hi, rfl⟩ := List.getElem_of_mem hc
    have hg := h.gap i hi
    rw [getElem!_pos S.clocks i hi] at hg
    refine ⟨?_, ?_⟩
    · rcases hg with g | ⟨y, hy, g⟩
      · exact g
      · exact absurd ⟨y, hy, g⟩ hs
    · rintro ⟨e, he, hh⟩
      obtain ⟨y, hy, h2⟩ := mem_excS.1 he
      have hp1 := hp.1
      rcases h2 with rfl | rfl
      · rcases hh with g | g
        · have : S.clocks[i].dev = 0 := g
          omega
        · exact hs ⟨y, hy, g.symm⟩
      · rcases hh with g | g
        · exact hs ⟨y, hy, g.symm⟩
        · have : S.clocks[i].dev = 0 := g
          omega
/-- The bounds of a clock's offset. -/
theorem clk_bounds {S : Scn} (h : ClocksOK S) {c : Clk} (hc : c ∈ S.clocks) {ju jd : Nat} (hu : BestO (excS S S.syncs.length) c.dev ju) (hd : BestB (excS S S.syncs.length) c.dev jd) : -(wgt (excS S S.syncs.length)[jd]!) ≤ c.off ∧ c.off ≤ wgt (excS S S.syncs.length)[ju]! ∧ ((∀ y ∈ S.syncs, y.so = y.sb) → wgt (excS S S.syncs.length)[ju]! - c.off = c.off - -(wgt (excS S S.syncs.length)[jd]!)) ∧ wgt (excS S S.syncs.length)[ju]! ≤ 4398046511104 ∧ wgt (excS S S.syncs.length)[jd]! ≤ 4398046511104 := by
  have hp := clk_pos h hc
  have hof := off_at h.pairwise.1 hc
  have hsb := exc_star h
  obtain ⟨y, hy, ey⟩ := mem_excS.1 (mem_at hu.lt)
  obtain ⟨z, hz, ez⟩ := mem_excS.1 (mem_at hd.lt)
  have ey' : (excS S S.syncs.length)[ju]! = excA S y ∧ y.dev = c.dev := by
    have h1 := hu.frm
    have h2 := hu.dst
    rcases ey with e | e
    · rw [e] at h2; exact ⟨e, h2⟩
    · rw [e] at h2
      have : (0 : Int) = c.dev := h2
      omega
  have ez' : (excS S S.syncs.length)[jd]! = excB S z ∧ z.dev = c.dev := by
    have h1 := hd.frm
    have h2 := hd.dst
    rcases ez with e | e
    · rw [e] at h1
      have : (0 : Int) = c.dev := h1
      omega
    · rw [e] at h1; exact ⟨e, h1⟩
  obtain ⟨ey1, ey2⟩ := ey'
  obtain ⟨ez1, ez2⟩ := ez'
  have wy : wgt (excS S S.syncs.length)[ju]! = c.off + y.so := by rw [ey1, wgt_A, ey2, hof]
  have wz : wgt (excS S S.syncs.length)[jd]! = -c.off + z.sb := by rw [ez1, wgt_B, ez2, hof]
  obtain ⟨_, _, _, _, _, gy, _⟩ := snc_ok h hy
  obtain ⟨_, _, _, _, _, _, gz⟩ := snc_ok h hz
  have by' := (hsb.b ju hu.lt).2
  have bz' := (hsb.b jd hd.lt).2
  refine ⟨by omega, by omega, fun hev => ?_, by', bz'⟩
  have h1 : wgt (excS S S.syncs.length)[ju]! ≤ c.off + z.so := by
    have hA : excA S z ∈ excS S S.syncs.length := mem_excS.2 ⟨z, hz, .inl rfl⟩
    obtain ⟨i, hi, ei⟩ := List.getElem_of_mem hA
    have ei' : (excS S S.syncs.length)[i]! = excA S z := by rw [getElem!_pos _ i hi]; exact ei
    have := hu.least i hi (by rw [ei']; rfl) (by rw [ei']; exact ez2)
    rw [ei', wgt_A, ez2, hof] at this
    exact this
  have h2 : wgt (excS S S.syncs.length)[jd]! ≤ -c.off + y.sb := by
    have hB : excB S y ∈ excS S S.syncs.length := mem_excS.2 ⟨y, hy, .inr rfl⟩
    obtain ⟨i, hi, ei⟩ := List.getElem_of_mem hB
    have ei' : (excS S S.syncs.length)[i]! = excB S y := by rw [getElem!_pos _ i hi]; exact ei
    have := hd.least i hi (by rw [ei']; exact ey2) (by rw [ei']; rfl)
    rw [ei', wgt_B, ey2, hof] at this
    exact this
  have e1 := hev y hy
  have e2 := hev z hz
  omega
end Go.Proofs.YtmplajpbmojkkaaGreat
