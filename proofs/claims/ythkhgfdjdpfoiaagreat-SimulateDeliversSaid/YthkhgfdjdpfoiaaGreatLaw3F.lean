/-
  The frame of the law of delivery: every story, size and fates that come in, and what they read as behind the call.
-/
import Derived.Test.YthkhgfdjdpfoiaaGreatRows
import Derived.Test.YthkhgfdjdpfoiaaGreatStoA
import Derived.Test.YthkhgfdjdpfoiaaGreatLaw3W
import Derived.WalkKit
import Derived.ProofKit
import Derived.OpenShut
import Derived.ShutString
import Derived.ChangeOld
import Derived.Below
set_option linter.unusedSimpArgs false
set_option linter.unusedVariables false
namespace Go.Proofs.YthkhgfdjdpfoiaaGreat
open Go Go.ChangeShapes Go.WideShapes Go.ChangeAt Go.RowKit Go.Vi
theorem own : ownKnob Tryz.prog.godebug = none := by kernel_rfl
theorem laidOut : laidOutB Tryz.prog = true := by kernel_rfl
section
variable {H : Type} {enc : TypeId × Value → H} {w : World} {spare : Nat → Bool} {held : Bool}
theorem len3 {c : List Value} (h : c.length = 3) : ∃ a b d, c = [a, b, d] := by
  match c, h with
  | [a, b, d], _ => exact ⟨a, b, d, rfl⟩
theorem c3 : Tryz.prog.cellsOf 3 = 1 := by kernel_rfl
theorem cFte : Tryz.prog.cellsOf 113 = 3 := by kernel_rfl
theorem fate_open (n : Nat) (c : List Value) (y : DataW H × List MemPlace) (h : DataW.trod enc Tryz.prog w 0 spare held n 113 c = some y) (hl : c.length = 3) : ∃ a, c = Fte.cs a ∧ True := by
  obtain ⟨a, b, d, rfl⟩ := len3 hl
  obtain ⟨_, _, h0⟩ := field_of Tryz.underlying113 h 0 rfl rfl rfl c4
  obtain ⟨_, _, h1⟩ := field_of Tryz.underlying113 h 1 rfl rfl rfl c4
  obtain ⟨_, _, h2⟩ := field_of Tryz.underlying113 h 2 rfl rfl rfl c3
  obtain ⟨x0, hc0, _⟩ := DataW.trod_bool Tryz.underlying4 (cs := [a]) h0
  obtain ⟨x1, hc1, _⟩ := DataW.trod_bool Tryz.underlying4 (cs := [b]) h1
  obtain ⟨x2, hc2, _, _⟩ := DataW.trod_int Tryz.underlying3 (cs := [d]) h2
  simp at hc0 hc1 hc2
  subst hc0 hc1 hc2
  exact ⟨⟨x0, x1, x2⟩, rfl, trivial⟩
set_option maxRecDepth 100000 in
theorem fates_open {r : Reach} {base : Nat} {v : Value} {d : DataW H} {p : List MemPlace} (hv : Value.okWide Tryz.prog w r base 59 v) (h : DataW.Trod enc Tryz.prog w 0 spare held 59 v d p) : ∃ F : List Fte, Sl w.heap.size w 3 v (F.map Fte.cs) := by
  obtain ⟨fuel, hf⟩ := h
  obtain ⟨ao, len, cap, rfl⟩ := okWide_slice Tryz.underlying59 hv
  have hf' : DataW.trod enc Tryz.prog w 0 spare held fuel 59 [.slice ao len cap] = some (d, p) := hf
  obtain ⟨F, _, _, s0, _⟩ := rows_open (α := Fte) (cs := Fte.cs) (k := 3) (fits := fun _ => True) (v := .slice ao len cap) (fun _ => rfl) (by decide) Tryz.underlying59 cFte fate_open hf'
  refine ⟨F, s0 ?_⟩
  intro ad n c e
  rw [e] at hv
  simp only [Value.okWide, Tryz.underlying59] at hv
  exact okCell_slice (P := Tryz.prog) Tryz.underlying59 hv
end
def RightSays : Prop := ∀ (x : Sto) (vp vq vd va : Value), x.fits → x.short = true → ∀ W : World, StoAt W.heap.size W vp vq vd va x → Calls Tryz.prog 7 #[x.v vp vq vd va] W fun e w' => RightOut x W.heap.size e w' ∧ Below W.heap.size W w'
set_option maxRecDepth 100000 in
theorem lifted (hR : RightSays) (os : Os) (started : os.Started) (H : Type) (enc : TypeId × Value → H) :
    ReturnsInHanded {} Tryz.checked os 4 .any (Rows.simulateDeliversSpec.pre6 enc Tryz.prog Tryz.f4 Rows.simulateDeliversRow.domain false) (Rows.simulateDeliversSpec.post enc Tryz.prog Tryz.f4 false true false false) := by
  refine returnsInHanded_of_change (C := Tryz.checked) own started (by kernel_rfl) Tryz.func4
    (ChangeSpec.witness6 (enc := enc) (C := Tryz.checked) false ⟨#[], #[.agg #[.slice none 0 0, .slice none 0 0, .slice none 0 0, .slice none 0 0, .int .u8 0, .bool false], .int .i64 0, .slice none 0 0], []⟩ 8 (by kernel_rfl) (by kernel_rfl) (by kernel_rfl) (by kernel_rfl)) ?_
  intro W base args ds gs before hval0 hW hcnd _
  have hval : ∀ (j : Nat) t v, Tryz.f4.params[j]? = some t → args[j]? = some v → Value.okWide Tryz.prog W .any base t v := hval0
  have hW' := hW
  obtain ⟨p, q, hA0, hV, rfl, hfz, hnd⟩ := hW
  have hA : DataW.TrodAll enc Tryz.prog W 0 (fun _ => true) true Tryz.f4.params.toList args.toList ds p := hA0
  rw [Tryz.params4] at hA hval
  obtain ⟨v0, vs0, d0, ds0, p0, q0, hargs, rfl, rfl, h0, r0⟩ := trodAll_cons hA
  obtain ⟨v1, vs1, d1, ds1, p1, q1, hargs1, rfl, rfl, h1, r1⟩ := trodAll_cons r0
  obtain ⟨v2, vs2, d2, ds2, p2, q2, hargs2, rfl, rfl, h2, r2⟩ := trodAll_cons r1
  obtain ⟨rfl, rfl, rfl⟩ := trodAll_nil r2
  subst hargs2
  subst hargs1
  obtain rfl : args = #[v0, v1, v2] := by cases args; simp_all
  obtain ⟨rfl, rfl⟩ := trodVars_none hV
  have k0 := h0
  have k1 := h1
  have k2 := h2
  have lt0 : ∀ x ∈ p0, x.block < W.heap.size := by obtain ⟨m, hm⟩ := k0; exact DataW.trod_lt m _ _ _ hm
  have lt1 : ∀ x ∈ p1, x.block < W.heap.size := by obtain ⟨m, hm⟩ := k1; exact DataW.trod_lt m _ _ _ hm
  have lt2 : ∀ x ∈ p2, x.block < W.heap.size := by obtain ⟨m, hm⟩ := k2; exact DataW.trod_lt m _ _ _ hm
  obtain ⟨x, vp, vq, vd, va, rfl, hX, hF⟩ := story_open (hval 0 29 v0 rfl rfl) h0
  obtain ⟨size, rfl⟩ := okWide_int Tryz.underlying3 (hval 1 3 v1 rfl rfl)
  obtain ⟨F, hVF⟩ := fates_open (hval 2 59 v2 rfl rfl) h2
  clear hA0 hval0
  refine (law3_of x size F vp vq vd va v2 W hX hVF (fun hs W' hX' => hR x vp vq vd va hF hs W' hX')).mono fun e W' ⟨he, bel⟩ => ?_
  subst he
  exact ⟨_, rfl, _, _, _, [], _, [], hW', trodAll_mk1 (shut_bool Tryz.underlying4 _), (trodAll_cons_mk (Below.trod laidOut (by kernel_rfl) (of_decide_eq_true (by kernel_rfl)) k0 bel lt0) (trodAll_cons_mk (Below.trod laidOut (by kernel_rfl) (of_decide_eq_true (by kernel_rfl)) k1 bel lt1) (trodAll_cons_mk (Below.trod laidOut (by kernel_rfl) (of_decide_eq_true (by kernel_rfl)) k2 bel lt2) trodAll_mk0))), rfl, bel.frame _, fun h => by cases h⟩
theorem lawOver (hR : RightSays) : Rows.simulateDeliversRow.holds Tryz.pinned (OpenSpec.ofChange Rows.simulateDeliversSpec) :=
  OpenClaim.holds_of_wide 4 Tryz.f4 rfl rfl rfl rfl rfl rfl rfl ⟨rfl, rfl, rfl, rfl, rfl⟩ rfl rfl rfl rfl rfl (by kernel_rfl) Tryz.func4 (by kernel_rfl)
    (of_decide_eq_true (by kernel_rfl)) (by unfold Func.isWrapper; first | (rw [if_pos (by decide +kernel)]; kernel_rfl) | (rw [if_neg (by decide +kernel)]; exact ⟨rfl, rfl⟩))
    (fun os started H enc _ => lifted hR os started H enc)
end Go.Proofs.YthkhgfdjdpfoiaaGreat
