/-
 The frame of the law ShortestChecks.
 The law ShortestChecks holds: for every grid and any two places and any change that come in, the law returns true, and all read behind the call as they read before. The listed package-level variables (unicode/utf8's tables) start as the program's text lays them.
-/
import Derived.Test.YtcelpkbmcmnogaaGreatDoorRows
import Derived.Test.YtcelpkbmcmnogaaGreatDoorCards
import Derived.Test.YtcelpkbmcmnogaaGreatDoorTie
import Derived.Test.YtcelpkbmcmnogaaGreatDoorGrdO
import Derived.ProofKit
import Derived.OpenShut
import Derived.ShutString
import Derived.ChangeOld
import Derived.Below
import Derived.LaidMore
import Derived.Lay
import Derived.SevenTiedAt
import Derived.Stop.Joined
import Derived.Test.YtcelpkbmcmnogaaGreatDoorChkW
set_option linter.unusedSimpArgs false
set_option linter.unusedVariables false
namespace Go.Proofs.YtcelpkbmcmnogaaGreatDoor
open Go Go.ChangeShapes Go.WideShapes Go.ChangeAt Go.RowKit Go.Vi
theorem own : ownKnob Tryz.prog.godebug = none := by kernel_rfl
theorem laidOut : laidOutB Tryz.prog = true := by kernel_rfl
def LawSays : Prop := ∀ (P : List Spt) (Q : List Lne) (vp vq : Value) (x1a y1a x1b y1b : Int) (x2 y2 z2 : Int) (W : World), GrdAt W.heap.size W vp vq P Q → Byte x1a → Byte y1a → Byte x1b → Byte y1b → Byte x2 → Byte y2 → I8 z2 → Calls Tryz.prog 3 #[.agg #[vp, vq], .agg #[.int .u8 x1a, .int .u8 y1a, .int .u8 x1b, .int .u8 y1b], .agg #[.int .u8 x2, .int .u8 y2, .int .i8 z2]] W fun e w' => e = .returned (.bool true) ∧ Below W.heap.size W w'
set_option maxRecDepth 100000 in
theorem lifted (hR : LawSays) (os : Os) (started : os.Started) (H : Type) (enc : TypeId × Value → H) :
  ReturnsInHanded {} Tryz.checked os 3 .any (fun w args => (Rows.shortestChecksSpec.pre enc Tryz.prog Tryz.f3 Rows.shortestChecksRow.domain false w args ∧ laidMetH Tryz.prog Rows.shortestChecksRow.laid w) ∧ sizedMet enc Tryz.prog Tryz.f3 (OpenSpec.ofChange Rows.shortestChecksSpec) false w args)
   (Rows.shortestChecksSpec.post enc Tryz.prog Tryz.f3 false true false false) := by
 refine returnsInHanded_of_change_and (C := Tryz.checked) (X := fun w _ => laidMetH Tryz.prog Rows.shortestChecksRow.laid w) (fun _ _ _ hh h => h.of_heap hh) own started (by kernel_rfl) Tryz.func3
  (ChangeSpec.witness_shaped (enc := enc) (C := Tryz.checked) (os := os) (X := fun w _ => laidMetH Tryz.prog Rows.shortestChecksRow.laid w) false (World.laidAll Tryz.prog os Rows.shortestChecksRow.laid) #[.agg #[.slice none 0 0, .slice none 0 0], .agg #[.int .u8 0, .int .u8 0, .int .u8 0, .int .u8 0], .agg #[.int .u8 0, .int .u8 0, .int .i8 0]] 8 (World.laidAll_os _ _ _)
   (World.shaped_of_ZipB (by kernel_rfl) (by kernel_rfl)) (by kernel_rfl) (by kernel_rfl) (by kernel_rfl)
   (by rw [MakeChecks.laidMetH_plain _ _ _ (by kernel_rfl)]; exact laidMet_laidAll _ (by kernel_rfl) (by kernel_rfl))) ?_
 intro W base args ds gs before hval0 hW hc _ hL _
 have hval : ∀ (j : Nat) t v, Tryz.f3.params[j]? = some t → args[j]? = some v → Value.okWide Tryz.prog W .any base t v := hval0
 have hW' := hW
 obtain ⟨p, q, hA0, hV, rfl, hfz, hnd⟩ := hW
 have hA : DataW.TrodAll enc Tryz.prog W 0 (fun _ => true) true Tryz.f3.params.toList args.toList ds p := hA0
 rw [Tryz.params3] at hA hval
 obtain ⟨v0, vs0, d0, ds0, p0, q0, hargs0, rfl, rfl, h0, r0⟩ := trodAll_cons hA
 obtain ⟨v1, vs1, d1, ds1, p1, q1, hargs1, rfl, rfl, h1, r1⟩ := trodAll_cons r0
 obtain ⟨v2, vs2, d2, ds2, p2, q2, hargs2, rfl, rfl, h2, r2⟩ := trodAll_cons r1
 obtain ⟨rfl, rfl, rfl⟩ := trodAll_nil r2
 obtain rfl : args = #[v0, v1, v2] := by cases args; simp_all
 obtain ⟨rfl, rfl⟩ := trodVars_none hV
 have k0 := h0
 have lt0 : ∀ x ∈ p0, x.block < W.heap.size := by obtain ⟨m, hm⟩ := k0; exact DataW.trod_lt m _ _ _ hm
 have k1 := h1
 have lt1 : ∀ x ∈ p1, x.block < W.heap.size := by obtain ⟨m, hm⟩ := k1; exact DataW.trod_lt m _ _ _ hm
 have k2 := h2
 have lt2 : ∀ x ∈ p2, x.block < W.heap.size := by obtain ⟨m, hm⟩ := k2; exact DataW.trod_lt m _ _ _ hm
 obtain ⟨P, Q, vp, vq, rfl, hX⟩ := grid_open (hval 0 25 v0 rfl rfl) h0
 obtain ⟨x1a, y1a, x1b, y1b, rfl, hx1a, hy1a, hx1b, hy1b⟩ := where2_open (hval 1 28 v1 rfl rfl) h1
 obtain ⟨x2, y2, z2, rfl, hx2, hy2, hz2⟩ := change_open (hval 2 31 v2 rfl rfl) h2
 clear hA0 hval0
 refine (hR P Q vp vq x1a y1a x1b y1b x2 y2 z2 W hX hx1a hy1a hx1b hy1b hx2 hy2 hz2).mono fun e W' ⟨he, bel⟩ => ?_
 subst he
 exact ⟨_, rfl, _, _, _, [], _, [], hW', trodAll_mk1 (shut_bool Tryz.underlying4 _), (trodAll_cons_mk (Below.trod laidOut (by kernel_rfl) (of_decide_eq_true (by kernel_rfl)) k0 bel lt0) (trodAll_cons_mk (Below.trod laidOut (by kernel_rfl) (of_decide_eq_true (by kernel_rfl)) k1 bel lt1) (trodAll_cons_mk (Below.trod laidOut (by kernel_rfl) (of_decide_eq_true (by kernel_rfl)) k2 bel lt2) trodAll_mk0))), rfl, bel.frame _, fun h => by cases h⟩
theorem lawOver (hR : LawSays) : Rows.shortestChecksRow.holds Tryz.pinned (OpenSpec.ofChange Rows.shortestChecksSpec) :=
 OpenClaim.holds_of_wide 3 Tryz.f3 rfl rfl rfl rfl rfl rfl rfl ⟨rfl, rfl, rfl, rfl, rfl⟩ rfl rfl rfl rfl rfl (by kernel_rfl) Tryz.func3 (by kernel_rfl)
  (of_decide_eq_true (by kernel_rfl)) (by unfold Func.isWrapper; first | (rw [if_pos (by decide +kernel)]; kernel_rfl) | (rw [if_neg (by decide +kernel)]; exact ⟨rfl, rfl⟩))
  (fun os started H enc _ => lifted hR os started H enc)
theorem cardOver (hR : LawSays) : Rows.ShortestChecksCardSaid :=
 Claim7.holds_tied_plain_at .later [] [.data, .pinned] true Rows.shortestChecksCard.stood.harness true (lawOver hR) (fun _ h => by cases h) (by kernel_rfl) (fun _ h => by cases h) shortestChecks_row_tie rfl ⟨rfl, rfl⟩ (by kernel_rfl) rfl
  (fun f fn hf hfn => by
   obtain rfl : f = 3 := Option.some.inj ((show Tryz.prog.funcNamed "viator/viatorlaw21.ShortestChecks" = some 3 by kernel_rfl).symm.trans hf) |>.symm
   obtain rfl : fn = Tryz.f3 := (Option.some.inj (Tryz.func3.symm.trans hfn)).symm
   exact ⟨by kernel_rfl, fun j t ht => by
    rw [Tryz.params3] at ht
    have hm : t ∈ [25, 28, 31] := by simpa using Array.mem_of_getElem? ht
    have hall : ([25, 28, 31].all fun u => !Tryz.prog.wantsStandIn u) = true := by kernel_rfl
    exact (show Tryz.prog.wantsStandIn t = false by simpa using List.all_eq_true.1 hall t hm)⟩)
  (by kernel_rfl)
end Go.Proofs.YtcelpkbmcmnogaaGreatDoor
namespace Go.Proofs.YtcelpkbmcmnogaaGreatDoor
open Go Go.RowKit Go.Vi
theorem shortestChecks_holds : Rows.ShortestChecksCardSaid := cardOver chkLaw
#print axioms shortestChecks_holds
end Go.Proofs.YtcelpkbmcmnogaaGreatDoor
