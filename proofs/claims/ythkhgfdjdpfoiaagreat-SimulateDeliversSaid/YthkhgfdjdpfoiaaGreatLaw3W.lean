/-
 The law of delivery, walked. Printed by wip/tools/genlaw3.py out of Law2W.
-/
import Derived.Test.YthkhgfdjdpfoiaaGreatKnwA
import Derived.Test.YthkhgfdjdpfoiaaGreatRgtA
import Derived.Test.YthkhgfdjdpfoiaaGreatCheckM
import Derived.Test.YthkhgfdjdpfoiaaGreatDelW
import Derived.Test.YthkhgfdjdpfoiaaGreatDelM
set_option linter.unusedSimpArgs false
set_option linter.unusedVariables false
namespace Go.Proofs.YthkhgfdjdpfoiaaGreat
open Go Go.RowKit Go.Vi
theorem sentS_few3 {S : Scn} (hF : Fit S) (hW : wayErr S = 0) : ∀ k, k ≤ S.trips.length → (sentS S k).length ≤ 256 * k
 | 0, _ => by simp [sentS]
 | k + 1, h => by
  have hk : k < S.trips.length := h
  rw [sentS_succ S hk, List.length_append]
  have h1 := sentS_few3 hF hW k (Nat.le_of_lt hk)
  obtain ⟨L, hst, _⟩ := wayErrT_zero S.trips (wayErr_zero hW) S.trips[k]! (by rw [getElem!_pos S.trips k hk]; exact List.getElem_mem hk)
  have h2 := (stops_rise (netOK_of hF.net) hF.few hF.gap (tripFit_of (hF.trips k hk)) hst).2.2
  have e : sentOf S S.trips[k]! = sentT S S.trips[k]! L L.length := by unfold sentOf; rw [hst]
  rw [e, sentT_len]
  omega
set_option maxHeartbeats 400000 in
theorem sameBatches_nil (w : World) : Calls Tryz.prog 16 #[.slice none 0 0, .slice none 0 0] w fun e w' => e = .returned (.bool true) ∧ Below w.heap.size w w' := by
 go_enter Tryz.func16, Tryz.ntmps16
 go_wp2_with fail
 go_loopw [5] (fun s5 wr => s5 = .int .i64 0 ∧ wr = w) (fun _ _ => 0)
 case atStart => exact ⟨rfl, rfl⟩
 case round =>
  obtain ⟨rfl, hw⟩ := hrel
  subst hw
  go_wp2
  go_ret
  exact ⟨rfl, Below.refl _ _⟩
set_option maxRecDepth 100000 in
set_option maxHeartbeats 20000000 in
theorem law3_of (x : Sto) (size : Int) (F : List Fte) (vp vq vd va vf : Value) (w : World) (hX : StoAt w.heap.size w vp vq vd va x) (hV : Sl w.heap.size w 3 vf (F.map Fte.cs))
  (hR : x.short = true → ∀ W : World, StoAt W.heap.size W vp vq vd va x → Calls Tryz.prog 7 #[x.v vp vq vd va] W fun e w' => RightOut x W.heap.size e w' ∧ Below W.heap.size W w') :
  Calls Tryz.prog 4 #[x.v vp vq vd va, .int .i64 size, vf] w fun e w' => e = .returned (.bool true) ∧ Below w.heap.size w w' := by
 obtain ⟨af, nf, cf, rfl, hnf, _, _⟩ := hV.open
 rw [List.length_map] at hnf
 have HNF := Lib.hid hnf
 have HV := Lib.hid hV
 clear hV hnf
 obtain ⟨ad, nd, cd, rfl, _, _, _⟩ := hX.dr.open
 obtain ⟨aa, na, ca, rfl, _, _, _⟩ := hX.wa.open
 obtain ⟨ap, np, cp, rfl, _, _, _⟩ := hX.sp.open
 obtain ⟨aq, nq, cq, rfl, _, _, _⟩ := hX.ln.open
 have HX := Lib.hid hX
 have HR := Lib.hid hR
 clear hX hR
 have P0 := Lib.hid (obj_last w (.cells #[.slice ap np cp, .slice aq nq cq, .slice ad nd cd, .slice aa na ca, .int .u8 x.gap, .bool x.un] 29))
 go_enter Tryz.func4, Tryz.ntmps4
 go_wp2_with fail
 refine (known_any _).mono ?_
 rintro e w2 ⟨rfl, hb2⟩
 have P2 := Lib.hid (keepObj hb2 P0.out)
 have B2 := Lib.hid (from_ (w := w) hb2 (by (repeat (first | with_reducible exact Below.refl _ _ | with_reducible assumption | ((with_reducible first | refine Below.setCell ?_ ?_ _ | refine Below.alloc ?_ ?_ _); rotate_left; focus (first | exact Nat.le_refl _ | omega | exact Below.size (by assumption) | (simp <;> omega))) | with_reducible refine Below.drew ?_ | with_reducible refine drewN_ ?_ _))))
 have HX2 := Lib.hid (HX.out.later B2.out)
 have p0 := obj_cell P2.out 0
 have p1 := obj_cell P2.out 1
 have p2 := obj_cell P2.out 2
 have p3 := obj_cell P2.out 3
 have p4 := obj_cell P2.out 4
 have p5 := obj_cell P2.out 5
 simp at p0 p1 p2 p3 p4 p5
 clear hb2
 go_wp2_with fail
 refine (short_any x _ _ _ _ _ HX2.out).mono ?_
 rintro e w3 ⟨rfl, hb3⟩
 have P3 := Lib.hid (keepObj hb3 P2.out)
 have B3 := Lib.hid (B2.out.trans (hb3.mono B2.out.size))
 have HX3 := Lib.hid (HX2.out.later hb3)
 clear hb3 p0 p1 p2 p3 p4 p5
 cases hsh : x.short with
 | false =>
  clear hsh
  go_wp2_with fail
  refine (known_any _).mono ?_
  rintro e w4 ⟨rfl, hb4⟩
  have B4 := Lib.hid (B3.out.trans (hb4.mono B3.out.size))
  clear hb4
  go_wp2_with fail
  go_ret
  exact ⟨rfl, B4.out⟩
 | true =>
  have HRS := Lib.hid (HR.out hsh)
  clear hsh
  by_cases h40 : (40 : Int) < (nf : Int)
  ·go_wp2_with fail
   refine (known_any _).mono ?_
   rintro e w4 ⟨rfl, hb4⟩
   have B4 := Lib.hid (B3.out.trans (hb4.mono B3.out.size))
   clear hb4
   go_wp2_with fail
   go_ret
   exact ⟨rfl, B4.out⟩
  ·have hnf40 : nf ≤ 40 := by omega
   have p0 := obj_cell P3.out 0
   have p1 := obj_cell P3.out 1
   have p2 := obj_cell P3.out 2
   have p3 := obj_cell P3.out 3
   have p4 := obj_cell P3.out 4
   have p5 := obj_cell P3.out 5
   simp at p0 p1 p2 p3 p4 p5
   go_wp2_with fail
   refine (HRS.out _ HX3.out).mono ?_
   rintro e w4 ⟨hO, hb4⟩
   have B4 := Lib.hid (B3.out.trans (hb4.mono B3.out.size))
   obtain ⟨v1, v2, v3, v4, v5, S, ok, rfl, hS, hSm, hok, _⟩ := hO
   obtain ⟨a1, a2, a3, a4, a5, n1, n2, n3, n4, n5, c1, c2, c3, c4, c5, rfl, rfl, rfl, rfl, rfl⟩ := hS.vals
   have HS := Lib.hid hS
   have HOK := Lib.hid hok
   have HSM := Lib.hid hSm
   clear hb4 hS hok hSm p0 p1 p2 p3 p4 p5
   cases ok with
   | false =>
    go_wp2_with fail
    go_ret
    exact ⟨rfl, by have h := B4.out; (repeat (first | with_reducible exact Below.refl _ _ | with_reducible assumption | ((with_reducible first | refine Below.setCell ?_ ?_ _ | refine Below.alloc ?_ ?_ _); rotate_left; focus (first | exact Nat.le_refl _ | omega | exact Below.size (by assumption) | (simp <;> omega))) | with_reducible refine Below.drew ?_ | with_reducible refine drewN_ ?_ _))⟩
   | true =>
    obtain ⟨hFit, hWay⟩ := HOK.out rfl
    have HF := Lib.hid hFit
    have HW := Lib.hid hWay
    have HK := Lib.hid (netOK_of hFit.net)
    have hn5 : S.syncs.length = n5 := by
     have := HS.out.syncs.len
     rwa [List.length_map] at this
    have HN5 := Lib.hid hn5
    have hnt := HSM.out.syncs
    rw [hn5] at hnt
    have hsl : (sentS S S.trips.length).length ≤ 1000 := by
     have h1 := sentS_few3 hFit hWay S.trips.length (Nat.le_refl _)
     have h2 := HSM.out.trips
     omega
    have HSL := Lib.hid hsl
    clear hFit hWay hn5 hsl
    go_wp2_with fail
    obtain ⟨W5, hW5⟩ : ∃ W, W = w4.alloc (.cells #[.slice a1 n1 c1, .slice a2 n2 c2, .int .i64 S.gap, .slice a3 n3 c3, .slice a4 n4 c4, .slice a5 n5 c5] 40) := ⟨_, rfl⟩
    have PS := Lib.hid (obj_last w4 (.cells #[.slice a1 n1 c1, .slice a2 n2 c2, .int .i64 S.gap, .slice a3 n3 c3, .slice a4 n4 c4, .slice a5 n5 c5] 40))
    have BS := Lib.hid ((Below.refl w4.heap.size w4).alloc (Nat.le_refl _) (.cells #[.slice a1 n1 c1, .slice a2 n2 c2, .int .i64 S.gap, .slice a3 n3 c3, .slice a4 n4 c4, .slice a5 n5 c5] 40))
    obtain ⟨bs, hbs⟩ : ∃ z, w4.heap.size = z := ⟨_, rfl⟩
    rw [hbs] at PS ⊢
    rw [← hW5] at PS BS ⊢
    have HS5 := Lib.hid (HS.out.later BS.out)
    have B5 := Lib.hid (B4.out.trans (BS.out.mono B4.out.size))
    clear hW5 hbs HS BS
    have s0 := obj_cell PS.out 0
    have s1 := obj_cell PS.out 1
    have s2 := obj_cell PS.out 2
    have s3 := obj_cell PS.out 3
    have s4 := obj_cell PS.out 4
    have s5 := obj_cell PS.out 5
    simp at s0 s1 s2 s3 s4 s5
    clear s0 s1 s2 s3 s4 s5
    have B5w := B5.out
    obtain ⟨R, hRR⟩ : ∃ R : List Rpt, R = (insAll (sentS S S.trips.length)).map Snt.r := ⟨_, rfl⟩
    have hlr : R.length ≤ 1000 := by rw [hRR, List.length_map, (insAll_perm _).length_eq]; exact HSL.out
    have hlx : S.syncs.length ≤ 1000 := by have := HSM.out.syncs; omega
    have HRR := Lib.hid hRR
    have HLR := Lib.hid hlr
    have HLX := Lib.hid hlx
    have HV5 := Lib.hid (HV.out.later B5.out)
    have HLF : Hid (F.length ≤ 1000) := by show _ ≤ _; rw [HNF.out]; omega
    clear hRR hlr hlx B5w
    refine (deliverW_any S size F R _ _ _ _ _ _ W5 HS5.out HF.out HW.out HV5.out HRR.out HLR.out HLX.out HLF.out).mono ?_
    rintro e w6 ⟨hD6, hb6⟩
    have PS6 := Lib.hid (keepObj hb6 PS.out)
    have HS6 := Lib.hid (HS5.out.later hb6)
    have HV6 := Lib.hid (HV5.out.later hb6)
    have B6 := Lib.hid (B5.out.trans (hb6.mono B5.out.size))
    clear hb6
    have s0 := obj_cell PS6.out 0
    have s1 := obj_cell PS6.out 1
    have s2 := obj_cell PS6.out 2
    have s3 := obj_cell PS6.out 3
    have s4 := obj_cell PS6.out 4
    have s5 := obj_cell PS6.out 5
    simp at s0 s1 s2 s3 s4 s5
    have zs := obj_lt PS6.out
    rcases hD6 with ⟨hg6, v6, V6, rfl, hT6⟩ | ⟨hg6, rfl⟩
    ·have HG6 := Lib.hid hg6
     have HT6 := Lib.hid hT6
     clear hg6 hT6
     go_wp2_with fail
     refine (deliverM_any S size F R _ _ _ _ _ _ w6 HS6.out HF.out HW.out HV6.out HRR.out HLR.out HLX.out HLF.out).mono ?_
     rintro e w7 ⟨hD7, hb7⟩
     have B7 := Lib.hid (B6.out.trans (hb7.mono B6.out.size))
     have HT67 := Lib.hid (HT6.out.keep hb7)
     clear hb7 s0 s1 s2 s3 s4 s5 zs
     rcases hD7 with ⟨hg7, v7, V7, rfl, hT7⟩ | ⟨hg7, rfl⟩
     ·have HT7 := Lib.hid hT7
      have hok : FOk F := by
       have h := HG6.out
       unfold delB at h
       rw [Bool.and_eq_true] at h
       exact fun f hf => inB_iff.1 (List.all_eq_true.1 h.2 f hf)
      have HOK := Lib.hid hok
      clear hg7 hT7 hok
      go_wp2_with fail
      refine (sameBatches_any (delS size.toNat F R R.length) (excS S S.syncs.length) _ _ V6 V7 _ _ w7 HT67.out HT7.out (by have := delS_len (z := size.toNat) HOK.out R R.length; have := HLR.out; omega) (fun i => by have := delS_get size.toNat F R R.length i; have := HLR.out; omega) (by rw [excS_len S _ (Nat.le_refl _)]; have := HLX.out; omega)).mono ?_
      rintro e w8 ⟨rfl, hb8⟩
      have B8 := Lib.hid (B7.out.trans (hb8.mono B7.out.size))
      clear hb8
      go_wp2_with fail
      go_ret
      exact ⟨rfl, B8.out⟩
     ·rw [HG6.out] at hg7; cases hg7
    ·have HG6 := Lib.hid hg6
     clear hg6
     go_wp2_with fail
     refine (deliverM_any S size F R _ _ _ _ _ _ w6 HS6.out HF.out HW.out HV6.out HRR.out HLR.out HLX.out HLF.out).mono ?_
     rintro e w7 ⟨hD7, hb7⟩
     have B7 := Lib.hid (B6.out.trans (hb7.mono B6.out.size))
     clear hb7 s0 s1 s2 s3 s4 s5 zs
     rcases hD7 with ⟨hg7, v7, V7, rfl, hT7⟩ | ⟨hg7, rfl⟩
     ·rw [HG6.out] at hg7; cases hg7
     ·clear hg7
      go_wp2_with fail
      refine (sameBatches_nil w7).mono ?_
      rintro e w8 ⟨rfl, hb8⟩
      have B8 := Lib.hid (B7.out.trans (hb8.mono B7.out.size))
      clear hb8
      go_wp2_with fail
      go_ret
      exact ⟨rfl, B8.out⟩
end Go.Proofs.YthkhgfdjdpfoiaaGreat
