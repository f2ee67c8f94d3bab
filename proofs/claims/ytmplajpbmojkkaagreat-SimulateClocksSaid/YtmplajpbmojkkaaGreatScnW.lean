/-
  A story is decoded into a scenario.
-/
import Derived.Test.YtmplajpbmojkkaaGreatScnI
import Derived.Test.YtmplajpbmojkkaaGreatNetD
set_option linter.unusedSimpArgs false
set_option linter.unusedVariables false
namespace Go.Proofs.YtmplajpbmojkkaaGreat
open Go Go.RowKit Go.Vi
def ScnOut (x : Sto) (w0 : World) (e : Ending) (w' : World) : Prop := ∃ (v1 v2 v3 v4 v5 : Value) (gap : Int) (N : List Nd) (R : List Rd) (V : List Value) (T : List Trp) (C : List Clk) (Y : List Snc), e = .returned (.agg #[v1, v2, .int .i64 gap, v3, v4, v5]) ∧ SR w0 v1 v2 v3 v4 v5 N R V T C Y w' ∧ netErr ⟨N, R⟩ = 0 ∧ 1 ≤ R.length ∧ R.length ≤ 13 ∧ T.length ≤ 3 ∧ C.length ≤ 2 ∧ Y.length ≤ 6 ∧ (∀ i, i < T.length → T[i]!.vis.length ≤ 5) ∧ (x.un = false → ∀ y ∈ Y, y.so = y.sb)
set_option maxRecDepth 100000 in
set_option maxHeartbeats 80000000 in
theorem scenario_any (x : Sto) (vp vq vd va : Value) (w : World) (hX : StoAt w.heap.size w vp vq vd va x) (hF : x.fits) (hsh : x.short = true) :
    Calls Tryz.prog 13 #[x.v vp vq vd va] w fun e w' => ScnOut x w e w' ∧ Below w.heap.size w w' := by
  obtain ⟨ad, nd, cd, rfl, hnd, hnd1, hnd2⟩ := hX.dr.open
  obtain ⟨aa, na, ca, rfl, hna, hna1, hna2⟩ := hX.wa.open
  unfold Sto.short at hsh
  simp only [Bool.and_eq_true, List.all_eq_true, decide_eq_true_eq] at hsh
  obtain ⟨⟨⟨hs1, hs2⟩, hs3⟩, hs4⟩ := hsh
  rw [hnd] at hs3
  rw [hna] at hs4
  have HX := Lib.hid hX
  have HF := Lib.hid hF
  have HS1 := Lib.hid hs1
  have HS2 := Lib.hid hs2
  have HND := Lib.hid hnd
  have HNA := Lib.hid hna
  obtain ⟨hg1, hg2, hg3, hg4⟩ := tmodByte (m := 64) hF.gap (by decide) (by decide)
  obtain ⟨gg, hgg⟩ : ∃ z, x.gap.tmod 64 = z := ⟨_, rfl⟩
  rw [hgg] at hg1 hg2 hg3 hg4
  have hg5 : IntKind.i64.wrap (1 + gg) = 1 + gg := IntWalk.i64_in _ (by omega)
  clear hX hF hs1 hs2 hnd hna hnd1 hnd2 hna1 hna2
  have P0 := Lib.hid (obj_old (o' := .cells #[.slice none 0 0, .slice none 0 0, .int .i64 0, .slice none 0 0, .slice none 0 0, .slice none 0 0] 40) (obj_last w (.cells #[vp, vq, .slice ad nd cd, .slice aa na ca, .int .u8 x.gap, .bool x.un] 29)))
  have Z0 := Lib.hid (obj_last2 w (.cells #[vp, vq, .slice ad nd cd, .slice aa na ca, .int .u8 x.gap, .bool x.un] 29) (.cells #[.slice none 0 0, .slice none 0 0, .int .i64 0, .slice none 0 0, .slice none 0 0, .slice none 0 0] 40))
  have B0 := Lib.hid (((Below.refl w.heap.size w).alloc (Nat.le_refl _) (.cells #[vp, vq, .slice ad nd cd, .slice aa na ca, .int .u8 x.gap, .bool x.un] 29)).alloc (by simp) (.cells #[.slice none 0 0, .slice none 0 0, .int .i64 0, .slice none 0 0, .slice none 0 0, .slice none 0 0] 40))
  obtain ⟨sy0_, syi, sy0, sy1, sy2⟩ := info_parts iSncS
  obtain ⟨ck0_, cki, ck0, ck1, ck2⟩ := info_parts iClkS
  obtain ⟨vs0_, vsi, vs0, vs1, vs2⟩ := info_parts iVisS
  obtain ⟨tr0_, tri, tr0, tr1, tr2⟩ := info_parts iTrpS
  go_enter Tryz.func13, Tryz.ntmps13
  go_wp2_with fail
  obtain ⟨W0, hW0⟩ : ∃ W0, W0 = (w.alloc (.cells #[vp, vq, .slice ad nd cd, .slice aa na ca, .int .u8 x.gap, .bool x.un] 29)).alloc (.cells #[.slice none 0 0, .slice none 0 0, .int .i64 0, .slice none 0 0, .slice none 0 0, .slice none 0 0] 40) := ⟨_, rfl⟩
  have hz0 : w.heap.size + 1 < W0.heap.size := by rw [hW0]; simp
  rw [← hW0] at P0 Z0 B0 ⊢
  clear hW0
  have p0 := obj_cell P0.out 0
  have p1 := obj_cell P0.out 1
  have p4 := obj_cell P0.out 4
  simp at p0 p1 p4
  have b0' := B0.out
  have zp : w.heap.size < W0.heap.size := by omega
  go_cut [3] (fun s3 wx => ∃ (bx : Nat) (v1 v2 : Value) (N : List Nd) (R : List Rd), s3 = .pointer (some ⟨bx, 0, none⟩) ∧ 2 ≤ N.length ∧ N.length ≤ 8 ∧ 1 ≤ R.length ∧ R.length ≤ 13 ∧ Hid (NdsIn N) ∧ Hid (RdsIn N R) ∧ Hid (SM W0 bx v1 v2 (.slice none 0 0) (.slice none 0 0) (.slice none 0 0) (1 + gg) N R [] [] [] [] wx))
  case first => as_aux_lemma =>
    go_region_held3 (fun w' => w'.cell? ⟨w.heap.size, 0, none⟩ = some vp ∧ w'.cell? ⟨w.heap.size, 1, none⟩ = some vq ∧ w'.cell? ⟨w.heap.size, 4, none⟩ = some (.int .u8 x.gap))
      (((go_split_ands; refine ⟨?_, ?_, ?_⟩ <;> first | with_reducible assumption | exact ((show Below W0.heap.size W0 _ from (by (repeat (first | with_reducible exact Below.refl _ _ | with_reducible assumption | ((with_reducible refine Below.setCell ?_ ?_ _); rotate_left; focus (first | exact Nat.le_refl _ | omega | exact Below.size (by assumption) | (simp; done) | (simp; omega))) | ((with_reducible refine Below.alloc ?_ ?_ _); rotate_left; focus (first | exact Nat.le_refl _ | omega | exact Below.size (by assumption) | (simp; done) | (simp; omega))) | (with_reducible refine Below.drew ?_) | (with_reducible refine drewN_ ?_ _))))).cell (p := ⟨_, _, none⟩) (by first | with_reducible assumption | omega)).trans (by with_reducible assumption))))
      ((go_at_call 31; refine (network_any x.spots x.lanes vp vq _ (HX.out.sp.later (by (repeat (first | with_reducible exact Below.refl _ _ | with_reducible assumption | ((with_reducible refine Below.setCell ?_ ?_ _); rotate_left; focus (first | exact Nat.le_refl _ | omega | exact Below.size (by assumption) | (simp; done) | (simp; omega))) | ((with_reducible refine Below.alloc ?_ ?_ _); rotate_left; focus (first | exact Nat.le_refl _ | omega | exact Below.size (by assumption) | (simp; done) | (simp; omega))) | (with_reducible refine Below.drew ?_) | (with_reducible refine drewN_ ?_ _))))) (HX.out.ln.later (by (repeat (first | with_reducible exact Below.refl _ _ | with_reducible assumption | ((with_reducible refine Below.setCell ?_ ?_ _); rotate_left; focus (first | exact Nat.le_refl _ | omega | exact Below.size (by assumption) | (simp; done) | (simp; omega))) | ((with_reducible refine Below.alloc ?_ ?_ _); rotate_left; focus (first | exact Nat.le_refl _ | omega | exact Below.size (by assumption) | (simp; done) | (simp; omega))) | (with_reducible refine Below.drew ?_) | (with_reducible refine drewN_ ?_ _))))) HF.out.sp HF.out.ln HX.out.nil).mono ?_; rintro e w2 ⟨⟨v1, v2, N, R, rfl, o1, o2, n1, n2, n3, n4, n5, n6, _⟩, hb2⟩; obtain ⟨a1, m1, c1, rfl⟩ := o1.val; obtain ⟨a2, m2, c2, rfl⟩ := o2.val; have B2 := from_ (w := W0) hb2 (by (repeat (first | with_reducible exact Below.refl _ _ | with_reducible assumption | ((with_reducible refine Below.setCell ?_ ?_ _); rotate_left; focus (first | exact Nat.le_refl _ | omega | exact Below.size (by assumption) | (simp; done) | (simp; omega))) | ((with_reducible refine Below.alloc ?_ ?_ _); rotate_left; focus (first | exact Nat.le_refl _ | omega | exact Below.size (by assumption) | (simp; done) | (simp; omega))) | (with_reducible refine Below.drew ?_) | (with_reducible refine drewN_ ?_ _)))); (first | (have LL := keepObj hb2 (b := W0.heap.size) (o := (.cells #[.slice none 0 0, .slice none 0 0, .int .i64 0, .slice none 0 0, .slice none 0 0, .slice none 0 0] 40)) (by first | exact obj_last W0 _ | exact obj_drew (obj_last W0 _) | exact obj_last W0.drew _ | exact obj_drew (obj_last W0.drew _)); have l0 := obj_cell LL 0; have l1 := obj_cell LL 1; have l2 := obj_cell LL 2; have l3 := obj_cell LL 3; have l4 := obj_cell LL 4; have l5 := obj_cell LL 5; have m0 := obj_free LL 0; have m1 := obj_free LL 1; have m2 := obj_free LL 2; have m3 := obj_free LL 3; have m4 := obj_free LL 4; have m5 := obj_free LL 5; simp at l0 l1 l2 l3 l4 l5; have LO := Lib.hid LL; clear LL) | skip); have O1 := Lib.hid o1; have O2 := Lib.hid o2; have N5 := Lib.hid n5; have N6 := Lib.hid n6; have HB2 := Lib.hid hb2; clear hb2 o1 o2 n5 n6))
    all_goals
      go_wp2_with fail
      go_meet
      have q1 := O1.out.mono (B' := W0.heap.size) (by first | exact Nat.le_refl _ | (simp; done) | (simp; omega))
      have q2 := O2.out.mono (B' := W0.heap.size) (by first | exact Nat.le_refl _ | (simp; done) | (simp; omega))
      first
        | exact ⟨_, _, _, N, R, rfl, n1, n2, n3, n4, N5.out, N6.out, SM.startA B2 q1 q2⟩
        | exact ⟨_, _, _, N, R, rfl, n1, n2, n3, n4, N5.out, N6.out, SM.startB LO.out (Nat.le_refl _) B2 q1 q2⟩
  case rest =>
    clear p0 p1 p4 hg1 hg2 hg5 b0'
    obtain ⟨bx, v1, v2, N, R, rfl, n1, n2, n3, n4, hN, hR, hM0⟩ := hcut
    obtain ⟨W1, rfl⟩ : ∃ z : World, z = wc := ⟨_, rfl⟩
    go_wp2_with fail
    go_loopw [4] (fun s4 wx => ∃ (i : Nat) (v4 v5 : Value) (C : List Clk) (Y : List Snc), s4 = .int .i64 i ∧ i ≤ na ∧ C.length = i ∧ Y.length ≤ 3 * i ∧ Hid (∀ y ∈ Y, x.un = false → y.so = y.sb) ∧ Hid (SM W0 bx v1 v2 (.slice none 0 0) v4 v5 (1 + gg) N R [] [] C Y wx)) (fun s4 _ => na - (intOf s4).toNat)
    case atStart => exact ⟨0, _, _, [], [], rfl, Nat.zero_le _, rfl, by simp, (fun y hy => by cases hy), hM0.out⟩
    case round =>
      obtain ⟨i, v4, v5, C, Y, rfl, hi1, hC, hY, hun, hM⟩ := hrel
      have PX := Lib.hid (keepObj hM.out.low P0.out)
      have p3 := obj_cell PX.out 3
      simp at p3
      have zp := obj_lt PX.out
      have hBw := hM.out.low.size
      have BX := Lib.hid (B0.out.trans (hM.out.low.mono B0.out.size))
      have HC := Lib.hid hC
      clear hC
      by_cases hlt : i < na
      · have hil : i < x.watches.length := by rw [HNA.out]; exact hlt
        obtain ⟨b, off, rfl, hb, hcs⟩ := HX.out.wa.at i hil
        obtain ⟨u, hu, hcell⟩ := hcs i hil
        have s0 : w.cell? ⟨b, off + i * 2 + 0, none⟩ = _ := hcell 0 _ rfl
        have s1 : w.cell? ⟨b, off + i * 2 + 1, none⟩ = _ := hcell 1 _ rfl
        rw [Nat.add_zero] at s0
        rw [← BX.out.cell (p := ⟨b, _, none⟩) hb] at s0 s1
        have hym : x.watches[i]! ∈ x.watches := by rw [getElem!_pos x.watches i hil]; exact List.getElem_mem hil
        have hyf := HF.out.wa _ hym
        have hys := HS2.out _ hym
        obtain ⟨y, hy⟩ : ∃ y, y = x.watches[i]! := ⟨_, rfl⟩
        rw [← hy] at s0 hu hyf hys
        obtain ⟨au, m, cu, rfl, hm1, hm2, _⟩ := hu.open
        rw [List.length_map] at hm1
        rw [hm1] at hys
        have HM1 := Lib.hid hm1
        have HU := Lib.hid hu
        have HYF := Lib.hid hyf
        obtain ⟨ho1, ho2⟩ := hyf.1
        have wo : IntKind.i64.wrap y.off = y.off := IntWalk.i64_in _ (by omega)
        have w3 : IntKind.i64.wrap (3 * (i : Int)) = 3 * (i : Int) := IntWalk.i64_in _ (by omega)
        have w4 : IntKind.i64.wrap (2 + 3 * (i : Int)) = 2 + 3 * (i : Int) := IntWalk.i64_in _ (by omega)
        have hk1 : (0 : Int) ≤ (i : Int) := by omega
        have hk2 : (i : Int) < (na : Int) := by omega
        have hzb : b < wr.heap.size := by have := BX.out.size; omega
        clear hcs hcell hym hyf hy hm1 hu
        go_upto_region 7 with fail
        obtain ⟨Wc, hWc⟩ : ∃ W, W = wr.alloc (.cells #[.int .i64 (2 + 3 * (i : Int)), .int .i64 y.off] 48) := ⟨_, rfl⟩
        obtain ⟨bc, hbc⟩ : ∃ z, wr.heap.size = z := ⟨_, rfl⟩
        have PC := Lib.hid (obj_last wr (.cells #[.int .i64 (2 + 3 * (i : Int)), .int .i64 y.off] 48))
        have BC := Lib.hid ((Below.refl wr.heap.size wr).alloc (Nat.le_refl _) (.cells #[.int .i64 (2 + 3 * (i : Int)), .int .i64 y.off] 48))
        rw [← hWc, hbc] at PC ⊢
        rw [← hWc] at BC
        have zbc := obj_lt PC.out
        have HBC := Lib.hid hbc
        clear hWc hbc
        have c1 := obj_cell PC.out 1
        simp at c1
        clear s0 s1 p3
        go_cut [55] (fun s55 wx => ∃ bb : Bool, s55 = .bool bb ∧ wx = Wc)
        case first => as_aux_lemma =>
          by_cases hm0 : m = 0
          · have hm0' : ((m : Int) == 0) = true := by simp [hm0]
            have hm0'' : (m == 0) = true := by simp [hm0]
            clear hm0
            by_cases ho0 : y.off = 0
            · have e : (y.off != 0) = false := by simp [ho0]
              clear ho0
              go_wp2_with fail
              go_meet
              exact ⟨false, rfl, rfl⟩
            · have e : (y.off != 0) = true := by simpa using ho0
              clear ho0
              go_wp2_with fail
              go_meet
              exact ⟨true, rfl, rfl⟩
          · have hm0' : ((m : Int) == 0) = false := by simp [hm0]
            have hm0'' : (m == 0) = false := by simp [hm0]
            clear hm0
            go_wp2_with fail
            go_meet
            exact ⟨false, rfl, rfl⟩
        case rest =>
          obtain ⟨bb, rfl, hww⟩ := hcut
          subst hww
          obtain ⟨Wc, rfl⟩ : ∃ z : World, z = wc := ⟨_, rfl⟩
          go_upto_if 55 with fail
          go_cut [6] (fun s6 wx => ∃ (Z : List Sy4) (az : Option Addr) (mz cz : Nat), s6 = .slice az mz cz ∧ mz ≤ 3 ∧ Z.length = mz ∧ Hid (∀ z ∈ Z, z.fits) ∧ Hid (ZAt W0 (.slice az mz cz) Z wx) ∧ Hid (Below Wc.heap.size Wc wx))
          case first => as_aux_lemma =>
            cases bb with
            | true =>
              go_wp2_with fail
              go_meet
              refine ⟨[⟨1, 2, 3, 1⟩], _, _, _, rfl, by omega, rfl, ?_, ?_, by show Below _ _ _; (repeat (first | with_reducible exact Below.refl _ _ | with_reducible assumption | ((with_reducible refine Below.setCell ?_ ?_ _); rotate_left; focus (first | exact Nat.le_refl _ | omega | exact Below.size (by assumption) | (simp; done) | (simp; omega))) | ((with_reducible refine Below.alloc ?_ ?_ _); rotate_left; focus (first | exact Nat.le_refl _ | omega | exact Below.size (by assumption) | (simp; done) | (simp; omega))) | (with_reducible refine Below.drew ?_) | (with_reducible refine drewN_ ?_ _)))⟩
              · intro z hz
                simp at hz
                subst hz
                exact ⟨⟨by decide, by decide⟩, ⟨by decide, by decide⟩, ⟨by decide, by decide⟩, by decide, by decide⟩
              · have h0 : W0.heap.size ≤ Wc.heap.size := by have := HBC.out; omega
                exact .inr (own_sy (x := ⟨1, 2, 3, 1⟩) (obj_last _ _) h0)
            | false =>
              go_wp2_with fail
              go_meet
              exact ⟨y.syncs, _, _, _, rfl, hys, HM1.out, HYF.out.2, .inl ((HU.out.keep (BX.out.trans (BC.out.mono BX.out.size)) (Nat.le_refl _)).mono (by omega)), Below.refl _ _⟩
          case rest =>
            obtain ⟨Z, az, mz, cz, rfl, hmz, hZ, hZf, hZA, hBz⟩ := hcut
            have HMz := Lib.hid ((hM.out.keep BC.out).keep hBz.out)
            have PCz := Lib.hid (keepObj hBz.out PC.out)
            have HZL := Lib.hid hZ
            clear hM PC zbc c1 hBz hBw zp PX BX hzb hk1 hk2 wo w3 w4 hm2 hys HU HYF HBC BC hZ
            go_wp2_with fail
            go_loopw [7] (fun s7 wx => ∃ (k : Nat) (v5' : Value) (Y' : List Snc), s7 = .int .i64 k ∧ k ≤ mz ∧ Y'.length ≤ 3 * i + k ∧ Hid (∀ y ∈ Y', x.un = false → y.so = y.sb) ∧ Hid (SM W0 bx v1 v2 (.slice none 0 0) v4 v5' (1 + gg) N R [] [] C Y' wx) ∧ Hid (ZAt W0 (.slice az mz cz) Z wx) ∧ Hid (wx.heap[bc]? = some (.cells #[.int .i64 (2 + 3 * (i : Int)), .int .i64 y.off] 48))) (fun s7 _ => mz - (intOf s7).toNat)
            case atStart => exact ⟨0, v5, Y, rfl, Nat.zero_le _, by omega, hun.out, HMz.out, hZA.out, PCz.out⟩
            case round =>
              obtain ⟨k, v5', Y', rfl, hk, hY', hun', hMk, hZk, hCk⟩ := hrel
              by_cases hltk : k < mz
              · have hkl : k < Z.length := by rw [HZL.out]; exact hltk
                have hlow := hMk.out.low.size
                obtain ⟨bz, oz, rfl, hbz, hcs⟩ := (hZk.out.sl hlow).cells k hkl
                have z0 : wr.cell? ⟨bz, oz + k * 4 + 0, none⟩ = _ := hcs k hkl 0 _ rfl
                have z1 : wr.cell? ⟨bz, oz + k * 4 + 1, none⟩ = _ := hcs k hkl 1 _ rfl
                have z2 : wr.cell? ⟨bz, oz + k * 4 + 2, none⟩ = _ := hcs k hkl 2 _ rfl
                have z3 : wr.cell? ⟨bz, oz + k * 4 + 3, none⟩ = _ := hcs k hkl 3 _ rfl
                rw [Nat.add_zero] at z0
                have hzm : Z[k]! ∈ Z := by rw [getElem!_pos Z k hkl]; exact List.getElem_mem hkl
                have hzf := hZf.out _ hzm
                obtain ⟨z, hz⟩ : ∃ z, z = Z[k]! := ⟨_, rfl⟩
                rw [← hz] at z0 z1 z2 z3 hzf
                have cc0 := obj_cell hCk.out 0
                simp at cc0
                have zbc := obj_lt hCk.out
                obtain ⟨hza, hzb, hzc, hzd⟩ := hzf
                have wa : IntKind.i64.wrap z.a = z.a := IntWalk.i64_in _ (by unfold Byte at hza; omega)
                have wd : IntKind.i64.wrap z.d = z.d := IntWalk.i64_in _ (by unfold Byte at hzd; omega)
                have w200 : IntKind.i64.wrap (200 + z.a) = 200 + z.a := IntWalk.i64_in _ (by unfold Byte at hza; omega)
                obtain ⟨u1, u2, u3, u4⟩ := tmodByte (m := 16) hzb (by decide) (by decide)
                obtain ⟨t1, t2, t3, t4⟩ := tmodByte (m := 16) hzc (by decide) (by decide)
                obtain ⟨o, ho⟩ : ∃ q, z.b.tmod 16 = q := ⟨_, rfl⟩
                obtain ⟨e, he⟩ : ∃ q, z.c.tmod 16 = q := ⟨_, rfl⟩
                rw [ho] at u1 u2 u3 u4
                rw [he] at t1 t2 t3 t4
                have hk1 : (0 : Int) ≤ (k : Int) := by omega
                have hk2 : (k : Int) < (mz : Int) := by omega
                have HZD := Lib.hid hzd
                clear hcs hzm hz hza hzb hzc hzd
                go_wp2_with fail
                go_cut [8] (fun s8 wx => ∃ b8 : Nat, s8 = .pointer (some ⟨b8, 0, none⟩) ∧ wr.heap.size ≤ b8 ∧ Hid (wx.heap[b8]? = some (.cells #[.int .i64 (2 + 3 * (i : Int)), .int .i64 (200 + z.a), .int .i64 o, .int .i64 e, .int .i64 0, .int .i64 0] 58)) ∧ Hid (Below wr.heap.size wr wx))
                case first => as_aux_lemma =>
                  go_region_held3 (fun w' => w'.cell? ⟨bc, 0, none⟩ = some (.int .i64 (2 + 3 * (i : Int))) ∧ w'.cell? ⟨bz, oz + k * 4, none⟩ = some (.int .u8 z.a) ∧ w'.cell? ⟨bz, oz + k * 4 + 1, none⟩ = some (.int .u8 z.b) ∧ w'.cell? ⟨bz, oz + k * 4 + 2, none⟩ = some (.int .u8 z.c))
                    (((go_split_ands; refine ⟨?_, ?_, ?_, ?_⟩ <;> first | with_reducible assumption | exact ((show Below wr.heap.size wr _ from (by (repeat (first | with_reducible exact Below.refl _ _ | with_reducible assumption | ((with_reducible refine Below.setCell ?_ ?_ _); rotate_left; focus (first | exact Nat.le_refl _ | omega | exact Below.size (by assumption) | (simp; done) | (simp; omega))) | ((with_reducible refine Below.alloc ?_ ?_ _); rotate_left; focus (first | exact Nat.le_refl _ | omega | exact Below.size (by assumption) | (simp; done) | (simp; omega))) | (with_reducible refine Below.drew ?_) | (with_reducible refine drewN_ ?_ _))))).cell (p := ⟨_, _, none⟩) (by first | with_reducible assumption | omega)).trans (by with_reducible assumption))))
                    ((fail))
                  all_goals
                    go_wp2_with fail
                    go_meet
                    exact ⟨wr.heap.size, rfl, Nat.le_refl _, obj_drew (obj_last _ _), by show Below _ _ _; (repeat (first | with_reducible exact Below.refl _ _ | with_reducible assumption | ((with_reducible refine Below.setCell ?_ ?_ _); rotate_left; focus (first | exact Nat.le_refl _ | omega | exact Below.size (by assumption) | (simp; done) | (simp; omega))) | ((with_reducible refine Below.alloc ?_ ?_ _); rotate_left; focus (first | exact Nat.le_refl _ | omega | exact Below.size (by assumption) | (simp; done) | (simp; omega))) | (with_reducible refine Below.drew ?_) | (with_reducible refine drewN_ ?_ _)))⟩
                case rest =>
                  clear z0 z1 z2 cc0 u1 u2 t1 t2 wa w200
                  obtain ⟨b8, rfl, hb8, h8, hB8⟩ := hcut
                  have z3' := (hB8.out.cell (p := ⟨bz, oz + k * 4 + 3, none⟩) hbz).trans z3
                  obtain ⟨W3, rfl⟩ : ∃ z : World, z = wc := ⟨_, rfl⟩
                  have zb8 := obj_lt h8.out
                  have q2 := obj_cell h8.out 2
                  have q3 := obj_cell h8.out 3
                  have q4 := obj_cell h8.out 4
                  have q4f := obj_free h8.out 4
                  simp at q2 q3 q4
                  have zbz : bz < W3.heap.size := by have := hB8.out.size; omega
                  obtain ⟨mn, hmn⟩ : ∃ q, min o e = q := ⟨_, rfl⟩
                  have hmn0 : 0 ≤ mn ∧ mn ≤ 15 := by omega
                  obtain ⟨v1', v2', v3', v4'⟩ := tmodByte (m := 1 + mn) HZD.out (by omega) (by omega)
                  obtain ⟨so, hso⟩ : ∃ q, z.d.tmod (1 + mn) = q := ⟨_, rfl⟩
                  rw [hso] at v1' v2' v3' v4'
                  have wmn : IntKind.i64.wrap (1 + mn) = 1 + mn := IntWalk.i64_in _ (by omega)
                  have dmn : ¬(1 + mn = 0) := by omega
                  clear v1'
                  go_upto_region 13 with fail
                  go_cut [] (fun wx => Hid (wx.heap[b8]? = some (.cells #[.int .i64 (2 + 3 * (i : Int)), .int .i64 (200 + z.a), .int .i64 o, .int .i64 e, .int .i64 so, .int .i64 0] 58)) ∧ Hid (Below wr.heap.size wr wx))
                  case first => as_aux_lemma =>
                    have hB8' := hB8.out
                    rcases Int.lt_or_le e o with hoe | hoe
                    · obtain rfl : e = mn := by omega
                      have hoe' : ¬(o ≤ e) := by omega
                      go_region_held3 (fun w' => w'.cell? ⟨bz, oz + k * 4 + 3, none⟩ = some (.int .u8 z.d) ∧ w'.cell? ⟨b8, 2, none⟩ = some (.int .i64 o) ∧ w'.cell? ⟨b8, 3, none⟩ = some (.int .i64 e))
                        (((go_split_ands; exact ⟨((show Below wr.heap.size W3 _ from (by (repeat (first | with_reducible exact Below.refl _ _ | with_reducible assumption | ((with_reducible refine Below.setCell ?_ ?_ _); rotate_left; focus (first | exact Nat.le_refl _ | omega | exact Below.size (by assumption) | (simp; done) | (simp; omega))) | ((with_reducible refine Below.alloc ?_ ?_ _); rotate_left; focus (first | exact Nat.le_refl _ | omega | exact Below.size (by assumption) | (simp; done) | (simp; omega))) | (with_reducible refine Below.drew ?_) | (with_reducible refine drewN_ ?_ _))))).cell (p := ⟨_, _, none⟩) hbz).trans z3', (by first | exact obj_cell h8.out 2 | exact obj_cell (obj_drew h8.out) 2 | exact obj_cell (obj_set h8.out) 2 | exact obj_cell (obj_drew (obj_set h8.out)) 2 | exact obj_cell (obj_set (obj_drew h8.out)) 2), (by first | exact obj_cell h8.out 3 | exact obj_cell (obj_drew h8.out) 3 | exact obj_cell (obj_set h8.out) 3 | exact obj_cell (obj_drew (obj_set h8.out)) 3 | exact obj_cell (obj_set (obj_drew h8.out)) 3)⟩)))
                        ((fail))
                      all_goals
                        go_wp2_with fail
                        go_meet
                        exact ⟨obj_set h8.out, by show Below _ _ _; (repeat (first | with_reducible exact Below.refl _ _ | with_reducible assumption | ((with_reducible refine Below.setCell ?_ ?_ _); rotate_left; focus (first | exact Nat.le_refl _ | omega | exact Below.size (by assumption) | (simp; done) | (simp; omega))) | ((with_reducible refine Below.alloc ?_ ?_ _); rotate_left; focus (first | exact Nat.le_refl _ | omega | exact Below.size (by assumption) | (simp; done) | (simp; omega))) | (with_reducible refine Below.drew ?_) | (with_reducible refine drewN_ ?_ _)))⟩
                    · obtain rfl : o = mn := by omega
                      have hoe' : ¬(e < o) := by omega
                      go_region_held3 (fun w' => w'.cell? ⟨bz, oz + k * 4 + 3, none⟩ = some (.int .u8 z.d) ∧ w'.cell? ⟨b8, 2, none⟩ = some (.int .i64 o) ∧ w'.cell? ⟨b8, 3, none⟩ = some (.int .i64 e))
                        (((go_split_ands; exact ⟨((show Below wr.heap.size W3 _ from (by (repeat (first | with_reducible exact Below.refl _ _ | with_reducible assumption | ((with_reducible refine Below.setCell ?_ ?_ _); rotate_left; focus (first | exact Nat.le_refl _ | omega | exact Below.size (by assumption) | (simp; done) | (simp; omega))) | ((with_reducible refine Below.alloc ?_ ?_ _); rotate_left; focus (first | exact Nat.le_refl _ | omega | exact Below.size (by assumption) | (simp; done) | (simp; omega))) | (with_reducible refine Below.drew ?_) | (with_reducible refine drewN_ ?_ _))))).cell (p := ⟨_, _, none⟩) hbz).trans z3', (by first | exact obj_cell h8.out 2 | exact obj_cell (obj_drew h8.out) 2 | exact obj_cell (obj_set h8.out) 2 | exact obj_cell (obj_drew (obj_set h8.out)) 2 | exact obj_cell (obj_set (obj_drew h8.out)) 2), (by first | exact obj_cell h8.out 3 | exact obj_cell (obj_drew h8.out) 3 | exact obj_cell (obj_set h8.out) 3 | exact obj_cell (obj_drew (obj_set h8.out)) 3 | exact obj_cell (obj_set (obj_drew h8.out)) 3)⟩)))
                        ((fail))
                      all_goals
                        go_wp2_with fail
                        go_meet
                        exact ⟨obj_set h8.out, by show Below _ _ _; (repeat (first | with_reducible exact Below.refl _ _ | with_reducible assumption | ((with_reducible refine Below.setCell ?_ ?_ _); rotate_left; focus (first | exact Nat.le_refl _ | omega | exact Below.size (by assumption) | (simp; done) | (simp; omega))) | ((with_reducible refine Below.alloc ?_ ?_ _); rotate_left; focus (first | exact Nat.le_refl _ | omega | exact Below.size (by assumption) | (simp; done) | (simp; omega))) | (with_reducible refine Below.drew ?_) | (with_reducible refine drewN_ ?_ _)))⟩
                  case rest =>
                    clear q2 q3 q4 q4f zb8 v2' wmn dmn hso hmn
                    obtain ⟨h8s, hB8s⟩ := hcut
                    have hB4 := hB8s.out
                    obtain ⟨W4, rfl⟩ : ∃ z : World, z = wc := ⟨_, rfl⟩
                    have zb8 := obj_lt h8s.out
                    have r4 := obj_cell h8s.out 4
                    have r5 := obj_cell h8s.out 5
                    have r5f := obj_free h8s.out 5
                    simp at r4 r5
                    have zpw := obj_lt (keepObj hMk.out.low P0.out)
                    have p5 := obj_cell (keepObj hB4 (keepObj hMk.out.low P0.out)) 5
                    simp at p5
                    go_upto_if 106 with fail
                    obtain ⟨W5, hW5⟩ : ∃ W, W = W4.setCell ⟨b8, 5, none⟩ (.int .i64 so) := ⟨_, rfl⟩
                    have h8t := Lib.hid (show W5.heap[b8]? = some (.cells #[.int .i64 (2 + 3 * (i : Int)), .int .i64 (200 + z.a), .int .i64 o, .int .i64 e, .int .i64 so, .int .i64 so] 58) by rw [hW5]; exact obj_set h8s.out)
                    have hB5 : Below wr.heap.size wr W5 := by rw [hW5]; exact hB4.setCell hb8 _
                    rw [← hW5]
                    have z3'' := (hB5.cell (p := ⟨bz, oz + k * 4 + 3, none⟩) hbz).trans z3
                    have zb8' := obj_lt h8t.out
                    clear hW5 r4 r5 r5f p5 zb8 hB4 h8s hB8s z3'
                    go_cut [] (fun wx => ∃ sb : Int, (x.un = false → so = sb) ∧ Hid (wx.heap[b8]? = some (.cells #[.int .i64 (2 + 3 * (i : Int)), .int .i64 (200 + z.a), .int .i64 o, .int .i64 e, .int .i64 so, .int .i64 sb] 58)) ∧ Hid (Below wr.heap.size wr wx))
                    case first => as_aux_lemma =>
                      cases hxu : x.un with
                      | true =>
                        have HXU := Lib.hid hxu
                        clear hxu
                        have q3 := obj_cell h8t.out 3
                        have q5 := obj_cell h8t.out 5
                        have q5f := obj_free h8t.out 5
                        simp at q3 q5
                        have hzd := HZD.out
                        unfold Byte at hzd
                        obtain ⟨y1, y2, y3, y4⟩ := byteQuo HZD.out
                        obtain ⟨dq, hdq⟩ : ∃ q, z.d.tdiv 16 = q := ⟨_, rfl⟩
                        rw [hdq] at y1 y2 y3 y4
                        have we : IntKind.i64.wrap (1 + e) = 1 + e := IntWalk.i64_in _ (by omega)
                        have de : ¬(1 + e = 0) := by omega
                        obtain ⟨_, x2, x3, x4⟩ := tmodByte (n := dq) (m := 1 + e) ⟨y3, by omega⟩ (by omega) (by omega)
                        obtain ⟨sq, hsq⟩ : ∃ q, dq.tmod (1 + e) = q := ⟨_, rfl⟩
                        rw [hsq] at x2 x3 x4
                        clear hzd
                        go_wp2_with fail
                        go_region_held3 (fun w' => w'.cell? ⟨bz, oz + k * 4 + 3, none⟩ = some (.int .u8 z.d) ∧ w'.cell? ⟨b8, 3, none⟩ = some (.int .i64 e))
                          (((go_split_ands; exact ⟨((show Below wr.heap.size W5 _ from (by (repeat (first | with_reducible exact Below.refl _ _ | with_reducible assumption | ((with_reducible refine Below.setCell ?_ ?_ _); rotate_left; focus (first | exact Nat.le_refl _ | omega | exact Below.size (by assumption) | (simp; done) | (simp; omega))) | ((with_reducible refine Below.alloc ?_ ?_ _); rotate_left; focus (first | exact Nat.le_refl _ | omega | exact Below.size (by assumption) | (simp; done) | (simp; omega))) | (with_reducible refine Below.drew ?_) | (with_reducible refine drewN_ ?_ _))))).cell (p := ⟨_, _, none⟩) hbz).trans z3'', (by first | exact obj_cell h8t.out 3 | exact obj_cell (obj_drew h8t.out) 3 | exact obj_cell (obj_set h8t.out) 3 | exact obj_cell (obj_drew (obj_set h8t.out)) 3 | exact obj_cell (obj_set (obj_drew h8t.out)) 3)⟩)))
                          ((fail))
                        all_goals
                          go_wp2_with fail
                          go_meet
                          exact ⟨sq, (fun h => by have e := HXU.out; rw [h] at e; cases e), obj_set h8t.out, by show Below _ _ _; (repeat (first | with_reducible exact Below.refl _ _ | with_reducible assumption | ((with_reducible refine Below.setCell ?_ ?_ _); rotate_left; focus (first | exact Nat.le_refl _ | omega | exact Below.size (by assumption) | (simp; done) | (simp; omega))) | ((with_reducible refine Below.alloc ?_ ?_ _); rotate_left; focus (first | exact Nat.le_refl _ | omega | exact Below.size (by assumption) | (simp; done) | (simp; omega))) | (with_reducible refine Below.drew ?_) | (with_reducible refine drewN_ ?_ _)))⟩
                      | false =>
                        clear hxu
                        go_wp2_with fail
                        go_meet
                        exact ⟨so, (fun _ => rfl), h8t.out, hB5⟩
                    case rest =>
                      clear hB5 z3'' zb8' z3 zbz
                      obtain ⟨sb, hsb, h8u, hB6⟩ := hcut
                      have HM6 := Lib.hid (hMk.out.keep hB6.out)
                      have HZ6 := Lib.hid (hZk.out.keep hB6.out hlow)
                      have HC6 := Lib.hid (keepObj hB6.out hCk.out)
                      obtain ⟨W6, rfl⟩ : ∃ z : World, z = wc := ⟨_, rfl⟩
                      have g0 := obj_cell h8u.out 0
                      have g1 := obj_cell h8u.out 1
                      have g2 := obj_cell h8u.out 2
                      have g3 := obj_cell h8u.out 3
                      have g4 := obj_cell h8u.out 4
                      have g5 := obj_cell h8u.out 5
                      have b5 := obj_cell HM6.out.box 5
                      have b5f := obj_free HM6.out.box 5
                      simp at g0 g1 g2 g3 g4 g5 b5
                      obtain ⟨a5, n5, c5, rfl⟩ := HM6.out.snc.val
                      have hn5 := HM6.out.snc.sl.len
                      rw [List.length_map] at hn5
                      rw [hn5] at hY'
                      have HN5 := Lib.hid hn5
                      have zbx := obj_lt HM6.out.box
                      have hBw := HM6.out.low.size
                      have HOFF := Lib.hid HM6.out.off5
                      have HOWN : Hid (∀ W, Below W6.heap.size W6 W → W.ownsRow W0.heap.size 58 6 (.slice a5 n5 c5) n5 (Y'.map Snc.cs).flatten) := fun W hW => by
                        have q := (HM6.out.snc.keep hW).1
                        rw [List.length_map, HN5.out] at q
                        exact q
                      clear hn5 hB6 hk1 hk2
                      go_wp2_with (at_builtin; refine wpList_append_lies _ (by rfl) _ _ _ (by rfl) W0.heap.size 58 sy0_ _ 6 48 uSncS syi sy0 sy1 sy2 rfl (by decide) (.slice a5 n5 c5) n5 (Y'.map Snc.cs).flatten (by rfl) (HOWN.out _ (by (repeat (first | with_reducible exact Below.refl _ _ | with_reducible assumption | ((with_reducible refine Below.setCell ?_ ?_ _); rotate_left; focus (first | exact Nat.le_refl _ | omega | exact Below.size (by assumption) | (simp; done) | (simp; omega))) | ((with_reducible refine Below.alloc ?_ ?_ _); rotate_left; focus (first | exact Nat.le_refl _ | omega | exact Below.size (by assumption) | (simp; done) | (simp; omega))) | (with_reducible refine Below.drew ?_) | (with_reducible refine drewN_ ?_ _))))) ⟨W6.heap.size, 0, none⟩ 1 1 ((⟨2 + 3 * (i : Int), 200 + z.a, o, e, so, sb⟩ : Snc).cs) (by rfl) rfl (World.news_of_block (cs := #[.int .i64 (2 + 3 * (i : Int)), .int .i64 (200 + z.a), .int .i64 o, .int .i64 e, .int .i64 so, .int .i64 sb]) (t := 58) (fr := (0, 0)) (obj_last _ _)) (snc_cell1 _) (by omega) (by unfold maxLen; omega) (by omega) (by have := hBw; first | omega | (simp; omega)) _ rfl ?_; intro g2 cap2 w7 hown2 hgrow2 hat2 hlt2; have hall2 : W6.grownBy w7 (Value.ownBlock (.slice a5 n5 c5)) := (grown_of (by (repeat (first | with_reducible exact Below.refl _ _ | with_reducible assumption | ((with_reducible refine Below.setCell ?_ ?_ _); rotate_left; focus (first | exact Nat.le_refl _ | omega | exact Below.size (by assumption) | (simp; done) | (simp; omega))) | ((with_reducible refine Below.alloc ?_ ?_ _); rotate_left; focus (first | exact Nat.le_refl _ | omega | exact Below.size (by assumption) | (simp; done) | (simp; omega))) | (with_reducible refine Below.drew ?_) | (with_reducible refine drewN_ ?_ _))))).trans hgrow2; have HALL2 := Lib.hid hall2; have HOWN2 := Lib.hid hown2; have HAT2 := Lib.hid (show (Value.ownBlock (.slice a5 n5 c5)) = some g2 ∨ W6.heap.size ≤ g2 from hat2.imp id (fun e => by rw [e]; first | exact Nat.le_refl _ | (simp; done) | (simp; omega))); have k0 := (hall2.cell_far ⟨bx, 5, none⟩ zbx (fun e => HOFF.out e.symm)).trans b5; have k0f := (hall2.frozen_far ⟨bx, 5, none⟩ zbx (fun e => HOFF.out e.symm)).trans b5f; clear hgrow2 hat2 hall2 hown2)
                      go_roundw
                      case rel =>
                        refine ⟨k + 1, _, Y' ++ [(⟨2 + 3 * (i : Int), 200 + z.a, o, e, so, sb⟩ : Snc)], by go_num, by omega, by have := HN5.out; simp; omega, ?_, HM6.out.addY HN5.out.symm HALL2.out HOWN2.out HAT2.out, HM6.out.z5 HZ6.out HALL2.out _, HM6.out.obj5 HALL2.out HC6.out (by decide) (by decide) _⟩
                        intro q hq
                        rcases List.mem_append.1 hq with h | h
                        · exact hun'.out q h
                        · simp at h
                          subst h
                          exact hsb
                      case measure => simp [intOf]; omega
              · as_aux_lemma =>
                obtain rfl : k = mz := by omega
                have hltk' : ¬(k : Int) < (k : Int) := by omega
                have cc0 := obj_cell hCk.out 0
                have cc1 := obj_cell hCk.out 1
                have b4 := obj_cell hMk.out.box 4
                have b4f := obj_free hMk.out.box 4
                simp at cc0 cc1 b4
                obtain ⟨a4, n4, c4, rfl⟩ := hMk.out.clk.val
                have hn4 := hMk.out.clk.sl.len
                rw [List.length_map] at hn4
                have HN4 := Lib.hid hn4
                have hn4i : n4 = i := by have := HC.out; omega
                have zbx := obj_lt hMk.out.box
                have zbc := obj_lt hCk.out
                have hBw := hMk.out.low.size
                have HOFF := Lib.hid hMk.out.off4
                have HOWN : Hid (∀ W, Below wr.heap.size wr W → W.ownsRow W0.heap.size 48 2 (.slice a4 n4 c4) n4 (C.map Clk.cs).flatten) := fun W hW => by
                  have q := (hMk.out.clk.keep hW).1
                  rw [List.length_map, HN4.out] at q
                  exact q
                have HN4I := Lib.hid hn4i
                have hn4b : n4 ≤ 2 := by omega
                clear hn4 hn4i
                go_wp2_with (at_builtin; refine wpList_append_lies _ (by rfl) _ _ _ (by rfl) W0.heap.size 48 ck0_ _ 2 16 uClkS cki ck0 ck1 ck2 rfl (by decide) (.slice a4 n4 c4) n4 (C.map Clk.cs).flatten (by rfl) (HOWN.out _ (by (repeat (first | with_reducible exact Below.refl _ _ | with_reducible assumption | ((with_reducible refine Below.setCell ?_ ?_ _); rotate_left; focus (first | exact Nat.le_refl _ | omega | exact Below.size (by assumption) | (simp; done) | (simp; omega))) | ((with_reducible refine Below.alloc ?_ ?_ _); rotate_left; focus (first | exact Nat.le_refl _ | omega | exact Below.size (by assumption) | (simp; done) | (simp; omega))) | (with_reducible refine Below.drew ?_) | (with_reducible refine drewN_ ?_ _))))) ⟨wr.heap.size, 0, none⟩ 1 1 ((⟨2 + 3 * (i : Int), y.off⟩ : Clk).cs) (by rfl) rfl (World.news_of_block (cs := #[.int .i64 (2 + 3 * (i : Int)), .int .i64 y.off]) (t := 48) (fr := (0, 0)) (obj_last _ _)) (clk_cell1 _) (by omega) (by unfold maxLen; omega) (by omega) (by have := hBw; first | omega | (simp; omega)) _ rfl ?_; intro g2 cap2 w7 hown2 hgrow2 hat2 hlt2; have hall2 : wr.grownBy w7 (Value.ownBlock (.slice a4 n4 c4)) := (grown_of (by (repeat (first | with_reducible exact Below.refl _ _ | with_reducible assumption | ((with_reducible refine Below.setCell ?_ ?_ _); rotate_left; focus (first | exact Nat.le_refl _ | omega | exact Below.size (by assumption) | (simp; done) | (simp; omega))) | ((with_reducible refine Below.alloc ?_ ?_ _); rotate_left; focus (first | exact Nat.le_refl _ | omega | exact Below.size (by assumption) | (simp; done) | (simp; omega))) | (with_reducible refine Below.drew ?_) | (with_reducible refine drewN_ ?_ _))))).trans hgrow2; have HALL2 := Lib.hid hall2; have HOWN2 := Lib.hid hown2; have HAT2 := Lib.hid (show (Value.ownBlock (.slice a4 n4 c4)) = some g2 ∨ wr.heap.size ≤ g2 from hat2.imp id (fun e => by rw [e]; first | exact Nat.le_refl _ | (simp; done) | (simp; omega))); have k0 := (hall2.cell_far ⟨bx, 4, none⟩ zbx (fun e => HOFF.out e.symm)).trans b4; have k0f := (hall2.frozen_far ⟨bx, 4, none⟩ zbx (fun e => HOFF.out e.symm)).trans b4f; clear hgrow2 hat2 hall2 hown2)
                go_roundw
                case rel =>
                  exact ⟨i + 1, _, _, C ++ [(⟨2 + 3 * (i : Int), y.off⟩ : Clk)], Y', by go_num, by omega, by have := HC.out; simp; omega, by omega, hun'.out, hMk.out.addC HN4.out.symm HALL2.out HOWN2.out HAT2.out⟩
                case measure => simp [intOf]; omega
      · obtain rfl : i = na := by omega
        have hlt' : ¬(i : Int) < (i : Int) := by omega
        obtain ⟨a4, n4, c4, rfl⟩ := hM.out.clk.val
        have hn4 := hM.out.clk.sl.len
        rw [List.length_map] at hn4
        have HN4 := Lib.hid hn4
        have hn4b : n4 ≤ 2 := by have := HC.out; omega
        obtain ⟨gn, cn, rfl⟩ : ∃ g cap, v1 = .slice (some ⟨g, 0, none⟩) N.length cap := by
          rcases hM.out.nod.shape with ⟨_, e⟩ | ⟨g, cap, e, _⟩
          · rw [List.map_eq_nil_iff] at e; rw [e] at n1; simp at n1
          · rw [List.length_map] at e; exact ⟨g, cap, e⟩
        obtain ⟨n, hn⟩ : ∃ z, N.length = z := ⟨_, rfl⟩
        rw [hn] at n1 n2 hM
        have HNL := Lib.hid hn
        have HMs := Lib.hid hM.out
        go_wp2_with fail
        clear p3 zp hBw PX BX hM hlt hn hn4
        obtain ⟨W2, rfl⟩ : ∃ z : World, z = wr := ⟨_, rfl⟩
        go_loopw [9] (fun s9 wx => ∃ (j : Nat) (v3 : Value) (V : List Value) (T : List Trp), s9 = .int .i64 j ∧ j ≤ nd ∧ T.length = j ∧ Hid (∀ q, q < T.length → T[q]!.vis.length ≤ 5) ∧ Hid (SM W0 bx (.slice (some ⟨gn, 0, none⟩) n cn) v2 v3 (.slice a4 n4 c4) v5 (1 + gg) N R V T C Y wx)) (fun s9 _ => nd - (intOf s9).toNat)
        case atStart => exact ⟨0, _, [], [], rfl, Nat.zero_le _, rfl, (fun q hq => by simp at hq), HMs.out⟩
        case round =>
          obtain ⟨j, v3, V, T, rfl, hj1, hT, hvis, hM⟩ := hrel
          have PX := Lib.hid (keepObj hM.out.low P0.out)
          have p2 := obj_cell PX.out 2
          simp at p2
          have zp := obj_lt PX.out
          have hBw := hM.out.low.size
          have BX := Lib.hid (B0.out.trans (hM.out.low.mono B0.out.size))
          have HT := Lib.hid hT
          clear hT
          by_cases hlt : j < nd
          · have hjl : j < x.drives.length := by rw [HND.out]; exact hlt
            obtain ⟨b, off, rfl, hb, hcs⟩ := HX.out.dr.at j hjl
            obtain ⟨u, hu, hcell⟩ := hcs j hjl
            have d0 : w.cell? ⟨b, off + j * 4 + 0, none⟩ = _ := hcell 0 _ rfl
            have d1 : w.cell? ⟨b, off + j * 4 + 1, none⟩ = _ := hcell 1 _ rfl
            have d2 : w.cell? ⟨b, off + j * 4 + 2, none⟩ = _ := hcell 2 _ rfl
            have d3 : w.cell? ⟨b, off + j * 4 + 3, none⟩ = _ := hcell 3 _ rfl
            rw [Nat.add_zero] at d0
            rw [← BX.out.cell (p := ⟨b, _, none⟩) hb] at d0 d1 d2 d3
            have hdm : x.drives[j]! ∈ x.drives := by rw [getElem!_pos x.drives j hjl]; exact List.getElem_mem hjl
            have hdf := HF.out.dr _ hdm
            have hds := HS1.out _ hdm
            obtain ⟨d, hd⟩ : ∃ y, y = x.drives[j]! := ⟨_, rfl⟩
            rw [← hd] at d0 d1 d2 hu hdf hds
            obtain ⟨as', m, cs', rfl, hm1, hm2, _⟩ := hu.open
            rw [List.length_map] at hm1
            rw [hm1] at hds
            have HM1 := Lib.hid hm1
            have HU := Lib.hid (hu.keep BX.out (Nat.le_refl _))
            have HDF := Lib.hid hdf
            obtain ⟨f1, f2, f3, _⟩ := hdf
            obtain ⟨sp1, sp2, sp3, sp4⟩ := tmodByte (m := 16) f3 (by decide) (by decide)
            obtain ⟨sp, hsp⟩ : ∃ q, d.speed.tmod 16 = q := ⟨_, rfl⟩
            rw [hsp] at sp1 sp2 sp3 sp4
            have w5 : IntKind.i64.wrap (1 + sp) = 1 + sp := IntWalk.i64_in _ (by omega)
            obtain ⟨q, hq, hq2⟩ := tmodNat (n := 1 + n4) f1 (by omega)
            have hq' : d.dev.tmod (1 + (n4 : Int)) = (q : Int) := by
              have e : (1 + (n4 : Int)) = ((1 + n4 : Nat) : Int) := by omega
              rw [e]; exact hq
            unfold Byte at f1 f2
            have wdv : IntKind.i64.wrap d.dev = d.dev := IntWalk.i64_in _ (by omega)
            have wst : IntKind.i64.wrap d.start = d.start := IntWalk.i64_in _ (by omega)
            have w200 : IntKind.i64.wrap (200 + d.start) = 200 + d.start := IntWalk.i64_in _ (by omega)
            have w2j : IntKind.i64.wrap (2 * (j : Int)) = 2 * (j : Int) := IntWalk.i64_in _ (by omega)
            have w2j' : IntKind.i64.wrap (1 + 2 * (j : Int)) = 1 + 2 * (j : Int) := IntWalk.i64_in _ (by omega)
            have wn4 : IntKind.i64.wrap (1 + (n4 : Int)) = 1 + (n4 : Int) := IntWalk.i64_in _ (by omega)
            have dn4 : ¬(1 + (n4 : Int) = 0) := by omega
            have wq : IntKind.i64.wrap (q : Int) = (q : Int) := IntWalk.i64_in _ (by omega)
            have hk1 : (0 : Int) ≤ (j : Int) := by omega
            have hk2 : (j : Int) < (nd : Int) := by omega
            have hzb : b < wr.heap.size := by have := BX.out.size; omega
            have b3 := obj_cell hM.out.box 3
            have b4' := obj_cell hM.out.box 4
            simp at b3 b4'
            have zbx := obj_lt hM.out.box
            obtain ⟨a3, n3, c3, rfl⟩ := hM.out.trp.val
            clear hcs hcell hdm hd hm1 hu hq f1 f2 f3
            go_upto_region 24 with fail
            obtain ⟨Wd, hWd⟩ : ∃ W, W = (wr.alloc (.cells #[.int .u8 d.dev, .int .u8 d.start, .int .u8 d.speed, .slice as' m cs'] 72)).alloc (.cells #[.int .i64 (1 + 2 * (j : Int)), .int .i64 0, .int .i64 (200 + d.start), .int .i64 (1 + sp), .slice none 0 0] 61) := ⟨_, rfl⟩
            have BD := Lib.hid (((Below.refl wr.heap.size wr).alloc (Nat.le_refl _) (.cells #[.int .u8 d.dev, .int .u8 d.start, .int .u8 d.speed, .slice as' m cs'] 72)).alloc (by simp) (.cells #[.int .i64 (1 + 2 * (j : Int)), .int .i64 0, .int .i64 (200 + d.start), .int .i64 (1 + sp), .slice none 0 0] 61))
            have PD := Lib.hid (obj_old (o' := .cells #[.int .i64 (1 + 2 * (j : Int)), .int .i64 0, .int .i64 (200 + d.start), .int .i64 (1 + sp), .slice none 0 0] 61) (obj_last wr (.cells #[.int .u8 d.dev, .int .u8 d.start, .int .u8 d.speed, .slice as' m cs'] 72)))
            have PT := Lib.hid (obj_last2 wr (.cells #[.int .u8 d.dev, .int .u8 d.start, .int .u8 d.speed, .slice as' m cs'] 72) (.cells #[.int .i64 (1 + 2 * (j : Int)), .int .i64 0, .int .i64 (200 + d.start), .int .i64 (1 + sp), .slice none 0 0] 61))
            obtain ⟨b11, hb11⟩ : ∃ z, wr.heap.size + 1 = z := ⟨_, rfl⟩
            obtain ⟨b10, hb10⟩ : ∃ z, wr.heap.size = z := ⟨_, rfl⟩
            have h10 : wr.heap.size ≤ b10 := by omega
            have h11 : wr.heap.size ≤ b11 := by omega
            have h1011 : b10 ≠ b11 := by omega
            rw [← hWd] at PD PT BD ⊢
            rw [hb11] at PT ⊢
            rw [hb10] at PD ⊢
            clear hWd hb10 hb11
            have e0 := obj_cell PD.out 0
            have e1 := obj_cell PT.out 1
            have e1f := obj_free PT.out 1
            simp at e0 e1
            have b4d := (BD.out.cell (p := ⟨bx, 4, none⟩) zbx).trans b4'
            have zd10 := obj_lt PD.out
            have zd11 := obj_lt PT.out
            go_upto_if 165 with fail
            go_cut [] (fun wx => ∃ dv : Int, Hid (wx.heap[b11]? = some (.cells #[.int .i64 (1 + 2 * (j : Int)), .int .i64 dv, .int .i64 (200 + d.start), .int .i64 (1 + sp), .slice none 0 0] 61)) ∧ Hid (wx.heap[b10]? = some (.cells #[.int .u8 d.dev, .int .u8 d.start, .int .u8 d.speed, .slice as' m cs'] 72)) ∧ Hid (Below wr.heap.size wr wx))
            case first => as_aux_lemma =>
              by_cases hq0 : 0 < q
              · obtain ⟨jj, hjj⟩ : ∃ jj, q = jj + 1 := ⟨q - 1, by omega⟩
                have g1 : (q : Int) - 1 = (jj : Int) := by omega
                have g2 : IntKind.i64.wrap (jj : Int) = (jj : Int) := IntWalk.i64_in _ (by omega)
                have g3 : (0 : Int) ≤ (jj : Int) := by omega
                have g4 : (jj : Int) < (n4 : Int) := by omega
                have hq0' : (0 : Int) < (q : Int) := by omega
                have hjc : jj < C.length := by have := HN4.out; omega
                obtain ⟨gc, rfl⟩ : ∃ g, a4 = some ⟨g, 0, none⟩ := by
                  rcases hM.out.clk.shape with ⟨_, e⟩ | ⟨g, cap, e, _⟩
                  · rw [List.map_eq_nil_iff] at e; rw [e] at hjc; simp at hjc
                  · injection e with e1; exact ⟨g, e1⟩
                have kc := hM.out.clk.cell jj (by rw [List.length_map]; exact hjc) 0 (by omega)
                simp only [List.getElem_map] at kc
                obtain ⟨ck, hck⟩ : ∃ z, C[jj] = z := ⟨_, rfl⟩
                rw [hck] at kc
                simp only [Clk.cs, List.getElem?_cons_succ, List.getElem?_cons_zero, Nat.add_zero] at kc
                have zgc := (hM.out.clk.blk gc rfl).2
                rw [← BD.out.cell (p := ⟨gc, _, none⟩) zgc] at kc
                clear hjj hck
                go_wp2_with fail
                go_meet
                exact ⟨ck.dev, obj_set PT.out, obj_setOther PD.out h1011, by have h := BD.out; show Below _ _ _; (repeat (first | with_reducible exact Below.refl _ _ | with_reducible assumption | ((with_reducible refine Below.setCell ?_ ?_ _); rotate_left; focus (first | exact Nat.le_refl _ | omega | exact Below.size (by assumption) | (simp; done) | (simp; omega))) | ((with_reducible refine Below.alloc ?_ ?_ _); rotate_left; focus (first | exact Nat.le_refl _ | omega | exact Below.size (by assumption) | (simp; done) | (simp; omega))) | (with_reducible refine Below.drew ?_) | (with_reducible refine drewN_ ?_ _)))⟩
              · have hq0' : ¬(0 : Int) < (q : Int) := by omega
                go_wp2_with fail
                go_meet
                exact ⟨0, PT.out, PD.out, BD.out⟩
            case rest =>
              clear e0 e1 e1f b4d zd10 zd11 PD PT BD
              obtain ⟨dv, hT11, hD10, hBd⟩ := hcut
              obtain ⟨W3, rfl⟩ : ∃ z : World, z = wc := ⟨_, rfl⟩
              obtain ⟨Wr, rfl⟩ : ∃ z : World, z = wr := ⟨_, rfl⟩
              clear d0 d1 d2 d3 p2 b3 b4' sp1 sp2 w5 wdv wst w200 w2j w2j' wn4 dn4 wq hk1 hk2 hq'
              go_wp2_with fail
              go_loopw [13] (fun s13 wx => ∃ (k : Nat) (vv : Value) (X : List Vis), s13 = .int .i64 k ∧ k ≤ 5 ∧ (k ≤ m ∨ k ≤ 1) ∧ X.length ≤ k ∧ Hid (wx.heap[b11]? = some (.cells #[.int .i64 (1 + 2 * (j : Int)), .int .i64 dv, .int .i64 (200 + d.start), .int .i64 (1 + sp), vv] 61)) ∧ Hid (wx.heap[b10]? = some (.cells #[.int .u8 d.dev, .int .u8 d.start, .int .u8 d.speed, .slice as' m cs'] 72)) ∧ Hid (Ow Wr.heap.size wx 92 2 vv (X.map Vis.cs)) ∧ Hid (Below Wr.heap.size Wr wx)) (fun s13 _ => 6 - (intOf s13).toNat)
              case atStart => exact ⟨0, _, [], rfl, by omega, by omega, by simp, hT11.out, hD10.out, Ow.nil _ _ _ _, hBd.out⟩
              case round =>
                obtain ⟨k, vv, X, rfl, hk5, hkm, hX', hT1, hD1, hOv, hBk⟩ := hrel
                obtain ⟨av, nv, cv, rfl⟩ := hOv.out.val
                have hnv := hOv.out.sl.len
                rw [List.length_map] at hnv
                rw [hnv] at hX'
                have HNV := Lib.hid hnv
                have e3 := obj_cell hD1.out 3
                simp at e3
                have z10 := obj_lt hD1.out
                have z11 := obj_lt hT1.out
                clear hnv
                go_upto_region 28 with fail
                go_cut [182] (fun s182 wx => ∃ bb : Bool, s182 = .bool bb ∧ (bb = true → k < m ∨ k = 0) ∧ (bb = false → ¬k < m ∧ ¬k = 0) ∧ wx = wr)
                case first => as_aux_lemma =>
                  by_cases c1 : k < m
                  · have c1' : (k : Int) < (m : Int) := by omega
                    go_wp2_with fail
                    go_meet
                    exact ⟨true, rfl, (fun _ => .inl c1), (fun h => by cases h), rfl⟩
                  · have c1' : ¬(k : Int) < (m : Int) := by omega
                    by_cases c2 : k = 0
                    · have c2' : ((k : Int) == 0) = true := by simp [c2]
                      have c2'' : (k == 0) = true := by simp [c2]
                      have C2 := Lib.hid c2
                      clear c2
                      go_wp2_with fail
                      go_meet
                      exact ⟨true, rfl, (fun _ => .inr C2.out), (fun h => by cases h), rfl⟩
                    · have c2' : ((k : Int) == 0) = false := by simp [c2]
                      have c2'' : (k == 0) = false := by simp [c2]
                      have C2 := Lib.hid c2
                      clear c2
                      go_wp2_with fail
                      go_meet
                      exact ⟨false, rfl, (fun h => by cases h), (fun _ => ⟨c1, C2.out⟩), rfl⟩
                case rest =>
                  obtain ⟨bb, rfl, hb1, hb2, hww⟩ := hcut
                  subst hww
                  cases bb with
                  | true =>
                    have hgo := hb1 rfl
                    obtain ⟨W4, rfl⟩ : ∃ z : World, z = wc := ⟨_, rfl⟩
                    have HMk := Lib.hid (hM.out.keep hBk.out)
                    have x0 := HMk.out.nod.cell 0 (by rw [List.length_map, HNL.out]; omega) 0 (by omega)
                    simp only [List.getElem_map, Nd.cs, List.getElem?_cons_zero, Nat.zero_mul, Nat.add_zero] at x0
                    obtain ⟨id0, hid0⟩ : ∃ z, (N[0]'(by rw [HNL.out]; omega)).id = z := ⟨_, rfl⟩
                    rw [hid0] at x0
                    have m0 := obj_cell HMk.out.box 0
                    simp at m0
                    have zgn := (HMk.out.nod.blk gn rfl).2
                    have zbx4 := obj_lt HMk.out.box
                    have hn0 : (0 : Int) < (n : Int) := by omega
                    clear hb1 hb2 hid0
                    go_upto_if 196 with fail
                    obtain ⟨Wv, hWv⟩ : ∃ W, W = W4.alloc (.cells #[.int .i64 id0, .int .i64 0] 92) := ⟨_, rfl⟩
                    have PV := Lib.hid (obj_last W4 (.cells #[.int .i64 id0, .int .i64 0] 92))
                    have BV := Lib.hid ((Below.refl W4.heap.size W4).alloc (Nat.le_refl _) (.cells #[.int .i64 id0, .int .i64 0] 92))
                    obtain ⟨b14, hb14⟩ : ∃ z, W4.heap.size = z := ⟨_, rfl⟩
                    have h14' : W4.heap.size ≤ b14 := by omega
                    rw [← hWv] at PV BV ⊢
                    rw [hb14] at PV ⊢
                    clear hWv hb14
                    go_cut [] (fun wx => ∃ nid wt : Int, Hid (wx.heap[b14]? = some (.cells #[.int .i64 nid, .int .i64 wt] 92)) ∧ Hid (Below W4.heap.size W4 wx))
                    case first => as_aux_lemma =>
                      by_cases hkm' : k < m
                      · have hks : k < d.stops.length := by rw [HM1.out]; exact hkm'
                        obtain ⟨bs, os, rfl, hbs, hss⟩ := HU.out.cells k hks
                        have t0 : Wr.cell? ⟨bs, os + k * 2 + 0, none⟩ = _ := hss k hks 0 _ rfl
                        have t1 : Wr.cell? ⟨bs, os + k * 2 + 1, none⟩ = _ := hss k hks 1 _ rfl
                        rw [Nat.add_zero] at t0
                        have zw := BX.out.size
                        rw [← hBk.out.cell (p := ⟨bs, _, none⟩) (by show bs < _; omega)] at t0 t1
                        have zbs : bs < W4.heap.size := by have := hBk.out.size; omega
                        rw [← BV.out.cell (p := ⟨bs, _, none⟩) zbs] at t0 t1
                        have hsm : d.stops[k]! ∈ d.stops := by rw [getElem!_pos d.stops k hks]; exact List.getElem_mem hks
                        have hsf := HDF.out.2.2.2 _ hsm
                        obtain ⟨st, hst⟩ : ∃ z, z = d.stops[k]! := ⟨_, rfl⟩
                        rw [← hst] at t0 t1 hsf
                        obtain ⟨ia, hia, hia2⟩ := tmodNat (n := n) hsf.1 (by omega)
                        obtain ⟨u1, u2, u3, u4⟩ := tmodByte (m := 40) hsf.2 (by decide) (by decide)
                        obtain ⟨wt, hwt⟩ : ∃ z, st.b.tmod 40 = z := ⟨_, rfl⟩
                        rw [hwt] at u1 u2 u3 u4
                        have hws : IntKind.i64.wrap st.a = st.a := IntWalk.i64_in _ (by have := hsf.1; unfold Byte at this; omega)
                        have hn00 : ¬(n : Int) = 0 := by omega
                        have hn01 : ¬n = 0 := by omega
                        have hwa : IntKind.i64.wrap (ia : Int) = (ia : Int) := IntWalk.i64_in _ (by omega)
                        have ia1 : (0 : Int) ≤ (ia : Int) := by omega
                        have ia3 : (ia : Int) < (n : Int) := by omega
                        have hiaN : ia < N.length := by rw [HNL.out]; exact hia2
                        have y0 := HMk.out.nod.cell ia (by rw [List.length_map]; exact hiaN) 0 (by omega)
                        simp only [List.getElem_map, Nd.cs, List.getElem?_cons_zero, Nat.add_zero] at y0
                        obtain ⟨idn, hidn⟩ : ∃ z, N[ia].id = z := ⟨_, rfl⟩
                        rw [hidn] at y0
                        rw [← BV.out.cell (p := ⟨gn, _, none⟩) zgn] at y0
                        have m0v := (BV.out.cell (p := ⟨bx, 0, none⟩) zbx4).trans m0
                        have e3v := (BV.out.cell (p := ⟨b10, 3, none⟩) z10).trans e3
                        have hk1 : (0 : Int) ≤ (k : Int) := by omega
                        have hk2 : (k : Int) < (m : Int) := by omega
                        have v0 := obj_cell PV.out 0
                        have v1' := obj_cell PV.out 1
                        have v0f := obj_free PV.out 0
                        have v1f := obj_free PV.out 1
                        simp at v0 v1'
                        clear hss hsm hst hsf hidn m0 e3 x0
                        go_wp2_with fail
                        go_region_held3 (fun w' => w'.cell? ⟨bx, 0, none⟩ = some (.slice (some ⟨gn, 0, none⟩) n cn) ∧ w'.cell? ⟨b10, 3, none⟩ = some (.slice (some ⟨bs, os, none⟩) m cs') ∧ w'.cell? ⟨bs, os + k * 2, none⟩ = some (.int .u8 st.a) ∧ w'.cell? ⟨bs, os + k * 2 + 1, none⟩ = some (.int .u8 st.b) ∧ w'.cell? ⟨gn, ia * 3, none⟩ = some (.int .i64 idn))
                          (((go_split_ands; refine ⟨?_, ?_, ?_, ?_, ?_⟩ <;> first | with_reducible assumption | exact ((show Below W4.heap.size Wv _ from (by (repeat (first | with_reducible exact Below.refl _ _ | with_reducible assumption | ((with_reducible refine Below.setCell ?_ ?_ _); rotate_left; focus (first | exact Nat.le_refl _ | omega | exact Below.size (by assumption) | (simp; done) | (simp; omega))) | ((with_reducible refine Below.alloc ?_ ?_ _); rotate_left; focus (first | exact Nat.le_refl _ | omega | exact Below.size (by assumption) | (simp; done) | (simp; omega))) | (with_reducible refine Below.drew ?_) | (with_reducible refine drewN_ ?_ _))))).cell (p := ⟨_, _, none⟩) (by first | with_reducible assumption | omega)).trans (by with_reducible assumption))))
                          ((fail))
                        all_goals
                          go_wp2_with fail
                          go_meet
                          exact ⟨idn, wt, obj_setV2 PV.out, by have h := BV.out; show Below _ _ _; (repeat (first | with_reducible exact Below.refl _ _ | with_reducible assumption | ((with_reducible refine Below.setCell ?_ ?_ _); rotate_left; focus (first | exact Nat.le_refl _ | omega | exact Below.size (by assumption) | (simp; done) | (simp; omega))) | ((with_reducible refine Below.alloc ?_ ?_ _); rotate_left; focus (first | exact Nat.le_refl _ | omega | exact Below.size (by assumption) | (simp; done) | (simp; omega))) | (with_reducible refine Below.drew ?_) | (with_reducible refine drewN_ ?_ _)))⟩
                      · have hkm2 : ¬(k : Int) < (m : Int) := by omega
                        go_wp2_with fail
                        go_meet
                        exact ⟨id0, 0, PV.out, BV.out⟩
                    case rest =>
                      obtain ⟨nid, wt, h14, hB14⟩ := hcut
                      have hT5 := Lib.hid (keepObj hB14.out hT1.out)
                      have hD5 := Lib.hid (keepObj hB14.out hD1.out)
                      have hO5 := Lib.hid (hOv.out.keep hB14.out)
                      have HBK5 := Lib.hid (hBk.out.trans (hB14.out.mono hBk.out.size))
                      obtain ⟨W5, rfl⟩ : ∃ z : World, z = wc := ⟨_, rfl⟩
                      clear hT1 hD1 hOv hB14 PV BV h14' m0 x0 e3 z10 z11 zgn zbx4 hBk HMk hn0
                      have q4 := obj_cell hT5.out 4
                      have v0 := obj_cell h14.out 0
                      have v1' := obj_cell h14.out 1
                      simp at q4 v0 v1'
                      have z11 := obj_lt hT5.out
                      have z14 := obj_lt h14.out
                      go_wp2_with fail
                      go_cut [241] (fun s241 wx => ∃ bb : Bool, s241 = .bool bb ∧ Hid (Below W5.heap.size W5 wx))
                      case first => as_aux_lemma =>
                        by_cases hv0 : nv = 0
                        · have hv0' : ((nv : Int) == 0) = true := by simp [hv0]
                          have hv0'' : (nv == 0) = true := by simp [hv0]
                          clear hv0
                          go_quiet (fail)
                          go_wp2_with fail
                          go_meet
                          exact ⟨true, rfl, by show Below _ _ _; (repeat (first | with_reducible exact Below.refl _ _ | with_reducible assumption | ((with_reducible refine Below.setCell ?_ ?_ _); rotate_left; focus (first | exact Nat.le_refl _ | omega | exact Below.size (by assumption) | (simp; done) | (simp; omega))) | ((with_reducible refine Below.alloc ?_ ?_ _); rotate_left; focus (first | exact Nat.le_refl _ | omega | exact Below.size (by assumption) | (simp; done) | (simp; omega))) | (with_reducible refine Below.drew ?_) | (with_reducible refine drewN_ ?_ _)))⟩
                        · have hv0' : ((nv : Int) == 0) = false := by simp [hv0]
                          have hv0'' : (nv == 0) = false := by simp [hv0]
                          obtain ⟨jj, hjj⟩ : ∃ jj, nv = jj + 1 := ⟨nv - 1, by omega⟩
                          have g1 : (nv : Int) - 1 = (jj : Int) := by omega
                          have g2 : IntKind.i64.wrap (jj : Int) = (jj : Int) := IntWalk.i64_in _ (by omega)
                          have g3 : (0 : Int) ≤ (jj : Int) := by omega
                          have g4 : (jj : Int) < (nv : Int) := by omega
                          have hjX : jj < X.length := by have := HNV.out; omega
                          obtain ⟨gv, rfl⟩ : ∃ g, av = some ⟨g, 0, none⟩ := by
                            rcases hO5.out.shape with ⟨_, e⟩ | ⟨g, cap, e, _⟩
                            · rw [List.map_eq_nil_iff] at e; rw [e] at hjX; simp at hjX
                            · injection e with e1; exact ⟨g, e1⟩
                          have kc := hO5.out.cell jj (by rw [List.length_map]; exact hjX) 0 (by omega)
                          simp only [List.getElem_map, Vis.cs, List.getElem?_cons_zero, Nat.add_zero] at kc
                          obtain ⟨ln, hln⟩ : ∃ z, X[jj].node = z := ⟨_, rfl⟩
                          rw [hln] at kc
                          clear hln hjj hv0
                          by_cases hl : ln = nid
                          · have hl' : (ln != nid) = false := by simp [hl]
                            clear hl
                            go_quiet (fail)
                            go_wp2_with fail
                            go_meet
                            exact ⟨false, rfl, by show Below _ _ _; (repeat (first | with_reducible exact Below.refl _ _ | with_reducible assumption | ((with_reducible refine Below.setCell ?_ ?_ _); rotate_left; focus (first | exact Nat.le_refl _ | omega | exact Below.size (by assumption) | (simp; done) | (simp; omega))) | ((with_reducible refine Below.alloc ?_ ?_ _); rotate_left; focus (first | exact Nat.le_refl _ | omega | exact Below.size (by assumption) | (simp; done) | (simp; omega))) | (with_reducible refine Below.drew ?_) | (with_reducible refine drewN_ ?_ _)))⟩
                          · have hl' : (ln != nid) = true := by simpa using hl
                            clear hl
                            go_quiet (fail)
                            go_wp2_with fail
                            go_meet
                            exact ⟨true, rfl, by show Below _ _ _; (repeat (first | with_reducible exact Below.refl _ _ | with_reducible assumption | ((with_reducible refine Below.setCell ?_ ?_ _); rotate_left; focus (first | exact Nat.le_refl _ | omega | exact Below.size (by assumption) | (simp; done) | (simp; omega))) | ((with_reducible refine Below.alloc ?_ ?_ _); rotate_left; focus (first | exact Nat.le_refl _ | omega | exact Below.size (by assumption) | (simp; done) | (simp; omega))) | (with_reducible refine Below.drew ?_) | (with_reducible refine drewN_ ?_ _)))⟩
                      case rest =>
                        clear q4 v0 v1' z11 z14
                        obtain ⟨bb, rfl, hB5⟩ := hcut
                        have hT6 := Lib.hid (keepObj hB5.out hT5.out)
                        have hD6 := Lib.hid (keepObj hB5.out hD5.out)
                        have h146 := Lib.hid (keepObj hB5.out h14.out)
                        have hO6 := Lib.hid (hO5.out.keep hB5.out)
                        have HBK6 := Lib.hid (HBK5.out.trans (hB5.out.mono HBK5.out.size))
                        obtain ⟨W6, rfl⟩ : ∃ z : World, z = wc := ⟨_, rfl⟩
                        clear hT5 hD5 h14 hO5 HBK5 hB5
                        cases bb with
                        | true => as_aux_lemma =>
                          have q4 := obj_cell hT6.out 4
                          have q4f := obj_free hT6.out 4
                          have v0 := obj_cell h146.out 0
                          have v1' := obj_cell h146.out 1
                          simp at q4 v0 v1'
                          have z11 := obj_lt hT6.out
                          have z14 := obj_lt h146.out
                          have hBw6 := HBK6.out.size
                          have HOFF : Hid ((Value.slice av nv cv).ownBlock ≠ some b11) := fun e => absurd (hO6.out.type _ e _ _ _ hT6.out) (by decide)
                          have HOWN : Hid (∀ W, Below W6.heap.size W6 W → W.ownsRow Wr.heap.size 92 2 (.slice av nv cv) nv (X.map Vis.cs).flatten) := fun W hW => by
                            have q := (hO6.out.keep hW).1
                            rw [List.length_map, HNV.out] at q
                            exact q
                          go_wp2_with (at_builtin; refine wpList_append_lies _ (by rfl) _ _ _ (by rfl) Wr.heap.size 92 vs0_ _ 2 16 uVisS vsi vs0 vs1 vs2 rfl (by decide) (.slice av nv cv) nv (X.map Vis.cs).flatten (by rfl) (HOWN.out _ (by (repeat (first | with_reducible exact Below.refl _ _ | with_reducible assumption | ((with_reducible refine Below.setCell ?_ ?_ _); rotate_left; focus (first | exact Nat.le_refl _ | omega | exact Below.size (by assumption) | (simp; done) | (simp; omega))) | ((with_reducible refine Below.alloc ?_ ?_ _); rotate_left; focus (first | exact Nat.le_refl _ | omega | exact Below.size (by assumption) | (simp; done) | (simp; omega))) | (with_reducible refine Below.drew ?_) | (with_reducible refine drewN_ ?_ _))))) ⟨W6.heap.size, 0, none⟩ 1 1 ((⟨nid, wt⟩ : Vis).cs) (by rfl) rfl (World.news_of_block (cs := #[.int .i64 nid, .int .i64 wt]) (t := 92) (fr := (0, 0)) (obj_last _ _)) (vis_cell1 _) (by omega) (by unfold maxLen; omega) (by omega) (by have := hBw6; first | omega | (simp; omega)) _ rfl ?_; intro g2 cap2 w7 hown2 hgrow2 hat2 hlt2; have hall2 : W6.grownBy w7 (Value.ownBlock (.slice av nv cv)) := (grown_of (by (repeat (first | with_reducible exact Below.refl _ _ | with_reducible assumption | ((with_reducible refine Below.setCell ?_ ?_ _); rotate_left; focus (first | exact Nat.le_refl _ | omega | exact Below.size (by assumption) | (simp; done) | (simp; omega))) | ((with_reducible refine Below.alloc ?_ ?_ _); rotate_left; focus (first | exact Nat.le_refl _ | omega | exact Below.size (by assumption) | (simp; done) | (simp; omega))) | (with_reducible refine Below.drew ?_) | (with_reducible refine drewN_ ?_ _))))).trans hgrow2; have HALL2 := Lib.hid hall2; have HOWN2 := Lib.hid hown2; have HAT2 := Lib.hid (show (Value.ownBlock (.slice av nv cv)) = some g2 ∨ W6.heap.size ≤ g2 from hat2.imp id (fun e => by rw [e]; first | exact Nat.le_refl _ | (simp; done) | (simp; omega))); have k0 := (hall2.cell_far ⟨b11, 4, none⟩ z11 (fun e => HOFF.out e.symm)).trans q4; have k0f := (hall2.frozen_far ⟨b11, 4, none⟩ z11 (fun e => HOFF.out e.symm)).trans q4f; clear hgrow2 hat2 hall2 hown2)
                          go_roundw
                          case rel =>
                            obtain ⟨r1, r2, r3⟩ := vis_add hT6.out hO6.out HNV.out.symm HALL2.out HOWN2.out HAT2.out
                            exact ⟨k + 1, _, X ++ [(⟨nid, wt⟩ : Vis)], by go_num, by omega, by omega, by have := HNV.out; simp; omega, r1, r3 _ _ _ _ hD6.out h1011 (by decide), r2, (HBK6.out.grown HALL2.out HBK6.out.size (fun b hb => (hO6.out.blk b hb).1)).setCell h11 _⟩
                          case measure => simp [intOf]; omega
                        | false =>
                          go_wp2_with fail
                          go_roundw
                          case rel => exact ⟨k + 1, _, X, by go_num, by omega, by omega, by have := HNV.out; omega, hT6.out, hD6.out, hO6.out, HBK6.out⟩
                          case measure => simp [intOf]; omega
                  | false => as_aux_lemma =>
                    obtain ⟨W4, rfl⟩ : ∃ z : World, z = wc := ⟨_, rfl⟩
                    have HMk := Lib.hid (hM.out.keep hBk.out)
                    have f0 := obj_cell hT1.out 0
                    have f1 := obj_cell hT1.out 1
                    have f2 := obj_cell hT1.out 2
                    have f3 := obj_cell hT1.out 3
                    have f4 := obj_cell hT1.out 4
                    have b3 := obj_cell HMk.out.box 3
                    have b3f := obj_free HMk.out.box 3
                    simp at f0 f1 f2 f3 f4 b3
                    have hn3 := HMk.out.trp.sl.len
                    rw [List.length_zipWith, HMk.out.len, Nat.min_self] at hn3
                    have HN3 := Lib.hid hn3
                    have hn3b : n3 ≤ 3 := by have := HT.out; omega
                    have zbx' := obj_lt HMk.out.box
                    have hBw' := HMk.out.low.size
                    have HOFF := Lib.hid HMk.out.off3
                    have HOWN : Hid (∀ W, Below W4.heap.size W4 W → W.ownsRow W0.heap.size 61 5 (.slice a3 n3 c3) n3 (List.zipWith Trp.cs T V).flatten) := fun W hW => by
                      have q := (HMk.out.trp.keep hW).1
                      rw [List.length_zipWith, HMk.out.len, Nat.min_self, HN3.out] at q
                      exact q
                    clear hn3 hb1 hb2 e3
                    go_wp2_with (at_builtin; refine wpList_append_lies _ (by rfl) _ _ _ (by rfl) W0.heap.size 61 tr0_ _ 5 56 uTrpS tri tr0 tr1 tr2 rfl (by decide) (.slice a3 n3 c3) n3 (List.zipWith Trp.cs T V).flatten (by rfl) (HOWN.out _ (by (repeat (first | with_reducible exact Below.refl _ _ | with_reducible assumption | ((with_reducible refine Below.setCell ?_ ?_ _); rotate_left; focus (first | exact Nat.le_refl _ | omega | exact Below.size (by assumption) | (simp; done) | (simp; omega))) | ((with_reducible refine Below.alloc ?_ ?_ _); rotate_left; focus (first | exact Nat.le_refl _ | omega | exact Below.size (by assumption) | (simp; done) | (simp; omega))) | (with_reducible refine Below.drew ?_) | (with_reducible refine drewN_ ?_ _))))) ⟨W4.heap.size, 0, none⟩ 1 1 ((⟨1 + 2 * (j : Int), dv, 200 + d.start, 1 + sp, X⟩ : Trp).cs (.slice av nv cv)) (by rfl) rfl (World.news_of_block (cs := #[.int .i64 (1 + 2 * (j : Int)), .int .i64 dv, .int .i64 (200 + d.start), .int .i64 (1 + sp), .slice av nv cv]) (t := 61) (fr := (0, 0)) (obj_last _ _)) (trp_cell1 _ _ _ _) (by omega) (by unfold maxLen; omega) (by omega) (by have := hBw'; first | omega | (simp; omega)) _ rfl ?_; intro g2 cap2 w7 hown2 hgrow2 hat2 hlt2; have hall2 : W4.grownBy w7 (Value.ownBlock (.slice a3 n3 c3)) := (grown_of (by (repeat (first | with_reducible exact Below.refl _ _ | with_reducible assumption | ((with_reducible refine Below.setCell ?_ ?_ _); rotate_left; focus (first | exact Nat.le_refl _ | omega | exact Below.size (by assumption) | (simp; done) | (simp; omega))) | ((with_reducible refine Below.alloc ?_ ?_ _); rotate_left; focus (first | exact Nat.le_refl _ | omega | exact Below.size (by assumption) | (simp; done) | (simp; omega))) | (with_reducible refine Below.drew ?_) | (with_reducible refine drewN_ ?_ _))))).trans hgrow2; have HALL2 := Lib.hid hall2; have HOWN2 := Lib.hid hown2; have HAT2 := Lib.hid (show (Value.ownBlock (.slice a3 n3 c3)) = some g2 ∨ W4.heap.size ≤ g2 from hat2.imp id (fun e => by rw [e]; first | exact Nat.le_refl _ | (simp; done) | (simp; omega))); have k0 := (hall2.cell_far ⟨bx, 3, none⟩ zbx' (fun e => HOFF.out e.symm)).trans b3; have k0f := (hall2.frozen_far ⟨bx, 3, none⟩ zbx' (fun e => HOFF.out e.symm)).trans b3f; clear hgrow2 hat2 hall2 hown2)
                    go_roundw
                    case rel =>
                      refine ⟨j + 1, _, V ++ [.slice av nv cv], T ++ [(⟨1 + 2 * (j : Int), dv, 200 + d.start, 1 + sp, X⟩ : Trp)], by go_num, by omega, by have := HT.out; simp; omega, ?_, HMk.out.addT (hOv.out.mono hBw) HN3.out.symm HALL2.out HOWN2.out HAT2.out⟩
                      intro q hq
                      by_cases hqT : q < T.length
                      · rw [get_app _ _ _ hqT]; exact hvis.out q hqT
                      · obtain rfl : q = T.length := by simp at hq; omega
                        rw [get_last]
                        show X.length ≤ 5
                        have := HNV.out
                        omega
                    case measure => simp [intOf]; omega
          · as_aux_lemma =>
            obtain rfl : j = nd := by omega
            have hlt2 : ¬(j : Int) < (j : Int) := by omega
            have r := keepObj hM.out.low Z0.out
            have r0 := obj_cell r 0
            have r1 := obj_cell r 1
            have r2 := obj_cell r 2
            have r3 := obj_cell r 3
            have r4 := obj_cell r 4
            have r5 := obj_cell r 5
            have f0 := obj_free r 0
            have f1 := obj_free r 1
            have f2 := obj_free r 2
            have f3 := obj_free r 3
            have f4 := obj_free r 4
            have f5 := obj_free r 5
            simp at r0 r1 r2 r3 r4 r5
            obtain ⟨a2, m2, c2, rfl⟩ := hM.out.rds.val
            obtain ⟨a3, m3, c3, rfl⟩ := hM.out.trp.val
            obtain ⟨a5, m5, c5, rfl⟩ := hM.out.snc.val
            have b0 := obj_cell hM.out.box 0
            have b1 := obj_cell hM.out.box 1
            have b2 := obj_cell hM.out.box 2
            have b3 := obj_cell hM.out.box 3
            have b4 := obj_cell hM.out.box 4
            have b5 := obj_cell hM.out.box 5
            simp at b0 b1 b2 b3 b4 b5
            have hbxw := hM.out.hbx
            have hb2 : w.heap.size + 1 ≠ bx := by omega
            have z6 := Lib.hid (obj_set6' r (.slice (some ⟨gn, 0, none⟩) n cn) (.slice a2 m2 c2) (.int .i64 (1 + gg)) (.slice a3 m3 c3) (.slice a4 n4 c4) (.slice a5 m5 c5))
            have BX' := Lib.hid (B0.out.trans (hM.out.low.mono B0.out.size))
            clear r hlt
            go_wp2_with fail
            obtain ⟨fs, hfs⟩ := uScnT
            refine bodyPost_ret (v := .agg #[.slice (some ⟨gn, 0, none⟩) n cn, .slice a2 m2 c2, .int .i64 (1 + gg), .slice a3 m3 c3, .slice a4 n4 c4, .slice a5 m5 c5]) (results_cell_row (by rfl) _ _ (w.heap.size + 1) _ _ _ _ (by rfl) z6.out hfs rfl iScnT) rfl ⟨?_, by have h := BX'.out; (repeat (first | with_reducible exact Below.refl _ _ | with_reducible assumption | ((with_reducible refine Below.setCell ?_ ?_ _); rotate_left; focus (first | exact Nat.le_refl _ | omega | exact Below.size (by assumption) | (simp; done) | (simp; omega))) | ((with_reducible refine Below.alloc ?_ ?_ _); rotate_left; focus (first | exact Nat.le_refl _ | omega | exact Below.size (by assumption) | (simp; done) | (simp; omega))) | (with_reducible refine Below.drew ?_) | (with_reducible refine drewN_ ?_ _)))⟩
            exact ⟨_, _, _, _, _, 1 + gg, N, R, V, T, C, Y, rfl, ((((((hM.out.rows.set hz0 0 _).set hz0 1 _).set hz0 2 _).set hz0 3 _).set hz0 4 _).set hz0 5 _).mono (by omega), netErr_in hN.out (by have := HNL.out; omega) hR.out (by omega), by omega, by omega, by have := HT.out; omega, by have := HC.out; omega, by omega, hvis.out, fun h y hy => hun.out y hy h⟩
end Go.Proofs.YtmplajpbmojkkaaGreat
