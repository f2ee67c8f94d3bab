/-
 Ways over nodes, exactly: slices.Compare at ints, the comparison of choices, least.
 Ways over nodes, exactly: least.
-/
import Derived.Test.YtcelpkbmcmnogaaGreatDoorShoC
import Derived.Test.YtcelpkbmcmnogaaGreatDoorJnkA
set_option linter.unusedSimpArgs false
set_option linter.unusedVariables false
namespace Go.Proofs.YtcelpkbmcmnogaaGreatDoor
open Go Go.RowKit Go.Vi
attribute [local go_sem ↓] lo_lt lo_ne lo_ne'
attribute [local go_sem] junk_cell junk_frozen junk_setCell junk_drew drew_junk
theorem ret_i {a b : Int} (h : a = b) : Ending.returned (.int .i64 a) = Ending.returned (.int .i64 b) := by rw [h]
/-- The order of two lists of numbers. -/
def cmpL : List Int → List Int → Int
 | [], [] => 0
 | [], _ :: _ => -1
 | _ :: _, [] => 1
 | a :: l, b :: m => if cmpI a b = 0 then cmpL l m else cmpI a b
theorem int_cells {B : Nat} {w : World} {a : Option Addr} {n cap : Nat} {L : List Int} (h : Sl B w 1 (.slice a n cap) (L.map i1)) (i : Nat) (hi : i < L.length) :
  ∃ b off, a = some ⟨b, off, none⟩ ∧ b < B ∧ ∀ j, j < L.length → w.cell? ⟨b, off + j, none⟩ = some (.int .i64 L[j]!) := by
 obtain ⟨b, off, h1, h2, h3⟩ := h.cells (cs := i1) i hi
 exact ⟨b, off, h1, h2, fun j hj => by have := h3 j hj 0 _ rfl; simpa using this⟩
theorem cmpL_drop (L M : List Int) (k : Nat) (h1 : k < L.length) (h2 : k < M.length) : cmpL (L.drop k) (M.drop k) = if cmpI L[k]! M[k]! = 0 then cmpL (L.drop (k + 1)) (M.drop (k + 1)) else cmpI L[k]! M[k]! := by
 rw [List.drop_eq_getElem_cons h1, List.drop_eq_getElem_cons h2, getElem!_pos L k h1, getElem!_pos M k h2]
 rfl
set_option maxHeartbeats 1000000 in
theorem sliceCmp_q (L M : List Int) (u v : Value) (w : World) (hu : Sl w.heap.size w 1 u (L.map i1)) (hv : Sl w.heap.size w 1 v (M.map i1)) (hl : L.length ≤ 1000000) (hm : M.length ≤ 1000000) :
  Calls Tryz.prog 48 #[u, v] w fun e w' => e = .returned (.int .i64 (cmpL L M)) ∧ w = w' := by
 obtain ⟨a1, n1, c1, rfl, hn1, hk1, hm1⟩ := hu.open
 obtain ⟨a2, n2, c2, rfl, hn2, hk2, hm2⟩ := hv.open
 rw [List.length_map] at hn1 hn2
 have HU := Lib.hid hu
 have HV := Lib.hid hv
 have H1 := Lib.hid hn1
 have H2 := Lib.hid hn2
 have hb1 : n1 ≤ 1000000 := by rw [← hn1]; exact hl
 have hb2 : n2 ≤ 1000000 := by rw [← hn2]; exact hm
 obtain ⟨out, hout⟩ : ∃ o, cmpL L M = o := ⟨_, rfl⟩
 rw [hout]
 have HT := Lib.hid hout
 clear hu hv hl hm hn1 hn2 hm1 hm2 hout
 go_enter Tryz.func48, Tryz.ntmps48
 go_wp2_with fail
 go_loop [11] (fun s11 => ∃ k : Nat, s11 = .int .i64 k ∧ k ≤ n1 ∧ k ≤ n2 ∧ Hid (cmpL (L.drop k) (M.drop k) = out)) (fun s11 => n1 - (intOf s11).toNat)
 case atStart => exact ⟨0, rfl, Nat.zero_le _, Nat.zero_le _, HT⟩
 case round =>
  obtain ⟨k, rfl, hk, hk2, HF⟩ := hrel
  by_cases h1 : k < n1
  ·by_cases h2 : k < n2
   ·have hkl : k < L.length := by rw [H1.out]; exact h1
    have hkm : k < M.length := by rw [H2.out]; exact h2
    obtain ⟨b, off, rfl, hb, d⟩ := int_cells HU.out k hkl
    have d0 := d k hkl
    obtain ⟨b2, off2, rfl, hb2, g⟩ := int_cells HV.out k hkm
    have g0 := g k hkm
    have HD := Lib.hid (cmpL_drop L M k hkl hkm)
    rw [HF.out] at HD
    generalize L[k]! = x at d0 HD
    generalize M[k]! = y at g0 HD
    have HC := Lib.hid (cmp_any x y w)
    generalize cmpI x y = c at HC HD
    clear d g
    by_cases hc : c = 0
    ·subst hc
     rw [if_pos rfl] at HD
     have HF2 : Hid (cmpL (L.drop (k + 1)) (M.drop (k + 1)) = out) := Lib.hid HD.out.symm
     clear HD HF
     go_wp2_with fail
     refine HC.out.mono ?_
     rintro e w' ⟨rfl, rfl⟩
     go_wp2_with fail
     go_round
     case rel => exact ⟨k + 1, by go_num, by omega, by omega, HF2⟩
     case measure => simp [intOf]; omega
    ·rw [if_neg hc] at HD
     have hcb : (c == 0) = false := by simpa using hc
     have hcb2 : (c != 0) = true := by simpa using hc
     clear HF hc
     go_wp2_with fail
     refine HC.out.mono ?_
     rintro e w' ⟨rfl, rfl⟩
     go_wp2_with fail
     go_ret
     exact ⟨ret_i HD.out.symm, rfl⟩
   ·obtain rfl : k = n2 := by omega
    have hkl : k < L.length := by rw [H1.out]; exact h1
    have HR : Hid (1 = out) := Lib.hid (by
     rw [← HF.out, show M.drop k = [] from List.drop_eq_nil_of_le (by rw [H2.out]; exact Nat.le_refl _), List.drop_eq_getElem_cons hkl]
     rfl)
    obtain ⟨b, off, rfl, hb, d⟩ := int_cells HU.out k hkl
    have d0 := d k hkl
    clear d HF
    generalize L[k]! = x at d0
    go_wp2_with fail
    go_ret
    exact ⟨ret_i HR.out, rfl⟩
  ·obtain rfl : k = n1 := by omega
   by_cases h2 : k < n2
   ·have hkm : k < M.length := by rw [H2.out]; exact h2
    have HR : Hid (-1 = out) := Lib.hid (by
     rw [← HF.out, show L.drop k = [] from List.drop_eq_nil_of_le (by rw [H1.out]; exact Nat.le_refl _), List.drop_eq_getElem_cons hkm]
     rfl)
    clear HF
    go_wp2_with fail
    go_ret
    exact ⟨ret_i HR.out, rfl⟩
   ·obtain rfl : k = n2 := by omega
    have HR : Hid (0 = out) := Lib.hid (by
     rw [← HF.out, show L.drop k = [] from List.drop_eq_nil_of_le (by rw [H1.out]; exact Nat.le_refl _), show M.drop k = [] from List.drop_eq_nil_of_le (by rw [H2.out]; exact Nat.le_refl _)]
     rfl)
    clear HF
    go_wp2_with fail
    go_ret
    exact ⟨ret_i HR.out, rfl⟩
/-- The order of two ways. -/
def nodesC (c : Chc) : List Int := c.ex.node :: c.R.map Hp.dst
def chCmp (a b : Chc) : Int := orI [cmpR a.len b.len, cmpL (nodesC a) (nodesC b)]
abbrev ChM.v (x : ChM) : Value := .agg #[.bool (zs x.c.len.num), .string (zx x.c.len.num), .bool false, .string (ry x.c.len.den), x.vn, x.vr, .int .i64 x.c.rl, .int .i64 x.c.ex.node, .bool (zs x.c.ex.len.num), .string (zx x.c.ex.len.num), .bool false, .string (ry x.c.ex.len.den), .int .i64 x.c.en.node, .bool (zs x.c.en.len.num), .string (zx x.c.en.len.num), .bool false, .string (ry x.c.en.len.den)]
set_option maxHeartbeats 2000000 in
theorem chCmp_q (a b : ChM) (w : World) (ha : Sl w.heap.size w 1 a.vn ((nodesC a.c).map i1)) (hb : Sl w.heap.size w 1 b.vn ((nodesC b.c).map i1)) (hva : ∃ s n c, a.vr = .slice s n c) (hvb : ∃ s n c, b.vr = .slice s n c) (h1 : Sm a.c.len) (h2 : Sm b.c.len) (h3 : (nodesC a.c).length ≤ 1000000) (h4 : (nodesC b.c).length ≤ 1000000) :
  Calls Tryz.prog 46 #[a.v, b.v] w fun e w' => e = .returned (.int .i64 (chCmp a.c b.c)) ∧ Below w.heap.size w w' := by
 obtain ⟨sa, na, ka, hvra⟩ := hva
 obtain ⟨sb, nb, kb, hvrb⟩ := hvb
 obtain ⟨⟨al, aR, arl, aex, aen⟩, avn, avr⟩ := a
 obtain ⟨⟨bl, bR, brl, bex, ben⟩, bvn, bvr⟩ := b
 simp only at hvra hvrb h1 h2 ha hb
 subst hvra hvrb
 have HQ := Lib.hid (fun w' => compare_q al bl w' h1 h2)
 have HS : Hid (∀ (w' : World) [Bw w w'], Calls Tryz.prog 48 #[avn, bvn] w' fun e w2 => e = .returned (.int .i64 (cmpL (nodesC ⟨al, aR, arl, aex, aen⟩) (nodesC ⟨bl, bR, brl, bex, ben⟩))) ∧ w' = w2) :=
  Lib.hid (fun w' hw => sliceCmp_q _ _ avn bvn w' (ha.later hw.b) (hb.later hw.b) h3 h4)
 obtain ⟨sx, nx, kx, rfl, _⟩ := ha.open
 obtain ⟨sy, ny, ky, rfl, _⟩ := hb.open
 unfold chCmp
 simp only
 generalize cmpR al bl = x at *
 generalize cmpL (nodesC ⟨al, aR, arl, aex, aen⟩) (nodesC ⟨bl, bR, brl, bex, ben⟩) = y at *
 simp only [rV] at HQ
 clear h1 h2 h3 h4 ha hb
 go_enter Tryz.func46, Tryz.ntmps46
 go_wp2_with fail
 refine wp_jtail 12 (by kernel_rfl) (by kernel_rfl) ?_
 simp only [List.take_succ_cons, List.take_zero, List.drop_succ_cons, List.drop_zero]
 repeat (go_big_quiet_step (first | (first | (with_reducible exact jq (HQ.out _)) | (with_reducible exact jq0 (HS.out _))) | fail))
 refine wpQuiet_nil ?_
 rintro _ ⟨X, rfl⟩
 go_wp2_with (go_at_call 47; refine (or_any [x, y] _ 2 _ _ rfl (by decide) (by intro i hi; rcases i with _ | _ | i <;> first | (simp [go_sem]; done) | omega)).mono ?_; rintro e w' ⟨rfl, rfl⟩)
 go_ret
 exact ⟨rfl, Bw.b⟩
end Go.Proofs.YtcelpkbmcmnogaaGreatDoor
namespace Go.Proofs.YtcelpkbmcmnogaaGreatDoor
open Go Go.RowKit Go.Vi
attribute [local go_sem ↓] lo_lt lo_ne lo_ne'
attribute [local go_sem] junk_cell junk_frozen junk_setCell junk_drew drew_junk
/-- A choice's cells, as one word. -/
def rc (m : ChM) : Array Value := (ChM.cs m).toArray
theorem rc_size (m : ChM) : (rc m).size = 17 := by simp [rc, ChM.cs]
def ChOne (m : ChM) : Prop := (rc m).all (·.oneCell') = true
theorem uChT : Tryz.prog.underlying 117 = some (.struct (Tryz.prog.fieldsOf 117)) := by kernel_rfl
theorem iChT : (Tryz.prog.info? 117).map (·.size) = some 17 := by kernel_rfl
attribute [local go_sem] rc_size rowN_alloc_at rowN_alloc rowN_junk rowN_drew rowN_drewN setRow_alloc_at setRow_alloc setRow_junk setRow_drew
theorem ld_at {B : Nat} {w : World} {a : Option Addr} {n cap : Nat} {L : List ChM} (h : Sl B w 17 (.slice a n cap) (L.map ChM.cs)) (hB : B ≤ w.heap.size) (i : Nat) (hi : i < L.length) :
  ∃ b off, a = some ⟨b, off, none⟩ ∧ b < B ∧ ∀ (w' : World) [Bw w w'], (loadVar 117 ⟨b, off + i * 17, none⟩).run Tryz.prog w' = .ok (.agg (rc L[i]!)) w' := by
 obtain ⟨b, off, h1, h2, h3⟩ := h.cells (cs := ChM.cs) i hi
 refine ⟨b, off, h1, h2, fun w' hw => ?_⟩
 exact run_loadVar_mid w' b (off + i * 17) 117 (ChM.cs L[i]!) _ (fun j v hj => by
  rw [hw.b.cell (p := ⟨b, _, none⟩) (Nat.lt_of_lt_of_le h2 hB)]
  exact h3 i hi j v hj) uChT rfl iChT
/-- The least of the ways so far and one more. -/
def leastS (acc : Option ChM) (x : ChM) : Option ChM := match acc with
 | none => some x
 | some b => if chCmp x.c b.c < 0 then some x else some b
def leastM (M : List ChM) : Option ChM := M.foldl leastS none
def zM : ChM := ⟨⟨0, [], 0, ⟨0, 0⟩, ⟨0, 0⟩⟩, .slice none 0 0, .slice none 0 0⟩
theorem rc_zM : rc zM = #[.bool false, .string ⟨#[]⟩, .bool false, .string ⟨#[]⟩, .slice none 0 0, .slice none 0 0, .int .i64 0, .int .i64 0, .bool false, .string ⟨#[]⟩, .bool false, .string ⟨#[]⟩, .int .i64 0, .bool false, .string ⟨#[]⟩, .bool false, .string ⟨#[]⟩] := by
 show (ChM.cs zM).toArray = _
 simp only [ChM.cs, zM, zc0, zc1, zc2]
theorem leastS_some (acc : Option ChM) (x : ChM) : ∃ m, leastS acc x = some m ∧ (m = x ∨ acc = some m) := by
 unfold leastS
 cases acc with
 | none => exact ⟨x, rfl, .inl rfl⟩
 | some b =>
  simp only
  split
  ·exact ⟨x, rfl, .inl rfl⟩
  ·exact ⟨b, rfl, .inr rfl⟩
/-- What a choice in memory asks. -/
structure ChGood (w : World) (m : ChM) : Prop where
 vn : Sl w.heap.size w 1 m.vn ((nodesC m.c).map i1)
 vr : ∃ s n c, m.vr = .slice s n c
 len : Sm m.c.len
 few : (nodesC m.c).length ≤ 1000000
theorem ChGood.later {w w' : World} {m : ChM} (h : ChGood w m) (hb : Below w.heap.size w w') : ChGood w' m := ⟨h.vn.later hb, h.vr, h.len, h.few⟩
theorem ChGood.one {w : World} {m : ChM} (h : ChGood w m) : ChOne m := by
 obtain ⟨_, _, _, e1, _⟩ := h.vn.open
 obtain ⟨_, _, _, e2⟩ := h.vr
 refine Array.all_eq_true_iff_forall_mem.2 (fun u hu => ?_)
 have hu : u ∈ ChM.cs m := by simpa [rc] using hu
 simp only [ChM.cs, List.mem_cons, List.mem_nil_iff, or_false] at hu
 rcases hu with h | h | h | h | h | h | h | h | h | h | h | h | h | h | h | h | h <;> rw [h] <;> first | rfl | (rw [e1]; rfl) | (rw [e2]; rfl)
theorem one_zM : ChOne zM := by unfold ChOne; rw [rc_zM]; simp [Value.oneCell']
set_option maxRecDepth 100000 in
set_option maxHeartbeats 2000000 in
theorem least_q (M : List ChM) (v : Value) (w : World) (hv : Sl w.heap.size w 17 v (M.map ChM.cs)) (hg : ∀ m ∈ M, ChGood w m) (hl : M.length ≤ 1000000) :
  Calls Tryz.prog 44 #[v, .func (.func 46) #[] #[]] w fun e w' => e = .returned (.tuple #[.agg (rc ((leastM M).getD zM)), .bool (leastM M).isSome]) ∧ Below w.heap.size w w' := by
 obtain ⟨a1, n1, c1, rfl, hn1, hk1, hm1⟩ := hv.open
 rw [List.length_map] at hn1
 have HV := Lib.hid hv
 have H1 := Lib.hid hn1
 have HG := Lib.hid hg
 have hb1 : n1 ≤ 1000000 := by rw [← hn1]; exact hl
 obtain ⟨out, hout⟩ : ∃ o, leastM M = o := ⟨_, rfl⟩
 rw [hout]
 have HT := Lib.hid hout
 clear hv hl hn1 hm1 hout hg
 go_enter Tryz.func44, Tryz.ntmps44
 go_wp2_with fail
 go_loopw [11] (fun s11 wr => ∃ (k : Nat) (acc : Option ChM) (m : ChM), s11 = .int .i64 k ∧ k ≤ n1 ∧ Hid ((M.take k).foldl leastS none = acc) ∧ Hid (acc.getD zM = m) ∧ Hid (0 < k → acc = some m ∧ m ∈ M) ∧ ∃ U, wr = ((w.alloc (.cells #[.bool false, .string ⟨#[]⟩, .bool false, .string ⟨#[]⟩, .slice none 0 0, .slice none 0 0, .int .i64 0, .int .i64 0, .bool false, .string ⟨#[]⟩, .bool false, .string ⟨#[]⟩, .int .i64 0, .bool false, .string ⟨#[]⟩, .bool false, .string ⟨#[]⟩] 117)).alloc (.cells (rc m) 117)).junk U) (fun s11 _ => n1 - (intOf s11).toNat)
 case atStart =>
  refine ⟨0, none, zM, rfl, Nat.zero_le _, Lib.hid rfl, Lib.hid rfl, Lib.hid (fun h => by omega), ?_⟩
  rw [rc_zM]
  with_reducible exact ex_junk
 case round =>
  obtain ⟨k, acc, m, rfl, hk, HF, HA, HM, U, rfl⟩ := hrel
  by_cases hlt : k < n1
  ·have hkl : k < M.length := by rw [H1.out]; exact hlt
   obtain ⟨b, off, rfl, hb, d⟩ := ld_at HV.out (Nat.le_refl _) k hkl
   have HMX : Hid (M[k]! ∈ M) := Lib.hid (by rw [getElem!_pos M k hkl]; exact List.getElem_mem hkl)
   have HX := Lib.hid (take_one leastS none M hkl)
   rw [HF.out] at HX
   have HGX := Lib.hid (HG.out _ HMX.out)
   generalize M[k]! = x at d HMX HX HGX
   have hone : ChOne x := HGX.out.one
   by_cases h0 : k = 0
   ·subst h0
    have hac : acc = none := by rw [← HF.out]; rfl
    subst hac
    have HX2 : Hid (List.foldl leastS none (List.take (0 + 1) M) = some x) := Lib.hid HX.out
    have HM2 : Hid (0 < 0 + 1 → some x = some x ∧ x ∈ M) := Lib.hid (fun _ => ⟨rfl, HMX.out⟩)
    simp only [Nat.zero_mul, Nat.add_zero] at d
    clear HX HF HA HM
    go_wp2_with (first | (refine wl_mid (op := ⟨some 15, .load _ (.tmp 14), _, _, _, _⟩) (by rfl) _ rfl _ _ (by rfl) _ (d _) ?_) | (refine wl_store (op := ⟨none, .store _ (.tmp 8) (.tmp 15), _, _, _, _⟩) (by rfl) _ _ rfl iChT _ (by rfl) (rc x) (by rfl) (by simp [go_sem]) rfl hone ?_) | (refine wl_load (op := ⟨some 20, .load _ (.tmp 8), _, _, _, _⟩) (by rfl) _ rfl uChT rfl iChT _ (by rfl) (rc x) (by simp [go_sem]) ?_) | (refine wl_load (op := ⟨some 21, .load _ (.tmp 6), _, _, _, _⟩) (by rfl) _ rfl uChT rfl iChT _ (by rfl) (rc m) (by simp [go_sem]) ?_) | (refine wl_load (op := ⟨some 25, .load _ (.tmp 8), _, _, _, _⟩) (by rfl) _ rfl uChT rfl iChT _ (by rfl) (rc x) (by simp [go_sem]) ?_) | (refine wl_store (op := ⟨none, .store _ (.tmp 6) (.tmp 25), _, _, _, _⟩) (by rfl) _ _ rfl iChT _ (by rfl) (rc x) (by rfl) (by simp [go_sem]) rfl hone ?_) | fail)
    go_roundw
    case rel =>
     refine ⟨0 + 1, _, x, by go_num, by omega, HX2, Lib.hid rfl, HM2, ?_⟩
     with_reducible exact ex_junk
    case measure => simp [intOf]; omega
   ·obtain ⟨hac, hmm⟩ := HM.out (by omega)
    subst hac
    have HGM := Lib.hid (HG.out _ hmm)
    have HMM := Lib.hid hmm
    have HC : Hid (∀ (w' : World) [Bw w w'], Calls Tryz.prog 46 #[.agg (rc x), .agg (rc m)] w' fun e w2 => e = .returned (.int .i64 (chCmp x.c m.c)) ∧ Below w'.heap.size w' w2) :=
     Lib.hid (fun w' hw => chCmp_q x m w' (HGX.out.later hw.b).vn (HGM.out.later hw.b).vn HGX.out.vr HGM.out.vr HGX.out.len HGM.out.len HGX.out.few HGM.out.few)
    have hk0 : ((k : Int) == 0) = false := by simpa using h0
    have hst : leastS (some m) x = if chCmp x.c m.c < 0 then some x else some m := rfl
    rw [hst] at HX
    by_cases hc : chCmp x.c m.c < 0
    ·rw [if_pos hc] at HX
     generalize chCmp x.c m.c = c at HC hc
     clear hst HF HA HM h0 hmm
     go_wp2_with (first | (refine wl_mid (op := ⟨some 15, .load _ (.tmp 14), _, _, _, _⟩) (by rfl) _ rfl _ _ (by rfl) _ (d _) ?_) | (refine wl_store (op := ⟨none, .store _ (.tmp 8) (.tmp 15), _, _, _, _⟩) (by rfl) _ _ rfl iChT _ (by rfl) (rc x) (by rfl) (by simp [go_sem]) rfl hone ?_) | (refine wl_load (op := ⟨some 20, .load _ (.tmp 8), _, _, _, _⟩) (by rfl) _ rfl uChT rfl iChT _ (by rfl) (rc x) (by simp [go_sem]) ?_) | (refine wl_load (op := ⟨some 21, .load _ (.tmp 6), _, _, _, _⟩) (by rfl) _ rfl uChT rfl iChT _ (by rfl) (rc m) (by simp [go_sem]) ?_) | (refine wl_load (op := ⟨some 25, .load _ (.tmp 8), _, _, _, _⟩) (by rfl) _ rfl uChT rfl iChT _ (by rfl) (rc x) (by simp [go_sem]) ?_) | (refine wl_store (op := ⟨none, .store _ (.tmp 6) (.tmp 25), _, _, _, _⟩) (by rfl) _ _ rfl iChT _ (by rfl) (rc x) (by rfl) (by simp [go_sem]) rfl hone ?_) | fail)
     refine (jk (HC.out _)).mono ?_
     rintro e _ ⟨rfl, V1, rfl⟩
     go_wp2_with (first | (refine wl_mid (op := ⟨some 15, .load _ (.tmp 14), _, _, _, _⟩) (by rfl) _ rfl _ _ (by rfl) _ (d _) ?_) | (refine wl_store (op := ⟨none, .store _ (.tmp 8) (.tmp 15), _, _, _, _⟩) (by rfl) _ _ rfl iChT _ (by rfl) (rc x) (by rfl) (by simp [go_sem]) rfl hone ?_) | (refine wl_load (op := ⟨some 20, .load _ (.tmp 8), _, _, _, _⟩) (by rfl) _ rfl uChT rfl iChT _ (by rfl) (rc x) (by simp [go_sem]) ?_) | (refine wl_load (op := ⟨some 21, .load _ (.tmp 6), _, _, _, _⟩) (by rfl) _ rfl uChT rfl iChT _ (by rfl) (rc m) (by simp [go_sem]) ?_) | (refine wl_load (op := ⟨some 25, .load _ (.tmp 8), _, _, _, _⟩) (by rfl) _ rfl uChT rfl iChT _ (by rfl) (rc x) (by simp [go_sem]) ?_) | (refine wl_store (op := ⟨none, .store _ (.tmp 6) (.tmp 25), _, _, _, _⟩) (by rfl) _ _ rfl iChT _ (by rfl) (rc x) (by rfl) (by simp [go_sem]) rfl hone ?_) | fail)
     go_roundw
     case rel =>
      refine ⟨k + 1, _, x, by go_num, by omega, HX, Lib.hid rfl, Lib.hid (fun _ => ⟨rfl, HMX.out⟩), ?_⟩
      with_reducible exact ex_junk
     case measure => simp [intOf]; omega
    ·rw [if_neg hc] at HX
     have hc2 : 0 ≤ chCmp x.c m.c := by omega
     generalize chCmp x.c m.c = c at HC hc2
     clear hst HF HA HM h0 hmm hc
     go_wp2_with (first | (refine wl_mid (op := ⟨some 15, .load _ (.tmp 14), _, _, _, _⟩) (by rfl) _ rfl _ _ (by rfl) _ (d _) ?_) | (refine wl_store (op := ⟨none, .store _ (.tmp 8) (.tmp 15), _, _, _, _⟩) (by rfl) _ _ rfl iChT _ (by rfl) (rc x) (by rfl) (by simp [go_sem]) rfl hone ?_) | (refine wl_load (op := ⟨some 20, .load _ (.tmp 8), _, _, _, _⟩) (by rfl) _ rfl uChT rfl iChT _ (by rfl) (rc x) (by simp [go_sem]) ?_) | (refine wl_load (op := ⟨some 21, .load _ (.tmp 6), _, _, _, _⟩) (by rfl) _ rfl uChT rfl iChT _ (by rfl) (rc m) (by simp [go_sem]) ?_) | (refine wl_load (op := ⟨some 25, .load _ (.tmp 8), _, _, _, _⟩) (by rfl) _ rfl uChT rfl iChT _ (by rfl) (rc x) (by simp [go_sem]) ?_) | (refine wl_store (op := ⟨none, .store _ (.tmp 6) (.tmp 25), _, _, _, _⟩) (by rfl) _ _ rfl iChT _ (by rfl) (rc x) (by rfl) (by simp [go_sem]) rfl hone ?_) | fail)
     refine (jk (HC.out _)).mono ?_
     rintro e _ ⟨rfl, V1, rfl⟩
     go_wp2_with (first | (refine wl_mid (op := ⟨some 15, .load _ (.tmp 14), _, _, _, _⟩) (by rfl) _ rfl _ _ (by rfl) _ (d _) ?_) | (refine wl_store (op := ⟨none, .store _ (.tmp 8) (.tmp 15), _, _, _, _⟩) (by rfl) _ _ rfl iChT _ (by rfl) (rc x) (by rfl) (by simp [go_sem]) rfl hone ?_) | (refine wl_load (op := ⟨some 20, .load _ (.tmp 8), _, _, _, _⟩) (by rfl) _ rfl uChT rfl iChT _ (by rfl) (rc x) (by simp [go_sem]) ?_) | (refine wl_load (op := ⟨some 21, .load _ (.tmp 6), _, _, _, _⟩) (by rfl) _ rfl uChT rfl iChT _ (by rfl) (rc m) (by simp [go_sem]) ?_) | (refine wl_load (op := ⟨some 25, .load _ (.tmp 8), _, _, _, _⟩) (by rfl) _ rfl uChT rfl iChT _ (by rfl) (rc x) (by simp [go_sem]) ?_) | (refine wl_store (op := ⟨none, .store _ (.tmp 6) (.tmp 25), _, _, _, _⟩) (by rfl) _ _ rfl iChT _ (by rfl) (rc x) (by rfl) (by simp [go_sem]) rfl hone ?_) | fail)
     go_roundw
     case rel =>
      refine ⟨k + 1, _, m, by go_num, by omega, HX, Lib.hid rfl, Lib.hid (fun _ => ⟨rfl, HMM.out⟩), ?_⟩
      with_reducible exact ex_junk
     case measure => simp [intOf]; omega
  ·obtain rfl : k = n1 := by omega
   have HR : Hid (acc = out) := Lib.hid (by rw [← HT.out, ← HF.out, List.take_of_length_le (by rw [H1.out]; exact Nat.le_refl _)]; rfl)
   have HRM : Hid (out.getD zM = m) := Lib.hid (by rw [← HR.out]; exact HA.out)
   have HRS : Hid (decide ((0 : Int) < k) = out.isSome) := Lib.hid (by
    rw [← HR.out]
    by_cases h0 : k = 0
    ·subst h0
     have : acc = none := by rw [← HF.out]; rfl
     rw [this]; rfl
    ·rw [(HM.out (by omega)).1]; simp; omega)
   have hone : ChOne m := by
    by_cases h0 : k = 0
    ·have hac : acc = none := by rw [← HF.out, h0]; rfl
     have hmz : m = zM := by rw [← HA.out, hac]; rfl
     rw [hmz]; exact one_zM
    ·exact (HG.out _ (HM.out (by omega)).2).one
   clear HF HA HM
   go_wp2_with (first | (refine wl_load (op := ⟨some 27, .load _ (.tmp 6), _, _, _, _⟩) (by rfl) _ rfl uChT rfl iChT _ (by rfl) (rc m) (by simp [go_sem]) ?_) | (refine wl_store (op := ⟨none, .store _ (.tmp 4) (.tmp 27), _, _, _, _⟩) (by rfl) _ _ rfl iChT _ (by rfl) (rc m) (by rfl) (by simp [go_sem]) rfl hone ?_) | fail)
   exact bodyPost_ret (v := .tuple #[.agg (rc m), .bool (decide ((0 : Int) < k))]) (by simp [results, Tryz.results44, go_sem, loadVar_row uChT rfl iChT]; rfl) rfl ⟨by rw [HRM.out, ← HRS.out], Bw.b⟩
end Go.Proofs.YtcelpkbmcmnogaaGreatDoor
