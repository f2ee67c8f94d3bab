/-
 Ways over nodes, exactly: FindRoute by its value, choices.
-/
import Derived.Test.YtcelpkbmcmnogaaGreatDoorEndA
import Derived.Test.YtcelpkbmcmnogaaGreatDoorFindW
import Derived.Deep.CutBlock
import Derived.Deep.CutRange
import Derived.Deep.DeepCutAuto
set_option linter.unusedSimpArgs false
set_option linter.unusedVariables false
namespace Go.Proofs.YtcelpkbmcmnogaaGreatDoor
open Go Go.RowKit Go.Vi
attribute [local go_sem ↓] lo_lt lo_ne lo_ne'
attribute [local go_sem] junk_cell junk_frozen junk_setCell junk_drew drew_junk
/-- The routes of a network, as a function. -/
def RtOf (n : Net) (rt : Int → Int → Option (List Hp × Int)) : Prop := ∀ a b R l, rt a b = some (R, l) ↔ IsRoute n a b R l
/-- A route's two slices in memory. -/
def RtM (B : Nat) (w : World) (vn vr : Value) (a : Int) (R : List Hp) : Prop := Ow B w 3 1 vn ((a :: R.map Hp.dst).map i1) ∧ Ow B w 3 1 vr ((R.map Hp.road).map i1)
theorem RtM.keep {B : Nat} {w w' : World} {vn vr : Value} {a : Int} {R : List Hp} (h : RtM B w vn vr a R) (hb : Below w.heap.size w w') : RtM B w' vn vr a R := ⟨h.1.keep hb, h.2.keep hb⟩
theorem RtM.mono {B B' : Nat} {w : World} {vn vr : Value} {a : Int} {R : List Hp} (h : RtM B w vn vr a R) (hb : B' ≤ B) : RtM B' w vn vr a R := ⟨h.1.mono hb, h.2.mono hb⟩
theorem RtM.kept {B k : Nat} {e : TypeId} {w w' : World} {v vn vr : Value} {a : Int} {R : List Hp} {A : List (List Value)} (h : RtM B w vn vr a R) (ho : Ow B w e k v A) (he : e ≠ 3) (hg : w.grownBy w' v.ownBlock) : RtM B w' vn vr a R :=
 ⟨h.1.kept hg (rows_apart ho h.1 he), h.2.kept hg (rows_apart ho h.2 he)⟩
/-- What FindRoute hands back where there is a route. -/
def FrOut (a : Int) (R : List Hp) (l : Int) (w : World) (e : Ending) (w' : World) : Prop := ∃ vn vr, e = .returned (.tuple #[.agg #[vn, vr, .int .i64 l], .int .i64 0]) ∧ RtM w.heap.size w' vn vr a R ∧ Below w.heap.size w w'
theorem findRoute_some (n : Net) (rt : Int → Int → Option (List Hp × Int)) (hrt : RtOf n rt) (a b : Int) (R : List Hp) (l : Int) (v1 v2 : Value) (w : World) (hN : NetAt w.heap.size w v1 v2 n) (hK : NetOK n) (hsz : n.roads.length ≤ 100) (h : rt a b = some (R, l)) :
  Calls Tryz.prog 14 #[.agg #[v1, v2], .int .i64 a, .int .i64 b] w (FrOut a R l w) := by
 have hR := (hrt a b R l).1 h
 refine (findRoute_any n a b v1 v2 w hN hK hsz).mono ?_
 rintro e w' ⟨h | ⟨c, _, _, hno⟩, hb⟩
 ·obtain ⟨R', l', vn, vr, he, hR', _, _, h1, h2⟩ := h
  obtain ⟨e1, e2⟩ := hR'.unique hR
  subst e1; subst e2
  exact ⟨vn, vr, he, ⟨h1, h2⟩, hb⟩
 ·exact absurd hR (hno _ _)
theorem findRoute_none (n : Net) (rt : Int → Int → Option (List Hp × Int)) (hrt : RtOf n rt) (a b : Int) (v1 v2 : Value) (w : World) (hN : NetAt w.heap.size w v1 v2 n) (hK : NetOK n) (hsz : n.roads.length ≤ 100) (h : rt a b = none) :
  Calls Tryz.prog 14 #[.agg #[v1, v2], .int .i64 a, .int .i64 b] w fun e w' => e = .returned (.tuple #[.agg #[.slice none 0 0, .slice none 0 0, .int .i64 0], .int .i64 (routeErr n a b)]) ∧ Below w.heap.size w w' := by
 refine (findRoute_any n a b v1 v2 w hN hK hsz).mono ?_
 rintro e w' ⟨h2 | ⟨c, he, rfl, hno⟩, hb⟩
 ·obtain ⟨R', l', vn, vr, he, hR', _⟩ := h2
  rw [(hrt a b R' l').2 hR'] at h
  cases h
 ·exact ⟨he, hb⟩
/-- A way over two nodes. -/
structure Chc where (len : Rat) (R : List Hp) (rl : Int) (ex en : Ed)
instance : Inhabited Chc := ⟨⟨0, [], 0, default, default⟩⟩
structure ChM where (c : Chc) (vn vr : Value)
instance : Inhabited ChM := ⟨⟨default, .bool false, .bool false⟩⟩
def ChM.cs (x : ChM) : List Value := [.bool (zs x.c.len.num), .string (zx x.c.len.num), .bool false, .string (ry x.c.len.den), x.vn, x.vr, .int .i64 x.c.rl, .int .i64 x.c.ex.node, .bool (zs x.c.ex.len.num), .string (zx x.c.ex.len.num), .bool false, .string (ry x.c.ex.len.den), .int .i64 x.c.en.node, .bool (zs x.c.en.len.num), .string (zx x.c.en.len.num), .bool false, .string (ry x.c.en.len.den)]
def chcOf (rt : Int → Int → Option (List Hp × Int)) (a b : Ed) : Option Chc := match rt a.node b.node with
 | none => none
 | some (R, l) => some ⟨a.len + b.len + (l : Rat), R, l, a, b⟩
def choicesN (rt : Int → Int → Option (List Hp × Int)) (X Y : List Ed) : List Chc := X.flatMap fun a => Y.filterMap (chcOf rt a)
/-- The choices in memory. -/
def ChOk (B : Nat) (w : World) (v : Value) (L : List ChM) : Prop := Ow B w 117 17 v (L.map ChM.cs) ∧ ∀ m ∈ L, RtM B w m.vn m.vr m.c.ex.node m.c.R
theorem ChOk.keep {B : Nat} {w w' : World} {v : Value} {L : List ChM} (h : ChOk B w v L) (hb : Below w.heap.size w w') : ChOk B w' v L := ⟨h.1.keep hb, fun m hm => (h.2 m hm).keep hb⟩
theorem uChc : Tryz.prog.underlying 120 = some (.slice 117) := by kernel_rfl
theorem iChc : (Tryz.prog.info? 117).map (fun i => (i.zero, i.size, i.bytes)) = some (some (.agg #[.bool false, .string ⟨#[]⟩, .bool false, .string ⟨#[]⟩, .slice none 0 0, .slice none 0 0, .int .i64 0, .int .i64 0, .bool false, .string ⟨#[]⟩, .bool false, .string ⟨#[]⟩, .int .i64 0, .bool false, .string ⟨#[]⟩, .bool false, .string ⟨#[]⟩]), 17, 216) := by kernel_rfl
theorem chm_one {B : Nat} {w : World} {m : ChM} {a : Int} {R : List Hp} (h : RtM B w m.vn m.vr a R) : ∀ u ∈ m.cs, u.oneCell' = true := by
 intro u hu
 obtain ⟨_, _, _, e1⟩ := h.1.val
 obtain ⟨_, _, _, e2⟩ := h.2.val
 simp only [ChM.cs, List.mem_cons, List.mem_nil_iff, or_false] at hu
 rcases hu with h | h | h | h | h | h | h | h | h | h | h | h | h | h | h | h | h <;> rw [h] <;> first | rfl | (rw [e1]; rfl) | (rw [e2]; rfl)
theorem ed_cells {B : Nat} {w : World} {a : Option Addr} {n cap : Nat} {L : List Ed} (h : Sl B w 5 (.slice a n cap) (L.map Ed.cs)) (i : Nat) (hi : i < L.length) :
  ∃ b off, a = some ⟨b, off, none⟩ ∧ b < B ∧ w.cell? ⟨b, off + i * 5, none⟩ = some (.int .i64 L[i]!.node) ∧ w.cell? ⟨b, off + i * 5 + 1, none⟩ = some (.bool (zs L[i]!.len.num)) ∧ w.cell? ⟨b, off + i * 5 + 2, none⟩ = some (.string (zx L[i]!.len.num)) ∧ w.cell? ⟨b, off + i * 5 + 3, none⟩ = some (.bool false) ∧ w.cell? ⟨b, off + i * 5 + 4, none⟩ = some (.string (ry L[i]!.len.den)) := by
 obtain ⟨b, off, h1, h2, h3⟩ := h.cells (cs := Ed.cs) i hi
 exact ⟨b, off, h1, h2, h3 i hi 0 _ rfl, h3 i hi 1 _ rfl, h3 i hi 2 _ rfl, h3 i hi 3 _ rfl, h3 i hi 4 _ rfl⟩
/-- The sums that choices makes are small. -/
def Fit (rt : Int → Int → Option (List Hp × Int)) (X Y : List Ed) : Prop := ∀ a ∈ X, ∀ b ∈ Y, Sm a.len ∧ Sm b.len ∧ Sm (a.len + b.len) ∧ ∀ R l, rt a.node b.node = some (R, l) → l.natAbs < 2147483648
def ChsOut (L : List Chc) (w : World) (e : Ending) (w' : World) : Prop := ∃ v M, e = .returned v ∧ M.map ChM.c = L ∧ ChOk w.heap.size w' v M ∧ Below w.heap.size w w'
set_option maxRecDepth 100000 in
set_option maxHeartbeats 4000000 in
theorem choices_q (n : Net) (rt : Int → Int → Option (List Hp × Int)) (hrt : RtOf n rt) (v1 v2 : Value) (p q : Plc) (w : World) (hN : NetAt w.heap.size w v1 v2 n) (hK : NetOK n) (hsz : n.roads.length ≤ 100) (hp : Sm p.off) (hq : Sm q.off)
  (hf : Fit rt (exitsN n p).1 (entriesN n q).1) (hx : (exitsN n p).1.length ≤ 2) (hy : (entriesN n q).1.length ≤ 2) :
  Calls Tryz.prog 45 #[.agg #[v1, v2], p.v, q.v] w (ChsOut (choicesN rt (exitsN n p).1 (entriesN n q).1) w) := by
 have HX : Hid (∀ (w' : World) [Bw w w'], Calls Tryz.prog 18 #[.agg #[v1, v2], p.v] w' (EndsOut (exitsN n p).1 (exitsN n p).2 w')) := Lib.hid (fun w' _ => exits_q n v1 v2 p w' (later_bw hN) hK hp)
 have HY : Hid (∀ (w' : World) [Bw w w'], Calls Tryz.prog 19 #[.agg #[v1, v2], q.v] w' (EndsOut (entriesN n q).1 (entriesN n q).2 w')) := Lib.hid (fun w' _ => entries_q n v1 v2 q w' (later_bw hN) hK hq)
 have HFS : Hid (∀ (a b : Int) (R : List Hp) (l : Int), rt a b = some (R, l) → ∀ (w' : World) [Bw w w'], Calls Tryz.prog 14 #[.agg #[v1, v2], .int .i64 a, .int .i64 b] w' (FrOut a R l w')) := Lib.hid (fun a b R l h w' _ => findRoute_some n rt hrt a b R l v1 v2 w' (later_bw hN) hK hsz h)
 have HFN : Hid (∀ (a b : Int), rt a b = none → ∀ (w' : World) [Bw w w'], Calls Tryz.prog 14 #[.agg #[v1, v2], .int .i64 a, .int .i64 b] w' fun e w2 => e = .returned (.tuple #[.agg #[.slice none 0 0, .slice none 0 0, .int .i64 0], .int .i64 (routeErr n a b)]) ∧ Below w'.heap.size w' w2) := Lib.hid (fun a b h w' _ => findRoute_none n rt hrt a b v1 v2 w' (later_bw hN) hK hsz h)
 have HFI := Lib.hid hf
 have HLX := Lib.hid hx
 have HLY := Lib.hid hy
 generalize (exitsN n p).1 = X at *
 generalize (exitsN n p).2 = cx at *
 generalize (entriesN n q).1 = Y at *
 generalize (entriesN n q).2 = cy at *
 obtain ⟨i0, hi, hz0, hz1, hz2⟩ := info_parts iChc
 unfold Plc.v at HX HY ⊢
 clear hrt hN hK hsz hp hq hf hx hy
 go_enter Tryz.func45, Tryz.ntmps45
 go_wp2_with fail
 refine (HX.out _).mono ?_
 rintro e w1 h1
 obtain ⟨v7, X1, rfl, rfl, ho7⟩ := h1.junk
 have HO7 := Lib.hid ho7.sl
 clear h1 ho7
 go_wp2_with fail
 refine (HY.out _).mono ?_
 rintro e w2 h2
 obtain ⟨v9, X2, rfl, rfl, ho9⟩ := h2.junk
 have HO9 := Lib.hid ho9.sl
 have HO7 := Lib.hid (HO7.out.later (junk_below _ X2))
 clear h2 ho9
 obtain ⟨W0, hW0⟩ : ∃ W0, W0 = (((((w.alloc (.cells #[v1, v2] 36)).alloc (.cells #[.int .i64 p.road, .bool (zs p.off.num), .string (zx p.off.num), .bool false, .string (ry p.off.den)] 43)).alloc (.cells #[.int .i64 q.road, .bool (zs q.off.num), .string (zx q.off.num), .bool false, .string (ry q.off.den)] 43)).junk X1).junk X2) := ⟨_, rfl⟩
 have c0 : W0.cell? ⟨w.heap.size, 0, none⟩ = some v1 := by rw [hW0]; simp [go_sem]
 have c1 : W0.cell? ⟨w.heap.size, 1, none⟩ = some v2 := by rw [hW0]; simp [go_sem]
 haveI l0 : Lo w.heap.size W0 := by rw [hW0]; infer_instance
 haveI bw : Bw w W0 := by rw [hW0]; infer_instance
 rw [← hW0] at HO7 HO9 ⊢
 clear hW0
 obtain ⟨a7, n7, k7, rfl, hn7, hk7, hm7⟩ := HO7.out.open
 obtain ⟨a9, n9, k9, rfl, hn9, hk9, hm9⟩ := HO9.out.open
 rw [List.length_map] at hn7 hn9
 have HN7 := Lib.hid hn7
 have HN9 := Lib.hid hn9
 have hb7 : n7 ≤ 2 := by rw [← hn7]; exact HLX.out
 have hb9 : n9 ≤ 2 := by rw [← hn9]; exact HLY.out
 clear hn7 hn9 hm7 hm9
 go_wp2_with fail
 go_loopw [11, 33] (fun s11 s33 wr => ∃ (k : Nat) (M : List ChM), s33 = .int .i64 k ∧ k ≤ n7 ∧ Hid (M.map ChM.c = choicesN rt (X.take k) Y) ∧ Hid (M.length ≤ k * 2) ∧ Hid (ChOk W0.heap.size wr s11 M) ∧ ∃ U, wr = W0.junk U) (fun _ s33 _ => n7 - (intOf s33).toNat)
 case atStart =>
  refine ⟨0, [], rfl, Nat.zero_le _, Lib.hid rfl, Lib.hid (Nat.le_refl _), Lib.hid ⟨Ow.nil _ _ _ _, fun m hm => by cases hm⟩, ?_⟩
  with_reducible exact ex_junk
 case round =>
  rename_i s11 s33 _
  obtain ⟨k, M, rfl, hk, HM, HML, HCH, U, rfl⟩ := hrel
  by_cases hlt : k < n7
  ·have hkl : k < X.length := by rw [HN7.out]; exact hlt
   obtain ⟨b, off, rfl, hb, d0, d1, d2, d3, d4⟩ := ed_cells HO7.out k hkl
   haveI : Lo b W0 := ⟨hb⟩
   have hmem : X[k]! ∈ X := by rw [getElem!_pos X k hkl]; exact List.getElem_mem hkl
   have HF2 := Lib.hid (HFI.out _ hmem)
   have HT : Hid (choicesN rt (X.take (k + 1)) Y = choicesN rt (X.take k) Y ++ Y.filterMap (chcOf rt X[k]!)) := Lib.hid (by
    unfold choicesN
    rw [List.take_succ_eq_append_getElem hkl, List.flatMap_append, getElem!_pos X k hkl]
    simp)
   generalize X[k]! = xa at d0 d1 d2 d3 d4 HF2 HT
   clear hmem
   obtain ⟨ao0, no0, co0, ho0⟩ := HCH.out.1.val
   subst ho0
   go_wp2_with fail
   have HCH4 := Lib.hid (HCH.out.keep ((Below.refl _ _).alloc (Nat.le_refl _) (.cells #[.int .i64 xa.node, .bool (zs xa.len.num), .string (zx xa.len.num), .bool false, .string (ry xa.len.den)] 83)))
   obtain ⟨b13, hb13⟩ : ∃ z, (W0.junk U).heap.size = z := ⟨_, rfl⟩
   have HB4 : Hid (((W0.junk U).alloc (.cells #[.int .i64 xa.node, .bool (zs xa.len.num), .string (zx xa.len.num), .bool false, .string (ry xa.len.den)] 83)).heap[b13]? = some (.cells #[.int .i64 xa.node, .bool (zs xa.len.num), .string (zx xa.len.num), .bool false, .string (ry xa.len.den)] 83 (0, 0))) := Lib.hid (by rw [← hb13]; exact obj_last _ _)
   rw [hb13]
   clear d0 d1 d2 d3 d4 HCH hb13
   go_loopw [11, 39] (fun s11 s39 wr => ∃ (j : Nat) (M' : List ChM), s39 = .int .i64 j ∧ j ≤ n9 ∧ Hid (M'.map ChM.c = M.map ChM.c ++ (Y.take j).filterMap (chcOf rt xa)) ∧ Hid (M'.length ≤ k * 2 + j) ∧ Hid (ChOk W0.heap.size wr s11 M') ∧ Hid (wr.heap[b13]? = some (.cells #[.int .i64 xa.node, .bool (zs xa.len.num), .string (zx xa.len.num), .bool false, .string (ry xa.len.den)] 83 (0, 0))) ∧ ∃ V, wr = W0.junk V) (fun _ s39 _ => n9 - (intOf s39).toNat)
   case atStart =>
    refine ⟨0, M, rfl, Nat.zero_le _, Lib.hid (by simp), HML, HCH4, HB4, ?_⟩
    with_reducible exact ex_junk
   case round =>
    rename_i s11' s39' _
    obtain ⟨j, M', rfl, hj, HM', HML', HCH', HB5, V, rfl⟩ := hrel
    have e0 := obj_cell HB5.out 0
    have e1 := obj_cell HB5.out 1
    have e2 := obj_cell HB5.out 2
    have e3 := obj_cell HB5.out 3
    have e4 := obj_cell HB5.out 4
    simp at e0 e1 e2 e3 e4
    haveI m1 : Lo b13 (W0.junk V) := ⟨obj_lt HB5.out⟩
    obtain ⟨ao, no, co, ho⟩ := HCH'.out.1.val
    subst ho
    by_cases hlt2 : j < n9
    ·have hjl : j < Y.length := by rw [HN9.out]; exact hlt2
     obtain ⟨b2, off2, rfl, hb2, g0, g1, g2, g3, g4⟩ := ed_cells HO9.out j hjl
     haveI : Lo b2 W0 := ⟨hb2⟩
     have hmem : Y[j]! ∈ Y := by rw [getElem!_pos Y j hjl]; exact List.getElem_mem hjl
     have HF3 := Lib.hid (HF2.out _ hmem)
     have HT2 : Hid ((Y.take (j + 1)).filterMap (chcOf rt xa) = (Y.take j).filterMap (chcOf rt xa) ++ (chcOf rt xa Y[j]!).toList) := Lib.hid (by
      rw [List.take_succ_eq_append_getElem hjl, List.filterMap_append, getElem!_pos Y j hjl]
      cases h : chcOf rt xa Y[j] <;> simp [h])
     generalize Y[j]! = yb at g0 g1 g2 g3 g4 HF3 HT2
     clear hmem
     cases hr : rt xa.node yb.node with
     | none =>
      have HFN2 := Lib.hid (HFN.out _ _ hr)
      have hc : chcOf rt xa yb = none := by simp only [chcOf, hr]
      rw [hc] at HT2
      have hre : routeErr n xa.node yb.node = 9 ∨ routeErr n xa.node yb.node = 31 := by unfold routeErr; split <;> simp
      have HM3 : Hid (M'.map ChM.c = M.map ChM.c ++ (Y.take (j + 1)).filterMap (chcOf rt xa)) := Lib.hid (by rw [HT2.out, HM'.out]; simp)
      generalize routeErr n xa.node yb.node = er at HFN2 hre
      clear hr hc HT2 HM'
      rcases hre with rfl | rfl
      all_goals
       go_wp2_with fail
       refine (jk (HFN2.out _)).mono ?_
       rintro e _ ⟨rfl, V1, rfl⟩
       go_wp2_with fail
       go_roundw
       case rel =>
        refine ⟨j + 1, M', by go_num, by omega, HM3, Lib.hid (by have := HML'.out; omega), Lib.hid (HCH'.out.keep Bw.b), Lib.hid (keepObj Bw.b HB5.out), ?_⟩
        with_reducible exact ex_junk
       case measure => simp [intOf]; omega
     | some Rl =>
      obtain ⟨R, l⟩ := Rl
      have HFS2 := Lib.hid (HFS.out _ _ _ _ hr)
      have hc : chcOf rt xa yb = some ⟨xa.len + yb.len + (l : Rat), R, l, xa, yb⟩ := by simp only [chcOf, hr]
      rw [hc] at HT2
      obtain ⟨hs1, hs2, hs3, hs4⟩ := HF3.out
      have hs5 := hs4 R l hr
      have HA1 := Lib.hid (fun w' => add_q xa.len yb.len w' hs1 hs2)
      have HA2 := Lib.hid (fun w' => fromInt_q l w' (by omega))
      have HA3 := Lib.hid (fun w' => add_q (xa.len + yb.len) (l : Rat) w' hs3 (sm_int hs5))
      clear hr hc hs1 hs2 hs3 hs4 hs5
      generalize hlen : xa.len + yb.len + (l : Rat) = len at HA3 HT2
      generalize xa.len + yb.len = s12 at HA1 HA3
      generalize (l : Rat) = lq at HA2 HA3
      clear hlen
      simp only [rV] at HA1 HA2 HA3
      go_wp2_with fail
      refine (HFS2.out _).mono ?_
      rintro e w5 ⟨vn, vr, rfl, hrt, hb5⟩
      obtain ⟨V1, rfl⟩ := below_some hb5
      obtain ⟨an, nn, cn, hvn⟩ := hrt.1.val
      obtain ⟨ar, nr, cr, hvr⟩ := hrt.2.val
      subst hvn hvr
      have HRT := Lib.hid (hrt.mono (B' := W0.heap.size) Bw.b.size)
      have HCH5 := Lib.hid (HCH'.out.keep (w' := _) (Bw.b.trans (hb5.mono Bw.b.size)))
      clear hrt hb5 HCH'
      go_upto_region 12 with fail
      obtain ⟨W6, hW6⟩ : ∃ W6, W6 = (((W0.junk V).alloc (.cells #[.int .i64 yb.node, .bool (zs yb.len.num), .string (zx yb.len.num), .bool false, .string (ry yb.len.den)] 83)).junk V1).alloc (.cells #[.slice an nn cn, .slice ar nr cr, .int .i64 l] 64) := ⟨_, rfl⟩
      have HRT6 : Hid (RtM W0.heap.size W6 (.slice an nn cn) (.slice ar nr cr) xa.node R) := Lib.hid (by rw [hW6]; exact HRT.out.keep Bw.b)
      have HCH6 : Hid (ChOk W0.heap.size W6 (.slice ao no co) M') := Lib.hid (by rw [hW6]; exact HCH5.out.keep Bw.b)
      have x0 : W6.cell? ⟨b13, 0, none⟩ = some (.int .i64 xa.node) := by rw [hW6]; simp [go_sem, e0]
      have x1 : W6.cell? ⟨b13, 1, none⟩ = some (.bool (zs xa.len.num)) := by rw [hW6]; simp [go_sem, e1]
      have x2 : W6.cell? ⟨b13, 2, none⟩ = some (.string (zx xa.len.num)) := by rw [hW6]; simp [go_sem, e2]
      have x3 : W6.cell? ⟨b13, 3, none⟩ = some (.bool false) := by rw [hW6]; simp [go_sem, e3]
      have x4 : W6.cell? ⟨b13, 4, none⟩ = some (.string (ry xa.len.den)) := by rw [hW6]; simp [go_sem, e4]
      have y0 : W6.cell? ⟨(W0.junk V).heap.size, 0, none⟩ = some (.int .i64 yb.node) := by rw [hW6]; simp [go_sem]
      have y1 : W6.cell? ⟨(W0.junk V).heap.size, 1, none⟩ = some (.bool (zs yb.len.num)) := by rw [hW6]; simp [go_sem]
      have y2 : W6.cell? ⟨(W0.junk V).heap.size, 2, none⟩ = some (.string (zx yb.len.num)) := by rw [hW6]; simp [go_sem]
      have y3 : W6.cell? ⟨(W0.junk V).heap.size, 3, none⟩ = some (.bool false) := by rw [hW6]; simp [go_sem]
      have y4 : W6.cell? ⟨(W0.junk V).heap.size, 4, none⟩ = some (.string (ry yb.len.den)) := by rw [hW6]; simp [go_sem]
      have z0 : W6.cell? ⟨(((W0.junk V).alloc (.cells #[.int .i64 yb.node, .bool (zs yb.len.num), .string (zx yb.len.num), .bool false, .string (ry yb.len.den)] 83)).junk V1).heap.size, 0, none⟩ = some (.slice an nn cn) := by rw [hW6]; simp [go_sem]
      have z1 : W6.cell? ⟨(((W0.junk V).alloc (.cells #[.int .i64 yb.node, .bool (zs yb.len.num), .string (zx yb.len.num), .bool false, .string (ry yb.len.den)] 83)).junk V1).heap.size, 1, none⟩ = some (.slice ar nr cr) := by rw [hW6]; simp [go_sem]
      have z2 : W6.cell? ⟨(((W0.junk V).alloc (.cells #[.int .i64 yb.node, .bool (zs yb.len.num), .string (zx yb.len.num), .bool false, .string (ry yb.len.den)] 83)).junk V1).heap.size, 2, none⟩ = some (.int .i64 l) := by rw [hW6]; simp [go_sem]
      have HB6 : Hid (W6.heap[b13]? = some (.cells #[.int .i64 xa.node, .bool (zs xa.len.num), .string (zx xa.len.num), .bool false, .string (ry xa.len.den)] 83 (0, 0))) := Lib.hid (by rw [hW6]; exact keepObj Bw.b HB5.out)
      haveI n1 : Lo b13 W6 := by rw [hW6]; infer_instance
      haveI m2 : Lo (W0.junk V).heap.size W6 := by rw [hW6]; infer_instance
      haveI m3 : Lo (((W0.junk V).alloc (.cells #[.int .i64 yb.node, .bool (zs yb.len.num), .string (zx yb.len.num), .bool false, .string (ry yb.len.den)] 83)).junk V1).heap.size W6 := by rw [hW6]; infer_instance
      haveI bw7 : Bw W0 W6 := by rw [hW6]; infer_instance
      rw [← hW6]
      clear hW6 HRT HCH5
      generalize (((W0.junk V).alloc (.cells #[.int .i64 yb.node, .bool (zs yb.len.num), .string (zx yb.len.num), .bool false, .string (ry yb.len.den)] 83)).junk V1).heap.size = b16 at *
      generalize (W0.junk V).heap.size = b15 at *
      clear g0 g1 g2 g3 g4 e0 e1 e2 e3 e4
      go_cut [18] (fun s18 wx => ∃ bl : Nat, s18 = .pointer (some ⟨bl, 0, none⟩) ∧ Hid (wx.heap[bl]? = some (.cells #[.bool (zs len.num), .string (zx len.num), .bool false, .string (ry len.den)] 41 (0, 0))) ∧ ∃ U, wx = W6.junk U)
      case first =>
       go_region_held3 (fun w' => w'.cell? ⟨b13, 1, none⟩ = some (.bool (zs xa.len.num)) ∧ w'.cell? ⟨b13, 2, none⟩ = some (.string (zx xa.len.num)) ∧ w'.cell? ⟨b13, 3, none⟩ = some (.bool false) ∧ w'.cell? ⟨b13, 4, none⟩ = some (.string (ry xa.len.den)) ∧ w'.cell? ⟨b15, 1, none⟩ = some (.bool (zs yb.len.num)) ∧ w'.cell? ⟨b15, 2, none⟩ = some (.string (zx yb.len.num)) ∧ w'.cell? ⟨b15, 3, none⟩ = some (.bool false) ∧ w'.cell? ⟨b15, 4, none⟩ = some (.string (ry yb.len.den)) ∧ w'.cell? ⟨b16, 2, none⟩ = some (.int .i64 l)) (refine ⟨?_, ?_, ?_, ?_, ?_, ?_, ?_, ?_, ?_⟩ <;> simp [go_sem, x1, x2, x3, x4, y1, y2, y3, y4, z2]) (first | ((with_reducible refine (jk (HA1.out _)).mono ?_); rintro e _ ⟨rfl, X, rfl⟩) | ((with_reducible refine (jk (HA2.out _)).mono ?_); rintro e _ ⟨rfl, X, rfl⟩) | ((with_reducible refine (jk (HA3.out _)).mono ?_); rintro e _ ⟨rfl, X, rfl⟩) | fail)
       all_goals
        go_wp2_with fail
        go_meet
        refine ⟨_, rfl, Lib.hid ?_, ?_⟩
        ·repeat (first | with_reducible exact obj_last _ _ | with_reducible refine obj_junk ?_)
        ·with_reducible exact ex_junk
      case rest =>
       obtain ⟨bl, rfl, hXE, U6, rfl⟩ := hcut
       have l0 := obj_cell hXE.out 0
       have l1 := obj_cell hXE.out 1
       have l2 := obj_cell hXE.out 2
       have l3 := obj_cell hXE.out 3
       simp at l0 l1 l2 l3
       haveI lx : Lo bl (W6.junk U6) := ⟨obj_lt hXE.out⟩
       clear hXE
       have HCH7 := Lib.hid (HCH6.out.keep (junk_below W6 U6))
       have HRT7 := Lib.hid (HRT6.out.keep (junk_below W6 U6))
       have HB7 := Lib.hid (keepObj (junk_below W6 U6) HB6.out)
       have hml := HML'.out
       go_wp2_with (at_builtin; refine ap2 (by rfl) _ _ _ (by rfl) uChc hi hz0 hz1 hz2 rfl (by decide) (fun _ => rfl) (base := W0.heap.size) (cs := ChM.cs) (L := M') (HCH7.out.keep Bw.b).1 (by rfl) ⟨⟨len, R, l, xa, yb⟩, .slice an nn cn, .slice ar nr cr⟩ _ (by rfl) (obj_last _ _) (chm_one HRT7.out) (by omega) (by decide) Bw.b.size ?_; intro g8 cap8 w8 own8 hb8 hgr8 hg8 hl8 hc8 hm8; have HCH8 : Hid (ChOk W0.heap.size w8 (.slice (some ⟨g8, 0, none⟩) (M'.length + 1) cap8) (M' ++ [⟨⟨len, R, l, xa, yb⟩, .slice an nn cn, .slice ar nr cr⟩])) := (Lib.hid ⟨own8, fun m hm => (by
        rcases List.mem_append.1 hm with hm | hm
        ·exact (((HCH7.out.keep Bw.b).2 m hm).kept (HCH7.out.keep Bw.b).1 (by decide) hgr8)
        ·have : m = ⟨⟨len, R, l, xa, yb⟩, .slice an nn cn, .slice ar nr cr⟩ := List.mem_singleton.1 hm
         subst this
         exact (HRT7.out.keep Bw.b).kept (HCH7.out.keep Bw.b).1 (by decide) hgr8)⟩); have HB8 := Lib.hid (keepBlk (HCH7.out.keep Bw.b).1 hgr8 (keepObj Bw.b HB7.out) (by decide)); obtain ⟨U8, rfl⟩ := bj (W := W0) hb8; clear hb8 hgr8 own8)
       go_roundw
       case rel =>
        refine ⟨j + 1, _, by go_num, by omega, Lib.hid ?_, Lib.hid ?_, HCH8, HB8, ?_⟩
        ·rw [HT2.out, List.map_append, HM'.out]; simp
        ·rw [List.length_append]; simp; omega
        ·with_reducible exact ex_junk
       case measure => simp [intOf]; omega
    ·obtain rfl : j = n9 := by omega
     have HM4 : Hid (M'.map ChM.c = choicesN rt (X.take (k + 1)) Y) := Lib.hid (by
      rw [HM'.out, HM.out, HT.out, List.take_of_length_le (l := Y) (by rw [HN9.out]; exact Nat.le_refl _)])
     have HML4 : Hid (M'.length ≤ (k + 1) * 2) := Lib.hid (by have := HML'.out; omega)
     clear e0 e1 e2 e3 e4
     go_wp2_with fail
     go_roundw
     case rel =>
      refine ⟨k + 1, M', by go_num, by omega, HM4, HML4, HCH', ?_⟩
      with_reducible exact ex_junk
     case measure => simp [intOf]; omega
  ·obtain rfl : k = n7 := by omega
   have HR : Hid (M.map ChM.c = choicesN rt X Y) := Lib.hid (by rw [HM.out, List.take_of_length_le (by rw [HN7.out]; exact Nat.le_refl _)])
   obtain ⟨ao, no, co, ho⟩ := HCH.out.1.val
   subst ho
   clear HM
   go_wp2_with fail
   go_ret
   exact ⟨_, M, rfl, HR.out, ⟨HCH.out.1.mono bw.b.size, fun m hm => (HCH.out.2 m hm).mono bw.b.size⟩, Bw.b⟩
end Go.Proofs.YtcelpkbmcmnogaaGreatDoor
