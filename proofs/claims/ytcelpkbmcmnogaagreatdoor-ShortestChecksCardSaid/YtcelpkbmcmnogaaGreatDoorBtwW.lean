/-
 The law's least way, walked.
-/
import Derived.Test.YtcelpkbmcmnogaaGreatDoorBtwM
import Derived.Test.YtcelpkbmcmnogaaGreatDoorLgsW
import Derived.Test.YtcelpkbmcmnogaaGreatDoorDirW
import Derived.Test.YtcelpkbmcmnogaaGreatDoorPlcM
set_option linter.unusedSimpArgs false
set_option linter.unusedVariables false
namespace Go.Proofs.YtcelpkbmcmnogaaGreatDoor
open Go Go.RowKit Go.Vi
attribute [local go_sem ↓] lo_lt lo_ne lo_ne'
attribute [local go_sem] junk_cell junk_frozen junk_setCell junk_drew drew_junk
attribute [local go_sem] rc_size rowN_alloc_at rowN_alloc rowN_junk rowN_drew rowN_drewN setRow_alloc_at setRow_alloc setRow_junk setRow_drew
attribute [local go_sem high] eqR_run eqG_run eqP_run
def BtlOut (x : Wy) (ok : Bool) (w : World) (e : Ending) (w' : World) : Prop := ∃ v, e = .returned (.tuple #[.agg (wcs x.p x.q v x.len), .bool ok]) ∧ Ow w.heap.size w' 55 9 v (x.legs.map Lg.cs) ∧ Below w.heap.size w w'
theorem sm_posB {n : Net} (h : GNet n) {p : Plc} (hp : PosOK n p) : Sm p.off := by
 obtain ⟨r, _, hm, _, h1, h2⟩ := hp.rd
 have := len_le h hm
 exact sm_g64 hp.g (by grind) (by grind)
theorem dirP_sm {n : Net} (h : GNet n) {p q : Plc} (hp : PosOK n p) (hq : PosOK n q) : ∀ r ∈ n.roads, ∀ x ∈ dirP p q r, Sm x.1 ∧ Sm x.2 ∧ Sm (x.2 - x.1) := fun r hr x hx => by
 obtain ⟨rp, _, hmp, _, p1, p2⟩ := hp.rd
 obtain ⟨rq, _, hmq, _, q1, q2⟩ := hq.rd
 have l1 := len_le h hmp
 have l2 := len_le h hmq
 have l3 := len_le h hr
 have g : (G64 x.1 ∧ 0 ≤ x.1 ∧ x.1 ≤ 48) ∧ (G64 x.2 ∧ 0 ≤ x.2 ∧ x.2 ≤ 48) := by
  have z : G64 (0 : Rat) ∧ (0 : Rat) ≤ 0 ∧ (0 : Rat) ≤ 48 := ⟨g64_zero, Rat.le_refl, by decide⟩
  have y : G64 (r.len : Rat) ∧ (0 : Rat) ≤ (r.len : Rat) ∧ (r.len : Rat) ≤ 48 := ⟨g64_int _, by grind, l3.2⟩
  have a : G64 p.off ∧ 0 ≤ p.off ∧ p.off ≤ 48 := ⟨hp.g, p1, by grind⟩
  have b : G64 q.off ∧ 0 ≤ q.off ∧ q.off ≤ 48 := ⟨hq.g, q1, by grind⟩
  simp only [dirP, List.mem_cons, List.mem_nil_iff, or_false] at hx
  rcases hx with rfl | rfl | rfl | rfl | rfl | rfl | rfl | rfl | rfl <;> exact ⟨by assumption, by assumption⟩
 obtain ⟨⟨g1, a1, a2⟩, g2, b1, b2⟩ := g
 exact ⟨sm_g64 g1 (by grind) (by grind), sm_g64 g2 (by grind) (by grind), sm_g64 (g64_sub g2 g1) (by grind) (by grind)⟩
set_option maxRecDepth 100000 in
set_option maxHeartbeats 20000000 in
theorem btwL_q {n : Net} (h : GNet n) (v1 v2 : Value) {p q : Plc} (hp : PosOK n p) (hq : PosOK n q) (w : World) (hN : NetAt w.heap.size w v1 v2 n) :
  Calls Tryz.prog 6 #[.agg #[v1, v2], .agg #[.int .i64 p.road, .bool (zs p.off.num), .string (zx p.off.num), .bool false, .string (ry p.off.den)], .agg #[.int .i64 q.road, .bool (zs q.off.num), .string (zx q.off.num), .bool false, .string (ry q.off.den)]] w (BtlOut (btwL n p q).1 (btwL n p q).2 w) := by
 have hK := h.ok
 have sp := sm_posB h hp
 have sq := sm_posB h hq
 have hF := geo_fit h hp hq
 have HS0 := same_bw hN hK p q sp sq
 have HX0 : Hid (∀ (w' : World) [Bw w w'], Calls Tryz.prog 18 #[.agg #[v1, v2], p.v] w' (EndsOut (exitsN n p).1 (exitsN n p).2 w')) := Lib.hid (fun w' _ => exits_q n v1 v2 p w' (later_bw hN) hK sp)
 have HY0 : Hid (∀ (w' : World) [Bw w w'], Calls Tryz.prog 19 #[.agg #[v1, v2], q.v] w' (EndsOut (entriesN n q).1 (entriesN n q).2 w')) := Lib.hid (fun w' _ => entries_q n v1 v2 q w' (later_bw hN) hK sq)
 have HLR : Hid (∀ (a b : Int) (w' : World) [Bw w w'], Calls Tryz.prog 20 #[.agg #[v1, v2], .int .i64 a, .int .i64 b] w' (RtsOut w'.heap.size (lstN n a b) w')) := Lib.hid (fun a b w' _ => leastR_q n hK h.few a b v1 v2 w' (later_bw hN))
 have HAH0 : Hid (∀ (w' : World) [Bw w w'], Calls Tryz.prog 23 #[.agg #[v1, v2], p.v, q.v] w' fun e w2 => e = .returned (.tuple #[rV ((aheadN n p q).getD 0), .bool (aheadN n p q).isSome]) ∧ Below w'.heap.size w' w2) := Lib.hid (fun w' _ => ahead_q n v1 v2 p q w' (later_bw hN) hK sp sq hF.near)
 have HDR0 : Hid (∀ (l : Rat), Sm l → ∀ (w' : World) [Bw w w'], Calls Tryz.prog 24 #[.agg #[v1, v2], .agg #[.int .i64 p.road, .bool (zs p.off.num), .string (zx p.off.num), .bool false, .string (ry p.off.den)], .agg #[.int .i64 q.road, .bool (zs q.off.num), .string (zx q.off.num), .bool false, .string (ry q.off.den)], .agg #[.bool (zs l.num), .string (zx l.num), .bool false, .string (ry l.den)]] w' fun e w2 => e = .returned (.tuple #[((dirN n p q l).getD lg0).v, .bool (dirN n p q l).isSome]) ∧ Below w'.heap.size w' w2) := Lib.hid (fun l hl w' _ => dir_q n p q l v1 v2 w' (later_bw hN) hK sp sq hl (dirP_sm h hp hq))
 have HLG : Hid (∀ (nodes roads : List Int) (rl : Int) (vn vr : Value) (w' : World) [Bw w w'], Sl w'.heap.size w' 1 vn (nodes.map i1) → Sl w'.heap.size w' 1 vr (roads.map i1) → nodes.length = roads.length + 1 → roads.length ≤ 100000 → Calls Tryz.prog 25 #[.agg #[v1, v2], .agg #[.int .i64 p.road, .bool (zs p.off.num), .string (zx p.off.num), .bool false, .string (ry p.off.den)], .agg #[.int .i64 q.road, .bool (zs q.off.num), .string (zx q.off.num), .bool false, .string (ry q.off.den)], .agg #[vn, vr, .int .i64 rl]] w' (LegsOut (lgsN n p q nodes roads) w')) := Lib.hid (fun nodes roads rl vn vr w' _ h1 h2 h3 h4 => lgs_q n p q nodes roads rl v1 v2 vn vr w' (later_bw hN) hK sp sq h1 h2 h3 h4)
 have HXI := Lib.hid (fun a (ha : a ∈ (exitsN n p).1) => (⟨ends_in h hp _ _ ha, inc_node h (exit_inc h hp ha).1⟩ : (G64 a.len ∧ 0 ≤ a.len ∧ a.len ≤ 48) ∧ (nodeOf n.nodes a.node).isSome = true))
 have HYI := Lib.hid (fun b (hb : b ∈ (entriesN n q).1) => (⟨ends_in h hq _ _ hb, inc_node h (entry_inc h hq hb).1⟩ : (G64 b.len ∧ 0 ≤ b.len ∧ b.len ≤ 48) ∧ (nodeOf n.nodes b.node).isSome = true))
 have HLI : Hid (∀ (a b : Int), (nodeOf n.nodes a).isSome = true → (nodeOf n.nodes b).isSome = true → ∀ r, lstN n a b = some r → r.nodes.length ≤ 9 ∧ r.roads.length ≤ 8 ∧ r.nodes.length = r.roads.length + 1 ∧ 0 ≤ r.len ∧ r.len ≤ 384) := Lib.hid (fun a b ha hb r hr => lst_in h ha hb hr)
 have HAI : Hid (∀ l, aheadN n p q = some l → Sm l) := Lib.hid hF.ahead
 have HLX := Lib.hid hF.few1
 have HLY := Lib.hid hF.few2
 have HLB : Hid (∀ z, bstN n (exitsN n p).1 (entriesN n q).1 = some z → z.nodes.length = z.roads.length + 1) := Lib.hid (fun z hz => by
  rw [bst_in h _ _ (fun a ha => (HXI.out a ha).2) (fun b hb => (HYI.out b hb).2)] at hz
  cases hc : leastC (choicesN (rtN n) (exitsN n p).1 (entriesN n q).1) with
  | none => rw [hc] at hz; cases hz
  | some c => rw [hc] at hz; injection hz with hz; subst hz; simp [toB, nodesC])
 obtain ⟨out, hout⟩ : ∃ o, btwL n p q = o := ⟨_, rfl⟩
 rw [hout]
 have HT := Lib.hid hout
 unfold btwL at HT
 unfold bstN at HT HLB
 generalize (exitsN n p).2 = cx at HX0
 generalize (entriesN n q).2 = cy at HY0
 generalize (exitsN n p).1 = X at *
 generalize (entriesN n q).1 = Y at *
 generalize hsm : sameN n p q = sm at *
 generalize aheadN n p q = ah at *
 unfold Plc.v at HS0 HX0 HY0 HAH0
 clear hN hF hp hq sp sq hsm hout
 go_enter Tryz.func6, Tryz.ntmps6
 go_wp2_with (first | (refine wl_store (op := ⟨none, .store _ (.tmp 6) (.tmp 25), _, _, _, _⟩) (by rfl) _ _ rfl iWy _ (by rfl) #[.int .i64 p.road, .bool (zs p.off.num), .string (zx p.off.num), .bool false, .string (ry p.off.den), .int .i64 q.road, .bool (zs q.off.num), .string (zx q.off.num), .bool false, .string (ry q.off.den), .slice none 0 0, .bool false, .string ⟨#[]⟩, .bool false, .string ⟨#[]⟩] (by rfl) (by simp [go_sem]) rfl (by simp [Value.oneCell']) ?_) | fail)

 obtain ⟨V, hV⟩ : ∃ V, V = (((w.alloc (.cells #[v1, v2] 36)).alloc (.cells #[.int .i64 p.road, .bool (zs p.off.num), .string (zx p.off.num), .bool false, .string (ry p.off.den)] 43)).alloc (.cells #[.int .i64 q.road, .bool (zs q.off.num), .string (zx q.off.num), .bool false, .string (ry q.off.den)] 43)) := ⟨_, rfl⟩
 have n0 : V.cell? ⟨w.heap.size, 0, none⟩ = some (v1) := by rw [hV]; simp [go_sem]
 have n1 : V.cell? ⟨w.heap.size, 1, none⟩ = some (v2) := by rw [hV]; simp [go_sem]
 haveI lN : Lo (w.heap.size) V := by rw [hV]; infer_instance
 have p0 : V.cell? ⟨w.heap.size + 1, 0, none⟩ = some (.int .i64 p.road) := by rw [hV]; simp [go_sem]
 have p1 : V.cell? ⟨w.heap.size + 1, 1, none⟩ = some (.bool (zs p.off.num)) := by rw [hV]; simp [go_sem]
 have p2 : V.cell? ⟨w.heap.size + 1, 2, none⟩ = some (.string (zx p.off.num)) := by rw [hV]; simp [go_sem]
 have p3 : V.cell? ⟨w.heap.size + 1, 3, none⟩ = some (.bool false) := by rw [hV]; simp [go_sem]
 have p4 : V.cell? ⟨w.heap.size + 1, 4, none⟩ = some (.string (ry p.off.den)) := by rw [hV]; simp [go_sem]
 haveI lP : Lo (w.heap.size + 1) V := by rw [hV]; infer_instance
 have q0 : V.cell? ⟨w.heap.size + 1 + 1, 0, none⟩ = some (.int .i64 q.road) := by rw [hV]; simp [go_sem]
 have q1 : V.cell? ⟨w.heap.size + 1 + 1, 1, none⟩ = some (.bool (zs q.off.num)) := by rw [hV]; simp [go_sem]
 have q2 : V.cell? ⟨w.heap.size + 1 + 1, 2, none⟩ = some (.string (zx q.off.num)) := by rw [hV]; simp [go_sem]
 have q3 : V.cell? ⟨w.heap.size + 1 + 1, 3, none⟩ = some (.bool false) := by rw [hV]; simp [go_sem]
 have q4 : V.cell? ⟨w.heap.size + 1 + 1, 4, none⟩ = some (.string (ry q.off.den)) := by rw [hV]; simp [go_sem]
 haveI lQ : Lo (w.heap.size + 1 + 1) V := by rw [hV]; infer_instance
 haveI bwV : Bw w V := by rw [hV]; infer_instance
 have hVs : V.heap.size = w.heap.size + 1 + 1 + 1 := by rw [hV]; simp
 rw [← hV]
 clear hV
 refine (jk (HS0.out _)).mono ?_
 rintro e _ ⟨rfl, X1, rfl⟩
 obtain ⟨U, hU⟩ : ∃ U, U = ((V.alloc (.cells #[.int .i64 p.road, .bool (zs p.off.num), .string (zx p.off.num), .bool false, .string (ry p.off.den), .int .i64 q.road, .bool (zs q.off.num), .string (zx q.off.num), .bool false, .string (ry q.off.den), .slice none 0 0, .bool false, .string ⟨#[]⟩, .bool false, .string ⟨#[]⟩] 46)).junk X1) := ⟨_, rfl⟩
 have hb6 : U.heap[w.heap.size + 1 + 1 + 1]? = some (.cells #[.int .i64 p.road, .bool (zs p.off.num), .string (zx p.off.num), .bool false, .string (ry p.off.den), .int .i64 q.road, .bool (zs q.off.num), .string (zx q.off.num), .bool false, .string (ry q.off.den), .slice none 0 0, .bool false, .string ⟨#[]⟩, .bool false, .string ⟨#[]⟩] 46 (0, 0)) := by rw [hU]; exact obj_junk (obj_at' hVs)
 haveI bVU : Bw V U := by rw [hU]; infer_instance
 haveI bwU : Bw w U := ⟨bwV.b.trans (bVU.b.mono bwV.b.size)⟩
 rw [← hU]
 clear hU
 generalize e6 : w.heap.size + 1 + 1 + 1 = b6 at *
 have HB6 := Lib.hid hb6
 have HD6 := Lib.hid (show V.heap.size ≤ b6 ∧ b6 < U.heap.size from ⟨by omega, obj_lt hb6⟩)
 clear hb6 e6 hVs
 have n0u := (bVU.b.cell (p := ⟨w.heap.size, 0, none⟩) lN.lt).trans n0
 have n1u := (bVU.b.cell (p := ⟨w.heap.size, 1, none⟩) lN.lt).trans n1
 haveI lNu : Lo (w.heap.size) U := ⟨Nat.lt_of_lt_of_le lN.lt bVU.b.size⟩
 have p0u := (bVU.b.cell (p := ⟨w.heap.size + 1, 0, none⟩) lP.lt).trans p0
 have p1u := (bVU.b.cell (p := ⟨w.heap.size + 1, 1, none⟩) lP.lt).trans p1
 have p2u := (bVU.b.cell (p := ⟨w.heap.size + 1, 2, none⟩) lP.lt).trans p2
 have p3u := (bVU.b.cell (p := ⟨w.heap.size + 1, 3, none⟩) lP.lt).trans p3
 have p4u := (bVU.b.cell (p := ⟨w.heap.size + 1, 4, none⟩) lP.lt).trans p4
 haveI lPu : Lo (w.heap.size + 1) U := ⟨Nat.lt_of_lt_of_le lP.lt bVU.b.size⟩
 have q0u := (bVU.b.cell (p := ⟨w.heap.size + 1 + 1, 0, none⟩) lQ.lt).trans q0
 have q1u := (bVU.b.cell (p := ⟨w.heap.size + 1 + 1, 1, none⟩) lQ.lt).trans q1
 have q2u := (bVU.b.cell (p := ⟨w.heap.size + 1 + 1, 2, none⟩) lQ.lt).trans q2
 have q3u := (bVU.b.cell (p := ⟨w.heap.size + 1 + 1, 3, none⟩) lQ.lt).trans q3
 have q4u := (bVU.b.cell (p := ⟨w.heap.size + 1 + 1, 4, none⟩) lQ.lt).trans q4
 haveI lQu : Lo (w.heap.size + 1 + 1) U := ⟨Nat.lt_of_lt_of_le lQ.lt bVU.b.size⟩
 cases sm with
 | true =>
  have ho : (((⟨p, q, [], 0⟩ : Wy), true) : Wy × Bool) = out := HT.out
  have hrow : rowN 15 U b6 = some #[.int .i64 p.road, .bool (zs p.off.num), .string (zx p.off.num), .bool false, .string (ry p.off.den), .int .i64 q.road, .bool (zs q.off.num), .string (zx q.off.num), .bool false, .string (ry q.off.den), .slice none 0 0, .bool false, .string ⟨#[]⟩, .bool false, .string ⟨#[]⟩] := rowN_of HB6.out rfl
  haveI lb6 : Lo b6 U := ⟨HD6.out.2⟩
  haveI bs : Bw w (setRow U b6 #[.int .i64 p.road, .bool (zs p.off.num), .string (zx p.off.num), .bool false, .string (ry p.off.den), .int .i64 q.road, .bool (zs q.off.num), .string (zx q.off.num), .bool false, .string (ry q.off.den), .slice none 0 0, .bool false, .string ⟨#[]⟩, .bool false, .string ⟨#[]⟩]) := ⟨below_setRow bwU.b (by have := HD6.out.1; have := bwV.b.size; omega)⟩
  go_wp2_with (first | (refine wl_load (op := ⟨some 30, .load _ (.tmp 6), _, _, _, _⟩) (by rfl) _ rfl uWy rfl iWy _ (by rfl) #[.int .i64 p.road, .bool (zs p.off.num), .string (zx p.off.num), .bool false, .string (ry p.off.den), .int .i64 q.road, .bool (zs q.off.num), .string (zx q.off.num), .bool false, .string (ry q.off.den), .slice none 0 0, .bool false, .string ⟨#[]⟩, .bool false, .string ⟨#[]⟩] hrow ?_) | (refine wl_store (op := ⟨none, .store _ (.tmp 6) (.tmp 30), _, _, _, _⟩) (by rfl) _ _ rfl iWy _ (by rfl) #[.int .i64 p.road, .bool (zs p.off.num), .string (zx p.off.num), .bool false, .string (ry p.off.den), .int .i64 q.road, .bool (zs q.off.num), .string (zx q.off.num), .bool false, .string (ry q.off.den), .slice none 0 0, .bool false, .string ⟨#[]⟩, .bool false, .string ⟨#[]⟩] (by rfl) (by rw [hrow]; rfl) rfl (by simp [Value.oneCell']) ?_) | fail)
  refine bodyPost_ret (res_row_tmp rfl _ b6 (by rfl) _ _ (loadVar_is uWy rfl iWy (c := #[.int .i64 p.road, .bool (zs p.off.num), .string (zx p.off.num), .bool false, .string (ry p.off.den), .int .i64 q.road, .bool (zs q.off.num), .string (zx q.off.num), .bool false, .string (ry q.off.den), .slice none 0 0, .bool false, .string ⟨#[]⟩, .bool false, .string ⟨#[]⟩]) ?_)) rfl ?_
  ·exact rowN_setRow (by rw [hrow]; rfl) rfl
  ·rw [← ho]
   exact ⟨.slice none 0 0, by unfold wcs; simp only [zc0, zc1, zc2]; rfl, Ow.nil _ _ _ _, Bw.b⟩
 | false =>
  rw [if_neg (by simp)] at HT
  go_wp2_with fail
  refine (HX0.out _).mono ?_
  rintro e w1 h1
  obtain ⟨v9, X2, rfl, rfl, ho9⟩ := h1.junk
  have HO9 := Lib.hid ho9
  clear h1 ho9
  go_wp2_with fail
  refine (HY0.out _).mono ?_
  rintro e w1 h1
  obtain ⟨v11, X3, rfl, rfl, ho11⟩ := h1.junk
  have HO11 := Lib.hid ho11
  clear h1 ho11 HX0 HY0 HS0
  obtain ⟨a9, n9, k9, rfl, hn9, hk9, hm9⟩ := HO9.out.sl.open
  obtain ⟨a11, n11, k11, rfl, hn11, hk11, hm11⟩ := HO11.out.sl.open
  rw [List.length_map] at hn9 hn11
  have HN9 := Lib.hid hn9
  have HN11 := Lib.hid hn11
  have hb9 : n9 ≤ 2 := by rw [← hn9]; exact HLX.out
  have hb11 : n11 ≤ 2 := by rw [← hn11]; exact HLY.out
  clear hn9 hn11 hm9 hm11
  obtain ⟨W1, hW1⟩ : ∃ W1, W1 = (((U.alloc (.cells #[.slice none 0 0, .slice none 0 0, .int .i64 0] 64)).junk X2).junk X3) := ⟨_, rfl⟩
  obtain ⟨b8, hb8⟩ : ∃ b, U.heap.size = b := ⟨_, rfl⟩
  have HM : Hid (BtM V.heap.size b6 b8 p q X Y (.slice a9 n9 k9) (.slice a11 n11 k11) (.slice none 0 0) (.slice none 0 0) b0B W1) := Lib.hid (by
   have e : (#[.int .i64 p.road, .bool (zs p.off.num), .string (zx p.off.num), .bool false, .string (ry p.off.den), .int .i64 q.road, .bool (zs q.off.num), .string (zx q.off.num), .bool false, .string (ry q.off.den), .slice none 0 0, .bool false, .string ⟨#[]⟩, .bool false, .string ⟨#[]⟩] : Array Value) = #[.int .i64 p.road, .bool (zs p.off.num), .string (zx p.off.num), .bool false, .string (ry p.off.den), .int .i64 q.road, .bool (zs q.off.num), .string (zx q.off.num), .bool false, .string (ry q.off.den), .slice none 0 0, .bool (zs b0B.len.num), .string (zx b0B.len.num), .bool false, .string (ry b0B.len.den)] := by simp only [b0B, zc0, zc1, zc2]
   have hv : V.heap.size ≤ U.heap.size := bVU.b.size
   subst hb8
   rw [hW1]
   refine ⟨?_, obj_junk (obj_junk (obj_last _ _)), ⟨sl_nil _ _ _, sl_nil _ _ _⟩, rtLow_nil _, (HO9.out.mono (by simp; omega)).keep (junk_below _ _), HO11.out.mono ?_⟩
   ·rw [← e]; exact obj_junk (obj_junk (obj_old HB6.out))
   ·have := (junk_below (U.alloc (.cells #[.slice none 0 0, .slice none 0 0, .int .i64 0] 64)) X2).size
    simp at this
    omega)
  have HW : Hid (∃ Z, W1 = V.junk Z) := Lib.hid (by rw [hW1]; with_reducible exact ex_junk)
  have HD : Hid (V.heap.size ≤ b6 ∧ b6 < b8) := Lib.hid ⟨HD6.out.1, by rw [← hb8]; exact HD6.out.2⟩
  rw [hb8, ← hW1]
  clear hW1 hb8 HO9 HO11 HB6 HD6
  clear bVU bwU n0u n1u p0u p1u p2u p3u p4u q0u q1u q2u q3u q4u lNu lPu lQu
  go_wp2_with fail
  go_loopw [7, 13] (fun s7 s13 wr => ∃ (i : Nat) (acc : Option Bst) (vn vr : Value), s7 = .bool acc.isSome ∧ s13 = .int .i64 i ∧ i ≤ n9 ∧ Hid ((X.take i).foldl (fun acc a => Y.foldl (fun acc b => bstS acc a b (lstN n a.node b.node)) acc) none = acc) ∧ Hid (BstOK (acc.getD b0B)) ∧ Hid (BtM V.heap.size b6 b8 p q X Y (.slice a9 n9 k9) (.slice a11 n11 k11) vn vr (acc.getD b0B) wr) ∧ ∃ Z, wr = V.junk Z) (fun _ s13 _ => n9 - (intOf s13).toNat)
  case atStart => exact ⟨0, none, _, _, rfl, rfl, Nat.zero_le _, Lib.hid rfl, Lib.hid b0_ok, HM, HW.out⟩
  case round =>
   clear HM HW
   obtain ⟨i, acc, vn, vr, rfl, rfl, hi, HA, HOK, HM, hZ⟩ := hrel
   by_cases hlt : i < n9
   ·have hil : i < X.length := by rw [HN9.out]; exact hlt
    have hmem : X[i]! ∈ X := by rw [getElem!_pos X i hil]; exact List.getElem_mem hil
    have HXa := Lib.hid (HXI.out _ hmem)
    have HA1 : Hid ((X.take (i + 1)).foldl (fun acc a => Y.foldl (fun acc b => bstS acc a b (lstN n a.node b.node)) acc) none = Y.foldl (fun acc b => bstS acc X[i]! b (lstN n X[i]!.node b.node)) acc) := Lib.hid (by
     rw [List.take_succ_eq_append_getElem hil, List.foldl_append, List.foldl_cons, List.foldl_nil, getElem!_pos X i hil, HA.out])
    obtain ⟨xa, hxa⟩ : ∃ x, X[i]! = x := ⟨_, rfl⟩
    have HXE := Lib.hid hxa
    rw [hxa] at HXa HA1
    clear hmem hxa HA
    obtain ⟨Z, rfl⟩ := hZ
    have i0 : (0 : Int) ≤ (i : Int) := by omega
    have i9 : (i : Int) < (n9 : Int) := by omega
    go_wp2_with fail
    go_loopw [7, 14] (fun s7 s14 wr => ∃ (j : Nat) (ac : Option Bst) (vn vr : Value), s7 = .bool ac.isSome ∧ s14 = .int .i64 j ∧ j ≤ n11 ∧ Hid ((Y.take j).foldl (fun acc b => bstS acc xa b (lstN n xa.node b.node)) acc = ac) ∧ Hid (BstOK (ac.getD b0B)) ∧ Hid (BtM V.heap.size b6 b8 p q X Y (.slice a9 n9 k9) (.slice a11 n11 k11) vn vr (ac.getD b0B) wr) ∧ ∃ Z, wr = V.junk Z) (fun _ s14 _ => n11 - (intOf s14).toNat)
    case atStart =>
     refine ⟨0, acc, vn, vr, rfl, rfl, Nat.zero_le _, Lib.hid rfl, HOK, HM, ?_⟩
     with_reducible exact ex_junk
    case round =>
     clear HM HOK
     obtain ⟨j, ac, vn, vr, rfl, rfl, hj, HA, HOK, HM, hZ⟩ := hrel
     by_cases hlt2 : j < n11
     ·have hjl : j < Y.length := by rw [HN11.out]; exact hlt2
      have hmem : Y[j]! ∈ Y := by rw [getElem!_pos Y j hjl]; exact List.getElem_mem hjl
      have HYb := Lib.hid (HYI.out _ hmem)
      have HA2 : Hid ((Y.take (j + 1)).foldl (fun acc b => bstS acc xa b (lstN n xa.node b.node)) acc = bstS ac xa Y[j]! (lstN n xa.node Y[j]!.node)) := Lib.hid (by
       rw [List.take_succ_eq_append_getElem hjl, List.foldl_append, List.foldl_cons, List.foldl_nil, getElem!_pos Y j hjl, HA.out])
      haveI bV : Bw V wr := by obtain ⟨Z, rfl⟩ := hZ; infer_instance
      haveI bW : Bw w wr := ⟨bwV.b.trans (bV.b.mono bwV.b.size)⟩
      clear hZ
      obtain ⟨bx, ox, rfl, hbx, x0, x1, x2, x3, x4⟩ := ed_cells HM.out.x.sl i hil
      obtain ⟨by', oy, rfl, hby, y0, y1, y2, y3, y4⟩ := ed_cells HM.out.y.sl j hjl
      rw [HXE.out] at x0 x1 x2 x4
      generalize Y[j]! = yb at y0 y1 y2 y3 y4 HYb HA2
      haveI lNr : Lo w.heap.size wr := ⟨Nat.lt_of_lt_of_le lN.lt bV.b.size⟩
      haveI lx : Lo bx wr := ⟨hbx⟩
      haveI ly : Lo by' wr := ⟨hby⟩
      have j0 : (0 : Int) ≤ (j : Int) := by omega
      have j9 : (j : Int) < (n11 : Int) := by omega
      have HR1 := Lib.hid (HLR.out xa.node yb.node)
      have HR2 := Lib.hid (HLI.out xa.node yb.node HXa.out.2 HYb.out.2)
      generalize lstN n xa.node yb.node = lo at *
      have hb8 := obj_lt HM.out.best
      have n0r := (bV.b.cell (p := ⟨w.heap.size, 0, none⟩) lN.lt).trans n0
      have n1r := (bV.b.cell (p := ⟨w.heap.size, 1, none⟩) lN.lt).trans n1
      clear hmem HA
      go_upto_region 13 with fail
      go_cut [15, 16] (fun s15 s16 wx => ∃ (b15 : Nat) (un ur : Value), s15 = .pointer (some ⟨b15, 0, none⟩) ∧ s16 = .bool lo.isSome ∧ Hid (wx.heap[b15]? = some (.cells #[un, ur, .int .i64 (lo.getD rte0).len] 64 (0, 0))) ∧ Hid (RtAt wx.heap.size wx un ur (lo.getD rte0)) ∧ Hid (RtLow (b8 + 1) un ur) ∧ ∃ Z, wx = wr.junk Z)
      case first =>
       go_region_held3 (fun w' => w'.cell? ⟨w.heap.size, 0, none⟩ = some v1 ∧ w'.cell? ⟨w.heap.size, 1, none⟩ = some v2 ∧ w'.cell? ⟨bx, ox + i * 5, none⟩ = some (.int .i64 xa.node) ∧ w'.cell? ⟨by', oy + j * 5, none⟩ = some (.int .i64 yb.node)) (refine ⟨?_, ?_, ?_, ?_⟩ <;> simp [go_sem, n0r, n1r, x0, y0]) (first | ((with_reducible refine (HR1.out _).mono ?_); rintro e w2 ⟨un, ur, hl, rfl, hr, hb⟩; obtain ⟨Z1, rfl⟩ := below_some hb; obtain ⟨ua, um, uc, rfl, _⟩ := hr.nodes.open; obtain ⟨ra, rm, rcc, rfl, _⟩ := hr.roads.open) | fail)
       all_goals
        go_wp2_with fail
        go_meet
        refine ⟨_, _, _, rfl, rfl, Lib.hid ?_, Lib.hid ?_, Lib.hid (hl.mono (by first | omega | (simp; omega))), ?_⟩
        ·repeat (first | with_reducible exact obj_last _ _ | with_reducible refine obj_junk ?_)
        ·first | exact rt_one hr _ | exact rt_put hr (hl.mono (by first | exact Nat.le_refl _ | simp)) _
        ·with_reducible exact ex_junk
      case rest =>
       obtain ⟨b15, un, ur, rfl, rfl, H15, HRT, HLO, Z1, rfl⟩ := hcut
       have HM2 := Lib.hid (HM.out.keep (junk_below wr Z1))
       clear n0r n1r HM
       cases lo with
       | none =>
        have HA3 : Hid ((Y.take (j + 1)).foldl (fun acc b => bstS acc xa b (lstN n xa.node b.node)) acc = ac) := Lib.hid (by rw [HA2.out]; rfl)
        go_wp2_with fail
        go_roundw
        case rel =>
         refine ⟨j + 1, ac, vn, vr, rfl, by go_num, by omega, HA3, HOK, HM2, ?_⟩
         with_reducible exact ex_junk
        case measure => simp [intOf]; omega
       | some r =>
        obtain ⟨hzk, sxl, syl, srl, s12, s123⟩ := bst_ok HXa.out.1 HYb.out.1 (HR2.out r rfl)
        have HZK := Lib.hid hzk
        have hrn := (HR2.out r rfl)
        have HFW := Lib.hid (fun w' => whole_q r.len w' (by omega))
        have HA1' := Lib.hid (fun w' => add_q xa.len (r.len : Rat) w' sxl srl)
        have HA2' := Lib.hid (fun w' => add_q (xa.len + (r.len : Rat)) yb.len w' s12 syl)
        have sz : Sm (ac.getD b0B).len := by
         obtain ⟨g, z0, z1⟩ := HOK.out.len
         exact sm_g64 g (by grind) (by grind)
        have HCP := Lib.hid (fun w' => compare_q (xa.len + (r.len : Rat) + yb.len) (ac.getD b0B).len w' s123 sz)
        have HST := Lib.hid (bst_some ac xa yb r)
        have HBN : Hid (r.nodes.length ≤ 1000000 ∧ (ac.getD b0B).nodes.length ≤ 1000000) := Lib.hid ⟨by omega, by have := HOK.out.nodes; omega⟩
        clear hzk sxl syl srl s12 s123 hrn sz
        obtain ⟨dl, hdl⟩ : ∃ x, x = xa.len + (r.len : Rat) + yb.len := ⟨_, rfl⟩
        rw [← hdl] at HZK HA2' HCP HST
        clear hdl
        generalize xa.len + (r.len : Rat) = d12 at HA1' HA2'
        generalize (r.len : Rat) = rq at HFW HA1'
        generalize hz : ac.getD b0B = z at *
        have HZ := Lib.hid hz
        clear hz
        generalize hcc : cmpR dl z.len = cc at HCP HST
        clear hcc
        simp only [rV] at HFW HA1' HA2' HCP
        simp only [Option.isSome_some, Option.getD_some] at H15 HRT HLO ⊢
        obtain ⟨ua, um, uc, rfl, _⟩ := HRT.out.nodes.open
        obtain ⟨ra, rm, rcc, rfl, _⟩ := HRT.out.roads.open
        go_upto_region 15 with fail
        obtain ⟨W6, hW6⟩ : ∃ W6, W6 = wr.junk Z1 := ⟨_, rfl⟩
        have x1' : W6.cell? ⟨bx, ox + i * 5 + 1, none⟩ = some (.bool (zs xa.len.num)) := by rw [hW6]; exact (junk_cell wr Z1 _ _ hbx).trans x1
        have x2' : W6.cell? ⟨bx, ox + i * 5 + 2, none⟩ = some (.string (zx xa.len.num)) := by rw [hW6]; exact (junk_cell wr Z1 _ _ hbx).trans x2
        have x3' : W6.cell? ⟨bx, ox + i * 5 + 3, none⟩ = some (.bool false) := by rw [hW6]; exact (junk_cell wr Z1 _ _ hbx).trans x3
        have x4' : W6.cell? ⟨bx, ox + i * 5 + 4, none⟩ = some (.string (ry xa.len.den)) := by rw [hW6]; exact (junk_cell wr Z1 _ _ hbx).trans x4
        have y1' : W6.cell? ⟨by', oy + j * 5 + 1, none⟩ = some (.bool (zs yb.len.num)) := by rw [hW6]; exact (junk_cell wr Z1 _ _ hby).trans y1
        have y2' : W6.cell? ⟨by', oy + j * 5 + 2, none⟩ = some (.string (zx yb.len.num)) := by rw [hW6]; exact (junk_cell wr Z1 _ _ hby).trans y2
        have y3' : W6.cell? ⟨by', oy + j * 5 + 3, none⟩ = some (.bool false) := by rw [hW6]; exact (junk_cell wr Z1 _ _ hby).trans y3
        have y4' : W6.cell? ⟨by', oy + j * 5 + 4, none⟩ = some (.string (ry yb.len.den)) := by rw [hW6]; exact (junk_cell wr Z1 _ _ hby).trans y4
        haveI lx6 : Lo bx W6 := by rw [hW6]; infer_instance
        haveI ly6 : Lo by' W6 := by rw [hW6]; infer_instance
        haveI bV6 : Bw V W6 := by rw [hW6]; infer_instance
        haveI bW6 : Bw w W6 := by rw [hW6]; infer_instance
        rw [← hW6] at HM2 H15 HRT ⊢
        clear hW6 bV bW x0 x1 x2 x3 x4 y0 y1 y2 y3 y4 lx ly HR1 HR2 hb8
        clear hbx hby
        haveI l15 : Lo b15 W6 := ⟨obj_lt H15.out⟩
        have u2 := obj_cell H15.out 2
        simp at u2
        go_cut [17] (fun s17 wx => ∃ b17 : Nat, s17 = .pointer (some ⟨b17, 0, none⟩) ∧ Hid (wx.heap[b17]? = some (.cells #[.bool (zs dl.num), .string (zx dl.num), .bool false, .string (ry dl.den)] 41 (0, 0))) ∧ ∃ Z, wx = W6.junk Z)
        case first =>
         go_region_held3 (fun w' => w'.cell? ⟨bx, ox + i * 5 + 1, none⟩ = some (.bool (zs xa.len.num)) ∧ w'.cell? ⟨bx, ox + i * 5 + 2, none⟩ = some (.string (zx xa.len.num)) ∧ w'.cell? ⟨bx, ox + i * 5 + 3, none⟩ = some (.bool false) ∧ w'.cell? ⟨bx, ox + i * 5 + 4, none⟩ = some (.string (ry xa.len.den)) ∧ w'.cell? ⟨by', oy + j * 5 + 1, none⟩ = some (.bool (zs yb.len.num)) ∧ w'.cell? ⟨by', oy + j * 5 + 2, none⟩ = some (.string (zx yb.len.num)) ∧ w'.cell? ⟨by', oy + j * 5 + 3, none⟩ = some (.bool false) ∧ w'.cell? ⟨by', oy + j * 5 + 4, none⟩ = some (.string (ry yb.len.den)) ∧ w'.cell? ⟨b15, 2, none⟩ = some (.int .i64 r.len)) (refine ⟨?_, ?_, ?_, ?_, ?_, ?_, ?_, ?_, ?_⟩ <;> simp [go_sem, x1', x2', x3', x4', y1', y2', y3', y4', u2]) (first | ((with_reducible refine (jk (HFW.out _)).mono ?_); rintro e _ ⟨rfl, X, rfl⟩) | ((with_reducible refine (jk (HA1'.out _)).mono ?_); rintro e _ ⟨rfl, X, rfl⟩) | ((with_reducible refine (jk (HA2'.out _)).mono ?_); rintro e _ ⟨rfl, X, rfl⟩) | fail)
         all_goals
          go_wp2_with fail
          go_meet
          refine ⟨_, rfl, Lib.hid ?_, ?_⟩
          ·repeat (first | with_reducible exact obj_last _ _ | with_reducible refine obj_junk ?_)
          ·with_reducible exact ex_junk
        case rest =>
         obtain ⟨b17, rfl, H17, Z2, rfl⟩ := hcut
         haveI l17 : Lo b17 (W6.junk Z2) := ⟨obj_lt H17.out⟩
         have g0 := obj_cell H17.out 0
         have g1 := obj_cell H17.out 1
         have g2 := obj_cell H17.out 2
         have g3 := obj_cell H17.out 3
         simp at g0 g1 g2 g3
         haveI l66 : Lo b6 W6 := ⟨obj_lt HM2.out.way⟩
         haveI l86 : Lo b8 W6 := ⟨obj_lt HM2.out.best⟩
         have z11 : W6.cell? ⟨b6, 11, none⟩ = some (.bool (zs z.len.num)) := obj_cell HM2.out.way 11
         have z12 : W6.cell? ⟨b6, 12, none⟩ = some (.string (zx z.len.num)) := obj_cell HM2.out.way 12
         have z13 : W6.cell? ⟨b6, 13, none⟩ = some (.bool false) := obj_cell HM2.out.way 13
         have z14 : W6.cell? ⟨b6, 14, none⟩ = some (.string (ry z.len.den)) := obj_cell HM2.out.way 14
         have f11 := obj_free HM2.out.way 11
         have f12 := obj_free HM2.out.way 12
         have f13 := obj_free HM2.out.way 13
         have f14 := obj_free HM2.out.way 14
         have u0 := obj_cell H15.out 0
         have u1 := obj_cell H15.out 1
         simp at u0 u1
         obtain ⟨na, nm, nc, rfl, _⟩ := HM2.out.rt.nodes.open
         obtain ⟨oa, om, oc, rfl, _⟩ := HM2.out.rt.roads.open
         have r0 := obj_cell HM2.out.best 0
         have r1 := obj_cell HM2.out.best 1
         have r2 := obj_cell HM2.out.best 2
         simp at r0 r1 r2
         have k0 := obj_free HM2.out.best 0
         have k1 := obj_free HM2.out.best 1
         have k2 := obj_free HM2.out.best 2
         have HBF : Hid (∀ (w' : World) [Bw W6 w'], Calls Tryz.prog 22 #[.slice ua um uc, .slice na nm nc] w' fun e w2 => e = .returned (.bool (befL r.nodes z.nodes)) ∧ Below w'.heap.size w' w2) := Lib.hid (fun w' h => before_q r.nodes z.nodes _ _ w' (HRT.out.nodes.later h.b) (HM2.out.rt.nodes.later h.b) HBN.out.1 HBN.out.2)
         generalize befL r.nodes z.nodes = bf at HBF HST
         go_wp2_with fail
         refine (jk (HCP.out _)).mono ?_
         rintro e _ ⟨rfl, Z3, rfl⟩
         go_upto_region 17 with fail
         go_cut [107] (fun s107 wx => s107 = .bool (takeB ac cc bf) ∧ ∃ Z, wx = ((W6.junk Z2).junk Z3).junk Z)
         case first =>
          clear HA2 HST HM2 HRT H15 H17 HZ HOK HCP
          cases ac with
          | none =>
           go_wp2_with fail
           go_meet
           refine ⟨rfl, ?_⟩
           with_reducible exact ex_junk
          | some z0 =>
           rcases Int.lt_trichotomy cc 0 with hc | hc | hc
           ·have hc1 : decide (cc < 0) = true := by simpa using hc
            go_wp2_with fail
            go_meet
            refine ⟨by first | rfl | simp [takeB, hc], ?_⟩
            with_reducible exact ex_junk
           ·subst hc
            go_wp2_with fail
            refine (jk (HBF.out _)).mono ?_
            rintro e _ ⟨rfl, Z4, rfl⟩
            go_wp2_with fail
            go_meet
            refine ⟨by first | rfl | simp [takeB], ?_⟩
            with_reducible exact ex_junk
           ·have hc1 : ¬ cc < 0 := by omega
            have hc2 : (cc == 0) = false := by simp; omega
            go_wp2_with fail
            go_meet
            refine ⟨by first | rfl | (simp [takeB, hc1]; omega), ?_⟩
            with_reducible exact ex_junk
         case rest =>
          obtain ⟨rfl, Z4, rfl⟩ := hcut
          clear HBF HCP
          generalize takeB ac cc bf = tk at *
          cases tk with
          | false =>
           have HA3 : Hid ((Y.take (j + 1)).foldl (fun acc b => bstS acc xa b (lstN n xa.node b.node)) acc = ac) := Lib.hid (by rw [HA2.out, HST.out]; rfl)
           go_wp2_with fail
           go_roundw
           case rel =>
            refine ⟨j + 1, ac, _, _, rfl, by go_num, by omega, HA3, Lib.hid (by rw [HZ.out]; exact HOK.out), Lib.hid (by rw [HZ.out]; exact HM2.out.keep Bw.b), ?_⟩
            with_reducible exact ex_junk
           case measure => simp [intOf]; omega
          | true =>
           have HA3 : Hid ((Y.take (j + 1)).foldl (fun acc b => bstS acc xa b (lstN n xa.node b.node)) acc = some ⟨dl, r.nodes, r.roads, r.len⟩) := Lib.hid (by rw [HA2.out, HST.out]; rfl)
           have HMP := Lib.hid (HM2.out.put HD.out.2 (z' := ⟨dl, r.nodes, r.roads, r.len⟩) (un := .slice ua um uc) (ur := .slice ra rm rcc) HRT.out HLO.out)
           haveI s7 : Bw V (((((((W6.setCell ⟨b6, 11, none⟩ (.bool (zs dl.num))).setCell ⟨b6, 12, none⟩ (.string (zx dl.num))).setCell ⟨b6, 13, none⟩ (.bool false)).setCell ⟨b6, 14, none⟩ (.string (ry dl.den))).setCell ⟨b8, 0, none⟩ (.slice ua um uc)).setCell ⟨b8, 1, none⟩ (.slice ra rm rcc)).setCell ⟨b8, 2, none⟩ (.int .i64 r.len)) := ⟨((((((bV6.b.setCell HD.out.1 _).setCell HD.out.1 _).setCell HD.out.1 _).setCell HD.out.1 _).setCell (Nat.le_trans HD.out.1 (Nat.le_of_lt HD.out.2)) _).setCell (Nat.le_trans HD.out.1 (Nat.le_of_lt HD.out.2)) _).setCell (Nat.le_trans HD.out.1 (Nat.le_of_lt HD.out.2)) _⟩
           have d68 : ¬ b6 = b8 := by have := HD.out.2; omega
           have d86 : ¬ b8 = b6 := by have := HD.out.2; omega
           have d1 : ¬ b6 = b15 := fun e => by have h1 := HM2.out.way; rw [e, H15.out] at h1; simp at h1
           have d2 : ¬ b15 = b6 := fun e => d1 e.symm
           go_upto_region 18 with fail
           go_region
           all_goals
            go_wp2_with fail
            go_roundw
            case rel =>
             refine ⟨j + 1, some ⟨dl, r.nodes, r.roads, r.len⟩, _, _, rfl, by go_num, by omega, HA3, HZK, Lib.hid (HMP.out.keep Bw.b), ?_⟩
             with_reducible exact ex_junk
            case measure => simp [intOf]; omega
     ·obtain rfl : j = n11 := by omega
      have HA4 : Hid ((X.take (i + 1)).foldl (fun acc a => Y.foldl (fun acc b => bstS acc a b (lstN n a.node b.node)) acc) none = ac) := Lib.hid (by rw [HA1.out, ← HA.out, List.take_of_length_le (by rw [HN11.out]; exact Nat.le_refl _)])
      obtain ⟨Z, rfl⟩ := hZ
      go_wp2_with fail
      go_roundw
      case rel =>
       refine ⟨i + 1, ac, vn, vr, rfl, by go_num, by omega, HA4, HOK, HM, ?_⟩
       with_reducible exact ex_junk
      case measure => simp [intOf]; omega
   ·obtain rfl : i = n9 := by omega
    have hbst : X.foldl (fun acc a => Y.foldl (fun acc b => bstS acc a b (lstN n a.node b.node)) acc) none = acc := by rw [← HA.out, List.take_of_length_le (by rw [HN9.out]; exact Nat.le_refl _)]
    rw [hbst] at HT HLB
    haveI bVr : Bw V wr := by obtain ⟨Z, rfl⟩ := hZ; infer_instance
    haveI bWr : Bw w wr := ⟨bwV.b.trans (bVr.b.mono bwV.b.size)⟩
    have n0r := (bVr.b.cell (p := ⟨w.heap.size, 0, none⟩) lN.lt).trans n0
    have n1r := (bVr.b.cell (p := ⟨w.heap.size, 1, none⟩) lN.lt).trans n1
    have p0r := (bVr.b.cell (p := ⟨w.heap.size + 1, 0, none⟩) lP.lt).trans p0
    have p1r := (bVr.b.cell (p := ⟨w.heap.size + 1, 1, none⟩) lP.lt).trans p1
    have p2r := (bVr.b.cell (p := ⟨w.heap.size + 1, 2, none⟩) lP.lt).trans p2
    have p3r := (bVr.b.cell (p := ⟨w.heap.size + 1, 3, none⟩) lP.lt).trans p3
    have p4r := (bVr.b.cell (p := ⟨w.heap.size + 1, 4, none⟩) lP.lt).trans p4
    have q0r := (bVr.b.cell (p := ⟨w.heap.size + 1 + 1, 0, none⟩) lQ.lt).trans q0
    have q1r := (bVr.b.cell (p := ⟨w.heap.size + 1 + 1, 1, none⟩) lQ.lt).trans q1
    have q2r := (bVr.b.cell (p := ⟨w.heap.size + 1 + 1, 2, none⟩) lQ.lt).trans q2
    have q3r := (bVr.b.cell (p := ⟨w.heap.size + 1 + 1, 3, none⟩) lQ.lt).trans q3
    have q4r := (bVr.b.cell (p := ⟨w.heap.size + 1 + 1, 4, none⟩) lQ.lt).trans q4
    haveI lNr : Lo (w.heap.size) wr := ⟨Nat.lt_of_lt_of_le lN.lt bVr.b.size⟩
    haveI lPr : Lo (w.heap.size + 1) wr := ⟨Nat.lt_of_lt_of_le lP.lt bVr.b.size⟩
    haveI lQr : Lo (w.heap.size + 1 + 1) wr := ⟨Nat.lt_of_lt_of_le lQ.lt bVr.b.size⟩
    clear hZ HA hbst
    obtain ⟨na, nm, nc, rfl, _⟩ := HM.out.rt.nodes.open
    obtain ⟨oa, om, oc, rfl, _⟩ := HM.out.rt.roads.open
    obtain ⟨al, hal⟩ : ∃ x, x = ah.getD 0 := ⟨_, rfl⟩
    obtain ⟨ai, hai⟩ : ∃ x, x = ah.isSome := ⟨_, rfl⟩
    rw [← hal, ← hai] at HAH0
    simp only [rV] at HAH0
    have sal : Sm al := by
     cases ah with
     | none => rw [hal]; exact sm_zero
     | some l => rw [hal]; exact HAI.out l rfl
    have HAL := Lib.hid hal
    have HAI2 := Lib.hid hai
    clear hal hai
    have sz : Sm (acc.getD b0B).len := by
     obtain ⟨g, z0, z1⟩ := HOK.out.len
     exact sm_g64 g (by grind) (by grind)
    have HCP := Lib.hid (fun w' => compare_q al (acc.getD b0B).len w' sal sz)
    have HRL : Hid ((acc.getD b0B).roads.length ≤ 100000) := Lib.hid (by have := HOK.out.roads; omega)
    obtain ⟨z, hz⟩ : ∃ z, acc.getD b0B = z := ⟨_, rfl⟩
    rw [hz] at HM HCP HRL
    have HZ := Lib.hid hz
    generalize hcc : cmpR al z.len = cc at HCP
    have HCC := Lib.hid hcc
    simp only [rV] at HCP
    clear hz hcc sz
    go_wp2_with fail
    refine (jk (HAH0.out _)).mono ?_
    rintro e _ ⟨rfl, X4, rfl⟩
    go_upto_region 20 with fail
    obtain ⟨W10, hW10⟩ : ∃ W10, W10 = ((wr.junk X4).alloc (.cells #[.bool (zs al.num), .string (zx al.num), .bool false, .string (ry al.den)] 41)) := ⟨_, rfl⟩
    haveI bV10 : Bw V W10 := by rw [hW10]; infer_instance
    haveI bw10 : Bw w W10 := by rw [hW10]; infer_instance
    have H19 : Hid (W10.heap[(wr.junk X4).heap.size]? = some (.cells #[.bool (zs al.num), .string (zx al.num), .bool false, .string (ry al.den)] 41 (0, 0))) := Lib.hid (by rw [hW10]; exact obj_last _ _)
    have HM10 := Lib.hid (show BtM V.heap.size b6 b8 p q X Y (.slice a9 i k9) (.slice a11 n11 k11) (.slice na nm nc) (.slice oa om oc) z W10 by rw [hW10]; exact HM.out.keep Bw.b)
    rw [← hW10]
    clear hW10
    generalize (wr.junk X4).heap.size = b19 at *
    have n0t := (bV10.b.cell (p := ⟨w.heap.size, 0, none⟩) lN.lt).trans n0
    have n1t := (bV10.b.cell (p := ⟨w.heap.size, 1, none⟩) lN.lt).trans n1
    haveI lNt : Lo (w.heap.size) W10 := ⟨Nat.lt_of_lt_of_le lN.lt bV10.b.size⟩
    have p0t := (bV10.b.cell (p := ⟨w.heap.size + 1, 0, none⟩) lP.lt).trans p0
    have p1t := (bV10.b.cell (p := ⟨w.heap.size + 1, 1, none⟩) lP.lt).trans p1
    have p2t := (bV10.b.cell (p := ⟨w.heap.size + 1, 2, none⟩) lP.lt).trans p2
    have p3t := (bV10.b.cell (p := ⟨w.heap.size + 1, 3, none⟩) lP.lt).trans p3
    have p4t := (bV10.b.cell (p := ⟨w.heap.size + 1, 4, none⟩) lP.lt).trans p4
    haveI lPt : Lo (w.heap.size + 1) W10 := ⟨Nat.lt_of_lt_of_le lP.lt bV10.b.size⟩
    have q0t := (bV10.b.cell (p := ⟨w.heap.size + 1 + 1, 0, none⟩) lQ.lt).trans q0
    have q1t := (bV10.b.cell (p := ⟨w.heap.size + 1 + 1, 1, none⟩) lQ.lt).trans q1
    have q2t := (bV10.b.cell (p := ⟨w.heap.size + 1 + 1, 2, none⟩) lQ.lt).trans q2
    have q3t := (bV10.b.cell (p := ⟨w.heap.size + 1 + 1, 3, none⟩) lQ.lt).trans q3
    have q4t := (bV10.b.cell (p := ⟨w.heap.size + 1 + 1, 4, none⟩) lQ.lt).trans q4
    haveI lQt : Lo (w.heap.size + 1 + 1) W10 := ⟨Nat.lt_of_lt_of_le lQ.lt bV10.b.size⟩
    clear HM HAH0 bVr bWr n0r n1r p0r p1r p2r p3r p4r q0r q1r q2r q3r q4r lNr lPr lQr
    haveI l19 : Lo b19 W10 := ⟨obj_lt H19.out⟩
    haveI l6 : Lo b6 W10 := ⟨obj_lt HM10.out.way⟩
    haveI l8 : Lo b8 W10 := ⟨obj_lt HM10.out.best⟩
    have a0 := obj_cell H19.out 0
    have a1 := obj_cell H19.out 1
    have a2 := obj_cell H19.out 2
    have a3 := obj_cell H19.out 3
    simp at a0 a1 a2 a3
    have z11 : W10.cell? ⟨b6, 11, none⟩ = some (.bool (zs z.len.num)) := obj_cell HM10.out.way 11
    have z12 : W10.cell? ⟨b6, 12, none⟩ = some (.string (zx z.len.num)) := obj_cell HM10.out.way 12
    have z13 : W10.cell? ⟨b6, 13, none⟩ = some (.bool false) := obj_cell HM10.out.way 13
    have z14 : W10.cell? ⟨b6, 14, none⟩ = some (.string (ry z.len.den)) := obj_cell HM10.out.way 14
    have z10 : W10.cell? ⟨b6, 10, none⟩ = some (.slice none 0 0) := obj_cell HM10.out.way 10
    have r0 := obj_cell HM10.out.best 0
    have r1 := obj_cell HM10.out.best 1
    have r2 := obj_cell HM10.out.best 2
    simp at r0 r1 r2
    have f10 := obj_free HM10.out.way 10
    have f11 := obj_free HM10.out.way 11
    have f12 := obj_free HM10.out.way 12
    have f13 := obj_free HM10.out.way 13
    have f14 := obj_free HM10.out.way 14
    have hw6 : w.heap.size ≤ b6 := Nat.le_trans bwV.b.size HD.out.1
    cases ah with
    | none =>
     obtain rfl : ai = false := HAI2.out
     cases acc with
     | none =>
      have ho : (wyz, false) = out := HT.out
      have hrow : rowN 15 W10 b6 = some #[.int .i64 p.road, .bool (zs p.off.num), .string (zx p.off.num), .bool false, .string (ry p.off.den), .int .i64 q.road, .bool (zs q.off.num), .string (zx q.off.num), .bool false, .string (ry q.off.den), .slice none 0 0, .bool (zs z.len.num), .string (zx z.len.num), .bool false, .string (ry z.len.den)] := rowN_of HM10.out.way rfl
      haveI bs : Bw w (setRow W10 b6 #[.int .i64 0, .bool false, .string ⟨#[]⟩, .bool false, .string ⟨#[]⟩, .int .i64 0, .bool false, .string ⟨#[]⟩, .bool false, .string ⟨#[]⟩, .slice none 0 0, .bool false, .string ⟨#[]⟩, .bool false, .string ⟨#[]⟩]) := ⟨below_setRow bw10.b hw6⟩
      go_wp2_with (first | (refine wl_store (op := ⟨none, .store _ (.tmp 6) (.tmp 146), _, _, _, _⟩) (by rfl) _ _ rfl iWy _ (by rfl) #[.int .i64 0, .bool false, .string ⟨#[]⟩, .bool false, .string ⟨#[]⟩, .int .i64 0, .bool false, .string ⟨#[]⟩, .bool false, .string ⟨#[]⟩, .slice none 0 0, .bool false, .string ⟨#[]⟩, .bool false, .string ⟨#[]⟩] (by rfl) (by rw [hrow]; rfl) rfl (by simp [Value.oneCell']) ?_) | fail)
      refine bodyPost_ret (res_row_tmp rfl _ b6 (by rfl) _ _ (loadVar_is uWy rfl iWy (c := #[.int .i64 0, .bool false, .string ⟨#[]⟩, .bool false, .string ⟨#[]⟩, .int .i64 0, .bool false, .string ⟨#[]⟩, .bool false, .string ⟨#[]⟩, .slice none 0 0, .bool false, .string ⟨#[]⟩, .bool false, .string ⟨#[]⟩]) ?_)) rfl ?_
      ·exact rowN_setRow (by rw [hrow]; rfl) rfl
      ·rw [← ho]
       exact ⟨.slice none 0 0, by rw [wc_zero]; rfl, Ow.nil _ _ _ _, Bw.b⟩
     | some z0 =>
      have hacc : z0 = z := HZ.out
      subst hacc
      have ho : (⟨p, q, lgsN n p q z0.nodes z0.roads, z0.len⟩, true) = out := HT.out
      have HLE := Lib.hid (HLB.out z0 rfl)
      go_wp2_with fail
      have sl1 : Sl W10.heap.size W10 1 (.slice na nm nc) (z0.nodes.map i1) := HM10.out.rt.nodes.later Bw.b
      have sl2 : Sl W10.heap.size W10 1 (.slice oa om oc) (z0.roads.map i1) := HM10.out.rt.roads.later Bw.b
      refine (HLG.out z0.nodes z0.roads z0.rl _ _ _ sl1 sl2 HLE.out HRL.out).mono ?_
      rintro e w5 ⟨v, rfl, ho5, hb5⟩
      obtain ⟨X6, rfl⟩ := below_some hb5
      obtain ⟨av, nv, cv, rfl⟩ := ho5.val
      have HO := Lib.hid ho5
      clear ho5 hb5 sl1 sl2
      go_upto_region 27 with fail
      obtain ⟨W12, hW12⟩ : ∃ W12, W12 = ((W10.setCell ⟨b6, 10, none⟩ (.slice av nv cv)).junk X6) := ⟨_, rfl⟩
      have e12 : W12 = (W10.junk X6).setCell ⟨b6, 10, none⟩ (.slice av nv cv) := by rw [hW12]; simp only [junk_setCell _ _ _ _ _ l6.lt, junk_setCell _ _ _ _ _ (show b6 < (W10).heap.size from Lo.lt)]
      have hobj : W12.heap[b6]? = some (.cells (wcs p q (.slice av nv cv) z0.len) 46 (0, 0)) := by
       rw [e12, obj_set (keepObj Bw.b HM10.out.way)]
       simp [wcs]
      have hB : b6 < (W10).heap.size := Lo.lt
      have hB2 : w.heap.size ≤ (W10).heap.size := (Bw.b (w := w)).size
      have HOW : Hid (Ow (W10).heap.size W12 55 9 (.slice av nv cv) ((lgsN n p q z0.nodes z0.roads).map Lg.cs)) := Lib.hid (by
       rw [e12]
       exact HO.out.keepSet ⟨b6, 10, none⟩ (fun e => absurd (HO.out.type b6 e _ _ _ (keepObj Bw.b HM10.out.way)) (by decide)) _)
      have bw12 : Bw w W12 := by rw [e12]; exact ⟨(Bw.b (w := w)).setCell hw6 _⟩
      rw [← hW12]
      clear hW12 e12
      have hrow : rowN 15 W12 b6 = some (wcs p q (.slice av nv cv) z0.len) := rowN_of hobj rfl
      haveI bs : Bw w (setRow W12 b6 (wcs p q (.slice av nv cv) z0.len)) := ⟨below_setRow bw12.b hw6⟩
      have l612 : b6 < W12.heap.size := obj_lt hobj
      go_wp2_with (first | (refine wl_load (op := ⟨some 153, .load _ (.tmp 6), _, _, _, _⟩) (by rfl) _ rfl uWy rfl iWy _ (by rfl) (wcs p q (.slice av nv cv) z0.len) hrow ?_) | (refine wl_store (op := ⟨none, .store _ (.tmp 6) (.tmp 153), _, _, _, _⟩) (by rfl) _ _ rfl iWy _ (by rfl) (wcs p q (.slice av nv cv) z0.len) (by rfl) (by rw [hrow]; rfl) rfl (by simp [wcs, Value.oneCell']) ?_) | fail)
      refine bodyPost_ret (res_row_tmp rfl _ b6 (by rfl) _ _ (loadVar_is uWy rfl iWy (c := wcs p q (.slice av nv cv) z0.len) ?_)) rfl ?_
      ·exact rowN_setRow (by rw [hrow]; rfl) rfl
      ·rw [← ho]
       exact ⟨.slice av nv cv, rfl, (ow_setRow HOW.out hB).mono hB2, Bw.b⟩
    | some al' =>
     obtain rfl : ai = true := HAI2.out
     obtain rfl : al = al' := HAL.out
     obtain ⟨x, hx⟩ : ∃ x, x = (dirN n p q al).getD lg0 := ⟨_, rfl⟩
     obtain ⟨dk, hdk⟩ : ∃ x, x = (dirN n p q al).isSome := ⟨_, rfl⟩
     have HDR : Hid (∀ (w' : World) [Bw w w'], Calls Tryz.prog 24 #[.agg #[v1, v2], .agg #[.int .i64 p.road, .bool (zs p.off.num), .string (zx p.off.num), .bool false, .string (ry p.off.den)], .agg #[.int .i64 q.road, .bool (zs q.off.num), .string (zx q.off.num), .bool false, .string (ry q.off.den)], .agg #[.bool (zs al.num), .string (zx al.num), .bool false, .string (ry al.den)]] w' fun e w2 => e = .returned (.tuple #[.agg #[.int .i64 x.road, .bool (zs x.a.num), .string (zx x.a.num), .bool false, .string (ry x.a.den), .bool (zs x.b.num), .string (zx x.b.num), .bool false, .string (ry x.b.den)], .bool dk]) ∧ Below w'.heap.size w' w2) := Lib.hid (by rw [hx, hdk]; exact HDR0.out al sal)
     have HX2 := Lib.hid hx
     clear hx hdk
     cases acc with
     | none =>
      have ho : (⟨p, q, [x], al⟩, true) = out := by rw [HX2.out]; exact HT.out
      go_wp2_with fail
      refine (jk (HDR.out _)).mono ?_
      rintro e _ ⟨rfl, X5, rfl⟩
      go_upto_region 22 with fail
      obtain ⟨W11, hW11⟩ : ∃ W11, W11 = ((W10.junk X5).alloc (.cells #[.int .i64 x.road, .bool (zs x.a.num), .string (zx x.a.num), .bool false, .string (ry x.a.den), .bool (zs x.b.num), .string (zx x.b.num), .bool false, .string (ry x.b.den)] 55)) := ⟨_, rfl⟩
      haveI bV11 : Bw V W11 := by rw [hW11]; infer_instance
      haveI bX11 : Bw W10 W11 := by rw [hW11]; infer_instance
      have H21 : Hid (W11.heap[(W10.junk X5).heap.size]? = some (.cells #[.int .i64 x.road, .bool (zs x.a.num), .string (zx x.a.num), .bool false, .string (ry x.a.den), .bool (zs x.b.num), .string (zx x.b.num), .bool false, .string (ry x.b.den)] 55 (0, 0))) := Lib.hid (by rw [hW11]; exact obj_last _ _)
      have H6 : Hid (W11.heap[b6]? = some (.cells #[.int .i64 p.road, .bool (zs p.off.num), .string (zx p.off.num), .bool false, .string (ry p.off.den), .int .i64 q.road, .bool (zs q.off.num), .string (zx q.off.num), .bool false, .string (ry q.off.den), .slice none 0 0, .bool (zs z.len.num), .string (zx z.len.num), .bool false, .string (ry z.len.den)] 46 (0, 0))) := Lib.hid (keepObj bX11.b HM10.out.way)
      rw [← hW11]
      clear hW11
      generalize (W10.junk X5).heap.size = b21 at *
      haveI l21 : Lo b21 W11 := ⟨obj_lt H21.out⟩
      haveI l6e : Lo b6 W11 := ⟨obj_lt H6.out⟩
      haveI l19e : Lo b19 W11 := ⟨Nat.lt_of_lt_of_le l19.lt bX11.b.size⟩
      have x0 := obj_cell H21.out 0
      have x1 := obj_cell H21.out 1
      have x2 := obj_cell H21.out 2
      have x3 := obj_cell H21.out 3
      have x4 := obj_cell H21.out 4
      have x5 := obj_cell H21.out 5
      have x6 := obj_cell H21.out 6
      have x7 := obj_cell H21.out 7
      have x8 := obj_cell H21.out 8
      simp at x0 x1 x2 x3 x4 x5 x6 x7 x8
      have a0e := (bX11.b.cell (p := ⟨b19, 0, none⟩) l19.lt).trans a0
      have a1e := (bX11.b.cell (p := ⟨b19, 1, none⟩) l19.lt).trans a1
      have a2e := (bX11.b.cell (p := ⟨b19, 2, none⟩) l19.lt).trans a2
      have a3e := (bX11.b.cell (p := ⟨b19, 3, none⟩) l19.lt).trans a3
      have z10e := obj_cell H6.out 10
      have z11e := obj_cell H6.out 11
      have z12e := obj_cell H6.out 12
      have z13e := obj_cell H6.out 13
      have z14e := obj_cell H6.out 14
      simp at z10e z11e z12e z13e z14e
      have f10e := obj_free H6.out 10
      have f11e := obj_free H6.out 11
      have f12e := obj_free H6.out 12
      have f13e := obj_free H6.out 13
      have f14e := obj_free H6.out 14
      clear HDR HLG HCP
      go_cut [] (fun wx => ∃ v, Hid (wx.heap[b6]? = some (.cells (wcs p q v al) 46 (0, 0))) ∧ Hid (Ow W11.heap.size wx 55 9 v ([x].map Lg.cs)) ∧ Hid (Below V.heap.size V wx))
      case first =>
       go_region_held3 (fun w' => w'.cell? ⟨b21, 0, none⟩ = some (.int .i64 x.road) ∧ w'.cell? ⟨b21, 1, none⟩ = some (.bool (zs x.a.num)) ∧ w'.cell? ⟨b21, 2, none⟩ = some (.string (zx x.a.num)) ∧ w'.cell? ⟨b21, 3, none⟩ = some (.bool false) ∧ w'.cell? ⟨b21, 4, none⟩ = some (.string (ry x.a.den)) ∧ w'.cell? ⟨b21, 5, none⟩ = some (.bool (zs x.b.num)) ∧ w'.cell? ⟨b21, 6, none⟩ = some (.string (zx x.b.num)) ∧ w'.cell? ⟨b21, 7, none⟩ = some (.bool false) ∧ w'.cell? ⟨b21, 8, none⟩ = some (.string (ry x.b.den)) ∧ w'.cell? ⟨b19, 0, none⟩ = some (.bool (zs al.num)) ∧ w'.cell? ⟨b19, 1, none⟩ = some (.string (zx al.num)) ∧ w'.cell? ⟨b19, 2, none⟩ = some (.bool false) ∧ w'.cell? ⟨b19, 3, none⟩ = some (.string (ry al.den))) (refine ⟨?_, ?_, ?_, ?_, ?_, ?_, ?_, ?_, ?_, ?_, ?_, ?_, ?_⟩ <;> simp [go_sem, x0, x1, x2, x3, x4, x5, x6, x7, x8, a0e, a1e, a2e, a3e]) (fail)
       all_goals
        go_wp2_with fail
        go_meet
        refine ⟨.slice (some ⟨W11.heap.size, 0, none⟩) 1 1, Lib.hid ?_, Lib.hid ?_, Lib.hid ?_⟩
        ·(repeat (first | with_reducible refine obj_old ?_ | with_reducible refine obj_junk ?_ | with_reducible refine obj_drew ?_ | with_reducible refine obj_drewN ?_))
         rw [obj_set (obj_set (obj_set (obj_set (obj_set H6.out))))]
         simp [wcs]
        ·exact own_row (by rfl) (obj_at' (by simp)) (Nat.le_refl _)
        ·try refine Below.drew ?_
         refine Below.alloc ?_ ?_ _
         rotate_left
         ·have := bV11.b.size
          simp
          omega
         refine Below.setCell (Below.setCell (Below.setCell (Below.setCell (Below.setCell bV11.b ?_ _) ?_ _) ?_ _) ?_ _) ?_ _ <;> exact HD.out.1
      case rest =>
       obtain ⟨v, HBv, HO, HW⟩ := hcut
       haveI bxv : Bw V wc := ⟨HW.out⟩
       obtain ⟨av, nv, cv, rfl⟩ := HO.out.val
       have hrow : rowN 15 wc b6 = some (wcs p q (.slice av nv cv) al) := rowN_of HBv.out rfl
       haveI bs : Bw w (setRow wc b6 (wcs p q (.slice av nv cv) al)) := ⟨below_setRow (bwV.b.trans (HW.out.mono bwV.b.size)) hw6⟩
       have l6c : b6 < wc.heap.size := obj_lt HBv.out
       have hbw : w.heap.size ≤ W11.heap.size := Nat.le_trans bw10.b.size bX11.b.size
       go_wp2_with (first | (refine wl_load (op := ⟨some 143, .load _ (.tmp 6), _, _, _, _⟩) (by rfl) _ rfl uWy rfl iWy _ (by rfl) (wcs p q (.slice av nv cv) al) hrow ?_) | (refine wl_store (op := ⟨none, .store _ (.tmp 6) (.tmp 143), _, _, _, _⟩) (by rfl) _ _ rfl iWy _ (by rfl) (wcs p q (.slice av nv cv) al) (by rfl) (by rw [hrow]; rfl) rfl (by simp [wcs, Value.oneCell']) ?_) | fail)
       refine bodyPost_ret (res_row_tmp rfl _ b6 (by rfl) _ _ (loadVar_is uWy rfl iWy (c := wcs p q (.slice av nv cv) al) ?_)) rfl ?_
       ·exact rowN_setRow (by rw [hrow]; rfl) rfl
       ·rw [← ho]
        exact ⟨.slice av nv cv, rfl, (ow_setRow HO.out l6e.lt).mono hbw, Bw.b⟩
     | some z0 =>
      have hacc : z0 = z := HZ.out
      subst hacc
      have ho1 : (if cmpR al z0.len ≤ 0 then (⟨p, q, [x], al⟩, true) else (⟨p, q, lgsN n p q z0.nodes z0.roads, z0.len⟩, true)) = out := by rw [HX2.out]; exact HT.out
      rw [HCC.out] at ho1
      by_cases hle : cc ≤ 0
      ·rw [if_pos hle] at ho1
       have ho := ho1
       clear ho1
       go_wp2_with fail
       refine (jk (HCP.out _)).mono ?_
       rintro e _ ⟨rfl, X7, rfl⟩
       go_wp2_with fail
       refine (jk (HDR.out _)).mono ?_
       rintro e _ ⟨rfl, X5, rfl⟩
       go_upto_region 22 with fail
       obtain ⟨W11, hW11⟩ : ∃ W11, W11 = (((W10.junk X7).junk X5).alloc (.cells #[.int .i64 x.road, .bool (zs x.a.num), .string (zx x.a.num), .bool false, .string (ry x.a.den), .bool (zs x.b.num), .string (zx x.b.num), .bool false, .string (ry x.b.den)] 55)) := ⟨_, rfl⟩
       haveI bV11 : Bw V W11 := by rw [hW11]; infer_instance
       haveI bX11 : Bw W10 W11 := by rw [hW11]; infer_instance
       have H21 : Hid (W11.heap[((W10.junk X7).junk X5).heap.size]? = some (.cells #[.int .i64 x.road, .bool (zs x.a.num), .string (zx x.a.num), .bool false, .string (ry x.a.den), .bool (zs x.b.num), .string (zx x.b.num), .bool false, .string (ry x.b.den)] 55 (0, 0))) := Lib.hid (by rw [hW11]; exact obj_last _ _)
       have H6 : Hid (W11.heap[b6]? = some (.cells #[.int .i64 p.road, .bool (zs p.off.num), .string (zx p.off.num), .bool false, .string (ry p.off.den), .int .i64 q.road, .bool (zs q.off.num), .string (zx q.off.num), .bool false, .string (ry q.off.den), .slice none 0 0, .bool (zs z0.len.num), .string (zx z0.len.num), .bool false, .string (ry z0.len.den)] 46 (0, 0))) := Lib.hid (keepObj bX11.b HM10.out.way)
       rw [← hW11]
       clear hW11
       generalize ((W10.junk X7).junk X5).heap.size = b21 at *
       haveI l21 : Lo b21 W11 := ⟨obj_lt H21.out⟩
       haveI l6e : Lo b6 W11 := ⟨obj_lt H6.out⟩
       haveI l19e : Lo b19 W11 := ⟨Nat.lt_of_lt_of_le l19.lt bX11.b.size⟩
       have x0 := obj_cell H21.out 0
       have x1 := obj_cell H21.out 1
       have x2 := obj_cell H21.out 2
       have x3 := obj_cell H21.out 3
       have x4 := obj_cell H21.out 4
       have x5 := obj_cell H21.out 5
       have x6 := obj_cell H21.out 6
       have x7 := obj_cell H21.out 7
       have x8 := obj_cell H21.out 8
       simp at x0 x1 x2 x3 x4 x5 x6 x7 x8
       have a0e := (bX11.b.cell (p := ⟨b19, 0, none⟩) l19.lt).trans a0
       have a1e := (bX11.b.cell (p := ⟨b19, 1, none⟩) l19.lt).trans a1
       have a2e := (bX11.b.cell (p := ⟨b19, 2, none⟩) l19.lt).trans a2
       have a3e := (bX11.b.cell (p := ⟨b19, 3, none⟩) l19.lt).trans a3
       have z10e := obj_cell H6.out 10
       have z11e := obj_cell H6.out 11
       have z12e := obj_cell H6.out 12
       have z13e := obj_cell H6.out 13
       have z14e := obj_cell H6.out 14
       simp at z10e z11e z12e z13e z14e
       have f10e := obj_free H6.out 10
       have f11e := obj_free H6.out 11
       have f12e := obj_free H6.out 12
       have f13e := obj_free H6.out 13
       have f14e := obj_free H6.out 14
       clear HDR HLG HCP
       go_cut [] (fun wx => ∃ v, Hid (wx.heap[b6]? = some (.cells (wcs p q v al) 46 (0, 0))) ∧ Hid (Ow W11.heap.size wx 55 9 v ([x].map Lg.cs)) ∧ Hid (Below V.heap.size V wx))
       case first =>
        go_region_held3 (fun w' => w'.cell? ⟨b21, 0, none⟩ = some (.int .i64 x.road) ∧ w'.cell? ⟨b21, 1, none⟩ = some (.bool (zs x.a.num)) ∧ w'.cell? ⟨b21, 2, none⟩ = some (.string (zx x.a.num)) ∧ w'.cell? ⟨b21, 3, none⟩ = some (.bool false) ∧ w'.cell? ⟨b21, 4, none⟩ = some (.string (ry x.a.den)) ∧ w'.cell? ⟨b21, 5, none⟩ = some (.bool (zs x.b.num)) ∧ w'.cell? ⟨b21, 6, none⟩ = some (.string (zx x.b.num)) ∧ w'.cell? ⟨b21, 7, none⟩ = some (.bool false) ∧ w'.cell? ⟨b21, 8, none⟩ = some (.string (ry x.b.den)) ∧ w'.cell? ⟨b19, 0, none⟩ = some (.bool (zs al.num)) ∧ w'.cell? ⟨b19, 1, none⟩ = some (.string (zx al.num)) ∧ w'.cell? ⟨b19, 2, none⟩ = some (.bool false) ∧ w'.cell? ⟨b19, 3, none⟩ = some (.string (ry al.den))) (refine ⟨?_, ?_, ?_, ?_, ?_, ?_, ?_, ?_, ?_, ?_, ?_, ?_, ?_⟩ <;> simp [go_sem, x0, x1, x2, x3, x4, x5, x6, x7, x8, a0e, a1e, a2e, a3e]) (fail)
        all_goals
         go_wp2_with fail
         go_meet
         refine ⟨.slice (some ⟨W11.heap.size, 0, none⟩) 1 1, Lib.hid ?_, Lib.hid ?_, Lib.hid ?_⟩
         ·(repeat (first | with_reducible refine obj_old ?_ | with_reducible refine obj_junk ?_ | with_reducible refine obj_drew ?_ | with_reducible refine obj_drewN ?_))
          rw [obj_set (obj_set (obj_set (obj_set (obj_set H6.out))))]
          simp [wcs]
         ·exact own_row (by rfl) (obj_at' (by simp)) (Nat.le_refl _)
         ·try refine Below.drew ?_
          refine Below.alloc ?_ ?_ _
          rotate_left
          ·have := bV11.b.size
           simp
           omega
          refine Below.setCell (Below.setCell (Below.setCell (Below.setCell (Below.setCell bV11.b ?_ _) ?_ _) ?_ _) ?_ _) ?_ _ <;> exact HD.out.1
       case rest =>
        obtain ⟨v, HBv, HO, HW⟩ := hcut
        haveI bxv : Bw V wc := ⟨HW.out⟩
        obtain ⟨av, nv, cv, rfl⟩ := HO.out.val
        have hrow : rowN 15 wc b6 = some (wcs p q (.slice av nv cv) al) := rowN_of HBv.out rfl
        haveI bs : Bw w (setRow wc b6 (wcs p q (.slice av nv cv) al)) := ⟨below_setRow (bwV.b.trans (HW.out.mono bwV.b.size)) hw6⟩
        have l6c : b6 < wc.heap.size := obj_lt HBv.out
        have hbw : w.heap.size ≤ W11.heap.size := Nat.le_trans bw10.b.size bX11.b.size
        go_wp2_with (first | (refine wl_load (op := ⟨some 143, .load _ (.tmp 6), _, _, _, _⟩) (by rfl) _ rfl uWy rfl iWy _ (by rfl) (wcs p q (.slice av nv cv) al) hrow ?_) | (refine wl_store (op := ⟨none, .store _ (.tmp 6) (.tmp 143), _, _, _, _⟩) (by rfl) _ _ rfl iWy _ (by rfl) (wcs p q (.slice av nv cv) al) (by rfl) (by rw [hrow]; rfl) rfl (by simp [wcs, Value.oneCell']) ?_) | fail)
        refine bodyPost_ret (res_row_tmp rfl _ b6 (by rfl) _ _ (loadVar_is uWy rfl iWy (c := wcs p q (.slice av nv cv) al) ?_)) rfl ?_
        ·exact rowN_setRow (by rw [hrow]; rfl) rfl
        ·rw [← ho]
         exact ⟨.slice av nv cv, rfl, (ow_setRow HO.out l6e.lt).mono hbw, Bw.b⟩
      ·rw [if_neg hle] at ho1
       have ho := ho1
       clear ho1
       have HLE := Lib.hid (HLB.out z0 rfl)
       have hle2 : 0 < cc := by omega
       go_wp2_with fail
       refine (jk (HCP.out _)).mono ?_
       rintro e _ ⟨rfl, X7, rfl⟩
       go_wp2_with fail
       have sl1 : Sl (W10.junk X7).heap.size (W10.junk X7) 1 (.slice na nm nc) (z0.nodes.map i1) := HM10.out.rt.nodes.later Bw.b
       have sl2 : Sl (W10.junk X7).heap.size (W10.junk X7) 1 (.slice oa om oc) (z0.roads.map i1) := HM10.out.rt.roads.later Bw.b
       refine (HLG.out z0.nodes z0.roads z0.rl _ _ _ sl1 sl2 HLE.out HRL.out).mono ?_
       rintro e w5 ⟨v, rfl, ho5, hb5⟩
       obtain ⟨X6, rfl⟩ := below_some hb5
       obtain ⟨av, nv, cv, rfl⟩ := ho5.val
       have HO := Lib.hid ho5
       clear ho5 hb5 sl1 sl2
       go_upto_region 27 with fail
       obtain ⟨W12, hW12⟩ : ∃ W12, W12 = (((W10.setCell ⟨b6, 10, none⟩ (.slice av nv cv)).junk X7).junk X6) := ⟨_, rfl⟩
       have e12 : W12 = ((W10.junk X7).junk X6).setCell ⟨b6, 10, none⟩ (.slice av nv cv) := by rw [hW12]; simp only [junk_setCell _ _ _ _ _ l6.lt, junk_setCell _ _ _ _ _ (show b6 < ((W10.junk X7)).heap.size from Lo.lt)]
       have hobj : W12.heap[b6]? = some (.cells (wcs p q (.slice av nv cv) z0.len) 46 (0, 0)) := by
        rw [e12, obj_set (keepObj Bw.b HM10.out.way)]
        simp [wcs]
       have hB : b6 < ((W10.junk X7)).heap.size := Lo.lt
       have hB2 : w.heap.size ≤ ((W10.junk X7)).heap.size := (Bw.b (w := w)).size
       have HOW : Hid (Ow ((W10.junk X7)).heap.size W12 55 9 (.slice av nv cv) ((lgsN n p q z0.nodes z0.roads).map Lg.cs)) := Lib.hid (by
        rw [e12]
        exact HO.out.keepSet ⟨b6, 10, none⟩ (fun e => absurd (HO.out.type b6 e _ _ _ (keepObj Bw.b HM10.out.way)) (by decide)) _)
       have bw12 : Bw w W12 := by rw [e12]; exact ⟨(Bw.b (w := w)).setCell hw6 _⟩
       rw [← hW12]
       clear hW12 e12
       have hrow : rowN 15 W12 b6 = some (wcs p q (.slice av nv cv) z0.len) := rowN_of hobj rfl
       haveI bs : Bw w (setRow W12 b6 (wcs p q (.slice av nv cv) z0.len)) := ⟨below_setRow bw12.b hw6⟩
       have l612 : b6 < W12.heap.size := obj_lt hobj
       go_wp2_with (first | (refine wl_load (op := ⟨some 153, .load _ (.tmp 6), _, _, _, _⟩) (by rfl) _ rfl uWy rfl iWy _ (by rfl) (wcs p q (.slice av nv cv) z0.len) hrow ?_) | (refine wl_store (op := ⟨none, .store _ (.tmp 6) (.tmp 153), _, _, _, _⟩) (by rfl) _ _ rfl iWy _ (by rfl) (wcs p q (.slice av nv cv) z0.len) (by rfl) (by rw [hrow]; rfl) rfl (by simp [wcs, Value.oneCell']) ?_) | fail)
       refine bodyPost_ret (res_row_tmp rfl _ b6 (by rfl) _ _ (loadVar_is uWy rfl iWy (c := wcs p q (.slice av nv cv) z0.len) ?_)) rfl ?_
       ·exact rowN_setRow (by rw [hrow]; rfl) rfl
       ·rw [← ho]
        exact ⟨.slice av nv cv, rfl, (ow_setRow HOW.out hB).mono hB2, Bw.b⟩
end Go.Proofs.YtcelpkbmcmnogaaGreatDoor
