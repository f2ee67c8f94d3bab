/-
 The law's direct leg, walked.
-/
import Derived.Test.YtcelpkbmcmnogaaGreatDoorBtwM
import Derived.Test.YtcelpkbmcmnogaaGreatDoorAlgW
set_option linter.unusedSimpArgs false
set_option linter.unusedVariables false
namespace Go.Proofs.YtcelpkbmcmnogaaGreatDoor
open Go Go.RowKit Go.Vi
attribute [local go_sem ↓] lo_lt lo_ne lo_ne'
attribute [local go_sem] junk_cell junk_frozen junk_setCell junk_drew drew_junk
attribute [local go_sem high] eqR_run eqG_run eqP_run
def frD (p : Plc) (r : Rd) : List Rat := [0, (r.len : Rat), p.off]
theorem dirP_at (p q : Plc) (r : Rd) (a b : Nat) (ha : a < 3) (hb : b < 3) : (dirP p q r)[3 * a + b]! = ((frD p r)[a]!, (frD q r)[b]!) := by
 rcases a with _ | _ | _ | a <;> rcases b with _ | _ | _ | b <;> first | rfl | omega
theorem dirP_len (p q : Plc) (r : Rd) : (dirP p q r).length = 9 := rfl
theorem bw_set9 {w V : World} [h : Bw w V] {g : Nat} (hg : w.heap.size ≤ g) (a b c d e f i j k : Value) : Bw w (((((((((V.setCell ⟨g, 0, none⟩ a).setCell ⟨g, 1, none⟩ b).setCell ⟨g, 2, none⟩ c).setCell ⟨g, 3, none⟩ d).setCell ⟨g, 4, none⟩ e).setCell ⟨g, 5, none⟩ f).setCell ⟨g, 6, none⟩ i).setCell ⟨g, 7, none⟩ j).setCell ⟨g, 8, none⟩ k) :=
 ⟨((((((((h.b.setCell hg _).setCell hg _).setCell hg _).setCell hg _).setCell hg _).setCell hg _).setCell hg _).setCell hg _).setCell hg _⟩
theorem obj_set9o {w : World} {b g : Nat} {o : Obj} (h : w.heap[b]? = some o) (hne : ¬ b = g) (v0 v1 v2 v3 v4 v5 v6 v7 v8 : Value) : (((((((((w.setCell ⟨g, 0, none⟩ v0).setCell ⟨g, 1, none⟩ v1).setCell ⟨g, 2, none⟩ v2).setCell ⟨g, 3, none⟩ v3).setCell ⟨g, 4, none⟩ v4).setCell ⟨g, 5, none⟩ v5).setCell ⟨g, 6, none⟩ v6).setCell ⟨g, 7, none⟩ v7).setCell ⟨g, 8, none⟩ v8).heap[b]? = some o :=
 obj_setOther (obj_setOther (obj_setOther (obj_setOther (obj_setOther (obj_setOther (obj_setOther (obj_setOther (obj_setOther h hne) hne) hne) hne) hne) hne) hne) hne) hne
theorem row4 (w : World) (g : Nat) (a b c d : Value) : w.grownBy ((((w.setCell ⟨g, 0, none⟩ a).setCell ⟨g, 1, none⟩ b).setCell ⟨g, 2, none⟩ c).setCell ⟨g, 3, none⟩ d) (some g) :=
 (row3 w g 0 1 2 a b c).trans (row1 _ g 3 d)
theorem fr_cell {w : World} {b a : Nat} {p : Plc} {r : Rd} {rl : Rat} {T : TypeId} {fr : Nat × Nat} (hrl : rl = (r.len : Rat)) (h : w.heap[b]? = some (.cells #[.bool false, .string ⟨#[]⟩, .bool false, .string ⟨#[]⟩, .bool (zs rl.num), .string (zx rl.num), .bool false, .string (ry rl.den), .bool (zs p.off.num), .string (zx p.off.num), .bool false, .string (ry p.off.den)] T fr)) (ha : a < 3) :
  w.cell? ⟨b, a * 4, none⟩ = some (.bool (zs ((frD p r)[a]!).num)) ∧ w.cell? ⟨b, a * 4 + 1, none⟩ = some (.string (zx ((frD p r)[a]!).num)) ∧ w.cell? ⟨b, a * 4 + 2, none⟩ = some (.bool false) ∧ w.cell? ⟨b, a * 4 + 3, none⟩ = some (.string (ry ((frD p r)[a]!).den)) := by
 subst hrl
 rcases a with _ | _ | _ | a
 ·have e : (frD p r)[0]! = 0 := rfl
  rw [e, zc0, zc1, zc2]
  exact ⟨obj_cell h 0, obj_cell h 1, obj_cell h 2, obj_cell h 3⟩
 ·exact ⟨obj_cell h 4, obj_cell h 5, obj_cell h 6, obj_cell h 7⟩
 ·exact ⟨obj_cell h 8, obj_cell h 9, obj_cell h 10, obj_cell h 11⟩
 ·omega
set_option maxRecDepth 100000 in
set_option maxHeartbeats 4000000 in
theorem dir_q (n : Net) (p q : Plc) (len : Rat) (v1 v2 : Value) (w : World) (hN : NetAt w.heap.size w v1 v2 n) (hK : NetOK n) (hp : Sm p.off) (hq : Sm q.off) (hl : Sm len) (hF : ∀ r ∈ n.roads, ∀ x ∈ dirP p q r, Sm x.1 ∧ Sm x.2 ∧ Sm (x.2 - x.1)) :
  Calls Tryz.prog 24 #[.agg #[v1, v2], .agg #[.int .i64 p.road, .bool (zs p.off.num), .string (zx p.off.num), .bool false, .string (ry p.off.den)], .agg #[.int .i64 q.road, .bool (zs q.off.num), .string (zx q.off.num), .bool false, .string (ry q.off.den)], .agg #[.bool (zs len.num), .string (zx len.num), .bool false, .string (ry len.den)]] w fun e w' => e = .returned (.tuple #[((dirN n p q len).getD lg0).v, .bool (dirN n p q len).isSome]) ∧ Below w.heap.size w w' := by
 obtain ⟨a2, n2, c2, rfl, hn, hn1, hn2⟩ := hN.2.open
 rw [List.length_map] at hn
 have hn3 : n2 ≤ 1024 := by rw [← hn]; exact hK.few.2
 obtain ⟨out, hout⟩ : ∃ o, dirN n p q len = o := ⟨_, rfl⟩
 rw [hout]
 have HT := Lib.hid hout
 have HN := Lib.hid hN
 have HK := Lib.hid hK
 have HL := Lib.hid hn
 have HF := Lib.hid hF
 have HSP : Hid (∀ (s : Plc), Sm s.off → ∀ (w' : World) [Bw w w'], Calls Tryz.prog 17 #[.agg #[v1, .slice a2 n2 c2], .agg #[.int .i64 p.road, .bool (zs p.off.num), .string (zx p.off.num), .bool false, .string (ry p.off.den)], .agg #[.int .i64 s.road, .bool (zs s.off.num), .string (zx s.off.num), .bool false, .string (ry s.off.den)]] w' fun e w2 => e = .returned (.bool (sameN n p s)) ∧ Below w'.heap.size w' w2) := Lib.hid (fun s hs w' _ => (same_bw hN hK p s hp hs).out w')
 have HSQ : Hid (∀ (s : Plc), Sm s.off → ∀ (w' : World) [Bw w w'], Calls Tryz.prog 17 #[.agg #[v1, .slice a2 n2 c2], .agg #[.int .i64 q.road, .bool (zs q.off.num), .string (zx q.off.num), .bool false, .string (ry q.off.den)], .agg #[.int .i64 s.road, .bool (zs s.off.num), .string (zx s.off.num), .bool false, .string (ry s.off.den)]] w' fun e w2 => e = .returned (.bool (sameN n q s)) ∧ Below w'.heap.size w' w2) := Lib.hid (fun s hs w' _ => (same_bw hN hK q s hq hs).out w')
 clear hN hK hn hn2 hout hp hq hF
 go_enter Tryz.func24, Tryz.ntmps24
 go_wp2_with fail
 obtain ⟨V, hV⟩ : ∃ V, V = ((((w.alloc (.cells #[v1, .slice a2 n2 c2] 36)).alloc (.cells #[.int .i64 p.road, .bool (zs p.off.num), .string (zx p.off.num), .bool false, .string (ry p.off.den)] 43)).alloc (.cells #[.int .i64 q.road, .bool (zs q.off.num), .string (zx q.off.num), .bool false, .string (ry q.off.den)] 43)).alloc (.cells #[.bool (zs len.num), .string (zx len.num), .bool false, .string (ry len.den)] 41)) := ⟨_, rfl⟩
 have n0 : V.cell? ⟨w.heap.size, 0, none⟩ = some (v1) := by rw [hV]; simp [go_sem]
 have n1 : V.cell? ⟨w.heap.size, 1, none⟩ = some (.slice a2 n2 c2) := by rw [hV]; simp [go_sem]
 haveI lN : Lo (w.heap.size) V := by rw [hV]; infer_instance
 have p0 : V.cell? ⟨w.heap.size + 1, 0, none⟩ = some (.int .i64 p.road) := by rw [hV]; simp [go_sem]
 have p1 : V.cell? ⟨w.heap.size + 1, 1, none⟩ = some (.bool (zs p.off.num)) := by rw [hV]; simp [go_sem]
 have p2 : V.cell? ⟨w.heap.size + 1, 2, none⟩ = some (.string (zx p.off.num)) := by rw [hV]; simp [go_sem]
 have p3 : V.cell? ⟨w.heap.size + 1, 3, none⟩ = some (.bool false) := by rw [hV]; simp [go_sem]
 have p4 : V.cell? ⟨w.heap.size + 1, 4, none⟩ = some (.string (ry p.off.den)) := by rw [hV]; simp [go_sem]
 haveI lP : Lo (w.heap.size + 1) V := by rw [hV]; infer_instance
 have q0 : V.cell? ⟨w.heap.size + 1 + 1, 0, none⟩ = some (.int .i64 q.road) := by rw [hV]; simp [go_sem]
 have q1 : V.cell? ⟨w.heap.size + 1 + 1, 1, none⟩ = some (.bool (zs q.off.num)) := by rw [hV]; simp [go_sem]
 have q2 : V.cell? ⟨w.heap.size + 1 + 1, 2, none⟩ = some (.string (zx q.off.num)) := by rw [hV]; simp [go_sem]
 have q3 : V.cell? ⟨w.heap.size + 1 + 1, 3, none⟩ = some (.bool false) := by rw [hV]; simp [go_sem]
 have q4 : V.cell? ⟨w.heap.size + 1 + 1, 4, none⟩ = some (.string (ry q.off.den)) := by rw [hV]; simp [go_sem]
 haveI lQ : Lo (w.heap.size + 1 + 1) V := by rw [hV]; infer_instance
 have e0 : V.cell? ⟨w.heap.size + 1 + 1 + 1, 0, none⟩ = some (.bool (zs len.num)) := by rw [hV]; simp [go_sem]
 have e1 : V.cell? ⟨w.heap.size + 1 + 1 + 1, 1, none⟩ = some (.string (zx len.num)) := by rw [hV]; simp [go_sem]
 have e2 : V.cell? ⟨w.heap.size + 1 + 1 + 1, 2, none⟩ = some (.bool false) := by rw [hV]; simp [go_sem]
 have e3 : V.cell? ⟨w.heap.size + 1 + 1 + 1, 3, none⟩ = some (.string (ry len.den)) := by rw [hV]; simp [go_sem]
 haveI lL : Lo (w.heap.size + 1 + 1 + 1) V := by rw [hV]; infer_instance
 haveI bwV : Bw w V := by rw [hV]; infer_instance
 have hVs : V.heap.size = w.heap.size + 1 + 1 + 1 + 1 := by rw [hV]; simp
 rw [← hV]
 clear hV
 generalize e8 : w.heap.size + 1 + 1 + 1 + 1 = b8 at *
 have H8 : Hid ((V.alloc (.cells #[.int .i64 0, .bool false, .string ⟨#[]⟩, .bool false, .string ⟨#[]⟩, .bool false, .string ⟨#[]⟩, .bool false, .string ⟨#[]⟩] 55)).heap[b8]? = some (.cells #[.int .i64 lg0.road, .bool (zs lg0.a.num), .string (zx lg0.a.num), .bool false, .string (ry lg0.a.den), .bool (zs lg0.b.num), .string (zx lg0.b.num), .bool false, .string (ry lg0.b.den)] 55 (0, 0))) := Lib.hid (by
  have e : (#[.int .i64 0, .bool false, .string ⟨#[]⟩, .bool false, .string ⟨#[]⟩, .bool false, .string ⟨#[]⟩, .bool false, .string ⟨#[]⟩] : Array Value) = #[.int .i64 lg0.road, .bool (zs lg0.a.num), .string (zx lg0.a.num), .bool false, .string (ry lg0.a.den), .bool (zs lg0.b.num), .string (zx lg0.b.num), .bool false, .string (ry lg0.b.den)] := by unfold lg0; simp only [zc0, zc1, zc2]
  rw [← e]
  exact obj_at' hVs)
 have HW : Hid (∃ U, (V.alloc (.cells #[.int .i64 0, .bool false, .string ⟨#[]⟩, .bool false, .string ⟨#[]⟩, .bool false, .string ⟨#[]⟩, .bool false, .string ⟨#[]⟩] 55)) = V.junk U) := Lib.hid (by with_reducible exact ex_junk)
 generalize (V.alloc (.cells #[.int .i64 0, .bool false, .string ⟨#[]⟩, .bool false, .string ⟨#[]⟩, .bool false, .string ⟨#[]⟩, .bool false, .string ⟨#[]⟩] 55)) = W1 at *
 have hb8 : V.heap.size ≤ b8 := by omega
 have hlt8 : w.heap.size + 1 + 1 + 1 < b8 := by omega
 clear e8 hVs
 have HT0 : Hid ((none : Option Lg).or ((n.roads.drop 0).findSome? (dirR n p q len)) = out) := Lib.hid (by rw [List.drop_zero]; exact HT.out)
 go_loopw [9, 10] (fun s9 s10 wr => ∃ (i : Nat) (acc : Option Lg), s9 = .bool acc.isSome ∧ s10 = .int .i64 i ∧ i ≤ n2 ∧ Hid (acc.or ((n.roads.drop i).findSome? (dirR n p q len)) = out) ∧ Hid (wr.heap[b8]? = some (.cells #[.int .i64 (acc.getD lg0).road, .bool (zs (acc.getD lg0).a.num), .string (zx (acc.getD lg0).a.num), .bool false, .string (ry (acc.getD lg0).a.den), .bool (zs (acc.getD lg0).b.num), .string (zx (acc.getD lg0).b.num), .bool false, .string (ry (acc.getD lg0).b.den)] 55 (0, 0))) ∧ ∃ U, wr = V.junk U) (fun _ s10 _ => n2 - (intOf s10).toNat)
 case atStart => exact ⟨0, none, rfl, rfl, Nat.zero_le _, HT0, H8, HW.out⟩
 case round =>
  rename_i s9 s10 _
  clear H8 HW HT HT0
  obtain ⟨i, acc, rfl, rfl, hi, HT, H8, hU⟩ := hrel
  haveI bV : Bw V wr := by obtain ⟨U, rfl⟩ := hU; infer_instance
  haveI bW : Bw w wr := ⟨bwV.b.trans (bV.b.mono bwV.b.size)⟩
  clear hU
  have n0r := (bV.b.cell (p := ⟨w.heap.size, 0, none⟩) lN.lt).trans n0
  have n1r := (bV.b.cell (p := ⟨w.heap.size, 1, none⟩) lN.lt).trans n1
  have p0r := (bV.b.cell (p := ⟨w.heap.size + 1, 0, none⟩) lP.lt).trans p0
  have p1r := (bV.b.cell (p := ⟨w.heap.size + 1, 1, none⟩) lP.lt).trans p1
  have p2r := (bV.b.cell (p := ⟨w.heap.size + 1, 2, none⟩) lP.lt).trans p2
  have p3r := (bV.b.cell (p := ⟨w.heap.size + 1, 3, none⟩) lP.lt).trans p3
  have p4r := (bV.b.cell (p := ⟨w.heap.size + 1, 4, none⟩) lP.lt).trans p4
  have q0r := (bV.b.cell (p := ⟨w.heap.size + 1 + 1, 0, none⟩) lQ.lt).trans q0
  have q1r := (bV.b.cell (p := ⟨w.heap.size + 1 + 1, 1, none⟩) lQ.lt).trans q1
  have q2r := (bV.b.cell (p := ⟨w.heap.size + 1 + 1, 2, none⟩) lQ.lt).trans q2
  have q3r := (bV.b.cell (p := ⟨w.heap.size + 1 + 1, 3, none⟩) lQ.lt).trans q3
  have q4r := (bV.b.cell (p := ⟨w.heap.size + 1 + 1, 4, none⟩) lQ.lt).trans q4
  have e0r := (bV.b.cell (p := ⟨w.heap.size + 1 + 1 + 1, 0, none⟩) lL.lt).trans e0
  have e1r := (bV.b.cell (p := ⟨w.heap.size + 1 + 1 + 1, 1, none⟩) lL.lt).trans e1
  have e2r := (bV.b.cell (p := ⟨w.heap.size + 1 + 1 + 1, 2, none⟩) lL.lt).trans e2
  have e3r := (bV.b.cell (p := ⟨w.heap.size + 1 + 1 + 1, 3, none⟩) lL.lt).trans e3
  haveI lNr : Lo (w.heap.size) wr := ⟨Nat.lt_of_lt_of_le lN.lt bV.b.size⟩
  haveI lPr : Lo (w.heap.size + 1) wr := ⟨Nat.lt_of_lt_of_le lP.lt bV.b.size⟩
  haveI lQr : Lo (w.heap.size + 1 + 1) wr := ⟨Nat.lt_of_lt_of_le lQ.lt bV.b.size⟩
  haveI lLr : Lo (w.heap.size + 1 + 1 + 1) wr := ⟨Nat.lt_of_lt_of_le lL.lt bV.b.size⟩
  cases acc with
  | some y =>
   have ho := HT.out
   simp only [Option.some_or] at ho
   subst ho
   simp only [Option.isSome_some, Option.getD_some] at H8 ⊢
   clear HT
   by_cases hlt : i < n2
   ·haveI l8 : Lo b8 wr := ⟨obj_lt H8.out⟩
    have z0 := obj_cell H8.out 0
    have z1 := obj_cell H8.out 1
    have z2 := obj_cell H8.out 2
    have z3 := obj_cell H8.out 3
    have z4 := obj_cell H8.out 4
    have z5 := obj_cell H8.out 5
    have z6 := obj_cell H8.out 6
    have z7 := obj_cell H8.out 7
    have z8 := obj_cell H8.out 8
    simp at z0 z1 z2 z3 z4 z5 z6 z7 z8
    have f0 := obj_free H8.out 0
    have f1 := obj_free H8.out 1
    have f2 := obj_free H8.out 2
    have f3 := obj_free H8.out 3
    have f4 := obj_free H8.out 4
    have f5 := obj_free H8.out 5
    have f6 := obj_free H8.out 6
    have f7 := obj_free H8.out 7
    have f8 := obj_free H8.out 8
    haveI b9 : Bw w (((((((((wr.setCell ⟨b8, 0, none⟩ (.int .i64 y.road)).setCell ⟨b8, 1, none⟩ (.bool (zs y.a.num))).setCell ⟨b8, 2, none⟩ (.string (zx y.a.num))).setCell ⟨b8, 3, none⟩ (.bool false)).setCell ⟨b8, 4, none⟩ (.string (ry y.a.den))).setCell ⟨b8, 5, none⟩ (.bool (zs y.b.num))).setCell ⟨b8, 6, none⟩ (.string (zx y.b.num))).setCell ⟨b8, 7, none⟩ (.bool false)).setCell ⟨b8, 8, none⟩ (.string (ry y.b.den))) := bw_set9 (by have := bwV.b.size; omega) _ _ _ _ _ _ _ _ _
    go_wp2_with fail
    exact bodyPost_ret (v := .tuple #[.agg #[.int .i64 y.road, .bool (zs y.a.num), .string (zx y.a.num), .bool false, .string (ry y.a.den), .bool (zs y.b.num), .string (zx y.b.num), .bool false, .string (ry y.b.den)], .bool true]) (by simp [results, Tryz.results24, go_sem, z0, f0, z1, f1, z2, f2, z3, f3, z4, f4, z5, f5, z6, f6, z7, f7, z8, f8]) rfl ⟨rfl, Bw.b⟩
   ·have hlt2 : ¬ (i : Int) < (n2 : Int) := by omega
    haveI l8 : Lo b8 wr := ⟨obj_lt H8.out⟩
    have z0 := obj_cell H8.out 0
    have z1 := obj_cell H8.out 1
    have z2 := obj_cell H8.out 2
    have z3 := obj_cell H8.out 3
    have z4 := obj_cell H8.out 4
    have z5 := obj_cell H8.out 5
    have z6 := obj_cell H8.out 6
    have z7 := obj_cell H8.out 7
    have z8 := obj_cell H8.out 8
    simp at z0 z1 z2 z3 z4 z5 z6 z7 z8
    have f0 := obj_free H8.out 0
    have f1 := obj_free H8.out 1
    have f2 := obj_free H8.out 2
    have f3 := obj_free H8.out 3
    have f4 := obj_free H8.out 4
    have f5 := obj_free H8.out 5
    have f6 := obj_free H8.out 6
    have f7 := obj_free H8.out 7
    have f8 := obj_free H8.out 8
    haveI b9 : Bw w (((((((((wr.setCell ⟨b8, 0, none⟩ (.int .i64 y.road)).setCell ⟨b8, 1, none⟩ (.bool (zs y.a.num))).setCell ⟨b8, 2, none⟩ (.string (zx y.a.num))).setCell ⟨b8, 3, none⟩ (.bool false)).setCell ⟨b8, 4, none⟩ (.string (ry y.a.den))).setCell ⟨b8, 5, none⟩ (.bool (zs y.b.num))).setCell ⟨b8, 6, none⟩ (.string (zx y.b.num))).setCell ⟨b8, 7, none⟩ (.bool false)).setCell ⟨b8, 8, none⟩ (.string (ry y.b.den))) := bw_set9 (by have := bwV.b.size; omega) _ _ _ _ _ _ _ _ _
    go_wp2_with fail
    exact bodyPost_ret (v := .tuple #[.agg #[.int .i64 y.road, .bool (zs y.a.num), .string (zx y.a.num), .bool false, .string (ry y.a.den), .bool (zs y.b.num), .string (zx y.b.num), .bool false, .string (ry y.b.den)], .bool true]) (by simp [results, Tryz.results24, go_sem, z0, f0, z1, f1, z2, f2, z3, f3, z4, f4, z5, f5, z6, f6, z7, f7, z8, f8]) rfl ⟨rfl, Bw.b⟩
  | none =>
   simp only [Option.none_or, Option.isSome_none, Option.getD_none] at HT H8 ⊢
   by_cases hlt : i < n2
   rotate_left
   ·obtain rfl : i = n2 := by omega
    have ho := HT.out
    rw [List.drop_eq_nil_of_le (by rw [HL.out]; exact Nat.le_refl _)] at ho
    simp only [List.findSome?_nil] at ho
    subst ho
    try simp only [Option.isSome_none, Option.getD_none]
    clear HT
    haveI l8 : Lo b8 wr := ⟨obj_lt H8.out⟩
    have z0 := obj_cell H8.out 0
    have z1 := obj_cell H8.out 1
    have z2 := obj_cell H8.out 2
    have z3 := obj_cell H8.out 3
    have z4 := obj_cell H8.out 4
    have z5 := obj_cell H8.out 5
    have z6 := obj_cell H8.out 6
    have z7 := obj_cell H8.out 7
    have z8 := obj_cell H8.out 8
    simp at z0 z1 z2 z3 z4 z5 z6 z7 z8
    have f0 := obj_free H8.out 0
    have f1 := obj_free H8.out 1
    have f2 := obj_free H8.out 2
    have f3 := obj_free H8.out 3
    have f4 := obj_free H8.out 4
    have f5 := obj_free H8.out 5
    have f6 := obj_free H8.out 6
    have f7 := obj_free H8.out 7
    have f8 := obj_free H8.out 8
    haveI b9 : Bw w (((((((((wr.setCell ⟨b8, 0, none⟩ (.int .i64 lg0.road)).setCell ⟨b8, 1, none⟩ (.bool (zs lg0.a.num))).setCell ⟨b8, 2, none⟩ (.string (zx lg0.a.num))).setCell ⟨b8, 3, none⟩ (.bool false)).setCell ⟨b8, 4, none⟩ (.string (ry lg0.a.den))).setCell ⟨b8, 5, none⟩ (.bool (zs lg0.b.num))).setCell ⟨b8, 6, none⟩ (.string (zx lg0.b.num))).setCell ⟨b8, 7, none⟩ (.bool false)).setCell ⟨b8, 8, none⟩ (.string (ry lg0.b.den))) := bw_set9 (by have := bwV.b.size; omega) _ _ _ _ _ _ _ _ _
    go_wp2_with fail
    exact bodyPost_ret (v := .tuple #[.agg #[.int .i64 lg0.road, .bool (zs lg0.a.num), .string (zx lg0.a.num), .bool false, .string (ry lg0.a.den), .bool (zs lg0.b.num), .string (zx lg0.b.num), .bool false, .string (ry lg0.b.den)], .bool false]) (by simp [results, Tryz.results24, go_sem, z0, f0, z1, f1, z2, f2, z3, f3, z4, f4, z5, f5, z6, f6, z7, f7, z8, f8]) rfl ⟨rfl, Bw.b⟩
   have hkl : i < n.roads.length := by rw [HL.out]; exact hlt
   obtain ⟨b, off, rfl, hb, d⟩ := rd_cells HN.out.2 i hkl
   obtain ⟨d0, d1, d2, d3, d4, d5⟩ := d i hkl
   haveI lb : Lo b w := ⟨hb⟩
   haveI lbr : Lo b wr := ⟨Nat.lt_of_lt_of_le hb bW.b.size⟩
   have hmem : n.roads[i]! ∈ n.roads := by rw [getElem!_pos n.roads i hkl]; exact List.getElem_mem hkl
   have hlen := HK.out.len _ hmem
   have HF1 := Lib.hid (HF.out _ hmem)
   have hdr : n.roads.drop i = n.roads[i]! :: n.roads.drop (i + 1) := by rw [List.drop_eq_getElem_cons hkl, getElem!_pos n.roads i hkl]
   have HT2 : Hid ((dirR n p q len n.roads[i]!).or ((n.roads.drop (i + 1)).findSome? (dirR n p q len)) = out) := Lib.hid (by
    have h := HT.out
    rw [hdr, List.findSome?_cons] at h
    rw [← h]
    cases dirR n p q len n.roads[i]! <;> rfl)
   unfold dirR at HT2
   generalize n.roads[i]! = r at d0 d1 d2 d3 d4 d5 hlen HF1 HT2
   rw [← bW.b.cell (p := ⟨b, _, none⟩) hb] at d0 d1 d2 d3 d4 d5
   have HFI0 := Lib.hid (fun w' => whole_q r.len w' (by omega))
   obtain ⟨rl, hrl⟩ : ∃ x : Rat, x = (r.len : Rat) := ⟨_, rfl⟩
   rw [← hrl] at HFI0
   have HRL := Lib.hid hrl
   clear hrl
   simp only [rV] at HFI0
   clear d hdr hmem hlen HT
   go_upto_region 5 with fail
   refine wp_jtail 6 (by kernel_rfl) (by kernel_rfl) ?_
   simp only [List.take_succ_cons, List.take_zero, List.drop_succ_cons, List.drop_zero]
   repeat (go_big_quiet_step (first | (with_reducible exact jq (HFI0.out _)) | fail))
   refine wpQuiet_nil ?_
   rintro _ ⟨X1, rfl⟩
   go_upto_region 6 with fail
   refine wp_jtail 6 (by kernel_rfl) (by kernel_rfl) ?_
   simp only [List.take_succ_cons, List.take_zero, List.drop_succ_cons, List.drop_zero]
   repeat (go_big_quiet_step (first | (with_reducible exact jq (HFI0.out _)) | fail))
   refine wpQuiet_nil ?_
   rintro _ ⟨X2, rfl⟩
   go_wp2_with fail
   obtain ⟨W2, hW2⟩ : ∃ W2, W2 = (((((wr.alloc (.cells #[.int .i64 r.id, .int .i64 r.src, .int .i64 r.dst, .int .i64 r.len, .int .i64 r.lim, .bool r.one] 53)).junk X1).alloc (.cells #[.bool false, .string ⟨#[]⟩, .bool false, .string ⟨#[]⟩, .bool (zs rl.num), .string (zx rl.num), .bool false, .string (ry rl.den), .bool (zs p.off.num), .string (zx p.off.num), .bool false, .string (ry p.off.den)] 41)).junk X2).alloc (.cells #[.bool false, .string ⟨#[]⟩, .bool false, .string ⟨#[]⟩, .bool (zs rl.num), .string (zx rl.num), .bool false, .string (ry rl.den), .bool (zs q.off.num), .string (zx q.off.num), .bool false, .string (ry q.off.den)] 41)) := ⟨_, rfl⟩
   have K8 : Hid (W2.heap[b8]? = some (.cells #[.int .i64 lg0.road, .bool (zs lg0.a.num), .string (zx lg0.a.num), .bool false, .string (ry lg0.a.den), .bool (zs lg0.b.num), .string (zx lg0.b.num), .bool false, .string (ry lg0.b.den)] 55 (0, 0))) := Lib.hid (by rw [hW2]; (repeat (first | with_reducible refine obj_junk ?_ | with_reducible refine obj_old ?_)); exact H8.out)
   have K11 : Hid (W2.heap[wr.heap.size]? = some (.cells #[.int .i64 r.id, .int .i64 r.src, .int .i64 r.dst, .int .i64 r.len, .int .i64 r.lim, .bool r.one] 53 (0, 0))) := Lib.hid (by rw [hW2]; exact obj_old (obj_junk (obj_old (obj_junk (obj_last _ _)))))
   have K12 : Hid (W2.heap[((wr.alloc (.cells #[.int .i64 r.id, .int .i64 r.src, .int .i64 r.dst, .int .i64 r.len, .int .i64 r.lim, .bool r.one] 53)).junk X1).heap.size]? = some (.cells #[.bool false, .string ⟨#[]⟩, .bool false, .string ⟨#[]⟩, .bool (zs rl.num), .string (zx rl.num), .bool false, .string (ry rl.den), .bool (zs p.off.num), .string (zx p.off.num), .bool false, .string (ry p.off.den)] 41 (0, 0))) := Lib.hid (by rw [hW2]; exact obj_old (obj_junk (obj_last _ _)))
   have K13 : Hid (W2.heap[((((wr.alloc (.cells #[.int .i64 r.id, .int .i64 r.src, .int .i64 r.dst, .int .i64 r.len, .int .i64 r.lim, .bool r.one] 53)).junk X1).alloc (.cells #[.bool false, .string ⟨#[]⟩, .bool false, .string ⟨#[]⟩, .bool (zs rl.num), .string (zx rl.num), .bool false, .string (ry rl.den), .bool (zs p.off.num), .string (zx p.off.num), .bool false, .string (ry p.off.den)] 41)).junk X2).heap.size]? = some (.cells #[.bool false, .string ⟨#[]⟩, .bool false, .string ⟨#[]⟩, .bool (zs rl.num), .string (zx rl.num), .bool false, .string (ry rl.den), .bool (zs q.off.num), .string (zx q.off.num), .bool false, .string (ry q.off.den)] 41 (0, 0))) := Lib.hid (by rw [hW2]; exact obj_last _ _)
   have KW : Hid (∃ U, W2 = V.junk U) := Lib.hid (by rw [hW2]; with_reducible exact ex_junk)
   have hs11 : b8 < wr.heap.size := obj_lt H8.out
   have hs12 : wr.heap.size < ((wr.alloc (.cells #[.int .i64 r.id, .int .i64 r.src, .int .i64 r.dst, .int .i64 r.len, .int .i64 r.lim, .bool r.one] 53)).junk X1).heap.size := by have h := (junk_below (wr.alloc (.cells #[.int .i64 r.id, .int .i64 r.src, .int .i64 r.dst, .int .i64 r.len, .int .i64 r.lim, .bool r.one] 53)) X1).size; rw [show (wr.alloc (.cells #[.int .i64 r.id, .int .i64 r.src, .int .i64 r.dst, .int .i64 r.len, .int .i64 r.lim, .bool r.one] 53)).heap.size = wr.heap.size + 1 by simp] at h; omega
   have hs13 : ((wr.alloc (.cells #[.int .i64 r.id, .int .i64 r.src, .int .i64 r.dst, .int .i64 r.len, .int .i64 r.lim, .bool r.one] 53)).junk X1).heap.size < ((((wr.alloc (.cells #[.int .i64 r.id, .int .i64 r.src, .int .i64 r.dst, .int .i64 r.len, .int .i64 r.lim, .bool r.one] 53)).junk X1).alloc (.cells #[.bool false, .string ⟨#[]⟩, .bool false, .string ⟨#[]⟩, .bool (zs rl.num), .string (zx rl.num), .bool false, .string (ry rl.den), .bool (zs p.off.num), .string (zx p.off.num), .bool false, .string (ry p.off.den)] 41)).junk X2).heap.size := by have h := (junk_below (((wr.alloc (.cells #[.int .i64 r.id, .int .i64 r.src, .int .i64 r.dst, .int .i64 r.len, .int .i64 r.lim, .bool r.one] 53)).junk X1).alloc (.cells #[.bool false, .string ⟨#[]⟩, .bool false, .string ⟨#[]⟩, .bool (zs rl.num), .string (zx rl.num), .bool false, .string (ry rl.den), .bool (zs p.off.num), .string (zx p.off.num), .bool false, .string (ry p.off.den)] 41)) X2).size; rw [show (((wr.alloc (.cells #[.int .i64 r.id, .int .i64 r.src, .int .i64 r.dst, .int .i64 r.len, .int .i64 r.lim, .bool r.one] 53)).junk X1).alloc (.cells #[.bool false, .string ⟨#[]⟩, .bool false, .string ⟨#[]⟩, .bool (zs rl.num), .string (zx rl.num), .bool false, .string (ry rl.den), .bool (zs p.off.num), .string (zx p.off.num), .bool false, .string (ry p.off.den)] 41)).heap.size = ((wr.alloc (.cells #[.int .i64 r.id, .int .i64 r.src, .int .i64 r.dst, .int .i64 r.len, .int .i64 r.lim, .bool r.one] 53)).junk X1).heap.size + 1 by simp] at h; omega
   rw [← hW2]
   clear hW2 H8
   generalize ((((wr.alloc (.cells #[.int .i64 r.id, .int .i64 r.src, .int .i64 r.dst, .int .i64 r.len, .int .i64 r.lim, .bool r.one] 53)).junk X1).alloc (.cells #[.bool false, .string ⟨#[]⟩, .bool false, .string ⟨#[]⟩, .bool (zs rl.num), .string (zx rl.num), .bool false, .string (ry rl.den), .bool (zs p.off.num), .string (zx p.off.num), .bool false, .string (ry p.off.den)] 41)).junk X2).heap.size = b13 at *
   generalize ((wr.alloc (.cells #[.int .i64 r.id, .int .i64 r.src, .int .i64 r.dst, .int .i64 r.len, .int .i64 r.lim, .bool r.one] 53)).junk X1).heap.size = b12 at *
   generalize wr.heap.size = b11 at *
   have HD := Lib.hid (show V.heap.size ≤ b8 ∧ ¬ b11 = b8 ∧ ¬ b12 = b8 ∧ ¬ b13 = b8 from ⟨hb8, by omega, by omega, by omega⟩)
   clear hs11 hs12 hs13 d0 d1 d2 d3 d4 d5 HFI0
   clear bV bW n0r n1r p0r p1r p2r p3r p4r q0r q1r q2r q3r q4r e0r e1r e2r e3r lNr lPr lQr lLr lbr
   go_loopw [9, 14] (fun s9 s14 wr => ∃ (a : Nat) (acc : Option Lg), s9 = .bool acc.isSome ∧ s14 = .int .i64 a ∧ a ≤ 3 ∧ Hid (((dirP p q r).take (3 * a)).foldl (dirS n p q len r) none = acc) ∧ Hid (wr.heap[b8]? = some (.cells #[.int .i64 (acc.getD lg0).road, .bool (zs (acc.getD lg0).a.num), .string (zx (acc.getD lg0).a.num), .bool false, .string (ry (acc.getD lg0).a.den), .bool (zs (acc.getD lg0).b.num), .string (zx (acc.getD lg0).b.num), .bool false, .string (ry (acc.getD lg0).b.den)] 55 (0, 0))) ∧ Hid (wr.heap[b11]? = some (.cells #[.int .i64 r.id, .int .i64 r.src, .int .i64 r.dst, .int .i64 r.len, .int .i64 r.lim, .bool r.one] 53 (0, 0))) ∧ Hid (wr.heap[b12]? = some (.cells #[.bool false, .string ⟨#[]⟩, .bool false, .string ⟨#[]⟩, .bool (zs rl.num), .string (zx rl.num), .bool false, .string (ry rl.den), .bool (zs p.off.num), .string (zx p.off.num), .bool false, .string (ry p.off.den)] 41 (0, 0))) ∧ Hid (wr.heap[b13]? = some (.cells #[.bool false, .string ⟨#[]⟩, .bool false, .string ⟨#[]⟩, .bool (zs rl.num), .string (zx rl.num), .bool false, .string (ry rl.den), .bool (zs q.off.num), .string (zx q.off.num), .bool false, .string (ry q.off.den)] 41 (0, 0))) ∧ ∃ U, wr = V.junk U) (fun _ s14 _ => 3 - (intOf s14).toNat)
   case atStart => exact ⟨0, none, rfl, rfl, Nat.zero_le _, Lib.hid rfl, K8, K11, K12, K13, KW.out⟩
   case round =>
    rename_i s9 s14 _
    clear K8 K11 K12 K13 KW
    obtain ⟨a, acc, rfl, rfl, ha, HA, K8, K11, K12, K13, hU⟩ := hrel
    by_cases halt : a < 3
    rotate_left
    ·obtain rfl : a = 3 := by omega
     have HT3 : Hid (acc.or ((n.roads.drop (i + 1)).findSome? (dirR n p q len)) = out) := Lib.hid (by
      have h := HA.out
      rw [show (dirP p q r).take (3 * 3) = dirP p q r from rfl] at h
      rw [← h]
      exact HT2.out)
     obtain ⟨U, rfl⟩ := hU
     have hi2 : i ≤ 1024 := by omega
     go_wp2_with fail
     go_roundw
     case rel =>
      refine ⟨i + 1, acc, rfl, by go_num, by omega, HT3, K8, ?_⟩
      with_reducible exact ex_junk
     case measure => simp [intOf]; omega
    obtain ⟨U, rfl⟩ := hU
    have a0 : (0 : Int) ≤ (a : Int) := by omega
    have a3 : (a : Int) < 3 := by omega
    go_wp2_with fail
    go_loopw [9, 15] (fun s9 s15 wr => ∃ (b : Nat) (acc : Option Lg), s9 = .bool acc.isSome ∧ s15 = .int .i64 b ∧ b ≤ 3 ∧ Hid (((dirP p q r).take (3 * a + b)).foldl (dirS n p q len r) none = acc) ∧ Hid (wr.heap[b8]? = some (.cells #[.int .i64 (acc.getD lg0).road, .bool (zs (acc.getD lg0).a.num), .string (zx (acc.getD lg0).a.num), .bool false, .string (ry (acc.getD lg0).a.den), .bool (zs (acc.getD lg0).b.num), .string (zx (acc.getD lg0).b.num), .bool false, .string (ry (acc.getD lg0).b.den)] 55 (0, 0))) ∧ Hid (wr.heap[b11]? = some (.cells #[.int .i64 r.id, .int .i64 r.src, .int .i64 r.dst, .int .i64 r.len, .int .i64 r.lim, .bool r.one] 53 (0, 0))) ∧ Hid (wr.heap[b12]? = some (.cells #[.bool false, .string ⟨#[]⟩, .bool false, .string ⟨#[]⟩, .bool (zs rl.num), .string (zx rl.num), .bool false, .string (ry rl.den), .bool (zs p.off.num), .string (zx p.off.num), .bool false, .string (ry p.off.den)] 41 (0, 0))) ∧ Hid (wr.heap[b13]? = some (.cells #[.bool false, .string ⟨#[]⟩, .bool false, .string ⟨#[]⟩, .bool (zs rl.num), .string (zx rl.num), .bool false, .string (ry rl.den), .bool (zs q.off.num), .string (zx q.off.num), .bool false, .string (ry q.off.den)] 41 (0, 0))) ∧ ∃ U, wr = V.junk U) (fun _ s15 _ => 3 - (intOf s15).toNat)
    case atStart =>
     refine ⟨0, acc, rfl, rfl, Nat.zero_le _, HA, K8, K11, K12, K13, ?_⟩
     with_reducible exact ex_junk
    case round =>
     rename_i s9 s15 _
     clear K8 K11 K12 K13 HA
     obtain ⟨b, acc, rfl, rfl, hb2, HA, K8, K11, K12, K13, hU⟩ := hrel
     by_cases hblt : b < 3
     rotate_left
     ·obtain rfl : b = 3 := by omega
      have HA3 : Hid (((dirP p q r).take (3 * (a + 1))).foldl (dirS n p q len r) none = acc) := Lib.hid (by rw [← HA.out]; rfl)
      obtain ⟨U, rfl⟩ := hU
      go_wp2_with fail
      go_roundw
      case rel =>
       refine ⟨a + 1, acc, rfl, by go_num, by omega, HA3, K8, K11, K12, K13, ?_⟩
       with_reducible exact ex_junk
      case measure => simp [intOf]; omega
     have hk9 : 3 * a + b < (dirP p q r).length := by rw [dirP_len]; omega
     have hat := dirP_at p q r a b halt hblt
     have HA2 : Hid (((dirP p q r).take (3 * a + (b + 1))).foldl (dirS n p q len r) none = if dirC n p q len r (frD p r)[a]! (frD q r)[b]! then some ⟨r.id, (frD p r)[a]!, (frD q r)[b]!⟩ else acc) := Lib.hid (by
      rw [show 3 * a + (b + 1) = 3 * a + b + 1 from rfl, take_one _ _ _ hk9, HA.out, hat]
      rfl)
     obtain ⟨sx, sy, sd⟩ := HF1.out ((frD p r)[a]!, (frD q r)[b]!) (by rw [← hat, getElem!_pos (dirP p q r) _ hk9]; exact List.getElem_mem hk9)
     have c12 := fr_cell HRL.out K12.out halt
     have c13 := fr_cell HRL.out K13.out hblt
     unfold dirC at HA2
     generalize (frD p r)[a]! = x at *
     generalize (frD q r)[b]! = y at *
     simp only at sx sy sd
     haveI bV : Bw V wr := by obtain ⟨U, rfl⟩ := hU; infer_instance
     haveI bW : Bw w wr := ⟨bwV.b.trans (bV.b.mono bwV.b.size)⟩
     have HS1 := Lib.hid (HSP.out ⟨r.id, x⟩ sx)
     have HS2 := Lib.hid (HSQ.out ⟨r.id, y⟩ sy)
     have HSU := Lib.hid (fun w' => sub_q y x w' sy sx)
     have HAB := Lib.hid (fun w' => abs_q (y - x) w' (by have := sd.1; omega))
     have HSG := Lib.hid (fun w' => sign_q (y - x) w' (by have := sd.1; omega))
     have sab := sm_abs sd
     have sg := sg_pos (y - x).num
     generalize sgnZ (y - x).num = gs at *
     generalize sameN n p ⟨r.id, x⟩ = s1 at *
     generalize sameN n q ⟨r.id, y⟩ = s2 at *
     generalize absR (y - x) = ab at *
     generalize y - x = d at *
     simp only [rV] at HSU HAB HSG
     simp only at HS1 HS2
     have b0 : (0 : Int) ≤ (b : Int) := by omega
     have b3 : (b : Int) < 3 := by omega
     haveI l12 : Lo b12 wr := ⟨obj_lt K12.out⟩
     haveI l13 : Lo b13 wr := ⟨obj_lt K13.out⟩
     obtain ⟨x0, x1, x2, x3⟩ := c12
     obtain ⟨y0, y1, y2, y3⟩ := c13
     clear hk9 hat HA sx sy sd
     go_upto_region 13 with fail
     refine wp_flow2 [(10, [9])] [(10, [9])] [(2, [0, 1]), (3, [2]), (6, [4, 5]), (7, [6]), (8, [3, 7]), (10, [9, 8])] [(0, some 55), (1, some 56), (2, some 57), (3, some 58), (4, some 59), (5, some 60), (6, some 61), (7, some 62), (8, some 63), (9, some 16), (10, none)] [(13, .slice (some ⟨b13, 0, none⟩) 3 3), (15, .int .i64 b), (12, .slice (some ⟨b12, 0, none⟩) 3 3), (14, .int .i64 a)] [.val (.slice (some ⟨b13, 0, none⟩) 3 3), .val (.int .i64 b), .val (.pointer (some ⟨b13, b * 4, none⟩)), .val (.agg #[.bool (zs y.num), .string (zx y.num), .bool false, .string (ry y.den)]), .val (.slice (some ⟨b12, 0, none⟩) 3 3), .val (.int .i64 a), .val (.pointer (some ⟨b12, a * 4, none⟩)), .val (.agg #[.bool (zs x.num), .string (zx x.num), .bool false, .string (ry x.den)]), .val (.agg #[.bool (zs d.num), .string (zx d.num), .bool false, .string (ry d.den)]), .box 41 9 (fun _ => #[.bool false, .string ⟨#[]⟩, .bool false, .string ⟨#[]⟩]), .box 41 9 (fun _ => #[.bool (zs d.num), .string (zx d.num), .bool false, .string (ry d.den)])] (by kernel_rfl) (by kernel_rfl) (by kernel_rfl) (by kernel_rfl) (by kernel_rfl) ⟨rfl, rfl, rfl, rfl, trivial⟩ ⟨trivial, trivial, trivial, trivial, trivial, trivial, trivial, trivial, trivial, ⟨.inl rfl, fun _ _ _ => rfl⟩, ⟨.inr (by decide), fun _ _ _ => rfl⟩, trivial⟩ ?_ ?_
     ·refine ⟨?_, ?_, ?_, ?_, ?_, ?_, ?_, ?_, ?_, ?_, ?_, trivial⟩
      ·intro f ρ w' S hd hx hc hB hA hD
       have h13 : ρ (.tmp 13) = .slice (some ⟨b13, 0, none⟩) 3 3 := hx (13, .slice (some ⟨b13, 0, none⟩) 3 3) (by simp)
       refine fl_val (by rfl) (by rfl) ?_
       simp [execOp, go_sem, h13]
      ·intro f ρ w' S hd hx hc hB hA hD
       have h15 : ρ (.tmp 15) = .int .i64 b := hx (15, .int .i64 b) (by simp)
       refine fl_val (by rfl) (by rfl) ?_
       simp [execOp, go_sem, h15]
      ·intro f ρ w' S hd hx hc hB hA hD
       have h55 : ρ (.tmp 55) = .slice (some ⟨b13, 0, none⟩) 3 3 := (hd 0 55 (by decide)).trans (hA 0 (by decide)).1
       have h56 : ρ (.tmp 56) = .int .i64 b := (hd 1 56 (by decide)).trans (hA 1 (by decide)).1
       refine fl_val (by rfl) (by rfl) ?_
       simp [execOp, go_sem, h55, h56, b0, b3]
      ·intro f ρ w' S hd hx hc hB hA hD
       have h57 : ρ (.tmp 57) = .pointer (some ⟨b13, b * 4, none⟩) := (hd 2 57 (by decide)).trans (hA 2 (by decide)).1
       have k0' := (hB.cell (p := ⟨b13, b * 4, none⟩) l13.lt).trans y0
       have k1' := (hB.cell (p := ⟨b13, b * 4 + 1, none⟩) l13.lt).trans y1
       have k2' := (hB.cell (p := ⟨b13, b * 4 + 2, none⟩) l13.lt).trans y2
       have k3' := (hB.cell (p := ⟨b13, b * 4 + 3, none⟩) l13.lt).trans y3
       refine fl_val (by rfl) (by rfl) ?_
       simp [execOp, go_sem, h57, k0', k1', k2', k3']
      ·intro f ρ w' S hd hx hc hB hA hD
       have h12 : ρ (.tmp 12) = .slice (some ⟨b12, 0, none⟩) 3 3 := hx (12, .slice (some ⟨b12, 0, none⟩) 3 3) (by simp)
       refine fl_val (by rfl) (by rfl) ?_
       simp [execOp, go_sem, h12]
      ·intro f ρ w' S hd hx hc hB hA hD
       have h14 : ρ (.tmp 14) = .int .i64 a := hx (14, .int .i64 a) (by simp)
       refine fl_val (by rfl) (by rfl) ?_
       simp [execOp, go_sem, h14]
      ·intro f ρ w' S hd hx hc hB hA hD
       have h59 : ρ (.tmp 59) = .slice (some ⟨b12, 0, none⟩) 3 3 := (hd 4 59 (by decide)).trans (hA 4 (by decide)).1
       have h60 : ρ (.tmp 60) = .int .i64 a := (hd 5 60 (by decide)).trans (hA 5 (by decide)).1
       refine fl_val (by rfl) (by rfl) ?_
       simp [execOp, go_sem, h59, h60, a0, a3]
      ·intro f ρ w' S hd hx hc hB hA hD
       have h61 : ρ (.tmp 61) = .pointer (some ⟨b12, a * 4, none⟩) := (hd 6 61 (by decide)).trans (hA 6 (by decide)).1
       have k0' := (hB.cell (p := ⟨b12, a * 4, none⟩) l12.lt).trans x0
       have k1' := (hB.cell (p := ⟨b12, a * 4 + 1, none⟩) l12.lt).trans x1
       have k2' := (hB.cell (p := ⟨b12, a * 4 + 2, none⟩) l12.lt).trans x2
       have k3' := (hB.cell (p := ⟨b12, a * 4 + 3, none⟩) l12.lt).trans x3
       refine fl_val (by rfl) (by rfl) ?_
       simp [execOp, go_sem, h61, k0', k1', k2', k3']
      ·intro f ρ w' S hd hx hc hB hA hD
       have h58 : ρ (.tmp 58) = .agg #[.bool (zs y.num), .string (zx y.num), .bool false, .string (ry y.den)] := (hd 3 58 (by decide)).trans (hA 3 (by decide)).1
       have h62 : ρ (.tmp 62) = .agg #[.bool (zs x.num), .string (zx x.num), .bool false, .string (ry x.den)] := (hd 7 62 (by decide)).trans (hA 7 (by decide)).1
       exact fl_call (by rfl) (by rfl) (by simp [execOp, go_sem, h58, h62, hc.1, hc.2]) (HSU.out w')
      ·intro f ρ w' S hd hx hc hB hA hD
       refine fl_box (by rfl) (by rfl) hB.size (fun _ _ => rfl) ?_
       simp [execOp, go_sem]
      ·intro f ρ w' S hd hx hc hB hA hD
       have h63 : ρ (.tmp 63) = .agg #[.bool (zs d.num), .string (zx d.num), .bool false, .string (ry d.den)] := (hd 8 63 (by decide)).trans (hA 8 (by decide)).1
       obtain ⟨b, p1, p2, p3, p4⟩ := (hA 9 (by decide)).1
       have h16 : ρ (.tmp 16) = .pointer (some ⟨b, 0, none⟩) := (hd 9 16 (by decide)).trans p1
       have c0' := obj_cell p4 0
       have c1' := obj_cell p4 1
       have c2' := obj_cell p4 2
       have c3' := obj_cell p4 3
       have z0' := obj_free p4 0
       have z1' := obj_free p4 1
       have z2' := obj_free p4 2
       have z3' := obj_free p4 3
       simp at c0' c1' c2' c3'
       have hlt := obj_lt p4
       refine fl_store (w' := ((((w'.setCell ⟨b, 0, none⟩ (.bool (zs d.num))).setCell ⟨b, 1, none⟩ (.string (zx d.num))).setCell ⟨b, 2, none⟩ (.bool false)).setCell ⟨b, 3, none⟩ (.string (ry d.den)))) (by rfl) (by decide) ⟨9, by decide, p2⟩ p1 p3 (obj_lt p4) (fun _ _ => rfl) ?_ ?_ ?_
       ·simp [execOp, go_sem, h63, h16, c0', c1', c2', c3', z0', z1', z2', z3']
       ·exact Ext.of_grown (row4 _ b _ _ _ _) (fun g hg => by injection hg with hg; exact hg.symm)
       ·rw [obj_set (obj_set (obj_set (obj_set p4)))]; simp
     ·intro f w' S hB hS hD
      obtain ⟨b16, p1, _, _, p4⟩ := (hS 10 (by kernel_rfl)).1
      simp only [putAll, Act.put, List.setIfInBounds_toArray, List.set_cons_zero, List.set_cons_succ]
      rw [p1]
      obtain ⟨X, rfl⟩ := below_some hB
      replace K8 := Lib.hid (obj_junk (X := X) K8.out)
      replace K11 := Lib.hid (obj_junk (X := X) K11.out)
      replace K12 := Lib.hid (obj_junk (X := X) K12.out)
      replace K13 := Lib.hid (obj_junk (X := X) K13.out)
      have K16 := Lib.hid p4
      replace x0 := (hB.cell (p := ⟨b12, a * 4, none⟩) l12.lt).trans x0
      replace x1 := (hB.cell (p := ⟨b12, a * 4 + 1, none⟩) l12.lt).trans x1
      replace x2 := (hB.cell (p := ⟨b12, a * 4 + 2, none⟩) l12.lt).trans x2
      replace x3 := (hB.cell (p := ⟨b12, a * 4 + 3, none⟩) l12.lt).trans x3
      replace y0 := (hB.cell (p := ⟨b13, b * 4, none⟩) l13.lt).trans y0
      replace y1 := (hB.cell (p := ⟨b13, b * 4 + 1, none⟩) l13.lt).trans y1
      replace y2 := (hB.cell (p := ⟨b13, b * 4 + 2, none⟩) l13.lt).trans y2
      replace y3 := (hB.cell (p := ⟨b13, b * 4 + 3, none⟩) l13.lt).trans y3
      replace l12 : Lo b12 (wr.junk X) := ⟨obj_lt K12.out⟩
      replace l13 : Lo b13 (wr.junk X) := ⟨obj_lt K13.out⟩
      replace bV : Bw V (wr.junk X) := ⟨bV.b.trans (hB.mono bV.b.size)⟩
      replace bW : Bw w (wr.junk X) := ⟨bwV.b.trans (bV.b.mono bwV.b.size)⟩
      clear hS hB hD p1 p4 HSU hU
      generalize wr.junk X = Wd at *
      haveI l8 : Lo b8 Wd := ⟨obj_lt K8.out⟩
      haveI l11 : Lo b11 Wd := ⟨obj_lt K11.out⟩
      haveI l16 : Lo b16 Wd := ⟨obj_lt K16.out⟩
      have j0 := obj_cell K11.out 0
      have j5 := obj_cell K11.out 5
      simp at j0 j5
      have t0 := obj_cell K16.out 0
      have t1 := obj_cell K16.out 1
      have t2 := obj_cell K16.out 2
      have t3 := obj_cell K16.out 3
      simp at t0 t1 t2 t3
      have n0d := (bV.b.cell (p := ⟨w.heap.size, 0, none⟩) lN.lt).trans n0
      have n1d := (bV.b.cell (p := ⟨w.heap.size, 1, none⟩) lN.lt).trans n1
      have p0d := (bV.b.cell (p := ⟨w.heap.size + 1, 0, none⟩) lP.lt).trans p0
      have p1d := (bV.b.cell (p := ⟨w.heap.size + 1, 1, none⟩) lP.lt).trans p1
      have p2d := (bV.b.cell (p := ⟨w.heap.size + 1, 2, none⟩) lP.lt).trans p2
      have p3d := (bV.b.cell (p := ⟨w.heap.size + 1, 3, none⟩) lP.lt).trans p3
      have p4d := (bV.b.cell (p := ⟨w.heap.size + 1, 4, none⟩) lP.lt).trans p4
      have q0d := (bV.b.cell (p := ⟨w.heap.size + 1 + 1, 0, none⟩) lQ.lt).trans q0
      have q1d := (bV.b.cell (p := ⟨w.heap.size + 1 + 1, 1, none⟩) lQ.lt).trans q1
      have q2d := (bV.b.cell (p := ⟨w.heap.size + 1 + 1, 2, none⟩) lQ.lt).trans q2
      have q3d := (bV.b.cell (p := ⟨w.heap.size + 1 + 1, 3, none⟩) lQ.lt).trans q3
      have q4d := (bV.b.cell (p := ⟨w.heap.size + 1 + 1, 4, none⟩) lQ.lt).trans q4
      have e0d := (bV.b.cell (p := ⟨w.heap.size + 1 + 1 + 1, 0, none⟩) lL.lt).trans e0
      have e1d := (bV.b.cell (p := ⟨w.heap.size + 1 + 1 + 1, 1, none⟩) lL.lt).trans e1
      have e2d := (bV.b.cell (p := ⟨w.heap.size + 1 + 1 + 1, 2, none⟩) lL.lt).trans e2
      have e3d := (bV.b.cell (p := ⟨w.heap.size + 1 + 1 + 1, 3, none⟩) lL.lt).trans e3
      haveI lNd : Lo (w.heap.size) Wd := ⟨Nat.lt_of_lt_of_le lN.lt bV.b.size⟩
      haveI lPd : Lo (w.heap.size + 1) Wd := ⟨Nat.lt_of_lt_of_le lP.lt bV.b.size⟩
      haveI lQd : Lo (w.heap.size + 1 + 1) Wd := ⟨Nat.lt_of_lt_of_le lQ.lt bV.b.size⟩
      haveI lLd : Lo (w.heap.size + 1 + 1 + 1) Wd := ⟨Nat.lt_of_lt_of_le lL.lt bV.b.size⟩
      have hdd : Hid ((s1 && s2 && decide (ab = len) && (!r.one || decide (0 < d.num))) = (s1 && s2 && decide (ab = len) && (!r.one || decide (0 < d.num)))) := Lib.hid rfl
      go_upto_region 14 with fail
      go_cut [101] (fun s101 wx => s101 = .bool (s1 && s2 && decide (ab = len) && (!r.one || decide (0 < d.num))) ∧ ∃ U, wx = Wd.junk U)
      case first =>
       clear HA2 HT2 hdd K8 K11 K12 K13 K16
       have fin : ∀ (hx : Bool), True := fun _ => trivial
       by_cases hab : ab = len
       ·have he : decide (ab = len) = true := by simpa using hab
        cases s1 with
        | false =>
         refine wp_jregion (by kernel_rfl) (by kernel_rfl) ?_
         repeat (go_big_quiet_step (first | (first | (with_reducible exact jq (HS1.out _)) | fail) | fail))
         refine wpQuiet_nil ?_
         rintro _ ⟨X, rfl⟩
         go_wp2_with fail
         go_meet
         refine ⟨by first | rfl | simp, ?_⟩
         with_reducible exact ex_junk
        | true =>
         cases s2 with
         | false =>
          refine wp_jregion (by kernel_rfl) (by kernel_rfl) ?_
          repeat (go_big_quiet_step (first | (first | (with_reducible exact jq (HS1.out _)) | (with_reducible exact jq (HS2.out _)) | fail) | fail))
          refine wpQuiet_nil ?_
          rintro _ ⟨X, rfl⟩
          go_wp2_with fail
          go_meet
          refine ⟨rfl, ?_⟩
          with_reducible exact ex_junk
         | true =>
          rcases (show r.one = false ∨ r.one = true by cases r.one <;> simp) with hone | hone
          ·rw [hone] at j5
           have HON := Lib.hid hone
           clear hone
           refine wp_jregion (by kernel_rfl) (by kernel_rfl) ?_
           repeat (go_big_quiet_step (first | (first | (with_reducible exact jq (HS1.out _)) | (with_reducible exact jq (HS2.out _)) | (with_reducible exact jq (HAB.out _)) | fail) | fail))
           refine wpQuiet_nil ?_
           rintro _ ⟨X, rfl⟩
           go_wp2_with fail
           go_meet
           refine ⟨by first | rfl | simp [he, HON.out], ?_⟩
           with_reducible exact ex_junk
          ·rw [hone] at j5
           have HON := Lib.hid hone
           clear hone
           rcases sg with ⟨h1, h2⟩ | ⟨h1, h2⟩
           ·have hd0 : decide (0 < d.num) = true := by simpa using h1
            clear h1
            refine wp_jregion (by kernel_rfl) (by kernel_rfl) ?_
            repeat (go_big_quiet_step (first | (first | (with_reducible exact jq (HS1.out _)) | (with_reducible exact jq (HS2.out _)) | (with_reducible exact jq (HAB.out _)) | (with_reducible exact jq (HSG.out _)) | fail) | fail))
            refine wpQuiet_nil ?_
            rintro _ ⟨X, rfl⟩
            go_wp2_with fail
            go_meet
            refine ⟨by first | rfl | simp [he, HON.out, hd0, h2], ?_⟩
            with_reducible exact ex_junk
           ·have hd0 : decide (0 < d.num) = false := by simpa using h1
            clear h1
            refine wp_jregion (by kernel_rfl) (by kernel_rfl) ?_
            repeat (go_big_quiet_step (first | (first | (with_reducible exact jq (HS1.out _)) | (with_reducible exact jq (HS2.out _)) | (with_reducible exact jq (HAB.out _)) | (with_reducible exact jq (HSG.out _)) | fail) | fail))
            refine wpQuiet_nil ?_
            rintro _ ⟨X, rfl⟩
            go_wp2_with fail
            go_meet
            refine ⟨by first | rfl | simp [he, HON.out, hd0, h2], ?_⟩
            with_reducible exact ex_junk
       ·have he : decide (ab = len) = false := by simpa using hab
        cases s1 with
        | false =>
         refine wp_jregion (by kernel_rfl) (by kernel_rfl) ?_
         repeat (go_big_quiet_step (first | (first | (with_reducible exact jq (HS1.out _)) | fail) | fail))
         refine wpQuiet_nil ?_
         rintro _ ⟨X, rfl⟩
         go_wp2_with fail
         go_meet
         refine ⟨by first | rfl | simp, ?_⟩
         with_reducible exact ex_junk
        | true =>
         cases s2 with
         | false =>
          refine wp_jregion (by kernel_rfl) (by kernel_rfl) ?_
          repeat (go_big_quiet_step (first | (first | (with_reducible exact jq (HS1.out _)) | (with_reducible exact jq (HS2.out _)) | fail) | fail))
          refine wpQuiet_nil ?_
          rintro _ ⟨X, rfl⟩
          go_wp2_with fail
          go_meet
          refine ⟨rfl, ?_⟩
          with_reducible exact ex_junk
         | true =>
          refine wp_jregion (by kernel_rfl) (by kernel_rfl) ?_
          repeat (go_big_quiet_step (first | (first | (with_reducible exact jq (HS1.out _)) | (with_reducible exact jq (HS2.out _)) | (with_reducible exact jq (HAB.out _)) | fail) | fail))
          refine wpQuiet_nil ?_
          rintro _ ⟨X, rfl⟩
          go_wp2_with fail
          go_meet
          refine ⟨by first | rfl | simp [he], ?_⟩
          with_reducible exact ex_junk
      case rest =>
       obtain ⟨rfl, U, rfl⟩ := hcut
       clear HS1 HS2 HAB HSG sg sab hdd
       generalize (s1 && s2 && decide (ab = len) && (!r.one || decide (0 < d.num))) = dc at *
       cases dc with
       | false =>
        have HA4 : Hid (((dirP p q r).take (3 * a + (b + 1))).foldl (dirS n p q len r) none = acc) := Lib.hid (by rw [HA2.out]; rfl)
        go_wp2_with fail
        go_roundw
        case rel =>
         refine ⟨b + 1, acc, rfl, by go_num, by omega, HA4, Lib.hid (obj_junk K8.out), Lib.hid (obj_junk K11.out), Lib.hid (obj_junk K12.out), Lib.hid (obj_junk K13.out), ?_⟩
         with_reducible exact ex_junk
        case measure => simp [intOf]; omega
       | true =>
        have HA4 : Hid (((dirP p q r).take (3 * a + (b + 1))).foldl (dirS n p q len r) none = some ⟨r.id, x, y⟩) := Lib.hid (by rw [HA2.out]; rfl)
        go_wp2_with fail
        refine wp_jtail 11 (by kernel_rfl) (by kernel_rfl) ?_
        simp only [List.take_succ_cons, List.take_zero, List.drop_succ_cons, List.drop_zero]
        repeat (go_big_quiet_step (first | (fail) | fail))
        refine wpQuiet_nil ?_
        rintro _ ⟨X9, rfl⟩
        have n11 : ¬ b11 = b8 := HD.out.2.1
        have n12 : ¬ b12 = b8 := HD.out.2.2.1
        have n13 : ¬ b13 = b8 := HD.out.2.2.2
        have f0 := obj_free K8.out 0
        have f1 := obj_free K8.out 1
        have f2 := obj_free K8.out 2
        have f3 := obj_free K8.out 3
        have f4 := obj_free K8.out 4
        have f5 := obj_free K8.out 5
        have f6 := obj_free K8.out 6
        have f7 := obj_free K8.out 7
        have f8 := obj_free K8.out 8
        have z0 := obj_cell K8.out 0
        have z1 := obj_cell K8.out 1
        have z2 := obj_cell K8.out 2
        have z3 := obj_cell K8.out 3
        have z4 := obj_cell K8.out 4
        have z5 := obj_cell K8.out 5
        have z6 := obj_cell K8.out 6
        have z7 := obj_cell K8.out 7
        have z8 := obj_cell K8.out 8
        simp at z0 z1 z2 z3 z4 z5 z6 z7 z8
        haveI s9 : Bw V (((((((((Wd.setCell ⟨b8, 0, none⟩ (.int .i64 r.id)).setCell ⟨b8, 1, none⟩ (.bool (zs x.num))).setCell ⟨b8, 2, none⟩ (.string (zx x.num))).setCell ⟨b8, 3, none⟩ (.bool false)).setCell ⟨b8, 4, none⟩ (.string (ry x.den))).setCell ⟨b8, 5, none⟩ (.bool (zs y.num))).setCell ⟨b8, 6, none⟩ (.string (zx y.num))).setCell ⟨b8, 7, none⟩ (.bool false)).setCell ⟨b8, 8, none⟩ (.string (ry y.den))) := bw_set9 HD.out.1 _ _ _ _ _ _ _ _ _
        go_wp2_with fail
        go_roundw
        case rel =>
         refine ⟨b + 1, some ⟨r.id, x, y⟩, rfl, by go_num, by omega, HA4, Lib.hid ?_, Lib.hid ?_, Lib.hid ?_, Lib.hid ?_, ?_⟩
         ·(repeat (first | with_reducible refine obj_junk ?_ | with_reducible refine obj_old ?_))
          rw [obj_set (obj_set (obj_set (obj_set (obj_set (obj_set (obj_set (obj_set (obj_set K8.out))))))))]
          simp
         ·(repeat (first | with_reducible refine obj_junk ?_ | with_reducible refine obj_old ?_))
          exact obj_set9o K11.out n11 _ _ _ _ _ _ _ _ _
         ·(repeat (first | with_reducible refine obj_junk ?_ | with_reducible refine obj_old ?_))
          exact obj_set9o K12.out n12 _ _ _ _ _ _ _ _ _
         ·(repeat (first | with_reducible refine obj_junk ?_ | with_reducible refine obj_old ?_))
          exact obj_set9o K13.out n13 _ _ _ _ _ _ _ _ _
         ·with_reducible exact ex_junk
        case measure => simp [intOf]; omega
end Go.Proofs.YtcelpkbmcmnogaaGreatDoor
