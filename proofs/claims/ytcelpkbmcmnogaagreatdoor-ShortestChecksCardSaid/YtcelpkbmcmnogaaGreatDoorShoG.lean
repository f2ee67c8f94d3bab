/-
 Ways between positions, exactly: Between.
-/
import Derived.Test.YtcelpkbmcmnogaaGreatDoorShoF
set_option linter.unusedSimpArgs false
set_option linter.unusedVariables false
namespace Go.Proofs.YtcelpkbmcmnogaaGreatDoor
open Go Go.RowKit Go.Vi
attribute [local go_sem ↓] lo_lt lo_ne lo_ne'
attribute [local go_sem] junk_cell junk_frozen junk_setCell junk_drew drew_junk
attribute [local go_sem] rc_size rowN_alloc_at rowN_alloc rowN_junk rowN_drew rowN_drewN setRow_alloc_at setRow_alloc setRow_junk setRow_drew
set_option maxHeartbeats 1000000 in
theorem orE_any (L : List Int) (b n cap : Nat) (w : World) (hn : L.length = n) (hn1 : n ≤ 1000) (hc : ∀ i, i < n → w.cell? ⟨b, i, none⟩ = some (.int .i64 L[i]!)) :
  Calls Tryz.prog 31 #[.slice (some ⟨b, 0, none⟩) n cap] w fun e w' => e = .returned (.int .i64 (orI L)) ∧ w = w' := by
 have HN := Lib.hid hn
 have HC := Lib.hid hc
 clear hn hc
 go_enter Tryz.func31, Tryz.ntmps31
 go_wp2
 go_loop [8] (fun s8 => ∃ k : Nat, s8 = .int .i64 k ∧ k ≤ n ∧ Hid (orI L = orI (L.drop k))) (fun s8 => n - (intOf s8).toNat)
 case atStart => exact ⟨0, rfl, Nat.zero_le _, rfl⟩
 case round =>
  obtain ⟨k, rfl, hk, hE⟩ := hrel
  by_cases hlt : k < n
  ·have hE2 := orI_at (L := L) (k := k) (by rw [HN.out]; exact hlt)
   have c0 := HC.out k hlt
   generalize L[k]! = x at c0 hE2
   have HE2 := Lib.hid hE2
   clear hE2
   by_cases hx : x = 0
   ·have hx' : (x != 0) = false := by simpa using hx
    go_wp2
    go_round
    case rel => exact ⟨k + 1, by go_num, by omega, by show orI L = _; rw [hE.out, HE2.out, if_pos hx]⟩
    case measure => simp [intOf]; omega
   ·have hx' : (x != 0) = true := by simpa using hx
    go_wp2
    go_ret
    exact ⟨by rw [hE.out, HE2.out, if_neg hx]; rfl, rfl⟩
  ·obtain rfl : k = n := by omega
   go_wp2
   go_ret
   exact ⟨by rw [hE.out, List.drop_eq_nil_of_le (by rw [HN.out]; exact Nat.le_refl _)]; rfl, rfl⟩
/-- A way. -/
structure Wy where (p q : Plc) (legs : List Lg) (len : Rat)
def wcs (p q : Plc) (v : Value) (len : Rat) : Array Value := #[.int .i64 p.road, .bool (zs p.off.num), .string (zx p.off.num), .bool false, .string (ry p.off.den), .int .i64 q.road, .bool (zs q.off.num), .string (zx q.off.num), .bool false, .string (ry q.off.den), v, .bool (zs len.num), .string (zx len.num), .bool false, .string (ry len.den)]
def wyz : Wy := ⟨plz, plz, [], 0⟩
def leastC (L : List Chc) : Option Chc := L.foldl (fun acc x => match acc with | none => some x | some b => if chCmp x b < 0 then some x else some b) none
theorem leastC_of (M : List ChM) : leastC (M.map ChM.c) = (leastM M).map ChM.c := by
 unfold leastC leastM
 have h : ∀ (M : List ChM) (acc : Option ChM), (M.map ChM.c).foldl (fun acc x => match acc with | none => some x | some b => if chCmp x b < 0 then some x else some b) (acc.map ChM.c) = (M.foldl leastS acc).map ChM.c := by
  intro M
  induction M with
  | nil => intro acc; rfl
  | cons x M ih =>
   intro acc
   rw [List.map_cons, List.foldl_cons, List.foldl_cons, ← ih]
   congr 1
   unfold leastS
   cases acc with
   | none => rfl
   | some b => simp only [Option.map_some]; split <;> rfl
 exact h M none
theorem leastM_mem (M : List ChM) {m : ChM} (h : leastM M = some m) : m ∈ M := by
 unfold leastM at h
 have g : ∀ (M : List ChM) (acc : Option ChM) (m : ChM), M.foldl leastS acc = some m → m ∈ M ∨ acc = some m := by
  intro M
  induction M with
  | nil => intro acc m h; exact .inr h
  | cons x M ih =>
   intro acc m h
   rw [List.foldl_cons] at h
   rcases ih _ _ h with h2 | h2
   ·exact .inl (List.mem_cons_of_mem _ h2)
   ·obtain ⟨m', e, h3⟩ := leastS_some acc x
    rw [e] at h2
    injection h2 with h2
    subst h2
    rcases h3 with rfl | h3
    ·exact .inl List.mem_cons_self
    ·exact .inr h3
 rcases g M none m h with h | h
 ·exact h
 ·cases h
/-- The least way between two positions, or the error: 31 is ErrUnreachable. -/
def betweenN (n : Net) (rt : Int → Int → Option (List Hp × Int)) (p q : Plc) : Wy × Int :=
 if orI [chkP n p, chkP n q] ≠ 0 then (wyz, orI [chkP n p, chkP n q])
 else if sameN n p q then (⟨p, q, [], 0⟩, 0)
 else match aheadN n p q, leastC (choicesN rt (exitsN n p).1 (entriesN n q).1) with
  | some l, none => (⟨p, q, (alongN n p q l).toList, l⟩, 0)
  | some l, some c => if cmpR l c.len ≤ 0 then (⟨p, q, (alongN n p q l).toList, l⟩, 0) else (⟨p, q, legsN n c p q, c.len⟩, 0)
  | none, none => (wyz, 31)
  | none, some c => (⟨p, q, legsN n c p q, c.len⟩, 0)
def BwOut (x : Wy) (c : Int) (w : World) (e : Ending) (w' : World) : Prop := ∃ v, e = .returned (.tuple #[.agg (wcs x.p x.q v x.len), .int .i64 c]) ∧ Ow w.heap.size w' 55 9 v (x.legs.map Lg.cs) ∧ Below w.heap.size w w'
theorem wc_zero : wcs wyz.p wyz.q (.slice none 0 0) wyz.len = #[.int .i64 0, .bool false, .string ⟨#[]⟩, .bool false, .string ⟨#[]⟩, .int .i64 0, .bool false, .string ⟨#[]⟩, .bool false, .string ⟨#[]⟩, .slice none 0 0, .bool false, .string ⟨#[]⟩, .bool false, .string ⟨#[]⟩] := by
 unfold wcs wyz plz
 simp only [zc0, zc1, zc2]
theorem along_bw {n : Net} {v1 v2 : Value} {w : World} (hN : NetAt w.heap.size w v1 v2 n) (hK : NetOK n) (p q : Plc) (len : Rat) (hp : Sm p.off) (hq : Sm q.off) (hl : Sm len) (h2 : Near2 n p q) : Hid (∀ (w' : World) [Bw w w'], Calls Tryz.prog 49 #[.agg #[v1, v2], p.v, q.v, rV len] w' (LegsOut (alongN n p q len).toList w')) :=
 Lib.hid (fun w' _ => along_q n v1 v2 p q len w' (later_bw hN) hK hp hq hl h2)
theorem uWy : Tryz.prog.underlying 46 = some (.struct (Tryz.prog.fieldsOf 46)) := by kernel_rfl
theorem iWy : (Tryz.prog.info? 46).map (·.size) = some 15 := by kernel_rfl
theorem ch_len (rt : Int → Int → Option (List Hp × Int)) (X Y : List Ed) : (choicesN rt X Y).length ≤ X.length * Y.length := by
 unfold choicesN
 induction X with
 | nil => simp
 | cons a X ih =>
  rw [List.flatMap_cons, List.length_append, List.length_cons, Nat.add_mul, Nat.one_mul]
  have := List.length_filterMap_le (chcOf rt a) Y
  omega
/-- What Between asks of its numbers. -/
structure BwFit (n : Net) (rt : Int → Int → Option (List Hp × Int)) (p q : Plc) : Prop where
 hp : Sm p.off
 hq : Sm q.off
 near : Near2 n p q
 fit : Fit rt (exitsN n p).1 (entriesN n q).1
 few1 : (exitsN n p).1.length ≤ 2
 few2 : (entriesN n q).1.length ≤ 2
 lens : ∀ c ∈ choicesN rt (exitsN n p).1 (entriesN n q).1, Sm c.len ∧ Sm c.ex.len ∧ Sm c.en.len ∧ c.R.length ≤ 100000
 ahead : ∀ l, aheadN n p q = some l → Sm l
theorem way_set {b B : Nat} {w : World} {v : Value} {R : List (List Value)} {p q : Plc} (hb : w.heap[b]? = some (.cells #[.int .i64 p.road, .bool (zs p.off.num), .string (zx p.off.num), .bool false, .string (ry p.off.den), .int .i64 q.road, .bool (zs q.off.num), .string (zx q.off.num), .bool false, .string (ry q.off.den), .slice none 0 0, .bool false, .string ⟨#[]⟩, .bool false, .string ⟨#[]⟩] 46 (0, 0))) (ho : Ow B w 55 9 v R) (l : Rat) :
  (((((w.setCell ⟨b, 11, none⟩ (.bool (zs l.num))).setCell ⟨b, 12, none⟩ (.string (zx l.num))).setCell ⟨b, 13, none⟩ (.bool false)).setCell ⟨b, 14, none⟩ (.string (ry l.den))).setCell ⟨b, 10, none⟩ v).heap[b]? = some (.cells (wcs p q v l) 46 (0, 0)) ∧
  Ow B (((((w.setCell ⟨b, 11, none⟩ (.bool (zs l.num))).setCell ⟨b, 12, none⟩ (.string (zx l.num))).setCell ⟨b, 13, none⟩ (.bool false)).setCell ⟨b, 14, none⟩ (.string (ry l.den))).setCell ⟨b, 10, none⟩ v) 55 9 v R ∧
  ∀ W B', B' ≤ b → Below B' W w → Below B' W (((((w.setCell ⟨b, 11, none⟩ (.bool (zs l.num))).setCell ⟨b, 12, none⟩ (.string (zx l.num))).setCell ⟨b, 13, none⟩ (.bool false)).setCell ⟨b, 14, none⟩ (.string (ry l.den))).setCell ⟨b, 10, none⟩ v) := by
 have hne : v.ownBlock ≠ some b := fun h => absurd (ho.type b h _ _ _ hb) (by decide)
 refine ⟨?_, ?_, fun W B' hB h => ((((h.setCell hB _).setCell hB _).setCell hB _).setCell hB _).setCell hB _⟩
 ·rw [obj_set (obj_set (obj_set (obj_set (obj_set hb))))]
  simp [wcs]
 ·exact ((((ho.keepSet ⟨b, 11, none⟩ hne _).keepSet ⟨b, 12, none⟩ hne _).keepSet ⟨b, 13, none⟩ hne _).keepSet ⟨b, 14, none⟩ hne _).keepSet ⟨b, 10, none⟩ hne _
theorem jset {V A X : World} {b i : Nat} {u : Value} (h : b < V.heap.size) : ((V.setCell ⟨b, i, none⟩ u).junk A).junk X = ((V.junk A).junk X).setCell ⟨b, i, none⟩ u := by
 rw [junk_setCell (V.junk A) X _ _ _ (Nat.lt_of_lt_of_le h (junk_below V A).size), junk_setCell V A _ _ _ h]
theorem sset {V : World} {b i : Nat} {u : Value} (h : b < V.heap.size) : b < (V.setCell ⟨b, i, none⟩ u).heap.size := by simpa using h
theorem way_set2 {b B : Nat} {V A X : World} {v : Value} {R : List (List Value)} {p q : Plc} (hb : V.heap[b]? = some (.cells #[.int .i64 p.road, .bool (zs p.off.num), .string (zx p.off.num), .bool false, .string (ry p.off.den), .int .i64 q.road, .bool (zs q.off.num), .string (zx q.off.num), .bool false, .string (ry q.off.den), .slice none 0 0, .bool false, .string ⟨#[]⟩, .bool false, .string ⟨#[]⟩] 46 (0, 0))) (ho : Ow B ((V.junk A).junk X) 55 9 v R) (l : Rat) :
  (((((((V.setCell ⟨b, 11, none⟩ (.bool (zs l.num))).setCell ⟨b, 12, none⟩ (.string (zx l.num))).setCell ⟨b, 13, none⟩ (.bool false)).setCell ⟨b, 14, none⟩ (.string (ry l.den))).setCell ⟨b, 10, none⟩ v).junk A).junk X).heap[b]? = some (.cells (wcs p q v l) 46 (0, 0)) ∧ Ow B (((((((V.setCell ⟨b, 11, none⟩ (.bool (zs l.num))).setCell ⟨b, 12, none⟩ (.string (zx l.num))).setCell ⟨b, 13, none⟩ (.bool false)).setCell ⟨b, 14, none⟩ (.string (ry l.den))).setCell ⟨b, 10, none⟩ v).junk A).junk X) 55 9 v R ∧ ∀ W B', B' ≤ b → Below B' W V → Below B' W (((((((V.setCell ⟨b, 11, none⟩ (.bool (zs l.num))).setCell ⟨b, 12, none⟩ (.string (zx l.num))).setCell ⟨b, 13, none⟩ (.bool false)).setCell ⟨b, 14, none⟩ (.string (ry l.den))).setCell ⟨b, 10, none⟩ v).junk A).junk X) := by
 have hlt := obj_lt hb
 have e : (((((((V.setCell ⟨b, 11, none⟩ (.bool (zs l.num))).setCell ⟨b, 12, none⟩ (.string (zx l.num))).setCell ⟨b, 13, none⟩ (.bool false)).setCell ⟨b, 14, none⟩ (.string (ry l.den))).setCell ⟨b, 10, none⟩ v).junk A).junk X) = (((((((V.junk A).junk X).setCell ⟨b, 11, none⟩ (.bool (zs l.num))).setCell ⟨b, 12, none⟩ (.string (zx l.num))).setCell ⟨b, 13, none⟩ (.bool false)).setCell ⟨b, 14, none⟩ (.string (ry l.den))).setCell ⟨b, 10, none⟩ v) := by
  rw [jset (sset (sset (sset (sset hlt)))), jset (sset (sset (sset hlt))), jset (sset (sset hlt)), jset (sset hlt), jset hlt]
 rw [e]
 obtain ⟨h1, h2, h3⟩ := way_set (p := p) (q := q) (obj_junk (X := X) (obj_junk (X := A) hb)) ho l
 exact ⟨h1, h2, fun W B' hB h => h3 W B' hB ((h.trans ((junk_below V A).mono (by omega))).trans ((junk_below _ X).mono (Nat.le_trans (by omega) (junk_below V A).size)))⟩
theorem ow_setRow {B b : Nat} {w : World} {e k : Nat} {v : Value} {R : List (List Value)} {c : Array Value} (h : Ow B w e k v R) (hb : b < B) : Ow B (setRow w b c) e k v R := by
 refine ⟨⟨h.1.1, ?_⟩, h.2⟩
 rcases h.1.2 with g | ⟨g, cap, cur, h1, h2, h3, h4⟩
 ·exact .inl g
 ·refine .inr ⟨g, cap, cur, h1, h2, ?_, h4⟩
  rw [← h3]
  simp only [setRow, Array.getElem?_modify]
  rw [if_neg (by omega)]
theorem rowN_of {n : Nat} {w : World} {b : Nat} {c : Array Value} {T : TypeId} (h : w.heap[b]? = some (.cells c T (0, 0))) (hs : c.size = n) : rowN n w b = some c := by
 unfold rowN
 rw [h]
 simp [hs]
theorem rowN_bw {n : Nat} {w w' : World} {b : Nat} {B : Nat} (h : Below B w w') (hb : b < B) : rowN n w' b = rowN n w b := by
 unfold rowN
 have e : w'.heap[b]? = w.heap[b]? := h.block b hb
 rw [e]
set_option maxRecDepth 100000 in
set_option maxHeartbeats 3000000 in
theorem between_q (n : Net) (rt : Int → Int → Option (List Hp × Int)) (hrt : RtOf n rt) (v1 v2 : Value) (p q : Plc) (w : World) (hN : NetAt w.heap.size w v1 v2 n) (hK : NetOK n) (hsz : n.roads.length ≤ 100) (hF : BwFit n rt p q) :
  Calls Tryz.prog 15 #[.agg #[v1, v2], p.v, q.v] w (BwOut (betweenN n rt p q).1 (betweenN n rt p q).2 w) := by
 have HP := chk_bw hN hK p hF.hp
 have HQ := chk_bw hN hK q hF.hq
 have HS := same_bw hN hK p q hF.hp hF.hq
 have HA : Hid (∀ (w' : World) [Bw w w'], Calls Tryz.prog 23 #[.agg #[v1, v2], p.v, q.v] w' fun e w2 => e = .returned (.tuple #[rV ((aheadN n p q).getD 0), .bool (aheadN n p q).isSome]) ∧ Below w'.heap.size w' w2) := Lib.hid (fun w' _ => ahead_q n v1 v2 p q w' (later_bw hN) hK hF.hp hF.hq hF.near)
 have HC : Hid (∀ (w' : World) [Bw w w'], Calls Tryz.prog 45 #[.agg #[v1, v2], p.v, q.v] w' (ChsOut (choicesN rt (exitsN n p).1 (entriesN n q).1) w')) := Lib.hid (fun w' _ => choices_q n rt hrt v1 v2 p q w' (later_bw hN) hK hsz hF.hp hF.hq hF.fit hF.few1 hF.few2)
 have HF := Lib.hid hF
 have HN := Lib.hid hN
 have HK := Lib.hid hK
 obtain ⟨out, hout⟩ : ∃ o, betweenN n rt p q = o := ⟨_, rfl⟩
 rw [hout]
 have HT := Lib.hid hout
 unfold betweenN at HT
 have hvp := chk_vals n p
 have hvq := chk_vals n q
 by_cases he : orI [chkP n p, chkP n q] = 0
 ·have hp0 : chkP n p = 0 := by
   by_cases h : chkP n p = 0
   ·exact h
   ·simp only [orI] at he; rw [if_neg h] at he; exact absurd he h
  have hq0 : chkP n q = 0 := by
   simp only [orI] at he; rw [if_pos hp0] at he
   by_cases h : chkP n q = 0
   ·exact h
   ·rw [if_neg h] at he; exact absurd he h
  have HT2 := Lib.hid HT.out
  rw [if_neg (by rw [he]; decide)] at HT2
  rw [hp0] at HP
  rw [hq0] at HQ
  clear he hp0 hq0 hvp hvq hout HT
  have hs : sameN n p q = true ∨ sameN n p q = false := by cases sameN n p q <;> simp
  have HSS := Lib.hid hs
  generalize hsm : sameN n p q = sm at HS HT2 HSS
  clear hs hsm hF hN hK
  unfold Plc.v at HP HQ HS HC HA ⊢
  go_enter Tryz.func15, Tryz.ntmps15
  go_wp2_with fail
  refine wp_jtail 6 (by kernel_rfl) (by kernel_rfl) ?_
  simp only [List.take_succ_cons, List.take_zero, List.drop_succ_cons, List.drop_zero]
  repeat (go_big_quiet_step (first | (first | (with_reducible exact jq (HP.out _)) | (with_reducible exact jq (HQ.out _))) | fail))
  refine wpQuiet_nil ?_
  rintro _ ⟨X, rfl⟩
  go_wp2_with (go_at_call 31; refine (orE_any [0, 0] _ 2 _ _ rfl (by decide) (by intro i hi; rcases i with _ | _ | i <;> first | (simp [go_sem]; done) | omega)).mono ?_; rintro e w' ⟨rfl, rfl⟩; rw [show orI [0, 0] = 0 from rfl])
  obtain ⟨Wj, hWj⟩ : ∃ Wj, Wj = ((((w.alloc (.cells #[v1, v2] 36)).alloc (.cells #[.int .i64 p.road, .bool (zs p.off.num), .string (zx p.off.num), .bool false, .string (ry p.off.den)] 43)).alloc (.cells #[.int .i64 q.road, .bool (zs q.off.num), .string (zx q.off.num), .bool false, .string (ry q.off.den)] 43)).alloc (.cells #[.int .i64 0, .bool false, .string ⟨#[]⟩, .bool false, .string ⟨#[]⟩, .int .i64 0, .bool false, .string ⟨#[]⟩, .bool false, .string ⟨#[]⟩, .slice none 0 0, .bool false, .string ⟨#[]⟩, .bool false, .string ⟨#[]⟩] 46)).junk X := ⟨_, rfl⟩
  have n0 : Wj.cell? ⟨w.heap.size, 0, none⟩ = some v1 := by rw [hWj]; simp [go_sem]
  have n1 : Wj.cell? ⟨w.heap.size, 1, none⟩ = some v2 := by rw [hWj]; simp [go_sem]
  have pc0 : Wj.cell? ⟨w.heap.size + 1, 0, none⟩ = some (.int .i64 p.road) := by rw [hWj]; simp [go_sem]
  have pc1 : Wj.cell? ⟨w.heap.size + 1, 1, none⟩ = some (.bool (zs p.off.num)) := by rw [hWj]; simp [go_sem]
  have pc2 : Wj.cell? ⟨w.heap.size + 1, 2, none⟩ = some (.string (zx p.off.num)) := by rw [hWj]; simp [go_sem]
  have pc3 : Wj.cell? ⟨w.heap.size + 1, 3, none⟩ = some (.bool false) := by rw [hWj]; simp [go_sem]
  have pc4 : Wj.cell? ⟨w.heap.size + 1, 4, none⟩ = some (.string (ry p.off.den)) := by rw [hWj]; simp [go_sem]
  have qc0 : Wj.cell? ⟨w.heap.size + 1 + 1, 0, none⟩ = some (.int .i64 q.road) := by rw [hWj]; simp [go_sem]
  have qc1 : Wj.cell? ⟨w.heap.size + 1 + 1, 1, none⟩ = some (.bool (zs q.off.num)) := by rw [hWj]; simp [go_sem]
  have qc2 : Wj.cell? ⟨w.heap.size + 1 + 1, 2, none⟩ = some (.string (zx q.off.num)) := by rw [hWj]; simp [go_sem]
  have qc3 : Wj.cell? ⟨w.heap.size + 1 + 1, 3, none⟩ = some (.bool false) := by rw [hWj]; simp [go_sem]
  have qc4 : Wj.cell? ⟨w.heap.size + 1 + 1, 4, none⟩ = some (.string (ry q.off.den)) := by rw [hWj]; simp [go_sem]
  have hr6 : (rowN 15 Wj (w.heap.size + 1 + 1 + 1)).isSome = true := by rw [hWj]; simp [go_sem]
  haveI l0 : Lo (w.heap.size) Wj := by rw [hWj]; infer_instance
  haveI l1 : Lo (w.heap.size + 1) Wj := by rw [hWj]; infer_instance
  haveI l2 : Lo (w.heap.size + 1 + 1) Wj := by rw [hWj]; infer_instance
  haveI l3 : Lo (w.heap.size + 1 + 1 + 1) Wj := by rw [hWj]; infer_instance
  haveI bw : Bw w Wj := by rw [hWj]; infer_instance
  rw [← hWj]
  clear hWj
  have HR6 := Lib.hid hr6
  clear hr6
  refine (jk (HS.out _)).mono ?_
  rintro e _ ⟨rfl, X2, rfl⟩
  rcases HSS.out with rfl | rfl
  ·simp only [if_true] at HT2
   clear HC HA HP HQ HS
   go_wp2_with (first | (refine wl_load (op := ⟨some 33, .load _ (.tmp 9), _, _, _, _⟩) (by rfl) _ rfl uWy rfl iWy _ (by rfl) #[.int .i64 p.road, .bool (zs p.off.num), .string (zx p.off.num), .bool false, .string (ry p.off.den), .int .i64 q.road, .bool (zs q.off.num), .string (zx q.off.num), .bool false, .string (ry q.off.den), .slice none 0 0, .bool false, .string ⟨#[]⟩, .bool false, .string ⟨#[]⟩] (by simp [go_sem]) ?_) | (refine wl_store (op := ⟨none, .store _ (.tmp 6) (.tmp 33), _, _, _, _⟩) (by rfl) _ _ rfl iWy _ (by rfl) #[.int .i64 p.road, .bool (zs p.off.num), .string (zx p.off.num), .bool false, .string (ry p.off.den), .int .i64 q.road, .bool (zs q.off.num), .string (zx q.off.num), .bool false, .string (ry q.off.den), .slice none 0 0, .bool false, .string ⟨#[]⟩, .bool false, .string ⟨#[]⟩] (by rfl) (by simp [go_sem, HR6.out]) rfl (by simp [Value.oneCell']) ?_) | fail)
   haveI bs : Bw w (setRow Wj (w.heap.size + 1 + 1 + 1) #[.int .i64 p.road, .bool (zs p.off.num), .string (zx p.off.num), .bool false, .string (ry p.off.den), .int .i64 q.road, .bool (zs q.off.num), .string (zx q.off.num), .bool false, .string (ry q.off.den), .slice none 0 0, .bool false, .string ⟨#[]⟩, .bool false, .string ⟨#[]⟩]) := ⟨below_setRow bw.b (by omega)⟩
   refine bodyPost_ret (res_row_tmp rfl _ (w.heap.size + 1 + 1 + 1) (by rfl) _ _ (loadVar_is uWy rfl iWy (c := #[.int .i64 p.road, .bool (zs p.off.num), .string (zx p.off.num), .bool false, .string (ry p.off.den), .int .i64 q.road, .bool (zs q.off.num), .string (zx q.off.num), .bool false, .string (ry q.off.den), .slice none 0 0, .bool false, .string ⟨#[]⟩, .bool false, .string ⟨#[]⟩]) ?_)) rfl ?_
   ·simp [go_sem, rowN_setRow HR6.out]
   ·refine ⟨.slice none 0 0, ?_, ?_, Bw.b⟩
    ·rw [← HT2.out]; unfold wcs; simp only [zc0, zc1, zc2]; rfl
    ·rw [← HT2.out]; exact Ow.nil _ _ _ _
  ·simp only [Bool.false_eq_true, if_false] at HT2
   go_wp2_with fail
   refine (HC.out _).mono ?_
   rintro e w2 ⟨vC, M, rfl, hM, hCh, hb⟩
   obtain ⟨X3, rfl⟩ := below_some hb
   have hGood : ∀ m ∈ M, ChGood ((((Wj.alloc (.cells #[.int .i64 0, .int .i64 0] 56)).alloc (.cells #[.int .i64 p.road, .bool (zs p.off.num), .string (zx p.off.num), .bool false, .string (ry p.off.den), .int .i64 q.road, .bool (zs q.off.num), .string (zx q.off.num), .bool false, .string (ry q.off.den), .slice none 0 0, .bool false, .string ⟨#[]⟩, .bool false, .string ⟨#[]⟩] 46)).junk X2).junk X3) m := fun m hm => by
    have h1 := hCh.2 m hm
    obtain ⟨a1, a2, a3, a4⟩ := HF.out.lens m.c (by rw [← hM]; exact List.mem_map_of_mem hm)
    exact ⟨h1.1.sl, by obtain ⟨s, n, c, h⟩ := h1.2.val; exact ⟨s, n, c, h⟩, a1, by simp [nodesC]; omega⟩
   have hMl : M.length ≤ 1000000 := by
    have e1 : M.length = (choicesN rt (exitsN n p).1 (entriesN n q).1).length := by rw [← hM, List.length_map]
    have e2 := ch_len rt (exitsN n p).1 (entriesN n q).1
    have e3 := Nat.mul_le_mul HF.out.few1 HF.out.few2
    omega
   have HL := Lib.hid (fun w' (hw : Below ((((Wj.alloc (.cells #[.int .i64 0, .int .i64 0] 56)).alloc (.cells #[.int .i64 p.road, .bool (zs p.off.num), .string (zx p.off.num), .bool false, .string (ry p.off.den), .int .i64 q.road, .bool (zs q.off.num), .string (zx q.off.num), .bool false, .string (ry q.off.den), .slice none 0 0, .bool false, .string ⟨#[]⟩, .bool false, .string ⟨#[]⟩] 46)).junk X2).junk X3).heap.size ((((Wj.alloc (.cells #[.int .i64 0, .int .i64 0] 56)).alloc (.cells #[.int .i64 p.road, .bool (zs p.off.num), .string (zx p.off.num), .bool false, .string (ry p.off.den), .int .i64 q.road, .bool (zs q.off.num), .string (zx q.off.num), .bool false, .string (ry q.off.den), .slice none 0 0, .bool false, .string ⟨#[]⟩, .bool false, .string ⟨#[]⟩] 46)).junk X2).junk X3) w') => least_q M vC w' (hCh.1.sl.later hw) (fun m hm => (hGood m hm).later hw) hMl)
   have HGD := Lib.hid hGood
   have HCH := Lib.hid hCh
   have HM := Lib.hid hM
   obtain ⟨sc, nc, kc, hvC⟩ := hCh.1.val
   subst hvC
   clear hM hCh hb hGood hMl HC HS HP HQ
   go_wp2_with fail
   refine (jk (HL.out _ (Below.refl _ _))).mono ?_
   rintro e _ ⟨rfl, X4, rfl⟩
   clear HL
   have HLC : Hid ((leastM M).map ChM.c = leastC (choicesN rt (exitsN n p).1 (entriesN n q).1)) := Lib.hid (by rw [← HM.out, leastC_of])
   obtain ⟨om, hom⟩ : ∃ o, leastM M = o := ⟨_, rfl⟩
   rw [hom] at HLC ⊢
   have HOM : Hid (∀ m, om = some m → m ∈ M) := Lib.hid (fun m h => leastM_mem M (by rw [hom]; exact h))
   have hone : ChOne (om.getD zM) := by
    cases om with
    | none => exact one_zM
    | some m => exact (HGD.out m (HOM.out m rfl)).one
   obtain ⟨m0, hm0⟩ : ∃ m, om.getD zM = m := ⟨_, rfl⟩
   rw [hm0] at hone ⊢
   have HM0 := Lib.hid hm0
   clear hom hm0
   go_wp2_with (first | (refine wl_store (op := ⟨none, .store _ (.tmp 10) (.tmp 40), _, _, _, _⟩) (by rfl) _ _ rfl iChT _ (by rfl) (rc m0) (by rfl) (by simp [go_sem]) rfl hone ?_) | fail)
   obtain ⟨oa, hoa⟩ : ∃ o, aheadN n p q = o := ⟨_, rfl⟩
   have HOA := Lib.hid hoa
   rw [hoa] at HA HT2
   have hsa : Sm (oa.getD 0) := by
    cases oa with
    | none => exact ⟨by decide, by decide⟩
    | some l => exact HF.out.ahead l hoa
   clear hoa
   generalize hal : oa.getD 0 = al at HA hsa
   have HAL := Lib.hid hal
   have HSA := Lib.hid hsa
   clear hal hsa
   unfold rV at HA
   refine (jk (HA.out _)).mono ?_
   rintro e _ ⟨rfl, X5, rfl⟩
   clear HA
   go_upto_region 9 with (fail)
   obtain ⟨W10, hW10⟩ : ∃ W10, W10 = ((((Wj.alloc (.cells #[.int .i64 0, .int .i64 0] 56)).alloc (.cells #[.int .i64 p.road, .bool (zs p.off.num), .string (zx p.off.num), .bool false, .string (ry p.off.den), .int .i64 q.road, .bool (zs q.off.num), .string (zx q.off.num), .bool false, .string (ry q.off.den), .slice none 0 0, .bool false, .string ⟨#[]⟩, .bool false, .string ⟨#[]⟩] 46)).junk X2).junk X3).junk X4 := ⟨_, rfl⟩
   rw [← hW10]
   obtain ⟨V, hV⟩ : ∃ V, V = ((W10.alloc (.cells (rc m0) 117)).junk X5).alloc (.cells #[.bool (zs al.num), .string (zx al.num), .bool false, .string (ry al.den)] 41) := ⟨_, rfl⟩
   rw [← hV]
   have vn0 : V.cell? ⟨w.heap.size, 0, none⟩ = some (v1) := by rw [hV, hW10]; simp [go_sem, n0]
   have vn1 : V.cell? ⟨w.heap.size, 1, none⟩ = some (v2) := by rw [hV, hW10]; simp [go_sem, n1]
   have vpc0 : V.cell? ⟨w.heap.size + 1, 0, none⟩ = some (.int .i64 p.road) := by rw [hV, hW10]; simp [go_sem, pc0]
   have vpc1 : V.cell? ⟨w.heap.size + 1, 1, none⟩ = some (.bool (zs p.off.num)) := by rw [hV, hW10]; simp [go_sem, pc1]
   have vpc2 : V.cell? ⟨w.heap.size + 1, 2, none⟩ = some (.string (zx p.off.num)) := by rw [hV, hW10]; simp [go_sem, pc2]
   have vpc3 : V.cell? ⟨w.heap.size + 1, 3, none⟩ = some (.bool false) := by rw [hV, hW10]; simp [go_sem, pc3]
   have vpc4 : V.cell? ⟨w.heap.size + 1, 4, none⟩ = some (.string (ry p.off.den)) := by rw [hV, hW10]; simp [go_sem, pc4]
   have vqc0 : V.cell? ⟨w.heap.size + 1 + 1, 0, none⟩ = some (.int .i64 q.road) := by rw [hV, hW10]; simp [go_sem, qc0]
   have vqc1 : V.cell? ⟨w.heap.size + 1 + 1, 1, none⟩ = some (.bool (zs q.off.num)) := by rw [hV, hW10]; simp [go_sem, qc1]
   have vqc2 : V.cell? ⟨w.heap.size + 1 + 1, 2, none⟩ = some (.string (zx q.off.num)) := by rw [hV, hW10]; simp [go_sem, qc2]
   have vqc3 : V.cell? ⟨w.heap.size + 1 + 1, 3, none⟩ = some (.bool false) := by rw [hV, hW10]; simp [go_sem, qc3]
   have vqc4 : V.cell? ⟨w.heap.size + 1 + 1, 4, none⟩ = some (.string (ry q.off.den)) := by rw [hV, hW10]; simp [go_sem, qc4]
   have hv6 : (rowN 15 V (w.heap.size + 1 + 1 + 1)).isSome = true := by rw [hV, hW10]; simp [go_sem, HR6.out]
   have HB9 : Hid (V.heap[Wj.heap.size + 1]? = some (.cells #[.int .i64 p.road, .bool (zs p.off.num), .string (zx p.off.num), .bool false, .string (ry p.off.den), .int .i64 q.road, .bool (zs q.off.num), .string (zx q.off.num), .bool false, .string (ry q.off.den), .slice none 0 0, .bool false, .string ⟨#[]⟩, .bool false, .string ⟨#[]⟩] 46 (0, 0))) := Lib.hid (by rw [hV, hW10]; exact obj_old (obj_junk (obj_old (obj_junk (obj_junk (obj_junk (obj_last2 _ _ _)))))))
   have HB10 : Hid (V.heap[W10.heap.size]? = some (.cells (rc m0) 117 (0, 0))) := Lib.hid (by rw [hV]; exact obj_old (obj_junk (obj_last _ _)))
   have HB12 : Hid (V.heap[((W10.alloc (.cells (rc m0) 117)).junk X5).heap.size]? = some (.cells #[.bool (zs al.num), .string (zx al.num), .bool false, .string (ry al.den)] 41 (0, 0))) := Lib.hid (by rw [hV]; exact obj_last _ _)
   haveI uk : Bw ((Wj.alloc (.cells #[.int .i64 0, .int .i64 0] 56)).alloc (.cells #[.int .i64 p.road, .bool (zs p.off.num), .string (zx p.off.num), .bool false, .string (ry p.off.den), .int .i64 q.road, .bool (zs q.off.num), .string (zx q.off.num), .bool false, .string (ry q.off.den), .slice none 0 0, .bool false, .string ⟨#[]⟩, .bool false, .string ⟨#[]⟩] 46)) W10 := by rw [hW10]; infer_instance
   have hz10 := uk.b.size
   simp only [World.size_alloc] at hz10
   haveI u10 : Bw W10 V := by rw [hV]; infer_instance
   haveI uj : Bw Wj V := by rw [hV, hW10]; infer_instance
   have HGV : Hid (∀ m, om = some m → ChGood V m ∧ Sl V.heap.size V 1 m.vr ((m.c.R.map Hp.road).map i1)) := Lib.hid (fun m h => by
    have h1 := HCH.out.2 m (HOM.out m h)
    have h2 := HGD.out m (HOM.out m h)
    rw [hV, hW10]
    exact ⟨h2.later Bw.b, h1.2.sl.later Bw.b⟩)
   clear hV hW10
   generalize ((W10.alloc (.cells (rc m0) 117)).junk X5).heap.size = b12 at *
   obtain ⟨b10, hb10⟩ : ∃ b, W10.heap.size = b := ⟨_, rfl⟩
   obtain ⟨b9, hb9⟩ : ∃ b, Wj.heap.size + 1 = b := ⟨_, rfl⟩
   rw [hb10] at HB10 hz10 ⊢
   rw [hb9] at HB9 hz10 ⊢
   clear hb10
   haveI m0' : Lo (w.heap.size) V := ⟨Nat.lt_of_lt_of_le l0.1 uj.b.size⟩
   haveI m1' : Lo (w.heap.size + 1) V := ⟨Nat.lt_of_lt_of_le l1.1 uj.b.size⟩
   haveI m2' : Lo (w.heap.size + 1 + 1) V := ⟨Nat.lt_of_lt_of_le l2.1 uj.b.size⟩
   haveI m3' : Lo (w.heap.size + 1 + 1 + 1) V := ⟨Nat.lt_of_lt_of_le l3.1 uj.b.size⟩
   haveI m9' : Lo b9 V := ⟨obj_lt HB9.out⟩
   haveI m10' : Lo b10 V := ⟨obj_lt HB10.out⟩
   haveI m12' : Lo b12 V := ⟨obj_lt HB12.out⟩
   haveI bwV : Bw w V := ⟨bw.b.trans (uj.b.mono bw.b.size)⟩
   have a0 := obj_cell HB12.out 0
   have a1 := obj_cell HB12.out 1
   have a2 := obj_cell HB12.out 2
   have a3 := obj_cell HB12.out 3
   simp at a0 a1 a2 a3
   have k10 := obj_cell HB9.out 10
   have k11 := obj_cell HB9.out 11
   have k12 := obj_cell HB9.out 12
   have k13 := obj_cell HB9.out 13
   have k14 := obj_cell HB9.out 14
   simp at k10 k11 k12 k13 k14
   have f10 := obj_free HB9.out 10
   have f11 := obj_free HB9.out 11
   have f12 := obj_free HB9.out 12
   have f13 := obj_free HB9.out 13
   have f14 := obj_free HB9.out 14
   have r0 : V.cell? ⟨b10, 0, none⟩ = some (.bool (zs m0.c.len.num)) := obj_cell HB10.out 0
   have r1 : V.cell? ⟨b10, 1, none⟩ = some (.string (zx m0.c.len.num)) := obj_cell HB10.out 1
   have r2 : V.cell? ⟨b10, 2, none⟩ = some (.bool false) := obj_cell HB10.out 2
   have r3 : V.cell? ⟨b10, 3, none⟩ = some (.string (ry m0.c.len.den)) := obj_cell HB10.out 3
   have hsm0 : Sm m0.c.len := by
    rw [← HM0.out]
    cases om with
    | none => exact ⟨by decide, by decide⟩
    | some m => exact (HGD.out m (HOM.out m rfl)).len
   have HCP : Hid (∀ w', Calls Tryz.prog 21 #[.agg #[.bool (zs al.num), .string (zx al.num), .bool false, .string (ry al.den)], .agg #[.bool (zs m0.c.len.num), .string (zx m0.c.len.num), .bool false, .string (ry m0.c.len.den)]] w' fun e w2 => e = .returned (.int .i64 (cmpR al m0.c.len)) ∧ Below w'.heap.size w' w2) := Lib.hid (fun w' => compare_q al m0.c.len w' HSA.out hsm0)
   clear hsm0
   obtain ⟨ba, hba⟩ : ∃ b, (oa.isSome && (!om.isSome || decide (cmpR al m0.c.len ≤ 0))) = b := ⟨_, rfl⟩
   have HBA := Lib.hid hba
   clear hba n0 n1 pc0 pc1 pc2 pc3 pc4 qc0 qc1 qc2 qc3 qc4
   go_cut [60] (fun s60 wx => s60 = .bool ba ∧ ∃ U, wx = V.junk U)
   case first =>
    cases oa with
    | none =>
     go_wp2_with fail
     go_meet
     refine ⟨?_, ?_⟩
     ·rw [← HBA.out]; rfl
     ·with_reducible exact ex_junk
    | some l =>
     cases om with
     | none =>
      go_wp2_with fail
      go_meet
      refine ⟨?_, ?_⟩
      ·rw [← HBA.out]; rfl
      ·with_reducible exact ex_junk
     | some m =>
      go_wp2_with fail
      refine (jk (HCP.out _)).mono ?_
      rintro e _ ⟨rfl, X6, rfl⟩
      go_wp2_with fail
      go_meet
      refine ⟨?_, ?_⟩
      ·rw [← HBA.out]; simp
      ·with_reducible exact ex_junk
   case rest =>
    obtain ⟨rfl, U, rfl⟩ := hcut
    rcases ba with _ | _
    ·cases om with
     | none =>
      have HTT : Hid ((wyz, 31) = out) := Lib.hid (by
       rw [← HT2.out, ← HLC.out]
       have h := HBA.out
       cases oa with
       | none => rfl
       | some l => exact absurd h (by simp))
      go_wp2_with (first | (refine wl_store (op := ⟨none, .store _ (.tmp 6) (.tmp 72), _, _, _, _⟩) (by rfl) _ _ rfl iWy _ (by rfl) #[.int .i64 0, .bool false, .string ⟨#[]⟩, .bool false, .string ⟨#[]⟩, .int .i64 0, .bool false, .string ⟨#[]⟩, .bool false, .string ⟨#[]⟩, .slice none 0 0, .bool false, .string ⟨#[]⟩, .bool false, .string ⟨#[]⟩] (by rfl) (by simp [go_sem, hv6]) rfl (by simp [Value.oneCell']) ?_) | fail)
      haveI bs : Bw w (setRow V (w.heap.size + 1 + 1 + 1) #[.int .i64 0, .bool false, .string ⟨#[]⟩, .bool false, .string ⟨#[]⟩, .int .i64 0, .bool false, .string ⟨#[]⟩, .bool false, .string ⟨#[]⟩, .slice none 0 0, .bool false, .string ⟨#[]⟩, .bool false, .string ⟨#[]⟩]) := ⟨below_setRow bwV.b (by omega)⟩
      haveI ls : Lo (w.heap.size + 1 + 1 + 1) (setRow V (w.heap.size + 1 + 1 + 1) #[.int .i64 0, .bool false, .string ⟨#[]⟩, .bool false, .string ⟨#[]⟩, .int .i64 0, .bool false, .string ⟨#[]⟩, .bool false, .string ⟨#[]⟩, .slice none 0 0, .bool false, .string ⟨#[]⟩, .bool false, .string ⟨#[]⟩]) := ⟨by simpa [setRow] using m3'.1⟩
      refine bodyPost_ret (res_row_tmp rfl _ (w.heap.size + 1 + 1 + 1) (by rfl) _ _ (loadVar_is uWy rfl iWy (c := #[.int .i64 0, .bool false, .string ⟨#[]⟩, .bool false, .string ⟨#[]⟩, .int .i64 0, .bool false, .string ⟨#[]⟩, .bool false, .string ⟨#[]⟩, .slice none 0 0, .bool false, .string ⟨#[]⟩, .bool false, .string ⟨#[]⟩]) ?_)) rfl ?_
      ·simp [go_sem, rowN_setRow hv6]
      ·rw [← HTT.out]
       exact ⟨.slice none 0 0, by rw [wc_zero]; rfl, Ow.nil _ _ _ _, Bw.b⟩
     | some m =>
      have HTT : Hid ((⟨p, q, legsN n m.c p q, m.c.len⟩, 0) = out) := Lib.hid (by
       rw [← HT2.out, ← HLC.out]
       have h := HBA.out
       cases oa with
       | none => rfl
       | some l =>
        have e1 : l = al := HAL.out
        have e2 : m = m0 := HM0.out
        rw [← e2, ← e1] at h
        simp at h
        show _ = if cmpR l m.c.len ≤ 0 then _ else _
        rw [if_neg (by omega)])
      obtain rfl : m = m0 := HM0.out
      have HLG : Hid (∀ (w' : World) [Bw V w'], Calls Tryz.prog 50 #[.agg #[.bool (zs m.c.len.num), .string (zx m.c.len.num), .bool false, .string (ry m.c.len.den), m.vn, m.vr, .int .i64 m.c.rl, .int .i64 m.c.ex.node, .bool (zs m.c.ex.len.num), .string (zx m.c.ex.len.num), .bool false, .string (ry m.c.ex.len.den), .int .i64 m.c.en.node, .bool (zs m.c.en.len.num), .string (zx m.c.en.len.num), .bool false, .string (ry m.c.en.len.den)], .agg #[v1, v2], p.v, q.v] w' (LegsOut (legsN n m.c p q) w')) := Lib.hid (fun w' _ => by
       have h1 := HGV.out m rfl
       have h2 := HF.out.lens m.c (by rw [← HM.out]; exact List.mem_map_of_mem (HOM.out m rfl))
       exact legs_q n m v1 v2 p q w' (later_bw (later_bw HN.out (w' := V))) HK.out HF.out.hp HF.out.hq h2.2.1 h2.2.2.1 (h1.1.vn.later Bw.b) (h1.2.later Bw.b) h2.2.2.2)
      unfold Plc.v at HLG
      have r4 : V.cell? ⟨b10, 4, none⟩ = some (m.vn) := obj_cell HB10.out 4
      have r5 : V.cell? ⟨b10, 5, none⟩ = some (m.vr) := obj_cell HB10.out 5
      have r6 : V.cell? ⟨b10, 6, none⟩ = some (.int .i64 m.c.rl) := obj_cell HB10.out 6
      have r7 : V.cell? ⟨b10, 7, none⟩ = some (.int .i64 m.c.ex.node) := obj_cell HB10.out 7
      have r8 : V.cell? ⟨b10, 8, none⟩ = some (.bool (zs m.c.ex.len.num)) := obj_cell HB10.out 8
      have r9 : V.cell? ⟨b10, 9, none⟩ = some (.string (zx m.c.ex.len.num)) := obj_cell HB10.out 9
      have r10 : V.cell? ⟨b10, 10, none⟩ = some (.bool false) := obj_cell HB10.out 10
      have r11 : V.cell? ⟨b10, 11, none⟩ = some (.string (ry m.c.ex.len.den)) := obj_cell HB10.out 11
      have r12 : V.cell? ⟨b10, 12, none⟩ = some (.int .i64 m.c.en.node) := obj_cell HB10.out 12
      have r13 : V.cell? ⟨b10, 13, none⟩ = some (.bool (zs m.c.en.len.num)) := obj_cell HB10.out 13
      have r14 : V.cell? ⟨b10, 14, none⟩ = some (.string (zx m.c.en.len.num)) := obj_cell HB10.out 14
      have r15 : V.cell? ⟨b10, 15, none⟩ = some (.bool false) := obj_cell HB10.out 15
      have r16 : V.cell? ⟨b10, 16, none⟩ = some (.string (ry m.c.en.len.den)) := obj_cell HB10.out 16
      go_upto_region 14 with fail
      go_cut [] (fun wx => ∃ v, Hid (wx.heap[b9]? = some (.cells (wcs p q v m.c.len) 46 (0, 0))) ∧ Hid (Ow Wj.heap.size wx 55 9 v ((legsN n m.c p q).map Lg.cs)) ∧ Hid (Below Wj.heap.size Wj wx))
      case first =>
       go_region_held3 (fun w' => w'.cell? ⟨b10, 0, none⟩ = some (.bool (zs m.c.len.num)) ∧ w'.cell? ⟨b10, 1, none⟩ = some (.string (zx m.c.len.num)) ∧ w'.cell? ⟨b10, 2, none⟩ = some (.bool false) ∧ w'.cell? ⟨b10, 3, none⟩ = some (.string (ry m.c.len.den)) ∧ w'.cell? ⟨b10, 4, none⟩ = some (m.vn) ∧ w'.cell? ⟨b10, 5, none⟩ = some (m.vr) ∧ w'.cell? ⟨b10, 6, none⟩ = some (.int .i64 m.c.rl) ∧ w'.cell? ⟨b10, 7, none⟩ = some (.int .i64 m.c.ex.node) ∧ w'.cell? ⟨b10, 8, none⟩ = some (.bool (zs m.c.ex.len.num)) ∧ w'.cell? ⟨b10, 9, none⟩ = some (.string (zx m.c.ex.len.num)) ∧ w'.cell? ⟨b10, 10, none⟩ = some (.bool false) ∧ w'.cell? ⟨b10, 11, none⟩ = some (.string (ry m.c.ex.len.den)) ∧ w'.cell? ⟨b10, 12, none⟩ = some (.int .i64 m.c.en.node) ∧ w'.cell? ⟨b10, 13, none⟩ = some (.bool (zs m.c.en.len.num)) ∧ w'.cell? ⟨b10, 14, none⟩ = some (.string (zx m.c.en.len.num)) ∧ w'.cell? ⟨b10, 15, none⟩ = some (.bool false) ∧ w'.cell? ⟨b10, 16, none⟩ = some (.string (ry m.c.en.len.den)) ∧ w'.cell? ⟨w.heap.size, 0, none⟩ = some v1 ∧ w'.cell? ⟨w.heap.size, 1, none⟩ = some v2 ∧ w'.cell? ⟨w.heap.size + 1, 0, none⟩ = some (.int .i64 p.road) ∧ w'.cell? ⟨w.heap.size + 1, 1, none⟩ = some (.bool (zs p.off.num)) ∧ w'.cell? ⟨w.heap.size + 1, 2, none⟩ = some (.string (zx p.off.num)) ∧ w'.cell? ⟨w.heap.size + 1, 3, none⟩ = some (.bool false) ∧ w'.cell? ⟨w.heap.size + 1, 4, none⟩ = some (.string (ry p.off.den)) ∧ w'.cell? ⟨w.heap.size + 1 + 1, 0, none⟩ = some (.int .i64 q.road) ∧ w'.cell? ⟨w.heap.size + 1 + 1, 1, none⟩ = some (.bool (zs q.off.num)) ∧ w'.cell? ⟨w.heap.size + 1 + 1, 2, none⟩ = some (.string (zx q.off.num)) ∧ w'.cell? ⟨w.heap.size + 1 + 1, 3, none⟩ = some (.bool false) ∧ w'.cell? ⟨w.heap.size + 1 + 1, 4, none⟩ = some (.string (ry q.off.den))) (refine ⟨?_, ?_, ?_, ?_, ?_, ?_, ?_, ?_, ?_, ?_, ?_, ?_, ?_, ?_, ?_, ?_, ?_, ?_, ?_, ?_, ?_, ?_, ?_, ?_, ?_, ?_, ?_, ?_, ?_⟩ <;> simp [go_sem, r0, r1, r2, r3, r4, r5, r6, r7, r8, r9, r10, r11, r12, r13, r14, r15, r16, vn0, vn1, vpc0, vpc1, vpc2, vpc3, vpc4, vqc0, vqc1, vqc2, vqc3, vqc4]) (first | ((with_reducible refine (HLG.out _).mono ?_); rintro e w2 ⟨v, rfl, ho, hb⟩; obtain ⟨X6, rfl⟩ := below_some hb; obtain ⟨av, nv, cv, hv⟩ := ho.val; subst hv) | fail)
       all_goals
        go_wp2_with fail
        go_meet
        obtain ⟨h1, h2, h3⟩ := way_set2 (p := p) (q := q) HB9.out ho m.c.len
        exact ⟨_, Lib.hid h1, Lib.hid (h2.mono (Nat.le_trans uj.b.size (junk_below _ _).size)), Lib.hid (h3 Wj Wj.heap.size (by omega) uj.b)⟩
      case rest =>
       obtain ⟨v, HB, HO, HW⟩ := hcut
       haveI bx : Bw Wj wc := ⟨HW.out⟩
       obtain ⟨av, nv, cv, hv⟩ := HO.out.val
       subst hv
       have hr6x : (rowN 15 wc (w.heap.size + 1 + 1 + 1)).isSome = true := by rw [rowN_bw HW.out l3.1]; exact HR6.out
       go_wp2_with (first | (refine wl_load (op := ⟨some 82, .load _ (.tmp 9), _, _, _, _⟩) (by rfl) _ rfl uWy rfl iWy _ (by rfl) (wcs p q (.slice av nv cv) m.c.len) (rowN_of HB.out rfl) ?_) | (refine wl_store (op := ⟨none, .store _ (.tmp 6) (.tmp 82), _, _, _, _⟩) (by rfl) _ _ rfl iWy _ (by rfl) (wcs p q (.slice av nv cv) m.c.len) (by rfl) hr6x rfl (by simp [wcs, Value.oneCell']) ?_) | fail)
       haveI bs : Bw w (setRow wc (w.heap.size + 1 + 1 + 1) (wcs p q (.slice av nv cv) m.c.len)) := ⟨below_setRow (bw.b.trans (HW.out.mono bw.b.size)) (by omega)⟩
       refine bodyPost_ret (res_row_tmp rfl _ (w.heap.size + 1 + 1 + 1) (by rfl) _ _ (loadVar_is uWy rfl iWy (c := wcs p q (.slice av nv cv) m.c.len) ?_)) rfl ?_
       ·exact rowN_setRow hr6x rfl
       ·rw [← HTT.out]
        exact ⟨.slice av nv cv, rfl, (ow_setRow HO.out l3.1).mono bw.b.size, Bw.b⟩
    ·have HTT : Hid ((⟨p, q, (alongN n p q al).toList, al⟩, 0) = out) := Lib.hid (by
      rw [← HT2.out, ← HLC.out]
      have h := HBA.out
      cases oa with
      | none => cases h
      | some l =>
       have e1 : l = al := HAL.out
       cases om with
       | none => rw [← e1]; rfl
       | some m =>
        have e2 : m = m0 := HM0.out
        rw [← e2, ← e1] at h
        simp at h
        rw [← e1]
        show _ = if cmpR l m.c.len ≤ 0 then _ else _
        rw [if_pos h])
     have HAG := along_bw (later_bw HN.out (w' := V)) HK.out p q al HF.out.hp HF.out.hq HSA.out HF.out.near
     unfold Plc.v rV at HAG
     go_upto_region 10 with fail
     go_cut [] (fun wx => ∃ v, Hid (wx.heap[b9]? = some (.cells (wcs p q v al) 46 (0, 0))) ∧ Hid (Ow Wj.heap.size wx 55 9 v ((alongN n p q al).toList.map Lg.cs)) ∧ Hid (Below Wj.heap.size Wj wx))
     case first =>
      go_region_held3 (fun w' => w'.cell? ⟨b12, 0, none⟩ = some (.bool (zs al.num)) ∧ w'.cell? ⟨b12, 1, none⟩ = some (.string (zx al.num)) ∧ w'.cell? ⟨b12, 2, none⟩ = some (.bool false) ∧ w'.cell? ⟨b12, 3, none⟩ = some (.string (ry al.den)) ∧ w'.cell? ⟨w.heap.size, 0, none⟩ = some v1 ∧ w'.cell? ⟨w.heap.size, 1, none⟩ = some v2 ∧ w'.cell? ⟨w.heap.size + 1, 0, none⟩ = some (.int .i64 p.road) ∧ w'.cell? ⟨w.heap.size + 1, 1, none⟩ = some (.bool (zs p.off.num)) ∧ w'.cell? ⟨w.heap.size + 1, 2, none⟩ = some (.string (zx p.off.num)) ∧ w'.cell? ⟨w.heap.size + 1, 3, none⟩ = some (.bool false) ∧ w'.cell? ⟨w.heap.size + 1, 4, none⟩ = some (.string (ry p.off.den)) ∧ w'.cell? ⟨w.heap.size + 1 + 1, 0, none⟩ = some (.int .i64 q.road) ∧ w'.cell? ⟨w.heap.size + 1 + 1, 1, none⟩ = some (.bool (zs q.off.num)) ∧ w'.cell? ⟨w.heap.size + 1 + 1, 2, none⟩ = some (.string (zx q.off.num)) ∧ w'.cell? ⟨w.heap.size + 1 + 1, 3, none⟩ = some (.bool false) ∧ w'.cell? ⟨w.heap.size + 1 + 1, 4, none⟩ = some (.string (ry q.off.den))) (refine ⟨?_, ?_, ?_, ?_, ?_, ?_, ?_, ?_, ?_, ?_, ?_, ?_, ?_, ?_, ?_, ?_⟩ <;> simp [go_sem, a0, a1, a2, a3, vn0, vn1, vpc0, vpc1, vpc2, vpc3, vpc4, vqc0, vqc1, vqc2, vqc3, vqc4]) (first | ((with_reducible refine (HAG.out _).mono ?_); rintro e w2 ⟨v, rfl, ho, hb⟩; obtain ⟨X6, rfl⟩ := below_some hb; obtain ⟨av, nv, cv, hv⟩ := ho.val; subst hv) | fail)
      all_goals
       go_wp2_with fail
       go_meet
       obtain ⟨h1, h2, h3⟩ := way_set2 (p := p) (q := q) HB9.out ho al
       exact ⟨_, Lib.hid h1, Lib.hid (h2.mono (Nat.le_trans uj.b.size (junk_below _ _).size)), Lib.hid (h3 Wj Wj.heap.size (by omega) uj.b)⟩
     case rest =>
      obtain ⟨v, HB, HO, HW⟩ := hcut
      haveI bx : Bw Wj wc := ⟨HW.out⟩
      obtain ⟨av, nv, cv, hv⟩ := HO.out.val
      subst hv
      have hr6x : (rowN 15 wc (w.heap.size + 1 + 1 + 1)).isSome = true := by rw [rowN_bw HW.out l3.1]; exact HR6.out
      go_wp2_with (first | (refine wl_load (op := ⟨some 69, .load _ (.tmp 9), _, _, _, _⟩) (by rfl) _ rfl uWy rfl iWy _ (by rfl) (wcs p q (.slice av nv cv) al) (rowN_of HB.out rfl) ?_) | (refine wl_store (op := ⟨none, .store _ (.tmp 6) (.tmp 69), _, _, _, _⟩) (by rfl) _ _ rfl iWy _ (by rfl) (wcs p q (.slice av nv cv) al) (by rfl) hr6x rfl (by simp [wcs, Value.oneCell']) ?_) | fail)
      haveI bs : Bw w (setRow wc (w.heap.size + 1 + 1 + 1) (wcs p q (.slice av nv cv) al)) := ⟨below_setRow (bw.b.trans (HW.out.mono bw.b.size)) (by omega)⟩
      refine bodyPost_ret (res_row_tmp rfl _ (w.heap.size + 1 + 1 + 1) (by rfl) _ _ (loadVar_is uWy rfl iWy (c := wcs p q (.slice av nv cv) al) ?_)) rfl ?_
      ·exact rowN_setRow hr6x rfl
      ·rw [← HTT.out]
       exact ⟨.slice av nv cv, rfl, (ow_setRow HO.out l3.1).mono bw.b.size, Bw.b⟩
 ·have HT2 := Lib.hid HT.out
  rw [if_pos he] at HT2
  generalize chkP n p = a at HP he HT2
  generalize chkP n q = b at HQ he HT2
  obtain ⟨c, hc⟩ : ∃ c, orI [a, b] = c := ⟨_, rfl⟩
  rw [hc] at he HT2
  have HOR := Lib.hid hc
  have hx' : (c != 0) = true := by simpa using he
  clear hc he hvp hvq hout HT HS HA HC hF hN hK
  unfold Plc.v at HP HQ ⊢
  go_enter Tryz.func15, Tryz.ntmps15
  go_wp2_with fail
  refine wp_jtail 6 (by kernel_rfl) (by kernel_rfl) ?_
  simp only [List.take_succ_cons, List.take_zero, List.drop_succ_cons, List.drop_zero]
  repeat (go_big_quiet_step (first | (first | (with_reducible exact jq (HP.out _)) | (with_reducible exact jq (HQ.out _))) | fail))
  refine wpQuiet_nil ?_
  rintro _ ⟨X, rfl⟩
  go_wp2_with (first | (go_at_call 31; refine (orE_any [a, b] _ 2 _ _ rfl (by decide) (by intro i hi; rcases i with _ | _ | i <;> first | (simp [go_sem]; done) | omega)).mono ?_; rintro e w' ⟨rfl, rfl⟩; rw [HOR.out]) | (refine wl_store (op := ⟨none, .store _ (.tmp 6) (.tmp 24), _, _, _, _⟩) (by rfl) _ _ rfl iWy _ (by rfl) #[.int .i64 0, .bool false, .string ⟨#[]⟩, .bool false, .string ⟨#[]⟩, .int .i64 0, .bool false, .string ⟨#[]⟩, .bool false, .string ⟨#[]⟩, .slice none 0 0, .bool false, .string ⟨#[]⟩, .bool false, .string ⟨#[]⟩] (by rfl) (by simp [go_sem]) rfl (by simp [Value.oneCell']) ?_) | fail)
  refine bodyPost_ret (res_row_tmp rfl _ (w.heap.size + 1 + 1 + 1) (by rfl) _ _ (loadVar_is uWy rfl iWy (c := #[.int .i64 0, .bool false, .string ⟨#[]⟩, .bool false, .string ⟨#[]⟩, .int .i64 0, .bool false, .string ⟨#[]⟩, .bool false, .string ⟨#[]⟩, .slice none 0 0, .bool false, .string ⟨#[]⟩, .bool false, .string ⟨#[]⟩]) ?_)) rfl ?_
  ·simp [go_sem]
  ·rw [← HT2.out]
   exact ⟨.slice none 0 0, by rw [wc_zero]; rfl, Ow.nil _ _ _ _, Bw.b⟩
end Go.Proofs.YtcelpkbmcmnogaaGreatDoor
