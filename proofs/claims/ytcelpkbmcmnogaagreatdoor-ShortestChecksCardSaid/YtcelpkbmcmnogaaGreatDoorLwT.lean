/-
  The law's routes, walked.
-/
import Derived.Test.YtcelpkbmcmnogaaGreatDoorLwR
import Derived.Test.YtcelpkbmcmnogaaGreatDoorLwE
import Derived.Test.YtcelpkbmcmnogaaGreatDoorLenW
import Derived.Test.YtcelpkbmcmnogaaGreatDoorFlwB
import Derived.Deep.DeepCutAuto
import Derived.Deep.CutBlock
set_option linter.unusedSimpArgs false
set_option linter.unusedVariables false
namespace Go.Proofs.YtcelpkbmcmnogaaGreatDoor
open Go Go.RowKit Go.Vi
attribute [local go_sem ↓] lo_lt lo_ne lo_ne'
attribute [local go_sem] junk_cell junk_frozen junk_setCell junk_drew drew_junk
def rte0 : Rte := ⟨[], [], 0⟩
structure RtAt (B : Nat) (w : World) (vn vr : Value) (r : Rte) : Prop where
  nodes : Sl B w 1 vn (r.nodes.map i1)
  roads : Sl B w 1 vr (r.roads.map i1)
theorem RtAt.later {w w' : World} {vn vr : Value} {r : Rte} (h : RtAt w.heap.size w vn vr r) (hb : Below w.heap.size w w') : RtAt w'.heap.size w' vn vr r := ⟨h.nodes.later hb, h.roads.later hb⟩
/-- Where the slices lie. -/
def RtLow (B : Nat) (vn vr : Value) : Prop := (∀ ad n c, vn = .slice (some ad) n c → B ≤ ad.block) ∧ ∀ ad n c, vr = .slice (some ad) n c → B ≤ ad.block
theorem RtLow.mono {B B' : Nat} {vn vr : Value} (h : RtLow B vn vr) (hB : B' ≤ B) : RtLow B' vn vr := ⟨fun ad n c e => Nat.le_trans hB (h.1 ad n c e), fun ad n c e => Nat.le_trans hB (h.2 ad n c e)⟩
theorem rtLow_nil (B : Nat) : RtLow B (.slice none 0 0) (.slice none 0 0) := ⟨(fun ad n c e => by cases e), (fun ad n c e => by cases e)⟩
theorem sl_set {B k : Nat} {w : World} {v : Value} {R : List (List Value)} (h : Sl B w k v R) (a : Addr) (u : Value) (hne : ∀ ad n c, v = .slice (some ad) n c → ad.block ≠ a.block) : Sl B (w.setCell a u) k v R := by
  obtain ⟨ao, cap, h1, h2, h3, h4, h5, h6⟩ := h
  refine ⟨ao, cap, h1, h2, h3, h4, h5, fun ad had => ?_⟩
  obtain ⟨q1, q2, q3⟩ := h6 ad had
  refine ⟨q1, q2, fun i hi c x hx => ?_⟩
  rw [← q3 i hi c x hx]
  have hn := hne ad _ _ (by rw [h1, had])
  simp [World.cell?, World.setCell, Array.getElem?_modify, Ne.symm hn]
theorem RtAt.set3 {B : Nat} {w : World} {vn vr : Value} {r : Rte} (h : RtAt B w vn vr r) {b : Nat} (hl : RtLow (b + 1) vn vr) (x y z : Value) : RtAt B (((w.setCell ⟨b, 0, none⟩ x).setCell ⟨b, 1, none⟩ y).setCell ⟨b, 2, none⟩ z) vn vr r :=
  ⟨sl_set (sl_set (sl_set h.nodes _ _ (fun ad n c e => by have := hl.1 ad n c e; show ad.block ≠ b; omega)) _ _ (fun ad n c e => by have := hl.1 ad n c e; show ad.block ≠ b; omega)) _ _ (fun ad n c e => by have := hl.1 ad n c e; show ad.block ≠ b; omega),
   sl_set (sl_set (sl_set h.roads _ _ (fun ad n c e => by have := hl.2 ad n c e; show ad.block ≠ b; omega)) _ _ (fun ad n c e => by have := hl.2 ad n c e; show ad.block ≠ b; omega)) _ _ (fun ad n c e => by have := hl.2 ad n c e; show ad.block ≠ b; omega)⟩
theorem junk_set3 {W X : World} {b : Nat} (h : b < W.heap.size) (x y z : Value) : ((((W.setCell ⟨b, 0, none⟩ x).setCell ⟨b, 1, none⟩ y).setCell ⟨b, 2, none⟩ z).junk X) = ((((W.junk X).setCell ⟨b, 0, none⟩ x).setCell ⟨b, 1, none⟩ y).setCell ⟨b, 2, none⟩ z) := by
  rw [junk_setCell W X b 0 x h, junk_setCell _ X b 1 y (by simpa using h), junk_setCell _ X b 2 z (by simpa using h)]
theorem bw_set3 {W X : World} [h : Bw W X] {b : Nat} (hb : W.heap.size ≤ b) (x y z : Value) : Bw W (((X.setCell ⟨b, 0, none⟩ x).setCell ⟨b, 1, none⟩ y).setCell ⟨b, 2, none⟩ z) := by
  haveI := bw_set (W := W) (X := X) (g := b) (k := 0) (v := x) hb
  haveI := bw_set (W := W) (X := X.setCell ⟨b, 0, none⟩ x) (g := b) (k := 1) (v := y) hb
  exact bw_set hb
theorem pick_yes {y b : Rte} (h : betterR y b = true) : pickR (some b) (some y) = some y := by simp [pickR, h]
theorem pick_no {y b : Rte} (h : betterR y b = false) : pickR (some b) (some y) = some b := by simp [pickR, h]
theorem sl_nil (B : Nat) (w : World) (k : Nat) : Sl B w k (.slice none 0 0) [] := ⟨none, 0, rfl, Nat.le_refl _, Nat.zero_le _, (fun r hr => by cases hr), (fun _ => rfl), (fun ad h => by cases h)⟩
structure RtFit (n : Net) (f : Nat) (x : Rte) : Prop where
  ne : 1 ≤ x.nodes.length
  few : x.nodes.length + f ≤ 9
  rds : x.roads.length ≤ x.nodes.length
  un : unused (idsN n) x.nodes ≤ f
  len : 0 ≤ x.len ∧ x.len ≤ x.nodes.length * 1073741824
def RtsOut (B : Nat) (o : Option Rte) (w : World) (e : Ending) (w' : World) : Prop := ∃ vn vr, RtLow B vn vr ∧ e = .returned (.tuple #[.agg #[vn, vr, .int .i64 (o.getD rte0).len], .bool o.isSome]) ∧ RtAt w'.heap.size w' vn vr (o.getD rte0) ∧ Below w.heap.size w w'
theorem contains_any (L : List Int) (x : Int) : L.contains x = L.any fun y => y == x := by
  rw [Bool.eq_iff_iff]; simp
theorem any_snoc (L : List Int) (x : Int) {k : Nat} (h : k < L.length) : (L.take (k + 1)).any (fun y => y == x) = ((L.take k).any (fun y => y == x) || L[k]! == x) := by
  rw [List.take_add_one, List.getElem?_eq_getElem h, getElem!_pos L k h, List.any_append]
  congr 1
  exact Bool.or_false _
theorem foldl_used (hp : Int → Int → Option (Int × Int)) (rc : Rte → Option Rte) (x : Rte) : ∀ (l : List Int) (acc : Option Rte), (∀ nx ∈ l, nx ∈ x.nodes) → l.foldl (stepR hp rc x) acc = acc
  | [], _, _ => rfl
  | a :: l, acc, h => by
    rw [List.foldl_cons]
    have : stepR hp rc x acc a = acc := by unfold stepR; rw [if_pos (by simpa using h a List.mem_cons_self)]
    rw [this]
    exact foldl_used hp rc x l acc (fun nx hx => h nx (List.mem_cons_of_mem _ hx))
theorem unused_zero {ids nodes : List Int} (h : unused ids nodes = 0) : ∀ x ∈ ids, x ∈ nodes := fun x hx => by
  have := List.countP_eq_zero.1 h x hx
  simpa using this
theorem routesF_eq (hp : Int → Int → Option (Int × Int)) (ids : List Int) (tgt : Int) (f : Nat) (x : Rte) (hu : unused ids x.nodes ≤ f) : routesF hp ids tgt f x = if lastI x.nodes = tgt then some x else ids.foldl (stepR hp (routesF hp ids tgt (f - 1)) x) none := by
  cases f with
  | zero =>
    unfold routesF
    split
    · rfl
    · rw [foldl_used hp _ x ids none (unused_zero (by omega))]
  | succ f => rfl
theorem routesF_few {hp : Int → Int → Option (Int × Int)} {ids : List Int} {tgt : Int} : ∀ (f : Nat) (x y : Rte), routesF hp ids tgt f x = some y → y.nodes.length ≤ x.nodes.length + f
  | 0, x, y, h => by
    unfold routesF at h
    split at h
    · injection h with h; subst h; omega
    · cases h
  | f + 1, x, y, h => by
    unfold routesF at h
    split at h
    · injection h with h; subst h; omega
    · have key : ∀ (l : List Int) (acc : Option Rte), (∀ a, acc = some a → a.nodes.length ≤ x.nodes.length + (f + 1)) → ∀ y, l.foldl (stepR hp (routesF hp ids tgt f) x) acc = some y → y.nodes.length ≤ x.nodes.length + (f + 1) := by
        intro l
        induction l with
        | nil => intro acc ha y hy; exact ha y hy
        | cons q l ih =>
          intro acc ha y hy
          rw [List.foldl_cons] at hy
          refine ih _ (fun a hq => ?_) y hy
          unfold stepR at hq
          split at hq
          · exact ha a hq
          · split at hq
            · exact ha a hq
            · rename_i rd l' _
              unfold pickR at hq
              split at hq
              · exact ha a hq
              · rename_i z hz
                have hzl := routesF_few f _ z hz
                simp only [List.length_append, List.length_singleton] at hzl
                split at hq
                · injection hq with hq; subst hq; omega
                · split at hq
                  · injection hq with hq; subst hq; omega
                  · exact ha a hq
      exact key ids none (fun a h => by cases h) y h
theorem lastI_at {L : List Int} (h : 1 ≤ L.length) : lastI L = L[L.length - 1]! := by
  unfold lastI
  rw [List.getLast?_eq_getElem?, List.getElem?_eq_getElem (by omega), getElem!_pos L (L.length - 1) (by omega)]
  rfl
theorem few_bd {x : Rte} {f : Nat} {n : Net} (h : RtFit n f x) {tgt : Int} {hp : Int → Int → Option (Int × Int)} {ids : List Int} {y : Rte} (hr : routesF hp ids tgt f x = some y) : y.nodes.length ≤ 9 := by
  have := routesF_few f x y hr
  have := h.few
  omega
set_option maxRecDepth 100000 in
set_option maxHeartbeats 2000000 in
theorem routes_q (n : Net) (hK : NetOK n) (h8 : n.nodes.length ≤ 8) (tgt : Int) : ∀ (f : Nat) (x : Rte) (vn vr v1 v2 : Value) (w : World) (B : Nat), B ≤ w.heap.size → RtLow B vn vr → NetAt w.heap.size w v1 v2 n → RtAt w.heap.size w vn vr x → RtFit n f x →
    Calls Tryz.prog 53 #[.agg #[v1, v2], .agg #[vn, vr, .int .i64 x.len], .int .i64 tgt] w (RtsOut B (routesF (hp2 n) (idsN n) tgt f x) w) := by
  intro f
  induction f using Nat.strongRecOn with
  | _ f ih =>
  intro x vn vr v1 v2 w B hB0 hLow hN hX hF
  have HLOW := Lib.hid hLow
  have HIH := Lib.hid ih
  have HH : Hid (∀ (a b : Int) (w' : World) [Bw w w'], Calls Tryz.prog 94 #[.agg #[v1, v2], .int .i64 a, .int .i64 b] w' fun e w2 => e = .returned (.tuple #[.int .i64 (hopN n a b).road, .int .i64 (hopN n a b).len, .bool (hopN n a b).ok]) ∧ Below w'.heap.size w' w2) := Lib.hid (fun a b w' _ => hop_q n v1 v2 a b w' (later_bw hN) (by have := hK.few; omega))
  have HLN := Lib.hid (fun a b => hop_len n a b hK.len)
  have HN := Lib.hid hN
  have HX := Lib.hid hX
  have HF := Lib.hid hF
  obtain ⟨a1, n1, c1, rfl, hn1, _⟩ := hN.1.open
  obtain ⟨a2, n2, c2, rfl, _⟩ := hN.2.open
  obtain ⟨an, nn, cn, rfl, hnn, _⟩ := hX.nodes.open
  obtain ⟨ar, nr, cr, rfl, hnr, _⟩ := hX.roads.open
  rw [List.length_map] at hn1 hnn hnr
  have HN1 := Lib.hid hn1
  have HNN := Lib.hid hnn
  have HNR := Lib.hid hnr
  have hn8 : n1 ≤ 8 := by rw [← hn1]; exact h8
  have hnn1 : 1 ≤ nn := by rw [← hnn]; exact hF.ne
  have hnn9 : nn ≤ 9 := by rw [← hnn]; have := hF.few; omega
  have hnr9 : nr ≤ 9 := by rw [← hnr]; have := hF.rds; have := hF.few; omega
  have hlast := lastI_at hF.ne
  rw [hnn] at hlast
  have HEQ := Lib.hid (routesF_eq (hp2 n) (idsN n) tgt f x hF.un)
  obtain ⟨b4, off4, rfl, hb4, d4⟩ := int_cells hX.nodes (nn - 1) (by rw [hnn]; omega)
  have D4 := Lib.hid d4
  have d0 := d4 (nn - 1) (by rw [hnn]; omega)
  rw [← hlast] at d0
  have HLAST := Lib.hid hlast
  obtain ⟨at_, hat⟩ : ∃ a, lastI x.nodes = a := ⟨_, rfl⟩
  have HAT := Lib.hid hat
  rw [hat] at d0
  obtain ⟨m, hm⟩ : ∃ m, nn - 1 = m := ⟨_, rfl⟩
  rw [hm] at d0
  have hmn : (nn : Int) - 1 = (m : Int) := by omega
  have hwm : IntKind.i64.wrap (m : Int) = (m : Int) := IntWalk.i64_in _ (by omega)
  have hm1 : (0 : Int) ≤ (m : Int) := by omega
  have hm2 : (m : Int) < (nn : Int) := by omega
  haveI l4 : Lo b4 w := ⟨hb4⟩
  obtain ⟨i0, hii, hz0, hz1, hz2⟩ := info_parts iIntT
  clear ih hLow hN hX hF hn1 hnn hnr hlast d4 hat h8
  go_enter Tryz.func53, Tryz.ntmps53
  by_cases htg : at_ = tgt
  · have htg' : (at_ == tgt) = true := by simpa using htg
    have HR := HEQ.out
    rw [if_pos (by rw [HAT.out]; exact htg)] at HR
    rw [HR]
    clear HEQ HIH HR htg
    go_wp2_with fail
    refine bodyPost_ret (v := .tuple #[.agg #[.slice (some ⟨b4, off4, none⟩) nn cn, .slice ar nr cr, .int .i64 x.len], .bool true]) (by simp [results, Tryz.results53, go_sem]) rfl ⟨_, _, HLOW.out, rfl, HX.out.later Bw.b, Bw.b⟩
  · have htg' : (at_ == tgt) = false := by simpa using htg
    have HR := HEQ.out
    rw [if_neg (by rw [HAT.out]; exact htg)] at HR
    rw [HR]
    obtain ⟨out, hout⟩ : ∃ o, (idsN n).foldl (stepR (hp2 n) (routesF (hp2 n) (idsN n) tgt (f - 1)) x) none = o := ⟨_, rfl⟩
    rw [hout]
    have HT := Lib.hid hout
    clear HEQ HR hout
    go_upto_block 0 with fail
    obtain ⟨W0, hW0⟩ : ∃ W0, W0 = (w.alloc (.cells #[.slice a1 n1 c1, .slice a2 n2 c2] 36)).alloc (.cells #[.slice (some ⟨b4, off4, none⟩) nn cn, .slice ar nr cr, .int .i64 x.len] 64) := ⟨_, rfl⟩
    have n0 : W0.cell? ⟨w.heap.size, 0, none⟩ = some (.slice a1 n1 c1) := by rw [hW0]; simp [go_sem]
    have n1' : W0.cell? ⟨w.heap.size, 1, none⟩ = some (.slice a2 n2 c2) := by rw [hW0]; simp [go_sem]
    have g0 : W0.cell? ⟨w.heap.size + 1, 0, none⟩ = some (.slice (some ⟨b4, off4, none⟩) nn cn) := by rw [hW0]; simp [go_sem]
    have g1 : W0.cell? ⟨w.heap.size + 1, 1, none⟩ = some (.slice ar nr cr) := by rw [hW0]; simp [go_sem]
    have g2 : W0.cell? ⟨w.heap.size + 1, 2, none⟩ = some (.int .i64 x.len) := by rw [hW0]; simp [go_sem]
    haveI lw : Lo w.heap.size W0 := by rw [hW0]; infer_instance
    haveI lw1 : Lo (w.heap.size + 1) W0 := by rw [hW0]; infer_instance
    haveI bw : Bw w W0 := by rw [hW0]; infer_instance
    have hsz : w.heap.size + 1 + 1 = W0.heap.size := by rw [hW0]; simp
    rw [← hW0]
    simp only [hsz]
    clear hW0 hsz
    have HB0 : Hid ((W0.alloc (.cells #[.slice none 0 0, .slice none 0 0, .int .i64 0] 64)).heap[W0.heap.size]? = some (.cells #[.slice none 0 0, .slice none 0 0, .int .i64 0] 64 (0, 0))) := Lib.hid (obj_last _ _)
    generalize hbe : w.heap.size = bn at *
    obtain ⟨b6, hb6⟩ : ∃ b, W0.heap.size = b := ⟨_, rfl⟩
    have hb6W : W0.heap.size ≤ b6 := by omega
    rw [hb6] at HB0 ⊢
    clear hb6
    go_wp2_with fail
    go_loopw [7, 9] (fun s7 s9 wr => ∃ (i : Nat) (acc : Option Rte) (un ur : Value), s7 = .bool acc.isSome ∧ s9 = .int .i64 i ∧ i ≤ n1 ∧ Hid (((idsN n).take i).foldl (stepR (hp2 n) (routesF (hp2 n) (idsN n) tgt (f - 1)) x) none = acc) ∧ Hid (wr.heap[b6]? = some (.cells #[un, ur, .int .i64 (acc.getD rte0).len] 64 (0, 0))) ∧ Hid (RtAt wr.heap.size wr un ur (acc.getD rte0)) ∧ Hid (RtLow (b6 + 1) un ur) ∧ Hid (∀ y, acc = some y → y.nodes.length ≤ 9) ∧ ∃ U, wr = W0.junk U) (fun _ s9 _ => n1 - (intOf s9).toNat)
    case atStart => exact ⟨0, none, .slice none 0 0, .slice none 0 0, rfl, rfl, Nat.zero_le _, Lib.hid rfl, HB0, Lib.hid ⟨sl_nil _ _ _, sl_nil _ _ _⟩, Lib.hid (rtLow_nil _), Lib.hid (fun y h => by cases h), by with_reducible exact ex_junk⟩
    case round =>
      obtain ⟨i, acc, un, ur, rfl, rfl, hi, HACC, HBX, HRT, HRL, HFEW, U, rfl⟩ := hrel
      haveI bv : Bw W0 (W0.junk U) := inferInstance
      generalize W0.junk U = V at *
      haveI l6 : Lo b6 V := ⟨obj_lt HBX.out⟩
      by_cases hlt : i < n1
      · obtain ⟨b0, off, rfl, hb0, dn⟩ := nd_cells HN.out.1 i (by rw [HN1.out]; exact hlt)
        obtain ⟨d0', _, _⟩ := dn i (by rw [HN1.out]; exact hlt)
        have hids : i < (idsN n).length := by rw [idsN_len, HN1.out]; exact hlt
        have hnx := idsN_at n (k := i) (by rw [HN1.out]; exact hlt)
        have hbn : b0 < bn := hb0
        have hbnw : bn < W0.heap.size := lw.lt
        have hb0W : b0 < W0.heap.size := by omega
        have e0 : V.cell? ⟨b0, off + i * 3, none⟩ = some (.int .i64 n.nodes[i]!.id) := by rw [bv.b.cell (p := ⟨b0, _, none⟩) hb0W, bw.b.cell (p := ⟨b0, _, none⟩) (by rw [hbe]; exact hb0)]; exact d0'
        have m0 : V.cell? ⟨bn, 0, none⟩ = some (.slice (some ⟨b0, off, none⟩) n1 c1) := by rw [bv.b.cell (p := ⟨bn, _, none⟩) lw.lt]; exact n0
        have m1 : V.cell? ⟨bn, 1, none⟩ = some (.slice a2 n2 c2) := by rw [bv.b.cell (p := ⟨bn, _, none⟩) lw.lt]; exact n1'
        have h0 : V.cell? ⟨bn + 1, 0, none⟩ = some (.slice (some ⟨b4, off4, none⟩) nn cn) := by rw [bv.b.cell (p := ⟨bn + 1, _, none⟩) lw1.lt]; exact g0
        have h1 : V.cell? ⟨bn + 1, 1, none⟩ = some (.slice ar nr cr) := by rw [bv.b.cell (p := ⟨bn + 1, _, none⟩) lw1.lt]; exact g1
        have h2 : V.cell? ⟨bn + 1, 2, none⟩ = some (.int .i64 x.len) := by rw [bv.b.cell (p := ⟨bn + 1, _, none⟩) lw1.lt]; exact g2
        haveI k0 : Lo b0 V := ⟨Nat.lt_of_lt_of_le hb0W bv.b.size⟩
        haveI k1 : Lo bn V := ⟨Nat.lt_of_lt_of_le lw.lt bv.b.size⟩
        haveI k2 : Lo (bn + 1) V := ⟨Nat.lt_of_lt_of_le lw1.lt bv.b.size⟩
        haveI k3 : Lo b4 V := ⟨by have := bv.b.size; have : b4 < bn := hb4; omega⟩
        have HD4 : Hid (∀ j, j < nn → V.cell? ⟨b4, off4 + j, none⟩ = some (.int .i64 x.nodes[j]!)) := Lib.hid (fun j hj => by rw [bv.b.cell (p := ⟨b4, _, none⟩) (by show b4 < W0.heap.size; have : b4 < bn := hb4; omega), bw.b.cell (p := ⟨b4, _, none⟩) (by rw [hbe]; exact hb4)]; exact D4.out j (by rw [HNN.out]; exact hj))
        have HSTEP : Hid (((idsN n).take (i + 1)).foldl (stepR (hp2 n) (routesF (hp2 n) (idsN n) tgt (f - 1)) x) none = stepR (hp2 n) (routesF (hp2 n) (idsN n) tgt (f - 1)) x acc n.nodes[i]!.id) := Lib.hid (by rw [List.take_add_one, List.getElem?_eq_getElem hids, List.foldl_append, HACC.out, ← hnx, getElem!_pos (idsN n) i hids]; rfl)
        have HMEM : Hid (n.nodes[i]!.id ∈ idsN n) := Lib.hid (by rw [← hnx, getElem!_pos (idsN n) i hids]; exact List.getElem_mem hids)
        generalize n.nodes[i]!.id = nx at e0 HSTEP HMEM
        have hi1 : (0 : Int) ≤ (i : Int) := by omega
        have hi2 : (i : Int) < (n1 : Int) := by omega
        clear dn d0' hnx hids HACC
        go_wp2_with fail
        go_loopw [11, 12] (fun s11 s12 wx => ∃ k : Nat, s11 = .bool ((x.nodes.take k).any fun y => y == nx) ∧ s12 = .int .i64 k ∧ k ≤ nn ∧ wx = V) (fun _ s12 _ => nn - (intOf s12).toNat)
        case atStart => exact ⟨0, rfl, rfl, Nat.zero_le _, rfl⟩
        case round =>
          obtain ⟨k, rfl, rfl, hk, hwv⟩ := hrel
          subst hwv
          by_cases hkn : k < nn
          · have x0 := HD4.out k hkn
            have hk1 : (0 : Int) ≤ (k : Int) := by omega
            have hk2 : (k : Int) < (nn : Int) := by omega
            have HA := Lib.hid (any_snoc x.nodes nx (k := k) (by rw [HNN.out]; exact hkn))
            generalize (x.nodes.take k).any (fun y => y == nx) = ub at HA
            generalize x.nodes[k]! = z at x0 HA
            cases ub
            · cases hz : (z == nx) with
              | true =>
                rw [hz] at HA
                go_wp2_with fail
                go_roundw
                case rel => exact ⟨k + 1, by rw [HA.out]; rfl, by go_num, by omega, trivial⟩
                case measure => simp [intOf]; omega
              | false =>
                rw [hz] at HA
                go_wp2_with fail
                go_roundw
                case rel => exact ⟨k + 1, by rw [HA.out]; rfl, by go_num, by omega, trivial⟩
                case measure => simp [intOf]; omega
            · go_wp2_with fail
              go_roundw
              case rel => exact ⟨k + 1, by rw [HA.out]; rfl, by go_num, by omega, trivial⟩
              case measure => simp [intOf]; omega
          · obtain rfl : k = nn := by omega
            have hall : (x.nodes.take k).any (fun y => y == nx) = x.nodes.contains nx := by rw [List.take_of_length_le (by rw [HNN.out]; exact Nat.le_refl _), contains_any]
            rw [hall]
            have HCALL := Lib.hid (fun (w' : World) (h : Bw W0 w') => by haveI : Bw w w' := ⟨bw.b.trans (h.b.mono bw.b.size)⟩; exact HH.out at_ nx w')
            have hlen := HLN.out at_ nx
            have HP : Hid (hp2 n (lastI x.nodes) nx = if (hopN n at_ nx).ok then some ((hopN n at_ nx).road, (hopN n at_ nx).len) else none) := Lib.hid (by rw [HAT.out]; rfl)
            generalize (hopN n at_ nx).road = rd at *
            generalize (hopN n at_ nx).len = hl at *
            generalize (hopN n at_ nx).ok = ho at *
            clear hall
            go_wp2_with fail
            refine (jk (HCALL.out _ inferInstance)).mono ?_
            rintro e _ ⟨rfl, X5, rfl⟩
            cases hu : x.nodes.contains nx with
            | true =>
              have HZ : Hid (stepR (hp2 n) (routesF (hp2 n) (idsN n) tgt (f - 1)) x acc nx = acc) := Lib.hid (by unfold stepR; rw [if_pos hu])
              go_wp2_with fail
              go_roundw
              case rel => exact ⟨i + 1, acc, un, ur, rfl, by go_num, by omega, Lib.hid (by rw [HSTEP.out, HZ.out]), Lib.hid (keepObj (by exact Bw.b) HBX.out), Lib.hid (HRT.out.later (by exact Bw.b)), HRL, HFEW, by with_reducible exact ex_junk⟩
              case measure => simp [intOf]; omega
            | false =>
              cases ho with
              | false =>
                have HZ : Hid (stepR (hp2 n) (routesF (hp2 n) (idsN n) tgt (f - 1)) x acc nx = acc) := Lib.hid (by unfold stepR; rw [if_neg (by rw [hu]; simp), HP.out]; rfl)
                go_wp2_with fail
                go_roundw
                case rel => exact ⟨i + 1, acc, un, ur, rfl, by go_num, by omega, Lib.hid (by rw [HSTEP.out, HZ.out]), Lib.hid (keepObj (by exact Bw.b) HBX.out), Lib.hid (HRT.out.later (by exact Bw.b)), HRL, HFEW, by with_reducible exact ex_junk⟩
                case measure => simp [intOf]; omega
              | true =>
                have HZ : Hid (stepR (hp2 n) (routesF (hp2 n) (idsN n) tgt (f - 1)) x acc nx = pickR acc (routesF (hp2 n) (idsN n) tgt (f - 1) ⟨x.nodes ++ [nx], x.roads ++ [rd], x.len + hl⟩)) := Lib.hid (by unfold stepR; rw [if_neg (by rw [hu]; simp), HP.out]; rfl)
                have hnot : nx ∉ x.nodes := by simpa using hu
                have hlt1 := unused_lt HMEM.out hnot
                have hfu := HF.out.un
                have hf1 : 1 ≤ f := by omega
                have HF2 : Hid (RtFit n (f - 1) ⟨x.nodes ++ [nx], x.roads ++ [rd], x.len + hl⟩) := Lib.hid (by
                  have h1 := HF.out.few
                  have h2 := HF.out.rds
                  have h3 := HF.out.len
                  refine ⟨by simp, by simp; omega, by simp; omega, by simp only; omega, ?_⟩
                  simp only [List.length_append, List.length_singleton]
                  omega)
                have HIH2 := Lib.hid (fun vn vr v1 v2 (w' : World) (B' : Nat) => HIH.out (f - 1) (by omega) ⟨x.nodes ++ [nx], x.roads ++ [rd], x.len + hl⟩ vn vr v1 v2 w' B')
                have hxl := HF.out.len
                rw [HNN.out] at hxl
                have hws : IntKind.i64.wrap (x.len + hl) = x.len + hl := IntWalk.i64_in _ (by omega)
                clear hlt1 hfu HIH hnot HP hxl
                go_upto_region 15 with fail
                obtain ⟨V5, hV5⟩ : ∃ V5, V5 = wr.junk X5 := ⟨_, rfl⟩
                haveI bv5 : Bw w V5 := by rw [hV5]; haveI : Bw w wr := ⟨bw.b.trans (bv.b.mono bw.b.size)⟩; infer_instance
                have q0 : V5.cell? ⟨bn + 1, 0, none⟩ = some (.slice (some ⟨b4, off4, none⟩) k cn) := by rw [hV5]; simp [go_sem, h0]
                have q1 : V5.cell? ⟨bn + 1, 1, none⟩ = some (.slice ar nr cr) := by rw [hV5]; simp [go_sem, h1]
                have q2 : V5.cell? ⟨bn + 1, 2, none⟩ = some (.int .i64 x.len) := by rw [hV5]; simp [go_sem, h2]
                haveI q3 : Lo (bn + 1) V5 := by rw [hV5]; infer_instance
                have HXV : Hid (RtAt V5.heap.size V5 (.slice (some ⟨b4, off4, none⟩) k cn) (.slice ar nr cr) x) := Lib.hid ((show RtAt w.heap.size w _ _ _ by rw [hbe]; exact HX.out).later bv5.b)
                rw [← hV5]
                go_cut [16] (fun s16 wx => ∃ (bl : Nat) (pn pr : Value), s16 = .pointer (some ⟨bl, 0, none⟩) ∧ Hid (wx.heap[bl]? = some (.cells #[pn, pr, .int .i64 (x.len + hl)] 64 (0, 0))) ∧ Hid (RtAt wx.heap.size wx pn pr ⟨x.nodes ++ [nx], x.roads ++ [rd], x.len + hl⟩) ∧ Hid (RtLow V5.heap.size pn pr) ∧ ∃ U, wx = V5.junk U)
                case first =>
                  try clear HIH2
                  try clear HF2
                  try clear HZ
                  try clear HSTEP
                  try clear HMEM
                  try clear HH
                  try clear HCALL
                  try clear HN
                  try clear HX
                  try clear HBX
                  try clear HRT
                  try clear HFEW
                  try clear HD4
                  try clear D4
                  try clear HT
                  try clear HB0
                  try clear HLN
                  try clear HF
                  try clear HAT
                  try clear HX
                  try clear n0
                  try clear n1'
                  try clear g0
                  try clear g1
                  try clear g2
                  try clear m0
                  try clear m1
                  try clear e0
                  try clear d0
                  try clear bv
                  try clear hV5
                  try clear k0
                  try clear k1
                  try clear k2
                  try clear k3
                  try clear l6
                  try clear l4
                  try clear lw
                  try clear lw1
                  try clear h0
                  try clear h1
                  try clear h2
                  try clear hu
                  try clear hlen
                  try clear hi1
                  try clear hi2
                  try clear hbnw
                  try clear hb0W
                  try clear hbn
                  try clear hb0
                  try clear hb4
                  try clear bw
                  try clear hf1
                  try clear htg
                  try clear htg'
                  try clear hm1
                  try clear hm2
                  try clear hmn
                  try clear hwm
                  try clear hm
                  try clear hb6W
                  try clear hlt
                  try clear hi
                  refine wp_flow2 [(3, [0]), (6, [3, 5]), (10, [7]), (13, [10, 12]), (20, [19])] [(18, [6, 13]), (20, [19, 6, 13])] [(2, [1]), (3, [0, 2]), (5, [4]), (6, [3, 5]), (9, [8]), (10, [7, 9]), (12, [11]), (13, [10, 12]), (15, [14]), (17, [15, 16]), (18, [6, 13, 17]), (20, [19, 18, 6, 13])] [(0, some 74), (1, some 75), (2, some 76), (3, some 77), (4, some 78), (5, some 79), (6, some 80), (7, some 81), (8, some 82), (9, some 83), (10, some 84), (11, some 85), (12, some 86), (13, some 87), (14, some 88), (15, some 89), (16, some 90), (17, some 91), (18, some 92), (19, some 16), (20, none)] [(4, .pointer (some ⟨bn + 1, 0, none⟩)), (10, .int .i64 nx), (13, .int .i64 rd), (14, .int .i64 hl)] [.own 3 1 [], .val (.pointer (some ⟨bn + 1, 0, none⟩)), .val (.slice (some ⟨b4, off4, none⟩) k cn), .own 3 1 ([] ++ x.nodes.map i1), .val (.int .i64 nx), .own 3 1 ([nx].map i1), .own 3 1 (([] ++ x.nodes.map i1) ++ [nx].map i1), .own 3 1 [], .val (.pointer (some ⟨bn + 1, 1, none⟩)), .val (.slice ar nr cr), .own 3 1 ([] ++ x.roads.map i1), .val (.int .i64 rd), .own 3 1 ([rd].map i1), .own 3 1 (([] ++ x.roads.map i1) ++ [rd].map i1), .val (.pointer (some ⟨bn + 1, 2, none⟩)), .val (.int .i64 x.len), .val (.int .i64 hl), .val (.int .i64 (x.len + hl)), .fn (fun f => .agg #[f 6, f 13, .int .i64 (x.len + hl)]), .box 64 19 (fun _ => #[.slice none 0 0, .slice none 0 0, .int .i64 0]), .box 64 19 (fun f => #[f 6, f 13, .int .i64 (x.len + hl)])] (by kernel_rfl) (by kernel_rfl) (by kernel_rfl) (by kernel_rfl) (by kernel_rfl) ⟨rfl, rfl, rfl, rfl, trivial⟩ ⟨trivial, trivial, trivial, trivial, trivial, trivial, trivial, trivial, trivial, trivial, trivial, trivial, trivial, trivial, trivial, trivial, trivial, trivial, fun f f' h => by have q1 := h 6 (.inr (by decide)); have q2 := h 13 (.inr (by decide)); simp only [q1, q2], ⟨.inl rfl, fun _ _ _ => rfl⟩, ⟨.inr (by decide), fun f f' h => by have q1 := h 6 (.inr (by decide)); have q2 := h 13 (.inr (by decide)); simp only [q1, q2]⟩, trivial⟩ ?_ ?_
                  · refine ⟨?_, ?_, ?_, ?_, ?_, ?_, ?_, ?_, ?_, ?_, ?_, ?_, ?_, ?_, ?_, ?_, ?_, ?_, ?_, ?_, ?_, trivial⟩
                    · intro f ρ w' S hd hx hc hB hA hD
                      refine fl_lit (by rfl) (by rfl) (n := 0) rfl (fun r hr => by cases hr) rfl (Nat.zero_le _) hB.size ?_
                      simp [execOp, go_sem]
                    · intro f ρ w' S hd hx hc hB hA hD
                      refine fl_val (by rfl) (by rfl) ?_
                      have h4 : ρ (.tmp 4) = .pointer (some ⟨bn + 1, 0, none⟩) := hx (4, .pointer (some ⟨bn + 1, 0, none⟩)) (by simp)
                      simp [execOp, go_sem, h4]
                    · intro f ρ w' S hd hx hc hB hA hD
                      refine fl_val (by rfl) (by rfl) ?_
                      have f1 : f 1 = .pointer (some ⟨bn + 1, 0, none⟩) := (hA 1 (by decide)).1
                      have h75 : ρ (.tmp 75) = f 1 := hd 1 75 (by decide)
                      rw [f1] at h75
                      have c0 := (hB.cell (p := ⟨bn + 1, 0, none⟩) q3.lt).trans q0
                      simp [execOp, go_sem, h75, c0]
                    · intro f ρ w' S hd hx hc hB hA hD
                      have f2 : f 2 = .slice (some ⟨b4, off4, none⟩) k cn := (hA 2 (by decide)).1
                      have h74 : ρ (.tmp 74) = f 0 := hd 0 74 (by decide)
                      have h76 : ρ (.tmp 76) = f 2 := hd 2 76 (by decide)
                      exact fl_app (j := 0) (by rfl) (by rfl) (by rfl) uInts hii hz0 hz1 hz2 rfl (by decide) (by decide) hB.size (hA 0 (by decide)).1 h74 (h76.trans f2) (HXV.out.nodes.keep hB (Nat.le_refl _)) (fun u hu => by obtain ⟨r, hr, hu⟩ := List.mem_flatten.1 hu; obtain ⟨y, _, rfl⟩ := List.mem_map.1 hr; exact i1_one y u hu) (by have := HNN.out; have := HNR.out; simp; omega) (by decide)
                    · intro f ρ w' S hd hx hc hB hA hD
                      refine fl_val (by rfl) (by rfl) ?_
                      have h10 : ρ (.tmp 10) = .int .i64 nx := hx (10, .int .i64 nx) (by simp)
                      simp [execOp, go_sem, h10]
                    · intro f ρ w' S hd hx hc hB hA hD
                      refine fl_lit (by rfl) (by rfl) (n := 1) rfl (fun r hr => by obtain ⟨y, _, rfl⟩ := List.mem_map.1 hr; rfl) (cs := #[.int .i64 nx]) rfl (by decide) hB.size ?_
                      have f4 : f 4 = .int .i64 nx := (hA 4 (by decide)).1
                      have h78 : ρ (.tmp 78) = f 4 := hd 4 78 (by decide)
                      rw [f4] at h78
                      simp [execOp, go_sem, h78]
                    · intro f ρ w' S hd hx hc hB hA hD
                      obtain ⟨g5, c5, v5, s5, o5⟩ := (hA 5 (by decide)).1
                      have h77 : ρ (.tmp 77) = f 3 := hd 3 77 (by decide)
                      have h79 : ρ (.tmp 79) = f 5 := hd 5 79 (by decide)
                      exact fl_app (j := 3) (by rfl) (by rfl) (by rfl) uInts hii hz0 hz1 hz2 rfl (by decide) (by decide) hB.size (hA 3 (by decide)).1 h77 (h79.trans v5) o5.sl (fun u hu => by obtain ⟨r, hr, hu⟩ := List.mem_flatten.1 hu; obtain ⟨y, _, rfl⟩ := List.mem_map.1 hr; exact i1_one y u hu) (by have := HNN.out; have := HNR.out; simp; omega) (by decide)
                    · intro f ρ w' S hd hx hc hB hA hD
                      refine fl_lit (by rfl) (by rfl) (n := 0) rfl (fun r hr => by cases hr) rfl (Nat.zero_le _) hB.size ?_
                      simp [execOp, go_sem]
                    · intro f ρ w' S hd hx hc hB hA hD
                      refine fl_val (by rfl) (by rfl) ?_
                      have h4 : ρ (.tmp 4) = .pointer (some ⟨bn + 1, 0, none⟩) := hx (4, .pointer (some ⟨bn + 1, 0, none⟩)) (by simp)
                      simp [execOp, go_sem, h4]
                    · intro f ρ w' S hd hx hc hB hA hD
                      refine fl_val (by rfl) (by rfl) ?_
                      have f8 : f 8 = .pointer (some ⟨bn + 1, 1, none⟩) := (hA 8 (by decide)).1
                      have h82 : ρ (.tmp 82) = f 8 := hd 8 82 (by decide)
                      rw [f8] at h82
                      have c0 := (hB.cell (p := ⟨bn + 1, 1, none⟩) q3.lt).trans q1
                      simp [execOp, go_sem, h82, c0]
                    · intro f ρ w' S hd hx hc hB hA hD
                      have f9 : f 9 = .slice ar nr cr := (hA 9 (by decide)).1
                      have h81 : ρ (.tmp 81) = f 7 := hd 7 81 (by decide)
                      have h83 : ρ (.tmp 83) = f 9 := hd 9 83 (by decide)
                      exact fl_app (j := 7) (by rfl) (by rfl) (by rfl) uInts hii hz0 hz1 hz2 rfl (by decide) (by decide) hB.size (hA 7 (by decide)).1 h81 (h83.trans f9) (HXV.out.roads.keep hB (Nat.le_refl _)) (fun u hu => by obtain ⟨r, hr, hu⟩ := List.mem_flatten.1 hu; obtain ⟨y, _, rfl⟩ := List.mem_map.1 hr; exact i1_one y u hu) (by have := HNN.out; have := HNR.out; simp; omega) (by decide)
                    · intro f ρ w' S hd hx hc hB hA hD
                      refine fl_val (by rfl) (by rfl) ?_
                      have h13 : ρ (.tmp 13) = .int .i64 rd := hx (13, .int .i64 rd) (by simp)
                      simp [execOp, go_sem, h13]
                    · intro f ρ w' S hd hx hc hB hA hD
                      refine fl_lit (by rfl) (by rfl) (n := 1) rfl (fun r hr => by obtain ⟨y, _, rfl⟩ := List.mem_map.1 hr; rfl) (cs := #[.int .i64 rd]) rfl (by decide) hB.size ?_
                      have f11 : f 11 = .int .i64 rd := (hA 11 (by decide)).1
                      have h85 : ρ (.tmp 85) = f 11 := hd 11 85 (by decide)
                      rw [f11] at h85
                      simp [execOp, go_sem, h85]
                    · intro f ρ w' S hd hx hc hB hA hD
                      obtain ⟨g5, c5, v5, s5, o5⟩ := (hA 12 (by decide)).1
                      have h84 : ρ (.tmp 84) = f 10 := hd 10 84 (by decide)
                      have h86 : ρ (.tmp 86) = f 12 := hd 12 86 (by decide)
                      exact fl_app (j := 10) (by rfl) (by rfl) (by rfl) uInts hii hz0 hz1 hz2 rfl (by decide) (by decide) hB.size (hA 10 (by decide)).1 h84 (h86.trans v5) o5.sl (fun u hu => by obtain ⟨r, hr, hu⟩ := List.mem_flatten.1 hu; obtain ⟨y, _, rfl⟩ := List.mem_map.1 hr; exact i1_one y u hu) (by have := HNN.out; have := HNR.out; simp; omega) (by decide)
                    · intro f ρ w' S hd hx hc hB hA hD
                      refine fl_val (by rfl) (by rfl) ?_
                      have h4 : ρ (.tmp 4) = .pointer (some ⟨bn + 1, 0, none⟩) := hx (4, .pointer (some ⟨bn + 1, 0, none⟩)) (by simp)
                      simp [execOp, go_sem, h4]
                    · intro f ρ w' S hd hx hc hB hA hD
                      refine fl_val (by rfl) (by rfl) ?_
                      have f14 : f 14 = .pointer (some ⟨bn + 1, 2, none⟩) := (hA 14 (by decide)).1
                      have h88 : ρ (.tmp 88) = f 14 := hd 14 88 (by decide)
                      rw [f14] at h88
                      have c0 := (hB.cell (p := ⟨bn + 1, 2, none⟩) q3.lt).trans q2
                      simp [execOp, go_sem, h88, c0]
                    · intro f ρ w' S hd hx hc hB hA hD
                      refine fl_val (by rfl) (by rfl) ?_
                      have h14 : ρ (.tmp 14) = .int .i64 hl := hx (14, .int .i64 hl) (by simp)
                      simp [execOp, go_sem, h14]
                    · intro f ρ w' S hd hx hc hB hA hD
                      refine fl_val (by rfl) (by rfl) ?_
                      have f15 : f 15 = .int .i64 x.len := (hA 15 (by decide)).1
                      have f16 : f 16 = .int .i64 hl := (hA 16 (by decide)).1
                      have h89 : ρ (.tmp 89) = f 15 := hd 15 89 (by decide)
                      have h90 : ρ (.tmp 90) = f 16 := hd 16 90 (by decide)
                      rw [f15] at h89
                      rw [f16] at h90
                      simp [execOp, go_sem, h89, h90, hws]
                    · intro f ρ w' S hd hx hc hB hA hD
                      refine fl_fn (by rfl) (by rfl) (fun f' hf => by rw [hf 6 (by decide), hf 13 (by decide)]) ?_
                      obtain ⟨g6, c6, v6, _, _⟩ := (hA 6 (by decide)).1
                      obtain ⟨g13, c13, v13, _, _⟩ := (hA 13 (by decide)).1
                      have f17 : f 17 = .int .i64 (x.len + hl) := (hA 17 (by decide)).1
                      have h80 : ρ (.tmp 80) = f 6 := hd 6 80 (by decide)
                      have h87 : ρ (.tmp 87) = f 13 := hd 13 87 (by decide)
                      have h91 : ρ (.tmp 91) = f 17 := hd 17 91 (by decide)
                      rw [v6] at h80 ⊢
                      rw [v13] at h87 ⊢
                      rw [f17] at h91
                      simp [execOp, go_sem, h80, h87, h91]
                    · intro f ρ w' S hd hx hc hB hA hD
                      refine fl_box (by rfl) (by rfl) hB.size (fun _ _ => rfl) ?_
                      simp [execOp, go_sem]
                    · intro f ρ w' S hd hx hc hB hA hD
                      obtain ⟨b, p1, p2, p3, p4⟩ := (hA 19 (by decide)).1
                      obtain ⟨g6, n6, c6, v6⟩ : ∃ g n c, f 6 = .slice (some ⟨g, 0, none⟩) n c := by obtain ⟨g, c, v, _⟩ := (hA 6 (by decide)).1; exact ⟨g, _, c, v⟩
                      obtain ⟨g13, n13, c13, v13⟩ : ∃ g n c, f 13 = .slice (some ⟨g, 0, none⟩) n c := by obtain ⟨g, c, v, _⟩ := (hA 13 (by decide)).1; exact ⟨g, _, c, v⟩
                      have f18 : f 18 = .agg #[f 6, f 13, .int .i64 (x.len + hl)] := (hA 18 (by decide)).1
                      have h16 : ρ (.tmp 16) = f 19 := hd 19 16 (by decide)
                      have h92 : ρ (.tmp 92) = f 18 := hd 18 92 (by decide)
                      rw [p1] at h16
                      rw [f18, v6, v13] at h92
                      have c0 := obj_cell p4 0
                      have c1' := obj_cell p4 1
                      have c2' := obj_cell p4 2
                      have z0 := obj_free p4 0
                      have z1 := obj_free p4 1
                      have z2 := obj_free p4 2
                      simp at c0 c1' c2'
                      refine fl_store (w' := ((w'.setCell ⟨b, 0, none⟩ (.slice (some ⟨g6, 0, none⟩) n6 c6)).setCell ⟨b, 1, none⟩ (.slice (some ⟨g13, 0, none⟩) n13 c13)).setCell ⟨b, 2, none⟩ (.int .i64 (x.len + hl))) (by rfl) (by decide) ⟨19, by decide, p2⟩ p1 p3 (obj_lt p4) (fun f' hf => by rw [hf 6 (by decide), hf 13 (by decide)]) ?_ ?_ ?_
                      · simp [execOp, go_sem, h16, h92, c0, c1', c2', z0, z1, z2]
                      · exact Ext.of_grown (row3 _ b 0 1 2 _ _ _) (fun g hg => by injection hg with hg; exact hg.symm)
                      · rw [v6, v13]; exact obj_setF3 p4
                  · intro f w' S hB hS hD
                    obtain ⟨b, p1, p2, p3, p4⟩ := (hS 20 (by kernel_rfl)).1
                    obtain ⟨g6, c6, v6, s6, o6⟩ := (hS 6 (by kernel_rfl)).1
                    obtain ⟨g13, c13, v13, s13, o13⟩ := (hS 13 (by kernel_rfl)).1
                    simp only [putAll, Act.put, List.setIfInBounds_toArray, List.set_cons_zero, List.set_cons_succ]
                    rw [p1]
                    go_wp2_with fail
                    go_meet
                    have hln : (x.nodes.map i1 ++ [nx].map i1) = (x.nodes ++ [nx]).map i1 := by simp
                    have hlr : (x.roads.map i1 ++ [rd].map i1) = (x.roads ++ [rd]).map i1 := by simp
                    exact ⟨b, f 6, f 13, rfl, p4, ⟨by rw [v6]; rw [List.nil_append, hln] at o6 ⊢; exact o6.sl, by rw [v13]; rw [List.nil_append, hlr] at o13 ⊢; exact o13.sl⟩, ⟨fun ad n c e => (by rw [v6] at e; injection e with e; injection e with e; subst e; exact (o6.blk g6 rfl).1), fun ad n c e => (by rw [v13] at e; injection e with e; injection e with e; subst e; exact (o13.blk g13 rfl).1)⟩, below_some hB⟩
                case rest =>
                  obtain ⟨bl, pn, pr, rfl, HBL, HRP, HPL, U6, hw6⟩ := hcut
                  obtain ⟨apn, npn, cpn, rfl, _⟩ := HRP.out.nodes.open
                  obtain ⟨apr, npr, cpr, rfl, _⟩ := HRP.out.roads.open
                  obtain ⟨V6, hV6⟩ : ∃ V6, V6 = wc := ⟨_, rfl⟩
                  haveI bv6 : Bw V5 V6 := by rw [hV6, hw6]; infer_instance
                  rw [← hV6] at HBL HRP ⊢
                  haveI bvr : Bw wr V5 := by rw [hV5]; infer_instance
                  haveI bwr : Bw wr V6 := ⟨bvr.b.trans (bv6.b.mono bvr.b.size)⟩
                  haveI bW6 : Bw W0 V6 := ⟨bv.b.trans (bwr.b.mono bv.b.size)⟩
                  haveI bw6 : Bw w V6 := ⟨bw.b.trans (bW6.b.mono bw.b.size)⟩
                  have HBX6 := Lib.hid (keepObj bwr.b HBX.out)
                  have HRT6 := Lib.hid (HRT.out.later bwr.b)
                  have r0 : V6.cell? ⟨bn, 0, none⟩ = some (.slice (some ⟨b0, off, none⟩) n1 c1) := by rw [bW6.b.cell (p := ⟨bn, _, none⟩) lw.lt]; exact n0
                  have r1 : V6.cell? ⟨bn, 1, none⟩ = some (.slice a2 n2 c2) := by rw [bW6.b.cell (p := ⟨bn, _, none⟩) lw.lt]; exact n1'
                  haveI j0 : Lo bn V6 := ⟨Nat.lt_of_lt_of_le lw.lt bW6.b.size⟩
                  haveI j1 : Lo bl V6 := ⟨obj_lt HBL.out⟩
                  haveI j2 : Lo b6 V6 := ⟨obj_lt HBX6.out⟩
                  have t0 := obj_cell HBL.out 0
                  have t1 := obj_cell HBL.out 1
                  have t2 := obj_cell HBL.out 2
                  simp at t0 t1 t2
                  have HNV := Lib.hid ((show NetAt w.heap.size w _ _ n by rw [hbe]; exact HN.out).later bw6.b)
                  have hb65 : b6 + 1 ≤ V5.heap.size := by have := l6.lt; have := bvr.b.size; omega
                  clear hw6 hV6 hV5 HRT HBX q0 q1 q2 q3 HXV m0 m1 h0 h1 h2 e0 HCALL HD4 k0 k1 k2 k3 l6
                  go_wp2_with fail
                  refine (HIH2.out _ _ _ _ V6 V5.heap.size bv6.b.size HPL.out HNV.out HRP.out HF2.out).mono ?_
                  rintro e w7 ⟨yn, yr, hyl, rfl, hyt, hb7⟩
                  obtain ⟨X7, rfl⟩ := below_some hb7
                  obtain ⟨ayn, nyn, cyn, rfl, hnyn, _⟩ := hyt.nodes.open
                  obtain ⟨ayr, nyr, cyr, rfl, _⟩ := hyt.roads.open
                  rw [List.length_map] at hnyn
                  have HYT := Lib.hid hyt
                  have HNY := Lib.hid hnyn
                  have HYL : Hid (RtLow (b6 + 1) (.slice ayn nyn cyn) (.slice ayr nyr cyr)) := Lib.hid (hyl.mono hb65)
                  clear hb7 hyt hnyn hyl
                  have HBX7 : Hid ((V6.junk X7).heap[b6]? = _) := Lib.hid (keepObj (by exact Bw.b) HBX6.out)
                  have HRT7 := Lib.hid (HRT6.out.later (show Below V6.heap.size V6 (V6.junk X7) from Bw.b))
                  have HFY : Hid (∀ y, routesF (hp2 n) (idsN n) tgt (f - 1) ⟨x.nodes ++ [nx], x.roads ++ [rd], x.len + hl⟩ = some y → y.nodes.length ≤ 9) := Lib.hid (fun y hy => few_bd HF2.out hy)
                  clear HIH2 HF2 HRP HBL
                  generalize routesF (hp2 n) (idsN n) tgt (f - 1) ⟨x.nodes ++ [nx], x.roads ++ [rd], x.len + hl⟩ = ry at *
                  cases ry with
                  | none =>
                    go_wp2_with fail
                    go_roundw
                    case rel => exact ⟨i + 1, acc, un, ur, rfl, by go_num, by omega, Lib.hid (by rw [HSTEP.out, HZ.out]; rfl), Lib.hid (keepObj (by exact Bw.b) HBX6.out), Lib.hid (HRT6.out.later (by exact Bw.b)), HRL, HFEW, by with_reducible exact ex_junk⟩
                    case measure => simp [intOf]; omega
                  | some y =>
                    have hy9 := HFY.out y rfl
                    have b0' := obj_cell HBX6.out 0
                    have b1' := obj_cell HBX6.out 1
                    have b2' := obj_cell HBX6.out 2
                    have z0' := obj_free HBX6.out 0
                    have z1' := obj_free HBX6.out 1
                    have z2' := obj_free HBX6.out 2
                    simp at b0' b1' b2'
                    simp only [Option.getD_some] at HYT ⊢
                    cases acc with
                    | none =>
                      go_wp2_with fail
                      go_roundw
                      case rel =>
                        haveI c3 : Bw W0 (((V6.setCell ⟨b6, 0, none⟩ (.slice ayn nyn cyn)).setCell ⟨b6, 1, none⟩ (.slice ayr nyr cyr)).setCell ⟨b6, 2, none⟩ (.int .i64 y.len)) := bw_set3 hb6W _ _ _
                        have hst : RtAt (V6.junk X7).heap.size ((((V6.setCell ⟨b6, 0, none⟩ (.slice ayn nyn cyn)).setCell ⟨b6, 1, none⟩ (.slice ayr nyr cyr)).setCell ⟨b6, 2, none⟩ (.int .i64 y.len)).junk X7) (.slice ayn nyn cyn) (.slice ayr nyr cyr) y := by rw [junk_set3 j2.lt]; exact HYT.out.set3 HYL.out _ _ _
                        have hst2 : RtAt ((((V6.setCell ⟨b6, 0, none⟩ (.slice ayn nyn cyn)).setCell ⟨b6, 1, none⟩ (.slice ayr nyr cyr)).setCell ⟨b6, 2, none⟩ (.int .i64 y.len)).junk X7).heap.size ((((V6.setCell ⟨b6, 0, none⟩ (.slice ayn nyn cyn)).setCell ⟨b6, 1, none⟩ (.slice ayr nyr cyr)).setCell ⟨b6, 2, none⟩ (.int .i64 y.len)).junk X7) (.slice ayn nyn cyn) (.slice ayr nyr cyr) y := by
                          have e : ((((V6.setCell ⟨b6, 0, none⟩ (.slice ayn nyn cyn)).setCell ⟨b6, 1, none⟩ (.slice ayr nyr cyr)).setCell ⟨b6, 2, none⟩ (.int .i64 y.len)).junk X7).heap.size = (V6.junk X7).heap.size := by rw [junk_set3 j2.lt]; simp [World.setCell]
                          rw [e]; exact hst
                        have hob : ((((V6.setCell ⟨b6, 0, none⟩ (.slice ayn nyn cyn)).setCell ⟨b6, 1, none⟩ (.slice ayr nyr cyr)).setCell ⟨b6, 2, none⟩ (.int .i64 y.len)).junk X7).heap[b6]? = some (.cells #[.slice ayn nyn cyn, .slice ayr nyr cyr, .int .i64 y.len] 64 (0, 0)) := obj_junk (obj_setF3 HBX6.out)
                        exact ⟨i + 1, some y, .slice ayn nyn cyn, .slice ayr nyr cyr, rfl, by go_num, by omega, Lib.hid (by rw [HSTEP.out, HZ.out]; rfl), Lib.hid (keepObj (by exact Bw.b) hob), Lib.hid (hst2.later (by exact Bw.b)), HYL, Lib.hid (fun y' hy' => by injection hy' with hy'; subst hy'; exact hy9), by with_reducible exact ex_junk⟩
                      case measure => simp [intOf]; omega
                    | some b =>
                      simp only [Option.getD_some] at b2' HBX6 HRT6 HRT7 ⊢
                      by_cases h1 : y.len < b.len
                      · have hbt : betterR y b = true := (betterR_iff _ _).2 (.inl h1)
                        go_wp2_with fail
                        go_roundw
                        case rel =>
                          haveI c3 : Bw W0 (((V6.setCell ⟨b6, 0, none⟩ (.slice ayn nyn cyn)).setCell ⟨b6, 1, none⟩ (.slice ayr nyr cyr)).setCell ⟨b6, 2, none⟩ (.int .i64 y.len)) := bw_set3 hb6W _ _ _
                          have hst : RtAt (V6.junk X7).heap.size ((((V6.setCell ⟨b6, 0, none⟩ (.slice ayn nyn cyn)).setCell ⟨b6, 1, none⟩ (.slice ayr nyr cyr)).setCell ⟨b6, 2, none⟩ (.int .i64 y.len)).junk X7) (.slice ayn nyn cyn) (.slice ayr nyr cyr) y := by rw [junk_set3 j2.lt]; exact HYT.out.set3 HYL.out _ _ _
                          have hst2 : RtAt ((((V6.setCell ⟨b6, 0, none⟩ (.slice ayn nyn cyn)).setCell ⟨b6, 1, none⟩ (.slice ayr nyr cyr)).setCell ⟨b6, 2, none⟩ (.int .i64 y.len)).junk X7).heap.size ((((V6.setCell ⟨b6, 0, none⟩ (.slice ayn nyn cyn)).setCell ⟨b6, 1, none⟩ (.slice ayr nyr cyr)).setCell ⟨b6, 2, none⟩ (.int .i64 y.len)).junk X7) (.slice ayn nyn cyn) (.slice ayr nyr cyr) y := by
                            have e : ((((V6.setCell ⟨b6, 0, none⟩ (.slice ayn nyn cyn)).setCell ⟨b6, 1, none⟩ (.slice ayr nyr cyr)).setCell ⟨b6, 2, none⟩ (.int .i64 y.len)).junk X7).heap.size = (V6.junk X7).heap.size := by rw [junk_set3 j2.lt]; simp [World.setCell]
                            rw [e]; exact hst
                          have hob : ((((V6.setCell ⟨b6, 0, none⟩ (.slice ayn nyn cyn)).setCell ⟨b6, 1, none⟩ (.slice ayr nyr cyr)).setCell ⟨b6, 2, none⟩ (.int .i64 y.len)).junk X7).heap[b6]? = some (.cells #[.slice ayn nyn cyn, .slice ayr nyr cyr, .int .i64 y.len] 64 (0, 0)) := obj_junk (obj_setF3 HBX6.out)
                          exact ⟨i + 1, some y, .slice ayn nyn cyn, .slice ayr nyr cyr, rfl, by go_num, by omega, Lib.hid (by rw [HSTEP.out, HZ.out]; exact pick_yes hbt), Lib.hid (keepObj (by exact Bw.b) hob), Lib.hid (hst2.later (by exact Bw.b)), HYL, Lib.hid (fun y' hy' => by injection hy' with hy'; subst hy'; exact hy9), by with_reducible exact ex_junk⟩
                        case measure => simp [intOf]; omega
                      · by_cases h2 : y.len = b.len
                        · have h2' : (y.len == b.len) = true := by simpa using h2
                          obtain ⟨aun, nun, cun, rfl, hnun, _⟩ := HRT7.out.nodes.open
                          rw [List.length_map] at hnun
                          have HBF : Hid (∀ (w' : World) [Bw (V6.junk X7) w'], Calls Tryz.prog 22 #[.slice ayn nyn cyn, .slice aun nun cun] w' fun e w2 => e = .returned (.bool (befL y.nodes b.nodes)) ∧ Below w'.heap.size w' w2) := Lib.hid (fun w' hw => before_q y.nodes b.nodes _ _ w' (HYT.out.nodes.later hw.b) (HRT7.out.nodes.later hw.b) (by omega) (by have := HFEW.out b rfl; omega))
                          have hbt : betterR y b = befL y.nodes b.nodes := by
                            unfold betterR
                            rw [h2]
                            simp
                          have HE := Lib.hid h2
                          clear h2
                          generalize befL y.nodes b.nodes = bb at HBF hbt
                          cases bb
                          · go_wp2_with fail
                            refine (jk (HBF.out _)).mono ?_
                            rintro e _ ⟨rfl, X8, rfl⟩
                            go_wp2_with fail
                            go_roundw
                            case rel => exact ⟨i + 1, some b, .slice aun nun cun, ur, rfl, by go_num, by omega, Lib.hid (by rw [HSTEP.out, HZ.out]; exact pick_no hbt), Lib.hid (keepObj (by exact Bw.b) HBX6.out), Lib.hid (HRT6.out.later (by exact Bw.b)), HRL, HFEW, by with_reducible exact ex_junk⟩
                            case measure => simp [intOf]; omega
                          · go_wp2_with fail
                            refine (jk (HBF.out _)).mono ?_
                            rintro e _ ⟨rfl, X8, rfl⟩
                            go_wp2_with fail
                            go_roundw
                            case rel =>
                              haveI c3 : Bw W0 (((V6.setCell ⟨b6, 0, none⟩ (.slice ayn nyn cyn)).setCell ⟨b6, 1, none⟩ (.slice ayr nyr cyr)).setCell ⟨b6, 2, none⟩ (.int .i64 y.len)) := bw_set3 hb6W _ _ _
                              have hst : RtAt (V6.junk X7).heap.size ((((V6.setCell ⟨b6, 0, none⟩ (.slice ayn nyn cyn)).setCell ⟨b6, 1, none⟩ (.slice ayr nyr cyr)).setCell ⟨b6, 2, none⟩ (.int .i64 y.len)).junk X7) (.slice ayn nyn cyn) (.slice ayr nyr cyr) y := by rw [junk_set3 j2.lt]; exact HYT.out.set3 HYL.out _ _ _
                              have hst2 : RtAt ((((V6.setCell ⟨b6, 0, none⟩ (.slice ayn nyn cyn)).setCell ⟨b6, 1, none⟩ (.slice ayr nyr cyr)).setCell ⟨b6, 2, none⟩ (.int .i64 y.len)).junk X7).heap.size ((((V6.setCell ⟨b6, 0, none⟩ (.slice ayn nyn cyn)).setCell ⟨b6, 1, none⟩ (.slice ayr nyr cyr)).setCell ⟨b6, 2, none⟩ (.int .i64 y.len)).junk X7) (.slice ayn nyn cyn) (.slice ayr nyr cyr) y := by
                                have e : ((((V6.setCell ⟨b6, 0, none⟩ (.slice ayn nyn cyn)).setCell ⟨b6, 1, none⟩ (.slice ayr nyr cyr)).setCell ⟨b6, 2, none⟩ (.int .i64 y.len)).junk X7).heap.size = (V6.junk X7).heap.size := by rw [junk_set3 j2.lt]; simp [World.setCell]
                                rw [e]; exact hst
                              have hob : ((((V6.setCell ⟨b6, 0, none⟩ (.slice ayn nyn cyn)).setCell ⟨b6, 1, none⟩ (.slice ayr nyr cyr)).setCell ⟨b6, 2, none⟩ (.int .i64 y.len)).junk X7).heap[b6]? = some (.cells #[.slice ayn nyn cyn, .slice ayr nyr cyr, .int .i64 y.len] 64 (0, 0)) := obj_junk (obj_setF3 HBX6.out)
                              exact ⟨i + 1, some y, .slice ayn nyn cyn, .slice ayr nyr cyr, rfl, by go_num, by omega, Lib.hid (by rw [HSTEP.out, HZ.out]; exact pick_yes hbt), Lib.hid (keepObj (by exact Bw.b) hob), Lib.hid (hst2.later (by exact Bw.b)), HYL, Lib.hid (fun y' hy' => by injection hy' with hy'; subst hy'; exact hy9), by with_reducible exact ex_junk⟩
                            case measure => simp [intOf]; omega
                        · have h2' : (y.len == b.len) = false := by simpa using h2
                          have hbt : betterR y b = false := by
                            cases hq : betterR y b with
                            | false => rfl
                            | true => rcases (betterR_iff _ _).1 hq with h | h; exact absurd h h1; exact absurd h.1 h2
                          go_wp2_with fail
                          go_roundw
                          case rel => exact ⟨i + 1, some b, un, ur, rfl, by go_num, by omega, Lib.hid (by rw [HSTEP.out, HZ.out]; exact pick_no hbt), Lib.hid (keepObj (by exact Bw.b) HBX6.out), Lib.hid (HRT6.out.later (by exact Bw.b)), HRL, HFEW, by with_reducible exact ex_junk⟩
                          case measure => simp [intOf]; omega
      · obtain rfl : i = n1 := by omega
        have e : acc = out := by rw [← HT.out, ← HACC.out, List.take_of_length_le (by rw [idsN_len, HN1.out]; exact Nat.le_refl _)]
        subst e
        obtain ⟨aun, nun, cun, rfl, _⟩ := HRT.out.nodes.open
        obtain ⟨aur, nur, cur, rfl, _⟩ := HRT.out.roads.open
        have b0' := obj_cell HBX.out 0
        have b1' := obj_cell HBX.out 1
        have b2' := obj_cell HBX.out 2
        have z0' := obj_free HBX.out 0
        have z1' := obj_free HBX.out 1
        have z2' := obj_free HBX.out 2
        simp at b0' b1' b2'
        have m0 : V.cell? ⟨bn, 0, none⟩ = some (.slice a1 i c1) := by rw [bv.b.cell (p := ⟨bn, _, none⟩) lw.lt]; exact n0
        have hlo : B ≤ b6 + 1 := by have := lw.lt; omega
        haveI c3 : Bw W0 (((V.setCell ⟨b6, 0, none⟩ (.slice aun nun cun)).setCell ⟨b6, 1, none⟩ (.slice aur nur cur)).setCell ⟨b6, 2, none⟩ (.int .i64 (acc.getD rte0).len)) := bw_set3 hb6W _ _ _
        go_wp2_with fail
        refine bodyPost_ret (v := .tuple #[.agg #[.slice aun nun cun, .slice aur nur cur, .int .i64 (acc.getD rte0).len], .bool acc.isSome]) (by simp [results, Tryz.results53, go_sem, b0', b1', b2', z0', z1', z2', l6.lt]) rfl ⟨_, _, HRL.out.mono hlo, rfl, ?_, bw.b.trans (c3.b.mono bw.b.size)⟩
        have hst := HRT.out.set3 HRL.out (.slice aun nun cun) (.slice aur nur cur) (.int .i64 (acc.getD rte0).len)
        have e : (((V.setCell ⟨b6, 0, none⟩ (.slice aun nun cun)).setCell ⟨b6, 1, none⟩ (.slice aur nur cur)).setCell ⟨b6, 2, none⟩ (.int .i64 (acc.getD rte0).len)).heap.size = V.heap.size := by simp [World.setCell]
        rw [e]
        exact hst
end Go.Proofs.YtcelpkbmcmnogaaGreatDoor
