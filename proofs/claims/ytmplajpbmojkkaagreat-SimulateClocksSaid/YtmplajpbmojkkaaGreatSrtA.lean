/-
  slices.SortFunc at hops: the shelf's contract in the words of owned rows.
  slices.CompactFunc at hops.
-/
import Derived.Test.YtmplajpbmojkkaaGreatHopA
import Derived.Test.YtmplajpbmojkkaaGreatMemA
import Derived.Test.YtmplajpbmojkkaaGreatSortLay
import Derived.Deep.DeepCutAuto
set_option linter.unusedSimpArgs false
set_option linter.unusedVariables false
namespace Go.Vi
open Go Go.RowKit Go.Sort Go.Shelf Go.Proofs
/-- The flat row of a list of encoded elements. -/
theorem flatK_list {α : Type} [Inhabited α] (enc : α → List Value) (k : Nat) (hk : ∀ x, (enc x).length = k) (d : Array α) : (flatK enc k d).toList = (d.toList.map enc).flatten := by
  have hR : ∀ r ∈ d.toList.map enc, r.length = k := fun r hr => by obtain ⟨x, _, rfl⟩ := List.mem_map.1 hr; exact hk x
  have hfl := flatten_len hR
  simp only [List.length_map, Array.length_toList] at hfl
  apply List.ext_getElem?
  intro t
  by_cases ht : t < d.size * k
  · have k0 : 0 < k := by rcases Nat.eq_zero_or_pos k with h | h; · subst h; simp at ht
                          · exact h
    have hq : t / k < d.size := by rw [Nat.div_lt_iff_lt_mul k0]; exact ht
    have hm := Nat.mod_lt t k0
    have e : t = t / k * k + t % k := by have := Nat.div_add_mod t k; rw [Nat.mul_comm] at this; omega
    have h1 := flatten_get hR (t / k) (by simpa using hq) (t % k) hm
    rw [← e] at h1
    rw [h1, Array.getElem?_toList, getElem?_pos (flatK enc k d) t (by simpa using ht), ← getElem!_pos (flatK enc k d) t (by simpa using ht), get_flatK _ _ _ _ ht, getElem!_pos d _ hq]
    simp only [List.getElem_map, Array.getElem_toList]
    have hm2 : t % k < (enc d[t / k]).length := by rw [hk]; exact hm
    rw [getElem?_pos (enc d[t / k]) (t % k) hm2, getElem!_pos (enc d[t / k]) (t % k) hm2]
  · rw [List.getElem?_eq_none (by simp; omega), List.getElem?_eq_none (by rw [hfl]; omega)]
theorem holdsK_of {α : Type} [Inhabited α] {enc : α → List Value} {k : Nat} (hk : ∀ x, (enc x).length = k) {B : Nat} {w : World} {e g n cap : Nat} {L : List α} (h : Ow B w e k (.slice (some ⟨g, 0, none⟩) n cap) (L.map enc)) : HoldsK enc k w g 0 L.toArray := by
  intro j hj
  have hfl := flatK_list enc k hk L.toArray
  simp at hfl
  refine ⟨?_, by rw [Nat.zero_add]; exact h.free j⟩
  rcases h.1.2 with ⟨e0, _⟩ | ⟨g', cap', cur, e0, hb, hg, hn, hm, hs, ht⟩
  · cases e0
  · injection e0 with e1 e2 e3
    injection e1 with e1
    injection e1 with e1
    subst e1; subst e3
    have hj' : j < L.length * k := by simpa using hj
    have h1 : (cur.toList.take ((L.map enc).length * k))[j]? = ((L.map enc).flatten)[j]? := by rw [ht]
    rw [List.getElem?_take_of_lt (by simpa using hj'), ← hfl] at h1
    simp only [World.cell?, hg, Nat.zero_add]
    simp only [Option.isSome_none, Bool.false_eq_true, if_false]
    rw [← Array.getElem?_toList, h1, Array.getElem?_toList, getElem?_pos (flatK enc k L.toArray) j hj, getElem!_pos (flatK enc k L.toArray) j hj]
    rfl
theorem take_put (d : Array Value) (cur : Array Value) (h : d.size ≤ cur.size) : (putCells id 0 d cur).toList.take d.size = d.toList := by
  apply List.ext_getElem?
  intro j
  by_cases hj : j < d.size
  · rw [List.getElem?_take_of_lt hj, Array.getElem?_toList, Array.getElem?_toList]
    simp [putCells, hj, show j < cur.size by omega]
  · rw [List.getElem?_take_eq_none (by omega), List.getElem?_eq_none (by simp; omega)]
theorem grownBy_sortK {α : Type} [Inhabited α] (enc : α → List Value) (k : Nat) (w : World) (g n : Nat) (d : Array α) (os : Array Obj) : w.grownBy (sortWorldK enc k w g 0 n d os) (some g) := by
  refine ⟨rfl, rfl, rfl, by simp [sortWorldK, putRowK, putRow, mapBlock, Sort.ahead], fun j hj hne => ?_⟩
  unfold sortWorldK putRowK
  rw [heap_grow_old _ _ (by simpa [putRow, mapBlock, Sort.ahead] using hj)]
  have : g ≠ j := fun e => hne (by rw [e])
  simp [putRow, mapBlock, Sort.ahead, Array.getElem?_modify, this]
theorem Ow.sorted {α : Type} [Inhabited α] {enc : α → List Value} {k : Nat} (hk : ∀ x, (enc x).length = k) {B : Nat} {w : World} {e g m cap : Nat} {L : List α} (h : Ow B w e k (.slice (some ⟨g, 0, none⟩) m cap) (L.map enc)) (n : Nat) (d : Array α) (os : Array Obj) (hd : d.size = L.length) :
    Ow B (sortWorldK enc k w g 0 n d os) e k (.slice (some ⟨g, 0, none⟩) m cap) (d.toList.map enc) := by
  refine ⟨?_, fun r hr => by obtain ⟨x, _, rfl⟩ := List.mem_map.1 hr; exact hk x⟩
  have hR : ∀ r ∈ d.toList.map enc, r.length = k := fun r hr => by obtain ⟨x, _, rfl⟩ := List.mem_map.1 hr; exact hk x
  refine ⟨flatten_len hR, .inr ?_⟩
  rcases h.1.2 with ⟨e0, _⟩ | ⟨g', cap', cur, e0, hb, hg, hn, hm, hs, ht⟩
  · cases e0
  · injection e0 with e1 e2 e3
    injection e1 with e1
    injection e1 with e1
    subst e1; subst e3; subst e2
    have hlt := obj_lt hg
    have hdk : (flatK enc k d).size ≤ cur.size := by
      rw [size_flatK, hd, hs]
      exact Nat.mul_le_mul_right k (by simpa using hn)
    refine ⟨g, cap, putCells id 0 (flatK enc k d) cur, by simp [hd], hb, ?_, by simpa [hd] using hn, hm, by simpa [putCells] using hs, ?_⟩
    · unfold sortWorldK putRowK
      rw [heap_grow_old _ _ (by simpa [putRow, mapBlock, Sort.ahead] using hlt)]
      simp [putRow, mapBlock, Sort.ahead, Array.getElem?_modify, hg, onCells]
    · have := take_put (flatK enc k d) cur hdk
      rw [flatK_list enc k hk] at this
      rw [← this]
      simp
end Go.Vi
namespace Go.Proofs.YtmplajpbmojkkaaGreat
open Go Go.RowKit Go.Vi Go.Sort
def hpLt (a b : Hp) : Prop := a.dst < b.dst ∨ (a.dst = b.dst ∧ (a.len < b.len ∨ (a.len = b.len ∧ a.road < b.road)))
theorem ltOf_hp (a b : Hp) : ltOf hpCmp a b = true ↔ hpLt a b := by
  have e : ∀ x y : Int, cmpI x y = 0 ∧ x = y ∨ cmpI x y = -1 ∧ x < y ∨ cmpI x y = 1 ∧ y < x := by
    intro x y
    unfold cmpI
    split
    · right; left; exact ⟨rfl, by assumption⟩
    · split
      · right; right; exact ⟨rfl, by assumption⟩
      · left; exact ⟨rfl, by omega⟩
  unfold ltOf hpCmp hpLt
  rcases e a.dst b.dst with ⟨h, h'⟩ | ⟨h, h'⟩ | ⟨h, h'⟩ <;> rcases e a.len b.len with ⟨h2, h2'⟩ | ⟨h2, h2'⟩ | ⟨h2, h2'⟩ <;> rcases e a.road b.road with ⟨h3, h3'⟩ | ⟨h3, h3'⟩ | ⟨h3, h3'⟩ <;> rw [h, h2, h3] <;>
    simp [orI] <;> omega
theorem ltOf_hp_false (a b : Hp) : ltOf hpCmp a b = false ↔ ¬hpLt a b := by rw [← ltOf_hp]; simp
theorem swoHp : SWO (ltOf hpCmp) where
  irrefl x := by rw [ltOf_hp_false]; unfold hpLt; omega
  trans x y z h1 h2 := by rw [ltOf_hp] at *; unfold hpLt at *; omega
  ntrans x y z h1 h2 := by rw [ltOf_hp_false] at *; unfold hpLt at *; omega
theorem aggHop (w : World) : (isAgg 193).run Tryz.prog w = .ok true w := by kernel_rfl
theorem sizeHop (w : World) : (Go.sizeOf 193).run Tryz.prog w = .ok 3 w := by kernel_rfl
theorem hpLays (blk off size : Nat) (w : World) : CmpLays Tryz.prog 93 #[] Hp.cs 3 hpCmp blk off size w :=
  fun _ _ _ _ x y => hops1_any x y _
/-- SortFunc at hops that the call owns: the same row, a permutation, ascending. -/
theorem sortHops_any (L : List Hp) {B e m g cap : Nat} (w : World) (h : Ow B w e 3 (.slice (some ⟨g, 0, none⟩) m cap) (L.map Hp.cs)) (hL : L.length < 4611686018427387904) :
    Calls Tryz.prog 92 #[.slice (some ⟨g, 0, none⟩) m cap, .func (.func 93) #[] #[]] w fun e' w' => e' = .returned (.tuple #[]) ∧ ∃ L' : List Hp, L'.Perm L ∧ L'.Pairwise (fun a b => ¬hpLt b a) ∧ Ow B w' e 3 (.slice (some ⟨g, 0, none⟩) m cap) (L'.map Hp.cs) ∧ w.grownBy w' (some g) := by
  have hm : m = L.length := by
    rcases h.shape with ⟨h1, _⟩ | ⟨g', cap', h1, _⟩
    · cases h1
    · injection h1 with _ h2 _; simpa using h2
  subst hm
  have eg : ∀ args w, (callFunc 93 args).run Tryz.prog w = .ok (.enter 93 args) w := enters_of Tryz.func93 (by kernel_rfl) rfl
  have hcon := AnyQ.slices_SortFunc Tryz.sortHop 3 aggHop sizeHop Hp.cs (fun _ => rfl) (fun x v hv => by simp [Hp.cs] at hv; rcases hv with rfl | rfl | rfl <;> rfl) hpCmp swoHp 93 #[] g 0 cap L.toArray w eg (hpLays g 0 L.toArray.size w) (holdsK_of (enc := Hp.cs) (k := 3) (fun _ => rfl) h) (h.blk g rfl).2 (by simpa using hL)
  rw [List.size_toArray] at hcon
  change Calls Tryz.prog 92 _ _ _ at hcon
  refine hcon.mono ?_
  rintro e' w' ⟨rfl, d', n, os, hp, hs, rfl⟩
  have hsz : d'.size = L.length := by simpa using hp.1
  refine ⟨rfl, d'.toList, ?_, ?_, h.sorted (enc := Hp.cs) (k := 3) (fun _ => rfl) n d' os hsz, grownBy_sortK _ _ _ _ _ _ _⟩
  · have := hp.2.2
    rw [show d'.extract 0 L.length = d' from by rw [← hsz]; simp] at this
    simpa using this
  · rw [List.pairwise_iff_getElem]
    intro i j hi hj hij
    have := hs i j (Nat.zero_le _) hij (by simpa [hsz] using hj)
    rw [ltOf_hp_false] at this
    simp at hi hj
    simpa [hi, hj] using this
end Go.Proofs.YtmplajpbmojkkaaGreat
namespace Go.Proofs.YtmplajpbmojkkaaGreat
open Go Go.RowKit Go.Vi
/-- The first of each run of one end. -/
def cmpct : Hp → List Hp → List Hp
  | _, [] => []
  | p, x :: r => if x.dst = p.dst then cmpct x r else x :: cmpct x r
def compactL : List Hp → List Hp
  | [] => []
  | x :: r => x :: cmpct x r
theorem hp_cell {B : Nat} {w : World} {e g m cap : Nat} {L : List Hp} (h : Ow B w e 3 (.slice (some ⟨g, 0, none⟩) m cap) (L.map Hp.cs)) {i : Nat} (hi : i < L.length) :
    w.cell? ⟨g, i * 3, none⟩ = some (.int .i64 L[i]!.dst) ∧ w.cell? ⟨g, i * 3 + 1, none⟩ = some (.int .i64 L[i]!.road) ∧ w.cell? ⟨g, i * 3 + 2, none⟩ = some (.int .i64 L[i]!.len) := by
  have hc := fun c hc => h.cell i (by simpa using hi) c hc
  rw [getElem!_pos L i hi]
  simp only [List.getElem_map] at hc
  exact ⟨hc 0 (by omega), hc 1 (by omega), hc 2 (by omega)⟩
theorem hp_set {B : Nat} {w : World} {e g m cap : Nat} {L : List Hp} (h : Ow B w e 3 (.slice (some ⟨g, 0, none⟩) m cap) (L.map Hp.cs)) {i : Nat} (hi : i < L.length) (y : Hp) :
    Ow B (((w.setCell ⟨g, i * 3, none⟩ (.int .i64 y.dst)).setCell ⟨g, i * 3 + 1, none⟩ (.int .i64 y.road)).setCell ⟨g, i * 3 + 2, none⟩ (.int .i64 y.len)) e 3 (.slice (some ⟨g, 0, none⟩) m cap) ((L.set i y).map Hp.cs) := by
  have hi0 : i < (L.map Hp.cs).length := by simpa using hi
  have h1 := h.store i hi0 0 (by omega) (.int .i64 y.dst)
  have h2 := h1.store i (by simpa using hi0) 1 (by omega) (.int .i64 y.road)
  have h3 := h2.store i (by simpa using hi0) 2 (by omega) (.int .i64 y.len)
  have e : (((L.map Hp.cs).set i (((L.map Hp.cs)[i]).set 0 (.int .i64 y.dst))).set i ((((L.map Hp.cs).set i (((L.map Hp.cs)[i]).set 0 (.int .i64 y.dst)))[i]'(by simpa using hi0)).set 1 (.int .i64 y.road))) = (L.map Hp.cs).set i [.int .i64 y.dst, .int .i64 y.road, .int .i64 L[i].len] := by
    simp [Hp.cs]
  have e2 : (L.set i y).map Hp.cs = (L.map Hp.cs).set i y.cs := by rw [List.map_set]
  rw [e2]
  have e3 := h3
  simp only [e, List.getElem_set_self, List.set_set] at e3
  simpa [Hp.cs] using e3
theorem zHop (w : World) : (zeroValue 193).run Tryz.prog w = .ok (.agg #[.int .i64 0, .int .i64 0, .int .i64 0]) w := by kernel_rfl
theorem uHops : Tryz.prog.underlying 191 = some (.slice 193) := by kernel_rfl
theorem zHop_one : ∀ v ∈ (Value.agg #[.int .i64 0, .int .i64 0, .int .i64 0]).cells.toList, v.oneCell' = true := by
  intro v hv
  have h : v ∈ [Value.int .i64 0, .int .i64 0, .int .i64 0] := hv
  simp only [List.mem_cons, List.mem_nil_iff, or_false, or_self] at h
  rw [h]; rfl
theorem row3 (w : World) (g a b c : Nat) (x y z : Value) : w.grownBy (((w.setCell ⟨g, a, none⟩ x).setCell ⟨g, b, none⟩ y).setCell ⟨g, c, none⟩ z) (some g) := by
  refine ⟨rfl, rfl, rfl, by simp [World.setCell], fun j hj hne => ?_⟩
  have : g ≠ j := fun e => hne (by rw [e])
  simp [World.setCell, Array.getElem?_modify, this]
theorem drop_get {M L : List Hp} {i d : Nat} (h : M.drop d = L.drop d) (hi : d ≤ i) : M[i]! = L[i]! := by
  have := congrArg (fun l : List Hp => l[i - d]?) h
  simp only [List.getElem?_drop, show d + (i - d) = i by omega] at this
  simp [List.getElem!_eq_getElem?_getD, this]
set_option maxRecDepth 100000 in
set_option maxHeartbeats 1000000 in
theorem compact_any (L : List Hp) {B m g cap : Nat} (w : World) (h : Ow B w 193 3 (.slice (some ⟨g, 0, none⟩) m cap) (L.map Hp.cs)) (hm : L.length = m) (hL : m ≤ 10000) :
    Calls Tryz.prog 94 #[.slice (some ⟨g, 0, none⟩) m cap, .func (.func 95) #[] #[]] w fun e w' =>
      (∃ m', e = .returned (.slice (some ⟨g, 0, none⟩) m' cap) ∧ Ow B w' 193 3 (.slice (some ⟨g, 0, none⟩) m' cap) ((compactL L).map Hp.cs)) ∧ w.grownBy w' (some g) := by
  have eg : ∀ args w, (callFunc 95 args).run Tryz.prog w = .ok (.enter 95 args) w := enters_of Tryz.func95 (by kernel_rfl) rfl
  have hcap : m ≤ cap := by
    rcases h.shape with ⟨h1, _⟩ | ⟨g', cap', h1, _, _, h2⟩
    · cases h1
    · injection h1 with h3 h4 h5; subst h4; subst h5; exact h2
  have HO := Lib.hid h
  have HM := Lib.hid hm
  have HC := Lib.hid hcap
  clear h hm hcap
  go_enter Tryz.func94, Tryz.ntmps94
  by_cases h2 : m < 2
  · go_wp2
    go_ret
    refine ⟨⟨_, rfl, ?_⟩, grown_of (Below.refl _ _)⟩
    have : compactL L = L := by
      have := HM.out
      rcases L with _ | ⟨x, _ | ⟨y, r⟩⟩
      · rfl
      · rfl
      · simp at this; omega
    rw [this]
    exact HO.out
  · go_wp2
    go_loopw [5] (fun s5 wr => ∃ j k : Nat, s5 = .int .i64 k ∧ k ≤ m ∧ Hid (k = j + 1) ∧ Hid (compactL L = L.take (j + 1) ++ cmpct L[j]! (L.drop (j + 1))) ∧ Hid (Below w.heap.size w wr)) (fun s5 _ => m - (intOf s5).toNat)
    case atStart =>
      refine ⟨0, 1, rfl, by omega, rfl, ?_, Below.refl _ _⟩
      have := HM.out
      cases hL2 : L with
      | nil => rw [hL2] at this; simp at this; omega
      | cons x r => rfl
    case round =>
      obtain ⟨j, k, rfl, hk, hjk, hE, hB⟩ := hrel
      by_cases hlt : k < m
      · have hO := HO.out.keep hB.out
        obtain ⟨a0, a1, a2⟩ := hp_cell hO (i := j) (by have := hjk.out; rw [HM.out]; omega)
        obtain ⟨b0, b1, b2⟩ := hp_cell hO (i := k) (by rw [HM.out]; omega)
        generalize hx : L[j]! = x at a0 a1 a2
        generalize hy : L[k]! = y at b0 b1 b2
        have q0 : (0 : Int) ≤ (j : Int) := by omega
        have q1 : (j : Int) < (m : Int) := by have := hjk.out; omega
        have q2 : (k : Int) - 1 = (j : Int) := by have := hjk.out; omega
        have q3 : IntKind.i64.wrap (j : Int) = (j : Int) := IntWalk.i64_in _ (by have := hjk.out; omega)
        have q4 : j < m := by have := hjk.out; omega
        have hgl : g < wr.heap.size := (hO.blk g rfl).2
        have HA := Lib.hid (⟨hx, hy⟩ : L[j]! = x ∧ L[k]! = y)
        clear hx hy
        by_cases hxy : y.dst = x.dst
        · have hb : (y.dst == x.dst) = true := by simpa using hxy
          have HXY := Lib.hid hxy
          clear hxy
          go_wp2_with fail
          go_region_held3 (fun w' => w'.cell? ⟨g, j * 3, none⟩ = some (.int .i64 x.dst) ∧ w'.cell? ⟨g, j * 3 + 1, none⟩ = some (.int .i64 x.road) ∧ w'.cell? ⟨g, j * 3 + 2, none⟩ = some (.int .i64 x.len) ∧
              w'.cell? ⟨g, k * 3, none⟩ = some (.int .i64 y.dst) ∧ w'.cell? ⟨g, k * 3 + 1, none⟩ = some (.int .i64 y.road) ∧ w'.cell? ⟨g, k * 3 + 2, none⟩ = some (.int .i64 y.len)) (first | go_keep | (go_split_ands; refine ⟨?_, ?_, ?_, ?_, ?_, ?_⟩ <;> (rw [hc1 _ _ (by simpa using hgl)]; go_keep)))
            ((go_at_call 95; refine (hops2_any y x _).mono ?_; rintro e w1 ⟨rfl, hb1⟩; obtain ⟨hc1, hf1⟩ := bcell hb1; have HB1 := Lib.hid (hB.out.trans (show Below w.heap.size wr w1 by have hz := hB.out.size; exact (show Below w.heap.size wr wr.drew from (Below.refl _ _).drew).trans (hb1.mono (by simpa using hz)))); clear hb1))
          have hO1 := Lib.hid (HO.out.keep HB1.out)
          clear hc1 hf1 hO a0 a1 a2 b0 b1 b2 hb
          have hne : ¬cap = k := by have := HC.out; omega
          have hg1 := (hO1.out.blk g rfl).2
          clear q0 q1 q2 q3 q4 hgl
          have HK := Lib.hid hlt
          go_wp2_with fail
          go_loopw [5, 7] (fun s5 s7 wr2 => ∃ p q : Nat, s5 = .int .i64 p ∧ s7 = .int .i64 q ∧ 1 ≤ q ∧ q ≤ m - k ∧ p < k + q ∧ Hid (∃ M : List Hp, M.length = m ∧ M.drop (k + q - 1) = L.drop (k + q - 1) ∧ compactL L = M.take p ++ cmpct L[k + q - 1]! (L.drop (k + q)) ∧
              Ow B wr2 193 3 (.slice (some ⟨g, 0, none⟩) m cap) (M.map Hp.cs)) ∧ Hid (w.grownBy wr2 (some g))) (fun s5 s7 _ => m - k - (intOf s7).toNat)
          case atStart =>
            refine ⟨k, 1, rfl, rfl, by omega, by omega, by omega, ?_, grown_of HB1.out⟩
            have e := hE.out
            obtain ⟨ex, ey⟩ := HA.out
            have hjk' := hjk.out
            subst hjk'
            have hkL : j + 1 < L.length := by rw [HM.out]; exact hlt
            refine ⟨L, HM.out, rfl, ?_, hO1.out⟩
            rw [e, ex]
            rw [List.drop_eq_getElem_cons hkL, ← getElem!_pos L (j + 1) hkL, ey, cmpct, if_pos HXY.out, show j + 1 + 1 - 1 = j + 1 by omega, ey]
          case round =>
            obtain ⟨p, q, rfl, rfl, hq1, hq2, hp, ⟨M, hM1, hM2, hM3, hM4⟩, hG⟩ := hrel
            by_cases hlt2 : q < m - k
            · obtain ⟨r, hr⟩ : ∃ r, q = r + 1 := ⟨q - 1, by omega⟩
              have hkm := HK.out
              obtain ⟨a0, a1, a2⟩ := hp_cell hM4 (i := k + r) (by omega)
              obtain ⟨b0, b1, b2⟩ := hp_cell hM4 (i := k + q) (by omega)
              obtain ⟨c0, c1, c2⟩ := hp_cell hM4 (i := p) (by omega)
              rw [Nat.add_mul] at a0 a1 a2 b0 b1 b2
              have f0 := hM4.free (p * 3)
              have f1 := hM4.free (p * 3 + 1)
              have f2 := hM4.free (p * 3 + 2)
              rw [drop_get hM2 (by omega)] at a0 a1 a2 b0 b1 b2
              generalize hx : L[k + r]! = x2 at a0 a1 a2
              generalize hy : L[k + q]! = y2 at b0 b1 b2
              generalize M[p]! = z2 at c0 c1 c2
              have HA2 := Lib.hid (⟨hx, hy⟩ : L[k + r]! = x2 ∧ L[k + q]! = y2)
              have HM1 := Lib.hid hM1
              have HM2 := Lib.hid hM2
              have HM3 := Lib.hid hM3
              have HM4 := Lib.hid hM4
              have HR := Lib.hid hr
              have q0 : (0 : Int) ≤ (r : Int) := by omega
              have q1 : (r : Int) < ((m - k : Nat) : Int) := by omega
              have q2 : (q : Int) - 1 = (r : Int) := by omega
              have q3 : IntKind.i64.wrap (r : Int) = (r : Int) := IntWalk.i64_in _ (by omega)
              have q4 : r < m - k := by omega
              have hgl := (hM4.blk g rfl).2
              clear hx hy hM1 hM2 hM3 hM4 hr
              by_cases hxy : y2.dst = x2.dst
              · have hb : (y2.dst == x2.dst) = true := by simpa using hxy
                have HXY2 := Lib.hid hxy
                clear hxy
                go_wp2_with fail
                go_region_held3 (fun w' => w'.cell? ⟨g, k * 3 + r * 3, none⟩ = some (.int .i64 x2.dst) ∧ w'.cell? ⟨g, k * 3 + r * 3 + 1, none⟩ = some (.int .i64 x2.road) ∧ w'.cell? ⟨g, k * 3 + r * 3 + 2, none⟩ = some (.int .i64 x2.len) ∧ w'.cell? ⟨g, k * 3 + q * 3, none⟩ = some (.int .i64 y2.dst) ∧ w'.cell? ⟨g, k * 3 + q * 3 + 1, none⟩ = some (.int .i64 y2.road) ∧ w'.cell? ⟨g, k * 3 + q * 3 + 2, none⟩ = some (.int .i64 y2.len)) (first | go_keep | (go_split_ands; refine ⟨?_, ?_, ?_, ?_, ?_, ?_⟩ <;> (rw [hc1 _ _ (by simpa using hgl)]; go_keep)))
                  ((go_at_call 95; refine (hops2_any y2 x2 _).mono ?_; rintro e w2 ⟨rfl, hb1⟩; obtain ⟨hc1, hf1⟩ := bcell hb1; have HB2 := Lib.hid (show Below wr.heap.size wr w2 from (show Below wr.heap.size wr wr.drew from (Below.refl _ _).drew).trans (hb1.mono (by simp))); clear hb1))
                clear hc1 hf1 a0 a1 a2 b0 b1 b2 c0 c1 c2 f0 f1 f2 hb
                go_wp2_with fail
                go_roundw
                case rel =>
                  have hr := HR.out
                  have hL := HM.out
                  refine ⟨p, q + 1, rfl, by go_num, by omega, by omega, by omega, ⟨M, HM1.out, ?_, ?_, HM4.out.keep HB2.out⟩, hG.out.trans (grown_of HB2.out)⟩
                  · have e := congrArg (List.drop 1) HM2.out
                    rw [List.drop_drop, List.drop_drop] at e
                    rw [show k + (q + 1) - 1 = k + q - 1 + 1 by omega]; exact e
                  · rw [HM3.out]
                    obtain ⟨ex, ey⟩ := HA2.out
                    have hkL : k + q < L.length := by omega
                    rw [List.drop_eq_getElem_cons hkL, ← getElem!_pos L (k + q) hkL, ey, show k + q - 1 = k + r by omega, ex, cmpct, if_pos HXY2.out, show k + (q + 1) - 1 = k + q by omega, ey]
                    rfl
                case measure => simp [intOf]; omega
              · have hb : (y2.dst == x2.dst) = false := by simpa using hxy
                have HXY2 := Lib.hid hxy
                clear hxy
                go_wp2_with fail
                go_region_held3 (fun w' => w'.cell? ⟨g, k * 3 + r * 3, none⟩ = some (.int .i64 x2.dst) ∧ w'.cell? ⟨g, k * 3 + r * 3 + 1, none⟩ = some (.int .i64 x2.road) ∧ w'.cell? ⟨g, k * 3 + r * 3 + 2, none⟩ = some (.int .i64 x2.len) ∧ w'.cell? ⟨g, k * 3 + q * 3, none⟩ = some (.int .i64 y2.dst) ∧ w'.cell? ⟨g, k * 3 + q * 3 + 1, none⟩ = some (.int .i64 y2.road) ∧ w'.cell? ⟨g, k * 3 + q * 3 + 2, none⟩ = some (.int .i64 y2.len)) (first | go_keep | (go_split_ands; refine ⟨?_, ?_, ?_, ?_, ?_, ?_⟩ <;> (rw [hc1 _ _ (by simpa using hgl)]; go_keep)))
                  ((go_at_call 95; refine (hops2_any y2 x2 _).mono ?_; rintro e w2 ⟨rfl, hb1⟩; obtain ⟨hc1, hf1⟩ := bcell hb1; have HB2 := Lib.hid (show Below wr.heap.size wr w2 from (show Below wr.heap.size wr wr.drew from (Below.refl _ _).drew).trans (hb1.mono (by simp))); clear hb1))
                have hp1 : p < m := by have := HR.out; omega
                have hO2 := HM4.out.keep HB2.out
                obtain ⟨c0, c1, c2⟩ := hp_cell hO2 (i := p) (by rw [HM1.out]; exact hp1)
                have f0 := hO2.free (p * 3)
                have f1 := hO2.free (p * 3 + 1)
                have f2 := hO2.free (p * 3 + 2)
                obtain ⟨b0, b1, b2⟩ := hp_cell hO2 (i := k + q) (by rw [HM1.out]; omega)
                rw [drop_get HM2.out (by omega), HA2.out.2, Nat.add_mul] at b0 b1 b2
                generalize M[p]! = z3 at c0 c1 c2
                have HO2 := Lib.hid hO2
                have HP1 := Lib.hid hp1
                clear hc1 hf1 a0 a1 a2 hb hO2
                have p0 : (0 : Int) ≤ (p : Int) := by omega
                have p1 : (p : Int) < (m : Int) := by omega
                go_wp2_with fail
                go_roundw
                case rel =>
                  have hr := HR.out
                  have hL := HM.out
                  refine ⟨p + 1, q + 1, by go_num, by go_num, by omega, by omega, by omega, ⟨M.set p y2, by rw [List.length_set]; exact HM1.out, ?_, ?_, hp_set HO2.out (by rw [HM1.out]; exact hp1) y2⟩, ?_⟩
                  · have e := congrArg (List.drop 1) HM2.out
                    rw [List.drop_drop, List.drop_drop] at e
                    rw [show k + (q + 1) - 1 = k + q - 1 + 1 by omega, List.drop_set_of_lt (by omega)]; exact e
                  · rw [HM3.out]
                    obtain ⟨ex, ey⟩ := HA2.out
                    have hkL : k + q < L.length := by omega
                    have hpM : p < M.length := by rw [HM1.out]; exact hp1
                    rw [List.drop_eq_getElem_cons hkL, ← getElem!_pos L (k + q) hkL, ey, show k + q - 1 = k + r by omega, ex, cmpct, if_neg HXY2.out, show k + (q + 1) - 1 = k + q by omega, ey]
                    rw [List.take_succ_eq_append_getElem (by simpa using hpM), List.getElem_set_self, List.take_set_of_le (Nat.le_refl _), List.append_assoc]
                    rfl
                  · have hb := HB2.out
                    exact hG.out.trans ((grown_of hb).trans (row3 w2 g _ _ _ _ _ _))
                case measure => simp [intOf]; omega
            · obtain rfl : q = m - k := by omega
              have hkm := HK.out
              have hC := HC.out
              have hpm : p < m := by omega
              rw [show k + (m - k) = m by omega] at hM2 hM3
              rw [List.drop_eq_nil_of_le (by rw [HM.out]; exact Nat.le_refl _), cmpct, List.append_nil] at hM3
              obtain ⟨W', hcl, hcO, hcG⟩ := hM4.cleared (P := Tryz.prog) (t := 191) uHops zHop (by decide) rfl zHop_one (p := p) hpm (cap - p)
              have HM3 := Lib.hid hM3
              have HCO := Lib.hid hcO
              have HCG := Lib.hid hcG
              have hcp : ¬cap = p := by omega
              have p0 : (0 : Int) ≤ (p : Int) := by omega
              have p1 : (p : Int) ≤ (m : Int) := by omega
              have p2 : (p : Int) ≤ (cap : Int) := by omega
              have p3 : (m : Int) ≤ (cap : Int) := by omega
              clear hM1 hM2 hM3 hM4 hcO hcG
              go_wp2_with fail
              go_ret
              refine ⟨⟨_, rfl, ?_⟩, hG.out.trans HCG.out⟩
              rw [HM3.out, List.map_take]
              exact HCO.out
        · have hb : (y.dst == x.dst) = false := by simpa using hxy
          have HXY := Lib.hid hxy
          clear hxy
          go_wp2_with fail
          go_region_held3 (fun w' => w'.cell? ⟨g, j * 3, none⟩ = some (.int .i64 x.dst) ∧ w'.cell? ⟨g, j * 3 + 1, none⟩ = some (.int .i64 x.road) ∧ w'.cell? ⟨g, j * 3 + 2, none⟩ = some (.int .i64 x.len) ∧
              w'.cell? ⟨g, k * 3, none⟩ = some (.int .i64 y.dst) ∧ w'.cell? ⟨g, k * 3 + 1, none⟩ = some (.int .i64 y.road) ∧ w'.cell? ⟨g, k * 3 + 2, none⟩ = some (.int .i64 y.len)) (first | go_keep | (go_split_ands; refine ⟨?_, ?_, ?_, ?_, ?_, ?_⟩ <;> (rw [hc1 _ _ (by simpa using hgl)]; go_keep)))
            ((go_at_call 95; refine (hops2_any y x _).mono ?_; rintro e w1 ⟨rfl, hb1⟩; obtain ⟨hc1, hf1⟩ := bcell hb1; have HB1 := Lib.hid (hB.out.trans (show Below w.heap.size wr w1 by have hz := hB.out.size; exact (show Below w.heap.size wr wr.drew from (Below.refl _ _).drew).trans (hb1.mono (by simpa using hz)))); clear hb1))
          clear hc1 hf1 hO a0 a1 a2 b0 b1 b2 hb
          go_wp2_with fail
          go_roundw
          case rel =>
            refine ⟨k, k + 1, by go_num, by omega, rfl, ?_, HB1.out⟩
            have e := hE.out
            obtain ⟨ex, ey⟩ := HA.out
            have hjk' := hjk.out
            subst hjk'
            rw [e, ex]
            have hkL : j + 1 < L.length := by rw [HM.out]; exact hlt
            rw [List.drop_eq_getElem_cons hkL, ← getElem!_pos L (j + 1) hkL, ey, cmpct, if_neg HXY.out, List.take_succ_eq_append_getElem hkL, ← getElem!_pos L (j + 1) hkL, ey]
            refine Lib.hid ?_
            simp
          case measure => simp [intOf]; omega
      · obtain rfl : k = m := by omega
        go_wp2_with fail
        go_ret
        refine ⟨⟨_, rfl, ?_⟩, ?_⟩
        · have e := hE.out
          have hjk' := hjk.out
          rw [List.take_of_length_le (by rw [HM.out]; omega), List.drop_eq_nil_of_le (by rw [HM.out]; omega)] at e
          rw [e, cmpct, List.append_nil]
          have hB := hB.out
          exact HO.out.keep (by (repeat (first | with_reducible exact Below.refl _ _ | with_reducible assumption | ((with_reducible refine Below.setCell ?_ ?_ _); rotate_left; focus (first | exact Nat.le_refl _ | omega | exact Below.size (by assumption) | (simp; done) | (simp; omega))) | ((with_reducible refine Below.alloc ?_ ?_ _); rotate_left; focus (first | exact Nat.le_refl _ | omega | exact Below.size (by assumption) | (simp; done) | (simp; omega))) | (with_reducible refine Below.drew ?_) | (with_reducible refine drewN_ ?_ _))))
        · have hB := hB.out
          exact grown_of (by (repeat (first | with_reducible exact Below.refl _ _ | with_reducible assumption | ((with_reducible refine Below.setCell ?_ ?_ _); rotate_left; focus (first | exact Nat.le_refl _ | omega | exact Below.size (by assumption) | (simp; done) | (simp; omega))) | ((with_reducible refine Below.alloc ?_ ?_ _); rotate_left; focus (first | exact Nat.le_refl _ | omega | exact Below.size (by assumption) | (simp; done) | (simp; omega))) | (with_reducible refine Below.drew ?_) | (with_reducible refine drewN_ ?_ _))))
end Go.Proofs.YtmplajpbmojkkaaGreat
