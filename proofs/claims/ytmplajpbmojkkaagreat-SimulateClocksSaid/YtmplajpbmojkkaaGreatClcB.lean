/-
  The sorted keys of a set of numbers: slices.Sorted(maps.Keys(m)).
-/
import Derived.Test.YtmplajpbmojkkaaGreatClcA
set_option linter.unusedSimpArgs false
set_option linter.unusedVariables false
namespace Go.Proofs.YtmplajpbmojkkaaGreat
open Go Go.RowKit Go.Vi Go.Maps Go.Sort Go.Shelf
def kI : Value → Int
  | .int .i64 x => x
  | _ => 0
def I64 (x : Int) : Prop := -9223372036854775808 ≤ x ∧ x ≤ 9223372036854775807
theorem i64_wf {x : Int} (h : I64 x) : (Lit.int .i64 x).wf = true := by
  obtain ⟨h1, h2⟩ := h
  simp only [Lit.wf, Bool.and_eq_true, decide_eq_true_eq]
  exact ⟨h1, h2⟩
theorem tBool : Tryz.prog.underlying 4 = some .bool := by kernel_rfl
theorem tInt : Tryz.prog.underlying 3 = some (.int .i64) := by kernel_rfl
set_option maxRecDepth 10000 in
/-- A set as the kit's maps see it. -/
theorem own_of {w : World} {b : Nat} {E : List (Int × Value)} (h : IMap w b E) (hv : ∀ p ∈ E, ∃ x, p.2 = .bool x) (hk : ∀ p ∈ E, I64 p.1) (hn : E.length ≤ maxLen) :
    ∃ D : DataW Nat, w.ownsMap Tryz.prog 3 (plainElem Tryz.prog 4) b E.length D ∧ (intKeys D).Perm (E.map (·.1)) ∧ Maps.size D = E.length := by
  obtain ⟨es, clock, hb, h2, h3, h4, h5⟩ := h
  have hlen : es.size = E.length := by have := congrArg List.length h2; simpa using this
  have hread : ∀ x ∈ es.toList, ∃ k, x.key = .int .i64 k ∧ Go.WideElems.rd Tryz.prog 3 (plainElem (H := Nat) Tryz.prog 4) x = some (.int .i64 k, (Go.WideElems.rg Tryz.prog 3 (plainElem (H := Nat) Tryz.prog 4) x).2) := by
    intro x hx
    have hm : kv x ∈ E.map ikv := by rw [← h2]; exact List.mem_map.2 ⟨x, hx, rfl⟩
    obtain ⟨p, hp, e⟩ := List.mem_map.1 hm
    simp only [kv, ikv, Prod.mk.injEq] at e
    obtain ⟨e1, e2⟩ := e
    obtain ⟨y, hy⟩ := hv p hp
    have hkey : keyOf Tryz.prog 3 x.key = some (.int .i64 p.1) := by rw [← e1]; exact keyOf_int_mk tInt (i64_wf (hk p hp))
    have hval : plainElem (H := Nat) Tryz.prog 4 x.val = some (.lit (.bool y), []) := by rw [← e2, hy]; exact plainElem_bool tBool y
    have hrd : Go.WideElems.rd Tryz.prog 3 (plainElem (H := Nat) Tryz.prog 4) x = some (.int .i64 p.1, .lit (.bool y)) := by simp [Go.WideElems.rd, hkey, hval]
    refine ⟨p.1, e1.symm, ?_⟩
    rw [hrd]
    simp [Go.WideElems.rg, hrd]
  have hkeys : es.toList.map (·.key) = E.map (fun p => .int .i64 p.1) := by
    have := congrArg (List.map Prod.fst) h2
    rw [List.map_map, List.map_map] at this
    exact this
  have hF : Go.WideElems.Fit Tryz.prog 3 (plainElem (H := Nat) Tryz.prog 4) es clock := by
    refine ⟨by rw [hlen]; exact hn, ⟨h5, ?_, ?_⟩, fun x hx => ?_⟩
    · exact List.pairwise_map.2 (h4.imp (fun h e => by omega))
    · rw [hkeys]
      have e : E.map (fun p => (Value.int .i64 p.1)) = (E.map (·.1)).map (Value.int .i64) := by rw [List.map_map]; rfl
      rw [e]
      exact List.pairwise_map.2 (h3.imp (fun h e => h (by injection e)))
    · obtain ⟨k, _, hr⟩ := hread x hx
      exact ⟨_, hr⟩
  refine ⟨_, ⟨es, clock, hb, hF, by rw [hlen]; exact Nat.le_refl _, rfl⟩, ?_, ?_⟩
  · have hp := Go.WideShapes.sorted_perm (es.toList.map (Go.WideElems.rg Tryz.prog 3 (plainElem (H := Nat) Tryz.prog 4)))
    have hp2 := hp.map (fun p => Go.intOf p.1)
    refine List.Perm.trans hp2 (List.Perm.of_eq ?_)
    rw [List.map_map]
    have e2 : es.toList.map ((fun p => Go.intOf p.1) ∘ Go.WideElems.rg Tryz.prog 3 (plainElem (H := Nat) Tryz.prog 4)) = es.toList.map (fun x => kI x.key) := by
      refine List.map_congr_left fun x hx => ?_
      obtain ⟨k, h1, hr⟩ := hread x hx
      have : (Go.WideElems.rg Tryz.prog 3 (plainElem (H := Nat) Tryz.prog 4) x).1 = .int .i64 k := by
        have := congrArg (fun o => (o.getD (.bool false, .nil)).1) hr
        exact this
      have h6 : Go.intOf (Go.WideElems.rg Tryz.prog 3 (plainElem (H := Nat) Tryz.prog 4) x).1 = k := congrArg Go.intOf this
      have h7 : kI x.key = k := by rw [h1]; rfl
      simp only [Function.comp_apply]
      rw [h6, h7]
    rw [e2]
    have e3 : es.toList.map (fun x => kI x.key) = (es.toList.map (·.key)).map kI := by rw [List.map_map]; rfl
    rw [e3, hkeys, List.map_map]
    rfl
  · show ((es.toList.map (Go.WideElems.rg Tryz.prog 3 (plainElem (H := Nat) Tryz.prog 4))).foldr DataW.insert []).length = _
    rw [(Go.WideShapes.sorted_perm _).length_eq, List.length_map]
    simpa using hlen
theorem sortsA (m : Nat) : AnyZI.SortsIn Tryz.prog Tryz.sortedA_ren Fence.wide m :=
  ⟨fun blk off cap ss W hH hblk hsz => callsIn_wide.2 (AnyM.slices_Sort_int Tryz.sortA blk off cap ss W hH hblk hsz),
   fun p cap W => callsIn_wide.2 (AnyM.slices_Sort_int_none Tryz.sortA p cap W)⟩
theorem keys_q (mb : Option Nat) (W : World) : Calls Tryz.prog 60 #[.map mb] W fun e w' => e = .returned (.func (.func 73) #[] #[.pointer (some ⟨W.heap.size, 0, none⟩)]) ∧ w' = W.alloc (.cells #[.map mb] 143) :=
  (callsIn_wide (n := 5)).1 (AnyZI.keys_in Tryz.keysA Fence.wide 5 trivial rfl mb W)
set_option maxRecDepth 10000 in
set_option maxHeartbeats 1000000 in
/-- The sorted keys of a set. -/
theorem sorted_q {w : World} {b : Nat} {E : List (Int × Value)} (h : IMap w b E) (hv : ∀ p ∈ E, ∃ x, p.2 = .bool x) (hk : ∀ p ∈ E, I64 p.1) (hn : E.length ≤ 1000000) :
    Calls Tryz.prog 59 #[.func (.func 73) #[] #[.pointer (some ⟨w.heap.size, 0, none⟩)]] (w.alloc (.cells #[.map (some b)] 143)) fun e w' => ∃ (v : Value) (c : List Int), e = .returned v ∧ Ow (w.alloc (.cells #[.map (some b)] 143)).heap.size w' 3 1 v (c.map i1) ∧ c.Pairwise (· < ·) ∧ (∀ x, x ∈ c ↔ x ∈ E.map (·.1)) ∧ c.length = E.length ∧ Below (w.alloc (.cells #[.map (some b)] 143)).heap.size (w.alloc (.cells #[.map (some b)] 143)) w' := by
  obtain ⟨D, hown, hperm, hsz⟩ := own_of h hv hk (Nat.le_trans hn (by decide))
  have hnd := h.nodup
  have hbl := hown.lt
  have hseq : SeqGives Fence.wide 2 Tryz.prog 73 #[.pointer (some ⟨w.heap.size, 0, none⟩)] encZ (fun ss => ss.Perm (intKeys D)) (Maps.size D) (w.alloc (.cells #[.map (some b)] 143)) :=
    AnyZI.keys_gives (ρ := Tryz.keysA_ren) { Tryz.keysA with } Fence.wide _ trivial rfl (by omega) w.heap.size b _ D _ (by simp) (by simp) (by
      obtain ⟨es, clock, hb, Ft, hs, hD⟩ := hown
      exact ⟨es, clock, (Below.heap_alloc _ _ b hbl).trans hb, Ft, hs, hD⟩)
  have cS := AnyZI.sorted_in Tryz.sortedA Fence.wide 5 trivial trivial trivial trivial rfl (by omega) (sortsA _) (enters_of Tryz.func72 (by kernel_rfl) rfl) 73 #[.pointer (some ⟨w.heap.size, 0, none⟩)] trivial (enters_of Tryz.func73 (by kernel_rfl) rfl) _ (Maps.size D) (by rw [hsz]; exact Nat.le_trans hn (by decide)) (by rw [hsz]; omega) _ hseq
  refine ((callsIn_wide (n := 5)).1 cS).mono ?_
  rintro e w' ⟨v, ss, rfl, hS, hrow, _, hB⟩
  have hp : (ss.mergeSort (fun x y => decide (x ≤ y))).Perm (E.map (·.1)) := (List.mergeSort_perm _ _).trans (hS.trans hperm)
  have hlen := hp.length_eq
  have hfl : ((ss.mergeSort (fun x y => decide (x ≤ y))).map i1).flatten = (ss.mergeSort (fun x y => decide (x ≤ y))).map encZ := by
    generalize ss.mergeSort (fun x y => decide (x ≤ y)) = l
    induction l with
    | nil => rfl
    | cons a l ih => simp only [List.map_cons, List.flatten_cons, ih]; rfl
  have hl2 : ((ss.mergeSort (fun x y => decide (x ≤ y))).map i1).length = ss.length := by rw [List.length_map]; exact (List.mergeSort_perm _ _).length_eq
  refine ⟨v, ss.mergeSort (fun x y => decide (x ≤ y)), rfl, ⟨?_, ?_⟩, ?_, fun x => hp.mem_iff, by rw [hlen, List.length_map], hB⟩
  · rw [hfl, hl2]; exact hrow
  · intro r hr
    obtain ⟨y, _, rfl⟩ := List.mem_map.1 hr
    rfl
  · have h1 : (ss.mergeSort (fun x y => decide (x ≤ y))).Pairwise (fun a b => decide (a ≤ b) = true) := List.pairwise_mergeSort (fun a b c h1 h2 => by simp only [decide_eq_true_eq] at *; omega) (fun a b => by simp only [Bool.or_eq_true, decide_eq_true_eq]; omega) _
    have h2 : (ss.mergeSort (fun x y => decide (x ≤ y))).Nodup := hp.nodup_iff.2 hnd
    refine (h1.and h2).imp ?_
    intro a b h
    have := h.1
    simp only [decide_eq_true_eq] at this
    have := h.2
    omega
end Go.Proofs.YtmplajpbmojkkaaGreat
