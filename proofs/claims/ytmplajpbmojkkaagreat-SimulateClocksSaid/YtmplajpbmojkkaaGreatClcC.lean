/-
  The devices of exchanges.
-/
import Derived.Test.YtmplajpbmojkkaaGreatClcB
set_option linter.unusedSimpArgs false
set_option linter.unusedVariables false
namespace Go.Proofs.YtmplajpbmojkkaaGreat
open Go Go.RowKit Go.Vi
attribute [local go_sem ↓] lo_lt lo_ne lo_ne'
attribute [local go_sem] junk_cell junk_frozen junk_setCell junk_drew drew_junk
theorem uSet : Tryz.prog.underlying 143 = some (.map 3 4) := by kernel_rfl
theorem bw_mset {w X : World} [h : Bw w X] {b : Nat} {k : Int} {v : Value} (hb : w.heap.size ≤ b) : Bw w (mset X b k v) :=
  ⟨⟨h.b.os, h.b.tape, h.b.output, by rw [size_mset]; exact h.b.size, fun i hi => by simp only [mset, Array.getElem?_modify]; rw [if_neg (by omega)]; exact h.b.block i hi⟩⟩
theorem mset_cell {w : World} {b g i : Nat} {k : Int} {v : Value} (h : ¬ g = b) : (mset w b k v).cell? ⟨g, i, none⟩ = w.cell? ⟨g, i, none⟩ := by
  simp only [World.cell?, mset, Array.getElem?_modify]
  rw [if_neg (fun e => h e.symm)]
theorem put_len {α : Type} (k : Int) (v : α) : ∀ E : List (Int × α), (put E k v).length ≤ E.length + 1
  | [] => by simp [put]
  | p :: E => by
    unfold put
    split
    · simp
    · have := put_len k v E
      simp
      exact this
/-- A set of numbers, as entries. -/
def Bls (E : List (Int × Value)) : Prop := ∀ p ∈ E, p.2 = .bool true
theorem Bls.put {E : List (Int × Value)} (h : Bls E) (k : Int) : Bls (put E k (.bool true)) := by
  induction E with
  | nil => intro p hp; simp [Vi.put] at hp; rw [hp]
  | cons q E ih =>
    intro p hp
    unfold Vi.put at hp
    split at hp
    · rcases List.mem_cons.1 hp with rfl | hp
      · rfl
      · exact h p (List.mem_cons_of_mem _ hp)
    · rcases List.mem_cons.1 hp with rfl | hp
      · exact h _ (List.mem_cons_self ..)
      · exact ih (fun p hp => h p (List.mem_cons_of_mem _ hp)) p hp
theorem ex_cells {B : Nat} {w : World} {a : Option Addr} {n cap : Nat} {L : List Exc} (h : Sl B w 5 (.slice a n cap) (L.map Exc.cs)) (i : Nat) (hi : i < L.length) :
    ∃ b off, a = some ⟨b, off, none⟩ ∧ b < B ∧ w.cell? ⟨b, off + i * 5, none⟩ = some (.int .i64 L[i]!.frm) ∧ w.cell? ⟨b, off + i * 5 + 1, none⟩ = some (.int .i64 L[i]!.dst) ∧ w.cell? ⟨b, off + i * 5 + 2, none⟩ = some (.int .i64 L[i]!.sent) ∧ w.cell? ⟨b, off + i * 5 + 3, none⟩ = some (.int .i64 L[i]!.got) ∧ w.cell? ⟨b, off + i * 5 + 4, none⟩ = some (.int .i64 L[i]!.least) := by
  obtain ⟨b, off, h1, h2, h3⟩ := h.cells (cs := Exc.cs) i hi
  exact ⟨b, off, h1, h2, h3 i hi 0 _ rfl, h3 i hi 1 _ rfl, h3 i hi 2 _ rfl, h3 i hi 3 _ rfl, h3 i hi 4 _ rfl⟩
def EndOf (L : List Exc) (x : Int) : Prop := ∃ e ∈ L, x = e.frm ∨ x = e.dst
theorem endOf_i64 {L : List Exc} (hL : ∀ x ∈ L, ExOK x) {x : Int} (h : EndOf L x) : I64 x := by
  obtain ⟨e, he, h⟩ := h
  have h1 := (hL e he).frm
  have h2 := (hL e he).dst
  unfold I64
  rcases h with rfl | rfl <;> omega
theorem endOf_take {L : List Exc} {k : Nat} (hk : k < L.length) (x : Int) : EndOf (L.take (k + 1)) x ↔ EndOf (L.take k) x ∨ x = L[k]!.frm ∨ x = L[k]!.dst := by
  have e : L.take (k + 1) = L.take k ++ [L[k]!] := by rw [List.take_add_one, List.getElem?_eq_getElem hk, getElem!_pos L k hk]; rfl
  unfold EndOf
  rw [e]
  constructor
  · rintro ⟨y, hy, h⟩
    rcases List.mem_append.1 hy with g | g
    · exact .inl ⟨y, g, h⟩
    · obtain rfl := List.mem_singleton.1 g; exact .inr h
  · rintro (⟨y, hy, h⟩ | h)
    · exact ⟨y, List.mem_append_left _ hy, h⟩
    · exact ⟨_, List.mem_append_right _ (by simp), h⟩
set_option maxHeartbeats 2000000 in
theorem devices_q (L : List Exc) (v : Value) (w : World) (hv : Sl w.heap.size w 5 v (L.map Exc.cs)) (hL : ∀ x ∈ L, ExOK x) (hm : L.length ≤ 100) :
    Calls Tryz.prog 39 #[v] w fun e w' => (∃ (v : Value) (c : List Int), e = .returned v ∧ Ow w.heap.size w' 3 1 v (c.map i1) ∧ c.Pairwise (· < ·) ∧ ∀ x, x ∈ c ↔ EndOf L x) ∧ Below w.heap.size w w' := by
  obtain ⟨a, n, cap, rfl, hn, _, _⟩ := hv.open
  rw [List.length_map] at hn
  have HV := Lib.hid hv
  have HN := Lib.hid hn
  have HL := Lib.hid hL
  have hn100 : n ≤ 100 := by omega
  have hmm := @run_makeMap Tryz.prog
  clear hv hL hm hn
  go_enter Tryz.func39, Tryz.ntmps39
  go_wp2_with fail
  have HI0 : Hid (IMap (w.alloc (.map #[] 0)) w.heap.size []) := Lib.hid (IMap.made w)
  haveI b0 : Bw w (w.alloc (.map #[] 0)) := inferInstance
  go_loopw [9] (fun s9 wr => ∃ (k : Nat) (E : List (Int × Value)), s9 = .int .i64 k ∧ k ≤ n ∧ Hid (IMap wr w.heap.size E) ∧ Hid (Bls E ∧ E.length ≤ 2 * k ∧ ∀ x, x ∈ E.map (·.1) ↔ EndOf (L.take k) x) ∧ ∃ U, wr = w.junk U) (fun s9 _ => n - (intOf s9).toNat)
  case atStart =>
    refine ⟨0, [], rfl, Nat.zero_le _, HI0, Lib.hid ⟨(fun p hp => by cases hp), by simp, fun x => by simp [EndOf]⟩, ?_⟩
    with_reducible exact exj
  case round =>
    clear HI0
    obtain ⟨k, E, rfl, hk, HI, HE, U, rfl⟩ := hrel
    by_cases hlt : k < n
    · have hkl : k < L.length := by rw [HN.out]; exact hlt
      obtain ⟨b, off, rfl, hb, c0, c1, c2, c3, c4⟩ := ex_cells HV.out k hkl
      haveI lb : Lo b w := ⟨hb⟩
      have hmem : L[k]! ∈ L := by rw [getElem!_pos L k hkl]; exact List.getElem_mem hkl
      have HT := Lib.hid (endOf_take hkl)
      generalize L[k]! = x at *
      clear hmem
      go_upto_region 5 with fail
      obtain ⟨V, hV⟩ : ∃ V, V = ((w.junk U).alloc (.cells #[.int .i64 x.frm, .int .i64 x.dst, .int .i64 x.sent, .int .i64 x.got, .int .i64 x.least] 81)) := ⟨_, rfl⟩
      have HX : Hid (V.heap[(w.junk U).heap.size]? = some (.cells #[.int .i64 x.frm, .int .i64 x.dst, .int .i64 x.sent, .int .i64 x.got, .int .i64 x.least] 81 (0, 0))) := Lib.hid (by rw [hV]; exact obj_last _ _)
      haveI bV : Bw w V := by rw [hV]; infer_instance
      have HI2 : Hid (IMap V w.heap.size E) := Lib.hid (by rw [hV]; exact HI.out.keep Bw.b)
      have e0 : V.cell? ⟨(w.junk U).heap.size, 0, none⟩ = some (.int .i64 x.frm) := obj_cell HX.out 0
      have e1 : V.cell? ⟨(w.junk U).heap.size, 1, none⟩ = some (.int .i64 x.dst) := obj_cell HX.out 1
      haveI lx : Lo (w.junk U).heap.size V := ⟨obj_lt HX.out⟩
      have HX2 := Lib.hid (show w.heap.size + 1 ≤ (w.junk U).heap.size from HI.out.lt)
      rw [← hV]
      clear hV HX
      generalize (w.junk U).heap.size = bx at *
      have hI3 : IMap V.drew w.heap.size E := HI2.out.keep ((Below.refl _ _).drew)
      have hu1 := hI3.update (P := Tryz.prog) uSet tInt x.frm (.bool true)
      have hu2 := (hI3.updated x.frm (.bool true)).update (P := Tryz.prog) uSet tInt x.dst (.bool true)
      have hne : ¬ bx = w.heap.size := by have := HX2.out; omega
      have e1d : (mset V.drew w.heap.size x.frm (.bool true)).cell? ⟨bx, 1, none⟩ = some (.int .i64 x.dst) := by rw [mset_cell hne]; simpa [go_sem] using e1
      go_region
      have HI4 := Lib.hid ((hI3.updated x.frm (.bool true)).updated x.dst (.bool true))
      haveI bm : Bw w (mset (mset V.drew w.heap.size x.frm (.bool true)) w.heap.size x.dst (.bool true)) := by
        haveI := bw_mset (w := w) (X := V.drew) (k := x.frm) (v := .bool true) (Nat.le_refl _)
        exact bw_mset (Nat.le_refl _)
      clear hI3
      go_wp2_with fail
      go_roundw
      case rel =>
        refine ⟨k + 1, put (put E x.frm (.bool true)) x.dst (.bool true), by go_num, by omega, HI4, Lib.hid ⟨(HE.out.1.put _).put _, ?_, fun y => ?_⟩, ?_⟩
        · have h1 := put_len x.dst (.bool true) (put E x.frm (.bool true))
          have h2 := put_len x.frm (.bool true) E
          have h3 := HE.out.2.1
          omega
        · rw [keys_put, keys_put, HE.out.2.2 y, HT.out y]
          constructor
          · rintro (h | h | h)
            · exact .inr (.inr h)
            · exact .inr (.inl h)
            · exact .inl h
          · rintro (h | h | h)
            · exact .inr (.inr h)
            · exact .inr (.inl h)
            · exact .inl h
        · with_reducible exact exj
      case measure => simp [intOf]; omega
    · obtain rfl : k = n := by omega
      have hkeys : ∀ x, x ∈ E.map (·.1) ↔ EndOf L x := fun x => by rw [HE.out.2.2 x, List.take_of_length_le (by rw [HN.out]; exact Nat.le_refl _)]
      have HS := Lib.hid (sorted_q HI.out (fun p hp => ⟨true, HE.out.1 p hp⟩) (fun p hp => endOf_i64 HL.out ((hkeys p.1).1 (List.mem_map.2 ⟨p, hp, rfl⟩))) (by have := HE.out.2.1; omega))
      have HK := Lib.hid hkeys
      clear hkeys
      go_wp2_with fail
      refine (keys_q _ _).mono ?_
      rintro e w1 ⟨rfl, rfl⟩
      go_wp2_with fail
      refine HS.out.mono ?_
      rintro e w2 ⟨v2, c, rfl, hO, hP, hM, hLn, hB⟩
      go_wp2_with fail
      go_ret
      have hw : Below w.heap.size w ((w.junk U).alloc (.cells #[.map (some w.heap.size)] 143)) := Bw.b
      refine ⟨⟨v2, c, rfl, hO.mono hw.size, hP, fun x => by rw [hM x]; exact HK.out x⟩, hw.trans (hB.mono hw.size)⟩
end Go.Proofs.YtmplajpbmojkkaaGreat
