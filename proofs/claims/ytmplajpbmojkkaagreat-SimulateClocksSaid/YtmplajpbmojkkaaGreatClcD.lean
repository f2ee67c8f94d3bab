/-
  The component of a device.
-/
import Derived.Test.YtmplajpbmojkkaaGreatClcC
set_option linter.unusedSimpArgs false
set_option linter.unusedVariables false
namespace Go.Proofs.YtmplajpbmojkkaaGreat
open Go Go.RowKit Go.Vi
attribute [local go_sem ↓] lo_lt lo_ne lo_ne'
attribute [local go_sem] junk_cell junk_frozen junk_setCell junk_drew drew_junk
def hasB (E : List (Int × Value)) (x : Int) : Bool := decide (x ∈ E.map (·.1))
theorem look_bls {E : List (Int × Value)} (h : Bls E) (x : Int) : (Vi.look E x).getD (.bool false) = .bool (hasB E x) := by
  unfold hasB
  cases hl : Vi.look E x with
  | none =>
    have h1 := (look_none x E).1 hl
    rw [decide_eq_false h1]; rfl
  | some v =>
    have h1 := look_mem hl
    have h2 : v = .bool true := h _ h1
    have h3 : x ∈ E.map (·.1) := List.mem_map.2 ⟨_, h1, rfl⟩
    rw [decide_eq_true h3, h2]; rfl
theorem put_len_old {E : List (Int × Value)} {k : Int} (v : Value) (h : hasB E k = true) : (put E k v).length = E.length := by
  have h1 := keys_put_same k v E (by simpa [hasB] using h)
  have := congrArg List.length h1
  simpa using this
theorem put_len_new {E : List (Int × Value)} {k : Int} (v : Value) (h : hasB E k = false) : (put E k v).length = E.length + 1 := by
  have h1 : Vi.look E k = none := (look_none k E).2 (by simpa [hasB] using h)
  rw [put_new k v E h1]; simp
/-- Closed under exchanges. -/
def Clo (L : List Exc) (T : Int → Prop) : Prop := ∀ e ∈ L, (T e.frm ↔ T e.dst)
/-- What a component is: the least closed set with the device. -/
structure IsComp (L : List Exc) (d : Int) (c : List Int) : Prop where
  dev : d ∈ c
  clo : Clo L (· ∈ c)
  least : ∀ T : Int → Prop, T d → Clo L T → ∀ x ∈ c, T x
def endsOfL (L : List Exc) : List Int := L.flatMap fun e => [e.frm, e.dst]
theorem mem_endsL {L : List Exc} {x : Int} : x ∈ endsOfL L ↔ EndOf L x := by
  unfold endsOfL EndOf
  rw [List.mem_flatMap]
  constructor
  · rintro ⟨e, he, h⟩; exact ⟨e, he, by simpa using h⟩
  · rintro ⟨e, he, h⟩; exact ⟨e, he, by simpa using h⟩
theorem endsL_len (L : List Exc) : (endsOfL L).length = 2 * L.length := by
  induction L with
  | nil => rfl
  | cons a L ih => unfold endsOfL at *; rw [List.flatMap_cons, List.length_append, ih]; simp; omega
/-- What holds of the set while it grows. -/
structure Grw (L : List Exc) (d : Int) (E : List (Int × Value)) : Prop where
  bls : Bls E
  nd : (E.map (·.1)).Nodup
  dev : hasB E d = true
  least : ∀ T : Int → Prop, T d → Clo L T → ∀ x, hasB E x = true → T x
theorem Grw.few {L : List Exc} {d : Int} {E : List (Int × Value)} (h : Grw L d E) : E.length ≤ 2 * L.length + 1 := by
  have h1 := nodup_len (m := d :: endsOfL L) h.nd (fun x hx => by
    have := h.least (fun x => x = d ∨ EndOf L x) (.inl rfl) (fun e he => ⟨fun _ => .inr ⟨e, he, .inr rfl⟩, fun _ => .inr ⟨e, he, .inl rfl⟩⟩) x (by simpa [hasB] using hx)
    rcases this with g | g
    · rw [g]; exact List.mem_cons_self ..
    · exact List.mem_cons_of_mem _ (mem_endsL.2 g))
  simp only [List.length_map, List.length_cons, endsL_len] at h1
  exact h1
theorem Grw.ends {L : List Exc} {d : Int} {E : List (Int × Value)} (h : Grw L d E) {x : Int} (hx : hasB E x = true) : x = d ∨ EndOf L x :=
  h.least (fun x => x = d ∨ EndOf L x) (.inl rfl) (fun e he => ⟨fun _ => .inr ⟨e, he, .inr rfl⟩, fun _ => .inr ⟨e, he, .inl rfl⟩⟩) x hx
theorem hasB_put {E : List (Int × Value)} {k : Int} {v : Value} (x : Int) : hasB (put E k v) x = true ↔ x = k ∨ hasB E x = true := by
  unfold hasB
  simp only [decide_eq_true_eq]
  exact keys_put k v E x
theorem Grw.put2 {L : List Exc} {d : Int} {E : List (Int × Value)} (h : Grw L d E) {e : Exc} (he : e ∈ L) (hd : hasB E e.frm = true ∨ hasB E e.dst = true) : Grw L d (put (put E e.frm (.bool true)) e.dst (.bool true)) := by
  refine ⟨(h.bls.put _).put _, nodup_put _ _ _ (nodup_put _ _ _ h.nd), ?_, fun T h1 h2 x hx => ?_⟩
  · rw [hasB_put, hasB_put]; exact .inr (.inr h.dev)
  · have ht : T e.frm ∧ T e.dst := by
      rcases hd with g | g
      · have := h.least T h1 h2 _ g; exact ⟨this, (h2 e he).1 this⟩
      · have := h.least T h1 h2 _ g; exact ⟨(h2 e he).2 this, this⟩
    rw [hasB_put, hasB_put] at hx
    rcases hx with rfl | rfl | hx
    · exact ht.2
    · exact ht.1
    · exact h.least T h1 h2 x hx
/-- A pass over the exchanges. -/
structure Psg (L : List Exc) (d : Int) (E0 E : List (Int × Value)) (k : Nat) (g : Bool) : Prop where
  grw : Grw L d E
  up : g = true → E0.length < E.length
  same : g = false → E = E0
  clo : g = false → ∀ e ∈ L.take k, hasB E e.frm = hasB E e.dst
def boolOf : Value → Bool
  | .bool b => b
  | _ => false
set_option maxRecDepth 100000 in
set_option maxHeartbeats 4000000 in
theorem component_q (L : List Exc) (d : Int) (v : Value) (w : World) (hv : Sl w.heap.size w 5 v (L.map Exc.cs)) (hL : ∀ x ∈ L, ExOK x) (hm : L.length ≤ 100) (hd : I64 d) :
    Calls Tryz.prog 61 #[v, .int .i64 d] w fun e w' => (∃ (v : Value) (c : List Int), e = .returned v ∧ Ow w.heap.size w' 3 1 v (c.map i1) ∧ c.Pairwise (· < ·) ∧ IsComp L d c ∧ c.length ≤ 201) ∧ Below w.heap.size w w' := by
  obtain ⟨a, n, cap, rfl, hn, _, _⟩ := hv.open
  rw [List.length_map] at hn
  have HV := Lib.hid hv
  have HN := Lib.hid hn
  have HL := Lib.hid hL
  have HD := Lib.hid hd
  have hn100 : n ≤ 100 := by omega
  have hmm := @run_makeMap Tryz.prog
  have HI0 : Hid (IMap (w.alloc (.map #[] 0)) w.heap.size []) := Lib.hid (IMap.made w)
  have hin := (IMap.made w).update (P := Tryz.prog) uSet tInt d (.bool true)
  haveI b0 : Bw w (w.alloc (.map #[] 0)) := inferInstance
  haveI b1 : Bw w (mset (w.alloc (.map #[] 0)) w.heap.size d (.bool true)) := bw_mset (Nat.le_refl _)
  have HI1 := Lib.hid (HI0.out.updated d (.bool true))
  clear hv hL hm hn hd
  go_enter Tryz.func61, Tryz.ntmps61
  go_wp2_with fail
  generalize mset (w.alloc (.map #[] 0)) w.heap.size d (.bool true) = V0 at *
  clear HI0 hin b0
  go_loopw [6] (fun s6 wr => ∃ (g : Bool) (E : List (Int × Value)), s6 = .bool g ∧ Hid (IMap wr w.heap.size E) ∧ Hid (Grw L d E) ∧ Hid (g = false → ∀ e ∈ L, hasB E e.frm = hasB E e.dst) ∧ ∃ U, wr = w.junk U) (fun s6 wr => (300 - mapSize wr w.heap.size) * 2 + if boolOf s6 then 1 else 0)
  case atStart =>
    refine ⟨true, put [] d (.bool true), rfl, HI1, Lib.hid ⟨Bls.put (fun p hp => by cases hp) d, nodup_put _ _ _ (by simp), ?_, fun T h1 _ x hx => ?_⟩, Lib.hid (fun h => by cases h), ?_⟩
    · rw [hasB_put]; exact .inl rfl
    · rw [hasB_put] at hx
      rcases hx with rfl | hx
      · exact h1
      · simp [hasB] at hx
    · with_reducible exact exj
  case round =>
    clear HI1 b1
    obtain ⟨g, E, rfl, HI, HG, HC, U, rfl⟩ := hrel
    cases g with
    | true =>
      clear HC
      go_wp2_with fail
      have hsz0 := HI.out.size
      have hfw0 : E.length ≤ 201 := by have := HG.out.few; have := HN.out; omega
      go_loopw [6, 15] (fun s6 s15 wr => ∃ (k : Nat) (g : Bool) (E2 : List (Int × Value)), s15 = .int .i64 k ∧ s6 = .bool g ∧ k ≤ n ∧ Hid (IMap wr w.heap.size E2) ∧ Hid (Psg L d E E2 k g) ∧ ∃ U, wr = w.junk U) (fun _ s15 _ => n - (intOf s15).toNat)
      case atStart =>
        refine ⟨0, false, E, rfl, rfl, Nat.zero_le _, HI, Lib.hid ⟨HG.out, fun h => (by cases h), fun _ => rfl, fun _ e he => by simp at he⟩, ?_⟩
        with_reducible exact exj
      case round =>
        clear HI HG
        obtain ⟨k, g, E2, rfl, rfl, hk, HI, HP, Z, rfl⟩ := hrel
        by_cases hlt : k < n
        · have hkl : k < L.length := by rw [HN.out]; exact hlt
          obtain ⟨b, off, rfl, hb, c0, c1, c2, c3, c4⟩ := ex_cells HV.out k hkl
          haveI lb : Lo b w := ⟨hb⟩
          have hmem : L[k]! ∈ L := by rw [getElem!_pos L k hkl]; exact List.getElem_mem hkl
          have HT : Hid (L.take (k + 1) = L.take k ++ [L[k]!]) := Lib.hid (by rw [List.take_add_one, List.getElem?_eq_getElem hkl, getElem!_pos L k hkl]; rfl)
          generalize L[k]! = x at *
          have HMEM := Lib.hid hmem
          clear hmem
          obtain ⟨V, hV⟩ : ∃ V, V = ((w.junk Z).alloc (.cells #[.int .i64 x.frm, .int .i64 x.dst, .int .i64 x.sent, .int .i64 x.got, .int .i64 x.least] 81)) := ⟨_, rfl⟩
          have HX : Hid (V.heap[(w.junk Z).heap.size]? = some (.cells #[.int .i64 x.frm, .int .i64 x.dst, .int .i64 x.sent, .int .i64 x.got, .int .i64 x.least] 81 (0, 0))) := Lib.hid (by rw [hV]; exact obj_last _ _)
          haveI bV : Bw w V := by rw [hV]; infer_instance
          have HI2 : Hid (IMap V w.heap.size E2) := Lib.hid (by rw [hV]; exact HI.out.keep Bw.b)
          have e0 : V.cell? ⟨(w.junk Z).heap.size, 0, none⟩ = some (.int .i64 x.frm) := obj_cell HX.out 0
          have e1 : V.cell? ⟨(w.junk Z).heap.size, 1, none⟩ = some (.int .i64 x.dst) := obj_cell HX.out 1
          haveI lx : Lo (w.junk Z).heap.size V := ⟨obj_lt HX.out⟩
          have hl1 := HI2.out.lookup (P := Tryz.prog) uSet tInt (zBool V) x.frm false
          have hl2 := HI2.out.lookup (P := Tryz.prog) uSet tInt (zBool V) x.dst false
          simp only [if_neg Bool.false_ne_true, Bool.false_eq_true, if_false] at hl1 hl2
          rw [look_bls HP.out.grw.bls] at hl1 hl2
          have HX2 := Lib.hid (show w.heap.size + 1 ≤ (w.junk Z).heap.size from HI.out.lt)
          go_upto_region 8 with fail
          rw [← hV]
          clear hV HX HI
          generalize (w.junk Z).heap.size = bx at *
          obtain ⟨p, hp⟩ : ∃ p, hasB E2 x.frm = p := ⟨_, rfl⟩
          obtain ⟨q, hq⟩ : ∃ q, hasB E2 x.dst = q := ⟨_, rfl⟩
          rw [hp] at hl1
          rw [hq] at hl2
          have HPQ := Lib.hid (show hasB E2 x.frm = p ∧ hasB E2 x.dst = q from ⟨hp, hq⟩)
          clear hp hq
          by_cases hpq : p = q
          · subst hpq
            have hne : (p != p) = false := by simp
            go_wp2_with fail
            go_roundw
            case rel =>
              refine ⟨k + 1, g, E2, by go_num, rfl, by omega, HI2, Lib.hid ⟨HP.out.grw, HP.out.up, HP.out.same, fun h e he => ?_⟩, ?_⟩
              · rw [HT.out] at he
                rcases List.mem_append.1 he with h1 | h1
                · exact HP.out.clo h e h1
                · obtain rfl := List.mem_singleton.1 h1
                  rw [HPQ.out.1, HPQ.out.2]
              · with_reducible exact exj
            case measure => simp [intOf]; omega
          · have hne : (p != q) = true := by simpa using hpq
            have hI3 : IMap V.drew w.heap.size E2 := HI2.out.keep ((Below.refl _ _).drew)
            have hu1 := hI3.update (P := Tryz.prog) uSet tInt x.frm (.bool true)
            have hu2 := (hI3.updated x.frm (.bool true)).update (P := Tryz.prog) uSet tInt x.dst (.bool true)
            have HI4 := Lib.hid ((hI3.updated x.frm (.bool true)).updated x.dst (.bool true))
            haveI bm : Bw w (mset (mset V.drew w.heap.size x.frm (.bool true)) w.heap.size x.dst (.bool true)) := by
              haveI := bw_mset (w := w) (X := V.drew) (b := w.heap.size) (k := x.frm) (v := .bool true) (Nat.le_refl _)
              exact bw_mset (Nat.le_refl _)
            have hneb : ¬ bx = w.heap.size := by have := HX2.out; omega
            have e1d : (mset V.drew w.heap.size x.frm (.bool true)).cell? ⟨bx, 1, none⟩ = some (.int .i64 x.dst) := by rw [mset_cell hneb]; simpa [go_sem] using e1
            have HG2 := Lib.hid (HP.out.grw.put2 HMEM.out (by
              rw [HPQ.out.1, HPQ.out.2]
              cases p <;> cases q <;> simp at hpq ⊢))
            have HLN : Hid (E.length < (put (put E2 x.frm (.bool true)) x.dst (.bool true)).length) := Lib.hid (by
              have h0 : E.length ≤ E2.length := by
                cases hg : g with
                | true => have := HP.out.up hg; omega
                | false => rw [HP.out.same hg]; exact Nat.le_refl _
              have h1 : (put E2 x.frm (.bool true)).length ≥ E2.length := by
                cases hh : hasB E2 x.frm with
                | true => rw [put_len_old _ hh]; exact Nat.le_refl _
                | false => rw [put_len_new _ hh]; omega
              cases p with
              | true =>
                have hq2 : q = false := by cases q <;> simp at hpq ⊢
                have hf : hasB (put E2 x.frm (.bool true)) x.dst = false := by
                  cases hh : hasB (put E2 x.frm (.bool true)) x.dst with
                  | false => rfl
                  | true =>
                    rw [hasB_put] at hh
                    rcases hh with hh | hh
                    · have := HPQ.out.1; rw [← hh, HPQ.out.2, hq2] at this; cases this
                    · rw [HPQ.out.2, hq2] at hh; cases hh
                rw [put_len_new _ hf]; omega
              | false =>
                have h2 := put_len_new (.bool true) HPQ.out.1
                have h3 : (put (put E2 x.frm (.bool true)) x.dst (.bool true)).length ≥ (put E2 x.frm (.bool true)).length := by
                  cases hh : hasB (put E2 x.frm (.bool true)) x.dst with
                  | true => rw [put_len_old _ hh]; exact Nat.le_refl _
                  | false => rw [put_len_new _ hh]; omega
                omega)
            clear hI3 hne
            have hpq2 : (p = true ∧ q = false) ∨ (p = false ∧ q = true) := by cases p <;> cases q <;> simp at hpq ⊢
            clear HPQ hpq
            rcases hpq2 with ⟨rfl, rfl⟩ | ⟨rfl, rfl⟩
            all_goals
              go_upto_region 9 with fail
              go_region
              go_wp2_with fail
              go_roundw
              case rel =>
                refine ⟨k + 1, true, put (put E2 x.frm (.bool true)) x.dst (.bool true), by go_num, rfl, by omega, HI4, Lib.hid ⟨HG2.out, fun _ => HLN.out, fun h => (by cases h), fun h => by cases h⟩, ?_⟩
                with_reducible exact exj
              case measure => simp [intOf]; omega
        · obtain rfl : k = n := by omega
          have hsz1 := HI.out.size
          have hfw : E2.length ≤ 201 := by have := HP.out.grw.few; have := HN.out; omega
          have HLN : Hid (if g then E.length < E2.length else E2 = E) := Lib.hid (by
            cases g with
            | true => exact HP.out.up rfl
            | false => exact HP.out.same rfl)
          go_wp2_with fail
          go_roundw
          case rel =>
            refine ⟨g, E2, rfl, HI, Lib.hid HP.out.grw, Lib.hid (fun h e he => HP.out.clo h e (by rw [List.take_of_length_le (by rw [HN.out]; exact Nat.le_refl _)]; exact he)), ?_⟩
            with_reducible exact exj
          case measure =>
            have h := HLN.out
            cases g with
            | true =>
              have h' : E.length < E2.length := h
              rw [hsz1, hsz0]
              simp [boolOf]
              omega
            | false =>
              have h' : E2 = E := h
              rw [hsz1, hsz0, h']
              simp [boolOf]
    | false =>
      have hkeys : ∀ x, x ∈ E.map (·.1) ↔ hasB E x = true := fun x => by simp [hasB]
      have HS := Lib.hid (sorted_q HI.out (fun p hp => ⟨true, HG.out.bls p hp⟩) (fun p hp => by
        rcases HG.out.ends ((hkeys p.1).1 (List.mem_map.2 ⟨p, hp, rfl⟩)) with h | h
        · rw [h]; exact HD.out
        · exact endOf_i64 HL.out h) (by have := HG.out.few; have := HN.out; omega))
      have hfw : E.length ≤ 201 := by have := HG.out.few; have := HN.out; omega
      have HF := Lib.hid hfw
      have HK := Lib.hid hkeys
      clear hkeys hfw
      go_wp2_with fail
      refine (keys_q _ _).mono ?_
      rintro e w1 ⟨rfl, rfl⟩
      go_wp2_with fail
      refine HS.out.mono ?_
      rintro e w2 ⟨v2, c, rfl, hO, hP, hM, hLn, hB⟩
      go_wp2_with fail
      go_ret
      have hw : Below w.heap.size w ((w.junk U).alloc (.cells #[.map (some w.heap.size)] 143)) := Bw.b
      have hmm2 : ∀ x, x ∈ c ↔ hasB E x = true := fun x => by rw [hM x]; exact HK.out x
      refine ⟨⟨v2, c, rfl, hO.mono hw.size, hP, ⟨(hmm2 d).2 HG.out.dev, fun e he => ?_, fun T h1 h2 x hx => HG.out.least T h1 h2 x ((hmm2 x).1 hx)⟩, by rw [hLn]; exact HF.out⟩, hw.trans (hB.mono hw.size)⟩
      show e.frm ∈ c ↔ e.dst ∈ c
      rw [hmm2, hmm2, HC.out (by trivial) e he]
end Go.Proofs.YtmplajpbmojkkaaGreat
