/-
 Known: Lengths, exactly.
 Known: the law's own small functions.
 Known: the chapter's example: routes and lengths as functions; its network.
 Known: the way between two positions of the chapter's example.
-/
import Derived.Test.YtcelpkbmcmnogaaGreatDoorShoG
set_option linter.unusedSimpArgs false
set_option linter.unusedVariables false
namespace Go.Proofs.YtcelpkbmcmnogaaGreatDoor
open Go Go.RowKit Go.Vi
attribute [local go_sem ↓] lo_lt lo_ne lo_ne'
attribute [local go_sem] junk_cell junk_frozen junk_setCell junk_drew drew_junk
/-- The lengths of the least ways, as a function. -/
def DsOf (n : Net) (ds : Int → Int → Option Int) : Prop := ∀ H, (∀ k, Fin (hopsG n.roads k) (H k)) → ∀ s x d, ds s x = some d ↔ Least H s x d
def lensN (n : Net) (ds : Int → Int → Option Int) (s : Int) : List Int × Int := if (nodeOf n.nodes s).isSome then (n.nodes.map fun x => (ds s x.id).getD (-1), 0) else ([], 9)
def LsOut (L : List Int) (c : Int) (w : World) (e : Ending) (w' : World) : Prop := ∃ v, e = .returned (.tuple #[v, .int .i64 c]) ∧ Ow w.heap.size w' 3 1 v (L.map i1) ∧ Below w.heap.size w w'
set_option maxRecDepth 100000 in
set_option maxHeartbeats 1000000 in
theorem lengths_q (n : Net) (ds : Int → Int → Option Int) (hds : DsOf n ds) (s : Int) (v1 v2 : Value) (w : World) (hN : NetAt w.heap.size w v1 v2 n) (hK : NetOK n) (hsz : n.roads.length ≤ 100) :
  Calls Tryz.prog 12 #[.agg #[v1, v2], .int .i64 s] w (LsOut (lensN n ds s).1 (lensN n ds s).2 w) := by
 have HH : Hid (∀ (w' : World) [Bw w w'], Calls Tryz.prog 38 #[.agg #[v1, v2], .int .i64 s] w' fun e w2 => e = .returned (.bool (nodeOf n.nodes s).isSome) ∧ Below w'.heap.size w' w2) := Lib.hid (fun w' _ => has_any n v1 v2 s w' (later_bw hN) hK.nodes (by have := hK.few; omega))
 have HL : Hid (∀ (w' : World) [Bw w w'], Calls Tryz.prog 39 #[.agg #[v1, v2], .int .i64 s] w' fun e w2 => (∃ b D, e = .returned (.map (some b)) ∧ w'.heap.size ≤ b ∧ IMap w2 b (ivI D) ∧ (∀ x, Vi.look D x = ds s x)) ∧ Below w'.heap.size w' w2) := Lib.hid (fun w' _ => (lengths_any n s v1 v2 w' (later_bw hN) hsz (fun r hr => by have := hK.len r hr; omega)).mono fun e w2 ⟨⟨b, D, h1, h2, h3, _, _, H, h6, h7⟩, hb⟩ => ⟨⟨b, D, h1, h2, h3, fun x => Option.ext fun d => by rw [h7 x d, hds H h6 s x d]⟩, hb⟩)
 obtain ⟨an, nn, cn, rfl, hn, hn1, hn2⟩ := hN.1.open
 rw [List.length_map] at hn
 have hnf : nn ≤ 1000000 := by rw [← hn]; have := hK.few; omega
 have HNN := Lib.hid hn
 have HN1 := Lib.hid hN.1
 obtain ⟨i0, hi, hz0, hz1, hz2⟩ := info_parts iIntT
 obtain ⟨out, hout⟩ : ∃ o, lensN n ds s = o := ⟨_, rfl⟩
 rw [hout]
 have HT := Lib.hid hout
 unfold lensN at HT
 clear hout hn hn1 hn2 hN hK hds hsz
 cases hs : (nodeOf n.nodes s).isSome with
 | false =>
  rw [hs] at HH HT
  clear hs
  go_enter Tryz.func12, Tryz.ntmps12
  go_wp2_with fail
  refine (jk (HH.out _)).mono ?_
  rintro e _ ⟨rfl, X, rfl⟩
  go_wp2_with fail
  refine bodyPost_ret (v := .tuple #[.slice none 0 0, .int .i64 9]) (by simp [results, Tryz.results12, go_sem]) rfl ?_
  rw [← HT.out]
  exact ⟨_, rfl, Ow.nil _ _ _ _, Bw.b⟩
 | true =>
  rw [hs] at HH HT
  clear hs
  go_enter Tryz.func12, Tryz.ntmps12
  go_wp2_with fail
  refine (jk (HH.out _)).mono ?_
  rintro e _ ⟨rfl, X, rfl⟩
  go_wp2_with fail
  refine (HL.out _).mono ?_
  rintro e w2 ⟨⟨bm, D, rfl, hbm, hI, hD⟩, hb⟩
  obtain ⟨X2, rfl⟩ := below_some hb
  obtain ⟨W0, hW0⟩ : ∃ W0, W0 = (((w.alloc (.cells #[.slice an nn cn, v2] 36)).junk X).junk X2) := ⟨_, rfl⟩
  have n0 : W0.cell? ⟨w.heap.size, 0, none⟩ = some (.slice an nn cn) := by rw [hW0]; simp [go_sem]
  haveI l0 : Lo w.heap.size W0 := by rw [hW0]; infer_instance
  haveI bw : Bw w W0 := by rw [hW0]; infer_instance
  have HI : Hid (IMap W0 bm (ivI D)) := Lib.hid (by rw [hW0]; exact hI)
  have HD := Lib.hid hD
  rw [← hW0]
  clear hW0 hI hD hb hbm HL HH
  go_wp2_with fail
  go_loopw [7, 22] (fun s7 s22 wr => ∃ k : Nat, s22 = .int .i64 k ∧ k ≤ nn ∧ Hid (Ow W0.heap.size wr 3 1 s7 (((n.nodes.take k).map fun x => (ds s x.id).getD (-1)).map i1)) ∧ ∃ U, wr = W0.junk U) (fun _ s22 _ => nn - (intOf s22).toNat)
  case atStart => exact ⟨0, rfl, Nat.zero_le _, Lib.hid (Ow.nil _ _ _ _), by with_reducible exact ex_junk⟩
  case round =>
   obtain ⟨k, rfl, hk, HO, U, rfl⟩ := hrel
   by_cases hlt : k < nn
   ·obtain ⟨bn, off, rfl, hbn, dn⟩ := nd_cells HN1.out k (by rw [HNN.out]; exact hlt)
    obtain ⟨d0, d1, d2⟩ := dn k (by rw [HNN.out]; exact hlt)
    haveI ln : Lo bn W0 := ⟨Nat.lt_of_lt_of_le hbn bw.b.size⟩
    rw [← bw.b.cell (p := ⟨bn, _, none⟩) hbn] at d0 d1 d2
    have HX : Hid (((n.nodes.take (k + 1)).map fun x => (ds s x.id).getD (-1)) = ((n.nodes.take k).map fun x => (ds s x.id).getD (-1)) ++ [(Vi.look D (n.nodes[k]!).id).getD (-1)]) := Lib.hid (by
     rw [HD.out, List.take_add_one, List.getElem?_eq_getElem (by rw [HNN.out]; exact hlt), getElem!_pos n.nodes k (by rw [HNN.out]; exact hlt)]
     rw [List.map_append]; rfl)
    have hlen : ((n.nodes.take k).map fun x => (ds s x.id).getD (-1)).length = k := by rw [List.length_map, List.length_take, HNN.out]; omega
    have HLL := Lib.hid hlen
    clear hlen
    generalize ((n.nodes.take k).map fun x => (ds s x.id).getD (-1)) = L at HO HX HLL
    generalize n.nodes[k]! = x at d0 d1 d2 HX
    have lk := look_two (w := (W0.junk U).alloc (.cells #[.int .i64 x.id, .int .i64 x.x, .int .i64 x.y] 71)) (HI.out.keep Bw.b) x.id
    cases hx : Vi.look D x.id with
    | none =>
     rw [hx] at lk HX
     simp only [Option.getD_none, Option.isSome_none] at lk HX
     clear hx dn
     go_wp2_with (at_builtin; go_loud (refine ap1 (by rfl) _ _ _ (by rfl) uInts hi hz0 hz1 hz2 rfl (by decide) (fun _ => rfl) (base := W0.heap.size) (cs := i1) (L := L) (HO.out.keep Bw.b) (by rfl) (-1) _ (by rfl) (obj_last2 _ _ _) (i1_one _) (by have := HLL.out; omega) (by decide) Bw.b.size ?_; intro g cap w5 own5 hb5 hg5 hl5 hc5 hm5; obtain ⟨U5, rfl⟩ := bj (W := W0) hb5; clear hb5))
     go_roundw
     case rel => exact ⟨k + 1, by go_num, by omega, Lib.hid (by rw [HX.out]; exact own5), by with_reducible exact ex_junk⟩
     case measure => simp [intOf]; omega
    | some d =>
     rw [hx] at lk HX
     simp only [Option.getD_some, Option.isSome_some] at lk HX
     clear hx dn
     go_wp2_with (at_builtin; go_loud (refine ap1 (by rfl) _ _ _ (by rfl) uInts hi hz0 hz1 hz2 rfl (by decide) (fun _ => rfl) (base := W0.heap.size) (cs := i1) (L := L) (HO.out.keep Bw.b) (by rfl) d _ (by rfl) (obj_last2 _ _ _) (i1_one _) (by have := HLL.out; omega) (by decide) Bw.b.size ?_; intro g cap w5 own5 hb5 hg5 hl5 hc5 hm5; obtain ⟨U5, rfl⟩ := bj (W := W0) hb5; clear hb5))
     go_roundw
     case rel => exact ⟨k + 1, by go_num, by omega, Lib.hid (by rw [HX.out]; exact own5), by with_reducible exact ex_junk⟩
     case measure => simp [intOf]; omega
   ·obtain rfl : k = nn := by omega
    obtain ⟨a7, n7, c7, hv7⟩ := HO.out.val
    subst hv7
    go_wp2_with fail
    refine bodyPost_ret (v := .tuple #[.slice a7 n7 c7, .int .i64 0]) (by simp [results, Tryz.results12, go_sem]) rfl ?_
    rw [← HT.out]
    have e : n.nodes.take k = n.nodes := by rw [← HNN.out]; exact List.take_length
    have ho := HO.out
    rw [e] at ho
    exact ⟨_, rfl, ho.mono bw.b.size, Bw.b⟩
end Go.Proofs.YtcelpkbmcmnogaaGreatDoor
namespace Go.Proofs.YtcelpkbmcmnogaaGreatDoor
open Go Go.RowKit Go.Vi
attribute [local go_sem ↓] lo_lt lo_ne lo_ne'
attribute [local go_sem] junk_cell junk_frozen junk_setCell junk_drew drew_junk
/-- Whether one list is before another in the order of words. -/
def befL : List Int → List Int → Bool
 | [], [] => false
 | [], _ :: _ => true
 | _ :: _, [] => false
 | a :: l, b :: m => if a = b then befL l m else decide (a < b)
theorem befL_drop (L M : List Int) (k : Nat) (h1 : k < L.length) (h2 : k < M.length) : befL (L.drop k) (M.drop k) = if L[k]! = M[k]! then befL (L.drop (k + 1)) (M.drop (k + 1)) else decide (L[k]! < M[k]!) := by
 rw [List.drop_eq_getElem_cons h1, List.drop_eq_getElem_cons h2, getElem!_pos L k h1, getElem!_pos M k h2]
 rfl
theorem befL_end (L M : List Int) (k : Nat) (h1 : k ≤ L.length) (h2 : k ≤ M.length) (h : k = L.length ∨ k = M.length) : befL (L.drop k) (M.drop k) = decide (L.length < M.length) := by
 by_cases h3 : k = L.length
 ·subst h3
  rw [List.drop_length]
  by_cases h4 : L.length = M.length
  ·rw [h4, List.drop_length]; simp [befL]
  ·rw [List.drop_eq_getElem_cons (by omega)]
   simp [befL]; omega
 ·have h4 : k = M.length := by omega
  subst h4
  rw [List.drop_length, List.drop_eq_getElem_cons (by omega)]
  simp [befL]; omega
theorem befL_not : ∀ (L M : List Int), (!befL L M && !befL M L) = decide (L = M)
 | [], [] => by simp [befL]
 | [], _ :: _ => by simp [befL]
 | _ :: _, [] => by simp [befL]
 | a :: l, b :: m => by
  by_cases h : a = b
  ·subst h; simp only [befL, if_true]; rw [befL_not l m]; simp
  ·have h' : ¬ b = a := fun e => h e.symm
   simp only [befL, if_neg h, if_neg h']
   have : ¬ (a :: l = b :: m) := fun e => h (List.cons.inj e).1
   simp [this]; omega
set_option maxHeartbeats 1000000 in
theorem before_q (L M : List Int) (u v : Value) (w : World) (hu : Sl w.heap.size w 1 u (L.map i1)) (hv : Sl w.heap.size w 1 v (M.map i1)) (hl : L.length ≤ 1000000) (hm : M.length ≤ 1000000) :
  Calls Tryz.prog 22 #[u, v] w fun e w' => e = .returned (.bool (befL L M)) ∧ Below w.heap.size w w' := by
 obtain ⟨a1, n1, c1, rfl, hn1, hk1, hm1⟩ := hu.open
 obtain ⟨a2, n2, c2, rfl, hn2, hk2, hm2⟩ := hv.open
 rw [List.length_map] at hn1 hn2
 have HU := Lib.hid hu
 have HV := Lib.hid hv
 have H1 := Lib.hid hn1
 have H2 := Lib.hid hn2
 have hb1 : n1 ≤ 1000000 := by rw [← hn1]; exact hl
 have hb2 : n2 ≤ 1000000 := by rw [← hn2]; exact hm
 obtain ⟨out, hout⟩ : ∃ o, befL L M = o := ⟨_, rfl⟩
 rw [hout]
 have HT := Lib.hid hout
 clear hu hv hl hm hn1 hn2 hm1 hm2 hout
 go_enter Tryz.func22, Tryz.ntmps22
 go_wp2_with fail
 go_loopw [5] (fun s5 wr => ∃ k : Nat, s5 = .int .i64 k ∧ k ≤ n1 ∧ k ≤ n2 ∧ Hid (befL (L.drop k) (M.drop k) = out) ∧ ∃ U, wr = w.junk U) (fun s5 _ => n1 - (intOf s5).toNat)
 case atStart => exact ⟨0, rfl, Nat.zero_le _, Nat.zero_le _, HT, below_some (Below.refl _ _)⟩
 case round =>
  obtain ⟨k, rfl, hk, hk2, HF, U, rfl⟩ := hrel
  by_cases h1 : k < n1
  ·by_cases h2 : k < n2
   ·have hkl : k < L.length := by rw [H1.out]; exact h1
    have hkm : k < M.length := by rw [H2.out]; exact h2
    obtain ⟨b, off, rfl, hb, d⟩ := int_cells HU.out k hkl
    have d0 := d k hkl
    obtain ⟨b2, off2, rfl, hb2, g⟩ := int_cells HV.out k hkm
    have g0 := g k hkm
    haveI lb : Lo b w := ⟨hb⟩
    haveI lb2 : Lo b2 w := ⟨hb2⟩
    have HD := Lib.hid (befL_drop L M k hkl hkm)
    rw [HF.out] at HD
    generalize L[k]! = x at d0 HD
    generalize M[k]! = y at g0 HD
    clear d g
    by_cases hc : x = y
    ·subst hc
     rw [if_pos rfl] at HD
     have HF2 : Hid (befL (L.drop (k + 1)) (M.drop (k + 1)) = out) := Lib.hid HD.out.symm
     clear HD HF
     go_wp2_with fail
     go_quiet (fail)
     go_wp2_with fail
     go_roundw
     case rel => exact ⟨k + 1, by go_num, by omega, by omega, HF2, by with_reducible exact ex_junk⟩
     case measure => simp [intOf]; omega
    ·rw [if_neg hc] at HD
     have hcb : (x != y) = true := by simpa using hc
     go_wp2_with fail
     go_quiet (fail)
     go_wp2_with fail
     go_quiet (fail)
     go_wp2_with fail
     go_ret
     exact ⟨by rw [HD.out]; rfl, Bw.b⟩
   ·obtain rfl : k = n2 := by omega
    have HE := Lib.hid (befL_end L M k (by rw [H1.out]; exact hk) (by rw [H2.out]; omega) (.inr H2.out.symm))
    rw [HF.out, H1.out, H2.out] at HE
    go_wp2_with fail
    go_ret
    exact ⟨by rw [HE.out]; simp, Bw.b⟩
  ·obtain rfl : k = n1 := by omega
   have HE := Lib.hid (befL_end L M k (by rw [H1.out]; exact hk) (by rw [H2.out]; exact hk2) (.inl H1.out.symm))
   rw [HF.out, H1.out, H2.out] at HE
   go_wp2_with fail
   go_ret
   exact ⟨by rw [HE.out]; simp, Bw.b⟩
theorem sameInts_q (L M : List Int) (u v : Value) (w : World) (hu : Sl w.heap.size w 1 u (L.map i1)) (hv : Sl w.heap.size w 1 v (M.map i1)) (hl : L.length ≤ 1000000) (hm : M.length ≤ 1000000) :
  Calls Tryz.prog 16 #[u, v] w fun e w' => e = .returned (.bool (decide (L = M))) ∧ Below w.heap.size w w' := by
 have HA : Hid (∀ (w' : World) [Bw w w'], Calls Tryz.prog 22 #[u, v] w' fun e w2 => e = .returned (.bool (befL L M)) ∧ Below w'.heap.size w' w2) := Lib.hid (fun w' hw => before_q L M u v w' (hu.later hw.b) (hv.later hw.b) hl hm)
 have HB : Hid (∀ (w' : World) [Bw w w'], Calls Tryz.prog 22 #[v, u] w' fun e w2 => e = .returned (.bool (befL M L)) ∧ Below w'.heap.size w' w2) := Lib.hid (fun w' hw => before_q M L v u w' (hv.later hw.b) (hu.later hw.b) hm hl)
 rw [← befL_not]
 obtain ⟨a1, n1, c1, rfl, _⟩ := hu.open
 obtain ⟨a2, n2, c2, rfl, _⟩ := hv.open
 clear hu hv hl hm
 generalize befL L M = x at HA ⊢
 generalize befL M L = y at HB ⊢
 go_enter Tryz.func16, Tryz.ntmps16
 cases x
 ·go_wp2_with fail
  refine (jk (HA.out _)).mono ?_
  rintro e _ ⟨rfl, X, rfl⟩
  go_wp2_with fail
  refine (jk (HB.out _)).mono ?_
  rintro e _ ⟨rfl, X2, rfl⟩
  go_wp2_with fail
  go_ret
  exact ⟨by simp, Bw.b⟩
 ·go_wp2_with fail
  refine (jk (HA.out _)).mono ?_
  rintro e _ ⟨rfl, X, rfl⟩
  go_wp2_with fail
  go_ret
  exact ⟨by simp, Bw.b⟩
theorem whole_q (n : Int) (w : World) (h : n.natAbs < 9223372036854775808) :
  Calls Tryz.prog 8 #[.int .i64 n] w fun e w' => e = .returned (rV n) ∧ Below w.heap.size w w' := by
 have HN := Lib.hid (fun w' => fromInt_q n w' h)
 rw [show rV n = .agg #[.bool (zs n), .string (zx n), .bool false, .string ⟨#[]⟩] from rfl] at HN ⊢
 clear h
 go_enter Tryz.func8, Tryz.ntmps8
 go_wp2_with fail
 refine (jk (HN.out _)).mono ?_
 rintro e _ ⟨rfl, X, rfl⟩
 go_wp2_with fail
 exact bodyPost_ret (v := .agg #[.bool (zs n), .string (zx n), .bool false, .string ⟨#[]⟩]) (by simp [results, Tryz.results8, go_sem]) rfl ⟨rfl, Bw.b⟩
end Go.Proofs.YtcelpkbmcmnogaaGreatDoor
namespace Go.Proofs.YtcelpkbmcmnogaaGreatDoor
open Go Go.RowKit Go.Vi
attribute [local go_sem ↓] lo_lt lo_ne lo_ne'
attribute [local go_sem] junk_cell junk_frozen junk_setCell junk_drew drew_junk
noncomputable def rtN (n : Net) (a b : Int) : Option (List Hp × Int) := open Classical in if h : ∃ p : List Hp × Int, IsRoute n a b p.1 p.2 then some h.choose else none
theorem rtN_of (n : Net) : RtOf n (rtN n) := by
 intro a b R l
 unfold rtN
 constructor
 ·intro h
  split at h
  ·rename_i hx
   have := hx.choose_spec
   injection h with h
   rw [h] at this
   exact this
  ·cases h
 ·intro h
  have hx : ∃ p : List Hp × Int, IsRoute n a b p.1 p.2 := ⟨(R, l), h⟩
  rw [dif_pos hx]
  obtain ⟨e1, e2⟩ := h.unique hx.choose_spec
  congr 1
  exact (Prod.ext e1 e2).symm
noncomputable def dsN (n : Net) (s x : Int) : Option Int := open Classical in if h : ∃ d, ∃ H, (∀ k, Fin (hopsG n.roads k) (H k)) ∧ Least H s x d then some h.choose else none
theorem dsN_of (n : Net) : DsOf n (dsN n) := by
 intro H hH s x d
 unfold dsN
 constructor
 ·intro h
  split at h
  ·rename_i hx
   obtain ⟨H', h1, h2⟩ := hx.choose_spec
   injection h with h
   rw [h] at h2
   have e : H' = H := funext fun k => fin_unique (h1 k) (hH k)
   rw [← e]
   exact h2
  ·cases h
 ·intro h
  have hx : ∃ d, ∃ H, (∀ k, Fin (hopsG n.roads k) (H k)) ∧ Least H s x d := ⟨d, H, hH, h⟩
  rw [dif_pos hx]
  obtain ⟨H', h1, h2⟩ := hx.choose_spec
  have e : H' = H := funext fun k => fin_unique (h1 k) (hH k)
  rw [e] at h2
  exact congrArg some (h2.unique h)
/-- A bound from below by a potential. -/
theorem walk_pot {A : Int → List Hp} {s : Int} (f : Int → Int) (h0 : f s ≤ 0) (hs : ∀ u, ∀ h ∈ A u, f h.dst ≤ f u + h.len) {v d : Int} (h : Walk A s v d) : f v ≤ d := by
 induction h with
 | nil => exact h0
 | snoc hw hh ih => have := hs _ _ hh; omega
theorem least_pot {A : Int → List Hp} {s v d : Int} (f : Int → Int) (h0 : f s ≤ 0) (hs : ∀ u, ∀ h ∈ A u, f h.dst ≤ f u + h.len) (hw : Walk A s v d) (hd : f v = d) : Least A s v d := ⟨hw, fun d' h => hd ▸ walk_pot f h0 hs h⟩
def exN : Net := ⟨[⟨1, 0, 0⟩, ⟨2, 3, 4⟩, ⟨3, 3, 0⟩], [⟨1, 1, 2, 5, 1, false⟩, ⟨2, 2, 3, 6, 1, true⟩, ⟨3, 3, 1, 3, 1, true⟩]⟩
def exA (k : Int) : List Hp := if k = 1 then [⟨2, 1, 5⟩] else if k = 2 then [⟨1, 1, 5⟩, ⟨3, 2, 6⟩] else if k = 3 then [⟨1, 3, 3⟩] else []
def exB (k : Int) : List Hp := if k = 1 then [⟨2, 1, 5⟩, ⟨3, 3, 3⟩] else if k = 2 then [⟨1, 1, 5⟩] else if k = 3 then [⟨2, 2, 6⟩] else []
theorem exA_of : hopsG exN.roads = exA := by
 funext k
 show addH (addH (addH (addH (fun _ => []) 1 ⟨2, 1, 5⟩) 2 ⟨1, 1, 5⟩) 2 ⟨3, 2, 6⟩) 3 ⟨1, 3, 3⟩ k = exA k
 unfold addH exA
 by_cases h1 : k = 1
 ·subst h1; rfl
 ·by_cases h2 : k = 2
  ·subst h2; rfl
  ·by_cases h3 : k = 3
   ·subst h3; rfl
   ·simp [h1, h2, h3]
theorem exB_of : hopsG exN.rev.roads = exB := by
 funext k
 show addH (addH (addH (addH (fun _ => []) 2 ⟨1, 1, 5⟩) 1 ⟨2, 1, 5⟩) 3 ⟨2, 2, 6⟩) 1 ⟨3, 3, 3⟩ k = exB k
 unfold addH exB
 by_cases h1 : k = 1
 ·subst h1; rfl
 ·by_cases h2 : k = 2
  ·subst h2; rfl
  ·by_cases h3 : k = 3
   ·subst h3; rfl
   ·simp [h1, h2, h3]
theorem fin_1 (h : Hp) : Fin [h] [h] := ⟨[h], List.Perm.refl _, List.pairwise_singleton _ _, rfl⟩
theorem fin_0 : Fin [] [] := ⟨[], List.Perm.refl _, List.Pairwise.nil, rfl⟩
theorem exA_fin (k : Int) : Fin (exA k) (exA k) := by
 unfold exA
 split
 ·exact fin_1 _
 ·split
  ·exact ⟨_, List.Perm.refl _, by simp [hpLt], by rfl⟩
  ·split
   ·exact fin_1 _
   ·exact fin_0
theorem exB_fin (k : Int) : Fin (exB k) (exB k) := by
 unfold exB
 split
 ·exact ⟨_, List.Perm.refl _, by simp [hpLt], by rfl⟩
 ·split
  ·exact fin_1 _
  ·split
   ·exact fin_1 _
   ·exact fin_0
theorem exA_step (f : Int → Int) (h1 : f 2 ≤ f 1 + 5) (h2 : f 1 ≤ f 2 + 5) (h3 : f 3 ≤ f 2 + 6) (h4 : f 1 ≤ f 3 + 3) : ∀ u, ∀ h ∈ exA u, f h.dst ≤ f u + h.len := by
 intro u h hh
 unfold exA at hh
 split at hh
 ·rename_i e; subst e; simp at hh; subst hh; exact h1
 ·split at hh
  ·rename_i e; subst e; simp at hh
   rcases hh with rfl | rfl
   ·exact h2
   ·exact h3
  ·split at hh
   ·rename_i e; subst e; simp at hh; subst hh; exact h4
   ·cases hh
theorem exB_step (f : Int → Int) (h1 : f 2 ≤ f 1 + 5) (h2 : f 3 ≤ f 1 + 3) (h3 : f 1 ≤ f 2 + 5) (h4 : f 2 ≤ f 3 + 6) : ∀ u, ∀ h ∈ exB u, f h.dst ≤ f u + h.len := by
 intro u h hh
 unfold exB at hh
 split at hh
 ·rename_i e; subst e; simp at hh
  rcases hh with rfl | rfl
  ·exact h1
  ·exact h2
 ·split at hh
  ·rename_i e; subst e; simp at hh; subst hh; exact h3
  ·split at hh
   ·rename_i e; subst e; simp at hh; subst hh; exact h4
   ·cases hh
def p1 (v : Int) : Int := if v = 1 then 0 else if v = 2 then 5 else 11
theorem exL1 : Least exA 1 1 0 := least_pot p1 (by decide) (exA_step p1 (by decide) (by decide) (by decide) (by decide)) Walk.nil rfl
theorem exW12 : Walk exA 1 2 5 := Walk.snoc (d := 0) (h := ⟨2, 1, 5⟩) Walk.nil (by simp [exA])
theorem exL2 : Least exA 1 2 5 := least_pot p1 (by decide) (exA_step p1 (by decide) (by decide) (by decide) (by decide)) exW12 rfl
theorem exL3 : Least exA 1 3 11 := least_pot p1 (by decide) (exA_step p1 (by decide) (by decide) (by decide) (by decide)) (Walk.snoc (h := ⟨3, 2, 6⟩) exW12 (by simp [exA])) rfl
/-- The lengths from node 1. -/
theorem exLens : lensN exN (dsN exN) 1 = ([0, 5, 11], 0) := by
 have h := dsN_of exN exA (fun k => by rw [exA_of]; exact exA_fin k) 1
 have e1 := (h 1 0).2 exL1
 have e2 := (h 2 5).2 exL2
 have e3 := (h 3 11).2 exL3
 unfold lensN
 rw [if_pos (show (nodeOf exN.nodes 1).isSome = true from rfl)]
 show ([(dsN exN 1 1).getD (-1), (dsN exN 1 2).getD (-1), (dsN exN 1 3).getD (-1)], (0 : Int)) = _
 rw [e1, e2, e3]
 rfl
def p2 (v : Int) : Int := if v = 2 then 0 else if v = 1 then 5 else 8
theorem exM22 : Least exB 2 2 0 := least_pot p2 (by decide) (exB_step p2 (by decide) (by decide) (by decide) (by decide)) Walk.nil rfl
theorem exV21 : Walk exB 2 1 5 := Walk.snoc (d := 0) (h := ⟨1, 1, 5⟩) Walk.nil (by simp [exB])
theorem exM21 : Least exB 2 1 5 := least_pot p2 (by decide) (exB_step p2 (by decide) (by decide) (by decide) (by decide)) exV21 rfl
theorem exM23 : Least exB 2 3 8 := least_pot p2 (by decide) (exB_step p2 (by decide) (by decide) (by decide) (by decide)) (Walk.snoc (h := ⟨3, 3, 3⟩) exV21 (by simp [exB])) rfl
def p3 (v : Int) : Int := if v = 1 then 0 else if v = 3 then 3 else 5
theorem exM11 : Least exB 1 1 0 := least_pot p3 (by decide) (exB_step p3 (by decide) (by decide) (by decide) (by decide)) Walk.nil rfl
theorem exM13 : Least exB 1 3 3 := least_pot p3 (by decide) (exB_step p3 (by decide) (by decide) (by decide) (by decide)) (Walk.snoc (d := 0) (h := ⟨3, 3, 3⟩) Walk.nil (by simp [exB])) rfl
/-- One step of a way along the first hop of a row. -/
theorem way_step0 {A : Int → List Hp} {left : Int → Int → Prop} {b a : Int} {g : Hp} {T R : List Hp} (hA : A a = g :: T) (hne : a ≠ b) {r l : Int} (h1 : left g.dst r) (h2 : left a l) (h3 : r + g.len = l) (hw : Way A left b g.dst R) : Way A left b a (g :: R) := by
 have hi : 0 < (A a).length := by rw [hA]; simp
 have e : (A a)[0] = g := by simp [hA]
 have := Way.step (A := A) (left := left) (b := b) (a := a) (R := R) (i := 0) hne hi ⟨r, l, by rw [e]; exact h1, h2, by rw [e]; exact h3⟩ (fun j hj => absurd hj (Nat.not_lt_zero _)) (by rw [e]; exact hw)
 rw [e] at this
 exact this
theorem exRt32 : IsRoute exN 3 2 [⟨1, 3, 3⟩, ⟨2, 1, 5⟩] 8 :=
 ⟨rfl, rfl, exA, exB, fun k => by rw [exA_of]; exact exA_fin k, fun k => by rw [exB_of]; exact exB_fin k, exM23,
  way_step0 (T := []) rfl (by decide) exM21 exM23 rfl (way_step0 (T := []) rfl (by decide) exM22 exM21 rfl Way.done)⟩
theorem exRt31 : IsRoute exN 3 1 [⟨1, 3, 3⟩] 3 :=
 ⟨rfl, rfl, exA, exB, fun k => by rw [exA_of]; exact exA_fin k, fun k => by rw [exB_of]; exact exB_fin k, exM13,
  way_step0 (T := []) rfl (by decide) exM11 exM13 rfl Way.done⟩
theorem exRt32' : rtN exN 3 2 = some ([⟨1, 3, 3⟩, ⟨2, 1, 5⟩], 8) := (rtN_of exN 3 2 _ 8).2 exRt32
theorem exRt31' : rtN exN 3 1 = some ([⟨1, 3, 3⟩], 3) := (rtN_of exN 3 1 _ 3).2 exRt31
theorem exN_ok : NetOK exN := netOK_of (by decide)
theorem own_blk {B b e k n : Nat} {w : World} {rows : List (List Value)} {cs : Array Value} (hb : w.heap[b]? = some (.cells cs e (0, 0))) (hc : cs = rows.flatten.toArray) (hB : B ≤ b) (hn : rows.length = n) (hk : ∀ r ∈ rows, r.length = k) (hm : n ≤ maxLen) : Ow B w e k (.slice (some ⟨b, 0, none⟩) n n) rows := by
 subst hc
 subst hn
 have hl := flatten_len hk
 refine ⟨⟨hl, .inr ⟨b, rows.length, _, rfl, hB, hb, Nat.le_refl _, hm, by simpa using hl, ?_⟩⟩, hk⟩
 rw [List.take_of_length_le (by simp [hl])]
theorem obj_at' {X : World} {n : Nat} {o : Obj} (h : X.heap.size = n) : (X.alloc o).heap[n]? = some o := h ▸ obj_last X o
set_option maxRecDepth 100000 in
set_option maxHeartbeats 1000000 in
theorem example_q (w : World) : Calls Tryz.prog 13 #[] w fun e w' => (∃ v1 v2, e = .returned (.agg #[v1, v2]) ∧ Ow w.heap.size w' 71 3 v1 (exN.nodes.map Nd.cs) ∧ Ow w.heap.size w' 53 6 v2 (exN.roads.map Rd.cs)) ∧ Below w.heap.size w w' := by
 go_enter Tryz.func13, Tryz.ntmps13
 go_wp2_with fail
 refine bodyPost_ret (v := .agg #[.slice (some ⟨w.heap.size + 1, 0, none⟩) 3 3, .slice (some ⟨w.heap.size + 1 + 1, 0, none⟩) 3 3]) (by simp [results, Tryz.results13, go_sem]) rfl ⟨⟨_, _, rfl, ?_, ?_⟩, Bw.b⟩
 ·exact own_blk (obj_old (obj_at' (by simp))) (by rfl) (by omega) rfl (by intro r hr; obtain ⟨y, _, rfl⟩ := List.mem_map.1 hr; rfl) (by unfold maxLen; omega)
 ·exact own_blk (obj_at' (by simp)) (by rfl) (by omega) rfl (by intro r hr; obtain ⟨y, _, rfl⟩ := List.mem_map.1 hr; rfl) (by unfold maxLen; omega)
end Go.Proofs.YtcelpkbmcmnogaaGreatDoor
namespace Go.Proofs.YtcelpkbmcmnogaaGreatDoor
open Go Go.RowKit Go.Vi
attribute [local go_sem ↓] lo_lt lo_ne lo_ne'
attribute [local go_sem] junk_cell junk_frozen junk_setCell junk_drew drew_junk
def exP : Plc := ⟨2, ((1 : Int) : Rat)⟩
def exQ : Plc := ⟨1, ((2 : Int) : Rat)⟩
theorem exChk : orI [chkP exN exP, chkP exN exQ] = 0 := by kernel_rfl
theorem exSame : sameN exN exP exQ = false := by kernel_rfl
theorem exAhead : aheadN exN exP exQ = none := by kernel_rfl
theorem exExits : (exitsN exN exP).1 = [⟨3, 5⟩] := by kernel_rfl
theorem exEntries : (entriesN exN exQ).1 = [⟨1, 2⟩, ⟨2, 3⟩] := by kernel_rfl
def exC1 : Chc := ⟨(5 : Rat) + 2 + ((3 : Int) : Rat), [⟨1, 3, 3⟩], 3, ⟨3, 5⟩, ⟨1, 2⟩⟩
def exC2 : Chc := ⟨(5 : Rat) + 3 + ((8 : Int) : Rat), [⟨1, 3, 3⟩, ⟨2, 1, 5⟩], 8, ⟨3, 5⟩, ⟨2, 3⟩⟩
theorem exChoices : choicesN (rtN exN) (exitsN exN exP).1 (entriesN exN exQ).1 = [exC1, exC2] := by
 rw [exExits, exEntries]
 unfold choicesN
 simp only [List.flatMap_cons, List.flatMap_nil, List.append_nil]
 rw [List.filterMap_cons_some (b := exC1) (by unfold chcOf; rw [exRt31']; rfl), List.filterMap_cons_some (b := exC2) (by unfold chcOf; rw [exRt32']; rfl)]
 rfl
theorem exLeastC : leastC [exC1, exC2] = some exC1 := by kernel_rfl
theorem exBw : betweenN exN (rtN exN) exP exQ = (⟨exP, exQ, legsN exN exC1 exP exQ, exC1.len⟩, 0) := by
 unfold betweenN
 rw [if_neg (by rw [exChk]; decide), exSame, exAhead, exChoices, exLeastC]
 rfl
theorem exLegs : (legsN exN exC1 exP exQ).length = 3 := by kernel_rfl
theorem exLen : exC1.len = ((10 : Int) : Rat) := by kernel_rfl
theorem sm_of (q : Rat) (h : (decide (q.num.natAbs < 2147483648) && decide (q.den < 2147483648)) = true) : Sm q := by
 simp only [Bool.and_eq_true, decide_eq_true_eq] at h
 exact h
theorem exFit : BwFit exN (rtN exN) exP exQ where
 hp := sm_of _ (by kernel_rfl)
 hq := sm_of _ (by kernel_rfl)
 near := by
  intro r hr a b ha hb
  have h : exN.roads.all (fun r => match offsN exN r exP, offsN exN r exQ with | some a, some b => decide ((b - a).num.natAbs < 2147483648) && decide ((b - a).den < 2147483648) | _, _ => true) = true := by kernel_rfl
  have := List.all_eq_true.1 h r hr
  rw [ha, hb] at this
  exact sm_of _ this
 fit := by
  rw [exExits, exEntries]
  intro a ha b hb
  simp only [List.mem_cons, List.mem_nil_iff, or_false] at ha hb
  subst ha
  rcases hb with rfl | rfl
  ·refine ⟨sm_of _ (by kernel_rfl), sm_of _ (by kernel_rfl), sm_of _ (by kernel_rfl), fun R l h => ?_⟩
   have e : some ([⟨1, 3, 3⟩], 3) = some (R, l) := exRt31'.symm.trans h
   injection e with e
   injection e with _ e
   subst e; decide
  ·refine ⟨sm_of _ (by kernel_rfl), sm_of _ (by kernel_rfl), sm_of _ (by kernel_rfl), fun R l h => ?_⟩
   have e : some ([⟨1, 3, 3⟩, ⟨2, 1, 5⟩], 8) = some (R, l) := exRt32'.symm.trans h
   injection e with e
   injection e with _ e
   subst e; decide
 few1 := by rw [exExits]; decide
 few2 := by rw [exEntries]; decide
 lens := by
  rw [exChoices]
  intro c hc
  simp only [List.mem_cons, List.mem_nil_iff, or_false] at hc
  rcases hc with rfl | rfl
  ·exact ⟨sm_of _ (by kernel_rfl), sm_of _ (by kernel_rfl), sm_of _ (by kernel_rfl), by decide⟩
  ·exact ⟨sm_of _ (by kernel_rfl), sm_of _ (by kernel_rfl), sm_of _ (by kernel_rfl), by decide⟩
 ahead := fun l h => by rw [exAhead] at h; cases h
end Go.Proofs.YtcelpkbmcmnogaaGreatDoor
