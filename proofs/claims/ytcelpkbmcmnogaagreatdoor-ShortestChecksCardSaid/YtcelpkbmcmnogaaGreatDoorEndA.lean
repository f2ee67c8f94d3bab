/-
 Ends of a position's road, exactly: the sort, ends, Exits, Entries.
 Ways, exactly: Exits, Entries, shortest.offset, end, along.
-/
import Derived.Test.YtcelpkbmcmnogaaGreatDoorNetQ
import Derived.Test.YtcelpkbmcmnogaaGreatDoorEndLay
import Derived.Test.YtcelpkbmcmnogaaGreatDoorSrtA
import Derived.Test.YtcelpkbmcmnogaaGreatDoorJnkA
import Derived.Test.YtcelpkbmcmnogaaGreatDoorNetR
set_option linter.unusedSimpArgs false
set_option linter.unusedVariables false
namespace Go.Proofs.YtcelpkbmcmnogaaGreatDoor
open Go Go.RowKit Go.Vi Go.Sort
attribute [local go_sem ↓] lo_lt lo_ne lo_ne'
attribute [local go_sem] junk_cell junk_frozen junk_setCell junk_drew drew_junk
/-- A node with a length. -/
structure Ed where (node : Int) (len : Rat)
instance : Inhabited Ed := ⟨⟨0, 0⟩⟩
def Ed.cs (x : Ed) : List Value := [.int .i64 x.node, .bool (zs x.len.num), .string (zx x.len.num), .bool false, .string (ry x.len.den)]
abbrev Ed.v (x : Ed) : Value := .agg #[.int .i64 x.node, .bool (zs x.len.num), .string (zx x.len.num), .bool false, .string (ry x.len.den)]
def edCmp (a b : Ed) : Int := cmpI a.node b.node
theorem grown2 (w : World) (A B : Obj) : ((w.alloc A).alloc B) = Sort.grow (w.drewN 0) #[A, B] := by
 rw [Sort.alloc_eq_grow, Sort.alloc_eq_grow, Sort.grow_grow]; rfl
theorem ends1_any (a b : Ed) (w : World) : Calls Tryz.prog 93 #[a.v, b.v] w fun e w' => e = .returned (.int .i64 (edCmp a b)) ∧ ∃ q os, w' = Sort.grow (w.drewN q) os := by
 go_enter Tryz.func93, Tryz.ntmps93
 go_wp2_with fail
 refine (cmp_any _ _ _).mono ?_
 rintro e w' ⟨rfl, rfl⟩
 go_wp2_with fail
 go_ret
 exact ⟨rfl, 0, _, grown2 _ _ _⟩
theorem ltOf_ed (a b : Ed) : ltOf edCmp a b = true ↔ a.node < b.node := by
 unfold ltOf edCmp cmpI
 split
 ·simp [*]
 ·split <;> simp <;> omega
theorem ltOf_ed_false (a b : Ed) : ltOf edCmp a b = false ↔ ¬ a.node < b.node := by rw [← ltOf_ed]; simp
theorem swoEd : SWO (ltOf edCmp) where
 irrefl x := by rw [ltOf_ed_false]; omega
 trans x y z h1 h2 := by rw [ltOf_ed] at *; omega
 ntrans x y z h1 h2 := by rw [ltOf_ed_false] at *; omega
theorem aggEd (w : World) : (isAgg 83).run Tryz.prog w = .ok true w := by kernel_rfl
theorem sizeEd (w : World) : (Go.sizeOf 83).run Tryz.prog w = .ok 5 w := by kernel_rfl
theorem edLays (blk off size : Nat) (w : World) : CmpLays Tryz.prog 93 #[] Ed.cs 5 edCmp blk off size w :=
 fun _ _ _ _ x y => ends1_any x y _
theorem sortEnds_any (L : List Ed) {B e m g cap : Nat} (w : World) (h : Ow B w e 5 (.slice (some ⟨g, 0, none⟩) m cap) (L.map Ed.cs)) (hL : L.length < 4611686018427387904) :
  Calls Tryz.prog 92 #[.slice (some ⟨g, 0, none⟩) m cap, .func (.func 93) #[] #[]] w fun e' w' => e' = .returned (.tuple #[]) ∧ ∃ L' : List Ed, L'.Perm L ∧ L'.Pairwise (fun a b => ¬ b.node < a.node) ∧ Ow B w' e 5 (.slice (some ⟨g, 0, none⟩) m cap) (L'.map Ed.cs) ∧ w.grownBy w' (some g) := by
 have hm : m = L.length := by
  rcases h.shape with ⟨h1, _⟩ | ⟨g', cap', h1, _⟩
  ·cases h1
  ·injection h1 with _ h2 _; simpa using h2
 subst hm
 have eg : ∀ args w, (callFunc 93 args).run Tryz.prog w = .ok (.enter 93 args) w := enters_of Tryz.func93 (by kernel_rfl) rfl
 have hcon := AnyQ.slices_SortFunc Tryz.sortEnd 5 aggEd sizeEd Ed.cs (fun _ => rfl) (fun x v hv => by simp [Ed.cs] at hv; rcases hv with rfl | rfl | rfl | rfl | rfl <;> rfl) edCmp swoEd 93 #[] g 0 cap L.toArray w eg (edLays g 0 L.toArray.size w) (holdsK_of (enc := Ed.cs) (k := 5) (fun _ => rfl) h) (h.blk g rfl).2 (by simpa using hL)
 rw [List.size_toArray] at hcon
 change Calls Tryz.prog 92 _ _ _ at hcon
 refine hcon.mono ?_
 rintro e' w' ⟨rfl, d', n, os, hp, hs, rfl⟩
 have hsz : d'.size = L.length := by simpa using hp.1
 refine ⟨rfl, d'.toList, ?_, ?_, h.sorted (enc := Ed.cs) (k := 5) (fun _ => rfl) n d' os hsz, grownBy_sortK _ _ _ _ _ _ _⟩
 ·have := hp.2.2
  rw [show d'.extract 0 L.length = d' from by rw [← hsz]; simp] at this
  simpa using this
 ·rw [List.pairwise_iff_getElem]
  intro i j hi hj hij
  have := hs i j (Nat.zero_le _) hij (by simpa [hsz] using hj)
  rw [ltOf_ed_false] at this
  simp at hi hj
  simpa [hi, hj] using this
/-- At most two ends in order. -/
def srtE (l : List Ed) : List Ed := match l with
 | [a, b] => if b.node < a.node then [b, a] else [a, b]
 | l => l
theorem srtE_of {l L' : List Ed} (hl : l = [] ∨ (∃ a, l = [a]) ∨ ∃ a b, l = [a, b] ∧ a.node ≠ b.node) (hp : L'.Perm l) (hs : L'.Pairwise (fun a b => ¬ b.node < a.node)) : L' = srtE l := by
 rcases hl with rfl | ⟨a, rfl⟩ | ⟨a, b, rfl, hn⟩
 ·exact List.perm_nil.1 hp
 ·exact List.perm_singleton.1 hp
 ·unfold srtE
  have hlen := hp.length_eq
  match L', hlen with
  | [x, y], _ =>
   have hx : x = a ∨ x = b := by
    have := hp.mem_iff.1 (List.mem_cons_self : x ∈ [x, y])
    simpa using this
   rw [List.pairwise_cons] at hs
   have hxy := hs.1 y (by simp)
   rcases hx with rfl | rfl
   ·have h2 := List.perm_singleton.1 ((List.perm_cons x).1 hp)
    injection h2 with h2
    subst h2
    exact (if_neg hxy).symm
   ·have hp2 : [x, y].Perm [x, a] := hp.trans (List.Perm.swap x a [])
    have h2 := List.perm_singleton.1 ((List.perm_cons x).1 hp2)
    injection h2 with h2
    subst h2
    exact (if_pos (by omega)).symm
/-- The ends of a position's road, with the lengths. -/
def endsN (n : Net) (p : Plc) (bf bt : Bool) : List Ed × Int := if chkP n p = 0 then match nodeAtN n p with
 | some x => ([⟨x, 0⟩], 0)
 | none => (srtE ((if bf then [⟨((roadOf n.roads p.road).getD rd0).src, p.off⟩] else []) ++ (if bt then [⟨((roadOf n.roads p.road).getD rd0).dst, (((roadOf n.roads p.road).getD rd0).len : Rat) - p.off⟩] else [])), 0)
 else ([], chkP n p)
def EndsOut (L : List Ed) (c : Int) (w : World) (e : Ending) (w' : World) : Prop := ∃ v, e = .returned (.tuple #[v, .int .i64 c]) ∧ Ow w.heap.size w' 83 5 v (L.map Ed.cs) ∧ Below w.heap.size w w'
theorem own_row {B b : Nat} {w : World} {e k : Nat} {x : List Value} (hx : x.length = k) (hb : w.heap[b]? = some (.cells x.toArray e (0, 0))) (hB : B ≤ b) : Ow B w e k (.slice (some ⟨b, 0, none⟩) 1 1) [x] :=
 ⟨⟨by simp [hx], .inr ⟨b, 1, _, rfl, hB, hb, Nat.le_refl _, by unfold maxLen; omega, by simp [hx], by simp [← hx]⟩⟩, fun r hr => by simp at hr; subst hr; exact hx⟩
theorem uEnd : Tryz.prog.underlying 77 = some (.slice 83) := by kernel_rfl
theorem iEnd : (Tryz.prog.info? 83).map (fun i => (i.zero, i.size, i.bytes)) = some (some (.agg #[.int .i64 0, .bool false, .string ⟨#[]⟩, .bool false, .string ⟨#[]⟩]), 5, 56) := by kernel_rfl
theorem ed_cell1 (x : Ed) : ∀ u ∈ x.cs, u.oneCell' = true := by
 intro u hu
 simp only [Ed.cs, List.mem_cons, List.mem_nil_iff, or_false] at hu
 rcases hu with h | h | h | h | h <;> rw [h] <;> rfl
theorem bj {W W' w5 : World} [h : Bw W W'] (hb : Below W.heap.size W' w5) : ∃ U, w5 = W.junk U := below_some (h.b.trans hb)
theorem bjg {W W' w7 : World} {g : Nat} [h : Bw W W'] (hg : W'.grownBy w7 (some g)) (hge : W.heap.size ≤ g) : ∃ U, w7 = W.junk U :=
 below_some (h.b.grown hg h.b.size (fun k hk => by injection hk with hk; rw [← hk]; exact hge))
theorem ed_zero (x : Int) : (⟨x, 0⟩ : Ed).cs = [.int .i64 x, .bool false, .string ⟨#[]⟩, .bool false, .string ⟨#[]⟩] := by
 unfold Ed.cs
 rw [show zs (0 : Rat).num = false from rfl, show zx (0 : Rat).num = ⟨#[]⟩ from magS_zero, show ry (0 : Rat).den = ⟨#[]⟩ from ry_nil rfl]
set_option maxRecDepth 100000 in
set_option maxHeartbeats 1000000 in
theorem ends_q (n : Net) (v1 v2 : Value) (p : Plc) (bf bt : Bool) (w : World) (hff : bf = true ∨ bt = true) (hN : NetAt w.heap.size w v1 v2 n) (hK : NetOK n) (hp : Sm p.off) :
  Calls Tryz.prog 52 #[.agg #[v1, v2], p.v, .bool bf, .bool bt] w (EndsOut (endsN n p bf bt).1 (endsN n p bf bt).2 w) := by
 have HC := chk_bw hN hK p hp
 have HD := node_bw hN hK p hp
 have HR := road_bw hN hK p.road
 have hv := chk_vals n p
 obtain ⟨i0, hi, hz0, hz1, hz2⟩ := info_parts iEnd
 unfold endsN
 by_cases h0 : chkP n p = 0
 ·rw [h0] at HC
  rw [if_pos h0]
  cases hx : nodeAtN n p with
  | some x =>
   rw [hx] at HD
   simp only
   unfold Plc.v at HC HD ⊢
   clear h0 hv hN hK hx HR
   go_enter Tryz.func52, Tryz.ntmps52
   go_wp2_with fail
   refine (jk (HC.out _)).mono ?_
   rintro e _ ⟨rfl, X, rfl⟩
   go_wp2_with fail
   refine (jk (HD.out _)).mono ?_
   rintro e _ ⟨rfl, Y, rfl⟩
   go_wp2_with fail
   go_ret2
   exact ⟨_, rfl, own_row (by rfl) (by rw [ed_zero]; exact obj_last _ _) Bw.b.size, Bw.b⟩
  | none =>
   rw [hx] at HD
   obtain ⟨r, hr⟩ := chk_road h0
   rw [hr] at HR
   simp only [hr, Option.getD_some, Option.isSome_some] at HR ⊢
   have hl := hK.len r (road_in hr)
   have hne : r.src ≠ r.dst := (roadErr_zero (hK.road r (road_in hr)).2).2.2.2
   have HF := Lib.hid (fun w' => fromInt_q r.len w' (by omega))
   have HS := Lib.hid (fun w' => sub_q (r.len : Rat) p.off w' (sm_int (by omega)) hp)
   generalize (r.len : Rat) = lq at HF HS ⊢
   generalize hlo : lq - p.off = lo at HS ⊢
   have HNE := Lib.hid hne
   unfold Plc.v at HC HD ⊢
   simp only [rV] at HF HS
   clear h0 hv hN hK hx hr hl hp hlo hne
   cases bf <;> cases bt
   ·simp at hff
   ·simp only [Bool.false_eq_true, if_false, if_true, List.nil_append]
    clear hff
    go_enter Tryz.func52, Tryz.ntmps52
    go_wp2_with fail
    refine (jk (HC.out _)).mono ?_
    rintro e _ ⟨rfl, X, rfl⟩
    go_wp2_with fail
    refine (jk (HD.out _)).mono ?_
    rintro e _ ⟨rfl, Y, rfl⟩
    go_wp2_with fail
    refine (jk (HR.out _)).mono ?_
    rintro e _ ⟨rfl, Z, rfl⟩
    go_wp2_with fail
    refine wp_jtail1 (Operand.tmp 15) 10 rfl rfl (by kernel_rfl) (by decide) (by kernel_rfl) (by kernel_rfl) (fun _ _ _ h => h) rfl ?_
    simp only [List.take_succ_cons, List.take_zero, List.drop_succ_cons, List.drop_zero, Act.put, List.setIfInBounds_toArray, List.set_cons_zero, List.set_cons_succ, Act.eval, Array.getD_eq_getD_getElem?, List.getElem?_toArray, List.getElem?_cons_succ, List.getElem?_cons_zero, Option.getD_some]
    repeat (go_big_quiet_step (first | (first | (with_reducible exact jq (HF.out _)) | (with_reducible exact jq (HS.out _))) | fail))
    refine wpQuiet_nil ?_
    rintro _ ⟨V, rfl⟩
    go_wp2_with (at_builtin; refine ap1 (by rfl) _ _ _ (by rfl) uEnd hi hz0 hz1 hz2 rfl (by decide) (fun _ => rfl) (base := ((((((w.alloc (.cells #[v1, v2] 36)).alloc (.cells #[.int .i64 p.road, .bool (zs p.off.num), .string (zx p.off.num), .bool false, .string (ry p.off.den)] 43)).junk X).junk Y).junk Z).alloc (.cells #[.int .i64 r.id, .int .i64 r.src, .int .i64 r.dst, .int .i64 r.len, .int .i64 r.lim, .bool r.one] 53)).heap.size) (cs := Ed.cs) (L := []) (Ow.nil _ _ _ _) (by rfl) ⟨r.dst, lo⟩ _ (by rfl) (obj_last _ _) (ed_cell1 _) (by decide) (by decide) Bw.b.size ?_; intro g cap w5 own5 hb5 hg5 hl5 hc5 hm5; obtain ⟨U, rfl⟩ := bj (W := ((((((w.alloc (.cells #[v1, v2] 36)).alloc (.cells #[.int .i64 p.road, .bool (zs p.off.num), .string (zx p.off.num), .bool false, .string (ry p.off.den)] 43)).junk X).junk Y).junk Z).alloc (.cells #[.int .i64 r.id, .int .i64 r.src, .int .i64 r.dst, .int .i64 r.len, .int .i64 r.lim, .bool r.one] 53))) hb5; clear hb5)
    refine (sortEnds_any _ _ own5 (by simp)).mono ?_
    rintro e w7 ⟨rfl, L', hp7, hs7, own7, hg7⟩
    obtain ⟨U7, rfl⟩ := bjg (W := ((((((w.alloc (.cells #[v1, v2] 36)).alloc (.cells #[.int .i64 p.road, .bool (zs p.off.num), .string (zx p.off.num), .bool false, .string (ry p.off.den)] 43)).junk X).junk Y).junk Z).alloc (.cells #[.int .i64 r.id, .int .i64 r.src, .int .i64 r.dst, .int .i64 r.len, .int .i64 r.lim, .bool r.one] 53))) hg7 hg5
    obtain rfl := srtE_of (.inr (.inl ⟨_, rfl⟩)) hp7 hs7
    clear hp7 hs7 hg7
    go_wp2_with fail
    go_ret2
    exact ⟨_, rfl, own7.mono Bw.b.size, Bw.b⟩
   ·simp only [Bool.false_eq_true, if_false, if_true, List.append_nil]
    clear hff
    go_enter Tryz.func52, Tryz.ntmps52
    go_wp2_with fail
    refine (jk (HC.out _)).mono ?_
    rintro e _ ⟨rfl, X, rfl⟩
    go_wp2_with fail
    refine (jk (HD.out _)).mono ?_
    rintro e _ ⟨rfl, Y, rfl⟩
    go_wp2_with fail
    refine (jk (HR.out _)).mono ?_
    rintro e _ ⟨rfl, Z, rfl⟩
    go_wp2_with (at_builtin; refine ap1 (by rfl) _ _ _ (by rfl) uEnd hi hz0 hz1 hz2 rfl (by decide) (fun _ => rfl) (base := ((((((w.alloc (.cells #[v1, v2] 36)).alloc (.cells #[.int .i64 p.road, .bool (zs p.off.num), .string (zx p.off.num), .bool false, .string (ry p.off.den)] 43)).junk X).junk Y).junk Z).alloc (.cells #[.int .i64 r.id, .int .i64 r.src, .int .i64 r.dst, .int .i64 r.len, .int .i64 r.lim, .bool r.one] 53)).heap.size) (cs := Ed.cs) (L := []) (Ow.nil _ _ _ _) (by rfl) ⟨r.src, p.off⟩ _ (by rfl) (obj_last2 _ _ _) (ed_cell1 _) (by decide) (by decide) Bw.b.size ?_; intro g cap w5 own5 hb5 hg5 hl5 hc5 hm5; obtain ⟨U, rfl⟩ := bj (W := ((((((w.alloc (.cells #[v1, v2] 36)).alloc (.cells #[.int .i64 p.road, .bool (zs p.off.num), .string (zx p.off.num), .bool false, .string (ry p.off.den)] 43)).junk X).junk Y).junk Z).alloc (.cells #[.int .i64 r.id, .int .i64 r.src, .int .i64 r.dst, .int .i64 r.len, .int .i64 r.lim, .bool r.one] 53))) hb5; clear hb5)
    refine (sortEnds_any _ _ own5 (by simp)).mono ?_
    rintro e w7 ⟨rfl, L', hp7, hs7, own7, hg7⟩
    obtain ⟨U7, rfl⟩ := bjg (W := ((((((w.alloc (.cells #[v1, v2] 36)).alloc (.cells #[.int .i64 p.road, .bool (zs p.off.num), .string (zx p.off.num), .bool false, .string (ry p.off.den)] 43)).junk X).junk Y).junk Z).alloc (.cells #[.int .i64 r.id, .int .i64 r.src, .int .i64 r.dst, .int .i64 r.len, .int .i64 r.lim, .bool r.one] 53))) hg7 hg5
    obtain rfl := srtE_of (.inr (.inl ⟨_, rfl⟩)) hp7 hs7
    clear hp7 hs7 hg7
    go_wp2_with fail
    go_ret2
    exact ⟨_, rfl, own7.mono Bw.b.size, Bw.b⟩
   ·simp only [if_true]
    clear hff
    go_enter Tryz.func52, Tryz.ntmps52
    go_wp2_with fail
    refine (jk (HC.out _)).mono ?_
    rintro e _ ⟨rfl, X, rfl⟩
    go_wp2_with fail
    refine (jk (HD.out _)).mono ?_
    rintro e _ ⟨rfl, Y, rfl⟩
    go_wp2_with fail
    refine (jk (HR.out _)).mono ?_
    rintro e _ ⟨rfl, Z, rfl⟩
    go_wp2_with (at_builtin; refine ap1 (by rfl) _ _ _ (by rfl) uEnd hi hz0 hz1 hz2 rfl (by decide) (fun _ => rfl) (base := ((((((w.alloc (.cells #[v1, v2] 36)).alloc (.cells #[.int .i64 p.road, .bool (zs p.off.num), .string (zx p.off.num), .bool false, .string (ry p.off.den)] 43)).junk X).junk Y).junk Z).alloc (.cells #[.int .i64 r.id, .int .i64 r.src, .int .i64 r.dst, .int .i64 r.len, .int .i64 r.lim, .bool r.one] 53)).heap.size) (cs := Ed.cs) (L := []) (Ow.nil _ _ _ _) (by rfl) ⟨r.src, p.off⟩ _ (by rfl) (obj_last2 _ _ _) (ed_cell1 _) (by decide) (by decide) Bw.b.size ?_; intro g cap w5 own5 hb5 hg5 hl5 hc5 hm5; obtain ⟨U, rfl⟩ := bj (W := ((((((w.alloc (.cells #[v1, v2] 36)).alloc (.cells #[.int .i64 p.road, .bool (zs p.off.num), .string (zx p.off.num), .bool false, .string (ry p.off.den)] 43)).junk X).junk Y).junk Z).alloc (.cells #[.int .i64 r.id, .int .i64 r.src, .int .i64 r.dst, .int .i64 r.len, .int .i64 r.lim, .bool r.one] 53))) hb5; clear hb5)
    refine wp_jtail1 (Operand.tmp 15) 10 rfl rfl (by kernel_rfl) (by decide) (by kernel_rfl) (by kernel_rfl) (fun _ _ _ h => h) rfl ?_
    simp only [List.take_succ_cons, List.take_zero, List.drop_succ_cons, List.drop_zero, Act.put, List.setIfInBounds_toArray, List.set_cons_zero, List.set_cons_succ, Act.eval, Array.getD_eq_getD_getElem?, List.getElem?_toArray, List.getElem?_cons_succ, List.getElem?_cons_zero, Option.getD_some]
    repeat (go_big_quiet_step (first | (first | (with_reducible exact jq (HF.out _)) | (with_reducible exact jq (HS.out _))) | fail))
    refine wpQuiet_nil ?_
    rintro _ ⟨V, rfl⟩
    have own6 := own5.keep (junk_below _ V)
    clear own5
    go_wp2_with (at_builtin; refine ap1 (by rfl) _ _ _ (by rfl) uEnd hi hz0 hz1 hz2 rfl (by decide) (fun _ => rfl) (base := ((((((w.alloc (.cells #[v1, v2] 36)).alloc (.cells #[.int .i64 p.road, .bool (zs p.off.num), .string (zx p.off.num), .bool false, .string (ry p.off.den)] 43)).junk X).junk Y).junk Z).alloc (.cells #[.int .i64 r.id, .int .i64 r.src, .int .i64 r.dst, .int .i64 r.len, .int .i64 r.lim, .bool r.one] 53)).heap.size) (cs := Ed.cs) (L := [⟨r.src, p.off⟩]) (own6.keep Bw.b) (by rfl) ⟨r.dst, lo⟩ _ (by rfl) (obj_last _ _) (ed_cell1 _) (by simp) (by decide) Bw.b.size ?_; intro g6 cap6 w6 own8 hb6 hg6 hl6 hc6 hm6; obtain ⟨U6, rfl⟩ := bj (W := ((((((w.alloc (.cells #[v1, v2] 36)).alloc (.cells #[.int .i64 p.road, .bool (zs p.off.num), .string (zx p.off.num), .bool false, .string (ry p.off.den)] 43)).junk X).junk Y).junk Z).alloc (.cells #[.int .i64 r.id, .int .i64 r.src, .int .i64 r.dst, .int .i64 r.len, .int .i64 r.lim, .bool r.one] 53))) hb6; clear hb6 own6)
    refine (sortEnds_any _ _ own8 (by simp)).mono ?_
    rintro e w7 ⟨rfl, L', hp7, hs7, own7, hg7⟩
    obtain ⟨U7, rfl⟩ := bjg (W := ((((((w.alloc (.cells #[v1, v2] 36)).alloc (.cells #[.int .i64 p.road, .bool (zs p.off.num), .string (zx p.off.num), .bool false, .string (ry p.off.den)] 43)).junk X).junk Y).junk Z).alloc (.cells #[.int .i64 r.id, .int .i64 r.src, .int .i64 r.dst, .int .i64 r.len, .int .i64 r.lim, .bool r.one] 53))) hg7 hg6
    obtain rfl := srtE_of (.inr (.inr ⟨_, _, rfl, HNE.out⟩)) hp7 hs7
    clear hp7 hs7 hg7
    go_wp2_with fail
    go_ret2
    exact ⟨_, rfl, own7.mono Bw.b.size, Bw.b⟩
 ·have hv2 : chkP n p = 2 ∨ chkP n p = 9 := hv.resolve_left h0
  rw [if_neg h0]
  unfold Plc.v at HC ⊢
  generalize chkP n p = c at *
  clear h0 hv hN hK HD HR
  rcases hv2 with rfl | rfl
  all_goals
   go_enter Tryz.func52, Tryz.ntmps52
   go_wp2_with fail
   refine (jk (HC.out _)).mono ?_
   rintro e _ ⟨rfl, X, rfl⟩
   go_wp2_with fail
   go_ret2
   exact ⟨_, rfl, Ow.nil _ _ _ _, Bw.b⟩
end Go.Proofs.YtcelpkbmcmnogaaGreatDoor
namespace Go.Proofs.YtcelpkbmcmnogaaGreatDoor
open Go Go.RowKit Go.Vi
attribute [local go_sem ↓] lo_lt lo_ne lo_ne'
attribute [local go_sem] junk_cell junk_frozen junk_setCell junk_drew drew_junk
attribute [local go_sem high] eqR_run eqG_run eqP_run
theorem EndsOut.junk {L : List Ed} {c : Int} {w : World} {e : Ending} {w' : World} (h : EndsOut L c w e w') : ∃ v X, e = .returned (.tuple #[v, .int .i64 c]) ∧ w' = w.junk X ∧ Ow w.heap.size (w.junk X) 83 5 v (L.map Ed.cs) := by
 obtain ⟨v, he, ho, hb⟩ := h
 obtain ⟨X, rfl⟩ := below_some hb
 exact ⟨v, X, he, rfl, ho⟩
def exitsN (n : Net) (p : Plc) : List Ed × Int := endsN n p (!((roadOf n.roads p.road).getD rd0).one) true
def entriesN (n : Net) (p : Plc) : List Ed × Int := endsN n p true (!((roadOf n.roads p.road).getD rd0).one)
theorem exits_q (n : Net) (v1 v2 : Value) (p : Plc) (w : World) (hN : NetAt w.heap.size w v1 v2 n) (hK : NetOK n) (hp : Sm p.off) :
  Calls Tryz.prog 18 #[.agg #[v1, v2], p.v] w (EndsOut (exitsN n p).1 (exitsN n p).2 w) := by
 have HR := road_bw hN hK p.road
 unfold exitsN
 generalize (roadOf n.roads p.road).getD rd0 = r at *
 generalize (roadOf n.roads p.road).isSome = is at *
 have HE : Hid (∀ (w' : World) [Bw w w'], Calls Tryz.prog 52 #[.agg #[v1, v2], p.v, .bool (!r.one), .bool true] w' (EndsOut (endsN n p (!r.one) true).1 (endsN n p (!r.one) true).2 w')) := Lib.hid (fun w' _ => ends_q n v1 v2 p _ _ w' (.inr rfl) (later_bw hN) hK hp)
 generalize (endsN n p (!r.one) true).1 = L at *
 generalize (endsN n p (!r.one) true).2 = c at *
 unfold Plc.v at HE ⊢
 clear hN hK hp
 go_enter Tryz.func18, Tryz.ntmps18
 go_wp2_with fail
 refine (jk (HR.out _)).mono ?_
 rintro e _ ⟨rfl, X, rfl⟩
 go_wp2_with fail
 refine (HE.out _).mono ?_
 rintro e w2 h2
 obtain ⟨v, Y, rfl, rfl, ho⟩ := h2.junk
 have HO := Lib.hid ho
 clear h2 ho
 go_wp2_with fail
 go_ret2
 exact ⟨v, rfl, HO.out.mono Bw.b.size, Bw.b⟩
theorem entries_q (n : Net) (v1 v2 : Value) (p : Plc) (w : World) (hN : NetAt w.heap.size w v1 v2 n) (hK : NetOK n) (hp : Sm p.off) :
  Calls Tryz.prog 19 #[.agg #[v1, v2], p.v] w (EndsOut (entriesN n p).1 (entriesN n p).2 w) := by
 have HR := road_bw hN hK p.road
 unfold entriesN
 generalize (roadOf n.roads p.road).getD rd0 = r at *
 generalize (roadOf n.roads p.road).isSome = is at *
 have HE : Hid (∀ (w' : World) [Bw w w'], Calls Tryz.prog 52 #[.agg #[v1, v2], p.v, .bool true, .bool (!r.one)] w' (EndsOut (endsN n p true (!r.one)).1 (endsN n p true (!r.one)).2 w')) := Lib.hid (fun w' _ => ends_q n v1 v2 p _ _ w' (.inl rfl) (later_bw hN) hK hp)
 generalize (endsN n p true (!r.one)).1 = L at *
 generalize (endsN n p true (!r.one)).2 = c at *
 unfold Plc.v at HE ⊢
 clear hN hK hp
 go_enter Tryz.func19, Tryz.ntmps19
 go_wp2_with fail
 refine (jk (HR.out _)).mono ?_
 rintro e _ ⟨rfl, X, rfl⟩
 go_wp2_with fail
 refine (HE.out _).mono ?_
 rintro e w2 h2
 obtain ⟨v, Y, rfl, rfl, ho⟩ := h2.junk
 have HO := Lib.hid ho
 clear h2 ho
 go_wp2_with fail
 go_ret2
 exact ⟨v, rfl, HO.out.mono Bw.b.size, Bw.b⟩
theorem offS_q (n : Net) (v1 v2 : Value) (r : Rd) (p : Plc) (w : World) (hN : NetAt w.heap.size w v1 v2 n) (hK : NetOK n) (hp : Sm p.off) (hr : 1 ≤ r.len ∧ r.len ≤ 1073741824) :
  Calls Tryz.prog 88 #[.agg #[v1, v2], p.v, r.v] w fun e w' => e = .returned (.tuple #[rV ((offsN n r p).getD 0), .bool (offsN n r p).isSome]) ∧ Below w.heap.size w w' := by
 have HD := node_bw hN hK p hp
 unfold offsN
 by_cases hi : p.road = r.id
 ·have hb : (p.road == r.id) = true := by simpa using hi
  rw [if_pos hi]
  simp only [Option.getD_some, Option.isSome_some]
  unfold Plc.v rV
  clear hi HD hN hK hr
  go_enter Tryz.func88, Tryz.ntmps88
  go_wp2_with fail
  exact bodyPost_ret (v := .tuple #[.agg #[.bool (zs p.off.num), .string (zx p.off.num), .bool false, .string (ry p.off.den)], .bool true]) (by simp [results, Tryz.results88, go_sem]) rfl ⟨rfl, Bw.b⟩
 ·have hb : (p.road == r.id) = false := by simpa using hi
  rw [if_neg hi]
  cases hx : nodeAtN n p with
  | none =>
   rw [hx] at HD
   simp only [Option.getD_none, Option.isSome_none, zero_v]
   unfold Plc.v at HD ⊢
   clear hi hN hK hr hx
   go_enter Tryz.func88, Tryz.ntmps88
   go_wp2_with fail
   refine (jk (HD.out _)).mono ?_
   rintro e _ ⟨rfl, X, rfl⟩
   go_wp2_with fail
   exact bodyPost_ret (v := .tuple #[.agg #[.bool false, .string ⟨#[]⟩, .bool false, .string ⟨#[]⟩], .bool false]) (by simp [results, Tryz.results88, go_sem]) rfl ⟨rfl, Bw.b⟩
  | some x =>
   rw [hx] at HD
   simp only [Option.getD_some, Option.isSome_some] at HD ⊢
   have HF := Lib.hid (fun w' => fromInt_q r.len w' (by omega))
   unfold offR
   generalize (r.len : Rat) = lq at *
   have hc : ((x == r.src) = true ∧ (r.src = x ∨ r.dst = x) ∧ r.src = x) ∨ ((x == r.src) = false ∧ (x == r.dst) = true ∧ (r.src = x ∨ r.dst = x) ∧ ¬ r.src = x) ∨ ((x == r.src) = false ∧ (x == r.dst) = false ∧ ¬(r.src = x ∨ r.dst = x)) := by
    by_cases h1 : r.src = x
    ·subst h1; simp
    ·by_cases h2 : r.dst = x
     ·subst h2
      right; left
      exact ⟨by simpa using fun h => h1 h.symm, by simp, .inr rfl, h1⟩
     ·right; right
      exact ⟨by simpa using fun h => h1 h.symm, by simpa using fun h => h2 h.symm, fun h => h.elim h1 h2⟩
   unfold Plc.v at HD ⊢
   clear hi hN hK hr hx
   rcases hc with ⟨h1, h, h3⟩ | ⟨h1, h2, h, h3⟩ | ⟨h1, h2, h⟩
   ·simp only [if_pos h, if_pos h3, Option.getD_some, Option.isSome_some, zero_v]
    clear h h3 HF
    go_enter Tryz.func88, Tryz.ntmps88
    go_wp2_with fail
    refine (jk (HD.out _)).mono ?_
    rintro e _ ⟨rfl, X, rfl⟩
    go_wp2_with fail
    exact bodyPost_ret (v := .tuple #[.agg #[.bool false, .string ⟨#[]⟩, .bool false, .string ⟨#[]⟩], .bool true]) (by simp [results, Tryz.results88, go_sem]) rfl ⟨rfl, Bw.b⟩
   ·simp only [if_pos h, if_neg h3, Option.getD_some, Option.isSome_some]
    unfold rV at HF ⊢
    clear h h3
    go_enter Tryz.func88, Tryz.ntmps88
    go_wp2_with fail
    refine (jk (HD.out _)).mono ?_
    rintro e _ ⟨rfl, X, rfl⟩
    go_wp2_with fail
    refine (jk (HF.out _)).mono ?_
    rintro e _ ⟨rfl, Y, rfl⟩
    go_wp2_with fail
    exact bodyPost_ret (v := .tuple #[.agg #[.bool (zs lq.num), .string (zx lq.num), .bool false, .string (ry lq.den)], .bool true]) (by simp [results, Tryz.results88, go_sem]) rfl ⟨rfl, Bw.b⟩
   ·simp only [if_neg h, Option.getD_none, Option.isSome_none, zero_v]
    clear h HF
    go_enter Tryz.func88, Tryz.ntmps88
    go_wp2_with fail
    refine (jk (HD.out _)).mono ?_
    rintro e _ ⟨rfl, X, rfl⟩
    go_wp2_with fail
    exact bodyPost_ret (v := .tuple #[.agg #[.bool false, .string ⟨#[]⟩, .bool false, .string ⟨#[]⟩], .bool false]) (by simp [results, Tryz.results88, go_sem]) rfl ⟨rfl, Bw.b⟩
theorem offS_bw {n : Net} {v1 v2 : Value} {w : World} (hN : NetAt w.heap.size w v1 v2 n) (hK : NetOK n) (r : Rd) (p : Plc) (hp : Sm p.off) (hr : 1 ≤ r.len ∧ r.len ≤ 1073741824) : Hid (∀ (w' : World) [Bw w w'], Calls Tryz.prog 88 #[.agg #[v1, v2], p.v, r.v] w' fun e w2 => e = .returned (.tuple #[rV ((offsN n r p).getD 0), .bool (offsN n r p).isSome]) ∧ Below w'.heap.size w' w2) :=
 Lib.hid (fun w' _ => offS_q n v1 v2 r p w' (later_bw hN) hK hp hr)
/-- The offset of a node at an end of a road, by the road's id. -/
theorem end_q (n : Net) (v1 v2 : Value) (id x : Int) (w : World) (hN : NetAt w.heap.size w v1 v2 n) (hK : NetOK n) :
  Calls Tryz.prog 90 #[.agg #[v1, v2], .int .i64 id, .int .i64 x] w fun e w' => e = .returned (rV (offR ((roadOf n.roads id).getD rd0) x)) ∧ Below w.heap.size w w' := by
 have HR := road_bw hN hK id
 have hl := rd_len hK id
 generalize (roadOf n.roads id).getD rd0 = r at *
 generalize (roadOf n.roads id).isSome = is at *
 have HF := Lib.hid (fun w' => fromInt_q r.len w' (by omega))
 unfold offR
 by_cases hx : r.src = x
 ·rw [if_pos hx, zero_v]
  have hb : (r.src == x) = true := by simpa using hx
  clear hx HF hN hK hl
  go_enter Tryz.func90, Tryz.ntmps90
  go_wp2_with fail
  refine (jk (HR.out _)).mono ?_
  rintro e _ ⟨rfl, X, rfl⟩
  go_wp2_with fail
  exact bodyPost_ret (v := .agg #[.bool false, .string ⟨#[]⟩, .bool false, .string ⟨#[]⟩]) (by simp [results, Tryz.results90, go_sem]) rfl ⟨rfl, Bw.b⟩
 ·rw [if_neg hx]
  have hb : (r.src == x) = false := by simpa using hx
  generalize (r.len : Rat) = q at HF ⊢
  simp only [rV] at HF ⊢
  clear hx hN hK hl
  go_enter Tryz.func90, Tryz.ntmps90
  go_wp2_with fail
  refine (jk (HR.out _)).mono ?_
  rintro e _ ⟨rfl, X, rfl⟩
  go_wp2_with fail
  refine (jk (HF.out _)).mono ?_
  rintro e _ ⟨rfl, Y, rfl⟩
  go_wp2_with fail
  exact bodyPost_ret (v := .agg #[.bool (zs q.num), .string (zx q.num), .bool false, .string (ry q.den)]) (by simp [results, Tryz.results90, go_sem]) rfl ⟨rfl, Bw.b⟩
end Go.Proofs.YtcelpkbmcmnogaaGreatDoor
