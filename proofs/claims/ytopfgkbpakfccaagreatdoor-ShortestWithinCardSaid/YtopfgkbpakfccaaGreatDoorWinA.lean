/-
  shortest.Within, walked.
-/
import Derived.Test.YtopfgkbpakfccaaGreatDoorSoiA
set_option linter.unusedSimpArgs false
set_option linter.unusedVariables false
namespace Go.Proofs.YtopfgkbpakfccaaGreatDoor
open Go Go.RowKit Go.Vi
attribute [local go_sem ↓] lo_lt lo_ne lo_ne'
attribute [local go_sem] junk_cell junk_frozen junk_setCell junk_drew drew_junk
theorem nodup_le {l m : List Int} (h : l.Nodup) (hs : ∀ x ∈ l, x ∈ m) : l.length ≤ m.length := by
  induction l generalizing m with
  | nil => simp
  | cons x l ih =>
    obtain ⟨h1, h2⟩ := List.nodup_cons.1 h
    have hx := hs x (by simp)
    have := ih (m := m.erase x) h2 (fun y hy => by
      have hyx : y ≠ x := fun e => h1 (e ▸ hy)
      exact (List.mem_erase_of_ne hyx).2 (hs y (by simp [hy])))
    rw [List.length_erase_of_mem hx] at this
    have h3 : 0 < m.length := List.length_pos_of_mem hx
    simp only [List.length_cons]
    omega
def winL (D : List (Int × Int)) (most : Int) (seen : List Int) : List Int := seen.reverse.filter fun x => decide ((Vi.look D x).getD 0 ≤ most)
theorem winL_cons {D : List (Int × Int)} {most q d : Int} {seen : List Int} (h : Vi.look D q = some d) : winL D most (q :: seen) = if d ≤ most then winL D most seen ++ [q] else winL D most seen := by
  unfold winL
  rw [List.reverse_cons, List.filter_append]
  by_cases hd : d ≤ most
  · rw [if_pos hd]; simp [h, hd]
  · rw [if_neg hd]; simp [h, hd]
structure WinMid (B : Nat) (w : World) (D : List (Int × Int)) (most : Int) (r b : Nat) (seen : List Int) (v : Value) (wx : World) : Prop where
  it : IIter wx r b (ivI D) seen
  own : Ow B wx 3 1 v ((winL D most seen).map i1)
  nd : seen.Nodup
  sub : ∀ x ∈ seen, (Vi.look D x).isSome = true
  below : Below w.heap.size w wx
  size : B ≤ wx.heap.size
theorem ivI_mem {D : List (Int × Int)} (hn : (D.map (·.1)).Nodup) {q : Int} {v : Value} (h : (q, v) ∈ ivI D) : ∃ d, v = .int .i64 d ∧ Vi.look D q = some d := by
  obtain ⟨p, hp, e⟩ := List.mem_map.1 h
  injection e with e1 e2
  refine ⟨p.2, e2.symm, ?_⟩
  rw [← e1]
  exact mem_look hn hp
theorem ivI_keys (D : List (Int × Int)) : (ivI D).map (·.1) = D.map (·.1) := by unfold ivI; rw [List.map_map]; rfl
/-- What Within hands back. -/
def WinOut (ok : Bool) (f : Int → Option Int) (most : Int) (w : World) (e : Ending) (w' : World) : Prop := ∃ v L, e = .returned (.tuple #[v, .int .i64 (if ok then 0 else 9)]) ∧ Ow w.heap.size w' 3 1 v (L.map i1) ∧ Below w.heap.size w w' ∧ (ok = false → L = []) ∧ (ok = true → L.Pairwise (· ≤ ·) ∧ L.Nodup ∧ ∀ x, x ∈ L ↔ ∃ d, f x = some d ∧ d ≤ most)
set_option maxRecDepth 100000 in
set_option maxHeartbeats 2000000 in
theorem within_q (n : Net) (ds : Int → Int → Option Int) (hds : DsOf n ds) (s most : Int) (v1 v2 : Value) (w : World) (hN : NetAt w.heap.size w v1 v2 n) (hK : NetOK n) (hsz : n.roads.length ≤ 100) (hid : (nodeOf n.nodes s).isSome = true → ∀ x d, ds s x = some d → x ∈ idsN n) :
    Calls Tryz.prog 40 #[.agg #[v1, v2], .int .i64 s, .int .i64 most] w (WinOut (nodeOf n.nodes s).isSome (ds s) most w) := by
  have HH : Hid (∀ (w' : World) [Bw w w'], Calls Tryz.prog 42 #[.agg #[v1, v2], .int .i64 s] w' fun e w2 => e = .returned (.bool (nodeOf n.nodes s).isSome) ∧ Below w'.heap.size w' w2) := Lib.hid (fun w' _ => has_any n v1 v2 s w' (later_bw hN) hK.nodes (by have := hK.few; omega))
  have HL : Hid (∀ (w' : World) [Bw w w'], Calls Tryz.prog 43 #[.agg #[v1, v2], .int .i64 s] w' fun e w2 => (∃ b D, e = .returned (.map (some b)) ∧ w'.heap.size ≤ b ∧ IMap w2 b (ivI D) ∧ (D.map (·.1)).Nodup ∧ (∀ x, Vi.look D x = ds s x)) ∧ Below w'.heap.size w' w2) := Lib.hid (fun w' _ => (lengths_any n s v1 v2 w' (later_bw hN) hsz (fun r hr => by have := hK.len r hr; omega)).mono fun e w2 ⟨⟨b, D, h1, h2, h3, h4, _, H, h6, h7⟩, hb⟩ => ⟨⟨b, D, h1, h2, h3, h4, fun x => Option.ext fun d => by rw [h7 x d, hds H h6 s x d]⟩, hb⟩)
  have hidl : (idsN n).length ≤ 1000 := by rw [idsN_len]; have := hK.few; omega
  have HIDL := Lib.hid hidl
  have HID0 := Lib.hid hid
  obtain ⟨a1, n1, c1, rfl, _⟩ := hN.1.open
  obtain ⟨a2, n2, c2, rfl, _⟩ := hN.2.open
  obtain ⟨i0, hi, hz0, hz1, hz2⟩ := info_parts iIntT
  clear hN hK hsz hidl hid
  cases hs : (nodeOf n.nodes s).isSome with
  | false =>
    rw [hs] at HH
    clear hs
    go_enter Tryz.func40, Tryz.ntmps40
    go_wp2_with fail
    refine (jk (HH.out _)).mono ?_
    rintro e _ ⟨rfl, X, rfl⟩
    go_wp2_with fail
    refine bodyPost_ret (v := .tuple #[.slice none 0 0, .int .i64 9]) (by simp [results, Tryz.results40, go_sem]) rfl ?_
    exact ⟨_, [], rfl, Ow.nil _ _ _ _, Bw.b, fun _ => rfl, fun h => by cases h⟩
  | true =>
    have HID := Lib.hid (HID0.out hs)
    clear HID0
    rw [hs] at HH
    clear hs
    go_enter Tryz.func40, Tryz.ntmps40
    go_wp2_with fail
    refine (jk (HH.out _)).mono ?_
    rintro e _ ⟨rfl, X, rfl⟩
    go_wp2_with fail
    refine (HL.out _).mono ?_
    rintro e w2 ⟨⟨bm, D, rfl, hbm, hI, hnd, hD⟩, hb⟩
    obtain ⟨X2, rfl⟩ := below_some hb
    obtain ⟨W0, hW0⟩ : ∃ W0, W0 = (((w.alloc (.cells #[.slice a1 n1 c1, .slice a2 n2 c2] 30)).junk X).junk X2) := ⟨_, rfl⟩
    haveI bw : Bw w W0 := by rw [hW0]; infer_instance
    have HI : Hid (IMap W0 bm (ivI D)) := Lib.hid (by rw [hW0]; exact hI)
    have HD := Lib.hid hD
    have HND := Lib.hid hnd
    rw [← hW0]
    clear hW0 hI hD hb hbm HL HH hnd
    obtain ⟨o, hrng, hit⟩ := HI.out.range (P := Tryz.prog) uLens
    have hlt : bm < W0.heap.size := by obtain ⟨es, clock, h1, _⟩ := HI.out; exact obj_lt h1
    have HIT := Lib.hid hit
    clear hit
    go_wp2_with fail
    go_loopw [8] (fun s8 wx => ∃ seen v, s8 = v ∧ Hid (WinMid (W0.heap.size + 1) w D most W0.heap.size bm seen v wx)) (fun _ wx => wx.rangeLeft bm W0.heap.size)
    case atStart =>
      refine ⟨[], _, rfl, Lib.hid ⟨HIT.out, Ow.nil _ _ _ _, List.nodup_nil, (fun x hx => by cases hx), ?_, by simp⟩⟩
      exact bw.b.alloc bw.b.size _
    case round =>
      obtain ⟨seen, v, rfl, hM⟩ := hrel
      have hne : W0.heap.size ≠ bm := by omega
      obtain ⟨av, nv, cv, rfl⟩ := hM.out.own.val
      have hob := hM.out.own.blk
      have hlen : (winL D most seen).length ≤ 1000 := by
        have h1 : (winL D most seen).length ≤ seen.length := by unfold winL; have := List.length_filter_le (fun x => decide ((Vi.look D x).getD 0 ≤ most)) seen.reverse; simpa using this
        have h2 := nodup_le hM.out.nd (m := idsN n) (fun x hx => by
          have h3 := hM.out.sub x hx
          rw [HD.out] at h3
          obtain ⟨d, hd⟩ := Option.isSome_iff_exists.1 h3
          exact HID.out x d hd)
        have h4 := HIDL.out
        omega
      have HLEN := Lib.hid hlen
      have HOB := Lib.hid hob
      have hr0 := bw.b.size
      clear hlen hob
      rcases hM.out.it.next (P := Tryz.prog) hne 0 with ⟨hall, hnx⟩ | ⟨q, v', wq, hks, hkE, hnx, hit', hg', hsz'⟩
      · have HALL := Lib.hid hall
        clear hall
        go_wp2_with fail
        refine (sortInts_ow (winL D most seen) _ hM.out.own (by have := HLEN.out; omega)).mono ?_
        rintro e w5 ⟨rfl, ho, hg⟩
        have HO := Lib.hid ho
        have HG := Lib.hid hg
        clear ho hg
        go_wp2_with fail
        refine bodyPost_ret (v := .tuple #[.slice av nv cv, .int .i64 0]) (by simp [results, Tryz.results40, go_sem]) rfl ?_
        have hp := List.mergeSort_perm (winL D most seen) (fun x y => decide (x ≤ y))
        refine ⟨_, _, rfl, HO.out.mono (by omega), hM.out.below.grown HG.out hM.out.below.size (fun b hb => by have := HOB.out b hb; omega), (fun h => by cases h), fun _ => ⟨?_, ?_, fun x => ?_⟩⟩
        · have := List.pairwise_mergeSort (le := fun x y : Int => decide (x ≤ y)) (fun a b c h1 h2 => by simp at h1 h2 ⊢; omega) (fun a b => by simp; omega) (winL D most seen)
          exact this.imp (fun h => by simpa using h)
        · rw [hp.nodup_iff]
          exact List.Pairwise.filter _ (List.pairwise_reverse.2 (List.Pairwise.imp (fun h => Ne.symm h) hM.out.nd))
        · rw [hp.mem_iff]
          unfold winL
          rw [List.mem_filter, List.mem_reverse]
          constructor
          · rintro ⟨h1, h2⟩
            have h3 := hM.out.sub x h1
            obtain ⟨d, hd⟩ := Option.isSome_iff_exists.1 h3
            rw [hd] at h2
            exact ⟨d, by rw [← HD.out]; exact hd, by simpa using h2⟩
          · rintro ⟨d, h1, h2⟩
            rw [← HD.out] at h1
            refine ⟨HALL.out x ?_, by rw [h1]; simpa using h2⟩
            rw [ivI_keys]
            exact List.mem_map.2 ⟨_, look_mem h1, rfl⟩
      · obtain ⟨d, rfl, hlk⟩ := ivI_mem HND.out hkE
        have hent := hit'.entry (P := Tryz.prog) hkE
        have hcons := winL_cons (most := most) (seen := seen) hlk
        have hoq := hM.out.own.kept hg' (.inr (fun e => by have := (HOB.out _ e).1; omega))
        have HOQ := Lib.hid hoq
        have HCONS := Lib.hid hcons
        have HIT' := Lib.hid hit'
        have HG' := Lib.hid hg'
        have HLK := Lib.hid hlk
        have HKE := Lib.hid hkE
        have hbq := hM.out.below.grown hg' hM.out.below.size (fun b hb => by injection hb with hb; omega)
        have HBQ := Lib.hid hbq
        have hsq : W0.heap.size + 1 ≤ wq.heap.size := by have := hM.out.size; omega
        have hmk : q ∈ (ivI D).map (·.1) := List.mem_map.2 ⟨_, hkE, rfl⟩
        have HMK := Lib.hid hmk
        clear hit' hcons hoq hg' hlk hkE hbq hmk hsz'
        by_cases hd : d ≤ most
        · go_wp2_with (at_builtin; go_loud (refine ap2 (by rfl) _ _ _ (by rfl) uInts hi hz0 hz1 hz2 rfl (by decide) (fun _ => rfl) (base := W0.heap.size + 1) (cs := i1) (L := winL D most seen) (HOQ.out.keep Bw.b) (by rfl) q _ (by rfl) (obj_last _ _) (i1_one _) (by have := HLEN.out; omega) (by decide) (by simp; omega) ?_; intro g cap w5 own5 hb5 hgr5 hg5 hl5 hc5 hm5; have HO5 := Lib.hid own5; have HGR5 := Lib.hid hgr5; clear hb5 own5 hgr5))
          have hgrow := (grown_of (w := wq) (row := (Value.slice av nv cv).ownBlock) (Bw.b : Below wq.heap.size wq (wq.alloc (.cells #[.int .i64 q] 3)))).trans HGR5.out
          have hit5 := HIT'.out.kept hgrow (fun e => by have := (HOB.out _ e.symm).1; omega) (fun e => by have := (HOB.out _ e.symm).1; omega)
          go_roundw
          case rel =>
            refine ⟨q :: seen, _, rfl, Lib.hid ⟨hit5, ?_, List.nodup_cons.2 ⟨hks, hM.out.nd⟩, ?_, HBQ.out.grown hgrow HBQ.out.size (fun b hb => by have := (HOB.out b hb).1; omega), by have := hgrow.size; omega⟩⟩
            · rw [HCONS.out, if_pos hd]; exact HO5.out
            · intro x hx
              rcases List.mem_cons.1 hx with rfl | hx
              · rw [HLK.out]; rfl
              · exact hM.out.sub x hx
          case measure =>
            rw [hit5.left, hM.out.it.left]
            exact mleft_lt hks HMK.out rfl
        · go_wp2_with fail
          go_roundw
          case rel =>
            refine ⟨q :: seen, _, rfl, Lib.hid ⟨HIT'.out, ?_, List.nodup_cons.2 ⟨hks, hM.out.nd⟩, ?_, HBQ.out, hsq⟩⟩
            · rw [HCONS.out, if_neg hd]; exact HOQ.out
            · intro x hx
              rcases List.mem_cons.1 hx with rfl | hx
              · rw [HLK.out]; rfl
              · exact hM.out.sub x hx
          case measure =>
            rw [HIT'.out.left, hM.out.it.left]
            exact mleft_lt hks HMK.out rfl
end Go.Proofs.YtopfgkbpakfccaaGreatDoor
