/-
  A chain of one exchange.
-/
import Derived.Test.YtmplajpbmojkkaaGreatClcP
set_option linter.unusedSimpArgs false
set_option linter.unusedVariables false
namespace Go.Proofs.YtmplajpbmojkkaaGreat
open Go Go.RowKit Go.Vi
attribute [local go_sem ↓] lo_lt lo_ne lo_ne'
attribute [local go_sem] junk_cell junk_frozen junk_setCell junk_drew drew_junk
theorem grown_none {w w' : World} (h : w.grownBy w' none) : Below w.heap.size w w' := ⟨h.os, h.tape, h.output, h.size, fun i hi => h.block i hi (by simp)⟩
set_option maxHeartbeats 1000000 in
theorem reverse1_q (a : Option Addr) (c : Nat) (w : World) : Calls Tryz.prog 62 #[.slice a 1 c] w fun e w' => e = .returned (.tuple #[]) ∧ Below w.heap.size w w' := by
  go_enter Tryz.func62, Tryz.ntmps62
  go_wp2_with fail
  go_loopw [2, 3] (fun s2 s3 wr => s2 = .int .i64 0 ∧ s3 = .int .i64 0 ∧ wr = w) (fun _ _ _ => 0)
  case atStart => exact ⟨rfl, rfl, rfl⟩
  case round =>
    obtain ⟨rfl, rfl, rfl⟩ := hrel
    go_wp2_with fail
    go_end0
    exact ⟨rfl, Below.refl _ _⟩
set_option maxRecDepth 100000 in
set_option maxHeartbeats 4000000 in
theorem chain_q (L : List Exc) (v vs sz : Value) (b1 b2 : Nat) (Y : List (Int × Int)) (frm tt : Int) (i : Nat) (w : World) (hv : Sl w.heap.size w 5 v (L.map Exc.cs)) (hy : IMap w b2 (ivI Y)) (hm : L.length ≤ 100) (hne : tt ≠ frm) (hl : Vi.look Y tt = some (i : Int)) (hi : i < L.length) (hf : L[i]!.frm = frm) (hvs : ∃ a m c, vs = .slice a m c) (hsz : ∃ x, sz = .int .i64 x) :
    Calls Tryz.prog 43 #[.agg #[v, vs, sz], .agg #[.map (some b1), .map (some b2)], .int .i64 frm, .int .i64 tt] w fun e w' => (∃ vo, e = .returned vo ∧ Ow w.heap.size w' 3 1 vo ([(i : Int)].map i1)) ∧ Below w.heap.size w w' := by
  obtain ⟨a, n, cap, rfl, hn, _, _⟩ := hv.open
  rw [List.length_map] at hn
  obtain ⟨a1, m1, k1, rfl⟩ := hvs
  obtain ⟨sx, rfl⟩ := hsz
  obtain ⟨bl, off, rfl, hb, c0, c1, c2, c3, c4⟩ := ex_cells hv i hi
  rw [hf] at c0
  have hiN : i < n := by omega
  have hi3 : (0 : Int) ≤ (i : Int) := by omega
  have hi4 : (i : Int) < (n : Int) := by omega
  have HY := Lib.hid hy
  have hly := lens_one hy tt i hl
  have HLY : Hid (∀ w', Below w.heap.size w w' → (Instr.lookup 78 (.map (some b2)) (.int .i64 tt) false).run Tryz.prog w' = .ok (.int .i64 (i : Int)) w') := Lib.hid (fun w' h => lens_one (hy.keep h) tt i hl)
  haveI lb0 : Lo bl w := ⟨hb⟩
  obtain ⟨i0, hi, hz0, hz1, hz2⟩ := info_parts iIntT
  clear hv hy hl hf hn hm c1 c2 c3 c4 hly
  go_enter Tryz.func43, Tryz.ntmps43
  go_wp2_with fail
  obtain ⟨V, hV⟩ : ∃ V, V = ((w.alloc (.cells #[.slice (some ⟨bl, off, none⟩) n cap, .slice a1 m1 k1, .int .i64 sx] 125)).alloc (.cells #[.map (some b1), .map (some b2)] 128)) := ⟨_, rfl⟩
  have HG0 : Hid (V.heap[w.heap.size]? = some (.cells #[.slice (some ⟨bl, off, none⟩) n cap, .slice a1 m1 k1, .int .i64 sx] 125 (0, 0))) := Lib.hid (by rw [hV]; exact obj_old (obj_last _ _))
  have HS0 : Hid (V.heap[w.heap.size + 1]? = some (.cells #[.map (some b1), .map (some b2)] 128 (0, 0))) := Lib.hid (by rw [hV]; exact obj_last2 _ _ _)
  have HB0 : Hid (Below w.heap.size w V) := Lib.hid (by rw [hV]; exact Bw.b)
  rw [← hV]
  clear hV
  generalize w.heap.size + 1 = bs at *
  generalize hbg : w.heap.size = bg at HG0 ⊢
  clear hbg
  have hq : ¬ tt = frm := hne
  go_loopw [3, 9] (fun s3 s9 wr => ∃ (f : Bool) (vo : Value), s3 = .int .i64 (if f then frm else tt) ∧ s9 = vo ∧ (f = false → vo = .slice none 0 0) ∧ Hid (Ow w.heap.size wr 3 1 vo ((if f then [(i : Int)] else []).map i1)) ∧ Hid (wr.heap[bg]? = some (.cells #[.slice (some ⟨bl, off, none⟩) n cap, .slice a1 m1 k1, .int .i64 sx] 125 (0, 0))) ∧ Hid (wr.heap[bs]? = some (.cells #[.map (some b1), .map (some b2)] 128 (0, 0))) ∧ Hid (Below w.heap.size w wr)) (fun s3 _ _ => if intOf s3 = tt then 1 else 0)
  case atStart => exact ⟨false, _, rfl, rfl, fun _ => rfl, Lib.hid (Ow.nil _ _ _ _), HG0, HS0, HB0⟩
  case round =>
    clear HG0 HS0 HB0
    obtain ⟨fl, vo, rfl, rfl, hnl, HO, HG, HS2, HB⟩ := hrel
    haveI bW : Bw w wr := ⟨HB.out⟩
    cases fl with
    | true =>
      rw [if_pos rfl]
      obtain ⟨av, nv, cv, hv⟩ := HO.out.val
      have hn1 : nv = 1 := by
        have h := HO.out.sl
        rw [hv] at h
        exact h.len.symm
      subst hv
      subst hn1
      go_wp2_with fail
      refine (reverse1_q _ _ _).mono ?_
      rintro e w2 ⟨rfl, hb2⟩
      obtain ⟨X2, rfl⟩ := below_some hb2
      go_wp2_with fail
      go_ret
      exact ⟨⟨_, rfl, HO.out.keep Bw.b⟩, Bw.b⟩
    | false =>
      rw [if_neg Bool.false_ne_true]
      have hvo := hnl rfl
      subst hvo
      clear hnl
      have g0 := obj_cell HG.out 0
      have s1 := obj_cell HS2.out 1
      simp at g0 s1
      haveI lg : Lo bg wr := ⟨obj_lt HG.out⟩
      haveI ls : Lo bs wr := ⟨obj_lt HS2.out⟩
      haveI lb : Lo bl wr := ⟨Nat.lt_of_lt_of_le hb HB.out.size⟩
      rw [← HB.out.cell (p := ⟨bl, _, none⟩) hb] at c0
      have hly := HLY.out wr HB.out
      go_upto_region 4 with fail
      go_region_held3 (fun w' => w'.cell? ⟨bg, 0, none⟩ = some (.slice (some ⟨bl, off, none⟩) n cap) ∧ w'.cell? ⟨bl, off + i * 5, none⟩ = some (.int .i64 frm))
        (first | exact hSS | (refine ⟨?_, ?_⟩ <;> simp [go_sem, g0, c0]))
        ((refine step_append_lies _ (by rfl) _ _ _ (by rfl) w.heap.size 3 i0 _ 1 8 uInts hi hz0 hz1 hz2 rfl (by decide) (.slice none 0 0) 0 [] (by rfl) (World.ownsRow_nil _ _ _ _) ⟨_, 0, none⟩ 1 1 (i1 i) (by rfl) rfl (World.news_of_block (cs := #[.int .i64 (i : Int)]) (t := 3) (fr := (0, 0)) (obj_last _ _)) (i1_one _) (by omega) (by unfold maxLen; omega) (by omega) (Bw.b (w := w)).size _ rfl ?_
          intro gg cap2 w1 hown1 hgrow hat hlt1
          have hBn := (grown_none hgrow)
          have HBW : Hid (Below wr.heap.size wr w1) := Lib.hid ((Bw.b (w := wr)).trans (hBn.mono (Bw.b (w := wr)).size))
          have HB1 : Hid (Below w.heap.size w w1) := Lib.hid (HB.out.trans (HBW.out.mono HB.out.size))
          have hSS : w1.cell? ⟨bg, 0, none⟩ = some (.slice (some ⟨bl, off, none⟩) n cap) ∧ w1.cell? ⟨bl, off + i * 5, none⟩ = some (.int .i64 frm) := ⟨(HBW.out.cell (p := ⟨bg, 0, none⟩) lg.lt).trans g0, (HBW.out.cell (p := ⟨bl, off + i * 5, none⟩) lb.lt).trans c0⟩
          have HOW := Lib.hid hown1
          clear hgrow hat hown1 hBn))
      all_goals
        go_wp2_with fail
        go_roundw
        case rel =>
          refine ⟨true, .slice (some ⟨gg, 0, none⟩) 1 cap2, rfl, rfl, (fun h => by cases h), Lib.hid ⟨by simpa [i1] using HOW.out, fun r hr => by simp at hr; subst hr; rfl⟩, Lib.hid (keepObj HBW.out HG.out), Lib.hid (keepObj HBW.out HS2.out), HB1⟩
        case measure => simp [intOf, Ne.symm hne]
end Go.Proofs.YtmplajpbmojkkaaGreat
