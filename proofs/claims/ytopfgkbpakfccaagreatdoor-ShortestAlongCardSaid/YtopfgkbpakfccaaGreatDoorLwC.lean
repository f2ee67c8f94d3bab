/-
  The laws' own functions: hop.
-/
import Derived.Test.YtopfgkbpakfccaaGreatDoorRatE
import Derived.Test.YtopfgkbpakfccaaGreatDoorNetA
import Derived.Test.YtopfgkbpakfccaaGreatDoorJnkA
set_option linter.unusedSimpArgs false
set_option linter.unusedVariables false
namespace Go.Proofs.YtopfgkbpakfccaaGreatDoor
open Go Go.RowKit Go.Vi
attribute [local go_sem ↓] lo_lt lo_ne lo_ne'
attribute [local go_sem] junk_cell junk_frozen junk_setCell junk_drew drew_junk
structure Hst where (road len : Int) (ok : Bool)
def leadsB (a b : Int) (r : Rd) : Bool := (r.src == a && r.dst == b) || (!r.one && r.dst == a && r.src == b)
def hopS (a b : Int) (h : Hst) (r : Rd) : Hst := if leadsB a b r && (!h.ok || decide (r.len < h.len)) then ⟨r.id, r.len, true⟩ else h
def hopN (n : Net) (a b : Int) : Hst := n.roads.foldl (hopS a b) ⟨0, 0, false⟩
theorem foldl_take1 {α β : Type} [Inhabited α] (f : β → α → β) (z : β) (L : List α) (k : Nat) (h : k < L.length) : (L.take (k + 1)).foldl f z = f ((L.take k).foldl f z) L[k]! := by
  rw [List.take_add_one, List.getElem?_eq_getElem h, getElem!_pos L k h, List.foldl_append]; rfl
set_option maxRecDepth 100000 in
set_option maxHeartbeats 1000000 in
theorem hop_q (n : Net) (v1 v2 : Value) (a b : Int) (w : World) (hN : NetAt w.heap.size w v1 v2 n) (hfew : n.roads.length ≤ 1000000) :
    Calls Tryz.prog 71 #[.agg #[v1, v2], .int .i64 a, .int .i64 b] w fun e w' => e = .returned (.tuple #[.int .i64 (hopN n a b).road, .int .i64 (hopN n a b).len, .bool (hopN n a b).ok]) ∧ Below w.heap.size w w' := by
  obtain ⟨an, nn, cn, rfl, hn, hn1, hn2⟩ := hN.2.open
  rw [List.length_map] at hn
  have hnf : nn ≤ 1000000 := by rw [← hn]; exact hfew
  have HNN := Lib.hid hn
  have HN1 := Lib.hid hN.2
  obtain ⟨out, hout⟩ : ∃ o, hopN n a b = o := ⟨_, rfl⟩
  rw [hout]
  have HT := Lib.hid hout
  clear hout hn hn1 hn2 hN hfew
  go_enter Tryz.func71, Tryz.ntmps71
  go_wp2_with fail
  obtain ⟨W0, hW0⟩ : ∃ W0, W0 = w.alloc (.cells #[v1, .slice an nn cn] 30) := ⟨_, rfl⟩
  have n0 : W0.cell? ⟨w.heap.size, 1, none⟩ = some (.slice an nn cn) := by rw [hW0]; simp [go_sem]
  haveI l0 : Lo w.heap.size W0 := by rw [hW0]; infer_instance
  haveI bw : Bw w W0 := by rw [hW0]; infer_instance
  rw [← hW0]
  clear hW0
  go_loopw [6, 7, 8, 9] (fun s6 s7 s8 s9 wr => ∃ (k : Nat) (h : Hst), s6 = .int .i64 h.road ∧ s7 = .int .i64 h.len ∧ s8 = .bool h.ok ∧ s9 = .int .i64 k ∧ k ≤ nn ∧ Hid ((n.roads.take k).foldl (hopS a b) ⟨0, 0, false⟩ = h) ∧ ∃ U, wr = W0.junk U) (fun _ _ _ s9 _ => nn - (intOf s9).toNat)
  case atStart => exact ⟨0, ⟨0, 0, false⟩, rfl, rfl, rfl, rfl, Nat.zero_le _, Lib.hid rfl, below_some (Below.refl _ _)⟩
  case round =>
    obtain ⟨k, ⟨hr, hl, ho⟩, rfl, rfl, rfl, rfl, hk, HF, U, rfl⟩ := hrel
    by_cases hlt : k < nn
    · obtain ⟨bn, off, rfl, hbn, dn⟩ := rd_cells HN1.out k (by rw [HNN.out]; exact hlt)
      obtain ⟨d0, d1, d2, d3, d4, d5⟩ := dn k (by rw [HNN.out]; exact hlt)
      haveI ln : Lo bn W0 := ⟨Nat.lt_of_lt_of_le hbn bw.b.size⟩
      rw [← bw.b.cell (p := ⟨bn, _, none⟩) hbn] at d0 d1 d2 d3 d4 d5
      have HD := Lib.hid (foldl_take1 (hopS a b) ⟨0, 0, false⟩ n.roads k (by rw [HNN.out]; exact hlt))
      rw [HF.out] at HD
      generalize n.roads[k]! = r at d0 d1 d2 d3 d4 d5 HD
      obtain ⟨rid, rsrc, rdst, rlen, rlim, rone⟩ := r
      simp only at d0 d1 d2 d3 d4 d5
      clear dn HF
      obtain ⟨ld, hld⟩ : ∃ x, leadsB a b ⟨rid, rsrc, rdst, rlen, rlim, rone⟩ = x := ⟨_, rfl⟩
      have HLD := Lib.hid hld
      have HD2 : Hid ((n.roads.take (k + 1)).foldl (hopS a b) ⟨0, 0, false⟩ = if ld && (!ho || decide (rlen < hl)) then ⟨rid, rlen, true⟩ else ⟨hr, hl, ho⟩) := Lib.hid (by rw [HD.out]; unfold hopS; rw [hld])
      clear HD hld
      go_upto_region 5 with fail
      obtain ⟨W4, hW4⟩ : ∃ W4, W4 = (W0.junk U).alloc (.cells #[.int .i64 rid, .int .i64 rsrc, .int .i64 rdst, .int .i64 rlen, .int .i64 rlim, .bool rone] 90) := ⟨_, rfl⟩
      have c0 : W4.cell? ⟨(W0.junk U).heap.size, 0, none⟩ = some (.int .i64 rid) := by rw [hW4]; simp [go_sem]
      have c1 : W4.cell? ⟨(W0.junk U).heap.size, 1, none⟩ = some (.int .i64 rsrc) := by rw [hW4]; simp [go_sem]
      have c2 : W4.cell? ⟨(W0.junk U).heap.size, 2, none⟩ = some (.int .i64 rdst) := by rw [hW4]; simp [go_sem]
      have c3 : W4.cell? ⟨(W0.junk U).heap.size, 3, none⟩ = some (.int .i64 rlen) := by rw [hW4]; simp [go_sem]
      have c5 : W4.cell? ⟨(W0.junk U).heap.size, 5, none⟩ = some (.bool rone) := by rw [hW4]; simp [go_sem]
      haveI l4 : Lo (W0.junk U).heap.size W4 := by rw [hW4]; infer_instance
      haveI bw4 : Bw W0 W4 := by rw [hW4]; infer_instance
      rw [← hW4]
      generalize (W0.junk U).heap.size = b10 at *
      clear hW4 d0 d1 d2 d3 d4 d5
      go_cut [11] (fun s11 wx => s11 = .bool ld ∧ wx = W4)
      case first =>
        have hq : ∀ x y : Int, (x == y) = true ∨ (x == y) = false := fun x y => by cases (x == y) <;> simp
        have HX : Hid (leadsB a b ⟨rid, rsrc, rdst, rlen, rlim, rone⟩ = (rsrc == a && rdst == b || !rone && rdst == a && rsrc == b)) := Lib.hid rfl
        rw [HLD.out] at HX
        rcases hq rsrc a with q1 | q1
        · rcases hq rdst b with q2 | q2
          · have e : ld = true := by rw [HX.out, q1, q2]; rfl
            subst e
            go_wp2_with fail
            go_meet
            exact ⟨rfl, rfl⟩
          · cases rone
            · rcases hq rdst a with q3 | q3
              · rcases hq rsrc b with q4 | q4
                · have e : ld = true := by rw [HX.out, q1, q2, q3, q4]; rfl
                  subst e
                  go_wp2_with fail
                  go_meet
                  exact ⟨rfl, rfl⟩
                · have e : ld = false := by rw [HX.out, q1, q2, q3, q4]; rfl
                  subst e
                  go_wp2_with fail
                  go_meet
                  exact ⟨rfl, rfl⟩
              · have e : ld = false := by rw [HX.out, q1, q2, q3]; rfl
                subst e
                go_wp2_with fail
                go_meet
                exact ⟨rfl, rfl⟩
            · have e : ld = false := by rw [HX.out, q1, q2]; rfl
              subst e
              go_wp2_with fail
              go_meet
              exact ⟨rfl, rfl⟩
        · cases rone
          · rcases hq rdst a with q3 | q3
            · rcases hq rsrc b with q4 | q4
              · have e : ld = true := by rw [HX.out, q1, q3, q4]; rfl
                subst e
                go_wp2_with fail
                go_meet
                exact ⟨rfl, rfl⟩
              · have e : ld = false := by rw [HX.out, q1, q3, q4]; rfl
                subst e
                go_wp2_with fail
                go_meet
                exact ⟨rfl, rfl⟩
            · have e : ld = false := by rw [HX.out, q1, q3]; rfl
              subst e
              go_wp2_with fail
              go_meet
              exact ⟨rfl, rfl⟩
          · have e : ld = false := by rw [HX.out, q1]; rfl
            subst e
            go_wp2_with fail
            go_meet
            exact ⟨rfl, rfl⟩
      case rest =>
        obtain ⟨rfl, rfl⟩ := hcut
        clear HLD
        cases ld
        · go_wp2_with fail
          go_roundw
          case rel => exact ⟨k + 1, ⟨hr, hl, ho⟩, rfl, rfl, rfl, by go_num, by omega, Lib.hid (by rw [HD2.out]; rfl), by exact below_some Bw.b⟩
          case measure => simp [intOf]; omega
        · cases ho
          · go_wp2_with fail
            refine wp_jregion (by kernel_rfl) (by kernel_rfl) ?_
            repeat (go_big_quiet_step (first | (fail) | fail))
            refine wpQuiet_nil ?_
            rintro w' ⟨U2, rfl⟩
            go_wp2_with fail
            go_roundw
            case rel => exact ⟨k + 1, ⟨rid, rlen, true⟩, rfl, rfl, rfl, by go_num, by omega, Lib.hid (by rw [HD2.out]; rfl), by exact below_some Bw.b⟩
            case measure => simp [intOf]; omega
          · by_cases hlt2 : rlen < hl
            · go_wp2_with fail
              refine wp_jregion (by kernel_rfl) (by kernel_rfl) ?_
              repeat (go_big_quiet_step (first | (fail) | fail))
              refine wpQuiet_nil ?_
              rintro w' ⟨U2, rfl⟩
              go_wp2_with fail
              go_roundw
              case rel => exact ⟨k + 1, ⟨rid, rlen, true⟩, rfl, rfl, rfl, by go_num, by omega, Lib.hid (by rw [HD2.out]; simp [hlt2]), by exact below_some Bw.b⟩
              case measure => simp [intOf]; omega
            · go_wp2_with fail
              go_roundw
              case rel => exact ⟨k + 1, ⟨hr, hl, true⟩, rfl, rfl, rfl, by go_num, by omega, Lib.hid (by rw [HD2.out]; simp [hlt2]), by exact below_some Bw.b⟩
              case measure => simp [intOf]; omega
    · obtain rfl : k = nn := by omega
      have e : hopN n a b = ⟨hr, hl, ho⟩ := by rw [← HF.out]; unfold hopN; rw [List.take_of_length_le (by rw [HNN.out]; exact Nat.le_refl _)]
      have ho' : out = ⟨hr, hl, ho⟩ := by rw [← HT.out]; exact e
      subst ho'
      go_wp2_with fail
      refine bodyPost_ret (v := .tuple #[.int .i64 hr, .int .i64 hl, .bool ho]) (by simp [results, Tryz.results71, go_sem]) rfl ⟨rfl, Bw.b⟩
end Go.Proofs.YtopfgkbpakfccaaGreatDoor
