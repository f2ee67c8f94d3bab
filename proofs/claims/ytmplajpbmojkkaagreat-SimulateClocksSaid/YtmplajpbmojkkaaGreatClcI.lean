/-
  No contradiction where one end of each exchange is the server.
-/
import Derived.Test.YtmplajpbmojkkaaGreatClcH
set_option linter.unusedSimpArgs false
set_option linter.unusedVariables false
namespace Go.Proofs.YtmplajpbmojkkaaGreat
open Go Go.RowKit Go.Vi
attribute [local go_sem ↓] lo_lt lo_ne lo_ne'
attribute [local go_sem] junk_cell junk_frozen junk_setCell junk_drew drew_junk
/-- What is known of a device that talks with the server both ways. -/
structure Dev (L : List Exc) (off : Int → Int) (d : Int) : Prop where
  star : Star L off
  ok : ∀ x ∈ L, ExOK x
  few : L.length ≤ 100
  pos : 0 < d ∧ d ≤ 1073741824
  out : ∃ j, j < L.length ∧ L[j]!.frm = 0 ∧ L[j]!.dst = d
  back : ∃ j, j < L.length ∧ L[j]!.frm = d ∧ L[j]!.dst = 0
theorem Dev.i64 {L : List Exc} {off : Int → Int} {d : Int} (h : Dev L off d) : I64 d := by have := h.pos; unfold I64; omega
theorem mem_at {L : List Exc} {j : Nat} (h : j < L.length) : L[j]! ∈ L := by rw [getElem!_pos L j h]; exact List.getElem_mem h
theorem Dev.comp {L : List Exc} {off : Int → Int} {d : Int} (h : Dev L off d) {c : List Int} (hc : IsComp L d c) : 0 ∈ c ∧ ∀ e ∈ L, e.frm ∈ c ∧ e.dst ∈ c := by
  obtain ⟨j, hj, h1, h2⟩ := h.out
  have h0 : 0 ∈ c := by
    have := hc.clo _ (mem_at hj)
    rw [h1, h2] at this
    exact this.2 hc.dev
  refine ⟨h0, fun e he => ?_⟩
  obtain ⟨i, hi, rfl⟩ := List.getElem_of_mem he
  have hk := hc.clo _ he
  have hs := h.star.e i hi
  rw [getElem!_pos L i hi] at hs
  rcases hs with ⟨g1, _⟩ | ⟨g1, _⟩
  · have : L[i].frm ∈ c := by rw [g1]; exact h0
    exact ⟨this, hk.1 this⟩
  · have : L[i].dst ∈ c := by rw [g1]; exact h0
    exact ⟨hk.2 this, this⟩
theorem two_len {c : List Int} {x y : Int} (h1 : x ∈ c) (h2 : y ∈ c) (hne : x ≠ y) : 2 ≤ c.length := by
  cases c with
  | nil => cases h1
  | cons a l =>
    cases l with
    | nil => simp at h1 h2; omega
    | cons b l => simp
set_option maxRecDepth 100000 in
set_option maxHeartbeats 4000000 in
theorem cycle_q {L : List Exc} {off : Int → Int} {d : Int} (h : Dev L off d) (v : Value) (w : World) (hv : Sl w.heap.size w 5 v (L.map Exc.cs)) :
    Calls Tryz.prog 40 #[v, .int .i64 d] w fun e w' => e = .returned (.tuple #[.slice none 0 0, .bool false]) ∧ Below w.heap.size w w' := by
  have HPQ := Lib.hid (part_q L d v w hv h.ok h.few h.i64 (fun c hc e he => ((h.comp hc).2 e he).1))
  have HCO := Lib.hid (fun (w' : World) (hb : Below w.heap.size w w') => component_q L d v w' (hv.later hb) h.ok h.few h.i64)
  have HFR : Hid (∀ (vs v5 : Value) (c5 : List Int) (size : Nat) (w' : World), Below w.heap.size w w' → Sl w'.heap.size w' 1 vs ((allI L.length).map i1) → Sl w'.heap.size w' 1 v5 (c5.map i1) → IsComp L d c5 → c5.length ≤ 201 → size ≤ 201 → 2 ≤ size → Calls Tryz.prog 42 #[.agg #[v, vs, .int .i64 size], v5] w' (FromOut L (Rnd L off (· ∈ c5)) w')) := Lib.hid (fun vs v5 c5 size w' hb h1 h2 h3 h4 h5 h6 => from_q L v vs v5 c5 size 2 _ w' (hv.later hb) h1 h2 h.ok h.few h4 h5 h6 (sri_of h.star (fun x => Iff.rfl)))
  have HD := Lib.hid h
  obtain ⟨a, n, cap, rfl, _, _, _⟩ := hv.open
  clear hv h
  go_enter Tryz.func40, Tryz.ntmps40
  go_wp2_with fail
  refine HPQ.out.mono ?_
  rintro e w1 ⟨vs, c, rfl, ho, hP, hC, hc201, hb1⟩
  obtain ⟨X1, rfl⟩ := below_some hb1
  obtain ⟨as', ns, cs, rfl⟩ := ho.val
  have hc2 : 2 ≤ c.length := two_len (HD.out.comp hC).1 hC.dev (by have := HD.out.pos; omega)
  have HO := Lib.hid ho
  have HC201 := Lib.hid (show c.length ≤ 201 ∧ 2 ≤ c.length from ⟨hc201, hc2⟩)
  clear ho hP hC hc201 hc2 hb1 HPQ
  generalize c.length = sz at *
  go_upto_region 2 with fail
  obtain ⟨V, hV⟩ : ∃ V, V = ((w.junk X1).alloc (.cells #[.slice a n cap, .slice as' ns cs, .int .i64 sz] 125)) := ⟨_, rfl⟩
  have HG : Hid (V.heap[(w.junk X1).heap.size]? = some (.cells #[.slice a n cap, .slice as' ns cs, .int .i64 sz] 125 (0, 0))) := Lib.hid (by rw [hV]; exact obj_last _ _)
  haveI bV : Bw w V := by rw [hV]; infer_instance
  have HVS : Hid (Sl V.heap.size V 1 (.slice as' ns cs) ((allI L.length).map i1)) := Lib.hid (by rw [hV]; exact HO.out.sl.later Bw.b)
  rw [← hV]
  clear hV HO
  generalize (w.junk X1).heap.size = bg at *
  have g0 := obj_cell HG.out 0
  have g1 := obj_cell HG.out 1
  have g2 := obj_cell HG.out 2
  simp at g0 g1 g2
  haveI lg : Lo bg V := ⟨obj_lt HG.out⟩
  go_region_held3 (fun w' => w'.cell? ⟨bg, 0, none⟩ = some (.slice a n cap) ∧ w'.cell? ⟨bg, 1, none⟩ = some (.slice as' ns cs) ∧ w'.cell? ⟨bg, 2, none⟩ = some (.int .i64 sz)) (refine ⟨?_, ?_, ?_⟩ <;> simp [go_sem, g0, g1, g2]) (first | (go_at_call 61; refine (HCO.out _ (Bw.b (w := w))).mono ?_; rintro e w2 ⟨⟨v5, c5, rfl, ho5, hP5, hC5, hc5⟩, hb5⟩; obtain ⟨X5, rfl⟩ := below_some hb5; have HO5 := Lib.hid ho5; have HC5 := Lib.hid hC5; have HL5 := Lib.hid hc5; clear ho5 hP5 hC5 hc5 hb5) | (go_at_call 42; go_loud (refine (HFR.out _ _ _ _ _ ?b1 ?b2 ?b3 HC5.out HL5.out HC201.out.1 HC201.out.2).mono ?_; (case b1 => exact Bw.b); (case b2 => exact HVS.out.later Bw.b); (case b3 => first | exact HO5.out.sl | exact HO5.out.sl.later Bw.b | (have q := HO5.out.sl; simp only [drew_junk] at q; first | exact q | exact q.later Bw.b)); rintro e w2 ⟨b1, b2, D, Y, r, rfl, _, _, _, _, hb6⟩; obtain ⟨X6, rfl⟩ := below_some hb6; clear hb6)) | fail)
  all_goals
    go_wp2_with fail
    go_ret2
    exact ⟨rfl, Bw.b⟩
end Go.Proofs.YtmplajpbmojkkaaGreat
