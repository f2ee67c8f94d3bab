/-
  The bounds of the offset of a device.
-/
import Derived.Test.YtmplajpbmojkkaaGreatClcJ
set_option linter.unusedSimpArgs false
set_option linter.unusedVariables false
namespace Go.Proofs.YtmplajpbmojkkaaGreat
open Go Go.RowKit Go.Vi
attribute [local go_sem ↓] lo_lt lo_ne lo_ne'
attribute [local go_sem] junk_cell junk_frozen junk_setCell junk_drew drew_junk
set_option maxRecDepth 100000 in
set_option maxHeartbeats 4000000 in
theorem offset0_q (L : List Exc) (d : Int) (v : Value) (w : World) (hv : Sl w.heap.size w 5 v (L.map Exc.cs)) (hok : ∀ x ∈ L, ExOK x) (hm : L.length ≤ 100) (hd : 0 < d ∧ d ≤ 1073741824) (hno : ¬ EndOf L d) :
    Calls Tryz.prog 8 #[v, .int .i64 d] w fun e w' => e = .returned (.tuple #[.agg #[.int .i64 0, .int .i64 0], .int .i64 0]) ∧ Below w.heap.size w w' := by
  have HCH := Lib.hid (fun (w' : World) (hb : Below w.heap.size w w') => chains0_q L d v w' (hv.later hb) hok hm hd hno)
  have HS1 := Lib.hid (fun (w' : World) => sum0_q v 0 d w' (by omega))
  have HS2 := Lib.hid (fun (w' : World) => sum0_q v d 0 w' (by omega))
  obtain ⟨a, n, cap, rfl, _, _, _⟩ := hv.open
  clear hv hok hm hd hno
  go_enter Tryz.func8, Tryz.ntmps8
  go_wp2_with fail
  refine (HCH.out _ Bw.b).mono ?_
  rintro e w1 ⟨rfl, hb1⟩
  obtain ⟨X1, rfl⟩ := below_some hb1
  go_wp2_with fail
  refine (jk (HS1.out _)).mono ?_
  rintro e _ ⟨rfl, X2, rfl⟩
  go_wp2_with fail
  refine (jk (HS2.out _)).mono ?_
  rintro e _ ⟨rfl, X3, rfl⟩
  go_wp2_with fail
  refine bodyPost_ret (v := .tuple #[.agg #[.int .i64 0, .int .i64 0], .int .i64 0]) (by simp [results, Tryz.results8, go_sem]) rfl ?_
  exact ⟨rfl, Bw.b⟩
set_option maxRecDepth 100000 in
set_option maxHeartbeats 4000000 in
theorem offset_q {L : List Exc} {off : Int → Int} {d : Int} (h : Dev L off d) (v : Value) (w : World) (hv : Sl w.heap.size w 5 v (L.map Exc.cs)) :
    Calls Tryz.prog 8 #[v, .int .i64 d] w fun e w' => (∃ (ju jd : Nat), BestO L d ju ∧ BestB L d jd ∧ e = .returned (.tuple #[.agg #[.int .i64 (-(wgt L[jd]!)), .int .i64 (wgt L[ju]!)], .int .i64 0])) ∧ Below w.heap.size w w' := by
  have HCH := Lib.hid (fun (w' : World) (hb : Below w.heap.size w w') => chains_q h v w' (hv.later hb))
  have HSU : Hid (∀ (vc : Value) (frm tt : Int) (i : Nat) (w' : World), Below w.heap.size w w' → Sl w'.heap.size w' 1 vc ([(i : Int)].map i1) → i < L.length → L[i]!.frm = frm → L[i]!.dst = tt → Calls Tryz.prog 17 #[v, vc, .int .i64 frm, .int .i64 tt] w' fun e w2 => e = .returned (.tuple #[.int .i64 (wgt L[i]!), .int .i64 0]) ∧ Below w'.heap.size w' w2) := Lib.hid (fun vc frm tt i w' hb h1 h2 h3 h4 => sum1_q L v vc frm tt i w' (hv.later hb) h1 h.few h.ok h2 h3 h4)
  have HB := Lib.hid h.star.b
  obtain ⟨a, n, cap, rfl, _, _, _⟩ := hv.open
  clear hv h
  go_enter Tryz.func8, Tryz.ntmps8
  go_wp2_with fail
  refine (HCH.out _ Bw.b).mono ?_
  rintro e w1 ⟨vu, vd, ju, jd, rfl, h1, h2, h3, h4, hb1⟩
  obtain ⟨X1, rfl⟩ := below_some hb1
  have hmu := h1.open
  obtain ⟨au, mu, cu, rfl, hmu1, _, _⟩ := hmu
  obtain rfl : mu = 1 := hmu1.symm
  obtain ⟨ad, md, cd, rfl, _, _, _⟩ := h2.open
  have HU := Lib.hid h1
  have HD := Lib.hid h2
  have H3 := Lib.hid h3
  have H4 := Lib.hid h4
  have hwb := HB.out jd h4.lt
  obtain ⟨wu, hwu⟩ : ∃ z, wgt L[ju]! = z := ⟨_, rfl⟩
  obtain ⟨wd, hwd⟩ : ∃ z, wgt L[jd]! = z := ⟨_, rfl⟩
  rw [hwd] at hwb
  have hneg : IntKind.i64.wrap (-wd) = -wd := IntWalk.i64_in _ (by omega)
  have HWU := Lib.hid hwu
  have HWD := Lib.hid hwd
  clear hwu hwd
  clear h1 h2 h3 h4 hb1 hmu1
  go_wp2_with fail
  refine (jk (HSU.out _ 0 d ju _ ?b1 ?b2 H3.out.lt H3.out.frm H3.out.dst)).mono ?_
  case b1 => exact Bw.b
  case b2 => first | exact HU.out | exact HU.out.later Bw.b
  rintro e _ ⟨rfl, X2, rfl⟩
  rw [HWU.out]
  go_wp2_with fail
  refine (jk (HSU.out _ d 0 jd _ ?b1 ?b2 H4.out.lt H4.out.frm H4.out.dst)).mono ?_
  case b1 => exact Bw.b
  case b2 => exact HD.out.later Bw.b
  rintro e _ ⟨rfl, X3, rfl⟩
  rw [HWD.out]
  go_wp2_with fail
  refine bodyPost_ret (v := .tuple #[.agg #[.int .i64 (-wd), .int .i64 wu], .int .i64 0]) (by simp [results, Tryz.results8, go_sem]) rfl ?_
  exact ⟨⟨ju, jd, H3.out, H4.out, by rw [HWU.out, HWD.out]⟩, Bw.b⟩
end Go.Proofs.YtmplajpbmojkkaaGreat
