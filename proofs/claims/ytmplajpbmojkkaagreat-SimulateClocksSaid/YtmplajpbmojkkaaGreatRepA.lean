/-
 Reports that are sent: their comparison, and the stable sort at fewer than 20 of them.
 simulate.Reports, walked.
 The plain law of reports: insertion by time alone leaves what sorting by time and object leaves.
-/
import Derived.Test.YtmplajpbmojkkaaGreatSrtA
import Derived.Test.YtmplajpbmojkkaaGreatStabLay
import Derived.Test.YtmplajpbmojkkaaGreatTimA
import Derived.Test.YtmplajpbmojkkaaGreatScnI
set_option linter.unusedSimpArgs false
set_option linter.unusedVariables false
namespace Go.Proofs.YtmplajpbmojkkaaGreat
open Go Go.RowKit Go.Vi Go.Sort
structure Rpt where (obj seq ver dev at_ x y : Int) (cancel : Bool)
structure Snt where (time : Int) (r : Rpt)
instance : Inhabited Rpt := ⟨⟨0, 0, 0, 0, 0, 0, 0, false⟩⟩
instance : Inhabited Snt := ⟨⟨0, default⟩⟩
def Rpt.cs (r : Rpt) : List Value := [.int .i64 r.obj, .int .i64 r.seq, .int .i64 r.ver, .int .i64 r.dev, .int .i64 r.at_, .int .i64 r.x, .int .i64 r.y, .bool r.cancel]
def Snt.cs (s : Snt) : List Value := [.int .i64 s.time, .int .i64 s.r.obj, .int .i64 s.r.seq, .int .i64 s.r.ver, .int .i64 s.r.dev, .int .i64 s.r.at_, .int .i64 s.r.x, .int .i64 s.r.y, .bool s.r.cancel]
abbrev Snt.v (s : Snt) : Value := .agg #[.int .i64 s.time, .int .i64 s.r.obj, .int .i64 s.r.seq, .int .i64 s.r.ver, .int .i64 s.r.dev, .int .i64 s.r.at_, .int .i64 s.r.x, .int .i64 s.r.y, .bool s.r.cancel]
def sntCmp (a b : Snt) : Int := orI [cmpI a.time b.time, cmpI a.r.obj b.r.obj]
set_option maxHeartbeats 1000000 in
theorem sent1_any (a b : Snt) (w : World) : Calls Tryz.prog 22 #[a.v, b.v] w fun e w' => e = .returned (.int .i64 (sntCmp a b)) ∧ ∃ q os, w' = Sort.grow (w.drewN q) os := by
 go_enter Tryz.func22, Tryz.ntmps22
 go_wp2_with fail
 go_region_held3 (fun w' => w'.cell? ⟨w.heap.size, 0, none⟩ = some (.int .i64 a.time) ∧ w'.cell? ⟨w.heap.size, 1, none⟩ = some (.int .i64 a.r.obj) ∧ w'.cell? ⟨w.heap.size + 1, 0, none⟩ = some (.int .i64 b.time) ∧ w'.cell? ⟨w.heap.size + 1, 1, none⟩ = some (.int .i64 b.r.obj)) (go_keep)
  (first
   | (go_at_call 24; refine (cmp_any _ _ _).mono ?_; rintro e w' ⟨rfl, rfl⟩)
   | (go_at_call 23; refine (or_any [cmpI a.time b.time, cmpI a.r.obj b.r.obj] _ 2 _ _ rfl (by decide) (by intro i hi; rcases i with _ | _ | i <;> first | (simp [go_sem]; done) | omega)).mono ?_; rintro e w' ⟨rfl, rfl⟩))
 go_wp2
 go_ret
 exact ⟨rfl, 1, _, grown3 _ _ _ _⟩
theorem aggSent (w : World) : (isAgg 100).run Tryz.prog w = .ok true w := by kernel_rfl
theorem sizeSent (w : World) : (Go.sizeOf 100).run Tryz.prog w = .ok 9 w := by kernel_rfl
theorem sntLays (blk off size : Nat) (w : World) : CmpLays Tryz.prog 22 #[] Snt.cs 9 sntCmp blk off size w :=
 fun _ _ _ _ x y => sent1_any x y _
def sntLt (a b : Snt) : Prop := a.time < b.time ∨ (a.time = b.time ∧ a.r.obj < b.r.obj)
theorem ltOf_snt (a b : Snt) : ltOf sntCmp a b = true ↔ sntLt a b := by
 have e : ∀ x y : Int, cmpI x y = 0 ∧ x = y ∨ cmpI x y = -1 ∧ x < y ∨ cmpI x y = 1 ∧ y < x := by
  intro x y
  unfold cmpI
  split
  ·right; left; exact ⟨rfl, by assumption⟩
  ·split
   ·right; right; exact ⟨rfl, by assumption⟩
   ·left; exact ⟨rfl, by omega⟩
 unfold ltOf sntCmp sntLt
 rcases e a.time b.time with ⟨h, h'⟩ | ⟨h, h'⟩ | ⟨h, h'⟩ <;> rcases e a.r.obj b.r.obj with ⟨h2, h2'⟩ | ⟨h2, h2'⟩ | ⟨h2, h2'⟩ <;> rw [h, h2] <;>
  simp [orI] <;> omega
theorem ltOf_snt_false (a b : Snt) : ltOf sntCmp a b = false ↔ ¬sntLt a b := by rw [← ltOf_snt]; simp
theorem swoSnt : SWO (ltOf sntCmp) where
 irrefl x := by rw [ltOf_snt_false]; unfold sntLt; omega
 trans x y z h1 h2 := by rw [ltOf_snt] at *; unfold sntLt at *; omega
 ntrans x y z h1 h2 := by rw [ltOf_snt_false] at *; unfold sntLt at *; omega
def sntSort (L : List Snt) : List Snt := (Sort.insertionSort (ltOf sntCmp) L.toArray 0 L.length).toList
theorem insSent_any (L : List Snt) {B e g cap : Nat} (w : World) (h : Ow B w e 9 (.slice (some ⟨g, 0, none⟩) L.length cap) (L.map Snt.cs)) (hL : L.length < 20) :
  Calls Tryz.prog 67 #[.slice (some ⟨g, 0, none⟩) L.length cap, .int .i64 0, .int .i64 L.length, .func (.func 22) #[] #[]] w fun e' w' => e' = .returned (.tuple #[]) ∧ Ow B w' e 9 (.slice (some ⟨g, 0, none⟩) L.length cap) ((sntSort L).map Snt.cs) ∧ w.grownBy w' (some g) ∧ (sntSort L).length = L.length := by
 have eg : ∀ args w, (callFunc 22 args).run Tryz.prog w = .ok (.enter 22 args) w := enters_of Tryz.func22 (by kernel_rfl) rfl
 have hcon := AnyQ.insertionSortCmpFunc Tryz.insSent 9 aggSent sizeSent Snt.cs (fun _ => rfl) (fun x v hv => by simp [Snt.cs] at hv; rcases hv with rfl | rfl | rfl | rfl | rfl | rfl | rfl | rfl | rfl <;> rfl) sntCmp 22 #[] g 0 cap 0 L.length L.toArray w eg (sntLays g 0 L.toArray.size w) (holdsK_of (enc := Snt.cs) (k := 9) (fun _ => rfl) h) (h.blk g rfl).2 (Nat.zero_le _) (by simp) (by simp; omega)
 rw [List.size_toArray] at hcon
 change Calls Tryz.prog 67 _ _ _ at hcon
 refine hcon.mono ?_
 rintro e' w' ⟨rfl, n, os, rfl⟩
 have hsz : (Sort.insertionSort (ltOf sntCmp) L.toArray 0 L.length).size = L.length := by
  have := (insertionSort_holds swoSnt L.toArray 0 L.length (Nat.zero_le _) (by simp)).1.1
  simpa using this
 refine ⟨rfl, h.sorted (enc := Snt.cs) (k := 9) (fun _ => rfl) n _ os hsz, grownBy_sortK _ _ _ _ _ _ _, by unfold sntSort; simpa using hsz⟩
set_option maxHeartbeats 1000000 in
theorem stabCmp_any (L : List Snt) {B e g cap : Nat} (w : World) (h : Ow B w e 9 (.slice (some ⟨g, 0, none⟩) L.length cap) (L.map Snt.cs)) (hL : L.length < 20) :
  Calls Tryz.prog 48 #[.slice (some ⟨g, 0, none⟩) L.length cap, .int .i64 L.length, .func (.func 22) #[] #[]] w fun e' w' => e' = .returned (.tuple #[]) ∧ Ow B w' e 9 (.slice (some ⟨g, 0, none⟩) L.length cap) ((sntSort L).map Snt.cs) ∧ w.grownBy w' (some g) ∧ (sntSort L).length = L.length := by
 have HC := Lib.hid (insSent_any L w h hL)
 clear h
 obtain ⟨n, hn⟩ : ∃ z, L.length = z := ⟨_, rfl⟩
 rw [hn] at HC hL ⊢
 have h1 : ¬(20 : Int) ≤ (n : Int) := by omega
 have h2 : ¬(20 : Int) < (n : Int) := by omega
 clear hn
 go_enter Tryz.func48, Tryz.ntmps48
 go_wp2_with fail
 go_loopw [7, 8] (fun s7 s8 wr => s7 = .int .i64 0 ∧ s8 = .int .i64 20 ∧ wr = w) (fun _ _ _ => 0)
 case atStart => exact ⟨rfl, rfl, rfl⟩
 case round =>
  obtain ⟨rfl, rfl, rfl⟩ := hrel
  go_wp2_with fail
  refine HC.out.mono ?_
  rintro e' w' ⟨rfl, q1, q2, q3⟩
  have Q1 := Lib.hid q1
  have Q2 := Lib.hid q2
  have Q3 := Lib.hid q3
  clear q1 q2 q3
  go_wp2_with fail
  go_loopw [6] (fun s6 wx => s6 = .int .i64 20 ∧ wx = w') (fun _ _ => 0)
  case atStart => exact ⟨rfl, rfl⟩
  case round =>
   obtain ⟨rfl, rfl⟩ := hrel
   go_wp2_with fail
   go_end0
   exact ⟨rfl, Q1.out, Q2.out, Q3.out⟩
theorem stabSent_any (L : List Snt) {B e g cap : Nat} (w : World) (h : Ow B w e 9 (.slice (some ⟨g, 0, none⟩) L.length cap) (L.map Snt.cs)) (hL : L.length < 20) :
  Calls Tryz.prog 21 #[.slice (some ⟨g, 0, none⟩) L.length cap, .func (.func 22) #[] #[]] w fun e' w' => e' = .returned (.tuple #[]) ∧ Ow B w' e 9 (.slice (some ⟨g, 0, none⟩) L.length cap) ((sntSort L).map Snt.cs) ∧ w.grownBy w' (some g) ∧ (sntSort L).length = L.length := by
 have HC := Lib.hid (stabCmp_any L w h hL)
 clear h
 obtain ⟨n, hn⟩ : ∃ z, L.length = z := ⟨_, rfl⟩
 rw [hn] at HC hL ⊢
 clear hn
 go_enter Tryz.func21, Tryz.ntmps21
 go_wp2_with fail
 refine HC.out.mono ?_
 rintro e' w' ⟨rfl, q1, q2, q3⟩
 have Q1 := Lib.hid q1
 have Q2 := Lib.hid q2
 have Q3 := Lib.hid q3
 clear q1 q2 q3
 go_wp2_with fail
 go_end0
 exact ⟨rfl, Q1.out, Q2.out, Q3.out⟩
end Go.Proofs.YtmplajpbmojkkaaGreat
namespace Go.Proofs.YtmplajpbmojkkaaGreat
open Go Go.RowKit Go.Vi
set_option maxHeartbeats 4000000 in
theorem point_any (S : Scn) (v1 v2 v3 v4 v5 : Value) (id : Int) (w : World) (hN : NetAt w.heap.size w v1 v2 S.net) (hK : NetOK S.net) (h3 : ∃ a n c, v3 = .slice a n c) (h4 : ∃ a n c, v4 = .slice a n c) (h5 : ∃ a n c, v5 = .slice a n c) :
  Calls Tryz.prog 20 #[S.v v1 v2 v3 v4 v5, .int .i64 id] w fun e w' => e = .returned (.tuple #[.int .i64 ((nodeOf S.net.nodes id).getD nd0).x, .int .i64 ((nodeOf S.net.nodes id).getD nd0).y]) ∧ Below w.heap.size w w' := by
 obtain ⟨a3, n3, c3, rfl⟩ := h3
 obtain ⟨a4, n4, c4, rfl⟩ := h4
 obtain ⟨a5, n5, c5, rfl⟩ := h5
 have HN := Lib.hid hN
 have HK := Lib.hid hK
 clear hN hK
 have P0 := Lib.hid (obj_last w (.cells #[v1, v2, .int .i64 S.gap, .slice a3 n3 c3, .slice a4 n4 c4, .slice a5 n5 c5] 40))
 go_enter Tryz.func20, Tryz.ntmps20
 go_wp2_with fail
 refine (node_any S.net _ _ _ _ (HN.out.later (by (repeat (first | with_reducible exact Below.refl _ _ | with_reducible assumption | ((with_reducible first | refine Below.setCell ?_ ?_ _ | refine Below.alloc ?_ ?_ _); rotate_left; focus (first | exact Nat.le_refl _ | omega | exact Below.size (by assumption) | (simp <;> omega))) | with_reducible refine Below.drew ?_ | with_reducible refine drewN_ ?_ _)))) HK.out.nodes (by have := HK.out.few; omega)).mono ?_
 rintro e w2 ⟨rfl, hb2⟩
 have B2 := Lib.hid (from_ (w := w) hb2 (by (repeat (first | with_reducible exact Below.refl _ _ | with_reducible assumption | ((with_reducible first | refine Below.setCell ?_ ?_ _ | refine Below.alloc ?_ ?_ _); rotate_left; focus (first | exact Nat.le_refl _ | omega | exact Below.size (by assumption) | (simp <;> omega))) | with_reducible refine Below.drew ?_ | with_reducible refine drewN_ ?_ _))))
 obtain ⟨nd, hnd⟩ : ∃ z, (nodeOf S.net.nodes id).getD nd0 = z := ⟨_, rfl⟩
 rw [hnd]
 have HND := Lib.hid hnd
 clear hb2 hnd
 go_wp2_with fail
 go_quiet (fail)
 go_wp2_with fail
 go_ret2
 exact ⟨by rw [HND.out]; rfl, by have h := B2.out; (repeat (first | with_reducible exact Below.refl _ _ | with_reducible assumption | ((with_reducible first | refine Below.setCell ?_ ?_ _ | refine Below.alloc ?_ ?_ _); rotate_left; focus (first | exact Nat.le_refl _ | omega | exact Below.size (by assumption) | (simp <;> omega))) | with_reducible refine Below.drew ?_ | with_reducible refine drewN_ ?_ _))⟩
def rptOf (S : Scn) (t : Trp) (i : Nat) (p : Stp) : Snt := ⟨p.time, ⟨t.obj, i, 0, t.dev, p.time + offOf S.clocks t.dev, ((nodeOf S.net.nodes p.node).getD nd0).x, ((nodeOf S.net.nodes p.node).getD nd0).y, false⟩⟩
def sentT (S : Scn) (t : Trp) (L : List Stp) (q : Nat) : List Snt := (List.range q).map fun i => rptOf S t i L[i]!
noncomputable def sentOf (S : Scn) (t : Trp) : List Snt := match stopsS S t with
 | .ok L => sentT S t L L.length
 | .error _ => []
noncomputable def sentS (S : Scn) (k : Nat) : List Snt := (S.trips.take k).flatMap (sentOf S)
theorem sentT_succ (S : Scn) (t : Trp) (L : List Stp) (q : Nat) : sentT S t L (q + 1) = sentT S t L q ++ [rptOf S t q L[q]!] := by
 unfold sentT
 rw [List.range_succ, List.map_append]
 rfl
theorem sentS_succ (S : Scn) {k : Nat} (h : k < S.trips.length) : sentS S (k + 1) = sentS S k ++ sentOf S S.trips[k]! := by
 unfold sentS
 rw [List.take_add_one, List.getElem?_eq_getElem h, List.flatMap_append, getElem!_pos S.trips k h]
 simp
theorem uSentT : Tryz.prog.underlying 96 = some (.slice 100) := by kernel_rfl
theorem iSentT : (Tryz.prog.info? 100).map (fun i => (i.zero, i.size, i.bytes)) = some (some (.agg #[.int .i64 0, .int .i64 0, .int .i64 0, .int .i64 0, .int .i64 0, .int .i64 0, .int .i64 0, .int .i64 0, .bool false]), 9, 72) := by kernel_rfl
theorem uRptT : Tryz.prog.underlying 62 = some (.slice 68) := by kernel_rfl
theorem iRptT : (Tryz.prog.info? 68).map (fun i => (i.zero, i.size, i.bytes)) = some (some (.agg #[.int .i64 0, .int .i64 0, .int .i64 0, .int .i64 0, .int .i64 0, .int .i64 0, .int .i64 0, .bool false]), 8, 64) := by kernel_rfl
theorem snt_cell1 (x : Snt) : ∀ u ∈ x.cs, u.oneCell' = true := by
 intro u hu
 simp only [Snt.cs, List.mem_cons, List.mem_nil_iff, or_false] at hu
 rcases hu with h | h | h | h | h | h | h | h | h <;> rw [h] <;> rfl
theorem rpt_cell1 (x : Rpt) : ∀ u ∈ x.cs, u.oneCell' = true := by
 intro u hu
 simp only [Rpt.cs, List.mem_cons, List.mem_nil_iff, or_false] at hu
 rcases hu with h | h | h | h | h | h | h | h <;> rw [h] <;> rfl
theorem obj_setR {w : World} {b : Nat} {T : TypeId} {fr : Nat × Nat} {c0 c1 c2 c3 c4 c5 c6 c7 v5 v6 : Value} (h : w.heap[b]? = some (.cells #[c0, c1, c2, c3, c4, c5, c6, c7] T fr)) : ((w.setCell ⟨b, 5, none⟩ v5).setCell ⟨b, 6, none⟩ v6).heap[b]? = some (.cells #[c0, c1, c2, c3, c4, v5, v6, c7] T fr) := by
 rw [obj_set (obj_set h)]
 simp
theorem obj_lastS (w : World) (p q : Addr) (u v : Value) (o : Obj) : (((w.setCell p u).setCell q v).alloc o).heap[w.heap.size]? = some o := by
 have h := obj_last ((w.setCell p u).setCell q v) o
 simpa using h
theorem snt_add {B g n cap : Nat} {w' : World} {A : List Snt} {x : Snt} (hn : n = A.length) (ho : w'.ownsRow B 100 9 (.slice (some ⟨g, 0, none⟩) (n + 1) cap) (n + 1) ((A.map Snt.cs).flatten ++ x.cs)) : Ow B w' 100 9 (.slice (some ⟨g, 0, none⟩) (n + 1) cap) ((A ++ [x]).map Snt.cs) := by
 subst hn
 rw [List.map_append]
 exact Ow.grow (R := A.map Snt.cs) (N := [x.cs]) (m := 1) (by rw [List.length_map]; simpa only [List.flatten_cons, List.flatten_nil, List.append_nil] using ho) rfl (fun r hr => by obtain ⟨y, _, rfl⟩ := List.mem_map.1 hr; rfl) (fun r hr => by simp at hr; subst hr; rfl)
theorem rpt_add {B g n cap : Nat} {w' : World} {A : List Snt} {x : Snt} (hn : n = A.length) (ho : w'.ownsRow B 68 8 (.slice (some ⟨g, 0, none⟩) (n + 1) cap) (n + 1) ((A.map fun s => s.r.cs).flatten ++ x.r.cs)) : Ow B w' 68 8 (.slice (some ⟨g, 0, none⟩) (n + 1) cap) ((A ++ [x]).map fun s => s.r.cs) := by
 subst hn
 rw [List.map_append]
 exact Ow.grow (R := A.map fun s => s.r.cs) (N := [x.r.cs]) (m := 1) (by rw [List.length_map]; simpa only [List.flatten_cons, List.flatten_nil, List.append_nil] using ho) rfl (fun r hr => by obtain ⟨y, _, rfl⟩ := List.mem_map.1 hr; rfl) (fun r hr => by simp at hr; subst hr; rfl)
set_option maxRecDepth 100000 in
set_option maxHeartbeats 20000000 in
theorem reports_any (S : Scn) (v1 v2 v3 v4 v5 : Value) (w : World) (hS : ScnAt w.heap.size w v1 v2 v3 v4 v5 S) (hF : Fit S) (hW : wayErr S = 0) (hne : 0 < (sentS S S.trips.length).length) (hfew : (sentS S S.trips.length).length < 20) :
  Calls Tryz.prog 11 #[S.v v1 v2 v3 v4 v5] w fun e w' => (∃ v, e = .returned (.tuple #[v, .int .i64 0]) ∧ Ow w.heap.size w' 68 8 v ((sntSort (sentS S S.trips.length)).map fun s => s.r.cs)) ∧ Below w.heap.size w w' := by
 obtain ⟨a3, n3, c3, rfl, hn3, hn31, hn32⟩ := hS.trips.open
 obtain ⟨a4, n4, c4, rfl, hn4, hn41, hn42⟩ := hS.clocks.open
 obtain ⟨a5, n5, c5, rfl, hn5, hn51, hn52⟩ := hS.syncs.open
 have hnt := hF.ntrips
 rw [hn3] at hnt
 have HS := Lib.hid hS
 have HF := Lib.hid hF
 have HW := Lib.hid hW
 have HNE := Lib.hid hne
 have HFEW := Lib.hid hfew
 have HN3 := Lib.hid hn3
 have HK := Lib.hid (netOK_of hF.net)
 clear hS hF hW hne hfew hn3 hn4 hn5 hn31 hn32 hn41 hn42 hn51 hn52
 have P0 := Lib.hid (obj_last w (.cells #[v1, v2, .int .i64 S.gap, .slice a3 n3 c3, .slice a4 n4 c4, .slice a5 n5 c5] 40))
 obtain ⟨sn0_, sni, sn0, sn1, sn2⟩ := info_parts iSentT
 obtain ⟨rp0_, rpi, rp0, rp1, rp2⟩ := info_parts iRptT
 go_enter Tryz.func11, Tryz.ntmps11
 go_wp2_with fail
 refine (checkW_any S _ _ _ _ _ _ (HS.out.later (by (repeat (first | with_reducible exact Below.refl _ _ | with_reducible assumption | ((with_reducible first | refine Below.setCell ?_ ?_ _ | refine Below.alloc ?_ ?_ _); rotate_left; focus (first | exact Nat.le_refl _ | omega | exact Below.size (by assumption) | (simp <;> omega))) | with_reducible refine Below.drew ?_ | with_reducible refine drewN_ ?_ _)))) HF.out).mono ?_
 rintro e w1 ⟨rfl, hb1⟩
 rw [HW.out]
 have P1 := Lib.hid (keepObj hb1 P0.out)
 have B1 := Lib.hid (from_ (w := w) hb1 (by (repeat (first | with_reducible exact Below.refl _ _ | with_reducible assumption | ((with_reducible first | refine Below.setCell ?_ ?_ _ | refine Below.alloc ?_ ?_ _); rotate_left; focus (first | exact Nat.le_refl _ | omega | exact Below.size (by assumption) | (simp <;> omega))) | with_reducible refine Below.drew ?_ | with_reducible refine drewN_ ?_ _))))
 have l0 := obj_cell P1.out 0
 have l1 := obj_cell P1.out 1
 have l2 := obj_cell P1.out 2
 have l3 := obj_cell P1.out 3
 have l4 := obj_cell P1.out 4
 have l5 := obj_cell P1.out 5
 simp at l0 l1 l2 l3 l4 l5
 clear hb1
 go_wp2_with fail
 refine (offsets_any S _ _ _ _ _ _ (HS.out.clocks.later B1.out) HF.out.nclocks).mono ?_
 rintro e w2 ⟨⟨bm, rfl, hbm, hI⟩, hb2⟩
 have hP2 := keepObj hb2 P1.out
 have m3 := obj_cell hP2 3
 simp at m3
 have B2 := Lib.hid (B1.out.trans (hb2.mono B1.out.size))
 have HI := Lib.hid hI
 have zb2 := obj_lt hP2
 have PW := Lib.hid hP2
 clear hb2 hI hP2 l0 l1 l2 l3 l4 l5 P1 B1
 go_wp2_with fail
 go_loopw [5, 27] (fun s5 s27 wx => ∃ (k : Nat) (va : Value) (na : Nat), s27 = .int .i64 k ∧ va = s5 ∧ k ≤ n3 ∧ na ≤ 256 * k ∧ (sentS S k).length = na ∧ Hid (Ow w2.heap.size wx 100 9 va ((sentS S k).map Snt.cs)) ∧ Hid (Below w2.heap.size w2 wx)) (fun _ s27 _ => n3 - (intOf s27).toNat)
 case atStart => exact ⟨0, _, 0, rfl, rfl, Nat.zero_le _, by omega, rfl, Ow.nil _ _ _ _, Below.refl _ _⟩
 case round =>
  obtain ⟨k, va, na, rfl, rfl, hk, hna, hlen, hO, hB⟩ := hrel
  have HLEN := Lib.hid hlen
  have hPw := keepObj hB.out PW.out
  have l0 := obj_cell hPw 0
  have l1 := obj_cell hPw 1
  have l2 := obj_cell hPw 2
  have l3 := obj_cell hPw 3
  have l4 := obj_cell hPw 4
  have l5 := obj_cell hPw 5
  simp at l0 l1 l2 l3 l4 l5
  have zb := obj_lt hPw
  have BX := Lib.hid (B2.out.trans (hB.out.mono B2.out.size))
  have PX := Lib.hid hPw
  clear hPw hlen
  by_cases hlt : k < n3
  ·have hkl : k < S.trips.length := by rw [HN3.out]; exact hlt
   obtain ⟨b, off, rfl, hb, hcs⟩ := HS.out.trips.at k hkl
   obtain ⟨v, hv, t0, t1, t2, t3, t4⟩ := hcs k hkl
   rw [← BX.out.cell (p := ⟨b, _, none⟩) hb] at t0 t1 t2 t3 t4
   have hzb : b < wr.heap.size := by have := BX.out.size; omega
   have hd := HF.out.clocks.dev k hkl
   have hlo := off_look HF.out.clocks S.trips[k]!.dev
   rw [if_pos hd] at hlo
   have hob := off_bound HF.out.clocks S.trips[k]!.dev
   have hfit := tripFit_of (HF.out.trips k hkl)
   have hss := sentS_succ S hkl
   have hok := wayErrT_zero S.trips (wayErr_zero HW.out) S.trips[k]! (by rw [getElem!_pos S.trips k hkl]; exact List.getElem_mem hkl)
   obtain ⟨t, ht⟩ : ∃ t, t = S.trips[k]! := ⟨_, rfl⟩
   rw [← ht] at t0 t1 t2 t3 hlo hob hfit hss hok hv
   obtain ⟨L, hst, _⟩ := hok
   obtain ⟨o, ho⟩ : ∃ o, o = offOf S.clocks t.dev := ⟨_, rfl⟩
   rw [← ho] at hlo hob
   obtain ⟨av, m, cv, rfl, _, _, _⟩ := hv.open
   have HV := Lib.hid hv
   have HLO := Lib.hid hlo
   have HFIT := Lib.hid hfit
   have HST := Lib.hid hst
   have HOO := Lib.hid ho
   have hso : sentOf S t = sentT S t L L.length := by unfold sentOf; rw [hst]
   rw [hso] at hss
   have HSS := Lib.hid hss
   obtain ⟨ho1, ho2⟩ := hob
   have hk1 : (0 : Int) ≤ (k : Int) := by omega
   have hk2 : (k : Int) < (n3 : Int) := by omega
   clear hcs hd ht hlo hfit hv ho hst hss hso
   go_wp2_with fail
   obtain ⟨W1, hW1⟩ : ∃ W1, W1 = wr.alloc (.cells #[.int .i64 t.obj, .int .i64 t.dev, .int .i64 t.start, .int .i64 t.speed, .slice av m cv] 61) := ⟨_, rfl⟩
   obtain ⟨bt, hbt⟩ : ∃ z, wr.heap.size = z := ⟨_, rfl⟩
   have PT := Lib.hid (obj_last wr (.cells #[.int .i64 t.obj, .int .i64 t.dev, .int .i64 t.start, .int .i64 t.speed, .slice av m cv] 61))
   have BW := Lib.hid ((Below.refl wr.heap.size wr).alloc (Nat.le_refl _) (.cells #[.int .i64 t.obj, .int .i64 t.dev, .int .i64 t.start, .int .i64 t.speed, .slice av m cv] 61))
   have zW1 : bt < W1.heap.size := by rw [hW1, ← hbt]; simp
   have hbt2 : w2.heap.size ≤ bt := by have := hB.out.size; omega
   rw [hbt] at PT ⊢
   rw [← hW1] at PT BW ⊢
   have BT := Lib.hid (BX.out.trans (BW.out.mono BX.out.size))
   have B2T := Lib.hid (hB.out.trans (BW.out.mono hB.out.size))
   have PX1 := Lib.hid (keepObj BW.out PX.out)
   have HO1 := Lib.hid (hO.out.keep BW.out)
   have zW2 := BW.out.size
   clear hW1 hbt
   refine (stopsW_any S t v1 v2 _ _ _ _ W1 ((HS.out.net.keep BT.out (Nat.le_refl _)).mono (by have := BT.out.size; omega)) ((HV.out.keep BT.out (Nat.le_refl _)).mono (by have := BT.out.size; omega)) HFIT.out.vis HK.out HF.out.few HF.out.gap HFIT.out.speed HFIT.out.start HFIT.out.few HFIT.out.wait).mono ?_
   rintro e w3 ⟨hR, hb3⟩
   rw [HST.out] at hR
   obtain ⟨vl, rfl, hOL, hL256⟩ := hR
   have BT3 := Lib.hid (BT.out.trans (hb3.mono BT.out.size))
   have B23 := Lib.hid (B2T.out.trans (hb3.mono B2T.out.size))
   have PT3 := Lib.hid (keepObj hb3 PT.out)
   have PX3 := Lib.hid (keepObj hb3 PX1.out)
   have HO3 := Lib.hid (HO1.out.keep hb3)
   have hOL2 := hOL.mono (B' := w2.heap.size) (by have := B2T.out.size; omega)
   obtain ⟨al, nl, cl, rfl⟩ := hOL2.val
   have hnl := hOL2.sl.len
   rw [List.length_map] at hnl
   have HNL := Lib.hid hnl
   have HR := Lib.hid (stops_rise HK.out HF.out.few HF.out.gap HFIT.out HST.out).1
   have HOL := Lib.hid hOL2
   rw [hnl] at hL256
   have hstart := HFIT.out.start
   clear hb3 hOL hOL2 hnl t0 t1 t2 t3 t4 l0 l1 l2 l3 l4 l5 PT PX1 HO1 BW B2T BT zW1 zW2 hzb
   obtain ⟨Wp, rfl⟩ : ∃ z : World, z = wr := ⟨_, rfl⟩
   go_wp2_with fail
   go_loopw [5, 39] (fun s5 s39 wx => ∃ (q : Nat) (vb : Value) (nb : Nat), s39 = .int .i64 q ∧ vb = s5 ∧ q ≤ nl ∧ nb = na + q ∧ Hid (Ow w2.heap.size wx 100 9 vb ((sentS S k ++ sentT S t L q).map Snt.cs)) ∧ Hid (Ow w2.heap.size wx 66 2 (.slice al nl cl) (L.map Stp.cs)) ∧ Hid (wx.heap[bt]? = some (.cells #[.int .i64 t.obj, .int .i64 t.dev, .int .i64 t.start, .int .i64 t.speed, .slice av m cv] 61)) ∧ Hid (Below w2.heap.size w2 wx)) (fun _ s39 _ => nl - (intOf s39).toNat)
   case atStart => exact ⟨0, _, na, rfl, rfl, Nat.zero_le _, rfl, by show Ow _ _ _ _ _ _; simpa [sentT] using HO3.out, HOL.out, PT3.out, B23.out⟩
   case round =>
    obtain ⟨q, vb, nb, rfl, rfl, hq, hnb, hOq, hLq, hTq, hBq⟩ := hrel
    by_cases hlq : q < nl
    ·have hql : q < L.length := by rw [HNL.out]; exact hlq
     obtain ⟨gl, rfl⟩ : ∃ g, al = some ⟨g, 0, none⟩ := by
      rcases hLq.out.shape with ⟨_, e⟩ | ⟨g, cap, e, _⟩
      ·rw [List.map_eq_nil_iff] at e; rw [e] at hql; simp at hql
      ·injection e with e1; exact ⟨g, e1⟩
     have x0 := hLq.out.cell q (by rw [List.length_map]; exact hql) 0 (by omega)
     have x1 := hLq.out.cell q (by rw [List.length_map]; exact hql) 1 (by omega)
     simp only [List.getElem_map] at x0 x1
     have hxm : L[q] ∈ L := List.getElem_mem hql
     have hxt := HR.out.2 _ hxm
     obtain ⟨x, hx⟩ : ∃ z, L[q] = z := ⟨_, rfl⟩
     rw [hx] at x0 x1 hxt
     simp only [Stp.cs, List.getElem?_cons_succ, List.getElem?_cons_zero, Nat.add_zero] at x0 x1
     have HX := Lib.hid (show L[q]! = x by rw [getElem!_pos L q hql]; exact hx)
     obtain ⟨hx1, hx2⟩ := hxt
     have hsum : IntKind.i64.wrap (x.time + o) = x.time + o := IntWalk.i64_in _ (by omega)
     have zgl := (hLq.out.blk gl rfl).2
     have t0 := obj_cell hTq.out 0
     have t1 := obj_cell hTq.out 1
     simp at t0 t1
     have zt := obj_lt hTq.out
     have PXq := keepObj hBq.out PW.out
     have l0 := obj_cell PXq 0
     have l1 := obj_cell PXq 1
     have l2 := obj_cell PXq 2
     have l3 := obj_cell PXq 3
     have l4 := obj_cell PXq 4
     have l5 := obj_cell PXq 5
     simp at l0 l1 l2 l3 l4 l5
     have zbq := obj_lt PXq
     have hBw := hBq.out.size
     have BXq := Lib.hid (B2.out.trans (hBq.out.mono B2.out.size))
     have HNWq := Lib.hid ((HS.out.net.keep BXq.out (Nat.le_refl _)).mono (B' := wr.heap.size) (by have := BXq.out.size; omega))
     have hlk := lens_one (w := wr.alloc (.cells #[.int .i64 x.time, .int .i64 x.node] 66)) ((HI.out.keep hBq.out).keep ((Below.refl wr.heap.size wr).alloc (Nat.le_refl _) (.cells #[.int .i64 x.time, .int .i64 x.node] 66))) t.dev _ HLO.out
     have hq1 : (0 : Int) ≤ (q : Int) := by omega
     have hq2 : (q : Int) < (nl : Int) := by omega
     have wq : IntKind.i64.wrap (q : Int) = (q : Int) := IntWalk.i64_in _ (by omega)
     obtain ⟨ab, n', cb, rfl⟩ := hOq.out.val
     have hnb' := hOq.out.sl.len
     have hnn : n' = nb := by
      rw [List.length_map, List.length_append, HLEN.out] at hnb'
      unfold sentT at hnb'
      simp at hnb'
      omega
     subst hnn
     have HNB := Lib.hid (show n' = (sentS S k ++ sentT S t L q).length by rw [List.length_append, HLEN.out]; unfold sentT; simp; omega)
     have hnbb : n' ≤ 20000 := by omega
     have HNBQ := Lib.hid hnb
     clear hxm hx PXq hnb' hnb
     go_wp2_with fail
     refine (point_any S _ _ _ _ _ _ _ (HNWq.out.later (by (repeat (first | with_reducible exact Below.refl _ _ | with_reducible assumption | ((with_reducible first | refine Below.setCell ?_ ?_ _ | refine Below.alloc ?_ ?_ _); rotate_left; focus (first | exact Nat.le_refl _ | omega | exact Below.size (by assumption) | (simp <;> omega))) | with_reducible refine Below.drew ?_ | with_reducible refine drewN_ ?_ _)))) HK.out ⟨_, _, _, rfl⟩ ⟨_, _, _, rfl⟩ ⟨_, _, _, rfl⟩).mono ?_
     rintro e w4 ⟨rfl, hb4⟩
     have PX4 := Lib.hid (keepObj hb4 (obj_old (o' := .cells #[.int .i64 t.obj, .int .i64 q, .int .i64 0, .int .i64 t.dev, .int .i64 (x.time + o), .int .i64 0, .int .i64 0, .bool false] 68) (obj_last wr (.cells #[.int .i64 x.time, .int .i64 x.node] 66))))
     have PR4 := Lib.hid (keepObj hb4 (obj_last2 wr (.cells #[.int .i64 x.time, .int .i64 x.node] 66) (.cells #[.int .i64 t.obj, .int .i64 q, .int .i64 0, .int .i64 t.dev, .int .i64 (x.time + o), .int .i64 0, .int .i64 0, .bool false] 68)))
     have B4 := from_ (w := wr) hb4 (by (repeat (first | with_reducible exact Below.refl _ _ | with_reducible assumption | ((with_reducible first | refine Below.setCell ?_ ?_ _ | refine Below.alloc ?_ ?_ _); rotate_left; focus (first | exact Nat.le_refl _ | omega | exact Below.size (by assumption) | (simp <;> omega))) | with_reducible refine Below.drew ?_ | with_reducible refine drewN_ ?_ _)))
     obtain ⟨px, hpx⟩ : ∃ z, ((nodeOf S.net.nodes x.node).getD nd0).x = z := ⟨_, rfl⟩
     obtain ⟨py, hpy⟩ : ∃ z, ((nodeOf S.net.nodes x.node).getD nd0).y = z := ⟨_, rfl⟩
     rw [hpx, hpy]
     have HPX := Lib.hid hpx
     have HPY := Lib.hid hpy
     obtain ⟨b13, hb13⟩ : ∃ z, wr.heap.size + 1 = z := ⟨_, rfl⟩
     obtain ⟨b12, hb12⟩ : ∃ z, wr.heap.size = z := ⟨_, rfl⟩
     have h12 : wr.heap.size ≤ b12 := by omega
     have h13 : wr.heap.size ≤ b13 := by omega
     have h1213 : b12 ≠ b13 := by omega
     rw [hb13] at PR4 ⊢
     rw [hb12] at PX4 ⊢
     clear hb4 hb12 hb13 hpx hpy hlk l0 l1 l2 l3 l4 l5 x0 x1 t0 t1
     have y0 := obj_cell PR4.out 0
     have y1 := obj_cell PR4.out 1
     have y2 := obj_cell PR4.out 2
     have y3 := obj_cell PR4.out 3
     have y4 := obj_cell PR4.out 4
     have y5 := obj_cell PR4.out 5
     have y6 := obj_cell PR4.out 6
     have y7 := obj_cell PR4.out 7
     have y5f := obj_free PR4.out 5
     have y6f := obj_free PR4.out 6
     have x0 := obj_cell PX4.out 0
     simp at y0 y1 y2 y3 y4 y5 y6 y7 x0
     have z12 := obj_lt PX4.out
     have z13 := obj_lt PR4.out
     have HOWN : Hid (∀ W, Below wr.heap.size wr W → W.ownsRow w2.heap.size 100 9 (.slice ab n' cb) n' ((sentS S k ++ sentT S t L q).map Snt.cs).flatten) := fun W hW => by
      have qq := (hOq.out.keep hW).1
      rw [List.length_map, ← HNB.out] at qq
      exact qq
     have hBw4 : w2.heap.size ≤ w4.heap.size := by have := B4.size; omega
     go_wp2_with (at_builtin; refine wpList_append_lies _ (by rfl) _ _ _ (by rfl) w2.heap.size 100 sn0_ _ 9 72 uSentT sni sn0 sn1 sn2 rfl (by decide) (.slice ab n' cb) n' ((sentS S k ++ sentT S t L q).map Snt.cs).flatten (by rfl) (HOWN.out _ (by (repeat (first | with_reducible exact Below.refl _ _ | with_reducible assumption | ((with_reducible first | refine Below.setCell ?_ ?_ _ | refine Below.alloc ?_ ?_ _); rotate_left; focus (first | exact Nat.le_refl _ | omega | exact Below.size (by assumption) | (simp <;> omega))) | with_reducible refine Below.drew ?_ | with_reducible refine drewN_ ?_ _)))) ⟨w4.heap.size, 0, none⟩ 1 1 ((⟨x.time, ⟨t.obj, q, 0, t.dev, x.time + o, px, py, false⟩⟩ : Snt).cs) (by rfl) rfl (World.news_of_block (cs := #[.int .i64 x.time, .int .i64 t.obj, .int .i64 q, .int .i64 0, .int .i64 t.dev, .int .i64 (x.time + o), .int .i64 px, .int .i64 py, .bool false]) (t := 100) (fr := (0, 0)) (obj_lastS _ _ _ _ _ _)) (snt_cell1 _) (by omega) (by unfold maxLen; omega) (by omega) (by have := hBw4; first | omega | (simp; omega)) _ rfl ?_; intro g2 cap2 w7 hown2 hgrow2 hat2 hlt2; have hall2 : wr.grownBy w7 (Value.ownBlock (.slice ab n' cb)) := (grown_of (by (repeat (first | with_reducible exact Below.refl _ _ | with_reducible assumption | ((with_reducible first | refine Below.setCell ?_ ?_ _ | refine Below.alloc ?_ ?_ _); rotate_left; focus (first | exact Nat.le_refl _ | omega | exact Below.size (by assumption) | (simp <;> omega))) | with_reducible refine Below.drew ?_ | with_reducible refine drewN_ ?_ _)))).trans hgrow2; have HALL2 := Lib.hid hall2; have HOWN2 := Lib.hid hown2; clear hgrow2 hat2 hall2 hown2)
     go_roundw
     case rel =>
      have e : sentS S k ++ sentT S t L (q + 1) = (sentS S k ++ sentT S t L q) ++ [(⟨x.time, ⟨t.obj, q, 0, t.dev, x.time + o, px, py, false⟩⟩ : Snt)] := by
       rw [sentT_succ, ← List.append_assoc, HX.out]
       unfold rptOf
       rw [HPX.out, HPY.out, ← HOO.out]
      refine ⟨q + 1, _, n' + 1, by go_num, rfl, by omega, by have := HNBQ.out; omega, ?_, ?_, ?_, ?_⟩
      ·show Ow _ _ _ _ _ _
       rw [e]
       exact snt_add HNB.out HOWN2.out
      ·exact hLq.out.kept HALL2.out (rows_apart hOq.out hLq.out (by decide))
      ·exact (HALL2.out.block bt zt (fun e => absurd (hOq.out.type _ e.symm _ _ _ hTq.out) (by decide))).trans hTq.out
      ·exact hBq.out.grown HALL2.out hBq.out.size (fun b hb => (hOq.out.blk b hb).1)
     case measure => simp [intOf]; omega
    ·obtain rfl : q = nl := by omega
     have hlq' : ¬(q : Int) < (q : Int) := by omega
     go_wp2_with fail
     go_roundw
     case rel =>
      have e : sentS S (k + 1) = sentS S k ++ sentT S t L q := by rw [HSS.out, HNL.out]
      refine ⟨k + 1, _, na + q, by go_num, rfl, by omega, by omega, ?_, ?_, hBq.out⟩
      ·rw [e, List.length_append, HLEN.out]; unfold sentT; simp
      ·show Ow _ _ _ _ _ _; rw [e]; exact hOq.out
     case measure => simp [intOf]; omega
  ·obtain rfl : k = n3 := by omega
   have hlt' : ¬(k : Int) < (k : Int) := by omega
   have hO' := hO.out
   rw [← HN3.out] at hO'
   obtain ⟨A, hA⟩ : ∃ A, sentS S S.trips.length = A := ⟨_, rfl⟩
   have hne := HNE.out
   have hfew := HFEW.out
   rw [hA] at hO' hne hfew
   obtain ⟨g, cap, rfl⟩ : ∃ g cap, va = .slice (some ⟨g, 0, none⟩) A.length cap := by
    rcases hO'.shape with ⟨_, e⟩ | ⟨g, cap, e, _⟩
    ·rw [List.map_eq_nil_iff] at e; rw [e] at hne; simp at hne
    ·rw [List.length_map] at e; exact ⟨g, cap, e⟩
   have HO' := Lib.hid hO'
   have HA := Lib.hid hA
   have HFEWA := Lib.hid hfew
   clear l0 l1 l2 l3 l4 l5 hO' hA hne
   obtain ⟨Wp, rfl⟩ : ∃ z : World, z = wr := ⟨_, rfl⟩
   obtain ⟨nA, hnA⟩ : ∃ z, A.length = z := ⟨_, rfl⟩
   have HSTB := Lib.hid (stabSent_any A Wp HO'.out hfew)
   rw [hnA] at HSTB hfew ⊢
   have HNA := Lib.hid hnA
   clear hnA
   go_wp2_with fail
   refine HSTB.out.mono ?_
   rintro e' w4 ⟨rfl, hS4, hg4, hl4⟩
   have HS4 := Lib.hid (hS4.mono (B' := w2.heap.size) (Nat.le_refl _))
   have B4 := Lib.hid (hB.out.grown hg4 hB.out.size (fun b hb => by cases hb; exact (HO'.out.blk g rfl).1))
   have HL4 := Lib.hid hl4
   clear hS4 hg4 hl4
   go_wp2_with fail
   go_loopw [14, 79] (fun s14 s79 wx => ∃ (q : Nat) (vo : Value), s79 = .int .i64 q ∧ vo = s14 ∧ q ≤ nA ∧ Hid (Ow w2.heap.size wx 68 8 vo (((sntSort A).take q).map fun s => s.r.cs)) ∧ Hid (Ow w2.heap.size wx 100 9 (.slice (some ⟨g, 0, none⟩) nA cap) ((sntSort A).map Snt.cs)) ∧ Hid (Below w2.heap.size w2 wx)) (fun _ s79 _ => nA - (intOf s79).toNat)
   case atStart => exact ⟨0, _, rfl, rfl, Nat.zero_le _, Ow.nil _ _ _ _, HS4.out, B4.out⟩
   case round =>
    obtain ⟨q, vo, rfl, rfl, hq, hOo, hOs, hBq⟩ := hrel
    by_cases hlq : q < nA
    ·have hql : q < (sntSort A).length := by rw [HL4.out]; exact hlq
     have x0 := hOs.out.cell q (by rw [List.length_map]; exact hql) 0 (by omega)
     have x1 := hOs.out.cell q (by rw [List.length_map]; exact hql) 1 (by omega)
     have x2 := hOs.out.cell q (by rw [List.length_map]; exact hql) 2 (by omega)
     have x3 := hOs.out.cell q (by rw [List.length_map]; exact hql) 3 (by omega)
     have x4 := hOs.out.cell q (by rw [List.length_map]; exact hql) 4 (by omega)
     have x5 := hOs.out.cell q (by rw [List.length_map]; exact hql) 5 (by omega)
     have x6 := hOs.out.cell q (by rw [List.length_map]; exact hql) 6 (by omega)
     have x7 := hOs.out.cell q (by rw [List.length_map]; exact hql) 7 (by omega)
     have x8 := hOs.out.cell q (by rw [List.length_map]; exact hql) 8 (by omega)
     simp only [List.getElem_map] at x0 x1 x2 x3 x4 x5 x6 x7 x8
     obtain ⟨y, hy⟩ : ∃ z, (sntSort A)[q] = z := ⟨_, rfl⟩
     rw [hy] at x0 x1 x2 x3 x4 x5 x6 x7 x8
     have HY := Lib.hid hy
     simp only [Snt.cs, List.getElem?_cons_succ, List.getElem?_cons_zero, Nat.add_zero] at x0 x1 x2 x3 x4 x5 x6 x7 x8
     have zg := (hOs.out.blk g rfl).2
     have hBw := hBq.out.size
     obtain ⟨ab, n', cb, rfl⟩ := hOo.out.val
     have hn' := hOo.out.sl.len
     rw [List.length_map, List.length_take, HL4.out] at hn'
     have hnn : n' = q := by omega
     subst hnn
     have HNB := Lib.hid (show n' = ((sntSort A).take n').length by rw [List.length_take, HL4.out]; omega)
     have hq1 : (0 : Int) ≤ (n' : Int) := by omega
     have hq2 : (n' : Int) < (nA : Int) := by omega
     have HOWN : Hid (∀ W, Below wr.heap.size wr W → W.ownsRow w2.heap.size 68 8 (.slice ab n' cb) n' (((sntSort A).take n').map fun s => s.r.cs).flatten) := fun W hW => by
      have qq := (hOo.out.keep hW).1
      rw [List.length_map, ← HNB.out] at qq
      exact qq
     clear hn' hy
     go_wp2_with (at_builtin; refine wpList_append_lies _ (by rfl) _ _ _ (by rfl) w2.heap.size 68 rp0_ _ 8 64 uRptT rpi rp0 rp1 rp2 rfl (by decide) (.slice ab n' cb) n' (((sntSort A).take n').map fun s => s.r.cs).flatten (by rfl) (HOWN.out _ (by (repeat (first | with_reducible exact Below.refl _ _ | with_reducible assumption | ((with_reducible first | refine Below.setCell ?_ ?_ _ | refine Below.alloc ?_ ?_ _); rotate_left; focus (first | exact Nat.le_refl _ | omega | exact Below.size (by assumption) | (simp <;> omega))) | with_reducible refine Below.drew ?_ | with_reducible refine drewN_ ?_ _)))) ⟨wr.heap.size + 1, 0, none⟩ 1 1 (y.r.cs) (by rfl) rfl (World.news_of_block (cs := #[.int .i64 y.r.obj, .int .i64 y.r.seq, .int .i64 y.r.ver, .int .i64 y.r.dev, .int .i64 y.r.at_, .int .i64 y.r.x, .int .i64 y.r.y, .bool y.r.cancel]) (t := 68) (fr := (0, 0)) (obj_last2 _ _ _)) (rpt_cell1 _) (by omega) (by unfold maxLen; omega) (by omega) (by have := hBw; first | omega | (simp; omega)) _ rfl ?_; intro g2 cap2 w7 hown2 hgrow2 hat2 hlt2; have hall2 : wr.grownBy w7 (Value.ownBlock (.slice ab n' cb)) := (grown_of (by (repeat (first | with_reducible exact Below.refl _ _ | with_reducible assumption | ((with_reducible first | refine Below.setCell ?_ ?_ _ | refine Below.alloc ?_ ?_ _); rotate_left; focus (first | exact Nat.le_refl _ | omega | exact Below.size (by assumption) | (simp <;> omega))) | with_reducible refine Below.drew ?_ | with_reducible refine drewN_ ?_ _)))).trans hgrow2; have HALL2 := Lib.hid hall2; have HOWN2 := Lib.hid hown2; clear hgrow2 hat2 hall2 hown2)
     go_roundw
     case rel =>
      refine ⟨n' + 1, _, by go_num, rfl, by omega, ?_, ?_, ?_⟩
      ·show Ow _ _ _ _ _ _
       rw [List.take_add_one, List.getElem?_eq_getElem hql, HY.out]
       exact rpt_add HNB.out HOWN2.out
      ·exact hOs.out.kept HALL2.out (rows_apart hOo.out hOs.out (by decide))
      ·exact hBq.out.grown HALL2.out hBq.out.size (fun b hb => (hOo.out.blk b hb).1)
     case measure => simp [intOf]; omega
    ·obtain rfl : q = nA := by omega
     have hlq' : ¬(q : Int) < (q : Int) := by omega
     have HOF := hOo.out
     rw [List.take_of_length_le (by rw [HL4.out]; exact Nat.le_refl _)] at HOF
     have HOFH := Lib.hid HOF
     clear HOF
     go_wp2_with fail
     go_ret2
     exact ⟨⟨_, rfl, by rw [HA.out]; exact HOFH.out.mono B2.out.size⟩, B2.out.trans (hBq.out.mono B2.out.size)⟩
end Go.Proofs.YtmplajpbmojkkaaGreat
namespace Go.Proofs.YtmplajpbmojkkaaGreat
open Go Go.Vi Go.Sort
/-- Strictly rising, behind lo. -/
def RiseS (lo hi : Int) (L : List Stp) : Prop := L.Pairwise (fun a b => a.time < b.time) ∧ ∀ x ∈ L, lo < x.time ∧ x.time ≤ hi
theorem RiseS.nil (lo hi : Int) : RiseS lo hi [] := ⟨List.Pairwise.nil, fun x hx => by cases hx⟩
theorem RiseS.append {lo mid hi : Int} {A B : List Stp} (h : RiseS lo mid A) (h2 : RiseS mid hi B) (h1 : lo ≤ mid) (h3 : mid ≤ hi) : RiseS lo hi (A ++ B) := by
 refine ⟨List.pairwise_append.2 ⟨h.1, h2.1, fun a ha b hb => by have := (h.2 a ha).2; have := (h2.2 b hb).1; omega⟩, fun x hx => ?_⟩
 rcases List.mem_append.1 hx with g | g
 ·have := h.2 x g; omega
 ·have := h2.2 x g; omega
theorem RiseS.up {lo hi hi' : Int} {A : List Stp} (h : RiseS lo hi A) (hh : hi ≤ hi') : RiseS lo hi' A := ⟨h.1, fun x hx => by have := h.2 x hx; omega⟩
theorem moves_strict (l : List (Int × Int)) (h : ∀ p ∈ l, 1 ≤ p.2) : ∀ now, RiseS now (gone now l) (moves now l) ∧ now ≤ gone now l := by
 induction l with
 | nil => intro now; exact ⟨RiseS.nil _ _, Int.le_refl _⟩
 | cons p l ih =>
  intro now
  obtain ⟨d, t⟩ := p
  have ht : 1 ≤ t := h (d, t) List.mem_cons_self
  obtain ⟨h1, h2⟩ := ih (fun q hq => h q (List.mem_cons_of_mem _ hq)) (now + t)
  simp only [moves, gone]
  refine ⟨⟨List.pairwise_cons.2 ⟨fun x hx => (h1.2 x hx).1, h1.1⟩, fun x hx => ?_⟩, by omega⟩
  rcases List.mem_cons.1 hx with rfl | hx
  ·exact ⟨by show now < now + t; omega, h2⟩
  ·have := h1.2 x hx; omega
theorem waits_strict (gap node : Int) (hg : 1 ≤ gap) : ∀ (k : Nat) (now fin : Int), now ≤ fin → RiseS now fin (waits gap node k now fin)
 | 0, now, fin, h => RiseS.nil _ _
 | k + 1, now, fin, h => by
  unfold waits
  split
  ·rename_i hlt
   have h1 := waits_strict gap node hg k (min (now + gap) fin) fin (by omega)
   refine ⟨List.pairwise_cons.2 ⟨fun x hx => (h1.2 x hx).1, h1.1⟩, fun x hx => ?_⟩
   rcases List.mem_cons.1 hx with rfl | hx
   ·exact ⟨by show now < min (now + gap) fin; omega, by show min (now + gap) fin ≤ fin; omega⟩
   ·have := h1.2 x hx; omega
  ·exact RiseS.nil _ _
theorem tour_strict {S : Scn} (hK : NetOK S.net) (hsz : S.net.roads.length ≤ 100) (hg : 1 ≤ S.gap ∧ S.gap ≤ 1073741824) {speed : Int} (hs : 1 ≤ speed ∧ speed ≤ 1048576) : ∀ (vs : List Vis) (p : Option Int) (now : Int) (rest : List Stp), (∀ v ∈ vs, 0 ≤ v.wait ∧ v.wait ≤ 1073741824) → tour S speed p now vs = .ok rest → RiseS now (now + vs.length * 215822106624) rest
 | [], _, now, rest, _, h => by unfold tour at h; injection h with h; subst h; exact RiseS.nil _ _
 | v :: vs, p, now, rest, hw, h => by
  unfold tour at h
  split at h
  ·cases h
  ·rename_i l hl
   split at h
   ·cases h
   ·rename_i rest2 hr
    injection h with h
    subst h
    obtain ⟨hl1, hl2⟩ := driveIf_good hK hsz hs hl
    have hv := hw v List.mem_cons_self
    have h1 := moves_strict l (fun p hp => (hl2 p hp).1) now
    have h2 := gone_le l S.gap hl2 now
    have h3 : (l.length : Int) * S.gap ≤ 200 * 1073741824 := Int.mul_le_mul (by omega) hg.2 (by omega) (by omega)
    have h4 := waits_strict S.gap v.node hg.1 v.wait.toNat (gone now l) (gone now l + v.wait) (by omega)
    have h5 := tour_strict hK hsz hg hs vs (some v.node) (gone now l + v.wait) rest2 (fun u hu => hw u (List.mem_cons_of_mem _ hu)) hr
    have hlen : (((v :: vs).length : Nat) : Int) = (vs.length : Int) + 1 := by simp
    rw [hlen]
    exact ((h1.1.append h4 h1.2 (by omega)).append h5 (by omega) (by omega)).up (by omega)
theorem stops_strict {S : Scn} (hK : NetOK S.net) (hsz : S.net.roads.length ≤ 100) (hg : 1 ≤ S.gap ∧ S.gap ≤ 1073741824) {t : Trp} (ht : TripFit t) {L : List Stp} (h : stopsS S t = .ok L) : L.Pairwise (fun a b => a.time < b.time) := by
 unfold stopsS at h
 split at h
 ·cases h
 ·rename_i rest hr
  split at h
  ·cases h
  ·rename_i hlen
   injection h with h
   subst h
   have h1 := tour_strict hK hsz hg ht.speed t.vis none t.start rest (fun v hv => by
    obtain ⟨i, hi, rfl⟩ := List.getElem_of_mem hv
    have := ht.wait i hi
    rw [getElem!_pos t.vis i hi] at this; exact this) hr
   exact List.pairwise_cons.2 ⟨fun x hx => (h1.2 x hx).1, h1.1⟩
/-- Where the model's insertion puts a report. -/
def posT (l : List Snt) (x : Int) : Nat → Nat
 | 0 => 0
 | k + 1 => if x < l[k]!.time then posT l x k else k + 1
theorem posT_le (l : List Snt) (x : Int) : ∀ k, posT l x k ≤ k
 | 0 => Nat.le_refl _
 | k + 1 => by
  unfold posT
  split
  ·exact Nat.le_succ_of_le (posT_le l x k)
  ·exact Nat.le_refl _
theorem posT_stop (l : List Snt) (x : Int) : ∀ k, posT l x k = 0 ∨ ∃ j, posT l x k = j + 1 ∧ l[j]!.time ≤ x
 | 0 => .inl rfl
 | k + 1 => by
  unfold posT; split
  ·exact posT_stop l x k
  ·exact .inr ⟨k, rfl, by omega⟩
theorem posT_behind (l : List Snt) (x : Int) : ∀ k i, posT l x k ≤ i → i < k → x < l[i]!.time
 | 0, i, _, h => by omega
 | k + 1, i, h1, h2 => by
  unfold posT at h1
  split at h1
  ·rcases Nat.lt_or_ge i k with h | h
   ·exact posT_behind l x k i h1 h
   ·have : i = k := by omega
    subst this; assumption
  ·omega
def insT (l : List Snt) (x : Snt) : List Snt := l.take (posT l x.time l.length) ++ x :: l.drop (posT l x.time l.length)
def insAll (A : List Snt) : List Snt := A.foldl insT []
theorem insAll_snoc (A : List Snt) (x : Snt) : insAll (A ++ [x]) = insT (insAll A) x := by unfold insAll; rw [List.foldl_append]; rfl
/-- The order in which reports come. -/
def Comes (a b : Snt) : Prop := a.r.obj < b.r.obj ∨ (a.r.obj = b.r.obj ∧ a.time < b.time)
theorem insT_perm (l : List Snt) (x : Snt) : (insT l x).Perm (x :: l) := by
 unfold insT
 have := List.perm_middle (a := x) (l₁ := l.take (posT l x.time l.length)) (l₂ := l.drop (posT l x.time l.length))
 rwa [List.take_append_drop] at this
theorem insT_sorted {l : List Snt} {x : Snt} (h : l.Pairwise sntLt) (hx : ∀ y ∈ l, Comes y x) : (insT l x).Pairwise sntLt := by
 obtain ⟨p, hp⟩ : ∃ p, posT l x.time l.length = p := ⟨_, rfl⟩
 have h1 := posT_le l x.time l.length
 have h2 := posT_stop l x.time l.length
 have h3 := posT_behind l x.time l.length
 unfold insT
 rw [hp] at h1 h2 h3 ⊢
 refine List.pairwise_append.2 ⟨h.take, List.pairwise_cons.2 ⟨fun y hy => ?_, h.drop⟩, fun u hu v hv => ?_⟩
 ·obtain ⟨i, hi, rfl⟩ := List.mem_iff_getElem.1 hy
  simp only [List.length_drop] at hi
  rw [List.getElem_drop]
  have := h3 (p + i) (by omega) (by omega)
  rw [getElem!_pos l _ (by omega)] at this
  exact .inl this
 ·obtain ⟨i, hi, rfl⟩ := List.mem_iff_getElem.1 hu
  simp only [List.length_take] at hi
  have hui : (l.take p)[i] = l[i] := List.getElem_take
  have hux : sntLt (l.take p)[i] x := by
   rw [hui]
   have hc := hx l[i] (List.getElem_mem _)
   have ht : l[i].time ≤ x.time := by
    rcases h2 with h2 | ⟨j, h2, h4⟩
    ·omega
    ·rw [getElem!_pos l j (by omega)] at h4
     rcases Nat.lt_or_ge i j with h5 | h5
     ·have := List.pairwise_iff_getElem.1 h i j (by omega) (by omega) h5
      unfold sntLt at this
      omega
     ·have : i = j := by omega
      subst this; exact h4
   unfold Comes at hc
   unfold sntLt
   omega
  rcases List.mem_cons.1 hv with rfl | hv
  ·exact hux
  ·obtain ⟨j, hj, rfl⟩ := List.mem_iff_getElem.1 hv
   simp only [List.length_drop] at hj
   rw [List.getElem_drop]
   have := h3 (p + j) (by omega) (by omega)
   rw [getElem!_pos l _ (by omega)] at this
   unfold sntLt at hux ⊢
   omega
theorem rev_ind {α : Type} {P : List α → Prop} (h0 : P []) (h1 : ∀ A x, P A → P (A ++ [x])) (A : List α) : P A := by
 have h : ∀ R : List α, P R.reverse := fun R => by
  induction R with
  | nil => exact h0
  | cons x R ih => rw [List.reverse_cons]; exact h1 _ _ ih
 have := h A.reverse
 rwa [List.reverse_reverse] at this
theorem insAll_perm (A : List Snt) : (insAll A).Perm A := by
 refine rev_ind (P := fun A => (insAll A).Perm A) List.Perm.nil (fun A x ih => ?_) A
 rw [insAll_snoc]
 refine (insT_perm _ _).trans ?_
 refine (ih.cons x).trans ?_
 exact (List.perm_append_singleton x A).symm
theorem insAll_sorted {A : List Snt} : A.Pairwise Comes → (insAll A).Pairwise sntLt := by
 refine rev_ind (P := fun A => A.Pairwise Comes → (insAll A).Pairwise sntLt) (fun _ => List.Pairwise.nil) (fun A x ih h => ?_) A
 rw [insAll_snoc]
 obtain ⟨h1, _, h2⟩ := List.pairwise_append.1 h
 exact insT_sorted (ih h1) fun y hy => h2 y ((insAll_perm A).mem_iff.1 hy) x (by simp)
/-- Two ascending lists of the same reports, one of them strictly so, are one list. -/
theorem sorted_one : ∀ {L M : List Snt}, L.Perm M → L.Pairwise sntLt → M.Pairwise (fun a b => ¬sntLt b a) → M = L
 | [], M, hp, _, _ => by rw [List.nil_perm.1 hp]
 | a :: L, [], hp, _, _ => by have := hp.length_eq; simp at this
 | a :: L, b :: M, hp, hl, hm => by
  obtain ⟨h1, h2⟩ := List.pairwise_cons.1 hl
  obtain ⟨h3, h4⟩ := List.pairwise_cons.1 hm
  have e : b = a := by
   have hb : b ∈ a :: L := hp.mem_iff.2 List.mem_cons_self
   have ha : a ∈ b :: M := hp.mem_iff.1 List.mem_cons_self
   rcases List.mem_cons.1 hb with hb | hb
   ·exact hb
   ·rcases List.mem_cons.1 ha with ha | ha
    ·exact ha.symm
    ·exact absurd (h1 b hb) (h3 a ha)
  subst e
  rw [sorted_one ((List.perm_cons b).1 hp) h2 h4]
/-- What a right scenario's reports are: they come object by object, and rise in time. -/
theorem sentT_get {S : Scn} {t : Trp} {L : List Stp} {q i : Nat} (h : i < (sentT S t L q).length) : (sentT S t L q)[i] = rptOf S t i L[i]! := by
 unfold sentT
 simp
theorem sentT_len (S : Scn) (t : Trp) (L : List Stp) (q : Nat) : (sentT S t L q).length = q := by unfold sentT; simp
theorem sentT_comes {S : Scn} {t : Trp} {L : List Stp} (h : L.Pairwise (fun a b => a.time < b.time)) : (sentT S t L L.length).Pairwise Comes := by
 refine List.pairwise_iff_getElem.2 fun i j hi hj hij => ?_
 rw [sentT_len] at hi hj
 rw [sentT_get, sentT_get]
 refine .inr ⟨rfl, ?_⟩
 show L[i]!.time < L[j]!.time
 rw [getElem!_pos L i hi, getElem!_pos L j hj]
 exact List.pairwise_iff_getElem.1 h i j hi hj hij
theorem sentT_obj {S : Scn} {t : Trp} {L : List Stp} {q : Nat} : ∀ x ∈ sentT S t L q, x.r.obj = t.obj := by
 intro x hx
 unfold sentT at hx
 obtain ⟨i, _, rfl⟩ := List.mem_map.1 hx
 rfl
theorem sentOf_obj {S : Scn} {t : Trp} : ∀ x ∈ sentOf S t, x.r.obj = t.obj := by
 intro x hx
 unfold sentOf at hx
 split at hx
 ·exact sentT_obj x hx
 ·cases hx
theorem objs_rise {S : Scn} (h : TripsOK S) {i : Nat} : ∀ {j : Nat}, i < j → j < S.trips.length → S.trips[i]!.obj < S.trips[j]!.obj
 | 0, h1, _ => by omega
 | j + 1, h1, h2 => by
  have e := (tripErr_zero (h (j + 1) h2)).2.1
  have e2 : lastOf S.trips (j + 1) = S.trips[j]!.obj := by unfold lastOf; simp
  rw [e2] at e
  rcases Nat.lt_or_ge i j with h3 | h3
  ·have := objs_rise h (j := j) h3 (by omega); omega
  ·have : i = j := by omega
   subst this; exact e
theorem sentS_comes {S : Scn} (hF : Fit S) (hW : wayErr S = 0) : ∀ k, k ≤ S.trips.length → (sentS S k).Pairwise Comes ∧ ∀ x ∈ sentS S k, ∃ i, i < k ∧ x.r.obj = S.trips[i]!.obj
 | 0, _ => ⟨by simp [sentS], fun x hx => by simp [sentS] at hx⟩
 | k + 1, h => by
  have hk : k < S.trips.length := h
  obtain ⟨h1, h2⟩ := sentS_comes hF hW k (Nat.le_of_lt hk)
  rw [sentS_succ S hk]
  obtain ⟨L, hst, _⟩ := wayErrT_zero S.trips (wayErr_zero hW) S.trips[k]! (by rw [getElem!_pos S.trips k hk]; exact List.getElem_mem hk)
  have hfit := tripFit_of (hF.trips k hk)
  have hs := stops_strict (netOK_of hF.net) hF.few hF.gap hfit hst
  have e : sentOf S S.trips[k]! = sentT S S.trips[k]! L L.length := by unfold sentOf; rw [hst]
  refine ⟨List.pairwise_append.2 ⟨h1, by rw [e]; exact sentT_comes hs, fun a ha b hb => ?_⟩, fun x hx => ?_⟩
  ·obtain ⟨i, hi, ho⟩ := h2 a ha
   refine .inl ?_
   rw [ho, sentOf_obj b hb]
   exact objs_rise hF.trips hi hk
  ·rcases List.mem_append.1 hx with hx | hx
   ·obtain ⟨i, hi, ho⟩ := h2 x hx; exact ⟨i, by omega, ho⟩
   ·exact ⟨k, by omega, sentOf_obj x hx⟩
theorem reports_one {S : Scn} (hF : Fit S) (hW : wayErr S = 0) {M : List Snt} (hp : M.Perm (sentS S S.trips.length)) (hs : M.Pairwise (fun a b => ¬sntLt b a)) : M = insAll (sentS S S.trips.length) :=
 sorted_one ((insAll_perm _).trans hp.symm) (insAll_sorted (sentS_comes hF hW _ (Nat.le_refl _)).1) hs
end Go.Proofs.YtmplajpbmojkkaaGreat
