/-
  Reports that are sent: their comparison, and the stable sort at fewer than 20 of them.
-/
import Derived.Test.YthkhgfdjdpfoiaaP03
import Derived.Test.YthkhgfdjdpfoiaaStabLay
set_option linter.unusedSimpArgs false
set_option linter.unusedVariables false
namespace Go.Proofs.Ythkhgfdjdpfoiaa
open Go Go.RowKit Go.Vi Go.Sort
structure Rpt where (obj seq ver dev at_ x y : Int) (cancel : Bool)
structure Snt where (time : Int) (r : Rpt)
instance : Inhabited Rpt := ⟨⟨0, 0, 0, 0, 0, 0, 0, false⟩⟩
instance : Inhabited Snt := ⟨⟨0, default⟩⟩
def Rpt.cs (r : Rpt) : List Value := [.int .i64 r.obj, .int .i64 r.seq, .int .i64 r.ver, .int .i64 r.dev, .int .i64 r.at_, .int .i64 r.x, .int .i64 r.y, .bool r.cancel]
def Snt.cs (s : Snt) : List Value := [.int .i64 s.time, .int .i64 s.r.obj, .int .i64 s.r.seq, .int .i64 s.r.ver, .int .i64 s.r.dev, .int .i64 s.r.at_, .int .i64 s.r.x, .int .i64 s.r.y, .bool s.r.cancel]
abbrev Snt.v (s : Snt) : Value := .agg #[.int .i64 s.time, .int .i64 s.r.obj, .int .i64 s.r.seq, .int .i64 s.r.ver, .int .i64 s.r.dev, .int .i64 s.r.at_, .int .i64 s.r.x, .int .i64 s.r.y, .bool s.r.cancel]
def sntCmp (a b : Snt) : Int := orI [cmpI a.time b.time, cmpI a.r.obj b.r.obj]
set_option maxHeartbeats 1000000 in
theorem sent1_any (a b : Snt) (w : World) : Calls Try.prog 22 #[a.v, b.v] w fun e w' => e = .returned (.int .i64 (sntCmp a b)) ∧ ∃ q os, w' = Sort.grow (w.drewN q) os := by
  go_enter Try.func22, Try.ntmps22
  go_wp2_with fail
  go_region_held3 (fun w' => w'.cell? ⟨w.heap.size, 0, none⟩ = some (.int .i64 a.time) ∧ w'.cell? ⟨w.heap.size, 1, none⟩ = some (.int .i64 a.r.obj) ∧ w'.cell? ⟨w.heap.size + 1, 0, none⟩ = some (.int .i64 b.time) ∧ w'.cell? ⟨w.heap.size + 1, 1, none⟩ = some (.int .i64 b.r.obj)) (go_keep)
    (first
      | (go_at_call 18; refine (cmp_any _ _ _).mono ?_; rintro e w' ⟨rfl, rfl⟩)
      | (go_at_call 23; refine (or_any [cmpI a.time b.time, cmpI a.r.obj b.r.obj] _ 2 _ _ rfl (by decide) (by intro i hi; rcases i with _ | _ | i <;> first | (simp [go_sem]; done) | omega)).mono ?_; rintro e w' ⟨rfl, rfl⟩))
  go_wp2
  go_ret
  exact ⟨rfl, 1, _, grown3 _ _ _ _⟩
theorem aggSent (w : World) : (isAgg 92).run Try.prog w = .ok true w := by kernel_rfl
theorem sizeSent (w : World) : (Go.sizeOf 92).run Try.prog w = .ok 9 w := by kernel_rfl
theorem sntLays (blk off size : Nat) (w : World) : CmpLays Try.prog 22 #[] Snt.cs 9 sntCmp blk off size w :=
  fun _ _ _ _ x y => sent1_any x y _
def sntLt (a b : Snt) : Prop := a.time < b.time ∨ (a.time = b.time ∧ a.r.obj < b.r.obj)
theorem ltOf_snt (a b : Snt) : ltOf sntCmp a b = true ↔ sntLt a b := by
  have e : ∀ x y : Int, cmpI x y = 0 ∧ x = y ∨ cmpI x y = -1 ∧ x < y ∨ cmpI x y = 1 ∧ y < x := by
    intro x y
    unfold cmpI
    split
    · right; left; exact ⟨rfl, by assumption⟩
    · split
      · right; right; exact ⟨rfl, by assumption⟩
      · left; exact ⟨rfl, by omega⟩
  unfold ltOf sntCmp sntLt
  rcases e a.time b.time with ⟨h, h'⟩ | ⟨h, h'⟩ | ⟨h, h'⟩ <;> rcases e a.r.obj b.r.obj with ⟨h2, h2'⟩ | ⟨h2, h2'⟩ | ⟨h2, h2'⟩ <;> rw [h, h2] <;>
    simp [orI] <;> omega
theorem ltOf_snt_false (a b : Snt) : ltOf sntCmp a b = false ↔ ¬sntLt a b := by rw [← ltOf_snt]; simp
theorem swoSnt : SWO (ltOf sntCmp) where
  irrefl x := by rw [ltOf_snt_false]; unfold sntLt; omega
  trans x y z h1 h2 := by rw [ltOf_snt] at *; unfold sntLt at *; omega
  ntrans x y z h1 h2 := by rw [ltOf_snt_false] at *; unfold sntLt at *; omega
def sntSort (L : List Snt) : List Snt := (Sort.insertionSort (ltOf sntCmp) L.toArray 0 L.length).toList
theorem insSent_any (L : List Snt) {B e g cap : Nat} (w : World) (h : Ow B w e 9 (.slice (some ⟨g, 0, none⟩) L.length cap) (L.map Snt.cs)) (hL : L.length < 20) :
    Calls Try.prog 50 #[.slice (some ⟨g, 0, none⟩) L.length cap, .int .i64 0, .int .i64 L.length, .func (.func 22) #[] #[]] w fun e' w' => e' = .returned (.tuple #[]) ∧ Ow B w' e 9 (.slice (some ⟨g, 0, none⟩) L.length cap) ((sntSort L).map Snt.cs) ∧ w.grownBy w' (some g) ∧ (sntSort L).length = L.length := by
  have eg : ∀ args w, (callFunc 22 args).run Try.prog w = .ok (.enter 22 args) w := enters_of Try.func22 (by kernel_rfl) rfl
  have hcon := AnyQ.insertionSortCmpFunc Try.insSent 9 aggSent sizeSent Snt.cs (fun _ => rfl) (fun x v hv => by simp [Snt.cs] at hv; rcases hv with rfl | rfl | rfl | rfl | rfl | rfl | rfl | rfl | rfl <;> rfl) sntCmp 22 #[] g 0 cap 0 L.length L.toArray w eg (sntLays g 0 L.toArray.size w) (holdsK_of (enc := Snt.cs) (k := 9) (fun _ => rfl) h) (h.blk g rfl).2 (Nat.zero_le _) (by simp) (by simp; omega)
  rw [List.size_toArray] at hcon
  change Calls Try.prog 50 _ _ _ at hcon
  refine hcon.mono ?_
  rintro e' w' ⟨rfl, n, os, rfl⟩
  have hsz : (Sort.insertionSort (ltOf sntCmp) L.toArray 0 L.length).size = L.length := by
    have := (insertionSort_holds swoSnt L.toArray 0 L.length (Nat.zero_le _) (by simp)).1.1
    simpa using this
  refine ⟨rfl, h.sorted (enc := Snt.cs) (k := 9) (fun _ => rfl) n _ os hsz, grownBy_sortK _ _ _ _ _ _ _, by unfold sntSort; simpa using hsz⟩
set_option maxHeartbeats 1000000 in
theorem stabCmp_any (L : List Snt) {B e g cap : Nat} (w : World) (h : Ow B w e 9 (.slice (some ⟨g, 0, none⟩) L.length cap) (L.map Snt.cs)) (hL : L.length < 20) :
    Calls Try.prog 40 #[.slice (some ⟨g, 0, none⟩) L.length cap, .int .i64 L.length, .func (.func 22) #[] #[]] w fun e' w' => e' = .returned (.tuple #[]) ∧ Ow B w' e 9 (.slice (some ⟨g, 0, none⟩) L.length cap) ((sntSort L).map Snt.cs) ∧ w.grownBy w' (some g) ∧ (sntSort L).length = L.length := by
  have HC := Lib.hid (insSent_any L w h hL)
  clear h
  obtain ⟨n, hn⟩ : ∃ z, L.length = z := ⟨_, rfl⟩
  rw [hn] at HC hL ⊢
  have h1 : ¬(20 : Int) ≤ (n : Int) := by omega
  have h2 : ¬(20 : Int) < (n : Int) := by omega
  clear hn
  go_enter Try.func40, Try.ntmps40
  go_wp2_with fail
  go_loopw [7, 8] (fun s7 s8 wr => s7 = .int .i64 0 ∧ s8 = .int .i64 20 ∧ wr = w) (fun _ _ _ => 0)
  case atStart => exact ⟨rfl, rfl, rfl⟩
  case round =>
    obtain ⟨rfl, rfl, rfl⟩ := hrel
    go_wp2_with fail
    refine HC.out.mono ?_
    rintro e' w' ⟨rfl, q1, q2, q3⟩
    have Q1 := Lib.hid q1
    have Q2 := Lib.hid q2
    have Q3 := Lib.hid q3
    clear q1 q2 q3
    go_wp2_with fail
    go_loopw [6] (fun s6 wx => s6 = .int .i64 20 ∧ wx = w') (fun _ _ => 0)
    case atStart => exact ⟨rfl, rfl⟩
    case round =>
      obtain ⟨rfl, rfl⟩ := hrel
      go_wp2_with fail
      go_end0
      exact ⟨rfl, Q1.out, Q2.out, Q3.out⟩
theorem stabSent_any (L : List Snt) {B e g cap : Nat} (w : World) (h : Ow B w e 9 (.slice (some ⟨g, 0, none⟩) L.length cap) (L.map Snt.cs)) (hL : L.length < 20) :
    Calls Try.prog 21 #[.slice (some ⟨g, 0, none⟩) L.length cap, .func (.func 22) #[] #[]] w fun e' w' => e' = .returned (.tuple #[]) ∧ Ow B w' e 9 (.slice (some ⟨g, 0, none⟩) L.length cap) ((sntSort L).map Snt.cs) ∧ w.grownBy w' (some g) ∧ (sntSort L).length = L.length := by
  have HC := Lib.hid (stabCmp_any L w h hL)
  clear h
  obtain ⟨n, hn⟩ : ∃ z, L.length = z := ⟨_, rfl⟩
  rw [hn] at HC hL ⊢
  clear hn
  go_enter Try.func21, Try.ntmps21
  go_wp2_with fail
  refine HC.out.mono ?_
  rintro e' w' ⟨rfl, q1, q2, q3⟩
  have Q1 := Lib.hid q1
  have Q2 := Lib.hid q2
  have Q3 := Lib.hid q3
  clear q1 q2 q3
  go_wp2_with fail
  go_end0
  exact ⟨rfl, Q1.out, Q2.out, Q3.out⟩
end Go.Proofs.Ythkhgfdjdpfoiaa
