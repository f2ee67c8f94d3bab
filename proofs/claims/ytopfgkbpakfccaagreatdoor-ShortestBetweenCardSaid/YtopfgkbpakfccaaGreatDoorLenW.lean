/-
  A grid that comes in as the argument, opened; a list of ints; a byte.
  Known, the walk.
  The laws' own functions: index.
  CheckLengths, exactly.
  The law's lengths are the program's.
  The law of lengths, walked.
-/
import Derived.Test.YtopfgkbpakfccaaGreatDoorRatA
import Derived.ProofKit
import Derived.OpenShut
import Derived.ChangeOld
import Derived.Deep.Slices
import Derived.Test.YtopfgkbpakfccaaGreatDoorShoH
import Derived.Test.YtopfgkbpakfccaaGreatDoorLwE
import Derived.Test.YtopfgkbpakfccaaGreatDoorNetD
set_option linter.unusedSimpArgs false
set_option linter.unusedVariables false
namespace Go.Vi
open Go Go.RowKit Go.ChangeShapes Go.WideShapes
theorem has_addr {P : Program} {w : World} {r : Reach} {base n : Nat} {a : Addr} {e : TypeId} (h : World.has P w r base a e n) : a.spot = none ∧ a.block < w.heap.size := by
  obtain ⟨_, hs, row, cells, hsh, _⟩ := h
  refine ⟨hs, ?_⟩
  unfold World.shape? at hsh
  split at hsh
  · rename_i c t f hc
    rcases Nat.lt_or_ge a.block w.heap.size with h1 | h1
    · exact h1
    · rw [Array.getElem?_eq_none h1] at hc; cases hc
  · cases hsh
theorem okCell_slice {P : Program} {w : World} {r : Reach} {base len cap : Nat} {a : Addr} {u e : TypeId} (hu : P.underlying u = some (.slice e)) (h : Cell.okWide P w r base u (.slice (some a) len cap)) : a.spot = none ∧ a.block < w.heap.size := by
  simp only [Cell.okWide, hu, Cell.ok] at h
  exact has_addr h.2.2
theorem add_none {a : Addr} (h : a.spot = none) (n : Nat) : a.add n = ⟨a.block, a.off + n, none⟩ := by
  unfold Addr.add
  split
  · rename_i h0
    subst h0
    cases a
    simp only at h
    subst h
    rfl
  · rfl
end Go.Vi
namespace Go.Proofs.YtopfgkbpakfccaaGreatDoor
open Go Go.RowKit Go.Vi Go.ChangeShapes Go.WideShapes Go.Deep
section
variable {H : Type} {enc : TypeId × Value → H} {P : Program} {w : World} {spare : Nat → Bool} {held : Bool}
theorem rows_open {α : Type} [Inhabited α] {cs : α → List Value} {k : Nat} {fits : α → Prop} (hck : ∀ a, (cs a).length = k) (hk : 0 < k) {t e : TypeId} {fuel : Nat} {v : Value} {x : DataW H × List MemPlace} (ht : P.underlying t = some (.slice e)) (hce : P.cellsOf e = k)
    (hel : ∀ (n : Nat) (c : List Value) (y : DataW H × List MemPlace), DataW.trod enc P w 0 spare held n e c = some y → c.length = k → ∃ a, c = cs a ∧ fits a)
    (h : DataW.trod enc P w 0 spare held fuel t [v] = some x) :
    ∃ L : List α, (∀ a ∈ L, fits a) ∧ ((∀ ad n c, v = .slice (some ad) n c → ad.spot = none ∧ ad.block < w.heap.size) → Sl w.heap.size w k v (L.map cs)) ∧ (∀ n c, v = .slice none n c → c = 0) := by
  rcases open_slice ht h with ⟨hcs, _⟩ | ⟨a, len, cap, m, n, D, Pl, hcs, _, hl, hm, hmm, _, hcell⟩
  · simp only [List.cons.injEq, and_true] at hcs
    subst hcs
    have hs : Sl w.heap.size w k (.slice none 0 0) (([] : List α).map cs) := ⟨none, 0, rfl, Nat.le_refl _, Nat.zero_le _, (fun r hr => by cases hr), (fun _ => rfl), (fun ad h => by cases h)⟩
    exact ⟨[], (fun a ha => by cases ha), (fun _ => hs), (fun n c h => by injection h with _ _ h; exact h.symm)⟩
  · simp only [List.cons.injEq, and_true] at hcs
    subst hcs
    rw [hce] at hcell
    have hlm : len ≤ m := by rw [hmm]; split <;> omega
    obtain ⟨f, hf⟩ := choose_lt (α := α) (p := fun i al => w.cells? 0 (a.add (i * k)) k = some (cs al) ∧ fits al) (n := len) (fun i hi => by
      obtain ⟨c, h1, h2⟩ := hcell i (by omega)
      obtain ⟨_, hlen, _⟩ := World.cells?_some h1
      obtain ⟨al, rfl, hfit⟩ := hel _ _ _ h2 hlen
      exact ⟨al, h1, hfit⟩)
    refine ⟨(List.range len).map f, fun y hy => ?_, fun hv => ?_, fun n c h => by cases h⟩
    · obtain ⟨i, hi, rfl⟩ := List.mem_map.1 hy
      exact (hf i (by simpa using hi)).2
    · obtain ⟨hspot, hblk⟩ := hv a len cap rfl
      refine ⟨some a, cap, by simp, by simpa using hl, hm, fun r hr => ?_, (fun h => by cases h), fun ad had => ?_⟩
      · obtain ⟨y, _, rfl⟩ := List.mem_map.1 hr
        exact hck y
      · injection had with had
        subst had
        refine ⟨hspot, hblk, fun i hi c y hy => ?_⟩
        have hi' : i < len := by simpa using hi
        simp only [List.getElem_map, List.getElem_range] at hy
        obtain ⟨_, _, hc⟩ := World.cells?_some (hf i hi').1
        have hck' : c < k := by
          rw [← hck (f i)]
          exact (List.getElem?_eq_some_iff.1 hy).1
        have := hc c hck'
        rw [add_add, add_none hspot, hy, ← Nat.add_assoc] at this
        exact this
end
section
variable {H : Type} {enc : TypeId × Value → H} {w : World} {spare : Nat → Bool} {held : Bool}
theorem byte_of {n : Int} (h : (Lit.int .u8 n).wf = true) : Byte n := by
  simp [Lit.wf] at h
  unfold Byte
  first
    | omega
    | (simp [IntKind.min, IntKind.max, IntKind.signed, IntKind.bits] at h; omega)
theorem trod_u8 {n : Nat} {c : Value} {y : DataW H × List MemPlace} (h : DataW.trod enc Tryz.prog w 0 spare held n 5 [c] = some y) : ∃ k, c = .int .u8 k ∧ Byte k := by
  obtain ⟨k, hc, _, hw⟩ := DataW.trod_int Tryz.underlying5 h
  simp at hc
  exact ⟨k, hc, byte_of hw⟩
theorem len2 {c : List Value} (h : c.length = 2) : ∃ a b, c = [a, b] := by
  match c, h with
  | [a, b], _ => exact ⟨a, b, rfl⟩
theorem len5 {c : List Value} (h : c.length = 5) : ∃ a b d e f, c = [a, b, d, e, f] := by
  match c, h with
  | [a, b, d, e, f], _ => exact ⟨a, b, d, e, f, rfl⟩
theorem field_of {n : Nat} {t : TypeId} {fs : Array Field} {c : List Value} {y : DataW H × List MemPlace} (ht : Tryz.prog.underlying t = some (.struct fs)) (h : DataW.trod enc Tryz.prog w 0 spare held n t c = some y) (i : Nat) {f : Field} (hf : fs[i]? = some f) {ty : TypeId} {off sz : Nat} (hty : f.type = ty) (ho : f.offset = off) (hs : Tryz.prog.cellsOf ty = sz) : ∃ m z, DataW.trod enc Tryz.prog w 0 spare held m ty ((c.drop off).take sz) = some z := by
  obtain ⟨xs, m, _, _, _, hlen, hx⟩ := DataW.trod_struct ht h
  have h1 := hx i f hf
  have hi : i < xs.length := by rw [hlen]; exact (Array.getElem?_eq_some_iff.1 hf).1
  rw [List.getElem?_eq_getElem hi, hty, ho, hs] at h1
  exact ⟨m, _, h1⟩
theorem c4 : Tryz.prog.cellsOf 4 = 1 := by kernel_rfl
theorem c5 : Tryz.prog.cellsOf 5 = 1 := by kernel_rfl
theorem c3 : Tryz.prog.cellsOf 3 = 1 := by kernel_rfl
theorem c22 : Tryz.prog.cellsOf 22 = 1 := by kernel_rfl
theorem c23 : Tryz.prog.cellsOf 23 = 1 := by kernel_rfl
theorem c25 : Tryz.prog.cellsOf 25 = 2 := by kernel_rfl
theorem c124 : Tryz.prog.cellsOf 97 = 2 := by kernel_rfl
theorem c126 : Tryz.prog.cellsOf 99 = 5 := by kernel_rfl
theorem spot_open (n : Nat) (c : List Value) (y : DataW H × List MemPlace) (h : DataW.trod enc Tryz.prog w 0 spare held n 97 c = some y) (hl : c.length = 2) : ∃ a, c = Spt.cs a ∧ a.fits := by
  obtain ⟨a, b, rfl⟩ := len2 hl
  obtain ⟨_, _, h0⟩ := field_of Tryz.underlying97 h 0 rfl rfl rfl c5
  obtain ⟨_, _, h1⟩ := field_of Tryz.underlying97 h 1 rfl rfl rfl c5
  obtain ⟨x, rfl, hx⟩ := trod_u8 (c := a) h0
  obtain ⟨z, rfl, hz⟩ := trod_u8 (c := b) h1
  exact ⟨⟨x, z⟩, rfl, hx, hz⟩
theorem lane_open (n : Nat) (c : List Value) (y : DataW H × List MemPlace) (h : DataW.trod enc Tryz.prog w 0 spare held n 99 c = some y) (hl : c.length = 5) : ∃ a, c = Lne.cs a ∧ a.fits := by
  obtain ⟨a, b, d, e, f, rfl⟩ := len5 hl
  obtain ⟨_, _, h0⟩ := field_of Tryz.underlying99 h 0 rfl rfl rfl c5
  obtain ⟨_, _, h1⟩ := field_of Tryz.underlying99 h 1 rfl rfl rfl c5
  obtain ⟨_, _, h2⟩ := field_of Tryz.underlying99 h 2 rfl rfl rfl c5
  obtain ⟨_, _, h3⟩ := field_of Tryz.underlying99 h 3 rfl rfl rfl c5
  obtain ⟨_, _, h4⟩ := field_of Tryz.underlying99 h 4 rfl rfl rfl c4
  obtain ⟨x0, rfl, g0⟩ := trod_u8 (c := a) h0
  obtain ⟨x1, rfl, g1⟩ := trod_u8 (c := b) h1
  obtain ⟨x2, rfl, g2⟩ := trod_u8 (c := d) h2
  obtain ⟨x3, rfl, g3⟩ := trod_u8 (c := e) h3
  obtain ⟨x4, hc, _⟩ := DataW.trod_bool Tryz.underlying4 (cs := [f]) h4
  simp at hc
  subst hc
  exact ⟨⟨x0, x1, x2, x3, x4⟩, rfl, g0, g1, g2, g3⟩
theorem types25 : Tryz.prog.cellTypes Tryz.prog.depth 25 = some [22, 23] := by kernel_rfl
theorem arr2 {cs : Array Value} (h : cs.size = 2) : ∃ a b, cs = #[a, b] := by
  obtain ⟨l⟩ := cs
  match l, h with
  | [a, b], _ => exact ⟨a, b, rfl⟩
/-- A grid as it lies in memory. -/
structure GrdAt (B : Nat) (w : World) (vp vq : Value) (P : List Spt) (Q : List Lne) : Prop where
  sp : Sl B w 2 vp (P.map Spt.cs)
  ln : Sl B w 5 vq (Q.map Lne.cs)
  fp : ∀ s ∈ P, s.fits
  fq : ∀ l ∈ Q, l.fits
  nil : ∀ n c, vq = .slice none n c → c = 0
theorem GrdAt.later {w w' : World} {vp vq : Value} {P : List Spt} {Q : List Lne} (h : GrdAt w.heap.size w vp vq P Q) (hb : Below w.heap.size w w') : GrdAt w'.heap.size w' vp vq P Q := ⟨h.sp.later hb, h.ln.later hb, h.fp, h.fq, h.nil⟩
set_option maxRecDepth 100000 in
theorem grid_open {r : Reach} {base : Nat} {v : Value} {d : DataW H} {p : List MemPlace} (hv : Value.okWide Tryz.prog w r base 25 v) (h : DataW.Trod enc Tryz.prog w 0 spare held 25 v d p) :
    ∃ (P : List Spt) (Q : List Lne) (vp vq : Value), v = .agg #[vp, vq] ∧ GrdAt w.heap.size w vp vq P Q := by
  simp only [Value.okWide, Tryz.underlying25] at hv
  obtain ⟨cs, rfl, hsz, ts, hts, _, hcell⟩ := hv
  rw [types25] at hts
  injection hts with hts
  subst hts
  rw [c25] at hsz
  obtain ⟨a0, a1, rfl⟩ := arr2 hsz
  obtain ⟨fuel, hf⟩ := h
  have hf' : DataW.trod enc Tryz.prog w 0 spare held fuel 25 [a0, a1] = some (d, p) := hf
  obtain ⟨_, _, k0⟩ := field_of Tryz.underlying25 hf' 0 rfl rfl rfl c22
  obtain ⟨_, _, k1⟩ := field_of Tryz.underlying25 hf' 1 rfl rfl rfl c23
  obtain ⟨u0, e0, q0⟩ := hcell 0 a0 rfl
  obtain ⟨u1, e1, q1⟩ := hcell 1 a1 rfl
  have e0' : u0 = 22 := by simpa using e0.symm
  have e1' : u1 = 23 := by simpa using e1.symm
  subst e0' e1'
  obtain ⟨L0, f0, s0, _⟩ := rows_open (α := Spt) (cs := Spt.cs) (k := 2) (fits := Spt.fits) (v := a0) (fun _ => rfl) (by decide) Tryz.underlying22 c124 spot_open k0
  obtain ⟨L1, f1, s1, z1⟩ := rows_open (α := Lne) (cs := Lne.cs) (k := 5) (fits := Lne.fits) (v := a1) (fun _ => rfl) (by decide) Tryz.underlying23 c126 lane_open k1
  refine ⟨L0, L1, a0, a1, rfl, ⟨s0 ?_, s1 ?_, f0, f1, z1⟩⟩
  · rintro ad n c rfl; exact okCell_slice (P := Tryz.prog) (u := 22) Tryz.underlying22 q0
  · rintro ad n c rfl; exact okCell_slice (P := Tryz.prog) (u := 23) Tryz.underlying23 q1
theorem c61 : Tryz.prog.cellsOf 61 = 2 := by kernel_rfl
set_option maxRecDepth 100000 in
theorem where_at {n : Nat} {a b : Value} {y : DataW H × List MemPlace} (h : DataW.trod enc Tryz.prog w 0 spare held n 61 [a, b] = some y) : ∃ x z : Int, a = .int .u8 x ∧ b = .int .u8 z ∧ Byte x ∧ Byte z := by
  obtain ⟨_, _, h0⟩ := field_of Tryz.underlying61 h 0 rfl rfl rfl c5
  obtain ⟨_, _, h1⟩ := field_of Tryz.underlying61 h 1 rfl rfl rfl c5
  obtain ⟨x, rfl, hx⟩ := trod_u8 (c := a) h0
  obtain ⟨z, rfl, hz⟩ := trod_u8 (c := b) h1
  exact ⟨x, z, rfl, rfl, hx, hz⟩
set_option maxRecDepth 100000 in
theorem where_open {r : Reach} {base : Nat} {v : Value} {d : DataW H} {p : List MemPlace} (hv : Value.okWide Tryz.prog w r base 61 v) (h : DataW.Trod enc Tryz.prog w 0 spare held 61 v d p) :
    ∃ x y : Int, v = .agg #[.int .u8 x, .int .u8 y] ∧ Byte x ∧ Byte y := by
  simp only [Value.okWide, Tryz.underlying61] at hv
  obtain ⟨cs, rfl, hsz, _⟩ := hv
  rw [c61] at hsz
  obtain ⟨a, b, rfl⟩ := arr2 hsz
  obtain ⟨fuel, hf⟩ := h
  obtain ⟨x, y, rfl, rfl, hx, hy⟩ := where_at (a := a) (b := b) hf
  exact ⟨x, y, rfl, hx, hy⟩
end
end Go.Proofs.YtopfgkbpakfccaaGreatDoor
namespace Go.Proofs.YtopfgkbpakfccaaGreatDoor
open Go Go.RowKit Go.Vi
attribute [local go_sem ↓] lo_lt lo_ne lo_ne'
attribute [local go_sem] junk_cell junk_frozen junk_setCell junk_drew drew_junk
attribute [local go_sem] rc_size rowN_alloc_at rowN_alloc rowN_junk rowN_drew rowN_drewN setRow_alloc_at setRow_alloc setRow_junk setRow_drew
set_option maxRecDepth 100000 in
set_option maxHeartbeats 1000000 in
theorem known_q (w : World) : Calls Tryz.prog 14 #[] w fun e w' => e = .returned (.bool true) ∧ Below w.heap.size w w' := by
  have HW1 : Hid (∀ w', Calls Tryz.prog 22 #[.int .i64 1] w' fun e w2 => e = .returned (.agg #[.bool (zs exP.off.num), .string (zx exP.off.num), .bool false, .string (ry exP.off.den)]) ∧ Below w'.heap.size w' w2) := Lib.hid (fun w' => whole_q 1 w' (by decide))
  have HW2 : Hid (∀ w', Calls Tryz.prog 22 #[.int .i64 2] w' fun e w2 => e = .returned (.agg #[.bool (zs exQ.off.num), .string (zx exQ.off.num), .bool false, .string (ry exQ.off.den)]) ∧ Below w'.heap.size w' w2) := Lib.hid (fun w' => whole_q 2 w' (by decide))
  have HWX : Hid (∀ w', Calls Tryz.prog 22 #[.int .i64 10] w' fun e w2 => e = .returned (.agg #[.bool (zs exC1.len.num), .string (zx exC1.len.num), .bool false, .string (ry exC1.len.den)]) ∧ Below w'.heap.size w' w2) := Lib.hid (fun w' => by rw [exLen]; exact whole_q 10 w' (by decide))
  have HBW : Hid (∀ w' v1 v2, NetAt w'.heap.size w' v1 v2 exN → Calls Tryz.prog 21 #[.agg #[v1, v2], .agg #[.int .i64 2, .bool (zs exP.off.num), .string (zx exP.off.num), .bool false, .string (ry exP.off.den)], .agg #[.int .i64 1, .bool (zs exQ.off.num), .string (zx exQ.off.num), .bool false, .string (ry exQ.off.den)]] w' fun e w2 => ∃ a c, e = .returned (.tuple #[.agg #[.int .i64 2, .bool (zs exP.off.num), .string (zx exP.off.num), .bool false, .string (ry exP.off.den), .int .i64 1, .bool (zs exQ.off.num), .string (zx exQ.off.num), .bool false, .string (ry exQ.off.den), .slice a 3 c, .bool (zs exC1.len.num), .string (zx exC1.len.num), .bool false, .string (ry exC1.len.den)], .int .i64 0]) ∧ Below w'.heap.size w' w2) := Lib.hid (fun w' v1 v2 hN => (between_q exN (rtN exN) (rtN_of exN) v1 v2 exP exQ w' hN exN_ok (by decide) exFit).mono (by
    rw [exBw]
    rintro e w2 ⟨v, rfl, ho, hb⟩
    obtain ⟨a, n, c, rfl, hn, _⟩ := ho.sl.open
    rw [List.length_map, exLegs] at hn
    subst hn
    exact ⟨a, c, rfl, hb⟩))
  generalize zs exP.off.num = s1 at HW1 HBW
  generalize zx exP.off.num = x1 at HW1 HBW
  generalize ry exP.off.den = y1 at HW1 HBW
  generalize zs exQ.off.num = s2 at HW2 HBW
  generalize zx exQ.off.num = x2 at HW2 HBW
  generalize ry exQ.off.den = y2 at HW2 HBW
  generalize zs exC1.len.num = s3 at HWX HBW
  generalize zx exC1.len.num = x3 at HWX HBW
  generalize ry exC1.len.den = y3 at HWX HBW
  go_enter Tryz.func14, Tryz.ntmps14
  go_wp2_with fail
  refine (example_q _).mono ?_
  rintro e w2 ⟨⟨v1, v2, rfl, o1, o2⟩, hb2⟩
  obtain ⟨X2, rfl⟩ := below_some hb2
  have HN1 := Lib.hid (show NetAt _ _ v1 v2 exN from ⟨o1.sl, o2.sl⟩)
  obtain ⟨a1, n1, c1, rfl⟩ := o1.val
  obtain ⟨a2, n2, c2, rfl⟩ := o2.val
  clear o1 o2 hb2
  go_wp2_with fail
  refine (lengths_q exN (dsN exN) (dsN_of exN) 1 _ _ _ HN1.out exN_ok (by decide)).mono ?_
  rw [exLens]
  rintro e w3 ⟨vl, rfl, ol, hb3⟩
  obtain ⟨X3, rfl⟩ := below_some hb3
  have HOL := Lib.hid ol
  obtain ⟨al, nl, cl, rfl⟩ := ol.val
  clear ol hb3 HN1
  go_wp2_with fail
  refine (example_q _).mono ?_
  rintro e w4 ⟨⟨v3, v4, rfl, o1, o2⟩, hb4⟩
  obtain ⟨X4, rfl⟩ := below_some hb4
  have HN2 := Lib.hid (show NetAt _ _ v3 v4 exN from ⟨o1.sl, o2.sl⟩)
  obtain ⟨a3, n3, c3, rfl⟩ := o1.val
  obtain ⟨a4, n4, c4, rfl⟩ := o2.val
  clear o1 o2 hb4
  go_wp2_with fail
  refine (findRoute_some exN (rtN exN) (rtN_of exN) 3 2 _ 8 _ _ _ HN2.out exN_ok (by decide) exRt32').mono ?_
  rintro e w5 ⟨vn, vr, rfl, hrt, hb5⟩
  obtain ⟨X5, rfl⟩ := below_some hb5
  have HRT := Lib.hid hrt.1
  obtain ⟨an, nn, cn, rfl⟩ := hrt.1.val
  obtain ⟨ar, nr, cr, rfl⟩ := hrt.2.val
  clear hrt hb5 HN2
  go_wp2_with fail
  refine (example_q _).mono ?_
  rintro e w6 ⟨⟨v5, v6, rfl, o1, o2⟩, hb6⟩
  obtain ⟨X6, rfl⟩ := below_some hb6
  have HN3 := Lib.hid (show NetAt _ _ v5 v6 exN from ⟨o1.sl, o2.sl⟩)
  obtain ⟨a5, n5, c5, rfl⟩ := o1.val
  obtain ⟨a6, n6, c6, rfl⟩ := o2.val
  clear o1 o2 hb6
  go_wp2_with fail
  refine (jk (HW1.out _)).mono ?_
  rintro e _ ⟨rfl, X7, rfl⟩
  go_wp2_with fail
  refine (jk (HW2.out _)).mono ?_
  rintro e _ ⟨rfl, X8, rfl⟩
  go_wp2_with fail
  refine (HBW.out _ _ _ (HN3.out.later (by exact Bw.b))).mono ?_
  rintro e w9 ⟨ab, cb, rfl, hb9⟩
  obtain ⟨X9, rfl⟩ := below_some hb9
  clear hb9 HN3 HBW HW1 HW2
  go_wp2_with (first | (refine wl_store (op := ⟨none, .store _ (.tmp 5) (.tmp 24), _, _, _, _⟩) (by rfl) _ _ rfl iWy _ (by rfl) #[.int .i64 2, .bool s1, .string x1, .bool false, .string y1, .int .i64 1, .bool s2, .string x2, .bool false, .string y2, .slice ab 3 cb, .bool s3, .string x3, .bool false, .string y3] (by rfl) (by simp [go_sem]) rfl (by simp [Value.oneCell']) ?_) | fail)
  obtain ⟨W, hW⟩ : ∃ W, W = (((((((((w.junk X2).junk X3).junk X4).junk X5).alloc (.cells #[.slice an nn cn, .slice ar nr cr, .int .i64 8] 34)).junk X6).junk X7).junk X8).junk X9).alloc (.cells #[.int .i64 2, .bool s1, .string x1, .bool false, .string y1, .int .i64 1, .bool s2, .string x2, .bool false, .string y2, .slice ab 3 cb, .bool s3, .string x3, .bool false, .string y3] 55) := ⟨_, rfl⟩
  rw [← hW]
  have e0 : W.cell? ⟨((((w.junk X2).junk X3).junk X4).junk X5).heap.size, 0, none⟩ = some (.slice an nn cn) := by rw [hW]; simp [go_sem]
  have e2 : W.cell? ⟨((((w.junk X2).junk X3).junk X4).junk X5).heap.size, 2, none⟩ = some (.int .i64 8) := by rw [hW]; simp [go_sem]
  have HB5 : Hid (W.heap[(((((((((w.junk X2).junk X3).junk X4).junk X5).alloc (.cells #[.slice an nn cn, .slice ar nr cr, .int .i64 8] 34)).junk X6).junk X7).junk X8).junk X9).heap.size]? = some (.cells #[.int .i64 2, .bool s1, .string x1, .bool false, .string y1, .int .i64 1, .bool s2, .string x2, .bool false, .string y2, .slice ab 3 cb, .bool s3, .string x3, .bool false, .string y3] 55 (0, 0))) := Lib.hid (by rw [hW]; exact obj_last _ _)
  haveI l3 : Lo ((((w.junk X2).junk X3).junk X4).junk X5).heap.size W := by rw [hW]; infer_instance
  haveI bw : Bw w W := by rw [hW]; infer_instance
  have HSA : Hid (Sl W.heap.size W 1 (.slice al nl cl) ([0, 5, 11].map i1)) := Lib.hid (by rw [hW]; exact HOL.out.sl.later Bw.b)
  have HSB : Hid (Sl W.heap.size W 1 (.slice an nn cn) ([3, 1, 2].map i1)) := Lib.hid (by rw [hW]; exact HRT.out.sl.later Bw.b)
  clear hW HOL HRT
  generalize (((((((((w.junk X2).junk X3).junk X4).junk X5).alloc (.cells #[.slice an nn cn, .slice ar nr cr, .int .i64 8] 34)).junk X6).junk X7).junk X8).junk X9).heap.size = b5 at *
  generalize ((((w.junk X2).junk X3).junk X4).junk X5).heap.size = b3 at *
  haveI l5 : Lo b5 W := ⟨obj_lt HB5.out⟩
  have f10 : W.cell? ⟨b5, 10, none⟩ = some (.slice ab 3 cb) := obj_cell HB5.out 10
  have f11 : W.cell? ⟨b5, 11, none⟩ = some (.bool s3) := obj_cell HB5.out 11
  have f12 : W.cell? ⟨b5, 12, none⟩ = some (.string x3) := obj_cell HB5.out 12
  have f13 : W.cell? ⟨b5, 13, none⟩ = some (.bool false) := obj_cell HB5.out 13
  have f14 : W.cell? ⟨b5, 14, none⟩ = some (.string y3) := obj_cell HB5.out 14
  have HA : Hid (∀ (w' : World) [Bw W w'] (bl : Nat), w'.heap[bl]? = some (.cells #[.int .i64 0, .int .i64 5, .int .i64 11] 3 (0, 0)) → Calls Tryz.prog 19 #[.slice al nl cl, .slice (some ⟨bl, 0, none⟩) 3 3] w' fun e w2 => e = .returned (.bool true) ∧ Below w'.heap.size w' w2) := Lib.hid (fun w' _ bl hb =>
    sameInts_q [0, 5, 11] [0, 5, 11] _ _ w' (HSA.out.later Bw.b) (own_blk (B := 0) (k := 1) (n := 3) (rows := ([0, 5, 11] : List Int).map i1) hb (by rfl) (Nat.zero_le _) rfl (by intro r hr; obtain ⟨y, _, rfl⟩ := List.mem_map.1 hr; rfl) (by unfold maxLen; omega)).sl (by decide) (by decide))
  have HB : Hid (∀ (w' : World) [Bw W w'] (bl : Nat), w'.heap[bl]? = some (.cells #[.int .i64 3, .int .i64 1, .int .i64 2] 3 (0, 0)) → Calls Tryz.prog 19 #[.slice an nn cn, .slice (some ⟨bl, 0, none⟩) 3 3] w' fun e w2 => e = .returned (.bool true) ∧ Below w'.heap.size w' w2) := Lib.hid (fun w' _ bl hb =>
    sameInts_q [3, 1, 2] [3, 1, 2] _ _ w' (HSB.out.later Bw.b) (own_blk (B := 0) (k := 1) (n := 3) (rows := ([3, 1, 2] : List Int).map i1) hb (by rfl) (Nat.zero_le _) rfl (by intro r hr; obtain ⟨y, _, rfl⟩ := List.mem_map.1 hr; rfl) (by unfold maxLen; omega)).sl (by decide) (by decide))
  clear HSA HSB HB5
  go_region_held3 (fun w' => w'.cell? ⟨b3, 0, none⟩ = some (.slice an nn cn) ∧ w'.cell? ⟨b3, 2, none⟩ = some (.int .i64 8) ∧ w'.cell? ⟨b5, 10, none⟩ = some (.slice ab 3 cb) ∧ w'.cell? ⟨b5, 11, none⟩ = some (.bool s3) ∧ w'.cell? ⟨b5, 12, none⟩ = some (.string x3) ∧ w'.cell? ⟨b5, 13, none⟩ = some (.bool false) ∧ w'.cell? ⟨b5, 14, none⟩ = some (.string y3)) (refine ⟨?_, ?_, ?_, ?_, ?_, ?_, ?_⟩ <;> simp [go_sem, e0, e2, f10, f11, f12, f13, f14]) (first | ((with_reducible refine (jk (HA.out _ _ ?_)).mono ?_); (first | exact obj_last _ _ | exact obj_at' (by simp)); rintro e _ ⟨rfl, X, rfl⟩) | ((with_reducible refine (jk (HB.out _ _ ?_)).mono ?_); (first | exact obj_last _ _ | exact obj_at' (by simp)); rintro e _ ⟨rfl, X, rfl⟩) | ((with_reducible refine (jk (HWX.out _)).mono ?_); rintro e _ ⟨rfl, X, rfl⟩) | fail)
  all_goals
    go_wp2_with fail
    go_ret
    exact ⟨rfl, Bw.b⟩
end Go.Proofs.YtopfgkbpakfccaaGreatDoor
namespace Go.Proofs.YtopfgkbpakfccaaGreatDoor
open Go Go.RowKit Go.Vi
attribute [local go_sem ↓] lo_lt lo_ne lo_ne'
attribute [local go_sem] junk_cell junk_frozen junk_setCell junk_drew drew_junk
end Go.Proofs.YtopfgkbpakfccaaGreatDoor
namespace Go.Proofs.YtopfgkbpakfccaaGreatDoor
open Go Go.RowKit Go.Vi
attribute [local go_sem ↓] lo_lt lo_ne lo_ne'
attribute [local go_sem] junk_cell junk_frozen junk_setCell junk_drew drew_junk
end Go.Proofs.YtopfgkbpakfccaaGreatDoor
namespace Go.Proofs.YtopfgkbpakfccaaGreatDoor
open Go Go.RowKit Go.Vi
theorem fin_ex (L : List Hp) : ∃ L', Fin L L' := by
  refine ⟨_, L.mergeSort (fun a b => decide (a.dst < b.dst ∨ (a.dst = b.dst ∧ (a.len < b.len ∨ (a.len = b.len ∧ a.road ≤ b.road))))), List.mergeSort_perm _ _, ?_, rfl⟩
  refine List.Pairwise.imp ?_ (List.pairwise_mergeSort ?_ ?_ L)
  · intro a b h
    simp only [decide_eq_true_eq] at h
    unfold hpLt
    omega
  · intro a b c h1 h2
    simp only [decide_eq_true_eq] at h1 h2 ⊢
    omega
  · intro a b
    simp only [Bool.or_eq_true, decide_eq_true_eq]
    omega
/-- What is left of each node's hops. -/
noncomputable def finA (n : Net) (u : Int) : List Hp := (fin_ex (hopsG n.roads u)).choose
theorem finA_of (n : Net) (u : Int) : Fin (hopsG n.roads u) (finA n u) := (fin_ex (hopsG n.roads u)).choose_spec
theorem node_ids {n : Net} {x : Int} (h : (nodeOf n.nodes x).isSome = true) : x ∈ idsN n := by
  unfold nodeOf at h
  rw [List.find?_isSome] at h
  obtain ⟨y, hy, e⟩ := h
  unfold idsN
  rw [List.mem_map]
  exact ⟨y, hy, by simpa using e⟩
theorem hop_ends {n : Net} (hK : NetOK n) {A : Int → List Hp} (hA : ∀ k, Fin (hopsG n.roads k) (A k)) {u : Int} {h : Hp} (hh : h ∈ A u) : u ∈ idsN n ∧ h.dst ∈ idsN n := by
  obtain ⟨r, hr, _, _, h1⟩ := hop_road hA hh
  obtain ⟨_, _, ⟨e1, e2⟩, _⟩ := roadErr_zero (hK.road r hr).2
  rcases h1 with ⟨rfl, h2⟩ | ⟨rfl, h2⟩
  · rw [h2]; exact ⟨node_ids e1, node_ids e2⟩
  · rw [h2]; exact ⟨node_ids e2, node_ids e1⟩
end Go.Proofs.YtopfgkbpakfccaaGreatDoor
namespace Go.Proofs.YtopfgkbpakfccaaGreatDoor
open Go Go.RowKit Go.Vi
attribute [local go_sem ↓] lo_lt lo_ne lo_ne'
attribute [local go_sem] junk_cell junk_frozen junk_setCell junk_drew drew_junk
/-- What a grid is decoded into. -/
structure GNet (n : Net) : Prop where
  ok : NetOK n
  two : 2 ≤ n.nodes.length
  few : n.nodes.length ≤ 8
  one : 1 ≤ n.roads.length
  most : n.roads.length ≤ 13
  len : ∀ r ∈ n.roads, 1 ≤ r.len ∧ r.len ≤ 48
theorem gnet_q {P : List Spt} {Q : List Lne} {vp vq : Value} (w : World) (h : GrdAt w.heap.size w vp vq P Q) :
    Calls Tryz.prog 15 #[.agg #[vp, vq]] w fun e w' => (∃ (v1 v2 : Value) (n : Net), e = .returned (.agg #[v1, v2]) ∧ Ow w.heap.size w' 44 3 v1 (n.nodes.map Nd.cs) ∧ Ow w.heap.size w' 90 6 v2 (n.roads.map Rd.cs) ∧ GNet n) ∧ Below w.heap.size w w' :=
  (network_any P Q vp vq w h.sp h.ln h.fp h.fq h.nil).mono (by
    rintro e w' ⟨⟨v1, v2, N, R, he, o1, o2, h1, h2, h3, h4, h5, h6, h7⟩, hb⟩
    have hok : NetOK ⟨N, R⟩ := netOK_of (netErr_in h5 h2 h6 (by omega))
    exact ⟨⟨v1, v2, ⟨N, R⟩, he, o1, o2, hok, h1, h2, h3, h4, fun r hr => ⟨(hok.len r hr).1, h7 r hr⟩⟩, hb⟩)
theorem known_bw (w : World) : Hid (∀ (w' : World) [Bw w w'], Calls Tryz.prog 14 #[] w' fun e w2 => e = .returned (.bool true) ∧ Below w'.heap.size w' w2) := Lib.hid (fun w' _ => known_q w')
theorem grd_bw {w w' : World} {vp vq : Value} {P : List Spt} {Q : List Lne} [h : Bw w w'] (hX : GrdAt w.heap.size w vp vq P Q) : GrdAt w'.heap.size w' vp vq P Q := hX.later h.b
end Go.Proofs.YtopfgkbpakfccaaGreatDoor
