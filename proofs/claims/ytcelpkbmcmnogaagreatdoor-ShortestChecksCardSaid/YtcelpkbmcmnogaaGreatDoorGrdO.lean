/-
 A grid that comes in as the argument, opened; a list of ints; a byte.
-/
import Derived.Test.YtcelpkbmcmnogaaGreatDoorRatA
import Derived.ProofKit
import Derived.OpenShut
import Derived.ChangeOld
import Derived.Deep.Slices
set_option linter.unusedSimpArgs false
set_option linter.unusedVariables false
namespace Go.Vi
open Go Go.RowKit Go.ChangeShapes Go.WideShapes
theorem has_addr {P : Program} {w : World} {r : Reach} {base n : Nat} {a : Addr} {e : TypeId} (h : World.has P w r base a e n) : a.spot = none ∧ a.block < w.heap.size := by
 obtain ⟨_, hs, row, cells, hsh, _⟩ := h
 refine ⟨hs, ?_⟩
 unfold World.shape? at hsh
 split at hsh
 ·rename_i c t f hc
  rcases Nat.lt_or_ge a.block w.heap.size with h1 | h1
  ·exact h1
  ·rw [Array.getElem?_eq_none h1] at hc; cases hc
 ·cases hsh
theorem okCell_slice {P : Program} {w : World} {r : Reach} {base len cap : Nat} {a : Addr} {u e : TypeId} (hu : P.underlying u = some (.slice e)) (h : Cell.okWide P w r base u (.slice (some a) len cap)) : a.spot = none ∧ a.block < w.heap.size := by
 simp only [Cell.okWide, hu, Cell.ok] at h
 exact has_addr h.2.2
theorem add_none {a : Addr} (h : a.spot = none) (n : Nat) : a.add n = ⟨a.block, a.off + n, none⟩ := by
 unfold Addr.add
 split
 ·rename_i h0
  subst h0
  cases a
  simp only at h
  subst h
  rfl
 ·rfl
end Go.Vi
namespace Go.Proofs.YtcelpkbmcmnogaaGreatDoor
open Go Go.RowKit Go.Vi Go.ChangeShapes Go.WideShapes Go.Deep
section
variable {H : Type} {enc : TypeId × Value → H} {P : Program} {w : World} {spare : Nat → Bool} {held : Bool}
theorem rows_open {α : Type} [Inhabited α] {cs : α → List Value} {k : Nat} {fits : α → Prop} (hck : ∀ a, (cs a).length = k) (hk : 0 < k) {t e : TypeId} {fuel : Nat} {v : Value} {x : DataW H × List MemPlace} (ht : P.underlying t = some (.slice e)) (hce : P.cellsOf e = k)
  (hel : ∀ (n : Nat) (c : List Value) (y : DataW H × List MemPlace), DataW.trod enc P w 0 spare held n e c = some y → c.length = k → ∃ a, c = cs a ∧ fits a)
  (h : DataW.trod enc P w 0 spare held fuel t [v] = some x) :
  ∃ L : List α, (∀ a ∈ L, fits a) ∧ ((∀ ad n c, v = .slice (some ad) n c → ad.spot = none ∧ ad.block < w.heap.size) → Sl w.heap.size w k v (L.map cs)) ∧ (∀ n c, v = .slice none n c → c = 0) := by
 rcases open_slice ht h with ⟨hcs, _⟩ | ⟨a, len, cap, m, n, D, Pl, hcs, _, hl, hm, hmm, _, hcell⟩
 ·simp only [List.cons.injEq, and_true] at hcs
  subst hcs
  have hs : Sl w.heap.size w k (.slice none 0 0) (([] : List α).map cs) := ⟨none, 0, rfl, Nat.le_refl _, Nat.zero_le _, (fun r hr => by cases hr), (fun _ => rfl), (fun ad h => by cases h)⟩
  exact ⟨[], (fun a ha => by cases ha), (fun _ => hs), (fun n c h => by injection h with _ _ h; exact h.symm)⟩
 ·simp only [List.cons.injEq, and_true] at hcs
  subst hcs
  rw [hce] at hcell
  have hlm : len ≤ m := by rw [hmm]; split <;> omega
  obtain ⟨f, hf⟩ := choose_lt (α := α) (p := fun i al => w.cells? 0 (a.add (i * k)) k = some (cs al) ∧ fits al) (n := len) (fun i hi => by
   obtain ⟨c, h1, h2⟩ := hcell i (by omega)
   obtain ⟨_, hlen, _⟩ := World.cells?_some h1
   obtain ⟨al, rfl, hfit⟩ := hel _ _ _ h2 hlen
   exact ⟨al, h1, hfit⟩)
  refine ⟨(List.range len).map f, fun y hy => ?_, fun hv => ?_, fun n c h => by cases h⟩
  ·obtain ⟨i, hi, rfl⟩ := List.mem_map.1 hy
   exact (hf i (by simpa using hi)).2
  ·obtain ⟨hspot, hblk⟩ := hv a len cap rfl
   refine ⟨some a, cap, by simp, by simpa using hl, hm, fun r hr => ?_, (fun h => by cases h), fun ad had => ?_⟩
   ·obtain ⟨y, _, rfl⟩ := List.mem_map.1 hr
    exact hck y
   ·injection had with had
    subst had
    refine ⟨hspot, hblk, fun i hi c y hy => ?_⟩
    have hi' : i < len := by simpa using hi
    simp only [List.getElem_map, List.getElem_range] at hy
    obtain ⟨_, _, hc⟩ := World.cells?_some (hf i hi').1
    have hck' : c < k := by
     rw [← hck (f i)]
     exact (List.getElem?_eq_some_iff.1 hy).1
    have := hc c hck'
    rw [add_add, add_none hspot, hy, ← Nat.add_assoc] at this
    exact this
end
section
variable {H : Type} {enc : TypeId × Value → H} {w : World} {spare : Nat → Bool} {held : Bool}
theorem byte_of {n : Int} (h : (Lit.int .u8 n).wf = true) : Byte n := by
 simp [Lit.wf] at h
 unfold Byte
 first
  | omega
  | (simp [IntKind.min, IntKind.max, IntKind.signed, IntKind.bits] at h; omega)
theorem trod_u8 {n : Nat} {c : Value} {y : DataW H × List MemPlace} (h : DataW.trod enc Tryz.prog w 0 spare held n 5 [c] = some y) : ∃ k, c = .int .u8 k ∧ Byte k := by
 obtain ⟨k, hc, _, hw⟩ := DataW.trod_int Tryz.underlying5 h
 simp at hc
 exact ⟨k, hc, byte_of hw⟩
theorem len2 {c : List Value} (h : c.length = 2) : ∃ a b, c = [a, b] := by
 match c, h with
 | [a, b], _ => exact ⟨a, b, rfl⟩
theorem len5 {c : List Value} (h : c.length = 5) : ∃ a b d e f, c = [a, b, d, e, f] := by
 match c, h with
 | [a, b, d, e, f], _ => exact ⟨a, b, d, e, f, rfl⟩
theorem field_of {n : Nat} {t : TypeId} {fs : Array Field} {c : List Value} {y : DataW H × List MemPlace} (ht : Tryz.prog.underlying t = some (.struct fs)) (h : DataW.trod enc Tryz.prog w 0 spare held n t c = some y) (i : Nat) {f : Field} (hf : fs[i]? = some f) {ty : TypeId} {off sz : Nat} (hty : f.type = ty) (ho : f.offset = off) (hs : Tryz.prog.cellsOf ty = sz) : ∃ m z, DataW.trod enc Tryz.prog w 0 spare held m ty ((c.drop off).take sz) = some z := by
 obtain ⟨xs, m, _, _, _, hlen, hx⟩ := DataW.trod_struct ht h
 have h1 := hx i f hf
 have hi : i < xs.length := by rw [hlen]; exact (Array.getElem?_eq_some_iff.1 hf).1
 rw [List.getElem?_eq_getElem hi, hty, ho, hs] at h1
 exact ⟨m, _, h1⟩
theorem part_of {n k : Nat} {t e : TypeId} {c : List Value} {y : DataW H × List MemPlace} (ht : Tryz.prog.underlying t = some (.array k e)) (h : DataW.trod enc Tryz.prog w 0 spare held n t c = some y) (i : Nat) (hi : i < k) {sz : Nat} (hs : Tryz.prog.cellsOf e = sz) : ∃ m z, DataW.trod enc Tryz.prog w 0 spare held m e ((c.drop (i * sz)).take sz) = some z := by
 obtain ⟨xs, m, _, _, _, hlen, hx⟩ := DataW.trod_array ht h
 have h1 := hx i hi
 have hi' : i < xs.length := by rw [hlen]; exact hi
 rw [List.getElem?_eq_getElem hi', hs] at h1
 exact ⟨m, _, h1⟩
theorem c4 : Tryz.prog.cellsOf 4 = 1 := by kernel_rfl
theorem c5 : Tryz.prog.cellsOf 5 = 1 := by kernel_rfl
theorem c3 : Tryz.prog.cellsOf 3 = 1 := by kernel_rfl
theorem c22 : Tryz.prog.cellsOf 22 = 1 := by kernel_rfl
theorem c23 : Tryz.prog.cellsOf 23 = 1 := by kernel_rfl
theorem c25 : Tryz.prog.cellsOf 25 = 2 := by kernel_rfl
theorem c124 : Tryz.prog.cellsOf 73 = 2 := by kernel_rfl
theorem c126 : Tryz.prog.cellsOf 75 = 5 := by kernel_rfl
theorem spot_open (n : Nat) (c : List Value) (y : DataW H × List MemPlace) (h : DataW.trod enc Tryz.prog w 0 spare held n 73 c = some y) (hl : c.length = 2) : ∃ a, c = Spt.cs a ∧ a.fits := by
 obtain ⟨a, b, rfl⟩ := len2 hl
 obtain ⟨_, _, h0⟩ := field_of Tryz.underlying73 h 0 rfl rfl rfl c5
 obtain ⟨_, _, h1⟩ := field_of Tryz.underlying73 h 1 rfl rfl rfl c5
 obtain ⟨x, rfl, hx⟩ := trod_u8 (c := a) h0
 obtain ⟨z, rfl, hz⟩ := trod_u8 (c := b) h1
 exact ⟨⟨x, z⟩, rfl, hx, hz⟩
theorem lane_open (n : Nat) (c : List Value) (y : DataW H × List MemPlace) (h : DataW.trod enc Tryz.prog w 0 spare held n 75 c = some y) (hl : c.length = 5) : ∃ a, c = Lne.cs a ∧ a.fits := by
 obtain ⟨a, b, d, e, f, rfl⟩ := len5 hl
 obtain ⟨_, _, h0⟩ := field_of Tryz.underlying75 h 0 rfl rfl rfl c5
 obtain ⟨_, _, h1⟩ := field_of Tryz.underlying75 h 1 rfl rfl rfl c5
 obtain ⟨_, _, h2⟩ := field_of Tryz.underlying75 h 2 rfl rfl rfl c5
 obtain ⟨_, _, h3⟩ := field_of Tryz.underlying75 h 3 rfl rfl rfl c5
 obtain ⟨_, _, h4⟩ := field_of Tryz.underlying75 h 4 rfl rfl rfl c4
 obtain ⟨x0, rfl, g0⟩ := trod_u8 (c := a) h0
 obtain ⟨x1, rfl, g1⟩ := trod_u8 (c := b) h1
 obtain ⟨x2, rfl, g2⟩ := trod_u8 (c := d) h2
 obtain ⟨x3, rfl, g3⟩ := trod_u8 (c := e) h3
 obtain ⟨x4, hc, _⟩ := DataW.trod_bool Tryz.underlying4 (cs := [f]) h4
 simp at hc
 subst hc
 exact ⟨⟨x0, x1, x2, x3, x4⟩, rfl, g0, g1, g2, g3⟩
theorem types25 : Tryz.prog.cellTypes Tryz.prog.depth 25 = some [22, 23] := by kernel_rfl
theorem arr2 {cs : Array Value} (h : cs.size = 2) : ∃ a b, cs = #[a, b] := by
 obtain ⟨l⟩ := cs
 match l, h with
 | [a, b], _ => exact ⟨a, b, rfl⟩
/-- A grid as it lies in memory. -/
structure GrdAt (B : Nat) (w : World) (vp vq : Value) (P : List Spt) (Q : List Lne) : Prop where
 sp : Sl B w 2 vp (P.map Spt.cs)
 ln : Sl B w 5 vq (Q.map Lne.cs)
 fp : ∀ s ∈ P, s.fits
 fq : ∀ l ∈ Q, l.fits
 nil : ∀ n c, vq = .slice none n c → c = 0
theorem GrdAt.later {w w' : World} {vp vq : Value} {P : List Spt} {Q : List Lne} (h : GrdAt w.heap.size w vp vq P Q) (hb : Below w.heap.size w w') : GrdAt w'.heap.size w' vp vq P Q := ⟨h.sp.later hb, h.ln.later hb, h.fp, h.fq, h.nil⟩
set_option maxRecDepth 100000 in
theorem grid_open {r : Reach} {base : Nat} {v : Value} {d : DataW H} {p : List MemPlace} (hv : Value.okWide Tryz.prog w r base 25 v) (h : DataW.Trod enc Tryz.prog w 0 spare held 25 v d p) :
  ∃ (P : List Spt) (Q : List Lne) (vp vq : Value), v = .agg #[vp, vq] ∧ GrdAt w.heap.size w vp vq P Q := by
 simp only [Value.okWide, Tryz.underlying25] at hv
 obtain ⟨cs, rfl, hsz, ts, hts, _, hcell⟩ := hv
 rw [types25] at hts
 injection hts with hts
 subst hts
 rw [c25] at hsz
 obtain ⟨a0, a1, rfl⟩ := arr2 hsz
 obtain ⟨fuel, hf⟩ := h
 have hf' : DataW.trod enc Tryz.prog w 0 spare held fuel 25 [a0, a1] = some (d, p) := hf
 obtain ⟨_, _, k0⟩ := field_of Tryz.underlying25 hf' 0 rfl rfl rfl c22
 obtain ⟨_, _, k1⟩ := field_of Tryz.underlying25 hf' 1 rfl rfl rfl c23
 obtain ⟨u0, e0, q0⟩ := hcell 0 a0 rfl
 obtain ⟨u1, e1, q1⟩ := hcell 1 a1 rfl
 have e0' : u0 = 22 := by simpa using e0.symm
 have e1' : u1 = 23 := by simpa using e1.symm
 subst e0' e1'
 obtain ⟨L0, f0, s0, _⟩ := rows_open (α := Spt) (cs := Spt.cs) (k := 2) (fits := Spt.fits) (v := a0) (fun _ => rfl) (by decide) Tryz.underlying22 c124 spot_open k0
 obtain ⟨L1, f1, s1, z1⟩ := rows_open (α := Lne) (cs := Lne.cs) (k := 5) (fits := Lne.fits) (v := a1) (fun _ => rfl) (by decide) Tryz.underlying23 c126 lane_open k1
 refine ⟨L0, L1, a0, a1, rfl, ⟨s0 ?_, s1 ?_, f0, f1, z1⟩⟩
 ·rintro ad n c rfl; exact okCell_slice (P := Tryz.prog) (u := 22) Tryz.underlying22 q0
 ·rintro ad n c rfl; exact okCell_slice (P := Tryz.prog) (u := 23) Tryz.underlying23 q1
def I8 (z : Int) : Prop := -128 ≤ z ∧ z ≤ 127
theorem i8_of {n : Int} (h : (Lit.int .i8 n).wf = true) : I8 n := by
 unfold I8
 simp [Lit.wf] at h
 first
  | omega
  | (simp [IntKind.min, IntKind.max, IntKind.signed, IntKind.bits] at h; omega)
theorem c76 : Tryz.prog.cellsOf 29 = 1 := by kernel_rfl
theorem c61 : Tryz.prog.cellsOf 27 = 2 := by kernel_rfl
theorem c80 : Tryz.prog.cellsOf 28 = 4 := by kernel_rfl
theorem c78 : Tryz.prog.cellsOf 31 = 3 := by kernel_rfl
theorem arr3 {cs : Array Value} (h : cs.size = 3) : ∃ a b c, cs = #[a, b, c] := by
 obtain ⟨l⟩ := cs
 match l, h with
 | [a, b, c], _ => exact ⟨a, b, c, rfl⟩
theorem arr4 {cs : Array Value} (h : cs.size = 4) : ∃ a b c d, cs = #[a, b, c, d] := by
 obtain ⟨l⟩ := cs
 match l, h with
 | [a, b, c, d], _ => exact ⟨a, b, c, d, rfl⟩
set_option maxRecDepth 100000 in
theorem change_open {r : Reach} {base : Nat} {v : Value} {d : DataW H} {p : List MemPlace} (hv : Value.okWide Tryz.prog w r base 31 v) (h : DataW.Trod enc Tryz.prog w 0 spare held 31 v d p) :
  ∃ x y z : Int, v = .agg #[.int .u8 x, .int .u8 y, .int .i8 z] ∧ Byte x ∧ Byte y ∧ I8 z := by
 simp only [Value.okWide, Tryz.underlying31] at hv
 obtain ⟨cs, rfl, hsz, _⟩ := hv
 rw [c78] at hsz
 obtain ⟨a, b, c, rfl⟩ := arr3 hsz
 obtain ⟨fuel, hf⟩ := h
 have hf' : DataW.trod enc Tryz.prog w 0 spare held fuel 31 [a, b, c] = some (d, p) := hf
 obtain ⟨_, _, h0⟩ := field_of Tryz.underlying31 hf' 0 rfl rfl rfl c5
 obtain ⟨_, _, h1⟩ := field_of Tryz.underlying31 hf' 1 rfl rfl rfl c5
 obtain ⟨_, _, h2⟩ := field_of Tryz.underlying31 hf' 2 rfl rfl rfl c76
 obtain ⟨x, rfl, hx⟩ := trod_u8 (c := a) h0
 obtain ⟨y, rfl, hy⟩ := trod_u8 (c := b) h1
 obtain ⟨z, hc, _, hw⟩ := DataW.trod_int Tryz.underlying29 (cs := [c]) h2
 simp at hc
 subst hc
 exact ⟨x, y, z, rfl, hx, hy, i8_of hw⟩
set_option maxRecDepth 100000 in
theorem where_at {n : Nat} {a b : Value} {y : DataW H × List MemPlace} (h : DataW.trod enc Tryz.prog w 0 spare held n 27 [a, b] = some y) : ∃ x z : Int, a = .int .u8 x ∧ b = .int .u8 z ∧ Byte x ∧ Byte z := by
 obtain ⟨_, _, h0⟩ := field_of Tryz.underlying27 h 0 rfl rfl rfl c5
 obtain ⟨_, _, h1⟩ := field_of Tryz.underlying27 h 1 rfl rfl rfl c5
 obtain ⟨x, rfl, hx⟩ := trod_u8 (c := a) h0
 obtain ⟨z, rfl, hz⟩ := trod_u8 (c := b) h1
 exact ⟨x, z, rfl, rfl, hx, hz⟩
set_option maxRecDepth 100000 in
theorem where2_open {r : Reach} {base : Nat} {v : Value} {d : DataW H} {p : List MemPlace} (hv : Value.okWide Tryz.prog w r base 28 v) (h : DataW.Trod enc Tryz.prog w 0 spare held 28 v d p) :
  ∃ x y x2 y2 : Int, v = .agg #[.int .u8 x, .int .u8 y, .int .u8 x2, .int .u8 y2] ∧ Byte x ∧ Byte y ∧ Byte x2 ∧ Byte y2 := by
 simp only [Value.okWide, Tryz.underlying28] at hv
 obtain ⟨cs, rfl, hsz, _⟩ := hv
 rw [c80] at hsz
 obtain ⟨a, b, a2, b2, rfl⟩ := arr4 hsz
 obtain ⟨fuel, hf⟩ := h
 have hf' : DataW.trod enc Tryz.prog w 0 spare held fuel 28 [a, b, a2, b2] = some (d, p) := hf
 obtain ⟨_, _, h0⟩ := part_of Tryz.underlying28 hf' 0 (by decide) c61
 obtain ⟨_, _, h1⟩ := part_of Tryz.underlying28 hf' 1 (by decide) c61
 obtain ⟨x, y, rfl, rfl, hx, hy⟩ := where_at (a := a) (b := b) h0
 obtain ⟨x2, y2, rfl, rfl, hx2, hy2⟩ := where_at (a := a2) (b := b2) h1
 exact ⟨x, y, x2, y2, rfl, hx, hy, hx2, hy2⟩
end
end Go.Proofs.YtcelpkbmcmnogaaGreatDoor
