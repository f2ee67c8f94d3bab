/-
  A story that comes in as the argument, opened.
-/
import Derived.Test.YtmplajpbmojkkaaGreatScnI
import Derived.ProofKit
import Derived.OpenShut
import Derived.ChangeOld
import Derived.Deep.Slices
set_option linter.unusedSimpArgs false
set_option linter.unusedVariables false
namespace Go.Vi
open Go Go.RowKit Go.ChangeShapes Go.WideShapes
theorem cell_lt {w : World} {a : Addr} {v : Value} (h : w.cell? a = some v) : a.spot = none ∧ a.block < w.heap.size := by
  unfold World.cell? at h
  split at h
  · rename_i c t f hc
    split at h
    · cases h
    · rename_i hs
      refine ⟨by simpa using hs, ?_⟩
      rcases Nat.lt_or_ge a.block w.heap.size with h1 | h1
      · exact h1
      · rw [Array.getElem?_eq_none h1] at hc; cases hc
  · cases h
theorem has_addr {P : Program} {w : World} {r : Reach} {base n : Nat} {a : Addr} {e : TypeId} (h : World.has P w r base a e n) : a.spot = none ∧ a.block < w.heap.size := by
  obtain ⟨_, hs, row, cells, hsh, _⟩ := h
  refine ⟨hs, ?_⟩
  unfold World.shape? at hsh
  split at hsh
  · rename_i c t f hc
    rcases Nat.lt_or_ge a.block w.heap.size with h1 | h1
    · exact h1
    · rw [Array.getElem?_eq_none h1] at hc; cases hc
  · cases hsh
theorem okCell_slice {P : Program} {w : World} {r : Reach} {base len cap : Nat} {a : Addr} {u e : TypeId} (hu : P.underlying u = some (.slice e)) (h : Cell.okWide P w r base u (.slice (some a) len cap)) : a.spot = none ∧ a.block < w.heap.size := by
  simp only [Cell.okWide, hu, Cell.ok] at h
  exact has_addr h.2.2
theorem add_none {a : Addr} (h : a.spot = none) (n : Nat) : a.add n = ⟨a.block, a.off + n, none⟩ := by
  unfold Addr.add
  split
  · rename_i h0
    subst h0
    cases a
    simp only at h
    subst h
    rfl
  · rfl
end Go.Vi
namespace Go.Proofs.YtmplajpbmojkkaaGreat
open Go Go.RowKit Go.Vi Go.ChangeShapes Go.WideShapes Go.Deep
section
variable {H : Type} {enc : TypeId × Value → H} {P : Program} {w : World} {spare : Nat → Bool} {held : Bool}
theorem rows_open {α : Type} [Inhabited α] {cs : α → List Value} {k : Nat} {fits : α → Prop} (hck : ∀ a, (cs a).length = k) (hk : 0 < k) {t e : TypeId} {fuel : Nat} {v : Value} {x : DataW H × List MemPlace} (ht : P.underlying t = some (.slice e)) (hce : P.cellsOf e = k)
    (hel : ∀ (n : Nat) (c : List Value) (y : DataW H × List MemPlace), DataW.trod enc P w 0 spare held n e c = some y → c.length = k → ∃ a, c = cs a ∧ fits a)
    (h : DataW.trod enc P w 0 spare held fuel t [v] = some x) :
    ∃ L : List α, SlE w.heap.size w k v (L.map cs) ∧ (∀ a ∈ L, fits a) ∧ ((∀ ad n c, v = .slice (some ad) n c → ad.spot = none ∧ ad.block < w.heap.size) → Sl w.heap.size w k v (L.map cs)) ∧ (∀ n c, v = .slice none n c → c = 0) := by
  rcases open_slice ht h with ⟨hcs, _⟩ | ⟨a, len, cap, m, n, D, Pl, hcs, _, hl, hm, hmm, _, hcell⟩
  · simp only [List.cons.injEq, and_true] at hcs
    subst hcs
    have hs : Sl w.heap.size w k (.slice none 0 0) (([] : List α).map cs) := ⟨none, 0, rfl, Nat.le_refl _, Nat.zero_le _, (fun r hr => by cases hr), (fun _ => rfl), (fun ad h => by cases h)⟩
    exact ⟨[], .inl hs, (fun a ha => by cases ha), (fun _ => hs), (fun n c h => by injection h with _ _ h; exact h.symm)⟩
  · simp only [List.cons.injEq, and_true] at hcs
    subst hcs
    rw [hce] at hcell
    have hlm : len ≤ m := by rw [hmm]; split <;> omega
    obtain ⟨f, hf⟩ := choose_lt (α := α) (p := fun i al => w.cells? 0 (a.add (i * k)) k = some (cs al) ∧ fits al) (n := len) (fun i hi => by
      obtain ⟨c, h1, h2⟩ := hcell i (by omega)
      obtain ⟨_, hlen, _⟩ := World.cells?_some h1
      obtain ⟨al, rfl, hfit⟩ := hel _ _ _ h2 hlen
      exact ⟨al, h1, hfit⟩)
    have hlen : ((List.range len).map f).length = len := by simp
    have hs : a.spot = none → a.block < w.heap.size → Sl w.heap.size w k (.slice (some a) len cap) (((List.range len).map f).map cs) := fun hspot hblk => by
      refine ⟨some a, cap, by simp, by simpa using hl, hm, fun r hr => ?_, (fun h => by cases h), fun ad had => ?_⟩
      · obtain ⟨y, _, rfl⟩ := List.mem_map.1 hr
        exact hck y
      · injection had with had
        subst had
        refine ⟨hspot, hblk, fun i hi c y hy => ?_⟩
        have hi' : i < len := by simpa using hi
        simp only [List.getElem_map, List.getElem_range] at hy
        obtain ⟨_, _, hc⟩ := World.cells?_some (hf i hi').1
        have hck' : c < k := by
          rw [← hck (f i)]
          exact (List.getElem?_eq_some_iff.1 hy).1
        have := hc c hck'
        rw [add_add, add_none hspot, hy, ← Nat.add_assoc] at this
        exact this
    refine ⟨(List.range len).map f, ?_, fun y hy => ?_, fun hv => ?_, fun n c h => by cases h⟩
    · rcases Nat.eq_zero_or_pos len with h0 | hpos
      · subst h0
        exact .inr ⟨rfl, some a, cap, rfl, hm⟩
      · obtain ⟨_, _, hc⟩ := World.cells?_some (hf 0 hpos).1
        have := hc 0 hk
        rw [add_add, Nat.zero_mul, Nat.add_zero] at this
        have h0 : (0 : Nat) < (cs (f 0)).length := by rw [hck]; exact hk
        rw [List.getElem?_eq_getElem h0] at this
        have ha : a.add 0 = a := by simp [Addr.add]
        rw [ha] at this
        obtain ⟨q1, q2⟩ := cell_lt this
        exact .inl (hs q1 q2)
    · obtain ⟨i, hi, rfl⟩ := List.mem_map.1 hy
      exact (hf i (by simpa using hi)).2
    · obtain ⟨q1, q2⟩ := hv a len cap rfl
      exact hs q1 q2
end
section
variable {H : Type} {enc : TypeId × Value → H} {w : World} {spare : Nat → Bool} {held : Bool}
theorem byte_of {n : Int} (h : (Lit.int .u8 n).wf = true) : Byte n := by
  simp [Lit.wf] at h
  unfold Byte
  first
    | omega
    | (simp [IntKind.min, IntKind.max, IntKind.signed, IntKind.bits] at h; omega)
theorem trod_u8 {n : Nat} {c : Value} {y : DataW H × List MemPlace} (h : DataW.trod enc Tryz.prog w 0 spare held n 5 [c] = some y) : ∃ k, c = .int .u8 k ∧ Byte k := by
  obtain ⟨k, hc, _, hw⟩ := DataW.trod_int Tryz.underlying5 h
  simp at hc
  exact ⟨k, hc, byte_of hw⟩
theorem len2 {c : List Value} (h : c.length = 2) : ∃ a b, c = [a, b] := by
  match c, h with
  | [a, b], _ => exact ⟨a, b, rfl⟩
theorem len4 {c : List Value} (h : c.length = 4) : ∃ a b d e, c = [a, b, d, e] := by
  match c, h with
  | [a, b, d, e], _ => exact ⟨a, b, d, e, rfl⟩
theorem len5 {c : List Value} (h : c.length = 5) : ∃ a b d e f, c = [a, b, d, e, f] := by
  match c, h with
  | [a, b, d, e, f], _ => exact ⟨a, b, d, e, f, rfl⟩
theorem field_of {n : Nat} {t : TypeId} {fs : Array Field} {c : List Value} {y : DataW H × List MemPlace} (ht : Tryz.prog.underlying t = some (.struct fs)) (h : DataW.trod enc Tryz.prog w 0 spare held n t c = some y) (i : Nat) {f : Field} (hf : fs[i]? = some f) {ty : TypeId} {off sz : Nat} (hty : f.type = ty) (ho : f.offset = off) (hs : Tryz.prog.cellsOf ty = sz) : ∃ m z, DataW.trod enc Tryz.prog w 0 spare held m ty ((c.drop off).take sz) = some z := by
  obtain ⟨xs, m, _, _, _, hlen, hx⟩ := DataW.trod_struct ht h
  have h1 := hx i f hf
  have hi : i < xs.length := by rw [hlen]; exact (Array.getElem?_eq_some_iff.1 hf).1
  rw [List.getElem?_eq_getElem hi, hty, ho, hs] at h1
  exact ⟨m, _, h1⟩
theorem part_of {n k : Nat} {t e : TypeId} {c : List Value} {y : DataW H × List MemPlace} (ht : Tryz.prog.underlying t = some (.array k e)) (h : DataW.trod enc Tryz.prog w 0 spare held n t c = some y) (i : Nat) (hi : i < k) {sz : Nat} (hs : Tryz.prog.cellsOf e = sz) : ∃ m z, DataW.trod enc Tryz.prog w 0 spare held m e ((c.drop (i * sz)).take sz) = some z := by
  obtain ⟨xs, m, _, _, _, hlen, hx⟩ := DataW.trod_array ht h
  have h1 := hx i hi
  have hi' : i < xs.length := by rw [hlen]; exact hi
  rw [List.getElem?_eq_getElem hi', hs] at h1
  exact ⟨m, _, h1⟩
theorem c4 : Tryz.prog.cellsOf 4 = 1 := by kernel_rfl
theorem c5 : Tryz.prog.cellsOf 5 = 1 := by kernel_rfl
theorem c72 : Tryz.prog.cellsOf 73 = 1 := by kernel_rfl
theorem c69 : Tryz.prog.cellsOf 70 = 1 := by kernel_rfl
theorem c73 : Tryz.prog.cellsOf 74 = 1 := by kernel_rfl
theorem c22 : Tryz.prog.cellsOf 22 = 1 := by kernel_rfl
theorem c23 : Tryz.prog.cellsOf 23 = 1 := by kernel_rfl
theorem c26 : Tryz.prog.cellsOf 26 = 1 := by kernel_rfl
theorem c27 : Tryz.prog.cellsOf 27 = 1 := by kernel_rfl
theorem c25 : Tryz.prog.cellsOf 25 = 2 := by kernel_rfl
theorem c29 : Tryz.prog.cellsOf 29 = 6 := by kernel_rfl
theorem c124 : Tryz.prog.cellsOf 145 = 2 := by kernel_rfl
theorem c126 : Tryz.prog.cellsOf 147 = 5 := by kernel_rfl
theorem c102 : Tryz.prog.cellsOf 111 = 2 := by kernel_rfl
theorem c101 : Tryz.prog.cellsOf 110 = 4 := by kernel_rfl
theorem c71 : Tryz.prog.cellsOf 72 = 4 := by kernel_rfl
theorem c75 : Tryz.prog.cellsOf 76 = 2 := by kernel_rfl
theorem spot_open (n : Nat) (c : List Value) (y : DataW H × List MemPlace) (h : DataW.trod enc Tryz.prog w 0 spare held n 145 c = some y) (hl : c.length = 2) : ∃ a, c = Spt.cs a ∧ a.fits := by
  obtain ⟨a, b, rfl⟩ := len2 hl
  obtain ⟨_, _, h0⟩ := field_of Tryz.underlying145 h 0 rfl rfl rfl c5
  obtain ⟨_, _, h1⟩ := field_of Tryz.underlying145 h 1 rfl rfl rfl c5
  obtain ⟨x, rfl, hx⟩ := trod_u8 (c := a) h0
  obtain ⟨z, rfl, hz⟩ := trod_u8 (c := b) h1
  exact ⟨⟨x, z⟩, rfl, hx, hz⟩
theorem lane_open (n : Nat) (c : List Value) (y : DataW H × List MemPlace) (h : DataW.trod enc Tryz.prog w 0 spare held n 147 c = some y) (hl : c.length = 5) : ∃ a, c = Lne.cs a ∧ a.fits := by
  obtain ⟨a, b, d, e, f, rfl⟩ := len5 hl
  obtain ⟨_, _, h0⟩ := field_of Tryz.underlying147 h 0 rfl rfl rfl c5
  obtain ⟨_, _, h1⟩ := field_of Tryz.underlying147 h 1 rfl rfl rfl c5
  obtain ⟨_, _, h2⟩ := field_of Tryz.underlying147 h 2 rfl rfl rfl c5
  obtain ⟨_, _, h3⟩ := field_of Tryz.underlying147 h 3 rfl rfl rfl c5
  obtain ⟨_, _, h4⟩ := field_of Tryz.underlying147 h 4 rfl rfl rfl c4
  obtain ⟨x0, rfl, g0⟩ := trod_u8 (c := a) h0
  obtain ⟨x1, rfl, g1⟩ := trod_u8 (c := b) h1
  obtain ⟨x2, rfl, g2⟩ := trod_u8 (c := d) h2
  obtain ⟨x3, rfl, g3⟩ := trod_u8 (c := e) h3
  obtain ⟨x4, hc, _⟩ := DataW.trod_bool Tryz.underlying4 (cs := [f]) h4
  simp at hc
  subst hc
  exact ⟨⟨x0, x1, x2, x3, x4⟩, rfl, g0, g1, g2, g3⟩
theorem st2_open (n : Nat) (c : List Value) (y : DataW H × List MemPlace) (h : DataW.trod enc Tryz.prog w 0 spare held n 111 c = some y) (hl : c.length = 2) : ∃ a, c = St2.cs a ∧ a.fits := by
  obtain ⟨a, b, rfl⟩ := len2 hl
  obtain ⟨_, _, h0⟩ := part_of Tryz.underlying111 h 0 (by decide) c5
  obtain ⟨_, _, h1⟩ := part_of Tryz.underlying111 h 1 (by decide) c5
  obtain ⟨x0, rfl, g0⟩ := trod_u8 (c := a) h0
  obtain ⟨x1, rfl, g1⟩ := trod_u8 (c := b) h1
  exact ⟨⟨x0, x1⟩, rfl, g0, g1⟩
theorem sy4_open (n : Nat) (c : List Value) (y : DataW H × List MemPlace) (h : DataW.trod enc Tryz.prog w 0 spare held n 110 c = some y) (hl : c.length = 4) : ∃ a, c = Sy4.cs a ∧ a.fits := by
  obtain ⟨a, b, d, e, rfl⟩ := len4 hl
  obtain ⟨_, _, h0⟩ := part_of Tryz.underlying110 h 0 (by decide) c5
  obtain ⟨_, _, h1⟩ := part_of Tryz.underlying110 h 1 (by decide) c5
  obtain ⟨_, _, h2⟩ := part_of Tryz.underlying110 h 2 (by decide) c5
  obtain ⟨_, _, h3⟩ := part_of Tryz.underlying110 h 3 (by decide) c5
  obtain ⟨x0, rfl, g0⟩ := trod_u8 (c := a) h0
  obtain ⟨x1, rfl, g1⟩ := trod_u8 (c := b) h1
  obtain ⟨x2, rfl, g2⟩ := trod_u8 (c := d) h2
  obtain ⟨x3, rfl, g3⟩ := trod_u8 (c := e) h3
  exact ⟨⟨x0, x1, x2, x3⟩, rfl, g0, g1, g2, g3⟩
def drvCs (p : Drv × Value) : List Value := p.1.cs p.2
def watCs (p : Wat × Value) : List Value := p.1.cs p.2
theorem drive_open (n : Nat) (c : List Value) (y : DataW H × List MemPlace) (h : DataW.trod enc Tryz.prog w 0 spare held n 72 c = some y) (hl : c.length = 4) : ∃ a : Drv × Value, c = drvCs a ∧ a.1.fits ∧ SlE w.heap.size w 2 a.2 (a.1.stops.map St2.cs) := by
  obtain ⟨a, b, d, e, rfl⟩ := len4 hl
  obtain ⟨_, _, h0⟩ := field_of Tryz.underlying72 h 0 rfl rfl rfl c5
  obtain ⟨_, _, h1⟩ := field_of Tryz.underlying72 h 1 rfl rfl rfl c5
  obtain ⟨_, _, h2⟩ := field_of Tryz.underlying72 h 2 rfl rfl rfl c5
  obtain ⟨_, _, h3⟩ := field_of Tryz.underlying72 h 3 rfl rfl rfl c69
  obtain ⟨x0, rfl, g0⟩ := trod_u8 (c := a) h0
  obtain ⟨x1, rfl, g1⟩ := trod_u8 (c := b) h1
  obtain ⟨x2, rfl, g2⟩ := trod_u8 (c := d) h2
  obtain ⟨L, hL, hfit, _, _⟩ := rows_open (α := St2) (cs := St2.cs) (k := 2) (fits := St2.fits) (v := e) (fun _ => rfl) (by decide) Tryz.underlying70 c102 st2_open h3
  exact ⟨(⟨x0, x1, x2, L⟩, e), rfl, ⟨g0, g1, g2, hfit⟩, hL⟩
theorem i8_of {n : Int} (h : (Lit.int .i8 n).wf = true) : -128 ≤ n ∧ n ≤ 127 := by
  simp [Lit.wf] at h
  first
    | omega
    | (simp [IntKind.min, IntKind.max, IntKind.signed, IntKind.bits] at h; omega)
theorem watch_open (n : Nat) (c : List Value) (y : DataW H × List MemPlace) (h : DataW.trod enc Tryz.prog w 0 spare held n 76 c = some y) (hl : c.length = 2) : ∃ a : Wat × Value, c = watCs a ∧ a.1.fits ∧ SlE w.heap.size w 4 a.2 (a.1.syncs.map Sy4.cs) := by
  obtain ⟨a, b, rfl⟩ := len2 hl
  obtain ⟨_, _, h0⟩ := field_of Tryz.underlying76 h 0 rfl rfl rfl c72
  obtain ⟨_, _, h1⟩ := field_of Tryz.underlying76 h 1 rfl rfl rfl c73
  obtain ⟨k, hc, _, hw⟩ := DataW.trod_int Tryz.underlying73 (cs := [a]) h0
  simp at hc
  subst hc
  obtain ⟨L, hL, hfit, _, _⟩ := rows_open (α := Sy4) (cs := Sy4.cs) (k := 4) (fits := Sy4.fits) (v := b) (fun _ => rfl) (by decide) Tryz.underlying74 c101 sy4_open h1
  exact ⟨(⟨k, L⟩, b), rfl, ⟨i8_of hw, hfit⟩, hL⟩
instance : Inhabited (Drv × Value) := ⟨(default, .bool false)⟩
instance : Inhabited (Wat × Value) := ⟨(default, .bool false)⟩
theorem nest_of {α β : Type} [Inhabited α] {cs : α → Value → List Value} {sub : α → List β} {ccs : β → List Value} {k kk B : Nat} {v : Value} {L : List (α × Value)} (h : Sl B w k v (L.map fun p => cs p.1 p.2)) (hi : ∀ p ∈ L, SlE B w kk p.2 ((sub p.1).map ccs)) : NestAt cs sub ccs k kk B w v (L.map (·.1)) := by
  refine ⟨L.map (·.2), by simp, ?_, fun i hi' => ?_⟩
  · have e : List.zipWith cs (L.map (·.1)) (L.map (·.2)) = L.map fun p => cs p.1 p.2 := by
      clear h hi
      induction L with
      | nil => rfl
      | cons p L ih => simp only [List.map_cons, List.zipWith_cons_cons]; rw [ih]
    rw [e]
    exact h
  · have hiL : i < L.length := by simpa using hi'
    rw [getElem!_pos (L.map (·.2)) i (by simpa using hiL), getElem!_pos (L.map (·.1)) i hi']
    simp only [List.getElem_map]
    exact hi _ (List.getElem_mem _)
theorem types29 : Tryz.prog.cellTypes Tryz.prog.depth 29 = some [22, 23, 26, 27, 5, 4] := by kernel_rfl
theorem arr6 {cs : Array Value} (h : cs.size = 6) : ∃ a b c d e f, cs = #[a, b, c, d, e, f] := by
  obtain ⟨l⟩ := cs
  match l, h with
  | [a, b, c, d, e, f], _ => exact ⟨a, b, c, d, e, f, rfl⟩
set_option maxRecDepth 100000 in
theorem story_open {r : Reach} {base : Nat} {v : Value} {d : DataW H} {p : List MemPlace} (hv : Value.okWide Tryz.prog w r base 29 v) (h : DataW.Trod enc Tryz.prog w 0 spare held 29 v d p) :
    ∃ (x : Sto) (vp vq vd va : Value), v = x.v vp vq vd va ∧ StoAt w.heap.size w vp vq vd va x ∧ x.fits := by
  simp only [Value.okWide, Tryz.underlying29] at hv
  obtain ⟨cs, rfl, hsz, ts, hts, _, hcell⟩ := hv
  rw [types29] at hts
  injection hts with hts
  subst hts
  rw [c29] at hsz
  obtain ⟨a0, a1, a2, a3, a4, a5, rfl⟩ := arr6 hsz
  obtain ⟨fuel, hf⟩ := h
  have hf' : DataW.trod enc Tryz.prog w 0 spare held fuel 29 [a0, a1, a2, a3, a4, a5] = some (d, p) := hf
  obtain ⟨_, _, g0⟩ := field_of Tryz.underlying29 hf' 0 rfl rfl rfl c25
  obtain ⟨_, _, g2⟩ := field_of Tryz.underlying29 hf' 1 rfl rfl rfl c26
  obtain ⟨_, _, g3⟩ := field_of Tryz.underlying29 hf' 2 rfl rfl rfl c27
  obtain ⟨_, _, g4⟩ := field_of Tryz.underlying29 hf' 3 rfl rfl rfl c5
  obtain ⟨_, _, g5⟩ := field_of Tryz.underlying29 hf' 4 rfl rfl rfl c4
  obtain ⟨_, _, k0⟩ := field_of (c := [a0, a1]) Tryz.underlying25 g0 0 rfl rfl rfl c22
  obtain ⟨_, _, k1⟩ := field_of (c := [a0, a1]) Tryz.underlying25 g0 1 rfl rfl rfl c23
  obtain ⟨u0, e0, q0⟩ := hcell 0 a0 rfl
  obtain ⟨u1, e1, q1⟩ := hcell 1 a1 rfl
  obtain ⟨u2, e2, q2⟩ := hcell 2 a2 rfl
  obtain ⟨u3, e3, q3⟩ := hcell 3 a3 rfl
  have e0' : u0 = 22 := by simpa using e0.symm
  have e1' : u1 = 23 := by simpa using e1.symm
  have e2' : u2 = 26 := by simpa using e2.symm
  have e3' : u3 = 27 := by simpa using e3.symm
  subst e0' e1' e2' e3'
  obtain ⟨L0, _, f0, s0, _⟩ := rows_open (α := Spt) (cs := Spt.cs) (k := 2) (fits := Spt.fits) (v := a0) (fun _ => rfl) (by decide) Tryz.underlying22 c124 spot_open k0
  obtain ⟨L1, _, f1, s1, z1⟩ := rows_open (α := Lne) (cs := Lne.cs) (k := 5) (fits := Lne.fits) (v := a1) (fun _ => rfl) (by decide) Tryz.underlying23 c126 lane_open k1
  obtain ⟨L2, _, f2, s2, _⟩ := rows_open (α := Drv × Value) (cs := drvCs) (k := 4) (fits := fun a => a.1.fits ∧ SlE w.heap.size w 2 a.2 (a.1.stops.map St2.cs)) (v := a2) (fun _ => rfl) (by decide) Tryz.underlying26 c71 drive_open g2
  obtain ⟨L3, _, f3, s3, _⟩ := rows_open (α := Wat × Value) (cs := watCs) (k := 2) (fits := fun a => a.1.fits ∧ SlE w.heap.size w 4 a.2 (a.1.syncs.map Sy4.cs)) (v := a3) (fun _ => rfl) (by decide) Tryz.underlying27 c75 watch_open g3
  obtain ⟨gap, rfl, hgap⟩ := trod_u8 (c := a4) g4
  obtain ⟨un, hc, _⟩ := DataW.trod_bool Tryz.underlying4 (cs := [a5]) g5
  simp at hc
  subst hc
  refine ⟨⟨L0, L1, L2.map (·.1), L3.map (·.1), gap, un⟩, a0, a1, a2, a3, rfl, ⟨s0 ?_, s1 ?_, nest_of (s2 ?_) (fun p hp => (f2 p hp).2), nest_of (s3 ?_) (fun p hp => (f3 p hp).2), z1⟩, ⟨f0, f1, ?_, ?_, hgap⟩⟩
  · rintro ad n c rfl; exact okCell_slice (P := Tryz.prog) (u := 22) Tryz.underlying22 q0
  · rintro ad n c rfl; exact okCell_slice (P := Tryz.prog) (u := 23) Tryz.underlying23 q1
  · rintro ad n c rfl; exact okCell_slice (P := Tryz.prog) (u := 26) Tryz.underlying26 q2
  · rintro ad n c rfl; exact okCell_slice (P := Tryz.prog) (u := 27) Tryz.underlying27 q3
  · intro y hy
    obtain ⟨p, hp, rfl⟩ := List.mem_map.1 hy
    exact (f2 p hp).1
  · intro y hy
    obtain ⟨p, hp, rfl⟩ := List.mem_map.1 hy
    exact (f3 p hp).1
end
end Go.Proofs.YtmplajpbmojkkaaGreat
