/-
  Scenarios in memory.
-/
import Derived.Test.YtmplajpbmojkkaaGreatNetK
set_option linter.unusedSimpArgs false
set_option linter.unusedVariables false
namespace Go.Proofs.YtmplajpbmojkkaaGreat
open Go Go.RowKit Go.Vi
structure Vis where (node wait : Int)
structure Trp where (obj dev start speed : Int) (vis : List Vis)
structure Clk where (dev off : Int)
structure Snc where (dev sent out back so sb : Int)
structure Scn where (net : Net) (gap : Int) (trips : List Trp) (clocks : List Clk) (syncs : List Snc)
structure Stp where (time node : Int)
instance : Inhabited Vis := ⟨⟨0, 0⟩⟩
instance : Inhabited Trp := ⟨⟨0, 0, 0, 0, []⟩⟩
instance : Inhabited Clk := ⟨⟨0, 0⟩⟩
instance : Inhabited Snc := ⟨⟨0, 0, 0, 0, 0, 0⟩⟩
instance : Inhabited Stp := ⟨⟨0, 0⟩⟩
def Vis.cs (x : Vis) : List Value := [.int .i64 x.node, .int .i64 x.wait]
def Trp.cs (x : Trp) (v : Value) : List Value := [.int .i64 x.obj, .int .i64 x.dev, .int .i64 x.start, .int .i64 x.speed, v]
def Clk.cs (x : Clk) : List Value := [.int .i64 x.dev, .int .i64 x.off]
def Snc.cs (x : Snc) : List Value := [.int .i64 x.dev, .int .i64 x.sent, .int .i64 x.out, .int .i64 x.back, .int .i64 x.so, .int .i64 x.sb]
def Stp.cs (x : Stp) : List Value := [.int .i64 x.time, .int .i64 x.node]
abbrev Trp.v (x : Trp) (v : Value) : Value := .agg #[.int .i64 x.obj, .int .i64 x.dev, .int .i64 x.start, .int .i64 x.speed, v]
abbrev Snc.v (x : Snc) : Value := .agg #[.int .i64 x.dev, .int .i64 x.sent, .int .i64 x.out, .int .i64 x.back, .int .i64 x.so, .int .i64 x.sb]
/-- Trips: rows with slices of visits, all below block B. -/
def TripsAt (B : Nat) (w : World) (v : Value) (T : List Trp) : Prop :=
  ∃ V : List Value, V.length = T.length ∧ Sl B w 5 v (List.zipWith Trp.cs T V) ∧ ∀ i, i < T.length → Sl B w 2 V[i]! (T[i]!.vis.map Vis.cs)
theorem TripsAt.keep {B B' : Nat} {w w' : World} {v : Value} {T : List Trp} (h : TripsAt B w v T) (hb : Below B' w w') (hB : B ≤ B') : TripsAt B w' v T := by
  obtain ⟨V, h1, h2, h3⟩ := h
  exact ⟨V, h1, h2.keep hb hB, fun i hi => (h3 i hi).keep hb hB⟩
theorem TripsAt.mono {B B' : Nat} {w : World} {v : Value} {T : List Trp} (h : TripsAt B w v T) (hB : B ≤ B') : TripsAt B' w v T := by
  obtain ⟨V, h1, h2, h3⟩ := h
  exact ⟨V, h1, h2.mono hB, fun i hi => (h3 i hi).mono hB⟩
theorem TripsAt.open {B : Nat} {w : World} {v : Value} {T : List Trp} (h : TripsAt B w v T) : ∃ (a : Option Addr) (n cap : Nat), v = .slice a n cap ∧ T.length = n ∧ n ≤ cap ∧ cap ≤ maxLen := by
  obtain ⟨V, h1, h2, _⟩ := h
  obtain ⟨a, n, cap, e, hl, h3, h4⟩ := h2.open
  exact ⟨a, n, cap, e, by rw [List.length_zipWith, h1, Nat.min_self] at hl; exact hl, h3, h4⟩
/-- The cells of trip i, and its visits. -/
theorem TripsAt.at {B n cap : Nat} {w : World} {a : Option Addr} {T : List Trp} (h : TripsAt B w (.slice a n cap) T) (i : Nat) (hi : i < T.length) :
    ∃ b off, a = some ⟨b, off, none⟩ ∧ b < B ∧ ∀ j, j < T.length → ∃ v, Sl B w 2 v (T[j]!.vis.map Vis.cs) ∧
      w.cell? ⟨b, off + j * 5, none⟩ = some (.int .i64 T[j]!.obj) ∧ w.cell? ⟨b, off + j * 5 + 1, none⟩ = some (.int .i64 T[j]!.dev) ∧ w.cell? ⟨b, off + j * 5 + 2, none⟩ = some (.int .i64 T[j]!.start) ∧
      w.cell? ⟨b, off + j * 5 + 3, none⟩ = some (.int .i64 T[j]!.speed) ∧ w.cell? ⟨b, off + j * 5 + 4, none⟩ = some v := by
  obtain ⟨V, h1, h2, h3⟩ := h
  obtain ⟨b, off, e, hb, hc⟩ := h2.at i (by simp [h1]; exact hi)
  refine ⟨b, off, e, hb, fun j hj => ⟨V[j]!, h3 j hj, ?_⟩⟩
  have hjV : j < V.length := by omega
  have q : ∀ (c : Nat) (x : Value), (T[j]!.cs V[j]!)[c]? = some x → w.cell? ⟨b, off + j * 5 + c, none⟩ = some x := fun c x hx => by
    refine hc j (by simp [h1]; exact hj) c x ?_
    rw [List.getElem_zipWith]
    rw [getElem!_pos T j hj, getElem!_pos V j hjV] at hx
    exact hx
  exact ⟨q 0 _ rfl, q 1 _ rfl, q 2 _ rfl, q 3 _ rfl, q 4 _ rfl⟩
/-- A scenario's value, its slices below block B. -/
structure ScnAt (B : Nat) (w : World) (v1 v2 v3 v4 v5 : Value) (S : Scn) : Prop where
  net : NetAt B w v1 v2 S.net
  trips : TripsAt B w v3 S.trips
  clocks : Sl B w 2 v4 (S.clocks.map Clk.cs)
  syncs : Sl B w 6 v5 (S.syncs.map Snc.cs)
theorem ScnAt.keep {B B' : Nat} {w w' : World} {v1 v2 v3 v4 v5 : Value} {S : Scn} (h : ScnAt B w v1 v2 v3 v4 v5 S) (hb : Below B' w w') (hB : B ≤ B') : ScnAt B w' v1 v2 v3 v4 v5 S := ⟨h.net.keep hb hB, h.trips.keep hb hB, h.clocks.keep hb hB, h.syncs.keep hb hB⟩
theorem ScnAt.mono {B B' : Nat} {w : World} {v1 v2 v3 v4 v5 : Value} {S : Scn} (h : ScnAt B w v1 v2 v3 v4 v5 S) (hB : B ≤ B') : ScnAt B' w v1 v2 v3 v4 v5 S := ⟨h.net.mono hB, h.trips.mono hB, h.clocks.mono hB, h.syncs.mono hB⟩
theorem ScnAt.later {w w' : World} {v1 v2 v3 v4 v5 : Value} {S : Scn} (h : ScnAt w.heap.size w v1 v2 v3 v4 v5 S) (hb : Below w.heap.size w w') : ScnAt w'.heap.size w' v1 v2 v3 v4 v5 S := (h.keep hb (Nat.le_refl _)).mono hb.size
abbrev Scn.v (S : Scn) (v1 v2 v3 v4 v5 : Value) : Value := .agg #[v1, v2, .int .i64 S.gap, v3, v4, v5]
def inB (n lo hi : Int) : Bool := decide (lo ≤ n) && decide (n ≤ hi)
theorem inB_iff {n lo hi : Int} : inB n lo hi = true ↔ lo ≤ n ∧ n ≤ hi := by simp [inB]
theorem inB_not {n lo hi : Int} : inB n lo hi = false ↔ n < lo ∨ hi < n := by
  rw [← Bool.not_eq_true, inB_iff]; omega
theorem within_any (n lo hi : Int) (w : World) : Calls Tryz.prog 32 #[.int .i64 n, .int .i64 lo, .int .i64 hi] w fun e w' => e = .returned (.bool (inB n lo hi)) ∧ w = w' := by
  go_enter Tryz.func32, Tryz.ntmps32
  by_cases h : lo ≤ n
  · go_wp2
    go_ret
    exact ⟨by simp [inB, h], rfl⟩
  · have h' : decide (lo ≤ n) = false := by simpa using h
    go_wp2
    go_ret
    exact ⟨by simp [inB, h'], rfl⟩
theorem between_any (n lo hi : Int) (w : World) : Calls Tryz.prog 26 #[.int .i64 n, .int .i64 lo, .int .i64 hi] w fun e w' => e = .returned (.bool (inB n lo hi)) ∧ w = w' := by
  go_enter Tryz.func26, Tryz.ntmps26
  by_cases h : lo ≤ n
  · go_wp2
    go_ret
    exact ⟨by simp [inB, h], rfl⟩
  · have h' : decide (lo ≤ n) = false := by simpa using h
    go_wp2
    go_ret
    exact ⟨by simp [inB, h'], rfl⟩
/-- The offset of a device. -/
def clkOf (C : List Clk) (d : Int) : Option Clk := C.find? fun c => c.dev == d
def offOf (C : List Clk) (d : Int) : Int := match clkOf C d with | some c => c.off | none => 0
def hasOff (C : List Clk) (d : Int) : Bool := (clkOf C d).isSome || d == 0
end Go.Proofs.YtmplajpbmojkkaaGreat
