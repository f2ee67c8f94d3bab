/-
 Exchanging two ranges of reports, and turning a range: slices.swapRangeCmpFunc, slices.rotateCmpFunc. Printed by wip/tools/gensym.py.
 slices.symMergeCmpFunc at reports that are sent: one element on one side. Printed by wip/tools/gensym.py.
-/
import Derived.Test.YthkhgfdjdpfoiaaGreatRepA
import Derived.Test.YthkhgfdjdpfoiaaGreatSrtL
set_option linter.unusedSimpArgs false
set_option linter.unusedVariables false
namespace Go.Proofs.YthkhgfdjdpfoiaaGreat
open Go Go.RowKit Go.Vi Go.Sort
abbrev cmpV : Value := .func (.func 26) #[] #[]
/-- What a walk over the sort's functions is told of a program: the numbers' types, the comparison, the functions. -/
structure SntP (Pr : Program) (k : Nat) : Prop where
 mixed : Pr.follows .mixedOrders = true
 t0 : Pr.underlying 0 = some (TypeDesc.tuple #[])
 a0 : ∀ w, (isAgg 0).run Pr w = .ok false w
 z0 : ∀ w, (Go.sizeOf 0).run Pr w = .ok 1 w
 v0 : ∀ w, (zeroValue 0).run Pr w = .ok (Value.tuple #[]) w
 t3 : Pr.underlying 3 = some (TypeDesc.int IntKind.i64)
 a3 : ∀ w, (isAgg 3).run Pr w = .ok false w
 z3 : ∀ w, (Go.sizeOf 3).run Pr w = .ok 1 w
 v3 : ∀ w, (zeroValue 3).run Pr w = .ok (Value.int IntKind.i64 0) w
 t4 : Pr.underlying 4 = some (TypeDesc.bool)
 a4 : ∀ w, (isAgg 4).run Pr w = .ok false w
 z4 : ∀ w, (Go.sizeOf 4).run Pr w = .ok 1 w
 v4 : ∀ w, (zeroValue 4).run Pr w = .ok (Value.bool false) w
 tS : Pr.underlying 87 = some (TypeDesc.slice 94)
 aS : ∀ w, (isAgg 87).run Pr w = .ok false w
 zS : ∀ w, (Go.sizeOf 87).run Pr w = .ok 1 w
 vS : ∀ w, (zeroValue 87).run Pr w = .ok (Value.slice none 0 0) w
 tC : Pr.underlying 98 = some (TypeDesc.func #[94, 94] #[3] false)
 aC : ∀ w, (isAgg 98).run Pr w = .ok false w
 zC : ∀ w, (Go.sizeOf 98).run Pr w = .ok 1 w
 vC : ∀ w, (zeroValue 98).run Pr w = .ok (Value.nilFunc) w
 tU : Pr.underlying 172 = some (TypeDesc.int IntKind.u64)
 aU : ∀ w, (isAgg 172).run Pr w = .ok false w
 zU : ∀ w, (Go.sizeOf 172).run Pr w = .ok 1 w
 vU : ∀ w, (zeroValue 172).run Pr w = .ok (Value.int IntKind.u64 0) w
 aE : ∀ w, (isAgg 94).run Pr w = .ok true w
 zE : ∀ w, (Go.sizeOf 94).run Pr w = .ok k w
 eg : ∀ args w, (callFunc 26 args).run Pr w = .ok (.enter 26 args) w
 eSw : ∀ args w, (callFunc 81 args).run Pr w = .ok (.enter 81 args) w
 eRo : ∀ args w, (callFunc 70 args).run Pr w = .ok (.enter 70 args) w
 eSy : ∀ args w, (callFunc 59 args).run Pr w = .ok (.enter 59 args) w
 cmp : ∀ blk off size w, CmpLays Pr 26 #[] Snt.cs k sntCmp blk off size w
 f81 : Pr.funcs[81]? = some Tryz.f81
 f70 : Pr.funcs[70]? = some Tryz.f70
 f59 : Pr.funcs[59]? = some Tryz.f59
theorem sntP : SntP Tryz.prog 9 where
 mixed := by kernel_rfl
 t0 := by kernel_rfl
 a0 := by intro w; kernel_rfl
 z0 := by intro w; kernel_rfl
 v0 := by intro w; kernel_rfl
 t3 := by kernel_rfl
 a3 := by intro w; kernel_rfl
 z3 := by intro w; kernel_rfl
 v3 := by intro w; kernel_rfl
 t4 := by kernel_rfl
 a4 := by intro w; kernel_rfl
 z4 := by intro w; kernel_rfl
 v4 := by intro w; kernel_rfl
 tS := by kernel_rfl
 aS := by intro w; kernel_rfl
 zS := by intro w; kernel_rfl
 vS := by intro w; kernel_rfl
 tC := by kernel_rfl
 aC := by intro w; kernel_rfl
 zC := by intro w; kernel_rfl
 vC := by intro w; kernel_rfl
 tU := by kernel_rfl
 aU := by intro w; kernel_rfl
 zU := by intro w; kernel_rfl
 vU := by intro w; kernel_rfl
 aE := aggSent
 zE := sizeSent
 eg := enters_of Tryz.func26 (by kernel_rfl) rfl
 eSw := enters_of Tryz.func81 (by kernel_rfl) rfl
 eRo := enters_of Tryz.func70 (by kernel_rfl) rfl
 eSy := enters_of Tryz.func59 (by kernel_rfl) rfl
 cmp := sntLays
 f81 := Tryz.func81
 f70 := Tryz.func70
 f59 := Tryz.func59
set_option maxHeartbeats 4000000 in
set_option maxRecDepth 1000000 in
theorem swapRange_any {Pr : Program} {k : Nat} (L : SntP Pr k) {blk off cap a b n sz : Nat} {d0 d : Array Snt} {w0 w : World} (R : RowK Snt.cs k w0 blk off d0) (hs0 : d0.size = sz) (hs : d.size = sz) (S : SWK Snt.cs k w0 blk off d w) {P X M Y T : List Snt} (hd : d.toList = P ++ X ++ M ++ Y ++ T) (ha : P.length = a) (hX : X.length = n) (hY : Y.length = n) (hb : a + n + M.length = b) (hsz : sz ≤ 1000000) :
  Calls Pr 81 #[.slice (some ⟨blk, off, none⟩) sz cap, .int .i64 a, .int .i64 b, .int .i64 n, cmpV] w fun e w' => e = .returned (.tuple #[]) ∧ ∃ d', SWK Snt.cs k w0 blk off d' w' ∧ d'.size = sz ∧ d'.toList = P ++ Y ++ M ++ X ++ T := by
 have mixed := L.mixed; have t0 := L.t0; have a0 := L.a0; have z0 := L.z0; have v0 := L.v0; have t3 := L.t3; have a3 := L.a3; have z3 := L.z3; have v3 := L.v3; have t4 := L.t4; have a4 := L.a4; have z4 := L.z4; have v4 := L.v4; have t87 := L.tS; have a87 := L.aS; have z87 := L.zS; have v87 := L.vS; have t98 := L.tC; have a98 := L.aC; have z98 := L.zC; have v98 := L.vC; have t172 := L.tU; have a172 := L.aU; have z172 := L.zU; have v172 := L.vU
 have aE := L.aE; have zE := L.zE; have eg := L.eg; have eSw := L.eSw; have eRo := L.eRo; have eSy := L.eSy
 have hbn : b + n ≤ sz := by
  have := congrArg List.length hd
  simp only [List.length_append, Array.length_toList] at this
  omega
 have han : a + n ≤ b := by omega
 have HA := Lib.hid ha
 have HX := Lib.hid hX
 have HY := Lib.hid hY
 have HB := Lib.hid hb
 have HD : Hid (d.toList = P ++ (Y.take 0 ++ X.drop 0) ++ M ++ (X.take 0 ++ Y.drop 0) ++ T) := by show _ = _; simpa using hd
 have S0 : Aside _ := S
 clear S hd ha hX hY hb
 have FG := L.f81
 go_enter FG, Tryz.ntmps81
 go_wp2
 go_loopg [10] n (fun kx s wr => ∃ (i : Nat) (dk : Array Snt), s = .int .i64 i ∧ i ≤ n ∧ n - i ≤ kx ∧ dk.size = sz ∧ Aside (SWK Snt.cs k w0 blk off dk wr) ∧ Hid (dk.toList = P ++ (Y.take i ++ X.drop i) ++ M ++ (X.take i ++ Y.drop i) ++ T))
 case atStart => exact ⟨0, d, rfl, Nat.zero_le _, by omega, hs, S0, HD⟩
 case round =>
  clear S0 HD
  obtain ⟨i, dk, rfl, hi, hkx, hds, S1, HE⟩ := hrel
  by_cases hlt : i < n
  ·have ea1 : ((a : Int) + (i : Int)).toNat = a + i := by omega
   have pa1 : (0 : Int) ≤ (a : Int) + (i : Int) := by omega
   have ba1 : (a : Int) + (i : Int) < (sz : Int) := by omega
   have ra1 : IntKind.i64.wrap ((a : Int) + (i : Int)) = (a : Int) + (i : Int) := by rw [IntKind.wrap_i64]; omega
   have ec1 : ((b : Int) + (i : Int)).toNat = b + i := by omega
   have pc1 : (0 : Int) ≤ (b : Int) + (i : Int) := by omega
   have bc1 : (b : Int) + (i : Int) < (sz : Int) := by omega
   have rc1 : IntKind.i64.wrap ((b : Int) + (i : Int)) = (b : Int) + (i : Int) := by rw [IntKind.wrap_i64]; omega
   have S2 : Aside (SWK Snt.cs k w0 blk off (swp dk (a + i) (b + i)) ((wr.drew.setCells blk (off + (a + i) * k) (Snt.cs dk[b + i]!)).setCells blk (off + (b + i) * k) (Snt.cs dk[a + i]!))) := S1.out.swapped R (a + i) (b + i) (by omega) (by omega)
   have l1a := S1.out.ld1 R (by omega) Pr (a + i) (by omega)
   have l1b := S1.out.ld1 R (by omega) Pr (b + i) (by omega)
   have s1a := S1.out.st1 R (by omega) Pr (a + i) (by omega) dk[b + i]!
   have s1b := S1.out.st2 R (by omega) Pr (a + i) (b + i) (by omega) (by omega) dk[b + i]! dk[a + i]!
   have n1a : (Snt.cs dk[a + i]!).length = k := R.hk _
   have n1b : (Snt.cs dk[b + i]!).length = k := R.hk _
   generalize Snt.cs dk[a + i]! = cI1 at S2 l1a s1b n1a
   generalize Snt.cs dk[b + i]! = cJ1 at S2 l1b s1a s1b n1b
   clear S1
   go_wp2_with fail
   go_big_region_o
   clear l1a l1b s1a s1b
   generalize (wr.drew.setCells blk (off + (a + i) * k) cJ1).setCells blk (off + (b + i) * k) cI1 = w2 at S2 ⊢
   go_wp2
   go_roundg (n - (i + 1))
   case measure => omega
   case rel => exact ⟨i + 1, swp dk (a + i) (b + i), by go_num, by omega, Nat.le_refl _, by rw [size_swp]; exact hds, S2, swap_step HX.out HY.out HA.out HB.out hlt HE.out⟩
  ·have hin : i = n := by omega
   subst hin
   go_wp2
   go_end0
   refine ⟨rfl, dk, S1.out, hds, ?_⟩
   have := HE.out
   rw [List.take_of_length_le (Nat.le_of_eq HX.out), List.take_of_length_le (Nat.le_of_eq HY.out), List.drop_of_length_le (Nat.le_of_eq HX.out), List.drop_of_length_le (Nat.le_of_eq HY.out), List.append_nil, List.append_nil] at this
   exact this
set_option maxHeartbeats 4000000 in
set_option maxRecDepth 1000000 in
theorem rotate_any {Pr : Program} {k : Nat} (L : SntP Pr k) {blk off cap a m b sz : Nat} {d0 d : Array Snt} {w0 w : World} (R : RowK Snt.cs k w0 blk off d0) (hs0 : d0.size = sz) (hs : d.size = sz) (S : SWK Snt.cs k w0 blk off d w) {P X Y T : List Snt} (hd : d.toList = P ++ X ++ Y ++ T) (ha : P.length = a) (hX : a + X.length = m) (hY : m + Y.length = b) (hX0 : 0 < X.length) (hY0 : 0 < Y.length) (hsz : sz ≤ 1000000) :
  Calls Pr 70 #[.slice (some ⟨blk, off, none⟩) sz cap, .int .i64 a, .int .i64 m, .int .i64 b, cmpV] w fun e w' => e = .returned (.tuple #[]) ∧ ∃ d', SWK Snt.cs k w0 blk off d' w' ∧ d'.size = sz ∧ d'.toList = P ++ Y ++ X ++ T := by
 have mixed := L.mixed; have t0 := L.t0; have a0 := L.a0; have z0 := L.z0; have v0 := L.v0; have t3 := L.t3; have a3 := L.a3; have z3 := L.z3; have v3 := L.v3; have t4 := L.t4; have a4 := L.a4; have z4 := L.z4; have v4 := L.v4; have t87 := L.tS; have a87 := L.aS; have z87 := L.zS; have v87 := L.vS; have t98 := L.tC; have a98 := L.aC; have z98 := L.zC; have v98 := L.vC; have t172 := L.tU; have a172 := L.aU; have z172 := L.zU; have v172 := L.vU
 have aE := L.aE; have zE := L.zE; have eg := L.eg; have eSw := L.eSw; have eRo := L.eRo; have eSy := L.eSy
 have hbn : b ≤ sz := by
  have := congrArg List.length hd
  simp only [List.length_append, Array.length_toList] at this
  omega
 obtain ⟨G, hG⟩ : ∃ G, G = P ++ Y ++ X ++ T := ⟨_, rfl⟩
 rw [← hG]
 have HG := Lib.hid hG
 obtain ⟨i0, hi0⟩ : ∃ i, X.length = i := ⟨_, rfl⟩
 obtain ⟨j0, hj0⟩ : ∃ i, Y.length = i := ⟨_, rfl⟩
 have hI : 0 < i0 ∧ 0 < j0 ∧ i0 = m - a ∧ j0 = b - m ∧ a < m ∧ m < b := by omega
 obtain ⟨hi1, hj1, hi2, hj2, ham, hmb⟩ := hI
 have HS : Hid (∃ P1 U V T1, d.toList = P1 ++ U ++ V ++ T1 ∧ P1.length + i0 = m ∧ U.length = i0 ∧ V.length = j0 ∧ G = P1 ++ V ++ U ++ T1) := ⟨P, X, Y, T, hd, by omega, hi0, hj0, hG⟩
 have S0 : Aside _ := S
 have f1 : (m : Int) - (a : Int) = (i0 : Int) := by omega
 have f2 : (b : Int) - (m : Int) = (j0 : Int) := by omega
 have w1 : IntKind.i64.wrap (i0 : Int) = (i0 : Int) := by rw [IntKind.wrap_i64]; omega
 have w2 : IntKind.i64.wrap (j0 : Int) = (j0 : Int) := by rw [IntKind.wrap_i64]; omega
 have hi3 : i0 ≤ m := by omega
 have hj3 : m + j0 ≤ sz := by omega
 clear S hd ha hX hY hX0 hY0 hG hi0 hj0 hi2 hj2
 have FG := L.f70
 go_enter FG, Tryz.ntmps70
 go_wp2
 go_loopg [10, 11] (i0 + j0) (fun kx s5 s6 wr => ∃ (i j : Nat) (dk : Array Snt), s5 = .int .i64 i ∧ s6 = .int .i64 j ∧ 0 < i ∧ 0 < j ∧ i ≤ m ∧ m + j ≤ sz ∧ i + j ≤ kx ∧ dk.size = sz ∧ Aside (SWK Snt.cs k w0 blk off dk wr) ∧ Hid (∃ P1 U V T1, dk.toList = P1 ++ U ++ V ++ T1 ∧ P1.length + i = m ∧ U.length = i ∧ V.length = j ∧ G = P1 ++ V ++ U ++ T1))
 case atStart => exact ⟨i0, j0, d, by go_num, by go_num, hi1, hj1, hi3, hj3, Nat.le_refl _, hs, S0, HS⟩
 case round =>
  clear S0 HS f1 f2 w1 w2
  obtain ⟨i, j, dk, rfl, rfl, hi, hj, him, hjm, hkx, hds, S1, HE⟩ := hrel
  obtain ⟨ka, hk⟩ : ∃ ka, ka + i = m := ⟨m - i, by omega⟩
  have hk1 : ka + i ≤ m := by omega
  have f3 : (m : Int) - (i : Int) = (ka : Int) := by omega
  have w3 : IntKind.i64.wrap (ka : Int) = (ka : Int) := by rw [IntKind.wrap_i64]; omega
  rcases Nat.lt_trichotomy i j with hlt | heq | hlt
  ·-- the right piece is longer
   obtain ⟨q, hq⟩ : ∃ q, q + i = j := ⟨j - i, by omega⟩
   obtain ⟨l, hl⟩ : ∃ l, l = m + q := ⟨_, rfl⟩
   have HC : Hid (Calls Pr 81 #[.slice (some ⟨blk, off, none⟩) sz cap, .int .i64 ka, .int .i64 l, .int .i64 i, cmpV] wr fun e w' => e = .returned (.tuple #[]) ∧ ∃ d' : Array Snt, SWK Snt.cs k w0 blk off d' w' ∧ d'.size = sz ∧ (∃ P1 U V T1, d'.toList = P1 ++ U ++ V ++ T1 ∧ P1.length + i = m ∧ U.length = i ∧ V.length = q ∧ G = P1 ++ V ++ U ++ T1)) := by
    obtain ⟨P1, U, V, T1, g1, g2, g3, g4, g5⟩ := HE.out
    have eV : V.take q ++ V.drop q = V := List.take_append_drop q V
    refine (swapRange_any L (cap := cap) (a := ka) (b := l) (n := i) (P := P1) (X := U) (M := V.take q) (Y := V.drop q) (T := T1) R hs0 hds S1.out (by rw [g1, show P1 ++ U ++ V.take q ++ V.drop q = P1 ++ U ++ V by rw [List.append_assoc (P1 ++ U), eV]]) (by omega) g3 (by rw [List.length_drop]; omega) (by rw [List.length_take]; omega) hsz).mono ?_
    rintro e w' ⟨rfl, d', q1, q2, q3⟩
    refine ⟨rfl, d', q1, q2, P1, V.drop q, V.take q, U ++ T1, by rw [q3]; simp only [List.append_assoc], g2, by rw [List.length_drop]; omega, by rw [List.length_take]; omega, ?_⟩
    rw [g5, show P1 ++ V.take q ++ V.drop q = P1 ++ V by rw [List.append_assoc P1, eV], List.append_assoc (P1 ++ V)]
   have f1 : ¬ (i : Int) = (j : Int) := by omega
   have f2 : ¬ (j : Int) < (i : Int) := by omega
   have f4 : (m : Int) + (j : Int) - (i : Int) = (l : Int) := by omega
   have f5 : (j : Int) - (i : Int) = (q : Int) := by omega
   have w4 : IntKind.i64.wrap (l : Int) = (l : Int) := by rw [IntKind.wrap_i64]; omega
   have w5 : IntKind.i64.wrap (q : Int) = (q : Int) := by rw [IntKind.wrap_i64]; omega
   have g0 : 0 < q := by omega
   have g6 : m + q ≤ sz := by omega
   have g7 : i + q < i + j := by omega
   clear HE S1 hds hk hq hl
   go_wp2_with (go_at_fn 81; refine HC.out.mono ?_; rintro e w' ⟨rfl, d', q1, q2, q3⟩; have Q1 : Aside _ := q1; have Q3 := Lib.hid q3; clear q1 q3)
   go_roundg (i + q)
   case measure => omega
   case rel => exact ⟨i, q, d', rfl, by go_num, hi, g0, him, g6, Nat.le_refl _, q2, Q1, Q3⟩
  ·obtain rfl : i = j := heq
   have HC : Hid (Calls Pr 81 #[.slice (some ⟨blk, off, none⟩) sz cap, .int .i64 ka, .int .i64 m, .int .i64 i, cmpV] wr fun e w' => e = .returned (.tuple #[]) ∧ ∃ d' : Array Snt, SWK Snt.cs k w0 blk off d' w' ∧ d'.size = sz ∧ d'.toList = G) := by
    obtain ⟨P1, U, V, T1, g1, g2, g3, g4, g5⟩ := HE.out
    refine (swapRange_any L (cap := cap) (a := ka) (b := m) (n := i) (P := P1) (X := U) (M := []) (Y := V) (T := T1) R hs0 hds S1.out (by rw [g1, List.append_nil]) (by omega) g3 g4 (by simp; omega) hsz).mono ?_
    rintro e w' ⟨rfl, d', q1, q2, q3⟩
    exact ⟨rfl, d', q1, q2, by rw [q3, g5, List.append_nil]⟩
   clear HE S1 hds hk
   go_wp2_with (go_at_fn 81; refine HC.out.mono ?_; rintro e w' ⟨rfl, d', q1, q2, q3⟩; have Q1 : Aside _ := q1; have Q3 := Lib.hid q3; clear q1 q3)
   go_end0
   exact ⟨rfl, d', Q1.out, q2, Q3.out⟩
  ·-- the left piece is longer
   obtain ⟨q, hq⟩ : ∃ q, q + j = i := ⟨i - j, by omega⟩
   have HC : Hid (Calls Pr 81 #[.slice (some ⟨blk, off, none⟩) sz cap, .int .i64 ka, .int .i64 m, .int .i64 j, cmpV] wr fun e w' => e = .returned (.tuple #[]) ∧ ∃ d' : Array Snt, SWK Snt.cs k w0 blk off d' w' ∧ d'.size = sz ∧ (∃ P1 U V T1, d'.toList = P1 ++ U ++ V ++ T1 ∧ P1.length + q = m ∧ U.length = q ∧ V.length = j ∧ G = P1 ++ V ++ U ++ T1)) := by
    obtain ⟨P1, U, V, T1, g1, g2, g3, g4, g5⟩ := HE.out
    have eU : U.take j ++ U.drop j = U := List.take_append_drop j U
    refine (swapRange_any L (cap := cap) (a := ka) (b := m) (n := j) (P := P1) (X := U.take j) (M := U.drop j) (Y := V) (T := T1) R hs0 hds S1.out (by rw [g1, show P1 ++ U.take j ++ U.drop j = P1 ++ U by rw [List.append_assoc P1, eU]]) (by omega) (by rw [List.length_take]; omega) g4 (by rw [List.length_drop]; omega) hsz).mono ?_
    rintro e w' ⟨rfl, d', q1, q2, q3⟩
    refine ⟨rfl, d', q1, q2, P1 ++ V, U.drop j, U.take j, T1, by rw [q3], by rw [List.length_append]; omega, by rw [List.length_drop]; omega, by rw [List.length_take]; omega, ?_⟩
    rw [g5, show P1 ++ V ++ U.take j ++ U.drop j = P1 ++ V ++ U by rw [List.append_assoc (P1 ++ V), eU]]
   have f1 : ¬ (i : Int) = (j : Int) := by omega
   have f2 : (j : Int) < (i : Int) := by omega
   have f5 : (i : Int) - (j : Int) = (q : Int) := by omega
   have w5 : IntKind.i64.wrap (q : Int) = (q : Int) := by rw [IntKind.wrap_i64]; omega
   have g0 : 0 < q := by omega
   have g6 : q ≤ m := by omega
   have g7 : q + j < i + j := by omega
   clear HE S1 hds hk hq
   go_wp2_with (go_at_fn 81; refine HC.out.mono ?_; rintro e w' ⟨rfl, d', q1, q2, q3⟩; have Q1 : Aside _ := q1; have Q3 := Lib.hid q3; clear q1 q3)
   go_roundg (q + j)
   case measure => omega
   case rel => exact ⟨q, j, d', by go_num, rfl, g0, hj, g6, hjm, Nat.le_refl _, q2, Q1, Q3⟩
end Go.Proofs.YthkhgfdjdpfoiaaGreat
namespace Go.Proofs.YthkhgfdjdpfoiaaGreat
open Go Go.RowKit Go.Vi Go.Sort
def SymOut (k : Nat) (w0 : World) (blk off sz : Nat) (P Z T : List Snt) (w' : World) : Prop := ∃ d' : Array Snt, SWK Snt.cs k w0 blk off d' w' ∧ d'.size = sz ∧ MergedTo (ltOf sntCmp) P Z T d'
set_option maxHeartbeats 4000000 in
set_option maxRecDepth 1000000 in
theorem symLeft_any {Pr : Program} {k : Nat} (L : SntP Pr k) {blk off cap a m b sz : Nat} {d0 d : Array Snt} {w0 w : World} (R : RowK Snt.cs k w0 blk off d0) (hs0 : d0.size = sz) (hs : d.size = sz) (S : SWK Snt.cs k w0 blk off d w) {P X Y T : List Snt} (hd : d.toList = P ++ X ++ Y ++ T) (ha : P.length = a) (hX : a + X.length = m) (hY : m + Y.length = b) (aX : Asc (ltOf sntCmp) X) (aY : Asc (ltOf sntCmp) Y) (h1 : X.length = 1) (hY0 : 0 < Y.length) (hsz : sz ≤ 1000000) :
  Calls Pr 59 #[.slice (some ⟨blk, off, none⟩) sz cap, .int .i64 a, .int .i64 m, .int .i64 b, cmpV] w fun e w' => e = .returned (.tuple #[]) ∧ SymOut k w0 blk off sz P (X ++ Y) T w' := by
 have mixed := L.mixed; have t0 := L.t0; have a0 := L.a0; have z0 := L.z0; have v0 := L.v0; have t3 := L.t3; have a3 := L.a3; have z3 := L.z3; have v3 := L.v3; have t4 := L.t4; have a4 := L.a4; have z4 := L.z4; have v4 := L.v4; have t87 := L.tS; have a87 := L.aS; have z87 := L.zS; have v87 := L.vS; have t98 := L.tC; have a98 := L.aC; have z98 := L.zC; have v98 := L.vC; have t172 := L.tU; have a172 := L.aU; have z172 := L.zU; have v172 := L.vU
 have aE := L.aE; have zE := L.zE; have eg := L.eg; have eSw := L.eSw; have eRo := L.eRo; have eSy := L.eSy
 have HC := Lib.hid (L.cmp blk off d0.size w0)
 have hbn : b ≤ sz := by
  have := congrArg List.length hd
  simp only [List.length_append, Array.length_toList] at this
  omega
 have hma : (m : Int) - (a : Int) = 1 := by omega
 have ham : a < m := by omega
 have hmb : m < b := by omega
 have HD := Lib.hid hd
 have HA := Lib.hid ha
 have HX := Lib.hid hX
 have HY := Lib.hid hY
 have AX := Lib.hid aX
 have AY := Lib.hid aY
 have S0 : Aside _ := S
 have H1 := Lib.hid h1
 clear S hd ha hX hY aX aY h1 hY0
 have FG := L.f59
 go_enter FG, Tryz.ntmps59
 go_wp2_with fail
 clear hma
 go_loopg [10, 11] (b - m) (fun kx s1 s2 wr => ∃ (i j : Nat), s1 = .int .i64 i ∧ s2 = .int .i64 j ∧ m ≤ i ∧ i ≤ j ∧ j ≤ b ∧ j - i ≤ kx ∧ Aside (SWK Snt.cs k w0 blk off d wr) ∧ Hid ((i = m ∨ ltOf sntCmp d[i - 1]! d[a]! = true) ∧ (j = b ∨ ltOf sntCmp d[j]! d[a]! = false)))
 case atStart => exact ⟨m, b, rfl, rfl, Nat.le_refl _, by omega, Nat.le_refl _, Nat.le_refl _, S0, .inl rfl, .inl rfl⟩
 case round =>
  clear S0
  obtain ⟨i, j, rfl, rfl, hmi, hij, hjb, hkx, S1, HE⟩ := hrel
  by_cases hlt : i < j
  ·have hh1 : i ≤ (i + j) / 2 := by omega
   have hh2 : (i + j) / 2 < j := by omega
   cases hL : ltOf sntCmp d[(i + j) / 2]! d[a]! with
   | true =>
    have ea1 : (((i : Int) + (j : Int)) / 2).toNat = (i + j) / 2 := by omega
    have pa1 : (0 : Int) ≤ ((i : Int) + (j : Int)) / 2 := by omega
    have ba1 : ((i : Int) + (j : Int)) / 2 < (sz : Int) := by omega
    have ra1 : IntKind.i64.wrap (((i : Int) + (j : Int)) / 2) = ((i : Int) + (j : Int)) / 2 := by rw [IntKind.wrap_i64]; omega
    have ec1 : ((a : Int)).toNat = a := by omega
    have pc1 : (0 : Int) ≤ (a : Int) := by omega
    have bc1 : (a : Int) < (sz : Int) := by omega
    have rc1 : IntKind.i64.wrap ((a : Int)) = (a : Int) := by rw [IntKind.wrap_i64]; omega
    obtain ⟨x1, hx1⟩ : ∃ x, x = d[(i + j) / 2]! := ⟨_, rfl⟩
    obtain ⟨y1, hy1⟩ : ∃ x, x = d[a]! := ⟨_, rfl⟩
    have l1a := S1.out.ld R (by omega) Pr ((i + j) / 2) (by omega)
    have l1b := S1.out.ld R (by omega) Pr (a) (by omega)
    rw [← hx1] at l1a
    rw [← hy1] at l1b
    have hc1 := S1.out.cmp HC.out (by omega) x1 y1
    have hv1 : sntCmp x1 y1 < 0 := by rw [hx1, hy1]; exact of_decide_eq_true hL
    have hd1 : decide (sntCmp x1 y1 < 0) = true := decide_eq_true hv1
    clear hx1 hy1
    go_wp2_with fail
    go_quiet_grown (first | (go_at_fn 26; refine Calls.grown_of (hc1 _ _)))
    have S2 : Aside (SWK Snt.cs k w0 blk off d (grow (wr.drewN nq) osq)) := S1.out.grown nq osq
    clear l1a l1b hc1 S1
    generalize grow (wr.drewN nq) osq = w2 at S2 ⊢
    clear nq osq
    have HL := Lib.hid hL
    clear hL
    go_wp2
    go_roundg (j - ((i + j) / 2 + 1))
    case measure => omega
    case rel => exact ⟨(i + j) / 2 + 1, j, by go_num, rfl, by omega, by omega, hjb, Nat.le_refl _, S2, .inr (by rw [Nat.add_sub_cancel]; exact HL.out), HE.out.2⟩
   | false =>
    have ea2 : (((i : Int) + (j : Int)) / 2).toNat = (i + j) / 2 := by omega
    have pa2 : (0 : Int) ≤ ((i : Int) + (j : Int)) / 2 := by omega
    have ba2 : ((i : Int) + (j : Int)) / 2 < (sz : Int) := by omega
    have ra2 : IntKind.i64.wrap (((i : Int) + (j : Int)) / 2) = ((i : Int) + (j : Int)) / 2 := by rw [IntKind.wrap_i64]; omega
    have ec2 : ((a : Int)).toNat = a := by omega
    have pc2 : (0 : Int) ≤ (a : Int) := by omega
    have bc2 : (a : Int) < (sz : Int) := by omega
    have rc2 : IntKind.i64.wrap ((a : Int)) = (a : Int) := by rw [IntKind.wrap_i64]; omega
    obtain ⟨x2, hx2⟩ : ∃ x, x = d[(i + j) / 2]! := ⟨_, rfl⟩
    obtain ⟨y2, hy2⟩ : ∃ x, x = d[a]! := ⟨_, rfl⟩
    have l2a := S1.out.ld R (by omega) Pr ((i + j) / 2) (by omega)
    have l2b := S1.out.ld R (by omega) Pr (a) (by omega)
    rw [← hx2] at l2a
    rw [← hy2] at l2b
    have hc2 := S1.out.cmp HC.out (by omega) x2 y2
    have hv2 : ¬ sntCmp x2 y2 < 0 := by rw [hx2, hy2]; exact of_decide_eq_false hL
    have hd2 : decide (sntCmp x2 y2 < 0) = false := decide_eq_false hv2
    clear hx2 hy2
    go_wp2_with fail
    go_quiet_grown (first | (go_at_fn 26; refine Calls.grown_of (hc2 _ _)))
    have S2 : Aside (SWK Snt.cs k w0 blk off d (grow (wr.drewN nq) osq)) := S1.out.grown nq osq
    clear l2a l2b hc2 S1
    generalize grow (wr.drewN nq) osq = w2 at S2 ⊢
    clear nq osq
    have HL := Lib.hid hL
    clear hL
    go_wp2
    go_roundg ((i + j) / 2 - i)
    case measure => omega
    case rel => exact ⟨i, (i + j) / 2, rfl, by go_num, hmi, by omega, by omega, Nat.le_refl _, S2, HE.out.1, .inr HL.out⟩
  ·obtain rfl : i = j := by omega
   obtain ⟨x, c, hXx, hic, hc, hd2, hasc⟩ := sym_left_end swoSnt HD.out HA.out HX.out HY.out H1.out AY.out hmi hjb HE.out.1 HE.out.2
   have HXX := Lib.hid hXx
   have HASC := Lib.hid hasc
   have HC2 := Lib.hid hc
   have HD2 := Lib.hid hd2
   have hlast : (i : Int) - 1 = ((a + c : Nat) : Int) := by omega
   have hw : IntKind.i64.wrap ((a : Int) + (c : Int)) = (a : Int) + (c : Int) := by rw [IntKind.wrap_i64]; omega
   have hb2 : a + 1 + c ≤ sz := by omega
   clear HE hmi hij hjb hlt hXx hic hc hd2 hasc
   go_wp2_with fail
   go_loopg [13] c (fun kx s1 wr => ∃ (t : Nat) (dk : Array Snt), s1 = .int .i64 ((a + t : Nat) : Int) ∧ t ≤ c ∧ c - t ≤ kx ∧ dk.size = sz ∧ Aside (SWK Snt.cs k w0 blk off dk wr) ∧ Hid (dk.toList = P ++ (Y.take t ++ x :: Y.drop t) ++ T))
   case atStart => exact ⟨0, d, by go_num, Nat.zero_le _, Nat.le_refl _, hs, S1, HD2⟩
   case round =>
    clear S1 HD2
    obtain ⟨t, dk, rfl, ht, hkx2, hds, S3, HE⟩ := hrel
    by_cases hlt : t < c
    ·have ea5 : ((a : Int) + (t : Int)).toNat = a + t := by omega
     have pa5 : (0 : Int) ≤ (a : Int) + (t : Int) := by omega
     have ba5 : (a : Int) + (t : Int) < (sz : Int) := by omega
     have ra5 : IntKind.i64.wrap ((a : Int) + (t : Int)) = (a : Int) + (t : Int) := by rw [IntKind.wrap_i64]; omega
     have ec5 : ((a : Int) + (t : Int) + 1).toNat = a + t + 1 := by omega
     have pc5 : (0 : Int) ≤ (a : Int) + (t : Int) + 1 := by omega
     have bc5 : (a : Int) + (t : Int) + 1 < (sz : Int) := by omega
     have rc5 : IntKind.i64.wrap ((a : Int) + (t : Int) + 1) = (a : Int) + (t : Int) + 1 := by rw [IntKind.wrap_i64]; omega
     have S4 : Aside (SWK Snt.cs k w0 blk off (swp dk (a + t) (a + t + 1)) ((wr.drew.setCells blk (off + (a + t) * k) (Snt.cs dk[a + t + 1]!)).setCells blk (off + (a + t + 1) * k) (Snt.cs dk[a + t]!))) := S3.out.swapped R (a + t) (a + t + 1) (by omega) (by omega)
     have l5a := S3.out.ld1 R (by omega) Pr (a + t) (by omega)
     have l5b := S3.out.ld1 R (by omega) Pr (a + t + 1) (by omega)
     have s5a := S3.out.st1 R (by omega) Pr (a + t) (by omega) dk[a + t + 1]!
     have s5b := S3.out.st2 R (by omega) Pr (a + t) (a + t + 1) (by omega) (by omega) dk[a + t + 1]! dk[a + t]!
     have n5a : (Snt.cs dk[a + t]!).length = k := R.hk _
     have n5b : (Snt.cs dk[a + t + 1]!).length = k := R.hk _
     generalize Snt.cs dk[a + t]! = cI5 at S4 l5a s5b n5a
     generalize Snt.cs dk[a + t + 1]! = cJ5 at S4 l5b s5a s5b n5b
     clear S3
     go_wp2_with fail
     go_big_region_o
     clear l5a l5b s5a s5b
     generalize (wr.drew.setCells blk (off + (a + t) * k) cJ5).setCells blk (off + (a + t + 1) * k) cI5 = w4 at S4 ⊢
     go_wp2
     go_roundg (c - (t + 1))
     case measure => omega
     case rel => exact ⟨t + 1, swp dk (a + t) (a + t + 1), by go_num, by omega, Nat.le_refl _, by rw [size_swp]; exact hds, S4, walk_right HA.out (Nat.lt_of_lt_of_le hlt HC2.out) HE.out⟩
    ·obtain rfl : t = c := by omega
     go_wp2
     (try simp only [Exit.inBlock, Exit.then]); refine bodyPost_ret (results_none rfl _ _ _) rfl ?_
     exact ⟨rfl, dk, S3.out, hds, by rw [HXX.out]; exact merged_left HE.out HASC.out⟩
set_option maxHeartbeats 4000000 in
set_option maxRecDepth 1000000 in
theorem symRight_any {Pr : Program} {k : Nat} (L : SntP Pr k) {blk off cap a m b sz : Nat} {d0 d : Array Snt} {w0 w : World} (R : RowK Snt.cs k w0 blk off d0) (hs0 : d0.size = sz) (hs : d.size = sz) (S : SWK Snt.cs k w0 blk off d w) {P X Y T : List Snt} (hd : d.toList = P ++ X ++ Y ++ T) (ha : P.length = a) (hX : a + X.length = m) (hY : m + Y.length = b) (aX : Asc (ltOf sntCmp) X) (aY : Asc (ltOf sntCmp) Y) (h0 : X.length ≠ 1) (h1 : Y.length = 1) (hX0 : 0 < X.length) (hsz : sz ≤ 1000000) :
  Calls Pr 59 #[.slice (some ⟨blk, off, none⟩) sz cap, .int .i64 a, .int .i64 m, .int .i64 b, cmpV] w fun e w' => e = .returned (.tuple #[]) ∧ SymOut k w0 blk off sz P (X ++ Y) T w' := by
 have mixed := L.mixed; have t0 := L.t0; have a0 := L.a0; have z0 := L.z0; have v0 := L.v0; have t3 := L.t3; have a3 := L.a3; have z3 := L.z3; have v3 := L.v3; have t4 := L.t4; have a4 := L.a4; have z4 := L.z4; have v4 := L.v4; have t87 := L.tS; have a87 := L.aS; have z87 := L.zS; have v87 := L.vS; have t98 := L.tC; have a98 := L.aC; have z98 := L.zC; have v98 := L.vC; have t172 := L.tU; have a172 := L.aU; have z172 := L.zU; have v172 := L.vU
 have aE := L.aE; have zE := L.zE; have eg := L.eg; have eSw := L.eSw; have eRo := L.eRo; have eSy := L.eSy
 have HC := Lib.hid (L.cmp blk off d0.size w0)
 have hbn : b ≤ sz := by
  have := congrArg List.length hd
  simp only [List.length_append, Array.length_toList] at this
  omega
 have hma : ((m : Int) - (a : Int) == 1) = false := by rw [beq_eq_false_iff_ne]; omega
 have hmb : (b : Int) - (m : Int) = 1 := by omega
 have ham : a + 1 < m := by omega
 have hmb2 : m < b := by omega
 have HD := Lib.hid hd
 have HA := Lib.hid ha
 have HX := Lib.hid hX
 have HY := Lib.hid hY
 have AX := Lib.hid aX
 have AY := Lib.hid aY
 have S0 : Aside _ := S
 have H1 := Lib.hid h1
 clear S hd ha hX hY aX aY h1 h0 hX0
 have FG := L.f59
 go_enter FG, Tryz.ntmps59
 go_wp2_with fail
 clear hma hmb
 go_loopg [14, 15] (m - a) (fun kx s1 s2 wr => ∃ (i j : Nat), s1 = .int .i64 i ∧ s2 = .int .i64 j ∧ a ≤ i ∧ i ≤ j ∧ j ≤ m ∧ j - i ≤ kx ∧ Aside (SWK Snt.cs k w0 blk off d wr) ∧ Hid ((i = a ∨ ltOf sntCmp d[m]! d[i - 1]! = false) ∧ (j = m ∨ ltOf sntCmp d[m]! d[j]! = true)))
 case atStart => exact ⟨a, m, rfl, rfl, Nat.le_refl _, by omega, Nat.le_refl _, Nat.le_refl _, S0, .inl rfl, .inl rfl⟩
 case round =>
  clear S0
  obtain ⟨i, j, rfl, rfl, hmi, hij, hjb, hkx, S1, HE⟩ := hrel
  by_cases hlt : i < j
  ·have hh1 : i ≤ (i + j) / 2 := by omega
   have hh2 : (i + j) / 2 < j := by omega
   cases hL : ltOf sntCmp d[m]! d[(i + j) / 2]! with
   | true =>
    have ea1 : ((m : Int)).toNat = m := by omega
    have pa1 : (0 : Int) ≤ (m : Int) := by omega
    have ba1 : (m : Int) < (sz : Int) := by omega
    have ra1 : IntKind.i64.wrap ((m : Int)) = (m : Int) := by rw [IntKind.wrap_i64]; omega
    have ec1 : (((i : Int) + (j : Int)) / 2).toNat = (i + j) / 2 := by omega
    have pc1 : (0 : Int) ≤ ((i : Int) + (j : Int)) / 2 := by omega
    have bc1 : ((i : Int) + (j : Int)) / 2 < (sz : Int) := by omega
    have rc1 : IntKind.i64.wrap (((i : Int) + (j : Int)) / 2) = ((i : Int) + (j : Int)) / 2 := by rw [IntKind.wrap_i64]; omega
    obtain ⟨x1, hx1⟩ : ∃ x, x = d[m]! := ⟨_, rfl⟩
    obtain ⟨y1, hy1⟩ : ∃ x, x = d[(i + j) / 2]! := ⟨_, rfl⟩
    have l1a := S1.out.ld R (by omega) Pr (m) (by omega)
    have l1b := S1.out.ld R (by omega) Pr ((i + j) / 2) (by omega)
    rw [← hx1] at l1a
    rw [← hy1] at l1b
    have hc1 := S1.out.cmp HC.out (by omega) x1 y1
    have hv1 : sntCmp x1 y1 < 0 := by rw [hx1, hy1]; exact of_decide_eq_true hL
    have hd1 : decide (sntCmp x1 y1 < 0) = true := decide_eq_true hv1
    clear hx1 hy1
    go_wp2_with fail
    go_quiet_grown (first | (go_at_fn 26; refine Calls.grown_of (hc1 _ _)))
    have S2 : Aside (SWK Snt.cs k w0 blk off d (grow (wr.drewN nq) osq)) := S1.out.grown nq osq
    clear l1a l1b hc1 S1
    generalize grow (wr.drewN nq) osq = w2 at S2 ⊢
    clear nq osq
    have HL := Lib.hid hL
    clear hL
    go_wp2
    go_roundg ((i + j) / 2 - i)
    case measure => omega
    case rel => exact ⟨i, (i + j) / 2, rfl, by go_num, hmi, by omega, by omega, Nat.le_refl _, S2, HE.out.1, .inr HL.out⟩
   | false =>
    have ea2 : ((m : Int)).toNat = m := by omega
    have pa2 : (0 : Int) ≤ (m : Int) := by omega
    have ba2 : (m : Int) < (sz : Int) := by omega
    have ra2 : IntKind.i64.wrap ((m : Int)) = (m : Int) := by rw [IntKind.wrap_i64]; omega
    have ec2 : (((i : Int) + (j : Int)) / 2).toNat = (i + j) / 2 := by omega
    have pc2 : (0 : Int) ≤ ((i : Int) + (j : Int)) / 2 := by omega
    have bc2 : ((i : Int) + (j : Int)) / 2 < (sz : Int) := by omega
    have rc2 : IntKind.i64.wrap (((i : Int) + (j : Int)) / 2) = ((i : Int) + (j : Int)) / 2 := by rw [IntKind.wrap_i64]; omega
    obtain ⟨x2, hx2⟩ : ∃ x, x = d[m]! := ⟨_, rfl⟩
    obtain ⟨y2, hy2⟩ : ∃ x, x = d[(i + j) / 2]! := ⟨_, rfl⟩
    have l2a := S1.out.ld R (by omega) Pr (m) (by omega)
    have l2b := S1.out.ld R (by omega) Pr ((i + j) / 2) (by omega)
    rw [← hx2] at l2a
    rw [← hy2] at l2b
    have hc2 := S1.out.cmp HC.out (by omega) x2 y2
    have hv2 : ¬ sntCmp x2 y2 < 0 := by rw [hx2, hy2]; exact of_decide_eq_false hL
    have hd2 : decide (sntCmp x2 y2 < 0) = false := decide_eq_false hv2
    clear hx2 hy2
    go_wp2_with fail
    go_quiet_grown (first | (go_at_fn 26; refine Calls.grown_of (hc2 _ _)))
    have S2 : Aside (SWK Snt.cs k w0 blk off d (grow (wr.drewN nq) osq)) := S1.out.grown nq osq
    clear l2a l2b hc2 S1
    generalize grow (wr.drewN nq) osq = w2 at S2 ⊢
    clear nq osq
    have HL := Lib.hid hL
    clear hL
    go_wp2
    go_roundg (j - ((i + j) / 2 + 1))
    case measure => omega
    case rel => exact ⟨(i + j) / 2 + 1, j, by go_num, rfl, by omega, by omega, hjb, Nat.le_refl _, S2, .inr (by rw [Nat.add_sub_cancel]; exact HL.out), HE.out.2⟩
  ·obtain rfl : i = j := by omega
   obtain ⟨y, c, hYy, hic, hc, hd2, hasc⟩ := sym_right_end swoSnt HD.out HA.out HX.out HY.out H1.out AX.out hmi hjb HE.out.1 HE.out.2
   have HYY := Lib.hid hYy
   have HASC := Lib.hid hasc
   have hxl : m = a + X.length := HX.out.symm
   obtain ⟨u, hu⟩ : ∃ u, u = X.length := ⟨_, rfl⟩
   rw [← hu] at hxl hc hd2
   have HU := Lib.hid hu
   have HD2 := Lib.hid hd2
   have hb2 : a + u < sz := by omega
   have hstart : (m : Int) = ((a + u : Nat) : Int) := by omega
   have hend : (i : Int) = ((a + c : Nat) : Int) := by omega
   have HST := Lib.hid hstart
   clear HE hmi hij hjb hlt hYy hd2 hasc hu hxl hstart hend
   subst hic
   go_wp2_with fail
   go_loopg [17] (u - c) (fun kx s1 wr => ∃ (t : Nat) (dk : Array Snt), s1 = .int .i64 ((a + t : Nat) : Int) ∧ c ≤ t ∧ t ≤ u ∧ t - c ≤ kx ∧ dk.size = sz ∧ Aside (SWK Snt.cs k w0 blk off dk wr) ∧ Hid (dk.toList = P ++ (X.take t ++ y :: X.drop t) ++ T))
   case atStart => exact ⟨u, d, by rw [HST.out], hc, Nat.le_refl _, Nat.le_refl _, hs, S1, HD2⟩
   case round =>
    clear S1 HD2 HST
    obtain ⟨t, dk, rfl, hct, htu, hkx2, hds, S3, HE⟩ := hrel
    by_cases hlt : c < t
    ·obtain ⟨q, rfl⟩ : ∃ q, t = q + 1 := ⟨t - 1, by omega⟩
     have ea6 : ((a : Int) + ((q : Int) + 1)).toNat = a + q + 1 := by omega
     have pa6 : (0 : Int) ≤ (a : Int) + ((q : Int) + 1) := by omega
     have ba6 : (a : Int) + ((q : Int) + 1) < (sz : Int) := by omega
     have ra6 : IntKind.i64.wrap ((a : Int) + ((q : Int) + 1)) = (a : Int) + ((q : Int) + 1) := by rw [IntKind.wrap_i64]; omega
     have ec6 : ((a : Int) + ((q : Int) + 1) - 1).toNat = a + q := by omega
     have pc6 : (0 : Int) ≤ (a : Int) + ((q : Int) + 1) - 1 := by omega
     have bc6 : (a : Int) + ((q : Int) + 1) - 1 < (sz : Int) := by omega
     have rc6 : IntKind.i64.wrap ((a : Int) + ((q : Int) + 1) - 1) = (a : Int) + ((q : Int) + 1) - 1 := by rw [IntKind.wrap_i64]; omega
     have S4 : Aside (SWK Snt.cs k w0 blk off (swp dk (a + q + 1) (a + q)) ((wr.drew.setCells blk (off + (a + q + 1) * k) (Snt.cs dk[a + q]!)).setCells blk (off + (a + q) * k) (Snt.cs dk[a + q + 1]!))) := S3.out.swapped R (a + q + 1) (a + q) (by omega) (by omega)
     have l6a := S3.out.ld1 R (by omega) Pr (a + q + 1) (by omega)
     have l6b := S3.out.ld1 R (by omega) Pr (a + q) (by omega)
     have s6a := S3.out.st1 R (by omega) Pr (a + q + 1) (by omega) dk[a + q]!
     have s6b := S3.out.st2 R (by omega) Pr (a + q + 1) (a + q) (by omega) (by omega) dk[a + q]! dk[a + q + 1]!
     have n6a : (Snt.cs dk[a + q + 1]!).length = k := R.hk _
     have n6b : (Snt.cs dk[a + q]!).length = k := R.hk _
     generalize Snt.cs dk[a + q + 1]! = cI6 at S4 l6a s6b n6a
     generalize Snt.cs dk[a + q]! = cJ6 at S4 l6b s6a s6b n6b
     clear S3
     go_wp2_with fail
     go_big_region_o
     clear l6a l6b s6a s6b
     generalize (wr.drew.setCells blk (off + (a + q + 1) * k) cJ6).setCells blk (off + (a + q) * k) cI6 = w4 at S4 ⊢
     go_wp2
     go_roundg (q - c)
     case measure => omega
     case rel => exact ⟨q, swp dk (a + q + 1) (a + q), by go_num, by omega, by omega, Nat.le_refl _, by rw [size_swp]; exact hds, S4, walk_left HA.out (by rw [← HU.out]; omega) HE.out⟩
    ·obtain rfl : t = c := by omega
     go_wp2
     (try simp only [Exit.inBlock, Exit.then]); refine bodyPost_ret (results_none rfl _ _ _) rfl ?_
     exact ⟨rfl, dk, S3.out, hds, by rw [HYY.out]; exact merged_right HE.out HASC.out⟩
end Go.Proofs.YthkhgfdjdpfoiaaGreat
