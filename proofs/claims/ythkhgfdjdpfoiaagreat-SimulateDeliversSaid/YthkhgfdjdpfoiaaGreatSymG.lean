/-
 slices.symMergeCmpFunc at reports that are sent: the search over both halves. Printed by wip/tools/gensym.py.
-/
import Derived.Test.YthkhgfdjdpfoiaaGreatSwpA
import Derived.Deep.CutRange
import Derived.Deep.DeepCutAuto
import Derived.Deep.CutBlock
set_option linter.unusedSimpArgs false
set_option linter.unusedVariables false
namespace Go.Proofs.YthkhgfdjdpfoiaaGreat
open Go Go.RowKit Go.Vi Go.Sort
set_option maxHeartbeats 4000000 in
set_option maxRecDepth 1000000 in
theorem symGen_any {Pr : Program} {k : Nat} (L : SntP Pr k) {blk off cap a m b sz : Nat} {d0 d : Array Snt} {w0 w : World} (R : RowK Snt.cs k w0 blk off d0) (hs0 : d0.size = sz) (hs : d.size = sz) (S : SWK Snt.cs k w0 blk off d w) {P X Y T : List Snt} (hd : d.toList = P ++ X ++ Y ++ T) (ha : P.length = a) (hX : a + X.length = m) (hY : m + Y.length = b) (aX : Asc (ltOf sntCmp) X) (aY : Asc (ltOf sntCmp) Y) (h0 : X.length ≠ 1) (h1 : Y.length ≠ 1) (hX0 : 0 < X.length) (hY0 : 0 < Y.length) (ih : ∀ (a' m' b' : Nat) (d' : Array Snt) (w' : World) (P' X' Y' T' : List Snt), b' - a' < b - a → d'.size = sz → SWK Snt.cs k w0 blk off d' w' → d'.toList = P' ++ X' ++ Y' ++ T' → P'.length = a' → a' + X'.length = m' → m' + Y'.length = b' → 0 < X'.length → 0 < Y'.length → Asc (ltOf sntCmp) X' → Asc (ltOf sntCmp) Y' → Calls Pr 59 #[.slice (some ⟨blk, off, none⟩) sz cap, .int .i64 a', .int .i64 m', .int .i64 b', cmpV] w' fun e w2 => e = .returned (.tuple #[]) ∧ SymOut k w0 blk off sz P' (X' ++ Y') T' w2) (hsz : sz ≤ 1000000) :
  Calls Pr 59 #[.slice (some ⟨blk, off, none⟩) sz cap, .int .i64 a, .int .i64 m, .int .i64 b, cmpV] w fun e w' => e = .returned (.tuple #[]) ∧ SymOut k w0 blk off sz P (X ++ Y) T w' := by
 have mixed := L.mixed; have t0 := L.t0; have a0 := L.a0; have z0 := L.z0; have v0 := L.v0; have t3 := L.t3; have a3 := L.a3; have z3 := L.z3; have v3 := L.v3; have t4 := L.t4; have a4 := L.a4; have z4 := L.z4; have v4 := L.v4; have t87 := L.tS; have a87 := L.aS; have z87 := L.zS; have v87 := L.vS; have t98 := L.tC; have a98 := L.aC; have z98 := L.zC; have v98 := L.vC; have t172 := L.tU; have a172 := L.aU; have z172 := L.zU; have v172 := L.vU
 have aE := L.aE; have zE := L.zE; have eg := L.eg; have eSw := L.eSw; have eRo := L.eRo; have eSy := L.eSy
 have HC := Lib.hid (L.cmp blk off d0.size w0)
 have hbn : b ≤ sz := by
  have := congrArg List.length hd
  simp only [List.length_append, Array.length_toList] at this
  omega
 have hma : ((m : Int) - (a : Int) == 1) = false := by rw [beq_eq_false_iff_ne]; omega
 have hmb : ((b : Int) - (m : Int) == 1) = false := by rw [beq_eq_false_iff_ne]; omega
 have ham : a < m := by omega
 have hmb2 : m < b := by omega
 obtain ⟨mid, hmid⟩ : ∃ z, z = (a + b) / 2 := ⟨_, rfl⟩
 obtain ⟨n, hn⟩ : ∃ z, z = mid + m := ⟨_, rfl⟩
 obtain ⟨lo, hi, hlo⟩ : ∃ lo hi : Nat, (mid < m ∧ lo + b = mid + m ∧ hi = mid) ∨ (m ≤ mid ∧ lo = a ∧ hi = m) := by
  rcases Nat.lt_or_ge mid m with h | h
  ·exact ⟨mid + m - b, mid, .inl ⟨h, by omega, rfl⟩⟩
  ·exact ⟨a, m, .inr ⟨h, rfl, rfl⟩⟩
 have b1 : a < mid := by omega
 have b2 : mid < b := by omega
 have b3 : a ≤ lo := by omega
 have b4 : lo ≤ hi := by omega
 have b5 : hi ≤ mid := by omega
 have b6 : hi ≤ m := by omega
 have fmid : ((a : Int) + (b : Int)) / 2 = (mid : Int) := by omega
 have wmid : IntKind.i64.wrap (mid : Int) = (mid : Int) := by rw [IntKind.wrap_i64]; omega
 have fn_ : (mid : Int) + (m : Int) = (n : Int) := by omega
 have wn : IntKind.i64.wrap (n : Int) = (n : Int) := by rw [IntKind.wrap_i64]; omega
 have HD := Lib.hid hd
 have HA := Lib.hid ha
 have HX := Lib.hid hX
 have HY := Lib.hid hY
 have AX := Lib.hid aX
 have AY := Lib.hid aY
 have S0 : Aside _ := S
 have HLO := Lib.hid hlo
 have HM := Lib.hid hmid
 have HN := Lib.hid hn
 have IH := Lib.hid ih
 obtain ⟨p, hp⟩ : ∃ z, z = mid + m - 1 := ⟨_, rfl⟩
 have HPN := Lib.hid hp
 have fp_ : (n : Int) - 1 = (p : Int) := by omega
 have wp_ : IntKind.i64.wrap (p : Int) = (p : Int) := by rw [IntKind.wrap_i64]; omega
 have HLB : Hid (∀ c, lo ≤ c → c < hi → c ≤ mid + m - 1 ∧ mid + m - 1 - c < sz) := fun c h1 h2 => by omega
 clear S hd ha hX hY aX aY h1 h0 hX0 hY0 hmid hn hlo ih hp
 have FG := L.f59
 go_enter FG, Tryz.ntmps59
 go_upto_if 140 with fail
 go_cut [20, 21] (fun s20 s21 wx => s20 = .int .i64 lo ∧ s21 = .int .i64 hi ∧ w = wx)
 case first => as_aux_lemma =>
  by_cases hlt : (mid : Int) < (m : Int)
  ·have e1 : (n : Int) - (b : Int) = (lo : Int) := by have := HLO.out; have := HN.out; omega
   have e2 : IntKind.i64.wrap (lo : Int) = (lo : Int) := by rw [IntKind.wrap_i64]; omega
   have e3 : hi = mid := by have := HLO.out; omega
   go_wp2_with fail
   go_meet
   exact ⟨rfl, by rw [e3], rfl⟩
  ·have e3 : hi = m ∧ lo = a := by have := HLO.out; omega
   go_wp2_with fail
   go_meet
   exact ⟨by rw [e3.2], by rw [e3.1], rfl⟩
 case rest =>
  obtain ⟨rfl, rfl, rfl⟩ := hcut
  go_wp2_with fail
  clear fmid wmid hma hmb
  go_loopg [20, 21] (hi - lo) (fun kx s1 s2 wr => ∃ (i j : Nat), s1 = .int .i64 i ∧ s2 = .int .i64 j ∧ lo ≤ i ∧ i ≤ j ∧ j ≤ hi ∧ j - i ≤ kx ∧ Aside (SWK Snt.cs k w0 blk off d wr) ∧ Hid ((i = lo ∨ ltOf sntCmp d[mid + m - 1 - (i - 1)]! d[i - 1]! = false) ∧ (j = hi ∨ ltOf sntCmp d[mid + m - 1 - (j)]! d[j]! = true)))
  case atStart => exact ⟨lo, hi, rfl, rfl, Nat.le_refl _, by omega, Nat.le_refl _, Nat.le_refl _, S0, .inl rfl, .inl rfl⟩
  case round =>
   clear S0
   obtain ⟨i, j, rfl, rfl, hmi, hij, hjb, hkx, S1, HE⟩ := hrel
   by_cases hlt : i < j
   ·have hh1 : i ≤ (i + j) / 2 := by omega
    have hh2 : (i + j) / 2 < j := by omega
    have hlb := HLB.out ((i + j) / 2) (by omega) (by omega)
    obtain ⟨q, hq⟩ : ∃ q, q = mid + m - 1 - (i + j) / 2 := ⟨_, rfl⟩
    have HQ := Lib.hid hq
    have hq1 : q < sz := by omega
    have fq : (p : Int) - ((i : Int) + (j : Int)) / 2 = (q : Int) := by have := HPN.out; omega
    have wq : IntKind.i64.wrap (q : Int) = (q : Int) := by rw [IntKind.wrap_i64]; omega
    clear hq hlb
    cases hL : ltOf sntCmp d[mid + m - 1 - ((i + j) / 2)]! d[(i + j) / 2]! with
    | true => as_aux_lemma =>
     rw [← HQ.out] at hL
     have ea1 : ((q : Int)).toNat = q := by omega
     have pa1 : (0 : Int) ≤ (q : Int) := by omega
     have ba1 : (q : Int) < (sz : Int) := by omega
     have ra1 : IntKind.i64.wrap ((q : Int)) = (q : Int) := by rw [IntKind.wrap_i64]; omega
     have ec1 : (((i : Int) + (j : Int)) / 2).toNat = (i + j) / 2 := by omega
     have pc1 : (0 : Int) ≤ ((i : Int) + (j : Int)) / 2 := by omega
     have bc1 : ((i : Int) + (j : Int)) / 2 < (sz : Int) := by omega
     have rc1 : IntKind.i64.wrap (((i : Int) + (j : Int)) / 2) = ((i : Int) + (j : Int)) / 2 := by rw [IntKind.wrap_i64]; omega
     obtain ⟨x1, hx1⟩ : ∃ x, x = d[q]! := ⟨_, rfl⟩
     obtain ⟨y1, hy1⟩ : ∃ x, x = d[(i + j) / 2]! := ⟨_, rfl⟩
     have l1a := S1.out.ld R (by omega) Pr (q) (by omega)
     have l1b := S1.out.ld R (by omega) Pr ((i + j) / 2) (by omega)
     rw [← hx1] at l1a
     rw [← hy1] at l1b
     have hc1 := S1.out.cmp HC.out (by omega) x1 y1
     have hv1 : sntCmp x1 y1 < 0 := by rw [hx1, hy1]; exact of_decide_eq_true hL
     have hd1 : decide (sntCmp x1 y1 < 0) = true := decide_eq_true hv1
     clear hx1 hy1
     go_wp2_with fail
     go_quiet_grown (first | (go_at_fn 26; refine Calls.grown_of (hc1 _ _)))
     have S2 : Aside (SWK Snt.cs k w0 blk off d (grow (wr.drewN nq) osq)) := S1.out.grown nq osq
     clear l1a l1b hc1 S1
     generalize grow (wr.drewN nq) osq = w2 at S2 ⊢
     clear nq osq
     have HL := Lib.hid hL
     clear hL
     go_wp2
     go_roundg ((i + j) / 2 - i)
     case measure => omega
     case rel => exact ⟨i, (i + j) / 2, rfl, by go_num, hmi, by omega, by omega, Nat.le_refl _, S2, HE.out.1, .inr (by have g := HL.out; rw [HQ.out] at g; exact g)⟩
    | false => as_aux_lemma =>
     rw [← HQ.out] at hL
     have ea2 : ((q : Int)).toNat = q := by omega
     have pa2 : (0 : Int) ≤ (q : Int) := by omega
     have ba2 : (q : Int) < (sz : Int) := by omega
     have ra2 : IntKind.i64.wrap ((q : Int)) = (q : Int) := by rw [IntKind.wrap_i64]; omega
     have ec2 : (((i : Int) + (j : Int)) / 2).toNat = (i + j) / 2 := by omega
     have pc2 : (0 : Int) ≤ ((i : Int) + (j : Int)) / 2 := by omega
     have bc2 : ((i : Int) + (j : Int)) / 2 < (sz : Int) := by omega
     have rc2 : IntKind.i64.wrap (((i : Int) + (j : Int)) / 2) = ((i : Int) + (j : Int)) / 2 := by rw [IntKind.wrap_i64]; omega
     obtain ⟨x2, hx2⟩ : ∃ x, x = d[q]! := ⟨_, rfl⟩
     obtain ⟨y2, hy2⟩ : ∃ x, x = d[(i + j) / 2]! := ⟨_, rfl⟩
     have l2a := S1.out.ld R (by omega) Pr (q) (by omega)
     have l2b := S1.out.ld R (by omega) Pr ((i + j) / 2) (by omega)
     rw [← hx2] at l2a
     rw [← hy2] at l2b
     have hc2 := S1.out.cmp HC.out (by omega) x2 y2
     have hv2 : ¬ sntCmp x2 y2 < 0 := by rw [hx2, hy2]; exact of_decide_eq_false hL
     have hd2 : decide (sntCmp x2 y2 < 0) = false := decide_eq_false hv2
     clear hx2 hy2
     go_wp2_with fail
     go_quiet_grown (first | (go_at_fn 26; refine Calls.grown_of (hc2 _ _)))
     have S2 : Aside (SWK Snt.cs k w0 blk off d (grow (wr.drewN nq) osq)) := S1.out.grown nq osq
     clear l2a l2b hc2 S1
     generalize grow (wr.drewN nq) osq = w2 at S2 ⊢
     clear nq osq
     have HL := Lib.hid hL
     clear hL
     go_wp2
     go_roundg (j - ((i + j) / 2 + 1))
     case measure => omega
     case rel => exact ⟨(i + j) / 2 + 1, j, by go_num, rfl, by omega, by omega, hjb, Nat.le_refl _, S2, .inr (by rw [Nat.add_sub_cancel]; exact (by have g := HL.out; rw [HQ.out] at g; exact g)), HE.out.2⟩
   ·obtain rfl : i = j := by omega
    have hkey := sym_gen_end swoSnt HD.out HA.out HX.out HY.out HM.out HLO.out AX.out AY.out hmi hjb HE.out.1 HE.out.2
    obtain ⟨s, t, hs1, ht1, hs2, ht2, hparts⟩ := hkey
    have HP := Lib.hid hparts
    obtain ⟨X1, hX1⟩ : ∃ z, z = X.take s := ⟨_, rfl⟩
    obtain ⟨X2, hX2⟩ : ∃ z, z = X.drop s := ⟨_, rfl⟩
    obtain ⟨Y1, hY1⟩ : ∃ z, z = Y.take t := ⟨_, rfl⟩
    obtain ⟨Y2, hY2⟩ : ∃ z, z = Y.drop t := ⟨_, rfl⟩
    have FX : Hid (X = X1 ++ X2) := by show _ = _; rw [hX1, hX2, List.take_append_drop]
    have FY : Hid (Y = Y1 ++ Y2) := by show _ = _; rw [hY1, hY2, List.take_append_drop]
    have LX1 : Hid (a + X1.length = i) := by show _ = _; rw [hX1, List.length_take]; omega
    have LX2 : Hid (i + X2.length = m) := by show _ = _; rw [hX2, List.length_drop]; have := HX.out; omega
    have LY1 : Hid (i + Y1.length = mid) := by show _ = _; rw [hY1, List.length_take]; omega
    obtain ⟨en, hen⟩ : ∃ z, z = m + t := ⟨_, rfl⟩
    have LY2 : Hid (en + Y2.length = b) := by show _ = _; rw [hY2, List.length_drop]; have := HY.out; omega
    have LE : Hid (mid + X2.length = en ∧ m + Y1.length = en) := by show _ ∧ _; have e2 := LX2.out; have e1 := LY1.out; have e3 := HY.out; rw [hY1, List.length_take] at e1 ⊢; omega
    have HPP : Hid (∀ u ∈ X1 ++ Y1, ∀ v ∈ X2 ++ Y2, ltOf sntCmp v u = false) := by show ∀ u ∈ X1 ++ Y1, ∀ v ∈ X2 ++ Y2, _; rw [hX1, hX2, hY1, hY2]; exact hparts
    have AX1 : Hid (Asc (ltOf sntCmp) X1) := by show Asc _ _; rw [hX1]; exact AX.out.take
    have AX2 : Hid (Asc (ltOf sntCmp) X2) := by show Asc _ _; rw [hX2]; exact AX.out.drop
    have AY1 : Hid (Asc (ltOf sntCmp) Y1) := by show Asc _ _; rw [hY1]; exact AY.out.take
    have AY2 : Hid (Asc (ltOf sntCmp) Y2) := by show Asc _ _; rw [hY2]; exact AY.out.drop
    have n1 : a ≤ i := by omega
    have n2 : i ≤ mid := by omega
    have n3 : i ≤ m := by have := LX2.out; omega
    have n4 : mid ≤ en := by have := LE.out; omega
    have n5 : en ≤ b := by have := LY2.out; omega
    have n6 : m ≤ en := by omega
    have fen : (n : Int) - (i : Int) = (en : Int) := by omega
    have wen : IntKind.i64.wrap (en : Int) = (en : Int) := by rw [IntKind.wrap_i64]; omega
    clear HE hmi hij hjb hlt hs1 ht1 hs2 ht2 hparts hX1 hX2 hY1 hY2 hen HP AX AY
    have HD1 : Hid (d.toList = P ++ (X1 ++ X2) ++ (Y1 ++ Y2) ++ T) := by show _ = _; rw [HD.out, ← FX.out, ← FY.out]
    -- the turning
    have HR : Hid (∀ w1 : World, SWK Snt.cs k w0 blk off d w1 → i < m → m < en → Calls Pr 70 #[.slice (some ⟨blk, off, none⟩) sz cap, .int .i64 i, .int .i64 m, .int .i64 en, cmpV] w1 fun e w2 => e = .returned (.tuple #[]) ∧ ∃ d' : Array Snt, SWK Snt.cs k w0 blk off d' w2 ∧ d'.size = sz ∧ d'.toList = P ++ X1 ++ Y1 ++ (X2 ++ Y2 ++ T)) := by
     intro w1 S h1 h2
     refine (rotate_any L (cap := cap) (P := P ++ X1) (X := X2) (Y := Y1) (T := Y2 ++ T) R hs0 hs S (by rw [HD1.out]; simp only [List.append_assoc]) (by rw [List.length_append]; have := HA.out; have := LX1.out; omega) LX2.out LE.out.2 (by have := LX2.out; omega) (by have := LE.out; omega) hsz).mono ?_
     rintro e w2 ⟨rfl, d', q1, q2, q3⟩
     exact ⟨rfl, d', q1, q2, by rw [q3]; simp only [List.append_assoc]⟩
    have HM1 : Hid (∀ (d1 : Array Snt) (w1 : World), d1.size = sz → SWK Snt.cs k w0 blk off d1 w1 → d1.toList = P ++ X1 ++ Y1 ++ (X2 ++ Y2 ++ T) → a < i → i < mid → Calls Pr 59 #[.slice (some ⟨blk, off, none⟩) sz cap, .int .i64 a, .int .i64 i, .int .i64 mid, cmpV] w1 fun e w2 => e = .returned (.tuple #[]) ∧ SymOut k w0 blk off sz P (X1 ++ Y1) (X2 ++ Y2 ++ T) w2) := by
     intro d1 w1 g1 g2 g3 h1 h2
     exact IH.out a i mid d1 w1 P X1 Y1 (X2 ++ Y2 ++ T) (by have := HM.out; omega) g1 g2 g3 HA.out LX1.out LY1.out (by have := LX1.out; omega) (by have := LY1.out; omega) AX1.out AY1.out
    have HM2 : Hid (∀ (Z1 : List Snt) (d1 : Array Snt) (w1 : World), d1.size = sz → SWK Snt.cs k w0 blk off d1 w1 → d1.toList = P ++ Z1 ++ (X2 ++ Y2 ++ T) → Z1.Perm (X1 ++ Y1) → mid < en → en < b → Calls Pr 59 #[.slice (some ⟨blk, off, none⟩) sz cap, .int .i64 mid, .int .i64 en, .int .i64 b, cmpV] w1 fun e w2 => e = .returned (.tuple #[]) ∧ SymOut k w0 blk off sz (P ++ Z1) (X2 ++ Y2) T w2) := by
     intro Z1 d1 w1 g1 g2 g3 g4 h1 h2
     have hz := g4.length_eq
     rw [List.length_append] at hz
     exact IH.out mid en b d1 w1 (P ++ Z1) X2 Y2 T (by have := HM.out; omega) g1 g2 (by rw [g3]; simp only [List.append_assoc]) (by rw [List.length_append]; have := HA.out; have := LX1.out; have := LY1.out; omega) LE.out.1 LY2.out (by have := LE.out; omega) (by have := LY2.out; omega) AX2.out AY2.out
    have HN1 : Hid (¬ (i < m ∧ m < en) → d.toList = P ++ X1 ++ Y1 ++ (X2 ++ Y2 ++ T)) := fun h => turned_none HD1.out (by have := LX2.out; have := LE.out; omega)
    have HN2 : Hid (∀ d1 : Array Snt, d1.toList = P ++ X1 ++ Y1 ++ (X2 ++ Y2 ++ T) → ¬ (a < i ∧ i < mid) → MergedTo (ltOf sntCmp) P (X1 ++ Y1) (X2 ++ Y2 ++ T) d1) := fun d1 g h => merged_none g AX1.out AY1.out (by have := LX1.out; have := LY1.out; omega)
    have HN3 : Hid (∀ (Z1 : List Snt) (d1 : Array Snt), d1.toList = P ++ Z1 ++ (X2 ++ Y2 ++ T) → ¬ (mid < en ∧ en < b) → MergedTo (ltOf sntCmp) (P ++ Z1) (X2 ++ Y2) T d1) := fun Z1 d1 g h => merged_none (by rw [g]; simp only [List.append_assoc]) AX2.out AY2.out (by have := LE.out; have := LY2.out; omega)
    have HF : Hid (∀ (Z1 : List Snt) (d1 : Array Snt), Z1.Perm (X1 ++ Y1) → Asc (ltOf sntCmp) Z1 → MergedTo (ltOf sntCmp) (P ++ Z1) (X2 ++ Y2) T d1 → MergedTo (ltOf sntCmp) P (X ++ Y) T d1) := by
     rintro Z1 d1 g1 g2 ⟨Z2, k1, k2, k3⟩
     rw [FX.out, FY.out]
     exact merged_join (by rw [k1]; simp only [List.append_assoc]) g1 k2 g2 k3 HPP.out
    clear HD HA HX HY HM HLO HD1 FX FY LX1 LX2 LY1 LY2 LE HPP AX1 AX2 AY1 AY2 IH
    have HSZ := Lib.hid hs
    clear hs
    obtain ⟨c1, hc1⟩ : ∃ z : Bool, z = decide (i < m ∧ m < en) := ⟨_, rfl⟩
    have HC1 := Lib.hid hc1
    clear hc1
    go_upto_region 39 with fail
    go_cut [185] (fun s wx => s = .bool c1 ∧ wr = wx)
    case first => as_aux_lemma =>
     by_cases ca : (i : Int) < (m : Int)
     ·by_cases cb : (m : Int) < (en : Int)
      ·go_wp2_with fail
       go_meet
       exact ⟨by rw [HC1.out, decide_eq_true (show i < m ∧ m < en by omega)], rfl⟩
      ·go_wp2_with fail
       go_meet
       exact ⟨by rw [HC1.out, decide_eq_false (show ¬(i < m ∧ m < en) by omega)], rfl⟩
     ·have cd : decide ((i : Int) < (m : Int)) = false := decide_eq_false ca
      go_wp2_with fail
      go_meet
      exact ⟨by rw [HC1.out, decide_eq_false (show ¬(i < m ∧ m < en) by omega)], rfl⟩
    case rest =>
     obtain ⟨rfl, rfl⟩ := hcut
     go_upto_if 185 with fail
     go_cut [] (fun wx => ∃ d1 : Array Snt, Hid (d1.size = sz) ∧ Aside (SWK Snt.cs k w0 blk off d1 wx) ∧ Hid (d1.toList = P ++ X1 ++ Y1 ++ (X2 ++ Y2 ++ T)))
     case first => as_aux_lemma =>
      cases c1 with
      | true =>
       have hc := of_decide_eq_true HC1.out.symm
       have HL := Lib.hid (HR.out _ S1.out hc.1 hc.2)
       clear hc
       go_wp2_with fail
       refine HL.out.mono ?_
       rintro e w4 ⟨rfl, d3, q1, q2, q3⟩
       have Q5 : Aside _ := q1
       have Q6 := Lib.hid q2
       have Q7 := Lib.hid q3
       clear q1 q2 q3 HL
       go_wp2_with fail
       go_meet
       exact ⟨d3, Q6, Q5, Q7⟩
      | false =>
       go_wp2_with fail
       go_meet
       exact ⟨d, HSZ, S1, HN1.out (of_decide_eq_false HC1.out.symm)⟩
     case rest =>
      obtain ⟨d1, Q2, S2, HE1⟩ := hcut
      clear S1 HR HN1 HSZ
      obtain ⟨c2, hc2⟩ : ∃ z : Bool, z = decide (a < i ∧ i < mid) := ⟨_, rfl⟩
      have HC2 := Lib.hid hc2
      clear hc2
      go_upto_region 41 with fail
      go_cut [199] (fun s wx => s = .bool c2 ∧ wc = wx)
      case first => as_aux_lemma =>
       by_cases ca : (a : Int) < (i : Int)
       ·by_cases cb : (i : Int) < (mid : Int)
        ·go_wp2_with fail
         go_meet
         exact ⟨by rw [HC2.out, decide_eq_true (show a < i ∧ i < mid by omega)], rfl⟩
        ·go_wp2_with fail
         go_meet
         exact ⟨by rw [HC2.out, decide_eq_false (show ¬(a < i ∧ i < mid) by omega)], rfl⟩
       ·have cd : decide ((a : Int) < (i : Int)) = false := decide_eq_false ca
        go_wp2_with fail
        go_meet
        exact ⟨by rw [HC2.out, decide_eq_false (show ¬(a < i ∧ i < mid) by omega)], rfl⟩
      case rest =>
       obtain ⟨rfl, rfl⟩ := hcut
       go_upto_if 199 with fail
       go_cut [] (fun wx => ∃ (d2 : Array Snt) (Z1 : List Snt), Hid (d2.size = sz) ∧ Aside (SWK Snt.cs k w0 blk off d2 wx) ∧ Hid (d2.toList = P ++ Z1 ++ (X2 ++ Y2 ++ T) ∧ Z1.Perm (X1 ++ Y1) ∧ Asc (ltOf sntCmp) Z1))
       case first => as_aux_lemma =>
        cases c2 with
        | true =>
         have hc := of_decide_eq_true HC2.out.symm
         have HL := Lib.hid (HM1.out d1 _ Q2.out S2.out HE1.out hc.1 hc.2)
         clear hc
         go_wp2_with fail
         refine HL.out.mono ?_
         rintro e w4 ⟨rfl, d3, q1, q2, Z1, q3⟩
         have Q5 : Aside _ := q1
         have Q6 := Lib.hid q2
         have Q7 := Lib.hid q3
         clear q1 q2 q3 HL
         go_wp2_with fail
         go_meet
         exact ⟨d3, Z1, Q6, Q5, Q7⟩
        | false =>
         obtain ⟨Z1, hz⟩ := HN2.out d1 HE1.out (of_decide_eq_false HC2.out.symm)
         have HZ := Lib.hid hz
         clear hz
         go_wp2_with fail
         go_meet
         exact ⟨d1, Z1, Q2, S2, HZ⟩
       case rest =>
        obtain ⟨d2, Z1, Q4, S3, HE2⟩ := hcut
        clear S2 HE1 Q2 HM1 HN2
        obtain ⟨c3, hc3⟩ : ∃ z : Bool, z = decide (mid < en ∧ en < b) := ⟨_, rfl⟩
        have HC3 := Lib.hid hc3
        clear hc3
        go_upto_region 43 with fail
        go_cut [213] (fun s wx => s = .bool c3 ∧ wc = wx)
        case first => as_aux_lemma =>
         by_cases ca : (mid : Int) < (en : Int)
         ·by_cases cb : (en : Int) < (b : Int)
          ·go_wp2_with fail
           go_meet
           exact ⟨by rw [HC3.out, decide_eq_true (show mid < en ∧ en < b by omega)], rfl⟩
          ·go_wp2_with fail
           go_meet
           exact ⟨by rw [HC3.out, decide_eq_false (show ¬(mid < en ∧ en < b) by omega)], rfl⟩
         ·have cd : decide ((mid : Int) < (en : Int)) = false := decide_eq_false ca
          go_wp2_with fail
          go_meet
          exact ⟨by rw [HC3.out, decide_eq_false (show ¬(mid < en ∧ en < b) by omega)], rfl⟩
        case rest =>
         obtain ⟨rfl, rfl⟩ := hcut
         cases c3 with
         | true => as_aux_lemma =>
          have hc := of_decide_eq_true HC3.out.symm
          obtain ⟨g1, g2, g3⟩ := HE2.out
          have HL := Lib.hid (HM2.out Z1 d2 _ Q4.out S3.out g1 g2 hc.1 hc.2)
          clear hc g1 g2 g3
          go_wp2_with fail
          refine HL.out.mono ?_
          rintro e w4 ⟨rfl, d3, q1, q2, q3⟩
          have Q5 := Lib.hid q1
          have Q6 := Lib.hid q2
          have Q7 := Lib.hid q3
          clear q1 q2 q3 HL
          go_wp2
          go_end0
          exact ⟨rfl, d3, Q5.out, Q6.out, HF.out Z1 d3 HE2.out.2.1 HE2.out.2.2 Q7.out⟩
         | false => as_aux_lemma =>
          go_wp2
          go_end0
          exact ⟨rfl, d2, S3.out, Q4.out, HF.out Z1 d2 HE2.out.2.1 HE2.out.2.2 (HN3.out Z1 d2 HE2.out.1 (of_decide_eq_false HC3.out.symm))⟩
/-- slices.symMergeCmpFunc: what lies on both sides of m is merged. -/
theorem symMerge_any {Pr : Program} {k : Nat} (L : SntP Pr k) {blk off cap sz : Nat} {d0 : Array Snt} {w0 : World} (R : RowK Snt.cs k w0 blk off d0) (hs0 : d0.size = sz) (hsz : sz ≤ 1000000) : ∀ (N a m b : Nat) (d : Array Snt) (w : World) (P X Y T : List Snt), b - a ≤ N → d.size = sz → SWK Snt.cs k w0 blk off d w → d.toList = P ++ X ++ Y ++ T → P.length = a → a + X.length = m → m + Y.length = b → 0 < X.length → 0 < Y.length → Asc (ltOf sntCmp) X → Asc (ltOf sntCmp) Y →
  Calls Pr 59 #[.slice (some ⟨blk, off, none⟩) sz cap, .int .i64 a, .int .i64 m, .int .i64 b, cmpV] w fun e w2 => e = .returned (.tuple #[]) ∧ SymOut k w0 blk off sz P (X ++ Y) T w2
 | 0, a, m, b, d, w, P, X, Y, T, h, _, _, _, _, _, _, _, _, _, _ => by omega
 | N + 1, a, m, b, d, w, P, X, Y, T, h, hs, S, hd, ha, hX, hY, hX0, hY0, aX, aY => by
  by_cases h1 : X.length = 1
  ·exact symLeft_any L R hs0 hs S hd ha hX hY aX aY h1 hY0 hsz
  ·by_cases h2 : Y.length = 1
   ·exact symRight_any L R hs0 hs S hd ha hX hY aX aY h1 h2 hX0 hsz
   ·exact symGen_any L R hs0 hs S hd ha hX hY aX aY h1 h2 hX0 hY0 (fun a' m' b' d' w' P' X' Y' T' hh => symMerge_any L R hs0 hsz N a' m' b' d' w' P' X' Y' T' (by omega)) hsz
end Go.Proofs.YthkhgfdjdpfoiaaGreat
