/-
  Between at the law's places; a call in a flow.
-/
import Derived.Test.YtopfgkbpakfccaaGreatDoorPlcA
set_option linter.unusedSimpArgs false
set_option linter.unusedVariables false
namespace Go.Vi
open Go Go.RowKit
section
variable {P : Program} {o : Oper} {ρ : Operand → Value} {B i : Nat} {ks : List FK} {us : List (Nat × List Nat)} {f : Nat → Value} {w w' : World} {S : Nat → Nat → Prop} {v : Value}
/-- A call that keeps old memory. -/
theorem fl_call {fn : FuncId} {args : Array Value} (hk : ks[i]? = some (.val v)) (hd : o.dst.isSome = true) (h : (execOp ρ o).run P w = .ok (.enter fn args) w) (hC : Calls P fn args w fun e w' => e = .returned v ∧ Below w.heap.size w w') : FlowStep P ρ o w (FlowK B ks us i o f w S) :=
  FlowStep.call h hC (fun e w'' ⟨he, hb⟩ => ⟨v, he, Ext.of_below hb, fun _ => False, fun _ h => h.elim, fun f' _ hv => by unfold fkΦ; rw [hk]; exact hv hd⟩)
end
end Go.Vi
namespace Go.Proofs.YtopfgkbpakfccaaGreatDoor
open Go Go.RowKit Go.Vi
theorem mv_in {n : Net} (h : GNet n) {p q : Plc} (hp : PosOK n p) (hq : PosOK n q) {d : Rat} (hm : Mv n p q d) : G64 d ∧ 0 ≤ d ∧ d ≤ 48 := by
  obtain ⟨r, hr, a, b, ha, hb, _, rfl⟩ := hm
  obtain ⟨a1, a2, a3⟩ := offs_in h hp hr ha
  obtain ⟨b1, b2, b3⟩ := offs_in h hq hr hb
  refine ⟨g64_abs (g64_sub b1 a1), absR_nonneg _, ?_⟩
  rw [absR_eq]
  split <;> grind
theorem dst_in {n : Net} (h : GNet n) {p q : Plc} (hp : PosOK n p) (hq : PosOK n q) {d : Rat} (hd : dstN n p q = some d) : G64 d ∧ 0 ≤ d ∧ d ≤ 480 := by
  cases hs : sameN n p q with
  | true =>
    have he : d = 0 := by
      unfold dstN at hd
      rw [dst_same hp hq hs] at hd
      simp at hd
      exact hd.symm
    subst he
    exact ⟨g64_zero, by grind, by grind⟩
  | false =>
    obtain ⟨_, b1, _⟩ := bw_spec hp hq hs
    rcases (b1 d hd).1 with hm | ⟨e, he, f, hf, R, l, hr, rfl⟩
    · obtain ⟨m1, m2, m3⟩ := mv_in h hp hq hm
      exact ⟨m1, m2, by grind⟩
    · obtain ⟨e1, e2, e3⟩ := ends_in h hp _ _ he
      obtain ⟨f1, f2, f3⟩ := ends_in h hq _ _ hf
      obtain ⟨l1, l2, _⟩ := rt_in h hr
      have k1 : (0 : Rat) ≤ (l : Rat) := Rat.intCast_le_intCast.2 l1
      have k2 : (l : Rat) ≤ ((384 : Int) : Rat) := Rat.intCast_le_intCast.2 l2
      have k3 : ((384 : Int) : Rat) = 384 := rfl
      exact ⟨g64_add (g64_add e1 f1) (g64_int _), by grind, by grind⟩
theorem dst_err {n : Net} {p q : Plc} (hp : PosOK n p) (hq : PosOK n q) : ((betweenN n (rtN n) p q).2 = 0 ∧ dstN n p q = some (betweenN n (rtN n) p q).1.len) ∨ ((betweenN n (rtN n) p q).2 = 31 ∧ dstN n p q = none) := by
  have h : (betweenN n (rtN n) p q).2 = 0 ∨ (betweenN n (rtN n) p q).2 = 31 := by
    cases hs : sameN n p q with
    | true => rw [dst_same hp hq hs]; exact .inl rfl
    | false =>
      rcases (bw_spec hp hq hs).1 with h | h
      · exact .inl h
      · rw [h]; exact .inr rfl
  unfold dstN
  rcases h with h | h
  · rw [h, if_pos rfl]; exact .inl ⟨rfl, rfl⟩
  · rw [h, if_neg (by decide)]; exact .inr ⟨rfl, rfl⟩
/-- Between, as its length alone. -/
theorem btw_q {n : Net} (h : GNet n) (v1 v2 : Value) {p q : Plc} (hp : PosOK n p) (hq : PosOK n q) (w : World) (hN : NetAt w.heap.size w v1 v2 n) :
    Calls Tryz.prog 21 #[.agg #[v1, v2], .agg #[.int .i64 p.road, .bool (zs p.off.num), .string (zx p.off.num), .bool false, .string (ry p.off.den)], .agg #[.int .i64 q.road, .bool (zs q.off.num), .string (zx q.off.num), .bool false, .string (ry q.off.den)]] w fun e w2 => ∃ (P Q : Plc) (a : Option Addr) (m c : Nat) (l : Rat) (k : Int), e = .returned (.tuple #[.agg #[.int .i64 P.road, .bool (zs P.off.num), .string (zx P.off.num), .bool false, .string (ry P.off.den), .int .i64 Q.road, .bool (zs Q.off.num), .string (zx Q.off.num), .bool false, .string (ry Q.off.den), .slice a m c, .bool (zs l.num), .string (zx l.num), .bool false, .string (ry l.den)], .int .i64 k]) ∧ ((k = 0 ∧ dstN n p q = some l) ∨ (k = 31 ∧ dstN n p q = none)) ∧ Below w.heap.size w w2 := by
  refine (between_q n (rtN n) (rtN_of n) v1 v2 p q w hN h.ok (by have := h.most; omega) (geo_fit h hp hq)).mono ?_
  rintro e w2 ⟨v, rfl, ho, hb⟩
  obtain ⟨a, m, c, rfl⟩ := ho.val
  exact ⟨_, _, a, m, c, _, _, rfl, dst_err hp hq, hb⟩
end Go.Proofs.YtopfgkbpakfccaaGreatDoor
