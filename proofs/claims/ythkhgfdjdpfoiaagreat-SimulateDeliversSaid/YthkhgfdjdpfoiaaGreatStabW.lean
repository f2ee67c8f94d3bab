/-
 slices.stableCmpFunc and slices.SortStableFunc at reports that are sent, at any length.
-/
import Derived.Test.YthkhgfdjdpfoiaaGreatSymG
import Derived.Shelf.SlSortCmp.PdqK
set_option linter.unusedSimpArgs false
set_option linter.unusedVariables false
namespace Go.Proofs.YthkhgfdjdpfoiaaGreat
open Go Go.RowKit Go.Vi Go.Sort
abbrev sLt := ltOf sntCmp
theorem insW_any {blk off cap a b sz : Nat} {d0 d : Array Snt} {w0 w : World} (R : RowK Snt.cs 9 w0 blk off d0) (hs0 : d0.size = sz) (hs : d.size = sz) (S : SWK Snt.cs 9 w0 blk off d w) {Q X T : List Snt} (hd : d.toList = Q ++ X ++ T) (ha : Q.length = a) (hX : a + X.length = b) (hsz : sz ≤ 1000000) :
  Calls Tryz.prog 58 #[.slice (some ⟨blk, off, none⟩) sz cap, .int .i64 a, .int .i64 b, cmpV] w fun e w' => e = .returned (.tuple #[]) ∧ SymOut 9 w0 blk off sz Q X T w' := by
 have hbn : b ≤ d.size := by
  have := congrArg List.length hd
  simp only [List.length_append, Array.length_toList] at this
  omega
 have hab : a ≤ b := by omega
 have hh := insertionSort_holds swoSnt d a b hab hbn
 have hc := AnyQ.insertionSortCmpFunc_w Tryz.insSent 9 aggSent sizeSent Snt.cs sntCmp 26 #[] blk off cap a b d0 d w0 w sntP.eg (sntLays blk off d0.size w0) R (by omega) S swoSnt hab hbn (by omega)
 rw [hs] at hc
 change Calls Tryz.prog 58 _ _ _ at hc
 refine hc.mono ?_
 rintro e w' ⟨rfl, S'⟩
 exact ⟨rfl, _, S', hh.1.1.trans hs, merged_of_in hd ha hX hh.1 hh.2⟩
/-- What stays while the pieces are sorted. -/
def Blocks (L : List Snt) (a : Nat) (d : Array Snt) : Prop := ∃ Q T, d.toList = Q ++ T ∧ Q.length = a ∧ FullC sLt 20 Q ∧ (Q ++ T).Perm L
def Pairs (L : List Snt) (K a : Nat) (d : Array Snt) : Prop := ∃ Q T, d.toList = Q ++ T ∧ Q.length = a ∧ FullC sLt (2 * K) Q ∧ PartC sLt K T ∧ (Q ++ T).Perm L
def Parts (L : List Snt) (K : Nat) (d : Array Snt) : Prop := PartC sLt K d.toList ∧ d.toList.Perm L
theorem perm_mid {Q X Z T L : List Snt} (h : (Q ++ (X ++ T)).Perm L) (hz : Z.Perm X) : (Q ++ Z ++ T).Perm L := by
 refine List.Perm.trans ?_ h
 rw [List.append_assoc]
 exact (hz.append_right T).append_left Q
set_option maxHeartbeats 4000000 in
theorem stabW_any {blk off cap sz : Nat} {d0 d : Array Snt} {w0 w : World} (R : RowK Snt.cs 9 w0 blk off d0) (hs0 : d0.size = sz) (hs : d.size = sz) (S : SWK Snt.cs 9 w0 blk off d w) (hsz : sz ≤ 1000000) :
  Calls Tryz.prog 45 #[.slice (some ⟨blk, off, none⟩) sz cap, .int .i64 sz, cmpV] w fun e w' => e = .returned (.tuple #[]) ∧ ∃ d' : Array Snt, SWK Snt.cs 9 w0 blk off d' w' ∧ d'.size = sz ∧ Asc sLt d'.toList ∧ d'.toList.Perm d.toList := by
 have S0 : Aside _ := S
 obtain ⟨L, hL⟩ : ∃ L, L = d.toList := ⟨_, rfl⟩
 rw [← hL]
 have HB0 : Hid (Blocks L 0 d) := ⟨[], d.toList, rfl, rfl, FullC.nil, by rw [hL]; exact List.Perm.refl _⟩
 have HS0 := Lib.hid hs
 clear S hs hL
 go_enter Tryz.func45, Tryz.ntmps45
 go_wp2_with fail
 go_loopg [7, 8] sz (fun kx s7 s8 wr => ∃ (a : Nat) (dk : Array Snt), s7 = .int .i64 a ∧ s8 = .int .i64 ((a + 20 : Nat) : Int) ∧ a ≤ sz ∧ sz - a ≤ kx ∧ Hid (dk.size = sz) ∧ Aside (SWK Snt.cs 9 w0 blk off dk wr) ∧ Hid (Blocks L a dk))
 case atStart => exact ⟨0, d, rfl, rfl, Nat.zero_le _, Nat.le_refl _, HS0, S0, HB0⟩
 case round =>
  clear S0 HS0 HB0
  obtain ⟨a, dk, rfl, rfl, ha, hkx, HS, S1, HB⟩ := hrel
  by_cases hlt : a + 20 ≤ sz
  ·have HC : Hid (Calls Tryz.prog 58 #[.slice (some ⟨blk, off, none⟩) sz cap, .int .i64 a, .int .i64 ((a : Int) + 20), cmpV] wr fun e w' => e = .returned (.tuple #[]) ∧ ∃ d' : Array Snt, SWK Snt.cs 9 w0 blk off d' w' ∧ d'.size = sz ∧ Blocks L (a + 20) d') := by
    obtain ⟨Q, T, g1, g2, g3, g4⟩ := HB.out
    have hl : a + T.length = sz := by
     have := congrArg List.length g1
     rw [List.length_append, Array.length_toList, HS.out] at this
     omega
    have hx : (T.take 20).length = 20 := by rw [List.length_take]; omega
    have e20 : ((a : Int) + 20) = ((a + 20 : Nat) : Int) := by omega
    rw [e20]
    refine (insW_any (cap := cap) (a := a) (b := a + 20) (Q := Q) (X := T.take 20) (T := T.drop 20) R hs0 HS.out S1.out (by rw [g1, List.append_assoc, List.take_append_drop]) g2 (by rw [hx]) hsz).mono ?_
    rintro e w' ⟨rfl, d', k1, k2, Z, k3, k4, k5⟩
    refine ⟨rfl, d', k1, k2, Q ++ Z, T.drop 20, k3, by rw [List.length_append, k4.length_eq, hx, g2], .snoc g3 (by rw [k4.length_eq, hx]) k5, perm_mid (by rw [List.take_append_drop]; exact g4) k4⟩
   clear HB S1 HS
   go_wp2_with fail
   refine HC.out.mono ?_
   rintro e w' ⟨rfl, d', q1, q2, q3⟩
   have Q1 : Aside _ := q1
   have Q2 := Lib.hid q2
   have Q3 := Lib.hid q3
   clear q1 q2 q3 HC
   go_wp2
   go_roundg (sz - (a + 20))
   case measure => omega
   case rel => exact ⟨a + 20, d', by go_num, by go_num, hlt, Nat.le_refl _, Q2, Q1, Q3⟩
  ·have HC : Hid (Calls Tryz.prog 58 #[.slice (some ⟨blk, off, none⟩) sz cap, .int .i64 a, .int .i64 sz, cmpV] wr fun e w' => e = .returned (.tuple #[]) ∧ ∃ d' : Array Snt, SWK Snt.cs 9 w0 blk off d' w' ∧ d'.size = sz ∧ Parts L 20 d') := by
    obtain ⟨Q, T, g1, g2, g3, g4⟩ := HB.out
    have hl : a + T.length = sz := by
     have := congrArg List.length g1
     rw [List.length_append, Array.length_toList, HS.out] at this
     omega
    refine (insW_any (cap := cap) (a := a) (b := sz) (Q := Q) (X := T) (T := []) R hs0 HS.out S1.out (by rw [g1, List.append_nil]) g2 hl hsz).mono ?_
    rintro e w' ⟨rfl, d', k1, k2, Z, k3, k4, k5⟩
    rw [List.append_nil] at k3
    refine ⟨rfl, d', k1, k2, by rw [k3]; exact g3.part (.last (by rw [k4.length_eq]; omega) k5), by rw [k3]; exact (k4.append_left Q).trans g4⟩
   clear HB S1 HS
   have hgt : ¬ ((a : Int) + 20 ≤ (sz : Int)) := by omega
   go_wp2_with fail
   refine HC.out.mono ?_
   rintro e w' ⟨rfl, d1, q1, q2, q3⟩
   have Q1 : Aside _ := q1
   have Q2 := Lib.hid q2
   have Q3 := Lib.hid q3
   clear q1 q2 q3 HC ha hkx hlt hgt
   go_wp2_with fail
   go_loopg [6, 7, 8, 9] sz (fun kx s6 s7 s8 s9 wr => ∃ (K : Nat) (dk : Array Snt), s6 = .int .i64 K ∧ 20 ≤ K ∧ K ≤ 2000000 ∧ sz - K ≤ kx ∧ Hid (dk.size = sz) ∧ Aside (SWK Snt.cs 9 w0 blk off dk wr) ∧ Hid (Parts L K dk))
   case atStart => exact ⟨20, d1, rfl, Nat.le_refl _, by omega, by omega, Q2, Q1, Q3⟩
   case round =>
    clear Q1 Q2 Q3
    obtain ⟨K, dk, rfl, hK1, hK2, hkx0, HS, S1, HP⟩ := hrel
    by_cases hlt : K < sz
    ·have HP2 : Hid (Pairs L K 0 dk) := ⟨[], dk.toList, rfl, rfl, FullC.nil, HP.out.1, HP.out.2⟩
     clear HP
     go_wp2_with fail
     go_loopg [7, 8] sz (fun kx s7 s8 wr => ∃ (a : Nat) (dk : Array Snt), s7 = .int .i64 a ∧ s8 = .int .i64 ((a + 2 * K : Nat) : Int) ∧ a ≤ sz ∧ sz - a ≤ kx ∧ Hid (dk.size = sz) ∧ Aside (SWK Snt.cs 9 w0 blk off dk wr) ∧ Hid (Pairs L K a dk))
     case atStart => exact ⟨0, dk, rfl, by go_num, Nat.zero_le _, Nat.le_refl _, HS, S1, HP2⟩
     case round =>
      clear S1 HS HP2
      obtain ⟨a, dk, rfl, rfl, ha, hkx, HS, S1, HB⟩ := hrel
      obtain ⟨b2, hb2⟩ : ∃ b2, b2 = a + 2 * K := ⟨_, rfl⟩
      obtain ⟨m, hm⟩ : ∃ m, m = a + K := ⟨_, rfl⟩
      rw [← hb2]
      have f1 : (a : Int) + (K : Int) = (m : Int) := by omega
      have w1 : IntKind.i64.wrap (m : Int) = (m : Int) := by rw [IntKind.wrap_i64]; omega
      have hm1 : m ≤ a + K := by omega
      have hm2 : a + K ≤ m := by omega
      by_cases hlt2 : b2 ≤ sz
      ·have HC : Hid (Calls Tryz.prog 59 #[.slice (some ⟨blk, off, none⟩) sz cap, .int .i64 a, .int .i64 m, .int .i64 b2, cmpV] wr fun e w' => e = .returned (.tuple #[]) ∧ ∃ d' : Array Snt, SWK Snt.cs 9 w0 blk off d' w' ∧ d'.size = sz ∧ Pairs L K b2 d') := by
        obtain ⟨Q, T, g1, g2, g3, g4, g5⟩ := HB.out
        have hl : a + T.length = sz := by
         have := congrArg List.length g1
         rw [List.length_append, Array.length_toList, HS.out] at this
         omega
        obtain ⟨X, Y, R2, rfl, e1, e2, a1, a2, a3⟩ := g4.two (by omega) (by omega)
        refine (symMerge_any (cap := cap) sntP R hs0 hsz (b2 - a) a m b2 dk wr Q X Y R2 (Nat.le_refl _) HS.out S1.out (by rw [g1]; simp only [List.append_assoc]) g2 (by omega) (by omega) (by omega) (by omega) a1 a2).mono ?_
        rintro e w' ⟨rfl, d', k1, k2, Z, k3, k4, k5⟩
        have hz := k4.length_eq
        rw [List.length_append] at hz
        exact ⟨rfl, d', k1, k2, Q ++ Z, R2, k3, by rw [List.length_append]; omega, .snoc g3 (by omega) k5, a3, perm_mid (by simpa only [List.append_assoc] using g5) k4⟩
       obtain ⟨b3, hb3⟩ : ∃ b3, b3 = b2 + 2 * K := ⟨_, rfl⟩
       have f2 : (b2 : Int) + 2 * (K : Int) = (b3 : Int) := by omega
       have w2 : IntKind.i64.wrap (b3 : Int) = (b3 : Int) := by rw [IntKind.wrap_i64]; omega
       have HB3 := Lib.hid hb3
       have hb4 : a < b2 := by omega
       clear HB S1 HS hb2 hm hb3
       go_wp2_with fail
       refine HC.out.mono ?_
       rintro e w' ⟨rfl, d', q1, q2, q3⟩
       have Q1 : Aside _ := q1
       have Q2 := Lib.hid q2
       have Q3 := Lib.hid q3
       clear q1 q2 q3 HC
       go_wp2
       go_roundg (sz - b2)
       case measure => omega
       case rel => exact ⟨b2, d', by go_num, by rw [← HB3.out], hlt2, Nat.le_refl _, Q2, Q1, Q3⟩
      ·have f3 : (K : Int) * 2 = ((2 * K : Nat) : Int) := by omega
       by_cases hlt3 : m < sz
       ·have HC : Hid (Calls Tryz.prog 59 #[.slice (some ⟨blk, off, none⟩) sz cap, .int .i64 a, .int .i64 m, .int .i64 sz, cmpV] wr fun e w' => e = .returned (.tuple #[]) ∧ ∃ d' : Array Snt, SWK Snt.cs 9 w0 blk off d' w' ∧ d'.size = sz ∧ Parts L (2 * K) d') := by
         obtain ⟨Q, T, g1, g2, g3, g4, g5⟩ := HB.out
         have hl : a + T.length = sz := by
          have := congrArg List.length g1
          rw [List.length_append, Array.length_toList, HS.out] at this
          omega
         obtain ⟨X, Y, rfl, e1, e2, a1, a2⟩ := g4.oneMore (by omega) (by omega)
         rw [List.length_append] at hl
         refine (symMerge_any (cap := cap) sntP R hs0 hsz (sz - a) a m sz dk wr Q X Y [] (Nat.le_refl _) HS.out S1.out (by rw [g1]; simp only [List.append_assoc, List.append_nil]) g2 (by omega) (by omega) (by omega) e2 a1 a2).mono ?_
         rintro e w' ⟨rfl, d', k1, k2, Z, k3, k4, k5⟩
         rw [List.append_nil] at k3
         have hz := k4.length_eq
         rw [List.length_append] at hz
         exact ⟨rfl, d', k1, k2, by rw [k3]; exact g3.part (.last (by omega) k5), by rw [k3]; exact (k4.append_left Q).trans g5⟩
        clear HB S1 HS hb2 hm
        go_wp2_with fail
        refine HC.out.mono ?_
        rintro e w' ⟨rfl, d', q1, q2, q3⟩
        have Q1 : Aside _ := q1
        have Q2 := Lib.hid q2
        have Q3 := Lib.hid q3
        clear q1 q2 q3 HC
        go_wp2
        go_roundg (sz - 2 * K)
        case measure => omega
        case rel => exact ⟨2 * K, d', by go_num, by omega, by omega, Nat.le_refl _, Q2, Q1, Q3⟩
       ·have HN : Hid (Parts L (2 * K) dk) := by
         obtain ⟨Q, T, g1, g2, g3, g4, g5⟩ := HB.out
         have hl : a + T.length = sz := by
          have := congrArg List.length g1
          rw [List.length_append, Array.length_toList, HS.out] at this
          omega
         exact ⟨by rw [g1]; exact g3.part (.last (by omega) (g4.asc (by omega))), by rw [g1]; exact g5⟩
        clear HB hb2 hm
        go_wp2
        go_roundg (sz - 2 * K)
        case measure => omega
        case rel => exact ⟨2 * K, dk, by go_num, by omega, by omega, Nat.le_refl _, HS, S1, HN⟩
    ·go_wp2
     go_end0
     exact ⟨rfl, dk, S1.out, HS.out, HP.out.1.asc (by rw [Array.length_toList, HS.out]; omega), HP.out.2⟩
theorem rowK_of {L : List Snt} {B e g cap : Nat} {w : World} (h : Ow B w e 9 (.slice (some ⟨g, 0, none⟩) L.length cap) (L.map Snt.cs)) : RowK Snt.cs 9 w g 0 L.toArray where
 hk := fun _ => rfl
 h1 := fun x v hv => by simp [Snt.cs] at hv; rcases hv with rfl | rfl | rfl | rfl | rfl | rfl | rfl | rfl | rfl <;> rfl
 hH := holdsK_of (enc := Snt.cs) (k := 9) (fun _ => rfl) h
 hblk := (h.blk g rfl).2
/-- slices.SortStableFunc at reports that are sent: the same reports, in order. -/
theorem sortStable_any (L : List Snt) {B e g cap : Nat} (w : World) (h : Ow B w e 9 (.slice (some ⟨g, 0, none⟩) L.length cap) (L.map Snt.cs)) (hL : L.length ≤ 1000000) :
  Calls Tryz.prog 25 #[.slice (some ⟨g, 0, none⟩) L.length cap, cmpV] w fun e' w' => e' = .returned (.tuple #[]) ∧ ∃ M : List Snt, M.Perm L ∧ M.Pairwise (fun a b => ¬sntLt b a) ∧ Ow B w' e 9 (.slice (some ⟨g, 0, none⟩) L.length cap) (M.map Snt.cs) ∧ w.grownBy w' (some g) := by
 have HC : Hid (Calls Tryz.prog 45 #[.slice (some ⟨g, 0, none⟩) L.length cap, .int .i64 L.length, cmpV] w fun e' w' => e' = .returned (.tuple #[]) ∧ ∃ M : List Snt, M.Perm L ∧ M.Pairwise (fun a b => ¬sntLt b a) ∧ Ow B w' e 9 (.slice (some ⟨g, 0, none⟩) L.length cap) (M.map Snt.cs) ∧ w.grownBy w' (some g)) := by
  have R := rowK_of h
  refine (stabW_any (cap := cap) (d := L.toArray) R (by simp) (by simp) (SWK.start R.hH) hL).mono ?_
  rintro e' w' ⟨rfl, d', ⟨n, os, rfl⟩, hsz, hasc, hperm⟩
  refine ⟨rfl, d'.toList, hperm, hasc.imp fun hab => (ltOf_snt_false _ _).1 hab, ?_, grownBy_sortK _ _ _ _ _ _ _⟩
  have := h.sorted (enc := Snt.cs) (k := 9) (fun _ => rfl) n d' os hsz
  exact this
 clear h
 obtain ⟨n, hn⟩ : ∃ z, L.length = z := ⟨_, rfl⟩
 rw [hn] at HC hL ⊢
 clear hn
 go_enter Tryz.func25, Tryz.ntmps25
 go_wp2_with fail
 refine HC.out.mono ?_
 rintro e' w' ⟨rfl, q⟩
 have Q := Lib.hid q
 clear q
 go_wp2_with fail
 go_end0
 exact ⟨rfl, Q.out⟩
end Go.Proofs.YthkhgfdjdpfoiaaGreat
