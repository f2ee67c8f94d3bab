/-
  The mirror: positions on the reversed network; Mirror walked.
-/
import Derived.Test.YtopfgkbpakfccaaGreatDoorPlcM
set_option linter.unusedSimpArgs false
set_option linter.unusedVariables false
namespace Go.Proofs.YtopfgkbpakfccaaGreatDoor
open Go Go.RowKit Go.Vi
attribute [local go_sem ↓] lo_lt lo_ne lo_ne'
attribute [local go_sem] junk_cell junk_frozen junk_setCell junk_drew drew_junk
theorem rd_rev_rev (r : Rd) : r.rev.rev = r := rfl
theorem net_rev_rev (n : Net) : n.rev.rev = n := by
  unfold Net.rev
  simp only [List.map_map]
  have : (Rd.rev ∘ Rd.rev) = id := by funext r; rfl
  rw [this, List.map_id]
theorem roadErr_rev {l : List Nd} {r : Rd} (h : roadErr l r = 0) : roadErr l r.rev = 0 := by
  unfold roadErr at h ⊢
  have e : ∀ a b : Int, (a - b) * (a - b) = (b - a) * (b - a) := fun a b => by
    have : a - b = -(b - a) := by omega
    rw [this, Int.neg_mul_neg]
  split at h
  · cases h
  · rename_i h1
    split at h
    · cases h
    · rename_i h2
      split at h
      · cases h
      · rename_i h3
        show (if (nodeOf l r.dst).isSome = false ∨ (nodeOf l r.src).isSome = false then (9 : Int) else if r.dst = r.src then 17 else if r.lim < 1 ∨ 1048576 < r.lim ∨ r.len < 1 ∨ 1073741824 < r.len ∨ r.len * r.len < (((nodeOf l r.dst).getD nd0).x - ((nodeOf l r.src).getD nd0).x) * (((nodeOf l r.dst).getD nd0).x - ((nodeOf l r.src).getD nd0).x) + (((nodeOf l r.dst).getD nd0).y - ((nodeOf l r.src).getD nd0).y) * (((nodeOf l r.dst).getD nd0).y - ((nodeOf l r.src).getD nd0).y) then 2 else 0) = 0
        rw [if_neg (fun hh => h1 (hh.symm)), if_neg (fun hh => h2 hh.symm), e ((nodeOf l r.dst).getD nd0).x, e ((nodeOf l r.dst).getD nd0).y, if_neg h3]
theorem rev_mem {n : Net} {r : Rd} (h : r ∈ n.roads) : r.rev ∈ n.rev.roads := List.mem_map.2 ⟨r, h, rfl⟩
theorem rev_mem' {n : Net} {r : Rd} (h : r ∈ n.rev.roads) : ∃ q ∈ n.roads, r = q.rev := by
  obtain ⟨q, hq, rfl⟩ := List.mem_map.1 h
  exact ⟨q, hq, rfl⟩
theorem gnet_rev {n : Net} (h : GNet n) : GNet n.rev where
  ok := ⟨h.ok.nodes, srtR_rev h.ok.roads, ⟨h.ok.few.1, by show (n.roads.map Rd.rev).length ≤ 1024; rw [List.length_map]; exact h.ok.few.2⟩, fun x hx => by
    obtain ⟨q, hq, rfl⟩ := rev_mem' hx
    exact ⟨(h.ok.road q hq).1, roadErr_rev (h.ok.road q hq).2⟩⟩
  two := h.two
  few := h.few
  one := by show 1 ≤ (n.roads.map Rd.rev).length; rw [List.length_map]; exact h.one
  most := by show (n.roads.map Rd.rev).length ≤ 13; rw [List.length_map]; exact h.most
  len := fun x hx => by
    obtain ⟨q, hq, rfl⟩ := rev_mem' hx
    exact h.len q hq
/-- The mirrored position. -/
def mirN (n : Net) (p : Plc) : Plc := ⟨p.road, (((roadOf n.roads p.road).getD rd0).len : Rat) - p.off⟩
theorem mir_road {n : Net} (h : GNet n) {p : Plc} {r : Rd} (hr : roadOf n.roads p.road = some r) : roadOf n.rev.roads p.road = some r.rev := by
  have hm : r ∈ n.roads := road_in hr
  have hid : r.id = p.road := by
    have := List.find?_some hr
    simpa using this
  have := roadOf_mem (gnet_rev h).ok.roads (rev_mem hm)
  rw [← hid]
  exact this
theorem mir_ok {n : Net} (h : GNet n) {p : Plc} (hp : PosOK n p) : PosOK n.rev (mirN n p) := by
  obtain ⟨r, hr, hm, hid, h1, h2⟩ := hp.rd
  have e : mirN n p = ⟨p.road, (r.len : Rat) - p.off⟩ := by unfold mirN; rw [hr]; rfl
  rw [e]
  refine ⟨?_, g64_sub (g64_int _) hp.g⟩
  unfold chkP
  simp only
  rw [mir_road h hr]
  simp only
  rw [if_neg (fun hh => by rw [num_lt] at hh; grind), if_neg (by show ¬ (r.len : Rat) < _; grind)]
theorem mir_mir {n : Net} (h : GNet n) {p : Plc} (hp : PosOK n p) : mirN n.rev (mirN n p) = p := by
  obtain ⟨r, hr, hm, hid, h1, h2⟩ := hp.rd
  have e : mirN n p = ⟨p.road, (r.len : Rat) - p.off⟩ := by unfold mirN; rw [hr]; rfl
  rw [e]
  unfold mirN
  simp only
  rw [mir_road h hr]
  show (⟨p.road, (r.len : Rat) - ((r.len : Rat) - p.off)⟩ : Plc) = p
  have : (r.len : Rat) - ((r.len : Rat) - p.off) = p.off := by grind
  rw [this]
theorem onR_rev {r : Rd} {x : Int} : onR r.rev x ↔ onR r x := ⟨fun h => h.symm, fun h => h.symm⟩
theorem offR_rev {n : Net} (h : GNet n) {r : Rd} (hr : r ∈ n.roads) {x : Int} (hx : onR r x) : offR r.rev x = (r.len : Rat) - offR r x := by
  have h1 := offR_src r.rev
  have h2 := offR_dst (gnet_rev h) (rev_mem hr)
  have h3 := offR_src r
  have h4 := offR_dst h hr
  rcases hx with e | e
  · subst e
    have : offR r.rev r.src = (r.len : Rat) := h2
    rw [this, h3]; grind
  · subst e
    have : offR r.rev r.dst = 0 := h1
    rw [this, h4]; grind
theorem mir_offs {n : Net} (h : GNet n) {p : Plc} (hp : PosOK n p) {r : Rd} (hr : r ∈ n.roads) {a : Rat} (ha : offsN n r p = some a) : offsN n.rev r.rev (mirN n p) = some ((r.len : Rat) - a) := by
  have hq := mir_ok h hp
  have hg := gnet_rev h
  have hoff : ∀ s, roadOf n.roads p.road = some s → (mirN n p).off = (s.len : Rat) - p.off := fun s hs => by unfold mirN; rw [hs]; rfl
  rcases view h hp with ⟨x, hx, hinc, ho, s, hs, hsr, hon, hpo⟩ | ⟨hx, s, hs, hsr, h1, h2, ho⟩
  · rw [ho r hr] at ha
    split at ha
    · rename_i honr
      injection ha with ha
      subst ha
      have hmo := hoff s hsr
      rw [hpo, ← offR_rev h hs hon] at hmo
      have hl := len_le h hs
      have hsr' := mir_road h hsr
      rcases view hg hq with ⟨y, hy, hinc', ho', s', hs', hsr2, hon', hpo'⟩ | ⟨hy, s', hs', hsr2, g1, g2, _⟩
      · have e1 : roadOf n.rev.roads (mirN n p).road = some s.rev := hsr'
        rw [e1] at hsr2
        injection hsr2 with hsr2
        subst hsr2
        have hyx : y = x := by
          rw [hmo] at hpo'
          rw [onR_rev] at hon'
          rw [offR_rev h hs hon, offR_rev h hs hon'] at hpo'
          rcases hon with e | e
          · rcases hon' with e' | e'
            · exact e'.symm.trans e
            · subst e; subst e'
              rw [offR_src, offR_dst h hs] at hpo'
              grind
          · rcases hon' with e' | e'
            · subst e; subst e'
              rw [offR_src, offR_dst h hs] at hpo'
              grind
            · exact e'.symm.trans e
        subst hyx
        rw [ho' _ (rev_mem hr), if_pos (onR_rev.2 honr), offR_rev h hr honr]
      · have e1 : roadOf n.rev.roads (mirN n p).road = some s.rev := hsr'
        rw [e1] at hsr2
        injection hsr2 with hsr2
        subst hsr2
        rw [hmo, offR_rev h hs hon] at g1 g2
        have g2' : (s.len : Rat) - offR s x < (s.len : Rat) := g2
        rcases hon with e | e
        · subst e
          rw [offR_src] at g1 g2'
          grind
        · subst e
          rw [offR_dst h hs] at g1 g2'
          grind
    · cases ha
  · rw [ho r hr] at ha
    split at ha
    · rename_i e
      have := road_id h hr hs e
      subst this
      injection ha with ha
      subst ha
      have hmo := hoff r hsr
      have hsr' : roadOf n.rev.roads (mirN n p).road = some r.rev := mir_road h hsr
      rcases view hg hq with ⟨y, hy, hinc', ho', s', hs', hsr2, hon', hpo'⟩ | ⟨hy, s', hs', hsr2, g1, g2, ho'⟩
      · rw [hsr'] at hsr2
        injection hsr2 with hsr2
        subst hsr2
        rw [onR_rev] at hon'
        rw [hmo, offR_rev h hs hon'] at hpo'
        rcases hon' with e | e
        · subst e
          rw [offR_src] at hpo'
          grind
        · subst e
          rw [offR_dst h hs] at hpo'
          grind
      · rw [hsr'] at hsr2
        injection hsr2 with hsr2
        subst hsr2
        rw [ho' _ (rev_mem hr), if_pos rfl, hmo]
    · cases ha
theorem mir_mv {n : Net} (h : GNet n) {p q : Plc} (hp : PosOK n p) (hq : PosOK n q) {d : Rat} (hm : Mv n p q d) : Mv n.rev (mirN n q) (mirN n p) d := by
  obtain ⟨r, hr, a, b, ha, hb, hdir, rfl⟩ := hm
  refine ⟨r.rev, rev_mem hr, _, _, mir_offs h hq hr hb, mir_offs h hp hr ha, fun ho => ?_, ?_⟩
  · have := hdir ho
    grind
  · congr 1
    grind
theorem mir_trav {n : Net} (h : GNet n) {p q : Plc} {d : Rat} (ht : Trav n p q d) : Trav n.rev (mirN n q) (mirN n p) d := by
  induction ht with
  | nil hp => exact .nil (mir_ok h hp)
  | cons hp hm hr ih =>
    rw [Rat.add_comm]
    have h1 := mir_mv h hp hr.pos.1 hm
    have h2 := Trav.cons (mir_ok h hr.pos.1) h1 (.nil (mir_ok h hp))
    rw [Rat.add_zero] at h2
    exact ih.append h2
theorem dst_mir_le {n : Net} (h : GNet n) {p q : Plc} (hp : PosOK n p) (hq : PosOK n q) {d : Rat} (hd : dstN n p q = some d) : ∃ e, dstN n.rev (mirN n q) (mirN n p) = some e ∧ e ≤ d := trav_le (gnet_rev h) (mir_trav h (dst_trav h hp hq hd))
/-- The least way back on the reversed network is as long. -/
theorem dst_mir {n : Net} (h : GNet n) {p q : Plc} (hp : PosOK n p) (hq : PosOK n q) : dstN n.rev (mirN n q) (mirN n p) = dstN n p q := by
  have back : ∀ e, dstN n.rev (mirN n q) (mirN n p) = some e → ∃ d, dstN n p q = some d ∧ d ≤ e := fun e he => by
    have := dst_mir_le (gnet_rev h) (mir_ok h hq) (mir_ok h hp) he
    rw [net_rev_rev, mir_mir h hp, mir_mir h hq] at this
    exact this
  cases hd : dstN n p q with
  | none =>
    cases he : dstN n.rev (mirN n q) (mirN n p) with
    | none => rfl
    | some e =>
      obtain ⟨d, h1, _⟩ := back e he
      rw [hd] at h1; cases h1
  | some d =>
    obtain ⟨e, h1, h2⟩ := dst_mir_le h hp hq hd
    obtain ⟨d', h3, h4⟩ := back e h1
    rw [hd] at h3
    injection h3 with h3
    subst h3
    rw [h1]
    have : e = d := by grind
    rw [this]
set_option maxRecDepth 100000 in
set_option maxHeartbeats 1000000 in
theorem mirror_q {n : Net} (h : GNet n) (v1 v2 : Value) {p : Plc} (hp : PosOK n p) (w : World) (hN : NetAt w.heap.size w v1 v2 n) :
    Calls Tryz.prog 26 #[.agg #[v1, v2], .agg #[.int .i64 p.road, .bool (zs p.off.num), .string (zx p.off.num), .bool false, .string (ry p.off.den)]] w fun e w' => e = .returned (.tuple #[.agg #[.int .i64 (mirN n p).road, .bool (zs (mirN n p).off.num), .string (zx (mirN n p).off.num), .bool false, .string (ry (mirN n p).off.den)], .int .i64 0]) ∧ Below w.heap.size w w' := by
  obtain ⟨r, hr, hm, hid, h1, h2⟩ := hp.rd
  have hl := len_le h hm
  obtain ⟨l1, l2⟩ := h.len r hm
  have hsp : Sm p.off := sm_g64 hp.g (by grind) (by grind)
  have HC0 := chk_bw hN h.ok p hsp
  rw [hp.chk] at HC0
  have HR0 : Hid (∀ (w' : World) [Bw w w'], Calls Tryz.prog 67 #[.agg #[v1, v2], .int .i64 p.road] w' fun e w2 => e = .returned (.tuple #[((roadOf n.roads p.road).getD rd0).v, .bool (roadOf n.roads p.road).isSome]) ∧ Below w'.heap.size w' w2) := Lib.hid (fun w' _ => road_any n v1 v2 p.road w' (later_bw hN) h.ok.roads (by have := h.most; omega))
  rw [hr] at HR0
  have HF0 := Lib.hid (fun w' : World => fromInt_q r.len w' (by omega))
  have HS0 := Lib.hid (fun w' : World => sub_q (r.len : Rat) p.off w' (sm_int (by omega)) hsp)
  have e : mirN n p = ⟨p.road, (r.len : Rat) - p.off⟩ := by unfold mirN; rw [hr]; rfl
  rw [e]
  clear e hsp hl h1 h2 hid hm hr hp
  generalize (r.len : Rat) - p.off = o at *
  generalize (r.len : Rat) = l at *
  have HC : Hid (∀ (w' : World) [Bw w w'], Calls Tryz.prog 52 #[.agg #[v1, v2], .agg #[.int .i64 p.road, .bool (zs p.off.num), .string (zx p.off.num), .bool false, .string (ry p.off.den)]] w' fun e w2 => e = .returned (.int .i64 0) ∧ Below w'.heap.size w' w2) := Lib.hid HC0.out
  have HR : Hid (∀ (w' : World) [Bw w w'], Calls Tryz.prog 67 #[.agg #[v1, v2], .int .i64 p.road] w' fun e w2 => e = .returned (.tuple #[.agg #[.int .i64 r.id, .int .i64 r.src, .int .i64 r.dst, .int .i64 r.len, .int .i64 r.lim, .bool r.one], .bool true]) ∧ Below w'.heap.size w' w2) := Lib.hid HR0.out
  have HF : Hid (∀ w' : World, Calls Tryz.prog 62 #[.int .i64 r.len] w' fun e w2 => e = .returned (.agg #[.bool (zs l.num), .string (zx l.num), .bool false, .string (ry l.den)]) ∧ Below w'.heap.size w' w2) := Lib.hid HF0.out
  have HS : Hid (∀ w' : World, Calls Tryz.prog 35 #[.agg #[.bool (zs l.num), .string (zx l.num), .bool false, .string (ry l.den)], .agg #[.bool (zs p.off.num), .string (zx p.off.num), .bool false, .string (ry p.off.den)]] w' fun e w2 => e = .returned (.agg #[.bool (zs o.num), .string (zx o.num), .bool false, .string (ry o.den)]) ∧ Below w'.heap.size w' w2) := Lib.hid HS0.out
  obtain ⟨a1, n1, c1, rfl, _⟩ := hN.1.open
  obtain ⟨a2, n2, c2, rfl, _⟩ := hN.2.open
  clear HC0 HR0 HF0 HS0 hN h l1 l2
  go_enter Tryz.func26, Tryz.ntmps26
  go_wp2_with fail
  refine (jk (HC.out _)).mono ?_
  rintro e _ ⟨rfl, X1, rfl⟩
  go_wp2_with fail
  refine (jk (HR.out _)).mono ?_
  rintro e _ ⟨rfl, X2, rfl⟩
  go_upto_region 5 with fail
  refine wp_jtail 9 (by kernel_rfl) (by kernel_rfl) ?_
  simp only [List.take_succ_cons, List.take_zero, List.drop_succ_cons, List.drop_zero]
  repeat (go_big_quiet_step (first | (first | (with_reducible exact jq (HF.out _)) | (with_reducible exact jq (HS.out _))) | fail))
  refine wpQuiet_nil ?_
  rintro _ ⟨X3, rfl⟩
  go_wp2_with fail
  exact bodyPost_ret (v := .tuple #[.agg #[.int .i64 p.road, .bool (zs o.num), .string (zx o.num), .bool false, .string (ry o.den)], .int .i64 0]) (by simp [results, Tryz.results26, go_sem]) rfl ⟨rfl, Bw.b⟩
end Go.Proofs.YtopfgkbpakfccaaGreatDoor
