/- call's requests, as plain lists. No condition. -/
import Derived.Test.YthpkhegoamhgeaaFwCall
namespace Go.Proofs.Ythpkhegoamhgeaa.Fw
open Go Den Fwd
set_option linter.unusedVariables false
set_option linter.unusedSimpArgs false
structure Cr where
  kd : Int
  st : Int
  gn : Int
  ix : Int
  data : List UInt8
instance : DecidableEq Cr := fun p q => decidable_of_iff (p.kd = q.kd ∧ p.st = q.st ∧ p.gn = q.gn ∧ p.ix = q.ix ∧ p.data = q.data) ⟨fun ⟨a, b, c, d, e⟩ => by cases p; cases q; simp_all, fun e => by subst e; exact ⟨rfl, rfl, rfl, rfl, rfl⟩⟩
def Cr.zero : Cr := ⟨0, 0, 0, 0, []⟩
abbrev CrT : Type := Int × Int × Int × Int × Sl
def Cr.tup (q : Cr) (d : Sl) : CrT := (q.kd, q.st, q.gn, q.ix, d)
def crV (a b c e : Int) (d : Sl) : List Value := [.int .i64 a, .int .i64 b, .int .i64 c, .int .i64 e, slv d]
def Cr.vs (q : Cr) (d : Sl) : List Value := crV q.kd q.st q.gn q.ix d
def Cr.right (q : Cr) : Bool := decide (1 ≤ q.kd ∧ q.kd ≤ 6) && (decide (0 ≤ q.st ∧ q.st ≤ 65535) && (decide (0 ≤ q.gn ∧ q.gn ≤ 1099511627776) && (decide (0 ≤ q.ix ∧ q.ix ≤ 255) && decide (q.data.length ≤ 128))))
structure Cr.Rt (q : Cr) : Prop where
  k0 : 1 ≤ q.kd
  k1 : q.kd ≤ 6
  s0 : 0 ≤ q.st
  s1 : q.st ≤ 65535
  g0 : 0 ≤ q.gn
  g1 : q.gn ≤ 1099511627776
  i0 : 0 ≤ q.ix
  i1 : q.ix ≤ 255
  dl : q.data.length ≤ 128
theorem Cr.right_iff (q : Cr) : q.right = true ↔ q.Rt := by
  unfold Cr.right
  simp only [Bool.and_eq_true, decide_eq_true_eq]
  exact ⟨fun ⟨⟨a, b⟩, ⟨c, d⟩, ⟨e, f⟩, ⟨g, h⟩, i⟩ => ⟨a, b, c, d, e, f, g, h, i⟩, fun ⟨a, b, c, d, e, f, g, h, i⟩ => ⟨⟨a, b⟩, ⟨c, d⟩, ⟨e, f⟩, ⟨g, h⟩, i⟩⟩
def layC (q : Cr) : List UInt8 := beN q.kd.toNat 1 ++ beN q.st.toNat 2 ++ beN q.gn.toNat 6 ++ beN q.ix.toNat 1 ++ beN q.data.length 2 ++ q.data
theorem layC_len (q : Cr) : (layC q).length = 12 + q.data.length := by unfold layC; simp only [List.length_append, beN_len]
theorem bindCr {β : Type} (a b c e : Int) (d : Sl) (f : FT [.int .i64, .int .i64, .int .i64, .int .i64, .sl] → Option β) : (asSt [(.int .i64), (.int .i64), (.int .i64), (.int .i64), .sl] (some (Value.agg (crV a b c e d).toArray))).bind f = f (show FT [.int .i64, .int .i64, .int .i64, .int .i64, .sl] from ((a, b, c, e, d) : CrT)) := rfl
theorem Is.cr {h : H} {bb e es : Nat} {a b c x : Int} {d : Sl} (I : Is h bb e es (crV a b c x d)) : lda 5 h (some ⟨bb, 0, none⟩) = some (.agg (crV a b c x d).toArray) := by
  rw [I.lda (o := 0) (n := 5) (Nat.le_refl _)]; rfl
theorem nn (x : Int) (h : 0 ≤ x) : x = Int.ofNat x.toNat := (Int.toNat_of_nonneg h).symm
theorem clay_f (k : Nat) (hk : 1000 < k) {h : H} (w : WF h) (q : Cr) (d : Sl) (r : SlR 1 h d (byt q.data)) :
    ∃ s' h', call_LayReq.f k (q.tup d) h = some ((s', if q.right then 0 else 1), h') ∧ Ch0 h h' ∧ Ow 5 1 h' s' (byt (if q.right then layC q else [])) ∧ ∀ b, SlB s' b → h.next ≤ b := by
  unfold call_LayReq.f Cr.tup
  dsimp only
  rw [show [Value.int .i64 q.kd, Value.int .i64 q.st, Value.int .i64 q.gn, Value.int .i64 q.ix, Value.slice d.a d.n d.c] = q.vs d from rfl]
  obtain ⟨z1, z2, z3⟩ := newR_ok w 48 5 (q.vs d)
  generalize newR h 48 5 (q.vs d) = g0 at z1 z2 z3 ⊢
  have V0 : (q.vs d)[0]? = some (.int .i64 q.kd) := rfl
  have V1 : (q.vs d)[1]? = some (.int .i64 q.st) := rfl
  have V2 : (q.vs d)[2]? = some (.int .i64 q.gn) := rfl
  have V3 : (q.vs d)[3]? = some (.int .i64 q.ix) := rfl
  have V4 : (q.vs d)[4]? = some (slv d) := rfl
  simp only [z3.ldc, V0, V1, V2, V3, V4, asI_int, asS_slv, Option.bind_some, within_f]
  have bad : q.right = false → ∃ s' h', some (((⟨none, 0, 0⟩ : Sl), (1 : Int)), g0) = some ((s', if q.right then 0 else 1), h') ∧ Ch0 h h' ∧ Ow 5 1 h' s' (byt (if q.right then layC q else [])) ∧ ∀ b, SlB s' b → h.next ≤ b := fun e => by
    rw [e]
    exact ⟨⟨none, 0, 0⟩, g0, rfl, z1, Ow.nil, fun b hb => by obtain ⟨o, f⟩ := hb; cases f⟩
  by_cases c1 : 1 ≤ q.kd ∧ q.kd ≤ 6
  rotate_left
  · simp only [decide_eq_false c1, Bool.not_false, cond_true, Option.bind_some]
    exact bad (by unfold Cr.right; rw [decide_eq_false c1]; rfl)
  simp only [decide_eq_true c1, Bool.not_true, cond_false, z3.ldc, V0, V1, V2, V3, V4, asI_int, asS_slv, Option.bind_some, within_f]
  by_cases c2 : 0 ≤ q.st ∧ q.st ≤ 65535
  rotate_left
  · simp only [decide_eq_false c2, Bool.not_false, cond_true, Option.bind_some]
    exact bad (by unfold Cr.right; rw [decide_eq_false c2]; simp)
  simp only [decide_eq_true c2, Bool.not_true, cond_false, z3.ldc, V0, V1, V2, V3, V4, asI_int, asS_slv, Option.bind_some, within_f]
  by_cases c3 : 0 ≤ q.gn ∧ q.gn ≤ 1099511627776
  rotate_left
  · simp only [decide_eq_false c3, Bool.not_false, cond_true, Option.bind_some]
    exact bad (by unfold Cr.right; rw [decide_eq_false c3]; simp)
  simp only [decide_eq_true c3, Bool.not_true, cond_false, z3.ldc, V0, V1, V2, V3, V4, asI_int, asS_slv, Option.bind_some, within_f]
  by_cases c4 : 0 ≤ q.ix ∧ q.ix ≤ 255
  rotate_left
  · simp only [decide_eq_false c4, Bool.not_false, cond_true, Option.bind_some]
    exact bad (by unfold Cr.right; rw [decide_eq_false c4]; simp)
  simp only [decide_eq_true c4, Bool.not_true, cond_false, z3.ldc, V0, V1, V2, V3, V4, asI_int, asS_slv, Option.bind_some, within_f, r.n_byt]
  by_cases c5 : q.data.length ≤ 128
  rotate_left
  · rw [decide_eq_true (show Int.ofNat q.data.length > (128 : Int) by simp; omega)]
    simp only [cond_true]
    exact bad (by unfold Cr.right; rw [decide_eq_false c5]; simp)
  rw [decide_eq_false (show ¬ Int.ofNat q.data.length > (128 : Int) by simp; omega)]
  simp only [cond_false, z3.ldc, V0, V1, V2, V3, V4, asI_int, asS_slv, Option.bind_some]
  have rt : q.right = true := by unfold Cr.right; simp [c1, c2, c3, c4, c5]
  rw [rt, if_pos rfl, if_pos rfl]
  obtain ⟨s1, g1, a1, a2, a3, a4⟩ := cbytes_f k hk q.kd.toNat 1 (by decide) z1.wf q.kd (nn _ (by omega)) 1 rfl
  rw [a1]
  have I1 := z3.stay z1.wf a2
  simp only [Option.bind_some, I1.ldc, V1, asI_int]
  obtain ⟨s2, g2, b1, b2, b3, b4⟩ := cbytes_f k hk q.st.toNat 2 (by decide) a2.wf q.st (nn _ (by omega)) 2 rfl
  rw [b1]
  have I2 := I1.stay a2.wf b2
  simp only [Option.bind_some, I2.ldc, V2, asI_int]
  obtain ⟨s3, g3, c1', c2', c3', c4'⟩ := cbytes_f k hk q.gn.toNat 6 (by decide) b2.wf q.gn (nn _ (by omega)) 6 rfl
  rw [c1']
  have I3 := I2.stay b2.wf c2'
  simp only [Option.bind_some, I3.ldc, V3, asI_int]
  obtain ⟨s4, g4, d1, d2, d3, d4⟩ := cbytes_f k hk q.ix.toNat 1 (by decide) c2'.wf q.ix (nn _ (by omega)) 1 rfl
  rw [d1]
  have I4 := I3.stay c2'.wf d2
  simp only [Option.bind_some, I4.ldc, V4, asS_slv, r.n_byt]
  obtain ⟨s5, g5, e1, e2, e3, e4⟩ := cbytes_f k hk q.data.length 2 (by decide) d2.wf (Int.ofNat q.data.length) rfl 2 rfl
  rw [e1]
  have I5 := I4.stay d2.wf e2
  simp only [Option.bind_some, I5.ldc, V4, asS_slv]
  let ps : Parts := [(s1, beN q.kd.toNat 1), (s2, beN q.st.toNat 2), (s3, beN q.gn.toNat 6), (s4, beN q.ix.toNat 1), (s5, beN q.data.length 2), (d, q.data)]
  have ed : Value.slice d.a q.data.length d.c = slv d := by rw [← r.n_byt]; rfl
  rw [ed]
  rw [show [Value.slice s1.a s1.n s1.c, Value.slice s2.a s2.n s2.c, Value.slice s3.a s3.n s3.c, Value.slice s4.a s4.n s4.c, Value.slice s5.a s5.n s5.c, Value.slice d.a d.n d.c] = ps.map fun p => slv p.1 from rfl]
  obtain ⟨y1, y2, y3⟩ := newR_ok e2.wf 25 1 (ps.map fun p => slv p.1)
  have c15 : Ch0 g1 g5 := ((b2.then c2').then d2).then e2
  have hps : PartsR g5 ps := by
    intro p hp
    simp only [ps, List.mem_cons, List.not_mem_nil, or_false] at hp
    rcases hp with rfl | rfl | rfl | rfl | rfl | rfl
    · exact a3.slr.stay a2.wf c15
    · exact b3.slr.stay b2.wf ((c2'.then d2).then e2)
    · exact c3'.slr.stay c2'.wf (d2.then e2)
    · exact d3.slr.stay d2.wf e2
    · exact e3.slr
    · exact r.stay w ((z1.then a2).then c15)
  obtain ⟨s', h', v1, v2, v3, v4⟩ := concat_f k hk y1.wf (ps := ps) (SlR.of_is y3 (n := 6) rfl (by unfold unk; omega)) (hps.stay e2.wf y1) (by show 6 < 1000; decide) (by
    show (beN q.kd.toNat 1).length + ((beN q.st.toNat 2).length + ((beN q.gn.toNat 6).length + ((beN q.ix.toNat 1).length + ((beN q.data.length 2).length + (q.data.length + 0))))) ≤ _
    simp only [beN_len]; omega)
  rw [v1]
  simp only [Option.bind_some]
  have bz : h.next < g0.next := by omega
  have k1 := a2.keep h.next bz fun f => f
  have l1 := a2.le
  have k2 := b2.keep h.next (by omega) fun f => f
  have l2 := b2.le
  have k3 := c2'.keep h.next (by omega) fun f => f
  have l3 := c2'.le
  have k4 := d2.keep h.next (by omega) fun f => f
  have l4 := d2.le
  have k5 := e2.keep h.next (by omega) fun f => f
  have l5 := e2.le
  have m1 : same1 g0 g1 (some (slv d)) = true := same1_sl fun b hb => a2.keep b (by have := r.blk w hb; have := z1.le; omega) fun f => f
  have m2 : same1 g1 g2 (some (slv d)) = true := same1_sl fun b hb => b2.keep b (by have := r.blk w hb; have := z1.le; omega) fun f => f
  have m3 : same1 g2 g3 (some (slv d)) = true := same1_sl fun b hb => c2'.keep b (by have := r.blk w hb; have := z1.le; omega) fun f => f
  have m4 : same1 g3 g4 (some (slv d)) = true := same1_sl fun b hb => d2.keep b (by have := r.blk w hb; have := z1.le; omega) fun f => f
  simp only [same1_of k1, same1_of k2, same1_of k3, same1_of k4, same1_of k5, m1, m2, m3, m4, Bool.and_self, cond_true]
  refine ⟨s', h', rfl, (((z1.then a2).then c15).then y1).then v2, ?_, fun b hb => by have := v4 b hb; omega⟩
  have : joined ps = layC q := by
    unfold joined layC
    simp only [ps, List.map_cons, List.map_nil, List.flatten_cons, List.flatten_nil, List.append_nil, List.append_assoc]
  rw [← this]; exact v3
theorem rright_f (k : Nat) {h : H} (w : WF h) (q : Cr) (d : Sl) (r : SlR 1 h d (byt q.data)) : ∃ h', corbelref7_RightReq.f k (q.tup d) h = some (q.right, h') ∧ Ch0 h h' := by
  unfold corbelref7_RightReq.f Cr.tup
  dsimp only
  rw [show [Value.int .i64 q.kd, Value.int .i64 q.st, Value.int .i64 q.gn, Value.int .i64 q.ix, Value.slice d.a d.n d.c] = q.vs d from rfl]
  obtain ⟨z1, z2, z3⟩ := newR_ok w 48 5 (q.vs d)
  generalize newR h 48 5 (q.vs d) = g0 at z1 z2 z3 ⊢
  have V0 : (q.vs d)[0]? = some (.int .i64 q.kd) := rfl
  have V1 : (q.vs d)[1]? = some (.int .i64 q.st) := rfl
  have V2 : (q.vs d)[2]? = some (.int .i64 q.gn) := rfl
  have V3 : (q.vs d)[3]? = some (.int .i64 q.ix) := rfl
  have V4 : (q.vs d)[4]? = some (slv d) := rfl
  refine ⟨g0, ?_, z1⟩
  simp only [z3.ldc, V0, V1, V2, V3, V4, asI_int, asS_slv, Option.bind_some]
  have bad : ∀ b : Bool, q.right = b → some (b, g0) = some (q.right, g0) := fun b e => by rw [e]
  by_cases c1 : 1 ≤ q.kd
  rotate_left
  · simp only [decide_eq_false (show ¬ q.kd ≥ 1 from c1), cond_false, Option.bind_some]
    exact bad _ (by unfold Cr.right; rw [decide_eq_false (fun f => c1 f.1)]; rfl)
  simp only [decide_eq_true (show q.kd ≥ 1 from c1), cond_true, z3.ldc, V0, V1, V2, V3, V4, asI_int, asS_slv, Option.bind_some]
  by_cases c2 : q.kd ≤ 6
  rotate_left
  · simp only [decide_eq_false c2, cond_false, Option.bind_some]
    exact bad _ (by unfold Cr.right; rw [decide_eq_false (fun f => c2 f.2)]; rfl)
  simp only [decide_eq_true c2, cond_true, z3.ldc, V0, V1, V2, V3, V4, asI_int, asS_slv, Option.bind_some]
  by_cases c3 : 0 ≤ q.st
  rotate_left
  · simp only [decide_eq_false (show ¬ q.st ≥ 0 from c3), cond_false, Option.bind_some]
    exact bad _ (by unfold Cr.right; rw [decide_eq_false (p := 0 ≤ q.st ∧ q.st ≤ 65535) (fun f => c3 f.1)]; simp)
  simp only [decide_eq_true (show q.st ≥ 0 from c3), cond_true, z3.ldc, V0, V1, V2, V3, V4, asI_int, asS_slv, Option.bind_some]
  by_cases c4 : q.st ≤ 65535
  rotate_left
  · simp only [decide_eq_false c4, cond_false, Option.bind_some]
    exact bad _ (by unfold Cr.right; rw [decide_eq_false (p := 0 ≤ q.st ∧ q.st ≤ 65535) (fun f => c4 f.2)]; simp)
  simp only [decide_eq_true c4, cond_true, z3.ldc, V0, V1, V2, V3, V4, asI_int, asS_slv, Option.bind_some]
  by_cases c5 : 0 ≤ q.gn
  rotate_left
  · simp only [decide_eq_false (show ¬ q.gn ≥ 0 from c5), cond_false, Option.bind_some]
    exact bad _ (by unfold Cr.right; rw [decide_eq_false (p := 0 ≤ q.gn ∧ q.gn ≤ 1099511627776) (fun f => c5 f.1)]; simp)
  simp only [decide_eq_true (show q.gn ≥ 0 from c5), cond_true, z3.ldc, V0, V1, V2, V3, V4, asI_int, asS_slv, Option.bind_some]
  by_cases c6 : q.gn ≤ 1099511627776
  rotate_left
  · simp only [decide_eq_false c6, cond_false, Option.bind_some]
    exact bad _ (by unfold Cr.right; rw [decide_eq_false (p := 0 ≤ q.gn ∧ q.gn ≤ 1099511627776) (fun f => c6 f.2)]; simp)
  simp only [decide_eq_true c6, cond_true, z3.ldc, V0, V1, V2, V3, V4, asI_int, asS_slv, Option.bind_some]
  by_cases c7 : 0 ≤ q.ix
  rotate_left
  · simp only [decide_eq_false (show ¬ q.ix ≥ 0 from c7), cond_false, Option.bind_some]
    exact bad _ (by unfold Cr.right; rw [decide_eq_false (p := 0 ≤ q.ix ∧ q.ix ≤ 255) (fun f => c7 f.1)]; simp)
  simp only [decide_eq_true (show q.ix ≥ 0 from c7), cond_true, z3.ldc, V0, V1, V2, V3, V4, asI_int, asS_slv, Option.bind_some]
  by_cases c8 : q.ix ≤ 255
  rotate_left
  · simp only [decide_eq_false c8, cond_false, Option.bind_some]
    exact bad _ (by unfold Cr.right; rw [decide_eq_false (p := 0 ≤ q.ix ∧ q.ix ≤ 255) (fun f => c8 f.2)]; simp)
  simp only [decide_eq_true c8, cond_true, z3.ldc, V0, V1, V2, V3, V4, asI_int, asS_slv, Option.bind_some, r.n_byt]
  have e : decide (Int.ofNat q.data.length ≤ (128 : Int)) = decide (q.data.length ≤ 128) := by
    by_cases c : q.data.length ≤ 128
    · rw [decide_eq_true c, decide_eq_true (show Int.ofNat q.data.length ≤ (128 : Int) by simp; omega)]
    · rw [decide_eq_false c, decide_eq_false (show ¬ Int.ofNat q.data.length ≤ (128 : Int) by simp; omega)]
  rw [e]
  refine bad _ ?_
  unfold Cr.right
  simp [c1, c2, c3, c4, c5, c6, c7, c8]
theorem rlay_f (k : Nat) (hk : 1000 < k) {h : H} (w : WF h) (q : Cr) (d : Sl) (r : SlR 1 h d (byt q.data)) (rt : q.right = true) :
    ∃ s' h', corbelref7_LayReq.f k (q.tup d) h = some (s', h') ∧ Ch0 h h' ∧ Ow 5 1 h' s' (byt (layC q)) ∧ ∀ b, SlB s' b → h.next ≤ b := by
  obtain ⟨rk0, rk1, rs0, rs1, rg0, rg1, ri0, ri1, rdl⟩ := (Cr.right_iff q).1 rt
  unfold corbelref7_LayReq.f Cr.tup
  dsimp only
  rw [show [Value.int .i64 q.kd, Value.int .i64 q.st, Value.int .i64 q.gn, Value.int .i64 q.ix, Value.slice d.a d.n d.c] = q.vs d from rfl]
  obtain ⟨z1, z2, z3⟩ := newR_ok w 48 5 (q.vs d)
  generalize newR h 48 5 (q.vs d) = g0 at z1 z2 z3 ⊢
  have V0 : (q.vs d)[0]? = some (.int .i64 q.kd) := rfl
  have V1 : (q.vs d)[1]? = some (.int .i64 q.st) := rfl
  have V2 : (q.vs d)[2]? = some (.int .i64 q.gn) := rfl
  have V3 : (q.vs d)[3]? = some (.int .i64 q.ix) := rfl
  have V4 : (q.vs d)[4]? = some (slv d) := rfl
  simp only [z3.ldc, V0, asI_int, Option.bind_some]
  obtain ⟨s1, g1, a1, a2, a3, a4⟩ := big_f k hk q.kd.toNat 1 (by decide) z1.wf q.kd (nn _ (by omega)) 1 rfl
  rw [a1]
  have I1 := z3.stay z1.wf a2
  simp only [Option.bind_some, I1.ldc, V1, asI_int]
  obtain ⟨s2, g2, b1, b2, b3, b4⟩ := big_f k hk q.st.toNat 2 (by decide) a2.wf q.st (nn _ (by omega)) 2 rfl
  rw [b1]
  have I2 := I1.stay a2.wf b2
  simp only [Option.bind_some]
  have c01 := z1.then a2
  have c02 := c01.then b2
  -- onto the first
  obtain ⟨t1, g3, c1, c2, c3, c4⟩ := app_b b2.wf (a3.stay a2.wf b2) b3.slr (by simp only [beN_len]; omega)
  rw [c1]
  simp only [Option.bind_some]
  have zl := z1.le
  have l1 := a2.le
  have l2 := b2.le
  have c03 : Ch0 h g3 := Ch0.own c02 c2 fun x hx => by have := a4 x hx; omega
  have I3 := I2.keep (c2.keep h.next (by omega) fun f => by have := a4 _ f; omega)
  have f1 : ∀ b, SlB t1 b → g0.next ≤ b := fun b hb => (c4 b hb).elim (a4 b) fun f => by omega
  simp only [same1_of (a2.keep h.next (by omega) fun f => f), Bool.and_self, cond_true, I3.ldc, V2, asI_int, Option.bind_some]
  obtain ⟨s3, g4, d1, d2, d3, d4⟩ := big_f k hk q.gn.toNat 6 (by decide) c03.wf q.gn (nn _ (by omega)) 6 rfl
  rw [d1]
  simp only [Option.bind_some]
  have c04 := c03.then d2
  have I4 := I3.stay c03.wf d2
  have l3 := c2.le
  have l4 := d2.le
  obtain ⟨t2, g5, e1, e2, e3, e4⟩ := app_b d2.wf (c3.stay c2.wf d2) d3.slr (by simp only [List.length_append, beN_len]; omega)
  rw [e1]
  have c05 : Ch0 h g5 := Ch0.own c04 e2 fun x hx => by have := f1 x hx; omega
  have I5 := I4.keep (e2.keep h.next (by omega) fun f => by have := f1 _ f; omega)
  have f2 : ∀ b, SlB t2 b → g0.next ≤ b := fun b hb => (e4 b hb).elim (f1 b) fun f => by omega
  simp only [Option.bind_some, I5.ldc, V3, asI_int]
  obtain ⟨s4, g6, m1, m2, m3, m4⟩ := big_f k hk q.ix.toNat 1 (by decide) c05.wf q.ix (nn _ (by omega)) 1 rfl
  rw [m1]
  simp only [Option.bind_some]
  have c06 := c05.then m2
  have I6 := I5.stay c05.wf m2
  have l5 := e2.le
  have l6 := m2.le
  obtain ⟨t3, g7, n1, n2, n3, n4⟩ := app_b m2.wf (e3.stay e2.wf m2) m3.slr (by simp only [List.length_append, beN_len]; omega)
  rw [n1]
  have c07 : Ch0 h g7 := Ch0.own c06 n2 fun x hx => by have := f2 x hx; omega
  have I7 := I6.keep (n2.keep h.next (by omega) fun f => by have := f2 _ f; omega)
  have f3 : ∀ b, SlB t3 b → g0.next ≤ b := fun b hb => (n4 b hb).elim (f2 b) fun f => by omega
  simp only [Option.bind_some, I7.ldc, V4, asS_slv, r.n_byt]
  obtain ⟨s5, g8, o1, o2, o3, o4⟩ := big_f k hk q.data.length 2 (by decide) c07.wf (Int.ofNat q.data.length) rfl 2 rfl
  rw [o1]
  simp only [Option.bind_some]
  have c08 := c07.then o2
  have I8 := I7.stay c07.wf o2
  have l7 := n2.le
  have l8 := o2.le
  obtain ⟨t4, g9, p1, p2, p3, p4⟩ := app_b o2.wf (n3.stay n2.wf o2) o3.slr (by simp only [List.length_append, beN_len]; omega)
  rw [p1]
  have c09 : Ch0 h g9 := Ch0.own c08 p2 fun x hx => by have := f3 x hx; omega
  have I9 := I8.keep (p2.keep h.next (by omega) fun f => by have := f3 _ f; omega)
  have f4 : ∀ b, SlB t4 b → g0.next ≤ b := fun b hb => (p4 b hb).elim (f3 b) fun f => by omega
  simp only [Option.bind_some, I9.ldc, V4, asS_slv]
  have l9 := p2.le
  obtain ⟨t5, g10, q1, q2, q3, q4⟩ := app_b p2.wf p3 (r.stay w c09) (by simp only [List.length_append, beN_len]; omega)
  rw [q1]
  refine ⟨t5, g10, rfl, Ch0.own c09 q2 fun x hx => by have := f4 x hx; omega, q3, fun b hb => (q4 b hb).elim (fun f => by have := f4 b f; omega) fun f => by omega⟩
/-! ### same -/
theorem csame_f (k : Nat) {h : H} (w : WF h) (p q : Cr) (d e : Sl) (r : SlR 1 h d (byt p.data)) (t : SlR 1 h e (byt q.data)) :
    ∃ h', corbelref7_SameReq.f k (p.tup d) (q.tup e) h = some (decide (p = q), h') ∧ Ch0 h h' := by
  unfold corbelref7_SameReq.f Cr.tup
  dsimp only
  rw [show [Value.int .i64 p.kd, Value.int .i64 p.st, Value.int .i64 p.gn, Value.int .i64 p.ix, Value.slice d.a d.n d.c] = p.vs d from rfl, show [Value.int .i64 q.kd, Value.int .i64 q.st, Value.int .i64 q.gn, Value.int .i64 q.ix, Value.slice e.a e.n e.c] = q.vs e from rfl]
  obtain ⟨z1, z2, z3⟩ := newR_ok w 48 5 (p.vs d)
  generalize newR h 48 5 (p.vs d) = g0 at z1 z2 z3 ⊢
  obtain ⟨y1, y2, y3⟩ := newR_ok z1.wf 48 5 (q.vs e)
  generalize newR g0 48 5 (q.vs e) = g1 at y1 y2 y3 ⊢
  have z4 := z3.stay z1.wf y1
  have c := z1.then y1
  refine ⟨g1, ?_, c⟩
  have no : ∀ b : Bool, decide (p = q) = b → some (b, g1) = some (decide (p = q), g1) := fun b e => by rw [e]
  simp only [z4.ldc, y3.ldc, Cr.vs, crV, List.getElem?_cons_succ, List.getElem?_cons_zero, asI_int, asS_slv, Option.bind_some]
  by_cases c1 : p.kd = q.kd
  rotate_left
  · simp only [beq_eq_false_iff_ne.2 c1, cond_false, Option.bind_some]
    exact no _ (decide_eq_false fun f => c1 (by rw [f]))
  simp only [beq_iff_eq.2 c1, cond_true, z4.ldc, y3.ldc, Cr.vs, crV, List.getElem?_cons_succ, List.getElem?_cons_zero, asI_int, asS_slv, Option.bind_some]
  by_cases c2 : p.st = q.st
  rotate_left
  · simp only [beq_eq_false_iff_ne.2 c2, cond_false, Option.bind_some]
    exact no _ (decide_eq_false fun f => c2 (by rw [f]))
  simp only [beq_iff_eq.2 c2, cond_true, z4.ldc, y3.ldc, Cr.vs, crV, List.getElem?_cons_succ, List.getElem?_cons_zero, asI_int, asS_slv, Option.bind_some]
  by_cases c3 : p.gn = q.gn
  rotate_left
  · simp only [beq_eq_false_iff_ne.2 c3, cond_false, Option.bind_some]
    exact no _ (decide_eq_false fun f => c3 (by rw [f]))
  simp only [beq_iff_eq.2 c3, cond_true, z4.ldc, y3.ldc, Cr.vs, crV, List.getElem?_cons_succ, List.getElem?_cons_zero, asI_int, asS_slv, Option.bind_some]
  by_cases c4 : p.ix = q.ix
  rotate_left
  · simp only [beq_eq_false_iff_ne.2 c4, cond_false, Option.bind_some]
    exact no _ (decide_eq_false fun f => c4 (by rw [f]))
  simp only [beq_iff_eq.2 c4, cond_true, z4.ldc, y3.ldc, Cr.vs, crV, List.getElem?_cons_succ, List.getElem?_cons_zero, asI_int, asS_slv, Option.bind_some]
  rw [txt_sl (r.stay w c), txt_sl (t.stay w c)]
  simp only [Option.bind_some, ba_eq]
  refine no _ ?_
  obtain ⟨a1, a2, a3, a4, a5⟩ := p
  obtain ⟨b1, b2, b3, b4, b5⟩ := q
  simp only at c1 c2 c3 c4
  subst c1; subst c2; subst c3; subst c4
  simp
end Go.Proofs.Ythpkhegoamhgeaa.Fw
