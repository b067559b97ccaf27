/- meta's roots, as plain lists. No condition. -/
import Derived.Test.YtfenkpghcbohdaaFwRootA
import Derived.KernelRfl
namespace Go.Proofs.Ytfenkpghcbohdaa.Fw
open Go Den Fwd
set_option linter.unusedVariables false
set_option linter.unusedSimpArgs false
structure Rt where
  vr : Int
  cp : Int
  ln : Int
  sm : Int
abbrev RtT : Type := Int × Int × Int × Int
def Rt.zero : Rt := ⟨0, 0, 0, 0⟩
def Rt.tup (q : Rt) : RtT := (q.vr, q.cp, q.ln, q.sm)
def rtV (a b c d : Int) : List Value := [.int .i64 a, .int .i64 b, .int .i64 c, .int .i64 d]
def Rt.vs (q : Rt) : List Value := rtV q.vr q.cp q.ln q.sm
def Rt.right (q : Rt) : Bool := decide (1 ≤ q.vr ∧ q.vr ≤ 1099511627776) && (decide (0 ≤ q.cp ∧ q.cp ≤ 1) && (decide (1 ≤ q.ln ∧ q.ln ≤ 1024) && decide (0 ≤ q.sm ∧ q.sm ≤ 4294967290)))
theorem Rt.right_iff (q : Rt) : q.right = true ↔ (1 ≤ q.vr ∧ q.vr ≤ 1099511627776) ∧ (0 ≤ q.cp ∧ q.cp ≤ 1) ∧ (1 ≤ q.ln ∧ q.ln ≤ 1024) ∧ (0 ≤ q.sm ∧ q.sm ≤ 4294967290) := by
  unfold Rt.right
  simp only [Bool.and_eq_true, decide_eq_true_eq]
def bodyR (q : Rt) : List UInt8 := beN q.vr.toNat 6 ++ beN q.cp.toNat 1 ++ beN q.ln.toNat 2 ++ beN q.sm.toNat 4
def layR (q : Rt) : List UInt8 := bodyR q ++ List.replicate 115 0
theorem bodyR_len (q : Rt) : (bodyR q).length = 13 := rfl
theorem layR_len (q : Rt) : (layR q).length = 128 := by unfold layR; rw [List.length_append, bodyR_len, List.length_replicate]
theorem bindRt {β : Type} (a b c d : Int) (f : FT [.int .i64, .int .i64, .int .i64, .int .i64] → Option β) : (asSt [(.int .i64), (.int .i64), (.int .i64), (.int .i64)] (some (Value.agg (rtV a b c d).toArray))).bind f = f (show FT [.int .i64, .int .i64, .int .i64, .int .i64] from ((a, b, c, d) : RtT)) := rfl
theorem Is.rt {h : H} {bb e es : Nat} {a b c d : Int} (I : Is h bb e es (rtV a b c d)) : lda 4 h (some ⟨bb, 0, none⟩) = some (.agg (rtV a b c d).toArray) := by
  rw [I.lda (o := 0) (n := 4) (Nat.le_refl _)]; rfl
theorem mlay_f (k : Nat) (hk : 1000 < k) {h : H} (w : WF h) (q : Rt) :
    ∃ s' h', meta_LayRoot.f k q.tup h = some ((s', if q.right then 0 else 1), h') ∧ Ch0 h h' ∧ Ow 5 1 h' s' (byt (if q.right then layR q else [])) ∧ ∀ b, SlB s' b → h.next ≤ b := by
  unfold meta_LayRoot.f Rt.tup
  dsimp only
  rw [show [Value.int .i64 q.vr, Value.int .i64 q.cp, Value.int .i64 q.ln, Value.int .i64 q.sm] = q.vs from rfl]
  obtain ⟨z1, z2, z3⟩ := newR_ok w 46 4 q.vs
  generalize newR h 46 4 q.vs = g0 at z1 z2 z3 ⊢
  have V0 : q.vs[0]? = some (.int .i64 q.vr) := rfl
  have V1 : q.vs[1]? = some (.int .i64 q.cp) := rfl
  have V2 : q.vs[2]? = some (.int .i64 q.ln) := rfl
  have V3 : q.vs[3]? = some (.int .i64 q.sm) := rfl
  simp only [z3.ldc, V0, V1, V2, V3, asI_int, Option.bind_some, within_f]
  have bad : q.right = false → ∃ s' h', some (((⟨none, 0, 0⟩ : Sl), (1 : Int)), g0) = some ((s', if q.right then 0 else 1), h') ∧ Ch0 h h' ∧ Ow 5 1 h' s' (byt (if q.right then layR q else [])) ∧ ∀ b, SlB s' b → h.next ≤ b := fun e => by
    rw [e]
    exact ⟨⟨none, 0, 0⟩, g0, rfl, z1, Ow.nil, fun b hb => by obtain ⟨o, f⟩ := hb; cases f⟩
  by_cases c1 : 1 ≤ q.vr ∧ q.vr ≤ 1099511627776
  rotate_left
  · simp only [decide_eq_false c1, Bool.not_false, cond_true, Option.bind_some]
    exact bad (by unfold Rt.right; rw [decide_eq_false c1]; rfl)
  simp only [decide_eq_true c1, Bool.not_true, cond_false, z3.ldc, V0, V1, V2, V3, asI_int, Option.bind_some, within_f]
  by_cases c2 : 0 ≤ q.cp ∧ q.cp ≤ 1
  rotate_left
  · simp only [decide_eq_false c2, Bool.not_false, cond_true, Option.bind_some]
    exact bad (by unfold Rt.right; rw [decide_eq_false c2]; simp)
  simp only [decide_eq_true c2, Bool.not_true, cond_false, z3.ldc, V0, V1, V2, V3, asI_int, Option.bind_some, within_f]
  by_cases c3 : 1 ≤ q.ln ∧ q.ln ≤ 1024
  rotate_left
  · simp only [decide_eq_false c3, Bool.not_false, cond_true, Option.bind_some]
    exact bad (by unfold Rt.right; rw [decide_eq_false c3]; simp)
  simp only [decide_eq_true c3, Bool.not_true, cond_false, z3.ldc, V0, V1, V2, V3, asI_int, Option.bind_some, within_f]
  by_cases c4 : 0 ≤ q.sm ∧ q.sm ≤ 4294967290
  rotate_left
  · simp only [decide_eq_false c4, Bool.not_false, cond_true, Option.bind_some]
    exact bad (by unfold Rt.right; rw [decide_eq_false c4]; simp)
  have rt : q.right = true := by unfold Rt.right; simp [c1, c2, c3, c4]
  rw [rt, if_pos rfl, if_pos rfl]
  simp only [decide_eq_true c4, Bool.not_true, cond_false]
  obtain ⟨n1, n2, n3⟩ := newZ_ok z1.wf 5 1 (.int .u8 0) 128
  rw [Nat.mul_one, byt_rep] at n3
  generalize newZ g0 5 1 [Value.int .u8 0] 128 = g at n1 n2 n3 ⊢
  have I0 := z3.stay z1.wf n1
  simp only [I0.ldc, V0, asI_int, Option.bind_some]
  obtain ⟨s1, g1, a1, a2, a3, a4⟩ := cbytes_f k hk q.vr.toNat 6 (by decide) n1.wf q.vr (nn _ (by omega)) 6 rfl
  rw [a1]
  have I1 := I0.stay n1.wf a2
  simp only [Option.bind_some, I1.ldc, V1, asI_int]
  obtain ⟨s2, g2, b1, b2, b3, b4⟩ := cbytes_f k hk q.cp.toNat 1 (by decide) a2.wf q.cp (nn _ (by omega)) 1 rfl
  rw [b1]
  have I2 := I1.stay a2.wf b2
  simp only [Option.bind_some, I2.ldc, V2, asI_int]
  obtain ⟨s3, g3, c1', c2', c3', c4'⟩ := cbytes_f k hk q.ln.toNat 2 (by decide) b2.wf q.ln (nn _ (by omega)) 2 rfl
  rw [c1']
  have I3 := I2.stay b2.wf c2'
  simp only [Option.bind_some, I3.ldc, V3, asI_int]
  obtain ⟨s4, g4, d1, d2, d3, d4⟩ := cbytes_f k hk q.sm.toNat 4 (by decide) c2'.wf q.sm (nn _ (by omega)) 4 rfl
  rw [d1]
  simp only [Option.bind_some]
  let ps : Parts := [(s1, beN q.vr.toNat 6), (s2, beN q.cp.toNat 1), (s3, beN q.ln.toNat 2), (s4, beN q.sm.toNat 4)]
  rw [show [Value.slice s1.a s1.n s1.c, Value.slice s2.a s2.n s2.c, Value.slice s3.a s3.n s3.c, Value.slice s4.a s4.n s4.c] = ps.map fun p => slv p.1 from rfl]
  obtain ⟨y1, y2, y3⟩ := newR_ok d2.wf 30 1 (ps.map fun p => slv p.1)
  have hps : PartsR g4 ps := by
    intro p hp
    simp only [ps, List.mem_cons, List.not_mem_nil, or_false] at hp
    rcases hp with rfl | rfl | rfl | rfl
    · exact a3.slr.stay a2.wf ((b2.then c2').then d2)
    · exact b3.slr.stay b2.wf (c2'.then d2)
    · exact c3'.slr.stay c2'.wf d2
    · exact d3.slr
  obtain ⟨s', h', v1, v2, v3, v4⟩ := concat_f k hk y1.wf (ps := ps) (SlR.of_is y3 (n := 4) rfl (by unfold unk; omega)) (hps.stay d2.wf y1) (by show 4 < 1000; decide) (by
    show (beN q.vr.toNat 6).length + ((beN q.cp.toNat 1).length + ((beN q.ln.toNat 2).length + ((beN q.sm.toNat 4).length + 0))) ≤ _
    simp only [beN_len]; omega)
  rw [v1]
  simp only [Option.bind_some]
  have hj : joined ps = bodyR q := by
    unfold joined bodyR
    simp only [ps, List.map_cons, List.map_nil, List.flatten_cons, List.flatten_nil, List.append_nil, List.append_assoc]
  rw [hj] at v3
  have c4' : Ch0 g g4 := ((a2.then b2).then c2').then d2
  have cc : Ch0 g h' := (c4'.then y1).then v2
  have N1 := n3.stay n1.wf cc
  obtain ⟨h2, w1, w2, w3, w4⟩ := cpy_ok (l := []) cc.wf (es := 1) (d := ⟨some ⟨g0.next, 0, none⟩, 128, 128⟩) rfl N1 (by rw [byt_len, List.length_replicate]; exact Nat.le_refl _) v3.slr (byt_one _)
  rw [w1]
  rw [show asI2 .i64 (some (Value.int .i64 (Int.ofNat (min s'.n 128)), h2)) = some (Int.ofNat (min s'.n 128), h2) from rfl]
  simp only [Option.bind_some]
  have bz : h.next < g.next := by have := n1.le; omega
  have k1 := a2.keep h.next bz fun f => f
  have l1 := a2.le
  have k2 := b2.keep h.next (by omega) fun f => f
  have l2 := b2.le
  have k3 := c2'.keep h.next (by omega) fun f => f
  simp only [same1_of k1, same1_of k2, same1_of k3, Bool.and_self, cond_true]
  refine ⟨⟨some ⟨g0.next, 0, none⟩, 128, 128⟩, h2, rfl, Ch0.at ((z1.then n1).then cc) w2 (by omega), ?_, fun b hb => by obtain ⟨o, e⟩ := hb; have : g0.next = b := congrArg Addr.block (Option.some.inj e); omega⟩
  have e : over (byt (List.replicate 128 0)) 0 ((byt (bodyR q)).take (min s'.n 128 * 1)) = byt (layR q) := by
    have hn : s'.n = 13 := by rw [v3.slr.n_byt]; rfl
    rw [hn, show min 13 128 * 1 = 13 from rfl, List.take_of_length_le (by rw [byt_len, bodyR_len]; exact Nat.le_refl _)]
    unfold over
    rw [List.take_zero, List.nil_append, byt_len, bodyR_len, byt_drop, List.drop_replicate, byt_app]
    rfl
  rw [e] at w4
  exact Ow.of_is w4 (by rw [byt_len, layR_len]) (by unfold unk; omega)
theorem apz_ok {h : H} (w : WF h) {s : Sl} {x : List UInt8} (r : Ow 5 1 h s (byt x)) (n : Nat) (hb : x.length + n ≤ 140737488355328) :
    ∃ s' h', asS2 (apz 5 1 1 [Value.int .u8 (0 : Int)] (.slice s.a s.n s.c) (Int.ofNat n) h) = some (s', h') ∧ Ch (SlB s) h h' ∧ Ow 5 1 h' s' (byt (x ++ List.replicate n 0)) ∧ ∀ b, SlB s' b → SlB s b ∨ h.next ≤ b := by
  have hz : (List.range (n * 1)).map (zAt [Value.int .u8 (0 : Int)]) = byt (List.replicate n 0) := by
    rw [← byt_rep]
    apply List.ext_getElem?
    intro i
    rw [List.getElem?_map, List.getElem?_replicate, Nat.mul_one]
    by_cases c : i < n
    · rw [List.getElem?_range c, if_pos c]
      simp [zAt, Nat.mod_one]
    · rw [List.getElem?_eq_none (by simpa using c), if_neg c]; rfl
  have hs := r.slr.n_byt
  obtain ⟨s', h', e1, e2, e3, e4, e5⟩ := apN_ok (by_ := 1) w r (by decide) (n := n) (new := byt (List.replicate n 0)) (by rw [hs]; omega) (byt_one _) (by rw [byt_len, List.length_replicate]; omega)
  have e0 : apz 5 1 1 [Value.int .u8 (0 : Int)] (.slice s.a s.n s.c) (Int.ofNat n) h = apN 5 1 1 (.slice s.a s.n s.c) n (byt (List.replicate n 0)) h := by
    show cond (Nat.ble (n * 1) 140737488355328 && Nat.ble n 140737488355328 && Nat.beq 1 1) (apN 5 1 1 (.slice s.a s.n s.c) n ((List.range (n * 1)).map (zAt [Value.int .u8 (0 : Int)])) h) none = _
    rw [cond_eta _ _ _ (by simp only [Bool.and_eq_true, Nat.ble_eq]; exact ⟨⟨by omega, by omega⟩, rfl⟩), hz]
  rw [e0, e1]
  exact ⟨s', h', rfl, e2, by rw [← byt_app]; exact e3, fun b hb => (e5 b hb).imp id fun f => f.1⟩
theorem rlay_f (k : Nat) (hk : 1000 < k) {h : H} (w : WF h) (q : Rt) :
    ∃ s' h', corbelref16_LayRoot.f k q.tup h = some ((s', q.right), h') ∧ Ch0 h h' ∧ Ow 5 1 h' s' (byt (if q.right then layR q else [])) ∧ ∀ b, SlB s' b → h.next ≤ b := by
  unfold corbelref16_LayRoot.f Rt.tup
  dsimp only
  rw [show [Value.int .i64 q.vr, Value.int .i64 q.cp, Value.int .i64 q.ln, Value.int .i64 q.sm] = q.vs from rfl]
  obtain ⟨z1, z2, z3⟩ := newR_ok w 46 4 q.vs
  generalize newR h 46 4 q.vs = g0 at z1 z2 z3 ⊢
  have V0 : q.vs[0]? = some (.int .i64 q.vr) := rfl
  have V1 : q.vs[1]? = some (.int .i64 q.cp) := rfl
  have V2 : q.vs[2]? = some (.int .i64 q.ln) := rfl
  have V3 : q.vs[3]? = some (.int .i64 q.sm) := rfl
  simp only [z3.ldc, V0, V1, V2, V3, asI_int, Option.bind_some]
  have bad : q.right = false → ∃ s' h', some (((⟨none, 0, 0⟩ : Sl), false), g0) = some ((s', q.right), h') ∧ Ch0 h h' ∧ Ow 5 1 h' s' (byt (if q.right then layR q else [])) ∧ ∀ b, SlB s' b → h.next ≤ b := fun e => by
    rw [e]
    exact ⟨⟨none, 0, 0⟩, g0, rfl, z1, Ow.nil, fun b hb => by obtain ⟨o, f⟩ := hb; cases f⟩
  by_cases c1 : q.vr < 1
  · simp only [decide_eq_true c1, cond_true, Option.bind_some]
    exact bad (by unfold Rt.right; rw [decide_eq_false (fun f => by omega)]; rfl)
  simp only [decide_eq_false c1, cond_false, z3.ldc, V0, V1, V2, V3, asI_int, Option.bind_some]
  by_cases c2 : q.vr > 1099511627776
  · simp only [decide_eq_true c2, cond_true, Option.bind_some]
    exact bad (by unfold Rt.right; rw [decide_eq_false (fun f => by omega)]; rfl)
  simp only [decide_eq_false c2, cond_false, z3.ldc, V0, V1, V2, V3, asI_int, Option.bind_some]
  by_cases c3 : q.cp < 0
  · simp only [decide_eq_true c3, cond_true, Option.bind_some]
    exact bad (by unfold Rt.right; rw [decide_eq_false (p := 0 ≤ q.cp ∧ q.cp ≤ 1) (fun f => by omega)]; simp)
  simp only [decide_eq_false c3, cond_false, z3.ldc, V0, V1, V2, V3, asI_int, Option.bind_some]
  by_cases c4 : q.cp > 1
  · simp only [decide_eq_true c4, cond_true, Option.bind_some]
    exact bad (by unfold Rt.right; rw [decide_eq_false (p := 0 ≤ q.cp ∧ q.cp ≤ 1) (fun f => by omega)]; simp)
  simp only [decide_eq_false c4, cond_false, z3.ldc, V0, V1, V2, V3, asI_int, Option.bind_some]
  by_cases c5 : q.ln < 1
  · simp only [decide_eq_true c5, cond_true, Option.bind_some]
    exact bad (by unfold Rt.right; rw [decide_eq_false (p := 1 ≤ q.ln ∧ q.ln ≤ 1024) (fun f => by omega)]; simp)
  simp only [decide_eq_false c5, cond_false, z3.ldc, V0, V1, V2, V3, asI_int, Option.bind_some]
  by_cases c6 : q.ln > 1024
  · simp only [decide_eq_true c6, cond_true, Option.bind_some]
    exact bad (by unfold Rt.right; rw [decide_eq_false (p := 1 ≤ q.ln ∧ q.ln ≤ 1024) (fun f => by omega)]; simp)
  simp only [decide_eq_false c6, cond_false, z3.ldc, V0, V1, V2, V3, asI_int, Option.bind_some]
  by_cases c7 : q.sm < 0
  · simp only [decide_eq_true c7, cond_true, Option.bind_some]
    exact bad (by unfold Rt.right; rw [decide_eq_false (p := 0 ≤ q.sm ∧ q.sm ≤ 4294967290) (fun f => by omega)]; simp)
  simp only [decide_eq_false c7, cond_false, z3.ldc, V0, V1, V2, V3, asI_int, Option.bind_some]
  by_cases c8 : q.sm ≥ 4294967291
  · simp only [decide_eq_true c8, cond_true, Option.bind_some]
    exact bad (by unfold Rt.right; rw [decide_eq_false (p := 0 ≤ q.sm ∧ q.sm ≤ 4294967290) (fun f => by omega)]; simp)
  simp only [decide_eq_false c8, cond_false, z3.ldc, V0, V1, V2, V3, asI_int, Option.bind_some]
  have rt : q.right = true := (Rt.right_iff q).2 ⟨⟨by omega, by omega⟩, ⟨by omega, by omega⟩, ⟨by omega, by omega⟩, by omega, by omega⟩
  rw [rt, if_pos rfl]
  obtain ⟨s1, g1, a1, a2, a3, a4⟩ := big_f k hk q.vr.toNat 6 (by decide) z1.wf q.vr (nn _ (by omega)) 6 rfl
  rw [a1]
  have I1 := z3.stay z1.wf a2
  simp only [Option.bind_some, I1.ldc, V1, asI_int]
  have zl := z1.le
  have l1 := a2.le
  have hcp : wrapA .u8 q.cp = Int.ofNat (UInt8.ofNat q.cp.toNat).toNat := by
    rw [← wrap_u8n, ← nn _ (by omega)]
  obtain ⟨t1, g2, b1, b2, b3, b4⟩ := push_b a2.wf a3 (UInt8.ofNat q.cp.toNat) (wrapA .u8 q.cp) hcp (by rw [beN_len]; omega)
  rw [b1]
  have c02 : Ch0 h g2 := Ch0.own (z1.then a2) b2 fun x hx => by have := a4 x hx; omega
  have f1 : ∀ b, SlB t1 b → g0.next ≤ b := fun b hb => (b4 b hb).elim (a4 b) fun f => by omega
  have I2 := I1.keep (b2.keep h.next (by omega) fun f => by have := a4 _ f; omega)
  have l2 := b2.le
  simp only [Option.bind_some, same1_of (a2.keep h.next (by omega) fun f => f), Bool.and_self, cond_true, I2.ldc, V2, asI_int]
  obtain ⟨s3, g3, d1, d2, d3, d4⟩ := big_f k hk q.ln.toNat 2 (by decide) c02.wf q.ln (nn _ (by omega)) 2 rfl
  rw [d1]
  simp only [Option.bind_some]
  have c03 := c02.then d2
  have I3 := I2.stay c02.wf d2
  have l3 := d2.le
  obtain ⟨t2, g4, e1, e2, e3, e4⟩ := app_b d2.wf (b3.stay b2.wf d2) d3.slr (by simp only [List.length_append, beN_len, List.length_singleton]; omega)
  rw [e1]
  have c04 : Ch0 h g4 := Ch0.own c03 e2 fun x hx => by have := f1 x hx; omega
  have I4 := I3.keep (e2.keep h.next (by omega) fun f => by have := f1 _ f; omega)
  have f2 : ∀ b, SlB t2 b → g0.next ≤ b := fun b hb => (e4 b hb).elim (f1 b) fun f => by omega
  simp only [Option.bind_some, I4.ldc, V3, asI_int]
  have l4 := e2.le
  obtain ⟨s5, g5, m1, m2, m3, m4⟩ := big_f k hk q.sm.toNat 4 (by decide) c04.wf q.sm (nn _ (by omega)) 4 rfl
  rw [m1]
  simp only [Option.bind_some]
  have c05 := c04.then m2
  have l5 := m2.le
  obtain ⟨t3, g6, n1, n2, n3, n4⟩ := app_b m2.wf (e3.stay e2.wf m2) m3.slr (by simp only [List.length_append, beN_len, List.length_singleton]; omega)
  rw [n1]
  simp only [Option.bind_some]
  have c06 : Ch0 h g6 := Ch0.own c05 n2 fun x hx => by have := f2 x hx; omega
  have f3 : ∀ b, SlB t3 b → g0.next ≤ b := fun b hb => (n4 b hb).elim (f2 b) fun f => by omega
  have hb : beN q.vr.toNat 6 ++ [UInt8.ofNat q.cp.toNat] ++ beN q.ln.toNat 2 ++ beN q.sm.toNat 4 = bodyR q := by
    unfold bodyR
    have : beN q.cp.toNat 1 = [UInt8.ofNat q.cp.toNat] := by
      show [UInt8.ofNat (q.cp.toNat / 256 ^ 0)] = _
      rw [Nat.pow_zero, Nat.div_one]
    rw [this]
  rw [hb] at n3
  have tn : t3.n = 13 := by rw [n3.slr.n_byt]; rfl
  rw [tn, show wrapA .i64 ((128 : Int) - Int.ofNat 13) = Int.ofNat 115 from rfl]
  obtain ⟨t4, g7, p1, p2, p3, p4⟩ := apz_ok n2.wf n3 115 (by rw [bodyR_len]; omega)
  rw [tn] at p1
  rw [p1]
  have l6 := n2.le
  refine ⟨t4, g7, rfl, Ch0.own c06 p2 fun x hx => by have := f3 x hx; omega, p3, fun b hb => (p4 b hb).elim (fun f => by have := f3 b f; omega) fun f => by omega⟩
/-! ### reading -/
def parseR (b : List UInt8) : Rt := ⟨Int.ofNat (unbe (cutL b 0 6)), Int.ofNat (unbe (cutL b 6 7)), Int.ofNat (unbe (cutL b 7 9)), Int.ofNat (unbe (cutL b 9 13))⟩
def okR (b : List UInt8) : Bool := (parseR b).right && decide (layR (parseR b) = b)
def resR (b : List UInt8) : Rt := if okR b then parseR b else Rt.zero
theorem mnumber_f (k : Nat) (hk : 1000 < k) {h : H} (w : WF h) {rb e : Nat} {s : Sl} {x : List UInt8} (I : Is h rb e 1 [slv s]) (r : SlR 1 h s (byt x)) (hs : ¬ SlB s rb) (n : Nat) (hn : n ≤ 7) (m : Int) (hm : m = Int.ofNat n) :
    ∃ s' h', meta_reader_number.f k (some ⟨rb, 0, none⟩) m h = some (Int.ofNat (unbe (x.take n)), h') ∧ Ch (fun b => b = rb) h h' ∧ Is h' rb e 1 [slv s'] ∧ SlR 1 h' s' (byt (x.drop n)) ∧ (∀ b, SlB s' b → SlB s b) := by
  subst hm
  unfold meta_reader_number.f meta_reader_take.f
  simp only [nilA, asP_ptr, Option.bind_some, fadd, I.ldc, List.getElem?_cons_zero, Nat.add_zero, asS_slv]
  have em : (cond (decide (Int.ofNat s.n < Int.ofNat n)) (Int.ofNat s.n) (Int.ofNat n)) = Int.ofNat (min n x.length) := by
    rw [r.n_byt]
    by_cases c : x.length < n
    · rw [decide_eq_true (show Int.ofNat x.length < Int.ofNat n by simp; omega), cond_true, Nat.min_eq_right (by omega)]
    · rw [decide_eq_false (show ¬ Int.ofNat x.length < Int.ofNat n by simp; omega), cond_false, Nat.min_eq_left (by omega)]
  rw [em]
  obtain ⟨s1, a1, a2, a3, a4⟩ := subb_ok r (lo := 0) (hi := min n x.length) (Nat.zero_le _) (Nat.min_le_right _ _) (xlo := none) (xhi := some (Int.ofNat (min n x.length))) rfl rfl
  rw [a1]
  simp only [asS_slv, Option.bind_some]
  rw [List.drop_zero, Nat.sub_zero] at a3
  obtain ⟨s2, c1, c2, c3, c4⟩ := subb_ok r (lo := min n x.length) (hi := x.length) (Nat.min_le_right _ _) (Nat.le_refl _) (xlo := some (Int.ofNat (min n x.length))) (xhi := none) rfl (by rw [r.n_byt]; rfl)
  rw [c1]
  simp only [asS_slv, Option.bind_some]
  obtain ⟨h2, d1, d2, d3, d4⟩ := I.set w 0 (slv s2) (by show 0 < 1; decide) rfl
  rw [show [Value.slice s2.a s2.n s2.c] = [slv s2] from rfl, d1]
  simp only [Option.bind_some]
  have ht : x.take (min n x.length) = x.take n := by
    by_cases c : n ≤ x.length
    · rw [Nat.min_eq_left c]
    · rw [Nat.min_eq_right (by omega), List.take_of_length_le (Nat.le_refl _), List.take_of_length_le (by omega)]
  have hd : (x.drop (min n x.length)).take (x.length - min n x.length) = x.drop n := by
    rw [List.take_of_length_le (by rw [List.length_drop]; exact Nat.le_refl _)]
    by_cases c : n ≤ x.length
    · rw [Nat.min_eq_left c]
    · rw [Nat.min_eq_right (by omega), List.drop_eq_nil_of_le (Nat.le_refl _), List.drop_eq_nil_of_le (by omega)]
  rw [ht] at a3
  rw [hd] at c3
  have a5 := a3.keep (h' := h2) fun b hb => d2.keep b (a3.blk w hb) fun f => hs (by subst f; exact a4 _ hb)
  have := cnumber_l0 k a5 (by rw [List.length_take]; omega) k 0 0 (by rw [List.length_take]; omega) (Nat.zero_le _) rfl
  rw [a5.n_byt, show (0 : Int) = Int.ofNat 0 from rfl, this]
  exact ⟨s2, h2, rfl, d2, d4, c3.keep fun b hb => d2.keep b (c3.blk w hb) fun f => hs (by subst f; exact c4 _ hb), c4⟩
theorem mread_f (k : Nat) (hk : 1000000 < k) {h : H} (w : WF h) {s : Sl} {x : List UInt8} (r : SlR 1 h s (byt x)) :
    ∃ h', meta_ReadRoot.f k s h = some (((resR x).tup, if okR x then 0 else 2), h') ∧ Ch0 h h' := by
  unfold meta_ReadRoot.f
  rw [show [Value.int .i64 (0 : Int), Value.int .i64 0, Value.int .i64 0, Value.int .i64 0] = rtV 0 0 0 0 from rfl]
  obtain ⟨z1, z2, z3⟩ := newR_ok w 46 4 (rtV 0 0 0 0)
  generalize newR h 46 4 (rtV 0 0 0 0) = g0 at z1 z2 z3 ⊢
  rw [show [Value.slice s.a s.n s.c] = [slv s] from rfl]
  obtain ⟨y1, y2, y3⟩ := newR_ok z1.wf 105 1 [slv s]
  generalize newR g0 105 1 [slv s] = g2 at y1 y2 y3 ⊢
  have c2 : Ch0 h g2 := z1.then y1
  have rb : h.next ≤ g0.next := z1.le
  have ns : ¬ SlB s g0.next := fun f => by have := r.blk w f; omega
  obtain ⟨s2, g3, b1, b2, b3, b4, b5⟩ := mnumber_f k (by omega) c2.wf y3 (r.stay w c2) ns 6 (by decide) 6 rfl
  rw [b1]
  simp only [Option.bind_some]
  have c3 := Ch0.at c2 b2 rb
  obtain ⟨s3, g4, d1, d2, d3, d4, d5⟩ := mnumber_f k (by omega) c3.wf b3 b4 (fun f => ns (b5 _ f)) 1 (by decide) 1 rfl
  rw [d1]
  simp only [Option.bind_some]
  have c4 := Ch0.at c3 d2 rb
  obtain ⟨s4, g5, e1, e2, e3, e4, e5⟩ := mnumber_f k (by omega) c4.wf d3 d4 (fun f => ns (b5 _ (d5 _ f))) 2 (by decide) 2 rfl
  rw [e1]
  simp only [Option.bind_some]
  have c5 := Ch0.at c4 e2 rb
  obtain ⟨s5, g6, f1, f2, f3, f4, f5⟩ := mnumber_f k (by omega) c5.wf e3 e4 (fun f => ns (b5 _ (d5 _ (e5 _ f)))) 4 (by decide) 4 rfl
  rw [f1]
  simp only [Option.bind_some]
  have c6 := Ch0.at c5 f2 rb
  have hv : [Value.int .i64 (Int.ofNat (unbe (x.take 6))), Value.int .i64 (Int.ofNat (unbe ((x.drop 6).take 1))), Value.int .i64 (Int.ofNat (unbe (((x.drop 6).drop 1).take 2))), Value.int .i64 (Int.ofNat (unbe ((((x.drop 6).drop 1).drop 2).take 4)))] = (parseR x).vs := by
    unfold parseR Rt.vs rtV cutL
    simp only [List.drop_drop, List.drop_zero]
  rw [hv]
  generalize hQ : parseR x = Q
  obtain ⟨g7, p1, p2, p3, p4⟩ := box_ok c6.wf 46 4 (rtV 0 0 0 0) Q.vs rfl rfl rfl
  rw [p1]
  simp only [Option.bind_some]
  have c7 := c6.then p2
  rw [show Q.vs = rtV Q.vr Q.cp Q.ln Q.sm from rfl] at p4
  rw [Is.rt p4, bindRt]
  dsimp only
  obtain ⟨s8, g8, w1, w2, w3, w4⟩ := mlay_f k (by omega) p2.wf Q
  rw [show ((Q.vr, Q.cp, Q.ln, Q.sm) : RtT) = Q.tup from rfl, w1]
  simp only [Option.bind_some]
  have c8 := c7.then w2
  have Z := (((((((z3.stay z1.wf y1).keep (b2.keep h.next (by have := y1.le; omega) (by omega))).keep (d2.keep h.next (by have := y1.le; have := b2.le; omega) (by omega))).keep (e2.keep h.next (by have := y1.le; have := b2.le; have := d2.le; omega) (by omega))).keep (f2.keep h.next (by have := y1.le; have := b2.le; have := d2.le; have := e2.le; omega) (by omega))).stay c6.wf p2).stay p2.wf w2)
  have hok : okR x = (Q.right && decide (layR Q = x)) := by unfold okR; rw [hQ]
  have G : ((cond ((if Q.right then (0 : Int) else 1) != (0 : Int)) (some (true, g8))
      ((slices_Equal_byte_byte.f k s8 s g8).bind fun q8 =>
    some (!q8.1, q8.2))) : Option (Bool × H)) = some (!okR x, g8) := by
    rw [hok]
    cases hr : Q.right with
    | false => rfl
    | true =>
      rw [hr, if_pos rfl] at w3
      rw [show ((if true = true then (0 : Int) else 1) != (0 : Int)) = false from rfl, cond_false, equal_f k w3.slr (r.stay w c8) (by rw [layR_len]; omega) (by rw [layR_len]; omega)]
      rfl
  rw [G]
  simp only [Option.bind_some]
  unfold resR
  cases ho : okR x with
  | false =>
    simp only [Bool.not_false, cond_true]
    obtain ⟨g12, x1, x2, x3, x4⟩ := Is.whole c8.wf Z rfl (rtV 0 0 0 0) rfl rfl
    rw [x1]
    simp only [Option.bind_some]
    rw [Is.rt x4, bindRt]
    exact ⟨g12, rfl, Ch0.at c8 x2 (Nat.le_refl _)⟩
  | true =>
    simp only [Bool.not_true, cond_false]
    rw [Is.rt (p4.stay p2.wf w2), bindRt]
    dsimp only
    obtain ⟨g12, x1, x2, x3, x4⟩ := Is.whole c8.wf Z rfl (rtV Q.vr Q.cp Q.ln Q.sm) rfl rfl
    rw [show [Value.int .i64 Q.vr, Value.int .i64 Q.cp, Value.int .i64 Q.ln, Value.int .i64 Q.sm] = rtV Q.vr Q.cp Q.ln Q.sm from rfl, x1]
    simp only [Option.bind_some]
    rw [Is.rt x4, bindRt, hQ]
    exact ⟨g12, rfl, Ch0.at c8 x2 (Nat.le_refl _)⟩
theorem rread_f (k : Nat) (hk : 1000000 < k) {h : H} (w : WF h) {s : Sl} {x : List UInt8} (r : SlR 1 h s (byt x)) :
    ∃ h', corbelref16_ReadRoot.f k s h = some (((resR x).tup, okR x), h') ∧ Ch0 h h' := by
  unfold corbelref16_ReadRoot.f
  rw [show [Value.int .i64 (0 : Int), Value.int .i64 0, Value.int .i64 0, Value.int .i64 0] = rtV 0 0 0 0 from rfl]
  rw [r.n_byt]
  by_cases c : x.length = 128
  rotate_left
  · have e : (Int.ofNat x.length != (128 : Int)) = true := by
      simp only [bne_iff_ne, ne_eq]
      intro f; exact c (Int.ofNat.inj f)
    rw [e, cond_true]
    have ho : okR x = false := by
      unfold okR
      rw [decide_eq_false, Bool.and_false]
      intro f; exact c (by rw [← f, layR_len])
    obtain ⟨h1, a1, a2, a3, a4⟩ := box_ok w 46 4 (rtV 0 0 0 0) (rtV 0 0 0 0) rfl rfl rfl
    rw [a1]
    simp only [Option.bind_some]
    rw [Is.rt a4, bindRt]
    unfold resR
    rw [ho]
    exact ⟨h1, rfl, a2⟩
  · rw [c, show (Int.ofNat 128 != (128 : Int)) = false from rfl, cond_false, ← c]
    obtain ⟨z1, z2, z3⟩ := newR_ok w 46 4 (rtV 0 0 0 0)
    generalize newR h 46 4 (rtV 0 0 0 0) = g0 at z1 z2 z3 ⊢
    obtain ⟨b6, o6, a1, a2, a3⟩ := byte_at r w z1 (j := 6) (by omega)
    rw [r.n_byt] at a1
    have r0 := r.stay w z1
    rw [show (some (6 : Int)) = some (Int.ofNat 6) from rfl, show (some (9 : Int)) = some (Int.ofNat 9) from rfl, show (some (13 : Int)) = some (Int.ofNat 13) from rfl]
    have F := fun {xlo : Option Int} (lo hi : Nat) (h1 : lo ≤ hi) (h2 : hi ≤ 13) (h3 : hi - lo ≤ 7) (hlo : bnd xlo 0 = some lo) {β : Type} (f : Int × H → Option β) => from_at k (by omega) r0 z1.wf (Ch.refl z1.wf) lo hi h1 (by omega) h3 f hlo
    rw [r.n_byt] at F
    rw [F (xlo := none) 0 6 (by decide) (by decide) (by decide) rfl]
    dsimp only
    rw [show (6 : Int) = Int.ofNat 6 from rfl, a1]
    simp only [asP_ptr, Option.bind_some, a2, asI_int]
    rw [F (xlo := some (7 : Int)) 7 9 (by decide) (by decide) (by decide) rfl]
    rw [F (xlo := some (Int.ofNat 9)) 9 13 (by decide) (by decide) (by decide) rfl]
    dsimp only
    have q6 : unbe (cutL x 6 (6 + 1)) < 256 := unbe_lt (cutL_len (by omega)) (by decide)
    rw [wrap_in (n := Int.ofNat (unbe (cutL x 6 (6 + 1)))) (by simp only [Int.ofNat_eq_natCast]; omega) (by simp only [Int.ofNat_eq_natCast]; omega)]
    generalize hQ : parseR x = Q
    have hv : [Value.int .i64 (Int.ofNat (unbe (cutL x 0 6))), Value.int .i64 (Int.ofNat (unbe (cutL x 6 (6 + 1)))), Value.int .i64 (Int.ofNat (unbe (cutL x 7 9))), Value.int .i64 (Int.ofNat (unbe (cutL x 9 13)))] = rtV Q.vr Q.cp Q.ln Q.sm := by rw [← hQ]; rfl
    rw [hv]
    obtain ⟨g3, p1, p2, p3, p4⟩ := box_ok z1.wf 46 4 (rtV 0 0 0 0) (rtV Q.vr Q.cp Q.ln Q.sm) rfl rfl rfl
    rw [p1]
    simp only [Option.bind_some]
    rw [show same1 g0 g0 (some (Value.pointer (some ⟨b6, o6, none⟩))) = true from same1_of rfl]
    simp only [Bool.and_self, cond_true]
    rw [Is.rt p4, bindRt]
    dsimp only
    obtain ⟨sl, g4, u1, u2, u3, u4⟩ := rlay_f k (by omega) p2.wf Q
    rw [show ((Q.vr, Q.cp, Q.ln, Q.sm) : RtT) = Q.tup from rfl, u1]
    simp only [Option.bind_some]
    have c3 := z1.then p2
    have c4 := c3.then u2
    have Z := (z3.stay z1.wf p2).stay p2.wf u2
    have hok : okR x = (Q.right && decide (layR Q = x)) := by unfold okR; rw [hQ]
    have G : ((cond (!Q.right) (some (true, g4))
      ((asT (txt g4 (Value.slice sl.a sl.n sl.c))).bind fun s14 =>
    (asT (txt g4 (Value.slice s.a x.length s.c))).bind fun s15 =>
    some (!(s14.toList == s15.toList), g4))) : Option (Bool × H)) = some (!okR x, g4) := by
      rw [hok]
      cases hr : Q.right with
      | false => rfl
      | true =>
        rw [hr, if_pos rfl] at u3
        rw [Bool.not_true, cond_false, txt_sl u3.slr, ← r.n_byt, txt_sl (r.stay w c4)]
        simp only [Option.bind_some, ba_eq]; rfl
    rw [G]
    simp only [Option.bind_some]
    unfold resR
    cases ho : okR x with
    | false =>
      simp only [Bool.not_false, cond_true]
      obtain ⟨g12, x1, x2, x3, x4⟩ := Is.whole c4.wf Z rfl (rtV 0 0 0 0) rfl rfl
      rw [x1]
      simp only [Option.bind_some]
      rw [Is.rt x4, bindRt]
      exact ⟨g12, rfl, Ch0.at c4 x2 (Nat.le_refl _)⟩
    | true =>
      simp only [Bool.not_true, cond_false]
      rw [Is.rt (p4.stay p2.wf u2), bindRt]
      dsimp only
      obtain ⟨g12, x1, x2, x3, x4⟩ := Is.whole c4.wf Z rfl (rtV Q.vr Q.cp Q.ln Q.sm) rfl rfl
      rw [show [Value.int .i64 Q.vr, Value.int .i64 Q.cp, Value.int .i64 Q.ln, Value.int .i64 Q.sm] = rtV Q.vr Q.cp Q.ln Q.sm from rfl, x1]
      simp only [Option.bind_some]
      rw [Is.rt x4, bindRt, hQ]
      exact ⟨g12, rfl, Ch0.at c4 x2 (Nat.le_refl _)⟩
theorem rootEq (a b c d : Int) : asB (binO1 Try.prog .eql 46 (Value.agg #[(Value.int .i64 a), (Value.int .i64 b), (Value.int .i64 c), (Value.int .i64 d)]) (Value.agg #[(Value.int .i64 a), (Value.int .i64 b), (Value.int .i64 c), (Value.int .i64 d)])) = some true := by
  have e : (Try.prog.stoodInHeld 46 || Try.prog.eqGuardType Try.prog.depth 46) = false := by kernel_rfl
  have f : isAggA Try.prog 3 = some false := by kernel_rfl
  unfold binO1 binB eqS
  rw [Try.underlying46, e]
  simp [fieldsEq, partA, eqL, Try.underlying3, asB, f]
end Go.Proofs.Ytfenkpghcbohdaa.Fw
