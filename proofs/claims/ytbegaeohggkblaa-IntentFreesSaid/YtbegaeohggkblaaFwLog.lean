/- A ring of intents: logged, released. No condition. -/
import Derived.Test.YtbegaeohggkblaaFwRing
namespace Go.Proofs.Ytbegaeohggkblaa.Fw
open Go Den Fwd
set_option linter.unusedVariables false
set_option linter.unusedSimpArgs false
theorem ibytes_f (k : Nat) (hk : 1000 < k) (n : Nat) {h : H} (w : WF h) (m : Int) (hm : m = Int.ofNat n) :
    ∃ s' h', intent_bytes.f k m h = some (s', h') ∧ Ch0 h h' ∧ Ow 5 1 h' s' (byt (beN n 6)) ∧ ∀ b, SlB s' b → h.next ≤ b := by
  subst hm
  unfold intent_bytes.f
  obtain ⟨a, h', e1, e2, e3, e4⟩ := cbytes_l0 k n (h0 := h) k 6 h ⟨none, 0, 0⟩ [] (by omega) (by decide) (by show 0 + 6 ≤ 1000; omega) (Ch.refl w) Ow.nil fun b hb => by obtain ⟨o, q⟩ := hb; cases q
  rw [show (Int.ofNat 6 - 1 : Int) = 5 from rfl] at e1
  rw [e1]
  exact ⟨a, h', rfl, e2, e3, e4⟩
theorem ring_sub (rb : Nat) : asS (subp 16 5 (some ⟨rb, 1, none⟩) none none) = some (⟨some ⟨rb, 1, none⟩, 16, 16⟩ : Sl) := by
  show asS (cond (Nat.ble 0 16 && Nat.ble 16 16 && Nat.blt 16 unk) (some (.slice (some ⟨rb, cond (Nat.beq 16 0) 1 (1 + 0 * 5), none⟩) (16 - 0) (16 - 0))) none) = _
  rw [cond_eta _ _ _ (by
    rw [Bool.and_eq_true, Bool.and_eq_true]
    exact ⟨⟨rfl, rfl⟩, Nat.ble_eq_true_of_le (by unfold unk; omega)⟩)]
  rfl
/-- a slot is set -/
theorem RingR.setSlot {h : H} (w : WF h) {rb p : Nat} {ss : List Sd} {next : Int} (I : Is h rb 99 82 (ringV p ss next)) {j : Nat} (hj : j < ss.length) (q : Sd) :
    ∃ h', stv 5 h (some ⟨rb, 1 + j * 5, none⟩) (scL q.1) = some (undef, h') ∧ Ch (fun b => b = rb) h h' ∧ Is h' rb 99 82 (ringV p (ss.set j q) next) := by
  obtain ⟨h', a1, a2, a3, a4⟩ := Is.grpSet w (pre := [.pointer (some ⟨p, 0, none⟩)]) (post := [.int .i64 next]) I (ringG_es ss) (i := j) (by rw [ringG_len]; exact hj) (scL q.1) rfl rfl
  refine ⟨h', a1, a2, ?_⟩
  unfold ringV
  rw [show ringG (ss.set j q) = (ringG ss).set j (scL q.1) from List.map_set]
  exact a4
theorem RingR.setNext {h : H} (w : WF h) {rb p : Nat} {ss : List Sd} {next : Int} (I : Is h rb 99 82 (ringV p ss next)) (hl : ss.length = 16) (v : Int) :
    ∃ h', stv 1 h (some ⟨rb, 81, none⟩) [.int .i64 v] = some (undef, h') ∧ Ch (fun b => b = rb) h h' ∧ Is h' rb 99 82 (ringV p ss v) := by
  obtain ⟨h', a1, a2, a3, a4⟩ := I.set w 81 (.int .i64 v) (by rw [ringV_len p hl]; decide) rfl
  refine ⟨h', a1, a2, ?_⟩
  have : (ringV p ss next).set 81 (.int .i64 v) = ringV p ss v := by
    unfold ringV
    have fl := flat_len (ringG_es ss)
    rw [ringG_len, hl] at fl
    rw [List.set_append_right _ _ (by rw [List.length_append, fl]; show 1 + 16 * 5 ≤ 81; omega), List.length_append, fl]; rfl
  rw [← this]; exact a4
theorem ringV_p (p : Nat) (ss : List Sd) (next : Int) : (ringV p ss next)[0]? = some (.pointer (some ⟨p, 0, none⟩)) := rfl
/-- an intent is logged where there is room -/
theorem log_f (k : Nat) (hk : 1000 < k) {h : H} (w : WF h) {rb : Nat} {W : Nat → Prop} {ss : List Sd} {next : Int} (R : RingR h rb W ss next) (c : It) {x : List UInt8} (X : SlR 1 h c.2.2 (byt x)) (hx : x.length = 128) (hX : ∀ b, SlB c.2.2 b → ¬ W b) (s0 : 0 ≤ c.1) (s1 : c.1 < 40) (g0 : 1 ≤ c.2.1) (g1 : c.2.1 ≤ 1000) (n0 : 1 ≤ next) (n1 : next ≤ 100000) (hno : ∀ q ∈ ss, q.1.1 = true → ¬ (q.1.2.2.1 = c.1 ∧ q.1.2.2.2.1 = c.2.1)) (hd : ∃ q ∈ ss, q.1.1 = false) :
    ∃ j W' s' h', intent_Ring_Log.f k (some ⟨rb, 0, none⟩) (c.1, c.2.1, c.2.2) h = some (0, h') ∧ (∃ hj : j < ss.length, ss[j].1.1 = false) ∧ Ch W h h' ∧ RingR h' rb W' (ss.set j ((true, next, c.1, c.2.1, s'), x)) (next + 1) ∧ ∀ b, W' b → W b ∨ h.next ≤ b := by
  unfold intent_Ring_Log.f
  dsimp only
  rw [show [Value.int .i64 c.1, Value.int .i64 c.2.1, Value.slice c.2.2.a c.2.2.n c.2.2.c] = itL c from rfl]
  obtain ⟨y1, y2, y3⟩ := newR_ok w 75 3 (itL c)
  generalize newR h 75 3 (itL c) = h1 at y1 y2 y3 ⊢
  rw [ldaIs (n := 3) y3 rfl, bindIt]
  dsimp only
  have hib : ¬ W h.next := fun f => by have := R.wlt _ f; omega
  obtain ⟨h2, a1, a2⟩ := iright_f k y1.wf c s0 s1 g0 (by omega) (by rw [X.n_byt, hx])
  rw [a1]
  simp only [Option.bind_some, Bool.not_true, cond_false, nilA, asP_ptr, fadd, Nat.zero_add]
  rw [ring_sub]
  simp only [Option.bind_some]
  have c2 := y1.then a2
  have R2 := R.stay c2
  have I2 := y3.stay y1.wf a2
  obtain ⟨h3, b1, b2⟩ := cont_l0 k hk a2.wf R2 I2 (X.stay w c2) hno k 0 h2 (by omega) (by omega) (Ch.refl a2.wf)
  unfold slices_ContainsFunc_intent_slot_intent_slot_intent_Ring_Log_1.f slices_IndexFunc_intent_slot_intent_slot_intent_Ring_Log_1.f
  dsimp only
  rw [show (0 : Int) = Int.ofNat 0 from rfl, b1]
  simp only [Option.bind_some]
  rw [show decide ((-1 : Int) ≥ Int.ofNat 0) = false from rfl]
  simp only [cond_false]
  have c3 := c2.then b2
  have R3 := R.stay c3
  obtain ⟨v, h4, d1, d2, d3⟩ := dead_l0 k b2.wf R3 k 0 h3 (by omega) (by omega) (Ch.refl b2.wf) (fun j hj f => by omega)
  unfold slices_IndexFunc_intent_slot_intent_slot_intent_Ring_Log_2.f
  dsimp only
  rw [show (0 : Int) = Int.ofNat 0 from rfl, d1]
  rcases d3 with ⟨j, rfl, hj, hdj⟩ | ⟨_, hall⟩
  rotate_left
  · obtain ⟨q, hq, e⟩ := hd
    rw [hall q hq] at e
    cases e
  simp only [Option.bind_some]
  have hj16 : j < 16 := by have := R.len; omega
  rw [show decide (Int.ofNat j < Int.ofNat 0) = false from decide_eq_false (by simp only [Int.ofNat_eq_natCast]; omega)]
  simp only [cond_false]
  have c4 := c3.then d2
  have R4 := R.stay c4
  rw [R4.nx]
  simp only [Option.bind_some]
  rw [decide_eq_false (show ¬ next > 281474976710655 by omega)]
  simp only [cond_false]
  rw [R4.nx]
  simp only [Option.bind_some]
  have I4 : Is h4 h.next 75 3 (itL c) := I2.stay a2.wf (b2.then d2)
  obtain ⟨q18, h5, e1, e2, e3, e4⟩ := ibytes_f k hk next.toNat d2.wf next (nn _ (by omega))
  rw [e1]
  simp only [Option.bind_some]
  have I5 := I4.stay d2.wf e2
  rw [I5.ldc, show asI .i64 ((itL c)[0]?) = some c.1 from asI_int _ _]
  simp only [Option.bind_some]
  rw [wrap_u8]
  rw [show [Value.int .u8 (Int.ofNat (u8 c.1).toNat)] = byt [u8 c.1] from rfl]
  obtain ⟨z1, z2, z3⟩ := newR_ok e2.wf 5 1 (byt [u8 c.1])
  generalize newR h5 5 1 (byt [u8 c.1]) = h6 at z1 z2 z3 ⊢
  have I6 := I5.stay e2.wf z1
  rw [I6.ldc, show asI .i64 ((itL c)[1]?) = some c.2.1 from asI_int _ _]
  simp only [Option.bind_some]
  obtain ⟨q21, h7, f1, f2, f3, f4⟩ := ibytes_f k hk c.2.1.toNat z1.wf c.2.1 (nn _ (by omega))
  rw [f1]
  simp only [Option.bind_some]
  have I7 := I6.stay z1.wf f2
  rw [I7.ldc, show asS ((itL c)[2]?) = some c.2.2 from asS_slv _]
  simp only [Option.bind_some]
  have c47 := (e2.then z1).then f2
  let ps : Parts := [(q18, beN next.toNat 6), (⟨some ⟨h5.next, 0, none⟩, 1, 1⟩, [u8 c.1]), (q21, beN c.2.1.toNat 6), (c.2.2, x)]
  rw [show [Value.slice q18.a q18.n q18.c, Value.slice (some ⟨h5.next, 0, none⟩) 1 1, Value.slice q21.a q21.n q21.c, Value.slice c.2.2.a c.2.2.n c.2.2.c] = ps.map fun p => slv p.1 from rfl]
  obtain ⟨u1, u2, u3⟩ := newR_ok f2.wf 22 1 (ps.map fun p => slv p.1)
  have hps : PartsR h7 ps := by
    intro q hq
    simp only [ps, List.mem_cons, List.not_mem_nil, or_false] at hq
    rcases hq with rfl | rfl | rfl | rfl
    · exact e3.slr.stay e2.wf (z1.then f2)
    · exact (SlR.of_is z3 (n := 1) rfl (by unfold unk; omega)).stay z1.wf f2
    · exact f3.slr
    · exact X.stay w (c4.then c47)
  obtain ⟨q23, h8, v1, v2, v3, v4⟩ := concat_f k hk u1.wf (ps := ps) (SlR.of_is u3 (n := 4) rfl (by unfold unk; omega)) (hps.stay f2.wf u1) (by show 4 < 1000; decide) (by
    show (beN next.toNat 6).length + (1 + ((beN c.2.1.toNat 6).length + (x.length + 0))) ≤ _
    simp only [beN_len]; omega)
  rw [v1]
  simp only [Option.bind_some]
  have jl : (joined ps).length = 141 := by
    rw [joined_len]
    show (beN next.toNat 6).length + (1 + ((beN c.2.1.toNat 6).length + (x.length + 0))) = _
    simp only [beN_len]; omega
  obtain ⟨s9, x9, h9, i1, i2, i3, i4⟩ := iseal_f k hk v2.wf v3.slr jl
  rw [i1]
  simp only [Option.bind_some]
  have c79 := (u1.then v2).then i2
  have c9 := (c4.then c47).then c79
  have ib4 : h.next < h4.next := by have := c4.le; have := (b2.then d2).le; have := a2.le; omega
  rw [same1_of (e2.keep h.next ib4 fun f => f), same1_of (f2.keep h.next (by have := e2.le; have := z1.le; omega) fun f => f), same1_of (e2.keep h.next ib4 fun f => f), same1_of (e2.keep h.next ib4 fun f => f), same1_of (f2.keep h.next (by have := e2.le; have := z1.le; omega) fun f => f)]
  simp only [Bool.and_self, cond_true]
  have R9 := R.stay c9
  obtain ⟨p, M, C, st, r1, r2, r3, r4, r5, r6, r7, r8, r9, r10⟩ := R9.ex
  rw [r1.ldc, ringV_p]
  simp only [asP_ptr, Option.bind_some]
  unfold intent_block.f
  rw [wrap_in (n := (80 : Int) + Int.ofNat j) (by simp only [Int.ofNat_eq_natCast]; omega) (by simp only [Int.ofNat_eq_natCast]; omega), show (80 : Int) + Int.ofNat j = Int.ofNat (80 + j) from rfl]
  simp only [Option.bind_some]
  obtain ⟨h10, M', C', j1, j2, j3, j4, j5⟩ := write_f k i2.wf r2 (i := 80 + j) (by omega) i3 i4 (by omega) (by omega)
  rw [j1]
  simp only [Option.bind_some, same1_refl, Bool.and_self, cond_true]
  have W10 : Ch W h9 h10 := j2.mono fun b _ hb => r8 b hb
  have I9 : Is h9 h.next 75 3 (itL c) := I7.stay f2.wf c79
  have ib9 := I9.lt i2.wf
  have I10 : Is h10 h.next 75 3 (itL c) := I9.keep (j2.keep h.next ib9 fun f => hib (r8 _ f))
  have X10 : SlR 1 h10 c.2.2 (byt x) := (X.stay w c9).keep fun b hb => j2.keep b (by have := X.blk w hb; have := c9.le; omega) fun f => hX b hb (r8 _ f)
  rw [I10.ldc, show asS ((itL c)[2]?) = some c.2.2 from asS_slv _]
  simp only [Option.bind_some]
  obtain ⟨s', h11, k1, k2, k3, k4, k5⟩ := clone_f k j2.wf X10 (by omega)
  rw [k1]
  simp only [Option.bind_some]
  have hs' : ∀ b, SlB s' b → h10.next ≤ b ∧ b < h11.next := k5
  have I11 := I10.stay j2.wf k2
  obtain ⟨h12, l1, l2, l3, l4⟩ := I11.set k2.wf 2 (slv s') (by show 2 < 3; decide) rfl
  rw [show [Value.slice s'.a s'.n s'.c] = [slv s'] from rfl, l1]
  simp only [Option.bind_some]
  have r1' : Is h10 rb 99 82 (ringV p ss next) := r1.keep (j2.keep rb (r1.lt i2.wf) r6)
  have nrb : rb ≠ h.next := fun f => hib (by rw [← f]; exact R.wrb)
  have r12 : Is h12 rb 99 82 (ringV p ss next) := (r1'.stay j2.wf k2).keep (l2.keep rb (by have := r1'.lt j2.wf; have := k2.le; omega) nrb)
  rw [r12.ldc, ringV_next p R.len, asI_int]
  simp only [Option.bind_some]
  rw [show (itL c).set 2 (slv s') = itL (c.1, c.2.1, s') from rfl] at l4
  rw [ldaIs (n := 3) l4 rfl, bindIt]
  dsimp only
  rw [ixsG hj16]
  simp only [asP_ptr, Option.bind_some]
  obtain ⟨h13, m1, m2, m3⟩ := RingR.setSlot l2.wf r12 hj ((true, next, c.1, c.2.1, s'), x)
  rw [show [Value.bool true, Value.int .i64 next, Value.int .i64 c.1, Value.int .i64 c.2.1, Value.slice s'.a s'.n s'.c] = scL (true, next, c.1, c.2.1, s') from rfl, m1]
  simp only [Option.bind_some]
  rw [m3.ldc, ringV_next p (by rw [List.length_set]; exact R.len), asI_int]
  simp only [Option.bind_some]
  rw [wrap_in (n := next + 1) (by omega) (by omega)]
  obtain ⟨h14, o1, o2, o3⟩ := RingR.setNext m2.wf m3 (by rw [List.length_set]; exact R.len) (next + 1)
  rw [o1]
  simp only [Option.bind_some]
  -- the frame
  have w9 := i2.wf
  have l9 := c9.le
  have l10 := j2.le
  have l11 := k2.le
  have l12 := l2.le
  have l13 := m2.le
  have l14 := o2.le
  have ibh : h.next ≤ h.next := Nat.le_refl _
  have D1 : Ch W h h10 := (c9.mono fun _ _ f => f.elim).trans W10 fun _ _ f => f
  have D2 : Ch W h h12 := (D1.trans k2 fun _ _ f => f.elim).trans l2 fun b hb f => by omega
  have D3 : Ch W h h14 := (D2.trans m2 fun b hb f => by rw [f]; exact R.wrb).trans o2 fun b hb f => by rw [f]; exact R.wrb
  have E : Ch (fun b => b = rb ∨ b = h.next) h10 h14 := (((k2.mono fun _ _ f => f.elim).trans l2 fun b hb f => .inr f).trans m2 fun b hb f => .inl f).trans o2 fun b hb f => .inl f
  have nrbM : ¬ M' rb := fun f => by
    rcases j4 rb f with g | g
    · exact r6 g
    · have := r1.lt w9; omega
  have nrbC : ¬ C' rb := fun f => by
    rcases j5 rb f with g | g
    · exact r7 g
    · have := r1.lt w9; omega
  have nibM : ¬ M' h.next := fun f => by
    rcases j4 _ f with g | g
    · exact hib (r8 _ g)
    · omega
  have nibC : ¬ C' h.next := fun f => by
    rcases j5 _ f with g | g
    · exact hib (r9 _ g)
    · omega
  have P14 := j3.keep E fun b f => by
    rcases f with f | f
    · rw [f]; exact ⟨nrbM, nrbC⟩
    · rw [f]; exact ⟨nibM, nibC⟩
  have ms : ∀ q ∈ ss.set j ((true, next, c.1, c.2.1, s'), x), q ∈ ss ∨ q = ((true, next, c.1, c.2.1, s'), x) := fun q hq => List.mem_or_eq_of_mem_set hq
  refine ⟨j, fun b => W b ∨ M' b ∨ C' b ∨ SlB s' b, s', h14, rfl, ⟨hj, hdj⟩, D3, ⟨⟨p, M', C', _, o3, P14, by rw [List.length_set]; exact r3, ?_, ?_, nrbM, nrbC, fun b hb => .inr (.inl hb), fun b hb => .inr (.inr (.inl hb)), ?_⟩, by rw [List.length_set]; exact R.len, ?_, .inl R.wrb, ?_⟩, ?_⟩
  · rw [List.length_append]
    simp only [List.length_cons, List.length_nil]
    omega
  · show st.writes + 1 + 1 = next + 1
    omega
  · intro q hq b hb
    rcases ms q hq with e | e
    · obtain ⟨t1, t2, t3⟩ := r10 q e b hb
      refine ⟨fun f => ?_, t2, .inl t3⟩
      rcases j4 b f with g | g
      · exact t1 g
      · have := R9.wlt b t3; omega
    · rw [e] at hb
      have hb : SlB s' b := hb
      have := hs' b hb
      refine ⟨fun f => ?_, ?_, .inr (.inr (.inr hb))⟩
      · have := j3.mlt b f; omega
      · intro f
        have := r1'.lt j2.wf
        omega
  · intro q hq
    rcases ms q hq with e | e
    · obtain ⟨t1, t2⟩ := R9.dat q e
      refine ⟨t1.keep fun b hb => ?_, t2⟩
      obtain ⟨t3, t4, t5⟩ := r10 q e b hb
      have hb9 := R9.wlt b t5
      rw [E.keep b (by omega) fun f => by
        rcases f with f | f
        · exact t4 f
        · exact hib (by rw [← f]; exact t5)]
      exact j2.keep b hb9 t3
    · rw [e]
      refine ⟨?_, by show x.length ≤ 128; omega⟩
      have E2 : Ch (fun b => b = rb ∨ b = h.next) h11 h14 := ((l2.mono fun b _ f => .inr f).trans m2 fun b hb f => .inl f).trans o2 fun b hb f => .inl f
      exact k3.slr.keep fun b hb => E2.keep b (hs' b hb).2 fun f => by
        have := hs' b hb
        rcases f with f | f
        · have := r1'.lt j2.wf; omega
        · omega
  · intro b hb
    rcases hb with f | f | f | f
    · have := R.wlt b f; omega
    · have := j3.mlt b f; omega
    · have := j3.clt b f; omega
    · have := hs' b f; omega
  · intro b hb
    rcases hb with f | f | f | f
    · exact .inl f
    · rcases j4 b f with g | g
      · exact .inl (r8 b g)
      · exact .inr (by omega)
    · rcases j5 b f with g | g
      · exact .inl (r9 b g)
      · exact .inr (by omega)
    · have := hs' b f
      exact .inr (by omega)
end Go.Proofs.Ytbegaeohggkblaa.Fw
