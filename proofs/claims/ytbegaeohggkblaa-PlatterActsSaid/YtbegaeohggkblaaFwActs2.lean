/- PlatterActs: what is left of the parts. No condition. -/
import Derived.Test.YtbegaeohggkblaaFwActs
namespace Go.Proofs.Ytbegaeohggkblaa.Fw
open Go Den Fwd
set_option linter.unusedVariables false
set_option linter.unusedSimpArgs false
/-- the wiped platter -/
theorem wipe_f (k : Nat) (hk : 1000 < k) {h : H} (w : WF h) {p : Nat} {M C : Nat → Prop} {st : Plat} (r : PlatR h p M C st) (hb : st.now.length ≤ 1000) :
    ∃ h' M' C', platter_Platter_Wipe.f k (some ⟨p, 0, none⟩) h = some ((), h') ∧ Ch M h h' ∧ PlatR h' p M' C' ⟨List.replicate st.now.length zeros160, List.replicate st.now.length zeros160, [], st.writes⟩ ∧ (∀ b, M' b → M b ∨ h.next ≤ b) ∧ (∀ b, C' b → C b ∨ h.next ≤ b) := by
  obtain ⟨sD0, sN0, sQ0, lD0, lN0, lQ0, b1, b2, b3, b4, b5, b6, b7, b8, b9, b10, b11, b12, b13, b14⟩ := r.ex
  unfold platter_Platter_Wipe.f
  simp only [nilA, asP_ptr, Option.bind_some, fadd, b1.ldc]
  simp only [Nat.zero_add, List.getElem?_cons_succ, List.getElem?_cons_zero, asS_slv, Option.bind_some]
  have hn : sN0.n = st.now.length := by have := b3.slr.len; have := b6.1; omega
  rw [hn]
  generalize hNN : st.now.length = N at hb
  obtain ⟨sD, h1, lD, CD, c1, a2⟩ := blank_f k hk N hb w
  rw [c1]
  have hp1 := b1.stay w a2.ch
  simp only [Option.bind_some, hp1.ldc]
  simp only [Nat.zero_add, List.getElem?_cons_succ, List.getElem?_cons_zero, asS_slv, Option.bind_some]
  rw [hn, hNN]
  obtain ⟨sN, h2, lN, CN, d1, d2⟩ := blank_f k hk N hb a2.ch.wf
  rw [d1]
  simp only [Option.bind_some]
  have hp2 := hp1.stay a2.ch.wf d2.ch
  obtain ⟨h3, e1, e2, e3, e4⟩ := hp2.set d2.ch.wf 0 (slv sD) (by show 0 < 4; decide) rfl
  rw [show [Value.slice sD.a sD.n sD.c] = [slv sD] from rfl, e1]
  simp only [Option.bind_some]
  obtain ⟨h4, f1, f2, f3, f4⟩ := e4.set e2.wf 1 (slv sN) (by show 1 < 4; decide) rfl
  rw [show [Value.slice sN.a sN.n sN.c] = [slv sN] from rfl, f1]
  simp only [Option.bind_some]
  obtain ⟨h5, g1, g2, g3, g4⟩ := f4.set f2.wf 2 (slv ⟨none, 0, 0⟩) (by show 2 < 4; decide) rfl
  rw [show [Value.slice none 0 0] = [slv ⟨none, 0, 0⟩] from rfl, g1]
  simp only [Option.bind_some]
  have pl := r.mlt p b8
  have le1 := a2.ch.le
  have le2 := d2.ch.le
  have q1 : same1 h h1 (some (Value.pointer (some ⟨p, 1, none⟩))) = true := same1_of (a2.ch.keep p pl fun f => f)
  have q2 : same1 h h1 (some (Value.slice sN0.a st.now.length sN0.c)) = true := by
    obtain ⟨a, n, c⟩ := sN0
    unfold same1
    rcases a with _ | ⟨b, o, _ | s⟩
    · rfl
    · exact sameVer_of (a2.ch.keep b (r.mlt b (b10 b ⟨o, rfl⟩).1) fun f => f)
    · rfl
  rw [hNN] at q2
  have T25 : Ch (fun b => b = p) h2 h5 := (e2.trans f2 fun _ _ f => f).trans g2 fun _ _ f => f
  have T : Ch M h h5 := ((a2.ch.then d2.ch).mono fun _ _ f => f.elim).trans (T25.mono (G := M) fun b _ f => by subst f; exact b8) fun _ _ f => f
  have dlt : ∀ b, SlB sD b → b < h1.next := fun b hb => a2.ow.lt a2.ch.wf hb
  have nlt : ∀ b, SlB sN b → b < h2.next := fun b hb => d2.ow.lt d2.ch.wf hb
  have l5 := T25.le
  have k1 : ∀ b, h.next ≤ b → b < h1.next → h5.get b = h1.get b := fun b hh hb => (T25.keep b (by omega) (by omega)).trans (d2.ch.keep b hb fun f => f)
  have k2 : ∀ b, h.next ≤ b → b < h2.next → h5.get b = h2.get b := fun b hh hb => T25.keep b hb (by omega)
  have kD : ∀ b, CD b → h5.get b = h1.get b ∧ (C b ∨ CD b ∨ CN b) := fun b hb => ⟨k1 b (a2.cn b hb).1 (a2.cn b hb).2, .inr (.inl hb)⟩
  have kN : ∀ b, CN b → h5.get b = h2.get b ∧ (C b ∨ CD b ∨ CN b) := fun b hb => ⟨k2 b (by have := (d2.cn b hb).1; omega) (d2.cn b hb).2, .inr (.inr hb)⟩
  have newD := a2.new
  have newN : ∀ b, SlB sN b → h1.next ≤ b := d2.new
  simp only [q1, q2, Bool.and_self, cond_true]
  refine ⟨h5, fun b => M b ∨ SlB sD b ∨ SlB sN b, fun b => C b ∨ CD b ∨ CN b, rfl, T, ⟨⟨sD, sN, ⟨none, 0, 0⟩, lD, lN, [], g4, a2.ow.keep fun b hb => k1 b (newD b hb) (dlt b hb), d2.ow.keep fun b hb => k2 b (by have := newN b hb; omega) (nlt b hb), Ow.nil, a2.rows.keep kD, d2.rows.keep kN, ⟨rfl, fun i q h1 => by rw [List.getElem?_nil] at h1; cases h1⟩, .inl b8,
    fun b hb => ⟨.inr (.inl hb), by have := newD b hb; omega⟩, fun b hb => ⟨.inr (.inr hb), by have := newN b hb; omega⟩, fun b hb => (by obtain ⟨o, h1⟩ := hb; cases h1), fun b hb hn => ?_, fun b hb hn => (by obtain ⟨o, h1⟩ := hn; cases h1), fun b hb hn => (by obtain ⟨o, h1⟩ := hn; cases h1)⟩, ?_, ?_, ?_⟩, ?_, ?_⟩
  · have := dlt b hb; have := newN b hn; omega
  · intro b hb
    rcases hb with hb | hb | hb
    · have := r.mlt b hb; omega
    · have := dlt b hb; omega
    · have := nlt b hb; omega
  · intro b hb
    rcases hb with hb | hb | hb
    · have := r.clt b hb; omega
    · have := (a2.cn b hb).2; omega
    · have := (d2.cn b hb).2; omega
  · rintro b (hb | hb | hb) (hc | hc | hc)
    · exact r.dis b hb hc
    · have := (a2.cn _ hc).1; have := r.mlt b hb; omega
    · have := (d2.cn _ hc).1; have := r.mlt b hb; omega
    · have := newD b hb; have := r.clt b hc; omega
    · exact a2.dis b hc hb
    · have := dlt b hb; have := (d2.cn b hc).1; omega
    · have := newN b hb; have := r.clt b hc; omega
    · have := newN b hb; have := (a2.cn b hc).2; omega
    · exact d2.dis b hc hb
  · rintro b (hb | hb | hb)
    · exact .inl hb
    · exact .inr (newD b hb)
    · have := newN b hb; exact .inr (by omega)
  · rintro b (hb | hb | hb)
    · exact .inl hb
    · exact .inr (a2.cn b hb).1
    · have := (d2.cn b hb).1; exact .inr (by omega)
/-- no such block -/
theorem write_no (k : Nat) {h : H} {p : Nat} {M C : Nat → Prop} {st : Plat} (r : PlatR h p M C st) {i : Int} (hi : ¬ (0 ≤ i ∧ i < st.now.length)) (s : Sl) : platter_Platter_Write.f k (some ⟨p, 0, none⟩) i s h = some (false, h) := by
  unfold platter_Platter_Write.f
  rw [has_f k r, decide_eq_false hi]
  rfl
/-! ### the reference -/
theorem rnew_l0 (k : Nat) (N : Nat) (hN0 : 1 ≤ N) (hN : N ≤ 1000) {q : Nat} {h0 : H} (hq : h0.next = q + 1) : ∀ n j h sD, N - j < n → j ≤ N → Ch (fun b => b = q) h0 h → Is h q 65 3 [slv sD, slv ⟨none, 0, 0⟩, .int .i64 0] → Ow 9 1 h sD (strs (List.replicate j zeros160)) → (∀ b, SlB sD b → h0.next ≤ b) →
    ∃ h' sD', corbelref7_NewPlatter.l0 k n (Int.ofNat N) (some ⟨q, 0, none⟩) (Int.ofNat j) h = some ((), h') ∧ Ch (fun b => b = q) h0 h' ∧ Is h' q 65 3 [slv sD', slv ⟨none, 0, 0⟩, .int .i64 0] ∧ Ow 9 1 h' sD' (strs (List.replicate N zeros160)) ∧ (∀ b, SlB sD' b → h0.next ≤ b)
  | 0, j, h, sD, hn, _, _, _, _, _ => by omega
  | n + 1, j, h, sD, hn, hj, hc, I, ho, hb => by
    rw [corbelref7_NewPlatter.l0_succ]
    have hc2 : (cond (decide ((cond (decide (Int.ofNat N < (1000 : Int))) (Int.ofNat N) (1000 : Int)) > (1 : Int))) (cond (decide (Int.ofNat N < (1000 : Int))) (Int.ofNat N) (1000 : Int)) (1 : Int)) = Int.ofNat N := by
      have e : (cond (decide (Int.ofNat N < (1000 : Int))) (Int.ofNat N) (1000 : Int)) = Int.ofNat N := by
        by_cases c : N = 1000
        · subst c; rfl
        · rw [decide_eq_true (show Int.ofNat N < (1000 : Int) by simp only [Int.ofNat_eq_natCast]; omega), cond_true]
      rw [e]
      by_cases c : N = 1
      · subst c; rfl
      · rw [decide_eq_true (show Int.ofNat N > (1 : Int) by simp only [Int.ofNat_eq_natCast]; omega), cond_true]
    rw [hc2]
    by_cases c : j < N
    · rw [decide_eq_true (show Int.ofNat j < Int.ofNat N by simp; omega), cond_true]
      simp only [nilA, asP_ptr, Option.bind_some, fadd, I.ldc, List.getElem?_cons_zero, Nat.add_zero, asS_slv]
      obtain ⟨z1, z2, z3⟩ := zeroStr hc.wf
      rw [z3]
      simp only [Option.bind_some]
      obtain ⟨y1, y2, y3⟩ := newR_ok z1.wf 9 1 [Value.string (ba zeros160)]
      have hsn : sD.n = j := by have := ho.slr.len; rw [strs_len, List.length_replicate] at this; omega
      obtain ⟨s', h', e1, e2, e3, e4, e5⟩ := apv_ok (by_ := 16) y1.wf ((ho.stay hc.wf z1).stay z1.wf y1) (by decide) (SlR.of_is y3 (n := 1) rfl (by unfold unk; omega)) (by rw [hsn]; show (j + 1) * 16 ≤ _; omega) rfl
      rw [e1]
      simp only [Option.bind_some]
      have lz := z1.le
      have ly := y1.le
      have l0 := hc.le
      have f' : ∀ b, SlB s' b → h0.next ≤ b := fun b hb' => (e5 b hb').elim (hb b) fun f => by omega
      have I' := ((I.stay hc.wf z1).stay z1.wf y1).keep (e2.keep q (by have := I.lt hc.wf; omega) fun f => by have := hb q f; omega)
      obtain ⟨h2, b1, b2, b3, b4⟩ := I'.set e2.wf 0 (slv s') (by show 0 < 3; decide) rfl
      rw [show [Value.slice s'.a s'.n s'.c] = [slv s'] from rfl, b1]
      simp only [Option.bind_some]
      rw [wrap_succ (by omega)]
      have es : strs (List.replicate j zeros160) ++ [Value.string (ba zeros160)] = strs (List.replicate (j + 1) zeros160) := by
        rw [List.replicate_succ']; unfold strs; simp
      rw [es] at e3
      have l2 := e2.le
      exact rnew_l0 k N hN0 hN hq n (j + 1) h2 s' (by omega) (by omega) ⟨b2.wf, by omega, fun b hb' hq' => (b2.keep b (by omega) hq').trans ((e2.keep b (by omega) fun f => by have := hb b f; omega).trans ((y1.keep b (by omega) fun f => f).trans ((z1.keep b (by omega) fun f => f).trans (hc.keep b hb' hq'))))⟩ b4 (e3.keep fun b hb' => b2.keep b (e3.lt e2.wf hb') (by have := f' b hb'; omega)) f'
    · rw [decide_eq_false (show ¬ Int.ofNat j < Int.ofNat N by simp; omega), cond_false]
      have : j = N := by omega
      subst this
      exact ⟨h, sD, rfl, hc, I, ho, hb⟩
theorem rnew_f (k : Nat) (hk : 2000 < k) (N : Nat) (hN0 : 1 ≤ N) (hN : N ≤ 1000) {h : H} (w : WF h) :
    ∃ h' Mr, corbelref7_NewPlatter.f k (Int.ofNat N) h = some (some ⟨h.next, 0, none⟩, h') ∧ Ch0 h h' ∧ RfR h' h.next Mr ⟨List.replicate N zeros160, [], 0⟩ ∧ ∀ b, Mr b → h.next ≤ b := by
  unfold corbelref7_NewPlatter.f
  obtain ⟨z1, z2, z3⟩ := newR_ok w 65 3 [slv ⟨none, 0, 0⟩, slv ⟨none, 0, 0⟩, Value.int .i64 (0 : Int)]
  rw [show [Value.slice none 0 0, Value.slice none 0 0, Value.int .i64 (0 : Int)] = [slv ⟨none, 0, 0⟩, slv ⟨none, 0, 0⟩, Value.int .i64 (0 : Int)] from rfl]
  obtain ⟨h', sD, a1, a2, a3, a4, a5⟩ := rnew_l0 k N hN0 hN z2 k 0 _ ⟨none, 0, 0⟩ (by omega) (Nat.zero_le _) (Ch.refl z1.wf) z3 Ow.nil fun b hb => by obtain ⟨o, f⟩ := hb; cases f
  rw [show (0 : Int) = Int.ofNat 0 from rfl]
  rw [show (Value.int IntKind.i64 (Int.ofNat 0)) = Value.int .i64 0 from rfl, a1]
  exact ⟨h', fun b => b = h.next ∨ SlB sD b, rfl, Ch0.at z1 a2 (Nat.le_refl _), ⟨⟨sD, ⟨none, 0, 0⟩, a3, a4.slr, .inl ⟨rfl, .inl rfl⟩, fun b hb => ⟨.inr hb, by have := a5 b hb; omega⟩, fun b hb => by obtain ⟨o, f⟩ := hb; cases f⟩, .inl rfl, fun b hb => by
    rcases hb with rfl | hb
    · have := a2.le; omega
    · exact a4.lt a2.wf hb⟩, fun b hb => by
    rcases hb with rfl | hb
    · exact Nat.le_refl _
    · have := a5 b hb; omega⟩
theorem rwrite_no (k : Nat) {h : H} {q : Nat} {Mr : Nat → Prop} {st : Rf} (r : RfR h q Mr st) {i : Int} (hi : ¬ (0 ≤ i ∧ i < st.done.length)) (s : Sl) : corbelref7_Platter_Write.f k (some ⟨q, 0, none⟩) i s h = some (false, h) := by
  obtain ⟨sD, sQ, r1, r2, r3, r4, r5⟩ := r.ex
  have hn : sD.n = st.done.length := by have := r2.len; rw [strs_len] at this; omega
  unfold corbelref7_Platter_Write.f
  by_cases c : i < 0
  · rw [decide_eq_true c]; rfl
  · rw [decide_eq_false c]
    simp only [cond_false, nilA, asP_ptr, Option.bind_some, fadd, r1.ldc, List.getElem?_cons_zero, Nat.add_zero, asS_slv, hn]
    rw [decide_eq_true (show i ≥ Int.ofNat st.done.length by simp only [Int.ofNat_eq_natCast]; omega)]
    rfl
theorem rwrite_f (k : Nat) {h : H} (w : WF h) {q : Nat} {Mr : Nat → Prop} {st : Rf} (r : RfR h q Mr st) {j : Nat} (hj : j < st.done.length) {s : Sl} {x : List UInt8} (rs : SlR 1 h s (byt x)) (hx : x.length = 160) (hp : st.pend.length ≤ 1000) (hw : 0 ≤ st.writes ∧ st.writes ≤ 1000000) :
    ∃ h' Mr', corbelref7_Platter_Write.f k (some ⟨q, 0, none⟩) (Int.ofNat j) s h = some (true, h') ∧ Ch (fun b => b = q) h h' ∧ RfR h' q Mr' ⟨st.done, st.pend ++ [(Int.ofNat j, x)], st.writes + 1⟩ ∧ ∀ b, Mr' b → Mr b ∨ h.next ≤ b := by
  obtain ⟨sD, sQ, r1, r2, r3, r4, r5⟩ := r.ex
  have hn : sD.n = st.done.length := by have := r2.len; rw [strs_len] at this; omega
  have hqn : sQ.n = st.pend.length := by have := r3.len; rw [qcs_len] at this; omega
  unfold corbelref7_Platter_Write.f
  rw [decide_eq_false (show ¬ Int.ofNat j < (0 : Int) by simp)]
  simp only [cond_false, nilA, asP_ptr, Option.bind_some, fadd, r1.ldc, List.getElem?_cons_zero, Nat.add_zero, asS_slv, hn]
  rw [decide_eq_false (show ¬ Int.ofNat j ≥ Int.ofNat st.done.length by simp only [Int.ofNat_eq_natCast]; omega)]
  simp only [cond_false, Option.bind_some]
  have sn := rs.len
  rw [byt_len, Nat.mul_one, hx] at sn
  rw [show (Int.ofNat s.n != (160 : Int)) = false by rw [← sn]; rfl, cond_false]
  obtain ⟨y1, y2, y3⟩ := newR_ok w 67 2 []
  generalize newR h 67 2 [] = g0 at y1 y2 y3 ⊢
  have ow : Ow 67 2 g0 ⟨some ⟨h.next, 0, none⟩, 0, 0⟩ [] := Ow.of_is y3 rfl (by unfold unk; omega)
  have I0 := r1.stay w y1
  simp only [I0.ldc]
  simp only [Nat.zero_add, List.getElem?_cons_succ, List.getElem?_cons_zero, asS_slv, Option.bind_some]
  obtain ⟨s1, g1, a1, a2, a3, a4, a5⟩ := apv_ok (by_ := 24) y1.wf ow (by decide) (r3.stay w y1) (by rw [hqn]; show (0 + st.pend.length) * 24 ≤ _; omega) (qcs_one _)
  rw [a1]
  simp only [Option.bind_some]
  have fb : ∀ b, SlB ⟨some ⟨h.next, 0, none⟩, 0, 0⟩ b → h.next ≤ b := fun b hb => by obtain ⟨o, f⟩ := hb; have : h.next = b := congrArg Addr.block (Option.some.inj f); omega
  have c1 : Ch0 h g1 := Ch0.own y1 a2 fb
  have f1 : ∀ b, SlB s1 b → h.next ≤ b := fun b hb => (a5 b hb).elim (fb b) fun f => by omega
  have e0 := txt_ok (rs.stay w c1)
  rw [show asT (txt g1 (Value.slice s.a s.n s.c)) = some (ba x) by rw [e0]; rfl]
  simp only [Option.bind_some]
  obtain ⟨x1, x2, x3⟩ := newR_ok c1.wf 67 2 [Value.int .i64 (Int.ofNat j), Value.string (ba x)]
  rw [List.nil_append] at a3
  obtain ⟨s2, g2, b1, b2, b3, b4, b5⟩ := apv_ok (by_ := 24) x1.wf (a3.stay c1.wf x1) (by decide) (SlR.of_is x3 (n := 1) rfl (by unfold unk; omega)) (by rw [a4, hqn]; show (0 + st.pend.length + 1) * 24 ≤ _; omega) rfl
  rw [b1]
  simp only [Option.bind_some]
  have l1 := c1.le
  have c2 : Ch0 h g2 := Ch0.own (c1.then x1) b2 f1
  have f2 : ∀ b, SlB s2 b → h.next ≤ b := fun b hb => (b5 b hb).elim (f1 b) fun f => by have := x1.le; omega
  have I2 := r1.stay w c2
  obtain ⟨g3, d1, d2, d3, d4⟩ := I2.set c2.wf 1 (slv s2) (by show 1 < 3; decide) rfl
  rw [show [Value.slice s2.a s2.n s2.c] = [slv s2] from rfl, d1]
  simp only [Option.bind_some]
  have q1 : same1 g0 g1 (some (Value.slice s.a s.n s.c)) = true := by
    obtain ⟨a, n, c⟩ := s
    unfold same1
    rcases a with _ | ⟨b, o, _ | s⟩
    · rfl
    · exact sameVer_of (a2.keep b (by have := rs.blk w ⟨o, rfl⟩; have := y1.le; omega) fun f => by have := fb b f; have := rs.blk w (b := b) ⟨o, rfl⟩; omega)
    · rfl
  rw [q1, Bool.true_and, cond_true]
  simp only [d4.ldc]
  rw [show ([slv sD, slv sQ, Value.int .i64 st.writes].set 1 (slv s2))[0 + 2]? = some (.int .i64 st.writes) from rfl]
  simp only [asI_int, Option.bind_some]
  rw [wrap_in (n := st.writes + 1) (by omega) (by omega)]
  obtain ⟨g4, m1, m2, m3, m4⟩ := d4.set d2.wf 2 (.int .i64 (st.writes + 1)) (by show 2 < 3; decide) rfl
  rw [m1]
  have ql := r.lt q r.mq
  have C24 : Ch (fun b => b = q) g2 g4 := d2.trans m2 fun _ _ f => f
  have C : Ch (fun b => b = q) h g4 := (c2.mono fun _ _ f => f.elim).trans C24 fun _ _ f => f
  have eq : qcs st.pend ++ [Value.int .i64 (Int.ofNat j), Value.string (ba x)] = qcs (st.pend ++ [(Int.ofNat j, x)]) := by rw [qcs_snoc]
  rw [eq] at b3
  have l4 := C24.le
  refine ⟨g4, fun b => Mr b ∨ SlB s2 b, rfl, C, ⟨⟨sD, s2, m4, r2.keep fun b hb => C.keep b (r2.blk w hb) (r4 b hb).2, (b3.keep fun b hb => C24.keep b (b3.lt b2.wf hb) (by have := f2 b hb; omega)).slr, fun b hb => ⟨.inl (r4 b hb).1, (r4 b hb).2⟩, fun b hb => ⟨.inr hb, by have := f2 b hb; omega⟩⟩, .inl r.mq, fun b hb => ?_⟩, fun b hb => ?_⟩
  · rcases hb with hb | hb
    · exact Nat.lt_of_lt_of_le (r.lt b hb) C.le
    · have := b3.lt b2.wf hb; omega
  · rcases hb with hb | hb
    · exact .inl hb
    · exact .inr (f2 b hb)
theorem rread_l0 (k : Nat) {h : H} {q : Nat} {Mr : Nat → Prop} {st : Rf} (r : RfR h q Mr st) (hin : InR st.done.length st.pend) (hp : st.pend.length ≤ 1000) {i : Nat} (hi : i < st.done.length) : ∀ n j x, st.pend.length - j < n → j ≤ st.pend.length → (applyAll (st.pend.take j) st.done)[i]? = some x →
    ∃ y, corbelref7_Platter_Read.l0 k n (some ⟨q, 0, none⟩) (Int.ofNat i) (ba x) (Int.ofNat j) h = some (ba y, h) ∧ (applyAll st.pend st.done)[i]? = some y
  | 0, j, x, hn, _, _ => by omega
  | n + 1, j, x, hn, hj, hx => by
    rw [corbelref7_Platter_Read.l0_succ]
    obtain ⟨sD, sQ, r1, r2, r3, r4, r5⟩ := r.ex
    simp only [nilA, asP_ptr, Option.bind_some, fadd, r1.ldc]
    simp only [Nat.zero_add, List.getElem?_cons_succ, List.getElem?_cons_zero, asS_slv, Option.bind_some]
    have hn2 : sQ.n = st.pend.length := by have := r3.len; rw [qcs_len] at this; omega
    rw [show Int.ofNat sQ.n = Int.ofNat st.pend.length by rw [hn2]]
    by_cases c : j < st.pend.length
    · rw [decide_eq_true (show Int.ofNat j < Int.ofNat st.pend.length by simp; omega), cond_true]
      obtain ⟨b, o, e1, _, e3, e4⟩ := qAt r3 c
      rw [e1]
      simp only [asP_ptr, Option.bind_some, fadd, Nat.add_zero, e3, e4, asI_int]
      have ht : st.pend.take (j + 1) = st.pend.take j ++ [st.pend[j]] := by simp
      have e : applyAll (st.pend.take (j + 1)) st.done = (applyAll (st.pend.take j) st.done).set st.pend[j].1.toNat st.pend[j].2 := by rw [ht, applyAll_snoc]
      obtain ⟨a, ha, ha2⟩ := hin _ (List.getElem_mem c)
      by_cases d : st.pend[j].1 = Int.ofNat i
      · rw [show (st.pend[j].1 == Int.ofNat i) = true from beq_iff_eq.2 d, cond_true]
        rw [show asT (some (Value.string (ba st.pend[j].2))) = some (ba st.pend[j].2) from rfl]
        simp only [Option.bind_some]
        rw [wrap_succ (by omega)]
        refine rread_l0 k r hin hp hi n (j + 1) _ (by omega) (by omega) ?_
        rw [e, d]
        show ((applyAll _ _).set i st.pend[j].2)[i]? = _
        rw [List.getElem?_set_self (by rw [applyAll_len]; exact hi)]
      · rw [show (st.pend[j].1 == Int.ofNat i) = false from beq_eq_false_iff_ne.2 d, cond_false]
        simp only [Option.bind_some]
        rw [wrap_succ (by omega)]
        refine rread_l0 k r hin hp hi n (j + 1) x (by omega) (by omega) ?_
        rw [e, List.getElem?_set_ne]
        · exact hx
        · rw [ha2]
          intro f
          apply d
          rw [ha2]
          exact congrArg Int.ofNat f
    · rw [decide_eq_false (show ¬ Int.ofNat j < Int.ofNat st.pend.length by simp; omega), cond_false]
      rw [List.take_of_length_le (by omega)] at hx
      exact ⟨x, rfl, hx⟩
theorem rread_f (k : Nat) (hk : 2000 < k) {h : H} {q : Nat} {Mr : Nat → Prop} {st : Rf} (r : RfR h q Mr st) (hin : InR st.done.length st.pend) (hp : st.pend.length ≤ 1000) {i : Nat} (hi : i < st.done.length) :
    ∃ y, corbelref7_Platter_Read.f k (some ⟨q, 0, none⟩) (Int.ofNat i) h = some (ba y, h) ∧ (applyAll st.pend st.done)[i]? = some y := by
  unfold corbelref7_Platter_Read.f
  obtain ⟨sD, sQ, r1, r2, r3, r4, r5⟩ := r.ex
  simp only [nilA, asP_ptr, Option.bind_some, fadd, r1.ldc, List.getElem?_cons_zero, Nat.add_zero, asS_slv]
  have hn : sD.n = st.done.length := by have := r2.len; rw [strs_len] at this; omega
  obtain ⟨p, e1, e2⟩ := r2.elem1 (j := i) (by omega)
  rw [strs_get, List.getElem?_eq_getElem hi] at e2
  rw [e1]
  simp only [asP_ptr, Option.bind_some, e2, Option.map_some]
  rw [show asT (some (Value.string (ba st.done[i]))) = some (ba st.done[i]) from rfl]
  simp only [Option.bind_some]
  obtain ⟨y, a1, a2⟩ := rread_l0 k r hin hp hi k 0 st.done[i] (by omega) (Nat.zero_le _) (by show st.done[i]? = _; rw [List.getElem?_eq_getElem hi])
  rw [show (0 : Int) = Int.ofNat 0 from rfl, a1]
  exact ⟨y, rfl, a2⟩
end Go.Proofs.Ytbegaeohggkblaa.Fw
