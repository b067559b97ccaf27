/- chapter 7's platter, as plain lists. No condition. -/
import Derived.Test.YtbegaeohggkblaaDenHm
import Derived.Test.YtbegaeohggkblaaFLaw7
namespace Go.Proofs.Ytbegaeohggkblaa.Fw
open Go Den Fwd
set_option linter.unusedVariables false
set_option linter.unusedSimpArgs false

theorem pick_f (k : Nat) (n m : Int) (h : H) (h0 : 0 < m) (h1 : m ≤ 4611686018427387904) : corbelhand_Pick.f k n m h = some (n % m, h) := by
  unfold corbelhand_Pick.f
  have e0 : (m == 0) = false := by simp; omega
  have e := Int.tmod_eq_emod (a := n) (b := m)
  have b1 := Int.emod_nonneg n (show m ≠ 0 by omega)
  have b2 := Int.emod_lt_of_pos n h0
  have hm : (m.natAbs : Int) = m := by omega
  have r0 : intA .rem .i64 n m = some (.int .i64 (n.tmod m)) := by
    show cond (m == 0) none (some (Value.int .i64 (n.tmod m))) = _
    rw [e0]; rfl
  rw [r0]
  simp only [asI, if_true, Option.bind_some]
  by_cases hc : 0 ≤ n ∨ m ∣ n
  · rw [if_pos hc] at e
    have hd : decide (n.tmod m < 0) = false := decide_eq_false (by omega)
    rw [hd, cond_false, Option.bind_some, e]; simp
  · rw [if_neg hc, hm] at e
    have hne : n % m ≠ 0 := fun q => hc (.inr (Int.dvd_of_emod_eq_zero q))
    have hd : decide (n.tmod m < 0) = true := decide_eq_true (by omega)
    rw [hd, cond_true, Option.bind_some, wrap_in (by omega) (by omega), e]
    simp
theorem eqnil22 (s : Sl) : binO1 Try.prog .eql 22 (.slice s.a s.n s.c) (.slice none 0 0) = some (.bool s.a.isNone) := by
  obtain ⟨a, n, c⟩ := s
  cases a <;> simp [binO1, binB, binA, Try.underlying22, eqA]
theorem clone_f (k : Nat) {h : H} (w : WF h) {s : Sl} {x : List UInt8} (r : SlR 1 h s (byt x)) (hx : x.length ≤ 140737488355328) :
    ∃ s' h', slices_Clone_byte_byte.f k s h = some (s', h') ∧ Ch (fun _ => False) h h' ∧ Ow 5 1 h' s' (byt x) ∧ s'.n = s.n ∧ ∀ b, SlB s' b → h.next ≤ b ∧ b < h'.next := by
  unfold slices_Clone_byte_byte.f
  rw [eqnil22]
  simp only [asB, Option.bind_some]
  have hn := r.len
  rw [byt_len, Nat.mul_one] at hn
  cases hq : s.a with
  | none =>
    have hs : s = ⟨none, 0, 0⟩ ∧ x = [] := by
      rcases r with ⟨r0, rfl | rfl⟩ | ⟨b, o, r1, _⟩
      · exact ⟨rfl, by unfold byt at r0; simpa using r0⟩
      · cases hq
      · rw [hq] at r1; cases r1
    obtain ⟨rfl, rfl⟩ := hs
    exact ⟨⟨none, 0, 0⟩, h, rfl, Ch.refl w, Ow.nil, rfl, fun b hb => by obtain ⟨_, h1⟩ := hb; cases h1⟩
  | some a =>
    obtain ⟨c1, c2, c3⟩ := newR_ok w 5 1 []
    have o1 : Ow 5 1 (newR h 5 1 []) ⟨some ⟨h.next, 0, none⟩, 0, 0⟩ [] := Ow.of_is c3 rfl (by unfold unk; omega)
    have r' : SlR 1 (newR h 5 1 []) s (byt x) := by
      by_cases hz : byt x = []
      · rcases r with r | ⟨b, o, r1, r2, r3, r4⟩
        · exact .inl r
        · have hb : b < h.next := by
            rcases Nat.lt_or_ge b h.next with q | q
            · exact q
            · unfold H.gets at r3; rw [w.dom b q] at r3; cases r3
          exact .inr ⟨b, o, r1, r2, by rw [gets_keep (c1.keep b hb (fun f => f))]; exact r3, r4⟩
      · exact r.keep fun b hb => c1.keep b (r.lt w hz hb) fun f => f
    obtain ⟨s', h', e1, e2, e3, e4, e5⟩ := apv_ok (by_ := 1) c1.wf o1 (by decide) r' (by show (0 + s.n) * 1 ≤ _; omega) (byt_one x)
    rw [hq] at e1
    refine ⟨s', h', ?_, c1.trans e2 ?_, by simpa using e3, by simpa using e4, fun b hb => ?_⟩
    · simp only [Option.isNone_some, cond_false]
      rw [e1]; rfl
    · intro b hb hs; obtain ⟨o, h1⟩ := hs; cases h1; exact absurd hb (Nat.lt_irrefl _)
    · rcases e5 b hb with ⟨o, h1⟩ | ⟨h1, h2⟩
      · cases h1; exact ⟨Nat.le_refl _, Nat.lt_of_lt_of_le (by rw [c2]; omega) e2.le⟩
      · exact ⟨by rw [c2] at h1; omega, h2⟩

/-! ### the platter -/
structure Plat where
  done : List (List UInt8)
  now : List (List UInt8)
  pend : List (Int × List UInt8)
  writes : Int
theorem slv_one (s : Sl) : one (slv s) = true := rfl
/-- a cell that is a slice of these bytes, in blocks of C -/
def RowOk (h : H) (C : Nat → Prop) (v : Value) (x : List UInt8) : Prop := ∃ s : Sl, v = slv s ∧ SlR 1 h s (byt x) ∧ ∀ b, SlB s b → C b
def Rows (h : H) (C : Nat → Prop) (l : List Value) (xs : List (List UInt8)) : Prop := l.length = xs.length ∧ ∀ (i : Nat) (v : Value) (x : List UInt8), l[i]? = some v → xs[i]? = some x → RowOk h C v x
def Pends (h : H) (C : Nat → Prop) (l : List Value) (ps : List (Int × List UInt8)) : Prop := l.length = ps.length * 2 ∧ ∀ (i : Nat) (q : Int × List UInt8), ps[i]? = some q → l[2 * i]? = some (.int .i64 q.1) ∧ ∃ v, l[2 * i + 1]? = some v ∧ RowOk h C v q.2
theorem RowOk.keep {h h' : H} {C C' : Nat → Prop} {v : Value} {x : List UInt8} (k : ∀ b, C b → h'.get b = h.get b ∧ C' b) (r : RowOk h C v x) : RowOk h' C' v x := by
  obtain ⟨s, r1, r2, r3⟩ := r
  exact ⟨s, r1, r2.keep fun b hb => (k b (r3 b hb)).1, fun b hb => (k b (r3 b hb)).2⟩
theorem Rows.keep {h h' : H} {C C' : Nat → Prop} {l : List Value} {xs : List (List UInt8)} (k : ∀ b, C b → h'.get b = h.get b ∧ C' b) (r : Rows h C l xs) : Rows h' C' l xs :=
  ⟨r.1, fun i v x h1 h2 => (r.2 i v x h1 h2).keep k⟩
theorem Pends.keep {h h' : H} {C C' : Nat → Prop} {l : List Value} {xs : List (Int × List UInt8)} (k : ∀ b, C b → h'.get b = h.get b ∧ C' b) (r : Pends h C l xs) : Pends h' C' l xs :=
  ⟨r.1, fun i q h1 => by
    obtain ⟨e1, v, e2, e3⟩ := r.2 i q h1
    exact ⟨e1, v, e2, e3.keep k⟩⟩
theorem Rows.set {h : H} {C : Nat → Prop} {l : List Value} {xs : List (List UInt8)} {j : Nat} {v : Value} {x : List UInt8} (r : Rows h C l xs) (hv : RowOk h C v x) (hj : j < l.length) : Rows h C (over l j [v]) (xs.set j x) := by
  refine ⟨by rw [over_len (by simp only [List.length_cons, List.length_nil]; omega)]; simpa using r.1, fun i u y h1 h2 => ?_⟩
  rw [over_get (by simp only [List.length_cons, List.length_nil]; omega)] at h1
  by_cases c : i = j
  · subst c
    rw [if_pos ⟨Nat.le_refl _, by simp⟩, Nat.sub_self] at h1
    rw [List.getElem?_set_self (by have := r.1; omega)] at h2
    simp only [List.getElem?_cons_zero] at h1
    cases h1; cases h2; exact hv
  · rw [if_neg (by simp; omega)] at h1
    rw [List.getElem?_set_ne (by omega)] at h2
    exact r.2 i u y h1 h2
theorem Pends.snoc {h : H} {C : Nat → Prop} {l : List Value} {xs : List (Int × List UInt8)} {a : Int} {v : Value} {x : List UInt8} (r : Pends h C l xs) (hv : RowOk h C v x) : Pends h C (l ++ [.int .i64 a, v]) (xs ++ [(a, x)]) := by
  have hl := r.1
  refine ⟨by simp; omega, fun i q h1 => ?_⟩
  rcases Nat.lt_trichotomy i xs.length with c | c | c
  · rw [List.getElem?_append_left c] at h1
    obtain ⟨e1, u, e2, e3⟩ := r.2 i q h1
    exact ⟨by rw [List.getElem?_append_left (by omega)]; exact e1, u, by rw [List.getElem?_append_left (by omega)]; exact e2, e3⟩
  · subst c
    rw [List.getElem?_append_right (Nat.le_refl _), Nat.sub_self] at h1
    simp only [List.getElem?_cons_zero] at h1
    cases h1
    refine ⟨?_, v, ?_, hv⟩
    · rw [List.getElem?_append_right (by omega), show 2 * xs.length - l.length = 0 by omega]; rfl
    · rw [List.getElem?_append_right (by omega), show 2 * xs.length + 1 - l.length = 1 by omega]; rfl
  · rw [List.getElem?_eq_none (by simp; omega)] at h1; cases h1
/-- the platter stands at p: M what it may change, C what it only reads -/
structure PlatR (h : H) (p : Nat) (M C : Nat → Prop) (st : Plat) : Prop where
  ex : ∃ (sD sN sQ : Sl) (lD lN lQ : List Value), Is h p 89 4 [slv sD, slv sN, slv sQ, .int .i64 st.writes] ∧ Ow 22 1 h sD lD ∧ Ow 22 1 h sN lN ∧ Ow 92 2 h sQ lQ ∧ Rows h C lD st.done ∧ Rows h C lN st.now ∧ Pends h C lQ st.pend ∧
    M p ∧ (∀ b, SlB sD b → M b ∧ b ≠ p) ∧ (∀ b, SlB sN b → M b ∧ b ≠ p) ∧ (∀ b, SlB sQ b → M b ∧ b ≠ p) ∧ (∀ b, SlB sD b → ¬ SlB sN b) ∧ (∀ b, SlB sD b → ¬ SlB sQ b) ∧ (∀ b, SlB sN b → ¬ SlB sQ b)
  mlt : ∀ b, M b → b < h.next
  clt : ∀ b, C b → b < h.next
  dis : ∀ b, M b → ¬ C b
theorem PlatR.keep {h h' : H} {p : Nat} {M C : Nat → Prop} {st : Plat} {F : Nat → Prop} (k : Ch F h h') (hF : ∀ b, F b → ¬ M b ∧ ¬ C b) (r : PlatR h p M C st) : PlatR h' p M C st := by
  have km : ∀ b, M b → h'.get b = h.get b := fun b hb => k.keep b (r.mlt b hb) fun f => (hF b f).1 hb
  have kc : ∀ b, C b → h'.get b = h.get b ∧ C b := fun b hb => ⟨k.keep b (r.clt b hb) fun f => (hF b f).2 hb, hb⟩
  obtain ⟨sD, sN, sQ, lD, lN, lQ, r1, r2, r3, r4, r5, r6, r7, r8, r9, r10, r11, r12⟩ := r.ex
  exact ⟨⟨sD, sN, sQ, lD, lN, lQ, r1.keep (km _ r8), r2.keep fun b hb => km b (r9 b hb).1, r3.keep fun b hb => km b (r10 b hb).1, r4.keep fun b hb => km b (r11 b hb).1, r5.keep kc, r6.keep kc, r7.keep kc, r8, r9, r10, r11, r12⟩,
    fun b hb => Nat.lt_of_lt_of_le (r.mlt b hb) k.le, fun b hb => Nat.lt_of_lt_of_le (r.clt b hb) k.le, r.dis⟩
theorem has_f (k : Nat) {h : H} {p : Nat} {M C : Nat → Prop} {st : Plat} (r : PlatR h p M C st) (i : Int) : platter_Platter_has.f k (some ⟨p, 0, none⟩) i h = some (decide (0 ≤ i ∧ i < st.now.length), h) := by
  obtain ⟨sD, sN, sQ, lD, lN, lQ, r1, r2, r3, r4, r5, r6, r7, r8, r9, r10, r11, r12⟩ := r.ex
  unfold platter_Platter_has.f
  have hN : sN.n = st.now.length := by have := r3.slr.len; have := r6.1; omega
  by_cases c : 0 ≤ i
  · have e1 : decide (i ≥ 0) = true := decide_eq_true c
    rw [e1]
    simp only [cond_true, nilA, asP, Option.bind_some, fadd, r1.ldc]
    simp [slv, asS, hN, c]
  · have e1 : decide (i ≥ 0) = false := decide_eq_false c
    rw [e1]
    simp [c]

theorem Ow.pos {e es : Nat} {h : H} {s : Sl} {l : List Value} (r : Ow e es h s l) (hl : l ≠ []) : ∃ b n c, s = ⟨some ⟨b, 0, none⟩, n, c⟩ ∧ l.length = n * es ∧ Is h b e es l := by
  rcases r with ⟨rfl, _⟩ | ⟨b, n, c, r1, r2, r3, _⟩
  · exact absurd rfl hl
  · exact ⟨b, n, c, r1, r2, r3⟩
/-- a store into a row that is the run's own -/
theorem Ow.store {e : Nat} {h : H} (w : WF h) {s : Sl} {l : List Value} (r : Ow e 1 h s l) {j : Nat} (hj : j < l.length) (v : Value) (h1 : one v = true) :
    ∃ a h', ixs 1 s.a s.n (Int.ofNat j) = some (.pointer a) ∧ stv 1 h a [v] = some (undef, h') ∧ Ch (SlB s) h h' ∧ h'.next = h.next ∧ Ow e 1 h' s (over l j [v]) := by
  rcases r with ⟨rfl, _⟩ | ⟨b, n, c, rfl, r2, r3, r4⟩
  · simp at hj
  · obtain ⟨h', e1, e2, e3, e4⟩ := stv_ok w r3 (o := 0 + j * 1) [v] (by simp only [List.length_cons, List.length_nil]; omega) (by simp [h1])
    rw [Nat.zero_add, Nat.mul_one] at e1 e4
    refine ⟨some ⟨b, 0 + j * 1, none⟩, h', ?_, ?_, e2.mono fun x _ hx => by subst hx; exact ⟨0, rfl⟩, e3, .inr ⟨b, n, c, rfl, ?_, e4, r4⟩⟩
    · show cond (Nat.blt j n) _ none = _
      rw [cond_eta]
      exact Nat.ble_eq_true_of_le (by omega)
    · rw [Nat.zero_add, Nat.mul_one]; exact e1
    · rw [over_len (by simp only [List.length_cons, List.length_nil]; omega)]; exact r2
theorem write_f (k : Nat) {h : H} (w : WF h) {p : Nat} {M C : Nat → Prop} {st : Plat} (r : PlatR h p M C st) {i : Nat} (hi : i < st.now.length) {s : Sl} {x : List UInt8} (rs : SlR 1 h s (byt x)) (hx : x.length = 160) (hpl : st.pend.length ≤ 1000000) (hw : 0 ≤ st.writes ∧ st.writes ≤ 1000000) :
    ∃ h' M' C', platter_Platter_Write.f k (some ⟨p, 0, none⟩) (Int.ofNat i) s h = some (true, h') ∧ Ch M h h' ∧ PlatR h' p M' C' ⟨st.done, st.now.set i x, st.pend ++ [(Int.ofNat i, x)], st.writes + 1⟩ ∧ (∀ b, M' b → M b ∨ h.next ≤ b) ∧ (∀ b, C' b → C b ∨ h.next ≤ b) := by
  unfold platter_Platter_Write.f
  have hh : decide (0 ≤ Int.ofNat i ∧ Int.ofNat i < (st.now.length : Int)) = true := by simp; omega
  rw [has_f k r, hh]
  have hsn := rs.len
  rw [byt_len, Nat.mul_one, hx] at hsn
  simp only [Option.bind_some, Bool.not_true, cond_false, ← hsn]
  rw [show ((Int.ofNat 160 != (160 : Int)) = false) from rfl, cond_false]
  obtain ⟨so, h1, a1, a2, a3, a4, a5⟩ := clone_f k w rs (by omega)
  rw [a1]
  simp only [Option.bind_some, nilA, asP, fadd]
  have r1 := r.keep a2 fun b f => f.elim
  obtain ⟨sD, sN, sQ, lD, lN, lQ, b1, b2, b3, b4, b5, b6, b7, b8, b9, b10, b11, b12, b13, b14⟩ := r1.ex
  rw [b1.ldc]
  simp only [List.getElem?_cons_succ, List.getElem?_cons_zero, asS_slv, Option.bind_some]
  have hlN : i < lN.length := by rw [b6.1]; exact hi
  obtain ⟨pa, h2, c1, c2, c3, c4, c5⟩ := Ow.store a2.wf b3 hlN (slv so) rfl
  rw [c1]
  simp only [asP, Option.bind_some]
  rw [show (Value.slice so.a so.n so.c) = slv so from rfl, c2]
  simp only [Option.bind_some]
  have pI2 := b1.keep (c3.keep p (r1.mlt p b8) fun f => (b10 p f).2 rfl)
  rw [pI2.ldc]
  simp only [List.getElem?_cons_succ, List.getElem?_cons_zero, asS_slv, Option.bind_some]
  obtain ⟨n1, n2, n3⟩ := newR_ok c3.wf 92 2 [.int .i64 (Int.ofNat i), slv so]
  have q2 : Ow 92 2 (newR h2 92 2 [.int .i64 (Int.ofNat i), slv so]) sQ lQ := (b4.keep fun b hb => c3.keep b (r1.mlt b (b11 b hb).1) fun f => b14 b f hb).keep fun b hb => n1.keep b (by rw [c4]; exact r1.mlt b (b11 b hb).1) fun f => f
  have hqn : sQ.n = st.pend.length := by have := b4.slr.len; have := b7.1; omega
  obtain ⟨sQ', h3, d1, d2, d3, d4, d5⟩ := apv_ok (by_ := 32) n1.wf q2 (by decide) (SlR.of_is n3 (n := 1) rfl (by unfold unk; omega)) (by rw [hqn]; show (st.pend.length + 1) * 32 ≤ _; omega) (by simp [one, slv])
  rw [show Value.slice sQ.a sQ.n sQ.c = slv sQ from rfl] at d1
  rw [show Value.slice sQ.a sQ.n sQ.c = slv sQ from rfl, d1]
  simp only [Option.bind_some]
  have pn : p < h2.next := by rw [c4]; exact r1.mlt p b8
  have pI3 := (pI2.keep (n1.keep p pn fun f => f)).keep (d2.keep p (Nat.lt_of_lt_of_le pn n1.le) fun f => (b11 p f).2 rfl)
  obtain ⟨h4, f1, f2, f3, f4⟩ := stv_ok d2.wf pI3 (o := 2) [slv sQ'] (by simp) rfl
  rw [show Value.slice sQ'.a sQ'.n sQ'.c = slv sQ' from rfl]
  rw [show (0 + 2 : Nat) = 2 from rfl]
  rw [show ([slv sQ'] : List Value).length = 1 from rfl] at f1
  rw [f1]
  simp only [Option.bind_some]
  have ov1 : over [slv sD, slv sN, slv sQ, Value.int .i64 st.writes] 2 [slv sQ'] = [slv sD, slv sN, slv sQ', .int .i64 st.writes] := rfl
  rw [ov1] at f4
  rw [f4.ldc]
  simp only [List.getElem?_cons_succ, List.getElem?_cons_zero, asI, if_true, Option.bind_some]
  obtain ⟨h5, g1, g2, g3, g4⟩ := stv_ok f2.wf f4 (o := 3) [.int .i64 (wrapA .i64 (st.writes + 1))] (by simp) rfl
  rw [show ([Value.int .i64 (wrapA .i64 (st.writes + 1))] : List Value).length = 1 from rfl] at g1
  rw [show (0 + 3 : Nat) = 3 from rfl, g1]
  simp only [Option.bind_some]
  have ov2 : over [slv sD, slv sN, slv sQ', Value.int .i64 st.writes] 3 [.int .i64 (wrapA .i64 (st.writes + 1))] = [slv sD, slv sN, slv sQ', .int .i64 (st.writes + 1)] := by rw [wrap_in (by omega) (by omega)]; rfl
  rw [ov2] at g4
  -- the whole way
  have t0 : Ch (fun b => False) h h1 := a2
  have t1 : Ch M h1 h2 := c3.mono fun b _ f => (b10 b f).1
  have t2 : Ch M h2 (newR h2 92 2 [.int .i64 (Int.ofNat i), slv so]) := n1.mono fun b _ f => f.elim
  have t3 : Ch M (newR h2 92 2 [.int .i64 (Int.ofNat i), slv so]) h3 := d2.mono fun b _ f => (b11 b f).1
  have t4 : Ch M h3 h4 := f2.mono fun b _ f => by subst f; exact b8
  have t5 : Ch M h4 h5 := g2.mono fun b _ f => by subst f; exact b8
  have T13 : Ch M h1 h3 := (t1.trans t2 fun _ _ f => f).trans t3 fun _ _ f => f
  have T15 : Ch M h1 h5 := (T13.trans t4 fun _ _ f => f).trans t5 fun _ _ f => f
  have T : Ch M h h5 := (t0.mono fun _ _ f => f.elim).trans T15 fun _ _ f => f
  have le13 : h1.next ≤ h3.next := T13.le
  have q4 : ∀ b, SlB sQ' b → M b ∨ h1.next ≤ b := fun b hb => (d5 b hb).imp (fun f => (b11 b f).1) fun f => by
    have := n1.le; rw [c4] at this; omega
  have q5 : ∀ b, SlB sQ' b → b < h5.next := fun b hb => by rw [g3, f3]; exact d3.lt d2.wf hb
  have kso : ∀ b, SlB so b → ¬ M b ∧ b < h1.next := fun b hb => ⟨fun m => by have := r.mlt b m; have := (a5 b hb).1; omega, (a5 b hb).2⟩
  have kc : ∀ b, C b ∨ SlB so b → h5.get b = h1.get b ∧ (C b ∨ SlB so b) := fun b hb => ⟨by
    rcases hb with hb | hb
    · exact T15.keep b (r1.clt b hb) fun m => r1.dis b m hb
    · exact T15.keep b (kso b hb).2 (kso b hb).1, hb⟩
  have kc1 : ∀ b, C b → h1.get b = h1.get b ∧ (C b ∨ SlB so b) := fun b hb => ⟨rfl, .inl hb⟩
  have ro1 : RowOk h1 (fun b => C b ∨ SlB so b) (slv so) x := ⟨so, rfl, a3.slr, fun b hb => .inr hb⟩
  refine ⟨h5, fun b => M b ∨ SlB sQ' b, fun b => C b ∨ SlB so b, rfl, T, ⟨⟨sD, sN, sQ', lD, over lN i [slv so], lQ ++ [.int .i64 (Int.ofNat i), slv so], g4, ?_, ?_, ?_, ?_, ?_, ?_, .inl b8, fun b hb => ⟨.inl (b9 b hb).1, (b9 b hb).2⟩, fun b hb => ⟨.inl (b10 b hb).1, (b10 b hb).2⟩, fun b hb => ⟨.inr hb, ?_⟩, b12, fun b hb hq => ?_, fun b hb hq => ?_⟩, ?_, ?_, ?_⟩, ?_, ?_⟩
  · -- done
    refine b2.keep fun b hb => ?_
    have m := (b9 b hb)
    have l1 := r1.mlt b m.1
    have s1 : h2.get b = h1.get b := c3.keep b l1 (b12 b hb)
    have s2 := n1.keep b (by rw [c4]; exact l1) fun f => f
    have s3 := d2.keep b (by rw [n2, c4]; omega) (b13 b hb)
    have s4 := f2.keep b (by omega) m.2
    have s5 := g2.keep b (by omega) m.2
    exact s5.trans (s4.trans (s3.trans (s2.trans s1)))
  · exact c5.keep fun b hb => by
      have m := (b10 b hb)
      have l1 := r1.mlt b m.1
      have s2 := n1.keep b (by rw [c4]; exact l1) fun f => f
      have s3 := d2.keep b (by rw [n2, c4]; omega) (b14 b hb)
      have s4 := f2.keep b (by omega) m.2
      have s5 := g2.keep b (by omega) m.2
      exact s5.trans (s4.trans (s3.trans s2))
  · exact d3.keep fun b hb => by
      have l3 := d3.lt d2.wf hb
      have hp : b ≠ p := by
        rintro rfl
        rcases d5 b hb with f | f
        · exact (b11 b f).2 rfl
        · have := r1.mlt b b8; rw [n2, c4] at f; omega
      have s4 := f2.keep b l3 hp
      have s5 := g2.keep b (by omega) hp
      exact s5.trans s4
  · exact (b5.keep kc1).keep kc
  · exact ((b6.keep kc1).set ro1 hlN).keep kc
  · exact ((b7.keep kc1).snoc ro1).keep kc
  · rintro rfl
    rcases d5 b hb with f | f
    · exact (b11 b f).2 rfl
    · have := r1.mlt b b8; rw [n2, c4] at f; omega
  · rcases d5 b hq with f | f
    · exact b13 b hb f
    · have := r1.mlt b (b9 b hb).1; rw [n2, c4] at f; omega
  · rcases d5 b hq with f | f
    · exact b14 b hb f
    · have := r1.mlt b (b10 b hb).1; rw [n2, c4] at f; omega
  · rintro b (hb | hb)
    · exact Nat.lt_of_lt_of_le (r1.mlt b hb) T15.le
    · exact q5 b hb
  · rintro b (hb | hb)
    · exact Nat.lt_of_lt_of_le (r1.clt b hb) T15.le
    · exact Nat.lt_of_lt_of_le (kso b hb).2 T15.le
  · rintro b (hb | hb) (hc | hc)
    · exact r1.dis b hb hc
    · exact (kso b hc).1 hb
    · rcases q4 b hb with f | f
      · exact r1.dis b f hc
      · have := r1.clt b hc; omega
    · rcases q4 b hb with f | f
      · exact (kso b hc).1 f
      · have := (kso b hc).2; omega
  · rintro b (hb | hb)
    · exact .inl hb
    · rcases q4 b hb with f | f
      · exact .inl f
      · exact .inr (Nat.le_trans t0.le f)
  · rintro b (hb | hb)
    · exact .inl hb
    · exact .inr (a5 b hb).1

theorem read_f (k : Nat) {h : H} (w : WF h) {p : Nat} {M C : Nat → Prop} {st : Plat} (r : PlatR h p M C st) {i : Nat} {x : List UInt8} (hi : st.now[i]? = some x) (hx : x.length ≤ 140737488355328) :
    ∃ s' h', platter_Platter_Read.f k (some ⟨p, 0, none⟩) (Int.ofNat i) h = some ((s', true), h') ∧ Ch (fun _ => False) h h' ∧ Ow 5 1 h' s' (byt x) ∧ s'.n = x.length ∧ ∀ b, SlB s' b → h.next ≤ b ∧ b < h'.next := by
  have hil : i < st.now.length := by
    rcases Nat.lt_or_ge i st.now.length with q | q
    · exact q
    · rw [List.getElem?_eq_none q] at hi; cases hi
  unfold platter_Platter_Read.f
  have hh : decide (0 ≤ Int.ofNat i ∧ Int.ofNat i < (st.now.length : Int)) = true := by simp; omega
  rw [has_f k r, hh]
  obtain ⟨sD, sN, sQ, lD, lN, lQ, b1, b2, b3, b4, b5, b6, b7, b8, b9, b10, b11, b12, b13, b14⟩ := r.ex
  simp only [Option.bind_some, Bool.not_true, cond_false, nilA, asP, fadd, b1.ldc]
  simp only [List.getElem?_cons_succ, List.getElem?_cons_zero, asS_slv, Option.bind_some]
  have hlN : i < lN.length := by rw [b6.1]; exact hil
  have hn := b3.slr.len
  rw [Nat.mul_one] at hn
  obtain ⟨pa, c1, c2⟩ := b3.slr.elem1 (j := i) (by omega)
  rw [c1]
  simp only [asP, Option.bind_some, c2]
  obtain ⟨s, d1, d2, d3⟩ := b6.2 i _ x (List.getElem?_eq_getElem hlN) hi
  rw [List.getElem?_eq_getElem hlN, d1, asS_slv]
  simp only [Option.bind_some]
  obtain ⟨so, h1, a1, a2, a3, a4, a5⟩ := clone_f k w d2 hx
  rw [a1]
  have hsn := d2.len
  rw [byt_len, Nat.mul_one] at hsn
  exact ⟨so, h1, rfl, a2, a3, by omega, a5⟩
def zeros160 : List UInt8 := List.replicate 160 0
theorem byt_zeros : byt zeros160 = List.replicate (160 * 1) (.int .u8 0) := by unfold byt zeros160; rw [List.map_replicate]; rfl
/-- rows that were made since h0 -/
structure Made (h0 h : H) (C : Nat → Prop) (acc : Sl) (l : List Value) (xs : List (List UInt8)) : Prop where
  ch : Ch (fun _ => False) h0 h
  ow : Ow 22 1 h acc l
  rows : Rows h C l xs
  new : ∀ b, SlB acc b → h0.next ≤ b
  cn : ∀ b, C b → h0.next ≤ b ∧ b < h.next
  dis : ∀ b, C b → ¬ SlB acc b
theorem Rows.snoc {h : H} {C : Nat → Prop} {l : List Value} {xs : List (List UInt8)} {v : Value} {x : List UInt8} (r : Rows h C l xs) (hv : RowOk h C v x) : Rows h C (l ++ [v]) (xs ++ [x]) := by
  have hl := r.1
  refine ⟨by simp [hl], fun i u y h1 h2 => ?_⟩
  rcases Nat.lt_trichotomy i l.length with c | c | c
  · rw [List.getElem?_append_left c] at h1
    rw [List.getElem?_append_left (by omega)] at h2
    exact r.2 i u y h1 h2
  · subst c
    rw [List.getElem?_append_right (Nat.le_refl _), Nat.sub_self] at h1
    rw [List.getElem?_append_right (by omega), hl, Nat.sub_self] at h2
    simp only [List.getElem?_cons_zero] at h1 h2
    cases h1; cases h2; exact hv
  · rw [List.getElem?_eq_none (by simp; omega)] at h1; cases h1
theorem blank_l0 (k : Nat) (N : Nat) (hN : N ≤ 1000) {h0 : H} : ∀ n j h acc l C, N - j < n → j ≤ N → Made h0 h C acc l (List.replicate j zeros160) →
    ∃ s' h' l' C', platter_blank.l0 k n (Int.ofNat N) acc (Int.ofNat j) h = some (s', h') ∧ Made h0 h' C' s' l' (List.replicate N zeros160)
  | 0, j, h, acc, l, C, hn, _, _ => by omega
  | n + 1, j, h, acc, l, C, hn, hj, I => by
    rw [platter_blank.l0_succ]
    by_cases c : j < N
    · have hd : decide (Int.ofNat j < Int.ofNat N) = true := decide_eq_true (by simp; omega)
      rw [hd, cond_true]
      obtain ⟨z1, z2, z3⟩ := newZ_ok I.ch.wf 5 1 (.int .u8 0) 160
      obtain ⟨n1, n2, n3⟩ := newR_ok z1.wf 22 1 [Value.slice (some ⟨h.next, 0, none⟩) 160 160]
      have kk : ∀ b, b < h.next → (newR (newZ h 5 1 [Value.int .u8 0] 160) 22 1 [Value.slice (some ⟨h.next, 0, none⟩) 160 160]).get b = h.get b := fun b hb =>
        (n1.keep b (by rw [z2]; omega) fun f => f).trans (z1.keep b hb fun f => f)
      have o1 := I.ow.keep fun b hb => kk b (I.ow.lt I.ch.wf hb)
      have hacc : acc.n = j := by have := I.ow.slr.len; have := I.rows.1; simp at this; omega
      obtain ⟨s', h', e1, e2, e3, e4, e5⟩ := apv_ok (by_ := 24) n1.wf o1 (by decide) (SlR.of_is n3 (n := 1) rfl (by unfold unk; omega)) (by rw [hacc]; show (j + 1) * 24 ≤ _; omega) rfl
      rw [e1]
      simp only [Option.bind_some]
      rw [wrap_succ (by omega)]
      have nx : (newR (newZ h 5 1 [Value.int .u8 0] 160) 22 1 [Value.slice (some ⟨h.next, 0, none⟩) 160 160]).next = h.next + 2 := by rw [n2, z2]
      have hc0 := e2.le
      have low : ∀ b, b < h.next + 2 → ¬ SlB acc b → h'.get b = (newR (newZ h 5 1 [Value.int .u8 0] 160) 22 1 [Value.slice (some ⟨h.next, 0, none⟩) 160 160]).get b := fun b hb hs => e2.keep b (by omega) hs
      have hle := I.ch.le
      have nacc : ¬ SlB acc h.next := fun hs => Nat.lt_irrefl _ (I.ow.lt I.ch.wf hs)
      have kc : ∀ b, C b → h'.get b = h.get b ∧ (C b ∨ b = h.next) := fun b hb => ⟨(low b (by have := (I.cn b hb).2; omega) (I.dis b hb)).trans (kk b (I.cn b hb).2), .inl hb⟩
      have ro : RowOk h' (fun b => C b ∨ b = h.next) (Value.slice (some ⟨h.next, 0, none⟩) 160 160) zeros160 := by
        refine ⟨⟨some ⟨h.next, 0, none⟩, 160, 160⟩, rfl, ?_, fun b hb => ?_⟩
        · rw [byt_zeros]
          exact SlR.of_is ((z3.keep (n1.keep h.next (by rw [z2]; omega) fun f => f)).keep (low h.next (by omega) nacc)) (by rw [List.length_replicate]) (by unfold unk; omega)
        · obtain ⟨o, h1⟩ := hb; cases h1; exact .inr rfl
      have I' : Made h0 h' (fun b => C b ∨ b = h.next) s' (l ++ [Value.slice (some ⟨h.next, 0, none⟩) 160 160]) (List.replicate (j + 1) zeros160) := by
        refine ⟨⟨e2.wf, by omega, fun b hb _ => ?_⟩, e3, ?_, fun b hb => ?_, ?_, ?_⟩
        · have : ¬ SlB acc b := fun hs => by have := I.new b hs; omega
          exact (low b (by omega) this).trans ((kk b (by omega)).trans (I.ch.keep b hb fun f => f))
        · rw [List.replicate_succ']
          exact (I.rows.keep kc).snoc ro
        · rcases e5 b hb with f | f
          · exact I.new b f
          · omega
        · rintro b (hb | rfl)
          · have := I.cn b hb; omega
          · omega
        · rintro b (hb | rfl) hs
          · rcases e5 b hs with f | f
            · exact I.dis b hb f
            · have := (I.cn b hb).2; omega
          · rcases e5 _ hs with f | f
            · exact nacc f
            · omega
      exact blank_l0 k N hN n (j + 1) h' s' _ _ (by omega) (by omega) I'
    · have hd : decide (Int.ofNat j < Int.ofNat N) = false := decide_eq_false (by simp; omega)
      rw [hd, cond_false]
      have : j = N := by omega
      subst this
      exact ⟨acc, h, l, C, rfl, I⟩
theorem blank_f (k : Nat) (hk : 1000 < k) (N : Nat) (hN : N ≤ 1000) {h : H} (w : WF h) :
    ∃ s' h' l' C', platter_blank.f k (Int.ofNat N) h = some (s', h') ∧ Made h h' C' s' l' (List.replicate N zeros160) := by
  obtain ⟨s', h', l', C', e1, e2⟩ := blank_l0 k N hN (h0 := h) k 0 h ⟨none, 0, 0⟩ [] (fun _ => False) (by omega) (Nat.zero_le _)
    ⟨Ch.refl w, Ow.nil, ⟨rfl, fun i v x h1 => by rw [List.getElem?_nil] at h1; cases h1⟩, fun b hb => (by obtain ⟨o, h1⟩ := hb; cases h1), fun b hb => hb.elim, fun b hb => hb.elim⟩
  refine ⟨s', h', l', C', ?_, e2⟩
  unfold platter_blank.f
  rw [show (0 : Int) = Int.ofNat 0 from rfl, e1]; rfl

theorem Ow.blk {e es : Nat} {h : H} {s : Sl} {l : List Value} (r : Ow e es h s l) {b : Nat} (hb : SlB s b) : Is h b e es l := by
  rcases r with ⟨_, rfl⟩ | ⟨c, n, cc, rfl, r2, r3, _⟩
  · obtain ⟨o, h1⟩ := hb; cases h1
  · obtain ⟨o, h1⟩ := hb; cases h1; exact r3
theorem new_f (k : Nat) (hk : 1000 < k) (N : Nat) (hN0 : 1 ≤ N) (hN : N ≤ 1000) {h : H} (w : WF h) :
    ∃ p h' M C, platter_New.f k (Int.ofNat N) h = some (some ⟨p, 0, none⟩, h') ∧ Ch (fun _ => False) h h' ∧ PlatR h' p M C ⟨List.replicate N zeros160, List.replicate N zeros160, [], 0⟩ ∧ (∀ b, M b → h.next ≤ b) ∧ (∀ b, C b → h.next ≤ b) := by
  unfold platter_New.f
  have hc1 : decide ((1000 : Int) < Int.ofNat N) = false := decide_eq_false (by simp; omega)
  rw [hc1, cond_false]
  have hc2 : cond (decide (Int.ofNat N > 1)) (Int.ofNat N) 1 = Int.ofNat N := by
    by_cases c : N = 1
    · subst c; rfl
    · have : decide (Int.ofNat N > 1) = true := decide_eq_true (by simp; omega)
      rw [this]; rfl
  rw [hc2]
  obtain ⟨sD, h1, lD, CD, a1, a2⟩ := blank_f k hk N hN w
  obtain ⟨sN, h2, lN, CN, b1, b2⟩ := blank_f k hk N hN a2.ch.wf
  rw [a1]
  simp only [Option.bind_some]
  rw [b1]
  simp only [Option.bind_some]
  obtain ⟨n1, n2, n3⟩ := newR_ok b2.ch.wf 89 4 [slv sD, slv sN, Value.slice none 0 0, Value.int .i64 0]
  have le1 := a2.ch.le
  have le2 := b2.ch.le
  have dlt : ∀ b, SlB sD b → b < h1.next := fun b hb => a2.ow.lt a2.ch.wf hb
  have nlt : ∀ b, SlB sN b → b < h2.next := fun b hb => b2.ow.lt b2.ch.wf hb
  have k1 : ∀ b, b < h1.next → (newR h2 89 4 [slv sD, slv sN, Value.slice none 0 0, Value.int .i64 0]).get b = h1.get b := fun b hb => (n1.keep b (by omega) fun f => f).trans (b2.ch.keep b hb fun f => f)
  have k2 : ∀ b, b < h2.next → (newR h2 89 4 [slv sD, slv sN, Value.slice none 0 0, Value.int .i64 0]).get b = h2.get b := fun b hb => n1.keep b hb fun f => f
  have kD : ∀ b, CD b → (newR h2 89 4 [slv sD, slv sN, Value.slice none 0 0, Value.int .i64 0]).get b = h1.get b ∧ (CD b ∨ CN b) := fun b hb => ⟨k1 b (a2.cn b hb).2, .inl hb⟩
  have kN : ∀ b, CN b → (newR h2 89 4 [slv sD, slv sN, Value.slice none 0 0, Value.int .i64 0]).get b = h2.get b ∧ (CD b ∨ CN b) := fun b hb => ⟨k2 b (b2.cn b hb).2, .inr hb⟩
  refine ⟨h2.next, _, fun b => b = h2.next ∨ SlB sD b ∨ SlB sN b, fun b => CD b ∨ CN b, rfl, (a2.ch.trans b2.ch fun _ _ f => f).trans n1 fun _ _ f => f, ⟨⟨sD, sN, ⟨none, 0, 0⟩, lD, lN, [], n3, a2.ow.keep fun b hb => k1 b (dlt b hb), b2.ow.keep fun b hb => k2 b (nlt b hb), Ow.nil, a2.rows.keep kD, b2.rows.keep kN, ⟨rfl, fun i q h1 => by rw [List.getElem?_nil] at h1; cases h1⟩, .inl rfl,
    fun b hb => ⟨.inr (.inl hb), by have := dlt b hb; omega⟩, fun b hb => ⟨.inr (.inr hb), by have := nlt b hb; omega⟩, fun b hb => (by obtain ⟨o, h1⟩ := hb; cases h1), fun b hb hn => ?_, fun b hb hn => (by obtain ⟨o, h1⟩ := hn; cases h1), fun b hb hn => (by obtain ⟨o, h1⟩ := hn; cases h1)⟩, ?_, ?_, ?_⟩, ?_, ?_⟩
  · have := dlt b hb; have := b2.new b hn; omega
  · intro b hb
    show b < h2.next + 1
    rcases hb with rfl | hb | hb
    · omega
    · have := dlt b hb; omega
    · have := nlt b hb; omega
  · intro b hb
    show b < h2.next + 1
    rcases hb with hb | hb
    · have := (a2.cn b hb).2; omega
    · have := (b2.cn b hb).2; omega
  · rintro b (rfl | hb | hb) (hc | hc)
    · have := (a2.cn _ hc).2; omega
    · have := (b2.cn _ hc).2; omega
    · exact a2.dis b hc hb
    · have := dlt b hb; have := (b2.cn b hc).1; omega
    · have := b2.new b hb; have := (a2.cn b hc).2; omega
    · exact b2.dis b hc hb
  · rintro b (rfl | hb | hb)
    · omega
    · exact a2.new b hb
    · have := b2.new b hb; omega
  · rintro b (hb | hb)
    · exact (a2.cn b hb).1
    · have := (b2.cn b hb).1; omega
/-- a block of one byte -/
theorem all_l0 (k : Nat) (c : Int) (b : Nat) {h0 : H} : ∀ n j h, 160 - j < n → j ≤ 160 → Ch (fun x => x = b) h0 h → h.next = h0.next → (∃ l, Is h b 5 1 l ∧ l.length = 160 ∧ ∀ i, i < j → l[i]? = some (.int .u8 (.ofNat (u8 c).toNat))) →
    ∃ h', corbellaw7_all.l0 k n c ⟨some ⟨b, 0, none⟩, 160, 160⟩ (Int.ofNat 160) (Int.ofNat j) h = some ((), h') ∧ Ch (fun x => x = b) h0 h' ∧ h'.next = h0.next ∧ Is h' b 5 1 (byt (List.replicate 160 (u8 c)))
  | 0, j, h, hn, _, _, _, _ => by omega
  | n + 1, j, h, hn, hj, hc, hx, ⟨l, I, hl, hg⟩ => by
    rw [corbellaw7_all.l0_succ]
    by_cases cc : j < 160
    · have hd : decide (Int.ofNat j < Int.ofNat 160) = true := decide_eq_true (by simp; omega)
      rw [hd, cond_true]
      obtain ⟨pa, h', e1, e2, e3, e4, e5⟩ := Ow.store hc.wf (Ow.of_is (n := 160) I hl (by unfold unk; omega)) (j := j) (by omega) (.int .u8 (.ofNat (u8 c).toNat)) rfl
      rw [e1, wrap_u8]
      simp only [asP, Option.bind_some, e2]
      rw [wrap_succ (by omega)]
      have I' : Is h' b 5 1 (over l j [.int .u8 (.ofNat (u8 c).toNat)]) := Ow.blk e5 ⟨0, rfl⟩
      refine all_l0 k c b n (j + 1) h' (by omega) (by omega) (hc.trans e3 fun x _ f => by obtain ⟨o, h1⟩ := f; cases h1; rfl) (by omega) ⟨_, I', ?_, fun i hi => ?_⟩
      · rw [over_len (by simp only [List.length_cons, List.length_nil]; omega)]; exact hl
      · rw [over_get (by simp only [List.length_cons, List.length_nil]; omega)]
        by_cases q : i = j
        · subst q
          rw [if_pos ⟨Nat.le_refl _, by simp⟩, Nat.sub_self]; rfl
        · rw [if_neg (by simp; omega)]
          exact hg i (by omega)
    · have hd : decide (Int.ofNat j < Int.ofNat 160) = false := decide_eq_false (by simp; omega)
      rw [hd, cond_false]
      refine ⟨h, rfl, hc, hx, ?_⟩
      have : l = byt (List.replicate 160 (u8 c)) := by
        apply List.ext_getElem?
        intro i
        by_cases q : i < 160
        · rw [hg i (by omega), byt_get, List.getElem?_replicate, if_pos q]; rfl
        · rw [List.getElem?_eq_none (by omega), List.getElem?_eq_none (by rw [byt_len, List.length_replicate]; omega)]
      rw [← this]; exact I
def allb (c : Int) : List UInt8 := List.replicate 160 (u8 c)
theorem all_f (k : Nat) (hk : 1000 < k) (c : Int) {h : H} (w : WF h) :
    ∃ h', corbellaw7_all.f k c h = some (⟨some ⟨h.next, 0, none⟩, 160, 160⟩, h') ∧ Ch (fun _ => False) h h' ∧ h'.next = h.next + 1 ∧ Ow 5 1 h' ⟨some ⟨h.next, 0, none⟩, 160, 160⟩ (byt (allb c)) := by
  obtain ⟨z1, z2, z3⟩ := newZ_ok w 5 1 (.int .u8 0) 160
  obtain ⟨h', e1, e2, e3, e4⟩ := all_l0 k c h.next (h0 := newZ h 5 1 [.int .u8 0] 160) k 0 _ (by omega) (Nat.zero_le _) (Ch.refl z1.wf) rfl ⟨_, z3, by rw [List.length_replicate], fun i hi => by omega⟩
  refine ⟨h', ?_, ⟨e2.wf, by omega, fun b hb _ => (e2.keep b (by omega) (by omega)).trans (z1.keep b hb fun f => f)⟩, by omega, Ow.of_is e4 (by rw [byt_len]; exact List.length_replicate) (by unfold unk; omega)⟩
  unfold corbellaw7_all.f
  rw [show (0 : Int) = Int.ofNat 0 from rfl, show (Value.int .u8 (Int.ofNat 0)) = .int .u8 0 from rfl, e1]; rfl
/-! ### whole numbers -/
theorem SlR.int {h : H} {s : Sl} {l : List Int} (r : SlR 1 h s (ivs l)) {j : Nat} {n : Int} (hj : l[j]? = some n) : ∃ p, ixs 1 s.a s.n (Int.ofNat j) = some (.pointer p) ∧ ldc h p = some (.int .i64 n) := by
  have hl := r.len
  rw [ivs_len] at hl
  have hjl : j < l.length := by
    rcases Nat.lt_or_ge j l.length with q | q
    · exact q
    · rw [List.getElem?_eq_none q] at hj; cases hj
  obtain ⟨p, h1, h2⟩ := r.elem1 (j := j) (by omega)
  exact ⟨p, h1, by rw [h2, ivs_get, hj]; rfl⟩
theorem sameInts_l0 (k : Nat) {h : H} {s t : Sl} {l : List Int} (rs : SlR 1 h s (ivs l)) (rt : SlR 1 h t (ivs l)) (hb : l.length < 9223372036854775807) : ∀ n j, l.length - j < n → j ≤ l.length → corbelref7_SameInts.l0 k n s t (Int.ofNat j) h = some (.inr (), h)
  | 0, j, hn, _ => by omega
  | n + 1, j, hn, hj => by
    rw [corbelref7_SameInts.l0_succ]
    have hl := rs.len
    rw [ivs_len, Nat.mul_one] at hl
    rw [← hl]
    by_cases c : j < l.length
    · have hd : decide (Int.ofNat j < Int.ofNat l.length) = true := decide_eq_true (by simp; omega)
      rw [hd, cond_true]
      obtain ⟨p, h1, h2⟩ := SlR.int rs (List.getElem?_eq_getElem c)
      obtain ⟨q, h3, h4⟩ := SlR.int rt (List.getElem?_eq_getElem c)
      rw [hl, h1]
      simp only [asP, Option.bind_some, h2, asI, if_true, h3, h4, bne_self_eq_false, cond_false]
      rw [wrap_succ (by omega)]
      exact sameInts_l0 k rs rt hb n (j + 1) (by omega) (by omega)
    · have hd : decide (Int.ofNat j < Int.ofNat l.length) = false := decide_eq_false (by simp; omega)
      rw [hd]; rfl
theorem sameInts_f (k : Nat) {h : H} {s t : Sl} {l : List Int} (rs : SlR 1 h s (ivs l)) (rt : SlR 1 h t (ivs l)) (hb : l.length < k) (hb2 : l.length < 9223372036854775807) : corbelref7_SameInts.f k s t h = some (true, h) := by
  have e1 := rs.len
  have e2 := rt.len
  rw [ivs_len, Nat.mul_one] at e1 e2
  unfold corbelref7_SameInts.f
  rw [← e1, ← e2, show (Int.ofNat l.length != Int.ofNat l.length) = false from bne_self_eq_false _, cond_false, show (0 : Int) = Int.ofNat 0 from rfl, sameInts_l0 k rs rt hb2 k 0 (by omega) (Nat.zero_le _)]
  rfl

theorem SlR.st2 {h : H} {s : Sl} {l : List Value} (r : SlR 2 h s l) {j : Nat} {u v : Value} (hu : l[2 * j]? = some u) (hv : l[2 * j + 1]? = some v) : ∃ p, ixs 2 s.a s.n (Int.ofNat j) = some (.pointer p) ∧ lda 2 h p = some (.agg #[u, v]) := by
  have hl := r.len
  have hj : 2 * j + 1 < l.length := by
    rcases Nat.lt_or_ge (2 * j + 1) l.length with q | q
    · exact q
    · rw [List.getElem?_eq_none q] at hv; cases hv
  obtain ⟨b, o, h1, h2⟩ := r.elem (j := j) (by omega)
  refine ⟨_, h1, ?_⟩
  show (match h.gets b o 2 with | some vs => some (Value.agg vs.toArray) | none => none) = _
  rw [h2]
  have : (l.drop (j * 2)).take 2 = [u, v] := by
    apply List.ext_getElem?
    intro i
    rw [List.getElem?_take]
    by_cases c : i < 2
    · rw [if_pos c, List.getElem?_drop]
      rcases (show i = 0 ∨ i = 1 by omega) with rfl | rfl
      · rw [show j * 2 + 0 = 2 * j by omega, hu]; rfl
      · rw [show j * 2 + 1 = 2 * j + 1 by omega, hv]; rfl
    · rw [if_neg c, List.getElem?_eq_none (by simp; omega)]
  rw [this]
theorem ivs_snoc (l : List Int) (n : Int) : ivs l ++ [.int .i64 n] = ivs (l ++ [n]) := by unfold ivs; simp
/-- one more number -/
theorem push_int {h : H} (w : WF h) {s : Sl} {l : List Int} (r : Ow 3 1 h s (ivs l)) (n : Int) (hb : l.length ≤ 1000000) :
    ∃ s' h', asS2 (apv 3 1 8 (.slice s.a s.n s.c) (.slice (some ⟨h.next, 0, none⟩) 1 1) (newR h 3 1 [.int .i64 n])) = some (s', h') ∧ Ch (SlB s) h h' ∧ Ow 3 1 h' s' (ivs (l ++ [n])) ∧ ∀ b, SlB s' b → SlB s b ∨ h.next ≤ b := by
  obtain ⟨n1, n2, n3⟩ := newR_ok w 3 1 [.int .i64 n]
  have hs := r.slr.len
  rw [ivs_len, Nat.mul_one] at hs
  obtain ⟨s', h', e1, e2, e3, e4, e5⟩ := apv_ok (by_ := 8) n1.wf (r.keep fun b hb => n1.keep b (r.lt w hb) fun f => f) (by decide) (SlR.of_is n3 (n := 1) rfl (by unfold unk; omega)) (by rw [← hs]; show (l.length + 1) * 8 ≤ _; omega) rfl
  refine ⟨s', h', e1, (n1.mono fun _ _ f => f.elim).trans e2 fun _ _ f => f, by rw [← ivs_snoc]; exact e3, fun b hb => (e5 b hb).imp id fun f => ?_⟩
  have := f.1; omega
theorem bindSt {β : Type} (a : Int) (s : Sl) (f : FT [.int .i64, .sl] → Option β) : (asSt [(.int .i64), .sl] (some (Value.agg #[.int .i64 a, slv s]))).bind f = f (show FT [.int .i64, .sl] from ((a, s) : Int × Sl)) := rfl
theorem pending_l0 (k : Nat) {h0 : H} (w0 : WF h0) {p : Nat} {M C : Nat → Prop} {st : Plat} (r : PlatR h0 p M C st) (sQ : Sl) (lQ : List Value) (hQ : Ow 92 2 h0 sQ lQ) (hP : Pends h0 C lQ st.pend) (hb : st.pend.length ≤ 1000) : ∀ n j h acc, st.pend.length - j < n → j ≤ st.pend.length → Ch (fun _ => False) h0 h → Ow 3 1 h acc (ivs ((st.pend.map (·.1)).take j)) → (∀ b, SlB acc b → h0.next ≤ b) →
    ∃ s' h', platter_Platter_Pending.l0 k n sQ (Int.ofNat st.pend.length) acc (Int.ofNat j) h = some (s', h') ∧ Ch (fun _ => False) h0 h' ∧ Ow 3 1 h' s' (ivs (st.pend.map (·.1))) ∧ ∀ b, SlB s' b → h0.next ≤ b
  | 0, j, h, acc, hn, _, _, _, _ => by omega
  | n + 1, j, h, acc, hn, hj, hc, ho, ha => by
    rw [platter_Platter_Pending.l0_succ]
    by_cases c : j < st.pend.length
    · have hd : decide (Int.ofNat j < Int.ofNat st.pend.length) = true := decide_eq_true (by simp; omega)
      rw [hd, cond_true]
      obtain ⟨e1, v, e2, s, rfl, _, _⟩ := hP.2 j _ (List.getElem?_eq_getElem c)
      have hQ' := hQ.keep (h' := h) fun b hb => hc.keep b (hQ.lt w0 hb) fun f => f
      obtain ⟨pp, f1, f2⟩ := SlR.st2 hQ'.slr e1 e2
      rw [f1]
      simp only [asP, Option.bind_some, f2]
      rw [bindSt st.pend[j].1 s]
      dsimp only
      obtain ⟨n1, n2, n3⟩ := newR_ok hc.wf 92 2 [Value.int .i64 0, Value.slice none 0 0]
      obtain ⟨h2, g1, g2, g3, g4⟩ := stv_ok n1.wf n3 (o := 0) [Value.int .i64 st.pend[j].1, slv s] (Nat.le_refl _) rfl
      rw [show ([Value.int .i64 st.pend[j].1, slv s] : List Value).length = 2 from rfl] at g1
      rw [show over [Value.int .i64 0, Value.slice none 0 0] 0 [Value.int .i64 st.pend[j].1, slv s] = [Value.int .i64 st.pend[j].1, slv s] from rfl] at g4
      have hle := hc.le
      have hac : ∀ b, SlB acc b → b < h.next := fun b hb => ho.lt hc.wf hb
      have k2 : ∀ b, b < h.next → h2.get b = h.get b := fun b hb => (g2.keep b (by omega) (by omega)).trans (n1.keep b hb fun f => f)
      obtain ⟨s', h', p1, p2, p3, p4⟩ := push_int g2.wf (ho.keep fun b hb => k2 b (hac b hb)) st.pend[j].1 (by simp; omega)
      rw [show (Value.slice s.a s.n s.c) = slv s from rfl, g1]
      simp only [Option.bind_some, g4.ldc]
      simp only [List.getElem?_cons_zero, asI, if_true, Option.bind_some]
      rw [p1]
      simp only [Option.bind_some]
      rw [wrap_succ (by omega)]
      have le2 : h.next < h2.next := by omega
      refine pending_l0 k w0 r sQ lQ hQ hP hb n (j + 1) h' s' (by omega) (by omega) ⟨p2.wf, by have := p2.le; omega, fun b hb _ => ?_⟩ ?_ fun b hb => ?_
      · have : ¬ SlB acc b := fun q => by have := ha b q; omega
        exact (p2.keep b (by omega) this).trans ((k2 b (by omega)).trans (hc.keep b hb fun f => f))
      · rw [List.take_add_one, List.getElem?_map, List.getElem?_eq_getElem c]
        exact p3
      · rcases p4 b hb with f | f
        · exact ha b f
        · omega
    · have hd : decide (Int.ofNat j < Int.ofNat st.pend.length) = false := decide_eq_false (by simp; omega)
      rw [hd, cond_false]
      have : (st.pend.map (·.1)).take j = st.pend.map (·.1) := List.take_of_length_le (by simp; omega)
      rw [this] at ho
      exact ⟨acc, h, rfl, hc, ho, ha⟩
theorem pending_f (k : Nat) (hk : 1000 < k) {h : H} (w : WF h) {p : Nat} {M C : Nat → Prop} {st : Plat} (r : PlatR h p M C st) (hb : st.pend.length ≤ 1000) :
    ∃ s' h', platter_Platter_Pending.f k (some ⟨p, 0, none⟩) h = some (s', h') ∧ Ch (fun _ => False) h h' ∧ Ow 3 1 h' s' (ivs (st.pend.map (·.1))) ∧ ∀ b, SlB s' b → h.next ≤ b := by
  obtain ⟨sD, sN, sQ, lD, lN, lQ, b1, b2, b3, b4, b5, b6, b7, _⟩ := r.ex
  unfold platter_Platter_Pending.f
  simp only [Option.bind_some, nilA, asP, fadd, b1.ldc]
  simp only [List.getElem?_cons_succ, List.getElem?_cons_zero, asS_slv, Option.bind_some]
  have hqn : sQ.n = st.pend.length := by have := b4.slr.len; have := b7.1; omega
  obtain ⟨s', h', e1, e2, e3, e4⟩ := pending_l0 k w r sQ lQ b4 b7 hb k 0 h ⟨none, 0, 0⟩ (by omega) (Nat.zero_le _) (Ch.refl w) Ow.nil fun b hb => (by obtain ⟨o, h1⟩ := hb; cases h1)
  rw [hqn, show (0 : Int) = Int.ofNat 0 from rfl, e1]
  exact ⟨s', h', rfl, e2, e3, e4⟩
theorem writes_f (k : Nat) {h : H} {p : Nat} {M C : Nat → Prop} {st : Plat} (r : PlatR h p M C st) : platter_Platter_Writes.f k (some ⟨p, 0, none⟩) h = some (st.writes, h) := by
  obtain ⟨sD, sN, sQ, lD, lN, lQ, b1, b2, b3, b4, b5, b6, b7, _⟩ := r.ex
  unfold platter_Platter_Writes.f
  simp only [Option.bind_some, nilA, asP, fadd, b1.ldc]
  simp only [List.getElem?_cons_succ, List.getElem?_cons_zero, asI, if_true, Option.bind_some]
/-- is it in the list? -/
theorem index_l0 (k : Nat) {h : H} {s : Sl} {l : List Int} (r : SlR 1 h s (ivs l)) (hb : l.length < 9223372036854775807) (x : Int) : ∀ n j, l.length - j < n → j ≤ l.length → (∀ i, i < j → l[i]? ≠ some x) →
    (x ∈ l ∧ ∃ i : Nat, slices_Index_int_int.l0 k n s x (Int.ofNat s.n) (Int.ofNat j) h = some (.inl (Int.ofNat i), h)) ∨ (x ∉ l ∧ slices_Index_int_int.l0 k n s x (Int.ofNat s.n) (Int.ofNat j) h = some (.inr (), h))
  | 0, j, hn, _, _ => by omega
  | n + 1, j, hn, hj, hno => by
    rw [slices_Index_int_int.l0_succ]
    have hl := r.len
    rw [ivs_len, Nat.mul_one] at hl
    rw [← hl]
    by_cases c : j < l.length
    · have hd : decide (Int.ofNat j < Int.ofNat l.length) = true := decide_eq_true (by simp; omega)
      rw [hd]
      simp only [cond_true]
      obtain ⟨p, h1, h2⟩ := SlR.int r (List.getElem?_eq_getElem c)
      rw [hl, h1]
      simp only [asP, Option.bind_some, h2, asI, if_true]
      by_cases q : x = l[j]
      · rw [show (x == l[j]) = true from beq_iff_eq.2 q]
        exact .inl ⟨by rw [q]; exact List.getElem_mem c, j, rfl⟩
      · rw [show (x == l[j]) = false from beq_eq_false_iff_ne.2 q, cond_false, wrap_succ (by omega)]
        refine index_l0 k r hb x n (j + 1) (by omega) (by omega) fun i hi => ?_
        by_cases e : i = j
        · subst e
          rw [List.getElem?_eq_getElem c]
          intro h; cases h; exact q rfl
        · exact hno i (by omega)
    · have hd : decide (Int.ofNat j < Int.ofNat l.length) = false := decide_eq_false (by simp; omega)
      rw [hd]
      refine .inr ⟨fun hm => ?_, rfl⟩
      obtain ⟨i, hi, rfl⟩ := List.mem_iff_getElem.1 hm
      exact hno i (by omega) (List.getElem?_eq_getElem hi)
theorem contains_f (k : Nat) {h : H} {s : Sl} {l : List Int} (r : SlR 1 h s (ivs l)) (hb : l.length < k) (hb2 : l.length < 9223372036854775807) (x : Int) : slices_Contains_int_int.f k s x h = some (decide (x ∈ l), h) := by
  unfold slices_Contains_int_int.f slices_Index_int_int.f
  rw [show (0 : Int) = Int.ofNat 0 from rfl]
  rcases index_l0 k r hb2 x k 0 (by omega) (Nat.zero_le _) (fun i hi => by omega) with ⟨h1, i, h2⟩ | ⟨h1, h2⟩
  · rw [h2]
    simp only [Option.bind_some]
    rw [decide_eq_true h1, decide_eq_true (show Int.ofNat i ≥ Int.ofNat 0 by simp)]
  · rw [h2]
    simp only [Option.bind_some]
    rw [decide_eq_false h1]; rfl
theorem eqnil85 (s : Sl) : binO1 Try.prog .eql 85 (.slice s.a s.n s.c) (.slice none 0 0) = some (.bool s.a.isNone) := by
  obtain ⟨a, n, c⟩ := s
  cases a <;> simp [binO1, binB, binA, Try.underlying85, eqA]
theorem clone2_f (k : Nat) {h : H} (w : WF h) {s : Sl} {l : List Value} (r : SlR 1 h s l) (h1l : l.all one = true) (hx : l.length ≤ 1000000) :
    ∃ s' h', slices_Clone_byte_byte_2.f k s h = some (s', h') ∧ Ch (fun _ => False) h h' ∧ Ow 22 1 h' s' l ∧ s'.n = s.n ∧ ∀ b, SlB s' b → h.next ≤ b ∧ b < h'.next := by
  unfold slices_Clone_byte_byte_2.f
  rw [eqnil85]
  simp only [asB, Option.bind_some]
  have hn := r.len
  rw [Nat.mul_one] at hn
  cases hq : s.a with
  | none =>
    have hs : s = ⟨none, 0, 0⟩ ∧ l = [] := by
      rcases r with ⟨r0, rfl | rfl⟩ | ⟨b, o, r1, _⟩
      · exact ⟨rfl, r0⟩
      · cases hq
      · rw [hq] at r1; cases r1
    obtain ⟨rfl, rfl⟩ := hs
    exact ⟨⟨none, 0, 0⟩, h, rfl, Ch.refl w, Ow.nil, rfl, fun b hb => by obtain ⟨_, h1⟩ := hb; cases h1⟩
  | some a =>
    obtain ⟨c1, c2, c3⟩ := newR_ok w 22 1 []
    have o1 : Ow 22 1 (newR h 22 1 []) ⟨some ⟨h.next, 0, none⟩, 0, 0⟩ [] := Ow.of_is c3 rfl (by unfold unk; omega)
    have r' : SlR 1 (newR h 22 1 []) s l := by
      by_cases hz : l = []
      · rcases r with r | ⟨b, o, r1, r2, r3, r4⟩
        · exact .inl r
        · have hb : b < h.next := by
            rcases Nat.lt_or_ge b h.next with q | q
            · exact q
            · unfold H.gets at r3; rw [w.dom b q] at r3; cases r3
          exact .inr ⟨b, o, r1, r2, by rw [gets_keep (c1.keep b hb (fun f => f))]; exact r3, r4⟩
      · exact r.keep fun b hb => c1.keep b (r.lt w hz hb) fun f => f
    obtain ⟨s', h', e1, e2, e3, e4, e5⟩ := apv_ok (by_ := 24) c1.wf o1 (by decide) r' (by show (0 + s.n) * 24 ≤ _; omega) h1l
    rw [hq] at e1
    refine ⟨s', h', ?_, c1.trans e2 ?_, by simpa using e3, by simpa using e4, fun b hb => ?_⟩
    · simp only [Option.isNone_some, cond_false]
      rw [e1]; rfl
    · intro b hb hs; obtain ⟨o, h1⟩ := hs; cases h1; exact absurd hb (Nat.lt_irrefl _)
    · rcases e5 b hb with ⟨o, h1⟩ | ⟨h1, h2⟩
      · cases h1; exact ⟨Nat.le_refl _, Nat.lt_of_lt_of_le (by rw [c2]; omega) e2.le⟩
      · exact ⟨by rw [c2] at h1; omega, h2⟩


theorem Rows.one {h : H} {C : Nat → Prop} {l : List Value} {xs : List (List UInt8)} (r : Rows h C l xs) : l.all Den.one = true := by
  rw [List.all_eq_true]
  intro v hv
  obtain ⟨i, hi, rfl⟩ := List.mem_iff_getElem.1 hv
  obtain ⟨s, e, _⟩ := r.2 i l[i] (xs[i]'(by have := r.1; omega)) (by simp) (by simp)
  rw [e]; rfl
/-- what is kept of what pends is done -/
def crashD (keep : List Int) : Nat → List (Int × List UInt8) → List (List UInt8) → List (List UInt8)
  | _, [], d => d
  | i, q :: qs, d => crashD keep (i + 1) qs (if Int.ofNat i ∈ keep then d.set q.1.toNat q.2 else d)
theorem crash_l0 (k : Nat) {h0 : H} (w0 : WF h0) {p : Nat} {C : Nat → Prop} {sD sN sQ ks : Sl} {lQ : List Value} {pend : List (Int × List UInt8)} {wr : Int} {keep : List Int} {N : Nat}
    (hI : Is h0 p 89 4 [slv sD, slv sN, slv sQ, .int .i64 wr]) (hQ : Ow 92 2 h0 sQ lQ) (hP : Pends h0 C lQ pend) (hpD : ∀ b, SlB sD b → b ≠ p) (hDQ : ∀ b, SlB sD b → ¬ SlB sQ b) (hDC : ∀ b, C b → b < h0.next ∧ ¬ SlB sD b)
    (hk : SlR 1 h0 ks (ivs keep)) (hkb : ∀ b, SlB ks b → b < h0.next ∧ ¬ SlB sD b) (hkl : keep.length < k) (hkl2 : keep.length < 9223372036854775807) (hin : ∀ q ∈ pend, ∃ a : Nat, a < N ∧ q.1 = Int.ofNat a) (hb : pend.length ≤ 1000) :
    ∀ n j h lD d, pend.length - j < n → j ≤ pend.length → Ch (SlB sD) h0 h → Ow 22 1 h sD lD → Rows h C lD d → d.length = N →
      ∃ h' lD', platter_Platter_Crash.l0 k n (some ⟨p, 0, none⟩) ks sQ (Int.ofNat pend.length) (Int.ofNat j) h = some ((), h') ∧ Ch (SlB sD) h0 h' ∧ Ow 22 1 h' sD lD' ∧ Rows h' C lD' (crashD keep j (pend.drop j) d)
  | 0, j, h, lD, d, hn, _, _, _, _, _ => by omega
  | n + 1, j, h, lD, d, hn, hj, hc, ho, hr, hd => by
    rw [platter_Platter_Crash.l0_succ]
    by_cases c : j < pend.length
    · have hdd : decide (Int.ofNat j < Int.ofNat pend.length) = true := decide_eq_true (by simp; omega)
      rw [hdd, cond_true]
      obtain ⟨e1, v, e2, s, rfl, e3, e4⟩ := hP.2 j _ (List.getElem?_eq_getElem c)
      have hQ' := hQ.keep (h' := h) fun b hb => hc.keep b (hQ.lt w0 hb) fun f => hDQ b f hb
      obtain ⟨pp, f1, f2⟩ := SlR.st2 hQ'.slr e1 e2
      rw [f1]
      simp only [asP, Option.bind_some, f2]
      rw [bindSt pend[j].1 s]
      dsimp only
      obtain ⟨n1, n2, n3⟩ := newR_ok hc.wf 92 2 [Value.int .i64 0, Value.slice none 0 0]
      obtain ⟨h2, g1, g2, g3, g4⟩ := stv_ok n1.wf n3 (o := 0) [Value.int .i64 pend[j].1, slv s] (Nat.le_refl _) rfl
      rw [show ([Value.int .i64 pend[j].1, slv s] : List Value).length = 2 from rfl] at g1
      rw [show over [Value.int .i64 0, Value.slice none 0 0] 0 [Value.int .i64 pend[j].1, slv s] = [Value.int .i64 pend[j].1, slv s] from rfl] at g4
      have hle := hc.le
      have k2 : ∀ b, b < h.next → h2.get b = h.get b := fun b hb => (g2.keep b (by omega) (by omega)).trans (n1.keep b hb fun f => f)
      rw [show (Value.slice s.a s.n s.c) = slv s from rfl, g1]
      simp only [Option.bind_some]
      have rk : SlR 1 h2 ks (ivs keep) := hk.keep fun b hb => (k2 b (by have := (hkb b hb).1; omega)).trans (hc.keep b (hkb b hb).1 (hkb b hb).2)
      rw [contains_f k rk hkl hkl2]
      simp only [Option.bind_some]
      have hdrop : pend.drop j = pend[j] :: pend.drop (j + 1) := List.drop_eq_getElem_cons c
      have c02 : Ch (SlB sD) h0 h2 := ⟨g2.wf, by omega, fun b hb hf => (k2 b (by omega)).trans (hc.keep b hb hf)⟩
      have ho2 := ho.keep fun b hb => k2 b (ho.lt hc.wf hb)
      have hr2 : Rows h2 C lD d := hr.keep fun b hb => ⟨k2 b (by have := (hDC b hb).1; omega), hb⟩
      rw [hdrop, crashD]
      by_cases q : Int.ofNat j ∈ keep
      · rw [decide_eq_true q, if_pos q]
        simp only [cond_true, nilA, asP, fadd, Option.bind_some]
        have hp2 := hI.keep (c02.keep p (hI.lt w0) fun f => hpD p f rfl)
        rw [hp2.ldc]
        simp only [Nat.add_zero, List.getElem?_cons_zero, asS_slv, Option.bind_some, g4.ldc, List.getElem?_cons_succ, asI, if_true]
        obtain ⟨a, ha, ha2⟩ := hin _ (List.getElem_mem c)
        rw [ha2]
        obtain ⟨pa, h3, u1, u2, u3, u4, u5⟩ := Ow.store c02.wf ho2 (j := a) (by rw [hr2.1, hd]; exact ha) (slv s) rfl
        rw [u1]
        simp only [asP, Option.bind_some]
        rw [show (Value.slice s.a s.n s.c) = slv s from rfl, u2]
        simp only [Option.bind_some]
        rw [wrap_succ (by omega)]
        have c03 := c02.trans u3 fun _ _ f => f
        have ro : RowOk h2 C (slv s) pend[j].2 := ⟨s, rfl, e3.keep fun b hb => c02.keep b (hDC b (e4 b hb)).1 (hDC b (e4 b hb)).2, e4⟩
        have hr3 : Rows h3 C (over lD a [slv s]) (d.set (Int.ofNat a).toNat pend[j].2) :=
          (hr2.set ro (by rw [hr2.1, hd]; exact ha)).keep fun b hb => ⟨u3.keep b (Nat.lt_of_lt_of_le (hDC b hb).1 c02.le) (hDC b hb).2, hb⟩
        exact crash_l0 k w0 hI hQ hP hpD hDQ hDC hk hkb hkl hkl2 hin hb n (j + 1) h3 _ _ (by omega) (by omega) c03 u5 hr3 (by simpa using hd)
      · rw [decide_eq_false q, if_neg q]
        simp only [cond_false, Option.bind_some]
        rw [wrap_succ (by omega)]
        exact crash_l0 k w0 hI hQ hP hpD hDQ hDC hk hkb hkl hkl2 hin hb n (j + 1) h2 lD d (by omega) (by omega) c02 ho2 hr2 hd
    · have hdd : decide (Int.ofNat j < Int.ofNat pend.length) = false := decide_eq_false (by simp; omega)
      rw [hdd, cond_false, List.drop_eq_nil_of_le (by omega)]
      exact ⟨h, lD, rfl, hc, ho, hr⟩
theorem crashD_len (keep : List Int) : ∀ (l : List (Int × List UInt8)) (i : Nat) (d : List (List UInt8)), (crashD keep i l d).length = d.length
  | [], _, _ => rfl
  | q :: l, i, d => by
    rw [crashD, crashD_len keep l]
    split <;> simp
theorem crash_f (k : Nat) (hk : 1000 < k) {h : H} (w : WF h) {p : Nat} {M C : Nat → Prop} {st : Plat} (r : PlatR h p M C st) {ks : Sl} {keep : List Int} (rk : SlR 1 h ks (ivs keep)) (hkb : ∀ b, SlB ks b → b < h.next ∧ ¬ M b) (hkl : keep.length < k) (hkl2 : keep.length < 9223372036854775807)
    (hin : ∀ q ∈ st.pend, ∃ a : Nat, a < st.done.length ∧ q.1 = Int.ofNat a) (hb : st.pend.length ≤ 1000) (hd : st.done.length ≤ 1000) :
    ∃ h' M', platter_Platter_Crash.f k (some ⟨p, 0, none⟩) ks h = some ((), h') ∧ Ch M h h' ∧ PlatR h' p M' C ⟨crashD keep 0 st.pend st.done, crashD keep 0 st.pend st.done, [], st.writes⟩ ∧ (∀ b, M' b → M b ∨ h.next ≤ b) := by
  obtain ⟨sD, sN, sQ, lD, lN, lQ, b1, b2, b3, b4, b5, b6, b7, b8, b9, b10, b11, b12, b13, b14⟩ := r.ex
  unfold platter_Platter_Crash.f
  simp only [Option.bind_some, nilA, asP, fadd, b1.ldc]
  simp only [List.getElem?_cons_succ, List.getElem?_cons_zero, asS_slv, Option.bind_some]
  have hqn : sQ.n = st.pend.length := by have := b4.slr.len; have := b7.1; omega
  obtain ⟨h1, lD', e1, e2, e3, e4⟩ := crash_l0 k w b1 b4 b7 (fun b hb => (b9 b hb).2) b13 (fun b hb => ⟨r.clt b hb, fun f => r.dis b (b9 b f).1 hb⟩) rk (fun b hb => ⟨(hkb b hb).1, fun f => (hkb b hb).2 (b9 b f).1⟩) hkl hkl2 hin hb k 0 h lD st.done (by omega) (Nat.zero_le _) (Ch.refl w) b2 b5 rfl
  rw [List.drop_zero] at e4
  rw [hqn, show (0 : Int) = Int.ofNat 0 from rfl, e1]
  have hp1 := b1.keep (e2.keep p (r.mlt p b8) fun f => (b9 p f).2 rfl)
  simp only [Option.bind_some, hp1.ldc]
  simp only [Nat.add_zero, List.getElem?_cons_zero, asS_slv, Option.bind_some]
  have hl : lD'.length = st.done.length := by rw [e4.1, crashD_len]
  obtain ⟨so, h2, a1, a2, a3, a4, a5⟩ := clone2_f k e2.wf e3.slr e4.one (by omega)
  rw [a1]
  simp only [Option.bind_some]
  have pl1 := Nat.lt_of_lt_of_le (r.mlt p b8) e2.le
  have hp2 := hp1.keep (a2.keep p pl1 fun f => f)
  obtain ⟨h3, c1, c2, c3, c4⟩ := stv_ok a2.wf hp2 (o := 1) [slv so] (by simp) rfl
  rw [show ([slv so] : List Value).length = 1 from rfl] at c1
  rw [show (Value.slice so.a so.n so.c) = slv so from rfl, show (0 + 1 : Nat) = 1 from rfl, c1]
  simp only [Option.bind_some]
  rw [show over [slv sD, slv sN, slv sQ, Value.int .i64 st.writes] 1 [slv so] = [slv sD, slv so, slv sQ, .int .i64 st.writes] from rfl] at c4
  obtain ⟨h4, d1, d2, d3, d4⟩ := stv_ok c2.wf c4 (o := 2) [Value.slice none 0 0] (by simp) rfl
  rw [show ([Value.slice none 0 0] : List Value).length = 1 from rfl] at d1
  rw [show (0 + 2 : Nat) = 2 from rfl, d1]
  simp only [Option.bind_some]
  rw [show over [slv sD, slv so, slv sQ, Value.int .i64 st.writes] 2 [Value.slice none 0 0] = [slv sD, slv so, slv ⟨none, 0, 0⟩, .int .i64 st.writes] from rfl] at d4
  have t1 : Ch M h h1 := e2.mono fun b _ f => (b9 b f).1
  have t2 : Ch M h1 h2 := a2.mono fun b _ f => f.elim
  have t3 : Ch M h2 h3 := c2.mono fun b _ f => by subst f; exact b8
  have t4 : Ch M h3 h4 := d2.mono fun b _ f => by subst f; exact b8
  have T24 : Ch (fun b => b = p) h2 h4 := c2.trans d2 fun _ _ f => f
  have T : Ch M h h4 := ((t1.trans t2 fun _ _ f => f).trans t3 fun _ _ f => f).trans t4 fun _ _ f => f
  have le1 := e2.le
  have le2 := a2.le
  have le4 := T24.le
  have kD : ∀ b, b < h1.next → b ≠ p → h4.get b = h1.get b := fun b hb hp => (T24.keep b (by omega) hp).trans (a2.keep b hb fun f => f)
  have kC : ∀ b, C b → h4.get b = h1.get b ∧ C b := fun b hb => ⟨kD b (by have := r.clt b hb; omega) fun e => by subst e; exact r.dis b b8 hb, hb⟩
  refine ⟨h4, fun b => M b ∨ SlB so b, rfl, T, ⟨⟨sD, so, ⟨none, 0, 0⟩, lD', lD', [], d4, e3.keep fun b hb => kD b (by have := r.mlt b (b9 b hb).1; omega) (b9 b hb).2, a3.keep fun b hb => T24.keep b (a5 b hb).2 (by have := (a5 b hb).1; omega), Ow.nil, e4.keep kC, e4.keep kC, ⟨rfl, fun i q h1 => by rw [List.getElem?_nil] at h1; cases h1⟩, .inl b8,
    fun b hb => ⟨.inl (b9 b hb).1, (b9 b hb).2⟩, fun b hb => ⟨.inr hb, by have := (a5 b hb).1; omega⟩, fun b hb => (by obtain ⟨o, h1⟩ := hb; cases h1), fun b hb hn => ?_, fun b hb hn => (by obtain ⟨o, h1⟩ := hn; cases h1), fun b hb hn => (by obtain ⟨o, h1⟩ := hn; cases h1)⟩, ?_, ?_, ?_⟩, ?_⟩
  · have := r.mlt b (b9 b hb).1; have := (a5 b hn).1; omega
  · rintro b (hb | hb)
    · exact Nat.lt_of_lt_of_le (r.mlt b hb) T.le
    · have := (a5 b hb).2; omega
  · exact fun b hb => Nat.lt_of_lt_of_le (r.clt b hb) T.le
  · rintro b (hb | hb) hc
    · exact r.dis b hb hc
    · have := (a5 b hb).1; have := r.clt b hc; omega
  · rintro b (hb | hb)
    · exact .inl hb
    · have := (a5 b hb).1; exact .inr (by omega)
end Go.Proofs.Ytbegaeohggkblaa.Fw
