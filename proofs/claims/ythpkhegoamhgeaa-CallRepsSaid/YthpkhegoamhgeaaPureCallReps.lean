/- CallReps: the law's forward run comes to true. -/
import Derived.Test.YthpkhegoamhgeaaFwRepQ
import Derived.Test.YthpkhegoamhgeaaArCallReps
namespace Go.Proofs.Ythpkhegoamhgeaa
open Go Den Fwd Fw
set_option linter.unusedVariables false
set_option linter.unusedSimpArgs false
theorem Pure.setb {h : H} (w : WF h) {s : Sl} {x : List UInt8} (r : Ow 5 1 h s (byt x)) {j : Nat} (hj : j < x.length) (c : UInt8) :
    ∃ b h', ixs 1 s.a s.n (Int.ofNat j) = some (.pointer (some ⟨b, j, none⟩)) ∧ ldc h (some ⟨b, j, none⟩) = some (.int .u8 (Int.ofNat x[j].toNat)) ∧ stv 1 h (some ⟨b, j, none⟩) [.int .u8 (Int.ofNat c.toNat)] = some (undef, h') ∧ Ch (SlB s) h h' ∧ h'.next = h.next ∧ Ow 5 1 h' s (byt (x.set j c)) := by
  rcases r with ⟨f, _⟩ | ⟨b, m, cc, rfl, hl, I, hc⟩
  · have := congrArg List.length f
    rw [byt_len] at this
    have this : x.length = 0 := this
    omega
  · rw [byt_len, Nat.mul_one] at hl
    obtain ⟨h', i1, i2, i3, i4⟩ := I.set w j (.int .u8 (Int.ofNat c.toNat)) (by rw [byt_len]; exact hj) rfl
    have e0 : ixs 1 (some ⟨b, 0, none⟩) m (Int.ofNat j) = some (.pointer (some ⟨b, j, none⟩)) := by
      have : ixs 1 (some ⟨b, 0, none⟩) m (Int.ofNat j) = some (.pointer (some ⟨b, 0 + j * 1, none⟩)) := cond_eta _ _ _ (Nat.ble_eq_true_of_le (by show j + 1 ≤ m; omega))
      rw [this, Nat.zero_add, Nat.mul_one]
    refine ⟨b, h', e0, ?_, i1, i2.mono fun x _ hx => by subst hx; exact ⟨0, rfl⟩, i3, .inr ⟨b, m, cc, rfl, by rw [byt_len, List.length_set]; omega, ?_, hc⟩⟩
    · rw [I.ldc, byt_get, List.getElem?_eq_getElem hj]; rfl
    · have : (byt x).set j (.int .u8 (Int.ofNat c.toNat)) = byt (x.set j c) := by unfold byt; rw [List.map_set]
      rw [← this]; exact i4
theorem Pure.reps_l1 (k : Nat) (how : Int) (pa : Option Addr) {h0 : H} (w0 : WF h0) {s : Sl} {l : List Int} (rs : SlR 1 h0 s (ivs l)) (by_ : UInt8) : ∀ n i h z x, 2 - i < n → i ≤ 2 → Ch0 h0 h → Ow 5 1 h z (byt x) → (∀ b, SlB z b → h0.next ≤ b) → 0 < x.length → x.length ≤ 1000000 →
    ∃ h' x', corbellaw11_CallReps.l1 k n how s (Int.ofNat by_.toNat) pa z (Int.ofNat i) h = some ((), h') ∧ Ch0 h0 h' ∧ Ow 5 1 h' z (byt x') ∧ x'.length = x.length
  | 0, i, h, z, x, hn, _, _, _, _, _, _ => by omega
  | n + 1, i, h, z, x, hn, hi, hc, ho, hb, hx, hx2 => by
    rw [corbellaw11_CallReps.l1_succ]
    have hl := rs.len
    rw [ivs_len, Nat.mul_one] at hl
    by_cases c : i < l.length ∧ i < 2
    · rw [← hl, decide_eq_true (show Int.ofNat i < Int.ofNat l.length by simp; omega), cond_true, decide_eq_true (show Int.ofNat i < (2 : Int) by simp; omega)]
      simp only [Option.bind_some, cond_true]
      obtain ⟨p, e1, e2⟩ := (rs.stay w0 hc).elem1 (j := i) (by omega)
      rw [ivs_get, List.getElem?_eq_getElem c.1] at e2
      rw [hl, e1]
      simp only [asP_ptr, Option.bind_some, e2, Option.map_some, asI_int]
      have zn := ho.slr.n_byt
      rw [zn, pick_f k _ _ h (by simp only [Int.ofNat_eq_natCast]; omega) (by simp only [Int.ofNat_eq_natCast]; omega)]
      obtain ⟨j, hj⟩ : ∃ j : Nat, l[i] % Int.ofNat x.length = Int.ofNat j := ⟨_, nn _ (Int.emod_nonneg l[i] (show Int.ofNat x.length ≠ 0 by simp only [Int.ofNat_eq_natCast]; omega))⟩
      have hj2 : j < x.length := by have := Int.emod_lt_of_pos l[i] (show (0 : Int) < Int.ofNat x.length by simp only [Int.ofNat_eq_natCast]; omega); rw [hj] at this; simp only [Int.ofNat_eq_natCast] at this; omega
      rw [hj]
      simp only [Option.bind_some]
      obtain ⟨b, h', f1, f2, f3, f4, f5, f6⟩ := Pure.setb hc.wf ho hj2 (x[j] ^^^ by_)
      rw [zn] at f1
      rw [f1]
      simp only [asP_ptr, Option.bind_some, f2, asI_int]
      rw [xor_u8]
      simp only [asI_int, Option.bind_some]
      rw [f3]
      simp only [Option.bind_some]
      rw [wrap_succ (by omega)]
      obtain ⟨h2, x2, g1, g2, g3, g4⟩ := Pure.reps_l1 k how pa w0 rs by_ n (i + 1) h' z (x.set j (x[j] ^^^ by_)) (by omega) (by omega) (Ch0.own hc f4 hb) f6 hb (by rw [List.length_set]; exact hx) (by rw [List.length_set]; exact hx2)
      exact ⟨h2, x2, g1, g2, g3, by rw [g4, List.length_set]⟩
    · have hg : (cond (decide (Int.ofNat i < Int.ofNat s.n)) (some (decide (Int.ofNat i < (2 : Int)), h)) (some (false, h)) : Option (Bool × H)) = some (false, h) := by
        by_cases q : i < l.length
        · rw [← hl, decide_eq_true (show Int.ofNat i < Int.ofNat l.length by simp; omega), decide_eq_false (show ¬ Int.ofNat i < (2 : Int) by simp; omega)]; rfl
        · rw [← hl, decide_eq_false (show ¬ Int.ofNat i < Int.ofNat l.length by simp; omega)]; rfl
      rw [hg]
      simp only [Option.bind_some, cond_false]
      exact ⟨h, x, rfl, hc, ho, rfl⟩
theorem Pure.wf8 {n : Int} (h : (Lit.int .u8 n).wf = true) : ∃ m : UInt8, n = Int.ofNat m.toNat := by
  unfold Lit.wf at h
  simp only [Bool.and_eq_true, decide_eq_true_eq] at h
  have h0 : (0 : Int) ≤ n := h.1
  have h1 : n ≤ 255 := h.2
  exact ⟨UInt8.ofNat n.toNat, by simp; omega⟩
theorem Pure.asBytes : ∀ l : List Int, (∀ n ∈ l, (Lit.int .u8 n).wf = true) → ∃ x : List UInt8, l.map (fun n => Value.int .u8 n) = byt x ∧ x.length = l.length
  | [], _ => ⟨[], rfl, rfl⟩
  | n :: l, h => by
    obtain ⟨m, rfl⟩ := Pure.wf8 (h n List.mem_cons_self)
    obtain ⟨x, e1, e2⟩ := Pure.asBytes l fun n hn => h n (List.mem_cons_of_mem _ hn)
    exact ⟨m :: x, by rw [List.map_cons, e1]; rfl, by rw [List.length_cons, List.length_cons, e2]⟩
abbrev Pure.Six (l : List Value) : Prop := ∃ a b c d e f : Int, l = [.int .i64 a, .int .i64 b, .int .i64 c, .int .i64 d, .int .i64 e, .int .i64 f]
theorem Pure.elemOf {h : H} {s : Sl} {ls : List (List Value)} (r : SlR 6 h s ls.flatten) (hl : ∀ l ∈ ls, l.length = 6) {i : Nat} {l : List Value} (hi : ls[i]? = some l) (hn : i < s.n) :
    ∃ b o, ixs 6 s.a s.n (Int.ofNat i) = some (.pointer (some ⟨b, o, none⟩)) ∧ ∀ j, j < 6 → ldc h (some ⟨b, o + j, none⟩) = l[j]? := by
  obtain ⟨b, o, h1, h2⟩ := Fw.SlR.fld r hn
  refine ⟨b, o, h1, fun j hj => ?_⟩
  obtain ⟨b', o', h3, h4⟩ := r.cellOf (by decide) hl hi hj hn
  rw [h1] at h3
  cases h3
  exact h4
theorem Pure.reps_l0 (k : Nat) (hk : 1000 < k) {h0 : H} (w0 : WF h0) {pb : Nat} (hpb : h0.next ≤ pb) {l : Sl} {ls : List (List Value)} (rl : SlR 6 h0 l ls.flatten) (hll : l.n = ls.length) (hl6 : ∀ l ∈ ls, l.length = 6) (hL : ∀ l ∈ ls, Pure.Six l) (x9 : Int) (x10 : Sl) (x11 : Int) (x12 : Sl) (x13 : Int) (C B : Int) : ∀ n i h sp si (ps : PcS) (is : ItS), 6 - i < n → i ≤ 6 → Ch0 h0 h → Bd h pb C B sp si ps is → ps.length + is.length ≤ i → (∀ p ∈ ps, p.1.data.length ≤ 200) → (∀ p ∈ is, p.1.data.length ≤ 200) →
    ∃ h' sp' si' ps' is', corbellaw11_CallReps.l0 k n l x9 x10 x11 x12 x13 (some ⟨pb, 0, none⟩) (Int.ofNat i) h = some ((), h') ∧ Ch0 h0 h' ∧ Bd h' pb C B sp' si' ps' is' ∧ ps'.length + is'.length ≤ 6 ∧ (∀ p ∈ ps', p.1.data.length ≤ 200) ∧ (∀ p ∈ is', p.1.data.length ≤ 200)
  | 0, i, h, sp, si, ps, is, hn, _, _, _, _, _, _ => by omega
  | n + 1, i, h, sp, si, ps, is, hn, hi, hc, Bx, hs, hd1, hd2 => by
    rw [corbellaw11_CallReps.l0_succ]
    by_cases c : i < ls.length ∧ i < 6
    · rw [hll, decide_eq_true (show Int.ofNat i < Int.ofNat ls.length by simp; omega), cond_true, decide_eq_true (show Int.ofNat i < (6 : Int) by simp; omega)]
      simp only [Option.bind_some, cond_true]
      obtain ⟨b, o, e1, e2⟩ := Pure.elemOf (rl.stay w0 hc) hl6 (List.getElem?_eq_getElem c.1) (by rw [hll]; exact c.1)
      obtain ⟨v0, v1, v2, v3, v4, v5, hv⟩ := hL _ (List.getElem_mem c.1)
      rw [hv] at e2
      have f1 : ldc h (some ⟨b, o + 1, none⟩) = some (.int .i64 v1) := e2 1 (by decide)
      have f2 : ldc h (some ⟨b, o + 2, none⟩) = some (.int .i64 v2) := e2 2 (by decide)
      have f3 : ldc h (some ⟨b, o + 3, none⟩) = some (.int .i64 v3) := e2 3 (by decide)
      have f4 : ldc h (some ⟨b, o + 4, none⟩) = some (.int .i64 v4) := e2 4 (by decide)
      have f5 : ldc h (some ⟨b, o + 5, none⟩) = some (.int .i64 v5) := e2 5 (by decide)
      rw [hll] at e1
      have pbl := Bx.box.lt hc.wf
      have bx2 : asS (ldc h (some ⟨pb, 2, none⟩)) = some sp := by rw [Bx.box.ldc]; rfl
      have bx3 : asS (ldc h (some ⟨pb, 3, none⟩)) = some si := by rw [Bx.box.ldc]; rfl
      simp only [e1, nilA, asP_ptr, Option.bind_some, fadd, Nat.zero_add, f1, f2, f3, f4, f5, asI_int, bx2, bx3]
      rw [wrap_succ (by omega)]
      cases decide (Int.ofNat i < x9) with
      | true =>
        rw [cond_true]
        obtain ⟨q, d, h1, b1, b2, b3, b4, b5, b6⟩ := pcMake_f k hk hc.wf v1 v2 v3 v4 v5
        rw [b1]
        simp only [Option.bind_some, Pc.tup]
        have B1 := Bx.keep hc.wf b2 (fun _ _ _ f => f)
        obtain ⟨sn, g1, g2, u1, u2, u3, u4⟩ := B1.addP b2.wf q d b3 (fun z hz => ⟨by have := b5 z hz; omega, fun f => by have := b5 z hz; have := Bx.op.lt hc.wf f; omega, fun f => by have := b5 z hz; have := Bx.oi.lt hc.wf f; omega⟩) (by omega)
        rw [show [Value.int .i64 q.st, Value.int .i64 q.gn, Value.int .i64 q.ix, Value.slice d.a d.n d.c] = q.vs d from rfl, u1]
        simp only [Option.bind_some]
        rw [u2]
        simp only [Option.bind_some]
        have mm := same1_of (o := 2) (b2.keep pb pbl fun f => f)
        simp only [mm, Bool.and_self, cond_true, Option.bind_some]
        exact Pure.reps_l0 k hk w0 hpb rl hll hl6 hL x9 x10 x11 x12 x13 C B n (i + 1) g2 sn si (ps ++ [(q, d)]) is (by omega) (by omega) ((hc.then b2).trans u3 fun z hz f => by omega) u4 (by rw [List.length_append, List.length_singleton]; omega) (fun p hp => (List.mem_append.1 hp).elim (hd1 p) fun f => by obtain rfl := List.mem_singleton.1 f; exact b4) hd2
      | false =>
        rw [cond_false]
        obtain ⟨q, d, h1, b1, b2, b3, b4, b5, b6⟩ := itMake_f k hk hc.wf v1 v2 v4 v5
        rw [b1]
        simp only [Option.bind_some, It.tup]
        have B1 := Bx.keep hc.wf b2 (fun _ _ _ f => f)
        obtain ⟨sn, g1, g2, u1, u2, u3, u4⟩ := B1.addI b2.wf q d b3 (fun z hz => ⟨by have := b5 z hz; omega, fun f => by have := b5 z hz; have := Bx.op.lt hc.wf f; omega, fun f => by have := b5 z hz; have := Bx.oi.lt hc.wf f; omega⟩) (by omega)
        rw [show [Value.int .i64 q.st, Value.int .i64 q.gn, Value.slice d.a d.n d.c] = q.vs d from rfl, u1]
        simp only [Option.bind_some]
        rw [u2]
        simp only [Option.bind_some]
        have mm := same1_of (o := 3) (b2.keep pb pbl fun f => f)
        simp only [mm, Bool.and_self, cond_true, Option.bind_some]
        exact Pure.reps_l0 k hk w0 hpb rl hll hl6 hL x9 x10 x11 x12 x13 C B n (i + 1) g2 sp sn ps (is ++ [(q, d)]) (by omega) (by omega) ((hc.then b2).trans u3 fun z hz f => by omega) u4 (by rw [List.length_append, List.length_singleton]; omega) hd1 (fun p hp => (List.mem_append.1 hp).elim (hd2 p) fun f => by obtain rfl := List.mem_singleton.1 f; exact b4)
    · have hg : (cond (decide (Int.ofNat i < Int.ofNat l.n)) (some (decide (Int.ofNat i < (6 : Int)), h)) (some (false, h)) : Option (Bool × H)) = some (false, h) := by
        by_cases q : i < ls.length
        · rw [hll, decide_eq_true (show Int.ofNat i < Int.ofNat ls.length by simp; omega), decide_eq_false (show ¬ Int.ofNat i < (6 : Int) by simp; omega)]; rfl
        · rw [hll, decide_eq_false (show ¬ Int.ofNat i < Int.ofNat ls.length by simp; omega)]; rfl
      rw [hg]
      simp only [Option.bind_some, cond_false]
      exact ⟨h, sp, si, ps, is, rfl, hc, Bx, by omega, hd1, hd2⟩
set_option maxHeartbeats 4000000 in
theorem Pure.reps_f (k : Nat) (hk : 1000000 < k) {h : H} (w : WF h) (code boot : Int) {l : Sl} {ls : List (List Value)} (rl : SlR 6 h l ls.flatten) (hll : l.n = ls.length) (hl6 : ∀ l ∈ ls, l.length = 6) (hL : ∀ l ∈ ls, Pure.Six l) (pcs : Int) {raw : Sl} {x : List UInt8} (rr : SlR 1 h raw (byt x)) (hx : x.length ≤ 140737488355328) (how : Int) {at_ : Sl} {il : List Int} (ra : SlR 1 h at_ (ivs il)) (by_ : UInt8) :
    ∃ h', corbellaw11_CallReps.f k code boot l pcs raw how at_ (Int.ofNat by_.toNat) h = some (true, h') := by
  unfold corbellaw11_CallReps.f
  have P : ∀ (n m : Int) (h0 : 0 < m) (h1 : m ≤ 4611686018427387904) (g : H), corbelhand_Pick.f k n m g = some (n % m, g) := fun n m h0 h1 g => pick_f k n m g h0 h1
  rw [P code 14 (by decide) (by decide)]
  simp only [Option.bind_some]
  rw [P boot 2147483648 (by decide) (by decide)]
  simp only [Option.bind_some]
  rw [show [Value.int .i64 (0 : Int), Value.int .i64 0, Value.slice none 0 0, Value.slice none 0 0] = repV 0 0 NilS NilS from rfl, show [Value.int .i64 (code % 14), Value.int .i64 (boot % 2147483648), Value.slice none 0 0, Value.slice none 0 0] = repV (code % 14) (boot % 2147483648) NilS NilS from rfl]
  obtain ⟨g0, a1, a2, a3, a4⟩ := box_ok w 67 4 (repV 0 0 NilS NilS) (repV (code % 14) (boot % 2147483648) NilS NilS) rfl rfl rfl
  rw [a1]
  simp only [Option.bind_some]
  have J1 : ∃ C B g, ((cond ((how.tmod (19 : Int)) == (18 : Int))
      ((stv 1 g0 (some ⟨h.next, 0, none⟩) [(Value.int .i64 code)]).bind fun q4 =>
    (stv 1 q4.2 (some ⟨h.next, 1, none⟩) [(Value.int .i64 boot)]).bind fun q5 =>
    some ((), q5.2))
      (some ((), g0)) : Option ((Unit) × H))) = some ((), g) ∧ Ch0 h g ∧ Is g h.next 67 4 (repV C B NilS NilS) := by
    cases ((how.tmod (19 : Int)) == (18 : Int)) with
    | false => exact ⟨_, _, g0, rfl, a2, a4⟩
    | true =>
      obtain ⟨g1, b1, b2, b3, b4⟩ := a4.set a2.wf 0 (.int .i64 code) (by show 0 < 4; decide) rfl
      obtain ⟨g2, c1, c2, c3, c4⟩ := b4.set b2.wf 1 (.int .i64 boot) (by show 1 < 4; decide) rfl
      rw [cond_true, b1]
      simp only [Option.bind_some]
      rw [c1]
      exact ⟨code, boot, g2, rfl, Ch0.at (Ch0.at a2 b2 (Nat.le_refl _)) c2 (Nat.le_refl _), c4⟩
  obtain ⟨C, B, g, j1, j2, j3⟩ := J1
  rw [j1]
  simp only [Option.bind_some]
  rw [P pcs 4 (by decide) (by decide)]
  simp only [Option.bind_some]
  obtain ⟨g1, sp, si, ps, is, b1, b2, b3, b4, b5, b6⟩ := Pure.reps_l0 k (by omega) w (Nat.le_refl _) rl hll hl6 hL (pcs % 4) raw how at_ (Int.ofNat by_.toNat) C B k 0 g NilS NilS [] [] (by omega) (by omega) j2 (Bd.of_is j3) (Nat.zero_le _) (fun p hp => by cases hp) (fun p hp => by cases hp)
  rw [show (0 : Int) = Int.ofNat 0 from rfl, b1]
  simp only [Option.bind_some]
  generalize hQ : (⟨C, B, ps.map (·.1), is.map (·.1)⟩ : Rr) = Q
  rw [Is.rr b3.box, bindRr]
  dsimp only
  obtain ⟨g2, c1, c2⟩ := refRight_f k (by omega) b2.wf C B b3.pcr b3.itr (by omega) (by omega) Q hQ
  rw [c1]
  simp only [Option.bind_some]
  have B2 := b3.keep b2.wf c2 (fun _ _ _ f => f)
  have h2 := b2.then c2
  rw [Is.rr B2.box, bindRr]
  dsimp only
  obtain ⟨s4, g3, d1, d2, d3, d4⟩ := rrLay_f k (by omega) h2.wf C B B2.pcr B2.itr (by omega) (by omega) Q hQ
  rw [d1]
  simp only [Option.bind_some]
  have B3 := B2.keep h2.wf d2 (fun _ _ _ f => f)
  have h3 := h2.then d2
  -- what is wanted
  have J : ∃ sw g4, (cond Q.right
      ((asSt [(.int .i64), (.int .i64), .sl, .sl] (lda 4 g3 (some ⟨h.next, 0, none⟩))).bind fun s63 =>
    (corbelref7_LayRep.f k (s63.1, s63.2.1, s63.2.2.1, s63.2.2.2) g3).bind fun q64 =>
    some (q64.1, q64.2))
      (some ((⟨none, 0, 0⟩ : Sl), g3)) : Option ((Sl) × H)) = some (sw, g4) ∧ Ch0 g3 g4 ∧ Ow 5 1 g4 sw (byt (if Q.right then layRr Q else [])) := by
    cases hr : Q.right with
    | false => exact ⟨⟨none, 0, 0⟩, g3, rfl, Ch.refl d2.wf, Ow.nil⟩
    | true =>
      rw [cond_true, Is.rr B3.box, bindRr]
      dsimp only
      obtain ⟨sw, g4, v1, v2, v3, v4⟩ := refLay_f k (by omega) h3.wf C B B3.pcr B3.itr Q hQ hr
      rw [v1]
      exact ⟨sw, g4, rfl, v2, v3⟩
  obtain ⟨sw, g4, e1, e2, e3⟩ := J
  rw [e1]
  simp only [Option.bind_some]
  rw [txt_sl (d3.slr.stay d2.wf e2), txt_sl e3.slr]
  simp only [Option.bind_some, ba_eq, decide_true, Bool.not_true, cond_false]
  have h4 := h3.then e2
  have B4 := B3.keep h3.wf e2 (fun _ _ _ f => f)
  have G13 : (!(((if Q.right = true then (0 : Int) else 1) == Int.ofNat 0) == Q.right)) = false := by cases Q.right <;> rfl
  rw [G13]
  simp only [cond_false]
  have G14 : (cond (!Q.right) (some ((if Q.right = true then (0 : Int) else 1) != (1 : Int), g4)) (some (false, g4)) : Option (Bool × H)) = some (false, g4) := by cases Q.right <;> rfl
  rw [G14]
  simp only [Option.bind_some, cond_false]
  -- the bytes that are read
  obtain ⟨s6, g5, f1, f2, f3, f4⟩ := few_f k h4.wf (rr.stay w h4) x.length (by omega) (Int.ofNat raw.n) (by rw [rr.n_byt])
  rw [f1]
  simp only [Option.bind_some]
  have h5 := h4.then f2
  have e35 := e3.stay e2.wf f2
  have K : ∃ z y g6, ((cond Q.right (some (decide ((how.tmod (4 : Int)) > Int.ofNat 0), g5)) (some (false, g5))).bind fun g72 =>
    (cond g72.1
      ((corbelhand_Few.f k sw (Int.ofNat sw.n) g72.2).bind fun q73 =>
    (corbellaw11_CallReps.l1 k k how at_ (Int.ofNat by_.toNat) (some ⟨h.next, 0, none⟩) q73.1 (Int.ofNat 0) q73.2).bind fun w90 =>
    (corbelhand_Pick.f k (wrapA .i64 (how.tdiv (4 : Int))) (30 : Int) w90.2).bind fun q91 =>
    (asS (subs 1 (Value.slice q73.1.a q73.1.n q73.1.c) none (some (wrapA .i64 ((Int.ofNat q73.1.n) - (wrapA .i64 (q91.1.tdiv (28 : Int)))))))).bind fun s92 =>
    some (s92, q91.2))
      (some (s6, g72.2)) : Option ((Sl) × H))) = some (z, g6) ∧ Ch0 g5 g6 ∧ SlR 1 g6 z (byt y) ∧ y.length ≤ 140737488355328 := by
    have no : ∃ z y g6, (some (s6, g5) : Option (Sl × H)) = some (z, g6) ∧ Ch0 g5 g6 ∧ SlR 1 g6 z (byt y) ∧ y.length ≤ 140737488355328 := ⟨s6, _, g5, rfl, Ch.refl f2.wf, f3.slr, by rw [List.length_take]; omega⟩
    cases hr : Q.right with
    | false => exact no
    | true =>
      simp only [cond_true, Option.bind_some]
      cases (decide ((how.tmod (4 : Int)) > Int.ofNat 0)) with
      | false => exact no
      | true =>
        rw [hr, if_pos rfl] at e35
        have RR := (Rr.right_iff Q).1 hr
        have RP := RR.pl
        have RI := RR.il
        have hl := layRr_len Q RR
        obtain ⟨z, g6, u1, u2, u3, u4⟩ := few_f k h5.wf e35.slr (layRr Q).length (by omega) (Int.ofNat sw.n) (by rw [e35.slr.n_byt])
        rw [cond_true, u1]
        simp only [Option.bind_some]
        rw [List.take_of_length_le (Nat.le_refl _)] at u3
        obtain ⟨g7, y, v1, v2, v3, v4⟩ := Pure.reps_l1 k how (some ⟨h.next, 0, none⟩) h5.wf (ra.stay w h5) by_ k 0 g6 z (layRr Q) (by omega) (by omega) u2 u3 u4 (by omega) (by omega)
        rw [v1]
        simp only [Option.bind_some]
        rw [P _ 30 (by decide) (by decide)]
        simp only [Option.bind_some]
        have m1 := Int.emod_nonneg (wrapA .i64 (how.tdiv 4)) (show (30 : Int) ≠ 0 by decide)
        have m2 := Int.emod_lt_of_pos (wrapA .i64 (how.tdiv 4)) (show (0 : Int) < 30 by decide)
        generalize wrapA .i64 (how.tdiv 4) % 30 = mm at m1 m2
        obtain ⟨t, ht, ht2⟩ : ∃ t : Nat, mm.tdiv 28 = Int.ofNat t ∧ t ≤ 1 := by
          rw [Int.tdiv_eq_ediv_of_nonneg m1]
          exact ⟨(mm / 28).toNat, by simp only [Int.ofNat_eq_natCast]; omega, by omega⟩
        rw [ht, wrap_in (n := Int.ofNat t) (by simp only [Int.ofNat_eq_natCast]; omega) (by simp only [Int.ofNat_eq_natCast]; omega)]
        have zn := v3.slr.n_byt
        rw [wrap_in (n := Int.ofNat z.n - Int.ofNat t) (by rw [zn]; simp only [Int.ofNat_eq_natCast]; omega) (by rw [zn]; simp only [Int.ofNat_eq_natCast]; omega)]
        rw [show Int.ofNat z.n - Int.ofNat t = Int.ofNat (y.length - t) by rw [zn]; simp only [Int.ofNat_eq_natCast]; omega]
        obtain ⟨s9, w1, w2, w3, w4⟩ := subb_ok v3.slr (lo := 0) (hi := y.length - t) (Nat.zero_le _) (by omega) (xlo := none) (xhi := some (Int.ofNat (y.length - t))) rfl rfl
        rw [w1]
        exact ⟨s9, _, g7, rfl, v2, w3, by rw [List.length_take, List.length_drop]; omega⟩
  obtain ⟨z, y, g6, k1, k2, k3, k4⟩ := K
  rw [← Option.bind_assoc, k1]
  simp only [Option.bind_some]
  have h6 := h5.then k2
  obtain ⟨c', b', sp1, si1, ps1, is1, g7, l1, l2, l3, l4, l5⟩ := rrRead_f k hk h6.wf k3 k4
  rw [l1]
  simp only [Option.bind_some]
  rw [show [Value.int .i64 c', Value.int .i64 b', Value.slice sp1.a sp1.n sp1.c, Value.slice si1.a si1.n si1.c] = repV c' b' sp1 si1 from rfl]
  rw [show repV (Int.ofNat 0) (Int.ofNat 0) NilS NilS = repV 0 0 NilS NilS from rfl]
  obtain ⟨g8, m1, m2, m3, m4⟩ := box_ok l2.wf 67 4 (repV 0 0 NilS NilS) (repV c' b' sp1 si1) rfl rfl rfl
  rw [m1]
  simp only [Option.bind_some]
  have c68 : Ch0 g6 g8 := l2.then m2
  obtain ⟨c'', b'', sp2, si2, ps2, is2, g9, n1, n2, n3, n4, n5⟩ := refRead_f k hk c68.wf (k3.stay h6.wf c68) k4
  rw [n1]
  simp only [Option.bind_some]
  rw [show [Value.int .i64 c'', Value.int .i64 b'', Value.slice sp2.a sp2.n sp2.c, Value.slice si2.a si2.n si2.c] = repV c'' b'' sp2 si2 from rfl]
  obtain ⟨g10, o1, o2, o3, o4⟩ := box_ok n2.wf 67 4 (repV 0 0 NilS NilS) (repV c'' b'' sp2 si2) rfl rfl rfl
  rw [o1]
  simp only [Option.bind_some, cond_true]
  have c810 : Ch0 g8 g10 := n2.then o2
  have M4 := m4.stay m2.wf c810
  rw [Is.rr M4, bindRr]
  rw [Is.rr o4, bindRr]
  dsimp only
  have pn1 : ps1.length ≤ 2 ∧ is1.length ≤ 16 := by
    cases hr : readRr y with
    | none =>
      rw [hr] at l5
      have e1 : ps1.map (·.1) = [] := congrArg Rr.ps l5
      have e2 : is1.map (·.1) = [] := congrArg Rr.is l5
      have e1 := congrArg List.length e1
      have e2 := congrArg List.length e2
      rw [List.length_map] at e1 e2
      exact ⟨by rw [e1]; exact Nat.zero_le _, by rw [e2]; exact Nat.zero_le _⟩
    | some q =>
      rw [hr] at l5
      have R := (Rr.right_iff q).1 (readRr_some hr).1
      have e1 : ps1.map (·.1) = q.ps := congrArg Rr.ps l5
      have e2 : is1.map (·.1) = q.is := congrArg Rr.is l5
      have e1 := congrArg List.length e1
      have e2 := congrArg List.length e2
      rw [List.length_map] at e1 e2
      exact ⟨by rw [e1]; exact R.pl, by rw [e2]; exact R.il⟩
  generalize hR : (readRr y).getD Rr.zero = R at l5 n5
  have L3 := (l3.stay l2.wf m2).stay m2.wf c810
  have L4 := (l4.stay l2.wf m2).stay m2.wf c810
  have N3 := n3.stay n2.wf o2
  have N4 := n4.stay n2.wf o2
  obtain ⟨g11, p1, p2⟩ := rrSame_f k (by omega) c810.wf c' c'' b' b'' L3 L4 N3 N4 (by omega) (by omega) R R l5 n5
  rw [p1, Rr.same_self]
  simp only [Option.bind_some, cond_true]
  have E1 : (((if (readRr y).isSome = true then (0 : Int) else 2) == Int.ofNat 0) == (readRr y).isSome) = true := by cases (readRr y).isSome <;> rfl
  rw [E1]
  simp only [Option.bind_some, cond_true]
  have E2 : (cond (readRr y).isSome (some (true, g11, [], [])) (some ((if (readRr y).isSome = true then (0 : Int) else 2) == (2 : Int), g11, [], [])) : Option (Bool × H × LEs × EFs)) = some (true, g11, [], []) := by cases (readRr y).isSome <;> rfl
  rw [E2]
  simp only [Option.bind_some, cond_true]
  have c11 : Ch0 g4 g11 := ((((f2.then k2).then c68).then c810).then p2)
  have B11 := B4.keep h4.wf c11 (fun _ _ _ f => f)
  rw [Is.rr B11.box, bindRr]
  have c8b := c810.then p2
  rw [Is.rr (M4.stay c810.wf p2), bindRr]
  dsimp only
  obtain ⟨g12, q1, q2⟩ := rrCSame_f k (by omega) p2.wf C c' B b' B11.pcr B11.itr (L3.stay c810.wf p2) (L4.stay c810.wf p2) (by omega) (by omega) (fun p hp => Nat.le_trans (b5 p hp) (by decide)) (fun p hp => Nat.le_trans (b6 p hp) (by decide)) Q R hQ l5
  rw [q1]
  simp only [Option.bind_some]
  have B12 := B11.keep p2.wf q2 (fun _ _ _ f => f)
  rw [Is.rr B12.box, bindRr]
  have c12 := p2.then q2
  rw [Is.rr (o4.stay o2.wf c12), bindRr]
  dsimp only
  obtain ⟨g13, r1, r2⟩ := rrSame_f k (by omega) q2.wf C c'' B b'' B12.pcr B12.itr (N3.stay c810.wf c12) (N4.stay c810.wf c12) (by omega) (by omega) Q R hQ n5
  rw [r1]
  simp only [Option.bind_some]
  have V1 : sameVer g11 g12 h.next = true := sameVer_of (q2.keep h.next (B11.box.lt p2.wf) fun f => f)
  have V2 : sameVer g11 g12 g9.next = true := sameVer_of (q2.keep g9.next ((o4.stay o2.wf p2).lt p2.wf) fun f => f)
  rw [show dynL [(23, 22), (24, 22)] ((([] ++ []) ++ []) ++ ([(23, blkOf (some (Value.pointer (some ⟨h.next, 0, none⟩))))] ++ [(24, blkOf (some (Value.pointer (some ⟨g9.next, 0, none⟩))))])) ((([] ++ []) ++ []) ++ [(22, g11, g12)]) = true by simp [dynL, blkOf, V1, V2]]
  rw [cond_true, beq_self_eq_true]
  exact ⟨g13, rfl⟩
theorem Pure.CallReps : ∀ h x vs, Den.WF h → Den.Dead h → Ar.CallReps.R h x vs → Ar.CallReps.Q x → ∃ a, Den.encL [.int .i64, .int .i64, .sl, .int .i64, .sl, .int .i64, .sl, .int .u8] a = vs ∧ Den.toldB (Fwd.corbellaw11_CallReps.f 2000000 a.1 a.2.1 a.2.2.1 a.2.2.2.1 a.2.2.2.2.1 a.2.2.2.2.2.1 a.2.2.2.2.2.2.1 a.2.2.2.2.2.2.2 h) = true := by
  rintro h ⟨code, boot, l, pcs, raw, how, at_, by_, _⟩ vs w _ ⟨va, vb, rfl, r1, vc, vd, rfl, r2, ve, vf, rfl, r3, vg, vh, rfl, r4, vi, vj, rfl, r5, vk, vl, rfl, r6, vm, vn, rfl, r7, vo, vp, rfl, r8, rfl⟩ ⟨_, _, _, _, ⟨q1, _, q2⟩, _, _, q3, _⟩
  obtain rfl := r1
  obtain rfl := r2
  obtain rfl := r4
  obtain rfl := r6
  obtain rfl := r8
  obtain ⟨sl, ls, rfl, l1, l2, l3, l4, l5, l6⟩ := RSl.many w (by decide) r3
  obtain ⟨s, rfl, s1, s2, _⟩ := RSl.one (f := fun n => .int .u8 n) (fun _ _ _ e => e) w r5
  obtain ⟨t, rfl, t1, _⟩ := RSl.one (f := fun n => .int .i64 n) (fun _ _ _ e => e) w r7
  obtain ⟨by_, rfl⟩ := Pure.wf8 q3
  obtain ⟨x, e1, e2⟩ := Pure.asBytes raw q2
  rw [e1] at s1
  have hb : Try.prog.bytesOf 5 = 1 := by kernel_rfl
  have hlen : x.length ≤ 140737488355328 := by
    have q1 : raw.length * Try.prog.bytesOf 5 ≤ reachBytes := q1
    rw [hb] at q1
    have : reachBytes ≤ 140737488355328 := by unfold reachBytes; decide
    omega
  have six : ∀ m ∈ ls, Pure.Six m := fun m hm => by
    obtain ⟨i, hi, eq⟩ := List.mem_iff_getElem.1 hm
    have hil : i < l.length := by rw [← l3]; exact hi
    have := l5 i (l[i]'hil) m (List.getElem?_eq_getElem hil) (by rw [List.getElem?_eq_getElem hi, eq])
    generalize l[i]'hil = li at this
    obtain ⟨a, b, c, d, e, f⟩ := li
    obtain ⟨x1, y1, rfl, r1, x2, y2, rfl, r2, x3, y3, rfl, r3, x4, y4, rfl, r4, x5, y5, rfl, r5, r6⟩ := this
    obtain rfl := r1
    obtain rfl := r2
    obtain rfl := r3
    obtain rfl := r4
    obtain rfl := r5
    obtain rfl := r6
    exact ⟨a, b, c, d, e, f, rfl⟩
  obtain ⟨h', g⟩ := Pure.reps_f 2000000 (by decide) w code boot l2 (by rw [l1, l3]) l4 six pcs s1 hlen how t1 by_
  exact ⟨(code, boot, sl, pcs, s, how, t, Int.ofNat by_.toNat), rfl, (congrArg toldB g).trans rfl⟩
end Go.Proofs.Ythpkhegoamhgeaa
