/- call's requests, as plain lists: the parts. No condition. -/
import Derived.Test.YthpkhegoamhgeaaFwRq
import Derived.Test.YthpkhegoamhgeaaFCall
import Derived.Lib.Strings
namespace Go.Proofs.Ythpkhegoamhgeaa.Fw
open Go Den Fwd
set_option linter.unusedVariables false
set_option linter.unusedSimpArgs false
theorem ba_eq (a b : List UInt8) : ((ByteArray.mk a.toArray).toList == (ByteArray.mk b.toArray).toList) = decide (a = b) := by
  have e : ∀ l : List UInt8, (ByteArray.mk l.toArray).toList = l := fun l => by
    rw [Lib.toList_data]
  rw [e, e]
  by_cases c : a = b
  · subst c; simp
  · rw [decide_eq_false c]; exact beq_eq_false_iff_ne.2 c
theorem txt_sl {h : H} {s : Sl} {bs : List UInt8} (r : SlR 1 h s (byt bs)) : asT (txt h (.slice s.a s.n s.c)) = some ⟨bs.toArray⟩ := by rw [txt_ok r]; rfl
theorem same1_sl {h h' : H} {s : Sl} (e : ∀ b, SlB s b → h'.get b = h.get b) : same1 h h' (some (.slice s.a s.n s.c)) = true := by
  obtain ⟨a, n, c⟩ := s
  unfold same1
  rcases a with _ | ⟨b, o, _ | s⟩
  · rfl
  · exact sameVer_of (e b ⟨o, rfl⟩)
  · rfl
/-- a box, all of it stored -/
theorem Is.whole {h : H} (w : WF h) {b e n : Nat} {l : List Value} (I : Is h b e n l) (hl : l.length = n) (vs : List Value) (hv : vs.length = n) (h1 : vs.all Den.one = true) :
    ∃ h', stv n h (some ⟨b, 0, none⟩) vs = some (undef, h') ∧ Ch (fun c => c = b) h h' ∧ h'.next = h.next ∧ Is h' b e n vs := by
  obtain ⟨h', e1, e2, e3, e4⟩ := stv_ok w I (o := 0) vs (by omega) h1
  rw [hv] at e1
  refine ⟨h', e1, e2, e3, ?_⟩
  have : over l 0 vs = vs := by
    unfold over
    rw [List.take_zero, List.nil_append, List.drop_eq_nil_of_le (by omega), List.append_nil]
  rw [← this]; exact e4
/-! ### numbers as bytes, whole numbers -/
theorem cbytes_l0 (k : Nat) (n : Nat) {h0 : H} : ∀ f s h acc (pre : List UInt8), s < f → s ≤ 8 → pre.length + s ≤ 1000 → Ch0 h0 h → Ow 5 1 h acc (byt pre) → (∀ b, SlB acc b → h0.next ≤ b) →
    ∃ acc' h', call_bytes.l0 k f (Int.ofNat n) acc (Int.ofNat s - 1) h = some (acc', h') ∧ Ch0 h0 h' ∧ Ow 5 1 h' acc' (byt (pre ++ beN n s)) ∧ ∀ b, SlB acc' b → h0.next ≤ b
  | 0, s, h, acc, pre, hf, _, _, _, _, _ => by omega
  | f + 1, 0, h, acc, pre, hf, _, _, hc, ho, hb => by
    rw [call_bytes.l0_succ, decide_eq_false (show ¬ Int.ofNat 0 - 1 ≥ (0 : Int) by decide), cond_false]
    exact ⟨acc, h, rfl, hc, by rw [beN, List.append_nil]; exact ho, hb⟩
  | f + 1, s + 1, h, acc, pre, hf, hs, hp, hc, ho, hb => by
    rw [call_bytes.l0_succ, show Int.ofNat (s + 1) - 1 = Int.ofNat s by simp only [Int.ofNat_eq_natCast]; omega, decide_eq_true (show Int.ofNat s ≥ (0 : Int) from Int.natCast_nonneg s), cond_true]
    rw [wrap_in (n := (8 : Int) * Int.ofNat s) (by simp only [Int.ofNat_eq_natCast]; omega) (by simp only [Int.ofNat_eq_natCast]; omega), show (8 : Int) * Int.ofNat s = Int.ofNat (8 * s) from rfl]
    rw [show binA Try.prog .shr 3 (Value.int .i64 (Int.ofNat n)) (Value.int .i64 (Int.ofNat (8 * s))) = some (.int .i64 ((Int.ofNat n).fdiv (2 ^ min (8 * s) 64))) from rfl, Nat.min_eq_left (by omega), fdiv_pow]
    simp only [asI_int, Option.bind_some]
    obtain ⟨s', h', e1, e2, e3, e4⟩ := push_b hc.wf ho (UInt8.ofNat (n / 256 ^ s)) _ (wrap_u8n _) (by omega)
    rw [e1]
    simp only [Option.bind_some]
    rw [wrap_in (n := Int.ofNat s - 1) (by simp only [Int.ofNat_eq_natCast]; omega) (by simp only [Int.ofNat_eq_natCast]; omega)]
    obtain ⟨acc', h2, f1, f2, f3, f4⟩ := cbytes_l0 k n f s h' s' (pre ++ [UInt8.ofNat (n / 256 ^ s)]) (by omega) (by omega) (by rw [List.length_append, List.length_singleton]; omega) (Ch0.own hc e2 hb) e3 fun b hb' => (e4 b hb').elim (hb b) fun q => Nat.le_trans hc.le q
    exact ⟨acc', h2, f1, f2, by rw [List.append_assoc] at f3; exact f3, f4⟩
theorem cbytes_f (k : Nat) (hk : 1000 < k) (n s : Nat) (hs : s ≤ 8) {h : H} (w : WF h) (m : Int) (hm : m = Int.ofNat n) (t : Int) (ht : t = Int.ofNat s) :
    ∃ s' h', call_bytes.f k m t h = some (s', h') ∧ Ch0 h h' ∧ Ow 5 1 h' s' (byt (beN n s)) ∧ ∀ b, SlB s' b → h.next ≤ b := by
  subst hm; subst ht
  unfold call_bytes.f
  rw [wrap_in (n := Int.ofNat s - 1) (by simp only [Int.ofNat_eq_natCast]; omega) (by simp only [Int.ofNat_eq_natCast]; omega)]
  obtain ⟨a, h', e1, e2, e3, e4⟩ := cbytes_l0 k n (h0 := h) k s h ⟨none, 0, 0⟩ [] (by omega) hs (by show 0 + s ≤ 1000; omega) (Ch.refl w) Ow.nil fun b hb => by obtain ⟨o, q⟩ := hb; cases q
  rw [e1]
  exact ⟨a, h', rfl, e2, e3, e4⟩
theorem big_l0 (k : Nat) (n : Nat) {h0 : H} : ∀ f s h acc (pre : List UInt8), s < f → s ≤ 8 → pre.length + s ≤ 1000 → Ch0 h0 h → Ow 5 1 h acc (byt pre) → (∀ b, SlB acc b → h0.next ≤ b) →
    ∃ acc' h', corbelref7_Big.l0 k f (Int.ofNat n) acc (Int.ofNat s - 1) h = some (acc', h') ∧ Ch0 h0 h' ∧ Ow 5 1 h' acc' (byt (pre ++ beN n s)) ∧ ∀ b, SlB acc' b → h0.next ≤ b
  | 0, s, h, acc, pre, hf, _, _, _, _, _ => by omega
  | f + 1, 0, h, acc, pre, hf, _, _, hc, ho, hb => by
    rw [corbelref7_Big.l0_succ, decide_eq_false (show ¬ Int.ofNat 0 - 1 ≥ (0 : Int) by decide), cond_false]
    exact ⟨acc, h, rfl, hc, by rw [beN, List.append_nil]; exact ho, hb⟩
  | f + 1, s + 1, h, acc, pre, hf, hs, hp, hc, ho, hb => by
    rw [corbelref7_Big.l0_succ, show Int.ofNat (s + 1) - 1 = Int.ofNat s by simp only [Int.ofNat_eq_natCast]; omega, decide_eq_true (show Int.ofNat s ≥ (0 : Int) from Int.natCast_nonneg s), cond_true]
    rw [wrap_in (n := (8 : Int) * Int.ofNat s) (by simp only [Int.ofNat_eq_natCast]; omega) (by simp only [Int.ofNat_eq_natCast]; omega), show (8 : Int) * Int.ofNat s = Int.ofNat (8 * s) from rfl, wrap_u64 (n := Int.ofNat (8 * s)) (by simp only [Int.ofNat_eq_natCast]; omega) (by simp only [Int.ofNat_eq_natCast]; omega)]
    rw [show binA Try.prog .shr 3 (Value.int .i64 (Int.ofNat n)) (Value.int .u64 (Int.ofNat (8 * s))) = some (.int .i64 ((Int.ofNat n).fdiv (2 ^ min (8 * s) 64))) from rfl, Nat.min_eq_left (by omega), fdiv_pow]
    simp only [asI_int, Option.bind_some]
    obtain ⟨s', h', e1, e2, e3, e4⟩ := push_b hc.wf ho (UInt8.ofNat (n / 256 ^ s)) _ (wrap_u8n _) (by omega)
    rw [e1]
    simp only [Option.bind_some]
    rw [wrap_in (n := Int.ofNat s - 1) (by simp only [Int.ofNat_eq_natCast]; omega) (by simp only [Int.ofNat_eq_natCast]; omega)]
    obtain ⟨acc', h2, f1, f2, f3, f4⟩ := big_l0 k n f s h' s' (pre ++ [UInt8.ofNat (n / 256 ^ s)]) (by omega) (by omega) (by rw [List.length_append, List.length_singleton]; omega) (Ch0.own hc e2 hb) e3 fun b hb' => (e4 b hb').elim (hb b) fun q => Nat.le_trans hc.le q
    exact ⟨acc', h2, f1, f2, by rw [List.append_assoc] at f3; exact f3, f4⟩
theorem big_f (k : Nat) (hk : 1000 < k) (n s : Nat) (hs : s ≤ 8) {h : H} (w : WF h) (m : Int) (hm : m = Int.ofNat n) (t : Int) (ht : t = Int.ofNat s) :
    ∃ s' h', corbelref7_Big.f k m t h = some (s', h') ∧ Ch0 h h' ∧ Ow 5 1 h' s' (byt (beN n s)) ∧ ∀ b, SlB s' b → h.next ≤ b := by
  subst hm; subst ht
  unfold corbelref7_Big.f
  rw [wrap_in (n := Int.ofNat s - 1) (by simp only [Int.ofNat_eq_natCast]; omega) (by simp only [Int.ofNat_eq_natCast]; omega)]
  obtain ⟨a, h', e1, e2, e3, e4⟩ := big_l0 k n (h0 := h) k s h ⟨none, 0, 0⟩ [] (by omega) hs (by show 0 + s ≤ 1000; omega) (Ch.refl w) Ow.nil fun b hb => by obtain ⟨o, q⟩ := hb; cases q
  rw [e1]
  exact ⟨a, h', rfl, e2, e3, e4⟩
/-- one step of reading -/
theorem or_step {acc : Nat} {c : UInt8} (hb : acc < 281474976710656) : asI .i64 (intA .or .i64 (wrapA .i64 (Int.ofNat acc * 2 ^ 8)) (wrapA .i64 (Int.ofNat c.toNat))) = some (Int.ofNat (acc * 256 + c.toNat)) := by
  have hc := c.toNat_lt
  rw [wrap_in (n := Int.ofNat acc * 2 ^ 8) (by simp only [Int.ofNat_eq_natCast]; omega) (by simp only [Int.ofNat_eq_natCast]; omega), wrap_in (n := Int.ofNat c.toNat) (by simp only [Int.ofNat_eq_natCast]; omega) (by simp only [Int.ofNat_eq_natCast]; omega)]
  rw [show Int.ofNat acc * 2 ^ 8 = Int.ofNat (acc * 2 ^ 8) from rfl]
  rw [show intA .or .i64 (Int.ofNat (acc * 2 ^ 8)) (Int.ofNat c.toNat) = cond (Nat.blt (acc * 2 ^ 8) (2 ^ 64) && Nat.blt c.toNat (2 ^ 64)) (some (.int .i64 (wrapA .i64 (Int.ofNat (Nat.lor (acc * 2 ^ 8) c.toNat))))) none from rfl]
  rw [cond_eta _ _ _ (by rw [Bool.and_eq_true]; exact ⟨Nat.ble_eq_true_of_le (by omega), Nat.ble_eq_true_of_le (by omega)⟩), or_byte _ _ hc]
  rw [wrap_in (n := Int.ofNat (acc * 256 + c.toNat)) (by simp only [Int.ofNat_eq_natCast]; omega) (by simp only [Int.ofNat_eq_natCast]; omega), asI_int]
theorem unbe_take_lt {x : List UInt8} {j : Nat} (hj : j ≤ 6) : unbe (x.take j) < 281474976710656 := by
  have h1 := unbe_bound (x.take j)
  have h2 : (x.take j).length ≤ 6 := by rw [List.length_take]; omega
  have h3 : (256 : Nat) ^ (x.take j).length ≤ 256 ^ 6 := Nat.pow_le_pow_right (by decide) h2
  omega
theorem cnumber_l0 (k : Nat) {h : H} {s : Sl} {x : List UInt8} (r : SlR 1 h s (byt x)) (hx : x.length ≤ 7) : ∀ f j acc, x.length - j < f → j ≤ x.length → acc = unbe (x.take j) →
    call_reader_number.l0 k f s (Int.ofNat x.length) (Int.ofNat acc) (Int.ofNat j) h = some (Int.ofNat (unbe x), h)
  | 0, j, acc, hf, _, _ => by omega
  | f + 1, j, acc, hf, hj, ha => by
    rw [call_reader_number.l0_succ]
    by_cases c : j < x.length
    · rw [decide_eq_true (show Int.ofNat j < Int.ofNat x.length by simp; omega), cond_true]
      obtain ⟨p, e1, e2⟩ := r.byte (List.getElem?_eq_getElem c)
      rw [e1]
      simp only [asP_ptr, Option.bind_some, e2, asI_int]
      rw [or_step (by rw [ha]; exact unbe_take_lt (by omega))]
      simp only [Option.bind_some]
      rw [wrap_succ (by omega)]
      have ht : x.take (j + 1) = x.take j ++ [x[j]] := by simp
      exact cnumber_l0 k r hx f (j + 1) _ (by omega) (by omega) (by rw [ht, unbe_snoc, ha])
    · rw [decide_eq_false (show ¬ Int.ofNat j < Int.ofNat x.length by simp; omega), cond_false]
      rw [List.take_of_length_le (by omega)] at ha
      rw [ha]
theorem from_l0 (k : Nat) {h : H} {s : Sl} {x : List UInt8} (r : SlR 1 h s (byt x)) (hx : x.length ≤ 7) : ∀ f j acc, x.length - j < f → j ≤ x.length → acc = unbe (x.take j) →
    corbelref7_From.l0 k f s (Int.ofNat acc) (Int.ofNat j) h = some (Int.ofNat (unbe x), h)
  | 0, j, acc, hf, _, _ => by omega
  | f + 1, j, acc, hf, hj, ha => by
    rw [corbelref7_From.l0_succ, r.n_byt]
    by_cases c : j < x.length
    · rw [decide_eq_true (show Int.ofNat j < Int.ofNat x.length by simp; omega), cond_true]
      obtain ⟨p, e1, e2⟩ := r.byte (List.getElem?_eq_getElem c)
      rw [r.n_byt] at e1
      rw [e1]
      simp only [asP_ptr, Option.bind_some, e2, asI_int]
      rw [or_step (by rw [ha]; exact unbe_take_lt (by omega))]
      simp only [Option.bind_some]
      rw [wrap_succ (by omega)]
      have ht : x.take (j + 1) = x.take j ++ [x[j]] := by simp
      exact from_l0 k r hx f (j + 1) _ (by omega) (by omega) (by rw [ht, unbe_snoc, ha])
    · rw [decide_eq_false (show ¬ Int.ofNat j < Int.ofNat x.length by simp; omega), cond_false]
      rw [List.take_of_length_le (by omega)] at ha
      rw [ha]
theorem from_f (k : Nat) (hk : 1000 < k) {h : H} {s : Sl} {x : List UInt8} (r : SlR 1 h s (byt x)) (hx : x.length ≤ 7) : corbelref7_From.f k s h = some (Int.ofNat (unbe x), h) := by
  unfold corbelref7_From.f
  have := from_l0 k r hx k 0 0 (by omega) (Nat.zero_le _) rfl
  rw [show (0 : Int) = Int.ofNat 0 from rfl, this]; rfl
/-! ### the reader -/
def takeP (x : List UInt8) (n : Nat) : List UInt8 × List UInt8 := if x.length < n then ([], []) else (x.take n, x.drop n)
theorem take_f (k : Nat) {h : H} (w : WF h) {rb : Nat} {s : Sl} {lk : Bool} {x : List UInt8} (I : Is h rb 92 2 [slv s, .bool lk]) (r : SlR 1 h s (byt x)) (hs : ¬ SlB s rb) (hx : x.length ≤ 140737488355328) (n : Nat) :
    ∃ s' t h', call_reader_take.f k (some ⟨rb, 0, none⟩) (Int.ofNat n) h = some (t, h') ∧ Ch (fun b => b = rb) h h' ∧ Is h' rb 92 2 [slv s', .bool (lk || decide (x.length < n))] ∧ SlR 1 h' s' (byt (takeP x n).2) ∧ SlR 1 h' t (byt (takeP x n).1) ∧ (∀ b, SlB s' b → SlB s b) ∧ (∀ b, SlB t b → h.next ≤ b) := by
  unfold call_reader_take.f
  simp only [nilA, asP_ptr, Option.bind_some, fadd, I.ldc]
  simp only [List.getElem?_cons_zero, Nat.add_zero, asS_slv, Option.bind_some, r.n_byt]
  by_cases c : x.length < n
  · rw [decide_eq_true (show Int.ofNat n > Int.ofNat x.length by simp; omega), cond_true]
    obtain ⟨h1, a1, a2, a3, a4⟩ := I.set w 0 (slv ⟨none, 0, 0⟩) (by show 0 < 2; decide) rfl
    rw [show [Value.slice none 0 0] = [slv ⟨none, 0, 0⟩] from rfl, a1]
    simp only [Option.bind_some]
    obtain ⟨h2, b1, b2, b3, b4⟩ := a4.set a2.wf 1 (.bool true) (by show 1 < 2; decide) rfl
    rw [show (0 + 1 : Nat) = 1 from rfl, b1]
    have e : takeP x n = ([], []) := by unfold takeP; rw [if_pos c]
    rw [e, decide_eq_true c, Bool.or_true]
    exact ⟨⟨none, 0, 0⟩, ⟨none, 0, 0⟩, h2, rfl, a2.trans b2 fun _ _ f => f, b4, .inl ⟨rfl, .inl rfl⟩, .inl ⟨rfl, .inl rfl⟩, fun b hb => (by obtain ⟨o, q⟩ := hb; cases q), fun b hb => (by obtain ⟨o, q⟩ := hb; cases q)⟩
  · rw [decide_eq_false (show ¬ Int.ofNat n > Int.ofNat x.length by simp; omega), cond_false]
    have e : takeP x n = (x.take n, x.drop n) := by unfold takeP; rw [if_neg c]
    rw [e, decide_eq_false c, Bool.or_false]
    obtain ⟨s1, a1, a2, a3, a4⟩ := subb_ok r (lo := 0) (hi := n) (Nat.zero_le _) (by omega) (xlo := none) (xhi := some (Int.ofNat n)) rfl rfl
    rw [r.n_byt] at a1
    rw [a1]
    simp only [asS_slv, Option.bind_some]
    rw [List.drop_zero, Nat.sub_zero] at a3
    obtain ⟨t, h1, b1, b2, b3, b4, b5⟩ := clone_f k w a3 (by rw [List.length_take]; omega)
    rw [b1]
    simp only [Option.bind_some]
    have I1 := I.stay w b2
    rw [I1.ldc]
    simp only [List.getElem?_cons_zero, asS_slv, Option.bind_some]
    have r1 := r.stay w b2
    obtain ⟨s2, c1, c2, c3, c4⟩ := subb_ok r1 (lo := n) (hi := x.length) (by omega) (Nat.le_refl _) (xlo := some (Int.ofNat n)) (xhi := none) rfl (by rw [r.n_byt]; rfl)
    rw [c1]
    simp only [asS_slv, Option.bind_some]
    obtain ⟨h2, d1, d2, d3, d4⟩ := I1.set b2.wf 0 (slv s2) (by show 0 < 2; decide) rfl
    rw [show [Value.slice s2.a s2.n s2.c] = [slv s2] from rfl, d1]
    have rl := I.lt w
    refine ⟨s2, t, h2, rfl, (b2.mono fun _ _ f => f.elim).trans d2 fun _ _ f => f, d4, ?_, (b3.keep fun b hb => d2.keep b (b3.lt b2.wf hb) (by have := b5 b hb; omega)).slr, c4, b5⟩
    rw [List.take_of_length_le (by rw [List.length_drop]; exact Nat.le_refl _)] at c3
    exact c3.keep fun b hb => d2.keep b (c3.blk b2.wf hb) fun f => hs (by subst f; exact c4 _ hb)
theorem cnumber_f (k : Nat) (hk : 1000 < k) {h : H} (w : WF h) {rb : Nat} {s : Sl} {lk : Bool} {x : List UInt8} (I : Is h rb 92 2 [slv s, .bool lk]) (r : SlR 1 h s (byt x)) (hs : ¬ SlB s rb) (hx : x.length ≤ 140737488355328) (n : Nat) (hn : n ≤ 7) (m : Int) (hm : m = Int.ofNat n) :
    ∃ s' h', call_reader_number.f k (some ⟨rb, 0, none⟩) m h = some (Int.ofNat (unbe (takeP x n).1), h') ∧ Ch (fun b => b = rb) h h' ∧ Is h' rb 92 2 [slv s', .bool (lk || decide (x.length < n))] ∧ SlR 1 h' s' (byt (takeP x n).2) ∧ (∀ b, SlB s' b → SlB s b) := by
  subst hm
  unfold call_reader_number.f
  obtain ⟨s', t, h', a1, a2, a3, a4, a5, a6, a7⟩ := take_f k w I r hs hx n
  rw [a1]
  simp only [Option.bind_some]
  have hl : (takeP x n).1.length ≤ 7 := by
    unfold takeP
    split
    · exact Nat.zero_le _
    · show (x.take n).length ≤ 7; rw [List.length_take]; omega
  have := cnumber_l0 k a5 hl k 0 0 (by omega) (Nat.zero_le _) rfl
  rw [a5.n_byt, show (0 : Int) = Int.ofNat 0 from rfl, this]
  exact ⟨s', h', rfl, a2, a3, a4, a6⟩
/-! ### slices.Equal -/
theorem equal_l0 (k : Nat) {h : H} {s t : Sl} {x y : List UInt8} (r : SlR 1 h s (byt x)) (q : SlR 1 h t (byt y)) (hl : x.length = y.length) (hx : x.length < 9223372036854775807) : ∀ f j, x.length - j < f → j ≤ x.length → x.take j = y.take j →
    slices_Equal_byte_byte.l0 k f s t (Int.ofNat x.length) (Int.ofNat j) h = some (if x = y then .inr () else .inl false, h)
  | 0, j, hf, _, _ => by omega
  | f + 1, j, hf, hj, ha => by
    rw [slices_Equal_byte_byte.l0_succ]
    by_cases c : j < x.length
    · rw [decide_eq_true (show Int.ofNat j < Int.ofNat x.length by simp; omega), cond_true]
      obtain ⟨p, e1, e2⟩ := r.byte (List.getElem?_eq_getElem c)
      obtain ⟨p', e3, e4⟩ := q.byte (List.getElem?_eq_getElem (show j < y.length by omega))
      rw [e1, e3]
      simp only [asP_ptr, Option.bind_some, e2, e4, asI_int]
      by_cases d : x[j] = y[j]
      · rw [d, show (Int.ofNat (y[j]'(by omega)).toNat != Int.ofNat (y[j]'(by omega)).toNat) = false by simp, cond_false, wrap_succ (by omega)]
        refine equal_l0 k r q hl hx f (j + 1) (by omega) (by omega) ?_
        have h1 : x.take (j + 1) = x.take j ++ [x[j]] := by simp
        have h2 : y.take (j + 1) = y.take j ++ [y[j]'(by omega)] := by simp
        rw [h1, h2, ha, d]
      · have : (Int.ofNat x[j].toNat != Int.ofNat (y[j]'(by omega)).toNat) = true := by
          simp only [bne_iff_ne, ne_eq]
          intro f
          exact d (UInt8.toNat_inj.1 (Int.ofNat.inj f))
        rw [this, cond_true, if_neg]
        intro f
        subst f
        exact d rfl
    · rw [decide_eq_false (show ¬ Int.ofNat j < Int.ofNat x.length by simp; omega), cond_false]
      rw [List.take_of_length_le (by omega), List.take_of_length_le (by omega)] at ha
      rw [if_pos ha]
theorem equal_f (k : Nat) {h : H} {s t : Sl} {x y : List UInt8} (r : SlR 1 h s (byt x)) (q : SlR 1 h t (byt y)) (hx : x.length < k) (hx2 : x.length < 9223372036854775807) : slices_Equal_byte_byte.f k s t h = some (decide (x = y), h) := by
  unfold slices_Equal_byte_byte.f
  rw [r.n_byt, q.n_byt]
  by_cases c : x.length = y.length
  · rw [c, show (Int.ofNat y.length != Int.ofNat y.length) = false by simp, cond_false, ← c]
    have := equal_l0 k r q c hx2 k 0 (by omega) (Nat.zero_le _) (by simp)
    rw [show (0 : Int) = Int.ofNat 0 from rfl, this]
    by_cases d : x = y
    · rw [if_pos d, decide_eq_true d]; rfl
    · rw [if_neg d, decide_eq_false d]; rfl
  · have : (Int.ofNat x.length != Int.ofNat y.length) = true := by
      simp only [bne_iff_ne, ne_eq]
      intro f
      exact c (Int.ofNat.inj f)
    rw [this, cond_true, decide_eq_false]
    intro f; exact c (by rw [f])
theorem within_f (k : Nat) (n a b : Int) (h : H) : call_within.f k n a b h = some (decide (a ≤ n ∧ n ≤ b), h) := by
  unfold call_within.f
  by_cases c : a ≤ n
  · rw [decide_eq_true (show n ≥ a from c), cond_true]
    by_cases d : n ≤ b
    · rw [decide_eq_true d, decide_eq_true ⟨c, d⟩]; rfl
    · rw [decide_eq_false d, decide_eq_false (fun f => d f.2)]; rfl
  · rw [decide_eq_false (show ¬ n ≥ a from c), cond_false, decide_eq_false (fun f => c f.1)]; rfl
theorem few_f (k : Nat) {h : H} (w : WF h) {s : Sl} {x : List UInt8} (r : SlR 1 h s (byt x)) (n : Nat) (hn : n ≤ 140737488355328) (m : Int) (hm : m = Int.ofNat n) :
    ∃ t h', corbelhand_Few.f k s m h = some (t, h') ∧ Ch0 h h' ∧ Ow 5 1 h' t (byt (x.take n)) ∧ (∀ b, SlB t b → h.next ≤ b) := by
  subst hm
  unfold corbelhand_Few.f
  have e : (cond (decide (Int.ofNat n < Int.ofNat s.n)) (Int.ofNat n) (Int.ofNat s.n)) = Int.ofNat (min n x.length) := by
    rw [r.n_byt]
    by_cases c : n < x.length
    · rw [decide_eq_true (show Int.ofNat n < Int.ofNat x.length by simp; omega), cond_true, Nat.min_eq_left (by omega)]
    · rw [decide_eq_false (show ¬ Int.ofNat n < Int.ofNat x.length by simp; omega), cond_false, Nat.min_eq_right (by omega)]
  rw [e]
  obtain ⟨s1, a1, a2, a3, a4⟩ := subb_ok r (lo := 0) (hi := min n x.length) (Nat.zero_le _) (Nat.min_le_right _ _) (xlo := none) (xhi := some (Int.ofNat (min n x.length))) rfl rfl
  rw [a1]
  simp only [asS_slv, Option.bind_some]
  have ht : x.take (min n x.length) = x.take n := by
    by_cases c : n ≤ x.length
    · rw [Nat.min_eq_left c]
    · rw [Nat.min_eq_right (by omega), List.take_of_length_le (Nat.le_refl _), List.take_of_length_le (by omega)]
  rw [List.drop_zero, Nat.sub_zero, ht] at a3
  obtain ⟨n1, n2, n3⟩ := newR_ok w 5 1 []
  have ow : Ow 5 1 (newR h 5 1 []) ⟨some ⟨h.next, 0, none⟩, 0, 0⟩ (byt []) := Ow.of_is n3 rfl (by unfold unk; omega)
  obtain ⟨t, h', b1, b2, b3, b4⟩ := app_b n1.wf ow (a3.stay w n1) (by rw [List.length_take]; show 0 + _ ≤ _; omega)
  rw [b1]
  have hb : ∀ b, SlB ⟨some ⟨h.next, 0, none⟩, 0, 0⟩ b → h.next ≤ b := fun b hb => by obtain ⟨o, q⟩ := hb; have : h.next = b := congrArg Addr.block (Option.some.inj q); omega
  refine ⟨t, h', rfl, Ch0.own n1 b2 hb, by simpa using b3, fun b hb' => (b4 b hb').elim (hb b) fun f => by omega⟩
end Go.Proofs.Ythpkhegoamhgeaa.Fw
