/- Volumes: names, their order, maps; which lists may be. No program, no condition. -/
import Derived.Test.YtfenkpghcbohdaaPcFwRoot
import Derived.Test.YtfenkpghcbohdaaPcFMeta
import Derived.Laws.RangeAny
import Derived.Lib.Strings
import Derived.Test.YtfenkpghcbohdaaDenHq
namespace Go.Proofs.Ytfenkpghcbohdaa.Fw
open Go Den Fwd
set_option linter.unusedVariables false
set_option linter.unusedSimpArgs false
/-! ### the order of names -/
abbrev less := Op.bytesLess
theorem less_irr : ∀ a : List UInt8, less a a = false
  | [] => rfl
  | x :: a => by
    show (decide (x < x) || (x == x && Op.bytesLess a a)) = false
    rw [show Op.bytesLess a a = false from less_irr a, decide_eq_false (by rw [UInt8.lt_iff_toNat_lt]; omega), Bool.and_false]; rfl
theorem less_cons (x y : UInt8) (a b : List UInt8) : less (x :: a) (y :: b) = true ↔ x.toNat < y.toNat ∨ (x = y ∧ less a b = true) := by
  show (decide (x < y) || (x == y && Op.bytesLess a b)) = true ↔ _
  rw [Bool.or_eq_true, Bool.and_eq_true, decide_eq_true_eq, beq_iff_eq, UInt8.lt_iff_toNat_lt]
theorem less_trans : ∀ {a b c : List UInt8}, less a b = true → less b c = true → less a c = true
  | [], b :: ys, c :: zs, _, _ => rfl
  | [], [], c, h, _ => by cases h
  | [], b :: ys, [], _, h => by cases h
  | a :: xs, [], c, h, _ => by cases h
  | a :: xs, b :: ys, [], _, h => by cases h
  | a :: xs, b :: ys, c :: zs, h1, h2 => by
    rw [less_cons] at h1 h2 ⊢
    rcases h1 with h1 | ⟨rfl, h1⟩
    · rcases h2 with h2 | ⟨rfl, h2⟩
      · exact .inl (by omega)
      · exact .inl h1
    · rcases h2 with h2 | ⟨rfl, h2⟩
      · exact .inl h2
      · exact .inr ⟨rfl, less_trans h1 h2⟩
theorem less_tri : ∀ a b : List UInt8, less a b = true ∨ a = b ∨ less b a = true
  | [], [] => .inr (.inl rfl)
  | [], b :: ys => .inl rfl
  | a :: xs, [] => .inr (.inr rfl)
  | a :: xs, b :: ys => by
    rw [less_cons, less_cons]
    rcases Nat.lt_trichotomy a.toNat b.toNat with h | h | h
    · exact .inl (.inl h)
    · have e : a = b := UInt8.toNat_inj.1 h
      subst e
      rcases less_tri xs ys with g | g | g
      · exact .inl (.inr ⟨rfl, g⟩)
      · exact .inr (.inl (by rw [g]))
      · exact .inr (.inr (.inr ⟨rfl, g⟩))
    · exact .inr (.inr (.inl h))
theorem less_not {a b : List UInt8} (h : less a b = true) : less b a = false ∧ a ≠ b := by
  refine ⟨Bool.eq_false_iff.2 fun g => ?_, fun g => ?_⟩
  · have := less_trans h g
    rw [less_irr] at this
    cases this
  · rw [g, less_irr] at h
    cases h
theorem cmp_lt : ∀ a b : List UInt8, (Lib.compareBytes a b < 0 ↔ less a b = true) ∧ (Lib.compareBytes a b = 0 ↔ a = b)
  | [], [] => ⟨by decide, by decide⟩
  | [], b :: ys => by
    refine ⟨⟨fun _ => rfl, fun _ => ?_⟩, ⟨fun h => ?_, fun h => ?_⟩⟩
    · show (-1 : Int) < 0
      decide
    · have : (-1 : Int) = 0 := h
      omega
    · cases h
  | a :: xs, [] => by
    refine ⟨⟨fun h => ?_, fun h => ?_⟩, ⟨fun h => ?_, fun h => ?_⟩⟩
    · have : (1 : Int) < 0 := h
      omega
    · cases h
    · have : (1 : Int) = 0 := h
      omega
    · cases h
  | a :: xs, b :: ys => by
    rw [less_cons]
    show ((if a < b then (-1 : Int) else if b < a then 1 else Lib.compareBytes xs ys) < 0 ↔ _) ∧ ((if a < b then (-1 : Int) else if b < a then 1 else Lib.compareBytes xs ys) = 0 ↔ _)
    rcases Nat.lt_trichotomy a.toNat b.toNat with h | h | h
    · rw [if_pos (UInt8.lt_iff_toNat_lt.2 h)]
      refine ⟨⟨fun _ => .inl h, fun _ => by decide⟩, ⟨fun g => ?_, fun g => ?_⟩⟩
      · omega
      · injection g with g1
        rw [g1] at h
        omega
    · have e : a = b := UInt8.toNat_inj.1 h
      subst e
      rw [if_neg (fun f => by have := UInt8.lt_iff_toNat_lt.1 f; omega), if_neg (fun f => by have := UInt8.lt_iff_toNat_lt.1 f; omega)]
      obtain ⟨i1, i2⟩ := cmp_lt xs ys
      exact ⟨⟨fun g => .inr ⟨rfl, i1.1 g⟩, fun g => g.elim (fun f => by omega) fun f => i1.2 f.2⟩, ⟨fun g => by rw [i2.1 g], fun g => i2.2 (List.cons.inj g).2⟩⟩
    · rw [if_neg (fun f => by have := UInt8.lt_iff_toNat_lt.1 f; omega), if_pos (UInt8.lt_iff_toNat_lt.2 h)]
      refine ⟨⟨fun g => ?_, fun g => ?_⟩, ⟨fun g => ?_, fun g => ?_⟩⟩
      · omega
      · rcases g with f | f
        · omega
        · rw [f.1] at h
          omega
      · omega
      · injection g with g1
        rw [g1] at h
        omega
/-! ### names, maps -/
def ba (l : List UInt8) : ByteArray := ⟨l.toArray⟩
theorem ba_list (l : List UInt8) : (ba l).toList = l := by rw [ByteArray.toList_eq]; rfl
theorem ba_data (l : List UInt8) : (ba l).data.toList = l := rfl
def okC (c : UInt8) : Bool := (decide (97 ≤ c.toNat) && decide (c.toNat ≤ 122)) || (decide (48 ≤ c.toNat) && decide (c.toNat ≤ 57))
def isName (s : List UInt8) : Bool := s.all okC && (decide (1 ≤ s.length) && decide (s.length ≤ 8))
def okN (n : Int) : Bool := decide (n = 0) || (decide (17 ≤ n) && decide (n < 40))
def okSize (n : Int) : Bool := decide (0 ≤ n) && (decide (n ≤ 256) && decide (n % 8 = 0))
def rightMap (size : Int) (m : List Int) : Bool := okSize size && (decide ((m.length : Int) = size / 8) && m.all okN)
/-- name, parent, a snapshot?, size, map -/
structure Vol where
  nm : List UInt8
  pa : List UInt8
  sn : Bool
  sz : Int
  mp : List Int
deriving DecidableEq
structure RightP (t : List Vol) : Prop where
  so : t.Pairwise fun a b => less a.nm b.nm = true
  na : ∀ v ∈ t, isName v.nm = true
  ma : ∀ v ∈ t, rightMap v.sz v.mp = true
  pa : ∀ v ∈ t, v.pa = [] ∨ (v.pa ≠ v.nm ∧ ∃ u ∈ t, u.nm = v.pa ∧ u.sn ≠ v.sn)
  le : t.length ≤ 12
theorem adj_sorted : ∀ {t : List Vol}, (∀ i (h : i + 1 < t.length), less (t[i]'(by omega)).nm t[i + 1].nm = true) → t.Pairwise fun a b => less a.nm b.nm = true
  | [], _ => List.Pairwise.nil
  | [v], _ => List.pairwise_singleton _ _
  | v :: u :: t, h => by
    have ih : (u :: t).Pairwise fun a b => less a.nm b.nm = true := adj_sorted fun i hi => h (i + 1) (by rw [List.length_cons]; omega)
    have h0 : less v.nm u.nm = true := h 0 (by simp)
    refine List.pairwise_cons.2 ⟨fun b hb => ?_, ih⟩
    rcases List.mem_cons.1 hb with e | e
    · rw [e]; exact h0
    · exact less_trans h0 ((List.pairwise_cons.1 ih).1 b e)
theorem sorted_lt {t : List Vol} (h : t.Pairwise fun a b => less a.nm b.nm = true) {i j : Nat} (hj : j < t.length) (hij : i < j) : less (t[i]'(by omega)).nm t[j].nm = true := (List.pairwise_iff_getElem.1 h) i j (by omega) hj hij
theorem sorted_inj {t : List Vol} (h : t.Pairwise fun a b => less a.nm b.nm = true) {i j : Nat} (hi : i < t.length) (hj : j < t.length) (e : t[i].nm = t[j].nm) : i = j := by
  rcases Nat.lt_trichotomy i j with g | g | g
  · exact absurd e (less_not (sorted_lt h hj g)).2
  · exact g
  · exact absurd e.symm (less_not (sorted_lt h hi g)).2
theorem decLt {a b : Nat} (h : a < b) : decide (Int.ofNat a < Int.ofNat b) = true := decide_eq_true (by simp only [Int.ofNat_eq_natCast]; omega)
theorem decNlt {a b : Nat} (h : ¬ a < b) : decide (Int.ofNat a < Int.ofNat b) = false := decide_eq_false (by simp only [Int.ofNat_eq_natCast]; omega)
/-! ### the program's names -/
def oddI (c : Int) : Bool := (decide (c < 97) || decide (c > 122)) && (decide (c < 48) || decide (c > 57))
theorem isn1_f (k : Nat) (c : Int) (h : H) : tree_IsName_1.f k c h = some (oddI c, h) := by
  unfold tree_IsName_1.f oddI
  cases decide (c < 97) <;> cases decide (c > 122) <;> cases decide (c < 48) <;> cases decide (c > 57) <;> rfl
theorem odd_byte (c : UInt8) : oddI ((c.toNat : Nat) : Int) = !okC c := by
  unfold oddI okC
  have e1 : decide (((c.toNat : Nat) : Int) < 97) = !decide (97 ≤ c.toNat) := by rw [← decide_not]; exact decide_eq_decide.2 (by omega)
  have e2 : decide (((c.toNat : Nat) : Int) > 122) = !decide (c.toNat ≤ 122) := by rw [← decide_not]; exact decide_eq_decide.2 (by omega)
  have e3 : decide (((c.toNat : Nat) : Int) < 48) = !decide (48 ≤ c.toNat) := by rw [← decide_not]; exact decide_eq_decide.2 (by omega)
  have e4 : decide (((c.toNat : Nat) : Int) > 57) = !decide (c.toNat ≤ 57) := by rw [← decide_not]; exact decide_eq_decide.2 (by omega)
  rw [e1, e2, e3, e4]
  cases decide (97 ≤ c.toNat) <;> cases decide (c.toNat ≤ 122) <;> cases decide (48 ≤ c.toNat) <;> cases decide (c.toNat ≤ 57) <;> rfl
theorem isn_l0 (k : Nat) {s : List UInt8} {ib : Nat} {h0 : H} (hib : h0.next ≤ ib) : ∀ n pos h ver, s.length - pos < n → Ch0 h0 h → h.get ib = some (.iter (ba s) pos ver) →
    ∃ v h', strings_indexFunc_tree_IsName_1.l0 k n () true (some ⟨ib, 0, none⟩) h = some (v, h') ∧ Ch0 h0 h' ∧ ((v = .inr () ∧ (s.drop pos).all okC = true) ∨ ((∃ i : Nat, v = .inl (Int.ofNat i)) ∧ (s.drop pos).all okC = false))
  | 0, pos, h, ver, hn, _, _ => by omega
  | n + 1, pos, h, ver, hn, C, hI => by
    rw [strings_indexFunc_tree_IsName_1.l0_succ]
    have e0 : nxt h (some (Value.pointer (some ⟨ib, 0, none⟩))) = cond (Nat.blt pos (ba s).size) (some (some (pos, ((Utf8.decode (ba s) pos).1 : Int), h.put ib (.iter (ba s) (pos + (Utf8.decode (ba s) pos).2) h.clock)))) (some none) := by
      show nxtB h ib (h.get ib) = _
      rw [hI]; rfl
    rw [e0]
    have hs : (ba s).size = s.length := rfl
    by_cases c : pos < s.length
    · rw [cond_eta _ _ _ (show Nat.blt pos (ba s).size = true from Nat.ble_eq_true_of_le (by rw [hs]; omega))]
      simp only [Option.bind_some]
      rw [isn1_f]
      simp only [Option.bind_some]
      have hbyte : (ba s)[pos]'(by rw [hs]; exact c) = s[pos] := rfl
      have hd : s.drop pos = s[pos] :: s.drop (pos + 1) := List.drop_eq_getElem_cons c
      have hilt : ib < h.next := by
        rcases Nat.lt_or_ge ib h.next with q | q
        · exact q
        · rw [C.wf.dom ib q] at hI; cases hI
      have w1 : WF (h.put ib (.iter (ba s) (pos + (Utf8.decode (ba s) pos).2) h.clock)) := C.wf.put hilt rfl
      have C1 : Ch0 h0 (h.put ib (.iter (ba s) (pos + (Utf8.decode (ba s) pos).2) h.clock)) := Ch0.at C (r := ib) ⟨w1, Nat.le_refl _, fun z hz hn => by rw [H.get_put, if_neg hn]⟩ hib
      by_cases a : (s[pos]).toNat < 128
      · have ed := decode_ascii (ba s) pos (by rw [hs]; exact c) (by rw [hbyte]; exact a)
        rw [hbyte] at ed
        rw [ed] at C1 ⊢
        rw [odd_byte]
        rw [hd, List.all_cons]
        cases ok : okC s[pos] with
        | true =>
          rw [Bool.true_and, show ((!true) == true) = false from rfl, cond_false]
          exact isn_l0 k hib n (pos + 1) _ h.clock (by omega) C1 (by rw [H.get_put, if_pos rfl])
        | false =>
          rw [Bool.false_and, show ((!false) == true) = true from rfl, cond_true]
          exact ⟨_, _, rfl, C1, .inr ⟨⟨pos, rfl⟩, rfl⟩⟩
      · have ed := (decode_high (ba s) pos (by rw [hs]; exact c) (by rw [hbyte]; omega)).1
        have eo : oddI (((Utf8.decode (ba s) pos).1 : Nat) : Int) = true := by
          unfold oddI
          rw [decide_eq_true (show (((Utf8.decode (ba s) pos).1 : Nat) : Int) > 122 by omega), decide_eq_true (show (((Utf8.decode (ba s) pos).1 : Nat) : Int) > 57 by omega), Bool.or_true, Bool.or_true]; rfl
        rw [eo, show (true == true) = true from rfl, cond_true]
        refine ⟨_, _, rfl, C1, .inr ⟨⟨pos, rfl⟩, ?_⟩⟩
        rw [hd, List.all_cons, show okC s[pos] = false by
          unfold okC
          rw [decide_eq_false (show ¬ (s[pos]).toNat ≤ 122 by omega), decide_eq_false (show ¬ (s[pos]).toNat ≤ 57 by omega), Bool.and_false, Bool.and_false]; rfl]
        rfl
    · rw [show Nat.blt pos (ba s).size = false by
        cases q : Nat.blt pos (ba s).size with
        | false => rfl
        | true =>
          have := Nat.le_of_ble_eq_true q
          rw [hs] at this
          omega, cond_false]
      exact ⟨_, h, rfl, C, .inl ⟨rfl, by rw [List.drop_eq_nil_of_le (by omega)]; rfl⟩⟩
theorem isName_f (k : Nat) {h : H} (w : WF h) (s : List UInt8) (hk : s.length < k) : ∃ h', tree_IsName.f k (ba s) h = some (isName s, h') ∧ Ch0 h h' := by
  unfold tree_IsName.f strings_ContainsFunc_tree_IsName_1.f strings_IndexFunc_tree_IsName_1.f strings_indexFunc_tree_IsName_1.f
  have w1 : WF (h.new (.iter (ba s) 0 h.clock)) := w.new (Nat.le_refl _)
  have C1 : Ch0 h (h.new (.iter (ba s) 0 h.clock)) := ⟨w1, Nat.le_succ _, fun z hz _ => by rw [H.get_new, if_neg (by omega)]⟩
  obtain ⟨v, h', a1, a2, a3⟩ := isn_l0 k (s := s) (Nat.le_refl h.next) k 0 _ h.clock (by omega) C1 (by rw [H.get_new, if_pos rfl])
  rw [a1]
  rw [List.drop_zero] at a3
  refine ⟨h', ?_, a2⟩
  have e1 : decide (Int.ofNat (ba s).data.toList.length ≥ (1 : Int)) = decide (1 ≤ s.length) := decide_eq_decide.2 (by rw [ba_data]; simp only [Int.ofNat_eq_natCast]; omega)
  have e2 : decide (Int.ofNat (ba s).data.toList.length ≤ (8 : Int)) = decide (s.length ≤ 8) := decide_eq_decide.2 (by rw [ba_data]; simp only [Int.ofNat_eq_natCast]; omega)
  rw [e1, e2]
  unfold isName
  rcases a3 with ⟨rfl, e⟩ | ⟨⟨i, rfl⟩, e⟩
  · rw [e]
    simp only [Option.bind_some]
    rw [show decide ((-1 : Int) ≥ 0) = false from rfl]
    cases decide (1 ≤ s.length) <;> cases decide (s.length ≤ 8) <;> rfl
  · rw [e]
    simp only [Option.bind_some]
    rw [decide_eq_true (show Int.ofNat i ≥ (0 : Int) from Int.natCast_nonneg i)]
    cases decide (1 ≤ s.length) <;> cases decide (s.length ≤ 8) <;> rfl
/-! ### the reference's names -/
/-! ### maps -/
theorem SlR.int {h : H} {s : Sl} {l : List Int} (r : SlR 1 h s (ivs l)) {j : Nat} (hj : j < l.length) : s.n = l.length ∧ ∃ p, ixs 1 s.a s.n (Int.ofNat j) = some (.pointer p) ∧ ldc h p = some (.int .i64 l[j]) := by
  have hn : s.n = l.length := by have := r.len; rw [ivs_len, Nat.mul_one] at this; exact this.symm
  obtain ⟨p, h1, h2⟩ := r.elem1 (j := j) (by omega)
  refine ⟨hn, p, h1, ?_⟩
  rw [h2, ivs_get, List.getElem?_eq_getElem hj]; rfl
theorem SlR.ivn {h : H} {s : Sl} {l : List Int} (r : SlR 1 h s (ivs l)) : s.n = l.length := by
  have := r.len
  rw [ivs_len, Nat.mul_one] at this
  exact this.symm
theorem okN_cond (n : Int) (h : H) : ((cond (n != (0 : Int)) ((cond (decide (n < (17 : Int))) (some (true, h)) (some (decide (n ≥ (40 : Int)), h))).bind fun g1 => some (g1.1, g1.2)) (some (false, h))).bind fun g2 => some (g2.1, g2.2) : Option (Bool × H)) = some (!okN n, h) := by
  unfold okN
  by_cases c : n = 0
  · rw [c]; rfl
  · rw [show (n != 0) = true by rw [bne_iff_ne]; exact c, decide_eq_false c, Bool.false_or]
    by_cases d : n < 17
    · rw [decide_eq_true d, decide_eq_false (show ¬ 17 ≤ n by omega)]; rfl
    · rw [decide_eq_false d, decide_eq_true (show 17 ≤ n by omega)]
      by_cases e : n < 40
      · rw [decide_eq_true e, decide_eq_false (show ¬ n ≥ 40 by omega)]; rfl
      · rw [decide_eq_false e, decide_eq_true (show n ≥ 40 by omega)]; rfl
theorem xright_l0 (k : Nat) {h : H} {s : Sl} {l : List Int} (r : SlR 1 h s (ivs l)) (hl : l.length < 9223372036854775807) : ∀ n i, l.length - i < n → i ≤ l.length →
    ∃ v, slices_IndexFunc_int_int_extent_Right_1.l0 k n s () (Int.ofNat l.length) (Int.ofNat i) h = some (v, h) ∧ ((v = .inr () ∧ (l.drop i).all okN = true) ∨ ((∃ j : Nat, v = .inl (Int.ofNat j)) ∧ (l.drop i).all okN = false))
  | 0, i, hn, _ => by omega
  | n + 1, i, hn, hi => by
    rw [slices_IndexFunc_int_int_extent_Right_1.l0_succ]
    by_cases c : i < l.length
    · rw [decLt c, cond_true]
      obtain ⟨_, p, e1, e2⟩ := SlR.int r c
      rw [e1]
      simp only [asP_ptr, Option.bind_some, e2, asI_int]
      unfold extent_Right_1.f
      rw [okN_cond]
      simp only [Option.bind_some]
      have hd : l.drop i = l[i] :: l.drop (i + 1) := List.drop_eq_getElem_cons c
      rw [hd, List.all_cons]
      cases ok : okN l[i] with
      | true =>
        rw [Bool.true_and, Bool.not_true, cond_false, wrap_succ (by omega)]
        exact xright_l0 k r hl n (i + 1) (by omega) (by omega)
      | false =>
        rw [Bool.false_and, Bool.not_false, cond_true]
        exact ⟨_, rfl, .inr ⟨⟨i, rfl⟩, rfl⟩⟩
    · rw [decNlt c, cond_false]
      exact ⟨_, rfl, .inl ⟨rfl, by rw [List.drop_eq_nil_of_le (by omega)]; rfl⟩⟩
theorem size_cond (n : Int) (h : H) : ((cond (decide (n ≥ (0 : Int))) (some (decide (n ≤ (256 : Int)), h)) (some (false, h))).bind fun g1 => (cond g1.1 (some ((n.tmod (8 : Int)) == (0 : Int), g1.2)) (some (false, g1.2))).bind fun g2 => some (g2.1, g2.2) : Option (Bool × H)) = some (okSize n, h) := by
  unfold okSize
  by_cases c : 0 ≤ n
  · rw [decide_eq_true (show n ≥ 0 from c), Bool.true_and]
    by_cases d : n ≤ 256
    · rw [decide_eq_true d, Bool.true_and]
      simp only [cond_true, Option.bind_some]
      rw [Int.tmod_eq_emod_of_nonneg c]
      by_cases e : n % 8 = 0
      · rw [e, decide_eq_true rfl]; rfl
      · rw [decide_eq_false e, show ((n % 8) == 0) = false by rw [beq_eq_false_iff_ne]; exact e]
    · rw [decide_eq_false d]; rfl
  · rw [decide_eq_false (show ¬ n ≥ 0 from c)]; rfl
theorem okSize_iff {n : Int} : okSize n = true ↔ 0 ≤ n ∧ n ≤ 256 ∧ n % 8 = 0 := by
  unfold okSize
  rw [Bool.and_eq_true, Bool.and_eq_true, decide_eq_true_eq, decide_eq_true_eq, decide_eq_true_eq]
theorem xright_f (k : Nat) {h : H} {s : Sl} {l : List Int} (r : SlR 1 h s (ivs l)) (hk : l.length < k) (hl : l.length < 9223372036854775807) (sz : Int) : extent_Right.f k sz s h = some (rightMap sz l, h) := by
  unfold extent_Right.f slices_ContainsFunc_int_int_extent_Right_1.f slices_IndexFunc_int_int_extent_Right_1.f
  obtain ⟨v, a1, a2⟩ := xright_l0 k r hl k 0 (by omega) (Nat.zero_le _)
  rw [SlR.ivn r, show (0 : Int) = Int.ofNat 0 from rfl, a1]
  rw [List.drop_zero] at a2
  simp only [Option.bind_some]
  have fin : ∀ b : Bool, b = (!l.all okN) → ((extent_sized.f k sz h).bind fun q2 => (cond q2.1 (some ((Int.ofNat l.length) == (wrapA .i64 (sz.tdiv (8 : Int))), q2.2)) (some (false, q2.2))).bind fun g3 => (cond g3.1 (some (!b, g3.2)) (some (false, g3.2))).bind fun g4 => some (g4.1, g4.2) : Option (Bool × H)) = some (rightMap sz l, h) := by
    intro b g2
    unfold extent_sized.f
    rw [size_cond]
    simp only [Option.bind_some]
    rw [g2]
    unfold rightMap
    cases z : okSize sz with
    | false => rfl
    | true =>
      obtain ⟨z1, z2, z3⟩ := okSize_iff.1 z
      rw [Int.tdiv_eq_ediv_of_nonneg z1, wrap_in (n := sz / 8) (by omega) (by omega)]
      simp only [cond_true, Bool.true_and, Option.bind_some]
      by_cases y : (l.length : Int) = sz / 8
      · rw [decide_eq_true y, show (Int.ofNat l.length == sz / 8) = true by rw [beq_iff_eq]; exact y, Bool.true_and]
        simp only [cond_true, Option.bind_some]
        cases l.all okN <;> rfl
      · rw [decide_eq_false y, show (Int.ofNat l.length == sz / 8) = false by rw [beq_eq_false_iff_ne]; exact y]; rfl
  rcases a2 with ⟨rfl, e⟩ | ⟨⟨j, rfl⟩, e⟩
  · exact fin false (by rw [e]; rfl)
  · simp only [Option.bind_some]
    rw [decide_eq_true (show Int.ofNat j ≥ Int.ofNat 0 by simp only [Int.ofNat_eq_natCast]; omega)]
    exact fin true (by rw [e]; rfl)
theorem flat_len {es : Nat} : ∀ {gs : List (List Value)}, (∀ g ∈ gs, g.length = es) → gs.flatten.length = gs.length * es
  | [], _ => by simp
  | g :: gs, h => by
    rw [List.flatten_cons, List.length_append, flat_len fun x hx => h x (List.mem_cons_of_mem _ hx), h g List.mem_cons_self, List.length_cons, Nat.add_mul, Nat.one_mul]; omega
theorem flat_at {es : Nat} : ∀ {gs : List (List Value)}, (∀ g ∈ gs, g.length = es) → ∀ (i : Nat) (hi : i < gs.length), (gs.flatten.drop (i * es)).take es = gs[i]
  | g :: gs, h, 0, _ => by
    have hg := h g List.mem_cons_self
    rw [List.flatten_cons, Nat.zero_mul, List.drop_zero, List.take_append_of_le_length (by omega), List.take_of_length_le (by omega)]; rfl
  | g :: gs, h, i + 1, hi => by
    have hg := h g List.mem_cons_self
    have := flat_at (gs := gs) (fun x hx => h x (List.mem_cons_of_mem _ hx)) i (by rw [List.length_cons] at hi; omega)
    rw [List.flatten_cons, Nat.add_mul, Nat.one_mul, Nat.add_comm, ← List.drop_drop]
    rw [show (g ++ gs.flatten).drop es = gs.flatten by rw [← hg, List.drop_left], this]; rfl
/-- a group of a block -/
theorem Is.grp {h : H} {b e es0 : Nat} {pre post : List Value} {es : Nat} {gs : List (List Value)} (I : Is h b e es0 (pre ++ gs.flatten ++ post)) (hg : ∀ g ∈ gs, g.length = es) {i : Nat} (hi : i < gs.length) :
    h.gets b (pre.length + i * es) es = some gs[i] ∧ lda es h (some ⟨b, pre.length + i * es, none⟩) = some (.agg gs[i].toArray) := by
  have fl := flat_len hg
  have hle : (i + 1) * es ≤ gs.length * es := Nat.mul_le_mul_right _ hi
  rw [Nat.add_mul, Nat.one_mul] at hle
  have e : (((pre ++ gs.flatten ++ post).drop (pre.length + i * es)).take es) = gs[i] := by
    rw [List.append_assoc, List.drop_append, List.drop_eq_nil_of_le (by omega), List.nil_append, show pre.length + i * es - pre.length = i * es by omega, List.drop_append_of_le_length (by omega), List.take_append_of_le_length (by rw [List.length_drop]; omega), flat_at hg i hi]
  have g1 := I.gets (o := pre.length + i * es) (n := es) (by simp only [List.length_append]; omega)
  rw [e] at g1
  refine ⟨g1, ?_⟩
  show (match h.gets b (pre.length + i * es) es with | some vs => some (Value.agg vs.toArray) | none => none) = _
  rw [g1]
/-- a group of a slice -/
theorem SlR.grp {h : H} {s : Sl} {es : Nat} {gs : List (List Value)} (r : SlR es h s gs.flatten) (hes : 0 < es) (hg : ∀ g ∈ gs, g.length = es) : s.n = gs.length ∧ ∀ (i : Nat) (hi : i < gs.length), ∃ b o, ixs es s.a gs.length (Int.ofNat i) = some (.pointer (some ⟨b, o, none⟩)) ∧ lda es h (some ⟨b, o, none⟩) = some (.agg gs[i].toArray) := by
  have hn : s.n = gs.length := by
    have := r.len
    rw [flat_len hg] at this
    exact (Nat.eq_of_mul_eq_mul_right hes this).symm
  refine ⟨hn, fun i hi => ?_⟩
  obtain ⟨b, o, e1, e2⟩ := r.elem (j := i) (by omega)
  rw [flat_at hg i hi] at e2
  rw [hn] at e1
  refine ⟨b, o, e1, ?_⟩
  show (match h.gets b o es with | some vs => some (Value.agg vs.toArray) | none => none) = _
  rw [e2]
abbrev Vs := Vol × Sl
def voL (q : Vs) : List Value := [.string (ba q.1.nm), .string (ba q.1.pa), .bool q.1.sn, .int .i64 q.1.sz, slv q.2]
abbrev VoT := ByteArray × ByteArray × Bool × Int × Sl
def voT (q : Vs) : VoT := (ba q.1.nm, ba q.1.pa, q.1.sn, q.1.sz, q.2)
theorem bindVo {β : Type} (q : Vs) (f : FT [.str, .str, .bool, .int .i64, .sl] → Option β) : (asSt [.str, .str, .bool, (.int .i64), .sl] (some (Value.agg (voL q).toArray))).bind f = f (show FT [.str, .str, .bool, .int .i64, .sl] from voT q) := rfl
theorem asTs (s : ByteArray) : asT (some (.string s)) = some s := rfl
theorem asBs (b : Bool) : asB (some (.bool b)) = some b := rfl
theorem ldaIs {h : H} {b e es n : Nat} {l : List Value} (I : Is h b e es l) (hl : l.length = n) : lda n h (some ⟨b, 0, none⟩) = some (.agg l.toArray) := by
  rw [I.lda (o := 0) (n := n) (by omega), List.drop_zero, List.take_of_length_le (by omega)]
theorem vo_es (vs : List Vs) : ∀ g ∈ vs.map voL, g.length = 5 := fun g hg => by
  obtain ⟨q, _, rfl⟩ := List.mem_map.1 hg
  rfl
theorem vo_one (vs : List Vs) : ((vs.map voL).flatten).all Den.one = true := by
  rw [List.all_eq_true]
  intro v hv
  obtain ⟨g, hg, hv⟩ := List.mem_flatten.1 hv
  obtain ⟨q, _, rfl⟩ := List.mem_map.1 hg
  simp only [voL, List.mem_cons, List.not_mem_nil, or_false] at hv
  rcases hv with rfl | rfl | rfl | rfl | rfl <;> rfl
/-- a slice of volumes, read -/
structure TreeR (h : H) (s : Sl) (vs : List Vs) : Prop where
  sl : SlR 5 h s (vs.map voL).flatten
  mp : ∀ q ∈ vs, SlR 1 h q.2 (ivs q.1.mp)
theorem TreeR.stay {h h' : H} {s : Sl} {vs : List Vs} (w : WF h) (c : Ch0 h h') (T : TreeR h s vs) : TreeR h' s vs := ⟨T.sl.stay w c, fun q hq => (T.mp q hq).stay w c⟩
theorem TreeR.n {h : H} {s : Sl} {vs : List Vs} (T : TreeR h s vs) : s.n = vs.length := by
  have := (SlR.grp (es := 5) (gs := vs.map voL) T.sl (by decide) (vo_es vs)).1
  rw [List.length_map] at this
  exact this
theorem TreeR.at {h : H} {s : Sl} {vs : List Vs} (T : TreeR h s vs) {i : Nat} (hi : i < vs.length) : ∃ b o, ixs 5 s.a s.n (Int.ofNat i) = some (.pointer (some ⟨b, o, none⟩)) ∧ lda 5 h (some ⟨b, o, none⟩) = some (.agg (voL vs[i]).toArray) ∧ ∀ j, j < 5 → ldc h (some ⟨b, o + j, none⟩) = (voL vs[i])[j]? := by
  obtain ⟨b, o, e1, e2⟩ := T.sl.elem (j := i) (by rw [T.n]; exact hi)
  rw [flat_at (vo_es vs) i (by rw [List.length_map]; exact hi), List.getElem_map] at e2
  refine ⟨b, o, e1, ?_, fun j hj => gets_cell e2 hj⟩
  show (match h.gets b o 5 with | some vs => some (Value.agg vs.toArray) | none => none) = _
  rw [e2]
structure TreeB (vs : List Vs) : Prop where
  n : vs.length ≤ 1000
  nm : ∀ q ∈ vs, q.1.nm.length ≤ 1000 ∧ q.1.pa.length ≤ 1000 ∧ q.1.mp.length ≤ 10000
/-! ### found: by the reference -/
theorem bat_eq (a b : List UInt8) : ((ba a).toList == (ba b).toList) = decide (a = b) := by
  rw [ba_list, ba_list]
  by_cases c : a = b
  · rw [c, decide_eq_true rfl]; simp
  · rw [decide_eq_false c]; simpa using c
theorem rat_l0 (k : Nat) {h : H} {s : Sl} {vs : List Vs} (T : TreeR h s vs) (hn : vs.length ≤ 1000) (nm : List UInt8) : ∀ n i, vs.length - i < n → i ≤ vs.length → (∀ j (hj : j < vs.length), j < i → vs[j].1.nm ≠ nm) →
    ∃ v, corbelref16_At.l0 k n s (ba nm) (Int.ofNat i) h = some (v, h) ∧ ((∃ j : Nat, v = .inl (Int.ofNat j) ∧ ∃ hj : j < vs.length, vs[j].1.nm = nm ∧ ∀ a (ha : a < vs.length), a < j → vs[a].1.nm ≠ nm) ∨ (v = .inr () ∧ ∀ q ∈ vs, q.1.nm ≠ nm))
  | 0, i, hf, _, _ => by omega
  | n + 1, i, hf, hi, ha => by
    rw [corbelref16_At.l0_succ]
    by_cases c : i < vs.length
    · rw [T.n, decLt c, cond_true]
      obtain ⟨b, o, e1, e2, e3⟩ := T.at c
      rw [T.n] at e1
      rw [e1]
      simp only [asP_ptr, Option.bind_some, fadd]
      rw [e3 0 (by decide), show asT ((voL vs[i])[0]?) = some (ba vs[i].1.nm) from asTs _]
      simp only [Option.bind_some]
      rw [bat_eq]
      by_cases e : vs[i].1.nm = nm
      · rw [decide_eq_true e, cond_true]
        exact ⟨_, rfl, .inl ⟨i, rfl, c, e, ha⟩⟩
      · rw [decide_eq_false e, cond_false, wrap_succ (by omega)]
        exact rat_l0 k T hn nm n (i + 1) (by omega) (by omega) fun j hj hji => by
          by_cases z : j = i
          · subst z; exact e
          · exact ha j hj (by omega)
    · rw [T.n, decNlt c, cond_false]
      exact ⟨_, rfl, .inr ⟨rfl, fun q hq => by
        obtain ⟨j, hj, rfl⟩ := List.mem_iff_getElem.1 hq
        exact ha j hj (by omega)⟩⟩
theorem rat_f (k : Nat) (hk : 2000 < k) {h : H} {s : Sl} {vs : List Vs} (T : TreeR h s vs) (hn : vs.length ≤ 1000) (nm : List UInt8) : ∃ r, corbelref16_At.f k s (ba nm) h = some (r, h) ∧ ((∃ j : Nat, r = Int.ofNat j ∧ ∃ hj : j < vs.length, vs[j].1.nm = nm ∧ ∀ a (ha : a < vs.length), a < j → vs[a].1.nm ≠ nm) ∨ (r = -1 ∧ ∀ q ∈ vs, q.1.nm ≠ nm)) := by
  unfold corbelref16_At.f
  obtain ⟨v, a1, a2⟩ := rat_l0 k T hn nm k 0 (by omega) (Nat.zero_le _) (fun j hj f => by omega)
  rw [show (0 : Int) = Int.ofNat 0 from rfl, a1]
  rcases a2 with ⟨j, rfl, a2⟩ | ⟨rfl, a2⟩
  · exact ⟨_, rfl, .inl ⟨j, rfl, a2⟩⟩
  · exact ⟨_, rfl, .inr ⟨rfl, a2⟩⟩
/-! ### found: by the program -/
theorem tat1_f (k : Nat) {h : H} (w : WF h) (q : Vs) (nm : List UInt8) : ∃ h', tree_at_1.f k (voT q) (ba nm) h = some (Lib.compareBytes q.1.nm nm, h') ∧ Ch0 h h' := by
  unfold tree_at_1.f voT
  dsimp only
  rw [show [Value.string (ba q.1.nm), Value.string (ba q.1.pa), Value.bool q.1.sn, Value.int .i64 q.1.sz, Value.slice q.2.a q.2.n q.2.c] = voL q from rfl]
  obtain ⟨y1, y2, y3⟩ := newR_ok w 58 5 (voL q)
  rw [y3.ldc, show asT ((voL q)[0]?) = some (ba q.1.nm) from asTs _]
  exact ⟨_, rfl, y1⟩
theorem mid_eq {i j : Nat} (h : i + j ≤ 100000) : wrapA .i64 ((wrapA .u64 (wrapA .i64 (Int.ofNat i + Int.ofNat j))).fdiv (2 ^ 1)) = Int.ofNat ((i + j) / 2) := by
  rw [show Int.ofNat i + Int.ofNat j = Int.ofNat (i + j) from rfl, wrap_in (n := Int.ofNat (i + j)) (by simp only [Int.ofNat_eq_natCast]; omega) (by simp only [Int.ofNat_eq_natCast]; omega), wrap_u64 (n := Int.ofNat (i + j)) (by simp only [Int.ofNat_eq_natCast]; omega) (by simp only [Int.ofNat_eq_natCast]; omega)]
  have e : (Int.ofNat (i + j)).fdiv (2 ^ 1) = Int.ofNat ((i + j) / 2) := by
    rw [show ((2 : Int) ^ 1) = 2 from rfl, Int.fdiv_eq_ediv_of_nonneg _ (by decide)]
    simp only [Int.ofNat_eq_natCast]
    omega
  rw [e, wrap_in (n := Int.ofNat ((i + j) / 2)) (by simp only [Int.ofNat_eq_natCast]; omega) (by simp only [Int.ofNat_eq_natCast]; omega)]
def vols (vs : List Vs) : List Vol := vs.map (·.1)
theorem vols_len (vs : List Vs) : (vols vs).length = vs.length := List.length_map _
abbrev SortV (vs : List Vs) : Prop := (vols vs).Pairwise fun a b => less a.nm b.nm = true
theorem SortV.lt {vs : List Vs} (h : SortV vs) {i j : Nat} (hj : j < vs.length) (hij : i < j) : less (vs[i]'(by omega)).1.nm vs[j].1.nm = true := by
  have := sorted_lt h (i := i) (j := j) (by rw [vols_len]; exact hj) hij
  unfold vols at this
  rw [List.getElem_map, List.getElem_map] at this
  exact this
theorem SortV.inj {vs : List Vs} (h : SortV vs) {i j : Nat} (hi : i < vs.length) (hj : j < vs.length) (e : vs[i].1.nm = vs[j].1.nm) : i = j := by
  refine sorted_inj h (i := i) (j := j) (by rw [vols_len]; exact hi) (by rw [vols_len]; exact hj) ?_
  unfold vols
  rw [List.getElem_map, List.getElem_map]
  exact e
theorem bs_l0 (k : Nat) {h0 : H} (w0 : WF h0) {s : Sl} {vs : List Vs} (T : TreeR h0 s vs) (hn : vs.length ≤ 1000) (S : SortV vs) (nm : List UInt8) (x4 : Int) : ∀ n i j h, j - i < n → i ≤ j → j ≤ vs.length → Ch0 h0 h → (∀ a (ha : a < vs.length), a < i → less vs[a].1.nm nm = true) → (∀ a (ha : a < vs.length), j ≤ a → less vs[a].1.nm nm = false) →
    ∃ r h', slices_BinarySearchFunc_api_Volume_api_Volume_string_tree_at_1.l0 k n s (ba nm) () x4 (Int.ofNat i) (Int.ofNat j) h = some (Int.ofNat r, h') ∧ Ch0 h0 h' ∧ r ≤ vs.length ∧ (∀ a (ha : a < vs.length), a < r → less vs[a].1.nm nm = true) ∧ ∀ a (ha : a < vs.length), r ≤ a → less vs[a].1.nm nm = false
  | 0, i, j, h, hf, _, _, _, _, _ => by omega
  | n + 1, i, j, h, hf, hij, hj, C, h1, h2 => by
    rw [slices_BinarySearchFunc_api_Volume_api_Volume_string_tree_at_1.l0_succ]
    by_cases c : i < j
    · rw [decLt c, cond_true, mid_eq (by omega)]
      have hm : (i + j) / 2 < vs.length := by omega
      obtain ⟨b, o, e1, e2, e3⟩ := (T.stay w0 C).at hm
      rw [e1]
      simp only [asP_ptr, Option.bind_some]
      rw [e2, bindVo]
      obtain ⟨h3, f1, f2⟩ := tat1_f k C.wf vs[(i + j) / 2] nm
      have f1 : tree_at_1.f k (ba vs[(i + j) / 2].1.nm, ba vs[(i + j) / 2].1.pa, vs[(i + j) / 2].1.sn, vs[(i + j) / 2].1.sz, vs[(i + j) / 2].2) (ba nm) h = _ := f1
      dsimp only [voT]
      rw [f1]
      simp only [Option.bind_some]
      obtain ⟨g1, g2⟩ := cmp_lt vs[(i + j) / 2].1.nm nm
      by_cases d : less vs[(i + j) / 2].1.nm nm = true
      · rw [decide_eq_true (g1.2 d)]
        simp only [cond_true, Option.bind_some]
        rw [wrap_succ (by omega)]
        exact bs_l0 k w0 T hn S nm x4 n ((i + j) / 2 + 1) j h3 (by omega) (by omega) hj (C.then f2) (fun a ha hai => by
          by_cases z : a = (i + j) / 2
          · subst z; exact d
          · exact less_trans (S.lt hm (by omega)) d) h2
      · rw [decide_eq_false (fun f => d (g1.1 f))]
        simp only [cond_false, Option.bind_some]
        exact bs_l0 k w0 T hn S nm x4 n i ((i + j) / 2) h3 (by omega) (by omega) (by omega) (C.then f2) h1 (fun a ha hai => by
          by_cases z : a = (i + j) / 2
          · subst z; exact Bool.eq_false_iff.2 d
          · exact Bool.eq_false_iff.2 fun f => d (less_trans (S.lt ha (by omega)) f))
    · rw [decNlt c, cond_false]
      have : i = j := by omega
      subst this
      exact ⟨i, h, rfl, C, hj, h1, h2⟩
theorem tat_f (k : Nat) (hk : 2000 < k) {h : H} (w : WF h) {s : Sl} {vs : List Vs} (T : TreeR h s vs) (hn : vs.length ≤ 1000) (S : SortV vs) (nm : List UInt8) :
    ∃ r fo h', tree_at.f k s (ba nm) h = some ((Int.ofNat r, fo), h') ∧ Ch0 h h' ∧ ((fo = true ∧ ∃ hr : r < vs.length, vs[r].1.nm = nm) ∨ (fo = false ∧ ∀ q ∈ vs, q.1.nm ≠ nm)) := by
  unfold tree_at.f slices_BinarySearchFunc_api_Volume_api_Volume_string_tree_at_1.f
  obtain ⟨r, h1, a1, a2, a3, a4, a5⟩ := bs_l0 k w T hn S nm (Int.ofNat s.n) k 0 vs.length h (by omega) (Nat.zero_le _) (Nat.le_refl _) (Ch.refl w) (fun a ha f => by omega) (fun a ha f => by omega)
  rw [show Int.ofNat s.n = Int.ofNat vs.length by rw [T.n]] at a1 ⊢
  rw [show (0 : Int) = Int.ofNat 0 from rfl, a1]
  simp only [Option.bind_some]
  have no : ∀ (hr : ∀ hr : r < vs.length, vs[r].1.nm ≠ nm), ∀ q ∈ vs, q.1.nm ≠ nm := fun hr q hq e => by
    obtain ⟨j, hj, rfl⟩ := List.mem_iff_getElem.1 hq
    rcases Nat.lt_trichotomy j r with g | g | g
    · have := a4 j hj g
      rw [e, less_irr] at this
      cases this
    · subst g
      exact hr hj e
    · have h1 := S.lt hj g
      rw [e] at h1
      rw [a5 r (by omega) (Nat.le_refl _)] at h1
      cases h1
  by_cases c : r < vs.length
  · rw [decLt c]
    obtain ⟨b, o, e1, e2, e3⟩ := (T.stay w a2).at c
    simp only [cond_true]
    rw [e1]
    simp only [asP_ptr, Option.bind_some]
    rw [e2, bindVo]
    obtain ⟨h3, f1, f2⟩ := tat1_f k a2.wf vs[r] nm
    have f1 : tree_at_1.f k (ba vs[r].1.nm, ba vs[r].1.pa, vs[r].1.sn, vs[r].1.sz, vs[r].2) (ba nm) h1 = _ := f1
    dsimp only [voT]
    rw [f1]
    simp only [Option.bind_some]
    obtain ⟨g1, g2⟩ := cmp_lt vs[r].1.nm nm
    by_cases d : vs[r].1.nm = nm
    · exact ⟨r, true, h3, by rw [g2.2 d]; rfl, a2.then f2, .inl ⟨rfl, c, d⟩⟩
    · refine ⟨r, false, h3, ?_, a2.then f2, .inr ⟨rfl, no fun _ => d⟩⟩
      rw [show (Lib.compareBytes vs[r].1.nm nm == Int.ofNat 0) = false by rw [beq_eq_false_iff_ne]; exact fun f => d (g2.1 f)]
  · rw [decNlt c]
    exact ⟨r, false, h1, rfl, a2, .inr ⟨rfl, no fun hr => absurd hr c⟩⟩
/-! ### parents -/
def parP (t : List Vol) (v : Vol) : Prop := v.pa = [] ∨ (v.pa ≠ v.nm ∧ ∃ u ∈ t, u.nm = v.pa ∧ u.sn ≠ v.sn)
theorem mem_vols {vs : List Vs} {i : Nat} (hi : i < vs.length) : vs[i].1 ∈ vols vs := List.mem_map.2 ⟨_, List.getElem_mem hi, rfl⟩
theorem paren_f (k : Nat) (hk : 2000 < k) {h : H} (w : WF h) {s : Sl} {vs : List Vs} (T : TreeR h s vs) (hn : vs.length ≤ 1000) (S : SortV vs) (q : Vs) :
    ∃ v h', tree_parented.f k s (voT q) h = some (v, h') ∧ Ch0 h h' ∧ (v = true ↔ parP (vols vs) q.1) := by
  unfold tree_parented.f voT
  dsimp only
  rw [show [Value.string (ba q.1.nm), Value.string (ba q.1.pa), Value.bool q.1.sn, Value.int .i64 q.1.sz, Value.slice q.2.a q.2.n q.2.c] = voL q from rfl]
  obtain ⟨y1, y2, y3⟩ := newR_ok w 58 5 (voL q)
  generalize newR h 58 5 (voL q) = g at y1 y2 y3 ⊢
  rw [y3.ldc, show asT ((voL q)[1]?) = some (ba q.1.pa) from asTs _]
  simp only [Option.bind_some]
  rw [show (⟨#[]⟩ : ByteArray) = ba [] from rfl, bat_eq]
  by_cases c : q.1.pa = []
  · rw [decide_eq_true c]
    exact ⟨true, g, rfl, y1, fun _ => .inl c, fun _ => rfl⟩
  · rw [decide_eq_false c, cond_false]
    obtain ⟨r, fo, h2, a1, a2, a3⟩ := tat_f k hk y1.wf (T.stay w y1) hn S q.1.pa
    rw [a1]
    simp only [Option.bind_some]
    have Y2 := y3.stay y1.wf a2
    rcases a3 with ⟨rfl, hr, e⟩ | ⟨rfl, e⟩
    · simp only [cond_true]
      rw [Y2.ldc, Y2.ldc, show asT ((voL q)[1]?) = some (ba q.1.pa) from asTs _, show asT ((voL q)[0]?) = some (ba q.1.nm) from asTs _]
      simp only [Option.bind_some]
      rw [bat_eq]
      by_cases d : q.1.pa = q.1.nm
      · rw [decide_eq_true d]
        refine ⟨false, h2, rfl, y1.then a2, ⟨(fun f => by cases f), fun f => ?_⟩⟩
        rcases f with f | f
        · exact absurd f c
        · exact absurd d f.1
      · rw [decide_eq_false d]
        simp only [Bool.not_false, cond_true]
        obtain ⟨b, o, f1, f2, f3⟩ := ((T.stay w y1).stay y1.wf a2).at hr
        rw [f1]
        simp only [asP_ptr, Option.bind_some, fadd]
        rw [f3 2 (by decide), show asB ((voL vs[r])[2]?) = some vs[r].1.sn from asBs _]
        simp only [Option.bind_some]
        rw [Y2.ldc, show asB ((voL q)[2]?) = some q.1.sn from asBs _]
        simp only [Option.bind_some]
        refine ⟨_, h2, rfl, y1.then a2, fun f => .inr ⟨d, _, mem_vols hr, e, fun z => ?_⟩, fun f => ?_⟩
        · rw [z] at f
          simp at f
        · rcases f with f | ⟨_, u, hu, k1, k2⟩
          · exact absurd f c
          · obtain ⟨q', hq', rfl⟩ := List.mem_map.1 hu
            obtain ⟨j, hj, rfl⟩ := List.mem_iff_getElem.1 hq'
            have : j = r := S.inj hj hr (by rw [k1, e])
            subst this
            cases z1 : vs[j].1.sn <;> cases z2 : q.1.sn <;> first | rfl | exact absurd (z1.trans z2.symm) k2
    · refine ⟨false, h2, rfl, y1.then a2, ⟨(fun f => by cases f), fun f => ?_⟩⟩
      rcases f with f | ⟨_, u, hu, f1, f2⟩
      · exact absurd f c
      · obtain ⟨q', hq', rfl⟩ := List.mem_map.1 hu
        exact absurd f1 (e q' hq')
def okAt (vs : List Vs) (j : Nat) : Prop := ∃ hj : j < vs.length, (∀ h0 : 0 < j, less (vs[j - 1]'(by omega)).1.nm vs[j].1.nm = true) ∧ isName vs[j].1.nm = true ∧ rightMap vs[j].1.sz vs[j].1.mp = true
theorem okAll_sorted {vs : List Vs} (h : ∀ j, j < vs.length → okAt vs j) : SortV vs := by
  refine adj_sorted fun i hi => ?_
  have hi' := hi
  rw [vols_len] at hi'
  obtain ⟨hj, h1, _⟩ := h (i + 1) hi'
  simp only [vols, List.getElem_map]
  exact h1 (by omega)
theorem right_iff (vs : List Vs) : RightP (vols vs) ↔ (∀ j, j < vs.length → okAt vs j) ∧ vs.length ≤ 12 ∧ ∀ q ∈ vs, parP (vols vs) q.1 := by
  constructor
  · intro R
    refine ⟨fun j hj => ⟨hj, fun h0 => ?_, R.na _ (mem_vols hj), R.ma _ (mem_vols hj)⟩, by have := R.le; rw [vols_len] at this; exact this, fun q hq => R.pa q.1 (List.mem_map.2 ⟨q, hq, rfl⟩)⟩
    exact SortV.lt R.so hj (by omega)
  · rintro ⟨h1, h2, h3⟩
    have S := okAll_sorted h1
    refine ⟨S, fun v hv => ?_, fun v hv => ?_, fun v hv => ?_, by rw [vols_len]; exact h2⟩
    · obtain ⟨q, hq, rfl⟩ := List.mem_map.1 hv
      obtain ⟨j, hj, rfl⟩ := List.mem_iff_getElem.1 hq
      obtain ⟨_, _, g, _⟩ := h1 j hj
      exact g
    · obtain ⟨q, hq, rfl⟩ := List.mem_map.1 hv
      obtain ⟨j, hj, rfl⟩ := List.mem_iff_getElem.1 hq
      obtain ⟨_, _, _, g⟩ := h1 j hj
      exact g
    · obtain ⟨q, hq, rfl⟩ := List.mem_map.1 hv
      exact h3 q hq
/-! ### the program -/
theorem tright_l0 (k : Nat) (hk : 20000 < k) {h0 : H} (w0 : WF h0) {lb : Nat} {s : Sl} {vs : List Vs} (T : TreeR h0 s vs) (B : TreeB vs) (I : Is h0 lb 59 1 [slv s]) : ∀ n i h, vs.length - i < n → i ≤ vs.length → Ch0 h0 h →
    ∃ v h', tree_Right.l0 k n (some ⟨lb, 0, none⟩) s (Int.ofNat vs.length) (Int.ofNat i) h = some (v, h') ∧ Ch0 h0 h' ∧ ((v = .inr () ∧ ∀ j, i ≤ j → j < vs.length → okAt vs j) ∨ (v = .inl false ∧ ∃ j, j < vs.length ∧ ¬ okAt vs j))
  | 0, i, h, hf, _, _ => by omega
  | n + 1, i, h, hf, hi, C => by
    rw [tree_Right.l0_succ]
    have hn := B.n
    by_cases c : i < vs.length
    · rw [decLt c, cond_true]
      obtain ⟨b, o, e1, e2, e3⟩ := (T.stay w0 C).at c
      rw [e1]
      simp only [asP_ptr, Option.bind_some]
      rw [e2, bindVo]
      dsimp only [voT]
      have hB := B.nm _ (List.getElem_mem c)
      have hM := T.mp _ (List.getElem_mem c)
      generalize hq : vs[i] = q at hB hM
      rw [show [Value.string (ba q.1.nm), Value.string (ba q.1.pa), Value.bool q.1.sn, Value.int .i64 q.1.sz, Value.slice q.2.a q.2.n q.2.c] = voL q from rfl]
      obtain ⟨h1, b1, b2, b3, b4⟩ := box_ok C.wf 58 5 [Value.string (⟨#[]⟩ : ByteArray), Value.string (⟨#[]⟩ : ByteArray), Value.bool false, Value.int .i64 (0 : Int), Value.slice none 0 0] (voL q) rfl rfl rfl
      rw [b1]
      simp only [Option.bind_some]
      have C1 := C.then b2
      -- the order
      have g1 : ∃ g, (cond (decide (Int.ofNat i > (0 : Int))) ((asS (ldc h1 (some ⟨lb, 0, none⟩))).bind fun s10 =>
    (asP (ixs 5 s10.a s10.n (wrapA .i64 (Int.ofNat i - (1 : Int))))).bind fun p11 =>
    (asP (fadd 0 p11)).bind fun p12 =>
    (asT (ldc h1 p12)).bind fun s13 =>
    (asT (ldc h1 (some ⟨h.next, 0, none⟩))).bind fun s14 =>
    some (!(Op.bytesLess s13.toList s14.toList), h1, [], []))
      (some (false, h1, [], [])) : Option (Bool × H × LEs × EFs)) = some (g, h1, [], []) ∧ (g = false ↔ ∀ h0 : 0 < i, less (vs[i - 1]'(by omega)).1.nm q.1.nm = true) := by
        cases i with
        | zero => exact ⟨false, rfl, fun _ h0 => by omega, fun _ => rfl⟩
        | succ i =>
          rw [decide_eq_true (show Int.ofNat (i + 1) > (0 : Int) by simp only [Int.ofNat_eq_natCast]; omega), cond_true]
          rw [(I.stay w0 C1).ldc, show asS (([slv s] : List Value)[0]?) = some s from asS_slv _]
          simp only [Option.bind_some]
          rw [wrap_in (n := Int.ofNat (i + 1) - (1 : Int)) (by simp only [Int.ofNat_eq_natCast]; omega) (by simp only [Int.ofNat_eq_natCast]; omega), show Int.ofNat (i + 1) - (1 : Int) = Int.ofNat i by simp only [Int.ofNat_eq_natCast]; omega]
          obtain ⟨b', o', f1, f2, f3⟩ := (T.stay w0 C1).at (i := i) (by omega)
          rw [f1]
          simp only [asP_ptr, Option.bind_some, fadd]
          rw [f3 0 (by decide), b4.ldc, show asT ((voL (vs[i]'(by omega)))[0]?) = some (ba (vs[i]'(by omega)).1.nm) from asTs _, show asT ((voL q)[0]?) = some (ba q.1.nm) from asTs _]
          simp only [Option.bind_some]
          rw [ba_list, ba_list]
          refine ⟨_, rfl, fun f _ => ?_, fun f => ?_⟩
          · cases z : less (vs[i]'(by omega)).1.nm q.1.nm with
            | true => exact z
            | false => rw [show Op.bytesLess (vs[i]'(by omega)).1.nm q.1.nm = false from z] at f; cases f
          · have := f (by omega)
            rw [show Op.bytesLess (vs[i]'(by omega)).1.nm q.1.nm = true from this]; rfl
      obtain ⟨g, ge, gi⟩ := g1
      rw [ge]
      simp only [Option.bind_some]
      -- the name
      have g2 : ∃ g' h2, (cond g (some (true, h1, [], []))
      ((asT (ldc h1 (some ⟨h.next, 0, none⟩))).bind fun s16 =>
    (tree_IsName.f k s16 h1).bind fun q17 =>
    some (!q17.1, q17.2, [], [])) : Option (Bool × H × LEs × EFs)) = some (g', h2, [], []) ∧ Ch0 h1 h2 ∧ (g' = false ↔ g = false ∧ isName q.1.nm = true) := by
        cases g with
        | true => exact ⟨true, h1, rfl, Ch.refl b2.wf, (fun f => by cases f), fun f => by cases f.1⟩
        | false =>
          rw [cond_false, b4.ldc, show asT ((voL q)[0]?) = some (ba q.1.nm) from asTs _]
          simp only [Option.bind_some]
          obtain ⟨h2, a1, a2⟩ := isName_f k b2.wf q.1.nm (by omega)
          rw [a1]
          refine ⟨_, h2, rfl, a2, fun f => ⟨(by trivial), ?_⟩, fun f => ?_⟩
          · cases z : isName q.1.nm with
            | true => rfl
            | false => rw [z] at f; cases f
          · rw [f.2]; rfl
      obtain ⟨g', h2, ge2, c2, gi2⟩ := g2
      rw [ge2]
      simp only [Option.bind_some]
      have B2 := b4.stay b2.wf c2
      have C2 := C1.then c2
      have g3 : ∃ g'' , (cond g' (some (true, h2, [], []))
      ((asI .i64 (ldc h2 (some ⟨h.next, 3, none⟩))).bind fun n19 =>
    (asS (ldc h2 (some ⟨h.next, 4, none⟩))).bind fun s20 =>
    (extent_Right.f k n19 s20 h2).bind fun q21 =>
    some (!q21.1, q21.2, [], [])) : Option (Bool × H × LEs × EFs)) = some (g'', h2, [], []) ∧ (g'' = false ↔ g' = false ∧ rightMap q.1.sz q.1.mp = true) := by
        cases g' with
        | true => exact ⟨true, rfl, (fun f => by cases f), fun f => by cases f.1⟩
        | false =>
          rw [cond_false, B2.ldc, B2.ldc, show asI .i64 ((voL q)[3]?) = some q.1.sz from asI_int _ _, show asS ((voL q)[4]?) = some q.2 from asS_slv _]
          simp only [Option.bind_some]
          rw [xright_f k (hM.stay w0 C2) (by omega) (by omega)]
          refine ⟨_, rfl, fun f => ⟨(by trivial), ?_⟩, fun f => ?_⟩
          · cases z : rightMap q.1.sz q.1.mp with
            | true => rfl
            | false => rw [z] at f; cases f
          · rw [f.2]; rfl
      obtain ⟨g'', ge3, gi3⟩ := g3
      rw [ge3]
      simp only [Option.bind_some]
      have key : g'' = false ↔ okAt vs i := by
        rw [gi3, gi2, gi]
        constructor
        · rintro ⟨⟨h1, h2⟩, h3⟩
          exact ⟨c, fun h0 => by rw [hq]; exact h1 h0, by rw [hq]; exact h2, by rw [hq]; exact h3⟩
        · rintro ⟨_, h1, h2, h3⟩
          rw [hq] at h2 h3
          exact ⟨⟨fun h0 => by have := h1 h0; rw [hq] at this; exact this, h2⟩, h3⟩
      cases z : g'' with
      | true => exact ⟨_, h2, rfl, C2, .inr ⟨rfl, i, c, fun f => by have := key.2 f; rw [z] at this; cases this⟩⟩
      | false =>
        simp only [cond_false]
        rw [wrap_succ (by omega)]
        obtain ⟨v, h3, d1, d2, d3⟩ := tright_l0 k hk w0 T B I n (i + 1) h2 (by omega) (by omega) C2
        refine ⟨v, h3, d1, d2, d3.imp (fun ⟨x, y⟩ => ⟨x, fun j h1 h2 => ?_⟩) fun x => x⟩
        by_cases e : j = i
        · rw [e]; exact key.1 z
        · exact y j (by omega) h2
    · rw [decNlt c, cond_false]
      exact ⟨_, h, rfl, C, .inl ⟨rfl, fun j h1 h2 => by omega⟩⟩
theorem tright_l1 (k : Nat) (hk : 20000 < k) {h0 : H} (w0 : WF h0) {lb : Nat} {s : Sl} {vs : List Vs} (T : TreeR h0 s vs) (hn : vs.length ≤ 1000) (S : SortV vs) (I : Is h0 lb 59 1 [slv s]) : ∀ n i h, vs.length - i < n → i ≤ vs.length → Ch0 h0 h →
    ∃ v h', slices_IndexFunc_api_Volume_api_Volume_tree_Right_1.l0 k n s (some ⟨lb, 0, none⟩) (Int.ofNat vs.length) (Int.ofNat i) h = some (v, h') ∧ Ch0 h0 h' ∧ ((v = .inr () ∧ ∀ q ∈ vs.drop i, parP (vols vs) q.1) ∨ ((∃ j : Nat, v = .inl (Int.ofNat j)) ∧ ∃ q ∈ vs, ¬ parP (vols vs) q.1))
  | 0, i, h, hf, _, _ => by omega
  | n + 1, i, h, hf, hi, C => by
    rw [slices_IndexFunc_api_Volume_api_Volume_tree_Right_1.l0_succ]
    by_cases c : i < vs.length
    · rw [decLt c, cond_true]
      obtain ⟨b, o, e1, e2, e3⟩ := (T.stay w0 C).at c
      rw [e1]
      simp only [asP_ptr, Option.bind_some]
      rw [e2, bindVo]
      have hd : vs.drop i = vs[i] :: vs.drop (i + 1) := List.drop_eq_getElem_cons c
      have hm := List.getElem_mem c
      generalize vs[i] = q at hd hm
      unfold tree_Right_1.f
      dsimp only [voT]
      rw [show [Value.string (ba q.1.nm), Value.string (ba q.1.pa), Value.bool q.1.sn, Value.int .i64 q.1.sz, Value.slice q.2.a q.2.n q.2.c] = voL q from rfl]
      obtain ⟨y1, y2, y3⟩ := newR_ok C.wf 58 5 (voL q)
      generalize newR h 58 5 (voL q) = g at y1 y2 y3 ⊢
      have C1 := C.then y1
      rw [(I.stay w0 C1).ldc, show asS (([slv s] : List Value)[0]?) = some s from asS_slv _]
      simp only [Option.bind_some]
      rw [ldaIs (n := 5) y3 rfl, bindVo]
      obtain ⟨v, h2, a1, a2, a3⟩ := paren_f k (by omega) y1.wf (T.stay w0 C1) hn S q
      have a1 : tree_parented.f k s (ba q.1.nm, ba q.1.pa, q.1.sn, q.1.sz, q.2) g = _ := a1
      dsimp only [voT]
      rw [a1]
      simp only [Option.bind_some]
      have C2 := C1.then a2
      cases z : v with
      | false =>
        exact ⟨_, h2, rfl, C2, .inr ⟨⟨i, rfl⟩, q, hm, fun f => by have := a3.2 f; rw [z] at this; cases this⟩⟩
      | true =>
        simp only [Bool.not_true, cond_false]
        rw [wrap_succ (by omega)]
        obtain ⟨v', h3, d1, d2, d3⟩ := tright_l1 k hk w0 T hn S I n (i + 1) h2 (by omega) (by omega) C2
        refine ⟨v', h3, d1, d2, d3.imp (fun ⟨x, y⟩ => ⟨x, fun q' hq' => ?_⟩) fun x => x⟩
        rw [hd] at hq'
        rcases List.mem_cons.1 hq' with e | e
        · rw [e]; exact a3.1 z
        · exact y q' e
    · rw [decNlt c, cond_false]
      exact ⟨_, h, rfl, C, .inl ⟨rfl, fun q hq => by rw [List.drop_eq_nil_of_le (by omega)] at hq; cases hq⟩⟩
theorem tright_f (k : Nat) (hk : 20000 < k) {h : H} (w : WF h) {s : Sl} {vs : List Vs} (T : TreeR h s vs) (B : TreeB vs) : ∃ v h', tree_Right.f k s h = some (v, h') ∧ Ch0 h h' ∧ (v = true ↔ RightP (vols vs)) := by
  unfold tree_Right.f
  rw [show [Value.slice s.a s.n s.c] = [slv s] from rfl]
  obtain ⟨y1, y2, y3⟩ := newR_ok w 59 1 [slv s]
  generalize newR h 59 1 [slv s] = g at y1 y2 y3 ⊢
  have hn := B.n
  have L : ∀ {g' : H}, Ch0 g g' → asS (ldc g' (some ⟨h.next, 0, none⟩)) = some s := fun c => by rw [(y3.stay y1.wf c).ldc]; exact asS_slv _
  rw [L (Ch.refl y1.wf)]
  simp only [Option.bind_some]
  obtain ⟨v, h2, a1, a2, a3⟩ := tright_l0 k hk y1.wf (T.stay w y1) B y3 k 0 g (by omega) (Nat.zero_le _) (Ch.refl y1.wf)
  rw [T.n, show (0 : Int) = Int.ofNat 0 from rfl, a1]
  rcases a3 with ⟨rfl, e⟩ | ⟨rfl, j, hj, e⟩
  rotate_left
  · exact ⟨false, h2, rfl, y1.then a2, (fun f => by cases f), fun f => absurd (((right_iff vs).1 f).1 j hj) e⟩
  have e : ∀ j, j < vs.length → okAt vs j := fun j hj => e j (Nat.zero_le _) hj
  simp only [Option.bind_some]
  rw [L a2]
  simp only [Option.bind_some, T.n]
  by_cases c : vs.length ≤ 12
  · rw [decide_eq_true (show Int.ofNat vs.length ≤ (12 : Int) by simp only [Int.ofNat_eq_natCast]; omega)]
    simp only [cond_true, Option.bind_some]
    unfold slices_ContainsFunc_api_Volume_api_Volume_tree_Right_1.f slices_IndexFunc_api_Volume_api_Volume_tree_Right_1.f
    have c2 := y1.then a2
    obtain ⟨v, h3, b1, b2, b3⟩ := tright_l1 k hk a2.wf (T.stay w c2) hn (okAll_sorted e) (y3.stay y1.wf a2) k 0 h2 (by omega) (Nat.zero_le _) (Ch.refl a2.wf)
    rw [T.n, show (0 : Int) = Int.ofNat 0 from rfl, b1]
    rcases b3 with ⟨rfl, f⟩ | ⟨⟨j, rfl⟩, q, hq, f⟩
    · rw [List.drop_zero] at f
      exact ⟨true, h3, rfl, c2.then b2, fun _ => (right_iff vs).2 ⟨e, c, f⟩, fun _ => rfl⟩
    · simp only [Option.bind_some]
      rw [decide_eq_true (show Int.ofNat j ≥ Int.ofNat 0 by simp only [Int.ofNat_eq_natCast]; omega)]
      exact ⟨false, h3, rfl, c2.then b2, (fun f => by cases f), fun g => absurd (((right_iff vs).1 g).2.2 q hq) f⟩
  · rw [decide_eq_false (show ¬ Int.ofNat vs.length ≤ (12 : Int) by simp only [Int.ofNat_eq_natCast]; omega)]
    exact ⟨false, h2, rfl, y1.then a2, (fun f => by cases f), fun g => absurd ((right_iff vs).1 g).2.1 c⟩
/-! ### the reference -/
end Go.Proofs.Ytfenkpghcbohdaa.Fw
