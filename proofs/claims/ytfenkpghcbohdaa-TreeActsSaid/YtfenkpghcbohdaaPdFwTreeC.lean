/- FwRootA: declarations of other seats' texts, for this one. No condition. -/
import Derived.Test.YtfenkpghcbohdaaDenHq
import Derived.Test.YtfenkpghcbohdaaPdFRoot
import Derived.Lib.Strings
import Derived.KernelRfl
import Derived.Test.YtfenkpghcbohdaaPdFMeta
import Derived.Laws.RangeAny
import Derived.Test.YtfenkpghcbohdaaDenOpen
namespace Go.Proofs.Ytfenkpghcbohdaa.Fw
open Go Den Fwd
set_option linter.unusedVariables false
set_option linter.unusedSimpArgs false
theorem pick_f (k : Nat) (n m : Int) (h : H) (h0 : 0 < m) (h1 : m ≤ 4611686018427387904) : corbelhand_Pick.f k n m h = some (n % m, h) := by
  unfold corbelhand_Pick.f
  have e0 : (m == 0) = false := by simp; omega
  have e := Int.tmod_eq_emod (a := n) (b := m)
  have b1 := Int.emod_nonneg n (show m ≠ 0 by omega)
  have b2 := Int.emod_lt_of_pos n h0
  have hm : (m.natAbs : Int) = m := by omega
  have r0 : intA .rem .i64 n m = some (.int .i64 (n.tmod m)) := by
    show cond (m == 0) none (some (Value.int .i64 (n.tmod m))) = _
    rw [e0]; rfl
  rw [r0]
  simp only [asI, if_true, Option.bind_some]
  by_cases hc : 0 ≤ n ∨ m ∣ n
  · rw [if_pos hc] at e
    have hd : decide (n.tmod m < 0) = false := decide_eq_false (by omega)
    rw [hd, cond_false, Option.bind_some, e]; simp
  · rw [if_neg hc, hm] at e
    have hne : n % m ≠ 0 := fun q => hc (.inr (Int.dvd_of_emod_eq_zero q))
    have hd : decide (n.tmod m < 0) = true := decide_eq_true (by omega)
    rw [hd, cond_true, Option.bind_some, wrap_in (by omega) (by omega), e]
    simp
abbrev Parts := List (Sl × List UInt8)
def PartsR (h : H) (ps : Parts) : Prop := ∀ p ∈ ps, SlR 1 h p.1 (byt p.2)
theorem PartsR.stay {h h' : H} {ps : Parts} (w : WF h) (c : Ch0 h h') (r : PartsR h ps) : PartsR h' ps := fun p hp => (r p hp).stay w c
theorem wrap_u64 {n : Int} (h0 : 0 ≤ n) (h1 : n < 18446744073709551616) : wrapA .u64 n = n := by
  rw [wrapA_eq]
  show n % 18446744073709551616 = n
  exact Int.emod_eq_of_lt h0 h1
theorem Ch0.own {h0 h h' : H} {s : Sl} (c : Ch0 h0 h) (d : Ch (SlB s) h h') (hs : ∀ b, SlB s b → h0.next ≤ b) : Ch0 h0 h' :=
  c.trans d fun x hx f => by have := hs x f; omega
/-- a box, all of it stored -/
theorem Is.whole {h : H} (w : WF h) {b e n : Nat} {l : List Value} (I : Is h b e n l) (hl : l.length = n) (vs : List Value) (hv : vs.length = n) (h1 : vs.all Den.one = true) :
    ∃ h', stv n h (some ⟨b, 0, none⟩) vs = some (undef, h') ∧ Ch (fun c => c = b) h h' ∧ h'.next = h.next ∧ Is h' b e n vs := by
  obtain ⟨h', e1, e2, e3, e4⟩ := stv_ok w I (o := 0) vs (by omega) h1
  rw [hv] at e1
  refine ⟨h', e1, e2, e3, ?_⟩
  have : over l 0 vs = vs := by
    unfold over
    rw [List.take_zero, List.nil_append, List.drop_eq_nil_of_le (by omega), List.append_nil]
  rw [← this]; exact e4
theorem nn (x : Int) (h : 0 ≤ x) : x = Int.ofNat x.toNat := (Int.toNat_of_nonneg h).symm
theorem Ch0.at {h0 h h' : H} {r : Nat} (c : Ch0 h0 h) (d : Ch (fun b => b = r) h h') (hr : h0.next ≤ r) : Ch0 h0 h' := c.trans d fun x hx f => by omega
end Go.Proofs.Ytfenkpghcbohdaa.Fw
/- meta's roots, as plain lists. No condition. -/
namespace Go.Proofs.Ytfenkpghcbohdaa.Fw
open Go Den Fwd
set_option linter.unusedVariables false
set_option linter.unusedSimpArgs false
structure Rt where
  vr : Int
  cp : Int
  ln : Int
  sm : Int
def Rt.zero : Rt := ⟨0, 0, 0, 0⟩
def rtV (a b c d : Int) : List Value := [.int .i64 a, .int .i64 b, .int .i64 c, .int .i64 d]
def Rt.vs (q : Rt) : List Value := rtV q.vr q.cp q.ln q.sm
def Rt.right (q : Rt) : Bool := decide (1 ≤ q.vr ∧ q.vr ≤ 1099511627776) && (decide (0 ≤ q.cp ∧ q.cp ≤ 1) && (decide (1 ≤ q.ln ∧ q.ln ≤ 1024) && decide (0 ≤ q.sm ∧ q.sm ≤ 4294967290)))
theorem Rt.right_iff (q : Rt) : q.right = true ↔ (1 ≤ q.vr ∧ q.vr ≤ 1099511627776) ∧ (0 ≤ q.cp ∧ q.cp ≤ 1) ∧ (1 ≤ q.ln ∧ q.ln ≤ 1024) ∧ (0 ≤ q.sm ∧ q.sm ≤ 4294967290) := by
  unfold Rt.right
  simp only [Bool.and_eq_true, decide_eq_true_eq]
/-! ### reading -/
end Go.Proofs.Ytfenkpghcbohdaa.Fw
/- Volumes: names, their order, maps; which lists may be. No program, no condition. -/
namespace Go.Proofs.Ytfenkpghcbohdaa.Fw
open Go Den Fwd
set_option linter.unusedVariables false
set_option linter.unusedSimpArgs false
/-! ### the order of names -/
abbrev less := Op.bytesLess
theorem less_irr : ∀ a : List UInt8, less a a = false
  | [] => rfl
  | x :: a => by
    show (decide (x < x) || (x == x && Op.bytesLess a a)) = false
    rw [show Op.bytesLess a a = false from less_irr a, decide_eq_false (by rw [UInt8.lt_iff_toNat_lt]; omega), Bool.and_false]; rfl
theorem less_cons (x y : UInt8) (a b : List UInt8) : less (x :: a) (y :: b) = true ↔ x.toNat < y.toNat ∨ (x = y ∧ less a b = true) := by
  show (decide (x < y) || (x == y && Op.bytesLess a b)) = true ↔ _
  rw [Bool.or_eq_true, Bool.and_eq_true, decide_eq_true_eq, beq_iff_eq, UInt8.lt_iff_toNat_lt]
theorem less_trans : ∀ {a b c : List UInt8}, less a b = true → less b c = true → less a c = true
  | [], b :: ys, c :: zs, _, _ => rfl
  | [], [], c, h, _ => by cases h
  | [], b :: ys, [], _, h => by cases h
  | a :: xs, [], c, h, _ => by cases h
  | a :: xs, b :: ys, [], _, h => by cases h
  | a :: xs, b :: ys, c :: zs, h1, h2 => by
    rw [less_cons] at h1 h2 ⊢
    rcases h1 with h1 | ⟨rfl, h1⟩
    · rcases h2 with h2 | ⟨rfl, h2⟩
      · exact .inl (by omega)
      · exact .inl h1
    · rcases h2 with h2 | ⟨rfl, h2⟩
      · exact .inl h2
      · exact .inr ⟨rfl, less_trans h1 h2⟩
theorem less_tri : ∀ a b : List UInt8, less a b = true ∨ a = b ∨ less b a = true
  | [], [] => .inr (.inl rfl)
  | [], b :: ys => .inl rfl
  | a :: xs, [] => .inr (.inr rfl)
  | a :: xs, b :: ys => by
    rw [less_cons, less_cons]
    rcases Nat.lt_trichotomy a.toNat b.toNat with h | h | h
    · exact .inl (.inl h)
    · have e : a = b := UInt8.toNat_inj.1 h
      subst e
      rcases less_tri xs ys with g | g | g
      · exact .inl (.inr ⟨rfl, g⟩)
      · exact .inr (.inl (by rw [g]))
      · exact .inr (.inr (.inr ⟨rfl, g⟩))
    · exact .inr (.inr (.inl h))
theorem less_not {a b : List UInt8} (h : less a b = true) : less b a = false ∧ a ≠ b := by
  refine ⟨Bool.eq_false_iff.2 fun g => ?_, fun g => ?_⟩
  · have := less_trans h g
    rw [less_irr] at this
    cases this
  · rw [g, less_irr] at h
    cases h
theorem cmp_lt : ∀ a b : List UInt8, (Lib.compareBytes a b < 0 ↔ less a b = true) ∧ (Lib.compareBytes a b = 0 ↔ a = b)
  | [], [] => ⟨by decide, by decide⟩
  | [], b :: ys => by
    refine ⟨⟨fun _ => rfl, fun _ => ?_⟩, ⟨fun h => ?_, fun h => ?_⟩⟩
    · show (-1 : Int) < 0
      decide
    · have : (-1 : Int) = 0 := h
      omega
    · cases h
  | a :: xs, [] => by
    refine ⟨⟨fun h => ?_, fun h => ?_⟩, ⟨fun h => ?_, fun h => ?_⟩⟩
    · have : (1 : Int) < 0 := h
      omega
    · cases h
    · have : (1 : Int) = 0 := h
      omega
    · cases h
  | a :: xs, b :: ys => by
    rw [less_cons]
    show ((if a < b then (-1 : Int) else if b < a then 1 else Lib.compareBytes xs ys) < 0 ↔ _) ∧ ((if a < b then (-1 : Int) else if b < a then 1 else Lib.compareBytes xs ys) = 0 ↔ _)
    rcases Nat.lt_trichotomy a.toNat b.toNat with h | h | h
    · rw [if_pos (UInt8.lt_iff_toNat_lt.2 h)]
      refine ⟨⟨fun _ => .inl h, fun _ => by decide⟩, ⟨fun g => ?_, fun g => ?_⟩⟩
      · omega
      · injection g with g1
        rw [g1] at h
        omega
    · have e : a = b := UInt8.toNat_inj.1 h
      subst e
      rw [if_neg (fun f => by have := UInt8.lt_iff_toNat_lt.1 f; omega), if_neg (fun f => by have := UInt8.lt_iff_toNat_lt.1 f; omega)]
      obtain ⟨i1, i2⟩ := cmp_lt xs ys
      exact ⟨⟨fun g => .inr ⟨rfl, i1.1 g⟩, fun g => g.elim (fun f => by omega) fun f => i1.2 f.2⟩, ⟨fun g => by rw [i2.1 g], fun g => i2.2 (List.cons.inj g).2⟩⟩
    · rw [if_neg (fun f => by have := UInt8.lt_iff_toNat_lt.1 f; omega), if_pos (UInt8.lt_iff_toNat_lt.2 h)]
      refine ⟨⟨fun g => ?_, fun g => ?_⟩, ⟨fun g => ?_, fun g => ?_⟩⟩
      · omega
      · rcases g with f | f
        · omega
        · rw [f.1] at h
          omega
      · omega
      · injection g with g1
        rw [g1] at h
        omega
/-! ### names, maps -/
def ba (l : List UInt8) : ByteArray := ⟨l.toArray⟩
theorem ba_list (l : List UInt8) : (ba l).toList = l := by rw [ByteArray.toList_eq]; rfl
theorem ba_data (l : List UInt8) : (ba l).data.toList = l := rfl
def okC (c : UInt8) : Bool := (decide (97 ≤ c.toNat) && decide (c.toNat ≤ 122)) || (decide (48 ≤ c.toNat) && decide (c.toNat ≤ 57))
def isName (s : List UInt8) : Bool := s.all okC && (decide (1 ≤ s.length) && decide (s.length ≤ 8))
def okN (n : Int) : Bool := decide (n = 0) || (decide (17 ≤ n) && decide (n < 40))
def okSize (n : Int) : Bool := decide (0 ≤ n) && (decide (n ≤ 256) && decide (n % 8 = 0))
def rightMap (size : Int) (m : List Int) : Bool := okSize size && (decide ((m.length : Int) = size / 8) && m.all okN)
/-- name, parent, a snapshot?, size, map -/
structure Vol where
  nm : List UInt8
  pa : List UInt8
  sn : Bool
  sz : Int
  mp : List Int
deriving DecidableEq
structure RightP (t : List Vol) : Prop where
  so : t.Pairwise fun a b => less a.nm b.nm = true
  na : ∀ v ∈ t, isName v.nm = true
  ma : ∀ v ∈ t, rightMap v.sz v.mp = true
  pa : ∀ v ∈ t, v.pa = [] ∨ (v.pa ≠ v.nm ∧ ∃ u ∈ t, u.nm = v.pa ∧ u.sn ≠ v.sn)
  le : t.length ≤ 12
theorem adj_sorted : ∀ {t : List Vol}, (∀ i (h : i + 1 < t.length), less (t[i]'(by omega)).nm t[i + 1].nm = true) → t.Pairwise fun a b => less a.nm b.nm = true
  | [], _ => List.Pairwise.nil
  | [v], _ => List.pairwise_singleton _ _
  | v :: u :: t, h => by
    have ih : (u :: t).Pairwise fun a b => less a.nm b.nm = true := adj_sorted fun i hi => h (i + 1) (by rw [List.length_cons]; omega)
    have h0 : less v.nm u.nm = true := h 0 (by simp)
    refine List.pairwise_cons.2 ⟨fun b hb => ?_, ih⟩
    rcases List.mem_cons.1 hb with e | e
    · rw [e]; exact h0
    · exact less_trans h0 ((List.pairwise_cons.1 ih).1 b e)
theorem sorted_lt {t : List Vol} (h : t.Pairwise fun a b => less a.nm b.nm = true) {i j : Nat} (hj : j < t.length) (hij : i < j) : less (t[i]'(by omega)).nm t[j].nm = true := (List.pairwise_iff_getElem.1 h) i j (by omega) hj hij
theorem sorted_inj {t : List Vol} (h : t.Pairwise fun a b => less a.nm b.nm = true) {i j : Nat} (hi : i < t.length) (hj : j < t.length) (e : t[i].nm = t[j].nm) : i = j := by
  rcases Nat.lt_trichotomy i j with g | g | g
  · exact absurd e (less_not (sorted_lt h hj g)).2
  · exact g
  · exact absurd e.symm (less_not (sorted_lt h hi g)).2
theorem decLt {a b : Nat} (h : a < b) : decide (Int.ofNat a < Int.ofNat b) = true := decide_eq_true (by simp only [Int.ofNat_eq_natCast]; omega)
theorem decNlt {a b : Nat} (h : ¬ a < b) : decide (Int.ofNat a < Int.ofNat b) = false := decide_eq_false (by simp only [Int.ofNat_eq_natCast]; omega)
/-! ### the program's names -/
def oddI (c : Int) : Bool := (decide (c < 97) || decide (c > 122)) && (decide (c < 48) || decide (c > 57))
theorem isn1_f (k : Nat) (c : Int) (h : H) : tree_IsName_1.f k c h = some (oddI c, h) := by
  unfold tree_IsName_1.f oddI
  cases decide (c < 97) <;> cases decide (c > 122) <;> cases decide (c < 48) <;> cases decide (c > 57) <;> rfl
theorem odd_byte (c : UInt8) : oddI ((c.toNat : Nat) : Int) = !okC c := by
  unfold oddI okC
  have e1 : decide (((c.toNat : Nat) : Int) < 97) = !decide (97 ≤ c.toNat) := by rw [← decide_not]; exact decide_eq_decide.2 (by omega)
  have e2 : decide (((c.toNat : Nat) : Int) > 122) = !decide (c.toNat ≤ 122) := by rw [← decide_not]; exact decide_eq_decide.2 (by omega)
  have e3 : decide (((c.toNat : Nat) : Int) < 48) = !decide (48 ≤ c.toNat) := by rw [← decide_not]; exact decide_eq_decide.2 (by omega)
  have e4 : decide (((c.toNat : Nat) : Int) > 57) = !decide (c.toNat ≤ 57) := by rw [← decide_not]; exact decide_eq_decide.2 (by omega)
  rw [e1, e2, e3, e4]
  cases decide (97 ≤ c.toNat) <;> cases decide (c.toNat ≤ 122) <;> cases decide (48 ≤ c.toNat) <;> cases decide (c.toNat ≤ 57) <;> rfl
theorem isn_l0 (k : Nat) {s : List UInt8} {ib : Nat} {h0 : H} (hib : h0.next ≤ ib) : ∀ n pos h ver, s.length - pos < n → Ch0 h0 h → h.get ib = some (.iter (ba s) pos ver) →
    ∃ v h', strings_indexFunc_tree_IsName_1.l0 k n () true (some ⟨ib, 0, none⟩) h = some (v, h') ∧ Ch0 h0 h' ∧ ((v = .inr () ∧ (s.drop pos).all okC = true) ∨ ((∃ i : Nat, v = .inl (Int.ofNat i)) ∧ (s.drop pos).all okC = false))
  | 0, pos, h, ver, hn, _, _ => by omega
  | n + 1, pos, h, ver, hn, C, hI => by
    rw [strings_indexFunc_tree_IsName_1.l0_succ]
    have e0 : nxt h (some (Value.pointer (some ⟨ib, 0, none⟩))) = cond (Nat.blt pos (ba s).size) (some (some (pos, ((Utf8.decode (ba s) pos).1 : Int), h.put ib (.iter (ba s) (pos + (Utf8.decode (ba s) pos).2) h.clock)))) (some none) := by
      show nxtB h ib (h.get ib) = _
      rw [hI]; rfl
    rw [e0]
    have hs : (ba s).size = s.length := rfl
    by_cases c : pos < s.length
    · rw [cond_eta _ _ _ (show Nat.blt pos (ba s).size = true from Nat.ble_eq_true_of_le (by rw [hs]; omega))]
      simp only [Option.bind_some]
      rw [isn1_f]
      simp only [Option.bind_some]
      have hbyte : (ba s)[pos]'(by rw [hs]; exact c) = s[pos] := rfl
      have hd : s.drop pos = s[pos] :: s.drop (pos + 1) := List.drop_eq_getElem_cons c
      have hilt : ib < h.next := by
        rcases Nat.lt_or_ge ib h.next with q | q
        · exact q
        · rw [C.wf.dom ib q] at hI; cases hI
      have w1 : WF (h.put ib (.iter (ba s) (pos + (Utf8.decode (ba s) pos).2) h.clock)) := C.wf.put hilt rfl
      have C1 : Ch0 h0 (h.put ib (.iter (ba s) (pos + (Utf8.decode (ba s) pos).2) h.clock)) := Ch0.at C (r := ib) ⟨w1, Nat.le_refl _, fun z hz hn => by rw [H.get_put, if_neg hn]⟩ hib
      by_cases a : (s[pos]).toNat < 128
      · have ed := decode_ascii (ba s) pos (by rw [hs]; exact c) (by rw [hbyte]; exact a)
        rw [hbyte] at ed
        rw [ed] at C1 ⊢
        rw [odd_byte]
        rw [hd, List.all_cons]
        cases ok : okC s[pos] with
        | true =>
          rw [Bool.true_and, show ((!true) == true) = false from rfl, cond_false]
          exact isn_l0 k hib n (pos + 1) _ h.clock (by omega) C1 (by rw [H.get_put, if_pos rfl])
        | false =>
          rw [Bool.false_and, show ((!false) == true) = true from rfl, cond_true]
          exact ⟨_, _, rfl, C1, .inr ⟨⟨pos, rfl⟩, rfl⟩⟩
      · have ed := (decode_high (ba s) pos (by rw [hs]; exact c) (by rw [hbyte]; omega)).1
        have eo : oddI (((Utf8.decode (ba s) pos).1 : Nat) : Int) = true := by
          unfold oddI
          rw [decide_eq_true (show (((Utf8.decode (ba s) pos).1 : Nat) : Int) > 122 by omega), decide_eq_true (show (((Utf8.decode (ba s) pos).1 : Nat) : Int) > 57 by omega), Bool.or_true, Bool.or_true]; rfl
        rw [eo, show (true == true) = true from rfl, cond_true]
        refine ⟨_, _, rfl, C1, .inr ⟨⟨pos, rfl⟩, ?_⟩⟩
        rw [hd, List.all_cons, show okC s[pos] = false by
          unfold okC
          rw [decide_eq_false (show ¬ (s[pos]).toNat ≤ 122 by omega), decide_eq_false (show ¬ (s[pos]).toNat ≤ 57 by omega), Bool.and_false, Bool.and_false]; rfl]
        rfl
    · rw [show Nat.blt pos (ba s).size = false by
        cases q : Nat.blt pos (ba s).size with
        | false => rfl
        | true =>
          have := Nat.le_of_ble_eq_true q
          rw [hs] at this
          omega, cond_false]
      exact ⟨_, h, rfl, C, .inl ⟨rfl, by rw [List.drop_eq_nil_of_le (by omega)]; rfl⟩⟩
theorem isName_f (k : Nat) {h : H} (w : WF h) (s : List UInt8) (hk : s.length < k) : ∃ h', tree_IsName.f k (ba s) h = some (isName s, h') ∧ Ch0 h h' := by
  unfold tree_IsName.f strings_ContainsFunc_tree_IsName_1.f strings_IndexFunc_tree_IsName_1.f strings_indexFunc_tree_IsName_1.f
  have w1 : WF (h.new (.iter (ba s) 0 h.clock)) := w.new (Nat.le_refl _)
  have C1 : Ch0 h (h.new (.iter (ba s) 0 h.clock)) := ⟨w1, Nat.le_succ _, fun z hz _ => by rw [H.get_new, if_neg (by omega)]⟩
  obtain ⟨v, h', a1, a2, a3⟩ := isn_l0 k (s := s) (Nat.le_refl h.next) k 0 _ h.clock (by omega) C1 (by rw [H.get_new, if_pos rfl])
  rw [a1]
  rw [List.drop_zero] at a3
  refine ⟨h', ?_, a2⟩
  have e1 : decide (Int.ofNat (ba s).data.toList.length ≥ (1 : Int)) = decide (1 ≤ s.length) := decide_eq_decide.2 (by rw [ba_data]; simp only [Int.ofNat_eq_natCast]; omega)
  have e2 : decide (Int.ofNat (ba s).data.toList.length ≤ (8 : Int)) = decide (s.length ≤ 8) := decide_eq_decide.2 (by rw [ba_data]; simp only [Int.ofNat_eq_natCast]; omega)
  rw [e1, e2]
  unfold isName
  rcases a3 with ⟨rfl, e⟩ | ⟨⟨i, rfl⟩, e⟩
  · rw [e]
    simp only [Option.bind_some]
    rw [show decide ((-1 : Int) ≥ 0) = false from rfl]
    cases decide (1 ≤ s.length) <;> cases decide (s.length ≤ 8) <;> rfl
  · rw [e]
    simp only [Option.bind_some]
    rw [decide_eq_true (show Int.ofNat i ≥ (0 : Int) from Int.natCast_nonneg i)]
    cases decide (1 ≤ s.length) <;> cases decide (s.length ≤ 8) <;> rfl
/-! ### the reference's names -/
theorem rname_l0 (k : Nat) (s : List UInt8) (hl : s.length < 9223372036854775807) (h : H) : ∀ n i, s.length - i < n → i ≤ s.length →
    ∃ v, corbelref16_IsName.l0 k n (ba s) (Int.ofNat i) h = some (v, h) ∧ ((v = .inr () ∧ (s.drop i).all okC = true) ∨ (v = .inl false ∧ (s.drop i).all okC = false))
  | 0, i, hn, _ => by omega
  | n + 1, i, hn, hi => by
    rw [corbelref16_IsName.l0_succ, ba_data]
    by_cases c : i < s.length
    · rw [decLt c, cond_true]
      have e0 : asI .u8 (ixt (ba s) (Int.ofNat i)) = some (Int.ofNat s[i].toNat) := by
        unfold ixt
        show asI .u8 (match (ba s).data.toList[i]? with | some c => some (Value.int .u8 (.ofNat c.toNat)) | none => none) = _
        rw [ba_data, List.getElem?_eq_getElem c]
        exact asI_int _ _
      rw [e0]
      simp only [Option.bind_some]
      have hd : s.drop i = s[i] :: s.drop (i + 1) := List.drop_eq_getElem_cons c
      have f1 : decide (Int.ofNat s[i].toNat ≥ (97 : Int)) = decide (97 ≤ s[i].toNat) := decide_eq_decide.2 (by simp only [Int.ofNat_eq_natCast]; omega)
      have f2 : decide (Int.ofNat s[i].toNat ≤ (122 : Int)) = decide (s[i].toNat ≤ 122) := decide_eq_decide.2 (by simp only [Int.ofNat_eq_natCast]; omega)
      have f3 : decide (Int.ofNat s[i].toNat ≥ (48 : Int)) = decide (48 ≤ s[i].toNat) := decide_eq_decide.2 (by simp only [Int.ofNat_eq_natCast]; omega)
      have f4 : decide (Int.ofNat s[i].toNat ≤ (57 : Int)) = decide (s[i].toNat ≤ 57) := decide_eq_decide.2 (by simp only [Int.ofNat_eq_natCast]; omega)
      rw [f1, f2, f3, f4]
      have g : ((cond (decide (97 ≤ s[i].toNat)) (some (decide (s[i].toNat ≤ 122), h)) (some (false, h))).bind fun g6 => (cond g6.1 (some (true, g6.2)) ((cond (decide (48 ≤ s[i].toNat)) (some (decide (s[i].toNat ≤ 57), g6.2)) (some (false, g6.2))).bind fun g9 => some (g9.1, g9.2))) : Option (Bool × H)) = some (okC s[i], h) := by
        unfold okC
        cases decide (97 ≤ s[i].toNat) <;> cases decide (s[i].toNat ≤ 122) <;> cases decide (48 ≤ s[i].toNat) <;> cases decide (s[i].toNat ≤ 57) <;> rfl
      rw [← Option.bind_assoc, g]
      simp only [Option.bind_some]
      rw [hd, List.all_cons]
      cases ok : okC s[i] with
      | true =>
        rw [Bool.true_and, Bool.not_true, cond_false, wrap_succ (by omega)]
        exact rname_l0 k s hl h n (i + 1) (by omega) (by omega)
      | false =>
        rw [Bool.false_and, Bool.not_false, cond_true]
        exact ⟨_, rfl, .inr ⟨rfl, rfl⟩⟩
    · rw [decNlt c, cond_false]
      exact ⟨_, rfl, .inl ⟨rfl, by rw [List.drop_eq_nil_of_le (by omega)]; rfl⟩⟩
theorem rname_f (k : Nat) (h : H) (s : List UInt8) (hk : s.length < k) (hl : s.length < 9223372036854775807) : corbelref16_IsName.f k (ba s) h = some (isName s, h) := by
  unfold corbelref16_IsName.f
  obtain ⟨v, a1, a3⟩ := rname_l0 k s hl h k 0 (by omega) (Nat.zero_le _)
  rw [show (0 : Int) = Int.ofNat 0 from rfl, a1]
  rw [List.drop_zero] at a3
  have e1 : decide (Int.ofNat (ba s).data.toList.length ≥ (1 : Int)) = decide (1 ≤ s.length) := decide_eq_decide.2 (by rw [ba_data]; simp only [Int.ofNat_eq_natCast]; omega)
  have e2 : decide (Int.ofNat (ba s).data.toList.length ≤ (8 : Int)) = decide (s.length ≤ 8) := decide_eq_decide.2 (by rw [ba_data]; simp only [Int.ofNat_eq_natCast]; omega)
  rw [e1, e2]
  unfold isName
  rcases a3 with ⟨rfl, e⟩ | ⟨rfl, e⟩
  · rw [e]
    simp only [Option.bind_some]
    cases decide (1 ≤ s.length) <;> cases decide (s.length ≤ 8) <;> rfl
  · rw [e]
    simp only [Option.bind_some]
    cases decide (1 ≤ s.length) <;> cases decide (s.length ≤ 8) <;> rfl
/-! ### maps -/
theorem SlR.int {h : H} {s : Sl} {l : List Int} (r : SlR 1 h s (ivs l)) {j : Nat} (hj : j < l.length) : s.n = l.length ∧ ∃ p, ixs 1 s.a s.n (Int.ofNat j) = some (.pointer p) ∧ ldc h p = some (.int .i64 l[j]) := by
  have hn : s.n = l.length := by have := r.len; rw [ivs_len, Nat.mul_one] at this; exact this.symm
  obtain ⟨p, h1, h2⟩ := r.elem1 (j := j) (by omega)
  refine ⟨hn, p, h1, ?_⟩
  rw [h2, ivs_get, List.getElem?_eq_getElem hj]; rfl
theorem SlR.ivn {h : H} {s : Sl} {l : List Int} (r : SlR 1 h s (ivs l)) : s.n = l.length := by
  have := r.len
  rw [ivs_len, Nat.mul_one] at this
  exact this.symm
theorem okN_cond (n : Int) (h : H) : ((cond (n != (0 : Int)) ((cond (decide (n < (17 : Int))) (some (true, h)) (some (decide (n ≥ (40 : Int)), h))).bind fun g1 => some (g1.1, g1.2)) (some (false, h))).bind fun g2 => some (g2.1, g2.2) : Option (Bool × H)) = some (!okN n, h) := by
  unfold okN
  by_cases c : n = 0
  · rw [c]; rfl
  · rw [show (n != 0) = true by rw [bne_iff_ne]; exact c, decide_eq_false c, Bool.false_or]
    by_cases d : n < 17
    · rw [decide_eq_true d, decide_eq_false (show ¬ 17 ≤ n by omega)]; rfl
    · rw [decide_eq_false d, decide_eq_true (show 17 ≤ n by omega)]
      by_cases e : n < 40
      · rw [decide_eq_true e, decide_eq_false (show ¬ n ≥ 40 by omega)]; rfl
      · rw [decide_eq_false e, decide_eq_true (show n ≥ 40 by omega)]; rfl
theorem xright_l0 (k : Nat) {h : H} {s : Sl} {l : List Int} (r : SlR 1 h s (ivs l)) (hl : l.length < 9223372036854775807) : ∀ n i, l.length - i < n → i ≤ l.length →
    ∃ v, slices_IndexFunc_int_int_extent_Right_1.l0 k n s () (Int.ofNat l.length) (Int.ofNat i) h = some (v, h) ∧ ((v = .inr () ∧ (l.drop i).all okN = true) ∨ ((∃ j : Nat, v = .inl (Int.ofNat j)) ∧ (l.drop i).all okN = false))
  | 0, i, hn, _ => by omega
  | n + 1, i, hn, hi => by
    rw [slices_IndexFunc_int_int_extent_Right_1.l0_succ]
    by_cases c : i < l.length
    · rw [decLt c, cond_true]
      obtain ⟨_, p, e1, e2⟩ := SlR.int r c
      rw [e1]
      simp only [asP_ptr, Option.bind_some, e2, asI_int]
      unfold extent_Right_1.f
      rw [okN_cond]
      simp only [Option.bind_some]
      have hd : l.drop i = l[i] :: l.drop (i + 1) := List.drop_eq_getElem_cons c
      rw [hd, List.all_cons]
      cases ok : okN l[i] with
      | true =>
        rw [Bool.true_and, Bool.not_true, cond_false, wrap_succ (by omega)]
        exact xright_l0 k r hl n (i + 1) (by omega) (by omega)
      | false =>
        rw [Bool.false_and, Bool.not_false, cond_true]
        exact ⟨_, rfl, .inr ⟨⟨i, rfl⟩, rfl⟩⟩
    · rw [decNlt c, cond_false]
      exact ⟨_, rfl, .inl ⟨rfl, by rw [List.drop_eq_nil_of_le (by omega)]; rfl⟩⟩
theorem size_cond (n : Int) (h : H) : ((cond (decide (n ≥ (0 : Int))) (some (decide (n ≤ (256 : Int)), h)) (some (false, h))).bind fun g1 => (cond g1.1 (some ((n.tmod (8 : Int)) == (0 : Int), g1.2)) (some (false, g1.2))).bind fun g2 => some (g2.1, g2.2) : Option (Bool × H)) = some (okSize n, h) := by
  unfold okSize
  by_cases c : 0 ≤ n
  · rw [decide_eq_true (show n ≥ 0 from c), Bool.true_and]
    by_cases d : n ≤ 256
    · rw [decide_eq_true d, Bool.true_and]
      simp only [cond_true, Option.bind_some]
      rw [Int.tmod_eq_emod_of_nonneg c]
      by_cases e : n % 8 = 0
      · rw [e, decide_eq_true rfl]; rfl
      · rw [decide_eq_false e, show ((n % 8) == 0) = false by rw [beq_eq_false_iff_ne]; exact e]
    · rw [decide_eq_false d]; rfl
  · rw [decide_eq_false (show ¬ n ≥ 0 from c)]; rfl
theorem okSize_iff {n : Int} : okSize n = true ↔ 0 ≤ n ∧ n ≤ 256 ∧ n % 8 = 0 := by
  unfold okSize
  rw [Bool.and_eq_true, Bool.and_eq_true, decide_eq_true_eq, decide_eq_true_eq, decide_eq_true_eq]
theorem xright_f (k : Nat) {h : H} {s : Sl} {l : List Int} (r : SlR 1 h s (ivs l)) (hk : l.length < k) (hl : l.length < 9223372036854775807) (sz : Int) : extent_Right.f k sz s h = some (rightMap sz l, h) := by
  unfold extent_Right.f slices_ContainsFunc_int_int_extent_Right_1.f slices_IndexFunc_int_int_extent_Right_1.f
  obtain ⟨v, a1, a2⟩ := xright_l0 k r hl k 0 (by omega) (Nat.zero_le _)
  rw [SlR.ivn r, show (0 : Int) = Int.ofNat 0 from rfl, a1]
  rw [List.drop_zero] at a2
  simp only [Option.bind_some]
  have fin : ∀ b : Bool, b = (!l.all okN) → ((extent_sized.f k sz h).bind fun q2 => (cond q2.1 (some ((Int.ofNat l.length) == (wrapA .i64 (sz.tdiv (8 : Int))), q2.2)) (some (false, q2.2))).bind fun g3 => (cond g3.1 (some (!b, g3.2)) (some (false, g3.2))).bind fun g4 => some (g4.1, g4.2) : Option (Bool × H)) = some (rightMap sz l, h) := by
    intro b g2
    unfold extent_sized.f
    rw [size_cond]
    simp only [Option.bind_some]
    rw [g2]
    unfold rightMap
    cases z : okSize sz with
    | false => rfl
    | true =>
      obtain ⟨z1, z2, z3⟩ := okSize_iff.1 z
      rw [Int.tdiv_eq_ediv_of_nonneg z1, wrap_in (n := sz / 8) (by omega) (by omega)]
      simp only [cond_true, Bool.true_and, Option.bind_some]
      by_cases y : (l.length : Int) = sz / 8
      · rw [decide_eq_true y, show (Int.ofNat l.length == sz / 8) = true by rw [beq_iff_eq]; exact y, Bool.true_and]
        simp only [cond_true, Option.bind_some]
        cases l.all okN <;> rfl
      · rw [decide_eq_false y, show (Int.ofNat l.length == sz / 8) = false by rw [beq_eq_false_iff_ne]; exact y]; rfl
  rcases a2 with ⟨rfl, e⟩ | ⟨⟨j, rfl⟩, e⟩
  · exact fin false (by rw [e]; rfl)
  · simp only [Option.bind_some]
    rw [decide_eq_true (show Int.ofNat j ≥ Int.ofNat 0 by simp only [Int.ofNat_eq_natCast]; omega)]
    exact fin true (by rw [e]; rfl)
theorem rmap_l0 (k : Nat) {h : H} {s : Sl} {l : List Int} (r : SlR 1 h s (ivs l)) (hl : l.length < 9223372036854775807) : ∀ n i, l.length - i < n → i ≤ l.length →
    ∃ v, corbelref16_RightMap.l0 k n s (Int.ofNat i) h = some (v, h) ∧ ((v = .inr () ∧ (l.drop i).all okN = true) ∨ (v = .inl false ∧ (l.drop i).all okN = false))
  | 0, i, hn, _ => by omega
  | n + 1, i, hn, hi => by
    rw [corbelref16_RightMap.l0_succ, SlR.ivn r]
    by_cases c : i < l.length
    · rw [decLt c, cond_true]
      obtain ⟨e0, p, e1, e2⟩ := SlR.int r c
      rw [e0] at e1
      rw [e1]
      simp only [asP_ptr, Option.bind_some, e2, asI_int]
      have g : (cond (l[i] != (0 : Int)) ((cond (decide (l[i] < (17 : Int))) (some (true, h)) (some (decide (l[i] ≥ (40 : Int)), h))).bind fun g13 => some (g13.1, g13.2)) (some (false, h)) : Option (Bool × H)) = some (!okN l[i], h) := by
        have := okN_cond l[i] h
        rw [Option.bind_eq_some_iff] at this
        obtain ⟨x, x1, x2⟩ := this
        rw [x1]; exact x2
      rw [g]
      simp only [Option.bind_some]
      have hd : l.drop i = l[i] :: l.drop (i + 1) := List.drop_eq_getElem_cons c
      rw [hd, List.all_cons]
      cases ok : okN l[i] with
      | true =>
        rw [Bool.true_and, Bool.not_true, cond_false, wrap_succ (by omega)]
        exact rmap_l0 k r hl n (i + 1) (by omega) (by omega)
      | false =>
        rw [Bool.false_and, Bool.not_false, cond_true]
        exact ⟨_, rfl, .inr ⟨rfl, rfl⟩⟩
    · rw [decNlt c, cond_false]
      exact ⟨_, rfl, .inl ⟨rfl, by rw [List.drop_eq_nil_of_le (by omega)]; rfl⟩⟩
theorem rmap_f (k : Nat) {h : H} {s : Sl} {l : List Int} (r : SlR 1 h s (ivs l)) (hk : l.length < k) (hl : l.length < 9223372036854775807) (sz : Int) : corbelref16_RightMap.f k sz s h = some (rightMap sz l, h) := by
  unfold corbelref16_RightMap.f rightMap
  obtain ⟨v, a1, a2⟩ := rmap_l0 k r hl k 0 (by omega) (Nat.zero_le _)
  rw [List.drop_zero] at a2
  cases z : okSize sz with
  | false =>
    have : ¬ (0 ≤ sz ∧ sz ≤ 256 ∧ sz % 8 = 0) := fun f => by rw [okSize_iff.2 f] at z; cases z
    rw [Bool.false_and]
    by_cases c : sz < 0
    · rw [decide_eq_true c]; rfl
    · rw [decide_eq_false c]
      by_cases d : sz > 256
      · rw [decide_eq_true d]; rfl
      · rw [decide_eq_false d]
        simp only [cond_false, Option.bind_some]
        rw [Int.tmod_eq_emod_of_nonneg (by omega), show ((sz % 8) != 0) = true by rw [bne_iff_ne]; omega]; rfl
  | true =>
    obtain ⟨z1, z2, z3⟩ := okSize_iff.1 z
    rw [decide_eq_false (show ¬ sz < 0 by omega), decide_eq_false (show ¬ sz > 256 by omega)]
    simp only [cond_false, Option.bind_some]
    rw [Int.tmod_eq_emod_of_nonneg z1, z3, show ((0 : Int) != 0) = false from rfl]
    simp only [cond_false, Option.bind_some, Bool.true_and]
    rw [Int.tdiv_eq_ediv_of_nonneg z1, wrap_in (n := sz / 8) (by omega) (by omega), SlR.ivn r]
    by_cases y : (l.length : Int) = sz / 8
    · rw [decide_eq_true y, show (Int.ofNat l.length != sz / 8) = false by rw [← y]; simp, Bool.true_and]
      simp only [cond_false]
      rw [show (0 : Int) = Int.ofNat 0 from rfl, a1]
      rcases a2 with ⟨rfl, e⟩ | ⟨rfl, e⟩ <;> rw [e] <;> rfl
    · rw [decide_eq_false y, show (Int.ofNat l.length != sz / 8) = true by rw [bne_iff_ne]; exact y]; rfl
theorem flat_len {es : Nat} : ∀ {gs : List (List Value)}, (∀ g ∈ gs, g.length = es) → gs.flatten.length = gs.length * es
  | [], _ => by simp
  | g :: gs, h => by
    rw [List.flatten_cons, List.length_append, flat_len fun x hx => h x (List.mem_cons_of_mem _ hx), h g List.mem_cons_self, List.length_cons, Nat.add_mul, Nat.one_mul]; omega
theorem flat_at {es : Nat} : ∀ {gs : List (List Value)}, (∀ g ∈ gs, g.length = es) → ∀ (i : Nat) (hi : i < gs.length), (gs.flatten.drop (i * es)).take es = gs[i]
  | g :: gs, h, 0, _ => by
    have hg := h g List.mem_cons_self
    rw [List.flatten_cons, Nat.zero_mul, List.drop_zero, List.take_append_of_le_length (by omega), List.take_of_length_le (by omega)]; rfl
  | g :: gs, h, i + 1, hi => by
    have hg := h g List.mem_cons_self
    have := flat_at (gs := gs) (fun x hx => h x (List.mem_cons_of_mem _ hx)) i (by rw [List.length_cons] at hi; omega)
    rw [List.flatten_cons, Nat.add_mul, Nat.one_mul, Nat.add_comm, ← List.drop_drop]
    rw [show (g ++ gs.flatten).drop es = gs.flatten by rw [← hg, List.drop_left], this]; rfl
/-- a group of a block -/
theorem Is.grp {h : H} {b e es0 : Nat} {pre post : List Value} {es : Nat} {gs : List (List Value)} (I : Is h b e es0 (pre ++ gs.flatten ++ post)) (hg : ∀ g ∈ gs, g.length = es) {i : Nat} (hi : i < gs.length) :
    h.gets b (pre.length + i * es) es = some gs[i] ∧ lda es h (some ⟨b, pre.length + i * es, none⟩) = some (.agg gs[i].toArray) := by
  have fl := flat_len hg
  have hle : (i + 1) * es ≤ gs.length * es := Nat.mul_le_mul_right _ hi
  rw [Nat.add_mul, Nat.one_mul] at hle
  have e : (((pre ++ gs.flatten ++ post).drop (pre.length + i * es)).take es) = gs[i] := by
    rw [List.append_assoc, List.drop_append, List.drop_eq_nil_of_le (by omega), List.nil_append, show pre.length + i * es - pre.length = i * es by omega, List.drop_append_of_le_length (by omega), List.take_append_of_le_length (by rw [List.length_drop]; omega), flat_at hg i hi]
  have g1 := I.gets (o := pre.length + i * es) (n := es) (by simp only [List.length_append]; omega)
  rw [e] at g1
  refine ⟨g1, ?_⟩
  show (match h.gets b (pre.length + i * es) es with | some vs => some (Value.agg vs.toArray) | none => none) = _
  rw [g1]
/-- a group of a slice -/
theorem SlR.grp {h : H} {s : Sl} {es : Nat} {gs : List (List Value)} (r : SlR es h s gs.flatten) (hes : 0 < es) (hg : ∀ g ∈ gs, g.length = es) : s.n = gs.length ∧ ∀ (i : Nat) (hi : i < gs.length), ∃ b o, ixs es s.a gs.length (Int.ofNat i) = some (.pointer (some ⟨b, o, none⟩)) ∧ lda es h (some ⟨b, o, none⟩) = some (.agg gs[i].toArray) := by
  have hn : s.n = gs.length := by
    have := r.len
    rw [flat_len hg] at this
    exact (Nat.eq_of_mul_eq_mul_right hes this).symm
  refine ⟨hn, fun i hi => ?_⟩
  obtain ⟨b, o, e1, e2⟩ := r.elem (j := i) (by omega)
  rw [flat_at hg i hi] at e2
  rw [hn] at e1
  refine ⟨b, o, e1, ?_⟩
  show (match h.gets b o es with | some vs => some (Value.agg vs.toArray) | none => none) = _
  rw [e2]
abbrev Vs := Vol × Sl
def voL (q : Vs) : List Value := [.string (ba q.1.nm), .string (ba q.1.pa), .bool q.1.sn, .int .i64 q.1.sz, slv q.2]
abbrev VoT := ByteArray × ByteArray × Bool × Int × Sl
def voT (q : Vs) : VoT := (ba q.1.nm, ba q.1.pa, q.1.sn, q.1.sz, q.2)
theorem bindVo {β : Type} (q : Vs) (f : FT [.str, .str, .bool, .int .i64, .sl] → Option β) : (asSt [.str, .str, .bool, (.int .i64), .sl] (some (Value.agg (voL q).toArray))).bind f = f (show FT [.str, .str, .bool, .int .i64, .sl] from voT q) := rfl
theorem asTs (s : ByteArray) : asT (some (.string s)) = some s := rfl
theorem asBs (b : Bool) : asB (some (.bool b)) = some b := rfl
theorem ldaIs {h : H} {b e es n : Nat} {l : List Value} (I : Is h b e es l) (hl : l.length = n) : lda n h (some ⟨b, 0, none⟩) = some (.agg l.toArray) := by
  rw [I.lda (o := 0) (n := n) (by omega), List.drop_zero, List.take_of_length_le (by omega)]
theorem vo_es (vs : List Vs) : ∀ g ∈ vs.map voL, g.length = 5 := fun g hg => by
  obtain ⟨q, _, rfl⟩ := List.mem_map.1 hg
  rfl
theorem vo_one (vs : List Vs) : ((vs.map voL).flatten).all Den.one = true := by
  rw [List.all_eq_true]
  intro v hv
  obtain ⟨g, hg, hv⟩ := List.mem_flatten.1 hv
  obtain ⟨q, _, rfl⟩ := List.mem_map.1 hg
  simp only [voL, List.mem_cons, List.not_mem_nil, or_false] at hv
  rcases hv with rfl | rfl | rfl | rfl | rfl <;> rfl
/-- a slice of volumes, read -/
structure TreeR (h : H) (s : Sl) (vs : List Vs) : Prop where
  sl : SlR 5 h s (vs.map voL).flatten
  mp : ∀ q ∈ vs, SlR 1 h q.2 (ivs q.1.mp)
theorem TreeR.stay {h h' : H} {s : Sl} {vs : List Vs} (w : WF h) (c : Ch0 h h') (T : TreeR h s vs) : TreeR h' s vs := ⟨T.sl.stay w c, fun q hq => (T.mp q hq).stay w c⟩
theorem TreeR.n {h : H} {s : Sl} {vs : List Vs} (T : TreeR h s vs) : s.n = vs.length := by
  have := (SlR.grp (es := 5) (gs := vs.map voL) T.sl (by decide) (vo_es vs)).1
  rw [List.length_map] at this
  exact this
theorem TreeR.at {h : H} {s : Sl} {vs : List Vs} (T : TreeR h s vs) {i : Nat} (hi : i < vs.length) : ∃ b o, ixs 5 s.a s.n (Int.ofNat i) = some (.pointer (some ⟨b, o, none⟩)) ∧ lda 5 h (some ⟨b, o, none⟩) = some (.agg (voL vs[i]).toArray) ∧ ∀ j, j < 5 → ldc h (some ⟨b, o + j, none⟩) = (voL vs[i])[j]? := by
  obtain ⟨b, o, e1, e2⟩ := T.sl.elem (j := i) (by rw [T.n]; exact hi)
  rw [flat_at (vo_es vs) i (by rw [List.length_map]; exact hi), List.getElem_map] at e2
  refine ⟨b, o, e1, ?_, fun j hj => gets_cell e2 hj⟩
  show (match h.gets b o 5 with | some vs => some (Value.agg vs.toArray) | none => none) = _
  rw [e2]
structure TreeB (vs : List Vs) : Prop where
  n : vs.length ≤ 1000
  nm : ∀ q ∈ vs, q.1.nm.length ≤ 1000 ∧ q.1.pa.length ≤ 1000 ∧ q.1.mp.length ≤ 10000
/-! ### found: by the reference -/
theorem bat_eq (a b : List UInt8) : ((ba a).toList == (ba b).toList) = decide (a = b) := by
  rw [ba_list, ba_list]
  by_cases c : a = b
  · rw [c, decide_eq_true rfl]; simp
  · rw [decide_eq_false c]; simpa using c
theorem rat_l0 (k : Nat) {h : H} {s : Sl} {vs : List Vs} (T : TreeR h s vs) (hn : vs.length ≤ 1000) (nm : List UInt8) : ∀ n i, vs.length - i < n → i ≤ vs.length → (∀ j (hj : j < vs.length), j < i → vs[j].1.nm ≠ nm) →
    ∃ v, corbelref16_At.l0 k n s (ba nm) (Int.ofNat i) h = some (v, h) ∧ ((∃ j : Nat, v = .inl (Int.ofNat j) ∧ ∃ hj : j < vs.length, vs[j].1.nm = nm ∧ ∀ a (ha : a < vs.length), a < j → vs[a].1.nm ≠ nm) ∨ (v = .inr () ∧ ∀ q ∈ vs, q.1.nm ≠ nm))
  | 0, i, hf, _, _ => by omega
  | n + 1, i, hf, hi, ha => by
    rw [corbelref16_At.l0_succ]
    by_cases c : i < vs.length
    · rw [T.n, decLt c, cond_true]
      obtain ⟨b, o, e1, e2, e3⟩ := T.at c
      rw [T.n] at e1
      rw [e1]
      simp only [asP_ptr, Option.bind_some, fadd]
      rw [e3 0 (by decide), show asT ((voL vs[i])[0]?) = some (ba vs[i].1.nm) from asTs _]
      simp only [Option.bind_some]
      rw [bat_eq]
      by_cases e : vs[i].1.nm = nm
      · rw [decide_eq_true e, cond_true]
        exact ⟨_, rfl, .inl ⟨i, rfl, c, e, ha⟩⟩
      · rw [decide_eq_false e, cond_false, wrap_succ (by omega)]
        exact rat_l0 k T hn nm n (i + 1) (by omega) (by omega) fun j hj hji => by
          by_cases z : j = i
          · subst z; exact e
          · exact ha j hj (by omega)
    · rw [T.n, decNlt c, cond_false]
      exact ⟨_, rfl, .inr ⟨rfl, fun q hq => by
        obtain ⟨j, hj, rfl⟩ := List.mem_iff_getElem.1 hq
        exact ha j hj (by omega)⟩⟩
theorem rat_f (k : Nat) (hk : 2000 < k) {h : H} {s : Sl} {vs : List Vs} (T : TreeR h s vs) (hn : vs.length ≤ 1000) (nm : List UInt8) : ∃ r, corbelref16_At.f k s (ba nm) h = some (r, h) ∧ ((∃ j : Nat, r = Int.ofNat j ∧ ∃ hj : j < vs.length, vs[j].1.nm = nm ∧ ∀ a (ha : a < vs.length), a < j → vs[a].1.nm ≠ nm) ∨ (r = -1 ∧ ∀ q ∈ vs, q.1.nm ≠ nm)) := by
  unfold corbelref16_At.f
  obtain ⟨v, a1, a2⟩ := rat_l0 k T hn nm k 0 (by omega) (Nat.zero_le _) (fun j hj f => by omega)
  rw [show (0 : Int) = Int.ofNat 0 from rfl, a1]
  rcases a2 with ⟨j, rfl, a2⟩ | ⟨rfl, a2⟩
  · exact ⟨_, rfl, .inl ⟨j, rfl, a2⟩⟩
  · exact ⟨_, rfl, .inr ⟨rfl, a2⟩⟩
/-! ### found: by the program -/
theorem tat1_f (k : Nat) {h : H} (w : WF h) (q : Vs) (nm : List UInt8) : ∃ h', tree_at_1.f k (voT q) (ba nm) h = some (Lib.compareBytes q.1.nm nm, h') ∧ Ch0 h h' := by
  unfold tree_at_1.f voT
  dsimp only
  rw [show [Value.string (ba q.1.nm), Value.string (ba q.1.pa), Value.bool q.1.sn, Value.int .i64 q.1.sz, Value.slice q.2.a q.2.n q.2.c] = voL q from rfl]
  obtain ⟨y1, y2, y3⟩ := newR_ok w 58 5 (voL q)
  rw [y3.ldc, show asT ((voL q)[0]?) = some (ba q.1.nm) from asTs _]
  exact ⟨_, rfl, y1⟩
theorem mid_eq {i j : Nat} (h : i + j ≤ 100000) : wrapA .i64 ((wrapA .u64 (wrapA .i64 (Int.ofNat i + Int.ofNat j))).fdiv (2 ^ 1)) = Int.ofNat ((i + j) / 2) := by
  rw [show Int.ofNat i + Int.ofNat j = Int.ofNat (i + j) from rfl, wrap_in (n := Int.ofNat (i + j)) (by simp only [Int.ofNat_eq_natCast]; omega) (by simp only [Int.ofNat_eq_natCast]; omega), wrap_u64 (n := Int.ofNat (i + j)) (by simp only [Int.ofNat_eq_natCast]; omega) (by simp only [Int.ofNat_eq_natCast]; omega)]
  have e : (Int.ofNat (i + j)).fdiv (2 ^ 1) = Int.ofNat ((i + j) / 2) := by
    rw [show ((2 : Int) ^ 1) = 2 from rfl, Int.fdiv_eq_ediv_of_nonneg _ (by decide)]
    simp only [Int.ofNat_eq_natCast]
    omega
  rw [e, wrap_in (n := Int.ofNat ((i + j) / 2)) (by simp only [Int.ofNat_eq_natCast]; omega) (by simp only [Int.ofNat_eq_natCast]; omega)]
def vols (vs : List Vs) : List Vol := vs.map (·.1)
theorem vols_len (vs : List Vs) : (vols vs).length = vs.length := List.length_map _
abbrev SortV (vs : List Vs) : Prop := (vols vs).Pairwise fun a b => less a.nm b.nm = true
theorem SortV.lt {vs : List Vs} (h : SortV vs) {i j : Nat} (hj : j < vs.length) (hij : i < j) : less (vs[i]'(by omega)).1.nm vs[j].1.nm = true := by
  have := sorted_lt h (i := i) (j := j) (by rw [vols_len]; exact hj) hij
  unfold vols at this
  rw [List.getElem_map, List.getElem_map] at this
  exact this
theorem SortV.inj {vs : List Vs} (h : SortV vs) {i j : Nat} (hi : i < vs.length) (hj : j < vs.length) (e : vs[i].1.nm = vs[j].1.nm) : i = j := by
  refine sorted_inj h (i := i) (j := j) (by rw [vols_len]; exact hi) (by rw [vols_len]; exact hj) ?_
  unfold vols
  rw [List.getElem_map, List.getElem_map]
  exact e
theorem bs_l0 (k : Nat) {h0 : H} (w0 : WF h0) {s : Sl} {vs : List Vs} (T : TreeR h0 s vs) (hn : vs.length ≤ 1000) (S : SortV vs) (nm : List UInt8) (x4 : Int) : ∀ n i j h, j - i < n → i ≤ j → j ≤ vs.length → Ch0 h0 h → (∀ a (ha : a < vs.length), a < i → less vs[a].1.nm nm = true) → (∀ a (ha : a < vs.length), j ≤ a → less vs[a].1.nm nm = false) →
    ∃ r h', slices_BinarySearchFunc_api_Volume_api_Volume_string_tree_at_1.l0 k n s (ba nm) () x4 (Int.ofNat i) (Int.ofNat j) h = some (Int.ofNat r, h') ∧ Ch0 h0 h' ∧ r ≤ vs.length ∧ (∀ a (ha : a < vs.length), a < r → less vs[a].1.nm nm = true) ∧ ∀ a (ha : a < vs.length), r ≤ a → less vs[a].1.nm nm = false
  | 0, i, j, h, hf, _, _, _, _, _ => by omega
  | n + 1, i, j, h, hf, hij, hj, C, h1, h2 => by
    rw [slices_BinarySearchFunc_api_Volume_api_Volume_string_tree_at_1.l0_succ]
    by_cases c : i < j
    · rw [decLt c, cond_true, mid_eq (by omega)]
      have hm : (i + j) / 2 < vs.length := by omega
      obtain ⟨b, o, e1, e2, e3⟩ := (T.stay w0 C).at hm
      rw [e1]
      simp only [asP_ptr, Option.bind_some]
      rw [e2, bindVo]
      obtain ⟨h3, f1, f2⟩ := tat1_f k C.wf vs[(i + j) / 2] nm
      have f1 : tree_at_1.f k (ba vs[(i + j) / 2].1.nm, ba vs[(i + j) / 2].1.pa, vs[(i + j) / 2].1.sn, vs[(i + j) / 2].1.sz, vs[(i + j) / 2].2) (ba nm) h = _ := f1
      dsimp only [voT]
      rw [f1]
      simp only [Option.bind_some]
      obtain ⟨g1, g2⟩ := cmp_lt vs[(i + j) / 2].1.nm nm
      by_cases d : less vs[(i + j) / 2].1.nm nm = true
      · rw [decide_eq_true (g1.2 d)]
        simp only [cond_true, Option.bind_some]
        rw [wrap_succ (by omega)]
        exact bs_l0 k w0 T hn S nm x4 n ((i + j) / 2 + 1) j h3 (by omega) (by omega) hj (C.then f2) (fun a ha hai => by
          by_cases z : a = (i + j) / 2
          · subst z; exact d
          · exact less_trans (S.lt hm (by omega)) d) h2
      · rw [decide_eq_false (fun f => d (g1.1 f))]
        simp only [cond_false, Option.bind_some]
        exact bs_l0 k w0 T hn S nm x4 n i ((i + j) / 2) h3 (by omega) (by omega) (by omega) (C.then f2) h1 (fun a ha hai => by
          by_cases z : a = (i + j) / 2
          · subst z; exact Bool.eq_false_iff.2 d
          · exact Bool.eq_false_iff.2 fun f => d (less_trans (S.lt ha (by omega)) f))
    · rw [decNlt c, cond_false]
      have : i = j := by omega
      subst this
      exact ⟨i, h, rfl, C, hj, h1, h2⟩
theorem tat_f (k : Nat) (hk : 2000 < k) {h : H} (w : WF h) {s : Sl} {vs : List Vs} (T : TreeR h s vs) (hn : vs.length ≤ 1000) (S : SortV vs) (nm : List UInt8) :
    ∃ r fo h', tree_at.f k s (ba nm) h = some ((Int.ofNat r, fo), h') ∧ Ch0 h h' ∧ ((fo = true ∧ ∃ hr : r < vs.length, vs[r].1.nm = nm) ∨ (fo = false ∧ ∀ q ∈ vs, q.1.nm ≠ nm)) := by
  unfold tree_at.f slices_BinarySearchFunc_api_Volume_api_Volume_string_tree_at_1.f
  obtain ⟨r, h1, a1, a2, a3, a4, a5⟩ := bs_l0 k w T hn S nm (Int.ofNat s.n) k 0 vs.length h (by omega) (Nat.zero_le _) (Nat.le_refl _) (Ch.refl w) (fun a ha f => by omega) (fun a ha f => by omega)
  rw [show Int.ofNat s.n = Int.ofNat vs.length by rw [T.n]] at a1 ⊢
  rw [show (0 : Int) = Int.ofNat 0 from rfl, a1]
  simp only [Option.bind_some]
  have no : ∀ (hr : ∀ hr : r < vs.length, vs[r].1.nm ≠ nm), ∀ q ∈ vs, q.1.nm ≠ nm := fun hr q hq e => by
    obtain ⟨j, hj, rfl⟩ := List.mem_iff_getElem.1 hq
    rcases Nat.lt_trichotomy j r with g | g | g
    · have := a4 j hj g
      rw [e, less_irr] at this
      cases this
    · subst g
      exact hr hj e
    · have h1 := S.lt hj g
      rw [e] at h1
      rw [a5 r (by omega) (Nat.le_refl _)] at h1
      cases h1
  by_cases c : r < vs.length
  · rw [decLt c]
    obtain ⟨b, o, e1, e2, e3⟩ := (T.stay w a2).at c
    simp only [cond_true]
    rw [e1]
    simp only [asP_ptr, Option.bind_some]
    rw [e2, bindVo]
    obtain ⟨h3, f1, f2⟩ := tat1_f k a2.wf vs[r] nm
    have f1 : tree_at_1.f k (ba vs[r].1.nm, ba vs[r].1.pa, vs[r].1.sn, vs[r].1.sz, vs[r].2) (ba nm) h1 = _ := f1
    dsimp only [voT]
    rw [f1]
    simp only [Option.bind_some]
    obtain ⟨g1, g2⟩ := cmp_lt vs[r].1.nm nm
    by_cases d : vs[r].1.nm = nm
    · exact ⟨r, true, h3, by rw [g2.2 d]; rfl, a2.then f2, .inl ⟨rfl, c, d⟩⟩
    · refine ⟨r, false, h3, ?_, a2.then f2, .inr ⟨rfl, no fun _ => d⟩⟩
      rw [show (Lib.compareBytes vs[r].1.nm nm == Int.ofNat 0) = false by rw [beq_eq_false_iff_ne]; exact fun f => d (g2.1 f)]
  · rw [decNlt c]
    exact ⟨r, false, h1, rfl, a2, .inr ⟨rfl, no fun hr => absurd hr c⟩⟩
/-! ### parents -/
def parP (t : List Vol) (v : Vol) : Prop := v.pa = [] ∨ (v.pa ≠ v.nm ∧ ∃ u ∈ t, u.nm = v.pa ∧ u.sn ≠ v.sn)
theorem mem_vols {vs : List Vs} {i : Nat} (hi : i < vs.length) : vs[i].1 ∈ vols vs := List.mem_map.2 ⟨_, List.getElem_mem hi, rfl⟩
theorem paren_f (k : Nat) (hk : 2000 < k) {h : H} (w : WF h) {s : Sl} {vs : List Vs} (T : TreeR h s vs) (hn : vs.length ≤ 1000) (S : SortV vs) (q : Vs) :
    ∃ v h', tree_parented.f k s (voT q) h = some (v, h') ∧ Ch0 h h' ∧ (v = true ↔ parP (vols vs) q.1) := by
  unfold tree_parented.f voT
  dsimp only
  rw [show [Value.string (ba q.1.nm), Value.string (ba q.1.pa), Value.bool q.1.sn, Value.int .i64 q.1.sz, Value.slice q.2.a q.2.n q.2.c] = voL q from rfl]
  obtain ⟨y1, y2, y3⟩ := newR_ok w 58 5 (voL q)
  generalize newR h 58 5 (voL q) = g at y1 y2 y3 ⊢
  rw [y3.ldc, show asT ((voL q)[1]?) = some (ba q.1.pa) from asTs _]
  simp only [Option.bind_some]
  rw [show (⟨#[]⟩ : ByteArray) = ba [] from rfl, bat_eq]
  by_cases c : q.1.pa = []
  · rw [decide_eq_true c]
    exact ⟨true, g, rfl, y1, fun _ => .inl c, fun _ => rfl⟩
  · rw [decide_eq_false c, cond_false]
    obtain ⟨r, fo, h2, a1, a2, a3⟩ := tat_f k hk y1.wf (T.stay w y1) hn S q.1.pa
    rw [a1]
    simp only [Option.bind_some]
    have Y2 := y3.stay y1.wf a2
    rcases a3 with ⟨rfl, hr, e⟩ | ⟨rfl, e⟩
    · simp only [cond_true]
      rw [Y2.ldc, Y2.ldc, show asT ((voL q)[1]?) = some (ba q.1.pa) from asTs _, show asT ((voL q)[0]?) = some (ba q.1.nm) from asTs _]
      simp only [Option.bind_some]
      rw [bat_eq]
      by_cases d : q.1.pa = q.1.nm
      · rw [decide_eq_true d]
        refine ⟨false, h2, rfl, y1.then a2, ⟨(fun f => by cases f), fun f => ?_⟩⟩
        rcases f with f | f
        · exact absurd f c
        · exact absurd d f.1
      · rw [decide_eq_false d]
        simp only [Bool.not_false, cond_true]
        obtain ⟨b, o, f1, f2, f3⟩ := ((T.stay w y1).stay y1.wf a2).at hr
        rw [f1]
        simp only [asP_ptr, Option.bind_some, fadd]
        rw [f3 2 (by decide), show asB ((voL vs[r])[2]?) = some vs[r].1.sn from asBs _]
        simp only [Option.bind_some]
        rw [Y2.ldc, show asB ((voL q)[2]?) = some q.1.sn from asBs _]
        simp only [Option.bind_some]
        refine ⟨_, h2, rfl, y1.then a2, fun f => .inr ⟨d, _, mem_vols hr, e, fun z => ?_⟩, fun f => ?_⟩
        · rw [z] at f
          simp at f
        · rcases f with f | ⟨_, u, hu, k1, k2⟩
          · exact absurd f c
          · obtain ⟨q', hq', rfl⟩ := List.mem_map.1 hu
            obtain ⟨j, hj, rfl⟩ := List.mem_iff_getElem.1 hq'
            have : j = r := S.inj hj hr (by rw [k1, e])
            subst this
            cases z1 : vs[j].1.sn <;> cases z2 : q.1.sn <;> first | rfl | exact absurd (z1.trans z2.symm) k2
    · refine ⟨false, h2, rfl, y1.then a2, ⟨(fun f => by cases f), fun f => ?_⟩⟩
      rcases f with f | ⟨_, u, hu, f1, f2⟩
      · exact absurd f c
      · obtain ⟨q', hq', rfl⟩ := List.mem_map.1 hu
        exact absurd f1 (e q' hq')
def okAt (vs : List Vs) (j : Nat) : Prop := ∃ hj : j < vs.length, (∀ h0 : 0 < j, less (vs[j - 1]'(by omega)).1.nm vs[j].1.nm = true) ∧ isName vs[j].1.nm = true ∧ rightMap vs[j].1.sz vs[j].1.mp = true
theorem okAll_sorted {vs : List Vs} (h : ∀ j, j < vs.length → okAt vs j) : SortV vs := by
  refine adj_sorted fun i hi => ?_
  have hi' := hi
  rw [vols_len] at hi'
  obtain ⟨hj, h1, _⟩ := h (i + 1) hi'
  simp only [vols, List.getElem_map]
  exact h1 (by omega)
theorem right_iff (vs : List Vs) : RightP (vols vs) ↔ (∀ j, j < vs.length → okAt vs j) ∧ vs.length ≤ 12 ∧ ∀ q ∈ vs, parP (vols vs) q.1 := by
  constructor
  · intro R
    refine ⟨fun j hj => ⟨hj, fun h0 => ?_, R.na _ (mem_vols hj), R.ma _ (mem_vols hj)⟩, by have := R.le; rw [vols_len] at this; exact this, fun q hq => R.pa q.1 (List.mem_map.2 ⟨q, hq, rfl⟩)⟩
    exact SortV.lt R.so hj (by omega)
  · rintro ⟨h1, h2, h3⟩
    have S := okAll_sorted h1
    refine ⟨S, fun v hv => ?_, fun v hv => ?_, fun v hv => ?_, by rw [vols_len]; exact h2⟩
    · obtain ⟨q, hq, rfl⟩ := List.mem_map.1 hv
      obtain ⟨j, hj, rfl⟩ := List.mem_iff_getElem.1 hq
      obtain ⟨_, _, g, _⟩ := h1 j hj
      exact g
    · obtain ⟨q, hq, rfl⟩ := List.mem_map.1 hv
      obtain ⟨j, hj, rfl⟩ := List.mem_iff_getElem.1 hq
      obtain ⟨_, _, _, g⟩ := h1 j hj
      exact g
    · obtain ⟨q, hq, rfl⟩ := List.mem_map.1 hv
      exact h3 q hq
def zVs : Vs := (⟨[], [], false, 0, []⟩, ⟨none, 0, 0⟩)
/-! ### the program -/
theorem tright_l0 (k : Nat) (hk : 20000 < k) {h0 : H} (w0 : WF h0) {lb : Nat} {s : Sl} {vs : List Vs} (T : TreeR h0 s vs) (B : TreeB vs) (I : Is h0 lb 59 1 [slv s]) : ∀ n i h, vs.length - i < n → i ≤ vs.length → Ch0 h0 h →
    ∃ v h', tree_Right.l0 k n (some ⟨lb, 0, none⟩) s (Int.ofNat vs.length) (Int.ofNat i) h = some (v, h') ∧ Ch0 h0 h' ∧ ((v = .inr () ∧ ∀ j, i ≤ j → j < vs.length → okAt vs j) ∨ (v = .inl false ∧ ∃ j, j < vs.length ∧ ¬ okAt vs j))
  | 0, i, h, hf, _, _ => by omega
  | n + 1, i, h, hf, hi, C => by
    rw [tree_Right.l0_succ]
    have hn := B.n
    by_cases c : i < vs.length
    · rw [decLt c, cond_true]
      obtain ⟨b, o, e1, e2, e3⟩ := (T.stay w0 C).at c
      rw [e1]
      simp only [asP_ptr, Option.bind_some]
      rw [e2, bindVo]
      dsimp only [voT]
      have hB := B.nm _ (List.getElem_mem c)
      have hM := T.mp _ (List.getElem_mem c)
      generalize hq : vs[i] = q at hB hM
      rw [show [Value.string (ba q.1.nm), Value.string (ba q.1.pa), Value.bool q.1.sn, Value.int .i64 q.1.sz, Value.slice q.2.a q.2.n q.2.c] = voL q from rfl]
      obtain ⟨h1, b1, b2, b3, b4⟩ := box_ok C.wf 58 5 [Value.string (⟨#[]⟩ : ByteArray), Value.string (⟨#[]⟩ : ByteArray), Value.bool false, Value.int .i64 (0 : Int), Value.slice none 0 0] (voL q) rfl rfl rfl
      rw [b1]
      simp only [Option.bind_some]
      have C1 := C.then b2
      -- the order
      have g1 : ∃ g, (cond (decide (Int.ofNat i > (0 : Int))) ((asS (ldc h1 (some ⟨lb, 0, none⟩))).bind fun s10 =>
    (asP (ixs 5 s10.a s10.n (wrapA .i64 (Int.ofNat i - (1 : Int))))).bind fun p11 =>
    (asP (fadd 0 p11)).bind fun p12 =>
    (asT (ldc h1 p12)).bind fun s13 =>
    (asT (ldc h1 (some ⟨h.next, 0, none⟩))).bind fun s14 =>
    some (!(Op.bytesLess s13.toList s14.toList), h1, [], []))
      (some (false, h1, [], [])) : Option (Bool × H × LEs × EFs)) = some (g, h1, [], []) ∧ (g = false ↔ ∀ h0 : 0 < i, less (vs[i - 1]'(by omega)).1.nm q.1.nm = true) := by
        cases i with
        | zero => exact ⟨false, rfl, fun _ h0 => by omega, fun _ => rfl⟩
        | succ i =>
          rw [decide_eq_true (show Int.ofNat (i + 1) > (0 : Int) by simp only [Int.ofNat_eq_natCast]; omega), cond_true]
          rw [(I.stay w0 C1).ldc, show asS (([slv s] : List Value)[0]?) = some s from asS_slv _]
          simp only [Option.bind_some]
          rw [wrap_in (n := Int.ofNat (i + 1) - (1 : Int)) (by simp only [Int.ofNat_eq_natCast]; omega) (by simp only [Int.ofNat_eq_natCast]; omega), show Int.ofNat (i + 1) - (1 : Int) = Int.ofNat i by simp only [Int.ofNat_eq_natCast]; omega]
          obtain ⟨b', o', f1, f2, f3⟩ := (T.stay w0 C1).at (i := i) (by omega)
          rw [f1]
          simp only [asP_ptr, Option.bind_some, fadd]
          rw [f3 0 (by decide), b4.ldc, show asT ((voL (vs[i]'(by omega)))[0]?) = some (ba (vs[i]'(by omega)).1.nm) from asTs _, show asT ((voL q)[0]?) = some (ba q.1.nm) from asTs _]
          simp only [Option.bind_some]
          rw [ba_list, ba_list]
          refine ⟨_, rfl, fun f _ => ?_, fun f => ?_⟩
          · cases z : less (vs[i]'(by omega)).1.nm q.1.nm with
            | true => exact z
            | false => rw [show Op.bytesLess (vs[i]'(by omega)).1.nm q.1.nm = false from z] at f; cases f
          · have := f (by omega)
            rw [show Op.bytesLess (vs[i]'(by omega)).1.nm q.1.nm = true from this]; rfl
      obtain ⟨g, ge, gi⟩ := g1
      rw [ge]
      simp only [Option.bind_some]
      -- the name
      have g2 : ∃ g' h2, (cond g (some (true, h1, [], []))
      ((asT (ldc h1 (some ⟨h.next, 0, none⟩))).bind fun s16 =>
    (tree_IsName.f k s16 h1).bind fun q17 =>
    some (!q17.1, q17.2, [], [])) : Option (Bool × H × LEs × EFs)) = some (g', h2, [], []) ∧ Ch0 h1 h2 ∧ (g' = false ↔ g = false ∧ isName q.1.nm = true) := by
        cases g with
        | true => exact ⟨true, h1, rfl, Ch.refl b2.wf, (fun f => by cases f), fun f => by cases f.1⟩
        | false =>
          rw [cond_false, b4.ldc, show asT ((voL q)[0]?) = some (ba q.1.nm) from asTs _]
          simp only [Option.bind_some]
          obtain ⟨h2, a1, a2⟩ := isName_f k b2.wf q.1.nm (by omega)
          rw [a1]
          refine ⟨_, h2, rfl, a2, fun f => ⟨(by trivial), ?_⟩, fun f => ?_⟩
          · cases z : isName q.1.nm with
            | true => rfl
            | false => rw [z] at f; cases f
          · rw [f.2]; rfl
      obtain ⟨g', h2, ge2, c2, gi2⟩ := g2
      rw [ge2]
      simp only [Option.bind_some]
      have B2 := b4.stay b2.wf c2
      have C2 := C1.then c2
      have g3 : ∃ g'' , (cond g' (some (true, h2, [], []))
      ((asI .i64 (ldc h2 (some ⟨h.next, 3, none⟩))).bind fun n19 =>
    (asS (ldc h2 (some ⟨h.next, 4, none⟩))).bind fun s20 =>
    (extent_Right.f k n19 s20 h2).bind fun q21 =>
    some (!q21.1, q21.2, [], [])) : Option (Bool × H × LEs × EFs)) = some (g'', h2, [], []) ∧ (g'' = false ↔ g' = false ∧ rightMap q.1.sz q.1.mp = true) := by
        cases g' with
        | true => exact ⟨true, rfl, (fun f => by cases f), fun f => by cases f.1⟩
        | false =>
          rw [cond_false, B2.ldc, B2.ldc, show asI .i64 ((voL q)[3]?) = some q.1.sz from asI_int _ _, show asS ((voL q)[4]?) = some q.2 from asS_slv _]
          simp only [Option.bind_some]
          rw [xright_f k (hM.stay w0 C2) (by omega) (by omega)]
          refine ⟨_, rfl, fun f => ⟨(by trivial), ?_⟩, fun f => ?_⟩
          · cases z : rightMap q.1.sz q.1.mp with
            | true => rfl
            | false => rw [z] at f; cases f
          · rw [f.2]; rfl
      obtain ⟨g'', ge3, gi3⟩ := g3
      rw [ge3]
      simp only [Option.bind_some]
      have key : g'' = false ↔ okAt vs i := by
        rw [gi3, gi2, gi]
        constructor
        · rintro ⟨⟨h1, h2⟩, h3⟩
          exact ⟨c, fun h0 => by rw [hq]; exact h1 h0, by rw [hq]; exact h2, by rw [hq]; exact h3⟩
        · rintro ⟨_, h1, h2, h3⟩
          rw [hq] at h2 h3
          exact ⟨⟨fun h0 => by have := h1 h0; rw [hq] at this; exact this, h2⟩, h3⟩
      cases z : g'' with
      | true => exact ⟨_, h2, rfl, C2, .inr ⟨rfl, i, c, fun f => by have := key.2 f; rw [z] at this; cases this⟩⟩
      | false =>
        simp only [cond_false]
        rw [wrap_succ (by omega)]
        obtain ⟨v, h3, d1, d2, d3⟩ := tright_l0 k hk w0 T B I n (i + 1) h2 (by omega) (by omega) C2
        refine ⟨v, h3, d1, d2, d3.imp (fun ⟨x, y⟩ => ⟨x, fun j h1 h2 => ?_⟩) fun x => x⟩
        by_cases e : j = i
        · rw [e]; exact key.1 z
        · exact y j (by omega) h2
    · rw [decNlt c, cond_false]
      exact ⟨_, h, rfl, C, .inl ⟨rfl, fun j h1 h2 => by omega⟩⟩
theorem tright_l1 (k : Nat) (hk : 20000 < k) {h0 : H} (w0 : WF h0) {lb : Nat} {s : Sl} {vs : List Vs} (T : TreeR h0 s vs) (hn : vs.length ≤ 1000) (S : SortV vs) (I : Is h0 lb 59 1 [slv s]) : ∀ n i h, vs.length - i < n → i ≤ vs.length → Ch0 h0 h →
    ∃ v h', slices_IndexFunc_api_Volume_api_Volume_tree_Right_1.l0 k n s (some ⟨lb, 0, none⟩) (Int.ofNat vs.length) (Int.ofNat i) h = some (v, h') ∧ Ch0 h0 h' ∧ ((v = .inr () ∧ ∀ q ∈ vs.drop i, parP (vols vs) q.1) ∨ ((∃ j : Nat, v = .inl (Int.ofNat j)) ∧ ∃ q ∈ vs, ¬ parP (vols vs) q.1))
  | 0, i, h, hf, _, _ => by omega
  | n + 1, i, h, hf, hi, C => by
    rw [slices_IndexFunc_api_Volume_api_Volume_tree_Right_1.l0_succ]
    by_cases c : i < vs.length
    · rw [decLt c, cond_true]
      obtain ⟨b, o, e1, e2, e3⟩ := (T.stay w0 C).at c
      rw [e1]
      simp only [asP_ptr, Option.bind_some]
      rw [e2, bindVo]
      have hd : vs.drop i = vs[i] :: vs.drop (i + 1) := List.drop_eq_getElem_cons c
      have hm := List.getElem_mem c
      generalize vs[i] = q at hd hm
      unfold tree_Right_1.f
      dsimp only [voT]
      rw [show [Value.string (ba q.1.nm), Value.string (ba q.1.pa), Value.bool q.1.sn, Value.int .i64 q.1.sz, Value.slice q.2.a q.2.n q.2.c] = voL q from rfl]
      obtain ⟨y1, y2, y3⟩ := newR_ok C.wf 58 5 (voL q)
      generalize newR h 58 5 (voL q) = g at y1 y2 y3 ⊢
      have C1 := C.then y1
      rw [(I.stay w0 C1).ldc, show asS (([slv s] : List Value)[0]?) = some s from asS_slv _]
      simp only [Option.bind_some]
      rw [ldaIs (n := 5) y3 rfl, bindVo]
      obtain ⟨v, h2, a1, a2, a3⟩ := paren_f k (by omega) y1.wf (T.stay w0 C1) hn S q
      have a1 : tree_parented.f k s (ba q.1.nm, ba q.1.pa, q.1.sn, q.1.sz, q.2) g = _ := a1
      dsimp only [voT]
      rw [a1]
      simp only [Option.bind_some]
      have C2 := C1.then a2
      cases z : v with
      | false =>
        exact ⟨_, h2, rfl, C2, .inr ⟨⟨i, rfl⟩, q, hm, fun f => by have := a3.2 f; rw [z] at this; cases this⟩⟩
      | true =>
        simp only [Bool.not_true, cond_false]
        rw [wrap_succ (by omega)]
        obtain ⟨v', h3, d1, d2, d3⟩ := tright_l1 k hk w0 T hn S I n (i + 1) h2 (by omega) (by omega) C2
        refine ⟨v', h3, d1, d2, d3.imp (fun ⟨x, y⟩ => ⟨x, fun q' hq' => ?_⟩) fun x => x⟩
        rw [hd] at hq'
        rcases List.mem_cons.1 hq' with e | e
        · rw [e]; exact a3.1 z
        · exact y q' e
    · rw [decNlt c, cond_false]
      exact ⟨_, h, rfl, C, .inl ⟨rfl, fun q hq => by rw [List.drop_eq_nil_of_le (by omega)] at hq; cases hq⟩⟩
theorem tright_f (k : Nat) (hk : 20000 < k) {h : H} (w : WF h) {s : Sl} {vs : List Vs} (T : TreeR h s vs) (B : TreeB vs) : ∃ v h', tree_Right.f k s h = some (v, h') ∧ Ch0 h h' ∧ (v = true ↔ RightP (vols vs)) := by
  unfold tree_Right.f
  rw [show [Value.slice s.a s.n s.c] = [slv s] from rfl]
  obtain ⟨y1, y2, y3⟩ := newR_ok w 59 1 [slv s]
  generalize newR h 59 1 [slv s] = g at y1 y2 y3 ⊢
  have hn := B.n
  have L : ∀ {g' : H}, Ch0 g g' → asS (ldc g' (some ⟨h.next, 0, none⟩)) = some s := fun c => by rw [(y3.stay y1.wf c).ldc]; exact asS_slv _
  rw [L (Ch.refl y1.wf)]
  simp only [Option.bind_some]
  obtain ⟨v, h2, a1, a2, a3⟩ := tright_l0 k hk y1.wf (T.stay w y1) B y3 k 0 g (by omega) (Nat.zero_le _) (Ch.refl y1.wf)
  rw [T.n, show (0 : Int) = Int.ofNat 0 from rfl, a1]
  rcases a3 with ⟨rfl, e⟩ | ⟨rfl, j, hj, e⟩
  rotate_left
  · exact ⟨false, h2, rfl, y1.then a2, (fun f => by cases f), fun f => absurd (((right_iff vs).1 f).1 j hj) e⟩
  have e : ∀ j, j < vs.length → okAt vs j := fun j hj => e j (Nat.zero_le _) hj
  simp only [Option.bind_some]
  rw [L a2]
  simp only [Option.bind_some, T.n]
  by_cases c : vs.length ≤ 12
  · rw [decide_eq_true (show Int.ofNat vs.length ≤ (12 : Int) by simp only [Int.ofNat_eq_natCast]; omega)]
    simp only [cond_true, Option.bind_some]
    unfold slices_ContainsFunc_api_Volume_api_Volume_tree_Right_1.f slices_IndexFunc_api_Volume_api_Volume_tree_Right_1.f
    have c2 := y1.then a2
    obtain ⟨v, h3, b1, b2, b3⟩ := tright_l1 k hk a2.wf (T.stay w c2) hn (okAll_sorted e) (y3.stay y1.wf a2) k 0 h2 (by omega) (Nat.zero_le _) (Ch.refl a2.wf)
    rw [T.n, show (0 : Int) = Int.ofNat 0 from rfl, b1]
    rcases b3 with ⟨rfl, f⟩ | ⟨⟨j, rfl⟩, q, hq, f⟩
    · rw [List.drop_zero] at f
      exact ⟨true, h3, rfl, c2.then b2, fun _ => (right_iff vs).2 ⟨e, c, f⟩, fun _ => rfl⟩
    · simp only [Option.bind_some]
      rw [decide_eq_true (show Int.ofNat j ≥ Int.ofNat 0 by simp only [Int.ofNat_eq_natCast]; omega)]
      exact ⟨false, h3, rfl, c2.then b2, (fun f => by cases f), fun g => absurd (((right_iff vs).1 g).2.2 q hq) f⟩
  · rw [decide_eq_false (show ¬ Int.ofNat vs.length ≤ (12 : Int) by simp only [Int.ofNat_eq_natCast]; omega)]
    exact ⟨false, h2, rfl, y1.then a2, (fun f => by cases f), fun g => absurd ((right_iff vs).1 g).2.1 c⟩
/-! ### the reference -/
/-- what it asks of one: its parent is the first of that name -/
def rchk (vs : List Vs) (j : Nat) : Prop := okAt vs j ∧ ∃ hj : j < vs.length, (vs[j].1.pa = [] ∨ ∃ i, ∃ hi : i < vs.length, vs[i].1.nm = vs[j].1.pa ∧ (∀ a (ha : a < vs.length), a < i → vs[a].1.nm ≠ vs[j].1.pa) ∧ i ≠ j ∧ vs[i].1.sn ≠ vs[j].1.sn)
theorem rchk_iff (vs : List Vs) : RightP (vols vs) ↔ (∀ j, j < vs.length → rchk vs j) ∧ vs.length ≤ 12 := by
  rw [right_iff]
  constructor
  · rintro ⟨h1, h2, h3⟩
    have S := okAll_sorted h1
    refine ⟨fun j hj => ⟨h1 j hj, hj, ?_⟩, h2⟩
    rcases h3 _ (List.getElem_mem hj) with e | ⟨e, u, hu, f1, f2⟩
    · exact .inl e
    · obtain ⟨q, hq, rfl⟩ := List.mem_map.1 hu
      obtain ⟨i, hi, rfl⟩ := List.mem_iff_getElem.1 hq
      refine .inr ⟨i, hi, f1, fun a ha hai g => ?_, fun g => ?_, f2⟩
      · have := S.inj ha hi (by rw [g, f1])
        omega
      · subst g
        exact e f1.symm
  · rintro ⟨h1, h2⟩
    have ok : ∀ j, j < vs.length → okAt vs j := fun j hj => (h1 j hj).1
    have S := okAll_sorted ok
    refine ⟨ok, h2, fun q hq => ?_⟩
    obtain ⟨j, hj, rfl⟩ := List.mem_iff_getElem.1 hq
    obtain ⟨_, _, e | ⟨i, hi, f1, f2, f3, f4⟩⟩ := h1 j hj
    · exact .inl e
    · refine .inr ⟨fun g => f3 (S.inj hi hj (by rw [f1, g])), vs[i].1, mem_vols hi, f1, f4⟩
theorem rtree_l0 (k : Nat) (hk : 20000 < k) {h0 : H} (w0 : WF h0) {s : Sl} {vs : List Vs} (T : TreeR h0 s vs) (B : TreeB vs) : ∀ n i h, vs.length - i < n → i ≤ vs.length → Ch0 h0 h →
    ∃ v h', corbelref16_RightTree.l0 k n s (Int.ofNat i) h = some (v, h') ∧ Ch0 h0 h' ∧ ((v = .inr () ∧ ∀ j, i ≤ j → j < vs.length → rchk vs j) ∨ (v = .inl false ∧ ∃ j, j < vs.length ∧ ¬ rchk vs j))
  | 0, i, h, hf, _, _ => by omega
  | n + 1, i, h, hf, hi, C => by
    rw [corbelref16_RightTree.l0_succ]
    have hn := B.n
    by_cases c : i < vs.length
    · rw [T.n, decLt c, cond_true]
      obtain ⟨b, o, e1, e2, e3⟩ := (T.stay w0 C).at c
      rw [T.n] at e1
      rw [e1]
      simp only [asP_ptr, Option.bind_some]
      rw [e2, bindVo]
      dsimp only [voT]
      have hB := B.nm _ (List.getElem_mem c)
      have hM := T.mp _ (List.getElem_mem c)
      generalize hq : vs[i] = q at hB hM
      rw [show [Value.string (ba q.1.nm), Value.string (ba q.1.pa), Value.bool q.1.sn, Value.int .i64 q.1.sz, Value.slice q.2.a q.2.n q.2.c] = voL q from rfl]
      obtain ⟨h1, b1, b2, b3, b4⟩ := box_ok C.wf 58 5 [Value.string (⟨#[]⟩ : ByteArray), Value.string (⟨#[]⟩ : ByteArray), Value.bool false, Value.int .i64 (0 : Int), Value.slice none 0 0] (voL q) rfl rfl rfl
      rw [b1]
      simp only [Option.bind_some]
      have C1 := C.then b2
      have T1 := T.stay w0 C1
      have L0 : asT (ldc h1 (some ⟨h.next, 0, none⟩)) = some (ba q.1.nm) := by rw [b4.ldc]; exact asTs _
      have L1 : asT (ldc h1 (some ⟨h.next, 1, none⟩)) = some (ba q.1.pa) := by rw [b4.ldc]; exact asTs _
      have L2 : asB (ldc h1 (some ⟨h.next, 2, none⟩)) = some q.1.sn := by rw [b4.ldc]; exact asBs _
      have L3 : asI .i64 (ldc h1 (some ⟨h.next, 3, none⟩)) = some q.1.sz := by rw [b4.ldc]; exact asI_int _ _
      have L4 : asS (ldc h1 (some ⟨h.next, 4, none⟩)) = some q.2 := by rw [b4.ldc]; exact asS_slv _
      have L0' := L0
      rw [show (asT (ldc h1 (some ⟨h.next, 0, none⟩))) = some (ba q.1.nm) from L0]
      simp only [Option.bind_some]
      rw [rname_f k h1 q.1.nm (by omega) (by omega)]
      simp only [Option.bind_some]
      -- name and order
      have g1 : ∃ g, (cond (!isName q.1.nm) (some (true, h1, [], []))
      ((cond (decide (Int.ofNat i > (0 : Int))) ((some (ba q.1.nm)).bind fun s9 =>
    (asP (ixs 5 s.a vs.length (wrapA .i64 (Int.ofNat i - (1 : Int))))).bind fun p10 =>
    (asP (fadd 0 p10)).bind fun p11 =>
    (asT (ldc h1 p11)).bind fun s12 =>
    some (Op.bytesLess s9.toList s12.toList || s9.toList == s12.toList, h1, [], []))
      (some (false, h1, [], [])) : Option (Bool × H × LEs × EFs)).bind fun g13 =>
    some (g13.1, g13.2.1, g13.2.2.1, g13.2.2.2)) : Option (Bool × H × LEs × EFs)) = some (g, h1, [], []) ∧ (g = false ↔ isName q.1.nm = true ∧ ∀ h0 : 0 < i, less (vs[i - 1]'(by omega)).1.nm q.1.nm = true) := by
        cases z : isName q.1.nm with
        | false => exact ⟨true, rfl, (fun f => by cases f), fun f => by cases f.1⟩
        | true =>
          rw [Bool.not_true, cond_false]
          cases i with
          | zero => exact ⟨false, rfl, fun _ => ⟨rfl, fun h0 => by omega⟩, fun _ => rfl⟩
          | succ i =>
            rw [decide_eq_true (show Int.ofNat (i + 1) > (0 : Int) by simp only [Int.ofNat_eq_natCast]; omega), cond_true]
            simp only [Option.bind_some]
            rw [wrap_in (n := Int.ofNat (i + 1) - (1 : Int)) (by simp only [Int.ofNat_eq_natCast]; omega) (by simp only [Int.ofNat_eq_natCast]; omega), show Int.ofNat (i + 1) - (1 : Int) = Int.ofNat i by simp only [Int.ofNat_eq_natCast]; omega]
            obtain ⟨b', o', f1, f2, f3⟩ := T1.at (i := i) (by omega)
            rw [T.n] at f1
            rw [f1]
            simp only [asP_ptr, Option.bind_some, fadd]
            rw [f3 0 (by decide), show asT ((voL (vs[i]'(by omega)))[0]?) = some (ba (vs[i]'(by omega)).1.nm) from asTs _]
            simp only [Option.bind_some]
            rw [bat_eq, ba_list, ba_list]
            refine ⟨_, rfl, fun f => ⟨(by trivial), fun _ => ?_⟩, fun f => ?_⟩
            · rw [Bool.or_eq_false_iff, decide_eq_false_iff_not] at f
              rcases less_tri q.1.nm (vs[i]'(by omega)).1.nm with g | g | g
              · rw [show Op.bytesLess q.1.nm (vs[i]'(by omega)).1.nm = true from g] at f
                cases f.1
              · exact absurd g f.2
              · exact g
            · have g := less_not (f.2 (by omega))
              rw [Bool.or_eq_false_iff, decide_eq_false_iff_not]
              exact ⟨g.1, fun z => g.2 z.symm⟩
      obtain ⟨g, ge, gi⟩ := g1
      have ge' : (cond (!isName q.1.nm) (some (true, h1, [], []))
      ((cond (decide (Int.ofNat i > (0 : Int))) ((asT (ldc h1 (some ⟨h.next, 0, none⟩))).bind fun s9 =>
    (asP (ixs 5 s.a vs.length (wrapA .i64 (Int.ofNat i - (1 : Int))))).bind fun p10 =>
    (asP (fadd 0 p10)).bind fun p11 =>
    (asT (ldc h1 p11)).bind fun s12 =>
    some (Op.bytesLess s9.toList s12.toList || s9.toList == s12.toList, h1, [], []))
      (some (false, h1, [], [])) : Option (Bool × H × LEs × EFs)).bind fun g13 =>
    some (g13.1, g13.2.1, g13.2.2.1, g13.2.2.2)) : Option (Bool × H × LEs × EFs)) = some (g, h1, [], []) := by rw [L0]; exact ge
      rw [ge']
      simp only [Option.bind_some]
      have g2 : ∃ g', (cond g (some (true, h1, [], []))
      ((asI .i64 (ldc h1 (some ⟨h.next, 3, none⟩))).bind fun n15 =>
    (asS (ldc h1 (some ⟨h.next, 4, none⟩))).bind fun s16 =>
    (corbelref16_RightMap.f k n15 s16 h1).bind fun q17 =>
    some (!q17.1, q17.2, [], [])) : Option (Bool × H × LEs × EFs)) = some (g', h1, [], []) ∧ (g' = false ↔ g = false ∧ rightMap q.1.sz q.1.mp = true) := by
        cases g with
        | true => exact ⟨true, rfl, (fun f => by cases f), fun f => by cases f.1⟩
        | false =>
          rw [cond_false, L3, L4]
          simp only [Option.bind_some]
          rw [rmap_f k (hM.stay w0 C1) (by omega) (by omega)]
          refine ⟨_, rfl, fun f => ⟨(by trivial), ?_⟩, fun f => ?_⟩
          · cases z : rightMap q.1.sz q.1.mp with
            | true => rfl
            | false => rw [z] at f; cases f
          · rw [f.2]; rfl
      obtain ⟨g', ge2, gi2⟩ := g2
      rw [ge2]
      simp only [Option.bind_some]
      have key : g' = false ↔ okAt vs i := by
        rw [gi2, gi]
        constructor
        · rintro ⟨⟨h2, h1⟩, h3⟩
          exact ⟨c, fun h0 => by rw [hq]; exact h1 h0, by rw [hq]; exact h2, by rw [hq]; exact h3⟩
        · rintro ⟨_, h1, h2, h3⟩
          rw [hq] at h2 h3
          exact ⟨⟨h2, fun h0 => by have := h1 h0; rw [hq] at this; exact this⟩, h3⟩
      have go : ∀ hok : rchk vs i, ∃ v h', corbelref16_RightTree.l0 k n s (wrapA .i64 (Int.ofNat i + 1)) h1 = some (v, h') ∧ Ch0 h0 h' ∧ ((v = .inr () ∧ ∀ j, i ≤ j → j < vs.length → rchk vs j) ∨ (v = .inl false ∧ ∃ j, j < vs.length ∧ ¬ rchk vs j)) := by
        intro hok
        rw [wrap_succ (by omega)]
        obtain ⟨v, h3, d1, d2, d3⟩ := rtree_l0 k hk w0 T B n (i + 1) h1 (by omega) (by omega) C1
        refine ⟨v, h3, d1, d2, d3.imp (fun ⟨x, y⟩ => ⟨x, fun j h1 h2 => ?_⟩) fun x => x⟩
        by_cases e : j = i
        · rw [e]; exact hok
        · exact y j (by omega) h2
      cases z : g' with
      | true => exact ⟨_, h1, rfl, C1, .inr ⟨rfl, i, c, fun f => by have := key.2 f.1; rw [z] at this; cases this⟩⟩
      | false =>
        simp only [cond_false]
        have ok := key.1 z
        rw [L1]
        simp only [Option.bind_some]
        rw [show (⟨#[]⟩ : ByteArray) = ba [] from rfl, bat_eq]
        by_cases p0 : q.1.pa = []
        · rw [decide_eq_true p0, cond_true]
          exact go ⟨ok, c, .inl (by rw [hq]; exact p0)⟩
        · rw [decide_eq_false p0, cond_false]
          obtain ⟨r, a1, a2⟩ := rat_f k (by omega) T1 hn q.1.pa
          rw [a1]
          simp only [Option.bind_some]
          rcases a2 with ⟨j, rfl, hj, f1, f2⟩ | ⟨rfl, f1⟩
          · rw [decide_eq_false (show ¬ Int.ofNat j < (0 : Int) by simp only [Int.ofNat_eq_natCast]; omega)]
            simp only [cond_false, Option.bind_some]
            by_cases ji : j = i
            · rw [show (Int.ofNat j == Int.ofNat i) = true by rw [ji]; simp]
              refine ⟨_, h1, rfl, C1, .inr ⟨rfl, i, c, ?_⟩⟩
              rintro ⟨_, _, y | ⟨i', hi', y1, y2, y3, y4⟩⟩
              · rw [hq] at y; exact p0 y
              · rw [hq] at y1 y2
                have : i' = j := by
                  rcases Nat.lt_trichotomy i' j with t | t | t
                  · exact absurd y1 (f2 i' hi' t)
                  · exact t
                  · exact absurd f1 (y2 j hj t)
                omega
            · rw [show (Int.ofNat j == Int.ofNat i) = false by rw [beq_eq_false_iff_ne]; exact fun f => ji (Int.ofNat.inj f)]
              simp only [cond_false]
              obtain ⟨b', o', y1, y2, y3⟩ := T1.at hj
              rw [T.n] at y1
              rw [y1]
              simp only [asP_ptr, Option.bind_some, fadd]
              rw [y3 2 (by decide), show asB ((voL vs[j])[2]?) = some vs[j].1.sn from asBs _, L2]
              simp only [Option.bind_some]
              by_cases sn : vs[j].1.sn = q.1.sn
              · rw [show (vs[j].1.sn == q.1.sn) = true by rw [sn]; simp]
                refine ⟨_, h1, rfl, C1, .inr ⟨rfl, i, c, ?_⟩⟩
                rintro ⟨_, _, y | ⟨i', hi', z1, z2, z3, z4⟩⟩
                · rw [hq] at y; exact p0 y
                · rw [hq] at z1 z2 z4
                  have : i' = j := by
                    rcases Nat.lt_trichotomy i' j with t | t | t
                    · exact absurd z1 (f2 i' hi' t)
                    · exact t
                    · exact absurd f1 (z2 j hj t)
                  subst this
                  exact z4 sn
              · rw [show (vs[j].1.sn == q.1.sn) = false by rw [beq_eq_false_iff_ne]; exact sn]
                simp only [cond_false]
                exact go ⟨ok, c, .inr ⟨j, hj, by rw [hq]; exact f1, by rw [hq]; exact f2, ji, by rw [hq]; exact sn⟩⟩
          · rw [show decide ((-1 : Int) < 0) = true from rfl]
            refine ⟨_, h1, rfl, C1, .inr ⟨rfl, i, c, ?_⟩⟩
            rintro ⟨_, _, y | ⟨i', hi', z1, _⟩⟩
            · rw [hq] at y; exact p0 y
            · rw [hq] at z1
              exact f1 _ (List.getElem_mem hi') z1
    · rw [T.n, decNlt c, cond_false]
      exact ⟨_, h, rfl, C, .inl ⟨rfl, fun j h1 h2 => by omega⟩⟩
theorem rtree_f (k : Nat) (hk : 20000 < k) {h : H} (w : WF h) {s : Sl} {vs : List Vs} (T : TreeR h s vs) (B : TreeB vs) : ∃ v h', corbelref16_RightTree.f k s h = some (v, h') ∧ Ch0 h h' ∧ (v = true ↔ RightP (vols vs)) := by
  unfold corbelref16_RightTree.f
  have hn := B.n
  obtain ⟨v, h2, a1, a2, a3⟩ := rtree_l0 k hk w T B k 0 h (by omega) (Nat.zero_le _) (Ch.refl w)
  rw [show (0 : Int) = Int.ofNat 0 from rfl, a1]
  rcases a3 with ⟨rfl, e⟩ | ⟨rfl, j, hj, e⟩
  · simp only [Option.bind_some]
    rw [T.n]
    refine ⟨_, h2, rfl, a2, fun f => ?_, fun f => ?_⟩
    · have f : Int.ofNat vs.length ≤ 12 := of_decide_eq_true f
      exact (rchk_iff vs).2 ⟨fun j hj => e j (Nat.zero_le _) hj, by simp only [Int.ofNat_eq_natCast] at f; omega⟩
    · have := ((rchk_iff vs).1 f).2
      exact decide_eq_true (by simp only [Int.ofNat_eq_natCast]; omega)
  · exact ⟨false, h2, rfl, a2, (fun f => by cases f), fun f => absurd (((rchk_iff vs).1 f).1 j hj) e⟩
end Go.Proofs.Ytfenkpghcbohdaa.Fw
/- Lists of volumes of the run's own: copied, one put in. No condition. -/
namespace Go.Proofs.Ytfenkpghcbohdaa.Fw
open Go Den Fwd
set_option linter.unusedVariables false
set_option linter.unusedSimpArgs false
/-! ### a list of the run's own -/
abbrev Apart (a b : Vs) : Prop := ∀ x, SlB a.2 x → ¬ SlB b.2 x
theorem Apart.symm {a b : Vs} (h : Apart a b) : Apart b a := fun x hb ha => h x ha hb
structure TreeO (h : H) (s : Sl) (vs : List Vs) : Prop where
  ow : Ow 58 5 h s (vs.map voL).flatten
  mp : ∀ q ∈ vs, Ow 3 1 h q.2 (ivs q.1.mp)
  di : vs.Pairwise Apart
  ne : ∀ q ∈ vs, ∀ x, SlB s x → ¬ SlB q.2 x
/-- nothing of it lies below -/
def Fresh (n : Nat) (s : Sl) (vs : List Vs) : Prop := (∀ x, SlB s x → n ≤ x) ∧ ∀ q ∈ vs, ∀ x, SlB q.2 x → n ≤ x
theorem Fresh.mono {m n : Nat} {s : Sl} {vs : List Vs} (f : Fresh n s vs) (h : m ≤ n) : Fresh m s vs := ⟨fun x hx => Nat.le_trans h (f.1 x hx), fun q hq x hx => Nat.le_trans h (f.2 q hq x hx)⟩
theorem TreeO.read {h : H} {s : Sl} {vs : List Vs} (T : TreeO h s vs) : TreeR h s vs := ⟨T.ow.slr, fun q hq => (T.mp q hq).slr⟩
theorem TreeO.stay {h h' : H} {s : Sl} {vs : List Vs} (w : WF h) (c : Ch0 h h') (T : TreeO h s vs) : TreeO h' s vs := ⟨T.ow.stay w c, fun q hq => (T.mp q hq).stay w c, T.di, T.ne⟩
theorem TreeO.nil {h : H} : TreeO h ⟨none, 0, 0⟩ [] := ⟨Ow.nil, (fun _ f => by cases f), List.Pairwise.nil, (fun _ f => by cases f)⟩
theorem noSlB {n c x : Nat} : ¬ SlB ⟨none, n, c⟩ x := fun ⟨o, f⟩ => by cases f
theorem Fresh.nil {n : Nat} : Fresh n ⟨none, 0, 0⟩ [] := ⟨(fun x f => absurd f noSlB), (fun _ f => by cases f)⟩
theorem voL_one (q : Vs) : (voL q).all Den.one = true := rfl
theorem vo_len (vs : List Vs) : ((vs.map voL).flatten).length = vs.length * 5 := by rw [flat_len (vo_es vs), List.length_map]
theorem Ow.von {h : H} {s : Sl} {vs : List Vs} (o : Ow 58 5 h s (vs.map voL).flatten) : s.n = vs.length := by
  have := o.slr.len
  rw [vo_len] at this
  omega
theorem vo_app (a b : List Vs) : ((a ++ b).map voL).flatten = (a.map voL).flatten ++ (b.map voL).flatten := by rw [List.map_append, List.flatten_append]
theorem vo_sing (q : Vs) : ([q].map voL).flatten = voL q := by simp
theorem vo_take (vs : List Vs) (i : Nat) : ((vs.map voL).flatten).take (i * 5) = ((vs.take i).map voL).flatten := by
  by_cases c : i ≤ vs.length
  · have e : (vs.map voL).flatten = ((vs.take i).map voL).flatten ++ ((vs.drop i).map voL).flatten := by rw [← vo_app, List.take_append_drop]
    rw [e, List.take_append_of_le_length (by rw [vo_len, List.length_take]; omega), List.take_of_length_le (by rw [vo_len, List.length_take]; omega)]
  · rw [List.take_of_length_le (by rw [vo_len]; omega), List.take_of_length_le (by omega)]
theorem vo_drop (vs : List Vs) (i : Nat) (c : i ≤ vs.length) : ((vs.map voL).flatten).drop (i * 5) = ((vs.drop i).map voL).flatten := by
  have e : (vs.map voL).flatten = ((vs.take i).map voL).flatten ++ ((vs.drop i).map voL).flatten := by rw [← vo_app, List.take_append_drop]
  have l : (((vs.take i).map voL).flatten).length = i * 5 := by rw [vo_len, List.length_take]; omega
  rw [e, ← l, List.drop_left]
/-- a list's rows, one more -/
theorem push_vo {h : H} (w : WF h) {s : Sl} {vs : List Vs} (o : Ow 58 5 h s (vs.map voL).flatten) (q : Vs) (hn : vs.length ≤ 1000) :
    ∃ s' h', asS2 (apv 58 5 72 (.slice s.a s.n s.c) (.slice (some ⟨h.next, 0, none⟩) 1 1) (newR h 58 5 (voL q))) = some (s', h') ∧ Ch (SlB s) h h' ∧ Ow 58 5 h' s' ((vs ++ [q]).map voL).flatten ∧ ∀ b, SlB s' b → SlB s b ∨ h.next ≤ b := by
  obtain ⟨n1, n2, n3⟩ := newR_ok w 58 5 (voL q)
  obtain ⟨s', h', e1, e2, e3, e4, e5⟩ := apv_ok (by_ := 72) n1.wf (o.stay w n1) (by decide) (SlR.of_is n3 (n := 1) rfl (by unfold unk; omega)) (by rw [Ow.von o]; show (vs.length + 1) * 72 ≤ _; omega) (voL_one q)
  refine ⟨s', h', e1, (n1.mono fun _ _ f => f.elim).trans e2 fun _ _ f => f, ?_, fun b hb => (e5 b hb).imp id fun f => ?_⟩
  · rw [vo_app, vo_sing]; exact e3
  · omega
/-- .. rows behind rows -/
theorem apps_vo {h : H} (w : WF h) {s x : Sl} {vs us : List Vs} (o : Ow 58 5 h s (vs.map voL).flatten) (r : SlR 5 h x (us.map voL).flatten) (hn : vs.length + us.length ≤ 10000) :
    ∃ s' h', asS2 (apv 58 5 72 (.slice s.a s.n s.c) (.slice x.a x.n x.c) h) = some (s', h') ∧ Ch (SlB s) h h' ∧ Ow 58 5 h' s' ((vs ++ us).map voL).flatten ∧ ∀ b, SlB s' b → SlB s b ∨ h.next ≤ b := by
  have hx : x.n = us.length := by have := r.len; rw [vo_len] at this; omega
  obtain ⟨s', h', e1, e2, e3, e4, e5⟩ := apv_ok (by_ := 72) w o (by decide) r (by rw [Ow.von o, hx]; omega) (vo_one us)
  exact ⟨s', h', e1, e2, by rw [vo_app]; exact e3, fun b hb => (e5 b hb).imp id fun f => f.1⟩
/-- append([]int{}, m...) -/
theorem dup_ok {h : H} (w : WF h) {s : Sl} {l : List Int} (r : SlR 1 h s (ivs l)) (hl : l.length ≤ 10000) :
    ∃ s' h', asS2 (apv 3 1 8 (Value.slice (some ⟨h.next, 0, none⟩) 0 0) (Value.slice s.a s.n s.c) (newR h 3 1 [])) = some (s', h') ∧ Ch0 h h' ∧ Ow 3 1 h' s' (ivs l) ∧ ∀ b, SlB s' b → h.next ≤ b := by
  obtain ⟨n1, n2, n3⟩ := newR_ok w 3 1 []
  obtain ⟨s', h', e1, e2, e3, e4, e5⟩ := apv_ok (by_ := 8) n1.wf (Ow.of_is n3 (n := 0) rfl (by unfold unk; omega)) (by decide) (r.stay w n1) (by rw [SlR.ivn r]; show (0 + l.length) * 8 ≤ _; omega) (by rw [List.all_eq_true]; intro v hv; obtain ⟨n, _, rfl⟩ := List.mem_map.1 hv; rfl)
  have own : ∀ b, SlB (⟨some ⟨h.next, 0, none⟩, 0, 0⟩ : Sl) b → h.next ≤ b := fun b ⟨o, f⟩ => by
    have : h.next = b := congrArg Addr.block (Option.some.inj f)
    omega
  exact ⟨s', h', e1, Ch0.own n1 e2 own, e3, fun b hb => (e5 b hb).elim (own b) fun f => by omega⟩
/-! ### copied -/
theorem TreeO.push {h h' : H} (w : WF h) {s s' : Sl} {vs : List Vs} (T : TreeO h s vs) (c : Ch (SlB s) h h') (q : Vs) (M : Ow 3 1 h q.2 (ivs q.1.mp)) (hs : ∀ x, SlB s x → ¬ SlB q.2 x) (ha : ∀ a ∈ vs, Apart a q) (o : Ow 58 5 h' s' ((vs ++ [q]).map voL).flatten) (hb : ∀ b, SlB s' b → SlB s b ∨ h.next ≤ b) : TreeO h' s' (vs ++ [q]) := by
  have keep : ∀ a : Vs, Ow 3 1 h a.2 (ivs a.1.mp) → (∀ x, SlB s x → ¬ SlB a.2 x) → Ow 3 1 h' a.2 (ivs a.1.mp) := fun a O n => O.keep fun b hb => c.keep b (O.lt w hb) fun f => n b f hb
  have far : ∀ a : Vs, Ow 3 1 h a.2 (ivs a.1.mp) → (∀ x, SlB s x → ¬ SlB a.2 x) → ∀ x, SlB s' x → ¬ SlB a.2 x := fun a O n x hx f => (hb x hx).elim (fun g => n x g f) fun g => by have := O.lt w f; omega
  refine ⟨o, fun a ha' => ?_, ?_, fun a ha' => ?_⟩
  · rcases List.mem_append.1 ha' with e | e
    · exact keep a (T.mp a e) (T.ne a e)
    · rw [List.mem_singleton.1 e]; exact keep q M hs
  · rw [List.pairwise_append]
    exact ⟨T.di, List.pairwise_singleton _ _, fun a ha' b hb' => by rw [List.mem_singleton.1 hb']; exact ha a ha'⟩
  · rcases List.mem_append.1 ha' with e | e
    · exact far a (T.mp a e) (T.ne a e)
    · rw [List.mem_singleton.1 e]; exact far q M hs
theorem copied_l0 (k : Nat) {h0 : H} (w0 : WF h0) {s : Sl} {vs : List Vs} (T : TreeR h0 s vs) (B : TreeB vs) : ∀ n i h t us, vs.length - i < n → i ≤ vs.length → Ch0 h0 h → TreeO h t us → Fresh h0.next t us → vols us = (vols vs).take i →
    ∃ t' h' us', corbelref16_copied.l0 k n s t (Int.ofNat i) h = some (t', h') ∧ Ch0 h0 h' ∧ TreeO h' t' us' ∧ Fresh h0.next t' us' ∧ vols us' = vols vs
  | 0, i, h, t, us, hf, _, _, _, _, _ => by omega
  | n + 1, i, h, t, us, hf, hi, C, O, F, e => by
    rw [corbelref16_copied.l0_succ]
    have hn := B.n
    have ul : us.length = i := by
      have := congrArg List.length e
      rw [vols_len, List.length_take, vols_len] at this
      omega
    by_cases c : i < vs.length
    · rw [T.n, decLt c, cond_true]
      obtain ⟨b, o, e1, e2, e3⟩ := (T.stay w0 C).at c
      rw [T.n] at e1
      rw [e1]
      simp only [asP_ptr, Option.bind_some]
      rw [e2, bindVo]
      dsimp only [voT]
      have hB := B.nm _ (List.getElem_mem c)
      have hM := T.mp _ (List.getElem_mem c)
      generalize hq : vs[i] = q at hB hM
      rw [show [Value.string (ba q.1.nm), Value.string (ba q.1.pa), Value.bool q.1.sn, Value.int .i64 q.1.sz, Value.slice q.2.a q.2.n q.2.c] = voL q from rfl]
      obtain ⟨h1, b1, b2, b3, b4⟩ := box_ok C.wf 58 5 [Value.string (⟨#[]⟩ : ByteArray), Value.string (⟨#[]⟩ : ByteArray), Value.bool false, Value.int .i64 (0 : Int), Value.slice none 0 0] (voL q) rfl rfl rfl
      rw [b1]
      simp only [Option.bind_some]
      have C1 := C.then b2
      obtain ⟨n1, n2, n3⟩ := newR_ok b2.wf 3 1 []
      rw [(b4.stay b2.wf n1).ldc, show asS ((voL q)[4]?) = some q.2 from asS_slv _]
      simp only [Option.bind_some]
      obtain ⟨m, h2, d1, d2, d3, d4⟩ := dup_ok b2.wf (hM.stay w0 C1) (by omega)
      rw [d1]
      simp only [Option.bind_some]
      have C2 := C1.then d2
      obtain ⟨h3, f1, f2, f3, f4⟩ := (b4.stay b2.wf d2).set d2.wf 4 (slv m) (by show 4 < 5; decide) rfl
      rw [show [Value.slice m.a m.n m.c] = [slv m] from rfl, f1]
      simp only [Option.bind_some]
      have C3 := Ch0.at C2 f2 C.le
      let q' : Vs := (q.1, m)
      have f4 : Is h3 h.next 58 5 (voL q') := f4
      rw [ldaIs (n := 5) f4 rfl, bindVo]
      dsimp only [voT]
      rw [show [Value.string (ba q'.1.nm), Value.string (ba q'.1.pa), Value.bool q'.1.sn, Value.int .i64 q'.1.sz, Value.slice q'.2.a q'.2.n q'.2.c] = voL q' from rfl]
      have O2 := O.stay C.wf (b2.then d2)
      have lt1 : h.next < h1.next := by omega
      -- what the box's cell turns is no block of the list
      have O3 : TreeO h3 t us := by
        have kp : ∀ x, x < h.next → h3.get x = h2.get x := fun x hx => f2.keep x (by have := b2.le; have := d2.le; omega) fun f => by omega
        exact ⟨O2.ow.keep fun x hx => kp x (O.ow.lt C.wf hx), fun a ha => (O2.mp a ha).keep fun x hx => kp x ((O.mp a ha).lt C.wf hx), O2.di, O2.ne⟩
      have M3 : Ow 3 1 h3 q'.2 (ivs q'.1.mp) := d3.keep fun x hx => f2.keep x (d3.lt d2.wf hx) fun f => by have := d4 x hx; omega
      obtain ⟨t1, h4, g1, g2, g3, g4⟩ := push_vo C3.wf O3.ow q' (by omega)
      rw [g1]
      simp only [Option.bind_some]
      rw [wrap_succ (by omega)]
      have mf : ∀ x, SlB q'.2 x → h.next ≤ x := fun x hx => by have := d4 x hx; omega
      have O4 := TreeO.push C3.wf O3 g2 q' M3 (fun x hx f => by have := mf x f; have := O.ow.lt C.wf hx; omega) (fun a ha x hx f => by have := mf x f; have := (O.mp a ha).lt C.wf hx; omega) g3 g4
      have F4 : Fresh h0.next t1 (us ++ [q']) := by
        refine ⟨fun x hx => (g4 x hx).elim (F.1 x) fun f => Nat.le_trans C3.le f, fun a ha x hx => ?_⟩
        rcases List.mem_append.1 ha with z | z
        · exact F.2 a z x hx
        · rw [List.mem_singleton.1 z] at hx; exact Nat.le_trans C.le (mf x hx)
      have hv : (vols vs)[i]'(by rw [vols_len]; exact c) = q.1 := by simp only [vols, List.getElem_map, hq]
      exact copied_l0 k w0 T B n (i + 1) h4 t1 (us ++ [q']) (by omega) (by omega) (Ch0.own C3 g2 F.1) O4 F4 (by
        rw [List.take_succ_eq_append_getElem (by rw [vols_len]; exact c), hv, ← e]
        unfold vols
        rw [List.map_append]; rfl)
    · rw [T.n, decNlt c, cond_false]
      exact ⟨t, h, us, rfl, C, O, F, by rw [e, List.take_of_length_le (by rw [vols_len]; omega)]⟩
theorem copied_f (k : Nat) (hk : 20000 < k) {h : H} (w : WF h) {s : Sl} {vs : List Vs} (T : TreeR h s vs) (B : TreeB vs) :
    ∃ t h' us, corbelref16_copied.f k s h = some (t, h') ∧ Ch0 h h' ∧ TreeO h' t us ∧ Fresh h.next t us ∧ vols us = vols vs := by
  unfold corbelref16_copied.f
  have hn := B.n
  obtain ⟨t, h', us, a1, a2⟩ := copied_l0 k w T B k 0 h ⟨none, 0, 0⟩ [] (by omega) (Nat.zero_le _) (Ch.refl w) TreeO.nil Fresh.nil rfl
  rw [show (0 : Int) = Int.ofNat 0 from rfl, a1]
  exact ⟨t, h', us, rfl, a2⟩
theorem put_l0 (k : Nat) {h : H} {s : Sl} {vs : List Vs} (T : TreeR h s vs) (hn : vs.length ≤ 1000) {b : Nat} {q : Vs} (I : Is h b 58 5 (voL q)) : ∀ n i, vs.length - i < n → i ≤ vs.length → (∀ a (ha : a < vs.length), a < i → less vs[a].1.nm q.1.nm = true) →
    ∃ j, j ≤ vs.length ∧ corbelref16_put.l0 k n s (some ⟨b, 0, none⟩) (Int.ofNat i) h = some (Int.ofNat j, h) ∧ (∀ a (ha : a < vs.length), a < j → less vs[a].1.nm q.1.nm = true) ∧ (∀ hj : j < vs.length, less vs[j].1.nm q.1.nm = false)
  | 0, i, hf, _, _ => by omega
  | n + 1, i, hf, hi, hA => by
    rw [corbelref16_put.l0_succ, T.n]
    by_cases c : i < vs.length
    · rw [decLt c, cond_true]
      obtain ⟨b', o', e1, e2, e3⟩ := T.at c
      rw [T.n] at e1
      rw [e1]
      simp only [asP_ptr, Option.bind_some, fadd, Nat.add_zero]
      have e30 := e3 0 (by decide)
      rw [Nat.add_zero] at e30
      rw [e30, show asT ((voL vs[i])[0]?) = some (ba vs[i].1.nm) from asTs _]
      simp only [Option.bind_some]
      rw [I.ldc, show asT ((voL q)[0]?) = some (ba q.1.nm) from asTs _]
      simp only [Option.bind_some]
      rw [ba_list, ba_list]
      cases z : Op.bytesLess vs[i].1.nm q.1.nm with
      | true =>
        rw [cond_true, wrap_succ (by omega)]
        exact put_l0 k T hn I n (i + 1) (by omega) (by omega) fun a ha hai => by
          by_cases e : a = i
          · subst e; exact z
          · exact hA a ha (by omega)
      | false =>
        rw [cond_false]
        exact ⟨i, hi, rfl, hA, fun _ => z⟩
    · rw [decNlt c]
      exact ⟨i, hi, rfl, hA, fun hj => absurd hj c⟩
theorem put_f (k : Nat) (hk : 20000 < k) {h : H} (w : WF h) {s : Sl} {vs : List Vs} (T : TreeO h s vs) (hn : vs.length ≤ 1000) (q : Vs) (M : Ow 3 1 h q.2 (ivs q.1.mp)) (ha : ∀ a ∈ vs, Apart a q) :
    ∃ t h', corbelref16_put.f k s (voT q) h = some (t, h') ∧ Ch0 h h' ∧ (∀ x, SlB t x → h.next ≤ x) ∧ ∃ j, j ≤ vs.length ∧ TreeO h' t (vs.take j ++ q :: vs.drop j) ∧ (∀ a (ha : a < vs.length), a < j → less vs[a].1.nm q.1.nm = true) ∧ (∀ hj : j < vs.length, less vs[j].1.nm q.1.nm = false) := by
  unfold corbelref16_put.f voT
  dsimp only
  rw [show [Value.string (ba q.1.nm), Value.string (ba q.1.pa), Value.bool q.1.sn, Value.int .i64 q.1.sz, Value.slice q.2.a q.2.n q.2.c] = voL q from rfl]
  obtain ⟨y1, y2, y3⟩ := newR_ok w 58 5 (voL q)
  generalize newR h 58 5 (voL q) = g at y1 y2 y3 ⊢
  have T1 := T.stay w y1
  obtain ⟨j, hj, a1, a2, a3⟩ := put_l0 k T1.read hn y3 k 0 (by omega) (Nat.zero_le _) (fun a ha f => by omega)
  rw [show (0 : Int) = Int.ofNat 0 from rfl, a1]
  simp only [Option.bind_some]
  have sn := T1.read.n
  obtain ⟨s1, b1, b2, b3, b4⟩ := subs_ok T1.ow.slr (lo := 0) (hi := j) (Nat.zero_le _) (by omega) (xlo := none) (xhi := some (Int.ofNat j)) rfl rfl
  rw [b1]
  rw [show (some (Value.slice s1.a s1.n s1.c)) = some (slv s1) from rfl, asS_slv]
  simp only [Option.bind_some]
  rw [Nat.zero_mul, List.drop_zero, Nat.sub_zero, vo_take] at b3
  obtain ⟨n1, n2, n3⟩ := newR_ok y1.wf 58 5 []
  have O0 : Ow 58 5 (newR g 58 5 []) ⟨some ⟨g.next, 0, none⟩, 0, 0⟩ ((([] : List Vs).map voL).flatten) := Ow.of_is n3 (n := 0) rfl (by unfold unk; omega)
  have lt1 : (vs.take j).length = j := by rw [List.length_take]; omega
  obtain ⟨t1, h1, c1, c2, c3, c4⟩ := apps_vo n1.wf O0 (b3.stay y1.wf n1) (by rw [lt1]; show 0 + j ≤ _; omega)
  have c1 : asS2 (apv 58 5 72 (Value.slice (some ⟨g.next, 0, none⟩) 0 0) (Value.slice s1.a s1.n s1.c) (newR g 58 5 [])) = some (t1, h1) := c1
  rw [c1]
  simp only [Option.bind_some]
  have own0 : ∀ b, SlB (⟨some ⟨g.next, 0, none⟩, 0, 0⟩ : Sl) b → g.next ≤ b := fun b ⟨o, f⟩ => by
    have : g.next = b := congrArg Addr.block (Option.some.inj f)
    omega
  have C1 : Ch0 g h1 := Ch0.own n1 c2 own0
  have f1 : ∀ b, SlB t1 b → g.next ≤ b := fun b hb => (c4 b hb).elim (own0 b) fun f => by omega
  rw [ldaIs (n := 5) (y3.stay y1.wf C1) rfl, bindVo]
  dsimp only [voT]
  rw [show [Value.string (ba q.1.nm), Value.string (ba q.1.pa), Value.bool q.1.sn, Value.int .i64 q.1.sz, Value.slice q.2.a q.2.n q.2.c] = voL q from rfl]
  obtain ⟨t2, h2, d1, d2, d3, d4⟩ := push_vo C1.wf c3 q (by rw [List.length_append, lt1]; show 0 + j ≤ _; omega)
  rw [d1]
  simp only [Option.bind_some]
  have C2 : Ch0 g h2 := Ch0.own C1 d2 f1
  have f2 : ∀ b, SlB t2 b → g.next ≤ b := fun b hb => (d4 b hb).elim (f1 b) fun f => Nat.le_trans C1.le f
  obtain ⟨s2, e1, e2, e3, e4⟩ := subs_ok T1.ow.slr (lo := j) (hi := s.n) (by omega) (Nat.le_refl _) (xlo := some (Int.ofNat j)) (xhi := none) rfl rfl
  rw [e1]
  rw [show (some (Value.slice s2.a s2.n s2.c)) = some (slv s2) from rfl, asS_slv]
  simp only [Option.bind_some]
  rw [vo_drop _ _ hj, List.take_of_length_le (by rw [vo_len, List.length_drop]; exact Nat.mul_le_mul_right _ (by omega))] at e3
  obtain ⟨t3, h3, g1, g2, g3, g4⟩ := apps_vo C2.wf d3 (e3.stay y1.wf C2) (by simp only [List.length_append, lt1, List.length_drop, List.length_singleton]; show 0 + j + 1 + (vs.length - j) ≤ _; omega)
  rw [g1]
  simp only [Option.bind_some]
  have C3 : Ch0 g h3 := Ch0.own C2 g2 f2
  have f3 : ∀ b, SlB t3 b → g.next ≤ b := fun b hb => (g4 b hb).elim (f2 b) fun f => Nat.le_trans C2.le f
  have ne : ¬ SlB (⟨some ⟨g.next, 0, none⟩, 0, 0⟩ : Sl) h.next := fun f => by have := own0 _ f; omega
  rw [same1_of (c2.keep h.next (by have := n1.le; omega) ne)]
  simp only [Bool.and_self, cond_true]
  have C := y1.then C3
  refine ⟨t3, h3, rfl, C, fun x hx => by have := f3 x hx; have := y1.le; omega, j, hj, ⟨?_, ?_, ?_, ?_⟩, a2, a3⟩
  · have : ([] : List Vs) ++ vs.take j ++ [q] ++ vs.drop j = vs.take j ++ q :: vs.drop j := by simp
    rw [← this]; exact g3
  · intro a hm
    rw [List.perm_middle.mem_iff, List.take_append_drop] at hm
    rcases List.mem_cons.1 hm with z | z
    · rw [z]; exact M.stay w C
    · exact (T.mp a z).stay w C
  · rw [List.perm_middle.pairwise_iff Apart.symm, List.take_append_drop]
    exact List.pairwise_cons.2 ⟨fun a hm => (ha a hm).symm, T.di⟩
  · intro a hm x hx f
    have := f3 x hx
    rw [List.perm_middle.mem_iff, List.take_append_drop] at hm
    rcases List.mem_cons.1 hm with z | z
    · rw [z] at f; have := M.lt w f; have := y1.le; omega
    · have := (T.mp a z).lt w f; have := y1.le; omega
/-! ### which lists stay right -/
theorem put_right {t : List Vol} (R : RightP t) (v : Vol) (hv : isName v.nm = true) (hm : rightMap v.sz v.mp = true) (hno : ∀ u ∈ t, u.nm ≠ v.nm) (hp : parP t v) (hl : t.length < 12) (j : Nat) (hj : j ≤ t.length)
    (h1 : ∀ a (ha : a < t.length), a < j → less t[a].nm v.nm = true) (h2 : ∀ hj : j < t.length, less t[j].nm v.nm = false) : RightP (t.take j ++ v :: t.drop j) := by
  have mem : ∀ u, u ∈ t.take j ++ v :: t.drop j ↔ u = v ∨ u ∈ t := fun u => by rw [List.perm_middle.mem_iff, List.take_append_drop, List.mem_cons]
  have af : ∀ a (ha : a < t.length), j ≤ a → less v.nm t[a].nm = true := fun a ha hja => by
    have hj' : j < t.length := by omega
    have e : less v.nm t[j].nm = true := by
      rcases less_tri v.nm t[j].nm with g | g | g
      · exact g
      · exact absurd g.symm (hno _ (List.getElem_mem hj'))
      · rw [h2 hj'] at g; cases g
    by_cases z : j = a
    · subst z; exact e
    · exact less_trans e (sorted_lt R.so ha (by omega))
  refine ⟨?_, fun u hu => ?_, fun u hu => ?_, fun u hu => ?_, ?_⟩
  · rw [List.pairwise_append]
    refine ⟨R.so.sublist (List.take_sublist _ _), List.pairwise_cons.2 ⟨fun u hu => ?_, R.so.sublist (List.drop_sublist _ _)⟩, fun u hu x hx => ?_⟩
    · obtain ⟨a, ha, rfl⟩ := List.mem_iff_getElem.1 hu
      rw [List.getElem_drop]
      exact af _ _ (by omega)
    · obtain ⟨a, ha, rfl⟩ := List.mem_iff_getElem.1 hu
      rw [List.length_take] at ha
      rw [List.getElem_take]
      have L := h1 a (by omega) (by omega)
      rcases List.mem_cons.1 hx with z | z
      · rw [z]; exact L
      · obtain ⟨c, hc, rfl⟩ := List.mem_iff_getElem.1 z
        rw [List.getElem_drop]
        exact less_trans L (af _ _ (by omega))
  · rcases (mem u).1 hu with z | z
    · rw [z]; exact hv
    · exact R.na u z
  · rcases (mem u).1 hu with z | z
    · rw [z]; exact hm
    · exact R.ma u z
  · have up : ∀ x, parP t x → parP (t.take j ++ v :: t.drop j) x := fun x hx => hx.imp id fun ⟨g1, y, hy, g2⟩ => ⟨g1, y, (mem y).2 (.inr hy), g2⟩
    rcases (mem u).1 hu with z | z
    · rw [z]; exact up v hp
    · exact up u (R.pa u z)
  · rw [List.length_append, List.length_cons, List.length_take, List.length_drop]; omega
theorem nameLen {s : List UInt8} (h : isName s = true) : s.length ≤ 8 := by
  unfold isName at h
  rw [Bool.and_eq_true, Bool.and_eq_true, decide_eq_true_eq, decide_eq_true_eq] at h
  exact h.2.2
theorem mapLen {n : Int} {m : List Int} (h : rightMap n m = true) : m.length ≤ 32 ∧ (m.length : Int) = n / 8 ∧ 0 ≤ n ∧ n ≤ 256 ∧ n % 8 = 0 := by
  unfold rightMap at h
  rw [Bool.and_eq_true, Bool.and_eq_true, decide_eq_true_eq] at h
  obtain ⟨z1, z2, z3⟩ := okSize_iff.1 h.1
  have := h.2.1
  exact ⟨by omega, this, z1, z2, z3⟩
theorem RightP.paLen {t : List Vol} (R : RightP t) {v : Vol} (hv : v ∈ t) : v.pa.length ≤ 8 := by
  rcases R.pa v hv with e | ⟨_, u, hu, e, _⟩
  · rw [e]; exact Nat.zero_le _
  · rw [← e]; exact nameLen (R.na u hu)
theorem RightP.b {vs : List Vs} (R : RightP (vols vs)) : TreeB vs := by
  refine ⟨by have := R.le; rw [vols_len] at this; omega, fun q hq => ?_⟩
  have hm : q.1 ∈ vols vs := List.mem_map.2 ⟨q, hq, rfl⟩
  have a := nameLen (R.na _ hm)
  have b := R.paLen hm
  have c := (mapLen (R.ma _ hm)).1
  exact ⟨by omega, by omega, by omega⟩
theorem vols_put (vs : List Vs) (j : Nat) (q : Vs) : vols (vs.take j ++ q :: vs.drop j) = (vols vs).take j ++ q.1 :: (vols vs).drop j := by
  unfold vols
  rw [List.map_append, List.map_cons, List.map_take, List.map_drop]
theorem cell_lt {h : H} (w : WF h) {b o : Nat} {v : Value} (e : h.cell b o = some v) : b < h.next := by
  rcases Nat.lt_or_ge b h.next with z | z
  · exact z
  · unfold H.cell at e
    rw [w.dom b z] at e; cases e
theorem rsize_f (k : Nat) (n : Int) (h : H) : corbelref16_RightSize.f k n h = some (okSize n, h) := size_cond n h
/-- one number more -/
theorem push_i {h : H} (w : WF h) {s : Sl} {l : List Int} (r : Ow 3 1 h s (ivs l)) (n : Int) (hb : l.length ≤ 100000) :
    ∃ s' h', asS2 (apv 3 1 8 (.slice s.a s.n s.c) (.slice (some ⟨h.next, 0, none⟩) 1 1) (newR h 3 1 [.int .i64 n])) = some (s', h') ∧ Ch (SlB s) h h' ∧ Ow 3 1 h' s' (ivs (l ++ [n])) ∧ ∀ b, SlB s' b → SlB s b ∨ h.next ≤ b := by
  obtain ⟨n1, n2, n3⟩ := newR_ok w 3 1 [.int .i64 n]
  have hs := SlR.ivn r.slr
  obtain ⟨s', h', e1, e2, e3, e4, e5⟩ := apv_ok (by_ := 8) n1.wf (r.stay w n1) (by decide) (SlR.of_is n3 (n := 1) rfl (by unfold unk; omega)) (by rw [hs]; show (l.length + 1) * 8 ≤ _; omega) rfl
  refine ⟨s', h', e1, (n1.mono fun _ _ f => f.elim).trans e2 fun _ _ f => f, ?_, fun b hb => (e5 b hb).imp id fun f => by omega⟩
  have : ivs l ++ [.int .i64 n] = ivs (l ++ [n]) := by unfold ivs; rw [List.map_append]; rfl
  rw [← this]; exact e3
/-! ### created -/
/-- what an act on a right list answers -/
def Made (h : H) (r : Option ((Sl × Int) × H)) : Prop := ∃ t e h', r = some ((t, e), h') ∧ Ch0 h h' ∧ (e ≠ 0 ∨ (e = 0 ∧ ∃ us, TreeO h' t us ∧ Fresh h.next t us ∧ RightP (vols us) ∧ us ≠ []))
theorem Made.no {h h' : H} (c : Ch0 h h') (t : Sl) {e : Int} (he : e ≠ 0) : Made h (some ((t, e), h')) := ⟨t, e, h', rfl, c, .inl he⟩
theorem put_vols {t : List Vol} {us : List Vs} (hu : vols us = t) {v : Vol} {j : Nat} (hj : j ≤ us.length) (h1 : ∀ a (ha : a < us.length), a < j → less us[a].1.nm v.nm = true) (h2 : ∀ hj : j < us.length, less us[j].1.nm v.nm = false) :
    j ≤ t.length ∧ (∀ a (ha : a < t.length), a < j → less t[a].nm v.nm = true) ∧ (∀ hj : j < t.length, less t[j].nm v.nm = false) := by
  subst hu
  have e : ∀ a (ha : a < (vols us).length), (vols us)[a] = (us[a]'(by rw [vols_len] at ha; exact ha)).1 := fun a ha => by simp only [vols, List.getElem_map]
  refine ⟨by rw [vols_len]; exact hj, fun a ha haj => ?_, fun hj' => ?_⟩
  · rw [e]; exact h1 a _ haj
  · rw [e]; exact h2 _
/-! ### a hand's names -/
/-! ### a cell of a map set -/
theorem seti {h : H} (w : WF h) {s : Sl} {l : List Int} (r : Ow 3 1 h s (ivs l)) {j : Nat} (hj : j < l.length) (n : Int) :
    ∃ b h', ixs 1 s.a s.n (Int.ofNat j) = some (.pointer (some ⟨b, j, none⟩)) ∧ stv 1 h (some ⟨b, j, none⟩) [.int .i64 n] = some (undef, h') ∧ Ch (SlB s) h h' ∧ h'.next = h.next ∧ Ow 3 1 h' s (ivs (l.set j n)) := by
  rcases r with ⟨f, _⟩ | ⟨b, m, cc, rfl, hl, I, hc⟩
  · have := congrArg List.length f
    rw [ivs_len] at this
    have this : l.length = 0 := this
    omega
  · rw [ivs_len, Nat.mul_one] at hl
    obtain ⟨h', i1, i2, i3, i4⟩ := I.set w j (.int .i64 n) (by rw [ivs_len]; exact hj) rfl
    have e0 : ixs 1 (some ⟨b, 0, none⟩) m (Int.ofNat j) = some (.pointer (some ⟨b, j, none⟩)) := by
      have : ixs 1 (some ⟨b, 0, none⟩) m (Int.ofNat j) = some (.pointer (some ⟨b, 0 + j * 1, none⟩)) := cond_eta _ _ _ (Nat.ble_eq_true_of_le (by show j + 1 ≤ m; omega))
      rw [this, Nat.zero_add, Nat.mul_one]
    refine ⟨b, h', e0, i1, i2.mono fun x _ hx => by subst hx; exact ⟨0, rfl⟩, i3, .inr ⟨b, m, cc, rfl, by rw [ivs_len, List.length_set]; omega, ?_, hc⟩⟩
    have : (ivs l).set j (.int .i64 n) = ivs (l.set j n) := by unfold ivs; rw [List.map_set]
    rw [← this]; exact i4
/-- one with another map -/
def setQ (q : Vs) (m : List Int) : Vs := ({ q.1 with mp := m }, q.2)
theorem voL_setQ (q : Vs) (m : List Int) : voL (setQ q m) = voL q := rfl
theorem set_vo (vs : List Vs) (i : Nat) (hi : i < vs.length) (m : List Int) : (vs.set i (setQ vs[i] m)).map voL = vs.map voL := by
  rw [List.map_set, voL_setQ]
  apply List.ext_getElem?
  intro j
  rw [List.getElem?_set]
  by_cases c : i = j
  · subst c
    rw [if_pos rfl, if_pos (by rw [List.length_map]; exact hi), List.getElem?_map, List.getElem?_eq_getElem hi]; rfl
  · rw [if_neg c]
theorem mem_setQ {vs : List Vs} {i : Nat} {hi : i < vs.length} {m : List Int} {a : Vs} (h : a ∈ vs.set i (setQ vs[i] m)) : a = setQ vs[i] m ∨ ∃ j, ∃ hj : j < vs.length, j ≠ i ∧ a = vs[j] := by
  obtain ⟨j, hj, rfl⟩ := List.mem_iff_getElem.1 h
  rw [List.length_set] at hj
  rw [List.getElem_set]
  by_cases c : i = j
  · rw [if_pos c]; exact .inl rfl
  · rw [if_neg c]; exact .inr ⟨j, hj, fun f => c f.symm, rfl⟩
theorem TreeO.setMap {h h' : H} (w : WF h) {s : Sl} {vs : List Vs} (T : TreeO h s vs) {i : Nat} (hi : i < vs.length) (c : Ch (SlB vs[i].2) h h') {m : List Int} (M : Ow 3 1 h' vs[i].2 (ivs m)) : TreeO h' s (vs.set i (setQ vs[i] m)) := by
  have pw := List.pairwise_iff_getElem.1 T.di
  have ap : ∀ j (hj : j < vs.length), j ≠ i → Apart vs[i] vs[j] := fun j hj hji => by
    rcases Nat.lt_trichotomy j i with z | z | z
    · exact (pw j i hj hi z).symm
    · exact absurd z hji
    · exact pw i j hi hj z
  refine ⟨?_, fun a ha => ?_, ?_, fun a ha x hx => ?_⟩
  · rw [set_vo]
    exact T.ow.keep fun b hb => c.keep b (T.ow.lt w hb) fun f => T.ne _ (List.getElem_mem hi) b hb f
  · rcases mem_setQ ha with rfl | ⟨j, hj, hji, rfl⟩
    · exact M
    · exact (T.mp _ (List.getElem_mem hj)).keep fun b hb => c.keep b ((T.mp _ (List.getElem_mem hj)).lt w hb) fun f => ap j hj hji b f hb
  · rw [List.pairwise_iff_getElem]
    intro a b ha hb hab x hx f
    rw [List.length_set] at ha hb
    rw [List.getElem_set] at hx f
    have ex : SlB vs[a].2 x := by
      by_cases z : i = a
      · subst z; rw [if_pos rfl] at hx; exact hx
      · rw [if_neg z] at hx; exact hx
    have fx : SlB vs[b].2 x := by
      by_cases z : i = b
      · subst z; rw [if_pos rfl] at f; exact f
      · rw [if_neg z] at f; exact f
    exact pw a b ha hb hab x ex fx
  · rcases mem_setQ ha with rfl | ⟨j, hj, hji, rfl⟩
    · exact T.ne _ (List.getElem_mem hi) x hx
    · exact T.ne _ (List.getElem_mem hj) x hx
theorem Fresh.setMap {n : Nat} {s : Sl} {vs : List Vs} (F : Fresh n s vs) {i : Nat} (hi : i < vs.length) (m : List Int) : Fresh n s (vs.set i (setQ vs[i] m)) := by
  refine ⟨F.1, fun a ha x hx => ?_⟩
  rcases mem_setQ ha with rfl | ⟨j, hj, hji, rfl⟩
  · exact F.2 _ (List.getElem_mem hi) x hx
  · exact F.2 _ (List.getElem_mem hj) x hx
theorem right_set {vs : List Vs} (R : RightP (vols vs)) {i : Nat} (hi : i < vs.length) {m : List Int} (hm : rightMap vs[i].1.sz m = true) : RightP (vols (vs.set i (setQ vs[i] m))) := by
  have len : (vols (vs.set i (setQ vs[i] m))).length = vs.length := by rw [vols_len, List.length_set]
  -- each is one of the old ones but for its map
  have old : ∀ j (hj : j < vs.length), ∃ (hj' : j < (vols (vs.set i (setQ vs[i] m))).length), (vols (vs.set i (setQ vs[i] m)))[j].nm = vs[j].1.nm ∧ (vols (vs.set i (setQ vs[i] m)))[j].pa = vs[j].1.pa ∧ (vols (vs.set i (setQ vs[i] m)))[j].sn = vs[j].1.sn ∧ rightMap (vols (vs.set i (setQ vs[i] m)))[j].sz (vols (vs.set i (setQ vs[i] m)))[j].mp = true := by
    intro j hj
    refine ⟨by rw [len]; exact hj, ?_⟩
    simp only [vols, List.getElem_map, List.getElem_set]
    by_cases z : i = j
    · subst z
      rw [if_pos rfl]
      exact ⟨rfl, rfl, rfl, hm⟩
    · rw [if_neg z]
      exact ⟨rfl, rfl, rfl, R.ma _ (mem_vols hj)⟩
  have idx : ∀ v ∈ vols (vs.set i (setQ vs[i] m)), ∃ j, ∃ hj : j < vs.length, v.nm = vs[j].1.nm ∧ v.pa = vs[j].1.pa ∧ v.sn = vs[j].1.sn ∧ rightMap v.sz v.mp = true := fun v hv => by
    obtain ⟨j, hj, rfl⟩ := List.mem_iff_getElem.1 hv
    rw [len] at hj
    obtain ⟨_, e⟩ := old j hj
    exact ⟨j, hj, e⟩
  refine ⟨adj_sorted fun j hj => ?_, fun v hv => ?_, fun v hv => ?_, fun v hv => ?_, ?_⟩
  · have hj' : j + 1 < vs.length := by rw [len] at hj; exact hj
    obtain ⟨_, e1, _⟩ := old j (by omega)
    obtain ⟨_, e2, _⟩ := old (j + 1) hj'
    rw [e1, e2]
    exact SortV.lt R.so hj' (by omega)
  · obtain ⟨j, hj, e1, _⟩ := idx v hv
    rw [e1]; exact R.na _ (mem_vols hj)
  · obtain ⟨j, hj, _, _, _, e⟩ := idx v hv
    exact e
  · obtain ⟨j, hj, e1, e2, e3, _⟩ := idx v hv
    rw [e1, e2, e3]
    refine (R.pa _ (mem_vols hj)).imp id fun ⟨g1, u, hu, g2, g3⟩ => ⟨g1, ?_⟩
    obtain ⟨q, hq, rfl⟩ := List.mem_map.1 hu
    obtain ⟨a, ha, rfl⟩ := List.mem_iff_getElem.1 hq
    obtain ⟨ha', f1, f2, f3, _⟩ := old a ha
    exact ⟨_, List.getElem_mem ha', by rw [f1]; exact g2, by rw [f3]; exact g3⟩
  · rw [len]
    have := R.le
    rw [vols_len] at this
    exact this
theorem rightMap_set {n : Int} {m : List Int} (h : rightMap n m = true) (j : Nat) (x : Int) (hx : okN x = true) : rightMap n (m.set j x) = true := by
  unfold rightMap at h ⊢
  rw [Bool.and_eq_true, Bool.and_eq_true] at h ⊢
  refine ⟨h.1, by rw [List.length_set]; exact h.2.1, ?_⟩
  rw [List.all_eq_true]
  intro y hy
  rcases List.mem_or_eq_of_mem_set hy with z | z
  · exact (List.all_eq_true.1 h.2.2) y z
  · rw [z]; exact hx
/-! ### of -/
def rawL (a b c d e : Int) : List Value := [.int .i64 a, .int .i64 b, .int .i64 c, .int .i64 d, .int .i64 e]
/-- an argument: raw steps -/
def RawsR (h : H) (s : Sl) : Prop := ∀ h', Ch0 h h' → ∀ i, i < s.n → ∃ b o x1 x2 x3 x4 x5, ixs 5 s.a s.n (Int.ofNat i) = some (.pointer (some ⟨b, o, none⟩)) ∧ lda 5 h' (some ⟨b, o, none⟩) = some (.agg (rawL x1 x2 x3 x4 x5).toArray)
theorem RawsR.stay {h h' : H} {s : Sl} (r : RawsR h s) (c : Ch0 h h') : RawsR h' s := fun g cg => r g (c.then cg)
structure VolB (v : Vol) : Prop where
  nm : v.nm.length ≤ 8
  pa : v.pa.length ≤ 8
  mp : v.mp.length ≤ 32
  sz : 0 ≤ v.sz ∧ v.sz ≤ 256
theorem RightP.vb {t : List Vol} (R : RightP t) {v : Vol} (hv : v ∈ t) : VolB v := ⟨nameLen (R.na v hv), R.paLen hv, (mapLen (R.ma v hv)).1, (mapLen (R.ma v hv)).2.2.1, (mapLen (R.ma v hv)).2.2.2.1⟩
/-! ### the map's bytes -/
/-! ### the program -/
noncomputable instance (t : List Vol) : Decidable (RightP t) := Classical.propDecidable _
/-! ### the reference -/
end Go.Proofs.Ytfenkpghcbohdaa.Fw
/- A tree's bytes read back: plain lists. No program, no condition. -/
namespace Go.Proofs.Ytfenkpghcbohdaa.Fw
open Go Den Fwd
set_option linter.unusedVariables false
set_option linter.unusedSimpArgs false
/-! ### as the program reads: so many bytes, or all there are -/
/-! ### as the reference reads: so many bytes, or none -/
/-! ### what is laid is read -/
/-! ### bounds of what is read -/
/-! ### the map -/
/-! ### a volume -/
def zVo : List Value := [Value.string (⟨#[]⟩ : ByteArray), Value.string (⟨#[]⟩ : ByteArray), Value.bool false, Value.int .i64 (0 : Int), Value.slice none 0 0]
theorem TreeO.keep {h h' : H} {s : Sl} {vs : List Vs} (k : ∀ x, (SlB s x ∨ ∃ q ∈ vs, SlB q.2 x) → h'.get x = h.get x) (T : TreeO h s vs) : TreeO h' s vs :=
  ⟨T.ow.keep fun b hb => k b (.inl hb), fun q hq => (T.mp q hq).keep fun b hb => k b (.inr ⟨q, hq, hb⟩), T.di, T.ne⟩
theorem Fresh.all {n : Nat} {s : Sl} {vs : List Vs} (F : Fresh n s vs) {x : Nat} (h : SlB s x ∨ ∃ q ∈ vs, SlB q.2 x) : n ≤ x := h.elim (F.1 x) fun ⟨q, hq, hx⟩ => F.2 q hq x hx
theorem TreeO.lt {h : H} (w : WF h) {s : Sl} {vs : List Vs} (T : TreeO h s vs) {x : Nat} (hx : SlB s x ∨ ∃ q ∈ vs, SlB q.2 x) : x < h.next := hx.elim (T.ow.lt w) fun ⟨q, hq, f⟩ => (T.mp q hq).lt w f
/-! ### the same? -/
theorem sameInts_l0 (k : Nat) {h : H} {s t : Sl} {l m : List Int} (r : SlR 1 h s (ivs l)) (q : SlR 1 h t (ivs m)) (hl : l.length = m.length) (hx : l.length ≤ 100000) : ∀ n j, l.length - j < n → j ≤ l.length → l.take j = m.take j →
    ∃ v, corbelref7_SameInts.l0 k n s t (Int.ofNat j) h = some (v, h) ∧ ((v = .inr () ∧ l = m) ∨ (v = .inl false ∧ l ≠ m))
  | 0, j, hf, _, _ => by omega
  | n + 1, j, hf, hj, e => by
    rw [corbelref7_SameInts.l0_succ, SlR.ivn r]
    by_cases c : j < l.length
    · rw [decLt c, cond_true]
      obtain ⟨n1, p, e1, e2⟩ := SlR.int r c
      obtain ⟨n2, p', f1, f2⟩ := SlR.int q (show j < m.length by omega)
      rw [n1] at e1
      rw [e1]
      simp only [asP_ptr, Option.bind_some, e2, asI_int]
      rw [f1]
      simp only [asP_ptr, Option.bind_some, f2, asI_int]
      by_cases d : l[j] = m[j]
      · rw [d, show (m[j] != m[j]) = false by simp, cond_false, wrap_succ (by omega)]
        refine sameInts_l0 k r q hl hx n (j + 1) (by omega) (by omega) ?_
        rw [List.take_succ_eq_append_getElem c, List.take_succ_eq_append_getElem (by omega), e, d]
      · rw [show (l[j] != m[j]) = true by rw [bne_iff_ne]; exact d, cond_true]
        exact ⟨_, rfl, .inr ⟨rfl, fun f => d (by subst f; rfl)⟩⟩
    · rw [decNlt c, cond_false]
      rw [List.take_of_length_le (by omega), List.take_of_length_le (by omega)] at e
      exact ⟨_, rfl, .inl ⟨rfl, e⟩⟩
theorem sameInts_f (k : Nat) {h : H} {s t : Sl} {l m : List Int} (r : SlR 1 h s (ivs l)) (q : SlR 1 h t (ivs m)) (hx : l.length < k) (hx2 : l.length ≤ 100000) : corbelref7_SameInts.f k s t h = some (decide (l = m), h) := by
  unfold corbelref7_SameInts.f
  rw [SlR.ivn r, SlR.ivn q]
  by_cases c : l.length = m.length
  · rw [c, show (Int.ofNat m.length != Int.ofNat m.length) = false by simp, cond_false, show (0 : Int) = Int.ofNat 0 from rfl]
    obtain ⟨v, a1, a2⟩ := sameInts_l0 k r q c hx2 k 0 (by omega) (Nat.zero_le _) rfl
    rw [a1]
    rcases a2 with ⟨rfl, e⟩ | ⟨rfl, e⟩
    · rw [decide_eq_true e]; rfl
    · rw [decide_eq_false e]; rfl
  · rw [show (Int.ofNat l.length != Int.ofNat m.length) = true by rw [bne_iff_ne]; exact fun f => c (Int.ofNat.inj f), cond_true, decide_eq_false (fun f => c (by rw [f]))]
theorem Vol.ext_iff' (a b : Vol) : a = b ↔ a.nm = b.nm ∧ a.pa = b.pa ∧ a.sn = b.sn ∧ a.sz = b.sz ∧ a.mp = b.mp := by
  cases a; cases b
  simp only [Vol.mk.injEq]
theorem sameVol_f (k : Nat) (hk : 20000 < k) {h : H} (w : WF h) (q u : Vs) (Q : SlR 1 h q.2 (ivs q.1.mp)) (U : SlR 1 h u.2 (ivs u.1.mp)) (hb : q.1.mp.length ≤ 10000) :
    ∃ h', corbelref16_SameVolume.f k (voT q) (voT u) h = some (decide (q.1 = u.1), h') ∧ Ch0 h h' := by
  unfold corbelref16_SameVolume.f voT
  dsimp only
  rw [show [Value.string (ba q.1.nm), Value.string (ba q.1.pa), Value.bool q.1.sn, Value.int .i64 q.1.sz, Value.slice q.2.a q.2.n q.2.c] = voL q from rfl, show [Value.string (ba u.1.nm), Value.string (ba u.1.pa), Value.bool u.1.sn, Value.int .i64 u.1.sz, Value.slice u.2.a u.2.n u.2.c] = voL u from rfl]
  obtain ⟨y1, y2, y3⟩ := newR_ok w 58 5 (voL q)
  generalize newR h 58 5 (voL q) = g at y1 y2 y3 ⊢
  obtain ⟨z1, z2, z3⟩ := newR_ok y1.wf 58 5 (voL u)
  generalize newR g 58 5 (voL u) = f at z1 z2 z3 ⊢
  have I := y3.stay y1.wf z1
  have C := y1.then z1
  have q0 : asT (ldc f (some ⟨h.next, 0, none⟩)) = some (ba q.1.nm) := by rw [I.ldc]; exact asTs _
  have q1 : asT (ldc f (some ⟨h.next, 1, none⟩)) = some (ba q.1.pa) := by rw [I.ldc]; exact asTs _
  have q2 : asB (ldc f (some ⟨h.next, 2, none⟩)) = some q.1.sn := by rw [I.ldc]; exact asBs _
  have q3 : asI .i64 (ldc f (some ⟨h.next, 3, none⟩)) = some q.1.sz := by rw [I.ldc]; exact asI_int _ _
  have q4 : asS (ldc f (some ⟨h.next, 4, none⟩)) = some q.2 := by rw [I.ldc]; exact asS_slv _
  have u0 : asT (ldc f (some ⟨g.next, 0, none⟩)) = some (ba u.1.nm) := by rw [z3.ldc]; exact asTs _
  have u1 : asT (ldc f (some ⟨g.next, 1, none⟩)) = some (ba u.1.pa) := by rw [z3.ldc]; exact asTs _
  have u2 : asB (ldc f (some ⟨g.next, 2, none⟩)) = some u.1.sn := by rw [z3.ldc]; exact asBs _
  have u3 : asI .i64 (ldc f (some ⟨g.next, 3, none⟩)) = some u.1.sz := by rw [z3.ldc]; exact asI_int _ _
  have u4 : asS (ldc f (some ⟨g.next, 4, none⟩)) = some u.2 := by rw [z3.ldc]; exact asS_slv _
  rw [q0, u0]
  simp only [Option.bind_some]
  rw [q1, u1]
  simp only [Option.bind_some]
  rw [bat_eq, bat_eq]
  refine ⟨f, ?_, C⟩
  have E := Vol.ext_iff' q.1 u.1
  by_cases c0 : q.1.nm = u.1.nm
  rotate_left
  · rw [decide_eq_false c0, decide_eq_false (fun e => c0 (E.1 e).1)]; rfl
  rw [decide_eq_true c0]
  simp only [cond_true, Option.bind_some]
  by_cases c1 : q.1.pa = u.1.pa
  rotate_left
  · rw [decide_eq_false c1, decide_eq_false (fun e => c1 (E.1 e).2.1)]; rfl
  rw [decide_eq_true c1]
  simp only [cond_true, Option.bind_some]
  rw [q2, u2]
  simp only [Option.bind_some]
  by_cases c2 : q.1.sn = u.1.sn
  rotate_left
  · rw [show (q.1.sn == u.1.sn) = false by rw [beq_eq_false_iff_ne]; exact c2, decide_eq_false (fun e => c2 (E.1 e).2.2.1)]; rfl
  rw [show (q.1.sn == u.1.sn) = true by rw [c2]; simp]
  simp only [cond_true, Option.bind_some]
  rw [q3, u3]
  simp only [Option.bind_some]
  by_cases c3 : q.1.sz = u.1.sz
  rotate_left
  · rw [show (q.1.sz == u.1.sz) = false by rw [beq_eq_false_iff_ne]; exact c3, decide_eq_false (fun e => c3 (E.1 e).2.2.2.1)]; rfl
  rw [show (q.1.sz == u.1.sz) = true by rw [c3]; simp]
  simp only [cond_true, Option.bind_some]
  rw [q4, u4]
  simp only [Option.bind_some]
  rw [sameInts_f k (Q.stay w C) (U.stay w C) (by omega) (by omega)]
  simp only [Option.bind_some]
  rw [decide_eq_decide.2 (show q.1.mp = u.1.mp ↔ q.1 = u.1 from ⟨fun e => E.2 ⟨c0, c1, c2, c3, e⟩, fun e => (E.1 e).2.2.2.2⟩)]
theorem sameTree_l0 (k : Nat) (hk : 20000 < k) {h0 : H} (w0 : WF h0) {s t : Sl} {vs us : List Vs} (S : TreeR h0 s vs) (T : TreeR h0 t us) (B : TreeB vs) (hl : vs.length = us.length) : ∀ n i h, vs.length - i < n → i ≤ vs.length → Ch0 h0 h → (vols vs).take i = (vols us).take i →
    ∃ v h', corbelref16_SameTree.l0 k n s t (Int.ofNat i) h = some (v, h') ∧ Ch0 h0 h' ∧ ((v = .inr () ∧ vols vs = vols us) ∨ (v = .inl false ∧ vols vs ≠ vols us))
  | 0, i, h, hf, _, _, _ => by omega
  | n + 1, i, h, hf, hi, C, e => by
    rw [corbelref16_SameTree.l0_succ, S.n]
    have hn := B.n
    by_cases c : i < vs.length
    · rw [decLt c, cond_true]
      obtain ⟨b, o, e1, e2, _⟩ := (S.stay w0 C).at c
      rw [S.n] at e1
      rw [e1]
      simp only [asP_ptr, Option.bind_some]
      rw [e2, bindVo]
      obtain ⟨b', o', f1, f2, _⟩ := (T.stay w0 C).at (i := i) (by omega)
      rw [f1]
      simp only [asP_ptr, Option.bind_some]
      rw [f2, bindVo]
      have hv : (vols vs)[i]'(by rw [vols_len]; exact c) = vs[i].1 := by simp only [vols, List.getElem_map]
      have hu : (vols us)[i]'(by rw [vols_len]; omega) = (us[i]'(by omega)).1 := by simp only [vols, List.getElem_map]
      obtain ⟨h', a1, a2⟩ := sameVol_f k hk C.wf vs[i] (us[i]'(by omega)) ((S.mp _ (List.getElem_mem c)).stay w0 C) ((T.mp _ (List.getElem_mem (by omega))).stay w0 C) (B.nm _ (List.getElem_mem c)).2.2
      have a1 : corbelref16_SameVolume.f k ((voT vs[i]).1, (voT vs[i]).2.1, (voT vs[i]).2.2.1, (voT vs[i]).2.2.2.1, (voT vs[i]).2.2.2.2) ((voT (us[i]'(by omega))).1, (voT (us[i]'(by omega))).2.1, (voT (us[i]'(by omega))).2.2.1, (voT (us[i]'(by omega))).2.2.2.1, (voT (us[i]'(by omega))).2.2.2.2) h = _ := a1
      rw [a1]
      simp only [Option.bind_some]
      by_cases d : vs[i].1 = (us[i]'(by omega)).1
      · rw [decide_eq_true d, Bool.not_true, cond_false, wrap_succ (by omega)]
        refine sameTree_l0 k hk w0 S T B hl n (i + 1) h' (by omega) (by omega) (C.then a2) ?_
        rw [List.take_succ_eq_append_getElem (by rw [vols_len]; exact c), List.take_succ_eq_append_getElem (by rw [vols_len]; omega), e, hv, hu, d]
      · rw [decide_eq_false d, Bool.not_false, cond_true]
        refine ⟨_, h', rfl, C.then a2, .inr ⟨rfl, fun f => d ?_⟩⟩
        rw [← hv, ← hu]
        simp only [f]
    · rw [decNlt c, cond_false]
      rw [List.take_of_length_le (by rw [vols_len]; omega), List.take_of_length_le (by rw [vols_len]; omega)] at e
      exact ⟨_, h, rfl, C, .inl ⟨rfl, e⟩⟩
theorem sameTree_f (k : Nat) (hk : 20000 < k) {h : H} (w : WF h) {s t : Sl} {vs us : List Vs} (S : TreeR h s vs) (T : TreeR h t us) (B : TreeB vs) :
    ∃ h', corbelref16_SameTree.f k s t h = some (decide (vols vs = vols us), h') ∧ Ch0 h h' := by
  unfold corbelref16_SameTree.f
  rw [S.n, T.n]
  have hn := B.n
  by_cases c : vs.length = us.length
  · rw [show (Int.ofNat vs.length != Int.ofNat us.length) = false by rw [c]; simp, cond_false, show (0 : Int) = Int.ofNat 0 from rfl]
    obtain ⟨v, h', a1, a2, a3⟩ := sameTree_l0 k hk w S T B c k 0 h (by omega) (Nat.zero_le _) (Ch.refl w) rfl
    rw [a1]
    rcases a3 with ⟨rfl, e⟩ | ⟨rfl, e⟩
    · exact ⟨h', by rw [decide_eq_true e]; rfl, a2⟩
    · exact ⟨h', by rw [decide_eq_false e]; rfl, a2⟩
  · rw [show (Int.ofNat vs.length != Int.ofNat us.length) = true by rw [bne_iff_ne]; exact fun f => c (Int.ofNat.inj f), cond_true]
    exact ⟨h, by rw [decide_eq_false (fun f => c (by have := congrArg List.length f; rw [vols_len, vols_len] at this; exact this))], Ch.refl w⟩
/-! ### a list of bytes' slices -/
structure PsO (n0 : Nat) (h : H) (s : Sl) (ps : Parts) : Prop where
  ow : Ow 30 1 h s (ps.map fun p => slv p.1)
  rd : PartsR h ps
  fs : ∀ z, SlB s z → n0 ≤ z
  fp : ∀ p ∈ ps, ∀ z, SlB p.1 z → n0 ≤ z ∧ ¬ SlB s z
theorem PsO.nil {n0 : Nat} {h : H} : PsO n0 h ⟨none, 0, 0⟩ [] := ⟨Ow.nil, (fun _ f => by cases f), (fun z f => absurd f noSlB), (fun _ f => by cases f)⟩
theorem PsO.keep {n0 : Nat} {h h' : H} {s : Sl} {ps : Parts} (w : WF h) (P : PsO n0 h s ps) (k : ∀ z, n0 ≤ z → z < h.next → h'.get z = h.get z) : PsO n0 h' s ps :=
  ⟨P.ow.keep fun b hb => k b (P.fs b hb) (P.ow.lt w hb), fun p hp => (P.rd p hp).keep fun b hb => k b (P.fp p hp b hb).1 ((P.rd p hp).blk w hb), P.fs, P.fp⟩
theorem PsO.stay {n0 : Nat} {h h' : H} {s : Sl} {ps : Parts} (w : WF h) (P : PsO n0 h s ps) (c : Ch0 h h') : PsO n0 h' s ps := P.keep w fun z _ hz => c.keep z hz fun f => f
theorem PsO.n {n0 : Nat} {h : H} {s : Sl} {ps : Parts} (P : PsO n0 h s ps) : s.n = ps.length := by
  have := P.ow.slr.len
  rw [List.length_map, Nat.mul_one] at this
  exact this.symm
theorem PsO.push {n0 : Nat} {h : H} (w : WF h) {s : Sl} {ps : Parts} (P : PsO n0 h s ps) (hn : n0 ≤ h.next) (p : Sl × List UInt8) (rp : SlR 1 h p.1 (byt p.2)) (fp : ∀ z, SlB p.1 z → n0 ≤ z ∧ ¬ SlB s z) (hb : ps.length ≤ 2000000000000) :
    ∃ s' h', asS2 (apv 30 1 24 (.slice s.a s.n s.c) (.slice (some ⟨h.next, 0, none⟩) 1 1) (newR h 30 1 [slv p.1])) = some (s', h') ∧ Ch (SlB s) h h' ∧ PsO n0 h' s' (ps ++ [p]) ∧ ∀ b, SlB s' b → SlB s b ∨ h.next ≤ b := by
  obtain ⟨n1, n2, n3⟩ := newR_ok w 30 1 [slv p.1]
  obtain ⟨s', h', e1, e2, e3, e4, e5⟩ := apv_ok (by_ := 24) n1.wf (P.ow.stay w n1) (by decide) (SlR.of_is n3 (n := 1) rfl (by unfold unk; omega)) (by rw [P.n]; show (ps.length + 1) * 24 ≤ _; omega) rfl
  have c : Ch (SlB s) h h' := (n1.mono fun _ _ f => f.elim).trans e2 fun _ _ f => f
  have near : ∀ b, SlB s' b → SlB s b ∨ h.next ≤ b := fun b hb => (e5 b hb).imp id fun f => by omega
  have mem : ∀ q ∈ ps ++ [p], SlR 1 h q.1 (byt q.2) ∧ ∀ z, SlB q.1 z → n0 ≤ z ∧ ¬ SlB s z := fun q hq => by
    rcases List.mem_append.1 hq with z | z
    · exact ⟨P.rd q z, P.fp q z⟩
    · rw [List.mem_singleton.1 z]; exact ⟨rp, fp⟩
  refine ⟨s', h', e1, c, ⟨?_, fun q hq => ?_, fun z hz => (near z hz).elim (P.fs z) fun f => by omega, fun q hq z hz => ?_⟩, near⟩
  · rw [List.map_append]; exact e3
  · obtain ⟨r, f⟩ := mem q hq
    exact r.keep fun b hb => c.keep b (r.blk w hb) (f b hb).2
  · obtain ⟨r, f⟩ := mem q hq
    refine ⟨(f z hz).1, fun g => (near z g).elim (f z hz).2 fun y => ?_⟩
    have := r.blk w hz
    omega
/-! ### the program -/
/-! ### the reference -/
end Go.Proofs.Ytfenkpghcbohdaa.Fw
