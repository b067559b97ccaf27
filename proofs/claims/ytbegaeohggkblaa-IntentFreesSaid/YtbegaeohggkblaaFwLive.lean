/- A ring of intents: who lives, in order. No condition. -/
import Derived.Test.YtbegaeohggkblaaFwRel
namespace Go.Proofs.Ytbegaeohggkblaa.Fw
open Go Den Fwd
set_option linter.unusedVariables false
set_option linter.unusedSimpArgs false
def key (q : Sd) : Int := q.1.2.1
def liv (q : Sd) : Bool := q.1.1
/-! ### in plain lists -/
def bub : List Sd → Nat → List Sd
  | l, 0 => l
  | l, j + 1 => if key (l.getD (j + 1) zSd) < key (l.getD j zSd) then bub ((l.set (j + 1) (l.getD j zSd)).set j (l.getD (j + 1) zSd)) j else l
def Srt (l : List Sd) : Prop := l.Pairwise fun a b => key a < key b
theorem bub_len : ∀ (j : Nat) (l : List Sd), (bub l j).length = l.length
  | 0, l => rfl
  | j + 1, l => by
    unfold bub
    split
    · rw [bub_len j, List.length_set, List.length_set]
    · rfl
theorem bub_ins : ∀ (n : Nat) (P : List Sd) (x : Sd) (R : List Sd), P.length = n → Srt P → (∀ p ∈ P, key p ≠ key x) → ∃ P', bub (P ++ x :: R) n = P' ++ R ∧ List.Perm P' (x :: P) ∧ Srt P'
  | 0, P, x, R, hn, _, _ => by
    obtain rfl := List.eq_nil_of_length_eq_zero hn
    exact ⟨[x], rfl, List.Perm.refl _, List.pairwise_singleton _ _⟩
  | n + 1, P, x, R, hn, hs, hd => by
    obtain ⟨P0, y, rfl⟩ : ∃ P0 y, P = P0 ++ [y] := by
      refine ⟨P.dropLast, P.getLast (by rintro rfl; simp at hn), (List.dropLast_concat_getLast _).symm⟩
    rw [List.length_append] at hn
    simp only [List.length_cons, List.length_nil] at hn
    have h0 : P0.length = n := by omega
    have e1 : (P0 ++ [y] ++ x :: R).getD (n + 1) zSd = x := by
      rw [List.getD_eq_getElem?_getD, List.getElem?_append_right (by rw [List.length_append]; simp only [List.length_cons, List.length_nil]; omega), List.length_append, h0]
      simp
    have e2 : (P0 ++ [y] ++ x :: R).getD n zSd = y := by
      rw [List.getD_eq_getElem?_getD, List.append_assoc, List.getElem?_append_right (by omega), h0, Nat.sub_self]; rfl
    unfold bub
    rw [e1, e2]
    have hs' := List.pairwise_append.1 hs
    by_cases c : key x < key y
    · rw [if_pos c]
      have e3 : ((P0 ++ [y] ++ x :: R).set (n + 1) y).set n x = P0 ++ x :: (y :: R) := by
        rw [List.append_assoc, List.set_append_right _ _ (by omega), List.set_append_right _ _ (by omega), h0, show n + 1 - n = 1 by omega, Nat.sub_self]; rfl
      rw [e3]
      obtain ⟨P', a1, a2, a3⟩ := bub_ins n P0 x (y :: R) h0 hs'.1 fun p hp => hd p (List.mem_append_left _ hp)
      rw [a1]
      refine ⟨P' ++ [y], by rw [List.append_assoc]; rfl, ?_, ?_⟩
      · exact List.Perm.append_right [y] a2
      · refine List.pairwise_append.2 ⟨a3, List.pairwise_singleton _ _, fun a ha b hb => ?_⟩
        obtain rfl := List.mem_singleton.1 hb
        rcases List.mem_cons.1 (a2.mem_iff.1 ha) with f | f
        · rw [f]; exact c
        · exact hs'.2.2 a f _ (List.mem_singleton.2 rfl)
    · rw [if_neg c]
      have hyx : key y < key x := by
        have := hd y (List.mem_append_right _ (List.mem_singleton.2 rfl))
        omega
      refine ⟨P0 ++ [y] ++ [x], by rw [List.append_assoc (P0 ++ [y])]; rfl, ?_, ?_⟩
      · exact List.perm_append_comm
      · refine List.pairwise_append.2 ⟨hs, List.pairwise_singleton _ _, fun a ha b hb => ?_⟩
        obtain rfl := List.mem_singleton.1 hb
        rcases List.mem_append.1 ha with f | f
        · have := hs'.2.2 a f y (List.mem_singleton.2 rfl)
          omega
        · obtain rfl := List.mem_singleton.1 f
          exact hyx
/-! ### rows of slots -/
def svL (lv : List Sd) : List Value := (lv.map fun q => scL q.1).flatten
theorem sv_es (lv : List Sd) : ∀ g ∈ lv.map (fun q => scL q.1), g.length = 5 := fun g hg => by
  obtain ⟨q, _, rfl⟩ := List.mem_map.1 hg
  rfl
theorem sv_one (lv : List Sd) : (svL lv).all Den.one = true := by
  rw [List.all_eq_true]
  intro v hv
  obtain ⟨g, hg, hv⟩ := List.mem_flatten.1 hv
  obtain ⟨q, _, rfl⟩ := List.mem_map.1 hg
  simp only [scL, List.mem_cons, List.not_mem_nil, or_false] at hv
  rcases hv with rfl | rfl | rfl | rfl | rfl <;> rfl
theorem sv_n {h : H} {s : Sl} {lv : List Sd} (O : Ow 96 5 h s (svL lv)) : s.n = lv.length := by
  have := (SlR.grp (es := 5) (gs := lv.map fun q => scL q.1) O.slr (by decide) (sv_es lv)).1
  rw [List.length_map] at this
  exact this
theorem sv_at {h : H} (w : WF h) {s : Sl} {lv : List Sd} (O : Ow 96 5 h s (svL lv)) {i : Nat} (hi : i < lv.length) : ∃ b, ixs 5 s.a s.n (Int.ofNat i) = some (.pointer (some ⟨b, 0 + i * 5, none⟩)) ∧ SlB s b ∧ Is h b 96 5 (svL lv) ∧ lda 5 h (some ⟨b, 0 + i * 5, none⟩) = some (.agg (scL lv[i].1).toArray) := by
  have hn := sv_n O
  rcases O with ⟨f, _⟩ | ⟨b, m, c, rfl, hl, I, hc⟩
  · have := congrArg List.length f
    unfold svL at this
    rw [flat_len (sv_es lv), List.length_map] at this
    simp only [List.length_nil] at this
    omega
  · refine ⟨b, ixsG (by show i < m; have hn : m = lv.length := hn; omega), ⟨0, rfl⟩, I, ?_⟩
    have I2 : Is h b 96 5 ([] ++ (lv.map fun q => scL q.1).flatten ++ []) := by rw [List.nil_append, List.append_nil]; exact I
    have := (Is.grp (pre := []) (post := []) I2 (sv_es lv) (i := i) (by rw [List.length_map]; exact hi)).2
    rw [show ([] : List Value).length = 0 from rfl] at this
    rw [this, List.getElem_map]
theorem sv_set {h : H} (w : WF h) {s : Sl} {lv : List Sd} (O : Ow 96 5 h s (svL lv)) {i : Nat} (hi : i < lv.length) (q : Sd) : ∃ b h', ixs 5 s.a s.n (Int.ofNat i) = some (.pointer (some ⟨b, 0 + i * 5, none⟩)) ∧ stv 5 h (some ⟨b, 0 + i * 5, none⟩) (scL q.1) = some (undef, h') ∧ Ch (SlB s) h h' ∧ Ow 96 5 h' s (svL (lv.set i q)) := by
  have hn := sv_n O
  rcases O with ⟨f, _⟩ | ⟨b, m, c, rfl, hl, I, hc⟩
  · have := congrArg List.length f
    unfold svL at this
    rw [flat_len (sv_es lv), List.length_map] at this
    simp only [List.length_nil] at this
    omega
  · have I2 : Is h b 96 5 ([] ++ (lv.map fun q => scL q.1).flatten ++ []) := by rw [List.nil_append, List.append_nil]; exact I
    obtain ⟨h', a1, a2, a3, a4⟩ := Is.grpSet w (pre := []) (post := []) I2 (sv_es lv) (i := i) (by rw [List.length_map]; exact hi) (scL q.1) rfl rfl
    rw [List.nil_append, List.append_nil, ← set_mapG] at a4
    refine ⟨b, h', ixsG (by show i < m; have hn : m = lv.length := hn; omega), a1, a2.mono fun z _ hz => by rw [hz]; exact ⟨0, rfl⟩, .inr ⟨b, m, c, rfl, ?_, a4, hc⟩⟩
    unfold svL at hl ⊢
    rw [flat_len (sv_es _), List.length_map] at hl ⊢
    rw [List.length_set]; exact hl
/-! ### sorted -/
theorem cmp_f (k : Nat) {h : H} (w : WF h) (a b : Sd) (ha : 0 ≤ key a ∧ key a ≤ 1000000) (hb : 0 ≤ key b ∧ key b ≤ 1000000) : ∃ h', intent_Ring_Live_1.f k (a.1.1, a.1.2.1, a.1.2.2.1, a.1.2.2.2.1, a.1.2.2.2.2) (b.1.1, b.1.2.1, b.1.2.2.1, b.1.2.2.2.1, b.1.2.2.2.2) h = some (key a - key b, h') ∧ Ch0 h h' := by
  unfold intent_Ring_Live_1.f
  dsimp only
  rw [show [Value.bool a.1.1, Value.int .i64 a.1.2.1, Value.int .i64 a.1.2.2.1, Value.int .i64 a.1.2.2.2.1, Value.slice a.1.2.2.2.2.a a.1.2.2.2.2.n a.1.2.2.2.2.c] = scL a.1 from rfl, show [Value.bool b.1.1, Value.int .i64 b.1.2.1, Value.int .i64 b.1.2.2.1, Value.int .i64 b.1.2.2.2.1, Value.slice b.1.2.2.2.2.a b.1.2.2.2.2.n b.1.2.2.2.2.c] = scL b.1 from rfl]
  obtain ⟨y1, y2, y3⟩ := newR_ok w 96 5 (scL a.1)
  generalize newR h 96 5 (scL a.1) = g at y1 y2 y3 ⊢
  obtain ⟨z1, z2, z3⟩ := newR_ok y1.wf 96 5 (scL b.1)
  generalize newR g 96 5 (scL b.1) = g' at z1 z2 z3 ⊢
  rw [(y3.stay y1.wf z1).ldc, z3.ldc, show asI .i64 ((scL a.1)[1]?) = some (key a) from asI_int _ _, show asI .i64 ((scL b.1)[1]?) = some (key b) from asI_int _ _]
  simp only [Option.bind_some]
  rw [wrap_in (n := key a - key b) (by omega) (by omega)]
  exact ⟨g', rfl, y1.then z1⟩
def KOkL (lv : List Sd) : Prop := ∀ q ∈ lv, 0 ≤ key q ∧ key q ≤ 1000000
theorem KOkL.set {lv : List Sd} (h : KOkL lv) {i : Nat} {q : Sd} (hq : 0 ≤ key q ∧ key q ≤ 1000000) : KOkL (lv.set i q) := fun x hx => by
  rcases List.mem_or_eq_of_mem_set hx with e | e
  · exact h x e
  · rw [e]; exact hq
theorem bub_l1 (k : Nat) (x9 : Int) (x11 : Int) {s : Sl} {h0 : H} (hfr : ∀ b, SlB s b → h0.next ≤ b) : ∀ n j h (lv : List Sd), j < n → j < lv.length → lv.length ≤ 1000 → KOkL lv → Ch0 h0 h → Ow 96 5 h s (svL lv) →
    ∃ h', slices_insertionSortCmpFunc_intent_slot_intent_Ring_Live_1.l1 k n s (0 : Int) x9 () x11 (Int.ofNat j) h = some ((), h') ∧ Ch0 h0 h' ∧ Ow 96 5 h' s (svL (bub lv j))
  | 0, j, h, lv, hn, _, _, _, _, _ => by omega
  | n + 1, j, h, lv, hn, hj, hl, hk, c0, O => by
    rw [slices_insertionSortCmpFunc_intent_slot_intent_Ring_Live_1.l1_succ]
    cases j with
    | zero =>
      rw [show decide (Int.ofNat 0 > (0 : Int)) = false from rfl]
      exact ⟨h, rfl, c0, O⟩
    | succ j =>
      rw [decide_eq_true (show Int.ofNat (j + 1) > (0 : Int) by simp only [Int.ofNat_eq_natCast]; omega)]
      simp only [cond_true]
      obtain ⟨b1, a1, a2, a3, a4⟩ := sv_at c0.wf O hj
      obtain ⟨b2, d1, d2, d3, d4⟩ := sv_at c0.wf O (i := j) (by omega)
      rw [wrap_in (n := Int.ofNat (j + 1) - (1 : Int)) (by simp only [Int.ofNat_eq_natCast]; omega) (by simp only [Int.ofNat_eq_natCast]; omega), show Int.ofNat (j + 1) - (1 : Int) = Int.ofNat j by simp only [Int.ofNat_eq_natCast]; omega]
      rw [a1]
      simp only [asP_ptr, Option.bind_some]
      rw [a4, bindSc, d1]
      simp only [asP_ptr, Option.bind_some]
      rw [d4, bindSc]
      dsimp only
      obtain ⟨h1, e1, e2⟩ := cmp_f k c0.wf lv[j + 1] lv[j] (hk _ (List.getElem_mem hj)) (hk _ (List.getElem_mem _))
      rw [e1]
      simp only [Option.bind_some]
      have g1 : lv.getD (j + 1) zSd = lv[j + 1] := by rw [List.getD_eq_getElem?_getD, List.getElem?_eq_getElem hj]; rfl
      have g2 : lv.getD j zSd = lv[j]'(by omega) := by rw [List.getD_eq_getElem?_getD, List.getElem?_eq_getElem (show j < lv.length by omega)]; rfl
      unfold bub
      rw [g1, g2]
      have O1 := O.stay c0.wf e2
      have c1 := c0.then e2
      by_cases c : key lv[j + 1] < key (lv[j]'(by omega))
      · rw [if_pos c, decide_eq_true (show key lv[j + 1] - key (lv[j]'(by omega)) < 0 by omega)]
        simp only [cond_true]
        obtain ⟨_, _, _, _, a4'⟩ := sv_at c1.wf O1 hj
        obtain ⟨b3, f1, f2, f3, f4⟩ := sv_at c1.wf O1 (i := j) (by omega)
        obtain ⟨b4, i1, i2, i3, i4⟩ := sv_at c1.wf O1 hj
        rw [d1] at f1
        cases f1
        rw [a1] at i1
        cases i1
        rw [f4, bindSc]
        dsimp only
        rw [i4, bindSc]
        dsimp only
        obtain ⟨b5, h2, j1, j2, j3, j4⟩ := sv_set c1.wf O1 hj (lv[j]'(by omega))
        rw [a1] at j1
        cases j1
        rw [show [Value.bool (lv[j]'(by omega)).1.1, Value.int .i64 (lv[j]'(by omega)).1.2.1, Value.int .i64 (lv[j]'(by omega)).1.2.2.1, Value.int .i64 (lv[j]'(by omega)).1.2.2.2.1, Value.slice (lv[j]'(by omega)).1.2.2.2.2.a (lv[j]'(by omega)).1.2.2.2.2.n (lv[j]'(by omega)).1.2.2.2.2.c] = scL (lv[j]'(by omega)).1 from rfl, j2]
        simp only [Option.bind_some]
        obtain ⟨b6, h3, l1, l2, l3, l4⟩ := sv_set j3.wf j4 (i := j) (by rw [List.length_set]; omega) lv[j + 1]
        rw [d1] at l1
        cases l1
        rw [show [Value.bool lv[j + 1].1.1, Value.int .i64 lv[j + 1].1.2.1, Value.int .i64 lv[j + 1].1.2.2.1, Value.int .i64 lv[j + 1].1.2.2.2.1, Value.slice lv[j + 1].1.2.2.2.2.a lv[j + 1].1.2.2.2.2.n lv[j + 1].1.2.2.2.2.c] = scL lv[j + 1].1 from rfl, l2]
        simp only [Option.bind_some]
        exact bub_l1 k x9 x11 hfr n j h3 _ (by omega) (by rw [List.length_set, List.length_set]; omega) (by rw [List.length_set, List.length_set]; exact hl) ((hk.set (hk _ (List.getElem_mem _))).set (hk _ (List.getElem_mem hj))) (Ch0.own (Ch0.own c1 j3 hfr) l3 hfr) l4
      · rw [if_neg c, decide_eq_false (show ¬ key lv[j + 1] - key (lv[j]'(by omega)) < 0 by omega)]
        exact ⟨h1, rfl, c1, O1⟩
theorem sort_l0 (k : Nat) (hk0 : 2000 < k) {s : Sl} {h0 : H} (hfr : ∀ b, SlB s b → h0.next ≤ b) (l0 : List Sd) (hd : l0.Pairwise fun a b => key a ≠ key b) (hok : KOkL l0) (hl : l0.length ≤ 1000) : ∀ n i h (P R : List Sd), l0.length - i < n → P.length = i → 1 ≤ i ∨ l0 = [] → Srt P → List.Perm (P ++ R) l0 → Ch0 h0 h → Ow 96 5 h s (svL (P ++ R)) →
    ∃ lv h', slices_insertionSortCmpFunc_intent_slot_intent_Ring_Live_1.l0 k n s (0 : Int) (Int.ofNat l0.length) () (Int.ofNat i) h = some ((), h') ∧ Ch0 h0 h' ∧ Ow 96 5 h' s (svL lv) ∧ List.Perm lv l0 ∧ Srt lv
  | 0, i, h, P, R, hn, _, _, _, _, _, _ => by omega
  | n + 1, i, h, P, R, hn, hi, h1, hs, hp, c0, O => by
    rw [slices_insertionSortCmpFunc_intent_slot_intent_Ring_Live_1.l0_succ]
    have hlen := hp.length_eq
    rw [List.length_append] at hlen
    cases R with
    | nil =>
      simp only [List.length_nil] at hlen
      rw [decide_eq_false (show ¬ Int.ofNat i < Int.ofNat l0.length by simp only [Int.ofNat_eq_natCast]; omega), cond_false]
      rw [List.append_nil] at hp O
      exact ⟨P, h, rfl, c0, O, hp, hs⟩
    | cons x R =>
      rw [List.length_cons] at hlen
      rw [decide_eq_true (show Int.ofNat i < Int.ofNat l0.length by simp only [Int.ofNat_eq_natCast]; omega), cond_true]
      have hk : KOkL (P ++ x :: R) := fun q hq => hok q (hp.mem_iff.1 hq)
      obtain ⟨h2, a1, a2, a3⟩ := bub_l1 k (Int.ofNat l0.length) (Int.ofNat i) hfr k i h (P ++ x :: R) (by omega) (by rw [List.length_append, List.length_cons]; omega) (by rw [List.length_append, List.length_cons]; omega) hk c0 O
      rw [a1]
      simp only [Option.bind_some]
      have hdist : ∀ p ∈ P, key p ≠ key x := fun p hpm => by
        have hq := (List.Perm.pairwise_iff (R := fun a b : Sd => key a ≠ key b) (fun {a b} h => Ne.symm h) hp).2 hd
        exact (List.pairwise_append.1 hq).2.2 p hpm x List.mem_cons_self
      obtain ⟨P', b1, b2, b3⟩ := bub_ins i P x R hi hs hdist
      rw [b1] at a3
      rw [wrap_succ (by omega)]
      have pl := b2.length_eq
      rw [List.length_cons] at pl
      exact sort_l0 k hk0 hfr l0 hd hok hl n (i + 1) h2 P' R (by omega) (by omega) (.inl (by omega)) b3 ((b2.append_right R).trans (List.Perm.trans (List.perm_middle (l₁ := P)).symm hp)) a2 a3
theorem sort_f (k : Nat) (hk0 : 2000 < k) {s : Sl} {h0 h : H} (hfr : ∀ b, SlB s b → h0.next ≤ b) (l0 : List Sd) (hd : l0.Pairwise fun a b => key a ≠ key b) (hok : KOkL l0) (hl : l0.length ≤ 16) (c0 : Ch0 h0 h) (O : Ow 96 5 h s (svL l0)) :
    ∃ lv h', slices_SortStableFunc_intent_slot_intent_slot_intent_Ring_Live_1.f k s () h = some ((), h') ∧ Ch0 h0 h' ∧ Ow 96 5 h' s (svL lv) ∧ List.Perm lv l0 ∧ Srt lv := by
  unfold slices_SortStableFunc_intent_slot_intent_slot_intent_Ring_Live_1.f slices_stableCmpFunc_intent_slot_intent_Ring_Live_1.f slices_insertionSortCmpFunc_intent_slot_intent_Ring_Live_1.f
  obtain ⟨k', rfl⟩ : ∃ k', k = k' + 1 := ⟨k - 1, by omega⟩
  rw [sv_n O, slices_stableCmpFunc_intent_slot_intent_Ring_Live_1.l0_succ, decide_eq_false (show ¬ (20 : Int) ≤ Int.ofNat l0.length by simp only [Int.ofNat_eq_natCast]; omega), cond_false]
  simp only [Option.bind_some]
  rw [show wrapA .i64 ((0 : Int) + 1) = Int.ofNat 1 from rfl]
  have key1 : ∃ lv h', slices_insertionSortCmpFunc_intent_slot_intent_Ring_Live_1.l0 (k' + 1) (k' + 1) s (0 : Int) (Int.ofNat l0.length) () (Int.ofNat 1) h = some ((), h') ∧ Ch0 h0 h' ∧ Ow 96 5 h' s (svL lv) ∧ List.Perm lv l0 ∧ Srt lv := by
    cases l0 with
    | nil =>
      rw [slices_insertionSortCmpFunc_intent_slot_intent_Ring_Live_1.l0_succ, show decide (Int.ofNat 1 < Int.ofNat ([] : List Sd).length) = false from rfl, cond_false]
      exact ⟨[], h, rfl, c0, O, List.Perm.refl _, List.Pairwise.nil⟩
    | cons x l => exact sort_l0 (k' + 1) hk0 hfr (x :: l) hd hok (by omega) (k' + 1) 1 h [x] l (by omega) rfl (.inl (Nat.le_refl _)) (List.pairwise_singleton _ _) (List.Perm.refl _) c0 O
  obtain ⟨lv, h', a1, a2⟩ := key1
  rw [a1]
  simp only [Option.bind_some]
  rw [slices_stableCmpFunc_intent_slot_intent_Ring_Live_1.l1_succ, decide_eq_false (show ¬ (20 : Int) < Int.ofNat l0.length by simp only [Int.ofNat_eq_natCast]; omega), cond_false]
  exact ⟨lv, h', rfl, a2⟩
/-! ### who lives -/
theorem liv_l0 (k : Nat) {h0 : H} {ss : List Sd} (hl : ss.length = 16) : ∀ n i h s, 16 - i < n → i ≤ 16 → Ch0 h0 h → Ow 96 5 h s (svL ((ss.take i).filter liv)) → (∀ b, SlB s b → h0.next ≤ b) →
    ∃ s' h', intent_Ring_Live.l0 k n (ringG ss).flatten.toArray s (Int.ofNat i) h = some (s', h') ∧ Ch0 h0 h' ∧ Ow 96 5 h' s' (svL (ss.filter liv)) ∧ ∀ b, SlB s' b → h0.next ≤ b
  | 0, i, h, s, hn, _, _, _, _ => by omega
  | n + 1, i, h, s, hn, hi, c0, O, fr => by
    rw [intent_Ring_Live.l0_succ]
    by_cases e : i < 16
    · rw [decide_eq_true (show Int.ofNat i < (16 : Int) by simp only [Int.ofNat_eq_natCast]; omega), cond_true]
      have il : i < ss.length := by omega
      rw [arr_at ss hl il, bindSc]
      dsimp only
      generalize hq : ss[i] = q
      rw [show [Value.bool q.1.1, Value.int .i64 q.1.2.1, Value.int .i64 q.1.2.2.1, Value.int .i64 q.1.2.2.2.1, Value.slice q.1.2.2.2.2.a q.1.2.2.2.2.n q.1.2.2.2.2.c] = scL q.1 from rfl]
      obtain ⟨h1, b1, b2, b3, b4⟩ := box_ok c0.wf 96 5 [Value.bool false, Value.int .i64 (0 : Int), Value.int .i64 (0 : Int), Value.int .i64 (0 : Int), Value.slice none 0 0] (scL q.1) rfl rfl rfl
      rw [b1]
      simp only [Option.bind_some]
      rw [b4.ldc, show asB ((scL q.1)[0]?) = some q.1.1 from rfl]
      simp only [Option.bind_some]
      have c1 := c0.then b2
      have O1 := O.stay c0.wf b2
      have tk : (ss.take (i + 1)).filter liv = (ss.take i).filter liv ++ (if liv q then [q] else []) := by
        rw [List.take_add_one, List.getElem?_eq_getElem il, hq, List.filter_append]
        congr 1
        show List.filter liv [q] = _
        cases hz : liv q with
        | true => rw [List.filter_cons_of_pos hz]; rfl
        | false => rw [List.filter_cons_of_neg (by rw [hz]; decide)]; rfl
      cases hz : q.1.1 with
      | true =>
        simp only [cond_true]
        rw [ldaIs (n := 5) b4 rfl, bindSc]
        dsimp only
        rw [show [Value.bool q.1.1, Value.int .i64 q.1.2.1, Value.int .i64 q.1.2.2.1, Value.int .i64 q.1.2.2.2.1, Value.slice q.1.2.2.2.2.a q.1.2.2.2.2.n q.1.2.2.2.2.c] = svL [q] from rfl]
        obtain ⟨y1, y2, y3⟩ := newR_ok b2.wf 96 5 (svL [q])
        have fl : ((ss.take i).filter liv).length ≤ 16 := by
          have := List.length_filter_le liv (ss.take i)
          rw [List.length_take] at this
          omega
        obtain ⟨s', h2, d1, d2, d3, d4, d5⟩ := apv_ok (by_ := 56) y1.wf (O1.stay b2.wf y1) (by decide) (SlR.of_is y3 (n := 1) rfl (by unfold unk; omega)) (by rw [sv_n O]; show (_ + 1) * 56 ≤ _; omega) (sv_one [q])
        rw [d1]
        simp only [Option.bind_some]
        rw [wrap_succ (by omega)]
        have c2 := c1.then y1
        rw [show liv q = true from hz, if_pos rfl] at tk
        refine liv_l0 k hl n (i + 1) h2 s' (by omega) (by omega) (Ch0.own c2 d2 fr) ?_ (fun b hb => (d5 b hb).elim (fr b) fun f => by have := c2.le; omega)
        rw [tk]
        unfold svL at d3 ⊢
        rw [List.map_append, List.flatten_append]; exact d3
      | false =>
        simp only [cond_false, Option.bind_some]
        rw [wrap_succ (by omega)]
        rw [show liv q = false from hz, if_neg (by decide), List.append_nil] at tk
        exact liv_l0 k hl n (i + 1) h1 s (by omega) (by omega) c1 (by rw [tk]; exact O1) fr
    · rw [decide_eq_false (show ¬ Int.ofNat i < (16 : Int) by simp only [Int.ofNat_eq_natCast]; omega), cond_false]
      rw [List.take_of_length_le (by omega)] at O
      exact ⟨s, h, rfl, c0, O, fr⟩
/-! ### intents, one behind the other -/
abbrev Id := It × List UInt8
def ivL (os : List Id) : List Value := (os.map fun o => itL o.1).flatten
theorem iv_es (os : List Id) : ∀ g ∈ os.map (fun o => itL o.1), g.length = 3 := fun g hg => by
  obtain ⟨q, _, rfl⟩ := List.mem_map.1 hg
  rfl
theorem iv_one (os : List Id) : (ivL os).all Den.one = true := by
  rw [List.all_eq_true]
  intro v hv
  obtain ⟨g, hg, hv⟩ := List.mem_flatten.1 hv
  obtain ⟨q, _, rfl⟩ := List.mem_map.1 hg
  simp only [itL, List.mem_cons, List.not_mem_nil, or_false] at hv
  rcases hv with rfl | rfl | rfl <;> rfl
theorem iv_app (a b : List Id) : ivL (a ++ b) = ivL a ++ ivL b := by unfold ivL; rw [List.map_append, List.flatten_append]
theorem iv_at {h : H} {s : Sl} {os : List Id} (O : SlR 3 h s (ivL os)) : s.n = os.length ∧ ∀ (i : Nat) (hi : i < os.length), ∃ b o, ixs 3 s.a s.n (Int.ofNat i) = some (.pointer (some ⟨b, o, none⟩)) ∧ lda 3 h (some ⟨b, o, none⟩) = some (.agg (itL os[i].1).toArray) := by
  obtain ⟨h1, h2⟩ := SlR.grp (es := 3) (gs := os.map fun o => itL o.1) O (by decide) (iv_es os)
  rw [List.length_map] at h1
  refine ⟨h1, fun i hi => ?_⟩
  obtain ⟨b, o, e1, e2⟩ := h2 i (by rw [List.length_map]; exact hi)
  rw [List.length_map] at e1
  rw [List.getElem_map] at e2
  exact ⟨b, o, by rw [h1]; exact e1, e2⟩
/-- a list of intents of one's own is made longer -/
structure IdsR (h0 h : H) (s : Sl) (os : List Id) : Prop where
  ch : Ch0 h0 h
  ow : Ow 75 3 h s (ivL os)
  fr : ∀ b, SlB s b → h0.next ≤ b
  dat : ∀ o ∈ os, SlR 1 h o.1.2.2 (byt o.2) ∧ ∀ b, SlB o.1.2.2 b → ¬ SlB s b
theorem iv_push {h0 h : H} {s : Sl} {os : List Id} (c0 : Ch0 h0 h) (O : Ow 75 3 h s (ivL os)) (fr : ∀ b, SlB s b → h0.next ≤ b) (D : ∀ o ∈ os, SlR 1 h o.1.2.2 (byt o.2) ∧ ∀ b, SlB o.1.2.2 b → ¬ SlB s b) (o : Id) (X : SlR 1 h o.1.2.2 (byt o.2)) (hX : ∀ b, SlB o.1.2.2 b → ¬ SlB s b) (hl : os.length ≤ 1000) :
    ∃ s' h', asS2 (apv 75 3 40 (Value.slice s.a s.n s.c) (Value.slice (some ⟨h.next, 0, none⟩) 1 1) (newR h 75 3 (itL o.1))) = some (s', h') ∧ IdsR h0 h' s' (os ++ [o]) ∧ Ch (SlB s) h h' ∧ ∀ b, SlB s' b → SlB s b ∨ h.next ≤ b := by
  have w := c0.wf
  obtain ⟨y1, y2, y3⟩ := newR_ok w 75 3 (itL o.1)
  obtain ⟨s', h', d1, d2, d3, d4, d5⟩ := apv_ok (by_ := 40) y1.wf (O.stay w y1) (by decide) (SlR.of_is y3 (n := 1) rfl (by unfold unk; omega)) (by rw [(iv_at O.slr).1]; show (_ + 1) * 40 ≤ _; omega) (iv_one [o])
  have c1 := c0.then y1
  have c2 : Ch (SlB s) h h' := (y1.mono fun _ _ f => f.elim).trans d2 fun _ _ f => f
  have kp : ∀ (q : Sl) (y : List UInt8), SlR 1 h q (byt y) → (∀ b, SlB q b → ¬ SlB s b) → SlR 1 h' q (byt y) ∧ ∀ b, SlB q b → ¬ SlB s' b := fun q y rq hq => ⟨rq.keep fun b hb => c2.keep b (rq.blk w hb) (hq b hb), fun b hb f => by
    rcases d5 b f with g | g
    · exact hq b hb g
    · have := rq.blk w hb; omega⟩
  refine ⟨s', h', d1, ⟨Ch0.own c1 d2 fr, by rw [iv_app]; exact d3, fun b hb => (d5 b hb).elim (fr b) fun f => by have := c1.le; omega, fun q hq => ?_⟩, c2, fun b hb => (d5 b hb).imp id fun f => by omega⟩
  rcases List.mem_append.1 hq with e | e
  · exact kp _ _ (D q e).1 (D q e).2
  · obtain rfl := List.mem_singleton.1 e
    exact kp _ _ X hX
theorem liv_l1 (k : Nat) {h0 : H} (w0 : WF h0) {sl : Sl} {lv : List Sd} (L : SlR 5 h0 sl (svL lv)) (hn5 : sl.n = lv.length) (hl : lv.length ≤ 16) (D : ∀ q ∈ lv, SlR 1 h0 q.1.2.2.2.2 (byt q.2) ∧ q.2.length ≤ 128) : ∀ n i h s os, lv.length - i < n → i ≤ lv.length → IdsR h0 h s os → os.length = i → os.map (fun o => (o.1.1, o.1.2.1, o.2)) = (lv.take i).map (fun q => (q.1.2.2.1, q.1.2.2.2.1, q.2)) →
    ∃ s' os' h', intent_Ring_Live.l1 k n sl (Int.ofNat lv.length) s (Int.ofNat i) h = some (s', h') ∧ IdsR h0 h' s' os' ∧ os'.map (fun o => (o.1.1, o.1.2.1, o.2)) = lv.map (fun q => (q.1.2.2.1, q.1.2.2.2.1, q.2))
  | 0, i, h, s, os, hn, _, _, _, _ => by omega
  | n + 1, i, h, s, os, hn, hi, R, hos, he => by
    rw [intent_Ring_Live.l1_succ]
    by_cases c : i < lv.length
    · rw [decLt c, cond_true]
      obtain ⟨g1, g2⟩ := SlR.grp (es := 5) (gs := lv.map fun q => scL q.1) (L.stay w0 R.ch) (by decide) (sv_es lv)
      obtain ⟨b, o, a1, a2⟩ := g2 i (by rw [List.length_map]; exact c)
      rw [List.length_map] at a1
      rw [List.getElem_map] at a2
      rw [hn5, a1]
      simp only [asP_ptr, Option.bind_some]
      rw [a2, bindSc]
      dsimp only
      have hD := D _ (List.getElem_mem c)
      generalize hq : lv[i] = q at hD
      rw [show [Value.bool q.1.1, Value.int .i64 q.1.2.1, Value.int .i64 q.1.2.2.1, Value.int .i64 q.1.2.2.2.1, Value.slice q.1.2.2.2.2.a q.1.2.2.2.2.n q.1.2.2.2.2.c] = scL q.1 from rfl]
      obtain ⟨h1, b1, b2, b3, b4⟩ := box_ok R.ch.wf 96 5 [Value.bool false, Value.int .i64 (0 : Int), Value.int .i64 (0 : Int), Value.int .i64 (0 : Int), Value.slice none 0 0] (scL q.1) rfl rfl rfl
      rw [b1]
      simp only [Option.bind_some]
      rw [b4.ldc, show asS ((scL q.1)[4]?) = some q.1.2.2.2.2 from asS_slv _]
      simp only [Option.bind_some]
      have c1 := R.ch.then b2
      obtain ⟨s', h2, d1, d2, d3, d4, d5⟩ := clone_f k b2.wf (hD.1.stay w0 c1) (by omega)
      rw [d1]
      simp only [Option.bind_some]
      have B2 := b4.stay b2.wf d2
      obtain ⟨h3, e1, e2, e3, e4⟩ := B2.set d2.wf 4 (slv s') (by show 4 < 5; decide) rfl
      rw [show [Value.slice s'.a s'.n s'.c] = [slv s'] from rfl, e1]
      simp only [Option.bind_some]
      rw [show (scL q.1).set 4 (slv s') = [Value.bool q.1.1, Value.int .i64 q.1.2.1] ++ itL (q.1.2.2.1, q.1.2.2.2.1, s') from rfl] at e4
      rw [e4.lda (o := 2) (n := 3) (Nat.le_refl _), show ((([Value.bool q.1.1, Value.int .i64 q.1.2.1] ++ itL (q.1.2.2.1, q.1.2.2.2.1, s')).drop 2).take 3) = itL (q.1.2.2.1, q.1.2.2.2.1, s') from rfl, bindIt]
      dsimp only
      rw [show [Value.int .i64 q.1.2.2.1, Value.int .i64 q.1.2.2.2.1, Value.slice s'.a s'.n s'.c] = itL (q.1.2.2.1, q.1.2.2.2.1, s') from rfl]
      have c12 := b2.then d2
      have hbx : h.next ≤ h.next := Nat.le_refl _
      have c3 : Ch0 h h3 := Ch0.at c12 e2 hbx
      have lh := R.ch.le
      have l1 := b2.le
      have l2 := d2.le
      have sfr : ∀ b, SlB s' b → h1.next ≤ b := fun b hb => (d5 b hb).1
      have X3 : SlR 1 h3 s' (byt q.2) := d3.slr.keep fun z hz => e2.keep z (d5 z hz).2 (by have := sfr z hz; omega)
      obtain ⟨s4, h4, f1, f2, f3, f4⟩ := iv_push (R.ch.then c3) (R.ow.stay R.ch.wf c3) R.fr (fun o' ho => ⟨(R.dat o' ho).1.stay R.ch.wf c3, (R.dat o' ho).2⟩) ((q.1.2.2.1, q.1.2.2.2.1, s'), q.2) X3 (fun z hz f => by have := sfr z hz; have := R.ow.lt R.ch.wf f; omega) (by omega)
      rw [f1]
      simp only [Option.bind_some]
      rw [wrap_succ (by omega)]
      rw [← hn5]
      rw [hn5]
      refine liv_l1 k w0 L hn5 hl D n (i + 1) h4 s4 _ (by omega) (by omega) f2 (by rw [List.length_append]; simp only [List.length_cons, List.length_nil]; omega) ?_
      rw [List.map_append, he, List.take_add_one, List.getElem?_eq_getElem c, hq, List.map_append]; rfl
    · rw [decNlt c, cond_false]
      rw [List.take_of_length_le (by omega)] at he
      exact ⟨s, os, h, rfl, R, he⟩
theorem live_f (k : Nat) (hk : 2000 < k) {h : H} (w : WF h) {rb : Nat} {W : Nat → Prop} {ss : List Sd} {next : Int} (R : RingR h rb W ss next) (hd : (ss.filter liv).Pairwise fun a b => key a ≠ key b) (hok : KOkL (ss.filter liv)) :
    ∃ s os lv h', intent_Ring_Live.f k (some ⟨rb, 0, none⟩) h = some (s, h') ∧ IdsR h h' s os ∧ List.Perm lv (ss.filter liv) ∧ Srt lv ∧ os.map (fun o => (o.1.1, o.1.2.1, o.2)) = lv.map (fun q => (q.1.2.2.1, q.1.2.2.2.1, q.2)) := by
  unfold intent_Ring_Live.f
  simp only [nilA, asP_ptr, fadd, Nat.zero_add, Option.bind_some]
  rw [ring_arr R]
  simp only [Option.bind_some]
  obtain ⟨s1, h1, a1, a2, a3, a4⟩ := liv_l0 k R.len k 0 h ⟨none, 0, 0⟩ (by omega) (by omega) (Ch.refl w) Ow.nil (fun b hb => by obtain ⟨o, q⟩ := hb; cases q)
  rw [show (0 : Int) = Int.ofNat 0 from rfl, a1]
  simp only [Option.bind_some]
  have fl : (ss.filter liv).length ≤ 16 := by
    have := List.length_filter_le liv ss
    have := R.len
    omega
  obtain ⟨lv, h2, b1, b2, b3, b4, b5⟩ := sort_f k hk a4 (ss.filter liv) hd hok fl a2 a3
  rw [b1]
  simp only [Option.bind_some]
  have ll := b4.length_eq
  obtain ⟨s3, os, h3, d1, d2, d3⟩ := liv_l1 k b2.wf b3.slr (sv_n b3) (by omega) (fun q hq => by
    have hm := (List.mem_filter.1 (b4.mem_iff.1 hq)).1
    exact ⟨(R.dat q hm).1.stay w b2, (R.dat q hm).2⟩) k 0 h2 ⟨none, 0, 0⟩ [] (by omega) (Nat.zero_le _) ⟨Ch.refl b2.wf, Ow.nil, (fun b hb => by obtain ⟨o, q⟩ := hb; cases q), fun o ho => by cases ho⟩ rfl rfl
  rw [sv_n b3, d1]
  exact ⟨s3, os, lv, h3, rfl, ⟨b2.then d2.ch, d2.ow, fun b hb => Nat.le_trans b2.le (d2.fr b hb), d2.dat⟩, b4, b5, d3⟩
end Go.Proofs.Ytbegaeohggkblaa.Fw
