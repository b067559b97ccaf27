/- PlatterKeeps: maps of what may stand. No condition. -/
import Derived.Test.YtbegaeohggkblaaFwPlat2
namespace Go.Proofs.Ytbegaeohggkblaa.Fw
open Go Den Fwd
set_option linter.unusedVariables false
set_option linter.unusedSimpArgs false
/-- six maps, of bytes that may stand: the row at A, the maps in blocks of m -/
structure MayR (h : H) (A : Nat) (m : Nat → Nat) (may : Nat → Int → Bool) : Prop where
  row : ∃ l, Is h A 45 6 l ∧ l.length = 6 ∧ ∀ q, q < 6 → l[q]? = some (.map (some (m q)))
  maps : ∀ q, q < 6 → ∃ D, MapI .u8 h (m q) D ∧ ∀ n, D n = if may q n then some (.bool true) else none

theorem keeps_l0 (k : Nat) {h0 : H} (w0 : WF h0) (a0 a2 : Sl) (a1 : Int) (pp : Option Addr) (A : Nat) (hA : A < h0.next) : ∀ n j h l (m : Nat → Nat), 6 - j < n → j ≤ 6 → Ch (fun b => b = A) h0 h → Is h A 45 6 l → l.length = 6 → (∀ q, q < j → l[q]? = some (.map (some (m q))) ∧ h0.next ≤ m q ∧ MapI .u8 h (m q) (fun n => if n = 0 then some (.bool true) else none)) → (∀ q r, q < j → r < j → m q = m r → q = r) →
    ∃ (h' : H) (m' : Nat → Nat), corbellaw7_PlatterKeeps.l0 k n a0 a1 a2 pp (some ⟨A, 0, none⟩) (Int.ofNat j) h = some ((), h') ∧ Ch (fun b => b = A) h0 h' ∧ (∃ l, Is h' A 45 6 l ∧ l.length = 6 ∧ ∀ q, q < 6 → l[q]? = some (.map (some (m' q)))) ∧ (∀ q, q < 6 → h0.next ≤ m' q ∧ MapI .u8 h' (m' q) (fun n => if n = 0 then some (.bool true) else none)) ∧ (∀ q r, q < 6 → r < 6 → m' q = m' r → q = r)
  | 0, j, h, l, m, hn, _, _, _, _, _, _ => by omega
  | n + 1, j, h, l, m, hn, hj, hc, I, hl, hq, hi => by
    rw [corbellaw7_PlatterKeeps.l0_succ]
    by_cases c : j < 6
    · rw [decide_eq_true (show Int.ofNat j < (6 : Int) by simp; omega), cond_true]
      obtain ⟨n1, n2, n3⟩ := newMap_ok .u8 hc.wf
      obtain ⟨h2, e1, e2, e3, e4⟩ := mput_ok n1.wf n3 0 (.bool true)
      rw [e1]
      simp only [Option.bind_some]
      have le0 := hc.le
      have Al : A < h.next := by omega
      have I2 := (I.keep (n1.keep A Al fun f => f)).keep (e2.keep A (by omega) (by omega))
      rw [show ixs 1 (some ⟨A, 0, none⟩) 6 (Int.ofNat j) = some (.pointer (some ⟨A, 0 + j * 1, none⟩)) from cond_eta _ _ _ (Nat.ble_eq_true_of_le c)]
      obtain ⟨h3, u1, u2, u3, u4⟩ := stv_ok e2.wf I2 (o := 0 + j * 1) [.map (some h.next)] (by rw [hl]; simp only [List.length_cons, List.length_nil]; omega) rfl
      rw [show ([Value.map (some h.next)] : List Value).length = 1 from rfl] at u1
      simp only [asP_ptr, Option.bind_some, u1]
      rw [wrap_succ (by omega)]
      have k3 : ∀ b, b < h.next → b ≠ A → h3.get b = h.get b := fun b hb hA => (u2.keep b (by omega) hA).trans ((e2.keep b (by omega) (by omega)).trans (n1.keep b hb fun f => f))
      rw [Nat.zero_add, Nat.mul_one] at u4
      have hlen : (over l j [Value.map (some h.next)]).length = 6 := by rw [over_len (by rw [hl]; simp only [List.length_cons, List.length_nil]; omega)]; exact hl
      refine keeps_l0 k w0 a0 a2 a1 pp A hA n (j + 1) h3 _ (fun q => if q = j then h.next else m q) (by omega) (by omega) ⟨u2.wf, by omega, fun b hb hA => (k3 b (by omega) hA).trans (hc.keep b hb hA)⟩ u4 hlen (fun q hq' => ?_) (fun q r hq' hr' e => ?_)
      · rw [over_get (by rw [hl]; simp only [List.length_cons, List.length_nil]; omega)]
        by_cases d : q = j
        · subst d
          rw [if_pos ⟨Nat.le_refl _, by simp⟩, Nat.sub_self, if_pos rfl]
          exact ⟨rfl, by omega, e4.keep (u2.keep h.next (by omega) (by omega))⟩
        · rw [if_neg (by simp; omega), if_neg d]
          obtain ⟨x1, x2, x3⟩ := hq q (by omega)
          exact ⟨x1, x2, x3.keep (k3 _ (x3.lt hc.wf) (by omega))⟩
      · have lt : ∀ q, q < j → m q < h.next := fun q hq'' => (hq q hq'').2.2.lt hc.wf
        by_cases d : q = j <;> by_cases d2 : r = j
        · omega
        · simp only [d, d2, if_true, if_false] at e; have := lt r (by omega); omega
        · simp only [d, d2, if_true, if_false] at e; have := lt q (by omega); omega
        · simp only [d, d2, if_false] at e; exact hi q r (by omega) (by omega) e
    · rw [decide_eq_false (show ¬ Int.ofNat j < (6 : Int) by simp; omega), cond_false]
      have : j = 6 := by omega
      subst this
      exact ⟨h, m, rfl, hc, ⟨l, I, hl, fun q hq' => (hq q hq').1⟩, fun q hq' => ⟨(hq q hq').2.1, (hq q hq').2.2⟩, hi⟩
theorem keeps_l2 (k : Nat) {h0 : H} (w0 : WF h0) (a0 a2 : Sl) (a1 mn ii : Int) (pp : Option Addr) (A Lb : Nat) (hA : A < h0.next) (hLA : Lb ≠ A) (lv : Nat → Int) (ll : List Value) (hL : Is h0 Lb 46 6 ll) (hll : ∀ q, q < 6 → ll[q]? = some (.int .u8 (lv q))) : ∀ n j h l (m : Nat → Nat), 6 - j < n → j ≤ 6 → Ch (fun b => b = A) h0 h → Is h A 45 6 l → l.length = 6 → (∀ q, q < j → l[q]? = some (.map (some (m q))) ∧ h0.next ≤ m q ∧ MapI .u8 h (m q) (fun n => if n = lv q then some (.bool true) else none)) → (∀ q r, q < j → r < j → m q = m r → q = r) →
    ∃ (h' : H) (m' : Nat → Nat), corbellaw7_PlatterKeeps.l2 k n a0 a1 a2 pp (some ⟨A, 0, none⟩) mn (some ⟨Lb, 0, none⟩) ii (Int.ofNat j) h = some ((), h') ∧ Ch (fun b => b = A) h0 h' ∧ (∃ l, Is h' A 45 6 l ∧ l.length = 6 ∧ ∀ q, q < 6 → l[q]? = some (.map (some (m' q)))) ∧ (∀ q, q < 6 → h0.next ≤ m' q ∧ MapI .u8 h' (m' q) (fun n => if n = lv q then some (.bool true) else none)) ∧ (∀ q r, q < 6 → r < 6 → m' q = m' r → q = r)
  | 0, j, h, l, m, hn, _, _, _, _, _, _ => by omega
  | n + 1, j, h, l, m, hn, hj, hc, I, hl, hq, hi => by
    rw [corbellaw7_PlatterKeeps.l2_succ]
    by_cases c : j < 6
    · rw [decide_eq_true (show Int.ofNat j < (6 : Int) by simp; omega), cond_true]
      obtain ⟨n1, n2, n3⟩ := newMap_ok .u8 hc.wf
      have L1 := (hL.keep (hc.keep Lb (hL.lt w0) hLA)).keep (n1.keep Lb (Nat.lt_of_lt_of_le (hL.lt w0) hc.le) fun f => f)
      rw [show ixs 1 (some ⟨Lb, 0, none⟩) 6 (Int.ofNat j) = some (.pointer (some ⟨Lb, 0 + j * 1, none⟩)) from cond_eta _ _ _ (Nat.ble_eq_true_of_le c)]
      simp only [asP_ptr, Option.bind_some, L1.ldc]
      rw [Nat.zero_add, Nat.mul_one, hll j c]
      simp only [asI_int, Option.bind_some]
      obtain ⟨h2, e1, e2, e3, e4⟩ := mput_ok n1.wf n3 (lv j) (.bool true)
      rw [e1]
      simp only [Option.bind_some]
      have le0 := hc.le
      have Al : A < h.next := by omega
      have I2 := (I.keep (n1.keep A Al fun f => f)).keep (e2.keep A (by omega) (by omega))
      rw [show ixs 1 (some ⟨A, 0, none⟩) 6 (Int.ofNat j) = some (.pointer (some ⟨A, 0 + j * 1, none⟩)) from cond_eta _ _ _ (Nat.ble_eq_true_of_le c)]
      obtain ⟨h3, u1, u2, u3, u4⟩ := stv_ok e2.wf I2 (o := 0 + j * 1) [.map (some h.next)] (by rw [hl]; simp only [List.length_cons, List.length_nil]; omega) rfl
      rw [show ([Value.map (some h.next)] : List Value).length = 1 from rfl] at u1
      simp only [asP_ptr, Option.bind_some, u1]
      rw [wrap_succ (by omega)]
      have k3 : ∀ b, b < h.next → b ≠ A → h3.get b = h.get b := fun b hb hA => (u2.keep b (by omega) hA).trans ((e2.keep b (by omega) (by omega)).trans (n1.keep b hb fun f => f))
      rw [Nat.zero_add, Nat.mul_one] at u4
      have hlen : (over l j [Value.map (some h.next)]).length = 6 := by rw [over_len (by rw [hl]; simp only [List.length_cons, List.length_nil]; omega)]; exact hl
      refine keeps_l2 k w0 a0 a2 a1 mn ii pp A Lb hA hLA lv ll hL hll n (j + 1) h3 _ (fun q => if q = j then h.next else m q) (by omega) (by omega) ⟨u2.wf, by omega, fun b hb hA => (k3 b (by omega) hA).trans (hc.keep b hb hA)⟩ u4 hlen (fun q hq' => ?_) (fun q r hq' hr' e => ?_)
      · rw [over_get (by rw [hl]; simp only [List.length_cons, List.length_nil]; omega)]
        by_cases d : q = j
        · subst d
          rw [if_pos ⟨Nat.le_refl _, by simp⟩, Nat.sub_self, if_pos rfl]
          exact ⟨rfl, by omega, e4.keep (u2.keep h.next (by omega) (by omega))⟩
        · rw [if_neg (by simp; omega), if_neg d]
          obtain ⟨x1, x2, x3⟩ := hq q (by omega)
          exact ⟨x1, x2, x3.keep (k3 _ (x3.lt hc.wf) (by omega))⟩
      · have lt : ∀ q, q < j → m q < h.next := fun q hq'' => (hq q hq'').2.2.lt hc.wf
        by_cases d : q = j <;> by_cases d2 : r = j
        · omega
        · simp only [d, d2, if_true, if_false] at e; have := lt r (by omega); omega
        · simp only [d, d2, if_true, if_false] at e; have := lt q (by omega); omega
        · simp only [d, d2, if_false] at e; exact hi q r (by omega) (by omega) e
    · rw [decide_eq_false (show ¬ Int.ofNat j < (6 : Int) by simp; omega), cond_false]
      have : j = 6 := by omega
      subst this
      exact ⟨h, m, rfl, hc, ⟨l, I, hl, fun q hq' => (hq q hq').1⟩, fun q hq' => ⟨(hq q hq').2.1, (hq q hq').2.2⟩, hi⟩

/-- each block is of one byte that it may have -/
def MayD (may : Nat → Int → Bool) (d : List (List UInt8)) : Prop := d.length = 6 ∧ ∀ q, q < 6 → ∃ c : Int, 0 ≤ c ∧ c < 256 ∧ may q c = true ∧ d[q]? = some (allb c)
def MayP (may : Nat → Int → Bool) (l : List (Int × List UInt8)) : Prop := ∀ x ∈ l, ∃ q : Nat, q < 6 ∧ x.1 = Int.ofNat q ∧ ∃ c : Int, 0 ≤ c ∧ c < 256 ∧ may q c = true ∧ x.2 = allb c
theorem MayD.set {may : Nat → Int → Bool} {d : List (List UInt8)} (r : MayD may d) {q : Nat} (hq : q < 6) {c : Int} (h0 : 0 ≤ c) (h1 : c < 256) (hm : may q c = true) : MayD may (d.set q (allb c)) := by
  refine ⟨by simp [r.1], fun p hp => ?_⟩
  by_cases e : p = q
  · subst e; exact ⟨c, h0, h1, hm, by rw [List.getElem?_set_self (by rw [r.1]; exact hp)]⟩
  · obtain ⟨c', k0, k1, k2, k3⟩ := r.2 p hp
    exact ⟨c', k0, k1, k2, by rw [List.getElem?_set_ne (by omega)]; exact k3⟩
theorem MayD.crash {may : Nat → Int → Bool} (keep : List Int) : ∀ (l : List (Int × List UInt8)) (i : Nat) (d : List (List UInt8)), MayD may d → MayP may l → MayD may (crashD keep i l d)
  | [], _, _, h, _ => h
  | x :: l, i, d, h, hp => by
    rw [crashD]
    refine MayD.crash keep l (i + 1) _ ?_ fun y hy => hp y (List.mem_cons_of_mem _ hy)
    split
    · obtain ⟨q, h1, h2, c, h3, h4, h5, h6⟩ := hp x List.mem_cons_self
      rw [h2, h6]
      exact h.set h1 h3 h4 h5
    · exact h

structure KI (h0 h : H) (p A Lb : Nat) (m : Nat → Nat) (may : Nat → Int → Bool) (last : Nat → Int) (M C : Nat → Prop) (st : Plat) (i : Nat) : Prop where
  ch : Ch (fun _ => False) h0 h
  pl : PlatR h p M C st
  nl : st.now.length = 6
  nw : ∀ q, q < 6 → st.now[q]? = some (allb (last q))
  pn : st.pend.length ≤ i
  wr : st.writes = Int.ofNat i
  row : ∃ l, Is h A 45 6 l ∧ l.length = 6 ∧ ∀ q, q < 6 → l[q]? = some (.map (some (m q)))
  maps : ∀ q, q < 6 → ∃ D, MapI .u8 h (m q) D ∧ ∀ n, D n = if may q n then some (.bool true) else none
  inj : ∀ q r, q < 6 → r < 6 → m q = m r → q = r
  la : ∃ l, Is h Lb 46 6 l ∧ l.length = 6 ∧ ∀ q, q < 6 → l[q]? = some (.int .u8 (last q))
  da : h0.next ≤ A ∧ h0.next ≤ Lb ∧ A ≠ Lb ∧ ¬ M A ∧ ¬ C A ∧ ¬ M Lb ∧ ¬ C Lb
  dm : ∀ q, q < 6 → h0.next ≤ m q ∧ m q ≠ A ∧ m q ≠ Lb ∧ ¬ M (m q) ∧ ¬ C (m q)
  mn : ∀ b, M b → h0.next ≤ b
  cn : ∀ b, C b → h0.next ≤ b
  md : MayD may st.done
  mp : MayP may st.pend
  ml : ∀ q, q < 6 → may q (last q) = true ∧ 0 ≤ last q ∧ last q < 256

theorem KI.flush (k : Nat) (hk : 1000 < k) {h0 h : H} {p A Lb : Nat} {m : Nat → Nat} {may : Nat → Int → Bool} {last : Nat → Int} {M C : Nat → Prop} {st : Plat} {i : Nat} (I : KI h0 h p A Lb m may last M C st i) (a0 a2 : Sl) (a1 mn ii : Int) :
    ∃ h' m' may' M' st', ((platter_Platter_Flush.f k (some ⟨p, 0, none⟩) h).bind fun q41 => (corbellaw7_PlatterKeeps.l2 k k a0 a1 a2 (some ⟨p, 0, none⟩) (some ⟨A, 0, none⟩) mn (some ⟨Lb, 0, none⟩) ii (0 : Int) q41.2).bind fun w57 => some ((), w57.2)) = some ((), h') ∧ KI h0 h' p A Lb m' may' last M' C st' i := by
  obtain ⟨h1, M1, a, b, c, d⟩ := flush_f k I.ch.wf I.pl (by rw [I.nl]; decide)
  rw [a]
  simp only [Option.bind_some]
  obtain ⟨lA, A1, A2, A3⟩ := I.row
  obtain ⟨lL, L1, L2, L3⟩ := I.la
  obtain ⟨g1, g2, g3, g4, g5, g6, g7⟩ := I.da
  have At := A1.lt I.ch.wf
  have Lt := L1.lt I.ch.wf
  have le1 := b.le
  have le0 := I.ch.le
  obtain ⟨h2, m2, e1, e2, e3, e4, e5⟩ := keeps_l2 k b.wf a0 a2 a1 mn ii (some ⟨p, 0, none⟩) A Lb (by omega) (fun e => g3 e.symm) last lL (L1.keep (b.keep Lb Lt g6)) L3 k 0 h1 lA m (by omega) (Nat.zero_le _) (Ch.refl b.wf) (A1.keep (b.keep A At g4)) A2 (fun q hq => by omega) (fun q r hq => by omega)
  rw [show (0 : Int) = Int.ofNat 0 from rfl, e1]
  simp only [Option.bind_some]
  have c02 : Ch (fun _ => False) h0 h2 := ⟨e2.wf, by have := e2.le; omega, fun x hx _ => (e2.keep x (by omega) (by omega)).trans ((b.keep x (by omega) fun f => by have := I.mn x f; omega).trans (I.ch.keep x hx fun f => f))⟩
  have m1A : ¬ M1 A := fun f => (d A f).elim g4 (by omega)
  have m1L : ¬ M1 Lb := fun f => (d Lb f).elim g6 (by omega)
  refine ⟨h2, m2, fun q n => decide (n = last q), M1, _, rfl, ⟨c02, c.keep e2 fun x hx => by subst hx; exact ⟨m1A, g5⟩, I.nl, I.nw, Nat.zero_le _, I.wr, e3, fun q hq => ⟨_, (e4 q hq).2, fun n => by by_cases f : n = last q <;> simp [f]⟩, e5,
    ⟨lL, (L1.keep (b.keep Lb Lt g6)).keep (e2.keep Lb (by omega) (fun e => g3 e.symm)), L2, L3⟩, ⟨g1, g2, g3, m1A, g5, m1L, g7⟩, fun q hq => ?_, fun x hx => ?_, I.cn, ⟨I.nl, fun q hq => ⟨last q, (I.ml q hq).2.1, (I.ml q hq).2.2, by simp, I.nw q hq⟩⟩, fun x hx => (by cases hx), fun q hq => ⟨by simp, (I.ml q hq).2⟩⟩⟩
  · have h3 := (e4 q hq).1
    refine ⟨by omega, by omega, by omega, fun f => ?_, fun f => ?_⟩
    · have := c.mlt _ f; omega
    · have := c.clt _ f; omega
  · rcases d x hx with f | f
    · exact I.mn x f
    · omega
theorem keeps_l1 (k : Nat) (hk : 1000 < k) {h0 : H} (w0 : WF h0) {s : Sl} {ls : List (List Value)} (rs : SlR 4 h0 s ls.flatten) (hln : ls.length = s.n) (hl4 : ∀ l ∈ ls, l.length = 4) (hsb : ∀ b, SlB s b → b < h0.next) (K N : Nat → Int) (hKN : ∀ (i : Nat) (l : List Value), ls[i]? = some l → l[1]? = some (.int .i64 (K i)) ∧ l[2]? = some (.int .i64 (N i)))
    (fl : Int) (a2 : Sl) (p A Lb T : Nat) (hT : T ≤ s.n) (hT2 : T ≤ 30) : ∀ n i h m may last M C st, T - i < n → i ≤ T → KI h0 h p A Lb m may last M C st i →
    ∃ h' m' may' last' M' C' st', corbellaw7_PlatterKeeps.l1 k n s fl a2 (some ⟨p, 0, none⟩) (some ⟨A, 0, none⟩) (Int.ofNat T) (some ⟨Lb, 0, none⟩) (Int.ofNat i) h = some (.inr (), h') ∧ KI h0 h' p A Lb m' may' last' M' C' st' T
  | 0, i, h, m, may, last, M, C, st, hn, _, _ => by omega
  | n + 1, i, h, m, may, last, M, C, st, hn, hi, I => by
    rw [corbellaw7_PlatterKeeps.l1_succ]
    by_cases c : i < T
    · rw [decide_eq_true (show Int.ofNat i < Int.ofNat T by simp; omega), cond_true]
      have rs' := rs.keep (h' := h) fun b hb => I.ch.keep b (hsb b hb) fun f => f
      have hil : i < ls.length := by omega
      obtain ⟨kn1, kn2⟩ := hKN i _ (List.getElem?_eq_getElem hil)
      obtain ⟨b, o, x1, x2⟩ := rs'.cellOf (by decide) hl4 (List.getElem?_eq_getElem hil) (j := 1) (by decide) (by omega)
      obtain ⟨b', o', x3, x4⟩ := rs'.cellOf (by decide) hl4 (List.getElem?_eq_getElem hil) (j := 2) (by decide) (by omega)
      rw [x1] at x3
      cases x3
      rw [kn1] at x2
      rw [kn2] at x4
      rw [x1]
      simp only [asP_ptr, Option.bind_some, fadd, x2, asI_int]
      rw [pick_f k _ 6 h (by decide) (by decide)]
      simp only [Option.bind_some, x4, asI_int]
      rw [pick_f k _ 250 h (by decide) (by decide)]
      simp only [Option.bind_some]
      obtain ⟨q, hq⟩ : ∃ q : Nat, K i % 6 = Int.ofNat q := ⟨(K i % 6).toNat, (Int.toNat_of_nonneg (Int.emod_nonneg _ (by decide))).symm⟩
      have hq6 : q < 6 := by have := Int.emod_lt_of_pos (K i) (show (0 : Int) < 6 by decide); rw [hq] at this; simp at this; omega
      have n1 := Int.emod_lt_of_pos (N i) (show (0 : Int) < 250 by decide)
      have n0 := Int.emod_nonneg (N i) (show (250 : Int) ≠ 0 by decide)
      rw [hq, wrap_in (n := 1 + N i % 250) (by omega) (by omega)]
      generalize hc : 1 + N i % 250 = c0
      have c1 : 0 ≤ c0 := by omega
      have c2 : c0 < 256 := by omega
      rw [wrap_u8_in c1 c2, wrap_in (n := c0) (by omega) (by omega)]
      obtain ⟨h1, a1, a2', a3, a4⟩ := all_f k hk c0 I.ch.wf
      rw [a1]
      simp only [Option.bind_some]
      have pl1 := I.pl.keep a2' fun b f => f.elim
      obtain ⟨h2, M2, C2, b1, b2, b3, b4, b5⟩ := write_f k a2'.wf pl1 (i := q) (by rw [I.nl]; exact hq6) a4.slr List.length_replicate (by have := I.pn; omega) (by rw [I.wr]; simp; omega)
      rw [b1]
      simp only [Option.bind_some, Bool.not_true, cond_false]
      have le0 := I.ch.le
      have le1 := a2'.le
      have le2 := b2.le
      obtain ⟨g1, g2, g3, g4, g5, g6, g7⟩ := I.da
      obtain ⟨lA, A1, A2, A3⟩ := I.row
      obtain ⟨lL, L1, L2, L3⟩ := I.la
      have At := A1.lt I.ch.wf
      have Lt := L1.lt I.ch.wf
      have c02 : Ch M h h2 := (a2'.mono fun _ _ f => f.elim).trans b2 fun _ _ f => f
      rw [show ixs 1 (some ⟨A, 0, none⟩) 6 (Int.ofNat q) = some (.pointer (some ⟨A, 0 + q * 1, none⟩)) from cond_eta _ _ _ (Nat.ble_eq_true_of_le hq6)]
      have A1' := A1.keep (c02.keep A At g4)
      simp only [asP_ptr, Option.bind_some, A1'.ldc]
      rw [Nat.zero_add, Nat.mul_one, A3 q hq6]
      rw [show asM (some (Value.map (some (m q)))) = some (some (m q)) from rfl]
      simp only [Option.bind_some]
      obtain ⟨D, D1, D2⟩ := I.maps q hq6
      obtain ⟨dm1, dm2, dm3, dm4, dm5⟩ := I.dm q hq6
      have mlt : ∀ r, r < 6 → m r < h.next := fun r hr => by obtain ⟨D, D1, _⟩ := I.maps r hr; exact D1.lt I.ch.wf
      obtain ⟨h3, e1, e2, e3, e4⟩ := mput_ok b2.wf (D1.keep (c02.keep _ (mlt q hq6) dm4)) c0 (.bool true)
      rw [e1]
      simp only [Option.bind_some]
      rw [show ixs 1 (some ⟨Lb, 0, none⟩) 6 (Int.ofNat q) = some (.pointer (some ⟨Lb, 0 + q * 1, none⟩)) from cond_eta _ _ _ (Nat.ble_eq_true_of_le hq6)]
      have L1' := (L1.keep (c02.keep Lb Lt g6)).keep (e2.keep Lb (by omega) (fun e => dm3 e.symm))
      obtain ⟨h4, u1, u2, u3, u4⟩ := stv_ok e2.wf L1' (o := 0 + q * 1) [.int .u8 c0] (by rw [L2]; simp only [List.length_cons, List.length_nil]; omega) rfl
      rw [show ([Value.int .u8 c0] : List Value).length = 1 from rfl] at u1
      simp only [asP_ptr, Option.bind_some, u1]
      rw [wrap_succ (by omega)]
      have k4 : ∀ x, x < h2.next → x ≠ m q → x ≠ Lb → h4.get x = h2.get x := fun x hx hm hl => (u2.keep x (by omega) hl).trans (e2.keep x hx hm)
      have m2A : ∀ x, x < h.next → ¬ M x → ¬ M2 x := fun x hx hm f => (b4 x f).elim hm (by omega)
      have c2A : ∀ x, x < h.next → ¬ C x → ¬ C2 x := fun x hx hm f => (b5 x f).elim hm (by omega)
      have c04 : Ch (fun x => x = m q ∨ x = Lb) h2 h4 := ⟨u2.wf, by omega, fun x hx hf => k4 x hx (fun e => hf (.inl e)) fun e => hf (.inr e)⟩
      have mn2 : ∀ x, M2 x → h0.next ≤ x := fun x hx => (b4 x hx).elim (I.mn x) (by omega)
      have cn2 : ∀ x, C2 x → h0.next ≤ x := fun x hx => (b5 x hx).elim (I.cn x) (by omega)
      have I4 : KI h0 h4 p A Lb m (fun r n => if r = q ∧ n = c0 then true else may r n) (fun r => if r = q then c0 else last r) M2 C2 ⟨st.done, st.now.set q (allb c0), st.pend ++ [(Int.ofNat q, allb c0)], st.writes + 1⟩ (i + 1) := by
        refine ⟨⟨u2.wf, by omega, fun x hx _ => ?_⟩, b3.keep c04 ?_, ?_, ?_, ?_, ?_, ⟨lA, A1'.keep (k4 A (by omega) (fun e => dm2 e.symm) g3), A2, A3⟩, ?_, I.inj, ⟨_, u4, ?_, ?_⟩, ⟨g1, g2, g3, m2A A At g4, c2A A At g5, m2A Lb Lt g6, c2A Lb Lt g7⟩, ?_, mn2, cn2, ?_, ?_, ?_⟩
        · exact (k4 x (by omega) (by omega) (by omega)).trans ((c02.keep x (by omega) fun f => by have := I.mn x f; omega).trans (I.ch.keep x hx fun f => f))
        · rintro x (rfl | rfl)
          · exact ⟨m2A _ (mlt q hq6) dm4, c2A _ (mlt q hq6) dm5⟩
          · exact ⟨m2A _ Lt g6, c2A _ Lt g7⟩
        · simp [I.nl]
        · intro r hr
          show (st.now.set q (allb c0))[r]? = _
          by_cases e : r = q
          · subst e; rw [if_pos rfl, List.getElem?_set_self (by rw [I.nl]; exact hr)]
          · rw [if_neg e, List.getElem?_set_ne (fun f => e f.symm)]; exact I.nw r hr
        · show (st.pend ++ _).length ≤ _
          have := I.pn
          simp; omega
        · show st.writes + 1 = _
          rw [I.wr]; rfl
        · intro r hr
          by_cases e : r = q
          · subst e
            refine ⟨_, e4.keep (u2.keep _ (by have := mlt r hr; omega) dm3), fun n => ?_⟩
            by_cases f : n = c0
            · subst f; simp
            · have := D2 n
              simp [f, this]
          · obtain ⟨D', E1, E2⟩ := I.maps r hr
            obtain ⟨t1, t2, t3, t4, t5⟩ := I.dm r hr
            refine ⟨D', E1.keep ((k4 _ (by have := mlt r hr; omega) (fun f => e (I.inj r q hr hq6 f)) t3).trans (c02.keep _ (mlt r hr) t4)), fun n => ?_⟩
            rw [E2 n]; simp [e]
        · rw [over_len (by rw [L2]; simp only [List.length_cons, List.length_nil]; omega)]; exact L2
        · intro r hr
          rw [over_get (by rw [L2]; simp only [List.length_cons, List.length_nil]; omega)]
          by_cases e : r = q
          · subst e
            rw [if_pos ⟨by omega, by simp⟩, if_pos rfl, show r - (0 + r * 1) = 0 by omega]; rfl
          · rw [if_neg (by simp; omega), if_neg e]; exact L3 r hr
        · intro r hr
          obtain ⟨t1, t2, t3, t4, t5⟩ := I.dm r hr
          exact ⟨t1, t2, t3, m2A _ (mlt r hr) t4, c2A _ (mlt r hr) t5⟩
        · refine ⟨I.md.1, fun r hr => ?_⟩
          obtain ⟨d, d0, d1, d2, d3⟩ := I.md.2 r hr
          exact ⟨d, d0, d1, by simp [d2], d3⟩
        · intro x hx
          rcases List.mem_append.1 hx with f | f
          · obtain ⟨r, hr, r1, d, d0, d1, d2, d3⟩ := I.mp x f
            exact ⟨r, hr, r1, d, d0, d1, by simp [d2], d3⟩
          · rw [List.mem_singleton.1 f]
            exact ⟨q, hq6, rfl, c0, c1, c2, by simp, rfl⟩
        · intro r hr
          by_cases e : r = q
          · subst e; simp [c1, c2]
          · obtain ⟨t1, t2⟩ := I.ml r hr
            simp [e, t1, t2]
      cases hfl : (Int.ofNat (i + 1) == fl) with
      | false =>
        simp only [cond_false, Option.bind_some]
        exact keeps_l1 k hk w0 rs hln hl4 hsb K N hKN fl a2 p A Lb T hT hT2 n (i + 1) h4 m _ _ M2 C2 _ (by omega) (by omega) I4
      | true =>
        obtain ⟨h5, m5, may5, M5, st5, f1, f2⟩ := I4.flush k hk s a2 fl (Int.ofNat T) (Int.ofNat i)
        simp only [cond_true]
        rw [f1]
        simp only [Option.bind_some]
        exact keeps_l1 k hk w0 rs hln hl4 hsb K N hKN fl a2 p A Lb T hT hT2 n (i + 1) h5 m5 may5 _ M5 C2 st5 (by omega) (by omega) f2
    · rw [decide_eq_false (show ¬ Int.ofNat i < Int.ofNat T by simp; omega), cond_false]
      have : i = T := by omega
      subst this
      exact ⟨h, m, may, last, M, C, st, rfl, I⟩

theorem keeps_l3 (k : Nat) (hk : 1000 < k) {h0 : H} {p A : Nat} {M C : Nat → Prop} {st : Plat} {m : Nat → Nat} {may : Nat → Int → Bool} (hM : ¬ M A) (hnow : MayD may st.now) : ∀ n j h, 6 - j < n → j ≤ 6 → Ch (fun _ => False) h0 h → PlatR h p M C st → (∃ l, Is h A 45 6 l ∧ l.length = 6 ∧ ∀ q, q < 6 → l[q]? = some (.map (some (m q)))) → (∀ q, q < 6 → ∃ D, MapI .u8 h (m q) D ∧ ∀ n, D n = if may q n then some (.bool true) else none) →
    ∃ h', corbellaw7_PlatterKeeps.l3 k n (some ⟨p, 0, none⟩) (some ⟨A, 0, none⟩) (Int.ofNat j) h = some (.inr (), h') ∧ Ch (fun _ => False) h0 h' ∧ PlatR h' p M C st
  | 0, j, h, hn, _, _, _, _, _ => by omega
  | n + 1, j, h, hn, hj, hc, hp, hA, hm => by
    rw [corbellaw7_PlatterKeeps.l3_succ]
    by_cases c : j < 6
    · rw [decide_eq_true (show Int.ofNat j < (6 : Int) by simp; omega), cond_true]
      obtain ⟨d, d0, d1, d2, hx⟩ := hnow.2 j c
      obtain ⟨s1, h1, a1, a2, a3, a4, a5⟩ := read_f k hc.wf hp hx (by show (List.replicate 160 _).length ≤ _; rw [List.length_replicate]; decide)
      rw [a1]
      have hl : (allb d).length = 160 := List.length_replicate
      rw [hl] at a4
      simp only [Option.bind_some, Bool.not_true, cond_false, a4]
      rw [show ((Int.ofNat 160 != (160 : Int)) = false) from rfl, cond_false]
      rw [show ixs 1 (some ⟨A, 0, none⟩) 6 (Int.ofNat j) = some (.pointer (some ⟨A, 0 + j * 1, none⟩)) from cond_eta _ _ _ (Nat.ble_eq_true_of_le c)]
      obtain ⟨lA, A1, A2, A3⟩ := hA
      have A1' := A1.keep (a2.keep A (A1.lt hc.wf) fun f => f)
      simp only [asP_ptr, Option.bind_some, A1'.ldc]
      rw [Nat.zero_add, Nat.mul_one, A3 j c]
      rw [show asM (some (Value.map (some (m j)))) = some (some (m j)) from rfl]
      simp only [Option.bind_some]
      obtain ⟨pp, e1, e2⟩ := a3.slr.elem1 (j := 0) (by omega)
      rw [show (160 : Nat) = s1.n from a4.symm, show (0 : Int) = Int.ofNat 0 from rfl, e1]
      simp only [asP_ptr, Option.bind_some, e2]
      have hb0 : (byt (allb d))[0]? = some (.int .u8 d) := by
        rw [byt_get]
        have : (allb d)[0]? = some (u8 d) := by unfold allb; rw [List.getElem?_replicate]; rfl
        rw [this]
        have := wrap_u8 d
        rw [wrap_u8_in d0 d1] at this
        rw [Option.map_some, ← this]
      rw [hb0]
      simp only [asI_int, Option.bind_some]
      obtain ⟨D, D1, D2⟩ := hm j c
      rw [mlook_ok (D1.keep (a2.keep _ (D1.lt hc.wf) fun f => f)), D2, d2]
      simp only [if_true, Option.getD_some]
      rw [show asB (some (Value.bool true)) = some true from rfl]
      simp only [Option.bind_some, Bool.not_true, cond_false]
      rw [show s1.n = s1.n from rfl, txt_ok a3.slr]
      simp only [asT, Option.bind_some, e2, hb0, asI_int]
      rw [wrap_in (n := d) (by omega) (by omega)]
      obtain ⟨h2, b1, b2, b3, b4⟩ := all_f k hk d a2.wf
      rw [b1]
      simp only [Option.bind_some]
      rw [show txt h2 (Value.slice (some ⟨h1.next, 0, none⟩) 160 160) = _ from txt_ok b4.slr]
      simp only [Option.bind_some]
      obtain ⟨b, bn, bc, f1, f2, f3⟩ := Ow.pos a3 (by
        intro e
        have := congrArg List.length e
        rw [byt_len, hl] at this; cases this)
      have hdyn : dynL [(18, 24), (19, 24)] (([] ++ []) ++ ([(18, none)] ++ [(19, blkOf (some (Value.slice s1.a s1.n s1.c)))])) (([] ++ []) ++ [(24, h1, h2)]) = true := by
        rw [f1]
        have hb : sameVer h1 h2 b = true := sameVer_of (b2.keep b (f3.lt a2.wf) fun f => f)
        simp [dynL, blkOf, hb]
      rw [hdyn, cond_true, show (!((ByteArray.mk (allb d).toArray).toList == (ByteArray.mk (allb d).toArray).toList)) = false by simp, cond_false, wrap_succ (by omega)]
      have c12 : Ch (fun _ => False) h h2 := a2.trans b2 fun _ _ f => f
      exact keeps_l3 k hk hM hnow n (j + 1) h2 (by omega) (by omega) (hc.trans c12 fun _ _ f => f) (hp.keep c12 fun _ f => f.elim) ⟨lA, A1'.keep (b2.keep A (by have := A1.lt hc.wf; have := a2.le; omega) fun f => f), A2, A3⟩ fun q hq => by
        obtain ⟨D, D1, D2⟩ := hm q hq
        exact ⟨D, D1.keep (c12.keep _ (D1.lt hc.wf) fun f => f), D2⟩
    · rw [decide_eq_false (show ¬ Int.ofNat j < (6 : Int) by simp; omega), cond_false]
      exact ⟨h, rfl, hc, hp⟩
end Go.Proofs.Ytbegaeohggkblaa.Fw
