/- Matrices of raw numbers; products, inverses, sameness by what is read. No condition. -/
import Derived.Test.YtnjeafdbifcfhaaPaFwLinP
import Derived.Test.YtnjeafdbifcfhaaPaFMat
namespace Go.Proofs.Ytnjeafdbifcfhaa.Fw
open Go Den Fwd GF
set_option linter.unusedVariables false
set_option linter.unusedSimpArgs false
theorem intAt {h : H} {s : Sl} {L : List Int} (r : SlR 1 h s (ivs L)) (hL : s.n = L.length) {j : Nat} (hj : j < L.length) : ∃ p, ixs 1 s.a L.length (Int.ofNat j) = some (.pointer p) ∧ ∀ h', SlR 1 h' s (ivs L) → ldc h' p = some (.int .i64 L[j]) := by
  obtain ⟨p, e1, _⟩ := r.elem1 (j := j) (by rw [hL]; exact hj)
  rw [hL] at e1
  refine ⟨p, e1, fun h' r' => ?_⟩
  obtain ⟨p', f1, f2⟩ := r'.elem1 (j := j) (by rw [hL]; exact hj)
  rw [hL, e1] at f1
  cases f1
  rw [f2, ivs_get, List.getElem?_eq_getElem hj]; rfl
theorem of_l1 (k : Nat) {h0 : H} (w0 : WF h0) {rb : Nat} (hrb : h0.next ≤ rb) {sl : Sl} {L : List Int} (R : SlR 1 h0 sl (ivs L)) (hL : sl.n = L.length) (x8 : Int) (c i : Nat) (hc : c ≤ 64) (hi : i ≤ 64) (x11 : Sl) : ∀ n j h cur, c - j < n → j ≤ c → Ch0 h0 h → Is h rb 5 1 (byt cur) → cur.length = c →
    ∃ h' cur', corbellaw4_of.l1 k n x8 (Int.ofNat c) sl x11 (Int.ofNat i) ⟨some ⟨rb, 0, none⟩, c, c⟩ (Int.ofNat j) h = some ((), h') ∧ Ch0 h0 h' ∧ Is h' rb 5 1 (byt cur') ∧ cur'.length = c
  | 0, j, h, cur, hn, _, _, _, _ => by omega
  | n + 1, j, h, cur, hn, hj, hc0, I, hl => by
    rw [corbellaw4_of.l1_succ]
    by_cases q : j < c
    · rw [decLt q, cond_true]
      have b1 : i * c ≤ 64 * 64 := Nat.mul_le_mul hi hc
      rw [show Int.ofNat i * Int.ofNat c = Int.ofNat (i * c) from rfl, wrap_in (n := Int.ofNat (i * c)) (by simp only [Int.ofNat_eq_natCast]; omega) (by simp only [Int.ofNat_eq_natCast]; omega), show Int.ofNat (i * c) + Int.ofNat j = Int.ofNat (i * c + j) from rfl, wrap_in (n := Int.ofNat (i * c + j)) (by simp only [Int.ofNat_eq_natCast]; omega) (by simp only [Int.ofNat_eq_natCast]; omega), hL]
      by_cases d : i * c + j < L.length
      · rw [decLt d, cond_true]
        obtain ⟨p, e1, e2⟩ := intAt (R.stay w0 hc0) hL d
        rw [e1]
        simp only [asP_ptr, Option.bind_some]
        rw [e2 _ (R.stay w0 hc0), asI_int]
        simp only [Option.bind_some]
        rw [ixs_ptr q]
        simp only [asP_ptr, Option.bind_some, Nat.zero_add]
        rw [wrap_u8]
        obtain ⟨h1, f1, f2, f3, f4⟩ := cell_set hc0.wf I (show j < cur.length by omega) (u8 L[i * c + j])
        rw [f1]
        simp only [Option.bind_some]
        have c1 : Ch0 h0 h1 := Ch0.at hc0 f2 hrb
        rw [e2 _ (R.stay w0 c1), asI_int]
        simp only [Option.bind_some]
        have l1 : (cur.set j (u8 L[i * c + j])).length = c := by rw [List.length_set]; exact hl
        generalize cur.set j (u8 L[i * c + j]) = cur1 at f4 l1
        cases (L[i * c + j].tmod (5 : Int)) == (0 : Int) with
        | false =>
          simp only [cond_false, Option.bind_some]
          rw [wrap_succ (by omega)]
          exact of_l1 k w0 hrb R hL x8 c i hc hi x11 n (j + 1) h1 cur1 (by omega) (by omega) c1 f4 l1
        | true =>
          simp only [cond_true]
          rw [pick_f k _ 2 h1 (by decide) (by decide)]
          simp only [Option.bind_some]
          rw [wrap_u8]
          obtain ⟨h2, g1, g2, g3, g4⟩ := cell_set c1.wf f4 (show j < cur1.length by omega) (u8 (L[i * c + j] % 2))
          rw [g1]
          simp only [Option.bind_some]
          rw [wrap_succ (by omega)]
          exact of_l1 k w0 hrb R hL x8 c i hc hi x11 n (j + 1) h2 _ (by omega) (by omega) (Ch0.at c1 g2 hrb) g4 (by rw [List.length_set]; exact l1)
      · rw [decNlt d, cond_false]
        simp only [Option.bind_some]
        rw [wrap_succ (by omega)]
        exact of_l1 k w0 hrb R hL x8 c i hc hi x11 n (j + 1) h cur (by omega) (by omega) hc0 I hl
    · rw [decNlt q, cond_false]
      exact ⟨h, cur, rfl, hc0, I, hl⟩
theorem of_l0 (k : Nat) (hk : 1000 < k) {h0 : H} (w0 : WF h0) {sl : Sl} {L : List Int} (R : SlR 1 h0 sl (ivs L)) (hL : sl.n = L.length) (m c : Nat) (hm : m ≤ 64) (hc : c ≤ 64) : ∀ n i h out os, m - i < n → i ≤ m → MxO h0 h out os → os.length = i → (∀ r ∈ mxv os, r.length = c) →
    ∃ out' os' h', corbellaw4_of.l0 k n (Int.ofNat m) (Int.ofNat c) sl out (Int.ofNat i) h = some (out', h') ∧ MxO h0 h' out' os' ∧ Dim m c (mxv os')
  | 0, i, h, out, os, hn, _, _, _, _ => by omega
  | n + 1, i, h, out, os, hn, hi, O, hl, hr => by
    rw [corbellaw4_of.l0_succ]
    by_cases q : i < m
    · rw [decLt q, cond_true]
      rw [mkz_ok _ rfl (by omega) (by omega)]
      obtain ⟨z1, z2, z3⟩ := newZ_ok O.ch.wf 5 1 (.int .u8 (0 : Int)) c
      rw [show asS2 (some (Value.slice (some ⟨h.next, 0, none⟩) c c, newZ h 5 1 [Value.int .u8 (0 : Int)] c)) = some ((⟨some ⟨h.next, 0, none⟩, c, c⟩ : Sl), newZ h 5 1 [Value.int .u8 (0 : Int)] c) from rfl]
      simp only [Option.bind_some]
      rw [Nat.mul_one, byt_rep] at z3
      have c1 := O.ch.then z1
      generalize newZ h 5 1 [Value.int .u8 (0 : Int)] c = g at z1 z2 z3 c1 ⊢
      have hb : h0.next ≤ h.next := O.ch.le
      obtain ⟨h1, cur, f1, f2, f3, f4⟩ := of_l1 k O.ch.wf (Nat.le_refl _) (R.stay w0 O.ch) hL (Int.ofNat m) c i hc (by omega) out k 0 g _ (by omega) (Nat.zero_le _) z1 z3 (List.length_replicate)
      rw [show (0 : Int) = Int.ofNat 0 from rfl, f1]
      simp only [Option.bind_some]
      obtain ⟨s', h2, g1, g2⟩ := (O.more f2).push ⟨some ⟨h.next, 0, none⟩, c, c⟩ cur (SlR.of_is f3 (n := c) (by rw [byt_len, f4, Nat.mul_one]) (by unfold unk; omega)) (fun z hz f => by obtain ⟨o, e⟩ := hz; have : h.next = z := congrArg Addr.block (Option.some.inj e); have := O.ow.lt O.ch.wf f; omega) (by omega)
      rw [g1]
      simp only [Option.bind_some]
      rw [wrap_succ (by omega)]
      refine of_l0 k hk w0 R hL m c hm hc n (i + 1) h2 s' _ (by omega) (by omega) g2 (by rw [List.length_append]; simp only [List.length_cons, List.length_nil]; omega) ?_
      intro r hr'
      unfold mxv at hr'
      rw [List.map_append] at hr'
      rcases List.mem_append.1 hr' with e | e
      · exact hr r e
      · obtain rfl := List.mem_singleton.1 e
        exact f4
    · rw [decNlt q, cond_false]
      exact ⟨out, os, h, rfl, O, by rw [mxv_len]; omega, hr⟩
/-- what is read as this matrix -/
def MxI (h : H) (s : Sl) (r c : Nat) (m : Mx) : Prop := ∃ ps, MxR h s ps ∧ mxv ps = m ∧ Dim r c m
theorem MxI.stay {h h' : H} {s : Sl} {r c : Nat} {m : Mx} (w : WF h) (k : Ch0 h h') (A : MxI h s r c m) : MxI h' s r c m := by
  obtain ⟨ps, a, b⟩ := A
  exact ⟨ps, a.stay w k, b⟩
theorem MxI.n {h : H} {s : Sl} {r c : Nat} {m : Mx} (A : MxI h s r c m) : s.n = r := by
  obtain ⟨ps, a, b, d⟩ := A
  rw [a.n, ← mxv_len, b, d.n]
theorem Dim.hd {r c : Nat} {m : Mx} (d : Dim r c m) (h : 0 < r) : (Fw.hd m).length = c := by
  obtain ⟨n, w⟩ := d
  cases m with
  | nil => simp at n; omega
  | cons x l => exact w x List.mem_cons_self
theorem Dim.rt {r c : Nat} {m : Mx} (d : Dim r c m) (h1 : 0 < r) (h2 : r ≤ 64) (h3 : 0 < c) (h4 : c ≤ 64) : RtM m where
  n0 := by rw [d.n]; exact h1
  n1 := by rw [d.n]; exact h2
  c0 := by rw [d.hd h1]; exact h3
  c1 := by rw [d.hd h1]; exact h4
  al := fun r hr => by rw [d.hd h1]; exact d.w r hr
theorem mof_f (k : Nat) (hk : 1000 < k) {h : H} (w : WF h) {sl : Sl} {L : List Int} (R : SlR 1 h sl (ivs L)) (hL : sl.n = L.length) (m c : Nat) (hm : m ≤ 64) (hc : c ≤ 64) : ∃ s a h', corbellaw4_of.f k (Int.ofNat m) (Int.ofNat c) sl h = some (s, h') ∧ Ch0 h h' ∧ MxI h' s m c a := by
  unfold corbellaw4_of.f
  obtain ⟨out, os, h', a1, a2, a3⟩ := of_l0 k hk w R hL m c hm hc k 0 h ⟨none, 0, 0⟩ [] (by omega) (Nat.zero_le _) (MxO.nil w) rfl (fun r hr => by cases hr)
  rw [show (0 : Int) = Int.ofNat 0 from rfl, a1]
  exact ⟨out, _, h', rfl, a2.ch, os, a2.mxr, rfl, a3⟩
theorem MxI.mul (k : Nat) (hk : 1000 < k) {fb : Nat} {h : H} (w : WF h) (F : FldR h fb) {sa sb : Sl} {r n c : Nat} {a b : Mx} (A : MxI h sa r n a) (B : MxI h sb n c b) (h1 : 0 < r) (h2 : r ≤ 64) (h3 : 0 < n) (h4 : n ≤ 64) (h5 : 0 < c) (h6 : c ≤ 64) :
    ∃ s h', matrix_Mul.f k (some ⟨fb, 0, none⟩) sa sb h = some (s, h') ∧ Ch0 h h' ∧ MxI h' s r c (mulM a b) := by
  obtain ⟨ps, a1, rfl, a3⟩ := A
  obtain ⟨qs, b1, rfl, b3⟩ := B
  obtain ⟨out, os, h', c1, c2, c3⟩ := mmul_f k hk w F a1 b1 (a3.rt h1 h2 h3 h4) (b3.rt h3 h4 h5 h6) (by rw [a3.hd h1, b3.n])
  exact ⟨out, h', c1, c2.ch, os, c2.mxr, c3, mulM_dim a3 b3 h3⟩
theorem MxI.same (k : Nat) (hk : 1000 < k) {h : H} {sa sb : Sl} {r c r' c' : Nat} {a b : Mx} (A : MxI h sa r c a) (B : MxI h sb r' c' b) (h2 : r ≤ 64) (h6 : c ≤ 64) : matrix_Same.f k sa sb h = some (decide (a = b), h) := by
  obtain ⟨ps, a1, rfl, a3⟩ := A
  obtain ⟨qs, b1, rfl, b3⟩ := B
  exact msame_f k hk a1 b1 (by have := a3.n; rw [mxv_len] at this; omega) fun p hp => by
    have := a3.w p.2 (List.mem_map.2 ⟨p, hp, rfl⟩)
    omega
theorem MxI.inv (k : Nat) (hk : 1000 < k) {fb : Nat} {h : H} (w : WF h) (F : FldR h fb) {sa : Sl} {n : Nat} {a : Mx} (A : MxI h sa n n a) (h1 : 0 < n) (h2 : n ≤ 64) :
    ∃ s ok h', matrix_Inverse.f k (some ⟨fb, 0, none⟩) sa h = some ((s, ok), h') ∧ Ch0 h h' ∧ ((ok = false ∧ invP a = none) ∨ ∃ x, ok = true ∧ invP a = some x ∧ MxI h' s n n x ∧ mulM x a = idM n ∧ mulM a x = idM n) := by
  obtain ⟨ps, a1, rfl, a3⟩ := A
  obtain ⟨s, ok, h', b1, b2, b3⟩ := inv_sq_f k hk w F a1 (a3.rt h1 h2 h1 h2) (by rw [a3.hd h1, ← mxv_len, a3.n])
  refine ⟨s, ok, h', b1, b2, b3.imp (fun x => x) ?_⟩
  rintro ⟨os, c1, c2, c3⟩
  rcases invP_cases a3 h1 with ⟨y, e, dy, y1, y2⟩ | ⟨e, _⟩
  · rw [c2] at e
    cases e
    exact ⟨_, c1, c2, ⟨os, c3, rfl, dy⟩, y1, y2⟩
  · rw [c2] at e; cases e
theorem MxI.id (k : Nat) (hk : 1000 < k) {h : H} (w : WF h) (n : Nat) (h1 : 1 ≤ n) (hn : n ≤ 64) : ∃ s h', matrix_Identity.f k (Int.ofNat n) h = some (s, h') ∧ Ch0 h h' ∧ MxI h' s n n (idM n) := by
  obtain ⟨s, ps, h', a1, a2, a3, _⟩ := mid_f k hk w n h1 hn
  exact ⟨s, h', a1, a2.ch, ps, a2.mxr, a3, idM_dim n⟩
end Go.Proofs.Ytnjeafdbifcfhaa.Fw
