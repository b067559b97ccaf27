/- The coder's deltas. No condition. -/
import Derived.Test.YtnjeafdbifcfhaaFwCod3
namespace Go.Proofs.Ytnjeafdbifcfhaa.Fw
open Go Den Fwd GF
set_option linter.unusedVariables false
set_option linter.unusedSimpArgs false
theorem MxR.sub {h : H} {s : Sl} {ps : Parts} (r : MxR h s ps) {lo hi : Nat} (h1 : lo ≤ hi) (h2 : hi ≤ ps.length) {xlo xhi : Option Int} (hlo : bnd xlo 0 = some lo) (hhi : bnd xhi s.n = some hi) :
    ∃ s', asS (subs 1 (.slice s.a s.n s.c) xlo xhi) = some s' ∧ MxR h s' ((ps.drop lo).take (hi - lo)) ∧ ∀ b, SlB s' b → SlB s b := by
  obtain ⟨s', e1, e2, e3, e4⟩ := subs_ok r.sl h1 (by rw [r.n]; exact h2) hlo hhi
  rw [Nat.mul_one, Nat.mul_one, ← List.map_drop, ← List.map_take] at e3
  exact ⟨s', by rw [e1]; rfl, ⟨e3, fun p hp => r.rs p (List.mem_of_mem_drop (List.mem_of_mem_take hp))⟩, e4⟩
def dlt (c : UInt8) (a b : List UInt8) : List UInt8 := List.zipWith (fun u v => mulB c (u ^^^ v)) a b
theorem dlt_get {c : UInt8} {a b : List UInt8} {i : Nat} (h1 : i < a.length) (h2 : i < b.length) : (dlt c a b)[i]? = some (mulB c (a[i] ^^^ b[i])) := by
  unfold dlt
  rw [List.getElem?_zipWith, List.getElem?_eq_getElem h1, List.getElem?_eq_getElem h2]
theorem dlt_len {c : UInt8} {a b : List UInt8} (h : a.length = b.length) : (dlt c a b).length = a.length := by unfold dlt; rw [List.length_zipWith]; omega
theorem delta_l1 (k : Nat) {h0 : H} (w0 : WF h0) {cb fb tb : Nat} (ht : h0.next ≤ tb) {sr : Sl} (C : Is h0 cb 85 2 [.pointer (some ⟨fb, 0, none⟩), slv sr]) (F : FldR h0 fb) {sa sb srow : Sl} {a b row : List UInt8} (A : SlR 1 h0 sa (byt a)) (B : SlR 1 h0 sb (byt b)) (R : SlR 1 h0 srow (byt row)) (la : a.length = 32) (lb : b.length = 32) (i : Nat) (hi : i < row.length) (x1 x2 : Sl) (x3 x4 : Int) : ∀ n j h cur, 32 - j < n → j ≤ 32 → Ch0 h0 h → Is h tb 5 1 (byt cur) → cur.length = 32 → (∀ t, t < j → cur[t]? = (dlt row[i] a b)[t]?) →
    ∃ h', coder_Coder_Delta.l1 k n (some ⟨cb, 0, none⟩) (Int.ofNat i) sa sb x1 srow ⟨some ⟨tb, 0, none⟩, 32, 32⟩ x2 x3 x4 (Int.ofNat 32) (Int.ofNat j) h = some ((), h') ∧ Ch0 h0 h' ∧ Is h' tb 5 1 (byt (dlt row[i] a b))
  | 0, j, h, cur, hn, _, _, _, _, _ => by omega
  | n + 1, j, h, cur, hn, hj, hc, I, hl, hg => by
    rw [coder_Coder_Delta.l1_succ]
    by_cases c : j < 32
    · rw [decLt c, cond_true]
      simp only [nilA, asP_ptr, Option.bind_some, fadd, Nat.zero_add]
      rw [(C.stay w0 hc).ldc, show asP (([.pointer (some ⟨fb, 0, none⟩), slv sr] : List Value)[0]?) = some (some ⟨fb, 0, none⟩) from rfl]
      simp only [Option.bind_some]
      obtain ⟨p1, e1, e2⟩ := (R.stay w0 hc).byte (List.getElem?_eq_getElem hi)
      rw [e1]
      simp only [asP_ptr, Option.bind_some, e2, asI_int]
      obtain ⟨p2, f1, f2⟩ := (A.stay w0 hc).byte (List.getElem?_eq_getElem (show j < a.length by omega))
      rw [f1]
      simp only [asP_ptr, Option.bind_some, f2, asI_int]
      obtain ⟨p3, g1, g2⟩ := (B.stay w0 hc).byte (List.getElem?_eq_getElem (show j < b.length by omega))
      rw [g1]
      simp only [asP_ptr, Option.bind_some, g2, asI_int]
      rw [add_f]
      simp only [Option.bind_some]
      rw [mul_f k (F.stay w0 hc)]
      simp only [Option.bind_some]
      rw [ixs_ptr c]
      simp only [asP_ptr, Option.bind_some, Nat.zero_add]
      obtain ⟨h1, a1, a2, a3, a4⟩ := cell_set hc.wf I (show j < cur.length by omega) (mulB row[i] (a[j]'(by omega) ^^^ b[j]'(by omega)))
      rw [a1]
      simp only [Option.bind_some, same1_refl, Bool.and_self, cond_true]
      rw [wrap_succ (by omega)]
      refine delta_l1 k w0 ht C F A B R la lb i hi x1 x2 x3 x4 n (j + 1) h1 _ (by omega) (by omega) (hc.trans a2 fun z hz f => by omega) a4 (by rw [List.length_set]; exact hl) ?_
      intro t ht'
      rw [List.getElem?_set]
      by_cases e : j = t
      · subst e
        rw [if_pos rfl, if_pos (by omega), dlt_get (by omega) (by omega)]
      · rw [if_neg e]; exact hg t (by omega)
    · rw [decNlt c, cond_false]
      have : cur = dlt row[i] a b := by
        apply List.ext_getElem?
        intro t
        by_cases q : t < j
        · exact hg t q
        · rw [List.getElem?_eq_none (by omega), List.getElem?_eq_none (by rw [dlt_len (by omega)]; omega)]
      rw [← this]
      exact ⟨h, rfl, hc, I⟩
theorem delta_l0 (k : Nat) (hk : 1000 < k) {h0 : H} (w0 : WF h0) {cb fb : Nat} {sr : Sl} (C : Is h0 cb 85 2 [.pointer (some ⟨fb, 0, none⟩), slv sr]) (F : FldR h0 fb) {sa sb sx : Sl} {a b : List UInt8} {ps : Parts} (A : SlR 1 h0 sa (byt a)) (B : SlR 1 h0 sb (byt b)) (X : MxR h0 sx ps) (la : a.length = 32) (lb : b.length = 32) (i : Nat) (hi : ∀ p ∈ ps, i < p.2.length) (hps : ps.length ≤ 100) : ∀ n j h out os, ps.length - j < n → j ≤ ps.length → MxO h0 h out os → mxv os = ((mxv ps).take j).map (fun r => dlt (r.getD i 0) a b) →
    ∃ out' os' h', coder_Coder_Delta.l0 k n (some ⟨cb, 0, none⟩) (Int.ofNat i) sa sb sx (Int.ofNat ps.length) out (Int.ofNat j) h = some (out', h') ∧ MxO h0 h' out' os' ∧ mxv os' = (mxv ps).map (fun r => dlt (r.getD i 0) a b)
  | 0, j, h, out, os, hn, _, _, _ => by omega
  | n + 1, j, h, out, os, hn, hj, O, he => by
    rw [coder_Coder_Delta.l0_succ]
    have pl : (mxv ps).length = ps.length := List.length_map _
    by_cases c : j < ps.length
    · rw [decLt c, cond_true]
      obtain ⟨p, e1, e2⟩ := (X.stay w0 O.ch).at c
      rw [e1]
      simp only [asP_ptr, Option.bind_some]
      rw [e2]
      simp only [Option.bind_some]
      obtain ⟨z1, z2, z3⟩ := newZ_ok O.ch.wf 5 1 (.int .u8 (0 : Int)) 32
      rw [byt_rep] at z3
      generalize newZ h 5 1 [Value.int .u8 (0 : Int)] 32 = g at z1 z2 z3 ⊢
      have hii := hi _ (List.getElem_mem c)
      obtain ⟨h1, f1, f2, f3⟩ := delta_l1 k O.ch.wf (Nat.le_refl _) (C.stay w0 O.ch) (F.stay w0 O.ch) (A.stay w0 O.ch) (B.stay w0 O.ch) ((X.row c).stay w0 O.ch) la lb i hii out sx (Int.ofNat ps.length) (Int.ofNat j) k 0 g _ (by omega) (by omega) z1 z3 (List.length_replicate) (fun t ht => by omega)
      rw [show (0 : Int) = Int.ofNat 0 from rfl, f1]
      simp only [Option.bind_some]
      have osl : os.length = j := by
        have := congrArg List.length he
        rw [List.length_map, List.length_take, pl] at this
        unfold mxv at this
        rw [List.length_map] at this
        omega
      have dl : (dlt (ps[j].2[i]) a b).length = 32 := by rw [dlt_len (by omega)]; exact la
      obtain ⟨s', h2, g1, g2⟩ := (O.more f2).push ⟨some ⟨h.next, 0, none⟩, 32, 32⟩ (dlt (ps[j].2[i]) a b) (SlR.of_is f3 (n := 32) (by rw [byt_len, dl]) (by unfold unk; omega)) (fun z hz f => by obtain ⟨o, e⟩ := hz; have : h.next = z := congrArg Addr.block (Option.some.inj e); have := O.ow.lt O.ch.wf f; omega) (by omega)
      rw [g1]
      simp only [Option.bind_some]
      rw [wrap_succ (by omega)]
      refine delta_l0 k hk w0 C F A B X la lb i hi hps n (j + 1) h2 s' _ (by omega) (by omega) g2 ?_
      have tk : (mxv ps).take (j + 1) = (mxv ps).take j ++ [ps[j].2] := by
        rw [List.take_add_one, show (mxv ps)[j]? = some ps[j].2 by unfold mxv; rw [List.getElem?_map, List.getElem?_eq_getElem c]; rfl]; rfl
      rw [tk, List.map_append, ← he]
      unfold mxv
      rw [List.map_append]
      congr 1
      show [dlt (ps[j].2[i]) a b] = [dlt (ps[j].2.getD i 0) a b]
      rw [List.getD_eq_getElem?_getD, List.getElem?_eq_getElem hii]; rfl
    · rw [decNlt c, cond_false]
      exact ⟨out, os, h, rfl, O, by rw [he, List.take_of_length_le (by rw [pl]; omega)]⟩
theorem delta_f (k : Nat) (hk : 1000 < k) {h : H} (w : WF h) {cb : Nat} (C : CodR h cb) {sa sb : Sl} {a b : List UInt8} (A : SlR 1 h sa (byt a)) (B : SlR 1 h sb (byt b)) (la : a.length = 32) (lb : b.length = 32) (i : Nat) (hi : i < 4) :
    ∃ out os h', coder_Coder_Delta.f k (some ⟨cb, 0, none⟩) (Int.ofNat i) sa sb h = some ((out, 0), h') ∧ MxO h h' out os ∧ mxv os = (cRows.drop 4).map (fun r => dlt (r.getD i 0) a b) := by
  obtain ⟨fb, sr, qs, c1, c2, c3, c4⟩ := C
  unfold coder_Coder_Delta.f
  rw [decide_eq_false (show ¬ Int.ofNat i < (0 : Int) by simp only [Int.ofNat_eq_natCast]; omega)]
  simp only [cond_false, Option.bind_some]
  rw [decide_eq_false (show ¬ Int.ofNat i ≥ (4 : Int) by simp only [Int.ofNat_eq_natCast]; omega)]
  simp only [cond_false, Option.bind_some]
  rw [A.n_byt, B.n_byt, la, lb]
  rw [show (Int.ofNat 32 != (32 : Int)) = false from rfl]
  simp only [cond_false, Option.bind_some, nilA, asP_ptr, fadd, Nat.zero_add]
  rw [c1.ldc, show asS (([.pointer (some ⟨fb, 0, none⟩), slv sr] : List Value)[1]?) = some sr from rfl]
  simp only [Option.bind_some]
  have ql : qs.length = 6 := by rw [← PartsR.len (h := h), c4]; rfl
  obtain ⟨s7, e1, e2, e3⟩ := c3.sub (lo := 4) (hi := 6) (by decide) (by omega) (xlo := some (4 : Int)) (xhi := none) rfl (by rw [c3.n, ql]; rfl)
  rw [e1]
  simp only [Option.bind_some]
  have dq : (qs.drop 4).take (6 - 4) = qs.drop 4 := List.take_of_length_le (by rw [List.length_drop]; omega)
  rw [dq] at e2
  have ml : mxv (qs.drop 4) = cRows.drop 4 := by unfold mxv at c4 ⊢; rw [List.map_drop, c4]
  have dl : (qs.drop 4).length = 2 := by rw [List.length_drop]; omega
  obtain ⟨out, os, h', f1, f2, f3⟩ := delta_l0 k hk w c1 c2 A B e2 la lb i (fun p hp => by
    have : p.2 ∈ cRows.drop 4 := by rw [← ml]; exact List.mem_map.2 ⟨p, hp, rfl⟩
    have : p.2.length = 4 := by
      simp only [cRows, List.drop_succ_cons, List.drop_zero, List.mem_cons, List.not_mem_nil, or_false] at this
      rcases this with e | e <;> rw [e] <;> rfl
    omega) (by omega) k 0 h ⟨none, 0, 0⟩ [] (by omega) (Nat.zero_le _) (MxO.nil w) rfl
  rw [e2.n, show (0 : Int) = Int.ofNat 0 from rfl, f1]
  rw [ml] at f3
  exact ⟨out, os, h', rfl, f2, f3⟩
/-- bytes in a slice of their own -/
theorem own_b {h : H} (w : WF h) {s : Sl} {x : List UInt8} (r : SlR 1 h s (byt x)) (hx : x.length ≤ 140737488355328) :
    ∃ t h', asS2 (apv 5 1 1 (Value.slice (some ⟨h.next, 0, none⟩) 0 0) (Value.slice s.a s.n s.c) (newR h 5 1 [])) = some (t, h') ∧ Ch0 h h' ∧ Ch0 h (newR h 5 1 []) ∧ (newR h 5 1 []).next = h.next + 1 ∧ (∀ z, z < h.next → h'.get z = (newR h 5 1 []).get z) ∧ Ow 5 1 h' t (byt x) ∧ ∀ b, SlB t b → h.next ≤ b := by
  obtain ⟨n1, n2, n3⟩ := newR_ok w 5 1 []
  have ow : Ow 5 1 (newR h 5 1 []) ⟨some ⟨h.next, 0, none⟩, 0, 0⟩ (byt []) := Ow.of_is n3 rfl (by unfold unk; omega)
  obtain ⟨t, g2, f1, f2, f3, f4⟩ := app_b n1.wf ow (r.stay w n1) (by show 0 + _ ≤ _; omega)
  have hb : ∀ b, SlB ⟨some ⟨h.next, 0, none⟩, 0, 0⟩ b → h.next ≤ b := fun b hb => by obtain ⟨o, q⟩ := hb; have : h.next = b := congrArg Addr.block (Option.some.inj q); omega
  rw [List.nil_append] at f3
  exact ⟨t, g2, f1, Ch0.own n1 f2 hb, n1, n2, fun z hz => f2.keep z (by omega) fun f => by have := hb z f; omega, f3, fun b hb' => (f4 b hb').elim (hb b) fun f => by omega⟩
/-- b[lo:] of what is its own -/
theorem subOwn {h : H} {s : Sl} {x : List UInt8} (r : Ow 5 1 h s (byt x)) {lo : Nat} (h0 : lo < x.length) : ∃ b c', subs 1 (.slice s.a s.n s.c) (some (Int.ofNat lo)) none = some (.slice (some ⟨b, lo, none⟩) (x.length - lo) c') ∧ SlB s b ∧ Is h b 5 1 (byt x) ∧ ∀ h' y, Is h' b 5 1 (byt y) → y.length = x.length → Ow 5 1 h' s (byt y) := by
  rcases r with ⟨f, _⟩ | ⟨b, m, c, rfl, hl, I, hc⟩
  · have := congrArg List.length f
    rw [byt_len] at this
    have this : x.length = 0 := this
    omega
  · rw [byt_len, Nat.mul_one] at hl
    have e0 : subs 1 (.slice (some ⟨b, 0, none⟩) m c) (some (Int.ofNat lo)) none = slice2 b 0 1 m c lo m := by
      unfold subs
      split
      · rename_i e; cases e
      · rename_i e; cases e; rfl
      · rename_i e; cases e
      · rename_i a1 a2 a3; exact (a2 _ _ _ _ rfl).elim
    have back : ∀ h' y, Is h' b 5 1 (byt y) → y.length = x.length → Ow 5 1 h' ⟨some ⟨b, 0, none⟩, m, c⟩ (byt y) := fun h' y I' e => .inr ⟨b, m, c, rfl, by rw [byt_len]; omega, I', hc⟩
    rcases hc with ⟨rfl, hc⟩ | rfl
    · refine ⟨b, c - lo, ?_, ⟨0, rfl⟩, I, back⟩
      show subs 1 (.slice (some ⟨b, 0, none⟩) c c) (some (Int.ofNat lo)) none = _
      rw [e0]
      unfold slice2
      rw [isUnk_of hc, cond_false, cond_eta _ _ _ (by simp only [Bool.and_eq_true, Nat.ble_eq]; omega), beq_false (show c ≠ lo by omega), cond_false, Nat.zero_add, Nat.mul_one, hl]
    · refine ⟨b, unkOf 1, ?_, ⟨0, rfl⟩, I, back⟩
      show subs 1 (.slice (some ⟨b, 0, none⟩) m (unkOf 1)) (some (Int.ofNat lo)) none = _
      rw [e0]
      unfold slice2
      rw [isUnk_unkOf, cond_true, cond_eta _ _ _ (by simp only [Bool.and_eq_true, Nat.ble_eq, Nat.beq_refl, true_and]; omega), beq_false (show lo ≠ m by omega), cond_false, Nat.zero_add, Nat.mul_one, hl]
theorem setb {h : H} (w : WF h) {s : Sl} {x : List UInt8} (r : Ow 5 1 h s (byt x)) {j : Nat} (hj : j < x.length) (c : UInt8) :
    ∃ b h', ixs 1 s.a s.n (Int.ofNat j) = some (.pointer (some ⟨b, j, none⟩)) ∧ ldc h (some ⟨b, j, none⟩) = some (.int .u8 (Int.ofNat x[j].toNat)) ∧ stv 1 h (some ⟨b, j, none⟩) [.int .u8 (Int.ofNat c.toNat)] = some (undef, h') ∧ Ch (SlB s) h h' ∧ h'.next = h.next ∧ Ow 5 1 h' s (byt (x.set j c)) := by
  rcases r with ⟨f, _⟩ | ⟨b, m, cc, rfl, hl, I, hc⟩
  · have := congrArg List.length f
    rw [byt_len] at this
    have this : x.length = 0 := this
    omega
  · rw [byt_len, Nat.mul_one] at hl
    obtain ⟨h', i1, i2, i3, i4⟩ := I.set w j (.int .u8 (Int.ofNat c.toNat)) (by rw [byt_len]; exact hj) rfl
    have e0 : ixs 1 (some ⟨b, 0, none⟩) m (Int.ofNat j) = some (.pointer (some ⟨b, j, none⟩)) := by
      have : ixs 1 (some ⟨b, 0, none⟩) m (Int.ofNat j) = some (.pointer (some ⟨b, 0 + j * 1, none⟩)) := cond_eta _ _ _ (Nat.ble_eq_true_of_le (by show j + 1 ≤ m; omega))
      rw [this, Nat.zero_add, Nat.mul_one]
    refine ⟨b, h', e0, ?_, i1, i2.mono fun x _ hx => by subst hx; exact ⟨0, rfl⟩, i3, .inr ⟨b, m, cc, rfl, by rw [byt_len, List.length_set]; omega, ?_, hc⟩⟩
    · rw [I.ldc, byt_get, List.getElem?_eq_getElem hj]; rfl
    · have : (byt x).set j (.int .u8 (Int.ofNat c.toNat)) = byt (x.set j c) := by unfold byt; rw [List.map_set]
      rw [← this]; exact i4
/-! ### a chunk turned -/
theorem row4_get {a b c d : UInt8} {p q r s : List UInt8} (lp : p.length = 32) (lq : q.length = 32) (lr : r.length = 32) (ls : s.length = 32) {k : Nat} (hk : k < 32) :
    (rowP (List.replicate 32 0) [a, b, c, d] [p, q, r, s])[k]? = some ((((0 ^^^ mulB a (p[k]'(by omega))) ^^^ mulB b (q[k]'(by omega))) ^^^ mulB c (r[k]'(by omega))) ^^^ mulB d (s[k]'(by omega))) := by
  show (addRow d (addRow c (addRow b (addRow a (List.replicate 32 0) p) q) r) s)[k]? = _
  unfold addRow
  simp only [List.getElem?_zipWith, List.getElem?_eq_getElem (show k < p.length by omega), List.getElem?_eq_getElem (show k < q.length by omega), List.getElem?_eq_getElem (show k < r.length by omega), List.getElem?_eq_getElem (show k < s.length by omega), List.getElem?_replicate, if_pos hk]
theorem xlc (a b c : UInt8) : a ^^^ (b ^^^ c) = b ^^^ (a ^^^ c) := by rw [← UInt8.xor_assoc, UInt8.xor_comm a b, UInt8.xor_assoc]
theorem xself (a b : UInt8) : a ^^^ (a ^^^ b) = b := by rw [← UInt8.xor_assoc, UInt8.xor_self, UInt8.zero_xor]
theorem turn_row {x : List UInt8} (hx : x.length = 128) {i : Nat} (hi : i < 4) {y : List UInt8} (hy : y.length = 32) (row : List UInt8) (hr : row.length = 4) {k : Nat} (hk : k < 32) :
    ∃ u v z, (rowP (List.replicate 32 0) row (chunks x))[k]? = some u ∧ (rowP (List.replicate 32 0) row ((chunks x).set i y))[k]? = some v ∧ (dlt (row.getD i 0) ((x.drop (i * 32)).take 32) y)[k]? = some z ∧ u ^^^ z = v := by
  have L : ∀ n, n ≤ 96 → ((x.drop n).take 32).length = 32 := fun n hn => by rw [List.length_take, List.length_drop]; omega
  have l0 : (x.take 32).length = 32 := by rw [List.length_take]; omega
  have l1 := L 32 (by decide)
  have l2 := L 64 (by decide)
  have l3 := L 96 (by decide)
  obtain ⟨a, b, c, d, rfl⟩ : ∃ a b c d, row = [a, b, c, d] := by
    match row, hr with
    | [a, b, c, d], _ => exact ⟨a, b, c, d, rfl⟩
  have hi' : i = 0 ∨ i = 1 ∨ i = 2 ∨ i = 3 := by omega
  rcases hi' with rfl | rfl | rfl | rfl
  · refine ⟨_, _, _, row4_get l0 l1 l2 l3 hk, row4_get hy l1 l2 l3 hk, dlt_get (c := a) (a := x.take 32) (by omega) (by omega), ?_⟩
    rw [mulB_add]
    generalize mulB a _ = A1
    generalize mulB a _ = A2
    simp only [UInt8.xor_assoc, UInt8.xor_comm, xlc, xself, UInt8.xor_self, UInt8.xor_zero, UInt8.zero_xor]
  · refine ⟨_, _, _, row4_get l0 l1 l2 l3 hk, row4_get l0 hy l2 l3 hk, dlt_get (c := b) (a := (x.drop 32).take 32) (by omega) (by omega), ?_⟩
    rw [mulB_add]
    generalize mulB b _ = A1
    generalize mulB b _ = A2
    simp only [UInt8.xor_assoc, UInt8.xor_comm, xlc, xself, UInt8.xor_self, UInt8.xor_zero, UInt8.zero_xor]
  · refine ⟨_, _, _, row4_get l0 l1 l2 l3 hk, row4_get l0 l1 hy l3 hk, dlt_get (c := c) (a := (x.drop 64).take 32) (by omega) (by omega), ?_⟩
    rw [mulB_add]
    generalize mulB c _ = A1
    generalize mulB c _ = A2
    simp only [UInt8.xor_assoc, UInt8.xor_comm, xlc, xself, UInt8.xor_self, UInt8.xor_zero, UInt8.zero_xor]
  · refine ⟨_, _, _, row4_get l0 l1 l2 l3 hk, row4_get l0 l1 l2 hy hk, dlt_get (c := d) (a := (x.drop 96).take 32) (by omega) (by omega), ?_⟩
    rw [mulB_add]
    generalize mulB d _ = A1
    generalize mulB d _ = A2
    simp only [UInt8.xor_assoc, UInt8.xor_comm, xlc, xself, UInt8.xor_self, UInt8.xor_zero, UInt8.zero_xor]
theorem chunks_ovb {x y : List UInt8} (hx : x.length = 128) (hy : y.length = 32) {i : Nat} (hi : i < 4) : chunks (ovb x (i * 32) y) = (chunks x).set i y := by
  have hi' : i = 0 ∨ i = 1 ∨ i = 2 ∨ i = 3 := by omega
  have G : ∀ n, (ovb x (i * 32) y)[n]? = if i * 32 ≤ n ∧ n < i * 32 + 32 then y[n - i * 32]? else x[n]? := fun n => by
    have := ovb_get (l := x) (o := i * 32) (vs := y) (by omega) n
    rw [hy] at this; exact this
  have E : ∀ n m, m = n * 32 → n < 4 → ((ovb x (i * 32) y).drop m).take 32 = if n = i then y else (x.drop m).take 32 := fun n m hm hn => by
    subst hm
    apply List.ext_getElem?
    intro t
    rw [List.getElem?_take]
    by_cases c : t < 32
    · rw [if_pos c, List.getElem?_drop, G]
      by_cases e : n = i
      · subst e
        rw [if_pos rfl, if_pos (by omega), Nat.add_sub_cancel_left]
      · rw [if_neg e, if_neg (by omega), List.getElem?_take, if_pos c, List.getElem?_drop]
    · rw [if_neg c]
      by_cases e : n = i
      · rw [if_pos e, List.getElem?_eq_none (by omega)]
      · rw [if_neg e, List.getElem?_eq_none (by rw [List.length_take]; omega)]
  have E0 := E 0 0 rfl (by decide)
  have E1 := E 1 32 rfl (by decide)
  have E2 := E 2 64 rfl (by decide)
  have E3 := E 3 96 rfl (by decide)
  rw [List.drop_zero, List.drop_zero] at E0
  unfold chunks
  rw [E0, E1, E2, E3]
  rcases hi' with rfl | rfl | rfl | rfl <;> rfl
end Go.Proofs.Ytnjeafdbifcfhaa.Fw
