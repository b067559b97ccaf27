/- MetaRoots: the law's forward run comes to true. -/
import Derived.Test.YtfenkpghcbohdaaFwRoot
import Derived.Test.YtfenkpghcbohdaaArMetaRoots
namespace Go.Proofs.Ytfenkpghcbohdaa
open Go Den Fwd Fw
set_option linter.unusedVariables false
set_option linter.unusedSimpArgs false
theorem Pure.setb {h : H} (w : WF h) {s : Sl} {x : List UInt8} (r : Ow 5 1 h s (byt x)) {j : Nat} (hj : j < x.length) (c : UInt8) :
    ∃ b h', ixs 1 s.a s.n (Int.ofNat j) = some (.pointer (some ⟨b, j, none⟩)) ∧ ldc h (some ⟨b, j, none⟩) = some (.int .u8 (Int.ofNat x[j].toNat)) ∧ stv 1 h (some ⟨b, j, none⟩) [.int .u8 (Int.ofNat c.toNat)] = some (undef, h') ∧ Ch (SlB s) h h' ∧ h'.next = h.next ∧ Ow 5 1 h' s (byt (x.set j c)) := by
  rcases r with ⟨f, _⟩ | ⟨b, m, cc, rfl, hl, I, hc⟩
  · have := congrArg List.length f
    rw [byt_len] at this
    have this : x.length = 0 := this
    omega
  · rw [byt_len, Nat.mul_one] at hl
    obtain ⟨h', i1, i2, i3, i4⟩ := I.set w j (.int .u8 (Int.ofNat c.toNat)) (by rw [byt_len]; exact hj) rfl
    have e0 : ixs 1 (some ⟨b, 0, none⟩) m (Int.ofNat j) = some (.pointer (some ⟨b, j, none⟩)) := by
      have : ixs 1 (some ⟨b, 0, none⟩) m (Int.ofNat j) = some (.pointer (some ⟨b, 0 + j * 1, none⟩)) := cond_eta _ _ _ (Nat.ble_eq_true_of_le (by show j + 1 ≤ m; omega))
      rw [this, Nat.zero_add, Nat.mul_one]
    refine ⟨b, h', e0, ?_, i1, i2.mono fun x _ hx => by subst hx; exact ⟨0, rfl⟩, i3, .inr ⟨b, m, cc, rfl, by rw [byt_len, List.length_set]; omega, ?_, hc⟩⟩
    · rw [I.ldc, byt_get, List.getElem?_eq_getElem hj]; rfl
    · have : (byt x).set j (.int .u8 (Int.ofNat c.toNat)) = byt (x.set j c) := by unfold byt; rw [List.map_set]
      rw [← this]; exact i4
theorem Pure.wf8 {n : Int} (h : (Lit.int .u8 n).wf = true) : ∃ m : UInt8, n = Int.ofNat m.toNat := by
  unfold Lit.wf at h
  simp only [Bool.and_eq_true, decide_eq_true_eq] at h
  have h0 : (0 : Int) ≤ n := h.1
  have h1 : n ≤ 255 := h.2
  exact ⟨UInt8.ofNat n.toNat, by simp; omega⟩
theorem Pure.asBytes : ∀ l : List Int, (∀ n ∈ l, (Lit.int .u8 n).wf = true) → ∃ x : List UInt8, l.map (fun n => Value.int .u8 n) = byt x ∧ x.length = l.length
  | [], _ => ⟨[], rfl, rfl⟩
  | n :: l, h => by
    obtain ⟨m, rfl⟩ := Pure.wf8 (h n List.mem_cons_self)
    obtain ⟨x, e1, e2⟩ := Pure.asBytes l fun n hn => h n (List.mem_cons_of_mem _ hn)
    exact ⟨m :: x, by rw [List.map_cons, e1]; rfl, by rw [List.length_cons, List.length_cons, e2]⟩
theorem Pure.roots_l0 (k : Nat) {h0 : H} (w0 : WF h0) {s : Sl} {l : List Int} (rs : SlR 1 h0 s (ivs l)) (by_ : UInt8) : ∀ n i h z x, 2 - i < n → i ≤ 2 → Ch0 h0 h → Ow 5 1 h z (byt x) → (∀ b, SlB z b → h0.next ≤ b) → x.length = 128 →
    ∃ h' x', corbellaw19_MetaRoots.l0 k n s (Int.ofNat by_.toNat) z (Int.ofNat i) h = some ((), h') ∧ Ch0 h0 h' ∧ Ow 5 1 h' z (byt x')
  | 0, i, h, z, x, hn, _, _, _, _, _ => by omega
  | n + 1, i, h, z, x, hn, hi, hc, ho, hb, hx => by
    rw [corbellaw19_MetaRoots.l0_succ]
    have hl := rs.len
    rw [ivs_len, Nat.mul_one] at hl
    by_cases c : i < l.length ∧ i < 2
    · rw [← hl, decide_eq_true (show Int.ofNat i < Int.ofNat l.length by simp; omega), cond_true, decide_eq_true (show Int.ofNat i < (2 : Int) by simp; omega)]
      simp only [Option.bind_some, cond_true]
      obtain ⟨p, e1, e2⟩ := (rs.stay w0 hc).elem1 (j := i) (by omega)
      rw [ivs_get, List.getElem?_eq_getElem c.1] at e2
      rw [hl, e1]
      simp only [asP_ptr, Option.bind_some, e2, Option.map_some, asI_int]
      have zn := ho.slr.n_byt
      rw [pick_f k _ 16 h (by decide) (by decide)]
      obtain ⟨j, hj⟩ : ∃ j : Nat, l[i] % 16 = Int.ofNat j := ⟨_, nn _ (Int.emod_nonneg l[i] (by decide))⟩
      have hj2 : j < x.length := by have := Int.emod_lt_of_pos l[i] (show (0 : Int) < 16 by decide); rw [hj] at this; simp only [Int.ofNat_eq_natCast] at this; omega
      rw [hj]
      simp only [Option.bind_some]
      obtain ⟨b, h', f1, f2, f3, f4, f5, f6⟩ := Pure.setb hc.wf ho hj2 (x[j] ^^^ by_)
      rw [f1]
      simp only [asP_ptr, Option.bind_some, f2, asI_int]
      rw [xor_u8]
      simp only [asI_int, Option.bind_some]
      rw [f3]
      simp only [Option.bind_some]
      rw [wrap_succ (by omega)]
      exact Pure.roots_l0 k w0 rs by_ n (i + 1) h' z (x.set j (x[j] ^^^ by_)) (by omega) (by omega) (Ch0.own hc f4 hb) f6 hb (by rw [List.length_set]; exact hx)
    · have hg : (cond (decide (Int.ofNat i < Int.ofNat s.n)) (some (decide (Int.ofNat i < (2 : Int)), h)) (some (false, h)) : Option (Bool × H)) = some (false, h) := by
        by_cases q : i < l.length
        · rw [← hl, decide_eq_true (show Int.ofNat i < Int.ofNat l.length by simp; omega), decide_eq_false (show ¬ Int.ofNat i < (2 : Int) by simp; omega)]; rfl
        · rw [← hl, decide_eq_false (show ¬ Int.ofNat i < Int.ofNat l.length by simp; omega)]; rfl
      rw [hg]
      simp only [Option.bind_some, cond_false]
      exact ⟨h, x, rfl, hc, ho⟩
theorem Pure.roots_f (k : Nat) (hk : 1000000 < k) {h : H} (w : WF h) (a b c d : Int) (near : Bool) {at_ : Sl} {l : List Int} (ra : SlR 1 h at_ (ivs l)) (by_ : UInt8) {raw : Sl} {x : List UInt8} (rr : SlR 1 h raw (byt x)) (hx : x.length ≤ 140737488355328) :
    ∃ h', corbellaw19_MetaRoots.f k a b c d near at_ (Int.ofNat by_.toNat) raw h = some (true, h') := by
  unfold corbellaw19_MetaRoots.f
  rw [show [Value.int .i64 (0 : Int), Value.int .i64 0, Value.int .i64 0, Value.int .i64 0] = rtV 0 0 0 0 from rfl]
  rw [show [Value.int .i64 a, Value.int .i64 b, Value.int .i64 c, Value.int .i64 d] = rtV a b c d from rfl]
  obtain ⟨h1, a1, a2, a3, a4⟩ := box_ok w 46 4 (rtV 0 0 0 0) (rtV a b c d) rfl rfl rfl
  rw [a1]
  simp only [Option.bind_some]
  have P : ∀ (n m : Int) (h0 : 0 < m) (h1 : m ≤ 4611686018427387904) (g : H), corbelhand_Pick.f k n m g = some (n % m, g) := fun n m h0 h1 g => pick_f k n m g h0 h1
  simp only [P a 1099511627776 (by decide) (by decide), P b 2 (by decide) (by decide), P c 1030 (by decide) (by decide), P d 4294967296 (by decide) (by decide), Option.bind_some]
  have J : ∃ (q : Rt) (h2 : H), (cond near
      ((stv 4 h1 (some ⟨h.next, 0, none⟩) [(Value.int .i64 (wrapA .i64 ((1 : Int) + a % 1099511627776))), (Value.int .i64 (b % 2)), (Value.int .i64 (wrapA .i64 ((1 : Int) + c % 1030))), (Value.int .i64 (d % 4294967296))]).bind fun q6 =>
    some ((), q6.2))
      (some ((), h1)) : Option ((Unit) × H)) = some ((), h2) ∧ Ch0 h h2 ∧ Is h2 h.next 46 4 (rtV q.vr q.cp q.ln q.sm) := by
    cases near with
    | false => exact ⟨⟨a, b, c, d⟩, h1, rfl, a2, a4⟩
    | true =>
      obtain ⟨h2, b1, b2, b3, b4⟩ := Is.whole a2.wf a4 rfl (rtV (wrapA .i64 ((1 : Int) + a % 1099511627776)) (b % 2) (wrapA .i64 ((1 : Int) + c % 1030)) (d % 4294967296)) rfl rfl
      rw [cond_true]
      rw [show [(Value.int .i64 (wrapA .i64 ((1 : Int) + a % 1099511627776))), (Value.int .i64 (b % 2)), (Value.int .i64 (wrapA .i64 ((1 : Int) + c % 1030))), (Value.int .i64 (d % 4294967296))] = rtV (wrapA .i64 ((1 : Int) + a % 1099511627776)) (b % 2) (wrapA .i64 ((1 : Int) + c % 1030)) (d % 4294967296) from rfl, b1]
      exact ⟨⟨_, _, _, _⟩, h2, rfl, Ch0.at a2 b2 (Nat.le_refl _), b4⟩
  obtain ⟨q, h2, j1, j2, j3⟩ := J
  rw [j1]
  simp only [Option.bind_some]
  rw [Is.rt j3, bindRt]
  dsimp only
  rw [show ((q.vr, q.cp, q.ln, q.sm) : RtT) = q.tup from rfl]
  obtain ⟨s3, h3, c1, c2, c3, c4⟩ := mlay_f k (by omega) j2.wf q
  rw [c1]
  simp only [Option.bind_some]
  rw [Is.rt (j3.stay j2.wf c2), bindRt]
  dsimp only
  rw [show ((q.vr, q.cp, q.ln, q.sm) : RtT) = q.tup from rfl]
  obtain ⟨s4, h4, d1, d2, d3, d4⟩ := rlay_f k (by omega) c2.wf q
  rw [d1]
  simp only [Option.bind_some]
  rw [txt_sl (c3.slr.stay c2.wf d2), txt_sl d3.slr]
  simp only [Option.bind_some, ba_eq, decide_true, Bool.not_true, cond_false]
  have G13' : (!(((if q.right = true then (0 : Int) else 1) == (0 : Int)) == q.right)) = false := by cases q.right <;> rfl
  rw [G13']
  simp only [cond_false]
  have c04 : Ch0 h h4 := (j2.then c2).then d2
  obtain ⟨s6, h6, e1, e2, e3, e4⟩ := few_f k c04.wf (rr.stay w c04) x.length (by omega) (Int.ofNat raw.n) (by rw [rr.n_byt])
  rw [e1]
  simp only [Option.bind_some]
  have c06 : Ch0 h h6 := c04.then e2
  have K : ∃ z y h7, (cond q.right
      ((corbelhand_Few.f k s4 (Int.ofNat s4.n) h6).bind fun q16 =>
    (corbellaw19_MetaRoots.l0 k k at_ (Int.ofNat by_.toNat) q16.1 (0 : Int) q16.2).bind fun w31 =>
    some (q16.1, w31.2))
      (some (s6, h6)) : Option ((Sl) × H)) = some (z, h7) ∧ Ch0 h6 h7 ∧ SlR 1 h7 z (byt y) := by
    cases hr : q.right with
    | false => exact ⟨s6, _, h6, rfl, Ch.refl e2.wf, e3.slr⟩
    | true =>
      have j36 := d3.stay d2.wf e2
      rw [hr, if_pos rfl] at j36
      have ll := layR_len q
      obtain ⟨z, h7, u1, u2, u3, u4⟩ := few_f k c06.wf j36.slr (layR q).length (by omega) (Int.ofNat s4.n) (by rw [j36.slr.n_byt])
      rw [cond_true, u1]
      simp only [Option.bind_some]
      rw [List.take_of_length_le (Nat.le_refl _)] at u3
      obtain ⟨h8, y, v1, v2, v3⟩ := Pure.roots_l0 k c06.wf (ra.stay w c06) by_ k 0 h7 z (layR q) (by omega) (by omega) u2 u3 u4 ll
      rw [show (0 : Int) = Int.ofNat 0 from rfl, v1]
      exact ⟨z, y, h8, rfl, v2, v3.slr⟩
  obtain ⟨z, y, h7, k1, k2, k3⟩ := K
  rw [k1]
  simp only [Option.bind_some]
  obtain ⟨h8, l1, l2⟩ := mread_f k hk k2.wf k3
  rw [l1]
  simp only [Rt.tup, Option.bind_some]
  rw [show [Value.int .i64 (resR y).vr, Value.int .i64 (resR y).cp, Value.int .i64 (resR y).ln, Value.int .i64 (resR y).sm] = rtV (resR y).vr (resR y).cp (resR y).ln (resR y).sm from rfl]
  obtain ⟨h9, m1, m2, m3, m4⟩ := box_ok l2.wf 46 4 (rtV 0 0 0 0) (rtV (resR y).vr (resR y).cp (resR y).ln (resR y).sm) rfl rfl rfl
  rw [m1]
  simp only [Option.bind_some]
  have c79 : Ch0 h7 h9 := l2.then m2
  obtain ⟨h10, n1, n2⟩ := rread_f k hk c79.wf (k3.stay k2.wf c79)
  rw [n1]
  simp only [Rt.tup, Option.bind_some]
  rw [show [Value.int .i64 (resR y).vr, Value.int .i64 (resR y).cp, Value.int .i64 (resR y).ln, Value.int .i64 (resR y).sm] = rtV (resR y).vr (resR y).cp (resR y).ln (resR y).sm from rfl]
  obtain ⟨h11, o1, o2, o3, o4⟩ := box_ok n2.wf 46 4 (rtV 0 0 0 0) (rtV (resR y).vr (resR y).cp (resR y).ln (resR y).sm) rfl rfl rfl
  rw [o1]
  simp only [Option.bind_some, cond_true]
  rw [Is.rt (m4.stay m2.wf (n2.then o2)), bindRt]
  rw [Is.rt o4, bindRt]
  dsimp only
  rw [rootEq]
  simp only [Option.bind_some, cond_true]
  cases okR y with
  | false => exact ⟨h11, rfl⟩
  | true => exact ⟨h11, rfl⟩
theorem Pure.MetaRoots : ∀ h x vs, Den.WF h → Den.Dead h → Ar.MetaRoots.R h x vs → Ar.MetaRoots.Q x → ∃ a, Den.encL [.int .i64, .int .i64, .int .i64, .int .i64, .bool, .sl, .int .u8, .sl] a = vs ∧ Den.toldB (Fwd.corbellaw19_MetaRoots.f 2000000 a.1 a.2.1 a.2.2.1 a.2.2.2.1 a.2.2.2.2.1 a.2.2.2.2.2.1 a.2.2.2.2.2.2.1 a.2.2.2.2.2.2.2 h) = true := by
  rintro h ⟨a, b, c, d, near, at_, by_, raw, _⟩ vs w _ ⟨va, vb, rfl, r1, vc, vd, rfl, r2, ve, vf, rfl, r3, vg, vh, rfl, r4, vi, vj, rfl, r5, vk, vl, rfl, r6, vm, vn, rfl, r7, vo, vp, rfl, r8, rfl⟩ ⟨_, _, _, _, _, _, q3, ⟨q1, _, q2⟩, _⟩
  obtain rfl := r1
  obtain rfl := r2
  obtain rfl := r3
  obtain rfl := r4
  obtain rfl := r5
  obtain rfl := r7
  obtain ⟨t, rfl, t1, _⟩ := RSl.one (f := fun n => .int .i64 n) (fun _ _ _ e => e) w r6
  obtain ⟨s, rfl, s1, s2, _⟩ := RSl.one (f := fun n => .int .u8 n) (fun _ _ _ e => e) w r8
  obtain ⟨by_, rfl⟩ := Pure.wf8 q3
  obtain ⟨x, e1, e2⟩ := Pure.asBytes raw q2
  rw [e1] at s1
  have hb : Try.prog.bytesOf 5 = 1 := by kernel_rfl
  have hlen : x.length ≤ 140737488355328 := by
    have q1 : raw.length * Try.prog.bytesOf 5 ≤ reachBytes := q1
    rw [hb] at q1
    have : reachBytes ≤ 140737488355328 := by unfold reachBytes; decide
    omega
  obtain ⟨h', g⟩ := Pure.roots_f 2000000 (by decide) w a b c d near t1 by_ s1 hlen
  exact ⟨(a, b, c, d, near, t, Int.ofNat by_.toNat, s), rfl, (congrArg toldB g).trans rfl⟩
end Go.Proofs.Ytfenkpghcbohdaa
