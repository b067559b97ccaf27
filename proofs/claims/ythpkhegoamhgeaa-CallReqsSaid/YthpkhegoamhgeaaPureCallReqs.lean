/- CallReqs: the law's forward run comes to true. -/
import Derived.Test.YthpkhegoamhgeaaFwCall4
import Derived.Test.YthpkhegoamhgeaaArCallReqs
namespace Go.Proofs.Ythpkhegoamhgeaa
open Go Den Fwd Fw
set_option linter.unusedVariables false
set_option linter.unusedSimpArgs false
theorem Pure.setb {h : H} (w : WF h) {s : Sl} {x : List UInt8} (r : Ow 5 1 h s (byt x)) {j : Nat} (hj : j < x.length) (c : UInt8) :
    ∃ b h', ixs 1 s.a s.n (Int.ofNat j) = some (.pointer (some ⟨b, j, none⟩)) ∧ ldc h (some ⟨b, j, none⟩) = some (.int .u8 (Int.ofNat x[j].toNat)) ∧ stv 1 h (some ⟨b, j, none⟩) [.int .u8 (Int.ofNat c.toNat)] = some (undef, h') ∧ Ch (SlB s) h h' ∧ h'.next = h.next ∧ Ow 5 1 h' s (byt (x.set j c)) := by
  rcases r with ⟨f, _⟩ | ⟨b, m, cc, rfl, hl, I, hc⟩
  · have := congrArg List.length f
    rw [byt_len] at this
    have this : x.length = 0 := this
    omega
  · rw [byt_len, Nat.mul_one] at hl
    obtain ⟨h', i1, i2, i3, i4⟩ := I.set w j (.int .u8 (Int.ofNat c.toNat)) (by rw [byt_len]; exact hj) rfl
    have e0 : ixs 1 (some ⟨b, 0, none⟩) m (Int.ofNat j) = some (.pointer (some ⟨b, j, none⟩)) := by
      have : ixs 1 (some ⟨b, 0, none⟩) m (Int.ofNat j) = some (.pointer (some ⟨b, 0 + j * 1, none⟩)) := cond_eta _ _ _ (Nat.ble_eq_true_of_le (by show j + 1 ≤ m; omega))
      rw [this, Nat.zero_add, Nat.mul_one]
    refine ⟨b, h', e0, ?_, i1, i2.mono fun x _ hx => by subst hx; exact ⟨0, rfl⟩, i3, .inr ⟨b, m, cc, rfl, by rw [byt_len, List.length_set]; omega, ?_, hc⟩⟩
    · rw [I.ldc, byt_get, List.getElem?_eq_getElem hj]; rfl
    · have : (byt x).set j (.int .u8 (Int.ofNat c.toNat)) = byt (x.set j c) := by unfold byt; rw [List.map_set]
      rw [← this]; exact i4
theorem Pure.reqs_l0 (k : Nat) {h0 : H} (w0 : WF h0) {s : Sl} {l : List Int} (rs : SlR 1 h0 s (ivs l)) (by_ : UInt8) : ∀ n i h z x, 2 - i < n → i ≤ 2 → Ch0 h0 h → Ow 5 1 h z (byt x) → (∀ b, SlB z b → h0.next ≤ b) → 0 < x.length → x.length ≤ 1000000 →
    ∃ h' x', corbellaw11_CallReqs.l0 k n s (Int.ofNat by_.toNat) z (Int.ofNat i) h = some ((), h') ∧ Ch0 h0 h' ∧ Ow 5 1 h' z (byt x') ∧ x'.length = x.length
  | 0, i, h, z, x, hn, _, _, _, _, _, _ => by omega
  | n + 1, i, h, z, x, hn, hi, hc, ho, hb, hx, hx2 => by
    rw [corbellaw11_CallReqs.l0_succ]
    have hl := rs.len
    rw [ivs_len, Nat.mul_one] at hl
    by_cases c : i < l.length ∧ i < 2
    · rw [← hl, decide_eq_true (show Int.ofNat i < Int.ofNat l.length by simp; omega), cond_true, decide_eq_true (show Int.ofNat i < (2 : Int) by simp; omega)]
      simp only [Option.bind_some, cond_true]
      obtain ⟨p, e1, e2⟩ := (rs.stay w0 hc).elem1 (j := i) (by omega)
      rw [ivs_get, List.getElem?_eq_getElem c.1] at e2
      rw [hl, e1]
      simp only [asP_ptr, Option.bind_some, e2, Option.map_some, asI_int]
      have zn := ho.slr.n_byt
      rw [zn, pick_f k _ _ h (by simp only [Int.ofNat_eq_natCast]; omega) (by simp only [Int.ofNat_eq_natCast]; omega)]
      obtain ⟨j, hj⟩ : ∃ j : Nat, l[i] % Int.ofNat x.length = Int.ofNat j := ⟨_, nn _ (Int.emod_nonneg l[i] (show Int.ofNat x.length ≠ 0 by simp only [Int.ofNat_eq_natCast]; omega))⟩
      have hj2 : j < x.length := by have := Int.emod_lt_of_pos l[i] (show (0 : Int) < Int.ofNat x.length by simp only [Int.ofNat_eq_natCast]; omega); rw [hj] at this; simp only [Int.ofNat_eq_natCast] at this; omega
      rw [hj]
      simp only [Option.bind_some]
      obtain ⟨b, h', f1, f2, f3, f4, f5, f6⟩ := Pure.setb hc.wf ho hj2 (x[j] ^^^ by_)
      rw [zn] at f1
      rw [f1]
      simp only [asP_ptr, Option.bind_some, f2, asI_int]
      rw [xor_u8]
      simp only [asI_int, Option.bind_some]
      rw [f3]
      simp only [Option.bind_some]
      rw [wrap_succ (by omega)]
      obtain ⟨h2, x2, g1, g2, g3, g4⟩ := Pure.reqs_l0 k w0 rs by_ n (i + 1) h' z (x.set j (x[j] ^^^ by_)) (by omega) (by omega) (Ch0.own hc f4 hb) f6 hb (by rw [List.length_set]; exact hx) (by rw [List.length_set]; exact hx2)
      exact ⟨h2, x2, g1, g2, g3, by rw [g4, List.length_set]⟩
    · have hg : (cond (decide (Int.ofNat i < Int.ofNat s.n)) (some (decide (Int.ofNat i < (2 : Int)), h)) (some (false, h)) : Option (Bool × H)) = some (false, h) := by
        by_cases q : i < l.length
        · rw [← hl, decide_eq_true (show Int.ofNat i < Int.ofNat l.length by simp; omega), decide_eq_false (show ¬ Int.ofNat i < (2 : Int) by simp; omega)]; rfl
        · rw [← hl, decide_eq_false (show ¬ Int.ofNat i < Int.ofNat l.length by simp; omega)]; rfl
      rw [hg]
      simp only [Option.bind_some, cond_false]
      exact ⟨h, x, rfl, hc, ho, rfl⟩
theorem Pure.bind6 {β : Type} (a b c d e f : Int) (g : FT [.int .i64, .int .i64, .int .i64, .int .i64, .int .i64, .int .i64] → Option β) : (asSt [(.int .i64), (.int .i64), (.int .i64), (.int .i64), (.int .i64), (.int .i64)] (some (Value.agg #[.int .i64 a, .int .i64 b, .int .i64 c, .int .i64 d, .int .i64 e, .int .i64 f]))).bind g = g (show FT [.int .i64, .int .i64, .int .i64, .int .i64, .int .i64, .int .i64] from ((a, b, c, d, e, f) : Int × Int × Int × Int × Int × Int)) := rfl
theorem Pure.reqs_f (k : Nat) (hk : 1000000 < k) {h : H} (w : WF h) (a b c d e f : Int) {raw : Sl} {x : List UInt8} (rr : SlR 1 h raw (byt x)) (hx : x.length ≤ 140737488355328) (how : Int) {at_ : Sl} {l : List Int} (ra : SlR 1 h at_ (ivs l)) (by_ : UInt8) :
    ∃ h', corbellaw11_CallReqs.f k (a, b, c, d, e, f) raw how at_ (Int.ofNat by_.toNat) h = some (true, h') := by
  unfold corbellaw11_CallReqs.f
  dsimp only
  rw [show [Value.int .i64 (0 : Int), Value.int .i64 0, Value.int .i64 0, Value.int .i64 0, Value.slice none 0 0] = crV 0 0 0 0 ⟨none, 0, 0⟩ from rfl]
  obtain ⟨z1, z2, z3⟩ := newR_ok w 46 6 [Value.int IntKind.i64 a, Value.int IntKind.i64 b, Value.int IntKind.i64 c, Value.int IntKind.i64 d, Value.int IntKind.i64 e, Value.int IntKind.i64 f]
  rw [z3.lda (o := 0) (n := 6) (Nat.le_refl _)]
  rw [show ((([Value.int IntKind.i64 a, Value.int IntKind.i64 b, Value.int IntKind.i64 c, Value.int IntKind.i64 d, Value.int IntKind.i64 e, Value.int IntKind.i64 f] : List Value).drop 0).take 6).toArray = #[.int .i64 a, .int .i64 b, .int .i64 c, .int .i64 d, .int .i64 e, .int .i64 f] from rfl, Pure.bind6]
  dsimp only
  generalize newR h 46 6 [Value.int IntKind.i64 a, Value.int IntKind.i64 b, Value.int IntKind.i64 c, Value.int IntKind.i64 d, Value.int IntKind.i64 e, Value.int IntKind.i64 f] = g0 at z1 z2 z3 ⊢
  obtain ⟨q, dq, h1, a1, a2, a3, a4⟩ := req_f k (by omega) z1.wf a b c d e f
  rw [a1]
  simp only [Cr.tup, Option.bind_some]
  rw [show [Value.int .i64 q.kd, Value.int .i64 q.st, Value.int .i64 q.gn, Value.int .i64 q.ix, Value.slice dq.a dq.n dq.c] = crV q.kd q.st q.gn q.ix dq from rfl]
  obtain ⟨h2, b1, b2, b3, b4⟩ := box_ok a2.wf 48 5 (crV 0 0 0 0 ⟨none, 0, 0⟩) (crV q.kd q.st q.gn q.ix dq) rfl rfl rfl
  rw [b1]
  simp only [Option.bind_some]
  rw [Is.cr b4, bindCr]
  dsimp only
  have r2 := a3.stay a2.wf b2
  rw [show ((q.kd, q.st, q.gn, q.ix, dq) : CrT) = q.tup dq from rfl]
  obtain ⟨h3, c1, c2⟩ := rright_f k b2.wf q dq r2
  rw [c1]
  simp only [Option.bind_some]
  have r3 := r2.stay b2.wf c2
  have B3 := b4.stay b2.wf c2
  rw [Is.cr B3, bindCr]
  dsimp only
  rw [show ((q.kd, q.st, q.gn, q.ix, dq) : CrT) = q.tup dq from rfl]
  obtain ⟨s4, h4, d1, d2, d3, d4⟩ := clay_f k (by omega) c2.wf q dq r3
  rw [d1]
  simp only [Option.bind_some]
  have r4 := r3.stay c2.wf d2
  have B4 := B3.stay c2.wf d2
  have c04 : Ch0 h h4 := (((z1.then a2).then b2).then c2).then d2
  -- what is wanted
  have J : ∃ sw h5, (cond q.right
      ((asSt [(.int .i64), (.int .i64), (.int .i64), (.int .i64), .sl] (lda 5 h4 (some ⟨h1.next, 0, none⟩))).bind fun s8 =>
    (corbelref7_LayReq.f k (s8.1, s8.2.1, s8.2.2.1, s8.2.2.2.1, s8.2.2.2.2) h4).bind fun q9 =>
    some (q9.1, q9.2))
      (some ((⟨none, 0, 0⟩ : Sl), h4)) : Option ((Sl) × H)) = some (sw, h5) ∧ Ch0 h4 h5 ∧ Ow 5 1 h5 sw (byt (if q.right then layC q else [])) := by
    cases hr : q.right with
    | false => exact ⟨⟨none, 0, 0⟩, h4, rfl, Ch.refl d2.wf, Ow.nil⟩
    | true =>
      rw [cond_true, Is.cr B4, bindCr]
      dsimp only
      rw [show ((q.kd, q.st, q.gn, q.ix, dq) : CrT) = q.tup dq from rfl]
      obtain ⟨sw, h5, v1, v2, v3, v4⟩ := rlay_f k (by omega) d2.wf q dq r4 hr
      rw [v1]
      exact ⟨sw, h5, rfl, v2, v3⟩
  obtain ⟨sw, h5, j1, j2, j3⟩ := J
  rw [j1]
  simp only [Option.bind_some]
  rw [txt_sl (d3.slr.stay d2.wf j2), txt_sl j3.slr]
  simp only [Option.bind_some, ba_eq, decide_true, Bool.not_true, cond_false]
  have c05 : Ch0 h h5 := c04.then j2
  have G13 : (!((if q.right = true then (0 : Int) else 1) == (0 : Int)) == q.right) = false := by cases q.right <;> rfl
  have G13' : (!(((if q.right = true then (0 : Int) else 1) == (0 : Int)) == q.right)) = false := by cases q.right <;> rfl
  rw [G13']
  simp only [cond_false]
  have G14 : (cond (!q.right) (some ((if q.right = true then (0 : Int) else 1) != (1 : Int), h5)) (some (false, h5)) : Option (Bool × H)) = some (false, h5) := by cases q.right <;> rfl
  rw [G14]
  simp only [Option.bind_some, cond_false]
  -- the bytes that are read
  obtain ⟨s6, h6, e1, e2, e3, e4⟩ := few_f k c05.wf (rr.stay w c05) x.length (by omega) (Int.ofNat raw.n) (by rw [rr.n_byt])
  rw [e1]
  simp only [Option.bind_some]
  have c06 : Ch0 h h6 := c05.then e2
  have j36 := j3.stay j2.wf e2
  have K : ∃ z y h7, ((cond q.right (some (decide ((how.tmod (4 : Int)) > (0 : Int)), h6)) (some (false, h6))).bind fun g17 =>
    (cond g17.1
      ((corbelhand_Few.f k sw (Int.ofNat sw.n) g17.2).bind fun q18 =>
    (corbellaw11_CallReqs.l0 k k at_ (Int.ofNat by_.toNat) q18.1 (0 : Int) q18.2).bind fun w33 =>
    some (q18.1, w33.2))
      (some (s6, g17.2)) : Option ((Sl) × H))) = some (z, h7) ∧ Ch0 h6 h7 ∧ SlR 1 h7 z (byt y) ∧ y.length ≤ 140737488355328 := by
    have no : ∃ z y h7, (some (s6, h6) : Option (Sl × H)) = some (z, h7) ∧ Ch0 h6 h7 ∧ SlR 1 h7 z (byt y) ∧ y.length ≤ 140737488355328 := ⟨s6, _, h6, rfl, Ch.refl e2.wf, e3.slr, by rw [List.length_take]; omega⟩
    cases hr : q.right with
    | false => exact no
    | true =>
      simp only [cond_true, Option.bind_some]
      cases (decide ((how.tmod (4 : Int)) > (0 : Int))) with
      | false => exact no
      | true =>
        rw [hr, if_pos rfl] at j36
        have hl : (layC q).length ≤ 200 := by
          rw [layC_len]
          have := ((Cr.right_iff q).1 hr).dl
          omega
        obtain ⟨z, h7, u1, u2, u3, u4⟩ := few_f k c06.wf j36.slr (layC q).length (by omega) (Int.ofNat sw.n) (by rw [j36.slr.n_byt])
        rw [cond_true, u1]
        simp only [Option.bind_some]
        rw [List.take_of_length_le (Nat.le_refl _)] at u3
        obtain ⟨h8, y, v1, v2, v3, v4⟩ := Pure.reqs_l0 k c06.wf (ra.stay w c06) by_ k 0 h7 z (layC q) (by omega) (by omega) u2 u3 u4 (by rw [layC_len]; omega) (by omega)
        rw [show (0 : Int) = Int.ofNat 0 from rfl, v1]
        exact ⟨z, y, h8, rfl, v2, v3.slr, by omega⟩
  obtain ⟨z, y, h7, k1, k2, k3, k4⟩ := K
  rw [← Option.bind_assoc, k1]
  simp only [Option.bind_some]
  have c07 := c06.then k2
  obtain ⟨d8, h8, l1, l2, l3⟩ := cread_f k hk c07.wf k3 k4
  rw [l1]
  simp only [Cr.tup, Option.bind_some]
  rw [show [Value.int .i64 (resP y).kd, Value.int .i64 (resP y).st, Value.int .i64 (resP y).gn, Value.int .i64 (resP y).ix, Value.slice d8.a d8.n d8.c] = crV (resP y).kd (resP y).st (resP y).gn (resP y).ix d8 from rfl]
  obtain ⟨h9, m1, m2, m3, m4⟩ := box_ok l2.wf 48 5 (crV 0 0 0 0 ⟨none, 0, 0⟩) (crV (resP y).kd (resP y).st (resP y).gn (resP y).ix d8) rfl rfl rfl
  rw [m1]
  simp only [Option.bind_some]
  have c79 : Ch0 h7 h9 := l2.then m2
  obtain ⟨d10, h10, n1, n2, n3⟩ := rread_f k hk c79.wf (k3.stay c07.wf c79) k4
  rw [n1]
  simp only [Cr.tup, Option.bind_some]
  rw [show [Value.int .i64 (resP y).kd, Value.int .i64 (resP y).st, Value.int .i64 (resP y).gn, Value.int .i64 (resP y).ix, Value.slice d10.a d10.n d10.c] = crV (resP y).kd (resP y).st (resP y).gn (resP y).ix d10 from rfl]
  obtain ⟨h11, o1, o2, o3, o4⟩ := box_ok n2.wf 48 5 (crV 0 0 0 0 ⟨none, 0, 0⟩) (crV (resP y).kd (resP y).st (resP y).gn (resP y).ix d10) rfl rfl rfl
  rw [o1]
  simp only [Option.bind_some, cond_true]
  have c9b : Ch0 h9 h11 := n2.then o2
  rw [Is.cr (m4.stay m2.wf c9b), bindCr]
  rw [Is.cr o4, bindCr]
  dsimp only
  obtain ⟨h12, p1, p2⟩ := csame_f k o2.wf (resP y) (resP y) d8 d10 (l3.stay l2.wf (m2.then c9b)) (n3.stay n2.wf o2)
  rw [show (((resP y).kd, (resP y).st, (resP y).gn, (resP y).ix, d8) : CrT) = (resP y).tup d8 from rfl, show (((resP y).kd, (resP y).st, (resP y).gn, (resP y).ix, d10) : CrT) = (resP y).tup d10 from rfl, p1]
  simp only [Option.bind_some, decide_true, cond_true]
  cases (readP y).isSome with
  | false => exact ⟨h12, rfl⟩
  | true => exact ⟨h12, rfl⟩
theorem Pure.wf8 {n : Int} (h : (Lit.int .u8 n).wf = true) : ∃ m : UInt8, n = Int.ofNat m.toNat := by
  unfold Lit.wf at h
  simp only [Bool.and_eq_true, decide_eq_true_eq] at h
  have h0 : (0 : Int) ≤ n := h.1
  have h1 : n ≤ 255 := h.2
  exact ⟨UInt8.ofNat n.toNat, by simp; omega⟩
theorem Pure.asBytes : ∀ l : List Int, (∀ n ∈ l, (Lit.int .u8 n).wf = true) → ∃ x : List UInt8, l.map (fun n => Value.int .u8 n) = byt x ∧ x.length = l.length
  | [], _ => ⟨[], rfl, rfl⟩
  | n :: l, h => by
    obtain ⟨m, rfl⟩ := Pure.wf8 (h n List.mem_cons_self)
    obtain ⟨x, e1, e2⟩ := Pure.asBytes l fun n hn => h n (List.mem_cons_of_mem _ hn)
    exact ⟨m :: x, by rw [List.map_cons, e1]; rfl, by rw [List.length_cons, List.length_cons, e2]⟩
theorem Pure.CallReqs : ∀ h x vs, Den.WF h → Den.Dead h → Ar.CallReqs.R h x vs → Ar.CallReqs.Q x → ∃ a, Den.encL [.st [.int .i64, .int .i64, .int .i64, .int .i64, .int .i64, .int .i64], .sl, .int .i64, .sl, .int .u8] a = vs ∧ Den.toldB (Fwd.corbellaw11_CallReqs.f 2000000 a.1 a.2.1 a.2.2.1 a.2.2.2.1 a.2.2.2.2 h) = true := by
  rintro h ⟨⟨a, b, c, d, e, f⟩, raw, how, at_, by_, _⟩ vs w _ ⟨va, vb, rfl, ⟨ll, rfl, x1, y1, rfl, r1, x2, y2, rfl, r2, x3, y3, rfl, r3, x4, y4, rfl, r4, x5, y5, rfl, r5, r6⟩, vc, vd, rfl, r7, ve, vf, rfl, r8, vg, vh, rfl, r9, vi, vj, rfl, r10, rfl⟩ ⟨_, ⟨q1, _, q2⟩, _, _, q3, _⟩
  obtain rfl := r1
  obtain rfl := r2
  obtain rfl := r3
  obtain rfl := r4
  obtain rfl := r5
  obtain rfl := r6
  obtain rfl := r8
  obtain rfl := r10
  obtain ⟨s, rfl, s1, s2, _⟩ := RSl.one (f := fun n => .int .u8 n) (fun _ _ _ e => e) w r7
  obtain ⟨t, rfl, t1, _⟩ := RSl.one (f := fun n => .int .i64 n) (fun _ _ _ e => e) w r9
  obtain ⟨by_, rfl⟩ := Pure.wf8 q3
  obtain ⟨x, e1, e2⟩ := Pure.asBytes raw q2
  rw [e1] at s1
  have hb : Try.prog.bytesOf 5 = 1 := by kernel_rfl
  have hlen : x.length ≤ 140737488355328 := by
    have q1 : raw.length * Try.prog.bytesOf 5 ≤ reachBytes := q1
    rw [hb] at q1
    have : reachBytes ≤ 140737488355328 := by unfold reachBytes; decide
    omega
  obtain ⟨h', g⟩ := Pure.reqs_f 2000000 (by decide) w a b c d e f s1 hlen how t1 by_
  exact ⟨((a, b, c, d, e, f), s, how, t, Int.ofNat by_.toNat), rfl, (congrArg toldB g).trans rfl⟩
end Go.Proofs.Ythpkhegoamhgeaa
