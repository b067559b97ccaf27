/- call's requests: reading. No condition. -/
import Derived.Test.YthpkhegoamhgeaaFwCall2
namespace Go.Proofs.Ythpkhegoamhgeaa.Fw
open Go Den Fwd
set_option linter.unusedVariables false
set_option linter.unusedSimpArgs false
theorem Ch0.at {h0 h h' : H} {r : Nat} (c : Ch0 h0 h) (d : Ch (fun b => b = r) h h') (hr : h0.next ≤ r) : Ch0 h0 h' := c.trans d fun x hx f => by omega
def parseC (b : List UInt8) : Cr := ⟨Int.ofNat (unbe (cutL b 0 1)), Int.ofNat (unbe (cutL b 1 3)), Int.ofNat (unbe (cutL b 3 9)), Int.ofNat (unbe (cutL b 9 10)), b.drop 12⟩
def readP (b : List UInt8) : Option Cr := if 12 ≤ b.length ∧ (parseC b).right = true ∧ layC (parseC b) = b then some (parseC b) else none
def resP (b : List UInt8) : Cr := (readP b).getD Cr.zero
/-- what the reader makes of it -/
def chainC (b : List UInt8) : Cr :=
  let t1 := takeP b 1
  let t2 := takeP t1.2 2
  let t3 := takeP t2.2 6
  let t4 := takeP t3.2 1
  let t5 := takeP t4.2 2
  ⟨Int.ofNat (unbe t1.1), Int.ofNat (unbe t2.1), Int.ofNat (unbe t3.1), Int.ofNat (unbe t4.1), (takeP t5.2 (unbe t5.1)).1⟩
theorem takeP_len (x : List UInt8) (n : Nat) : (takeP x n).2.length ≤ x.length ∧ (takeP x n).1.length ≤ x.length := by
  unfold takeP
  split
  · exact ⟨Nat.zero_le _, Nat.zero_le _⟩
  · exact ⟨by rw [List.length_drop]; omega, by rw [List.length_take]; omega⟩
theorem takeP_ok {x : List UInt8} {n : Nat} (h : n ≤ x.length) : takeP x n = (x.take n, x.drop n) := by unfold takeP; rw [if_neg (by omega)]
theorem chain_long {b : List UInt8} (h : 12 ≤ b.length) : chainC b = { parseC b with data := (takeP (b.drop 12) (unbe (cutL b 10 12))).1 } := by
  unfold chainC parseC
  simp only
  have e1 : takeP b 1 = (b.take 1, b.drop 1) := takeP_ok (by omega)
  have e2 : takeP (b.drop 1) 2 = ((b.drop 1).take 2, (b.drop 1).drop 2) := takeP_ok (by rw [List.length_drop]; omega)
  have e3 : takeP ((b.drop 1).drop 2) 6 = (((b.drop 1).drop 2).take 6, ((b.drop 1).drop 2).drop 6) := takeP_ok (by rw [List.length_drop, List.length_drop]; omega)
  have e4 : takeP (((b.drop 1).drop 2).drop 6) 1 = ((((b.drop 1).drop 2).drop 6).take 1, (((b.drop 1).drop 2).drop 6).drop 1) := takeP_ok (by rw [List.length_drop, List.length_drop, List.length_drop]; omega)
  have e5 : takeP ((((b.drop 1).drop 2).drop 6).drop 1) 2 = (((((b.drop 1).drop 2).drop 6).drop 1).take 2, ((((b.drop 1).drop 2).drop 6).drop 1).drop 2) := takeP_ok (by rw [List.length_drop, List.length_drop, List.length_drop, List.length_drop]; omega)
  rw [e1]; simp only; rw [e2]; simp only; rw [e3]; simp only; rw [e4]; simp only; rw [e5]
  simp only [cutL, List.drop_drop, List.drop_zero]
theorem unbe1 (c : UInt8) : unbe [c] = c.toNat := by unfold unbe unbeA unbeA; omega
/-- reading and the reference's reading are one -/
theorem chain_read (b : List UInt8) : (readP b).isSome = ((chainC b).right && decide (layC (chainC b) = b)) ∧ ((readP b).isSome = true → readP b = some (chainC b)) := by
  by_cases h : 12 ≤ b.length
  · rw [chain_long h]
    -- the length told
    have key : ∀ q : Cr, q.data.length ≤ 65535 → layC q = b → unbe (cutL b 10 12) = q.data.length := fun q hq e => by
      have e2 : cutL b 10 12 = beN q.data.length 2 := by
        rw [← e]
        unfold layC
        rw [cutL_app (by simp only [List.length_append, beN_len]; omega)]
        rfl
      rw [e2, unbe_be (by omega)]
    by_cases c : (parseC b).right = true ∧ layC (parseC b) = b
    · have rt := (Cr.right_iff _).1 c.1
      have hr : readP b = some (parseC b) := by unfold readP; rw [if_pos ⟨h, c⟩]
      have dl : (parseC b).data.length ≤ 128 := rt.dl
      have hn := key _ (by omega) c.2
      have hd : (takeP (b.drop 12) (unbe (cutL b 10 12))).1 = (parseC b).data := by
        rw [hn, show (parseC b).data = b.drop 12 from rfl, takeP_ok (Nat.le_refl _)]
        show (b.drop 12).take (b.drop 12).length = b.drop 12
        rw [List.take_of_length_le (Nat.le_refl _)]
      rw [hd, hr]
      show (some (parseC b)).isSome = ((parseC b).right && decide (layC (parseC b) = b)) ∧ _
      rw [c.1, decide_eq_true c.2]
      exact ⟨rfl, fun _ => rfl⟩
    · have hr : readP b = none := by unfold readP; rw [if_neg fun f => c f.2]
      rw [hr]
      refine ⟨?_, fun f => by cases f⟩
      cases q1 : ({ parseC b with data := (takeP (b.drop 12) (unbe (cutL b 10 12))).1 } : Cr).right with
      | false => rfl
      | true =>
        rw [decide_eq_false]; · rfl
        intro f
        have rt := (Cr.right_iff _).1 q1
        have dl : (takeP (b.drop 12) (unbe (cutL b 10 12))).1.length ≤ 128 := rt.dl
        have hn := key _ (by show (takeP (b.drop 12) (unbe (cutL b 10 12))).1.length ≤ _; omega) f
        have hl := congrArg List.length f
        rw [layC_len] at hl
        have hl : 12 + (takeP (b.drop 12) (unbe (cutL b 10 12))).1.length = b.length := hl
        have hn : unbe (cutL b 10 12) = (takeP (b.drop 12) (unbe (cutL b 10 12))).1.length := hn
        have hd : (takeP (b.drop 12) (unbe (cutL b 10 12))).1 = (parseC b).data := by
          have : unbe (cutL b 10 12) = (b.drop 12).length := by rw [List.length_drop]; omega
          rw [this, takeP_ok (Nat.le_refl _)]
          show (b.drop 12).take (b.drop 12).length = b.drop 12
          rw [List.take_of_length_le (Nat.le_refl _)]
        rw [hd] at q1 f
        exact c ⟨q1, f⟩
  · have hr : readP b = none := by unfold readP; rw [if_neg fun f => h f.1]
    rw [hr]
    refine ⟨?_, fun f => by cases f⟩
    rw [decide_eq_false, Bool.and_false]
    · rfl
    · intro f
      have := congrArg List.length f
      rw [layC_len] at this; omega
theorem cread_f (k : Nat) (hk : 1000000 < k) {h : H} (w : WF h) {s : Sl} {x : List UInt8} (r : SlR 1 h s (byt x)) (hx : x.length ≤ 140737488355328) :
    ∃ d h', call_ReadReq.f k s h = some (((resP x).tup d, if (readP x).isSome then 0 else 2), h') ∧ Ch0 h h' ∧ SlR 1 h' d (byt (resP x).data) := by
  unfold call_ReadReq.f
  rw [show [Value.int .i64 (0 : Int), Value.int .i64 0, Value.int .i64 0, Value.int .i64 0, Value.slice none 0 0] = crV 0 0 0 0 ⟨none, 0, 0⟩ from rfl]
  obtain ⟨z1, z2, z3⟩ := newR_ok w 48 5 (crV 0 0 0 0 ⟨none, 0, 0⟩)
  generalize newR h 48 5 (crV 0 0 0 0 ⟨none, 0, 0⟩) = g0 at z1 z2 z3 ⊢
  obtain ⟨s1, g1, a1, a2, a3, a4, a5⟩ := clone_f k z1.wf (r.stay w z1) hx
  rw [a1]
  simp only [Option.bind_some]
  rw [show [Value.slice s1.a s1.n s1.c, Value.bool false] = [slv s1, .bool false] from rfl]
  obtain ⟨y1, y2, y3⟩ := newR_ok a2.wf 92 2 [slv s1, .bool false]
  generalize newR g1 92 2 [slv s1, .bool false] = g2 at y1 y2 y3 ⊢
  have rb : h.next ≤ g1.next := by have := a2.le; omega
  have ns1 : ¬ SlB s1 g1.next := fun f => by have := a3.lt a2.wf f; omega
  have c2 : Ch0 h g2 := (z1.then a2).then y1
  obtain ⟨s2, g3, b1, b2, b3, b4, b5⟩ := cnumber_f k (by omega) c2.wf y3 (a3.slr.stay a2.wf y1) ns1 hx 1 (by decide) 1 rfl
  rw [b1]
  simp only [Option.bind_some]
  have c3 := Ch0.at c2 b2 rb
  have hx1 := (takeP_len x 1).1
  obtain ⟨s3, g4, d1, d2, d3, d4, d5⟩ := cnumber_f k (by omega) c3.wf b3 b4 (fun f => ns1 (b5 _ f)) (by omega) 2 (by decide) 2 rfl
  rw [d1]
  simp only [Option.bind_some]
  have c4 := Ch0.at c3 d2 rb
  have hx2 := (takeP_len (takeP x 1).2 2).1
  obtain ⟨s4, g5, e1, e2, e3, e4, e5⟩ := cnumber_f k (by omega) c4.wf d3 d4 (fun f => ns1 (b5 _ (d5 _ f))) (by omega) 6 (by decide) 6 rfl
  rw [e1]
  simp only [Option.bind_some]
  have c5 := Ch0.at c4 e2 rb
  have hx3 := (takeP_len (takeP (takeP x 1).2 2).2 6).1
  obtain ⟨s5, g6, f1, f2, f3, f4, f5⟩ := cnumber_f k (by omega) c5.wf e3 e4 (fun f => ns1 (b5 _ (d5 _ (e5 _ f)))) (by omega) 1 (by decide) 1 rfl
  rw [f1]
  simp only [Option.bind_some]
  have c6 := Ch0.at c5 f2 rb
  have hx4 := (takeP_len (takeP (takeP (takeP x 1).2 2).2 6).2 1).1
  generalize hn1 : unbe (takeP x 1).1 = n1
  generalize hn2 : unbe (takeP (takeP x 1).2 2).1 = n2
  generalize hn3 : unbe (takeP (takeP (takeP x 1).2 2).2 6).1 = n3
  generalize hn4 : unbe (takeP (takeP (takeP (takeP x 1).2 2).2 6).2 1).1 = n4
  rw [show [Value.int .i64 (Int.ofNat n1), Value.int .i64 (Int.ofNat n2), Value.int .i64 (Int.ofNat n3), Value.int .i64 (Int.ofNat n4), Value.slice none 0 0] = crV (Int.ofNat n1) (Int.ofNat n2) (Int.ofNat n3) (Int.ofNat n4) ⟨none, 0, 0⟩ from rfl]
  obtain ⟨g7, p1, p2, p3, p4⟩ := box_ok c6.wf 48 5 (crV 0 0 0 0 ⟨none, 0, 0⟩) (crV (Int.ofNat n1) (Int.ofNat n2) (Int.ofNat n3) (Int.ofNat n4) ⟨none, 0, 0⟩) rfl rfl rfl
  rw [p1]
  simp only [Option.bind_some]
  have c7 := c6.then p2
  have rbl := f3.lt c6.wf
  obtain ⟨s6, g8, q1, q2, q3, q4, q5⟩ := cnumber_f k (by omega) c7.wf (f3.stay c6.wf p2) (f4.stay c6.wf p2) (fun f => ns1 (b5 _ (d5 _ (e5 _ (f5 _ f))))) (by omega) 2 (by decide) 2 rfl
  rw [q1]
  simp only [Option.bind_some]
  have c8 := Ch0.at c7 q2 rb
  have hx5 := (takeP_len (takeP (takeP (takeP (takeP x 1).2 2).2 6).2 1).2 2).1
  have P8 := p4.keep (q2.keep g6.next (by omega) (by omega))
  obtain ⟨s7, t, g9, u1, u2, u3, u4, u5, u6, u7⟩ := take_f k c8.wf q3 q4 (fun f => ns1 (b5 _ (d5 _ (e5 _ (f5 _ (q5 _ f)))))) (by omega) (unbe (takeP (takeP (takeP (takeP (takeP x 1).2 2).2 6).2 1).2 2).1)
  rw [u1]
  simp only [Option.bind_some]
  have c9 := Ch0.at c8 u2 rb
  have l8 := q2.le
  have l9 := u2.le
  have P9 := P8.keep (u2.keep g6.next (by omega) (by omega))
  obtain ⟨g10, v1, v2, v3, v4⟩ := P9.set c9.wf 4 (slv t) (by show 4 < 5; decide) rfl
  rw [show [Value.slice t.a t.n t.c] = [slv t] from rfl, v1]
  simp only [Option.bind_some]
  rw [show (crV (Int.ofNat n1) (Int.ofNat n2) (Int.ofNat n3) (Int.ofNat n4) ⟨none, 0, 0⟩).set 4 (slv t) = crV (Int.ofNat n1) (Int.ofNat n2) (Int.ofNat n3) (Int.ofNat n4) t from rfl] at v4
  have hc6 : h.next ≤ g6.next := c6.le
  have c10 := Ch0.at c9 v2 hc6
  have u5' := u5.keep (h' := g10) fun b hb => v2.keep b (u5.blk c9.wf hb) (by have := u7 b hb; omega)
  rw [Is.cr v4, bindCr]
  dsimp only
  have hq : chainC x = ⟨Int.ofNat n1, Int.ofNat n2, Int.ofNat n3, Int.ofNat n4, (takeP (takeP (takeP (takeP (takeP (takeP x 1).2 2).2 6).2 1).2 2).2 (unbe (takeP (takeP (takeP (takeP (takeP x 1).2 2).2 6).2 1).2 2).1)).1⟩ := by
    rw [← hn1, ← hn2, ← hn3, ← hn4]; rfl
  obtain ⟨kr1, kr2⟩ := chain_read x
  rw [hq] at kr1 kr2
  generalize hQ : (⟨Int.ofNat n1, Int.ofNat n2, Int.ofNat n3, Int.ofNat n4, (takeP (takeP (takeP (takeP (takeP (takeP x 1).2 2).2 6).2 1).2 2).2 (unbe (takeP (takeP (takeP (takeP (takeP x 1).2 2).2 6).2 1).2 2).1)).1⟩ : Cr) = Q at kr1 kr2
  have Qd : Q.data = (takeP (takeP (takeP (takeP (takeP (takeP x 1).2 2).2 6).2 1).2 2).2 (unbe (takeP (takeP (takeP (takeP (takeP x 1).2 2).2 6).2 1).2 2).1)).1 := by rw [← hQ]
  rw [← Qd] at u5'
  have Qt : ((Int.ofNat n1, Int.ofNat n2, Int.ofNat n3, Int.ofNat n4, t) : CrT) = Q.tup t := by rw [← hQ]; rfl
  have Qv : crV (Int.ofNat n1) (Int.ofNat n2) (Int.ofNat n3) (Int.ofNat n4) t = Q.vs t := by rw [← hQ]; rfl
  rw [Qt]
  rw [Qv] at v4
  obtain ⟨s8, g11, w1, w2, w3, w4⟩ := clay_f k (by omega) c10.wf Q t u5'
  rw [w1]
  simp only [Option.bind_some]
  have c11 := c10.then w2
  have Z11 := ((((((((z3.stay z1.wf a2).stay a2.wf y1).keep (b2.keep h.next (by have := a2.le; omega) (by have := a2.le; omega))).keep (d2.keep h.next (by have := a2.le; have := b2.le; omega) (by have := a2.le; omega))).keep (e2.keep h.next (by have := a2.le; have := b2.le; have := d2.le; omega) (by have := a2.le; omega))).keep (f2.keep h.next (by have := a2.le; have := b2.le; have := d2.le; have := e2.le; omega) (by have := a2.le; omega))).stay c6.wf p2).keep (q2.keep h.next (by have := a2.le; have := b2.le; have := d2.le; have := e2.le; have := f2.le; omega) (by have := a2.le; omega)))
  have zl : h.next < g6.next := by have := a2.le; have := b2.le; have := d2.le; have := e2.le; have := f2.le; omega
  have Z12 := ((Z11.keep (u2.keep h.next (by omega) (by have := a2.le; omega))).keep (v2.keep h.next (by omega) (by omega))).stay c10.wf w2
  -- is it whole?
  have G : ((cond ((if Q.right then (0 : Int) else 1) != (0 : Int)) (some (true, g11))
      ((slices_Equal_byte_byte.f k s8 s g11).bind fun q12 =>
    some (!q12.1, q12.2))) : Option (Bool × H)) = some (!(readP x).isSome, g11) := by
    rw [kr1]
    cases hr : Q.right with
    | false => rfl
    | true =>
      rw [hr] at w3
      rw [if_pos rfl] at w3
      have hl : (layC Q).length < k := by
        rw [layC_len]
        have := ((Cr.right_iff Q).1 hr).dl
        omega
      rw [show ((if true = true then (0 : Int) else 1) != (0 : Int)) = false from rfl, cond_false, equal_f k w3.slr (r.stay w c11) hl (by rw [layC_len]; have := ((Cr.right_iff Q).1 hr).dl; omega)]
      rfl
  rw [G]
  simp only [Option.bind_some]
  cases hs : (readP x).isSome with
  | false =>
    have hr : readP x = none := by cases q : readP x with | none => rfl | some _ => rw [q] at hs; cases hs
    have hp : resP x = Cr.zero := by unfold resP; rw [hr]; rfl
    simp only [Bool.not_false, cond_true]
    obtain ⟨g12, x1, x2, x3, x4⟩ := Is.whole c11.wf Z12 rfl (crV 0 0 0 0 ⟨none, 0, 0⟩) rfl rfl
    rw [x1]
    simp only [Option.bind_some]
    rw [Is.cr x4, bindCr, hp]
    exact ⟨⟨none, 0, 0⟩, g12, rfl, Ch0.at c11 x2 (Nat.le_refl _), .inl ⟨rfl, .inl rfl⟩⟩
  | true =>
    have hr := kr2 hs
    have hp : resP x = Q := by unfold resP; rw [hr]; rfl
    simp only [Bool.not_true, cond_false]
    have v11 := v4.stay c10.wf w2
    rw [show Q.vs t = crV Q.kd Q.st Q.gn Q.ix t from rfl] at v11
    rw [Is.cr v11, bindCr]
    dsimp only
    obtain ⟨g12, x1, x2, x3, x4⟩ := Is.whole c11.wf Z12 rfl (crV Q.kd Q.st Q.gn Q.ix t) rfl rfl
    rw [show [Value.int .i64 Q.kd, Value.int .i64 Q.st, Value.int .i64 Q.gn, Value.int .i64 Q.ix, Value.slice t.a t.n t.c] = crV Q.kd Q.st Q.gn Q.ix t from rfl, x1]
    simp only [Option.bind_some]
    rw [Is.cr x4, bindCr, hp]
    refine ⟨t, g12, rfl, Ch0.at c11 x2 (Nat.le_refl _), (u5'.stay c10.wf w2).keep fun b hb => x2.keep b (Nat.lt_of_lt_of_le (u5'.blk c10.wf hb) w2.le) (by have := u7 b hb; omega)⟩
/-- a number out of a slice, by the reference -/
theorem from_at (k : Nat) (hk : 1000 < k) {h g : H} {s : Sl} {x : List UInt8} (r : SlR 1 h s (byt x)) (w : WF h) (c : Ch0 h g) (lo hi : Nat) (h1 : lo ≤ hi) (h2 : hi ≤ x.length) (h3 : hi - lo ≤ 7) {xlo : Option Int} {β : Type} (f : Int × H → Option β) (hlo : bnd xlo 0 = some lo) :
    ((asS (subs 1 (.slice s.a s.n s.c) xlo (some (Int.ofNat hi)))).bind fun s1 => (corbelref7_From.f k s1 g).bind f) = f (Int.ofNat (unbe (cutL x lo hi)), g) := by
  obtain ⟨s', e1, e2, e3, e4⟩ := subb_ok r h1 h2 hlo (xhi := some (Int.ofNat hi)) rfl
  rw [e1]
  simp only [asS_slv, Option.bind_some]
  rw [from_f k hk (e3.stay w c) (by show (cutL x lo hi).length ≤ 7; rw [cutL_len h2]; exact h3)]; rfl
theorem byte_at {h g : H} {s : Sl} {x : List UInt8} (r : SlR 1 h s (byt x)) (w : WF h) (c : Ch0 h g) {j : Nat} (hj : j < x.length) : ∃ b o, ixs 1 s.a s.n (Int.ofNat j) = some (.pointer (some ⟨b, o, none⟩)) ∧ ldc g (some ⟨b, o, none⟩) = some (.int .u8 (Int.ofNat (unbe (cutL x j (j + 1))))) ∧ b < h.next := by
  obtain ⟨b, o, h1, h2⟩ := (r.stay w c).elem (j := j) (by rw [r.n_byt]; exact hj)
  refine ⟨b, o, h1, ?_, ?_⟩
  · have := gets_cell h2 (i := 0) (by omega)
    rw [Nat.add_zero] at this
    show g.cell b o = _
    rw [this, List.getElem?_take, if_pos (by omega), List.getElem?_drop, Nat.mul_one, Nat.add_zero, byt_get, List.getElem?_eq_getElem hj]
    have : cutL x j (j + 1) = [x[j]] := by
      unfold cutL
      rw [show j + 1 - j = 1 by omega, List.drop_eq_getElem_cons hj]; rfl
    rw [this, unbe1]; rfl
  · obtain ⟨b', o', h3, h4⟩ := r.elem (j := j) (by rw [r.n_byt]; exact hj)
    rw [h1] at h3
    cases h3
    rcases Nat.lt_or_ge b h.next with q | q
    · exact q
    · unfold H.gets at h4; rw [w.dom b q] at h4; cases h4
theorem rread_f (k : Nat) (hk : 1000000 < k) {h : H} (w : WF h) {s : Sl} {x : List UInt8} (r : SlR 1 h s (byt x)) (hx : x.length ≤ 140737488355328) :
    ∃ d h', corbelref7_ReadReq.f k s h = some (((resP x).tup d, (readP x).isSome), h') ∧ Ch0 h h' ∧ SlR 1 h' d (byt (resP x).data) := by
  unfold corbelref7_ReadReq.f
  rw [show [Value.int .i64 (0 : Int), Value.int .i64 0, Value.int .i64 0, Value.int .i64 0, Value.slice none 0 0] = crV 0 0 0 0 ⟨none, 0, 0⟩ from rfl]
  rw [r.n_byt]
  by_cases c : x.length < 12
  · rw [decide_eq_true (show Int.ofNat x.length < (12 : Int) by simp; omega), cond_true]
    have hr : readP x = none := by unfold readP; rw [if_neg fun f => by omega]
    have hp : resP x = Cr.zero := by unfold resP; rw [hr]; rfl
    obtain ⟨h1, a1, a2, a3, a4⟩ := box_ok w 48 5 (crV 0 0 0 0 ⟨none, 0, 0⟩) (crV 0 0 0 0 ⟨none, 0, 0⟩) rfl rfl rfl
    rw [a1]
    simp only [Option.bind_some]
    rw [Is.cr a4, bindCr, hp, hr]
    exact ⟨⟨none, 0, 0⟩, h1, rfl, a2, .inl ⟨rfl, .inl rfl⟩⟩
  · rw [decide_eq_false (show ¬ Int.ofNat x.length < (12 : Int) by simp; omega), cond_false]
    obtain ⟨z1, z2, z3⟩ := newR_ok w 48 5 (crV 0 0 0 0 ⟨none, 0, 0⟩)
    generalize newR h 48 5 (crV 0 0 0 0 ⟨none, 0, 0⟩) = g0 at z1 z2 z3 ⊢
    obtain ⟨b0, o0, a1, a2, a3⟩ := byte_at r w z1 (j := 0) (by omega)
    obtain ⟨b9, o9, d1, d2, d3⟩ := byte_at r w z1 (j := 9) (by omega)
    rw [r.n_byt] at a1 d1
    rw [show (0 : Int) = Int.ofNat 0 from rfl, a1, show crV (Int.ofNat 0) (Int.ofNat 0) (Int.ofNat 0) (Int.ofNat 0) ⟨none, 0, 0⟩ = crV 0 0 0 0 ⟨none, 0, 0⟩ from rfl]
    simp only [asP_ptr, Option.bind_some, a2, asI_int]
    have r0 := r.stay w z1
    rw [show (some (3 : Int)) = some (Int.ofNat 3) from rfl, show (some (9 : Int)) = some (Int.ofNat 9) from rfl]
    rw [← r.n_byt]
    rw [from_at k (by omega) r0 z1.wf (Ch.refl z1.wf) 1 3 (by decide) (by omega) (by decide) _ rfl]
    rw [from_at k (by omega) r0 z1.wf (Ch.refl z1.wf) 3 9 (by decide) (by omega) (by decide) _ rfl]
    dsimp only
    rw [r.n_byt, show (9 : Int) = Int.ofNat 9 from rfl, d1]
    simp only [asP_ptr, Option.bind_some, d2, asI_int]
    obtain ⟨s1, e1, e2, e3, e4⟩ := subb_ok r0 (lo := 12) (hi := x.length) (by omega) (Nat.le_refl _) (xlo := some (Int.ofNat 12)) (xhi := none) rfl (by rw [r.n_byt]; rfl)
    rw [r.n_byt] at e1
    rw [show (some (12 : Int)) = some (Int.ofNat 12) from rfl, e1]
    simp only [asS_slv, Option.bind_some]
    rw [List.take_of_length_le (by rw [List.length_drop]; exact Nat.le_refl _)] at e3
    obtain ⟨n1, n2, n3⟩ := newR_ok z1.wf 5 1 []
    have ow : Ow 5 1 (newR g0 5 1 []) ⟨some ⟨g0.next, 0, none⟩, 0, 0⟩ (byt []) := Ow.of_is n3 rfl (by unfold unk; omega)
    obtain ⟨t, g2, f1, f2, f3, f4⟩ := app_b n1.wf ow (e3.stay z1.wf n1) (by rw [List.length_drop]; show 0 + _ ≤ _; omega)
    rw [f1]
    simp only [Option.bind_some]
    have hb : ∀ b, SlB ⟨some ⟨g0.next, 0, none⟩, 0, 0⟩ b → g0.next ≤ b := fun b hb => by obtain ⟨o, q⟩ := hb; have : g0.next = b := congrArg Addr.block (Option.some.inj q); omega
    have c02 : Ch0 g0 g2 := Ch0.own n1 f2 hb
    have tb : ∀ b, SlB t b → g0.next ≤ b := fun b hb' => (f4 b hb').elim (hb b) fun f => by omega
    rw [List.nil_append] at f3
    have q0 : unbe (cutL x 0 (0 + 1)) < 256 := unbe_lt (cutL_len (by omega)) (by decide)
    have q9 : unbe (cutL x 9 (9 + 1)) < 256 := unbe_lt (cutL_len (by omega)) (by decide)
    rw [wrap_in (n := Int.ofNat (unbe (cutL x 0 (0 + 1)))) (by simp only [Int.ofNat_eq_natCast]; omega) (by simp only [Int.ofNat_eq_natCast]; omega), wrap_in (n := Int.ofNat (unbe (cutL x 9 (9 + 1)))) (by simp only [Int.ofNat_eq_natCast]; omega) (by simp only [Int.ofNat_eq_natCast]; omega)]
    generalize hQ : parseC x = Q
    have hv : [Value.int .i64 (Int.ofNat (unbe (cutL x 0 (0 + 1)))), Value.int .i64 (Int.ofNat (unbe (cutL x 1 3))), Value.int .i64 (Int.ofNat (unbe (cutL x 3 9))), Value.int .i64 (Int.ofNat (unbe (cutL x 9 (9 + 1)))), Value.slice t.a t.n t.c] = crV Q.kd Q.st Q.gn Q.ix t := by rw [← hQ]; rfl
    rw [hv]
    have Qd : Q.data = x.drop 12 := by rw [← hQ]; rfl
    rw [← Qd] at f3
    obtain ⟨g3, p1, p2, p3, p4⟩ := box_ok f2.wf 48 5 (crV 0 0 0 0 ⟨none, 0, 0⟩) (crV Q.kd Q.st Q.gn Q.ix t) rfl rfl rfl
    rw [p1]
    simp only [Option.bind_some]
    have S : ∀ b o, b < h.next → same1 g0 g0 (some (.pointer (some ⟨b, o, none⟩))) = true ∧ same1 (newR g0 5 1 []) g2 (some (.pointer (some ⟨b, o, none⟩))) = true := fun b o hb' => ⟨same1_of rfl, same1_of (f2.keep b (by omega) fun f => by have := hb b f; omega)⟩
    simp only [(S b0 o0 a3).1, (S b0 o0 a3).2, (S b9 o9 d3).1, (S b9 o9 d3).2, Bool.and_self, cond_true]
    rw [Is.cr p4, bindCr]
    dsimp only
    have c3 : Ch0 h g3 := (z1.then c02).then p2
    have f3' := f3.slr.stay f2.wf p2
    obtain ⟨g4, u1, u2⟩ := rright_f k p2.wf Q t f3'
    rw [show ((Q.kd, Q.st, Q.gn, Q.ix, t) : CrT) = Q.tup t from rfl, u1]
    simp only [Option.bind_some]
    have c4 := c3.then u2
    have P4 := p4.stay p2.wf u2
    have Z4 := ((z3.stay z1.wf c02).stay f2.wf p2).stay p2.wf u2
    have f4' := f3'.stay p2.wf u2
    have hrp : readP x = if Q.right = true ∧ layC Q = x then some Q else none := by
      unfold readP; rw [hQ]
      by_cases cc : Q.right = true ∧ layC Q = x
      · rw [if_pos cc, if_pos ⟨by omega, cc⟩]
      · rw [if_neg cc, if_neg fun f => cc f.2]
    -- the guard
    have G : ∃ g5 le ef, ((cond (!Q.right) (some (true, g4, [], []))
      ((asSt [(.int .i64), (.int .i64), (.int .i64), (.int .i64), .sl] (lda 5 g4 (some ⟨g2.next, 0, none⟩))).bind fun s16 =>
    (corbelref7_LayReq.f k (s16.1, s16.2.1, s16.2.2.1, s16.2.2.2.1, s16.2.2.2.2) g4).bind fun q17 =>
    (asT (txt q17.2 (Value.slice q17.1.a q17.1.n q17.1.c))).bind fun s18 =>
    (asT (txt q17.2 (Value.slice s.a x.length s.c))).bind fun s19 =>
    some (!(s18.toList == s19.toList), q17.2, ([(7, none)] ++ [(8, (blkOf (some (Value.slice s.a x.length s.c))))]), [(5, g4, q17.2)])) : Option (Bool × H × LEs × EFs))) = some (!(readP x).isSome, g5, le, ef) ∧ Ch0 g4 g5 ∧ dynL [(7, 5), (8, 5)] le ef = true := by
      cases hr : Q.right with
      | false =>
        refine ⟨g4, [], [], ?_, Ch.refl u2.wf, rfl⟩
        rw [hrp, hr, if_neg fun f => by cases f.1]; rfl
      | true =>
        rw [Bool.not_true, cond_false, Is.cr P4, bindCr]
        dsimp only
        obtain ⟨sl, g5, v1, v2, v3, v4⟩ := rlay_f k (by omega) u2.wf Q t f4' hr
        rw [show ((Q.kd, Q.st, Q.gn, Q.ix, t) : CrT) = Q.tup t from rfl, v1]
        simp only [Option.bind_some]
        have c5 := c4.then v2
        rw [txt_sl v3.slr, ← r.n_byt, txt_sl (r.stay w c5)]
        simp only [Option.bind_some, ba_eq]
        refine ⟨g5, [(7, none)] ++ [(8, blkOf (some (Value.slice s.a s.n s.c)))], [(5, g4, g5)], ?_, v2, ?_⟩
        rotate_left
        · obtain ⟨a, n, cc⟩ := s
          have hk : ∀ b, SlB ⟨a, n, cc⟩ b → sameVer g4 g5 b = true := fun b hb => sameVer_of (v2.keep b (Nat.lt_of_lt_of_le (r.blk w hb) c4.le) fun f => f)
          rcases a with _ | ⟨b, o, _ | sp⟩
          · simp [dynL, blkOf]
          · simp [dynL, blkOf, hk b ⟨o, rfl⟩]
          · simp [dynL, blkOf]
        · rw [hrp, hr]
          by_cases e : layC Q = x
          · rw [if_pos ⟨rfl, e⟩, decide_eq_true e]; rfl
          · rw [if_neg fun f => e f.2, decide_eq_false e]; rfl
    obtain ⟨g5, lev, efv, G1, G2, G3⟩ := G
    rw [G1]
    simp only [Option.bind_some]
    rw [G3, cond_true]
    have c5 := c4.then G2
    have Z5 := Z4.stay u2.wf G2
    cases hs : (readP x).isSome with
    | false =>
      have hr : readP x = none := by cases q : readP x with | none => rfl | some _ => rw [q] at hs; cases hs
      have hp : resP x = Cr.zero := by unfold resP; rw [hr]; rfl
      simp only [Bool.not_false, cond_true]
      obtain ⟨g12, x1, x2, x3, x4⟩ := Is.whole c5.wf Z5 rfl (crV 0 0 0 0 ⟨none, 0, 0⟩) rfl rfl
      rw [x1]
      simp only [Option.bind_some]
      rw [Is.cr x4, bindCr, hp]
      exact ⟨⟨none, 0, 0⟩, g12, rfl, Ch0.at c5 x2 (Nat.le_refl _), .inl ⟨rfl, .inl rfl⟩⟩
    | true =>
      have hp : resP x = Q := by
        unfold resP
        rw [hrp] at hs ⊢
        by_cases cc : Q.right = true ∧ layC Q = x
        · rw [if_pos cc]; rfl
        · rw [if_neg cc] at hs; cases hs
      simp only [Bool.not_true, cond_false]
      rw [Is.cr (P4.stay u2.wf G2), bindCr]
      dsimp only
      obtain ⟨g12, x1, x2, x3, x4⟩ := Is.whole c5.wf Z5 rfl (crV Q.kd Q.st Q.gn Q.ix t) rfl rfl
      rw [show [Value.int .i64 Q.kd, Value.int .i64 Q.st, Value.int .i64 Q.gn, Value.int .i64 Q.ix, Value.slice t.a t.n t.c] = crV Q.kd Q.st Q.gn Q.ix t from rfl, x1]
      simp only [Option.bind_some]
      rw [Is.cr x4, bindCr, hp]
      have f5' := f4'.stay u2.wf G2
      exact ⟨t, g12, rfl, Ch0.at c5 x2 (Nat.le_refl _), f5'.keep fun b hb => x2.keep b (f5'.blk c5.wf hb) (by have := tb b hb; omega)⟩
end Go.Proofs.Ythpkhegoamhgeaa.Fw
