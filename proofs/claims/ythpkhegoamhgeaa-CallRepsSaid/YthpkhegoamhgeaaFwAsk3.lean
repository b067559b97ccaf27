/- ask, as plain lists: Next, and what the laws are made of. No condition. -/
import Derived.Test.YthpkhegoamhgeaaFwAsk2
namespace Go.Proofs.Ythpkhegoamhgeaa.Fw
open Go Den Fwd
set_option linter.unusedVariables false
set_option linter.unusedSimpArgs false

def cutL (b : List UInt8) (lo hi : Nat) : List UInt8 := (b.drop lo).take (hi - lo)
def rqOf (b : List UInt8) : Rq := ⟨unbe (cutL b 4 6), unbe (cutL b 6 8), unbe (cutL b 8 16), unbe (cutL b 16 24), unbe (cutL b 24 28), []⟩
/-- the next request, its bytes, why there is none -/
def nextP (b : List UInt8) : Rq × Nat × Nat :=
  if 4 ≤ b.length ∧ unbe (cutL b 0 4) ≠ 627086611 then (Rq.zero, 0, 2)
  else if b.length < 28 then (Rq.zero, 0, 7)
  else if (rqOf b).ty ≠ 1 then (rqOf b, 28, 0)
  else if 32768 < (rqOf b).le then (Rq.zero, 0, 6)
  else if b.length < 28 + (rqOf b).le then (Rq.zero, 0, 7)
  else ({ rqOf b with data := cutL b 28 (28 + (rqOf b).le) }, 28 + (rqOf b).le, 0)
theorem cutL_len {b : List UInt8} {lo hi : Nat} (h : hi ≤ b.length) : (cutL b lo hi).length = hi - lo := by unfold cutL; rw [List.length_take, List.length_drop]; omega
/-- a number out of a slice of bytes -/
theorem num_at (k : Nat) (hk : 1000 < k) {h g : H} {s : Sl} {x : List UInt8} (r : SlR 1 h s (byt x)) (w : WF h) (c : Ch0 h g) (lo hi : Nat) (h1 : lo ≤ hi) (h2 : hi ≤ x.length) (h3 : hi - lo ≤ 8) {xlo : Option Int} {β : Type} (f : Int × H → Option β) (hlo : bnd xlo 0 = some lo) :
    ((asS (subs 1 (.slice s.a s.n s.c) xlo (some (Int.ofNat hi)))).bind fun s1 => (ask_number.f k s1 g).bind f) = f (Int.ofNat (unbe (cutL x lo hi)), g) := by
  obtain ⟨s', e1, e2, e3, e4⟩ := subb_ok r h1 h2 hlo (xhi := some (Int.ofNat hi)) rfl
  rw [e1]
  simp only [asS_slv, Option.bind_some]
  rw [number_f k hk (e3.stay w c) (by show (cutL x lo hi).length ≤ 8; rw [cutL_len h2]; exact h3)]; rfl
theorem unbe_lt {x : List UInt8} {n s : Nat} (h : x.length = s) (hs : 256 ^ s ≤ n) : unbe x < n := by
  have := unbe_bound x
  rw [h] at this; omega
theorem rqSet (fl ty ck off le : Int) (d d' : Sl) : (rqV fl ty ck off le d).set 5 (slv d') = rqV fl ty ck off le d' := rfl
/-- a box over a box: the whole of it stored -/
theorem Is.rqPut {h : H} (w : WF h) {b : Nat} {l : List Value} (I : Is h b 29 6 l) (hl : l.length = 6) (fl ty ck off le : Int) (d : Sl) :
    ∃ h', stv 6 h (some ⟨b, 0, none⟩) (rqV fl ty ck off le d) = some (undef, h') ∧ Ch (fun c => c = b) h h' ∧ h'.next = h.next ∧ Is h' b 29 6 (rqV fl ty ck off le d) := by
  obtain ⟨h', e1, e2, e3, e4⟩ := stv_ok w I (o := 0) (rqV fl ty ck off le d) (by rw [hl]; exact Nat.le_refl _) rfl
  refine ⟨h', e1, e2, e3, ?_⟩
  have : over l 0 (rqV fl ty ck off le d) = rqV fl ty ck off le d := by
    unfold over
    rw [List.take_zero, List.nil_append, List.drop_eq_nil_of_le (by rw [hl]; exact Nat.le_refl _), List.append_nil]
  rw [← this]; exact e4
theorem next_f (k : Nat) (hk : 1000 < k) {h : H} (w : WF h) {s : Sl} {x : List UInt8} (r : SlR 1 h s (byt x)) (hx : x.length ≤ 140737488355328) :
    ∃ d h', ask_Next.f k s h = some (((nextP x).1.tup d, Int.ofNat (nextP x).2.1, Int.ofNat (nextP x).2.2), h') ∧ Ch0 h h' ∧ SlR 1 h' d (byt (nextP x).1.data) ∧ ∀ b, SlB d b → h.next ≤ b := by
  unfold ask_Next.f
  rw [show [Value.int .i64 (0 : Int), Value.int .i64 0, Value.int .u64 0, Value.int .u64 0, Value.int .i64 0, Value.slice none 0 0] = rqV 0 0 0 0 0 ⟨none, 0, 0⟩ from rfl]
  obtain ⟨z1, z2, z3⟩ := newR_ok w 29 6 (rqV 0 0 0 0 0 ⟨none, 0, 0⟩)
  generalize newR h 29 6 (rqV 0 0 0 0 0 ⟨none, 0, 0⟩) = g0 at z1 z2 z3 ⊢
  have r0 := r.stay w z1
  -- the guard of the magic
  have G : ((cond (decide ((Int.ofNat s.n) ≥ (4 : Int))) ((asS (subs 1 (Value.slice s.a s.n s.c) none (some (4 : Int)))).bind fun s1 =>
    (ask_number.f k s1 g0).bind fun q2 =>
    some (q2.1 != (627086611 : Int), q2.2))
      (some (false, g0))) : Option (Bool × H)) = some (decide (4 ≤ x.length ∧ unbe (cutL x 0 4) ≠ 627086611), g0) := by
    rw [r.n_byt]
    by_cases c : 4 ≤ x.length
    · rw [decide_eq_true (show Int.ofNat x.length ≥ (4 : Int) by simp; omega), cond_true]
      have := num_at k hk (h := g0) (g := g0) r0 z1.wf (Ch.refl z1.wf) 0 4 (by decide) c (by decide) (xlo := none) (fun q2 => some (q2.1 != (627086611 : Int), q2.2)) rfl
      rw [r.n_byt] at this
      refine this.trans ?_
      congr 2
      by_cases e : unbe (cutL x 0 4) = 627086611
      · rw [e, decide_eq_false (fun f => f.2 rfl)]; rfl
      · rw [decide_eq_true ⟨c, e⟩]
        simp only [bne_iff_ne, ne_eq]
        intro f
        exact e (Int.ofNat.inj f)
    · rw [decide_eq_false (show ¬ Int.ofNat x.length ≥ (4 : Int) by simp; omega), cond_false, decide_eq_false (fun f => c f.1)]
  rw [G]
  simp only [Option.bind_some]
  have Z : ∀ (g : H) (w' : WF g) (c : Ch0 h g) (I : Is g h.next 29 6 (rqV 0 0 0 0 0 ⟨none, 0, 0⟩)) (e : Nat), ∃ d h', ((stv 6 g (some ⟨h.next, 0, none⟩) (rqV 0 0 0 0 0 ⟨none, 0, 0⟩)).bind fun q4 =>
    (asSt [(.int .i64), (.int .i64), (.int .u64), (.int .u64), (.int .i64), .sl] (lda 6 q4.2 (some ⟨h.next, 0, none⟩))).bind fun s5 =>
    some (((s5.1, s5.2.1, s5.2.2.1, s5.2.2.2.1, s5.2.2.2.2.1, s5.2.2.2.2.2), (0 : Int), (Int.ofNat e)), q4.2)) = some ((Rq.zero.tup d, Int.ofNat 0, Int.ofNat e), h') ∧ Ch0 h h' ∧ SlR 1 h' d (byt []) ∧ ∀ b, SlB d b → h.next ≤ b := by
    intro g w' c I e
    obtain ⟨h', p1, p2, p3, p4⟩ := Is.rqPut w' I rfl 0 0 0 0 0 ⟨none, 0, 0⟩
    rw [p1]
    simp only [Option.bind_some]
    rw [Is.rq p4, bindRq]
    exact ⟨⟨none, 0, 0⟩, h', rfl, ⟨p2.wf, by have := c.le; omega, fun b hb f => (p2.keep b (by have := c.le; omega) (by omega)).trans (c.keep b hb f)⟩, .inl ⟨rfl, .inl rfl⟩, fun b hb => by obtain ⟨o, q⟩ := hb; cases q⟩
  by_cases g1 : 4 ≤ x.length ∧ unbe (cutL x 0 4) ≠ 627086611
  · rw [decide_eq_true g1]
    simp only [cond_true]
    have e : nextP x = (Rq.zero, 0, 2) := by unfold nextP; rw [if_pos g1]
    rw [e]
    exact Z g0 z1.wf z1 z3 2
  · rw [decide_eq_false g1]
    simp only [cond_false, r.n_byt]
    by_cases g2 : x.length < 28
    · rw [decide_eq_true (show Int.ofNat x.length < (28 : Int) by simp; omega)]
      simp only [cond_true]
      have e : nextP x = (Rq.zero, 0, 7) := by unfold nextP; rw [if_neg g1, if_pos g2]
      rw [e]
      exact Z g0 z1.wf z1 z3 7
    · rw [decide_eq_false (show ¬ Int.ofNat x.length < (28 : Int) by simp; omega)]
      simp only [cond_false]
      have hl : 28 ≤ x.length := by omega
      have rn := r.n_byt
      rw [← rn]
      rw [show (some (6 : Int)) = some (Int.ofNat 6) from rfl, show (some (8 : Int)) = some (Int.ofNat 8) from rfl, show (some (16 : Int)) = some (Int.ofNat 16) from rfl, show (some (24 : Int)) = some (Int.ofNat 24) from rfl, show (some (28 : Int)) = some (Int.ofNat 28) from rfl]
      rw [num_at k hk r0 z1.wf (Ch.refl z1.wf) 4 6 (by decide) (by omega) (by decide) _ rfl]
      rw [num_at k hk r0 z1.wf (Ch.refl z1.wf) 6 8 (by decide) (by omega) (by decide) _ rfl]
      rw [num_at k hk r0 z1.wf (Ch.refl z1.wf) 8 16 (by decide) (by omega) (by decide) _ rfl]
      rw [num_at k hk r0 z1.wf (Ch.refl z1.wf) 16 24 (by decide) (by omega) (by decide) _ rfl]
      rw [num_at k hk r0 z1.wf (Ch.refl z1.wf) 24 28 (by decide) (by omega) (by decide) _ rfl]
      have b1 : unbe (cutL x 4 6) < 65536 := unbe_lt (cutL_len (by omega)) (by decide)
      have b2 : unbe (cutL x 6 8) < 65536 := unbe_lt (cutL_len (by omega)) (by decide)
      have b3 : unbe (cutL x 24 28) < 4294967296 := unbe_lt (cutL_len (by omega)) (by decide)
      dsimp only
      rw [wrap_in (n := Int.ofNat (unbe (cutL x 4 6))) (by simp only [Int.ofNat_eq_natCast]; omega) (by simp only [Int.ofNat_eq_natCast]; omega), wrap_in (n := Int.ofNat (unbe (cutL x 6 8))) (by simp only [Int.ofNat_eq_natCast]; omega) (by simp only [Int.ofNat_eq_natCast]; omega), wrap_in (n := Int.ofNat (unbe (cutL x 24 28))) (by simp only [Int.ofNat_eq_natCast]; omega) (by simp only [Int.ofNat_eq_natCast]; omega)]
      rw [show [Value.int .i64 (Int.ofNat (unbe (cutL x 4 6))), Value.int .i64 (Int.ofNat (unbe (cutL x 6 8))), Value.int .u64 (Int.ofNat (unbe (cutL x 8 16))), Value.int .u64 (Int.ofNat (unbe (cutL x 16 24))), Value.int .i64 (Int.ofNat (unbe (cutL x 24 28))), Value.slice none 0 0] = (rqOf x).vs ⟨none, 0, 0⟩ from rfl]
      obtain ⟨h1, p1, p2, p3, p4⟩ := box_ok z1.wf 29 6 (rqV 0 0 0 0 0 ⟨none, 0, 0⟩) ((rqOf x).vs ⟨none, 0, 0⟩) rfl rfl rfl
      rw [p1]
      simp only [Option.bind_some, p4.ldc]
      rw [show ((rqOf x).vs ⟨none, 0, 0⟩)[1]? = some (.int .i64 (Int.ofNat (rqOf x).ty)) from rfl, show ((rqOf x).vs ⟨none, 0, 0⟩)[4]? = some (.int .i64 (Int.ofNat (rqOf x).le)) from rfl]
      simp only [asI_int, Option.bind_some]
      have Z1 := z3.stay z1.wf p2
      have ch1 : Ch0 h h1 := z1.then p2
      by_cases g3 : (rqOf x).ty ≠ 1
      · have e : nextP x = (rqOf x, 28, 0) := by unfold nextP; rw [if_neg g1, if_neg g2, if_pos g3]
        have e0 : (Int.ofNat (rqOf x).ty != (1 : Int)) = true := by
          simp only [bne_iff_ne, ne_eq]
          intro f
          exact g3 (Int.ofNat.inj f)
        rw [e0, cond_true, e]
        rw [show (rqOf x).vs ⟨none, 0, 0⟩ = rqV _ _ _ _ _ ⟨none, 0, 0⟩ from rfl] at p4
        rw [Is.rq p4, bindRq]
        dsimp only
        obtain ⟨h2, t1, t2, t3, t4⟩ := Is.rqPut ch1.wf Z1 rfl (Int.ofNat (rqOf x).fl) (Int.ofNat (rqOf x).ty) (Int.ofNat (rqOf x).ck) (Int.ofNat (rqOf x).off) (Int.ofNat (rqOf x).le) ⟨none, 0, 0⟩
        rw [show [Value.int .i64 (Int.ofNat (rqOf x).fl), Value.int .i64 (Int.ofNat (rqOf x).ty), Value.int .u64 (Int.ofNat (rqOf x).ck), Value.int .u64 (Int.ofNat (rqOf x).off), Value.int .i64 (Int.ofNat (rqOf x).le), Value.slice none 0 0] = rqV (Int.ofNat (rqOf x).fl) (Int.ofNat (rqOf x).ty) (Int.ofNat (rqOf x).ck) (Int.ofNat (rqOf x).off) (Int.ofNat (rqOf x).le) ⟨none, 0, 0⟩ from rfl, t1]
        simp only [Option.bind_some]
        rw [Is.rq t4, bindRq]
        refine ⟨⟨none, 0, 0⟩, h2, rfl, ⟨t2.wf, by have := ch1.le; omega, fun b hb f => (t2.keep b (by have := ch1.le; omega) (by omega)).trans (ch1.keep b hb f)⟩, .inl ⟨rfl, .inl rfl⟩, fun b hb => by obtain ⟨o, q⟩ := hb; cases q⟩
      · have g3' : (rqOf x).ty = 1 := Decidable.of_not_not g3
        have e0 : (Int.ofNat (rqOf x).ty != (1 : Int)) = false := by rw [g3']; rfl
        rw [e0, cond_false]
        by_cases g4 : 32768 < (rqOf x).le
        · have e : nextP x = (Rq.zero, 0, 6) := by unfold nextP; rw [if_neg g1, if_neg g2, if_neg g3, if_pos g4]
          rw [decide_eq_true (show Int.ofNat (rqOf x).le > (32768 : Int) by simp; omega), cond_true, e]
          exact Z h1 p2.wf ch1 Z1 6
        · rw [decide_eq_false (show ¬ Int.ofNat (rqOf x).le > (32768 : Int) by simp; omega), cond_false]
          rw [wrap_in (n := (28 : Int) + Int.ofNat (rqOf x).le) (by simp only [Int.ofNat_eq_natCast]; omega) (by simp only [Int.ofNat_eq_natCast]; omega)]
          rw [show (28 : Int) + Int.ofNat (rqOf x).le = Int.ofNat (28 + (rqOf x).le) from rfl, rn]
          by_cases g5 : x.length < 28 + (rqOf x).le
          · have e : nextP x = (Rq.zero, 0, 7) := by unfold nextP; rw [if_neg g1, if_neg g2, if_neg g3, if_neg g4, if_pos g5]
            rw [decide_eq_true (show Int.ofNat x.length < Int.ofNat (28 + (rqOf x).le) by simp; omega), cond_true, e]
            exact Z h1 p2.wf ch1 Z1 7
          · rw [decide_eq_false (show ¬ Int.ofNat x.length < Int.ofNat (28 + (rqOf x).le) by simp; omega), cond_false]
            have e : nextP x = ({ rqOf x with data := cutL x 28 (28 + (rqOf x).le) }, 28 + (rqOf x).le, 0) := by unfold nextP; rw [if_neg g1, if_neg g2, if_neg g3, if_neg g4, if_neg g5]
            rw [e]
            obtain ⟨s', v1, v2, v3, v4⟩ := subb_ok r (lo := 28) (hi := 28 + (rqOf x).le) (by omega) (by omega) (xlo := some (Int.ofNat 28)) (xhi := some (Int.ofNat (28 + (rqOf x).le))) rfl rfl
            rw [rn] at v1
            rw [v1]
            simp only [asS_slv, Option.bind_some]
            obtain ⟨d, h2, u1, u2, u3, u4, u5⟩ := clone_f k ch1.wf (v3.stay w ch1) (by rw [List.length_take, List.length_drop]; omega)
            rw [u1]
            simp only [Option.bind_some]
            have P2 := p4.stay p2.wf u2
            obtain ⟨h3, t1, t2, t3, t4⟩ := P2.set u2.wf 5 (slv d) (by show 5 < 6; decide) rfl
            rw [show [Value.slice d.a d.n d.c] = [slv d] from rfl, t1]
            simp only [Option.bind_some]
            rw [show ((rqOf x).vs ⟨none, 0, 0⟩).set 5 (slv d) = (rqOf x).vs d from rfl] at t4
            have t4' := t4
            rw [show (rqOf x).vs d = rqV _ _ _ _ _ d from rfl] at t4'
            rw [Is.rq t4', bindRq, t4.ldc]
            rw [show ((rqOf x).vs d)[4]? = some (.int .i64 (Int.ofNat (rqOf x).le)) from rfl]
            simp only [asI_int, Option.bind_some]
            have n2 := u2.le
            have n1 := z1.le
            have Z3 := (Z1.stay ch1.wf u2).keep (t2.keep h.next (by omega) (by omega))
            obtain ⟨h4, y1, y2, y3, y4⟩ := Is.rqPut t2.wf Z3 rfl (Int.ofNat (rqOf x).fl) (Int.ofNat (rqOf x).ty) (Int.ofNat (rqOf x).ck) (Int.ofNat (rqOf x).off) (Int.ofNat (rqOf x).le) d
            rw [show [Value.int .i64 (Int.ofNat (rqOf x).fl), Value.int .i64 (Int.ofNat (rqOf x).ty), Value.int .u64 (Int.ofNat (rqOf x).ck), Value.int .u64 (Int.ofNat (rqOf x).off), Value.int .i64 (Int.ofNat (rqOf x).le), Value.slice d.a d.n d.c] = rqV (Int.ofNat (rqOf x).fl) (Int.ofNat (rqOf x).ty) (Int.ofNat (rqOf x).ck) (Int.ofNat (rqOf x).off) (Int.ofNat (rqOf x).le) d from rfl, y1]
            simp only [Option.bind_some]
            rw [same1_of (y2.keep g0.next (by omega) (by omega)), Bool.true_and, cond_true]
            rw [Is.rq y4, bindRq]
            rw [wrap_in (n := (28 : Int) + Int.ofNat (rqOf x).le) (by simp only [Int.ofNat_eq_natCast]; omega) (by simp only [Int.ofNat_eq_natCast]; omega)]
            have ch4 : Ch0 h h4 := ⟨y2.wf, by have := ch1.le; omega, fun b hb f => (y2.keep b (by omega) (by omega)).trans ((t2.keep b (by omega) (by omega)).trans ((u2.keep b (by omega) f).trans (ch1.keep b hb f)))⟩
            have u3' := u3.keep (h' := h4) fun b hb => (y2.keep b (by have := u3.lt u2.wf hb; omega) (by have := u5 b hb; omega)).trans (t2.keep b (u3.lt u2.wf hb) (by have := u5 b hb; omega))
            exact ⟨d, h4, rfl, ch4, u3'.slr, fun b hb => by have := u5 b hb; omega⟩
/-! ### same -/
theorem same_f (k : Nat) {h : H} (w : WF h) (q : Rq) (d e : Sl) (r : SlR 1 h d (byt q.data)) (t : SlR 1 h e (byt q.data)) :
    ∃ h', corbellaw24_same.f k (q.tup d) (q.tup e) h = some (true, h') ∧ Ch0 h h' := by
  unfold corbellaw24_same.f Rq.tup
  dsimp only
  rw [show [Value.int .i64 (Int.ofNat q.fl), Value.int .i64 (Int.ofNat q.ty), Value.int .u64 (Int.ofNat q.ck), Value.int .u64 (Int.ofNat q.off), Value.int .i64 (Int.ofNat q.le), Value.slice d.a d.n d.c] = q.vs d from rfl, show [Value.int .i64 (Int.ofNat q.fl), Value.int .i64 (Int.ofNat q.ty), Value.int .u64 (Int.ofNat q.ck), Value.int .u64 (Int.ofNat q.off), Value.int .i64 (Int.ofNat q.le), Value.slice e.a e.n e.c] = q.vs e from rfl]
  obtain ⟨z1, z2, z3⟩ := newR_ok w 29 6 (q.vs d)
  generalize newR h 29 6 (q.vs d) = g0 at z1 z2 z3 ⊢
  obtain ⟨y1, y2, y3⟩ := newR_ok z1.wf 29 6 (q.vs e)
  generalize newR g0 29 6 (q.vs e) = g1 at y1 y2 y3 ⊢
  have z4 := z3.stay z1.wf y1
  simp only [z4.ldc, y3.ldc, Rq.vs, rqV, List.getElem?_cons_succ, List.getElem?_cons_zero, asI_int, asS_slv, Option.bind_some, beq_self_eq_true, cond_true]
  have c := z1.then y1
  rw [txt_ok (r.stay w c), txt_ok (t.stay w c)]
  simp only [asT, Option.bind_some, beq_self_eq_true]
  exact ⟨g1, rfl, c⟩
/-! ### Bytes -/
theorem hbytes_l0 (k : Nat) (b m : Nat) (hm : m ≤ 1000000) {h0 : H} (hb : h0.next ≤ b) : ∀ f j h (x : Int) (l : List UInt8), m - j < f → j ≤ m → Ch0 h0 h → l.length = m → Is h b 5 1 (byt l) →
    ∃ h' l', corbelhand_Bytes.l0 k f (Int.ofNat m) ⟨some ⟨b, 0, none⟩, m, m⟩ x (Int.ofNat j) h = some ((), h') ∧ Ch0 h0 h' ∧ l'.length = m ∧ Is h' b 5 1 (byt l')
  | 0, j, h, x, l, hf, _, _, _, _ => by omega
  | f + 1, j, h, x, l, hf, hj, hc, hl, I => by
    rw [corbelhand_Bytes.l0_succ]
    by_cases c : j < m
    · rw [decide_eq_true (show Int.ofNat j < Int.ofNat m by simp; omega), cond_true]
      rw [show ixs 1 (some ⟨b, 0, none⟩) m (Int.ofNat j) = some (.pointer (some ⟨b, 0 + j * 1, none⟩)) from cond_eta _ _ _ (Nat.ble_eq_true_of_le c)]
      simp only [asP_ptr, Option.bind_some]
      rw [Nat.zero_add, Nat.mul_one]
      generalize (wrapA .u64 ((wrapA .u64 (x * (6364136223846793005 : Int))) + (1442695040888963407 : Int))) = y
      rw [wrap_u8]
      obtain ⟨h', e1, e2, e3, e4⟩ := I.set hc.wf j (.int .u8 (Int.ofNat (u8 (y.fdiv (2 ^ 56))).toNat)) (by rw [byt_len]; omega) rfl
      rw [e1]
      simp only [Option.bind_some]
      rw [wrap_succ (by omega)]
      refine hbytes_l0 k b m hm hb f (j + 1) h' y (l.set j (u8 (y.fdiv (2 ^ 56)))) (by omega) (by omega) ⟨e2.wf, by have := hc.le; omega, fun z hz f => (e2.keep z (by have := hc.le; omega) (by omega)).trans (hc.keep z hz f)⟩ (by simpa using hl) ?_
      have : (byt l).set j (.int .u8 (Int.ofNat (u8 (y.fdiv (2 ^ 56))).toNat)) = byt (l.set j (u8 (y.fdiv (2 ^ 56)))) := by unfold byt; rw [List.map_set]
      rw [← this]; exact e4
    · rw [decide_eq_false (show ¬ Int.ofNat j < Int.ofNat m by simp; omega), cond_false]
      exact ⟨h, l, rfl, hc, hl, I⟩
theorem hbytes_f (k : Nat) (a : Int) (m : Nat) (hm : m ≤ 1000000) (hk : m < k) {h : H} (w : WF h) :
    ∃ d x h', corbelhand_Bytes.f k a (Int.ofNat m) h = some (d, h') ∧ Ch0 h h' ∧ x.length = m ∧ Ow 5 1 h' d (byt x) ∧ ∀ b, SlB d b → h.next ≤ b := by
  unfold corbelhand_Bytes.f
  rw [mkz_ok (.int .u8 0) rfl (by omega) (by omega)]
  rw [show asS2 (some (Value.slice (some ⟨h.next, 0, none⟩) m m, newZ h 5 1 [Value.int .u8 (0 : Int)] m)) = some ((⟨some ⟨h.next, 0, none⟩, m, m⟩ : Sl), newZ h 5 1 [Value.int .u8 (0 : Int)] m) from rfl]
  simp only [Option.bind_some]
  obtain ⟨z1, z2, z3⟩ := newZ_ok w 5 1 (.int .u8 0) m
  rw [Nat.mul_one, byt_rep] at z3
  rw [pick_f k _ 7 _ (by decide) (by decide)]
  simp only [Option.bind_some]
  cases c : (a % 7 == (6 : Int)) with
  | true =>
    exact ⟨_, List.replicate m 0, _, rfl, z1, by simp, Ow.of_is z3 (by simp [byt_len]) (by unfold unk; omega), fun b hb => by
      obtain ⟨o, q⟩ := hb
      have : h.next = b := congrArg Addr.block (Option.some.inj q)
      omega⟩
  | false =>
    rw [cond_false]
    obtain ⟨h', l', e1, e2, e3, e4⟩ := hbytes_l0 k h.next m hm (Nat.le_refl _) k 0 _ (wrapA .u64 ((wrapA .u64 ((wrapA .u64 a) * (2654435761 : Int))) + (12345 : Int))) _ (by omega) (Nat.zero_le _) z1 (by simp) z3
    rw [show (0 : Int) = Int.ofNat 0 from rfl]
    rw [show Value.int IntKind.u8 (Int.ofNat 0) = Value.int .u8 0 from rfl, e1]
    exact ⟨_, l', h', rfl, e2, e3, Ow.of_is e4 (by rw [byt_len]; omega) (by unfold unk; omega), fun b hb => by
      obtain ⟨o, q⟩ := hb
      have : h.next = b := congrArg Addr.block (Option.some.inj q)
      omega⟩
end Go.Proofs.Ythpkhegoamhgeaa.Fw
