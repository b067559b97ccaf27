/- call's replies: call.ReadRep. No condition. -/
import Derived.Test.YthpkhegoamhgeaaFwRep4
namespace Go.Proofs.Ythpkhegoamhgeaa.Fw
open Go Den Fwd
set_option linter.unusedVariables false
set_option linter.unusedSimpArgs false
theorem numP_lt {x : List UInt8} {n : Nat} (h : n ≤ 7) : unbe (takeP x n).1 < 256 ^ n := by
  have h1 := unbe_bound (takeP x n).1
  have h2 : (takeP x n).1.length ≤ n := by
    unfold takeP
    split
    · exact Nat.zero_le _
    · show (x.take n).length ≤ n; rw [List.length_take]; omega
  exact Nat.lt_of_lt_of_le h1 (Nat.pow_le_pow_right (by decide) h2)
set_option maxHeartbeats 4000000 in
theorem rrRead_f (k : Nat) (hk : 1000000 < k) {h : H} (w : WF h) {s : Sl} {x : List UInt8} (r : SlR 1 h s (byt x)) (hx : x.length ≤ 140737488355328) :
    ∃ c b sp si ps is h', call_ReadRep.f k s h = some (((c, b, sp, si), if (readRr x).isSome then 0 else 2), h') ∧ Ch0 h h' ∧ PcR h' sp ps ∧ ItR h' si is ∧ (⟨c, b, ps.map (·.1), is.map (·.1)⟩ : Rr) = (readRr x).getD Rr.zero := by
  unfold call_ReadRep.f
  rw [show [Value.int .i64 (0 : Int), Value.int .i64 0, Value.slice none 0 0, Value.slice none 0 0] = repV 0 0 ⟨none, 0, 0⟩ ⟨none, 0, 0⟩ from rfl]
  obtain ⟨z1, z2, z3⟩ := newR_ok w 67 4 (repV 0 0 ⟨none, 0, 0⟩ ⟨none, 0, 0⟩)
  generalize newR h 67 4 (repV 0 0 ⟨none, 0, 0⟩ ⟨none, 0, 0⟩) = g0 at z1 z2 z3 ⊢
  obtain ⟨s1, g1, a1, a2, a3, a4, a5⟩ := clone_f k z1.wf (r.stay w z1) hx
  rw [a1]
  simp only [Option.bind_some]
  rw [show [Value.slice s1.a s1.n s1.c, Value.bool false] = [slv s1, .bool false] from rfl]
  obtain ⟨y1, y2, y3⟩ := newR_ok a2.wf 92 2 [slv s1, .bool false]
  generalize newR g1 92 2 [slv s1, .bool false] = g2 at y1 y2 y3 ⊢
  have rb0 : g0.next ≤ g1.next := a2.le
  have R0 : RdS g2 g1.next s1 false x := ⟨y3, a3.slr.stay a2.wf y1, fun z hz => a3.lt a2.wf hz, hx⟩
  have c2 : Ch0 g0 g2 := a2.then y1
  obtain ⟨s2, g3, b1, b2, R1⟩ := R0.num k (by omega) c2.wf 1 (by decide) 1 rfl
  rw [b1]
  simp only [Option.bind_some]
  have c3 : Ch0 g0 g3 := Ch0.at c2 b2 rb0
  obtain ⟨s3, g4, d1, d2, R2⟩ := R1.num k (by omega) c3.wf 4 (by decide) 4 rfl
  rw [d1]
  simp only [Option.bind_some]
  have c4 : Ch0 g0 g4 := Ch0.at c3 d2 rb0
  have l4 : g1.next < g4.next := by have := b2.le; have := d2.le; omega
  rw [show [Value.int .i64 (numP x 1), Value.int .i64 (numP (takeP x 1).2 4), Value.slice none 0 0, Value.slice none 0 0] = repV (numP x 1) (numP (takeP x 1).2 4) ⟨none, 0, 0⟩ ⟨none, 0, 0⟩ from rfl]
  obtain ⟨g5, e1, e2, e3, e4⟩ := box_ok c4.wf 67 4 (repV 0 0 ⟨none, 0, 0⟩ ⟨none, 0, 0⟩) (repV (numP x 1) (numP (takeP x 1).2 4) ⟨none, 0, 0⟩ ⟨none, 0, 0⟩) rfl rfl rfl
  rw [e1]
  simp only [Option.bind_some]
  have B5 := Bd.of_is e4
  have R5 := R2.keep c4.wf e2 (fun _ _ f => f)
  have c5 : Ch0 g0 g5 := c4.then e2
  obtain ⟨s4, g6, f1, f2, R6⟩ := R5.num k (by omega) c5.wf 1 (by decide) 1 rfl
  rw [f1]
  simp only [Option.bind_some]
  have c6 : Ch0 g0 g6 := Ch0.at c5 f2 rb0
  have B6 := B5.keep c5.wf f2 (fun z hz _ f => by omega)
  obtain ⟨g7, s5, sp, ps, i1, i2, R7, B7, i5, i6⟩ := rdPc_l k (by omega) l4 s (some ⟨h.next, 0, none⟩) (numP x 1) (numP (takeP x 1).2 4) (pN x) (Nat.le_of_lt_succ (numP_lt (n := 1) (by decide))) k 0 g6 s4 _ _ _ _ [] [] (by have := numP_lt (x := (takeP (takeP x 1).2 4).2) (n := 1) (by decide); show pN x - 0 < k; unfold pN; omega) (Nat.zero_le _) c6.wf R6 B6 (Nat.zero_le _)
  rw [show numP (takeP (takeP x 1).2 4).2 1 = Int.ofNat (pN x) from rfl, show (0 : Int) = Int.ofNat 0 from rfl, i1]
  simp only [Option.bind_some]
  have c7 : Ch0 g0 g7 := c6.trans i2 fun z hz f => by omega
  have eP : pcsP (pN x - 0) (([] : PcS).map (·.1)) (takeP (takeP (takeP x 1).2 4).2 1).2 (lackP (lackP (lackP false x 1) (takeP x 1).2 4) (takeP (takeP x 1).2 4).2 1) = pP x := rfl
  rw [eP] at R7 i5
  obtain ⟨s6, g8, j1, j2, R8⟩ := R7.num k (by omega) c7.wf 1 (by decide) 1 rfl
  rw [j1]
  simp only [Option.bind_some]
  have c8 : Ch0 g0 g8 := Ch0.at c7 j2 rb0
  have B8 := B7.keep c7.wf j2 (fun z hz _ f => by omega)
  obtain ⟨g9, s7, si, is, k1, k2, R9, B9, k5, k6⟩ := rdIt_l k (by omega) l4 s (some ⟨h.next, 0, none⟩) (numP x 1) (numP (takeP x 1).2 4) (iN x) (Nat.le_of_lt_succ (numP_lt (n := 1) (by decide))) k 0 g8 s6 _ _ _ _ ps [] (by have := numP_lt (x := (pP x).2.1) (n := 1) (by decide); show iN x - 0 < k; unfold iN; omega) (Nat.zero_le _) c8.wf R8 B8 (Nat.zero_le _)
  rw [show numP (pP x).2.1 1 = Int.ofNat (iN x) from rfl, k1]
  simp only [Option.bind_some]
  have c9 : Ch0 g0 g9 := c8.trans k2 fun z hz f => by omega
  have eI : itsP (iN x - 0) (([] : ItS).map (·.1)) (takeP (pP x).2.1 1).2 (lackP (pP x).2.2 (pP x).2.1 1) = iP x := rfl
  rw [eI] at R9 k5
  rw [Is.rr B9.box, bindRr]
  dsimp only
  have hpn : pN x ≤ 255 := Nat.le_of_lt_succ (numP_lt (n := 1) (by decide))
  have hin : iN x ≤ 255 := Nat.le_of_lt_succ (numP_lt (n := 1) (by decide))
  have hQ : (⟨numP x 1, numP (takeP x 1).2 4, ps.map (·.1), is.map (·.1)⟩ : Rr) = parseRr x := by rw [i5, k5]; rfl
  obtain ⟨s8, g10, l1, l2, l3, l5⟩ := rrLay_f k (by omega) c9.wf (numP x 1) (numP (takeP x 1).2 4) B9.pcr B9.itr (by omega) (by omega) _ hQ
  rw [l1]
  have R10 := R9.keep c9.wf l2 (fun _ _ f => f)
  have B10 := B9.keep c9.wf l2 (fun _ _ _ f => f)
  simp only [Option.bind_some, R10.box.ldc]
  rw [show asB ([slv s7, Value.bool (iP x).2.2][1]?) = some (iP x).2.2 from rfl]
  simp only [Option.bind_some]
  have c10 := z1.then (c9.then l2)
  have G : (((cond (iP x).2.2 (some (true, g10))
      (some ((if (parseRr x).right = true then (0 : Int) else 1) != Int.ofNat 0, g10)) : Option (Bool × H)).bind fun g43 =>
    (cond g43.1 (some (true, g43.2))
      ((slices_Equal_byte_byte.f k s8 s g43.2).bind fun q44 =>
    some (!q44.1, q44.2)))) : Option (Bool × H)) = some (!(readRr x).isSome, g10) := by
    cases hl : (iP x).2.2 with
    | true =>
      have e : readRr x = none := by unfold readRr; exact if_neg fun f => by rw [hl] at f; cases f.1
      rw [e]; rfl
    | false =>
      cases hr : (parseRr x).right with
      | false =>
        have e : readRr x = none := by unfold readRr; exact if_neg fun f => by rw [hr] at f; cases f.2.1
        rw [e]; rfl
      | true =>
        rw [hr] at l3
        rw [if_pos rfl] at l3
        have RR := (Rr.right_iff _).1 hr
        have RP := RR.pl
        have RI := RR.il
        have hl2 : (layRr (parseRr x)).length < 3000 := by
          rw [layRr_len _ RR]; omega
        rw [show (cond false (some (true, g10)) (some ((if true = true then (0 : Int) else 1) != Int.ofNat 0, g10)) : Option (Bool × H)) = some (false, g10) from rfl]
        simp only [Option.bind_some, cond_false]
        rw [equal_f k l3.slr (r.stay w c10) (by omega) (by omega)]
        by_cases e : layRr (parseRr x) = x
        · have e2 : readRr x = some (parseRr x) := by unfold readRr; exact if_pos ⟨hl, hr, e⟩
          rw [decide_eq_true e, e2]; rfl
        · have e2 : readRr x = none := by unfold readRr; exact if_neg fun f => e f.2.2
          rw [decide_eq_false e, e2]; rfl
  have Z10 := z3.stay z1.wf (c9.then l2)
  cases hs : (readRr x).isSome with
  | false =>
    have hr : readRr x = none := by cases q : readRr x with | none => rfl | some _ => rw [q] at hs; cases hs
    obtain ⟨g12, x1, x2, x3, x4⟩ := Is.whole c10.wf Z10 rfl (repV 0 0 ⟨none, 0, 0⟩ ⟨none, 0, 0⟩) rfl rfl
    rw [hs] at G
    refine ⟨0, 0, ⟨none, 0, 0⟩, ⟨none, 0, 0⟩, [], [], g12, ?_, Ch0.at c10 x2 (Nat.le_refl _), ⟨.inl ⟨rfl, .inl rfl⟩, fun p hp => by cases hp⟩, ⟨.inl ⟨rfl, .inl rfl⟩, fun p hp => by cases hp⟩, by rw [hr]; rfl⟩
    rw [← Option.bind_assoc, G]
    simp only [Option.bind_some, Bool.not_false, cond_true]
    rw [show repV (Int.ofNat 0) (Int.ofNat 0) ⟨none, 0, 0⟩ ⟨none, 0, 0⟩ = repV 0 0 ⟨none, 0, 0⟩ ⟨none, 0, 0⟩ from rfl, x1]
    simp only [Option.bind_some]
    rw [Is.rr x4, bindRr]; rfl
  | true =>
    have hp : (readRr x).getD Rr.zero = parseRr x := by
      unfold readRr at hs ⊢
      split
      · rfl
      · rename_i c; rw [if_neg c] at hs; cases hs
    obtain ⟨g12, x1, x2, x3, x4⟩ := Is.whole c10.wf Z10 rfl (repV (numP x 1) (numP (takeP x 1).2 4) sp si) rfl rfl
    rw [hs] at G
    have hlt : h.next < g4.next := by omega
    have B12 := B10.keep c10.wf x2 (fun z hz _ f => by omega)
    refine ⟨numP x 1, numP (takeP x 1).2 4, sp, si, ps, is, g12, ?_, Ch0.at c10 x2 (Nat.le_refl _), B12.pcr, B12.itr, by rw [hp]; exact hQ⟩
    rw [← Option.bind_assoc, G]
    simp only [Option.bind_some, Bool.not_true, cond_false]
    rw [Is.rr B10.box, bindRr]
    dsimp only
    rw [show [Value.int .i64 (numP x 1), Value.int .i64 (numP (takeP x 1).2 4), Value.slice sp.a sp.n sp.c, Value.slice si.a si.n si.c] = repV (numP x 1) (numP (takeP x 1).2 4) sp si from rfl, x1]
    simp only [Option.bind_some]
    rw [Is.rr x4, bindRr]; rfl
end Go.Proofs.Ythpkhegoamhgeaa.Fw
