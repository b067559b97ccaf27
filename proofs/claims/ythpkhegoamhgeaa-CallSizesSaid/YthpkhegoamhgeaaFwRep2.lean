/- call's replies: right?, their bytes; a reply under construction. No condition. -/
import Derived.Test.YthpkhegoamhgeaaFwRep
namespace Go.Proofs.Ythpkhegoamhgeaa.Fw
open Go Den Fwd
set_option linter.unusedVariables false
set_option linter.unusedSimpArgs false
structure Rr where
  code : Int
  boot : Int
  ps : List Pc
  is : List It
def repV (a b : Int) (sp si : Sl) : List Value := [.int .i64 a, .int .i64 b, slv sp, slv si]
abbrev RrT : Type := Int × Int × Sl × Sl
theorem bindRr {β : Type} (a b : Int) (sp si : Sl) (f : FT [.int .i64, .int .i64, .sl, .sl] → Option β) : (asSt [(.int .i64), (.int .i64), .sl, .sl] (some (Value.agg (repV a b sp si).toArray))).bind f = f (show FT [.int .i64, .int .i64, .sl, .sl] from ((a, b, sp, si) : RrT)) := rfl
theorem Is.rr {h : H} {bb e es : Nat} {a b : Int} {sp si : Sl} (I : Is h bb e es (repV a b sp si)) : lda 4 h (some ⟨bb, 0, none⟩) = some (.agg (repV a b sp si).toArray) := by
  rw [I.lda (o := 0) (n := 4) (Nat.le_refl _)]; rfl
def Rr.wrong (q : Rr) : Bool := !(q.ps.all fun p => p.right) || !(q.is.all fun p => p.right)
def Rr.right (q : Rr) : Bool := decide (0 ≤ q.code ∧ q.code ≤ 255) && (decide (0 ≤ q.boot ∧ q.boot ≤ 2147483647) && (decide (q.ps.length ≤ 2) && (decide (q.is.length ≤ 16) && !q.wrong)))
structure Rr.Rt (q : Rr) : Prop where
  c0 : 0 ≤ q.code
  c1 : q.code ≤ 255
  b0 : 0 ≤ q.boot
  b1 : q.boot ≤ 2147483647
  pl : q.ps.length ≤ 2
  il : q.is.length ≤ 16
  pr : ∀ p ∈ q.ps, p.right = true
  ir : ∀ p ∈ q.is, p.right = true
theorem Rr.right_iff (q : Rr) : q.right = true ↔ q.Rt := by
  unfold Rr.right Rr.wrong
  simp only [Bool.and_eq_true, decide_eq_true_eq, Bool.not_eq_true', Bool.or_eq_false_iff, Bool.not_eq_false', List.all_eq_true]
  exact ⟨fun ⟨⟨a, b⟩, ⟨c, d⟩, e, f, g, i⟩ => ⟨a, b, c, d, e, f, g, i⟩, fun ⟨a, b, c, d, e, f, g, i⟩ => ⟨⟨a, b⟩, ⟨c, d⟩, e, f, g, i⟩⟩
def layRr (q : Rr) : List UInt8 := beN q.code.toNat 1 ++ (beN q.boot.toNat 4 ++ (beN q.ps.length 1 ++ (laysPc q.ps ++ (beN q.is.length 1 ++ laysIt q.is))))
theorem layRr_len (q : Rr) (r : q.Rt) : (layRr q).length = 7 + 40 * q.ps.length + 135 * q.is.length := by
  unfold layRr
  simp only [List.length_append, beN_len, laysPc_len _ r.pr, laysIt_len _ r.ir]
  omega
theorem map_all {α β : Type} (f : α → β) (p : β → Bool) (l : List α) : (l.map f).all p = l.all fun x => p (f x) := by
  induction l with
  | nil => rfl
  | cons a l ih => rw [List.map_cons, List.all_cons, List.all_cons, ih]
theorem rrRight_f (k : Nat) (hk : 1000 < k) {h : H} (w : WF h) (c b : Int) {sp si : Sl} {ps : PcS} {is : ItS} (rp : PcR h sp ps) (ri : ItR h si is) (hp : ps.length ≤ 1000) (hi : is.length ≤ 1000) :
    ∃ h', call_right.f k (c, b, sp, si) h = some ((⟨c, b, ps.map (·.1), is.map (·.1)⟩ : Rr).right, h') ∧ Ch0 h h' := by
  generalize hQ : (⟨c, b, ps.map (·.1), is.map (·.1)⟩ : Rr) = Q
  unfold call_right.f
  dsimp only
  rw [show [Value.int .i64 c, Value.int .i64 b, Value.slice sp.a sp.n sp.c, Value.slice si.a si.n si.c] = repV c b sp si from rfl]
  obtain ⟨z1, z2, z3⟩ := newR_ok w 67 4 (repV c b sp si)
  generalize newR h 67 4 (repV c b sp si) = g0 at z1 z2 z3 ⊢
  have V0 : (repV c b sp si)[0]? = some (.int .i64 c) := rfl
  have V1 : (repV c b sp si)[1]? = some (.int .i64 b) := rfl
  have V2 : (repV c b sp si)[2]? = some (slv sp) := rfl
  have V3 : (repV c b sp si)[3]? = some (slv si) := rfl
  simp only [z3.ldc, V0, V1, V2, V3, asI_int, asS_slv, Option.bind_some]
  obtain ⟨g1, a1, a2⟩ := pcAny_f k hk z1.wf (rp.stay w z1) hp
  rw [a1]
  simp only [Option.bind_some]
  have I1 := z3.stay z1.wf a2
  have W : ∃ g2, ((cond (!(ps.all fun p => p.1.right)) (some (true, g1))
      ((asS (ldc g1 (some ⟨h.next, 3, none⟩))).bind fun s3 =>
    (slices_ContainsFunc_api_Intent_api_Intent_call_right_2.f k s3 () g1).bind fun q4 =>
    some (q4.1, q4.2))) : Option (Bool × H)) = some (Q.wrong, g2) ∧ Ch0 g1 g2 := by
    have hw : Q.wrong = (!(ps.all fun p => p.1.right) || !(is.all fun p => p.1.right)) := by
      rw [← hQ]
      unfold Rr.wrong
      rw [map_all, map_all]
    rw [hw]
    cases ha : ps.all fun p => p.1.right with
    | false => exact ⟨g1, rfl, Ch.refl a2.wf⟩
    | true =>
      rw [Bool.not_true, cond_false, I1.ldc, V3]
      simp only [asS_slv, Option.bind_some]
      obtain ⟨g2, b1, b2⟩ := itAny_f k hk a2.wf ((ri.stay w z1).stay z1.wf a2) hi
      rw [b1]
      exact ⟨g2, rfl, b2⟩
  obtain ⟨g2, b1, b2⟩ := W
  rw [b1]
  have I2 := I1.stay a2.wf b2
  refine ⟨g2, ?_, (z1.then a2).then b2⟩
  have P := rp.n
  have Pi := ri.n
  have Qc : Q.code = c := by rw [← hQ]
  have Qb : Q.boot = b := by rw [← hQ]
  have Qp : Q.ps.length = ps.length := by rw [← hQ]; exact List.length_map _
  have Qi : Q.is.length = is.length := by rw [← hQ]; exact List.length_map _
  have bad : ∀ x : Bool, Q.right = x → some (x, g2) = some (Q.right, g2) := fun x e => by rw [e]
  simp only [Option.bind_some, I2.ldc, V0, V1, V2, V3, asI_int, asS_slv, within_f]
  by_cases c1 : 0 ≤ c ∧ c ≤ 255
  rotate_left
  · simp only [decide_eq_false c1, cond_false, Option.bind_some]
    exact bad _ (by unfold Rr.right; rw [Qc, decide_eq_false c1]; rfl)
  simp only [decide_eq_true c1, cond_true, I2.ldc, V0, V1, V2, V3, asI_int, asS_slv, Option.bind_some, within_f]
  by_cases c2 : 0 ≤ b ∧ b ≤ 2147483647
  rotate_left
  · simp only [decide_eq_false c2, cond_false, Option.bind_some]
    exact bad _ (by unfold Rr.right; rw [Qb, decide_eq_false c2]; simp)
  simp only [decide_eq_true c2, cond_true, I2.ldc, V0, V1, V2, V3, asI_int, asS_slv, Option.bind_some, within_f]
  rw [P]
  by_cases c3 : ps.length ≤ 2
  rotate_left
  · simp only [decide_eq_false (show ¬ Int.ofNat ps.length ≤ (2 : Int) by simp; omega), cond_false, Option.bind_some]
    exact bad _ (by unfold Rr.right; rw [Qp, decide_eq_false c3]; simp)
  simp only [decide_eq_true (show Int.ofNat ps.length ≤ (2 : Int) by simp; omega), cond_true, I2.ldc, V0, V1, V2, V3, asI_int, asS_slv, Option.bind_some, within_f]
  rw [Pi]
  by_cases c4 : is.length ≤ 16
  rotate_left
  · simp only [decide_eq_false (show ¬ Int.ofNat is.length ≤ (16 : Int) by simp; omega), cond_false, Option.bind_some]
    exact bad _ (by unfold Rr.right; rw [Qi, decide_eq_false c4]; simp)
  simp only [decide_eq_true (show Int.ofNat is.length ≤ (16 : Int) by simp; omega), cond_true, Option.bind_some]
  refine bad _ ?_
  unfold Rr.right
  rw [Qc, Qb, Qp, Qi]
  simp [c1, c2, c3, c4]
theorem laysPc_mem {ps : PcS} {q : Pc} (h : q ∈ ps.map (·.1)) : ∃ p ∈ ps, p.1 = q := by
  obtain ⟨p, hp, e⟩ := List.mem_map.1 h
  exact ⟨p, hp, e⟩
theorem rrLay_f (k : Nat) (hk : 1000 < k) {h : H} (w : WF h) (c b : Int) {sp si : Sl} {ps : PcS} {is : ItS} (rp : PcR h sp ps) (ri : ItR h si is) (hp : ps.length ≤ 1000) (hi : is.length ≤ 1000) (Q : Rr) (hQ : (⟨c, b, ps.map (·.1), is.map (·.1)⟩ : Rr) = Q) :
    ∃ s' h', call_LayRep.f k (c, b, sp, si) h = some ((s', if Q.right then 0 else 1), h') ∧ Ch0 h h' ∧ Ow 5 1 h' s' (byt (if Q.right then layRr Q else [])) ∧ ∀ b, SlB s' b → h.next ≤ b := by
  unfold call_LayRep.f
  dsimp only
  rw [show [Value.int .i64 c, Value.int .i64 b, Value.slice sp.a sp.n sp.c, Value.slice si.a si.n si.c] = repV c b sp si from rfl]
  obtain ⟨z1, z2, z3⟩ := newR_ok w 67 4 (repV c b sp si)
  generalize newR h 67 4 (repV c b sp si) = g0 at z1 z2 z3 ⊢
  rw [Is.rr z3, bindRr]
  dsimp only
  have V0 : (repV c b sp si)[0]? = some (.int .i64 c) := rfl
  have V1 : (repV c b sp si)[1]? = some (.int .i64 b) := rfl
  have V2 : (repV c b sp si)[2]? = some (slv sp) := rfl
  have V3 : (repV c b sp si)[3]? = some (slv si) := rfl
  obtain ⟨g1, a1, a2⟩ := rrRight_f k hk z1.wf c b (rp.stay w z1) (ri.stay w z1) hp hi
  rw [a1, hQ]
  simp only [Option.bind_some]
  have c1 := z1.then a2
  have I1 := z3.stay z1.wf a2
  cases hr : Q.right with
  | false =>
    simp only [Bool.not_false, cond_true]
    exact ⟨⟨none, 0, 0⟩, g1, rfl, c1, Ow.nil, fun b hb => by obtain ⟨o, f⟩ := hb; cases f⟩
  | true =>
    have R := (Rr.right_iff Q).1 hr
    have Qc : Q.code = c := by rw [← hQ]
    have Qb : Q.boot = b := by rw [← hQ]
    have Qps : Q.ps = ps.map (·.1) := by rw [← hQ]
    have Qis : Q.is = is.map (·.1) := by rw [← hQ]
    have Qp : Q.ps.length = ps.length := by rw [Qps]; exact List.length_map _
    have Qi : Q.is.length = is.length := by rw [Qis]; exact List.length_map _
    have RC0 := R.c0
    have RB0 := R.b0
    have Rpl := R.pl
    have Ril := R.il
    rw [Qc] at RC0
    rw [Qb] at RB0
    rw [Qp] at Rpl
    rw [Qi] at Ril
    simp only [Bool.not_true, cond_false, I1.ldc, V0, asI_int, Option.bind_some]
    obtain ⟨s1, g2, b1, b2, b3, b4⟩ := cbytes_f k hk c.toNat 1 (by decide) a2.wf c (nn _ RC0) 1 rfl
    rw [b1]
    have I2 := I1.stay a2.wf b2
    simp only [I2.ldc, V1, asI_int, Option.bind_some]
    obtain ⟨s2, g3, d1, d2, d3, d4⟩ := cbytes_f k hk b.toNat 4 (by decide) b2.wf b (nn _ RB0) 4 rfl
    rw [d1]
    have I3 := I2.stay b2.wf d2
    simp only [I3.ldc, V2, asS_slv, Option.bind_some, rp.n]
    obtain ⟨s3, g4, e1, e2, e3, e4⟩ := cbytes_f k hk ps.length 1 (by decide) d2.wf (Int.ofNat ps.length) rfl 1 rfl
    rw [e1]
    have I4 := I3.stay d2.wf e2
    simp only [Option.bind_some]
    let pp : Parts := [(s1, beN c.toNat 1), (s2, beN b.toNat 4), (s3, beN ps.length 1)]
    rw [show [Value.slice s1.a s1.n s1.c, Value.slice s2.a s2.n s2.c, Value.slice s3.a s3.n s3.c] = pp.map fun p => slv p.1 from rfl]
    obtain ⟨y1, y2, y3⟩ := newR_ok e2.wf 25 1 (pp.map fun p => slv p.1)
    have hpp : PartsR g4 pp := by
      intro x hx
      simp only [pp, List.mem_cons, List.not_mem_nil, or_false] at hx
      rcases hx with rfl | rfl | rfl
      · exact b3.slr.stay b2.wf (d2.then e2)
      · exact d3.slr.stay d2.wf e2
      · exact e3.slr
    obtain ⟨s4, g5, f1, f2, f3, f4⟩ := concat_f k hk y1.wf (ps := pp) (SlR.of_is y3 (n := 3) rfl (by unfold unk; omega)) (hpp.stay e2.wf y1) (by show 3 < 1000; decide) (by
      show (beN c.toNat 1).length + ((beN b.toNat 4).length + ((beN ps.length 1).length + 0)) ≤ _
      simp only [beN_len]; omega)
    rw [f1]
    simp only [Option.bind_some]
    have bz : h.next < g1.next := by have := a2.le; omega
    have k2 := b2.keep h.next bz fun f => f
    have l2 := b2.le
    have k3 := d2.keep h.next (by omega) fun f => f
    have l3 := d2.le
    have k4 := e2.keep h.next (by omega) fun f => f
    have l4 := e2.le
    have m1 : same1 g1 g2 (some (.slice sp.a ps.length sp.c)) = true := by rw [← rp.n]; exact same1_sl fun x hx => b2.keep x (by have := rp.sl.blk w hx; omega) fun f => f
    have m2 : same1 g2 g3 (some (.slice sp.a ps.length sp.c)) = true := by rw [← rp.n]; exact same1_sl fun x hx => d2.keep x (by have := rp.sl.blk w hx; omega) fun f => f
    simp only [same1_of k2, same1_of k3, same1_of k4, m1, m2, Bool.and_self, cond_true]
    have y5 := y1.then f2
    have l5 := y5.le
    have I5 := I4.stay e2.wf y5
    simp only [I5.ldc, V2, asS_slv, Option.bind_some, rp.n]
    have c5 : Ch0 h g5 := ((((c1.then b2).then d2).then e2).then y5)
    have c05 : Ch0 g0 g5 := ((((a2.then b2).then d2).then e2).then y5)
    have rp5 := rp.stay w c5
    have ri5 := ri.stay w c5
    have hj4 : joined pp = beN c.toNat 1 ++ (beN b.toNat 4 ++ beN ps.length 1) := by
      unfold joined
      simp only [pp, List.map_cons, List.map_nil, List.flatten_cons, List.flatten_nil, List.append_nil, List.append_assoc]
    rw [hj4] at f3
    have prr : ∀ p ∈ ps, p.1.right = true := fun p hp => R.pr _ (by rw [Qps]; exact List.mem_map.2 ⟨p, hp, rfl⟩)
    have irr : ∀ p ∈ is, p.1.right = true := fun p hp => R.ir _ (by rw [Qis]; exact List.mem_map.2 ⟨p, hp, rfl⟩)
    have rp0 := rp.stay w z1
    have ri0 := ri.stay w z1
    have LE1 := a2.le
    obtain ⟨o1, g6, p1, p2, p3, p4⟩ := pcLay_l k hk z1.wf (some ⟨h.next, 0, none⟩) rp0 (by omega) prr k 0 g5 s4 _ (by omega) (Nat.zero_le _) c05 f3 (fun x hx => by have := f4 x hx; omega) (by simp only [List.length_append, beN_len]; omega)
    rw [show (0 : Int) = Int.ofNat 0 from rfl, p1]
    have I6 := z3.stay z1.wf p2
    simp only [Option.bind_some, I6.ldc, V3, asS_slv, ri.n]
    have plen : (laysPc (ps.map (·.1))).length = 40 * ps.length := by
      rw [← Qps, laysPc_len _ R.pr, Qp]
    rw [List.drop_zero] at p3
    obtain ⟨o2, g7, q1, q2, q3, q4⟩ := push_b p2.wf p3 (UInt8.ofNat is.length) (wrapA .u8 (Int.ofNat is.length)) (wrap_u8n _) (by simp only [List.length_append, beN_len, plen]; omega)
    rw [q1]
    have c7 := Ch0.own p2 q2 p4
    have hb7 : ∀ x, SlB o2 x → g0.next ≤ x := fun x hx => (q4 x hx).elim (p4 x) fun f => Nat.le_trans p2.le f
    have I7 := z3.stay z1.wf c7
    simp only [Option.bind_some, I7.ldc, V3, asS_slv, ri.n]
    obtain ⟨o3, g8, u1, u2, u3, u4⟩ := itLay_l k hk z1.wf ri0 (by omega) irr k 0 g7 o2 _ (by omega) (Nat.zero_le _) c7 q3 hb7 (by simp only [List.length_append, beN_len, plen, List.length_singleton]; omega)
    rw [u1]
    refine ⟨o3, g8, rfl, z1.then u2, ?_, fun x hx => by have := u4 x hx; omega⟩
    rw [List.drop_zero] at u3
    rw [if_pos trivial]
    have : layRr Q = beN c.toNat 1 ++ (beN b.toNat 4 ++ beN ps.length 1) ++ laysPc (ps.map (·.1)) ++ [UInt8.ofNat is.length] ++ laysIt (is.map (·.1)) := by
      unfold layRr
      rw [Qc, Qb, Qp, Qi, Qps, Qis]
      have b1 : beN is.length 1 = [UInt8.ofNat is.length] := by
        show [UInt8.ofNat (is.length / 256 ^ 0)] = _
        rw [Nat.pow_zero, Nat.div_one]
      rw [b1]
      simp only [List.append_assoc]
    rw [this]; exact u3
end Go.Proofs.Ythpkhegoamhgeaa.Fw
