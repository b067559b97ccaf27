/- PlatterActs: the law's forward run comes to true. -/
import Derived.Test.YtbegaeohggkblaaFwActs3
import Derived.Test.YtbegaeohggkblaaArPlatterActs
namespace Go.Proofs.Ytbegaeohggkblaa
open Go Den Fwd Fw
set_option linter.unusedVariables false
set_option linter.unusedSimpArgs false
theorem Pure.eqptr42 (p : Addr) : binO1 Try.prog .eql 42 (.pointer (some p)) (.pointer none) = some (.bool false) := by
  simp [binO1, binB, binA, Try.underlying42, eqA]
theorem Pure.bindAct {β : Type} (a b c : Int) (s : Sl) (f : FT [.int .i64, .int .i64, .int .i64, .sl] → Option β) : (asSt [(.int .i64), (.int .i64), (.int .i64), .sl] (some (Value.agg #[.int .i64 a, .int .i64 b, .int .i64 c, slv s]))).bind f = f (show FT [.int .i64, .int .i64, .int .i64, .sl] from ((a, b, c, s) : Int × Int × Int × Sl)) := rfl
def Pure.ActAt (h : H) (s : Sl) : Prop := ∀ i, i < s.n → ∃ (p : Option Addr) (a b c : Int) (sl : Sl) (ks : List Int), ixs 4 s.a s.n (Int.ofNat i) = some (.pointer p) ∧ lda 4 h p = some (.agg #[.int .i64 a, .int .i64 b, .int .i64 c, slv sl]) ∧ SlR 1 h sl (ivs ks)
theorem Pure.acts_l0 (k : Nat) (hk : 2000 < k) {h0 : H} (w0 : WF h0) {s : Sl} (hact : ∀ h, Ch0 h0 h → Pure.ActAt h s) (p q N : Nat) (hN1 : 1 ≤ N) (hN : N ≤ 8) : ∀ n i h M C Mr st, 60 - i < n → i ≤ 60 → AI h0 h p q N M C Mr st i →
    ∃ h', corbellaw7_PlatterActs.l0 k n (Int.ofNat N) s (some ⟨p, 0, none⟩) (some ⟨q, 0, none⟩) (Int.ofNat i) h = some (.inr (), h')
  | 0, i, h, M, C, Mr, st, hn, _, _ => by omega
  | n + 1, i, h, M, C, Mr, st, hn, hi, I => by
    rw [corbellaw7_PlatterActs.l0_succ]
    by_cases c : i < s.n ∧ i < 60
    · rw [decide_eq_true (show Int.ofNat i < Int.ofNat s.n by simp; omega), cond_true, decide_eq_true (show Int.ofNat i < (60 : Int) by simp; omega)]
      simp only [Option.bind_some, cond_true]
      obtain ⟨pa, a, b, cc, sl, ks, x1, x2, x3⟩ := hact h I.ch i c.1
      rw [x1]
      simp only [asP_ptr, Option.bind_some]
      rw [x2, Pure.bindAct]
      dsimp only
      rw [show [Value.int .i64 a, Value.int .i64 b, Value.int .i64 cc, Value.slice sl.a sl.n sl.c] = [Value.int .i64 a, Value.int .i64 b, Value.int .i64 cc, slv sl] from rfl]
      obtain ⟨h1, a1, a2, a3, a4⟩ := box_ok I.ch.wf 48 4 [Value.int .i64 (0 : Int), Value.int .i64 (0 : Int), Value.int .i64 (0 : Int), Value.slice none 0 0] [Value.int .i64 a, Value.int .i64 b, Value.int .i64 cc, slv sl] rfl rfl rfl
      rw [a1]
      simp only [Option.bind_some, a4.ldc]
      rw [show ([Value.int .i64 a, Value.int .i64 b, Value.int .i64 cc, slv sl] : List Value)[0]? = some (.int .i64 a) from rfl]
      simp only [asI_int, Option.bind_some]
      rw [pick_f k _ 9 h1 (by decide) (by decide)]
      simp only [Option.bind_some, a4.ldc]
      rw [show ([Value.int .i64 a, Value.int .i64 b, Value.int .i64 cc, slv sl] : List Value)[2]? = some (.int .i64 cc) from rfl, show ([Value.int .i64 a, Value.int .i64 b, Value.int .i64 cc, slv sl] : List Value)[1]? = some (.int .i64 b) from rfl]
      simp only [asI_int, Option.bind_some]
      have I1 := I.more a2 (Nat.le_refl i)
      have sk1 := x3.stay I.ch.wf a2
      have bl : h.next < h1.next := by omega
      have hw0 : (0 : Int) ≤ st.writes := I.wr.1
      have hw1 := I.wr.2
      have hpi := I.pn
      have hil : (Int.ofNat i) ≤ 60 := by simp only [Int.ofNat_eq_natCast]; omega
      -- what is done
      have J : ∃ h2 M2 C2 Mr2 st2, (cond (a % 9 == (6 : Int))
      ((platter_Platter_Flush.f k (some ⟨p, 0, none⟩) h1).bind fun q22 =>
    (corbelref7_Platter_Flush.f k (some ⟨q, 0, none⟩) q22.2).bind fun q23 =>
    some (Sum.inr (), q23.2))
      ((cond (a % 9 == (7 : Int))
      ((corbellaw7_PlatterActs.l1 k k (Int.ofNat N) s (some ⟨p, 0, none⟩) (some ⟨q, 0, none⟩) (Int.ofNat i) (some ⟨h.next, 0, none⟩) (⟨none, 0, 0⟩ : Sl) (0 : Int) h1).bind fun w66 =>
    (platter_Platter_Crash.f k (some ⟨p, 0, none⟩) w66.1 w66.2).bind fun q67 =>
    (corbelref7_Platter_Crash.f k (some ⟨q, 0, none⟩) w66.1 q67.2).bind fun q68 =>
    some (Sum.inr (), q68.2))
      ((cond (a % 9 == (8 : Int))
      ((cond ((cc.tmod (5 : Int)) == (0 : Int))
      ((platter_Platter_Wipe.f k (some ⟨p, 0, none⟩) h1).bind fun q70 =>
    (corbelref7_Platter_Wipe.f k (some ⟨q, 0, none⟩) q70.2).bind fun q71 =>
    some ((), q71.2))
      (some ((), h1)) : Option ((Unit) × H)).bind fun j72 =>
    some (Sum.inr (), j72.2))
      ((corbelhand_Pick.f k b (wrapA .i64 (Int.ofNat N + (2 : Int))) h1).bind fun q74 =>
    (asI .i64 (ldc q74.2 (some ⟨h.next, 2, none⟩))).bind fun n75 =>
    (corbellaw7_all.f k n75 q74.2).bind fun q76 =>
    (platter_Platter_Write.f k (some ⟨p, 0, none⟩) (wrapA .i64 (q74.1 - (1 : Int))) q76.1 q76.2).bind fun q77 =>
    (asI .i64 (ldc q77.2 (some ⟨h.next, 2, none⟩))).bind fun n78 =>
    (corbellaw7_all.f k n78 q77.2).bind fun q79 =>
    (corbelref7_Platter_Write.f k (some ⟨q, 0, none⟩) (wrapA .i64 (q74.1 - (1 : Int))) q79.1 q79.2).bind fun q80 =>
    cond (same1 q74.2 q76.2 (some (Value.pointer (some ⟨h.next, 2, none⟩))) && (same1 q76.2 q77.2 (some (Value.pointer (some ⟨h.next, 2, none⟩))) && (true))) (cond (!(q77.1 == q80.1))
      (some (Sum.inl false, q80.2))
      (some (Sum.inr (), q80.2))) none) : Option (((Bool) ⊕ (Unit)) × H)).bind fun j81 =>
    match j81.1 with
    | .inl r82 => some (Sum.inl r82, j81.2)
    | .inr o83 => some (Sum.inr (), j81.2)) : Option (((Bool) ⊕ (Unit)) × H)).bind fun j84 =>
    match j84.1 with
    | .inl r85 => some (Sum.inl r85, j84.2)
    | .inr o86 => some (Sum.inr (), j84.2)) : Option (((Bool) ⊕ (Unit)) × H)) = some (.inr (), h2) ∧ AI h0 h2 p q N M2 C2 Mr2 st2 (i + 1) := by
        by_cases e6 : a % 9 = 6
        · rw [show (a % 9 == (6 : Int)) = true from beq_iff_eq.2 e6, cond_true]
          obtain ⟨h2, M2, u1, u2, u3, u4⟩ := flush_f k I1.ch.wf I1.pl (by rw [I1.nl]; omega)
          rw [u1]
          simp only [Option.bind_some]
          have rf2 := I1.rf.keep u2 fun b hb => (I1.md b hb).1
          obtain ⟨h3, Mr3, v1, v2, v3, v4⟩ := rflush_f k hk u2.wf rf2 (by show InR st.done.length st.pend; rw [I.dl]; exact I.inr) (by show st.done.length ≤ _; rw [I.dl]; omega) (by show st.pend.length ≤ _; omega)
          rw [v1]
          have v3 : RfR h3 q Mr3 ⟨applyAll st.pend st.done, [], st.writes⟩ := v3
          rw [← I.nw] at v3
          exact ⟨h3, M2, C, Mr3, ⟨st.now, st.now, [], st.writes⟩, rfl, I1.both u2 u3 u4 (fun b hb => .inl hb) v2 v3 v4 I.nl I.nl rfl (fun x hx => by cases hx) (Nat.zero_le _) ⟨hw0, by simp only [Int.ofNat_eq_natCast] at hw1 ⊢; show st.writes ≤ _; omega⟩ (by show ∀ x ∈ st.now, _; rw [I.nw]; exact applyAll_160 _ _ I.p160 I.d160) (fun x hx => by cases hx)⟩
        · rw [show (a % 9 == (6 : Int)) = false from beq_eq_false_iff_ne.2 e6, cond_false]
          by_cases e7 : a % 9 = 7
          · rw [show (a % 9 == (7 : Int)) = true from beq_iff_eq.2 e7, cond_true]
            obtain ⟨sk, hk1, t1, t2, t3, t4⟩ := acts_l1 k I1.ch.wf (Int.ofNat N) (Int.ofNat i) s (some ⟨p, 0, none⟩) (some ⟨q, 0, none⟩) a4 sk1 k 0 h1 ⟨none, 0, 0⟩ (by omega) (by omega) (Nat.zero_le _) (Ch.refl I1.ch.wf) Ow.nil fun x hx => by obtain ⟨o, f⟩ := hx; cases f
            rw [show (0 : Int) = Int.ofNat 0 from rfl, t1]
            simp only [Option.bind_some]
            have Ik := I1.more t2 (Nat.le_refl i)
            have kl : (keepOf ks).length ≤ 8 := by unfold keepOf; rw [List.length_map, List.length_take]; omega
            obtain ⟨h2, M2, u1, u2, u3, u4⟩ := crash_f k (by omega) Ik.ch.wf Ik.pl t3.slr (fun b hb => ⟨t3.lt t2.wf hb, fun f => by have := I1.pl.mlt b f; have := t4 b hb; omega⟩) (by omega) (by omega) (fun x hx => by
              obtain ⟨y, y1, y2⟩ := I.inr x hx
              exact ⟨y, by rw [I.dl]; exact y1, y2⟩) (by omega) (by rw [I.dl]; omega)
            rw [u1]
            simp only [Option.bind_some]
            have rf2 := Ik.rf.keep u2 fun b hb => (Ik.md b hb).1
            have sk2 : SlR 1 h2 sk (ivs (keepOf ks)) := (t3.keep fun b hb => u2.keep b (t3.lt t2.wf hb) fun f => by have := I1.pl.mlt b f; have := t4 b hb; omega).slr
            obtain ⟨h3, Mr3, v1, v2, v3, v4⟩ := rcrash_f k hk u2.wf rf2 sk2 (fun f => by have := t4 q f; have := I1.rf.lt q I1.rf.mq; omega) (by omega) (by show InR st.done.length st.pend; rw [I.dl]; exact I.inr) (by show st.done.length ≤ _; rw [I.dl]; omega) (by show st.pend.length ≤ _; omega)
            rw [v1]
            have v3 : RfR h3 q Mr3 ⟨crashD (keepOf ks) 0 st.pend st.done, [], st.writes⟩ := v3
            have cl : (crashD (keepOf ks) 0 st.pend st.done).length = N := by rw [crashD_len, I.dl]
            exact ⟨h3, M2, C, Mr3, ⟨crashD (keepOf ks) 0 st.pend st.done, crashD (keepOf ks) 0 st.pend st.done, [], st.writes⟩, rfl, Ik.both u2 u3 u4 (fun b hb => .inl hb) v2 v3 v4 cl cl rfl (fun x hx => by cases hx) (Nat.zero_le _) ⟨hw0, by simp only [Int.ofNat_eq_natCast] at hw1 ⊢; show st.writes ≤ _; omega⟩ (crashD_160 _ _ _ _ I.p160 I.d160) (fun x hx => by cases hx)⟩
          · rw [show (a % 9 == (7 : Int)) = false from beq_eq_false_iff_ne.2 e7, cond_false]
            by_cases e8 : a % 9 = 8
            · rw [show (a % 9 == (8 : Int)) = true from beq_iff_eq.2 e8, cond_true]
              cases cc.tmod (5 : Int) == (0 : Int) with
              | false => exact ⟨h1, M, C, Mr, st, rfl, I1.more (Ch.refl I1.ch.wf) (Nat.le_succ i)⟩
              | true =>
                obtain ⟨h2, M2, C2, u1, u2, u3, u4, u5⟩ := wipe_f k (by omega) I1.ch.wf I1.pl (by rw [I1.nl]; omega)
                rw [cond_true, u1]
                simp only [Option.bind_some]
                have rf2 := I1.rf.keep u2 fun b hb => (I1.md b hb).1
                obtain ⟨h3, Mr3, v1, v2, v3, v4⟩ := rwipe_f k hk u2.wf rf2 (by show st.done.length ≤ _; rw [I.dl]; omega)
                rw [v1]
                have v3 : RfR h3 q Mr3 ⟨List.replicate st.done.length zeros160, [], st.writes⟩ := v3
                rw [I.dl] at v3
                rw [I.nl] at u3
                exact ⟨h3, M2, C2, Mr3, ⟨List.replicate N zeros160, List.replicate N zeros160, [], st.writes⟩, rfl, I1.both u2 u3 u4 u5 v2 v3 v4 (by simp) (by simp) rfl (fun x hx => by cases hx) (Nat.zero_le _) ⟨hw0, by simp only [Int.ofNat_eq_natCast] at hw1 ⊢; show st.writes ≤ _; omega⟩ (fun x hx => by rw [List.eq_of_mem_replicate hx]; rfl) (fun x hx => by cases hx)⟩
            · rw [show (a % 9 == (8 : Int)) = false from beq_eq_false_iff_ne.2 e8, cond_false]
              rw [wrap_in (n := Int.ofNat N + 2) (by simp only [Int.ofNat_eq_natCast]; omega) (by simp only [Int.ofNat_eq_natCast]; omega), pick_f k _ _ h1 (by simp only [Int.ofNat_eq_natCast]; omega) (by simp only [Int.ofNat_eq_natCast]; omega)]
              have m0 := Int.emod_nonneg b (show Int.ofNat N + 2 ≠ 0 by simp only [Int.ofNat_eq_natCast]; omega)
              have m1 := Int.emod_lt_of_pos b (show (0 : Int) < Int.ofNat N + 2 by simp only [Int.ofNat_eq_natCast]; omega)
              generalize b % (Int.ofNat N + 2) = bk at m0 m1
              simp only [Int.ofNat_eq_natCast] at m1
              simp only [Option.bind_some, a4.ldc]
              rw [show ([Value.int .i64 a, Value.int .i64 b, Value.int .i64 cc, slv sl] : List Value)[2]? = some (.int .i64 cc) from rfl]
              simp only [asI_int, Option.bind_some]
              rw [wrap_in (n := bk - 1) (by omega) (by omega)]
              obtain ⟨h2, u1, u2, u3, u4⟩ := all_f k (by omega) cc a2.wf
              rw [u1]
              simp only [Option.bind_some]
              have I2 := I1.more u2 (Nat.le_refl i)
              have B2 := a4.stay a2.wf u2
              have q1 : same1 h1 h2 (some (Value.pointer (some ⟨h.next, 2, none⟩))) = true := same1_of (u2.keep h.next bl fun f => f)
              by_cases d : 0 ≤ bk - 1 ∧ bk - 1 < N
              · obtain ⟨j, hj⟩ : ∃ j : Nat, bk - 1 = Int.ofNat j := ⟨(bk - 1).toNat, (Int.toNat_of_nonneg d.1).symm⟩
                have hjN : j < N := by have := d.2; rw [hj] at this; simp only [Int.ofNat_eq_natCast] at this; omega
                rw [hj]
                obtain ⟨h3, M3, C3, v1, v2, v3, v4, v5⟩ := write_f k u2.wf I2.pl (i := j) (by rw [I.nl]; exact hjN) u4.slr List.length_replicate (by omega) ⟨hw0, by omega⟩
                rw [v1]
                have bM : ¬ M h.next := fun f => by have := I.pl.mlt _ f; omega
                have B3 := B2.keep (v2.keep h.next (by have := u2.le; omega) bM)
                have q2 : same1 h2 h3 (some (Value.pointer (some ⟨h.next, 2, none⟩))) = true := same1_of (v2.keep h.next (by have := u2.le; omega) bM)
                simp only [Option.bind_some, B3.ldc]
                rw [show ([Value.int .i64 a, Value.int .i64 b, Value.int .i64 cc, slv sl] : List Value)[2]? = some (.int .i64 cc) from rfl]
                simp only [asI_int, Option.bind_some]
                obtain ⟨h4, w1, w2, w3, w4⟩ := all_f k (by omega) cc v2.wf
                rw [w1]
                simp only [Option.bind_some]
                have rf4 := (I2.rf.keep v2 fun b hb => (I2.md b hb).1).keep w2 fun _ _ f => f
                obtain ⟨h5, Mr5, y1, y2, y3, y4⟩ := rwrite_f k w2.wf rf4 (j := j) (by show j < st.done.length; rw [I.dl]; exact hjN) w4.slr List.length_replicate (by show st.pend.length ≤ _; omega) ⟨hw0, by show st.writes ≤ _; omega⟩
                rw [y1]
                simp only [Option.bind_some]
                rw [q1, q2]
                have pl4 := v3.keep w2 fun _ f => f.elim
                refine ⟨h5, M3, C3, Mr5, ⟨st.done, st.now.set j (allb cc), st.pend ++ [(Int.ofNat j, allb cc)], st.writes + 1⟩, rfl, I2.both (v2.trans w2 fun _ _ f => f.elim) pl4 v4 v5 y2 y3 y4 (by simp [I.nl]) I.dl ?_ ?_ ?_ ?_ I.d160 ?_⟩
                · show st.now.set j (allb cc) = applyAll (st.pend ++ [(Int.ofNat j, allb cc)]) st.done
                  rw [applyAll_snoc, I.nw]; rfl
                · intro x hx
                  rcases List.mem_append.1 hx with f | f
                  · exact I.inr x f
                  · rw [List.mem_singleton.1 f]; exact ⟨j, hjN, rfl⟩
                · show (st.pend ++ _).length ≤ _
                  rw [List.length_append, List.length_singleton]; omega
                · show 0 ≤ st.writes + 1 ∧ st.writes + 1 ≤ Int.ofNat (i + 1)
                  simp only [Int.ofNat_eq_natCast] at hw1 ⊢; omega
                · intro x hx
                  rcases List.mem_append.1 hx with f | f
                  · exact I.p160 x f
                  · rw [List.mem_singleton.1 f]; exact List.length_replicate
              · have d1 : ¬ (0 ≤ bk - 1 ∧ bk - 1 < (st.now.length : Int)) := by rw [I.nl]; exact d
                have d2 : ¬ (0 ≤ bk - 1 ∧ bk - 1 < (st.done.length : Int)) := by rw [I.dl]; exact d
                rw [write_no k I2.pl d1]
                simp only [Option.bind_some, B2.ldc]
                rw [show ([Value.int .i64 a, Value.int .i64 b, Value.int .i64 cc, slv sl] : List Value)[2]? = some (.int .i64 cc) from rfl]
                simp only [asI_int, Option.bind_some]
                obtain ⟨h4, w1, w2, w3, w4⟩ := all_f k (by omega) cc u2.wf
                rw [w1]
                simp only [Option.bind_some]
                rw [rwrite_no k (I2.rf.keep w2 fun _ _ f => f) d2]
                simp only [Option.bind_some]
                rw [q1, show same1 h2 h2 (some (Value.pointer (some ⟨h.next, 2, none⟩))) = true from same1_of rfl]
                exact ⟨h4, M, C, Mr, st, rfl, I2.more w2 (Nat.le_succ i)⟩
      obtain ⟨h2, M2, C2, Mr2, st2, j1, J2⟩ := J
      refine Exists.imp (fun h' e => (congrArg (fun o => Option.bind o _) j1).trans e) ?_
      simp only [Option.bind_some]
      obtain ⟨sD, sQ, r1, r2, r3, r4, r5⟩ := J2.rf.ex
      simp only [nilA, asP_ptr, Option.bind_some, fadd, r1.ldc]
      simp only [Nat.zero_add, List.getElem?_cons_succ, List.getElem?_cons_zero, asS_slv, Option.bind_some]
      have hpn := J2.pn
      have hqn : sQ.n = st2.pend.length := by
        have r3 : SlR 2 h2 sQ (qcs st2.pend) := r3
        have := r3.len; rw [qcs_len] at this; omega
      rw [hqn]
      obtain ⟨s3, h3, b1, b2, b3, b4⟩ := acts_l2 k J2.ch.wf (Int.ofNat N) (Int.ofNat i) s (some ⟨p, 0, none⟩) J2.rf (by show st2.pend.length ≤ _; omega) k 0 h2 ⟨none, 0, 0⟩ (by show st2.pend.length - 0 < k; omega) (Nat.zero_le _) (Ch.refl J2.ch.wf) Ow.nil fun x hx => by obtain ⟨o, f⟩ := hx; cases f
      have b1 : corbellaw7_PlatterActs.l2 k k (Int.ofNat N) s (some ⟨p, 0, none⟩) (some ⟨q, 0, none⟩) (Int.ofNat i) (Int.ofNat st2.pend.length) ⟨none, 0, 0⟩ (Int.ofNat 0) h2 = some (s3, h3) := b1
      rw [show (0 : Int) = Int.ofNat 0 from rfl, b1]
      simp only [Option.bind_some]
      have J3 := J2.more b2 (Nat.le_refl _)
      obtain ⟨s4, h4, d1, d2, d3, d4⟩ := pending_f k (by omega) J3.ch.wf J3.pl (by omega)
      rw [d1]
      simp only [Option.bind_some]
      have J4 := J3.more d2 (Nat.le_refl _)
      rw [sameInts_f k d3.slr (b3.stay b2.wf d2).slr (by rw [List.length_map]; omega) (by rw [List.length_map]; omega)]
      simp only [Option.bind_some, Bool.not_true, cond_false]
      rw [writes_f k J4.pl]
      simp only [Option.bind_some]
      obtain ⟨sD4, sQ4, t1, t2, t3, t4, t5⟩ := J4.rf.ex
      simp only [t1.ldc]
      rw [show ([slv sD4, slv sQ4, Value.int .i64 st2.writes] : List Value)[0 + 2]? = some (.int .i64 st2.writes) from rfl]
      simp only [asI_int, Option.bind_some]
      have hdyn : dynL [(2, 1), (8, 7), (9, 7), (10, 7), (11, 7)] ([(2, none)] ++ ((([(8, none)] ++ [(9, none)]) ++ [(10, none)]) ++ [(11, blkOf (some (Value.pointer (some ⟨q, 0 + 2, none⟩))))])) ([(1, h3, h4)] ++ [(7, h4, h4)]) = true := by
        have := sameVer_of (h := h4) (h' := h4) (b := q) rfl
        have v2 : sameVer h3 h4 q = true := sameVer_of (d2.keep q (J3.rf.lt q J3.rf.mq) fun f => f)
        simp [dynL, blkOf, this, v2]
      rw [hdyn, cond_true, bne_self_eq_false, cond_false]
      obtain ⟨h5, e1, e2, e3, e4⟩ := acts_l3 k hk (Int.ofNat i) s (by omega) J4.nl J4.dl J4.nw J4.inr (by omega) (by rw [J4.nw]; exact applyAll_160 _ _ J4.p160 J4.d160) k 0 h4 (by omega) (Nat.zero_le _) (Ch.refl J4.ch.wf) J4.pl J4.rf
      rw [e1]
      simp only [Option.bind_some]
      rw [wrap_succ (by omega)]
      exact Pure.acts_l0 k hk w0 hact p q N hN1 hN n (i + 1) h5 M2 C2 Mr2 st2 (by omega) (by omega) (J4.more e2 (Nat.le_refl _))
    · have hg : (cond (decide (Int.ofNat i < Int.ofNat s.n)) (some (decide (Int.ofNat i < (60 : Int)), h)) (some (false, h)) : Option (Bool × H)) = some (false, h) := by
        by_cases q : i < s.n
        · rw [decide_eq_true (show Int.ofNat i < Int.ofNat s.n by simp; omega), decide_eq_false (show ¬ Int.ofNat i < (60 : Int) by simp; omega)]; rfl
        · rw [decide_eq_false (show ¬ Int.ofNat i < Int.ofNat s.n by simp; omega)]; rfl
      rw [hg]
      simp only [Option.bind_some, cond_false]
      exact ⟨h, rfl⟩
theorem Pure.acts_f (k : Nat) (hk : 2000 < k) {h : H} (w : WF h) (blocks : Int) {s : Sl} (hact : ∀ h', Ch0 h h' → Pure.ActAt h' s) : ∃ h', corbellaw7_PlatterActs.f k blocks s h = some (true, h') := by
  unfold corbellaw7_PlatterActs.f
  rw [pick_f k _ 8 h (by decide) (by decide)]
  simp only [Option.bind_some]
  have m0 := Int.emod_nonneg blocks (show (8 : Int) ≠ 0 by decide)
  have m1 := Int.emod_lt_of_pos blocks (show (0 : Int) < 8 by decide)
  obtain ⟨N, hN⟩ : ∃ N : Nat, 1 + blocks % 8 = Int.ofNat N := ⟨(1 + blocks % 8).toNat, (Int.toNat_of_nonneg (by omega)).symm⟩
  have hN1 : 1 ≤ N ∧ N ≤ 8 := by simp only [Int.ofNat_eq_natCast] at hN; omega
  rw [wrap_in (n := 1 + blocks % 8) (by omega) (by omega), hN]
  obtain ⟨p, h1, M, C, a1, a2, a3, a4, a5⟩ := new_f k (by omega) N hN1.1 (by omega) w
  rw [a1]
  simp only [Option.bind_some, Bool.not_true, cond_false, Pure.eqptr42, asB]
  obtain ⟨h2, Mr, b1, b2, b3, b4⟩ := rnew_f k hk N hN1.1 (by omega) a2.wf
  rw [b1]
  simp only [Option.bind_some]
  have l1 := a2.le
  have I0 : AI h h2 p h1.next N M C Mr ⟨List.replicate N zeros160, List.replicate N zeros160, [], 0⟩ 0 :=
    ⟨a2.trans b2 fun _ _ f => f, a3.keep b2 fun _ f => f.elim, b3, by simp, by simp, rfl, (fun x hx => by cases hx), Nat.le_refl _, ⟨Int.le_refl _, Int.le_refl _⟩, (fun x hx => by rw [List.eq_of_mem_replicate hx]; rfl), (fun x hx => by cases hx), (fun b hb => ⟨fun f => by have := a3.mlt b f; have := b4 b hb; omega, fun f => by have := a3.clt b f; have := b4 b hb; omega, by have := b4 b hb; omega⟩), a4, a5⟩
  obtain ⟨h3, c1⟩ := Pure.acts_l0 k hk w hact p h1.next N hN1.1 hN1.2 k 0 h2 M C Mr _ (by omega) (by omega) I0
  rw [show (0 : Int) = Int.ofNat 0 from rfl, c1]
  exact ⟨h3, rfl⟩
theorem Pure.PlatterActs : ∀ h x vs, Den.WF h → Den.Dead h → Ar.PlatterActs.R h x vs → Ar.PlatterActs.Q x → ∃ a, Den.encL [.int .i64, .sl] a = vs ∧ Den.toldB (Fwd.corbellaw7_PlatterActs.f 200000 a.1 a.2 h) = true := by
  rintro h ⟨blocks, l, _⟩ vs w _ ⟨va, vb, rfl, r1, vc, vd, rfl, r2, rfl⟩ _
  obtain rfl := r1
  obtain ⟨s, ls, rfl, s1, s2, s3, s4, s5, s6⟩ := RSl.many w (by decide) r2
  have s1 : s.n = l.length := s1
  have s3 : ls.length = l.length := s3
  obtain ⟨h', e⟩ := Pure.acts_f 200000 (by decide) w blocks (s := s) fun h' c i hi => by
    obtain ⟨b, o, e1, e2⟩ := (s2.stay w c).elem hi
    have hil : i < ls.length := by omega
    have hx : i < l.length := by omega
    have e3 : (ls.flatten.drop (i * 4)).take 4 = ls[i] := by
      apply List.ext_getElem?
      intro j
      have hli : ls[i].length = 4 := s4 _ (List.getElem_mem hil)
      rw [List.getElem?_take]
      by_cases cj : j < 4
      · rw [if_pos cj, List.getElem?_drop]
        have hk : i * 4 + j < ls.flatten.length := by rw [flatten_len ls s4]; omega
        rw [flatten_get ls s4 _ hk, Nat.mul_comm, Nat.mul_add_div (by decide), Nat.div_eq_of_lt cj, Nat.add_zero, Nat.mul_add_mod, Nat.mod_eq_of_lt cj, List.getElem?_eq_getElem hil]; rfl
      · rw [if_neg cj, List.getElem?_eq_none (by omega)]
    rw [e3] at e2
    obtain ⟨x1, y1, e4, z1, x2, y2, rfl, z2, x3, y3, rfl, z3, z4⟩ := s5 i _ _ (List.getElem?_eq_getElem hx) (List.getElem?_eq_getElem hil)
    obtain ⟨t, rfl, t1, _⟩ := RSl.one (f := fun n => .int .i64 n) (fun _ _ _ e => e) w z4
    obtain rfl := z1
    obtain rfl := z2
    obtain rfl := z3
    refine ⟨some ⟨b, o, none⟩, l[i].1, l[i].2.1, l[i].2.2.1, t, l[i].2.2.2, e1, ?_, t1.stay w c⟩
    show (match h'.gets b o 4 with | some vs => some (Value.agg vs.toArray) | none => none) = _
    rw [e2, e4]; rfl
  exact ⟨(blocks, s), rfl, (congrArg toldB e).trans rfl⟩
end Go.Proofs.Ytbegaeohggkblaa
