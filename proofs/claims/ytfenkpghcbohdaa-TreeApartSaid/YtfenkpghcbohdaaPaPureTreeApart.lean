/- TreeApart: the law's forward run comes to true. -/
import Derived.Test.YtfenkpghcbohdaaPaFwApA
import Derived.Test.YtfenkpghcbohdaaPaArTreeApart
namespace Go.Proofs.Ytfenkpghcbohdaa
open Go Den Fwd Fw
set_option linter.unusedVariables false
set_option linter.unusedSimpArgs false
theorem Fw.Did.then {h g : H} {r : Option ((Sl × Int) × H)} {x : Res} (c : Ch0 h g) (d : Did g r x) : ∃ s h' us, r = some ((s, x.1), h') ∧ Ch0 h h' ∧ Ch0 g h' ∧ TreeO h' s us ∧ vols us = x.2 := by
  obtain ⟨s, h', us, d1, d2, d3, d4, d5⟩ := d
  exact ⟨s, h', us, d1, c.then d2, d2, d3, d5⟩
theorem Fw.Did.re {h : H} {r : Option ((Sl × Int) × H)} {x : Res} (d : Did h r x) : Did h (r.bind fun q => some ((q.1.1, q.1.2), q.2)) x := by
  obtain ⟨s, h', us, d1, d2⟩ := d
  rw [d1]
  exact ⟨s, h', us, rfl, d2⟩
theorem Pure.apart_l0 (k : Nat) (hk : 20000 < k) {M : Nat} (hM : M + 100 < k) {h0 : H} {s : Sl} (A : ActsR M h0 s) : ∀ n i h t vs, 40 - i < n → i ≤ 40 → Ch0 h0 h → TreeR h t vs → RightP (vols vs) →
    ∃ h', corbellaw18_TreeApart.l0 k n s t (Int.ofNat i) h = some (.inr (), h') ∧ Ch0 h0 h'
  | 0, i, h, t, vs, hf, _, _, _, _ => by omega
  | n + 1, i, h, t, vs, hf, hi, C, T, R => by
    rw [corbellaw18_TreeApart.l0_succ]
    by_cases c1 : i < s.n
    rotate_left
    · rw [decNlt c1, cond_false]
      exact ⟨h, rfl, C⟩
    rw [decLt c1, cond_true]
    by_cases c2 : i < 40
    rotate_left
    · rw [show decide (Int.ofNat i < (40 : Int)) = false from decNlt (b := 40) c2]
      exact ⟨h, rfl, C⟩
    rw [show decide (Int.ofNat i < (40 : Int)) = true from decLt (b := 40) c2]
    simp only [Option.bind_some, cond_true]
    have lt1 : 40 - (i + 1) < n := by omega
    have lt2 : i + 1 ≤ 40 := c2
    have wi : wrapA .i64 (Int.ofNat i + 1) = Int.ofNat (i + 1) := wrap_succ (by omega)
    have B := R.b
    have hn := B.n
    obtain ⟨tc, h1, cs, a1, a2, a3, a4, a5⟩ := copied_f k hk C.wf T B
    have a1 : corbelref16_Copied.f k t h = some (tc, h1) := by unfold corbelref16_Copied.f; rw [a1]; rfl
    rw [a1]
    simp only [Option.bind_some]
    obtain ⟨b, o, x1, x2, x3, x4, x5, z, zl, e1, e2⟩ := A h1 (C.then a2) i c1
    rw [e1]
    simp only [asP_ptr, Option.bind_some]
    rw [e2, bindAct]
    dsimp only
    rw [show [(Value.int .i64 x1), (Value.int .i64 x2), (Value.int .i64 x3), (Value.int .i64 x4), (Value.int .i64 x5), (Value.string (ba z))] = actL x1 x2 x3 x4 x5 z from rfl, show [(Value.int .i64 (0 : Int)), (Value.int .i64 (0 : Int)), (Value.int .i64 (0 : Int)), (Value.int .i64 (0 : Int)), (Value.int .i64 (0 : Int)), (Value.string (⟨#[]⟩ : ByteArray))] = zAct from rfl]
    obtain ⟨g, b1, b2, b3, b4⟩ := box_ok a2.wf 79 6 zAct (actL x1 x2 x3 x4 x5 z) rfl rfl rfl
    rw [b1]
    simp only [Option.bind_some]
    rw [show asI .i64 (ldc g (some ⟨h1.next, 2, none⟩)) = some x3 by rw [b4.ldc]; exact asI_int _ _, show asT (ldc g (some ⟨h1.next, 5, none⟩)) = some (ba z) by rw [b4.ldc]; exact asTs _]
    simp only [Option.bind_some]
    obtain ⟨nm, n1, n2⟩ := odd_f k x3 z
    rw [n1]
    simp only [Option.bind_some]
    rw [show asI .i64 (ldc g (some ⟨h1.next, 1, none⟩)) = some x2 by rw [b4.ldc]; exact asI_int _ _, show asT (ldc g (some ⟨h1.next, 5, none⟩)) = some (ba z) by rw [b4.ldc]; exact asTs _]
    simp only [Option.bind_some]
    obtain ⟨of, m1, m2⟩ := odd_f k x2 z
    rw [m1]
    simp only [Option.bind_some]
    rw [show asI .i64 (ldc g (some ⟨h1.next, 0, none⟩)) = some x1 by rw [b4.ldc]; exact asI_int _ _]
    simp only [Option.bind_some]
    rw [pick_f k x1 10 g (by decide) (by decide)]
    simp only [Option.bind_some]
    have w0 := Int.emod_nonneg x1 (show (10 : Int) ≠ 0 by decide)
    have w1 := Int.emod_lt_of_pos x1 (show (0 : Int) < 10 by decide)
    generalize x1 % 10 = wh at w0 w1 ⊢
    have C1 := C.then a2
    have Cg := C1.then b2
    have T1 := T.stay C.wf (a2.then b2)
    have S1 := a3.stay a2.wf b2
    have two : ∀ (a b : Int), b = a + 1 → (cond (wh == a) (some (wh == a, g)) (some (wh == b, g)) : Option (Bool × H)) = some (decide (a ≤ wh ∧ wh ≤ b), g) := fun a b e => by
      by_cases d : wh = a
      · rw [show (wh == a) = true by rw [d]; simp, cond_true, decide_eq_true (by omega)]
      · rw [show (wh == a) = false by rw [beq_eq_false_iff_ne]; exact d, cond_false]
        by_cases f : wh = b
        · rw [show (wh == b) = true by rw [f]; simp, decide_eq_true (by omega)]
        · rw [show (wh == b) = false by rw [beq_eq_false_iff_ne]; exact f, decide_eq_false (by omega)]
    have J19 : (cond (wh == (0 : Int)) (some (wh == (0 : Int), g)) ((cond (wh == (1 : Int)) (some (wh == (1 : Int), g)) (some (wh == (2 : Int), g)) : Option ((Bool) × H)).bind fun j18 => some (j18.1, j18.2)) : Option ((Bool) × H)) = some (decide (wh < 3), g) := by
      rw [two 1 2 rfl]
      by_cases d : wh = 0
      · subst d; rfl
      · rw [show (wh == (0 : Int)) = false by rw [beq_eq_false_iff_ne]; exact d, cond_false, Option.bind_some]
        by_cases f : wh < 3
        · rw [decide_eq_true f, decide_eq_true (by omega)]
        · rw [decide_eq_false f, decide_eq_false (by omega)]
    rw [J19]
    simp only [Option.bind_some]
    rw [two 3 4 rfl]
    simp only [Option.bind_some]
    rw [two 5 6 rfl]
    simp only [Option.bind_some]
    rw [show asI .i64 (ldc g (some ⟨h1.next, 3, none⟩)) = some x4 by rw [b4.ldc]; exact asI_int _ _]
    simp only [Option.bind_some]
    obtain ⟨sz, z1⟩ := size_f k x4
    rw [z1 g]
    simp only [Option.bind_some]
    have JJ : Did g (cond (decide (wh < 3)) ((tree_Create.f k t (ba nm) sz g).bind fun q22 => some ((q22.1.1, q22.1.2), q22.2))
      ((cond (decide (3 ≤ wh ∧ wh ≤ 4)) ((tree_Snapshot.f k t (ba of) (ba nm) g).bind fun q24 => some ((q24.1.1, q24.1.2), q24.2))
        ((cond (decide (5 ≤ wh ∧ wh ≤ 6)) ((tree_Clone.f k t (ba of) (ba nm) g).bind fun q26 => some ((q26.1.1, q26.1.2), q26.2))
          ((cond (wh == (7 : Int)) ((tree_Delete.f k t (ba nm) g).bind fun q27 => some ((q27.1.1, q27.1.2), q27.2)) ((tree_Resize.f k t (ba nm) sz g).bind fun q30 => some ((q30.1.1, q30.1.2), q30.2)) : Option ((Sl × Int) × H)).bind fun j31 => some ((j31.1.1, j31.1.2), j31.2)) : Option ((Sl × Int) × H)).bind fun j32 => some ((j32.1.1, j32.1.2), j32.2)) : Option ((Sl × Int) × H)).bind fun j33 => some ((j33.1.1, j33.1.2), j33.2)) : Option ((Sl × Int) × H)) (actP (vols vs) wh of nm sz) := by
      unfold actP
      by_cases d1 : wh < 3
      · rw [decide_eq_true d1, cond_true, if_pos d1]
        exact (tcreate_f k hk b2.wf T1 R nm (by omega) sz).re
      rw [decide_eq_false d1, cond_false, if_neg d1]
      by_cases d2 : wh < 5
      · rw [decide_eq_true (show 3 ≤ wh ∧ wh ≤ 4 by omega), cond_true, if_pos d2]
        exact (tderive_f k hk b2.wf T1 R of nm (by omega) true).re.re.re
      rw [decide_eq_false (show ¬ (3 ≤ wh ∧ wh ≤ 4) by omega), cond_false, if_neg d2]
      by_cases d3 : wh < 7
      · rw [decide_eq_true (show 5 ≤ wh ∧ wh ≤ 6 by omega), cond_true, if_pos d3]
        exact (tderive_f k hk b2.wf T1 R of nm (by omega) false).re.re.re.re
      rw [decide_eq_false (show ¬ (5 ≤ wh ∧ wh ≤ 6) by omega), cond_false, if_neg d3]
      by_cases d4 : wh = 7
      · rw [show (wh == (7 : Int)) = true by rw [d4]; rfl, cond_true, if_pos d4]
        exact (tdelete_f k hk b2.wf T1 R nm).re.re.re.re
      · rw [show (wh == (7 : Int)) = false by rw [beq_eq_false_iff_ne]; exact d4, cond_false, if_neg d4]
        exact (tresize_f k hk b2.wf T1 R nm sz).re.re.re.re
    obtain ⟨t', h2, us, j1, j2, j2', j3, j4⟩ := JJ.then Cg
    rw [j1]
    simp only [Option.bind_some]
    obtain ⟨h3, k1, k2⟩ := sameTree_f k hk j2.wf (T1.stay b2.wf j2') (S1.stay b2.wf j2').read B
    rw [k1, decide_eq_true a5.symm]
    simp only [Option.bind_some, Bool.not_true, cond_false]
    have C3 := j2.then k2
    have T3 := (T1.stay b2.wf j2').stay j2.wf k2
    by_cases er : (actP (vols vs) wh of nm sz).1 = 0
    rotate_left
    · rw [show ((actP (vols vs) wh of nm sz).1 != (0 : Int)) = true by rw [bne_iff_ne]; exact er]
      have en := actP_no.resolve_left er
      rw [en] at j4
      have : us.length = 0 := by rw [← vols_len us, j4]; rfl
      rw [j3.read.n, this]
      simp only [cond_true, Option.bind_some]
      rw [show decide (Int.ofNat 0 > (0 : Int)) = false from rfl]
      simp only [cond_false]
      rw [wi]
      exact Pure.apart_l0 k hk hM A n (i + 1) h3 t vs lt1 lt2 C3 T3 R
    rw [show ((actP (vols vs) wh of nm sz).1 != (0 : Int)) = false by rw [er]; rfl]
    simp only [cond_false, Option.bind_some]
    have R' := actP_right R er
    have K := actP_kept er
    rw [← j4] at R' K
    have O3 := j3.stay j2.wf k2
    obtain ⟨v, h4, l1, l2, l3⟩ := tright_f k hk k2.wf O3.read R'.b
    rw [l1, l3.2 R']
    simp only [Option.bind_some, Bool.not_true, cond_false]
    have S4 := ((S1.stay b2.wf j2').stay j2.wf k2).stay k2.wf l2
    have O4 := O3.stay k2.wf l2
    have Rc : RightP (vols cs) := by rw [a5]; exact R
    rw [← a5] at K
    obtain ⟨h5, p1, p2⟩ := apart_l1 k hk l2.wf S4.read O4.read Rc R' K s (Int.ofNat i) (ba of) k 0 h4 (by have := Rc.b.n; omega) (Nat.zero_le _) (Ch.refl l2.wf)
    rw [S4.read.n, show (0 : Int) = Int.ofNat 0 from rfl, p1]
    simp only [Option.bind_some]
    have S5 := S4.stay l2.wf p2
    have O5 := O4.stay l2.wf p2
    have C5 := (C3.then l2).then p2
    obtain ⟨r, q1, q2⟩ := rat_f k (by omega) O5.read R'.b.n nm
    rw [q1]
    simp only [Option.bind_some]
    have GG : ∃ gb, (cond (decide (wh > 2)) (some (decide (wh < 7), h5)) (some (false, h5)) : Option (Bool × H)) = some (gb, h5) ∧ (gb = true ↔ 2 < wh ∧ wh < 7) := by
      by_cases d : 2 < wh
      · rw [decide_eq_true (show wh > 2 from d), cond_true]
        exact ⟨_, rfl, by rw [decide_eq_true_eq]; omega⟩
      · rw [decide_eq_false (show ¬ wh > 2 from d), cond_false]
        exact ⟨false, rfl, ⟨(fun f => by cases f), (fun f => absurd f.1 d)⟩⟩
    obtain ⟨gb, g1, g2⟩ := GG
    rw [g1]
    simp only [Option.bind_some]
    cases gb with
    | false =>
      simp only [cond_false, Option.bind_some]
      rw [wi]
      exact Pure.apart_l0 k hk hM A n (i + 1) h5 t' us lt1 lt2 C5 O5.read R'
    | true =>
      simp only [cond_true]
      obtain ⟨u1, u2⟩ := g2.1 rfl
      obtain ⟨f, f1, f2, f3⟩ := K.c u1 u2
      obtain ⟨r2, s1, s2⟩ := rat_f k (by omega) S5.read Rc.b.n of
      rw [s1]
      simp only [Option.bind_some]
      rcases q2 with ⟨j, rfl, hj, v1, v2⟩ | ⟨_, q2⟩
      rotate_left
      · obtain ⟨q, hq, e⟩ := List.mem_map.1 f3
        exact absurd (by rw [e]) (q2 q hq)
      rcases s2 with ⟨i2, rfl, hi2, y1, y2⟩ | ⟨_, s2⟩
      rotate_left
      · obtain ⟨q, hq, rfl⟩ := List.mem_map.1 f1
        exact absurd f2 (s2 q hq)
      rw [decide_eq_false (show ¬ Int.ofNat j < Int.ofNat 0 by simp only [Int.ofNat_eq_natCast]; omega), decide_eq_false (show ¬ Int.ofNat i2 < Int.ofNat 0 by simp only [Int.ofNat_eq_natCast]; omega)]
      simp only [cond_false, Option.bind_some]
      obtain ⟨bb, oo, t1, t2, _⟩ := S5.read.at hi2
      rw [S5.read.n] at t1
      rw [t1]
      simp only [asP_ptr, Option.bind_some]
      rw [t2, bindVo]
      have ec : cs[i2].1 = f := nm_inj Rc (mem_vols hi2) f1 (by rw [y1, f2])
      have eu : us[j].1 = ⟨nm, of, decide (wh < 5), f.sz, f.mp⟩ := nm_inj R' (mem_vols hj) f3 v1
      have hU := O5.read.mp _ (List.getElem_mem hj)
      have hC := S5.read.mp _ (List.getElem_mem hi2)
      have hB := R'.b.nm _ (List.getElem_mem hj)
      have far := O5.read
      generalize cs[i2] = q at ec hC
      subst ec
      dsimp only [voT]
      rw [show [Value.string (ba q.1.nm), Value.string (ba q.1.pa), Value.bool q.1.sn, Value.int .i64 q.1.sz, Value.slice q.2.a q.2.n q.2.c] = voL q from rfl, show [Value.string (⟨#[]⟩ : ByteArray), Value.string (⟨#[]⟩ : ByteArray), Value.bool false, Value.int .i64 (Int.ofNat 0), Value.slice none 0 0] = zVo from rfl]
      obtain ⟨h6, d1, d2, d3, d4⟩ := box_ok p2.wf 58 5 zVo (voL q) rfl rfl rfl
      rw [d1]
      simp only [Option.bind_some]
      obtain ⟨h7, w1', w2', w3', w4'⟩ := d4.set d2.wf 0 (.string (ba nm)) (by show 0 < 5; decide) rfl
      rw [w1']
      simp only [Option.bind_some]
      obtain ⟨h8, m1', m2', m3', m4'⟩ := w4'.set w2'.wf 1 (.string (ba of)) (by show 1 < 5; decide) rfl
      rw [m1']
      simp only [Option.bind_some]
      obtain ⟨h9, i1', i2', i3', i4'⟩ := m4'.set m2'.wf 2 (.bool (decide (wh < 5))) (by show 2 < 5; decide) rfl
      rw [i1']
      simp only [Option.bind_some]
      have D : Ch0 h5 h9 := Ch0.at (Ch0.at (Ch0.at d2 w2' (Nat.le_refl _)) m2' (Nat.le_refl _)) i2' (Nat.le_refl _)
      have I9 : Is h9 h5.next 58 5 (voL (⟨nm, of, decide (wh < 5), q.1.sz, q.1.mp⟩, q.2)) := i4'
      obtain ⟨bb2, oo2, t1', t2', _⟩ := (O5.read.stay p2.wf D).at hj
      rw [t1']
      simp only [asP_ptr, Option.bind_some]
      rw [t2', bindVo, ldaIs (n := 5) I9 rfl, bindVo]
      obtain ⟨h10, l1', l2'⟩ := sameVol_f k hk D.wf us[j] (⟨nm, of, decide (wh < 5), q.1.sz, q.1.mp⟩, q.2) (hU.stay p2.wf D) (hC.stay p2.wf D) hB.2.2
      have l1' : corbelref16_SameVolume.f k ((voT us[j]).1, (voT us[j]).2.1, (voT us[j]).2.2.1, (voT us[j]).2.2.2.1, (voT us[j]).2.2.2.2) ((voT (⟨nm, of, decide (wh < 5), q.1.sz, q.1.mp⟩, q.2)).1, (voT (⟨nm, of, decide (wh < 5), q.1.sz, q.1.mp⟩, q.2)).2.1, (voT (⟨nm, of, decide (wh < 5), q.1.sz, q.1.mp⟩, q.2)).2.2.1, (voT (⟨nm, of, decide (wh < 5), q.1.sz, q.1.mp⟩, q.2)).2.2.2.1, (voT (⟨nm, of, decide (wh < 5), q.1.sz, q.1.mp⟩, q.2)).2.2.2.2) h9 = _ := l1'
      rw [l1', decide_eq_true eu]
      simp only [Option.bind_some, Bool.not_true, cond_false]
      rw [wi]
      have D10 := D.then l2'
      exact Pure.apart_l0 k hk hM A n (i + 1) h10 t' us lt1 lt2 (C5.then D10) (O5.read.stay p2.wf D10) R'
theorem Pure.TreeApart : ∀ h x vs, Den.WF h → Den.Dead h → Ar.TreeApart.R h x vs → Ar.TreeApart.Q x → ∃ a, Den.encL [.sl] a = vs ∧ Den.toldB (Fwd.corbellaw18_TreeApart.f 281474976710656 a h) = true := by
  rintro h ⟨l, _⟩ vs w _ ⟨va, vb, rfl, r1, rfl⟩ ⟨⟨_, _, q⟩, _⟩
  obtain ⟨a, rfl, A⟩ := acts_arg (M := reachBytes) w r1 fun x hx => (q x hx).2.2.2.2.2
  obtain ⟨h', e, _⟩ := Pure.apart_l0 281474976710656 (by decide) (by decide) A 281474976710656 0 h ⟨none, 0, 0⟩ [] (by omega) (Nat.zero_le _) (Ch.refl w) TreeO.nil.read ⟨List.Pairwise.nil, (fun _ f => by cases f), (fun _ f => by cases f), (fun _ f => by cases f), Nat.zero_le _⟩
  refine ⟨a, rfl, ?_⟩
  unfold corbellaw18_TreeApart.f
  rw [show (0 : Int) = Int.ofNat 0 from rfl, e]
  rfl
end Go.Proofs.Ytfenkpghcbohdaa
