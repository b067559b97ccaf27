/- MatrixBack: the law's forward run comes to true. -/
import Derived.Test.YtnjeafdbifcfhaaFwLaw4
import Derived.Test.YtnjeafdbifcfhaaArMatrixBack
namespace Go.Proofs.Ytnjeafdbifcfhaa
open Go Den Fwd Fw
set_option linter.unusedVariables false
set_option linter.unusedSimpArgs false
theorem Pure.mback_one (k : Nat) (hk : 1000 < k) {fb : Nat} {h : H} (w : WF h) (F : FldR h fb) {sa so sx : Sl} {n : Nat} {a x : Mx} (n0 : 0 < n) (n1 : n ≤ 64) (A : MxI h sa n n a) (O : MxI h so n n (idM n)) (X : MxI h sx n n x) (hx : mulM x a = idM n ∧ mulM a x = idM n) : ∃ h', ((((matrix_Mul.f k (some ⟨fb, 0, none⟩) sa sx h).bind fun q8 =>
    (matrix_Same.f k q8.1 so q8.2).bind fun q9 =>
    (cond (!q9.1) (some (true, q9.2))
      ((matrix_Mul.f k (some ⟨fb, 0, none⟩) sx sa q9.2).bind fun q10 =>
    (matrix_Same.f k q10.1 so q10.2).bind fun q11 =>
    some (!q11.1, q11.2))).bind fun g12 =>
    some (g12.1, g12.2))) : Option (Bool × H)) = some (false, h') ∧ Ch0 h h' := by
  obtain ⟨s1, h1, a1, a2, a3⟩ := A.mul k hk w F X n0 n1 n0 n1 n0 n1
  rw [a1]
  simp only [Option.bind_some]
  rw [a3.same k hk (O.stay w a2) n1 n1, hx.2, decide_eq_true rfl]
  simp only [Option.bind_some, Bool.not_true, cond_false]
  obtain ⟨s2, h2, b1, b2, b3⟩ := (X.stay w a2).mul k hk a2.wf (F.stay w a2) (A.stay w a2) n0 n1 n0 n1 n0 n1
  rw [b1]
  simp only [Option.bind_some]
  rw [b3.same k hk (O.stay w (a2.then b2)) n1 n1, hx.1, decide_eq_true rfl]
  exact ⟨h2, rfl, a2.then b2⟩
theorem Pure.mback_f (k : Nat) (hk : 1000 < k) {h : H} (w : WF h) (a0 : Int) {sl sm : Sl} {L M : List Int} (RL : SlR 1 h sl (ivs L)) (hL : sl.n = L.length) (RM : SlR 1 h sm (ivs M)) (hM : sm.n = M.length) : ∃ h', corbellaw4_MatrixBack.f k a0 sl sm h = some (true, h') := by
  unfold corbellaw4_MatrixBack.f
  obtain ⟨h1, a1, a2, F1⟩ := new_f k hk w
  rw [a1]
  simp only [Option.bind_some]
  generalize h.next = fb at F1 ⊢
  rw [pick_f k a0 6 h1 (by decide) (by decide)]
  simp only [Option.bind_some]
  obtain ⟨N0, hN⟩ : ∃ T : Nat, a0 % 6 = Int.ofNat T := ⟨_, nn _ (Int.emod_nonneg a0 (by decide))⟩
  have N1 : N0 < 6 := by have := Int.emod_lt_of_pos a0 (show (0 : Int) < 6 by decide); rw [hN] at this; simp only [Int.ofNat_eq_natCast] at this; omega
  rw [hN, wrap_in (n := (1 : Int) + Int.ofNat N0) (by simp only [Int.ofNat_eq_natCast]; omega) (by simp only [Int.ofNat_eq_natCast]; omega), show (1 : Int) + Int.ofNat N0 = Int.ofNat (1 + N0) from rfl]
  have n0 : 0 < 1 + N0 := by omega
  have n1 : 1 + N0 ≤ 64 := by omega
  generalize 1 + N0 = n at n0 n1 ⊢
  obtain ⟨sa, a, h2, b1, b2, A2⟩ := mof_f k hk a2.wf (RL.stay w a2) hL n n n1 n1
  rw [b1]
  simp only [Option.bind_some]
  have c02 := a2.then b2
  obtain ⟨sb, b, h3, c1, c2, B3⟩ := mof_f k hk b2.wf (RM.stay w c02) hM n n n1 n1
  rw [c1]
  simp only [Option.bind_some]
  have F3 := F1.stay a2.wf (b2.then c2)
  have A3 := A2.stay b2.wf c2
  obtain ⟨sx, ok, h4, d1, d2, d3⟩ := A3.inv k hk c2.wf F3 n0 n1
  rw [d1]
  simp only [Option.bind_some]
  obtain ⟨so, h5, e1, e2, O5⟩ := MxI.id k hk d2.wf n n0 n1
  rw [e1]
  simp only [Option.bind_some, Bool.not_true, cond_false]
  rw [O5.n, show (Int.ofNat n != Int.ofNat n) = false by simp]
  simp only [cond_false]
  have c35 := d2.then e2
  have F5 := F3.stay c2.wf c35
  have A5 := A3.stay c2.wf c35
  have B5 := B3.stay c2.wf c35
  have X5 : (ok = false ∧ invP a = none) ∨ ∃ x, ok = true ∧ invP a = some x ∧ MxI h5 sx n n x ∧ mulM x a = idM n ∧ mulM a x = idM n := d3.imp (fun x => x) fun ⟨x, x1, x2, x3, x4⟩ => ⟨x, x1, x2, x3.stay d2.wf e2, x4⟩
  obtain ⟨h6, f1, f2⟩ : ∃ h6, ((cond ok ((matrix_Mul.f k (some ⟨fb, 0, none⟩) sa sx h5).bind fun q8 =>
    (matrix_Same.f k q8.1 so q8.2).bind fun q9 =>
    (cond (!q9.1) (some (true, q9.2))
      ((matrix_Mul.f k (some ⟨fb, 0, none⟩) sx sa q9.2).bind fun q10 =>
    (matrix_Same.f k q10.1 so q10.2).bind fun q11 =>
    some (!q11.1, q11.2))).bind fun g12 =>
    some (g12.1, g12.2))
      (some (false, h5))) : Option (Bool × H)) = some (false, h6) ∧ Ch0 h5 h6 := by
    rcases X5 with ⟨rfl, _⟩ | ⟨x, rfl, _, x3, x4⟩
    · exact ⟨h5, rfl, Ch.refl e2.wf⟩
    · obtain ⟨h6, g1, g2⟩ := Pure.mback_one k hk e2.wf F5 n0 n1 A5 O5 x3 x4
      exact ⟨h6, g1, g2⟩
  rw [f1]
  simp only [Option.bind_some, cond_false]
  have F6 := F5.stay e2.wf f2
  have A6 := A5.stay e2.wf f2
  have B6 := B5.stay e2.wf f2
  obtain ⟨sy, is, h7, g1, g2, g3⟩ := B6.inv k hk f2.wf F6 n0 n1
  rw [g1]
  simp only [Option.bind_some]
  obtain ⟨sp, h8, i1, i2, P8⟩ := (A6.stay f2.wf g2).mul k hk g2.wf (F6.stay f2.wf g2) (B6.stay f2.wf g2) n0 n1 n0 n1 n0 n1
  rw [i1]
  simp only [Option.bind_some]
  have c68 := g2.then i2
  obtain ⟨sz, both, h9, j1, j2, j3⟩ := P8.inv k hk i2.wf (F6.stay f2.wf c68) n0 n1
  rw [j1]
  simp only [Option.bind_some]
  have c69 := c68.then j2
  have F9 := F6.stay f2.wf c69
  have A9 := A6.stay f2.wf c69
  have B9 := B6.stay f2.wf c69
  have c59 := f2.then c69
  have da : Dim n n a := by obtain ⟨ps, _, rfl, d⟩ := A9; exact d
  have db : Dim n n b := by obtain ⟨ps, _, rfl, d⟩ := B9; exact d
  rw [show (cond ok (some (is, h9)) (some (false, h9)) : Option (Bool × H)) = some (ok && is, h9) by cases ok <;> rfl]
  simp only [Option.bind_some]
  obtain ⟨h10, k1, k2⟩ : ∃ h10, ((cond (!(both == (ok && is))) (some (true, h9))
      ((cond both ((matrix_Mul.f k (some ⟨fb, 0, none⟩) sy sx h9).bind fun q18 =>
    (matrix_Same.f k sz q18.1 q18.2).bind fun q19 =>
    some (!q19.1, q19.2))
      (some (false, h9))).bind fun g20 =>
    some (g20.1, g20.2))) : Option (Bool × H)) = some (false, h10) ∧ Ch0 h9 h10 := by
    rcases invP_prod da db n0 with ⟨x, y, ex, ey, ez⟩ | ⟨hn, ez⟩
    · have hX : ok = true ∧ MxI h5 sx n n x := by
        rcases X5 with ⟨_, x2⟩ | ⟨x', x1, x2, x3, _⟩
        · rw [ex] at x2; cases x2
        · rw [ex] at x2; cases x2; exact ⟨x1, x3⟩
      have hY : is = true ∧ MxI h7 sy n n y := by
        rcases g3 with ⟨_, x2⟩ | ⟨x', x1, x2, x3, _⟩
        · rw [ey] at x2; cases x2
        · rw [ey] at x2; cases x2; exact ⟨x1, x3⟩
      have hZ : both = true ∧ MxI h9 sz n n (mulM y x) := by
        rcases j3 with ⟨_, x2⟩ | ⟨x', x1, x2, x3, _⟩
        · rw [ez] at x2; cases x2
        · rw [ez] at x2; cases x2; exact ⟨x1, x3⟩
      rw [hX.1, hY.1, hZ.1]
      simp only [Bool.and_self, beq_self_eq_true, Bool.not_true, cond_false, cond_true]
      obtain ⟨sq, h10, l1, l2, l3⟩ := (hY.2.stay g2.wf (i2.then j2)).mul k hk j2.wf F9 (hX.2.stay e2.wf c59) n0 n1 n0 n1 n0 n1
      rw [l1]
      simp only [Option.bind_some]
      rw [(hZ.2.stay j2.wf l2).same k hk l3 n1 n1, decide_eq_true rfl]
      exact ⟨h10, rfl, l2⟩
    · have hB : both = false := by
        rcases j3 with ⟨x1, _⟩ | ⟨x', x1, x2, _⟩
        · exact x1
        · rw [ez] at x2; cases x2
      have hO : (ok && is) = false := by
        rcases hn with e | e
        · rcases X5 with ⟨x1, _⟩ | ⟨x', x1, x2, _⟩
          · rw [x1]; rfl
          · rw [e] at x2; cases x2
        · rcases g3 with ⟨x1, _⟩ | ⟨x', x1, x2, _⟩
          · rw [x1, Bool.and_false]
          · rw [e] at x2; cases x2
      rw [hB, hO]
      exact ⟨h9, rfl, Ch.refl j2.wf⟩
  rw [k1]
  simp only [Option.bind_some, cond_false]
  have c5a := c59.then k2
  have F10 := F9.stay j2.wf k2
  have c010 := (c02.then c2).then (c35.then c5a)
  obtain ⟨sc, c, h11, m1, m2, C11⟩ := mof_f k hk k2.wf (RM.stay w c010) hM n 3 n1 (by decide)
  rw [show (3 : Int) = Int.ofNat 3 from rfl, m1]
  simp only [Option.bind_some]
  have dc : Dim n 3 c := by obtain ⟨ps, _, rfl, d⟩ := C11; exact d
  have F11 := F10.stay k2.wf m2
  have A11 := A9.stay j2.wf (k2.then m2)
  have B11 := B9.stay j2.wf (k2.then m2)
  obtain ⟨s12, h12, o1, o2, P12⟩ := A11.mul k hk m2.wf F11 B11 n0 n1 n0 n1 n0 n1
  rw [o1]
  simp only [Option.bind_some]
  obtain ⟨s13, h13, p1, p2, P13⟩ := P12.mul k hk o2.wf (F11.stay m2.wf o2) (C11.stay m2.wf o2) n0 n1 n0 n1 (by decide) (by decide)
  rw [p1]
  simp only [Option.bind_some]
  have c13 := o2.then p2
  obtain ⟨s14, h14, q1, q2, P14⟩ := (B11.stay m2.wf c13).mul k hk p2.wf (F11.stay m2.wf c13) (C11.stay m2.wf c13) n0 n1 n0 n1 (by decide) (by decide)
  rw [q1]
  simp only [Option.bind_some]
  have c14 := c13.then q2
  obtain ⟨s15, h15, r1, r2, P15⟩ := (A11.stay m2.wf c14).mul k hk q2.wf (F11.stay m2.wf c14) P14 n0 n1 n0 n1 (by decide) (by decide)
  rw [r1]
  simp only [Option.bind_some]
  have c15 := c14.then r2
  rw [(P13.stay p2.wf (q2.then r2)).same k hk P15 n1 (by decide), mulM_assoc da db dc n0 n0, decide_eq_true rfl]
  simp only [Option.bind_some, cond_true]
  obtain ⟨s16, h16, t1, t2, P16⟩ := (O5.stay e2.wf (c5a.then (m2.then c15))).mul k hk r2.wf (F11.stay m2.wf c15) (C11.stay m2.wf c15) n0 n1 n0 n1 (by decide) (by decide)
  rw [t1]
  simp only [Option.bind_some]
  rw [P16.same k hk (C11.stay m2.wf (c15.then t2)) n1 (by decide), one_mulM dc n0, decide_eq_true rfl]
  exact ⟨h16, rfl⟩
theorem Pure.MatrixBack : ∀ h x vs, Den.WF h → Den.Dead h → Ar.MatrixBack.R h x vs → Ar.MatrixBack.Q x → ∃ a, Den.encL [.int .i64, .sl, .sl] a = vs ∧ Den.toldB (Fwd.corbellaw4_MatrixBack.f 1000000 a.1 a.2.1 a.2.2 h) = true := by
  rintro h ⟨n, l, m, _⟩ vs w _ ⟨va, vb, rfl, r1, vc, vd, rfl, r2, ve, vf, rfl, r3, rfl⟩ _
  obtain rfl := r1
  obtain ⟨s1, rfl, x1, x2, _⟩ := r2.one (f := fun n => .int .i64 n) (fun h x l r => r) w
  obtain ⟨s2, rfl, y1, y2, _⟩ := r3.one (f := fun n => .int .i64 n) (fun h x l r => r) w
  obtain ⟨h', g⟩ := Pure.mback_f 1000000 (by decide) w n x1 x2 y1 y2
  exact ⟨(n, s1, s2), rfl, (congrArg toldB g).trans rfl⟩
end Go.Proofs.Ytnjeafdbifcfhaa
