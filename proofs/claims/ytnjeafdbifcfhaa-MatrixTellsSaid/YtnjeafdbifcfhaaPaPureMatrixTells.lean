/- MatrixTells: the law's forward run comes to true. -/
import Derived.Test.YtnjeafdbifcfhaaPaFwRefN
import Derived.Test.YtnjeafdbifcfhaaPaArMatrixTells
namespace Go.Proofs.Ytnjeafdbifcfhaa
open Go Den Fwd Fw GF
set_option linter.unusedVariables false
set_option linter.unusedSimpArgs false
/-! ### raw rows -/
theorem Pure.u8_wf {n : Int} (h : (Lit.int .u8 n).wf = true) : n = Int.ofNat (u8 n).toNat := by
  unfold Lit.wf at h
  simp only [Bool.and_eq_true, decide_eq_true_eq] at h
  have h0 : (0 : Int) ≤ n := h.1
  have h1 : n ≤ 255 := h.2
  rw [← wrap_u8, wrap_u8_in h0 (by omega)]
theorem Pure.raw_parts {h : H} (w : WF h) : ∀ (xs : List (List Int)) (ls : List (List Value)), ls.length = xs.length → (∀ (i : Nat) (x : List Int) (l : List Value), xs[i]? = some x → ls[i]? = some l → RSl 1 (RInt .u8) h x l) → (∀ x ∈ xs, ∀ n ∈ x, (Lit.int .u8 n).wf = true) → ∃ ps : Parts, ps.length = xs.length ∧ ls.flatten = (ps.map fun p => slv p.1) ∧ PartsR h ps
  | [], [], _, _, _ => ⟨[], rfl, rfl, fun p hp => by cases hp⟩
  | [], l :: ls, e, _, _ => by cases e
  | x :: xs, [], e, _, _ => by cases e
  | x :: xs, l :: ls, e, hr, hw => by
    obtain ⟨ps, p1, p2, p3⟩ := Pure.raw_parts w xs ls (Nat.succ.inj e) (fun i y m hy hm => hr (i + 1) y m hy hm) (fun y hy => hw y (List.mem_cons_of_mem _ hy))
    obtain ⟨s, rfl, s1, _⟩ := RSl.one (f := fun n : Int => Value.int .u8 n) (fun h x l r => r) w (hr 0 x l rfl rfl)
    have eb : (x.map fun n : Int => Value.int .u8 n) = byt (x.map u8) := by
      unfold byt
      rw [List.map_map]
      exact List.map_congr_left fun n hn => by
        show Value.int .u8 n = Value.int .u8 (Int.ofNat (u8 n).toNat)
        rw [← Pure.u8_wf (hw x List.mem_cons_self n hn)]
    rw [eb] at s1
    refine ⟨(s, x.map u8) :: ps, by rw [List.length_cons, p1, List.length_cons], ?_, fun p hp => ?_⟩
    · rw [List.flatten_cons, p2]; rfl
    · rcases List.mem_cons.1 hp with z | z
      · rw [z]; exact s1
      · exact p3 p z
theorem Pure.raw_arg {h : H} (w : WF h) {xs : List (List Int)} {vs : List Value} (r : RSl 1 (RSl 1 (RInt .u8)) h xs vs) (hw : ∀ x ∈ xs, ∀ n ∈ x, (Lit.int .u8 n).wf = true) : ∃ (s : Sl) (ps : Parts), vs = [s.v] ∧ MxR h s ps := by
  obtain ⟨s, ls, rfl, s1, s2, s3, s4, s5, s6⟩ := RSl.many w (by decide) r
  obtain ⟨ps, p1, p2, p3⟩ := Pure.raw_parts w xs ls s3 s5 hw
  rw [p2] at s2
  exact ⟨s, ps, rfl, s2, p3⟩
/-! ### what is no product, no square -/
theorem Pure.mmul_no (k : Nat) (hk : 1000 < k) {fb : Nat} {h : H} (w : WF h) {sa sb : Sl} {ps qs : Parts} (A : MxR h sa ps) (B : MxR h sb qs) (ra : RtM (mxv ps)) (bad : ¬ (RtM (mxv qs) ∧ (hd (mxv ps)).length = qs.length)) :
    ∃ h', matrix_Mul.f k (some ⟨fb, 0, none⟩) sa sb h = some (⟨none, 0, 0⟩, h') ∧ Ch0 h h' := by
  unfold matrix_Mul.f
  rw [show binO1 Try.prog .eql 22 (Value.pointer (some ⟨fb, 0, none⟩)) (Value.pointer none) = some (.bool false) from rfl]
  rw [show asB (some (Value.bool false)) = some false from rfl]
  simp only [Option.bind_some, cond_false]
  obtain ⟨h1, a1, a2⟩ := mright_f k hk w A
  rw [a1, (rightM_iff _).2 ra]
  simp only [Option.bind_some, Bool.not_true, cond_false]
  obtain ⟨h2, b1, b2⟩ := mright_f k hk a2.wf (B.stay w a2)
  rw [b1]
  simp only [Option.bind_some]
  have c2 := a2.then b2
  cases z : rightM (mxv qs) with
  | false => exact ⟨h2, rfl, c2⟩
  | true =>
    simp only [Bool.not_true, cond_false]
    have p0 : 0 < ps.length := by have := ra.n0; rw [mxv_len] at this; exact this
    obtain ⟨p, f1, f2⟩ := (A.stay w c2).at p0
    rw [show (0 : Int) = Int.ofNat 0 from rfl, f1]
    simp only [asP_ptr, Option.bind_some]
    rw [f2]
    simp only [Option.bind_some]
    rw [(A.row p0).n_byt, ← mxv_hd p0, B.n, show (Int.ofNat (hd (mxv ps)).length != Int.ofNat qs.length) = true by
      rw [bne_iff_ne]
      intro f
      exact bad ⟨(rightM_iff _).1 z, Int.ofNat.inj f⟩]
    exact ⟨h2, rfl, c2⟩
theorem Pure.rmul_no (k : Nat) (hk : 1000 < k) {h : H} (w : WF h) {sa sb : Sl} {ps qs : Parts} (A : MxR h sa ps) (B : MxR h sb qs) (ra : RtM (mxv ps)) (bad : ¬ (RtM (mxv qs) ∧ (hd (mxv ps)).length = qs.length)) :
    corbelref3_MulMatrix.f k sa sb h = some (⟨none, 0, 0⟩, h) := by
  unfold corbelref3_MulMatrix.f
  rw [rright_f k hk w A, (rightM_iff _).2 ra]
  simp only [Option.bind_some, Bool.not_true, cond_false]
  rw [rright_f k hk w B]
  simp only [Option.bind_some]
  cases z : rightM (mxv qs) with
  | false => rfl
  | true =>
    simp only [Bool.not_true, cond_false]
    have p0 : 0 < ps.length := by have := ra.n0; rw [mxv_len] at this; exact this
    obtain ⟨p, f1, f2⟩ := A.at p0
    rw [show (0 : Int) = Int.ofNat 0 from rfl, f1]
    simp only [asP_ptr, Option.bind_some]
    rw [f2]
    simp only [Option.bind_some]
    rw [(A.row p0).n_byt, ← mxv_hd p0, B.n, show (Int.ofNat (hd (mxv ps)).length != Int.ofNat qs.length) = true by
      rw [bne_iff_ne]
      intro f
      exact bad ⟨(rightM_iff _).1 z, Int.ofNat.inj f⟩]
    rfl
theorem Pure.inv_any (k : Nat) (hk : 1000 < k) {fb : Nat} {h : H} (w : WF h) (F : FldR h fb) {s : Sl} {r c : Nat} {m : Mx} (A : MxI h s r c m) (h1 : 0 < r) (h2 : r ≤ 64) (h3 : 0 < c) (h4 : c ≤ 64) :
    ∃ t ok h', matrix_Inverse.f k (some ⟨fb, 0, none⟩) s h = some ((t, ok), h') ∧ Ch0 h h' ∧ (r ≠ c → ok = false) := by
  by_cases e : r = c
  · subst e
    obtain ⟨t, ok, h', a1, a2, _⟩ := A.inv k hk w F h1 h2
    exact ⟨t, ok, h', a1, a2, fun f => absurd rfl f⟩
  · obtain ⟨ps, A1, rfl, d⟩ := A
    unfold matrix_Inverse.f
    rw [show binO1 Try.prog .eql 22 (Value.pointer (some ⟨fb, 0, none⟩)) (Value.pointer none) = some (.bool false) from rfl]
    rw [show asB (some (Value.bool false)) = some false from rfl]
    simp only [Option.bind_some, cond_false]
    obtain ⟨h5, a1, a2⟩ := mright_f k hk w A1
    rw [a1, (rightM_iff _).2 (d.rt h1 h2 h3 h4)]
    simp only [Option.bind_some, Bool.not_true, cond_false]
    have pl : ps.length = r := by rw [← mxv_len, d.n]
    have p0 : 0 < ps.length := by omega
    obtain ⟨p, f1, f2⟩ := (A1.stay w a2).at p0
    rw [show (0 : Int) = Int.ofNat 0 from rfl, f1]
    simp only [asP_ptr, Option.bind_some]
    rw [f2]
    simp only [Option.bind_some]
    rw [(A1.row p0).n_byt, d.w _ (List.mem_map.2 ⟨_, List.getElem_mem p0, rfl⟩), A1.n, pl, show (Int.ofNat r != Int.ofNat c) = true by rw [bne_iff_ne]; exact fun f => e (Int.ofNat.inj f)]
    exact ⟨_, false, h5, rfl, a2, fun _ => rfl⟩
theorem Pure.inl_nil (k : Nat) (x8 : Option Addr) (x9 x10 : Sl) (x11 : Int) : ∀ n x12 h s ok h', matrix_Inverse.l0 k n x8 x9 x10 x11 x12 h = some (.inl (s, ok), h') → s = ⟨none, 0, 0⟩
  | 0, x12, h, s, ok, h', e => by cases e
  | n + 1, x12, h, s, ok, h', e => by
    rw [matrix_Inverse.l0_succ] at e
    cases c : decide (x12 < x11) with
    | false => rw [c] at e; cases e
    | true =>
      rw [c, cond_true] at e
      obtain ⟨q, _, e⟩ := Option.bind_eq_some_iff.1 e
      cases d : !q.1 with
      | true => rw [d, cond_true] at e; cases e; rfl
      | false => rw [d, cond_false] at e; exact Pure.inl_nil k x8 x9 x10 x11 n _ _ s ok h' e
theorem Pure.inv_false (k : Nat) {p : Option Addr} {s x : Sl} {h h' : H} (e : matrix_Inverse.f k p s h = some ((x, false), h')) : x = ⟨none, 0, 0⟩ := by
  unfold matrix_Inverse.f at e
  obtain ⟨b1, _, e⟩ := Option.bind_eq_some_iff.1 e
  obtain ⟨g3, _, e⟩ := Option.bind_eq_some_iff.1 e
  obtain ⟨g6, _, e⟩ := Option.bind_eq_some_iff.1 e
  cases c : g6.1 with
  | true => rw [c, cond_true] at e; cases e; rfl
  | false =>
    rw [c, cond_false] at e
    obtain ⟨q7, _, e⟩ := Option.bind_eq_some_iff.1 e
    obtain ⟨⟨v, w⟩, f, e⟩ := Option.bind_eq_some_iff.1 e
    rcases v with ⟨t, ok⟩ | u
    · have := Pure.inl_nil k _ _ _ _ _ _ _ _ _ _ f
      cases e
      exact this
    · obtain ⟨y, _, e⟩ := Option.bind_eq_some_iff.1 e
      cases e
theorem Pure.five (a : Int) : ∃ n : Nat, a % 5 = Int.ofNat n ∧ n < 5 ∧ wrapA .i64 (1 + Int.ofNat n) = Int.ofNat (n + 1) := by
  have z0 := Int.emod_nonneg a (show (5 : Int) ≠ 0 by decide)
  have z1 := Int.emod_lt_of_pos a (show (0 : Int) < 5 by decide)
  obtain ⟨n, hn⟩ : ∃ n : Nat, a % 5 = Int.ofNat n := ⟨_, nn _ z0⟩
  rw [hn] at z1
  simp only [Int.ofNat_eq_natCast] at z1
  refine ⟨n, hn, by omega, ?_⟩
  rw [wrap_in (n := 1 + Int.ofNat n) (by simp only [Int.ofNat_eq_natCast]; omega) (by simp only [Int.ofNat_eq_natCast]; omega)]
  simp only [Int.ofNat_eq_natCast]; omega
theorem Pure.tells_f (k : Nat) (hk : 1000 < k) {h : H} (w : WF h) (a0 a1 a2 : Int) {sl sm sr : Sl} {l m : List Int} (rl : SlR 1 h sl (ivs l)) (nl : sl.n = l.length) (rm : SlR 1 h sm (ivs m)) (nm : sm.n = m.length) {ps : Parts} (R : MxR h sr ps) :
    ∃ h', corbellaw4_MatrixTells.f k a0 a1 a2 sl sm sr h = some (true, h') := by
  unfold corbellaw4_MatrixTells.f
  obtain ⟨h1, f1, f2, f3⟩ := new_f k hk w
  rw [f1]
  simp only [Option.bind_some]
  rw [pick_f k a0 5 h1 (by decide) (by decide)]
  simp only [Option.bind_some]
  rw [pick_f k a1 5 h1 (by decide) (by decide)]
  simp only [Option.bind_some]
  rw [pick_f k a2 5 h1 (by decide) (by decide)]
  simp only [Option.bind_some]
  obtain ⟨r, er, r5, wr⟩ := Pure.five a0
  obtain ⟨c, ec, c5, wc⟩ := Pure.five a1
  obtain ⟨o, eo, o5, wo_⟩ := Pure.five a2
  rw [er, ec, eo, wr, wc, wo_]
  obtain ⟨sa, a, h2, b1, b2, b3⟩ := mof_f k hk f2.wf (rl.stay w f2) nl (r + 1) (c + 1) (by omega) (by omega)
  rw [b1]
  simp only [Option.bind_some]
  have C2 := f2.then b2
  obtain ⟨sb, b, h3, d1, d2, d3⟩ := mof_f k hk b2.wf (rm.stay w C2) nm (c + 1) (o + 1) (by omega) (by omega)
  rw [d1]
  simp only [Option.bind_some]
  have C3 := C2.then d2
  have J : ∃ sq qs, (cond (Int.ofNat (o + 1) == (5 : Int)) (some (sr, h3)) (some (sb, h3)) : Option (Sl × H)) = some (sq, h3) ∧ MxR h3 sq qs := by
    by_cases z : o + 1 = 5
    · rw [z, show (Int.ofNat 5 == (5 : Int)) = true from rfl, cond_true]
      exact ⟨sr, ps, rfl, R.stay w C3⟩
    · rw [show (Int.ofNat (o + 1) == (5 : Int)) = false by rw [beq_eq_false_iff_ne]; intro f; exact z (Int.ofNat.inj f), cond_false]
      obtain ⟨qs, q1, _⟩ := d3
      exact ⟨sb, qs, rfl, q1⟩
  obtain ⟨sq, qs, j1, Q3⟩ := J
  rw [j1]
  simp only [Option.bind_some]
  obtain ⟨ss, s, h4, e1, e2, e3⟩ := mof_f k hk d2.wf (rm.stay w C3) nm (r + 1) (r + 1) (by omega) (by omega)
  rw [e1]
  simp only [Option.bind_some]
  have C4 := C3.then e2
  have FF := fun {g : H} (c : Ch0 h1 g) => f3.stay f2.wf c
  have A4 := (b3.stay b2.wf d2).stay d2.wf e2
  have Q4 := Q3.stay d2.wf e2
  obtain ⟨x, ok, h5, g1, g2, g3⟩ := e3.inv k hk e2.wf (FF ((b2.then d2).then e2)) (by omega) (by omega)
  rw [g1]
  simp only [Option.bind_some]
  obtain ⟨y, ok2, h6, i1, i2, i3⟩ := rinvm_f k hk g2.wf (e3.stay e2.wf g2) (by omega) (by omega)
  rw [i1]
  simp only [Option.bind_some]
  have A6 := (A4.stay e2.wf g2).stay g2.wf i2
  obtain ⟨t, od, h7, k1, k2, k3⟩ := Pure.inv_any k hk i2.wf (FF ((((b2.then d2).then e2).then g2).then i2)) A6 (by omega) (by omega) (by omega) (by omega)
  rw [k1]
  simp only [Option.bind_some, cond_true]
  have Q7 := ((Q4.stay e2.wf g2).stay g2.wf i2).stay i2.wf k2
  obtain ⟨h8, l1, l2⟩ := mright_f k hk k2.wf Q7
  rw [l1]
  simp only [Option.bind_some]
  have Q8 := Q7.stay k2.wf l2
  rw [rright_f k hk l2.wf Q8]
  simp only [Option.bind_some]
  rw [show (rightM (mxv qs) == rightM (mxv qs)) = true by simp]
  simp only [cond_true]
  have A8 := (A6.stay i2.wf k2).stay k2.wf l2
  have F8 := FF ((((((b2.then d2).then e2).then g2).then i2).then k2).then l2)
  -- the products
  have JP : ∃ u h9, matrix_Mul.f k (some ⟨h.next, 0, none⟩) sa sq h8 = some (u, h9) ∧ Ch0 h8 h9 ∧ ∃ v h10, corbelref3_MulMatrix.f k sa sq h9 = some (v, h10) ∧ Ch0 h9 h10 ∧ matrix_Same.f k u v h10 = some (true, h10) := by
    obtain ⟨aps, x1, x2, x3⟩ := A8
    have ra : RtM (mxv aps) := by rw [x2]; exact x3.rt (by omega) (by omega) (by omega) (by omega)
    have ha : (hd (mxv aps)).length = c + 1 := by rw [x2]; exact x3.hd (by omega)
    by_cases good : RtM (mxv qs) ∧ (hd (mxv aps)).length = qs.length
    · have dq : Dim (c + 1) (hd (mxv qs)).length (mxv qs) := ⟨by rw [mxv_len, ← good.2, ha], good.1.al⟩
      have l1 := good.1.c0
      have l2' := good.1.c1
      obtain ⟨u, h9, y1, y2, y3⟩ := MxI.mul k hk l2.wf F8 ⟨aps, x1, x2, x3⟩ ⟨qs, Q8, rfl, dq⟩ (by omega) (by omega) (by omega) (by omega) l1 l2'
      obtain ⟨v, h10, z1, z2, z3⟩ := rmulm_f k hk y2.wf (MxI.stay l2.wf y2 ⟨aps, x1, x2, x3⟩) (MxI.stay l2.wf y2 ⟨qs, Q8, rfl, dq⟩) (by omega) (by omega) (by omega) (by omega) l1 l2'
      exact ⟨u, h9, y1, y2, v, h10, z1, z2, by rw [(y3.stay y2.wf z2).same k hk z3 (by omega) l2', decide_eq_true rfl]⟩
    · obtain ⟨h9, y1, y2⟩ := Pure.mmul_no k hk l2.wf (fb := h.next) x1 Q8 ra good
      refine ⟨_, h9, y1, y2, _, h9, Pure.rmul_no k hk y2.wf (x1.stay l2.wf y2) (Q8.stay l2.wf y2) ra good, Ch.refl y2.wf, ?_⟩
      rw [msame_f k hk MxR.nil MxR.nil (Nat.zero_le _) (fun p hp => by cases hp), decide_eq_true rfl]
  obtain ⟨u, h9, m1, m2, v, h10, n1, n2, n3⟩ := JP
  rw [m1]
  simp only [Option.bind_some]
  rw [n1]
  simp only [Option.bind_some]
  rw [n3]
  simp only [Option.bind_some, cond_true]
  -- the inverses
  have C57 := (i2.then k2).then ((l2.then m2).then n2)
  have C67 := k2.then ((l2.then m2).then n2)
  have JI : (ok == ok2) = true ∧ matrix_Same.f k x y h10 = some (true, h10) ∨ False := by
    rcases g3 with ⟨rfl, e⟩ | ⟨X, rfl, e, X1, _⟩
    · rcases i3 with ⟨rfl, rfl, _⟩ | ⟨Y, _, e', _⟩
      · obtain rfl := Pure.inv_false k g1
        exact .inl ⟨rfl, by rw [msame_f k hk MxR.nil MxR.nil (Nat.zero_le _) (fun p hp => by cases hp), decide_eq_true rfl]⟩
      · rw [e] at e'; cases e'
    · rcases i3 with ⟨_, _, e'⟩ | ⟨Y, rfl, e', Y1⟩
      · rw [e] at e'; cases e'
      · rw [e] at e'
        cases e'
        refine .inl ⟨rfl, ?_⟩
        rw [(X1.stay g2.wf C57).same k hk (Y1.stay i2.wf C67) (by omega) (by omega), decide_eq_true rfl]
  obtain ⟨ji1, ji2⟩ := JI.resolve_right id
  rw [ji1]
  simp only [cond_true]
  rw [ji2]
  simp only [Option.bind_some, cond_true]
  have JO : (cond (Int.ofNat (r + 1) == Int.ofNat (c + 1)) (some (true, h10)) (some (!od, h10)) : Option (Bool × H)) = some (true, h10) := by
    by_cases z : r + 1 = c + 1
    · rw [z, show (Int.ofNat (c + 1) == Int.ofNat (c + 1)) = true by simp, cond_true]
    · rw [show (Int.ofNat (r + 1) == Int.ofNat (c + 1)) = false by rw [beq_eq_false_iff_ne]; intro f; exact z (Int.ofNat.inj f), cond_false, k3 z]; rfl
  rw [JO]
  simp only [Option.bind_some, cond_true]
  obtain ⟨p, h11, o1, o2, o3⟩ := MxI.id k hk n2.wf (r + 1) (by omega) (by omega)
  rw [o1]
  simp only [Option.bind_some]
  obtain ⟨q, h12, q1, q2, q3⟩ := rident_f k hk o2.wf (r + 1) (by omega) (by omega)
  rw [q1]
  simp only [Option.bind_some]
  rw [(o3.stay o2.wf q2).same k hk q3 (by omega) (by omega), decide_eq_true rfl]
  exact ⟨h12, rfl⟩
theorem Pure.MatrixTells : ∀ h x vs, Den.WF h → Den.Dead h → Ar.MatrixTells.R h x vs → Ar.MatrixTells.Q x → ∃ a, Den.encL [.int .i64, .int .i64, .int .i64, .sl, .sl, .sl] a = vs ∧ Den.toldB (Fwd.corbellaw4_MatrixTells.f 2000000 a.1 a.2.1 a.2.2.1 a.2.2.2.1 a.2.2.2.2.1 a.2.2.2.2.2 h) = true := by
  rintro h ⟨r, c, o, l, m, raw, _⟩ vs w _ ⟨va, vb, rfl, r1, vc, vd, rfl, r2, ve, vf, rfl, r3, vg, vh, rfl, r4, vi, vj, rfl, r5, vk, vl, rfl, r6, rfl⟩ q
  obtain rfl := r1
  obtain rfl := r2
  obtain rfl := r3
  obtain ⟨s, rfl, s1, s2, _⟩ := RSl.one (f := fun n : Int => Value.int .i64 n) (fun h x l r => r) w r4
  obtain ⟨t, rfl, t1, t2, _⟩ := RSl.one (f := fun n : Int => Value.int .i64 n) (fun h x l r => r) w r5
  obtain ⟨u, ps, rfl, u1⟩ := Pure.raw_arg w r6 fun x hx n hn => (q.2.2.2.2.2.1.2.2 x hx).2.2 n hn
  obtain ⟨h', e⟩ := Pure.tells_f 2000000 (by decide) w r c o (sl := s) (sm := t) (sr := u) s1 s2 t1 t2 u1
  exact ⟨(r, c, o, s, t, u), rfl, (congrArg toldB e).trans rfl⟩
end Go.Proofs.Ytnjeafdbifcfhaa
