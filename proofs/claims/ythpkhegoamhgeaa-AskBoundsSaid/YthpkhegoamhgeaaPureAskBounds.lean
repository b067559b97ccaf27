/- AskBounds: the law's forward run comes to true. -/
import Derived.Test.YthpkhegoamhgeaaFwRq
import Derived.Test.YthpkhegoamhgeaaArAskBounds
namespace Go.Proofs.Ythpkhegoamhgeaa
open Go Den Fwd Fw
set_option linter.unusedVariables false
set_option linter.unusedSimpArgs false
theorem Pure.wf64 {n : Int} (h : (Lit.int .u64 n).wf = true) : ∃ m : Nat, n = Int.ofNat m ∧ m < 18446744073709551616 := by
  unfold Lit.wf at h
  simp only [Bool.and_eq_true, decide_eq_true_eq] at h
  have h0 : (0 : Int) ≤ n := h.1
  have h1 : n ≤ 18446744073709551615 := h.2
  exact ⟨n.toNat, (Int.toNat_of_nonneg h0).symm, by omega⟩
theorem Pure.wf8 {n : Int} (h : (Lit.int .u8 n).wf = true) : ∃ m : UInt8, n = Int.ofNat m.toNat := by
  unfold Lit.wf at h
  simp only [Bool.and_eq_true, decide_eq_true_eq] at h
  have h0 : (0 : Int) ≤ n := h.1
  have h1 : n ≤ 255 := h.2
  exact ⟨UInt8.ofNat n.toNat, by simp; omega⟩
theorem Pure.bindRaw {β : Type} (a b c d e f : Int) (s : Sl) (g : FT [.int .i64, .int .i64, .int .i64, .int .i64, .int .u64, .int .u64, .sl] → Option β) : (asSt [(.int .i64), (.int .i64), (.int .i64), (.int .i64), (.int .u64), (.int .u64), .sl] (some (Value.agg #[.int .i64 a, .int .i64 b, .int .i64 c, .int .i64 d, .int .u64 e, .int .u64 f, slv s]))).bind g = g (show FT [.int .i64, .int .i64, .int .i64, .int .i64, .int .u64, .int .u64, .sl] from ((a, b, c, d, e, f, s) : Int × Int × Int × Int × Int × Int × Sl)) := rfl
theorem Pure.bounds_f (k : Nat) (hk : 1000 < k) {h : H} (w : WF h) (a b c d : Int) (ck0 off0 : Nat) (hck0 : ck0 < 18446744073709551616) (hoff0 : off0 < 18446744073709551616) (s : Sl) (n : Int) (mg : UInt8) (at_ : Int) :
    ∃ h', corbellaw24_AskBounds.f k (a, b, c, d, Int.ofNat ck0, Int.ofNat off0, s) n (Int.ofNat mg.toNat) at_ h = some (true, h') := by
  unfold corbellaw24_AskBounds.f
  dsimp only
  rw [show (!true) = false from rfl, cond_false]
  rw [show [Value.int .i64 (0 : Int), Value.int .i64 0, Value.int .u64 0, Value.int .u64 0, Value.int .i64 0, Value.slice none 0 0] = rqV 0 0 0 0 0 ⟨none, 0, 0⟩ from rfl]
  obtain ⟨z1, z2, z3⟩ := newR_ok w 32 7 [Value.int IntKind.i64 a, Value.int IntKind.i64 b, Value.int IntKind.i64 c, Value.int IntKind.i64 d, Value.int IntKind.u64 (Int.ofNat ck0), Value.int IntKind.u64 (Int.ofNat off0), Value.slice s.a s.n s.c]
  rw [z3.lda (o := 0) (n := 7) (Nat.le_refl _)]
  rw [show ((([Value.int IntKind.i64 a, Value.int IntKind.i64 b, Value.int IntKind.i64 c, Value.int IntKind.i64 d, Value.int IntKind.u64 (Int.ofNat ck0), Value.int IntKind.u64 (Int.ofNat off0), Value.slice s.a s.n s.c] : List Value).drop 0).take 7).toArray = #[.int .i64 a, .int .i64 b, .int .i64 c, .int .i64 d, .int .u64 (Int.ofNat ck0), .int .u64 (Int.ofNat off0), slv s] from rfl, Pure.bindRaw]
  dsimp only
  generalize newR h 32 7 [Value.int IntKind.i64 a, Value.int IntKind.i64 b, Value.int IntKind.i64 c, Value.int IntKind.i64 d, Value.int IntKind.u64 (Int.ofNat ck0), Value.int IntKind.u64 (Int.ofNat off0), Value.slice s.a s.n s.c] = g0 at z1 z2 z3 ⊢
  obtain ⟨fl, ty, ck, off, le, d0, h1, a1, a2, a3, a4⟩ := of_f k hk z1.wf a b c d ck0 off0 hck0 hoff0 s
  rw [a1]
  simp only [Option.bind_some]
  rw [show [Value.int .i64 fl, Value.int .i64 ty, Value.int .u64 (Int.ofNat ck), Value.int .u64 (Int.ofNat off), Value.int .i64 le, Value.slice d0.a d0.n d0.c] = rqV fl ty (Int.ofNat ck) (Int.ofNat off) le d0 from rfl]
  obtain ⟨h2, b1, b2, b3, b4⟩ := box_ok a2.wf 29 6 (rqV 0 0 0 0 0 ⟨none, 0, 0⟩) (rqV fl ty (Int.ofNat ck) (Int.ofNat off) le d0) rfl rfl rfl
  rw [b1]
  have P : ∀ (n m : Int) (h0 : 0 < m) (h1 : m ≤ 4611686018427387904) (g : H), corbelhand_Pick.f k n m g = some (n % m, g) := fun n m h0 h1 g => pick_f k n m g h0 h1
  obtain ⟨T, hT⟩ : ∃ T : Nat, ty % 8 = Int.ofNat T := ⟨(ty % 8).toNat, (Int.toNat_of_nonneg (Int.emod_nonneg _ (by decide))).symm⟩
  obtain ⟨F, hF⟩ : ∃ T : Nat, fl % 4 = Int.ofNat T := ⟨(fl % 4).toNat, (Int.toNat_of_nonneg (Int.emod_nonneg _ (by decide))).symm⟩
  obtain ⟨L, hL⟩ : ∃ T : Nat, le % 200 = Int.ofNat T := ⟨(le % 200).toNat, (Int.toNat_of_nonneg (Int.emod_nonneg _ (by decide))).symm⟩
  have T8 : T < 8 := by have := Int.emod_lt_of_pos ty (show (0 : Int) < 8 by decide); rw [hT] at this; simp only [Int.ofNat_eq_natCast] at this; omega
  have F4 : F < 4 := by have := Int.emod_lt_of_pos fl (show (0 : Int) < 4 by decide); rw [hF] at this; simp only [Int.ofNat_eq_natCast] at this; omega
  have L200 : L < 200 := by have := Int.emod_lt_of_pos le (show (0 : Int) < 200 by decide); rw [hL] at this; simp only [Int.ofNat_eq_natCast] at this; omega
  simp only [Option.bind_some, b4.ldc]
  rw [show (rqV fl ty (Int.ofNat ck) (Int.ofNat off) le d0)[1]? = some (.int .i64 ty) from rfl]
  simp only [asI_int, Option.bind_some, P ty 8 (by decide) (by decide), hT]
  obtain ⟨h3, c1, c2, c3, c4⟩ := b4.set b2.wf 1 (.int .i64 (Int.ofNat T)) (by show 1 < 6; decide) rfl
  rw [c1]
  simp only [Option.bind_some, c4.ldc]
  rw [show ((rqV fl ty (Int.ofNat ck) (Int.ofNat off) le d0).set 1 (.int .i64 (Int.ofNat T)))[0]? = some (.int .i64 fl) from rfl]
  simp only [asI_int, Option.bind_some, P fl 4 (by decide) (by decide), hF]
  obtain ⟨h4, e1, e2, e3, e4⟩ := c4.set c2.wf 0 (.int .i64 (Int.ofNat F)) (by show 0 < 6; decide) rfl
  rw [e1]
  simp only [Option.bind_some, e4.ldc]
  rw [show (((rqV fl ty (Int.ofNat ck) (Int.ofNat off) le d0).set 1 (.int .i64 (Int.ofNat T))).set 0 (.int .i64 (Int.ofNat F)))[4]? = some (.int .i64 le) from rfl]
  simp only [asI_int, Option.bind_some, P le 200 (by decide) (by decide), hL]
  obtain ⟨h5, f1, f2, f3, f4⟩ := e4.set e2.wf 4 (.int .i64 (Int.ofNat L)) (by show 4 < 6; decide) rfl
  rw [f1]
  simp only [Option.bind_some]
  obtain ⟨h6, g1, g2, g3, g4⟩ := f4.set f2.wf 5 (slv ⟨none, 0, 0⟩) (by show 5 < 6; decide) rfl
  rw [show [Value.slice none 0 0] = [slv ⟨none, 0, 0⟩] from rfl, g1]
  rw [show ((((rqV fl ty (Int.ofNat ck) (Int.ofNat off) le d0).set 1 (.int .i64 (Int.ofNat T))).set 0 (.int .i64 (Int.ofNat F))).set 4 (.int .i64 (Int.ofNat L))).set 5 (slv ⟨none, 0, 0⟩) = rqV (Int.ofNat F) (Int.ofNat T) (Int.ofNat ck) (Int.ofNat off) (Int.ofNat L) ⟨none, 0, 0⟩ from rfl] at g4
  simp only [Option.bind_some, g4.ldc]
  rw [show (rqV (Int.ofNat F) (Int.ofNat T) (Int.ofNat ck) (Int.ofNat off) (Int.ofNat L) ⟨none, 0, 0⟩)[1]? = some (.int .i64 (Int.ofNat T)) from rfl, show (rqV (Int.ofNat F) (Int.ofNat T) (Int.ofNat ck) (Int.ofNat off) (Int.ofNat L) ⟨none, 0, 0⟩)[4]? = some (.int .i64 (Int.ofNat L)) from rfl]
  simp only [asI_int, Option.bind_some]
  have c16 : Ch0 h1 h6 := ⟨g2.wf, by omega, fun x hx _ => (g2.keep x (by omega) (by omega)).trans ((f2.keep x (by omega) (by omega)).trans ((e2.keep x (by omega) (by omega)).trans ((c2.keep x (by omega) (by omega)).trans (b2.keep x hx fun f => f))))⟩
  -- the data
  have J : ∃ hj dq data, (cond (Int.ofNat T == (1 : Int))
      ((corbelhand_Bytes.f k n (Int.ofNat L) h6).bind fun q16 =>
    (stv 1 q16.2 (some ⟨h1.next, 5, none⟩) [(Value.slice q16.1.a q16.1.n q16.1.c)]).bind fun q17 =>
    some ((), q17.2))
      (some ((), h6)) : Option ((Unit) × H)) = some ((), hj) ∧ Ch0 h1 hj ∧ Is hj h1.next 29 6 (rqV (Int.ofNat F) (Int.ofNat T) (Int.ofNat ck) (Int.ofNat off) (Int.ofNat L) dq) ∧ SlR 1 hj dq (byt data) ∧ (T = 1 → data.length = L) ∧ (T ≠ 1 → data = []) := by
    by_cases t1 : T = 1
    · rw [show (Int.ofNat T == (1 : Int)) = true by rw [t1]; rfl, cond_true]
      obtain ⟨dq, x, h7, u1, u2, u3, u4, u5⟩ := hbytes_f k n L (by omega) (by omega) c16.wf
      rw [u1]
      simp only [Option.bind_some]
      obtain ⟨h8, v1, v2, v3, v4⟩ := (g4.stay c16.wf u2).set u2.wf 5 (slv dq) (by show 5 < 6; decide) rfl
      rw [show [Value.slice dq.a dq.n dq.c] = [slv dq] from rfl, v1]
      have l7 := u2.le
      have l6 := c16.le
      refine ⟨h8, dq, x, rfl, ⟨v2.wf, by omega, fun y hy f => (v2.keep y (by omega) (by omega)).trans ((u2.keep y (by omega) f).trans (c16.keep y hy f))⟩, v4, (u4.keep fun y hy => v2.keep y (u4.lt u2.wf hy) ?_).slr, fun _ => u3, fun f => absurd t1 f⟩
      have := u5 y hy
      omega
    · rw [show (Int.ofNat T == (1 : Int)) = false by
        rw [beq_eq_false_iff_ne]; intro f; exact t1 (Int.ofNat.inj f), cond_false]
      exact ⟨h6, ⟨none, 0, 0⟩, [], rfl, c16, g4, .inl ⟨rfl, .inl rfl⟩, fun f => absurd f t1, fun _ => rfl⟩
  obtain ⟨hj, dq, data, j1, j2, j3, j4, j5, j6⟩ := J
  rw [j1]
  simp only [Option.bind_some]
  let q : Rq := ⟨F, T, ck, off, L, data⟩
  have ok : q.Ok := ⟨by show F < _; omega, by show T < _; omega, a3, a4, by show L < _; omega, fun f => ⟨j5 f, by show L ≤ _; omega⟩, j6⟩
  have dl : data.length ≤ 200 := by
    by_cases t1 : T = 1
    · have := j5 t1; omega
    · rw [j6 t1]; exact Nat.zero_le _
  rw [Is.rq j3, bindRq]
  dsimp only
  obtain ⟨so, h7, k1, k2, k3, k4⟩ := lay_f k hk j2.wf q dq j4 (by show F < _; omega) (by show T < _; omega) (by show L < _; omega) (by show data.length ≤ _; omega)
  rw [show ((Int.ofNat F, Int.ofNat T, Int.ofNat ck, Int.ofNat off, Int.ofNat L, dq) : RqT) = q.tup dq from rfl, k1]
  have B7 := j3.stay j2.wf k2
  have D7 := j4.stay j2.wf k2
  simp only [Option.bind_some, B7.ldc]
  rw [show (rqV (Int.ofNat F) (Int.ofNat T) (Int.ofNat ck) (Int.ofNat off) (Int.ofNat L) dq)[1]? = some (.int .i64 (Int.ofNat T)) from rfl, show (rqV (Int.ofNat F) (Int.ofNat T) (Int.ofNat ck) (Int.ofNat off) (Int.ofNat L) dq)[4]? = some (.int .i64 (Int.ofNat L)) from rfl]
  simp only [asI_int, Option.bind_some]
  have W : (cond (Int.ofNat T == (1 : Int)) (some (wrapA .i64 ((28 : Int) + Int.ofNat L), h7)) (some ((28 : Int), h7)) : Option (Int × H)) = some (Int.ofNat (layP q).length, h7) := by
    rw [layP_len]
    by_cases t1 : T = 1
    · rw [show (Int.ofNat T == (1 : Int)) = true by rw [t1]; rfl, cond_true, wrap_in (by simp only [Int.ofNat_eq_natCast]; omega) (by simp only [Int.ofNat_eq_natCast]; omega)]
      have : data.length = L := j5 t1
      show some ((28 : Int) + Int.ofNat L, h7) = some (Int.ofNat (28 + data.length), h7)
      rw [this]; rfl
    · rw [show (Int.ofNat T == (1 : Int)) = false by
        rw [beq_eq_false_iff_ne]; intro f; exact t1 (Int.ofNat.inj f), cond_false]
      have : data = [] := j6 t1
      show some ((28 : Int), h7) = some (Int.ofNat (28 + data.length), h7)
      rw [this]; rfl
  rw [W]
  have Wl : 28 ≤ (layP q).length ∧ (layP q).length ≤ 300 := by rw [layP_len]; show 28 ≤ 28 + data.length ∧ 28 + data.length ≤ 300; omega
  generalize hW : (layP q).length = wl at Wl
  simp only [Option.bind_some]
  rw [k3.slr.n_byt, hW, show (Int.ofNat wl != Int.ofNat wl) = false by simp, cond_false]
  rw [P n (Int.ofNat wl) (by simp only [Int.ofNat_eq_natCast]; omega) (by simp only [Int.ofNat_eq_natCast]; omega)]
  obtain ⟨kk, hkk⟩ : ∃ T : Nat, n % Int.ofNat wl = Int.ofNat T := ⟨(n % Int.ofNat wl).toNat, (Int.toNat_of_nonneg (Int.emod_nonneg _ (by simp only [Int.ofNat_eq_natCast]; omega))).symm⟩
  have kl : kk < wl := by have := Int.emod_lt_of_pos n (show (0 : Int) < Int.ofNat wl by simp only [Int.ofNat_eq_natCast]; omega); rw [hkk] at this; simpa using this
  rw [hkk]
  simp only [Option.bind_some]
  obtain ⟨s1, l1, l2, l3, l4⟩ := subb_ok k3.slr (lo := 0) (hi := kk) (Nat.zero_le _) (by omega) (xlo := none) (xhi := some (Int.ofNat kk)) rfl rfl
  rw [k3.slr.n_byt, hW] at l1
  rw [l1]
  simp only [asS_slv, Option.bind_some]
  rw [List.drop_zero, Nat.sub_zero] at l3
  obtain ⟨r1, h8, m1, m2, m3, m4⟩ := next_f k hk k2.wf l3 (by rw [List.length_take]; omega)
  have sh := nextP_short ok [] (k := kk) (by omega)
  rw [List.append_nil] at sh
  rw [sh] at m1
  rw [m1]
  simp only [Rq.tup, Option.bind_some]
  rw [show [Value.int .i64 (Int.ofNat Rq.zero.fl), Value.int .i64 (Int.ofNat Rq.zero.ty), Value.int .u64 (Int.ofNat Rq.zero.ck), Value.int .u64 (Int.ofNat Rq.zero.off), Value.int .i64 (Int.ofNat Rq.zero.le), Value.slice r1.a r1.n r1.c] = Rq.zero.vs r1 from rfl]
  obtain ⟨h9, n1, n2, n3, n4⟩ := box_ok m2.wf 29 6 (rqV 0 0 0 0 0 ⟨none, 0, 0⟩) (Rq.zero.vs r1) rfl rfl rfl
  rw [n1]
  simp only [Option.bind_some]
  -- all of it, and more behind
  have c79 : Ch0 h7 h9 := m2.then n2
  obtain ⟨o1, o2, o3⟩ := newR_ok c79.wf 5 1 []
  have ow0 : Ow 5 1 (newR h9 5 1 []) ⟨some ⟨h9.next, 0, none⟩, 0, 0⟩ (byt []) := Ow.of_is o3 rfl (by unfold unk; omega)
  have k9 := k3.stay k2.wf c79
  have k3n : so.n = wl := by rw [k3.slr.n_byt, hW]
  obtain ⟨s2, h10, p1, p2, p3, p4⟩ := app_b o1.wf ow0 (k9.slr.stay c79.wf o1) (by rw [hW]; show 0 + wl ≤ _; omega)
  rw [k3n] at p1
  rw [p1]
  simp only [Option.bind_some]
  have c9a : Ch0 h9 h10 := Ch0.own o1 p2 fun x hx => by obtain ⟨o, e⟩ := hx; have : h9.next = x := congrArg Addr.block (Option.some.inj e); omega
  have b2l : ∀ x, SlB s2 x → h9.next ≤ x := fun x hx => (p4 x hx).elim (fun hx => by obtain ⟨o, e⟩ := hx; have : h9.next = x := congrArg Addr.block (Option.some.inj e); omega) fun f => by omega
  obtain ⟨q1, q2, q3⟩ := newR_ok c9a.wf 5 1 (byt [1, 2, 3])
  rw [show [Value.int .u8 (1 : Int), Value.int .u8 (2 : Int), Value.int .u8 (3 : Int)] = byt [1, 2, 3] from rfl]
  obtain ⟨s3, h11, t1, t2, t3, t4⟩ := app_b (y := [1, 2, 3]) q1.wf (p3.stay c9a.wf q1) (t := ⟨some ⟨h10.next, 0, none⟩, 3, 3⟩) (SlR.of_is q3 (n := 3) rfl (by unfold unk; omega)) (by rw [List.nil_append, hW]; show wl + 3 ≤ _; omega)
  rw [t1]
  simp only [Option.bind_some]
  have c9b : Ch0 h9 h11 := Ch0.own (c9a.then q1) t2 b2l
  rw [List.nil_append] at t3
  obtain ⟨r2, h12, u1, u2, u3, u4⟩ := next_f k hk c9b.wf t3.slr (by rw [List.length_append, hW]; show wl + 3 ≤ _; omega)
  rw [nextP_whole ok] at u1 u3
  rw [u1]
  dsimp only at u3
  simp only [Rq.tup, Option.bind_some]
  rw [show [Value.int .i64 (Int.ofNat q.fl), Value.int .i64 (Int.ofNat q.ty), Value.int .u64 (Int.ofNat q.ck), Value.int .u64 (Int.ofNat q.off), Value.int .i64 (Int.ofNat q.le), Value.slice r2.a r2.n r2.c] = q.vs r2 from rfl]
  obtain ⟨h13, v1, v2, v3, v4⟩ := box_ok u2.wf 29 6 (rqV 0 0 0 0 0 ⟨none, 0, 0⟩) (q.vs r2) rfl rfl rfl
  rw [v1]
  simp only [Option.bind_some]
  rw [show (Int.ofNat 7 != (7 : Int)) = false from rfl, cond_false]
  simp only [Option.bind_some]
  rw [show (Int.ofNat 0 != (0 : Int)) = false from rfl]
  simp only [cond_false, Option.bind_some]
  rw [show (Int.ofNat (layP q).length != Int.ofNat wl) = false by rw [hW]; simp]
  simp only [cond_false, Option.bind_some]
  have c7d : Ch0 h7 h13 := ((c79.then c9b).then u2).then v2
  have Bd := B7.stay k2.wf c7d
  rw [show q.vs r2 = rqV _ _ _ _ _ r2 from rfl] at v4
  rw [Is.rq v4, bindRq]
  rw [Is.rq Bd, bindRq]
  dsimp only
  obtain ⟨h14, w1, w2⟩ := same_f k c7d.wf q r2 dq (u3.stay u2.wf v2) (D7.stay k2.wf c7d)
  rw [show ((Int.ofNat q.fl, Int.ofNat q.ty, Int.ofNat q.ck, Int.ofNat q.off, Int.ofNat q.le, r2) : RqT) = q.tup r2 from rfl, show ((Int.ofNat F, Int.ofNat T, Int.ofNat ck, Int.ofNat off, Int.ofNat L, dq) : RqT) = q.tup dq from rfl, w1]
  simp only [Option.bind_some, Bool.not_true, cond_false]
  by_cases z : mg = 0
  · rw [show (Int.ofNat mg.toNat == (0 : Int)) = true by rw [z]; rfl, cond_true]
    exact ⟨_, rfl⟩
  · have hz : (Int.ofNat mg.toNat == (0 : Int)) = false := by
      rw [beq_eq_false_iff_ne]
      intro f
      have : mg.toNat = 0 := Int.ofNat.inj f
      exact z (UInt8.toNat_inj.1 this)
    rw [hz, cond_false]
    have c7e : Ch0 h7 h14 := c7d.then w2
    obtain ⟨x1, x2, x3⟩ := newR_ok c7e.wf 5 1 []
    have owx : Ow 5 1 (newR h14 5 1 []) ⟨some ⟨h14.next, 0, none⟩, 0, 0⟩ (byt []) := Ow.of_is x3 rfl (by unfold unk; omega)
    obtain ⟨s4, h15, y1, y2, y3, y4⟩ := app_b x1.wf owx ((k3.stay k2.wf c7e).slr.stay c7e.wf x1) (by rw [hW]; show 0 + wl ≤ _; omega)
    rw [k3n] at y1
    rw [y1]
    simp only [Option.bind_some]
    have ceF : Ch0 h14 h15 := Ch0.own x1 y2 fun x hx => by obtain ⟨o, e⟩ := hx; have : h14.next = x := congrArg Addr.block (Option.some.inj e); omega
    rw [List.nil_append] at y3
    rw [P at_ 4 (by decide) (by decide)]
    obtain ⟨ai, hai⟩ : ∃ T : Nat, at_ % 4 = Int.ofNat T := ⟨(at_ % 4).toNat, (Int.toNat_of_nonneg (Int.emod_nonneg _ (by decide))).symm⟩
    have a4' : ai < 4 := by have := Int.emod_lt_of_pos at_ (show (0 : Int) < 4 by decide); rw [hai] at this; simp only [Int.ofNat_eq_natCast] at this; omega
    rw [hai]
    simp only [Option.bind_some]
    have hlt : ai < (layP q).length := by omega
    obtain ⟨p, aa1, aa2⟩ := y3.slr.byte (List.getElem?_eq_getElem hlt)
    rw [aa1]
    simp only [asP_ptr, Option.bind_some, aa2, asI_int]
    rw [xor_u8]
    simp only [asI_int, Option.bind_some]
    obtain ⟨p', h16, ab1, ab2, ab3, ab4, ab5⟩ : ∃ a h', ixs 1 s4.a s4.n (Int.ofNat ai) = some (.pointer a) ∧ stv 1 h15 a [.int .u8 (Int.ofNat ((layP q)[ai] ^^^ mg).toNat)] = some (undef, h') ∧ Ch (SlB s4) h15 h' ∧ h'.next = h15.next ∧ Ow 5 1 h' s4 (byt ((layP q).set ai ((layP q)[ai] ^^^ mg))) := by
      rcases y3 with ⟨f, _⟩ | ⟨b, m, cc, rfl, hl, I, hc⟩
      · have := congrArg List.length f
        rw [byt_len, hW] at this
        simp at this; omega
      · rw [byt_len, hW, Nat.mul_one] at hl
        obtain ⟨h', i1, i2, i3, i4⟩ := I.set ceF.wf ai (.int .u8 (Int.ofNat ((layP q)[ai] ^^^ mg).toNat)) (by rw [byt_len]; exact hlt) rfl
        refine ⟨some ⟨b, 0 + ai * 1, none⟩, h', cond_eta _ _ _ (Nat.ble_eq_true_of_le (by show ai + 1 ≤ m; omega)), by rw [Nat.zero_add, Nat.mul_one]; exact i1, i2.mono fun x _ hx => by subst hx; exact ⟨0, rfl⟩, i3, .inr ⟨b, m, cc, rfl, by rw [byt_len, List.length_set, hW]; omega, ?_, hc⟩⟩
        have : (byt (layP q)).set ai (.int .u8 (Int.ofNat ((layP q)[ai] ^^^ mg).toNat)) = byt ((layP q).set ai ((layP q)[ai] ^^^ mg)) := by unfold byt; rw [List.map_set]
        rw [← this]; exact i4
    rw [aa1] at ab1
    cases ab1
    rw [ab2]
    simp only [Option.bind_some]
    generalize hX : (layP q).set ai ((layP q)[ai] ^^^ mg) = X at ab5
    have Xl : X.length = wl := by rw [← hX, List.length_set, hW]
    have Xb : cutL X 0 4 ≠ beN 627086611 4 := by
      have e1 : cutL X 0 4 = (cutL (layP q) 0 4).set ai ((layP q)[ai] ^^^ mg) := by
        rw [← hX]
        unfold cutL
        rw [List.drop_zero, List.drop_zero, List.take_set]
      have e2 : cutL (layP q) 0 4 = beN 627086611 4 := by rw [layP_eq, cutH q _ (by decide)]; rfl
      rw [e1, e2]
      refine beN_set ai a4' _ fun f => ?_
      have e3 : (beN 627086611 4)[ai]? = some (layP q)[ai] := by
        rw [← e2]
        unfold cutL
        rw [List.drop_zero, List.getElem?_take, if_pos (by omega), List.getElem?_eq_getElem hlt]
      rw [e3] at f
      exact xor_ne _ _ z (Option.some.inj f).symm
    have cfG : Ch0 h14 h16 := Ch0.own ceF ab3 fun x hx => (y4 x hx).elim (fun hx => by obtain ⟨o, e⟩ := hx; have : h14.next = x := congrArg Addr.block (Option.some.inj e); omega) fun f => by omega
    have s4n : s4.n = wl := by rw [ab5.slr.n_byt, Xl]
    obtain ⟨s5, ac1, ac2, ac3, ac4⟩ := subb_ok ab5.slr (lo := 0) (hi := 4) (by decide) (by omega) (xlo := none) (xhi := some (Int.ofNat 4)) rfl rfl
    rw [show some (4 : Int) = some (Int.ofNat 4) from rfl, ac1]
    simp only [asS_slv, Option.bind_some]
    rw [List.drop_zero] at ac3
    obtain ⟨r3, h17, ad1, ad2, ad3, ad4⟩ := next_f k hk cfG.wf ac3 (by rw [List.length_take]; omega)
    rw [nextP_bad (x := X.take (4 - 0)) (by rw [List.length_take]; omega) (by rw [cutL_take (by decide)]; exact Xb)] at ad1
    rw [ad1]
    simp only [Rq.tup, Option.bind_some]
    rw [show [Value.int .i64 (Int.ofNat Rq.zero.fl), Value.int .i64 (Int.ofNat Rq.zero.ty), Value.int .u64 (Int.ofNat Rq.zero.ck), Value.int .u64 (Int.ofNat Rq.zero.off), Value.int .i64 (Int.ofNat Rq.zero.le), Value.slice r3.a r3.n r3.c] = Rq.zero.vs r3 from rfl]
    obtain ⟨h18, ae1, ae2, ae3, ae4⟩ := box_ok ad2.wf 29 6 (rqV 0 0 0 0 0 ⟨none, 0, 0⟩) (Rq.zero.vs r3) rfl rfl rfl
    rw [ae1]
    simp only [Option.bind_some]
    have cGI : Ch0 h16 h18 := ad2.then ae2
    obtain ⟨r4, h19, af1, af2, af3, af4⟩ := next_f k hk cGI.wf (ab5.slr.stay cfG.wf cGI) (by omega)
    rw [nextP_bad (x := X) (by omega) Xb] at af1
    rw [af1]
    simp only [Rq.tup, Option.bind_some]
    rw [show [Value.int .i64 (Int.ofNat Rq.zero.fl), Value.int .i64 (Int.ofNat Rq.zero.ty), Value.int .u64 (Int.ofNat Rq.zero.ck), Value.int .u64 (Int.ofNat Rq.zero.off), Value.int .i64 (Int.ofNat Rq.zero.le), Value.slice r4.a r4.n r4.c] = Rq.zero.vs r4 from rfl]
    obtain ⟨h20, ag1, ag2, ag3, ag4⟩ := box_ok af2.wf 29 6 (rqV 0 0 0 0 0 ⟨none, 0, 0⟩) (Rq.zero.vs r4) rfl rfl rfl
    rw [ag1]
    simp only [Option.bind_some]
    have cGK : Ch0 h16 h20 := (cGI.then af2).then ag2
    obtain ⟨s6, ah1, ah2, ah3, ah4⟩ := subb_ok (ab5.slr.stay cfG.wf cGK) (lo := 0) (hi := 3) (by decide) (by omega) (xlo := none) (xhi := some (Int.ofNat 3)) rfl rfl
    rw [show some (3 : Int) = some (Int.ofNat 3) from rfl, ah1]
    simp only [asS_slv, Option.bind_some]
    rw [List.drop_zero] at ah3
    obtain ⟨r5, h21, ai1, ai2, ai3, ai4⟩ := next_f k hk cGK.wf ah3 (by rw [List.length_take]; omega)
    rw [nextP_few (x := X.take (3 - 0)) (by rw [List.length_take]; omega)] at ai1
    rw [ai1]
    simp only [Rq.tup, Option.bind_some]
    rw [show [Value.int .i64 (Int.ofNat Rq.zero.fl), Value.int .i64 (Int.ofNat Rq.zero.ty), Value.int .u64 (Int.ofNat Rq.zero.ck), Value.int .u64 (Int.ofNat Rq.zero.off), Value.int .i64 (Int.ofNat Rq.zero.le), Value.slice r5.a r5.n r5.c] = Rq.zero.vs r5 from rfl]
    obtain ⟨h22, aj1, aj2, aj3, aj4⟩ := box_ok ai2.wf 29 6 (rqV 0 0 0 0 0 ⟨none, 0, 0⟩) (Rq.zero.vs r5) rfl rfl rfl
    rw [aj1]
    exact ⟨h22, rfl⟩
theorem Pure.AskBounds : ∀ h x vs, Den.WF h → Den.Dead h → Ar.AskBounds.R h x vs → Ar.AskBounds.Q x → ∃ a, Den.encL [.st [.int .i64, .int .i64, .int .i64, .int .i64, .int .u64, .int .u64, .sl], .int .i64, .int .u8, .int .i64] a = vs ∧ Den.toldB (Fwd.corbellaw24_AskBounds.f 2000 a.1 a.2.1 a.2.2.1 a.2.2.2 h) = true := by
  rintro h ⟨⟨a, b, c, d, ck, off, l⟩, n, mg, at_, _⟩ vs w _ ⟨va, vb, rfl, ⟨ll, rfl, x1, y1, rfl, r1, x2, y2, rfl, r2, x3, y3, rfl, r3, x4, y4, rfl, r4, x5, y5, rfl, r5, x6, y6, rfl, r6, r7⟩, vc, vd, rfl, r8, ve, vf, rfl, r9, vg, vh, rfl, r10, rfl⟩ ⟨⟨_, _, _, _, q5, q6, _⟩, _, q8, _⟩
  obtain ⟨s, rfl, _⟩ := r7
  obtain rfl := r1
  obtain rfl := r2
  obtain rfl := r3
  obtain rfl := r4
  obtain rfl := r5
  obtain rfl := r6
  obtain rfl := r8
  obtain rfl := r9
  obtain rfl := r10
  obtain ⟨ck, rfl, hck⟩ := Pure.wf64 q5
  obtain ⟨off, rfl, hoff⟩ := Pure.wf64 q6
  obtain ⟨mg, rfl⟩ := Pure.wf8 q8
  obtain ⟨h', e⟩ := Pure.bounds_f 2000 (by decide) w a b c d ck off hck hoff s n mg at_
  exact ⟨((a, b, c, d, Int.ofNat ck, Int.ofNat off, s), n, Int.ofNat mg.toNat, at_), rfl, (congrArg toldB e).trans rfl⟩
end Go.Proofs.Ythpkhegoamhgeaa
