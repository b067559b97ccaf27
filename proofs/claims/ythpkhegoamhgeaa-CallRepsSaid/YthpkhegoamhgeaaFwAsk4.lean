/- ask's laws: of. No condition. -/
import Derived.Test.YthpkhegoamhgeaaFwAsk3
namespace Go.Proofs.Ythpkhegoamhgeaa.Fw
open Go Den Fwd
set_option linter.unusedVariables false
set_option linter.unusedSimpArgs false
/-- the box of a request that is made -/
structure Bx (g h : H) : Prop where
  ch : Ch0 g h
  box : ∃ (fl ty : Int) (ck off : Nat) (le : Int) (d : Sl), Is h g.next 29 6 (rqV fl ty (Int.ofNat ck) (Int.ofNat off) le d) ∧ ck < 18446744073709551616 ∧ off < 18446744073709551616
theorem Bx.step {g h h' : H} (B : Ch0 g h) (c : Ch (fun b => b = g.next) h h') : Ch0 g h' := B.trans c fun x hx f => by omega
theorem Bx.st0 {g h : H} (B : Bx g h) (v : Int) : ∃ h', stv 1 h (some ⟨g.next, 0, none⟩) [.int .i64 v] = some (undef, h') ∧ Bx g h' := by
  obtain ⟨fl, ty, ck, off, le, d, I, h1, h2⟩ := B.box
  obtain ⟨h', e1, e2, e3, e4⟩ := I.set B.ch.wf 0 (.int .i64 v) (by show 0 < 6; decide) rfl
  exact ⟨h', e1, Bx.step B.ch e2, v, ty, ck, off, le, d, e4, h1, h2⟩
theorem Bx.st1 {g h : H} (B : Bx g h) (v : Int) : ∃ h', stv 1 h (some ⟨g.next, 1, none⟩) [.int .i64 v] = some (undef, h') ∧ Bx g h' := by
  obtain ⟨fl, ty, ck, off, le, d, I, h1, h2⟩ := B.box
  obtain ⟨h', e1, e2, e3, e4⟩ := I.set B.ch.wf 1 (.int .i64 v) (by show 1 < 6; decide) rfl
  exact ⟨h', e1, Bx.step B.ch e2, fl, v, ck, off, le, d, e4, h1, h2⟩
theorem Bx.st3 {g h : H} (B : Bx g h) (n : Nat) (hn : n < 18446744073709551616) : ∃ h', stv 1 h (some ⟨g.next, 3, none⟩) [.int .u64 (Int.ofNat n)] = some (undef, h') ∧ Bx g h' := by
  obtain ⟨fl, ty, ck, off, le, d, I, h1, h2⟩ := B.box
  obtain ⟨h', e1, e2, e3, e4⟩ := I.set B.ch.wf 3 (.int .u64 (Int.ofNat n)) (by show 3 < 6; decide) rfl
  exact ⟨h', e1, Bx.step B.ch e2, fl, ty, ck, n, le, d, e4, h1, hn⟩
theorem Bx.st4 {g h : H} (B : Bx g h) (v : Int) : ∃ h', stv 1 h (some ⟨g.next, 4, none⟩) [.int .i64 v] = some (undef, h') ∧ Bx g h' := by
  obtain ⟨fl, ty, ck, off, le, d, I, h1, h2⟩ := B.box
  obtain ⟨h', e1, e2, e3, e4⟩ := I.set B.ch.wf 4 (.int .i64 v) (by show 4 < 6; decide) rfl
  exact ⟨h', e1, Bx.step B.ch e2, fl, ty, ck, off, v, d, e4, h1, h2⟩
theorem Bx.st5 {g h : H} (B : Bx g h) (v : Sl) : ∃ h', stv 1 h (some ⟨g.next, 5, none⟩) [.slice v.a v.n v.c] = some (undef, h') ∧ Bx g h' := by
  obtain ⟨fl, ty, ck, off, le, d, I, h1, h2⟩ := B.box
  obtain ⟨h', e1, e2, e3, e4⟩ := I.set B.ch.wf 5 (slv v) (by show 5 < 6; decide) rfl
  exact ⟨h', e1, Bx.step B.ch e2, fl, ty, ck, off, le, v, e4, h1, h2⟩
theorem Bx.rd1 {g h : H} (B : Bx g h) : ∃ v, ldc h (some ⟨g.next, 1, none⟩) = some (.int .i64 v) := by
  obtain ⟨fl, ty, ck, off, le, d, I, h1, h2⟩ := B.box
  exact ⟨ty, I.ldc 1⟩
theorem Bx.rd3 {g h : H} (B : Bx g h) : ∃ n : Nat, ldc h (some ⟨g.next, 3, none⟩) = some (.int .u64 (Int.ofNat n)) ∧ n < 18446744073709551616 := by
  obtain ⟨fl, ty, ck, off, le, d, I, h1, h2⟩ := B.box
  exact ⟨off, I.ldc 3, h2⟩
theorem Bx.rd4 {g h : H} (B : Bx g h) : ∃ v, ldc h (some ⟨g.next, 4, none⟩) = some (.int .i64 v) := by
  obtain ⟨fl, ty, ck, off, le, d, I, h1, h2⟩ := B.box
  exact ⟨le, I.ldc 4⟩
theorem Bx.more {g h h' : H} (B : Bx g h) (c : Ch0 h h') : Bx g h' := by
  obtain ⟨fl, ty, ck, off, le, d, I, h1, h2⟩ := B.box
  exact ⟨B.ch.then c, fl, ty, ck, off, le, d, I.stay B.ch.wf c, h1, h2⟩
theorem of_f (k : Nat) (hk : 1000 < k) {h : H} (w : WF h) (a b c e : Int) (ck off : Nat) (hck : ck < 18446744073709551616) (hoff : off < 18446744073709551616) (s : Sl) :
    ∃ (fl ty : Int) (ck' off' : Nat) (le : Int) (d : Sl) (h' : H), corbellaw24_of.f k (a, b, c, e, Int.ofNat ck, Int.ofNat off, s) h = some ((fl, ty, Int.ofNat ck', Int.ofNat off', le, d), h') ∧ Ch0 h h' ∧ ck' < 18446744073709551616 ∧ off' < 18446744073709551616 := by
  unfold corbellaw24_of.f
  dsimp only
  rw [show [Value.int .i64 (0 : Int), Value.int .i64 0, Value.int .u64 0, Value.int .u64 0, Value.int .i64 0, Value.slice none 0 0] = rqV 0 0 0 0 0 ⟨none, 0, 0⟩ from rfl]
  generalize hA : [Value.int IntKind.i64 a, Value.int IntKind.i64 b, Value.int IntKind.i64 c, Value.int IntKind.i64 e, Value.int IntKind.u64 (Int.ofNat ck), Value.int IntKind.u64 (Int.ofNat off), Value.slice s.a s.n s.c] = A
  obtain ⟨z1, z2, z3⟩ := newR_ok w 32 7 A
  generalize newR h 32 7 A = g0 at z1 z2 z3 ⊢
  obtain ⟨y1, y2, y3⟩ := newR_ok z1.wf 29 6 (rqV 0 0 0 0 0 ⟨none, 0, 0⟩)
  generalize newR g0 29 6 (rqV 0 0 0 0 0 ⟨none, 0, 0⟩) = g at y1 y2 y3 ⊢
  have I := z3.stay z1.wf y1
  have cg : Ch0 h g := z1.then y1
  have A0 : A[0]? = some (.int .i64 a) := by rw [← hA]; rfl
  have A1 : A[1]? = some (.int .i64 b) := by rw [← hA]; rfl
  have A2 : A[2]? = some (.int .i64 c) := by rw [← hA]; rfl
  have A3 : A[3]? = some (.int .i64 e) := by rw [← hA]; rfl
  have A4 : A[4]? = some (.int .u64 (Int.ofNat ck)) := by rw [← hA]; rfl
  have A5 : A[5]? = some (.int .u64 (Int.ofNat off)) := by rw [← hA]; rfl
  have P : ∀ (n m : Int) (h0 : 0 < m) (h1 : m ≤ 4611686018427387904) (g : H), corbelhand_Pick.f k n m g = some (n % m, g) := fun n m h0 h1 g => pick_f k n m g h0 h1
  simp only [I.ldc, A0, A1, A2, A3, A4, A5, asI_int, Option.bind_some, P a 8 (by decide) (by decide), P b 3 (by decide) (by decide), P c 200 (by decide) (by decide)]
  rw [show (Int.ofNat off).tmod 4096 = Int.ofNat (off % 4096) from rfl]
  rw [show [Value.int .i64 (b % 3), Value.int .i64 (a % 8), Value.int .u64 (Int.ofNat ck), Value.int .u64 (Int.ofNat (off % 4096)), Value.int .i64 (c % 200), Value.slice none 0 0] = rqV (b % 3) (a % 8) (Int.ofNat ck) (Int.ofNat (off % 4096)) (c % 200) ⟨none, 0, 0⟩ from rfl]
  obtain ⟨h2, p1, p2, p3, p4⟩ := box_ok y1.wf 29 6 (rqV 0 0 0 0 0 ⟨none, 0, 0⟩) (rqV (b % 3) (a % 8) (Int.ofNat ck) (Int.ofNat (off % 4096)) (c % 200) ⟨none, 0, 0⟩) rfl rfl rfl
  rw [p1]
  have S : same1 g g (some (Value.pointer (some ⟨h.next, 1, none⟩))) = true := same1_of rfl
  have S4 : same1 g g (some (Value.pointer (some ⟨h.next, 4, none⟩))) = true := same1_of rfl
  have S5 : same1 g g (some (Value.pointer (some ⟨h.next, 5, none⟩))) = true := same1_of rfl
  have S2 : same1 g g (some (Value.pointer (some ⟨h.next, 2, none⟩))) = true := same1_of rfl
  simp only [S, S4, S5, S2, Bool.and_self, cond_true, Option.bind_some]
  have B2 : Bx g h2 := ⟨p2, _, _, ck, off % 4096, _, _, p4, hck, by omega⟩
  have hz : h.next < g.next := by omega
  have R : ∀ {h' : H} (o : Nat), Bx g h' → ldc h' (some ⟨h.next, o, none⟩) = A[o]? := fun {h'} o B => (I.stay cg.wf B.ch).ldc o
  rw [R 3 B2, A3]
  simp only [asI_int, Option.bind_some]
  -- the first bend
  have J1 : ∃ h3, (cond (decide ((e.tmod (3 : Int)) > (0 : Int)))
      ((asI .u64 (ldc h2 (some ⟨g.next, 3, none⟩))).bind fun n11 =>
    (stv 1 h2 (some ⟨g.next, 3, none⟩) [(Value.int .u64 (wrapA .u64 ((wrapA .u64 (n11.tdiv (16 : Int))) * (16 : Int))))]).bind fun q12 =>
    (asI .i64 (ldc q12.2 (some ⟨g.next, 4, none⟩))).bind fun n13 =>
    (stv 1 q12.2 (some ⟨g.next, 4, none⟩) [(Value.int .i64 (wrapA .i64 ((wrapA .i64 (n13.tdiv (16 : Int))) * (16 : Int))))]).bind fun q14 =>
    some ((), q14.2))
      (some ((), h2)) : Option ((Unit) × H)) = some ((), h3) ∧ Bx g h3 := by
    cases decide ((e.tmod (3 : Int)) > (0 : Int)) with
    | false => exact ⟨h2, rfl, B2⟩
    | true =>
      obtain ⟨n, n1, n2⟩ := B2.rd3
      rw [cond_true, n1]
      simp only [asI_int, Option.bind_some]
      rw [show (Int.ofNat n).tdiv 16 = Int.ofNat (n / 16) from rfl, wrap_u64 (n := Int.ofNat (n / 16)) (by simp only [Int.ofNat_eq_natCast]; omega) (by simp only [Int.ofNat_eq_natCast]; omega), show Int.ofNat (n / 16) * 16 = Int.ofNat (n / 16 * 16) from rfl, wrap_u64 (n := Int.ofNat (n / 16 * 16)) (by simp only [Int.ofNat_eq_natCast]; omega) (by simp only [Int.ofNat_eq_natCast]; omega)]
      obtain ⟨h3, u1, u2⟩ := B2.st3 (n / 16 * 16) (by omega)
      rw [u1]
      simp only [Option.bind_some]
      obtain ⟨v, v1⟩ := u2.rd4
      rw [v1]
      simp only [asI_int, Option.bind_some]
      obtain ⟨h4, t1, t2⟩ := u2.st4 (wrapA .i64 (wrapA .i64 (v.tdiv 16) * 16))
      rw [t1]
      exact ⟨h4, rfl, t2⟩
  obtain ⟨h3, j1, B3⟩ := J1
  rw [j1]
  simp only [Option.bind_some]
  rw [R 3 B3, A3]
  simp only [asI_int, Option.bind_some, P e 20 (by decide) (by decide)]
  have J2 : ∃ h4, (cond (e % 20 == (14 : Int))
      ((asI .i64 (ldc h3 (some ⟨h.next, 0, none⟩))).bind fun n18 =>
    (stv 1 h3 (some ⟨g.next, 1, none⟩) [(Value.int .i64 n18)]).bind fun q19 =>
    some ((), q19.2))
      ((cond (e % 20 == (15 : Int))
      ((asI .i64 (ldc h3 (some ⟨h.next, 1, none⟩))).bind fun n20 =>
    (stv 1 h3 (some ⟨g.next, 0, none⟩) [(Value.int .i64 n20)]).bind fun q21 =>
    some ((), q21.2))
      ((cond (e % 20 == (16 : Int))
      ((asI .u64 (ldc h3 (some ⟨h.next, 5, none⟩))).bind fun n22 =>
    (stv 1 h3 (some ⟨g.next, 3, none⟩) [(Value.int .u64 n22)]).bind fun q23 =>
    some ((), q23.2))
      ((cond (e % 20 == (17 : Int))
      ((asI .i64 (ldc h3 (some ⟨h.next, 2, none⟩))).bind fun n24 =>
    (stv 1 h3 (some ⟨g.next, 4, none⟩) [(Value.int .i64 n24)]).bind fun q25 =>
    some ((), q25.2))
      ((cond (e % 20 == (18 : Int))
      ((asI .i64 (ldc h3 (some ⟨h.next, 2, none⟩))).bind fun n26 =>
    (corbelhand_Pick.f k n26 (40 : Int) h3).bind fun q27 =>
    (stv 1 q27.2 (some ⟨g.next, 4, none⟩) [(Value.int .i64 (wrapA .i64 ((wrapA .i64 ((32768 : Int) + q27.1)) - (20 : Int))))]).bind fun q28 =>
    some ((), q28.2))
      (some ((), h3)) : Option ((Unit) × H)).bind fun j29 =>
    some ((), j29.2)) : Option ((Unit) × H)).bind fun j30 =>
    some ((), j30.2)) : Option ((Unit) × H)).bind fun j31 =>
    some ((), j31.2)) : Option ((Unit) × H)).bind fun j32 =>
    some ((), j32.2)) : Option ((Unit) × H)) = some ((), h4) ∧ Bx g h4 := by
    rw [R 0 B3, R 1 B3, R 2 B3, R 5 B3, A0, A1, A2, A5]
    simp only [asI_int, Option.bind_some, P c 40 (by decide) (by decide)]
    obtain ⟨x1, u1, v1⟩ := B3.st1 a
    obtain ⟨x2, u2, v2⟩ := B3.st0 b
    obtain ⟨x3, u3, v3⟩ := B3.st3 off hoff
    obtain ⟨x4, u4, v4⟩ := B3.st4 c
    obtain ⟨x5, u5, v5⟩ := B3.st4 (wrapA .i64 ((wrapA .i64 ((32768 : Int) + c % 40)) - (20 : Int)))
    rw [u1, u2, u3, u4, u5]
    simp only [Option.bind_some]
    cases (e % 20 == (14 : Int)) with
    | true => exact ⟨x1, rfl, v1⟩
    | false =>
      cases (e % 20 == (15 : Int)) with
      | true => exact ⟨x2, rfl, v2⟩
      | false =>
        cases (e % 20 == (16 : Int)) with
        | true => exact ⟨x3, rfl, v3⟩
        | false =>
          cases (e % 20 == (17 : Int)) with
          | true => exact ⟨x4, rfl, v4⟩
          | false =>
            cases (e % 20 == (18 : Int)) with
            | true => exact ⟨x5, rfl, v5⟩
            | false => exact ⟨h3, rfl, B3⟩
  obtain ⟨h4, j2, B4⟩ := J2
  rw [j2]
  simp only [Option.bind_some]
  obtain ⟨ty, t1⟩ := B4.rd1
  rw [t1]
  simp only [asI_int, Option.bind_some]
  have J3 : ∃ h5, (cond (ty == (1 : Int))
      ((asI .i64 (ldc h4 (some ⟨h.next, 1, none⟩))).bind fun n35 =>
    (asI .i64 (ldc h4 (some ⟨g.next, 4, none⟩))).bind fun n36 =>
    (corbelhand_Bytes.f k n35 (cond (decide ((cond (decide (n36 < (300 : Int))) n36 (300 : Int)) > (0 : Int))) (cond (decide (n36 < (300 : Int))) n36 (300 : Int)) (0 : Int)) h4).bind fun q37 =>
    (stv 1 q37.2 (some ⟨g.next, 5, none⟩) [(Value.slice q37.1.a q37.1.n q37.1.c)]).bind fun q38 =>
    some ((), q38.2))
      (some ((), h4)) : Option ((Unit) × H)) = some ((), h5) ∧ Bx g h5 := by
    cases (ty == (1 : Int)) with
    | false => exact ⟨h4, rfl, B4⟩
    | true =>
      rw [R 1 B4, A1]
      obtain ⟨v, v1⟩ := B4.rd4
      rw [v1]
      simp only [cond_true, asI_int, Option.bind_some]
      obtain ⟨m, hm, e1⟩ : ∃ m : Nat, m ≤ 300 ∧ (cond (decide ((cond (decide (v < (300 : Int))) v (300 : Int)) > (0 : Int))) (cond (decide (v < (300 : Int))) v (300 : Int)) (0 : Int)) = Int.ofNat m := by
        by_cases c1 : v < 300
        · rw [decide_eq_true c1, cond_true]
          by_cases c2 : v > 0
          · rw [decide_eq_true c2, cond_true]
            exact ⟨v.toNat, by omega, by simp only [Int.ofNat_eq_natCast]; omega⟩
          · rw [decide_eq_false c2, cond_false]; exact ⟨0, by decide, rfl⟩
        · rw [decide_eq_false c1, cond_false]; exact ⟨300, by decide, rfl⟩
      rw [e1]
      obtain ⟨d, x, h5, f1, f2, f3, f4, f5⟩ := hbytes_f k b m (by omega) (by omega) B4.ch.wf
      rw [f1]
      simp only [Option.bind_some]
      obtain ⟨h6, u1, u2⟩ := (B4.more f2).st5 d
      rw [u1]
      exact ⟨h6, rfl, u2⟩
  obtain ⟨h5, j3, B5⟩ := J3
  rw [j3]
  simp only [Option.bind_some]
  obtain ⟨fl', ty', ck', off', le', d', K1, K2, K3⟩ := B5.box
  rw [Is.rq K1, bindRq]
  dsimp only
  have cg5 : Ch0 g h5 := B5.ch
  obtain ⟨h6, u1, u2, u3, u4⟩ := Is.rqPut cg5.wf (y3.stay y1.wf cg5) rfl fl' ty' (Int.ofNat ck') (Int.ofNat off') le' d'
  rw [show [Value.int .i64 fl', Value.int .i64 ty', Value.int .u64 (Int.ofNat ck'), Value.int .u64 (Int.ofNat off'), Value.int .i64 le', Value.slice d'.a d'.n d'.c] = rqV fl' ty' (Int.ofNat ck') (Int.ofNat off') le' d' from rfl, u1]
  simp only [Option.bind_some]
  rw [Is.rq u4, bindRq]
  have le5 := cg5.le
  exact ⟨fl', ty', ck', off', le', d', h6, rfl, ⟨u2.wf, by omega, fun x hx f => (u2.keep x (by omega) (by omega)).trans ((cg5.keep x (by omega) f).trans (cg.keep x hx f))⟩, K2, K3⟩
end Go.Proofs.Ythpkhegoamhgeaa.Fw
