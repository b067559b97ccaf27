/- call's laws: requests of raw numbers, bytes that are changed. No condition. -/
import Derived.Test.YthpkhegoamhgeaaFwCall3
namespace Go.Proofs.Ythpkhegoamhgeaa.Fw
open Go Den Fwd
set_option linter.unusedVariables false
set_option linter.unusedSimpArgs false
/-- the box of a request that is made -/
structure Cx (g h : H) : Prop where
  ch : Ch0 g h
  box : ∃ (q : Cr) (d : Sl), Is h g.next 48 5 (q.vs d) ∧ SlR 1 h d (byt q.data) ∧ q.data.length ≤ 200 ∧ ∀ b, SlB d b → g.next < b
theorem Cx.put {g h : H} (B : Cx g h) (i : Nat) (hi : i < 4) (v : Int) : ∃ h', stv 1 h (some ⟨g.next, i, none⟩) [.int .i64 v] = some (undef, h') ∧ Cx g h' := by
  obtain ⟨q, d, I, h1, h2, h3⟩ := B.box
  obtain ⟨h', e1, e2, e3, e4⟩ := I.set B.ch.wf i (.int .i64 v) (by show i < 5; omega) rfl
  have k : SlR 1 h' d (byt q.data) := h1.keep fun b hb => e2.keep b (h1.blk B.ch.wf hb) (by have := h3 b hb; omega)
  refine ⟨h', e1, Ch0.at B.ch e2 (Nat.le_refl _), ?_⟩
  have : i = 0 ∨ i = 1 ∨ i = 2 ∨ i = 3 := by omega
  rcases this with rfl | rfl | rfl | rfl
  · exact ⟨⟨v, q.st, q.gn, q.ix, q.data⟩, d, e4, k, h2, h3⟩
  · exact ⟨⟨q.kd, v, q.gn, q.ix, q.data⟩, d, e4, k, h2, h3⟩
  · exact ⟨⟨q.kd, q.st, v, q.ix, q.data⟩, d, e4, k, h2, h3⟩
  · exact ⟨⟨q.kd, q.st, q.gn, v, q.data⟩, d, e4, k, h2, h3⟩
theorem Cx.dat {g h : H} (B : Cx g h) {d : Sl} {x : List UInt8} (r : SlR 1 h d (byt x)) (hx : x.length ≤ 200) (hb : ∀ b, SlB d b → g.next < b) : ∃ h', stv 1 h (some ⟨g.next, 4, none⟩) [.slice d.a d.n d.c] = some (undef, h') ∧ Cx g h' := by
  obtain ⟨q, d', I, h1, h2, h3⟩ := B.box
  obtain ⟨h', e1, e2, e3, e4⟩ := I.set B.ch.wf 4 (slv d) (by show 4 < 5; decide) rfl
  exact ⟨h', e1, Ch0.at B.ch e2 (Nat.le_refl _), ⟨q.kd, q.st, q.gn, q.ix, x⟩, d, e4, r.keep fun b hb' => e2.keep b (r.blk B.ch.wf hb') (by have := hb b hb'; omega), hx, hb⟩
theorem Cx.more {g h h' : H} (B : Cx g h) (c : Ch0 h h') : Cx g h' := by
  obtain ⟨q, d, I, h1, h2, h3⟩ := B.box
  exact ⟨B.ch.then c, q, d, I.stay B.ch.wf c, h1.stay B.ch.wf c, h2, h3⟩
/-- new bytes into the box -/
theorem Cx.bytes (k : Nat) (hk : 1000 < k) {g h : H} (B : Cx g h) (a : Int) (m : Nat) (hm : m ≤ 200) (n : Int) (hn : n = Int.ofNat m) (hl : g.next < h.next) :
    ∃ d h1 h2, corbelhand_Bytes.f k a n h = some (d, h1) ∧ Ch0 h h1 ∧ stv 1 h1 (some ⟨g.next, 4, none⟩) [.slice d.a d.n d.c] = some (undef, h2) ∧ Cx g h2 := by
  subst hn
  obtain ⟨d, x, h1, f1, f2, f3, f4, f5⟩ := hbytes_f k a m (by omega) (by omega) B.ch.wf
  obtain ⟨h2, u1, u2⟩ := (B.more f2).dat f4.slr (by omega) fun b hb => by have := f5 b hb; omega
  exact ⟨d, h1, h2, f1, f2, u1, u2⟩
theorem req_f (k : Nat) (hk : 1000 < k) {h : H} (w : WF h) (a b c e f x : Int) :
    ∃ (q : Cr) (d : Sl) (h' : H), corbelhand_Req.f k (a, b, c, e, f, x) h = some (q.tup d, h') ∧ Ch0 h h' ∧ SlR 1 h' d (byt q.data) ∧ q.data.length ≤ 200 := by
  unfold corbelhand_Req.f
  dsimp only
  rw [show [Value.int .i64 (0 : Int), Value.int .i64 0, Value.int .i64 0, Value.int .i64 0, Value.slice none 0 0] = crV 0 0 0 0 ⟨none, 0, 0⟩ from rfl]
  generalize hA : [Value.int IntKind.i64 a, Value.int IntKind.i64 b, Value.int IntKind.i64 c, Value.int IntKind.i64 e, Value.int IntKind.i64 f, Value.int IntKind.i64 x] = A
  obtain ⟨z1, z2, z3⟩ := newR_ok w 46 6 A
  generalize newR h 46 6 A = g0 at z1 z2 z3 ⊢
  obtain ⟨y1, y2, y3⟩ := newR_ok z1.wf 48 5 (crV 0 0 0 0 ⟨none, 0, 0⟩)
  generalize newR g0 48 5 (crV 0 0 0 0 ⟨none, 0, 0⟩) = g at y1 y2 y3 ⊢
  have I := z3.stay z1.wf y1
  have cg : Ch0 h g := z1.then y1
  have A0 : A[0]? = some (.int .i64 a) := by rw [← hA]; rfl
  have A1 : A[1]? = some (.int .i64 b) := by rw [← hA]; rfl
  have A2 : A[2]? = some (.int .i64 c) := by rw [← hA]; rfl
  have A3 : A[3]? = some (.int .i64 e) := by rw [← hA]; rfl
  have A4 : A[4]? = some (.int .i64 f) := by rw [← hA]; rfl
  have A5 : A[5]? = some (.int .i64 x) := by rw [← hA]; rfl
  have P : ∀ (n m : Int) (h0 : 0 < m) (h1 : m ≤ 4611686018427387904) (g : H), corbelhand_Pick.f k n m g = some (n % m, g) := fun n m h0 h1 g => pick_f k n m g h0 h1
  simp only [I.ldc, A0, A1, A2, A3, A4, A5, asI_int, Option.bind_some, P a 6 (by decide) (by decide), P b 5 (by decide) (by decide), P c 6 (by decide) (by decide), P e 6 (by decide) (by decide)]
  generalize wrapA .i64 (1 + a % 6) = K
  generalize wrapA .i64 (1 + c % 6) = G0
  rw [show [Value.int .i64 K, Value.int .i64 (b % 5), Value.int .i64 G0, Value.int .i64 (e % 6), Value.slice none 0 0] = crV K (b % 5) G0 (e % 6) ⟨none, 0, 0⟩ from rfl]
  obtain ⟨h2, p1, p2, p3, p4⟩ := box_ok y1.wf 48 5 (crV 0 0 0 0 ⟨none, 0, 0⟩) (crV K (b % 5) G0 (e % 6) ⟨none, 0, 0⟩) rfl rfl rfl
  rw [p1]
  have S : ∀ o, same1 g g (some (Value.pointer (some ⟨h.next, o, none⟩))) = true := fun o => same1_of rfl
  simp only [S, Bool.and_self, cond_true, Option.bind_some, p4.ldc]
  rw [show (crV K (b % 5) G0 (e % 6) ⟨none, 0, 0⟩)[0]? = some (.int .i64 K) from rfl]
  simp only [asI_int, Option.bind_some]
  have B2 : Cx g h2 := ⟨p2, ⟨K, b % 5, G0, e % 6, []⟩, ⟨none, 0, 0⟩, p4, .inl ⟨rfl, .inl rfl⟩, Nat.zero_le _, fun b hb => by obtain ⟨o, q⟩ := hb; cases q⟩
  have hz : h.next < g.next := by omega
  have R : ∀ {h' : H} (o : Nat), Cx g h' → ldc h' (some ⟨h.next, o, none⟩) = A[o]? := fun {h'} o B => (I.stay cg.wf B.ch).ldc o
  have L : ∀ {h' : H}, Cx g h' → g.next < h'.next := fun {h'} B => by obtain ⟨q, d, I, _⟩ := B.box; exact I.lt B.ch.wf
  rw [R 4 B2, A4]
  simp only [asI_int, Option.bind_some]
  have J1 : ∃ h3, (cond (K == (2 : Int))
      ((corbelhand_Bytes.f k f (32 : Int) h2).bind fun q12 =>
    (stv 1 q12.2 (some ⟨g.next, 4, none⟩) [(Value.slice q12.1.a q12.1.n q12.1.c)]).bind fun q13 =>
    some ((), q13.2))
      ((cond (K == (3 : Int))
      ((corbelhand_Bytes.f k f (128 : Int) h2).bind fun q15 =>
    (stv 1 q15.2 (some ⟨g.next, 4, none⟩) [(Value.slice q15.1.a q15.1.n q15.1.c)]).bind fun q16 =>
    (asI .i64 (ldc q16.2 (some ⟨h.next, 2, none⟩))).bind fun n17 =>
    (corbelhand_Pick.f k n17 (30 : Int) q16.2).bind fun q18 =>
    (stv 1 q18.2 (some ⟨g.next, 2, none⟩) [(Value.int .i64 (wrapA .i64 ((1 : Int) + q18.1)))]).bind fun q19 =>
    some ((), q19.2))
      (some ((), h2)) : Option ((Unit) × H)).bind fun j20 =>
    some ((), j20.2)) : Option ((Unit) × H)) = some ((), h3) ∧ Cx g h3 := by
    cases (K == (2 : Int)) with
    | true =>
      obtain ⟨d, h3, h4, u1, u2, u3, u4⟩ := B2.bytes k hk f 32 (by decide) 32 rfl (L B2)
      rw [cond_true, u1]
      simp only [Option.bind_some]
      rw [u3]
      exact ⟨h4, rfl, u4⟩
    | false =>
      cases (K == (3 : Int)) with
      | true =>
        obtain ⟨d, h3, h4, u1, u2, u3, u4⟩ := B2.bytes k hk f 128 (by decide) 128 rfl (L B2)
        rw [cond_false, cond_true, u1]
        simp only [Option.bind_some]
        rw [u3]
        simp only [Option.bind_some]
        rw [R 2 u4, A2]
        simp only [asI_int, Option.bind_some, P c 30 (by decide) (by decide)]
        obtain ⟨h5, v1, v2⟩ := u4.put 2 (by decide) (wrapA .i64 (1 + c % 30))
        rw [v1]
        exact ⟨h5, rfl, v2⟩
      | false => exact ⟨h2, rfl, B2⟩
  obtain ⟨h3, j1, B3⟩ := J1
  rw [j1]
  simp only [Option.bind_some]
  have r1 := R 1 B3
  have r2 := R 2 B3
  have r3 := R 3 B3
  have r4 := R 4 B3
  have r5 := R 5 B3
  simp only [r1, r2, r3, r4, r5, A1, A2, A3, A4, A5, asI_int, Option.bind_some, P x 30 (by decide) (by decide), P (wrapA .i64 (x.tdiv 30)) 9 (by decide) (by decide), P (wrapA .i64 (x.tdiv 30)) 140 (by decide) (by decide), P b 43 (by decide) (by decide)]
  obtain ⟨m, hm⟩ : ∃ m : Nat, wrapA .i64 (x.tdiv 30) % 140 = Int.ofNat m := ⟨_, nn _ (Int.emod_nonneg _ (by decide))⟩
  have hm2 : m < 140 := by have := Int.emod_lt_of_pos (wrapA .i64 (x.tdiv 30)) (show (0 : Int) < 140 by decide); rw [hm] at this; simp only [Int.ofNat_eq_natCast] at this; omega
  obtain ⟨x1, u1, v1⟩ := B3.put 0 (by decide) (wrapA .i64 (wrapA .i64 (x.tdiv 30) % 9 - 1))
  obtain ⟨x2, u2, v2⟩ := B3.put 1 (by decide) b
  obtain ⟨x3, u3, v3⟩ := B3.put 2 (by decide) c
  obtain ⟨x4, u4, v4⟩ := B3.put 3 (by decide) e
  obtain ⟨d5, x5', x5, u5, u5', u5'', v5⟩ := B3.bytes k hk f m (by omega) (wrapA .i64 (x.tdiv 30) % 140) hm (L B3)
  obtain ⟨x6, u6, v6⟩ := B3.put 1 (by decide) (b % 43)
  rw [u1, u2, u3, u4, u5, u6]
  simp only [Option.bind_some]
  rw [u5'']
  simp only [Option.bind_some]
  rw [show same1 h3 h3 (some (Value.pointer (some ⟨h.next, 4, none⟩))) = true from same1_of rfl, Bool.true_and, cond_true]
  have J2 : ∃ h4, (cond (x % 30 == (24 : Int)) (some ((), x1)) ((cond (x % 30 == (25 : Int)) (some ((), x2)) ((cond (x % 30 == (26 : Int)) (some ((), x3)) ((cond (x % 30 == (27 : Int)) (some ((), x4)) ((cond (x % 30 == (28 : Int)) (some ((), x5)) ((cond (x % 30 == (29 : Int)) (some ((), x6))
      (some ((), h3)) : Option ((Unit) × H)).bind fun j41 =>
    some ((), j41.2)) : Option ((Unit) × H)).bind fun j42 =>
    some ((), j42.2)) : Option ((Unit) × H)).bind fun j43 =>
    some ((), j43.2)) : Option ((Unit) × H)).bind fun j44 =>
    some ((), j44.2)) : Option ((Unit) × H)).bind fun j45 =>
    some ((), j45.2)) : Option ((Unit) × H)) = some ((), h4) ∧ Cx g h4 := by
    cases (x % 30 == (24 : Int)) with
    | true => exact ⟨x1, rfl, v1⟩
    | false =>
      cases (x % 30 == (25 : Int)) with
      | true => exact ⟨x2, rfl, v2⟩
      | false =>
        cases (x % 30 == (26 : Int)) with
        | true => exact ⟨x3, rfl, v3⟩
        | false =>
          cases (x % 30 == (27 : Int)) with
          | true => exact ⟨x4, rfl, v4⟩
          | false =>
            cases (x % 30 == (28 : Int)) with
            | true => exact ⟨x5, rfl, v5⟩
            | false =>
              cases (x % 30 == (29 : Int)) with
              | true => exact ⟨x6, rfl, v6⟩
              | false => exact ⟨h3, rfl, B3⟩
  obtain ⟨h4, j2, B4⟩ := J2
  rw [j2]
  simp only [Option.bind_some]
  obtain ⟨q, d, K1, K2, K3, K4⟩ := B4.box
  rw [show q.vs d = crV q.kd q.st q.gn q.ix d from rfl] at K1
  rw [Is.cr K1, bindCr]
  dsimp only
  have cg4 : Ch0 g h4 := B4.ch
  obtain ⟨h6, t1, t2, t3, t4⟩ := Is.whole cg4.wf (y3.stay y1.wf cg4) rfl (crV q.kd q.st q.gn q.ix d) rfl rfl
  rw [show [Value.int .i64 q.kd, Value.int .i64 q.st, Value.int .i64 q.gn, Value.int .i64 q.ix, Value.slice d.a d.n d.c] = crV q.kd q.st q.gn q.ix d from rfl, t1]
  simp only [Option.bind_some]
  rw [Is.cr t4, bindCr]
  refine ⟨q, d, h6, rfl, Ch0.at (cg.then cg4) t2 (by omega), K2.keep fun b hb => t2.keep b (K2.blk cg4.wf hb) (by have := K4 b hb; omega), K3⟩
end Go.Proofs.Ythpkhegoamhgeaa.Fw
