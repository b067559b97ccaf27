/- CallBack: the law's forward run comes to true. -/
import Derived.Test.YthpkhegoamhgeaaFwCall4
import Derived.Test.YthpkhegoamhgeaaArCallBack
namespace Go.Proofs.Ythpkhegoamhgeaa
open Go Den Fwd Fw
set_option linter.unusedVariables false
set_option linter.unusedSimpArgs false
theorem Pure.bind6 {β : Type} (a b c d e f : Int) (g : FT [.int .i64, .int .i64, .int .i64, .int .i64, .int .i64, .int .i64] → Option β) : (asSt [(.int .i64), (.int .i64), (.int .i64), (.int .i64), (.int .i64), (.int .i64)] (some (Value.agg #[.int .i64 a, .int .i64 b, .int .i64 c, .int .i64 d, .int .i64 e, .int .i64 f]))).bind g = g (show FT [.int .i64, .int .i64, .int .i64, .int .i64, .int .i64, .int .i64] from ((a, b, c, d, e, f) : Int × Int × Int × Int × Int × Int)) := rfl
theorem Pure.parse_lay {q : Cr} (rt : q.Rt) : parseC (layC q) = q := by
  have e : layC q = (beN q.kd.toNat 1 ++ beN q.st.toNat 2 ++ beN q.gn.toNat 6 ++ beN q.ix.toNat 1 ++ beN q.data.length 2) ++ q.data := rfl
  have hl : (beN q.kd.toNat 1 ++ beN q.st.toNat 2 ++ beN q.gn.toNat 6 ++ beN q.ix.toNat 1 ++ beN q.data.length 2).length = 12 := rfl
  have c : ∀ {lo hi : Nat}, hi ≤ 12 → cutL (layC q) lo hi = cutL (beN q.kd.toNat 1 ++ beN q.st.toNat 2 ++ beN q.gn.toNat 6 ++ beN q.ix.toNat 1 ++ beN q.data.length 2) lo hi := fun {lo hi} h => by rw [e, cutL_app (by rw [hl]; exact h)]
  obtain ⟨k0, k1, s0, s1, g0, g1, i0, i1, dl⟩ := rt
  have p1 : (256 : Nat) ^ 1 = 256 := rfl
  have p2 : (256 : Nat) ^ 2 = 65536 := rfl
  have p6 : (256 : Nat) ^ 6 = 281474976710656 := rfl
  unfold parseC
  rw [c (by decide), c (by decide), c (by decide), c (by decide)]
  rw [show cutL (beN q.kd.toNat 1 ++ beN q.st.toNat 2 ++ beN q.gn.toNat 6 ++ beN q.ix.toNat 1 ++ beN q.data.length 2) 0 1 = beN q.kd.toNat 1 from rfl, show cutL (beN q.kd.toNat 1 ++ beN q.st.toNat 2 ++ beN q.gn.toNat 6 ++ beN q.ix.toNat 1 ++ beN q.data.length 2) 1 3 = beN q.st.toNat 2 from rfl, show cutL (beN q.kd.toNat 1 ++ beN q.st.toNat 2 ++ beN q.gn.toNat 6 ++ beN q.ix.toNat 1 ++ beN q.data.length 2) 3 9 = beN q.gn.toNat 6 from rfl, show cutL (beN q.kd.toNat 1 ++ beN q.st.toNat 2 ++ beN q.gn.toNat 6 ++ beN q.ix.toNat 1 ++ beN q.data.length 2) 9 10 = beN q.ix.toNat 1 from rfl]
  rw [unbe_be (by rw [p1]; omega), unbe_be (by rw [p2]; omega), unbe_be (by rw [p6]; omega), unbe_be (by rw [p1]; omega)]
  have hd : (layC q).drop 12 = q.data := by
    rw [e, List.drop_append_of_le_length (by rw [hl]; exact Nat.le_refl _), List.drop_eq_nil_of_le (by rw [hl]; exact Nat.le_refl _), List.nil_append]
  rw [hd, ← nn _ (by omega), ← nn _ (by omega), ← nn _ (by omega), ← nn _ (by omega)]
theorem Pure.read_lay {q : Cr} (h : q.right = true) : readP (layC q) = some q := by
  have e := Pure.parse_lay ((Cr.right_iff q).1 h)
  unfold readP
  rw [e, if_pos ⟨by rw [layC_len]; omega, h, rfl⟩]
theorem Pure.lay_inj {p q : Cr} (h : p.right = true) (g : q.right = true) : decide (layC p = layC q) = decide (p = q) := by
  by_cases c : p = q
  · subst c; simp
  · rw [decide_eq_false c, decide_eq_false]
    intro e
    have h1 := Pure.read_lay h
    rw [e, Pure.read_lay g] at h1
    exact c (Option.some.inj h1).symm
theorem Pure.back_f (k : Nat) (hk : 1000000 < k) {h : H} (w : WF h) (a b c d e f a' b' c' d' e' f' : Int) :
    ∃ h', corbellaw11_CallBack.f k (a, b, c, d, e, f) (a', b', c', d', e', f') h = some (true, h') := by
  unfold corbellaw11_CallBack.f
  dsimp only
  rw [show [Value.int .i64 (0 : Int), Value.int .i64 0, Value.int .i64 0, Value.int .i64 0, Value.slice none 0 0] = crV 0 0 0 0 ⟨none, 0, 0⟩ from rfl]
  obtain ⟨z1, z2, z3⟩ := newR_ok w 46 6 [Value.int IntKind.i64 a, Value.int IntKind.i64 b, Value.int IntKind.i64 c, Value.int IntKind.i64 d, Value.int IntKind.i64 e, Value.int IntKind.i64 f]
  generalize newR h 46 6 [Value.int IntKind.i64 a, Value.int IntKind.i64 b, Value.int IntKind.i64 c, Value.int IntKind.i64 d, Value.int IntKind.i64 e, Value.int IntKind.i64 f] = g0 at z1 z2 z3 ⊢
  obtain ⟨y1, y2, y3⟩ := newR_ok z1.wf 46 6 [Value.int IntKind.i64 a', Value.int IntKind.i64 b', Value.int IntKind.i64 c', Value.int IntKind.i64 d', Value.int IntKind.i64 e', Value.int IntKind.i64 f']
  generalize newR g0 46 6 [Value.int IntKind.i64 a', Value.int IntKind.i64 b', Value.int IntKind.i64 c', Value.int IntKind.i64 d', Value.int IntKind.i64 e', Value.int IntKind.i64 f'] = g1 at y1 y2 y3 ⊢
  have z4 := z3.stay z1.wf y1
  rw [z4.lda (o := 0) (n := 6) (Nat.le_refl _)]
  rw [show ((([Value.int IntKind.i64 a, Value.int IntKind.i64 b, Value.int IntKind.i64 c, Value.int IntKind.i64 d, Value.int IntKind.i64 e, Value.int IntKind.i64 f] : List Value).drop 0).take 6).toArray = #[.int .i64 a, .int .i64 b, .int .i64 c, .int .i64 d, .int .i64 e, .int .i64 f] from rfl, Pure.bind6]
  dsimp only
  obtain ⟨p, dp, h1, a1, a2, a3, a4⟩ := req_f k (by omega) y1.wf a b c d e f
  rw [a1]
  simp only [Cr.tup, Option.bind_some]
  rw [show [Value.int .i64 p.kd, Value.int .i64 p.st, Value.int .i64 p.gn, Value.int .i64 p.ix, Value.slice dp.a dp.n dp.c] = crV p.kd p.st p.gn p.ix dp from rfl]
  obtain ⟨h2, b1, b2, b3, b4⟩ := box_ok a2.wf 48 5 (crV 0 0 0 0 ⟨none, 0, 0⟩) (crV p.kd p.st p.gn p.ix dp) rfl rfl rfl
  rw [b1]
  simp only [Option.bind_some]
  have c12 := a2.then b2
  have y5 := y3.stay y1.wf c12
  rw [y5.lda (o := 0) (n := 6) (Nat.le_refl _)]
  rw [show ((([Value.int IntKind.i64 a', Value.int IntKind.i64 b', Value.int IntKind.i64 c', Value.int IntKind.i64 d', Value.int IntKind.i64 e', Value.int IntKind.i64 f'] : List Value).drop 0).take 6).toArray = #[.int .i64 a', .int .i64 b', .int .i64 c', .int .i64 d', .int .i64 e', .int .i64 f'] from rfl, Pure.bind6]
  dsimp only
  obtain ⟨q, dq, h3, e1, e2, e3, e4⟩ := req_f k (by omega) b2.wf a' b' c' d' e' f'
  rw [e1]
  simp only [Cr.tup, Option.bind_some]
  rw [show [Value.int .i64 q.kd, Value.int .i64 q.st, Value.int .i64 q.gn, Value.int .i64 q.ix, Value.slice dq.a dq.n dq.c] = crV q.kd q.st q.gn q.ix dq from rfl]
  obtain ⟨h4, f1, f2, f3, f4⟩ := box_ok e2.wf 48 5 (crV 0 0 0 0 ⟨none, 0, 0⟩) (crV q.kd q.st q.gn q.ix dq) rfl rfl rfl
  rw [f1]
  simp only [Option.bind_some]
  have c24 := e2.then f2
  have rp := (a3.stay a2.wf b2).stay b2.wf c24
  have rq := e3.stay e2.wf f2
  have bp := b4.stay b2.wf c24
  rw [Is.cr bp, bindCr]
  dsimp only
  rw [show ((p.kd, p.st, p.gn, p.ix, dp) : CrT) = p.tup dp from rfl]
  obtain ⟨s5, h5, i1, i2, i3, i4⟩ := clay_f k (by omega) f2.wf p dp rp
  rw [i1]
  simp only [Option.bind_some]
  have bq := f4.stay f2.wf i2
  rw [Is.cr bq, bindCr]
  dsimp only
  rw [show ((q.kd, q.st, q.gn, q.ix, dq) : CrT) = q.tup dq from rfl]
  obtain ⟨s6, h6, j1, j2, j3, j4⟩ := clay_f k (by omega) i2.wf q dq (rq.stay f2.wf i2)
  rw [j1]
  simp only [Option.bind_some, Bool.not_true, cond_false]
  have c46 := i2.then j2
  cases hp : p.right with
  | false => exact ⟨h6, rfl⟩
  | true =>
    cases hq : q.right with
    | false => exact ⟨h6, rfl⟩
    | true =>
      rw [hp, if_pos rfl] at i3
      rw [hq, if_pos rfl] at j3
      rw [show ((if true = true then (0 : Int) else 1) != (0 : Int)) = false from rfl]
      simp only [Option.bind_some, cond_false]
      have hl : ∀ {q : Cr}, q.right = true → (layC q).length ≤ 200 := fun {q} hr => by
        rw [layC_len]
        have := ((Cr.right_iff q).1 hr).dl
        omega
      obtain ⟨d7, h7, k1, k2, k3⟩ := cread_f k hk j2.wf (i3.slr.stay i2.wf j2) (by have := hl hp; omega)
      have er : resP (layC p) = p := by unfold resP; rw [Pure.read_lay hp]; rfl
      rw [er, Pure.read_lay hp] at k1
      rw [er] at k3
      rw [k1]
      simp only [Cr.tup, Option.bind_some]
      rw [show [Value.int .i64 p.kd, Value.int .i64 p.st, Value.int .i64 p.gn, Value.int .i64 p.ix, Value.slice d7.a d7.n d7.c] = crV p.kd p.st p.gn p.ix d7 from rfl]
      obtain ⟨h8, l1, l2, l3, l4⟩ := box_ok k2.wf 48 5 (crV 0 0 0 0 ⟨none, 0, 0⟩) (crV p.kd p.st p.gn p.ix d7) rfl rfl rfl
      rw [l1]
      simp only [Option.bind_some]
      have c48 := (c46.then k2).then l2
      rw [show ((if (some p).isSome = true then (0 : Int) else 2) == (0 : Int)) = true from rfl, cond_true]
      rw [Is.cr (bp.stay f2.wf c48), bindCr]
      rw [Is.cr l4, bindCr]
      dsimp only
      obtain ⟨h9, m1, m2⟩ := csame_f k l2.wf p p dp d7 (rp.stay f2.wf c48) (k3.stay k2.wf l2)
      rw [show ((p.kd, p.st, p.gn, p.ix, dp) : CrT) = p.tup dp from rfl, show ((p.kd, p.st, p.gn, p.ix, d7) : CrT) = p.tup d7 from rfl, m1]
      simp only [Option.bind_some, decide_true, cond_true]
      have c49 := c48.then m2
      have c69 := (k2.then l2).then m2
      have i9 := i3.stay i2.wf (j2.then c69)
      have j9 := j3.stay j2.wf c69
      rw [txt_sl i9.slr, txt_sl j9.slr]
      simp only [Option.bind_some, ba_eq]
      rw [Is.cr (bp.stay f2.wf c49), bindCr]
      rw [Is.cr (bq.stay i2.wf (j2.then c69)), bindCr]
      dsimp only
      obtain ⟨h10, n1, n2⟩ := csame_f k m2.wf p q dp dq (rp.stay f2.wf c49) (rq.stay f2.wf c49)
      rw [show ((p.kd, p.st, p.gn, p.ix, dp) : CrT) = p.tup dp from rfl, show ((q.kd, q.st, q.gn, q.ix, dq) : CrT) = q.tup dq from rfl, n1]
      simp only [Option.bind_some]
      rw [Pure.lay_inj hp hq, beq_self_eq_true]
      have sv : ∀ {s : Sl} {x : List UInt8}, SlR 1 h9 s (byt x) → ∀ b, blkOf (some (Value.slice s.a s.n s.c)) = some b → sameVer h9 h10 b = true := fun {s x} r b hb => by
        obtain ⟨sa, sn, sc⟩ := s
        rcases sa with _ | ⟨bb, o, _ | sp⟩
        · cases hb
        · cases hb
          exact sameVer_of (n2.keep b (r.blk m2.wf ⟨o, rfl⟩) fun f => f)
        · cases hb
      have hdyn : dynL [(8, 15), (9, 15), (10, 15), (11, 15), (12, 15)] ([] ++ (((([(8, none)] ++ [(9, blkOf (some (Value.slice s5.a s5.n s5.c)))]) ++ [(10, none)]) ++ [(11, blkOf (some (Value.slice s6.a s6.n s6.c)))]) ++ [(12, none)])) ([] ++ [(15, h9, h10)]) = true := by
        have v1 := sv i9.slr
        have v2 := sv j9.slr
        generalize blkOf (some (Value.slice s5.a s5.n s5.c)) = b1 at v1 ⊢
        generalize blkOf (some (Value.slice s6.a s6.n s6.c)) = b2 at v2 ⊢
        cases b1 with
        | none =>
          cases b2 with
          | none => simp [dynL]
          | some b2 => simp [dynL, v2 b2 rfl]
        | some b1 =>
          cases b2 with
          | none => simp [dynL, v1 b1 rfl]
          | some b2 => simp [dynL, v1 b1 rfl, v2 b2 rfl]
      rw [hdyn]
      exact ⟨h10, rfl⟩
theorem Pure.CallBack : ∀ h x vs, Den.WF h → Den.Dead h → Ar.CallBack.R h x vs → Ar.CallBack.Q x → ∃ a, Den.encL [.st [.int .i64, .int .i64, .int .i64, .int .i64, .int .i64, .int .i64], .st [.int .i64, .int .i64, .int .i64, .int .i64, .int .i64, .int .i64]] a = vs ∧ Den.toldB (Fwd.corbellaw11_CallBack.f 2000000 a.1 a.2 h) = true := by
  rintro h ⟨⟨a, b, c, d, e, f⟩, ⟨a', b', c', d', e', f'⟩, _⟩ vs w _ ⟨va, vb, rfl, ⟨ll, rfl, x1, y1, rfl, r1, x2, y2, rfl, r2, x3, y3, rfl, r3, x4, y4, rfl, r4, x5, y5, rfl, r5, r6⟩, vc, vd, rfl, ⟨ll', rfl, x1', y1', rfl, r1', x2', y2', rfl, r2', x3', y3', rfl, r3', x4', y4', rfl, r4', x5', y5', rfl, r5', r6'⟩, rfl⟩ _
  obtain rfl := r1
  obtain rfl := r2
  obtain rfl := r3
  obtain rfl := r4
  obtain rfl := r5
  obtain rfl := r6
  obtain rfl := r1'
  obtain rfl := r2'
  obtain rfl := r3'
  obtain rfl := r4'
  obtain rfl := r5'
  obtain rfl := r6'
  obtain ⟨h', g⟩ := Pure.back_f 2000000 (by decide) w a b c d e f a' b' c' d' e' f'
  exact ⟨((a, b, c, d, e, f), (a', b', c', d', e', f')), rfl, (congrArg toldB g).trans rfl⟩
end Go.Proofs.Ythpkhegoamhgeaa
