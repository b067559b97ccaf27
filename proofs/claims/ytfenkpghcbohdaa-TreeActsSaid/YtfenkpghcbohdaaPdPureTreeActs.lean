/- TreeActs: the law's forward run comes to true. -/
import Derived.Test.YtfenkpghcbohdaaPdFwCnt
import Derived.Test.YtfenkpghcbohdaaPdArTreeActs
namespace Go.Proofs.Ytfenkpghcbohdaa
open Go Den Fwd Fw
set_option linter.unusedVariables false
set_option linter.unusedSimpArgs false
/-! ### raw acts, each with what it has -/
abbrev Pure.Raw := Int × Int × Int × Int × Int × List UInt8
def Pure.actV (x : Pure.Raw) : List Value := actL x.1 x.2.1 x.2.2.1 x.2.2.2.1 x.2.2.2.2.1 x.2.2.2.2.2
theorem Pure.act_es (xs : List Pure.Raw) : ∀ g ∈ xs.map Pure.actV, g.length = 6 := fun g hg => by
  obtain ⟨q, _, rfl⟩ := List.mem_map.1 hg
  rfl
structure Pure.ActsV (M : Nat) (h : H) (s : Sl) (xs : List Pure.Raw) : Prop where
  n : s.n = xs.length
  sl : SlR 6 h s (xs.map Pure.actV).flatten
  le : ∀ x ∈ xs, x.2.2.2.2.2.length ≤ M
theorem Pure.ActsV.stay {M : Nat} {h h' : H} (w : WF h) {s : Sl} {xs : List Pure.Raw} (A : Pure.ActsV M h s xs) (c : Ch0 h h') : Pure.ActsV M h' s xs := ⟨A.n, A.sl.stay w c, A.le⟩
theorem Pure.ActsV.at {M : Nat} {h : H} {s : Sl} {xs : List Pure.Raw} (A : Pure.ActsV M h s xs) {i : Nat} (hi : i < xs.length) : ∃ b o, ixs 6 s.a s.n (Int.ofNat i) = some (.pointer (some ⟨b, o, none⟩)) ∧ lda 6 h (some ⟨b, o, none⟩) = some (.agg (Pure.actV xs[i]).toArray) ∧ ∀ j, j < 6 → ldc h (some ⟨b, o + j, none⟩) = (Pure.actV xs[i])[j]? := by
  obtain ⟨b, o, e1, e2⟩ := A.sl.elem (j := i) (by rw [A.n]; exact hi)
  rw [flat_at (Pure.act_es xs) i (by rw [List.length_map]; exact hi), List.getElem_map] at e2
  refine ⟨b, o, e1, ?_, fun j hj => gets_cell e2 hj⟩
  show (match h.gets b o 6 with | some vs => some (Value.agg vs.toArray) | none => none) = _
  rw [e2]
theorem Pure.actsV_arg {M : Nat} {h : H} (w : WF h) {xs : List (Int × Int × Int × Int × Int × ByteArray)} {vs : List Value} (r : RSl 6 (RPair (RInt .i64) (RPair (RInt .i64) (RPair (RInt .i64) (RPair (RInt .i64) (RPair (RInt .i64) RStr))))) h xs vs) (hM : ∀ x ∈ xs, x.2.2.2.2.2.size ≤ M) : ∃ (s : Sl) (ys : List Pure.Raw), vs = [s.v] ∧ Pure.ActsV M h s ys := by
  obtain ⟨s, ls, rfl, s1, s2, s3, s4, s5, s6⟩ := RSl.many w (by decide) r
  have e : ls = (xs.map fun x => (x.1, x.2.1, x.2.2.1, x.2.2.2.1, x.2.2.2.2.1, x.2.2.2.2.2.data.toList)).map Pure.actV := by
    apply List.ext_getElem
    · rw [s3, List.length_map, List.length_map]
    · intro i h1 h2
      have hx : i < xs.length := by omega
      obtain ⟨x1, y1, e4, z1, x2, y2, rfl, z2, x3, y3, rfl, z3, x4, y4, rfl, z4, x5, y5, rfl, z5, z6⟩ := s5 i _ _ (List.getElem?_eq_getElem hx) (List.getElem?_eq_getElem h1)
      obtain rfl := z1
      obtain rfl := z2
      obtain rfl := z3
      obtain rfl := z4
      obtain rfl := z5
      obtain rfl := z6
      rw [e4, List.getElem_map, List.getElem_map]
      rfl
  rw [e] at s2
  refine ⟨s, _, rfl, by rw [List.length_map]; exact s1, s2, fun x hx => ?_⟩
  obtain ⟨y, hy, rfl⟩ := List.mem_map.1 hx
  show y.2.2.2.2.2.data.toList.length ≤ M
  rw [Array.length_toList]; exact hM y hy
/-! ### an act, by both -/
theorem Fw.Did.re {h : H} {r : Option ((Sl × Int) × H)} {x : Res} (d : Did h r x) : Did h (r.bind fun q => some ((q.1.1, q.1.2), q.2)) x := by
  obtain ⟨s, h', us, d1, d2⟩ := d
  rw [d1]
  exact ⟨s, h', us, rfl, d2⟩
/-- what both answer -/
def Pure.Two (h : H) (r : Option ((Sl × Int × Sl × Int) × H)) (x : Res) : Prop := ∃ s us t ts h', r = some ((s, x.1, t, x.1), h') ∧ Ch0 h h' ∧ TreeR h' s us ∧ vols us = x.2 ∧ TreeO h' t ts ∧ Fresh h.next t ts ∧ vols ts = x.2
theorem Pure.Two.of {h : H} {a : Option ((Sl × Int) × H)} {b : H → Option ((Sl × Int) × H)} {x : Res} (ha : Did h a x) (hb : ∀ h', Ch0 h h' → Did h' (b h') x) : Pure.Two h (a.bind fun q13 => (b q13.2).bind fun q14 => some ((q13.1.1, q13.1.2, q14.1.1, q14.1.2), q14.2)) x := by
  obtain ⟨s, h1, us, a1, a2, a3, a4, a5⟩ := ha
  obtain ⟨t, h2, ts, b1, b2, b3, b4, b5⟩ := hb h1 a2
  rw [a1]
  simp only [Option.bind_some]
  rw [b1]
  exact ⟨s, us, t, ts, h2, rfl, a2.then b2, a3.read.stay a2.wf b2, a5, b3, b4.mono a2.le, b5⟩
theorem Pure.do_f (k : Nat) (hk : 20000 < k) {M : Nat} (hM : M + 100 < k) (hM2 : M + 100 < 9223372036854775807) {h : H} (w : WF h) {t : Sl} {vs : List Vs} (T : TreeR h t vs) (R : RightP (vols vs)) (x : Pure.Raw) (hx : x.2.2.2.2.2.length ≤ M) :
    ∃ wh of nm sz, Pure.Two h (corbellaw18_do.f k t (x.1, x.2.1, x.2.2.1, x.2.2.2.1, x.2.2.2.2.1, ba x.2.2.2.2.2) h) (actP (vols vs) wh of nm sz) := by
  obtain ⟨x1, x2, x3, x4, x5, z⟩ := x
  have zl : z.length ≤ M := hx
  unfold corbellaw18_do.f
  dsimp only
  rw [show [(Value.int .i64 x1), (Value.int .i64 x2), (Value.int .i64 x3), (Value.int .i64 x4), (Value.int .i64 x5), (Value.string (ba z))] = actL x1 x2 x3 x4 x5 z from rfl]
  obtain ⟨b2, b3, b4⟩ := newR_ok w 79 6 (actL x1 x2 x3 x4 x5 z)
  generalize newR h 79 6 (actL x1 x2 x3 x4 x5 z) = g at b2 b3 b4 ⊢
  rw [show asI .i64 (ldc g (some ⟨h.next, 2, none⟩)) = some x3 by rw [b4.ldc]; exact asI_int _ _, show asT (ldc g (some ⟨h.next, 5, none⟩)) = some (ba z) by rw [b4.ldc]; exact asTs _]
  simp only [Option.bind_some]
  obtain ⟨nm, n1, n2⟩ := odd_f k x3 z
  rw [n1]
  simp only [Option.bind_some]
  rw [show asI .i64 (ldc g (some ⟨h.next, 1, none⟩)) = some x2 by rw [b4.ldc]; exact asI_int _ _, show asT (ldc g (some ⟨h.next, 5, none⟩)) = some (ba z) by rw [b4.ldc]; exact asTs _]
  simp only [Option.bind_some]
  obtain ⟨of, m1, m2⟩ := odd_f k x2 z
  rw [m1]
  simp only [Option.bind_some]
  rw [show asI .i64 (ldc g (some ⟨h.next, 3, none⟩)) = some x4 by rw [b4.ldc]; exact asI_int _ _]
  simp only [Option.bind_some]
  obtain ⟨sz, z1⟩ := size_f k x4
  rw [z1 g]
  simp only [Option.bind_some]
  rw [show asI .i64 (ldc g (some ⟨h.next, 0, none⟩)) = some x1 by rw [b4.ldc]; exact asI_int _ _]
  simp only [Option.bind_some]
  rw [pick_f k x1 10 g (by decide) (by decide)]
  simp only [Option.bind_some]
  have w0 := Int.emod_nonneg x1 (show (10 : Int) ≠ 0 by decide)
  have w1 := Int.emod_lt_of_pos x1 (show (0 : Int) < 10 by decide)
  generalize x1 % 10 = wh at w0 w1 ⊢
  have T1 := T.stay w b2
  have two : ∀ (a b : Int), b = a + 1 → (cond (wh == a) (some (wh == a, g)) (some (wh == b, g)) : Option (Bool × H)) = some (decide (a ≤ wh ∧ wh ≤ b), g) := fun a b e => by
    by_cases d : wh = a
    · rw [show (wh == a) = true by rw [d]; simp, cond_true, decide_eq_true (by omega)]
    · rw [show (wh == a) = false by rw [beq_eq_false_iff_ne]; exact d, cond_false]
      by_cases f : wh = b
      · rw [show (wh == b) = true by rw [f]; simp, decide_eq_true (by omega)]
      · rw [show (wh == b) = false by rw [beq_eq_false_iff_ne]; exact f, decide_eq_false (by omega)]
  have J19 : (cond (wh == (0 : Int)) (some (wh == (0 : Int), g)) ((cond (wh == (1 : Int)) (some (wh == (1 : Int), g)) (some (wh == (2 : Int), g)) : Option ((Bool) × H)).bind fun j18 => some (j18.1, j18.2)) : Option ((Bool) × H)) = some (decide (wh < 3), g) := by
    rw [two 1 2 rfl]
    by_cases d : wh = 0
    · subst d; rfl
    · rw [show (wh == (0 : Int)) = false by rw [beq_eq_false_iff_ne]; exact d, cond_false, Option.bind_some]
      by_cases f : wh < 3
      · rw [decide_eq_true f, decide_eq_true (by omega)]
      · rw [decide_eq_false f, decide_eq_false (by omega)]
  rw [J19]
  simp only [Option.bind_some]
  rw [two 3 4 rfl]
  simp only [Option.bind_some]
  rw [two 5 6 rfl]
  simp only [Option.bind_some]
  refine ⟨wh, of, nm, sz, ?_⟩
  have up : ∀ {r : Option ((Sl × Int × Sl × Int) × H)} {y : Res}, Pure.Two g r y → Pure.Two h r y := fun {r y} ⟨s, us, t, ts, h', c1, c2, c3, c4, c5, c6, c7⟩ => ⟨s, us, t, ts, h', c1, b2.then c2, c3, c4, c5, c6.mono b2.le, c7⟩
  refine up ?_
  unfold actP
  by_cases d1 : wh < 3
  · rw [decide_eq_true d1, cond_true, if_pos d1]
    exact Pure.Two.of (tcreate_f k hk b2.wf T1 R nm (by omega) sz) fun h' c => rcreate_f k hk c.wf (T1.stay b2.wf c) R nm (by omega) (by omega) sz
  rw [decide_eq_false d1, cond_false, if_neg d1]
  by_cases d2 : wh < 5
  · rw [decide_eq_true (show 3 ≤ wh ∧ wh ≤ 4 by omega), cond_true, if_pos d2]
    exact Pure.Two.of (b := fun h => corbelref16_Snapshot.f k t (ba of) (ba nm) h) (tderive_f k hk b2.wf T1 R of nm (by omega) true).re fun h' c => (rbranch_f k hk c.wf (T1.stay b2.wf c) R of nm (by omega) (by omega) true).re
  rw [decide_eq_false (show ¬ (3 ≤ wh ∧ wh ≤ 4) by omega), cond_false, if_neg d2]
  by_cases d3 : wh < 7
  · rw [decide_eq_true (show 5 ≤ wh ∧ wh ≤ 6 by omega), cond_true, if_pos d3]
    exact Pure.Two.of (b := fun h => corbelref16_Clone.f k t (ba of) (ba nm) h) (tderive_f k hk b2.wf T1 R of nm (by omega) false).re fun h' c => (rbranch_f k hk c.wf (T1.stay b2.wf c) R of nm (by omega) (by omega) false).re
  rw [decide_eq_false (show ¬ (5 ≤ wh ∧ wh ≤ 6) by omega), cond_false, if_neg d3]
  by_cases d4 : wh = 7
  · rw [show (wh == (7 : Int)) = true by rw [d4]; rfl, cond_true, if_pos d4]
    exact Pure.Two.of (tdelete_f k hk b2.wf T1 R nm) fun h' c => rdelete_f k hk c.wf (T1.stay b2.wf c) R nm
  · rw [show (wh == (7 : Int)) = false by rw [beq_eq_false_iff_ne]; exact d4, cond_false, if_neg d4]
    exact Pure.Two.of (tresize_f k hk b2.wf T1 R nm sz) fun h' c => rresize_f k hk c.wf (T1.stay b2.wf c) R nm sz
/-! ### the counts are alike -/
theorem Pure.acts_l1 (k : Nat) {h : H} {b1 b2 : Nat} {c : Cn} (A : CnR h b1 c) (B : CnR h b2 c) (x47 : Sl) (x48 : Int) (x49 : Sl) (x50 : Int) : ∀ n i, 40 - i < n → i ≤ 40 →
    corbellaw18_TreeActs.l1 k n x47 x48 x49 x50 (some b1) (some b2) (Int.ofNat i) h = some (.inr (), h)
  | 0, i, hf, _ => by omega
  | n + 1, i, hf, hi => by
    rw [corbellaw18_TreeActs.l1_succ]
    by_cases c2 : i < 40
    rotate_left
    · rw [show decide (Int.ofNat i < (40 : Int)) = false from decNlt (b := 40) c2, cond_false]
    rw [show decide (Int.ofNat i < (40 : Int)) = true from decLt (b := 40) c2, cond_true, A.look, asI_int]
    simp only [Option.bind_some]
    rw [B.look, asI_int]
    simp only [Option.bind_some]
    rw [show ((c.D (Int.ofNat i)).getD 0 != (c.D (Int.ofNat i)).getD 0) = false by simp, cond_false, wrap_succ (by omega)]
    exact Pure.acts_l1 k A B x47 x48 x49 x50 n (i + 1) (by omega) c2
theorem Pure.own_lt {h : H} (w : WF h) {s : Sl} {us : List Vs} (O : TreeO h s us) : (∀ x, SlB s x → x < h.next) ∧ ∀ q ∈ us, ∀ x, SlB q.2 x → x < h.next := ⟨fun x hx => O.ow.lt w hx, fun q hq x hx => (O.mp q hq).lt w hx⟩
theorem Pure.acts_l0 (k : Nat) (hk : 20000 < k) {M : Nat} (hM : M + 100 < k) (hM2 : M + 100 < 9223372036854775807) {h0 : H} (w0 : WF h0) {s : Sl} {xs : List Pure.Raw} (A : Pure.ActsV M h0 s xs) (bend : Int) : ∀ n i h t vs, 40 - i < n → i ≤ 40 → Ch0 h0 h → TreeO h t vs → Fresh h0.next t vs → RightP (vols vs) →
    ∃ t' vs' h', corbellaw18_TreeActs.l0 k n s bend t (Int.ofNat i) h = some (.inr t', h') ∧ Ch0 h0 h' ∧ TreeO h' t' vs' ∧ Fresh h0.next t' vs' ∧ RightP (vols vs')
  | 0, i, h, t, vs, hf, _, _, _, _, _ => by omega
  | n + 1, i, h, t, vs, hf, hi, C, O, F, R => by
    rw [corbellaw18_TreeActs.l0_succ]
    rw [A.n]
    by_cases c1 : i < xs.length
    rotate_left
    · rw [decNlt c1, cond_false]
      exact ⟨t, vs, h, rfl, C, O, F, R⟩
    rw [decLt c1, cond_true]
    by_cases c2 : i < 40
    rotate_left
    · rw [show decide (Int.ofNat i < (40 : Int)) = false from decNlt (b := 40) c2]
      exact ⟨t, vs, h, rfl, C, O, F, R⟩
    rw [show decide (Int.ofNat i < (40 : Int)) = true from decLt (b := 40) c2]
    simp only [Option.bind_some, cond_true]
    have lt1 : 40 - (i + 1) < n := by omega
    have lt2 : i + 1 ≤ 40 := c2
    have wi : wrapA .i64 (Int.ofNat i + 1) = Int.ofNat (i + 1) := wrap_succ (by omega)
    have far : ∃ b o, ixs 6 s.a xs.length (Int.ofNat i) = some (.pointer (some ⟨b, o, none⟩)) ∧ ∀ g, Ch0 h0 g → lda 6 g (some ⟨b, o, none⟩) = some (.agg (Pure.actV xs[i]).toArray) ∧ ∀ j, j < 6 → ldc g (some ⟨b, o + j, none⟩) = (Pure.actV xs[i])[j]? := by
      obtain ⟨b, o, e1, _⟩ := A.at c1
      refine ⟨b, o, by rw [← A.n]; exact e1, fun g cg => ?_⟩
      obtain ⟨b', o', e1', e2', e3'⟩ := (A.stay w0 cg).at c1
      rw [e1] at e1'
      cases e1'
      exact ⟨e2', e3'⟩
    obtain ⟨b, o, e1, far⟩ := far
    rw [e1]
    simp only [asP_ptr, Option.bind_some]
    have hz := A.le _ (List.getElem_mem c1)
    generalize xs[i] = x at far hz
    rw [(far h C).1, show Pure.actV x = actL x.1 x.2.1 x.2.2.1 x.2.2.2.1 x.2.2.2.2.1 x.2.2.2.2.2 from rfl, bindAct]
    dsimp only
    obtain ⟨wh, of, nm, sz, s2, us, t2, ts, h2, d1, d2, d3, d4, d5, d6, d7⟩ := Pure.do_f k hk hM hM2 C.wf O.read R x hz
    rw [d1]
    simp only [Option.bind_some]
    have C2 := C.then d2
    rw [show ((actP (vols vs) wh of nm sz).1 != (actP (vols vs) wh of nm sz).1) = false by simp, cond_false]
    have Bu : TreeB us := by
      by_cases er : (actP (vols vs) wh of nm sz).1 = 0
      · have R' := actP_right R er
        rw [← d4] at R'
        exact R'.b
      · have := actP_no.resolve_left er
        rw [this] at d4
        have e : us = [] := by
          unfold vols at d4
          exact List.map_eq_nil_iff.1 d4
        subst e
        exact ⟨Nat.zero_le _, fun q hq => by cases hq⟩
    obtain ⟨h3, f1, f2⟩ := sameTree_f k hk d2.wf d3 d5.read Bu
    rw [f1, decide_eq_true (show vols us = vols ts by rw [d4, d7])]
    simp only [Option.bind_some, Bool.not_true, cond_false]
    have C3 := C2.then f2
    by_cases er : (actP (vols vs) wh of nm sz).1 = 0
    rotate_left
    · rw [show ((actP (vols vs) wh of nm sz).1 != (0 : Int)) = true by rw [bne_iff_ne]; exact er, cond_true, wi]
      exact Pure.acts_l0 k hk hM hM2 w0 A bend n (i + 1) h3 t vs lt1 lt2 C3 (O.stay C.wf (d2.then f2)) F R
    rw [show ((actP (vols vs) wh of nm sz).1 != (0 : Int)) = false by rw [er]; rfl, cond_false]
    have R2 := actP_right R er
    rw [← d7] at R2
    have O3 := d5.stay d2.wf f2
    have F3 : Fresh h0.next t2 ts := d6.mono C.le
    have nt := O3.read.n
    have L5 : ∀ g, Ch0 h0 g → asI .i64 (ldc g (some ⟨b, o + 4, none⟩)) = some x.2.2.2.2.1 := fun g cg => by rw [(far g cg).2 4 (by decide)]; exact asI_int _ _
    have L4 : ∀ g, Ch0 h0 g → asI .i64 (ldc g (some ⟨b, o + 3, none⟩)) = some x.2.2.2.1 := fun g cg => by rw [(far g cg).2 3 (by decide)]; exact asI_int _ _
    simp only [fadd_at, asP_ptr, Option.bind_some]
    rw [L5 h3 C3]
    simp only [Option.bind_some]
    have tn := R2.b.n
    rw [nt, show wrapA .i64 (Int.ofNat ts.length + 1) = Int.ofNat (ts.length + 1) from wrap_succ (by omega)]
    rw [pick_f k _ _ h3 (by simp only [Int.ofNat_eq_natCast]; omega) (by simp only [Int.ofNat_eq_natCast]; omega)]
    simp only [Option.bind_some]
    have z0 := Int.emod_nonneg x.2.2.2.2.1 (show Int.ofNat (ts.length + 1) ≠ 0 by simp only [Int.ofNat_eq_natCast]; omega)
    have z1 := Int.emod_lt_of_pos x.2.2.2.2.1 (show (0 : Int) < Int.ofNat (ts.length + 1) by simp only [Int.ofNat_eq_natCast]; omega)
    obtain ⟨j, hj⟩ : ∃ j : Nat, x.2.2.2.2.1 % Int.ofNat (ts.length + 1) = Int.ofNat j := ⟨_, nn _ z0⟩
    rw [hj] at z1 ⊢
    simp only [Int.ofNat_eq_natCast] at z1
    -- something is written
    have JW : ∃ (ts' : List Vs) (h4 : H), (∀ {β : Type} (K : Unit × H → Option β), ((cond (decide (Int.ofNat j < Int.ofNat ts.length)) ((asP (ixs 5 t2.a ts.length (Int.ofNat j))).bind fun p16 => (asP (fadd 2 p16)).bind fun p17 => (asB (ldc h3 p17)).bind fun b18 => some (!b18, h3)) (some (false, h3)) : Option (Bool × H)).bind fun g19 =>
        (cond g19.1 ((asP (ixs 5 t2.a ts.length (Int.ofNat j))).bind fun p20 => (asP (fadd 4 p20)).bind fun p21 => (asS (ldc g19.2 p21)).bind fun s22 => some (decide ((Int.ofNat s22.n) > (0 : Int)), g19.2)) (some (false, g19.2)) : Option (Bool × H)).bind fun g23 =>
        (cond g23.1 ((asP (ixs 5 t2.a ts.length (Int.ofNat j))).bind fun p24 => (asP (fadd 4 p24)).bind fun p25 => (asS (ldc g23.2 p25)).bind fun s26 => (asI .i64 (ldc g23.2 (some ⟨b, o + 4, none⟩))).bind fun n29 => (asP (ixs 5 t2.a ts.length (Int.ofNat j))).bind fun p30 => (asP (fadd 4 p30)).bind fun p31 => (asS (ldc g23.2 p31)).bind fun s32 => (corbelhand_Pick.f k n29 (Int.ofNat s32.n) g23.2).bind fun q33 => (asI .i64 (ldc q33.2 (some ⟨b, o + 4, none⟩))).bind fun n36 => (corbelhand_Pick.f k n36 (20 : Int) q33.2).bind fun q37 => (asP (ixs 1 s26.a s26.n q33.1)).bind fun p38 => (stv 1 q37.2 p38 [(Value.int .i64 (wrapA .i64 ((17 : Int) + q37.1)))]).bind fun q39 => cond (same1 g23.2 q33.2 (some (Value.pointer p25)) && (same1 q33.2 q37.2 (some (Value.pointer p25)) && (same1 g23.2 q33.2 (some (Value.pointer (some ⟨b, o + 4, none⟩))) && (true)))) (some ((), q39.2)) none) (some ((), g23.2)) : Option (Unit × H)).bind K) = K ((), h4)) ∧ Ch0 h0 h4 ∧ TreeO h4 t2 ts' ∧ Fresh h0.next t2 ts' ∧ RightP (vols ts') ∧ ts'.length = ts.length := by
      by_cases cj : j < ts.length
      rotate_left
      · refine ⟨ts, h3, fun K => ?_, C3, O3, F3, R2, rfl⟩
        rw [decNlt cj]; rfl
      obtain ⟨bb, oo, y1, _, y3⟩ := O3.read.at cj
      rw [nt] at y1
      have ys : asB (ldc h3 (some ⟨bb, oo + 2, none⟩)) = some ts[j].1.sn := by rw [y3 2 (by decide)]; exact asBs _
      have ym : asS (ldc h3 (some ⟨bb, oo + 4, none⟩)) = some ts[j].2 := by rw [y3 4 (by decide)]; exact asS_slv _
      have M := O3.mp _ (List.getElem_mem cj)
      have ml := SlR.ivn M.slr
      cases hs : ts[j].1.sn with
      | true =>
        refine ⟨ts, h3, fun K => ?_, C3, O3, F3, R2, rfl⟩
        rw [decLt cj, cond_true, y1]
        simp only [asP_ptr, Option.bind_some, fadd_at]
        rw [ys, hs]
        rfl
      | false =>
        by_cases cm : 0 < ts[j].1.mp.length
        rotate_left
        · refine ⟨ts, h3, fun K => ?_, C3, O3, F3, R2, rfl⟩
          rw [decLt cj, cond_true, y1]
          simp only [asP_ptr, Option.bind_some, fadd_at]
          rw [ys, hs]
          simp only [Option.bind_some, Bool.not_false, cond_true]
          rw [ym]
          simp only [Option.bind_some]
          rw [ml, show decide (Int.ofNat ts[j].1.mp.length > (0 : Int)) = false from decNlt (a := 0) cm]
          rfl
        · have w1 := Int.emod_nonneg x.2.2.2.2.1 (show Int.ofNat ts[j].1.mp.length ≠ 0 by simp only [Int.ofNat_eq_natCast]; omega)
          have w2 := Int.emod_lt_of_pos x.2.2.2.2.1 (show (0 : Int) < Int.ofNat ts[j].1.mp.length by simp only [Int.ofNat_eq_natCast]; omega)
          obtain ⟨e, he⟩ : ∃ e : Nat, x.2.2.2.2.1 % Int.ofNat ts[j].1.mp.length = Int.ofNat e := ⟨_, nn _ w1⟩
          rw [he] at w2
          simp only [Int.ofNat_eq_natCast] at w2
          have v1 := Int.emod_nonneg x.2.2.2.2.1 (show (20 : Int) ≠ 0 by decide)
          have v2 := Int.emod_lt_of_pos x.2.2.2.2.1 (show (0 : Int) < 20 by decide)
          have ma := R2.ma _ (mem_vols cj)
          have mx := (mapLen ma).1
          obtain ⟨bq, h4, s1, s2', s3, s4, s5⟩ := seti f2.wf M (j := e) (by omega) (wrapA .i64 (17 + x.2.2.2.2.1 % 20))
          rw [wrap_in (n := 17 + x.2.2.2.2.1 % 20) (by omega) (by omega)] at s5
          have ok : okN (17 + x.2.2.2.2.1 % 20) = true := by
            unfold okN
            rw [decide_eq_true (show 17 ≤ 17 + x.2.2.2.2.1 % 20 by omega), decide_eq_true (show 17 + x.2.2.2.2.1 % 20 < 40 by omega)]
            simp
          refine ⟨_, h4, fun K => ?_, Ch0.own C3 s3 fun x hx => F3.2 _ (List.getElem_mem cj) x hx, TreeO.setMap f2.wf O3 cj s3 s5, F3.setMap cj _, right_set R2 cj (rightMap_set ma e _ ok), by rw [List.length_set]⟩
          rw [decLt cj, cond_true, y1]
          simp only [asP_ptr, Option.bind_some, fadd_at]
          rw [ys, hs]
          simp only [Option.bind_some, Bool.not_false, cond_true]
          rw [ym]
          simp only [Option.bind_some]
          rw [ml, show decide (Int.ofNat ts[j].1.mp.length > (0 : Int)) = true from decLt (a := 0) cm]
          simp only [cond_true]
          rw [ym]
          simp only [Option.bind_some]
          rw [L5 h3 C3]
          simp only [Option.bind_some]
          rw [ml, pick_f k _ _ h3 (by simp only [Int.ofNat_eq_natCast]; omega) (by simp only [Int.ofNat_eq_natCast]; omega)]
          simp only [Option.bind_some]
          rw [L5 h3 C3]
          simp only [Option.bind_some]
          rw [pick_f k _ 20 h3 (by decide) (by decide)]
          simp only [Option.bind_some]
          rw [he, ← ml, s1]
          simp only [asP_ptr, Option.bind_some]
          rw [s2']
          simp only [Option.bind_some]
          rw [same1_of rfl, same1_of rfl]
          rfl
    obtain ⟨ts', h4, jw, C4, O4, F4, R4, ln⟩ := JW
    rw [jw]
    dsimp only
    obtain ⟨l1, l2⟩ := Pure.own_lt C4.wf O4
    have Bt := R4.b
    obtain ⟨b1, h5, p1, p2, p3⟩ := tcnt_f k hk C4.wf O4.read Bt l1 l2
    rw [p1]
    simp only [Option.bind_some]
    have O5 := O4.stay C4.wf p2
    obtain ⟨l3, l4⟩ := Pure.own_lt p2.wf O5
    obtain ⟨b2, h6, q1, q2, q3⟩ := rcnt_f k hk p2.wf O5.read Bt l3 l4
    rw [q1]
    simp only [Option.bind_some]
    have p6 := p3.stay p2.wf q2
    rw [p6.len]
    simp only [Option.bind_some]
    rw [q3.len]
    simp only [Option.bind_some]
    have O6 := O5.stay p2.wf q2
    rw [show ∀ L : Nat, (Int.ofNat L != Int.ofNat L) = false from fun L => by simp, cond_false]
    obtain ⟨v, h7, r1, r2, r3⟩ := tright_f k hk q2.wf O6.read Bt
    rw [r1, r3.2 R4]
    simp only [Option.bind_some, Bool.not_true, cond_false]
    have O7 := O6.stay q2.wf r2
    have C7 := ((C4.then p2).then q2).then r2
    rw [show (0 : Int) = Int.ofNat 0 from rfl, Pure.acts_l1 k (p6.stay q2.wf r2) (q3.stay q2.wf r2) s bend t2 (Int.ofNat i) k 0 (by omega) (Nat.zero_le _)]
    simp only [Option.bind_some]
    rw [L4 h7 C7]
    simp only [Option.bind_some]
    obtain ⟨n1, m1, m2⟩ := name2_f k x.2.2.2.1
    rw [m1]
    simp only [Option.bind_some]
    obtain ⟨r, h8, d1, d2, d3⟩ := find_f k hk r2.wf O7.read Bt n1
    rw [d1]
    simp only [Option.bind_some]
    have C8 := C7.then d2
    have O8 := O7.stay r2.wf d2
    rw [show [Value.string (⟨#[]⟩ : ByteArray), Value.string (⟨#[]⟩ : ByteArray), Value.bool false, Value.int .i64 (Int.ofNat 0), Value.slice none 0 0] = zVo from rfl]
    have bx : ∀ q : Vs, r.1 = voT q → ∃ h9, stv 5 (newR h8 58 5 zVo) (some ⟨h8.next, 0, none⟩) [(Value.string r.1.1), (Value.string r.1.2.1), (Value.bool r.1.2.2.1), (Value.int .i64 r.1.2.2.2.1), (Value.slice r.1.2.2.2.2.a r.1.2.2.2.2.n r.1.2.2.2.2.c)] = some (undef, h9) ∧ Ch0 h8 h9 ∧ Is h9 h8.next 58 5 (voL q) := fun q e => by
      obtain ⟨h9, g1, g2, g3, g4⟩ := box_ok d2.wf 58 5 zVo (voL q) rfl rfl rfl
      rw [e]
      exact ⟨h9, g1, g2, g4⟩
    rcases d3 with ⟨u, m, e1', e2', e3', e4'⟩ | ⟨e1', e2'⟩
    · obtain ⟨h9, g1, g2, g3⟩ := bx (u, m) (by rw [e2'])
      rw [g1]
      simp only [Option.bind_some]
      have C9 := C8.then g2
      have O9 := O8.stay d2.wf g2
      rw [L4 h9 C9]
      simp only [Option.bind_some]
      rw [m1]
      simp only [Option.bind_some]
      obtain ⟨ra, y1, y2⟩ := rat_f k (by omega) O9.read Bt.n n1
      rw [y1]
      simp only [Option.bind_some]
      rcases rat_find R4 y2 with ⟨e, he, rfl, y3, y4⟩ | ⟨rfl, y3⟩
      rotate_left
      · rw [e1'] at y3; cases y3
      rw [e2']
      dsimp only
      rw [decide_eq_true (show Int.ofNat e ≥ Int.ofNat 0 by simp only [Int.ofNat_eq_natCast]; omega)]
      simp only [BEq.rfl, Bool.not_true, cond_false, cond_true]
      rw [ldaIs (n := 5) g3 rfl, bindVo]
      have nt4 := O9.read.n
      obtain ⟨ba1, oa1, w1, w2, _⟩ := O9.read.at he
      rw [nt] at w1
      rw [w1]
      simp only [asP_ptr, Option.bind_some]
      rw [w2, bindVo]
      rw [e1'] at y3
      have eu : u = ts'[e].1 := Option.some.inj y3
      obtain ⟨h10, z1', z2'⟩ := sameVol_f k hk g2.wf (u, m) ts'[e] ((e3'.stay d2.wf g2).slr) (O9.read.mp _ (List.getElem_mem he)) (by show u.mp.length ≤ _; rw [eu]; exact (Bt.nm _ (List.getElem_mem he)).2.2)
      have z1' : corbelref16_SameVolume.f k ((voT (u, m)).1, (voT (u, m)).2.1, (voT (u, m)).2.2.1, (voT (u, m)).2.2.2.1, (voT (u, m)).2.2.2.2) ((voT ts'[e]).1, (voT ts'[e]).2.1, (voT ts'[e]).2.2.1, (voT ts'[e]).2.2.2.1, (voT ts'[e]).2.2.2.2) h9 = _ := z1'
      rw [z1', decide_eq_true eu]
      simp only [Option.bind_some, Bool.not_true, cond_false]
      rw [wi]
      exact Pure.acts_l0 k hk hM hM2 w0 A bend n (i + 1) h10 t2 ts' lt1 lt2 (C9.then z2') (O9.stay g2.wf z2') F4 R4
    · obtain ⟨h9, g1, g2, g3⟩ := bx zVs (by rw [e2'])
      rw [g1]
      simp only [Option.bind_some]
      have C9 := C8.then g2
      have O9 := O8.stay d2.wf g2
      rw [L4 h9 C9]
      simp only [Option.bind_some]
      rw [m1]
      simp only [Option.bind_some]
      obtain ⟨ra, y1, y2⟩ := rat_f k (by omega) O9.read Bt.n n1
      rw [y1]
      simp only [Option.bind_some]
      rcases rat_find R4 y2 with ⟨e, he, rfl, y3, y4⟩ | ⟨rfl, y3⟩
      · rw [e1'] at y3; cases y3
      rw [e2']
      dsimp only
      rw [show decide ((-1 : Int) ≥ Int.ofNat 0) = false from rfl]
      simp only [BEq.rfl, Bool.not_true, cond_false, Option.bind_some]
      rw [wi]
      exact Pure.acts_l0 k hk hM hM2 w0 A bend n (i + 1) h9 t2 ts' lt1 lt2 C9 O9 F4 R4
/-! ### a bent one -/
theorem Pure.bent {h : H} (w : WF h) {t : Sl} {vs : List Vs} (O : TreeO h t vs) (B : TreeB vs) {j : Nat} (hj : j < vs.length) (e : Nat) (he : e < 5) (v : Value) (h1 : Den.one v = true) (q : Vs) (hq : (voL vs[j]).set e v = voL q) (hm : q.2 = vs[j].2 ∧ q.1.mp = vs[j].1.mp) (hb : q.1.nm.length ≤ 1000 ∧ q.1.pa.length ≤ 1000) :
    ∃ b h', ixs 5 t.a t.n (Int.ofNat j) = some (.pointer (some ⟨b, j * 5, none⟩)) ∧ stv 1 h (some ⟨b, j * 5 + e, none⟩) [v] = some (undef, h') ∧ WF h' ∧ TreeR h' t (vs.set j q) ∧ TreeB (vs.set j q) := by
  obtain ⟨b, h', p1, p2, p3, p4⟩ := set_cell w O.ow hj e he v h1 q hq
  refine ⟨b, h', p1, p2, p3.wf, ⟨p4.slr, fun a ha => ?_⟩, ⟨by rw [List.length_set]; exact B.n, fun a ha => ?_⟩⟩
  · rcases List.mem_or_eq_of_mem_set ha with z | z
    · exact ((O.mp a z).keep fun x hx => p3.keep x ((O.mp a z).lt w hx) fun f => O.ne a z x f hx).slr
    · have M := O.mp _ (List.getElem_mem hj)
      rw [z, hm.1, hm.2]
      exact (M.keep fun x hx => p3.keep x (M.lt w hx) fun f => O.ne _ (List.getElem_mem hj) x f hx).slr
  · rcases List.mem_or_eq_of_mem_set ha with z | z
    · exact B.nm a z
    · rw [z]
      exact ⟨hb.1, hb.2, by rw [hm.2]; exact (B.nm _ (List.getElem_mem hj)).2.2⟩
theorem Pure.acts_f (k : Nat) (hk : 20000 < k) {M : Nat} (hM : M + 100 < k) (hM2 : M + 100 < 9223372036854775807) {h : H} (w : WF h) {s : Sl} {xs : List Pure.Raw} (A : Pure.ActsV M h s xs) (bend : Int) : ∃ h', corbellaw18_TreeActs.f k s bend h = some (true, h') := by
  unfold corbellaw18_TreeActs.f
  obtain ⟨t, vs, h1, a1, a2, a3, a4, a5⟩ := Pure.acts_l0 k hk hM hM2 w A bend k 0 h ⟨none, 0, 0⟩ [] (by omega) (by omega) (Ch.refl w) TreeO.nil Fresh.nil ⟨List.Pairwise.nil, (fun _ f => by cases f), (fun _ f => by cases f), (fun _ f => by cases f), Nat.zero_le _⟩
  rw [show (0 : Int) = Int.ofNat 0 from rfl, a1]
  simp only [Option.bind_some]
  have B := a5.b
  have R8 : TreeB vs := B
  have tn := a3.read.n
  have tl := B.n
  have G : (cond (decide (bend.tmod (3 : Int) > Int.ofNat 0)) (some (decide (Int.ofNat t.n > Int.ofNat 0), h1)) (some (false, h1)) : Option (Bool × H)) = some (decide (bend.tmod 3 > 0) && decide (0 < vs.length), h1) := by
    rw [tn]
    by_cases c : bend.tmod 3 > 0
    · rw [show decide (bend.tmod 3 > Int.ofNat 0) = true from decide_eq_true c, cond_true, decide_eq_true c, Bool.true_and]
      by_cases d : 0 < vs.length
      · rw [decide_eq_true d, show decide (Int.ofNat vs.length > Int.ofNat 0) = true from decLt (a := 0) d]
      · rw [decide_eq_false d, show decide (Int.ofNat vs.length > Int.ofNat 0) = false from decNlt (a := 0) d]
    · rw [show decide (bend.tmod 3 > Int.ofNat 0) = false from decide_eq_false c, cond_false, decide_eq_false c, Bool.false_and]
  rw [G]
  simp only [Option.bind_some]
  have JJ : ∃ us h2, (cond (decide (bend.tmod 3 > 0) && decide (0 < vs.length)) ((corbelhand_Pick.f k bend (Int.ofNat t.n) h1).bind fun q81 =>
    (corbelhand_Pick.f k bend (6 : Int) q81.2).bind fun q82 =>
    (cond (q82.1 == Int.ofNat 0)
      ((corbelhand_Name.f k bend q82.2).bind fun q83 =>
    (asP (ixs 5 t.a t.n q81.1)).bind fun p84 =>
    (asP (fadd 1 p84)).bind fun p85 =>
    (stv 1 q83.2 p85 [(Value.string q83.1)]).bind fun q86 =>
    some ((), q86.2))
      ((cond (q82.1 == (1 : Int))
      ((asP (ixs 5 t.a t.n q81.1)).bind fun p87 =>
    (asP (fadd 2 p87)).bind fun p88 =>
    (asB (ldc q82.2 p88)).bind fun b89 =>
    (asP (ixs 5 t.a t.n q81.1)).bind fun p90 =>
    (asP (fadd 2 p90)).bind fun p91 =>
    (stv 1 q82.2 p91 [(Value.bool (!b89))]).bind fun q92 =>
    some ((), q92.2))
      ((cond (q82.1 == (2 : Int))
      ((asP (ixs 5 t.a t.n q81.1)).bind fun p93 =>
    (asP (fadd 3 p93)).bind fun p94 =>
    (stv 1 q82.2 p94 [(Value.int .i64 bend)]).bind fun q95 =>
    some ((), q95.2))
      ((cond (q82.1 == (3 : Int))
      ((corbelhand_Odd.f k bend (⟨#[113]⟩ : ByteArray) q82.2).bind fun q96 =>
    (asP (ixs 5 t.a t.n q81.1)).bind fun p97 =>
    (asP (fadd 0 p97)).bind fun p98 =>
    (stv 1 q96.2 p98 [(Value.string q96.1)]).bind fun q99 =>
    some ((), q99.2))
      ((cond (q82.1 == (4 : Int))
      ((asP (ixs 5 t.a t.n q81.1)).bind fun p100 =>
    (asP (fadd 4 p100)).bind fun p101 =>
    (asS (ldc q82.2 p101)).bind fun s102 =>
    (asS2 (apv 3 1 8 (Value.slice s102.a s102.n s102.c) (Value.slice (some ⟨q82.2.next, 0, none⟩) 1 1) (newR q82.2 3 1 [(Value.int .i64 bend)]))).bind fun q103 =>
    (asP (ixs 5 t.a t.n q81.1)).bind fun p104 =>
    (asP (fadd 4 p104)).bind fun p105 =>
    (stv 1 q103.2 p105 [(Value.slice q103.1.a q103.1.n q103.1.c)]).bind fun q106 =>
    some ((), q106.2))
      (some ((), q82.2)) : Option ((Unit) × H)).bind fun j107 =>
    some ((), j107.2)) : Option ((Unit) × H)).bind fun j108 =>
    some ((), j108.2)) : Option ((Unit) × H)).bind fun j109 =>
    some ((), j109.2)) : Option ((Unit) × H)).bind fun j110 =>
    some ((), j110.2)) : Option ((Unit) × H)).bind fun j111 =>
    some ((), j111.2))
      (some ((), h1)) : Option ((Unit) × H)) = some ((), h2) ∧ WF h2 ∧ TreeR h2 t us ∧ TreeB us := by
    by_cases c : 0 < vs.length
    rotate_left
    · rw [decide_eq_false c, Bool.and_false, cond_false]
      exact ⟨vs, h1, rfl, a2.wf, a3.read, B⟩
    cases hb : decide (bend.tmod 3 > 0) with
    | false =>
      rw [Bool.false_and, cond_false]
      exact ⟨vs, h1, rfl, a2.wf, a3.read, B⟩
    | true =>
    rw [decide_eq_true c, Bool.true_and, cond_true, pick_f k _ _ h1 (by rw [tn]; simp only [Int.ofNat_eq_natCast]; omega) (by rw [tn]; simp only [Int.ofNat_eq_natCast]; omega)]
    simp only [Option.bind_some]
    have z0 := Int.emod_nonneg bend (show Int.ofNat t.n ≠ 0 by rw [tn]; simp only [Int.ofNat_eq_natCast]; omega)
    have z1 := Int.emod_lt_of_pos bend (show (0 : Int) < Int.ofNat t.n by rw [tn]; simp only [Int.ofNat_eq_natCast]; omega)
    obtain ⟨j, hj⟩ : ∃ j : Nat, bend % Int.ofNat t.n = Int.ofNat j := ⟨_, nn _ z0⟩
    rw [hj] at z1 ⊢
    rw [tn] at z1
    simp only [Int.ofNat_eq_natCast] at z1
    have cj : j < vs.length := by omega
    rw [pick_f k _ 6 h1 (by decide) (by decide)]
    simp only [Option.bind_some]
    have w0 := Int.emod_nonneg bend (show (6 : Int) ≠ 0 by decide)
    have w1 := Int.emod_lt_of_pos bend (show (0 : Int) < 6 by decide)
    generalize bend % 6 = p at w0 w1 ⊢
    have hB := B.nm _ (List.getElem_mem cj)
    obtain ⟨bb, oo, y1, _, y3⟩ := a3.read.at cj
    rcases (show p = 0 ∨ p = 1 ∨ p = 2 ∨ p = 3 ∨ p = 4 ∨ p = 5 by omega) with rfl | rfl | rfl | rfl | rfl | rfl
    · obtain ⟨nm, n1, n2⟩ := name2_f k bend
      have nl := nameLen n2
      obtain ⟨b, h2, e1, e2, e3, e4, e5⟩ := Pure.bent a2.wf a3 B cj 1 (by decide) (.string (ba nm)) rfl ({ vs[j].1 with pa := nm }, vs[j].2) rfl ⟨rfl, rfl⟩ ⟨hB.1, by show nm.length ≤ 1000; omega⟩
      refine ⟨_, h2, ?_, e3, e4, e5⟩
      rw [show ((0 : Int) == Int.ofNat 0) = true from rfl, cond_true, n1]
      simp only [Option.bind_some]
      rw [e1]
      simp only [asP_ptr, Option.bind_some, fadd_at]
      rw [e2]
      rfl
    · obtain ⟨b, h2, e1, e2, e3, e4, e5⟩ := Pure.bent a2.wf a3 B cj 2 (by decide) (.bool (!vs[j].1.sn)) rfl ({ vs[j].1 with sn := !vs[j].1.sn }, vs[j].2) rfl ⟨rfl, rfl⟩ ⟨hB.1, hB.2.1⟩
      refine ⟨_, h2, ?_, e3, e4, e5⟩
      rw [y1] at e1
      cases e1
      rw [show ((1 : Int) == Int.ofNat 0) = false from rfl, show ((1 : Int) == 1) = true from rfl, cond_false, cond_true, y1]
      simp only [asP_ptr, Option.bind_some, fadd_at]
      rw [y3 2 (by decide), show asB ((voL vs[j])[2]?) = some vs[j].1.sn from asBs _]
      simp only [Option.bind_some]
      rw [e2]
      rfl
    · obtain ⟨b, h2, e1, e2, e3, e4, e5⟩ := Pure.bent a2.wf a3 B cj 3 (by decide) (.int .i64 bend) rfl ({ vs[j].1 with sz := bend }, vs[j].2) rfl ⟨rfl, rfl⟩ ⟨hB.1, hB.2.1⟩
      refine ⟨_, h2, ?_, e3, e4, e5⟩
      rw [show ((2 : Int) == Int.ofNat 0) = false from rfl, show ((2 : Int) == 1) = false from rfl, show ((2 : Int) == 2) = true from rfl, cond_false, cond_false, cond_true, e1]
      simp only [asP_ptr, Option.bind_some, fadd_at]
      rw [e2]
      rfl
    · obtain ⟨nm, n1, n2⟩ := odd_f k bend [113]
      have n2 : nm.length ≤ 12 := n2
      obtain ⟨b, h2, e1, e2, e3, e4, e5⟩ := Pure.bent a2.wf a3 B cj 0 (by decide) (.string (ba nm)) rfl ({ vs[j].1 with nm := nm }, vs[j].2) rfl ⟨rfl, rfl⟩ ⟨by show nm.length ≤ 1000; omega, hB.2.1⟩
      refine ⟨_, h2, ?_, e3, e4, e5⟩
      rw [show ((3 : Int) == Int.ofNat 0) = false from rfl, show ((3 : Int) == 1) = false from rfl, show ((3 : Int) == 2) = false from rfl, show ((3 : Int) == 3) = true from rfl, cond_false, cond_false, cond_false, cond_true, show (⟨#[113]⟩ : ByteArray) = ba [113] from rfl, n1]
      simp only [Option.bind_some]
      rw [e1]
      simp only [asP_ptr, Option.bind_some, fadd_at]
      rw [e2]
      rfl
    · have M := a3.mp _ (List.getElem_mem cj)
      obtain ⟨m2, h2, u1, u2, u3, u4⟩ := push_i a2.wf M bend (by omega)
      have tlt : ∀ x, SlB t x → x < h1.next := fun x hx => a3.ow.lt a2.wf hx
      have ow2 : Ow 58 5 h2 t (vs.map voL).flatten := a3.ow.keep fun x hx => u2.keep x (tlt x hx) fun f => a3.ne _ (List.getElem_mem cj) x hx f
      obtain ⟨b, h3, e1, e2, e3, e4⟩ := set_cell u2.wf ow2 cj 4 (by decide) (slv m2) rfl ({ vs[j].1 with mp := vs[j].1.mp ++ [bend] }, m2) rfl
      have pw := List.pairwise_iff_getElem.1 a3.di
      refine ⟨_, h3, ?_, e3.wf, ⟨e4.slr, fun a ha => ?_⟩, ⟨by rw [List.length_set]; exact B.n, fun a ha => ?_⟩⟩
      · rw [y1] at e1
        cases e1
        rw [show ((4 : Int) == Int.ofNat 0) = false from rfl, show ((4 : Int) == 1) = false from rfl, show ((4 : Int) == 2) = false from rfl, show ((4 : Int) == 3) = false from rfl, show ((4 : Int) == 4) = true from rfl, cond_false, cond_false, cond_false, cond_false, cond_true, y1]
        simp only [asP_ptr, Option.bind_some, fadd_at]
        rw [y3 4 (by decide), show asS ((voL vs[j])[4]?) = some vs[j].2 from asS_slv _]
        simp only [Option.bind_some]
        rw [u1]
        simp only [Option.bind_some]
        rw [show [Value.slice m2.a m2.n m2.c] = [slv m2] from rfl, e2]
        rfl
      · obtain ⟨e, he, rfl⟩ := List.mem_iff_getElem.1 ha
        rw [List.length_set] at he
        rw [List.getElem_set]
        by_cases z : j = e
        · rw [if_pos z]
          show SlR 1 h3 m2 (ivs (vs[j].1.mp ++ [bend]))
          exact (u3.keep fun x hx => e3.keep x (u3.lt u2.wf hx) fun f => (u4 x hx).elim (fun g => a3.ne _ (List.getElem_mem cj) x f g) fun g => by have := tlt x f; omega).slr
        · rw [if_neg z]
          have Me := a3.mp _ (List.getElem_mem he)
          have ap : Apart vs[j] vs[e] := by
            rcases Nat.lt_or_gt_of_ne z with g | g
            · exact pw j e cj he g
            · exact (pw e j he cj g).symm
          have M2 : Ow 3 1 h2 vs[e].2 (ivs vs[e].1.mp) := Me.keep fun x hx => u2.keep x (Me.lt a2.wf hx) fun f => ap x f hx
          exact (M2.keep fun x hx => e3.keep x (M2.lt u2.wf hx) fun f => a3.ne _ (List.getElem_mem he) x f hx).slr
      · rcases List.mem_or_eq_of_mem_set ha with z | z
        · exact B.nm a z
        · rw [z]
          refine ⟨hB.1, hB.2.1, ?_⟩
          show (vs[j].1.mp ++ [bend]).length ≤ 10000
          have := (mapLen (a5.ma _ (mem_vols cj))).1
          rw [List.length_append, List.length_singleton]
          omega
    · exact ⟨vs, h1, rfl, a2.wf, a3.read, B⟩
  obtain ⟨us, h2, j1, j2, j3, j4⟩ := JJ
  rw [j1]
  simp only [Option.bind_some, cond_true]
  obtain ⟨v, h3, b1, b2, b3⟩ := tright_f k hk j2 j3 j4
  rw [b1]
  simp only [Option.bind_some]
  obtain ⟨u, h4, c1, c2, c3⟩ := rtree_f k hk b2.wf (j3.stay j2 b2) j4
  rw [c1]
  simp only [Option.bind_some]
  have euv : v = u := by
    cases v with
    | true => exact (c3.2 (b3.1 rfl)).symm
    | false =>
      cases u with
      | true => exact b3.2 (c3.1 rfl)
      | false => rfl
  subst euv
  rw [show (v == v) = true by simp, cond_true]
  obtain ⟨nm, n1, n2⟩ := odd_f k bend [122, 122]
  have n2 : nm.length ≤ 13 := n2
  rw [show (⟨#[122, 122]⟩ : ByteArray) = ba [122, 122] from rfl, n1]
  simp only [Option.bind_some]
  obtain ⟨h5, d1, d2⟩ := isName_f k c2.wf nm (by omega)
  rw [d1]
  simp only [Option.bind_some]
  rw [n1]
  simp only [Option.bind_some]
  rw [rname_f k h5 nm (by omega) (by omega)]
  simp only [Option.bind_some]
  rw [show (isName nm == isName nm) = true by simp]
  exact ⟨h5, rfl⟩
theorem Pure.TreeActs : ∀ h x vs, Den.WF h → Den.Dead h → Ar.TreeActs.R h x vs → Ar.TreeActs.Q x → ∃ a, Den.encL [.sl, .int .i64] a = vs ∧ Den.toldB (Fwd.corbellaw18_TreeActs.f 281474976710656 a.1 a.2 h) = true := by
  rintro h ⟨l, m, _⟩ vs w _ ⟨va, vb, rfl, r1, vc, vd, rfl, r2, rfl⟩ ⟨⟨_, _, q⟩, _, _⟩
  obtain ⟨a, ys, rfl, A⟩ := Pure.actsV_arg (M := reachBytes) w r1 fun x hx => (q x hx).2.2.2.2.2
  obtain rfl := r2
  obtain ⟨h', e⟩ := Pure.acts_f 281474976710656 (by decide) (by decide) (by decide) w A m
  exact ⟨(a, m), rfl, (congrArg toldB e).trans rfl⟩
end Go.Proofs.Ytfenkpghcbohdaa
