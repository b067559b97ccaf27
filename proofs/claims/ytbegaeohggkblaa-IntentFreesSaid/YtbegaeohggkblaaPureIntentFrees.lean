/- IntentFrees: the law's forward run comes to true. -/
import Derived.Test.YtbegaeohggkblaaFwLive
import Derived.Test.YtbegaeohggkblaaArIntentFrees
namespace Go.Proofs.Ytbegaeohggkblaa
open Go Den Fwd Fw
set_option linter.unusedVariables false
set_option linter.unusedSimpArgs false
abbrev Frees.Tag := Int × Int × Int × List UInt8
abbrev Frees.Hv := Int × Fw.Id
def Frees.tagS (q : Sd) : Frees.Tag := (q.1.2.1, q.1.2.2.1, q.1.2.2.2.1, q.2)
def Frees.tagH (o : Frees.Hv) : Frees.Tag := (o.1, o.2.1.1, o.2.1.2.1, o.2.2)
/-! ### plain lists -/
theorem Frees.sorted_eq : ∀ (a b : List Frees.Tag), List.Perm a b → (a.Pairwise fun x y => x.1 < y.1) → (b.Pairwise fun x y => x.1 < y.1) → a = b
  | [], b, h, _, _ => (List.Perm.nil_eq h)
  | x :: a, [], h, _, _ => by have := h.length_eq; simp at this
  | x :: a, y :: b, h, ha, hb => by
    have ha' := List.pairwise_cons.1 ha
    have hb' := List.pairwise_cons.1 hb
    have e : x = y := by
      have h1 : x ∈ y :: b := h.mem_iff.1 List.mem_cons_self
      have h2 : y ∈ x :: a := h.mem_iff.2 List.mem_cons_self
      rcases List.mem_cons.1 h1 with e | e
      · exact e
      · rcases List.mem_cons.1 h2 with f | f
        · exact f.symm
        · have := hb'.1 x e
          have := ha'.1 y f
          omega
    subst e
    rw [Frees.sorted_eq a b (List.Perm.cons_inv h) ha'.2 hb'.2]
theorem Frees.set_tags {ss : List Sd} {j : Nat} (hj : j < ss.length) (hd : ss[j].1.1 = false) (q : Sd) (hq : liv q = true) : List.Perm (((ss.set j q).filter liv).map Frees.tagS) (Frees.tagS q :: (ss.filter liv).map Frees.tagS) := by
  have e1 : ss = ss.take j ++ ss[j] :: ss.drop (j + 1) := by rw [← List.drop_eq_getElem_cons hj, List.take_append_drop]
  have l : (ss.take j).length = j := by rw [List.length_take]; omega
  have e2 : ss.set j q = ss.take j ++ q :: ss.drop (j + 1) := by
    conv => lhs; rw [e1]
    rw [List.set_append_right _ _ (by omega), l, Nat.sub_self, List.set_cons_zero]
  have e3 : ss.filter liv = (ss.take j).filter liv ++ (ss.drop (j + 1)).filter liv := by
    conv => lhs; rw [e1]
    rw [List.filter_append, List.filter_cons_of_neg (by show ¬ (ss[j].1.1 = true); rw [hd]; decide)]
  rw [e2, e3, List.filter_append, List.filter_cons_of_pos hq, List.map_append, List.map_append, List.map_cons]
  exact List.perm_middle
theorem Frees.rel_liv (s g : Int) : ∀ ss : List Sd, (ss.map (relS s g)).filter liv = (ss.filter liv).filter fun q => !hit s g q
  | [] => rfl
  | q :: ss => by
    have ih := Frees.rel_liv s g ss
    rw [List.map_cons]
    cases hl : liv q with
    | false =>
      have hh : hit s g q = false := by unfold hit; rw [show q.1.1 = false from hl]; rfl
      rw [show relS s g q = q by unfold relS; rw [hh, if_neg (by decide)], List.filter_cons_of_neg (by rw [hl]; decide), List.filter_cons_of_neg (by rw [hl]; decide)]
      exact ih
    | true =>
      rw [List.filter_cons_of_pos (l := ss) hl]
      cases hh : hit s g q with
      | true =>
        rw [show relS s g q = zSd by unfold relS; rw [hh, if_pos rfl], List.filter_cons_of_neg (by decide), List.filter_cons_of_neg (by rw [hh]; decide)]
        exact ih
      | false =>
        rw [show relS s g q = q by unfold relS; rw [hh, if_neg (by decide)], List.filter_cons_of_pos hl, List.filter_cons_of_pos (by rw [hh]; rfl), ih]
theorem Frees.rel_cnt (s g : Int) : ∀ ss : List Sd, (ss.filter (hit s g)).length + ((ss.filter liv).filter fun q => !hit s g q).length = (ss.filter liv).length
  | [] => rfl
  | q :: ss => by
    have ih := Frees.rel_cnt s g ss
    cases hl : liv q with
    | false =>
      have hh : hit s g q = false := by unfold hit; rw [show q.1.1 = false from hl]; rfl
      rw [List.filter_cons_of_neg (by rw [hh]; decide), List.filter_cons_of_neg (by rw [hl]; decide)]
      exact ih
    | true =>
      rw [List.filter_cons_of_pos (p := liv) hl]
      cases hh : hit s g q with
      | true =>
        rw [List.filter_cons_of_pos hh, List.filter_cons_of_neg (by rw [hh]; decide), List.length_cons, List.length_cons]
        omega
      | false =>
        rw [List.filter_cons_of_neg (by rw [hh]; decide), List.filter_cons_of_pos (by rw [hh]; rfl), List.length_cons, List.length_cons]
        omega
def Frees.hitT (s g : Int) (t : Frees.Tag) : Bool := t.2.1 == s && t.2.2.1 == g
theorem Frees.rel_tags (s g : Int) (ss : List Sd) : ((ss.map (relS s g)).filter liv).map Frees.tagS = ((ss.filter liv).map Frees.tagS).filter fun t => !Frees.hitT s g t := by
  rw [Frees.rel_liv, List.filter_map]
  congr 1
  refine List.filter_congr fun q hq => ?_
  have hl : q.1.1 = true := (List.mem_filter.1 hq).2
  show (!hit s g q) = !Frees.hitT s g (Frees.tagS q)
  unfold hit
  rw [hl]; rfl
/-! ### the law's list and the ring -/
def Frees.Lk (ss : List Sd) (hv : List Frees.Hv) : Prop := List.Perm ((ss.filter liv).map Frees.tagS) (hv.map Frees.tagH)
theorem Frees.Lk.len {ss : List Sd} {hv : List Frees.Hv} (P : Frees.Lk ss hv) : (ss.filter liv).length = hv.length := by
  have := List.Perm.length_eq P
  rw [List.length_map, List.length_map] at this
  exact this
theorem Frees.Lk.mem {ss : List Sd} {hv : List Frees.Hv} (P : Frees.Lk ss hv) {q : Sd} (hq : q ∈ ss) (hl : q.1.1 = true) : ∃ o ∈ hv, Frees.tagH o = Frees.tagS q := by
  have h1 : Frees.tagS q ∈ hv.map Frees.tagH := (List.Perm.mem_iff P).1 (List.mem_map.2 ⟨q, List.mem_filter.2 ⟨hq, hl⟩, rfl⟩)
  obtain ⟨o, h2, h3⟩ := List.mem_map.1 h1
  exact ⟨o, h2, h3⟩
theorem Frees.Lk.dead {ss : List Sd} {hv : List Frees.Hv} (P : Frees.Lk ss hv) (hs : ss.length = 16) (hl : hv.length < 16) : ∃ q ∈ ss, q.1.1 = false := by
  refine Classical.byContradiction fun hn => ?_
  have : (ss.filter liv).length = ss.length := List.length_filter_eq_length_iff.2 fun q hq => by
    cases e : q.1.1 with
    | true => exact e
    | false => exact absurd ⟨q, hq, e⟩ hn
  rw [P.len] at this
  omega
theorem Frees.Lk.full {ss : List Sd} {hv : List Frees.Hv} (P : Frees.Lk ss hv) (hs : ss.length = 16) (hl : hv.length = 16) : ∀ q ∈ ss, q.1.1 = true := by
  have : (ss.filter liv).length = ss.length := by rw [P.len]; omega
  exact List.length_filter_eq_length_iff.1 this
theorem Frees.Lk.log {ss : List Sd} {hv : List Frees.Hv} (P : Frees.Lk ss hv) {j : Nat} (hj : j < ss.length) (hd : ss[j].1.1 = false) (next : Int) (c : It) (s' : Sl) (x : List UInt8) : Frees.Lk (ss.set j ((true, next, c.1, c.2.1, s'), x)) (hv ++ [(next, (c, x))]) := by
  have h1 := Frees.set_tags hj hd ((true, next, c.1, c.2.1, s'), x) rfl
  refine h1.trans ((List.Perm.cons _ P).trans ?_)
  rw [List.map_append]
  exact (List.perm_append_comm (l₁ := hv.map Frees.tagH) (l₂ := [Frees.tagH (next, (c, x))])).symm
theorem Frees.Lk.rel {ss : List Sd} {hv : List Frees.Hv} (P : Frees.Lk ss hv) (s g : Int) : Frees.Lk (ss.map (relS s g)) (hv.filter fun o => !Frees.hitT s g (Frees.tagH o)) ∧ (ss.filter (hit s g)).length + (hv.filter fun o => !Frees.hitT s g (Frees.tagH o)).length = hv.length := by
  have h1 : Frees.Lk (ss.map (relS s g)) (hv.filter fun o => !Frees.hitT s g (Frees.tagH o)) := by
    unfold Frees.Lk
    rw [Frees.rel_tags]
    have := List.Perm.filter (fun t => !Frees.hitT s g t) P
    rw [List.filter_map (l := hv)] at this
    exact this
  refine ⟨h1, ?_⟩
  have h2 := Frees.rel_cnt s g ss
  have h3 := h1.len
  rw [Frees.rel_liv] at h3
  rw [← h3, h2, P.len]
/-- what is known between the law's steps -/
structure Frees.St (h : H) (rb : Nat) (W : Nat → Prop) (ss : List Sd) (next : Int) (s : Sl) (hv : List Frees.Hv) : Prop where
  R : RingR h rb W ss next
  O : Ow 75 3 h s (ivL (hv.map (·.2)))
  nW : ∀ b, SlB s b → ¬ W b
  D : ∀ o ∈ hv, SlR 1 h o.2.1.2.2 (byt o.2.2) ∧ o.2.2.length = 128 ∧ ∀ b, SlB o.2.1.2.2 b → ¬ W b ∧ ¬ SlB s b
  P : Frees.Lk ss hv
  S : hv.Pairwise fun a b => a.1 < b.1
  N : ∀ o ∈ hv, 1 ≤ o.1 ∧ o.1 < next
theorem Frees.St.stay {h h' : H} (w : WF h) {rb : Nat} {W : Nat → Prop} {ss : List Sd} {next : Int} {s : Sl} {hv : List Frees.Hv} (T : Frees.St h rb W ss next s hv) (c : Ch0 h h') : Frees.St h' rb W ss next s hv :=
  ⟨T.R.stay c, T.O.stay w c, T.nW, fun o ho => ⟨(T.D o ho).1.stay w c, (T.D o ho).2⟩, T.P, T.S, T.N⟩
theorem Frees.one_f (k : Nat) (hk : 1000 < k) {h : H} (w : WF h) (a b n : Int) : ∃ sl x h', corbellaw9_one.f k a b n h = some ((a, b, sl), h') ∧ Ch0 h h' ∧ SlR 1 h' sl (byt x) ∧ x.length = 128 ∧ ∀ z, SlB sl z → h.next ≤ z := by
  unfold corbellaw9_one.f
  obtain ⟨y1, y2, y3⟩ := newR_ok w 75 3 (itL (0, 0, ⟨none, 0, 0⟩))
  rw [show [Value.int .i64 (0 : Int), Value.int .i64 (0 : Int), Value.slice none 0 0] = itL (0, 0, ⟨none, 0, 0⟩) from rfl]
  generalize newR h 75 3 (itL (0, 0, ⟨none, 0, 0⟩)) = g at y1 y2 y3 ⊢
  obtain ⟨d, x, h1, b1, b2, b3, b4, b5⟩ := hbytes_f k n 128 (by decide) (by omega) y1.wf
  rw [show (128 : Int) = Int.ofNat 128 from rfl, b1]
  simp only [Option.bind_some]
  obtain ⟨h2, u1, u2, u3, u4⟩ := Is.whole b2.wf (y3.stay y1.wf b2) rfl (itL (a, b, d)) rfl rfl
  rw [show [Value.int .i64 a, Value.int .i64 b, Value.slice d.a d.n d.c] = itL (a, b, d) from rfl, u1]
  simp only [Option.bind_some]
  rw [ldaIs (n := 3) u4 rfl, bindIt]
  have l := b2.le
  exact ⟨d, x, h2, rfl, Ch0.at (y1.then b2) u2 (Nat.le_refl _), b4.slr.keep fun z hz => u2.keep z (b4.lt b2.wf hz) (by have := b5 z hz; omega), b3, fun z hz => by have := b5 z hz; omega⟩
/-- pushed: one more in the law's list -/
theorem Frees.push {h : H} (w : WF h) {W : Nat → Prop} (hW : ∀ b, W b → b < h.next) {s : Sl} {hv : List Frees.Hv} (O : Ow 75 3 h s (ivL (hv.map (·.2)))) (nW : ∀ b, SlB s b → ¬ W b) (D : ∀ o ∈ hv, SlR 1 h o.2.1.2.2 (byt o.2.2) ∧ o.2.2.length = 128 ∧ ∀ b, SlB o.2.1.2.2 b → ¬ W b ∧ ¬ SlB s b) (o : Frees.Hv) (X : SlR 1 h o.2.1.2.2 (byt o.2.2)) (hx : o.2.2.length = 128) (hX : ∀ b, SlB o.2.1.2.2 b → ¬ W b ∧ ¬ SlB s b) (hl : hv.length ≤ 1000) :
    ∃ s' h', asS2 (apv 75 3 40 (Value.slice s.a s.n s.c) (Value.slice (some ⟨h.next, 0, none⟩) 1 1) (newR h 75 3 (itL o.2.1))) = some (s', h') ∧ Ch (SlB s) h h' ∧ Ow 75 3 h' s' (ivL ((hv ++ [o]).map (·.2))) ∧ (∀ b, SlB s' b → ¬ W b) ∧ (∀ b, SlB s' b → SlB s b ∨ h.next ≤ b) ∧ ∀ q ∈ hv ++ [o], SlR 1 h' q.2.1.2.2 (byt q.2.2) ∧ q.2.2.length = 128 ∧ ∀ b, SlB q.2.1.2.2 b → ¬ W b ∧ ¬ SlB s' b := by
  let g0 : H := h
  have D' : ∀ q ∈ hv.map (·.2), SlR 1 h q.1.2.2 (byt q.2) ∧ ∀ b, SlB q.1.2.2 b → ¬ SlB s b := fun q hq => by
    obtain ⟨o', ho, rfl⟩ := List.mem_map.1 hq
    exact ⟨(D o' ho).1, fun b hb => ((D o' ho).2.2 b hb).2⟩
  obtain ⟨y1, y2, y3⟩ := newR_ok w 75 3 (itL o.2.1)
  obtain ⟨s', h', d1, d2, d3, d4, d5⟩ := apv_ok (by_ := 40) y1.wf (O.stay w y1) (by decide) (SlR.of_is y3 (n := 1) rfl (by unfold unk; omega)) (by rw [(iv_at O.slr).1, List.length_map]; show (_ + 1) * 40 ≤ _; omega) (iv_one [o.2])
  have c2 : Ch (SlB s) h h' := (y1.mono fun _ _ f => f.elim).trans d2 fun _ _ f => f
  have kp : ∀ (q : Sl) (y : List UInt8), SlR 1 h q (byt y) → (∀ b, SlB q b → ¬ SlB s b) → SlR 1 h' q (byt y) ∧ ∀ b, SlB q b → ¬ SlB s' b := fun q y rq hq => ⟨rq.keep fun b hb => c2.keep b (rq.blk w hb) (hq b hb), fun b hb f => by
    rcases d5 b f with g | g
    · exact hq b hb g
    · have := rq.blk w hb; omega⟩
  refine ⟨s', h', d1, c2, by rw [List.map_append, iv_app]; exact d3, fun b hb f => ?_, fun b hb => (d5 b hb).imp id fun f => by omega, fun q hq => ?_⟩
  · rcases d5 b hb with g | g
    · exact nW b g f
    · have := hW b f; omega
  · rcases List.mem_append.1 hq with e | e
    · obtain ⟨t1, t2, t3⟩ := D q e
      obtain ⟨u1, u2⟩ := kp _ _ t1 fun b hb => (t3 b hb).2
      exact ⟨u1, t2, fun b hb => ⟨(t3 b hb).1, u2 b hb⟩⟩
    · obtain rfl := List.mem_singleton.1 e
      obtain ⟨u1, u2⟩ := kp _ _ X fun b hb => (hX b hb).2
      exact ⟨u1, hx, fun b hb => ⟨(hX b hb).1, u2 b hb⟩⟩
theorem Frees.ring_push {h h' : H} {rb : Nat} {W : Nat → Prop} {ss : List Sd} {next : Int} {s : Sl} (R : RingR h rb W ss next) (c : Ch (SlB s) h h') (nW : ∀ b, SlB s b → ¬ W b) : RingR h' rb W ss next := R.keep c nW
/-- a step of the ring keeps what is the law's -/
theorem Frees.St.step {h h' : H} (w : WF h) {rb : Nat} {W W' : Nat → Prop} {ss ss' : List Sd} {next next' : Int} {s : Sl} {hv hv' : List Frees.Hv} (O : Ow 75 3 h s (ivL (hv.map (·.2)))) (nW : ∀ b, SlB s b → ¬ W b) (D : ∀ o ∈ hv, SlR 1 h o.2.1.2.2 (byt o.2.2) ∧ o.2.2.length = 128 ∧ ∀ b, SlB o.2.1.2.2 b → ¬ W b ∧ ¬ SlB s b) (c : Ch W h h') (R : RingR h' rb W' ss' next') (hW : ∀ b, W' b → W b ∨ h.next ≤ b) (P : Frees.Lk ss' hv) (S : hv.Pairwise fun a b => a.1 < b.1) (N : ∀ o ∈ hv, 1 ≤ o.1 ∧ o.1 < next') : Frees.St h' rb W' ss' next' s hv := by
  refine ⟨R, O.keep fun b hb => c.keep b (O.lt w hb) (nW b hb), fun b hb f => ?_, fun o ho => ?_, P, S, N⟩
  · rcases hW b f with g | g
    · exact nW b hb g
    · have := O.lt w hb; omega
  · obtain ⟨t1, t2, t3⟩ := D o ho
    refine ⟨t1.keep fun b hb => c.keep b (t1.blk w hb) (t3 b hb).1, t2, fun b hb => ⟨fun f => ?_, (t3 b hb).2⟩⟩
    rcases hW b f with g | g
    · exact (t3 b hb).1 g
    · have := t1.blk w hb; omega
/-- sixteen are logged -/
theorem Frees.fill_l0 (k : Nat) (hk : 2000 < k) (x8 : Sl) (x9 : Int) {rb : Nat} {h0 : H} : ∀ n i h W ss (s : Sl) hv, 16 - i < n → i ≤ 16 → Ch0 h0 h → Frees.St h rb W ss (Int.ofNat (i + 1)) s hv → hv.length = i → (∀ o ∈ hv, o.2.1.2.1 = 3 ∧ o.2.1.1 < Int.ofNat i) → (∀ b, W b → h0.next ≤ b) → (∀ b, SlB s b → h0.next ≤ b) →
    ∃ s' W' ss' hv' h', corbellaw9_IntentFrees.l0 k n x8 x9 (some ⟨rb, 0, none⟩) s (Int.ofNat i) h = some (.inr s', h') ∧ Ch0 h0 h' ∧ Frees.St h' rb W' ss' 17 s' hv' ∧ hv'.length = 16 ∧ (∀ o ∈ hv', o.2.1.2.1 = 3 ∧ o.2.1.1 < 16) ∧ (∀ b, W' b → h0.next ≤ b) ∧ ∀ b, SlB s' b → h0.next ≤ b
  | 0, i, h, W, ss, s, hv, hn, _, _, _, _, _, _, _ => by omega
  | n + 1, i, h, W, ss, s, hv, hn, hi, C, T, hl, hg, hW, hS => by
    rw [corbellaw9_IntentFrees.l0_succ]
    have w := C.wf
    by_cases e : i < 16
    · rw [decide_eq_true (show Int.ofNat i < (16 : Int) by simp only [Int.ofNat_eq_natCast]; omega), cond_true]
      obtain ⟨sl, x, h1, a1, a2, a3, a4, a5⟩ := Frees.one_f k (by omega) w (Int.ofNat i) 3 (Int.ofNat i)
      rw [a1]
      simp only [Option.bind_some]
      have T1 := T.stay w a2
      have slW : ∀ b, SlB sl b → ¬ W b ∧ ¬ SlB s b := fun b hb => ⟨fun f => by have := T.R.wlt b f; have := a5 b hb; omega, fun f => by have := T.O.lt w f; have := a5 b hb; omega⟩
      obtain ⟨s2, h2, b1, b2, b3, b4, b6, b5⟩ := Frees.push a2.wf T1.R.wlt T1.O T1.nW T1.D (Int.ofNat (i + 1), ((Int.ofNat i, 3, sl), x)) a3 a4 slW (by omega)
      rw [show [Value.int .i64 (Int.ofNat i), Value.int .i64 (3 : Int), Value.slice sl.a sl.n sl.c] = itL (Int.ofNat i, 3, sl) from rfl, b1]
      simp only [Option.bind_some]
      have R2 := Frees.ring_push T1.R b2 T1.nW
      have hl2 : (hv ++ [((Int.ofNat (i + 1), ((Int.ofNat i, 3, sl), x)) : Frees.Hv)]).length = i + 1 := by rw [List.length_append]; simp only [List.length_cons, List.length_nil]; omega
      obtain ⟨g1, g2⟩ := iv_at b3.slr
      obtain ⟨bb, oo, c1, c2⟩ := g2 i (by rw [List.length_map, hl2]; omega)
      rw [c1]
      simp only [asP_ptr, Option.bind_some]
      have hget : ((hv ++ [((Int.ofNat (i + 1), ((Int.ofNat i, 3, sl), x)) : Frees.Hv)]).map (·.2))[i]'(by rw [List.length_map, hl2]; omega) = ((Int.ofNat i, 3, sl), x) := by
        rw [List.getElem_map, List.getElem_append_right (by omega)]
        simp only [hl, Nat.sub_self, List.getElem_cons_zero]
      rw [hget] at c2
      rw [c2, bindIt]
      dsimp only
      have X2 := (b5 _ (List.mem_append_right hv (List.mem_singleton.2 rfl))).1
      obtain ⟨j, W3, s3, h3, d1, ⟨hj, hdj⟩, d3, d4, d5⟩ := log_f k (by omega) b2.wf R2 (Int.ofNat i, 3, sl) (x := x) X2 a4 (fun b hb => (slW b hb).1) (by simp only [Int.ofNat_eq_natCast]; omega) (by simp only [Int.ofNat_eq_natCast]; omega) (show (1 : Int) ≤ 3 by decide) (show (3 : Int) ≤ 1000 by decide) (by simp only [Int.ofNat_eq_natCast]; omega) (by simp only [Int.ofNat_eq_natCast]; omega) (fun q hq hlq f => by
        obtain ⟨o, ho, ht⟩ := T.P.mem hq hlq
        have h5 : o.2.1.1 = q.1.2.2.1 := congrArg (fun t : Frees.Tag => t.2.1) ht
        have := (hg o ho).2
        rw [h5, f.1] at this
        omega) (T.P.dead T.R.len (by omega))
      dsimp only at d1
      rw [d1]
      simp only [Option.bind_some]
      rw [show ((0 : Int) != 0) = false from rfl]
      simp only [cond_false]
      rw [wrap_succ (by omega)]
      have l1 := a2.le
      have l2 := b2.le
      have lC := C.le
      have T3 : Frees.St h3 rb W3 (ss.set j ((true, Int.ofNat (i + 1), Int.ofNat i, 3, s3), x)) (Int.ofNat (i + 1 + 1)) s2 (hv ++ [((Int.ofNat (i + 1), ((Int.ofNat i, 3, sl), x)) : Frees.Hv)]) := by
        refine Frees.St.step (hv' := hv) (ss := ss) (next := 0) b2.wf b3 b4 b5 d3 d4 d5 (Frees.Lk.log T.P hj hdj (Int.ofNat (i + 1)) (Int.ofNat i, 3, sl) s3 x) ?_ fun o ho => ?_
        · refine List.pairwise_append.2 ⟨T.S, List.pairwise_singleton _ _, fun a ha b hb => ?_⟩
          obtain rfl := List.mem_singleton.1 hb
          exact (T.N a ha).2
        · rcases List.mem_append.1 ho with g | g
          · have := T.N o g
            simp only [Int.ofNat_eq_natCast] at this ⊢
            omega
          · obtain rfl := List.mem_singleton.1 g
            simp only [Int.ofNat_eq_natCast]
            omega
      have C2 : Ch0 h0 h2 := Ch0.own (C.then a2) b2 hS
      refine Frees.fill_l0 k hk x8 x9 n (i + 1) h3 W3 _ s2 _ (by omega) (by omega) (C2.trans d3 fun b hb f => by have := hW b f; omega) T3 hl2 (fun o ho => ?_) (fun b f => ?_) (fun b f => ?_)
      · rcases List.mem_append.1 ho with g | g
        · have := hg o g
          simp only [Int.ofNat_eq_natCast] at this ⊢
          omega
        · obtain rfl := List.mem_singleton.1 g
          exact ⟨rfl, show Int.ofNat i < Int.ofNat (i + 1) by simp only [Int.ofNat_eq_natCast]; omega⟩
      · rcases d5 b f with g | g
        · exact hW b g
        · omega
      · rcases b6 b f with g | g
        · exact hS b g
        · omega
    · rw [decide_eq_false (show ¬ Int.ofNat i < (16 : Int) by simp only [Int.ofNat_eq_natCast]; omega), cond_false]
      have : i = 16 := by omega
      subst this
      exact ⟨s, W, ss, hv, h, rfl, C, T, hl, hg, hW, hS⟩
/-- the law's own list, less a stripe -/
theorem Frees.left_l2 (k : Nat) (x34 : Sl) (x35 : Int) (x36 : Option Addr) (x37 : Sl) (x38 x39 x41 : Int) (v : Int) {h0 : H} (w0 : WF h0) {W : Nat → Prop} (hW : ∀ b, W b → b < h0.next) {s : Sl} {hv : List Frees.Hv} (O : Ow 75 3 h0 s (ivL (hv.map (·.2)))) (D : ∀ o ∈ hv, SlR 1 h0 o.2.1.2.2 (byt o.2.2) ∧ o.2.2.length = 128 ∧ ∀ b, SlB o.2.1.2.2 b → ¬ W b ∧ ¬ SlB s b) (hl : hv.length ≤ 16) : ∀ n i h (t : Sl), hv.length - i < n → i ≤ hv.length → Ch0 h0 h → Ow 75 3 h t (ivL (((hv.take i).filter fun o => o.2.1.1 != v).map (·.2))) → (∀ b, SlB t b → h0.next ≤ b) →
    ∃ t' h', corbellaw9_IntentFrees.l2 k n x34 x35 x36 x37 x38 x39 v x41 s (Int.ofNat hv.length) t (Int.ofNat i) h = some (t', h') ∧ Ch0 h0 h' ∧ Ow 75 3 h' t' (ivL ((hv.filter fun o => o.2.1.1 != v).map (·.2))) ∧ ∀ b, SlB t' b → h0.next ≤ b
  | 0, i, h, t, hn, _, _, _, _ => by omega
  | n + 1, i, h, t, hn, hi, C, Ot, fr => by
    rw [corbellaw9_IntentFrees.l2_succ]
    by_cases c : i < hv.length
    · rw [decLt c, cond_true]
      obtain ⟨g1, g2⟩ := iv_at (O.stay w0 C).slr
      obtain ⟨bb, oo, c1, c2⟩ := g2 i (by rw [List.length_map]; exact c)
      rw [List.getElem_map] at c2
      rw [c1]
      simp only [asP_ptr, Option.bind_some]
      rw [c2, bindIt]
      dsimp only
      generalize hq : hv[i] = o at c2
      rw [show [Value.int .i64 o.2.1.1, Value.int .i64 o.2.1.2.1, Value.slice o.2.1.2.2.a o.2.1.2.2.n o.2.1.2.2.c] = itL o.2.1 from rfl]
      obtain ⟨h1, b1, b2, b3, b4⟩ := box_ok C.wf 75 3 [Value.int .i64 (0 : Int), Value.int .i64 (0 : Int), Value.slice none 0 0] (itL o.2.1) rfl rfl rfl
      rw [b1]
      simp only [Option.bind_some]
      rw [b4.ldc, show asI .i64 ((itL o.2.1)[0]?) = some o.2.1.1 from asI_int _ _]
      simp only [Option.bind_some]
      have c3 := C.then b2
      have O1 := Ot.stay C.wf b2
      have tk : (hv.take (i + 1)).filter (fun o => o.2.1.1 != v) = (hv.take i).filter (fun o => o.2.1.1 != v) ++ (if o.2.1.1 != v then [o] else []) := by
        rw [List.take_add_one, List.getElem?_eq_getElem c, hq, List.filter_append]
        congr 1
        show List.filter _ [o] = _
        cases hz : (o.2.1.1 != v) with
        | true => rw [List.filter_cons_of_pos (by exact hz)]; rfl
        | false => rw [List.filter_cons_of_neg (by rw [hz]; decide)]; rfl
      cases hz : (o.2.1.1 != v) with
      | true =>
        simp only [cond_true]
        rw [ldaIs (n := 3) b4 rfl, bindIt]
        dsimp only
        rw [show [Value.int .i64 o.2.1.1, Value.int .i64 o.2.1.2.1, Value.slice o.2.1.2.2.a o.2.1.2.2.n o.2.1.2.2.c] = itL o.2.1 from rfl]
        obtain ⟨y1, y2, y3⟩ := newR_ok b2.wf 75 3 (itL o.2.1)
        have fl : ((hv.take i).filter fun o => o.2.1.1 != v).length ≤ 16 := by
          have := List.length_filter_le (fun o : Frees.Hv => o.2.1.1 != v) (hv.take i)
          rw [List.length_take] at this
          omega
        obtain ⟨s', h2, d1, d2, d3, d4, d5⟩ := apv_ok (by_ := 40) y1.wf (O1.stay b2.wf y1) (by decide) (SlR.of_is y3 (n := 1) rfl (by unfold unk; omega)) (by rw [(iv_at O1.slr).1, List.length_map]; show (_ + 1) * 40 ≤ _; omega) (iv_one [o.2])
        rw [d1]
        simp only [Option.bind_some]
        rw [wrap_succ (by omega)]
        have c4 := c3.then y1
        rw [hz, if_pos rfl] at tk
        refine Frees.left_l2 k x34 x35 x36 x37 x38 x39 x41 v w0 hW O D hl n (i + 1) h2 s' (by omega) (by omega) (Ch0.own c4 d2 fr) ?_ (fun b hb => (d5 b hb).elim (fr b) fun f => by have := c4.le; omega)
        rw [tk, List.map_append, iv_app]; exact d3
      | false =>
        simp only [cond_false, Option.bind_some]
        rw [wrap_succ (by omega)]
        rw [hz, if_neg (by decide), List.append_nil] at tk
        exact Frees.left_l2 k x34 x35 x36 x37 x38 x39 x41 v w0 hW O D hl n (i + 1) h1 t (by omega) (by omega) c3 (by rw [tk]; exact O1) fr
    · rw [decNlt c, cond_false]
      rw [List.take_of_length_le (by omega)] at Ot
      exact ⟨t, h, rfl, C, Ot, fr⟩
/-- released, again and again -/
theorem Frees.rel_l1 (k : Nat) (hk : 2000 < k) {which : Sl} {Lw : List Int} {h0 : H} (w0 : WF h0) (Rw : SlR 1 h0 which (ivs Lw)) (hLw : which.n = Lw.length) (x23 : Int) {rb : Nat} {W : Nat → Prop} (hW : ∀ b, W b → h0.next ≤ b) : ∀ n i h ss (s : Sl) hv G, 20 - i < n → i ≤ 20 → Ch0 h0 h → Frees.St h rb W ss 17 s hv → G + hv.length = 16 → (∀ o ∈ hv, o.2.1.2.1 = 3 ∧ o.2.1.1 < 16) → (∀ b, SlB s b → h0.next ≤ b) →
    ∃ s' ss' hv' G' h', corbellaw9_IntentFrees.l1 k n which x23 (some ⟨rb, 0, none⟩) s (Int.ofNat G) (Int.ofNat i) h = some (.inr (s', Int.ofNat G'), h') ∧ Ch0 h0 h' ∧ Frees.St h' rb W ss' 17 s' hv' ∧ G' + hv'.length = 16 ∧ (∀ o ∈ hv', o.2.1.2.1 = 3 ∧ o.2.1.1 < 16) ∧ ∀ b, SlB s' b → h0.next ≤ b
  | 0, i, h, ss, s, hv, G, hn, _, _, _, _, _, _ => by omega
  | n + 1, i, h, ss, s, hv, G, hn, hi, C, T, hG, hg, hS => by
    rw [corbellaw9_IntentFrees.l1_succ]
    have w := C.wf
    by_cases c : i < Lw.length ∧ i < 20
    · rw [hLw, decide_eq_true (show Int.ofNat i < Int.ofNat Lw.length by simp only [Int.ofNat_eq_natCast]; omega), decide_eq_true (show Int.ofNat i < (20 : Int) by simp only [Int.ofNat_eq_natCast]; omega)]
      simp only [cond_true, Option.bind_some]
      obtain ⟨p, e1, e2⟩ := (Rw.stay w0 C).elem1 (j := i) (by rw [hLw]; exact c.1)
      rw [hLw] at e1
      rw [e1]
      simp only [asP_ptr, Option.bind_some]
      rw [e2, ivs_get, List.getElem?_eq_getElem c.1]
      simp only [Option.map_some, asI_int, Option.bind_some]
      rw [pick_f k _ 18 h (by decide) (by decide)]
      simp only [Option.bind_some]
      generalize Lw[i] % 18 = v
      obtain ⟨h1, a1, a2, a3⟩ := rel_f k (by omega) w T.R v 3
      rw [a1]
      simp only [Option.bind_some]
      obtain ⟨L1, L2⟩ := T.P.rel v 3
      have hf : (hv.filter fun o => !Frees.hitT v 3 (Frees.tagH o)) = hv.filter fun o => o.2.1.1 != v := List.filter_congr fun o ho => by
        unfold Frees.hitT
        show (!(o.2.1.1 == v && o.2.1.2.1 == 3)) = _
        rw [(hg o ho).1]
        cases hz : (o.2.1.1 == v) <;> simp [bne, hz]
      rw [hf] at L1 L2
      have sub : ∀ o ∈ hv.filter (fun o => o.2.1.1 != v), o ∈ hv := fun o ho => (List.mem_filter.1 ho).1
      have T1 : Frees.St h1 rb W (ss.map (relS v 3)) 17 s hv → True := fun _ => trivial
      have O1 : Ow 75 3 h1 s (ivL (hv.map (·.2))) := T.O.keep fun b hb => a2.keep b (T.O.lt w hb) (T.nW b hb)
      have D1 : ∀ o ∈ hv, SlR 1 h1 o.2.1.2.2 (byt o.2.2) ∧ o.2.2.length = 128 ∧ ∀ b, SlB o.2.1.2.2 b → ¬ W b ∧ ¬ SlB s b := fun o ho => by
        obtain ⟨t1, t2, t3⟩ := T.D o ho
        exact ⟨t1.keep fun b hb => a2.keep b (t1.blk w hb) (t3 b hb).1, t2, t3⟩
      have hsn : s.n = hv.length := by rw [(iv_at O1.slr).1, List.length_map]
      obtain ⟨t', h2, b1, b2, b3, b4⟩ := Frees.left_l2 k which x23 (some ⟨rb, 0, none⟩) s (Int.ofNat G) (Int.ofNat i) (Int.ofNat (ss.filter (hit v 3)).length) v a2.wf a3.wlt O1 D1 (by omega) k 0 h1 ⟨none, 0, 0⟩ (by omega) (Nat.zero_le _) (Ch.refl a2.wf) Ow.nil (fun b hb => by obtain ⟨o, q⟩ := hb; cases q)
      rw [hsn, show (0 : Int) = Int.ofNat 0 from rfl, b1]
      simp only [Option.bind_some]
      have htn : t'.n = (hv.filter fun o => o.2.1.1 != v).length := by rw [(iv_at b3.slr).1, List.length_map]
      rw [htn]
      generalize hhv : hv.filter (fun o => o.2.1.1 != v) = hv' at L1 L2 b3 sub htn ⊢
      generalize (ss.filter (hit v 3)).length = N at L2 ⊢
      rw [wrap_in (n := Int.ofNat hv.length - Int.ofNat hv'.length) (by simp only [Int.ofNat_eq_natCast]; omega) (by simp only [Int.ofNat_eq_natCast]; omega), show Int.ofNat hv.length - Int.ofNat hv'.length = Int.ofNat N by simp only [Int.ofNat_eq_natCast]; omega, show (Int.ofNat N != Int.ofNat N) = false by simp]
      simp only [cond_false]
      have R2 := a3.stay b2
      have tW : ∀ b, SlB t' b → ¬ W b := fun b hb f => by have := b4 b hb; have := a3.wlt b f; omega
      have D2 : ∀ o ∈ hv', SlR 1 h2 o.2.1.2.2 (byt o.2.2) ∧ o.2.2.length = 128 ∧ ∀ b, SlB o.2.1.2.2 b → ¬ W b ∧ ¬ SlB t' b := fun o ho => by
        obtain ⟨t1, t2, t3⟩ := D1 o (sub o ho)
        exact ⟨t1.stay a2.wf b2, t2, fun b hb => ⟨(t3 b hb).1, fun f => by have := b4 b f; have := t1.blk a2.wf hb; omega⟩⟩
      obtain ⟨h3, d1, d2, d3⟩ := rel_f k (by omega) b2.wf R2 v 2
      rw [d1]
      simp only [Option.bind_some]
      obtain ⟨L3, L4⟩ := L1.rel v 2
      have hf2 : (hv'.filter fun o => !Frees.hitT v 2 (Frees.tagH o)) = hv' := List.filter_eq_self.2 fun o ho => by
        unfold Frees.hitT
        show (!(o.2.1.1 == v && o.2.1.2.1 == 2)) = true
        rw [(hg o (sub o ho)).1, show ((3 : Int) == 2) = false from rfl, Bool.and_false]; rfl
      rw [hf2] at L3 L4
      have z : ((ss.map (relS v 3)).filter (hit v 2)).length = 0 := by omega
      rw [z, show (Int.ofNat 0 != Int.ofNat 0) = false from rfl]
      simp only [cond_false]
      have lh := T.R.wlt
      rw [wrap_in (n := Int.ofNat G + Int.ofNat N) (by simp only [Int.ofNat_eq_natCast]; omega) (by simp only [Int.ofNat_eq_natCast]; omega), show Int.ofNat G + Int.ofNat N = Int.ofNat (G + N) from rfl, wrap_succ (by omega)]
      have l0 := C.le
      have l1 := a2.le
      have T3 : Frees.St h3 rb W ((ss.map (relS v 3)).map (relS v 2)) 17 t' hv' := Frees.St.step (hv' := hv) (ss := ss) (next := 0) b2.wf b3 tW D2 d2 d3 (fun b f => .inl f) L3 (by rw [← hhv]; exact T.S.filter _) fun o ho => T.N o (sub o ho)
      have C3 : Ch0 h0 h3 := ((C.trans a2 fun b hb f => by have := hW b f; omega).then b2).trans d2 fun b hb f => by have := hW b f; omega
      exact Frees.rel_l1 k hk w0 Rw hLw x23 hW n (i + 1) h3 _ t' hv' (G + N) (by omega) (by omega) C3 T3 (by omega) (fun o ho => hg o (sub o ho)) (fun b hb => by have := b4 b hb; omega)
    · have : (cond (decide (Int.ofNat i < Int.ofNat which.n)) (some (decide (Int.ofNat i < (20 : Int)), h)) (some (false, h)) : Option (Bool × H)) = some (false, h) := by
        rw [hLw]
        by_cases d : i < Lw.length
        · rw [decide_eq_true (show Int.ofNat i < Int.ofNat Lw.length by simp only [Int.ofNat_eq_natCast]; omega), decide_eq_false (show ¬ Int.ofNat i < (20 : Int) by simp only [Int.ofNat_eq_natCast]; omega)]; rfl
        · rw [decide_eq_false (show ¬ Int.ofNat i < Int.ofNat Lw.length by simp only [Int.ofNat_eq_natCast]; omega)]; rfl
      rw [this]
      exact ⟨s, ss, hv, G, h, rfl, C, T, hG, hg, hS⟩
/-- as many more -/
theorem Frees.more_l3 (k : Nat) (hk : 2000 < k) (more : Int) {rb : Nat} {h0 : H} (G : Nat) (hG16 : G ≤ 16) : ∀ n i h W ss (s : Sl) hv, G - i < n → i ≤ G → Ch0 h0 h → Frees.St h rb W ss (Int.ofNat (17 + i)) s hv → hv.length + G = 16 + i → (∀ o ∈ hv, (o.2.1.2.1 = 3 ∧ o.2.1.1 < 16) ∨ (o.2.1.2.1 = 4 ∧ o.2.1.1 < Int.ofNat (20 + i))) → (∀ b, W b → h0.next ≤ b) → (∀ b, SlB s b → h0.next ≤ b) →
    ∃ s' W' ss' hv' h', corbellaw9_IntentFrees.l3 k n more (some ⟨rb, 0, none⟩) (Int.ofNat G) s (Int.ofNat i) h = some (.inr s', h') ∧ Ch0 h0 h' ∧ Frees.St h' rb W' ss' (Int.ofNat (17 + G)) s' hv' ∧ hv'.length = 16 ∧ (∀ o ∈ hv', o.2.1.2.1 = 3 ∨ o.2.1.2.1 = 4) ∧ (∀ b, W' b → h0.next ≤ b) ∧ ∀ b, SlB s' b → h0.next ≤ b
  | 0, i, h, W, ss, s, hv, hn, _, _, _, _, _, _, _ => by omega
  | n + 1, i, h, W, ss, s, hv, hn, hi, C, T, hl, hg, hW, hS => by
    rw [corbellaw9_IntentFrees.l3_succ]
    have w := C.wf
    by_cases e : i < G
    · rw [decLt e, cond_true]
      rw [wrap_in (n := (20 : Int) + Int.ofNat i) (by simp only [Int.ofNat_eq_natCast]; omega) (by simp only [Int.ofNat_eq_natCast]; omega), show (20 : Int) + Int.ofNat i = Int.ofNat (20 + i) from rfl]
      generalize wrapA .i64 (more + Int.ofNat i) = seed
      obtain ⟨sl, x, h1, a1, a2, a3, a4, a5⟩ := Frees.one_f k (by omega) w (Int.ofNat (20 + i)) 4 seed
      rw [a1]
      simp only [Option.bind_some]
      rw [show [Value.int .i64 (Int.ofNat (20 + i)), Value.int .i64 (4 : Int), Value.slice sl.a sl.n sl.c] = itL (Int.ofNat (20 + i), 4, sl) from rfl]
      obtain ⟨h2, b1, b2, b3, b4⟩ := box_ok a2.wf 75 3 [Value.int .i64 (0 : Int), Value.int .i64 (0 : Int), Value.slice none 0 0] (itL (Int.ofNat (20 + i), 4, sl)) rfl rfl rfl
      rw [b1]
      simp only [Option.bind_some]
      rw [ldaIs (n := 3) b4 rfl, bindIt]
      dsimp only
      have c12 := a2.then b2
      have T2 := T.stay w c12
      have lh := a2.le
      have slW : ∀ b, SlB sl b → ¬ W b ∧ ¬ SlB s b := fun b hb => ⟨fun f => by have := T.R.wlt b f; have := a5 b hb; omega, fun f => by have := T.O.lt w f; have := a5 b hb; omega⟩
      obtain ⟨j, W3, s3, h3, d1, ⟨hj, hdj⟩, d3, d4, d5⟩ := log_f k (by omega) b2.wf T2.R (Int.ofNat (20 + i), 4, sl) (x := x) (a3.stay a2.wf b2) a4 (fun b hb => (slW b hb).1) (by simp only [Int.ofNat_eq_natCast]; omega) (by simp only [Int.ofNat_eq_natCast]; omega) (show (1 : Int) ≤ 4 by decide) (show (4 : Int) ≤ 1000 by decide) (by simp only [Int.ofNat_eq_natCast]; omega) (by simp only [Int.ofNat_eq_natCast]; omega) (fun q hq hlq f => by
        obtain ⟨o, ho, ht⟩ := T.P.mem hq hlq
        have h5 : o.2.1.1 = q.1.2.2.1 := congrArg (fun t : Frees.Tag => t.2.1) ht
        have h6 : o.2.1.2.1 = q.1.2.2.2.1 := congrArg (fun t : Frees.Tag => t.2.2.1) ht
        have f1 : q.1.2.2.1 = Int.ofNat (20 + i) := f.1
        have f2 : q.1.2.2.2.1 = 4 := f.2
        rcases hg o ho with g | g
        · rw [h6, f2] at g
          exact absurd g.1 (by decide)
        · rw [h5, f1] at g
          omega) (T.P.dead T.R.len (by omega))
      dsimp only at d1
      rw [d1]
      simp only [Option.bind_some]
      rw [show ((0 : Int) != 0) = false from rfl]
      simp only [cond_false]
      have hbW : ¬ W h1.next := fun f => by have := T.R.wlt _ f; omega
      have B3 : Is h3 h1.next 75 3 (itL (Int.ofNat (20 + i), 4, sl)) := b4.keep (d3.keep h1.next (b4.lt b2.wf) hbW)
      rw [ldaIs (n := 3) B3 rfl, bindIt]
      dsimp only
      have O3 : Ow 75 3 h3 s (ivL (hv.map (·.2))) := T2.O.keep fun b hb => d3.keep b (T2.O.lt b2.wf hb) (T2.nW b hb)
      have X2 := a3.stay a2.wf b2
      have X3 : SlR 1 h3 sl (byt x) := X2.keep fun b hb => d3.keep b (X2.blk b2.wf hb) (slW b hb).1
      have W3l : ∀ b, SlB s b → ¬ W3 b := fun b hb f => by
        rcases d5 b f with g | g
        · exact T2.nW b hb g
        · have := T2.O.lt b2.wf hb; omega
      have D3 : ∀ o ∈ hv, SlR 1 h3 o.2.1.2.2 (byt o.2.2) ∧ o.2.2.length = 128 ∧ ∀ b, SlB o.2.1.2.2 b → ¬ W3 b ∧ ¬ SlB s b := fun o ho => by
        obtain ⟨t1, t2, t3⟩ := T2.D o ho
        refine ⟨t1.keep fun b hb => d3.keep b (t1.blk b2.wf hb) (t3 b hb).1, t2, fun b hb => ⟨fun f => ?_, (t3 b hb).2⟩⟩
        rcases d5 b f with g | g
        · exact (t3 b hb).1 g
        · have := t1.blk b2.wf hb; omega
      obtain ⟨s4, h4, f1, f2, f3, f4, f6, f5⟩ := Frees.push d3.wf d4.wlt O3 W3l D3 (Int.ofNat (17 + i), ((Int.ofNat (20 + i), 4, sl), x)) X3 a4 (fun b hb => ⟨fun f => by
        rcases d5 b f with g | g
        · exact (slW b hb).1 g
        · have := X2.blk b2.wf hb; omega, (slW b hb).2⟩) (by omega)
      rw [show [Value.int .i64 (Int.ofNat (20 + i)), Value.int .i64 (4 : Int), Value.slice sl.a sl.n sl.c] = itL (Int.ofNat (20 + i), 4, sl) from rfl, f1]
      simp only [Option.bind_some]
      rw [wrap_succ (by omega)]
      have l2 := b2.le
      have l3 := d3.le
      have lC := C.le
      have C3 : Ch0 h0 h3 := (C.then c12).trans d3 fun b hb f => by have := hW b f; omega
      refine Frees.more_l3 k hk more G hG16 n (i + 1) h4 W3 _ s4 (hv ++ [((Int.ofNat (17 + i), ((Int.ofNat (20 + i), 4, sl), x)) : Frees.Hv)]) (by omega) (by omega) (Ch0.own C3 f2 hS) ⟨?_, f3, f4, f5, Frees.Lk.log T.P hj hdj (Int.ofNat (17 + i)) (Int.ofNat (20 + i), 4, sl) s3 x, ?_, fun o ho => ?_⟩ (by rw [List.length_append]; simp only [List.length_cons, List.length_nil]; omega) (fun o ho => ?_) (fun b f => ?_) (fun b f => ?_)
      · exact Frees.ring_push d4 f2 W3l
      · refine List.pairwise_append.2 ⟨T.S, List.pairwise_singleton _ _, fun a ha b hb => ?_⟩
        obtain rfl := List.mem_singleton.1 hb
        exact (T.N a ha).2
      · rcases List.mem_append.1 ho with g | g
        · have := T.N o g
          simp only [Int.ofNat_eq_natCast] at this ⊢
          omega
        · obtain rfl := List.mem_singleton.1 g
          simp only [Int.ofNat_eq_natCast]
          omega
      · rcases List.mem_append.1 ho with g | g
        · rcases hg o g with z | z
          · exact .inl z
          · refine .inr ⟨z.1, ?_⟩
            have := z.2
            simp only [Int.ofNat_eq_natCast] at this ⊢
            omega
        · obtain rfl := List.mem_singleton.1 g
          refine .inr ⟨rfl, ?_⟩
          simp only [Int.ofNat_eq_natCast]
          omega
      · rcases d5 b f with g | g
        · exact hW b g
        · omega
      · rcases f6 b f with g | g
        · exact hS b g
        · omega
    · rw [decNlt e, cond_false]
      have : i = G := by omega
      subst this
      exact ⟨s, W, ss, hv, h, rfl, C, T, by omega, fun o ho => (hg o ho).imp (fun z => z.1) fun z => z.1, hW, hS⟩
/-- all of them are the same -/
theorem Frees.same_l4 (k : Nat) (hk : 2000 < k) {h0 : H} (w0 : WF h0) {s t : Sl} {al bs : List Fw.Id} (A : SlR 3 h0 s (ivL al)) (B : SlR 3 h0 t (ivL bs)) (DA : ∀ o ∈ al, SlR 1 h0 o.1.2.2 (byt o.2)) (DB : ∀ o ∈ bs, SlR 1 h0 o.1.2.2 (byt o.2) ∧ o.2.length = 128) (he : bs.map (fun o => (o.1.1, o.1.2.1, o.2)) = al.map (fun o => (o.1.1, o.1.2.1, o.2))) (hl : bs.length ≤ 1000) : ∀ n i h, bs.length - i < n → i ≤ bs.length → Ch0 h0 h →
    ∃ h', corbellaw9_IntentFrees.l4 k n s t (Int.ofNat bs.length) (Int.ofNat i) h = some (.inr (), h') ∧ Ch0 h0 h'
  | 0, i, h, hn, _, _ => by omega
  | n + 1, i, h, hn, hi, C => by
    rw [corbellaw9_IntentFrees.l4_succ]
    by_cases c : i < bs.length
    · rw [decLt c, cond_true]
      have hlen : bs.length = al.length := by
        have := congrArg List.length he
        rw [List.length_map, List.length_map] at this
        exact this
      obtain ⟨g1, g2⟩ := iv_at (B.stay w0 C)
      obtain ⟨b1, o1, c1, c2⟩ := g2 i c
      obtain ⟨g3, g4⟩ := iv_at (A.stay w0 C)
      obtain ⟨b2, o2, d1, d2⟩ := g4 i (by omega)
      rw [c1]
      simp only [asP_ptr, Option.bind_some]
      rw [c2, bindIt, d1]
      simp only [asP_ptr, Option.bind_some]
      rw [d2, bindIt]
      dsimp only
      have hb := DB _ (List.getElem_mem c)
      have ha := DA _ (List.getElem_mem (show i < al.length by omega))
      have et : (bs[i].1.1, bs[i].1.2.1, bs[i].2) = ((al[i]'(by omega)).1.1, (al[i]'(by omega)).1.2.1, (al[i]'(by omega)).2) := by
        have h1 : (bs.map (fun o => (o.1.1, o.1.2.1, o.2)))[i]? = (al.map (fun o => (o.1.1, o.1.2.1, o.2)))[i]? := by rw [he]
        rw [List.getElem?_map, List.getElem?_map, List.getElem?_eq_getElem c, List.getElem?_eq_getElem (show i < al.length by omega)] at h1
        exact Option.some.inj h1
      obtain ⟨h1, f1, f2⟩ := isame_f k C.wf bs[i].1 (al[i]'(by omega)).1 (hb.1.stay w0 C) (ha.stay w0 C) (by omega) (by omega)
      rw [f1, decide_eq_true ⟨congrArg (fun t => t.1) et, congrArg (fun t => t.2.1) et, congrArg (fun t => t.2.2) et⟩]
      simp only [Option.bind_some, Bool.not_true, cond_false]
      rw [wrap_succ (by omega)]
      exact Frees.same_l4 k hk w0 A B DA DB he hl n (i + 1) h1 (by omega) (by omega) (C.then f2)
    · rw [decNlt c, cond_false]
      exact ⟨h, rfl, C⟩
theorem Frees.eqptr70 (p : Addr) : binO1 Try.prog .eql 70 (.pointer (some p)) (.pointer none) = some (.bool false) := by
  simp [binO1, binB, binA, Try.underlying70, eqA]
theorem Frees.frees_f (k : Nat) (hk : 2000 < k) {h0 : H} (w0 : WF h0) {which : Sl} {Lw : List Int} (Rw : SlR 1 h0 which (ivs Lw)) (hLw : which.n = Lw.length) (more : Int) : ∃ h', corbellaw9_IntentFrees.f k which more h0 = some (true, h') := by
  unfold corbellaw9_IntentFrees.f
  obtain ⟨p, h1, M, C, a1, a2, a3, a4, a5⟩ := Fw.new_f k (by omega) 96 (by decide) (by decide) w0
  rw [show (96 : Int) = Int.ofNat 96 from rfl, a1]
  simp only [Option.bind_some]
  obtain ⟨rb, W, h2, b1, b2, b3, b4⟩ := iopen_f k (by omega) a2.wf a3
  rw [b1]
  simp only [Option.bind_some, Bool.not_true, cond_false]
  rw [eqptr42, show asB (some (Value.bool false)) = some false from rfl]
  simp only [Option.bind_some, cond_false]
  rw [show ((0 : Int) != 0) = false from rfl]
  simp only [Option.bind_some, cond_false]
  rw [Frees.eqptr70, show asB (some (Value.bool false)) = some false from rfl]
  simp only [Option.bind_some, cond_false]
  have c02 : Ch0 h0 h2 := Ch0.then a2 b2
  have l1 := a2.le
  have hW0 : ∀ b, W b → h0.next ≤ b := fun b hb => by
    rcases b4 b hb with f | f | f
    · exact a4 b f
    · exact a5 b f
    · omega
  have zl : (List.replicate 16 zSd).filter liv = [] := by decide
  obtain ⟨s3, W3, ss3, hv3, h3, d1, d2, d3, d4, d5, d6, d7⟩ := Frees.fill_l0 (rb := rb) (h0 := h0) k hk which more k 0 h2 W (List.replicate 16 zSd) ⟨none, 0, 0⟩ [] (by omega) (by omega) c02 ⟨b3, Ow.nil, (fun b hb => by obtain ⟨o, q⟩ := hb; cases q), (fun o ho => by cases ho), (by unfold Frees.Lk; rw [zl]; exact List.Perm.refl _), List.Pairwise.nil, fun o ho => by cases ho⟩ rfl (fun o ho => by cases ho) hW0 (fun b hb => by obtain ⟨o, q⟩ := hb; cases q)
  rw [show (0 : Int) = Int.ofNat 0 from rfl, d1]
  simp only [Option.bind_some]
  obtain ⟨s4, ss4, hv4, G, h4, e1, e2, e3, e4, e5, e6⟩ := Frees.rel_l1 k hk w0 Rw hLw more d6 k 0 h3 ss3 s3 hv3 0 (by omega) (by omega) d2 d3 (by omega) d5 d7
  rw [e1]
  simp only [Option.bind_some]
  obtain ⟨s5, W5, ss5, hv5, h5, f1, f2, f3, f4, f5, f6, f7⟩ := Frees.more_l3 (h0 := h0) k hk more G (by omega) k 0 h4 W3 ss4 s4 hv4 (by omega) (by omega) e2 e3 (by omega) (fun o ho => .inl (e5 o ho)) d6 e6
  rw [f1]
  simp only [Option.bind_some]
  have w5 := f2.wf
  have hdist : (ss5.filter liv).Pairwise fun a b => key a ≠ key b := by
    have h1 : (hv5.map Frees.tagH).Pairwise fun x y => x.1 ≠ y.1 := List.pairwise_map.2 (f3.S.imp fun {a b} h e => by
      have e : a.1 = b.1 := e
      omega)
    have h2 := (List.Perm.pairwise_iff (R := fun x y : Frees.Tag => x.1 ≠ y.1) (fun {x y} h => Ne.symm h) f3.P).2 h1
    exact (List.pairwise_map (f := Frees.tagS) (R := fun x y : Frees.Tag => x.1 ≠ y.1)).1 h2
  have hkey : KOkL (ss5.filter liv) := fun q hq => by
    obtain ⟨hq1, hq2⟩ := List.mem_filter.1 hq
    obtain ⟨o, ho, ht⟩ := f3.P.mem hq1 hq2
    have h5 : o.1 = key q := congrArg (fun t : Frees.Tag => t.1) ht
    have := f3.N o ho
    simp only [Int.ofNat_eq_natCast] at this
    omega
  obtain ⟨s6, os, lv, h6, g1, g2, g3, g4, g5⟩ := live_f k hk w5 f3.R hdist hkey
  rw [g1]
  simp only [Option.bind_some]
  have hos : os.length = 16 := by
    have h1 := congrArg List.length g5
    rw [List.length_map, List.length_map] at h1
    have h2 := g3.length_eq
    rw [f3.P.len, f4] at h2
    omega
  rw [(iv_at g2.ow.slr).1, hos, show (Int.ofNat 16 != (16 : Int)) = false from rfl]
  simp only [cond_false]
  have T6 := f3.stay w5 g2.ch
  obtain ⟨sl, x, h7, i1, i2, i3, i4, i5⟩ := Frees.one_f k (by omega) g2.ch.wf 39 9 9
  rw [i1]
  simp only [Option.bind_some]
  obtain ⟨h8, j1, j2⟩ := logFull_f k (by omega) i2.wf (T6.R.stay i2) (39, 9, sl) i3 i4 (show (0 : Int) ≤ 39 by decide) (show (39 : Int) < 40 by decide) (show (1 : Int) ≤ 9 by decide) (show (9 : Int) ≤ 1000 by decide) (fun q hq hlq f => by
    obtain ⟨o, ho, ht⟩ := f3.P.mem hq hlq
    have h6 : o.2.1.2.1 = q.1.2.2.2.1 := congrArg (fun t : Frees.Tag => t.2.2.1) ht
    have f2 : q.1.2.2.2.1 = 9 := f.2
    rcases f5 o ho with z | z <;> omega) (f3.P.full f3.R.len f4)
  dsimp only at j1
  rw [j1]
  simp only [Option.bind_some]
  rw [show ((6 : Int) != 6) = false from rfl]
  simp only [cond_false]
  have c68 := i2.then j2
  have etag : lv.map Frees.tagS = hv5.map Frees.tagH := Frees.sorted_eq _ _ ((g3.map Frees.tagS).trans f3.P) (List.pairwise_map.2 g4) (List.pairwise_map.2 f3.S)
  have he : os.map (fun o => (o.1.1, o.1.2.1, o.2)) = (hv5.map (·.2)).map (fun o => (o.1.1, o.1.2.1, o.2)) := by
    have h1 := congrArg (List.map fun t : Frees.Tag => t.2) etag
    rw [List.map_map, List.map_map] at h1
    rw [g5, List.map_map]
    exact h1
  have l128 : ∀ o ∈ os, o.2.length = 128 := fun o ho => by
    have h1 : (o.1.1, o.1.2.1, o.2) ∈ (hv5.map (·.2)).map (fun o => (o.1.1, o.1.2.1, o.2)) := by rw [← he]; exact List.mem_map.2 ⟨o, ho, rfl⟩
    obtain ⟨o2, h2, h3⟩ := List.mem_map.1 h1
    obtain ⟨o3, h4, rfl⟩ := List.mem_map.1 h2
    have h5 : o3.2.2 = o.2 := congrArg (fun t => t.2.2) h3
    rw [← h5]
    exact (f3.D o3 h4).2.1
  obtain ⟨h9, k1, k2⟩ := Frees.same_l4 k hk j2.wf (al := hv5.map (·.2)) (bs := os) ((T6.O.slr.stay g2.ch.wf c68)) (g2.ow.slr.stay g2.ch.wf c68) (fun o ho => by
    obtain ⟨o3, h4, rfl⟩ := List.mem_map.1 ho
    exact (T6.D o3 h4).1.stay g2.ch.wf c68) (fun o ho => ⟨(g2.dat o ho).1.stay g2.ch.wf c68, l128 o ho⟩) he (by omega) k 0 h8 (by omega) (Nat.zero_le _) (Ch.refl j2.wf)
  rw [hos] at k1
  rw [k1]
  exact ⟨h9, rfl⟩
theorem Pure.IntentFrees : ∀ h x vs, Den.WF h → Den.Dead h → Ar.IntentFrees.R h x vs → Ar.IntentFrees.Q x → ∃ a, Den.encL [.sl, .int .i64] a = vs ∧ Den.toldB (Fwd.corbellaw9_IntentFrees.f 1000000 a.1 a.2 h) = true := by
  rintro h ⟨l, m, _⟩ vs w _ ⟨va, vb, rfl, r1, vc, vd, rfl, r2, rfl⟩ _
  obtain rfl := r2
  obtain ⟨s1, rfl, x1, x2, _⟩ := r1.one (f := fun n => .int .i64 n) (fun h x l r => r) w
  obtain ⟨h', g⟩ := Frees.frees_f 1000000 (by decide) w x1 x2 m
  exact ⟨(s1, m), rfl, (congrArg toldB g).trans rfl⟩
end Go.Proofs.Ytbegaeohggkblaa
