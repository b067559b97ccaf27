/- What the reference does to a list of volumes. No condition. -/
import Derived.Test.YtfenkpghcbohdaaPdFwApA
namespace Go.Proofs.Ytfenkpghcbohdaa.Fw
open Go Den Fwd
set_option linter.unusedVariables false
set_option linter.unusedSimpArgs false
theorem fadd_at (off b o : Nat) : fadd off (some ⟨b, o, none⟩) = some (.pointer (some ⟨b, o + off, none⟩)) := rfl
theorem rsized_l0 (k : Nat) {h0 : H} (w0 : WF h0) {s : Sl} {l : List Int} (r : SlR 1 h0 s (ivs l)) (m : Nat) (hm : m ≤ 1000) (x4 : Sl) : ∀ n i h t, m - i < n → i ≤ m → Ch0 h0 h → Ow 3 1 h t (ivs ((l ++ List.replicate m 0).take i)) → (∀ x, SlB t x → h0.next ≤ x) →
    ∃ t' h', corbelref16_Sized.l0 k n s (Int.ofNat m) x4 t (Int.ofNat i) h = some (t', h') ∧ Ch0 h0 h' ∧ Ow 3 1 h' t' (ivs ((l ++ List.replicate m 0).take m)) ∧ ∀ x, SlB t' x → h0.next ≤ x
  | 0, i, h, t, hf, _, _, _, _ => by omega
  | n + 1, i, h, t, hf, hi, C, O, F => by
    rw [corbelref16_Sized.l0_succ]
    by_cases c : i < m
    rotate_left
    · rw [decNlt c, cond_false]
      have : i = m := by omega
      subst this
      exact ⟨t, h, rfl, C, O, F⟩
    rw [decLt c, cond_true, SlR.ivn r]
    have hl : i < (l ++ List.replicate m (0 : Int)).length := by rw [List.length_append, List.length_replicate]; omega
    have ht : (l ++ List.replicate m (0 : Int)).take (i + 1) = (l ++ List.replicate m 0).take i ++ [(l ++ List.replicate m (0 : Int))[i]] := List.take_succ_eq_append_getElem hl
    have J : ∃ t' h', (cond (decide (Int.ofNat i < Int.ofNat l.length)) ((asP (ixs 1 s.a l.length (Int.ofNat i))).bind fun p8 => (asI .i64 (ldc h p8)).bind fun n9 => (asS2 (apv 3 1 8 (Value.slice t.a t.n t.c) (Value.slice (some ⟨h.next, 0, none⟩) 1 1) (newR h 3 1 [(Value.int .i64 n9)]))).bind fun q10 => some (q10.1, q10.2))
        ((asS2 (apv 3 1 8 (Value.slice t.a t.n t.c) (Value.slice (some ⟨h.next, 0, none⟩) 1 1) (newR h 3 1 [(Value.int .i64 (0 : Int))]))).bind fun q11 => some (q11.1, q11.2)) : Option (Sl × H)) = some (t', h') ∧ Ch (SlB t) h h' ∧ Ow 3 1 h' t' (ivs ((l ++ List.replicate m 0).take (i + 1))) ∧ ∀ x, SlB t' x → SlB t x ∨ h.next ≤ x := by
      have hb : ((l ++ List.replicate m (0 : Int)).take i).length ≤ 100000 := by rw [List.length_take]; omega
      by_cases d : i < l.length
      · rw [decLt d, cond_true]
        obtain ⟨_, p, e1, e2⟩ := SlR.int (r.stay w0 C) d
        rw [SlR.ivn r] at e1
        rw [e1]
        simp only [asP_ptr, Option.bind_some]
        rw [e2, asI_int]
        simp only [Option.bind_some]
        obtain ⟨t', h', a1, a2, a3, a4⟩ := push_i C.wf O l[i] hb
        rw [a1]
        refine ⟨t', h', rfl, a2, ?_, a4⟩
        rw [ht, List.getElem_append_left d]; exact a3
      · rw [decNlt d, cond_false]
        obtain ⟨t', h', a1, a2, a3, a4⟩ := push_i C.wf O 0 hb
        rw [a1]
        refine ⟨t', h', rfl, a2, ?_, a4⟩
        rw [ht, List.getElem_append_right (by omega), List.getElem_replicate]; exact a3
    obtain ⟨t', h', a1, a2, a3, a4⟩ := J
    rw [a1]
    simp only [Option.bind_some]
    rw [wrap_succ (by omega)]
    have := rsized_l0 k w0 r m hm x4 n (i + 1) h' t' (by omega) c (Ch0.own C a2 F) a3 fun x hx => (a4 x hx).elim (F x) fun f => Nat.le_trans C.le f
    exact this
theorem rsized_l1 (k : Nat) {h0 : H} (w0 : WF h0) {s : Sl} {l : List Int} (r : SlR 1 h0 s (ivs l)) (hl : l.length ≤ 10000) (x15 : Sl) : ∀ n i h t us, l.length - i < n → Ch0 h0 h → Ow 3 1 h t (ivs us) → (∀ x, SlB t x → h0.next ≤ x) → us.length ≤ i → i ≤ 100000 →
    ∃ t' h', corbelref16_Sized.l1 k n s x15 t (Int.ofNat i) h = some (t', h') ∧ Ch0 h0 h'
  | 0, i, h, t, us, hf, _, _, _, _, _ => by omega
  | n + 1, i, h, t, us, hf, C, O, F, ul, hi => by
    rw [corbelref16_Sized.l1_succ, SlR.ivn r]
    by_cases c : i < l.length
    rotate_left
    · rw [decNlt c, cond_false]
      exact ⟨t, h, rfl, C⟩
    rw [decLt c, cond_true]
    obtain ⟨_, p, e1, e2⟩ := SlR.int (r.stay w0 C) c
    rw [SlR.ivn r] at e1
    rw [e1]
    simp only [asP_ptr, Option.bind_some]
    rw [e2, asI_int]
    simp only [Option.bind_some]
    cases z : l[i] != (0 : Int) with
    | true =>
      simp only [cond_true]
      obtain ⟨t', h', a1, a2, a3, a4⟩ := push_i C.wf O l[i] (by omega)
      rw [a1]
      simp only [Option.bind_some]
      rw [wrap_succ (by omega)]
      exact rsized_l1 k w0 r hl x15 n (i + 1) h' t' _ (by omega) (Ch0.own C a2 F) a3 (fun x hx => (a4 x hx).elim (F x) fun f => Nat.le_trans C.le f) (by rw [List.length_append, List.length_singleton]; omega) (by omega)
    | false =>
      simp only [cond_false, Option.bind_some]
      rw [wrap_succ (by omega)]
      exact rsized_l1 k w0 r hl x15 n (i + 1) h t us (by omega) C O F (by omega) (by omega)
theorem rsized_f (k : Nat) (hk : 20000 < k) {h : H} (w : WF h) {s : Sl} {l : List Int} (r : SlR 1 h s (ivs l)) (hl : l.length ≤ 10000) (sz : Int) (hz : okSize sz = true) :
    ∃ t t2 h', corbelref16_Sized.f k s sz h = some ((t, t2), h') ∧ Ch0 h h' ∧ Ow 3 1 h' t (ivs (sizedP l sz)) ∧ ∀ x, SlB t x → h.next ≤ x := by
  unfold corbelref16_Sized.f
  rw [rsize_f, hz]
  simp only [Option.bind_some, Bool.not_true, cond_false]
  obtain ⟨z1, z2, z3⟩ := okSize_iff.1 hz
  obtain ⟨m, hm⟩ : ∃ m : Nat, sz / 8 = Int.ofNat m := ⟨_, nn _ (by omega)⟩
  have hm' := hm
  simp only [Int.ofNat_eq_natCast] at hm'
  have hmn : (sz / 8).toNat = m := by omega
  rw [Int.tdiv_eq_ediv_of_nonneg z1, wrap_in (n := sz / 8) (by omega) (by omega), hm]
  obtain ⟨t, h1, a1, a2, a3, a4⟩ := rsized_l0 k w r m (by omega) ⟨none, 0, 0⟩ k 0 h ⟨none, 0, 0⟩ (by omega) (Nat.zero_le _) (Ch.refl w) Ow.nil (fun x f => absurd f noSlB)
  rw [show (0 : Int) = Int.ofNat 0 from rfl, a1]
  simp only [Option.bind_some]
  obtain ⟨t2, h2, b1, b2⟩ := rsized_l1 k a2.wf (r.stay w a2) hl t k m h1 ⟨none, 0, 0⟩ [] (by omega) (Ch.refl a2.wf) Ow.nil (fun x f => absurd f noSlB) (Nat.zero_le _) (by omega)
  rw [b1]
  refine ⟨t, t2, h2, rfl, a2.then b2, ?_, a4⟩
  unfold sizedP zerosI
  rw [hmn]
  exact a3.stay a2.wf b2
/-! ### put in -/
theorem rput_f (k : Nat) (hk : 20000 < k) {h h1 : H} (C1 : Ch0 h h1) {vs : List Vs} (R : RightP (vols vs)) (hl : vs.length < 12) {l : Sl} {us : List Vs} (O : TreeO h1 l us) (F : Fresh h.next l us) (hu : vols us = vols vs)
    (v : Vol) {m : Sl} (M : Ow 3 1 h1 m (ivs v.mp)) (Fm : ∀ x, SlB m x → h.next ≤ x) (ap : ∀ a ∈ us, Apart a (v, m)) :
    ∃ t h', corbelref16_put.f k l (voT (v, m)) h1 = some (t, h') ∧ Ch0 h1 h' ∧ ∃ us', TreeO h' t us' ∧ Fresh h.next t us' ∧ vols us' = putP (vols vs) v := by
  have ul : us.length = vs.length := by rw [← vols_len us, hu, vols_len]
  obtain ⟨t, h', a1, a2, a3, j, hj, a4, a5, a6⟩ := put_f k hk C1.wf O (by omega) (v, m) M ap
  refine ⟨t, h', a1, a2, _, a4, ⟨fun x hx => Nat.le_trans C1.le (a3 x hx), fun q hq x hx => ?_⟩, ?_⟩
  · rw [List.perm_middle.mem_iff, List.take_append_drop] at hq
    rcases List.mem_cons.1 hq with z | z
    · rw [z] at hx; exact Fm x hx
    · exact F.2 q z x hx
  · rw [vols_put, hu]
    obtain ⟨b1, b2, b3⟩ := put_vols hu hj a5 a6
    exact putP_of b1 b2 b3
theorem rcreate_f (k : Nat) (hk : 20000 < k) {h : H} (w : WF h) {s : Sl} {vs : List Vs} (T : TreeR h s vs) (R : RightP (vols vs)) (nm : List UInt8) (hkn : nm.length < k) (hkn2 : nm.length < 9223372036854775807) (sz : Int) : Did h (corbelref16_Create.f k s (ba nm) sz h) (createP (vols vs) nm sz) := by
  unfold corbelref16_Create.f
  have B := R.b
  obtain ⟨v, h1, a1, a2, a3⟩ := rtree_f k hk w T B
  have vt := a3.2 R
  subst vt
  rw [a1]
  simp only [Option.bind_some, Bool.not_true, cond_false]
  rw [rname_f k h1 nm hkn hkn2]
  simp only [Option.bind_some]
  unfold createP
  cases hv : isName nm with
  | false =>
    rw [Bool.false_and, if_neg (by decide)]
    exact Did.no a2 1
  | true =>
    simp only [Bool.not_true, cond_false]
    rw [rsize_f]
    simp only [Option.bind_some]
    cases hz : okSize sz with
    | false =>
      rw [Bool.true_and, if_neg (by decide)]
      exact Did.no a2 1
    | true =>
      simp only [Bool.not_true, cond_false]
      rw [Bool.true_and, if_pos rfl]
      unfold withP
      obtain ⟨r, b1, b2⟩ := rat_f k (by omega) (T.stay w a2) B.n nm
      rw [b1]
      simp only [Option.bind_some]
      rcases b2 with ⟨j, rfl, hj, f1, _⟩ | ⟨rfl, no⟩
      · rw [decide_eq_true (show Int.ofNat j ≥ (0 : Int) from Int.natCast_nonneg j), cond_true, hasV_iff.2 ⟨_, mem_vols hj, f1⟩, if_pos rfl]
        exact Did.no a2 11
      · rw [show decide ((-1 : Int) ≥ 0) = false from rfl, cond_false, T.n, hasV_no.2 (fun u hu => by obtain ⟨q, hq, rfl⟩ := List.mem_map.1 hu; exact no q hq), if_neg (by decide), vols_len]
        by_cases c : vs.length < 12
        rotate_left
        · rw [decide_eq_true (show Int.ofNat vs.length ≥ (12 : Int) by simp only [Int.ofNat_eq_natCast]; omega), cond_true, if_pos (by omega)]
          exact Did.no a2 6
        rw [decide_eq_false (show ¬ Int.ofNat vs.length ≥ (12 : Int) by simp only [Int.ofNat_eq_natCast]; omega), cond_false, if_neg (by omega)]
        obtain ⟨m, m2, h2, d1, d2, d3, d4⟩ := rsized_f k hk a2.wf (s := ⟨none, 0, 0⟩) (l := []) (.inl ⟨rfl, .inl rfl⟩) (Nat.zero_le _) sz hz
        rw [sizedP_nil] at d3
        rw [d1]
        simp only [Option.bind_some]
        have C2 := a2.then d2
        obtain ⟨t, h3, us, e1, e2, e3, e4, e5⟩ := copied_f k hk C2.wf (T.stay w C2) B
        rw [e1]
        simp only [Option.bind_some]
        have C3 := C2.then e2
        obtain ⟨t', h', f1, f2, us', f3, f4, f5⟩ := rput_f k hk C3 R c e3 (e4.mono C2.le) e5 ⟨nm, [], false, sz, zerosI sz⟩ (d3.stay d2.wf e2) (fun x hx => Nat.le_trans a2.le (d4 x hx)) (fun a ha x hx f => by
          have := e4.2 a ha x hx
          have := d3.lt d2.wf f
          omega)
        have f1 : corbelref16_put.f k t (ba nm, ⟨#[]⟩, false, sz, m) h3 = some (t', h') := f1
        rw [f1]
        exact ⟨t', h', us', rfl, C3.then f2, f3, f4, f5⟩
theorem rat_find {vs : List Vs} {nm : List UInt8} {r : Int} (R : RightP (vols vs)) (z : (∃ j : Nat, r = Int.ofNat j ∧ ∃ hj : j < vs.length, vs[j].1.nm = nm ∧ ∀ a (ha : a < vs.length), a < j → vs[a].1.nm ≠ nm) ∨ (r = -1 ∧ ∀ q ∈ vs, q.1.nm ≠ nm)) : (∃ j : Nat, ∃ hj : j < vs.length, r = Int.ofNat j ∧ findV (vols vs) nm = some vs[j].1 ∧ vs[j].1.nm = nm) ∨ (r = -1 ∧ findV (vols vs) nm = none) := by
  rcases z with ⟨j, rfl, hj, f1, _⟩ | ⟨rfl, no⟩
  · exact .inl ⟨j, hj, rfl, by rw [← f1]; exact findV_is R (mem_vols hj), f1⟩
  · exact .inr ⟨rfl, findV_none.2 fun u hu => by obtain ⟨q, hq, rfl⟩ := List.mem_map.1 hu; exact no q hq⟩
theorem rbranch_f (k : Nat) (hk : 20000 < k) {h : H} (w : WF h) {s : Sl} {vs : List Vs} (T : TreeR h s vs) (R : RightP (vols vs)) (of nm : List UInt8) (hkn : nm.length < k) (hkn2 : nm.length < 9223372036854775807) (sn : Bool) : Did h (corbelref16_branch.f k s (ba of) (ba nm) sn h) (deriveP (vols vs) of nm sn) := by
  unfold corbelref16_branch.f
  have B := R.b
  obtain ⟨r0, z1, z2⟩ := rat_f k (by omega) T B.n of
  rw [z1]
  simp only [Option.bind_some]
  obtain ⟨v, h1, a1, a2, a3⟩ := rtree_f k hk w T B
  have vt := a3.2 R
  subst vt
  rw [a1]
  simp only [Option.bind_some, Bool.not_true, cond_false]
  rw [rname_f k h1 nm hkn hkn2]
  simp only [Option.bind_some]
  unfold deriveP
  cases hv : isName nm with
  | false =>
    rw [if_neg (by decide)]
    exact Did.no a2 1
  | true =>
  simp only [Bool.not_true, cond_false, if_true]
  rcases rat_find R z2 with ⟨i, hi, rfl, y1, y2⟩ | ⟨rfl, y1⟩
  rotate_left
  · rw [show decide ((-1 : Int) < 0) = true from rfl, cond_true, y1]
    exact Did.no a2 7
  rw [decide_eq_false (show ¬ Int.ofNat i < (0 : Int) by simp only [Int.ofNat_eq_natCast]; omega), cond_false, y1]
  have T1 := T.stay w a2
  obtain ⟨bb, oo, x1, x2, x3⟩ := T1.at hi
  rw [x1]
  simp only [asP_ptr, Option.bind_some, fadd_at]
  rw [x3 2 (by decide), show asB ((voL vs[i])[2]?) = some vs[i].1.sn from asBs _]
  simp only [Option.bind_some]
  have bl : bb < h1.next := cell_lt a2.wf (show h1.cell bb (oo + 2) = some (.bool vs[i].1.sn) from x3 2 (by decide))
  by_cases sc : vs[i].1.sn = sn
  · rw [show (vs[i].1.sn == sn) = true by rw [sc]; simp, cond_true, if_pos sc]
    exact Did.no a2 10
  rw [show (vs[i].1.sn == sn) = false by rw [beq_eq_false_iff_ne]; exact sc, cond_false, if_neg sc]
  unfold withP
  obtain ⟨r, b1, b2⟩ := rat_f k (by omega) T1 B.n nm
  rw [b1]
  simp only [Option.bind_some]
  rcases b2 with ⟨j, rfl, hj, f1, _⟩ | ⟨rfl, no⟩
  · rw [decide_eq_true (show Int.ofNat j ≥ (0 : Int) from Int.natCast_nonneg j), cond_true, hasV_iff.2 ⟨_, mem_vols hj, f1⟩, if_pos rfl]
    exact Did.no a2 11
  rw [show decide ((-1 : Int) ≥ 0) = false from rfl, cond_false, hasV_no.2 (fun u hu => by obtain ⟨q, hq, rfl⟩ := List.mem_map.1 hu; exact no q hq), if_neg (by decide), vols_len]
  have sn' : Int.ofNat s.n = Int.ofNat vs.length := by rw [T.n]
  rw [sn']
  by_cases c : vs.length < 12
  rotate_left
  · rw [decide_eq_true (show Int.ofNat vs.length ≥ (12 : Int) by simp only [Int.ofNat_eq_natCast]; omega), cond_true, if_pos (by omega)]
    exact Did.no a2 6
  rw [decide_eq_false (show ¬ Int.ofNat vs.length ≥ (12 : Int) by simp only [Int.ofNat_eq_natCast]; omega), cond_false, if_neg (by omega)]
  obtain ⟨t, h3, us, e1, e2, e3, e4, e5⟩ := copied_f k hk a2.wf T1 B
  rw [e1]
  simp only [Option.bind_some]
  have C3 := a2.then e2
  obtain ⟨b3, o3, g1, g2, g3⟩ := (T1.stay a2.wf e2).at hi
  rw [x1] at g1
  cases g1
  rw [g3 3 (by decide), show asI .i64 ((voL vs[i])[3]?) = some vs[i].1.sz from asI_int _ _]
  simp only [Option.bind_some]
  obtain ⟨n1, n2, n3⟩ := newR_ok C3.wf 3 1 []
  have n4 : ldc (newR h3 3 1 []) (some ⟨bb, oo + 4, none⟩) = ldc h3 (some ⟨bb, oo + 4, none⟩) := cell_keep (n1.keep bb (by have := e2.le; omega) fun f => f) _
  rw [n4, g3 4 (by decide), show asS ((voL vs[i])[4]?) = some vs[i].2 from asS_slv _]
  simp only [Option.bind_some]
  obtain ⟨m, h4, d1, d2, d3, d4⟩ := dup_ok C3.wf (T.mp _ (List.getElem_mem hi) |>.stay w C3) (by have := (B.nm _ (List.getElem_mem hi)).2.2; omega)
  rw [d1]
  simp only [Option.bind_some]
  have C4 := C3.then d2
  obtain ⟨t', h', f1, f2, us', f3, f4, f5⟩ := rput_f k hk C4 R c (e3.stay C3.wf d2) (e4.mono a2.le) e5 ⟨nm, of, sn, vs[i].1.sz, vs[i].1.mp⟩ (m := m) d3 (fun x hx => Nat.le_trans C3.le (d4 x hx)) (fun a ha x hx f => by
    have := (e3.mp a ha).lt C3.wf hx
    have := d4 x f
    omega)
  have f1 : corbelref16_put.f k t (ba nm, ba of, sn, vs[i].1.sz, m) h4 = some (t', h') := f1
  rw [f1]
  simp only [Option.bind_some]
  have kb : h3.get bb = h1.get bb := e2.keep bb bl fun f => f
  have kc : h4.get bb = (newR h3 3 1 []).get bb := by
    rw [n1.keep bb (by have := e2.le; omega) fun f => f]
    exact d2.keep bb (by have := e2.le; omega) fun f => f
  simp only [same1_of kb, same1_of kc, Bool.and_self, cond_true]
  exact ⟨t', h', us', rfl, C4.then f2, f3, f4, f5⟩
/-! ### deleted -/
theorem rdel_l0 (k : Nat) {h0 : H} (w0 : WF h0) {s : Sl} {vs : List Vs} (T : TreeR h0 s vs) (R : RightP (vols vs)) (nm : List UInt8) {kk : Nat} (hkk : kk < vs.length) (ek : vs[kk].1.nm = nm) : ∀ n i h t, vs.length - i < n → i ≤ vs.length → Ch0 h0 h → Ow 58 5 h t ((delL nm (vs.take i)).map voL).flatten → (∀ x, SlB t x → h0.next ≤ x) →
    ∃ v h', corbelref16_Delete.l0 k n s (ba nm) (Int.ofNat kk) t (Int.ofNat i) h = some (v, h') ∧ Ch0 h0 h' ∧ ((v = .inl (⟨none, 0, 0⟩, 12) ∧ vs[kk].1.sn = true ∧ ∃ q ∈ vs, q.1.pa = nm) ∨ (∃ t', v = .inr t' ∧ (∀ q ∈ vs.drop i, ¬ (q.1.pa = nm ∧ vs[kk].1.sn = true)) ∧ Ow 58 5 h' t' ((delL nm vs).map voL).flatten))
  | 0, i, h, t, hf, _, _, _, _ => by omega
  | n + 1, i, h, t, hf, hi, C, O, F => by
    rw [corbelref16_Delete.l0_succ]
    have hn := R.b.n
    have sn' : Int.ofNat s.n = Int.ofNat vs.length := by rw [T.n]
    rw [sn']
    by_cases c : i < vs.length
    rotate_left
    · rw [decNlt c, cond_false]
      rw [List.take_of_length_le (by omega)] at O
      exact ⟨_, h, rfl, C, .inr ⟨t, rfl, (fun q hq => by rw [List.drop_eq_nil_of_le (by omega)] at hq; cases hq), O⟩⟩
    rw [decLt c, cond_true]
    obtain ⟨b, o, e1, e2, e3⟩ := (T.stay w0 C).at c
    rw [e1]
    simp only [asP_ptr, Option.bind_some, fadd_at]
    rw [e3 1 (by decide), show asT ((voL vs[i])[1]?) = some (ba vs[i].1.pa) from asTs _]
    simp only [Option.bind_some]
    obtain ⟨bk, ok, k1, k2, k3⟩ := (T.stay w0 C).at hkk
    have ei : ∀ x : Int, (Int.ofNat i == Int.ofNat kk) = decide (vs[i].1.nm = nm) := fun _ => by
      by_cases z : i = kk
      · subst z; rw [decide_eq_true ek]; simp
      · rw [decide_eq_false (fun f => z (SortV.inj R.so c hkk (by rw [f, ek]))), beq_eq_false_iff_ne]
        intro f
        exact z (Int.ofNat.inj f)
    have hd : vs.drop i = vs[i] :: vs.drop (i + 1) := List.drop_eq_getElem_cons c
    have ht : vs.take (i + 1) = vs.take i ++ [vs[i]] := List.take_succ_eq_append_getElem c
    have hm := List.getElem_mem c
    have J : (cond ((ba vs[i].1.pa).toList == (ba nm).toList) ((asP (ixs 5 s.a s.n (Int.ofNat kk))).bind fun p12 => (asP (fadd 2 p12)).bind fun p13 => (asB (ldc h p13)).bind fun b14 => some (b14, h)) (some (false, h)) : Option (Bool × H)) = some (decide (vs[i].1.pa = nm ∧ vs[kk].1.sn = true), h) := by
      rw [bat_eq]
      by_cases e : vs[i].1.pa = nm
      · rw [decide_eq_true e, cond_true, k1]
        simp only [asP_ptr, Option.bind_some, fadd_at]
        rw [k3 2 (by decide), show asB ((voL vs[kk])[2]?) = some vs[kk].1.sn from asBs _]
        simp only [Option.bind_some]
        cases vs[kk].1.sn with
        | true => rw [decide_eq_true (And.intro e rfl)]
        | false => rw [decide_eq_false (fun f => by cases f.2)]
      · rw [decide_eq_false e, cond_false, decide_eq_false (fun f => e f.1)]
    rw [J]
    simp only [Option.bind_some]
    have ulen : (delL nm (vs.take i)).length ≤ 1000 := by
      unfold delL
      rw [List.length_map]
      have := List.length_filter_le (fun q : Vs => decide (q.1.nm ≠ nm)) (vs.take i)
      rw [List.length_take] at this
      omega
    by_cases bz : vs[i].1.pa = nm ∧ vs[kk].1.sn = true
    · rw [decide_eq_true bz, cond_true]
      exact ⟨_, h, rfl, C, .inl ⟨rfl, bz.2, vs[i], hm, bz.1⟩⟩
    rw [decide_eq_false bz, cond_false, ei 0]
    have step : ∀ q ∈ vs.drop i, (q ∈ vs.drop (i + 1) → ¬ (q.1.pa = nm ∧ vs[kk].1.sn = true)) → ¬ (q.1.pa = nm ∧ vs[kk].1.sn = true) := fun q hq f => by
      rw [hd] at hq
      rcases List.mem_cons.1 hq with z | z
      · rw [z]; exact bz
      · exact f z
    by_cases en : vs[i].1.nm = nm
    · rw [decide_eq_true en, cond_true, wrap_succ (by omega)]
      obtain ⟨v, h', a1, a2, a3⟩ := rdel_l0 k w0 T R nm hkk ek n (i + 1) h t (by omega) c C (by rw [ht, delL_snoc, if_neg (fun f => f en)]; exact O) F
      exact ⟨v, h', a1, a2, a3.imp id fun ⟨t', b1, b2, b3⟩ => ⟨t', b1, (fun q hq => step q hq (b2 q)), b3⟩⟩
    rw [decide_eq_false en, cond_false]
    rw [e2, bindVo]
    generalize vs[i] = q at ht en
    dsimp only [voT]
    rw [show [Value.string (ba q.1.nm), Value.string (ba q.1.pa), Value.bool q.1.sn, Value.int .i64 q.1.sz, Value.slice q.2.a q.2.n q.2.c] = voL q from rfl, show [Value.string (⟨#[]⟩ : ByteArray), Value.string (⟨#[]⟩ : ByteArray), Value.bool false, Value.int .i64 (0 : Int), Value.slice none 0 0] = zVo from rfl]
    obtain ⟨h1, b1, b2, b3, b4⟩ := box_ok C.wf 58 5 zVo (voL q) rfl rfl rfl
    rw [b1]
    simp only [Option.bind_some]
    have C1 := C.then b2
    rw [show asT (ldc h1 (some ⟨h.next, 1, none⟩)) = some (ba q.1.pa) by rw [b4.ldc]; exact asTs _]
    simp only [Option.bind_some]
    rw [bat_eq]
    have JJ : ∃ h2, (cond (decide (q.1.pa = nm)) ((stv 1 h1 (some ⟨h.next, 1, none⟩) [(Value.string (⟨#[]⟩ : ByteArray))]).bind fun q20 => some ((), q20.2)) (some ((), h1)) : Option (Unit × H)) = some ((), h2) ∧ Ch (fun z => z = h.next) h1 h2 ∧ Is h2 h.next 58 5 (voL (unQ nm q)) := by
      by_cases e : q.1.pa = nm
      · rw [decide_eq_true e, cond_true]
        obtain ⟨h2, f1, f2, f3, f4⟩ := b4.set b2.wf 1 (.string (⟨#[]⟩ : ByteArray)) (by show 1 < 5; decide) rfl
        rw [f1]
        refine ⟨h2, rfl, f2, ?_⟩
        unfold unQ unpa
        rw [if_pos e]; exact f4
      · rw [decide_eq_false e, cond_false]
        refine ⟨h1, rfl, Ch.refl b2.wf, ?_⟩
        unfold unQ unpa
        rw [if_neg e]; exact b4
    obtain ⟨h2, j1, j2, j3⟩ := JJ
    rw [j1]
    simp only [Option.bind_some]
    have C2 := Ch0.at C1 j2 C.le
    have O2 : Ow 58 5 h2 t ((delL nm (vs.take i)).map voL).flatten := (O.stay C.wf b2).keep fun x hx => j2.keep x (by have := O.lt C.wf hx; omega) (by have := O.lt C.wf hx; omega)
    rw [ldaIs (n := 5) j3 rfl, bindVo]
    dsimp only [voT]
    rw [show [Value.string (ba (unQ nm q).1.nm), Value.string (ba (unQ nm q).1.pa), Value.bool (unQ nm q).1.sn, Value.int .i64 (unQ nm q).1.sz, Value.slice (unQ nm q).2.a (unQ nm q).2.n (unQ nm q).2.c] = voL (unQ nm q) from rfl]
    obtain ⟨t1, h3, g1, g2, g3, g4⟩ := push_vo C2.wf O2 (unQ nm q) ulen
    rw [g1]
    simp only [Option.bind_some]
    rw [wrap_succ (by omega)]
    obtain ⟨v, h', a1, a2, a3⟩ := rdel_l0 k w0 T R nm hkk ek n (i + 1) h3 t1 (by omega) c (Ch0.own C2 g2 F) (by rw [ht, delL_snoc, if_pos en]; exact g3) (fun x hx => (g4 x hx).elim (F x) fun f => Nat.le_trans C2.le f)
    exact ⟨v, h', a1, a2, a3.imp id fun ⟨t', b1, b2, b3⟩ => ⟨t', b1, (fun q hq => step q hq (b2 q)), b3⟩⟩
theorem rdelete_f (k : Nat) (hk : 20000 < k) {h : H} (w : WF h) {s : Sl} {vs : List Vs} (T : TreeR h s vs) (R : RightP (vols vs)) (nm : List UInt8) : Did h (corbelref16_Delete.f k s (ba nm) h) (deleteP (vols vs) nm) := by
  unfold corbelref16_Delete.f
  have B := R.b
  have hn := B.n
  obtain ⟨r0, z1, z2⟩ := rat_f k (by omega) T B.n nm
  rw [z1]
  simp only [Option.bind_some]
  obtain ⟨v, h1, a1, a2, a3⟩ := rtree_f k hk w T B
  have vt := a3.2 R
  subst vt
  rw [a1]
  simp only [Option.bind_some, Bool.not_true, cond_false]
  unfold deleteP
  rcases rat_find R z2 with ⟨i, hi, rfl, y1, y2⟩ | ⟨rfl, y1⟩
  rotate_left
  · rw [show decide ((-1 : Int) < 0) = true from rfl, cond_true, y1]
    exact Did.no a2 7
  rw [decide_eq_false (show ¬ Int.ofNat i < (0 : Int) by simp only [Int.ofNat_eq_natCast]; omega), cond_false, y1]
  obtain ⟨v, h2, b1, b2, b3⟩ := rdel_l0 k a2.wf (T.stay w a2) R nm hi y2 k 0 h1 ⟨none, 0, 0⟩ (by omega) (Nat.zero_le _) (Ch.refl a2.wf) Ow.nil (fun x f => absurd f noSlB)
  rw [show (0 : Int) = Int.ofNat 0 from rfl, b1]
  simp only [Option.bind_some]
  have C2 := a2.then b2
  rcases b3 with ⟨rfl, c1, q, hq, c2⟩ | ⟨t', rfl, c1, c2⟩
  · rw [if_pos (by rw [c1, Bool.true_and, List.any_eq_true]; exact ⟨q.1, List.mem_map.2 ⟨q, hq, rfl⟩, decide_eq_true c2⟩)]
    exact Did.no C2 12
  · rw [if_neg (fun f => by
      rw [Bool.and_eq_true, List.any_eq_true] at f
      obtain ⟨f1, x, hx, f2⟩ := f
      obtain ⟨q, hq, rfl⟩ := List.mem_map.1 hx
      exact c1 q (by rw [List.drop_zero]; exact hq) ⟨of_decide_eq_true f2, f1⟩)]
    have T2 := (T.stay w a2).stay a2.wf b2
    have D : TreeR h2 t' (delL nm vs) := ⟨c2.slr, fun a ha => by
      obtain ⟨q, hq, rfl⟩ := delL_mem ha
      show SlR 1 h2 q.2 (ivs (unpa nm q.1).mp)
      rw [(unpa_nm nm q.1).2.2.2]
      exact T2.mp q hq⟩
    have BD : TreeB (delL nm vs) := ⟨by
      unfold delL
      rw [List.length_map]
      have := List.length_filter_le (fun q : Vs => decide (q.1.nm ≠ nm)) vs
      omega, fun a ha => by
      obtain ⟨q, hq, rfl⟩ := delL_mem ha
      have b := B.nm q hq
      refine ⟨?_, ?_, ?_⟩
      · show (unpa nm q.1).nm.length ≤ 1000
        rw [(unpa_nm nm q.1).1]; exact b.1
      · show (unpa nm q.1).pa.length ≤ 1000
        unfold unpa
        by_cases e : q.1.pa = nm
        · rw [if_pos e]; exact Nat.zero_le _
        · rw [if_neg e]; exact b.2.1
      · show (unpa nm q.1).mp.length ≤ 10000
        rw [(unpa_nm nm q.1).2.2.2]; exact b.2.2⟩
    obtain ⟨t, h3, us, d1, d2, d3, d4, d5⟩ := copied_f k hk b2.wf D BD
    simp only
    rw [d1]
    refine ⟨t, h3, us, rfl, C2.then d2, d3, d4.mono C2.le, ?_⟩
    rw [d5, vols_delL]
/-! ### sized -/
theorem TreeO.swap2 {h h' : H} (w : WF h) {s : Sl} {vs : List Vs} (T : TreeO h s vs) {i : Nat} (hi : i < vs.length) (c : Ch (SlB s) h h') (q : Vs) (o : Ow 58 5 h' s ((vs.set i q).map voL).flatten) (M : Ow 3 1 h' q.2 (ivs q.1.mp)) (hs : ∀ x, SlB s x → ¬ SlB q.2 x) (ha : ∀ j (hj : j < vs.length), j ≠ i → Apart vs[j] q) : TreeO h' s (vs.set i q) := by
  have keep : ∀ a : Vs, Ow 3 1 h a.2 (ivs a.1.mp) → (∀ x, SlB s x → ¬ SlB a.2 x) → Ow 3 1 h' a.2 (ivs a.1.mp) := fun a O n => O.keep fun b hb => c.keep b (O.lt w hb) fun f => n b f hb
  have pw := List.pairwise_iff_getElem.1 T.di
  refine ⟨o, fun a hm => ?_, ?_, fun a hm => ?_⟩
  · rcases List.mem_or_eq_of_mem_set hm with z | z
    · exact keep a (T.mp a z) (T.ne a z)
    · rw [z]; exact M
  · rw [List.pairwise_iff_getElem]
    intro a b ha' hb' hab
    rw [List.length_set] at ha' hb'
    rw [List.getElem_set, List.getElem_set]
    by_cases z1 : i = a
    · rw [if_pos z1, if_neg (by omega)]
      exact (ha b hb' (by omega)).symm
    · rw [if_neg z1]
      by_cases z2 : i = b
      · rw [if_pos z2]; exact ha a ha' (by omega)
      · rw [if_neg z2]; exact pw a b ha' hb' hab
  · rcases List.mem_or_eq_of_mem_set hm with z | z
    · exact T.ne a z
    · rw [z]; exact hs
theorem rresize_f (k : Nat) (hk : 20000 < k) {h : H} (w : WF h) {s : Sl} {vs : List Vs} (T : TreeR h s vs) (R : RightP (vols vs)) (nm : List UInt8) (sz : Int) : Did h (corbelref16_Resize.f k s (ba nm) sz h) (resizeP (vols vs) nm sz) := by
  unfold corbelref16_Resize.f
  have B := R.b
  obtain ⟨r0, z1, z2⟩ := rat_f k (by omega) T B.n nm
  rw [z1]
  simp only [Option.bind_some]
  obtain ⟨v, h1, a1, a2, a3⟩ := rtree_f k hk w T B
  have vt := a3.2 R
  subst vt
  rw [a1]
  simp only [Option.bind_some, Bool.not_true, cond_false]
  unfold resizeP
  rcases rat_find R z2 with ⟨i, hi, rfl, y1, y2⟩ | ⟨rfl, y1⟩
  rotate_left
  · rw [show decide ((-1 : Int) < 0) = true from rfl, cond_true, y1]
    exact Did.no a2 7
  rw [decide_eq_false (show ¬ Int.ofNat i < (0 : Int) by simp only [Int.ofNat_eq_natCast]; omega), cond_false, y1]
  have T1 := T.stay w a2
  obtain ⟨bb, oo, x1, x2, x3⟩ := T1.at hi
  rw [x1]
  simp only [asP_ptr, Option.bind_some, fadd_at]
  rw [x3 2 (by decide), show asB ((voL vs[i])[2]?) = some vs[i].1.sn from asBs _]
  simp only [Option.bind_some]
  cases hs : vs[i].1.sn with
  | true =>
    rw [cond_true, if_pos rfl]
    exact Did.no a2 10
  | false =>
  rw [cond_false, if_neg (by decide), rsize_f]
  simp only [Option.bind_some]
  cases hz : okSize sz with
  | false =>
    rw [if_neg (by decide)]
    exact Did.no a2 1
  | true =>
  simp only [Bool.not_true, cond_false]
  rw [if_pos trivial]
  obtain ⟨t, h7, us, l1, l2, l3, l4, l5⟩ := copied_f k hk a2.wf T1 B
  rw [l1]
  simp only [Option.bind_some]
  have C7 := a2.then l2
  have ul : us.length = vs.length := by rw [← vols_len us, l5, vols_len]
  have hr : i < us.length := by omega
  have eu : us[i].1 = vs[i].1 := by
    have h1 : (vols us)[i]'(by rw [vols_len]; exact hr) = (vols vs)[i]'(by rw [vols_len]; exact hi) := by simp only [l5]
    simpa only [vols, List.getElem_map] using h1
  obtain ⟨b, h8, p1, p2, p3, p4⟩ := set_cell l2.wf l3.ow hr 3 (by decide) (.int .i64 sz) rfl ({ us[i].1 with sz := sz }, us[i].2) rfl
  rw [p1]
  simp only [asP_ptr, Option.bind_some, fadd_at]
  rw [p2]
  simp only [Option.bind_some]
  have tl : ∀ x, SlB t x → h1.next ≤ x := fun x hx => l4.1 x hx
  have C8 : Ch0 h1 h8 := Ch0.own l2 p3 tl
  obtain ⟨b3, o3, g1, g2, g3⟩ := (T1.stay a2.wf C8).at hi
  rw [x1] at g1
  cases g1
  rw [g3 4 (by decide), show asS ((voL vs[i])[4]?) = some vs[i].2 from asS_slv _]
  simp only [Option.bind_some]
  have ma := R.ma vs[i].1 (mem_vols hi)
  have ml := (mapLen ma).1
  obtain ⟨m1, m2, h9, d1, d2, d3, d4⟩ := rsized_f k hk p3.wf ((T1.stay a2.wf C8).mp _ (List.getElem_mem hi)) (by omega) sz hz
  rw [d1]
  simp only [Option.bind_some]
  have hr2 : i < (us.set i ({ us[i].1 with sz := sz }, us[i].2)).length := by rw [List.length_set]; exact hr
  have eg : (us.set i ({ us[i].1 with sz := sz }, us[i].2))[i] = ({ us[i].1 with sz := sz }, us[i].2) := by rw [List.getElem_set, if_pos rfl]
  obtain ⟨b', h10, q1, q2, q3, q4⟩ := set_cell d2.wf (p4.stay p3.wf d2) hr2 4 (by decide) (slv m1) rfl ({ us[i].1 with sz := sz, mp := sizedP vs[i].1.mp sz }, m1) (by rw [eg]; rfl)
  rw [p1] at q1
  cases q1
  rw [show [Value.slice m1.a m1.n m1.c] = [slv m1] from rfl, q2]
  have cc : Ch (SlB t) h7 h10 := (p3.trans (d2.mono fun _ _ f => f.elim) fun _ _ f => f).trans q3 fun _ _ f => f
  rw [List.set_set] at q4
  have m1l : ∀ x, SlB m1 x → h8.next ≤ x := d4
  have m1f : ∀ x, SlB m1 x → x < h9.next := fun x hx => d3.lt d2.wf hx
  have tf : ∀ x, SlB t x → x < h7.next := fun x hx => l3.ow.lt l2.wf hx
  have le78 := p3.le
  have M10 : Ow 3 1 h10 m1 (ivs (sizedP vs[i].1.mp sz)) := d3.keep fun x hx => q3.keep x (m1f x hx) fun f => by have := tf x f; have := m1l x hx; omega
  have O10 := l3.swap2 l2.wf hr cc _ q4 M10 (fun x hx f => by have := tf x hx; have := m1l x f; omega) (fun j hj _ x hx f => by have := (l3.mp _ (List.getElem_mem hj)).lt l2.wf hx; have := m1l x f; omega)
  refine ⟨t, h10, _, rfl, Ch0.own C7 cc (fun x hx => by have := tl x hx; have := a2.le; omega), O10, ⟨fun x hx => by have := tl x hx; have := a2.le; omega, fun a ha x hx => ?_⟩, ?_⟩
  · rcases List.mem_or_eq_of_mem_set ha with z | z
    · have := l4.2 a z x hx; have := a2.le; omega
    · rw [z] at hx
      have := m1l x hx; have := C8.le; have := a2.le; omega
  · show vols (us.set i ({ us[i].1 with sz := sz, mp := sizedP vs[i].1.mp sz }, m1)) = (vols vs).map (resz nm sz)
    have hrv : i < (vols vs).length := by rw [vols_len]; exact hi
    have ev : (vols vs)[i] = vs[i].1 := by simp only [vols, List.getElem_map]
    have := set_resz R.so (nm := nm) (sz := sz) hrv (by rw [ev, y2])
    rw [← this, ev, eu, ← l5]
    unfold vols
    rw [List.map_set]
end Go.Proofs.Ytfenkpghcbohdaa.Fw
/- Counts of stripes, by the program and by the reference: the same. No condition. -/
namespace Go.Proofs.Ytfenkpghcbohdaa.Fw
open Go Den Fwd
set_option linter.unusedVariables false
set_option linter.unusedSimpArgs false
/-- what a map of counts has: each key's number, and how many keys -/
structure Cn where
  D : Int → Option Int
  L : Nat
def bump (c : Cn) (n : Int) : Cn := ⟨fun m => if m = n then some (wrapA .i64 ((c.D n).getD 0 + 1)) else c.D m, if (c.D n).isSome then c.L else c.L + 1⟩
def cntL : Cn → List Int → Cn
  | c, [] => c
  | c, n :: l => cntL (if n = 0 then c else bump c n) l
theorem cntL_app : ∀ (l m : List Int) (c : Cn), cntL c (l ++ m) = cntL (cntL c l) m
  | [], m, c => rfl
  | n :: l, m, c => cntL_app l m _
def CnR (h : H) (b : Nat) (c : Cn) : Prop := ∃ es cc v, h.get b = some (.map es cc v) ∧ Keys .i64 es ∧ (∀ n, lkE n es = (c.D n).map (.int .i64)) ∧ es.length = c.L
theorem CnR.keep {h h' : H} {b : Nat} {c : Cn} (k : h'.get b = h.get b) (r : CnR h b c) : CnR h' b c := by
  obtain ⟨es, cc, v, h1, h2⟩ := r
  exact ⟨es, cc, v, k.trans h1, h2⟩
theorem CnR.lt {h : H} (w : WF h) {b : Nat} {c : Cn} (r : CnR h b c) : b < h.next := by
  obtain ⟨es, cc, v, h1, h2⟩ := r
  rcases Nat.lt_or_ge b h.next with q | q
  · exact q
  · rw [w.dom b q] at h1; cases h1
theorem CnR.stay {h h' : H} {b : Nat} {c : Cn} (w : WF h) (k : Ch0 h h') (r : CnR h b c) : CnR h' b c := r.keep (k.keep b (r.lt w) fun f => f)
theorem CnR.new {h : H} (w : WF h) : Ch0 h (h.new (.map [] 0 h.clock)) ∧ CnR (h.new (.map [] 0 h.clock)) h.next ⟨fun _ => none, 0⟩ :=
  ⟨⟨w.new (Nat.le_refl _), Nat.le_succ _, fun b hb _ => by rw [H.get_new, if_neg (by omega)]⟩, [], 0, h.clock, by rw [H.get_new, if_pos rfl], fun e he => (by cases he), fun n => rfl, rfl⟩
theorem CnR.look {h : H} {b : Nat} {c : Cn} (r : CnR h b c) (n : Int) : mlook (.int .i64 0) h (some b) (.int .i64 n) = some (.int .i64 ((c.D n).getD 0)) := by
  obtain ⟨es, cc, ver, h1, h2, h3, h4⟩ := r
  rcases findA_lk n es 0 h2 with ⟨g1, g2⟩ | ⟨j, v0, g1, g2, g3⟩
  · simp only [mlook, h1, g2]
    rw [h3] at g1
    rw [Option.map_eq_none_iff.1 g1]; rfl
  · simp only [mlook, h1, g2]
    rw [h3] at g1
    obtain ⟨x, hx, rfl⟩ := Option.map_eq_some_iff.1 g1
    rw [hx]; rfl
theorem CnR.len {h : H} {b : Nat} {c : Cn} (r : CnR h b c) : asI2 .i64 (mlenP h (some b)) = some (Int.ofNat c.L, h) := by
  obtain ⟨es, cc, ver, h1, h2, h3, h4⟩ := r
  simp only [mlenP, mapLenA, h1, pv, asI2, Option.bind_some, asI_int, h4]
theorem CnR.bump {h : H} (w : WF h) {b : Nat} {c : Cn} (r : CnR h b c) (n : Int) :
    ∃ h', mput (some b) (.int .i64 n) (.int .i64 (wrapA .i64 ((c.D n).getD 0 + 1))) h = some (undef, h') ∧ Ch (fun x => x = b) h h' ∧ CnR h' b (Fw.bump c n) := by
  have hb := r.lt w
  obtain ⟨es, cc, ver, h1, h2, h3, h4⟩ := r
  rcases findA_lk n es 0 h2 with ⟨g1, g2⟩ | ⟨j, v0, g1, g2, g3⟩
  · refine ⟨h.put b (.map (es ++ [⟨.int .i64 n, .int .i64 (wrapA .i64 ((c.D n).getD 0 + 1)), cc⟩]) (cc + 1) h.clock), ?_, ⟨w.put hb rfl, Nat.le_refl _, fun x hx hn => by rw [H.get_put, if_neg hn]⟩, _, _, _, by rw [H.get_put, if_pos rfl], fun e he => ?_, fun m => ?_, ?_⟩
    · simp only [mput, mputH, h1, g2, unit]
    · rcases List.mem_append.1 he with q | q
      · exact h2 e q
      · rw [List.mem_singleton.1 q]; exact ⟨n, rfl⟩
    · rw [lkE_snoc n _ cc es m g1, h3]
      show _ = (if m = n then some (wrapA .i64 ((c.D n).getD 0 + 1)) else c.D m).map (Value.int .i64)
      by_cases e : m = n
      · rw [if_pos e, if_pos e]; rfl
      · rw [if_neg e, if_neg e]
    · rw [h3] at g1
      rw [List.length_append, List.length_singleton, h4]
      show c.L + 1 = if (c.D n).isSome then c.L else c.L + 1
      rw [Option.map_eq_none_iff.1 g1]; rfl
  · refine ⟨h.put b (.map (es.modify j fun e => { e with key := .int .i64 n, val := .int .i64 (wrapA .i64 ((c.D n).getD 0 + 1)) }) cc h.clock), ?_, ⟨w.put hb rfl, Nat.le_refl _, fun x hx hn => by rw [H.get_put, if_neg hn]⟩, _, _, _, by rw [H.get_put, if_pos rfl], (g3 _).1, fun m => ?_, ?_⟩
    · simp only [mput, mputH, h1, g2, unit, Nat.zero_add]
    · rw [(g3 _).2 m, h3]
      show _ = (if m = n then some (wrapA .i64 ((c.D n).getD 0 + 1)) else c.D m).map (Value.int .i64)
      by_cases e : m = n
      · rw [if_pos e, if_pos e]; rfl
      · rw [if_neg e, if_neg e]
    · rw [h3] at g1
      obtain ⟨x, hx, rfl⟩ := Option.map_eq_some_iff.1 g1
      rw [List.length_modify, h4]
      show c.L = if (c.D n).isSome then c.L else c.L + 1
      rw [hx]; rfl
/-- one entry counted -/
theorem cnt_one {h : H} (w : WF h) {b : Nat} {c : Cn} (r : CnR h b c) (n : Int) :
    ∃ h', (cond (n != (0 : Int)) ((asI .i64 (mlook (Value.int .i64 (0 : Int)) h (some b) (Value.int .i64 n))).bind fun n20 => (mput (some b) (Value.int .i64 n) (Value.int .i64 (wrapA .i64 (n20 + (1 : Int)))) h).bind fun q21 => some ((), q21.2)) (some ((), h)) : Option (Unit × H)) = some ((), h') ∧ Ch (fun x => x = b) h h' ∧ CnR h' b (if n = 0 then c else bump c n) := by
  by_cases e : n = 0
  · rw [show (n != (0 : Int)) = false by rw [e]; rfl, cond_false, if_pos e]
    exact ⟨h, rfl, Ch.refl w, r⟩
  · rw [show (n != (0 : Int)) = true by rw [bne_iff_ne]; exact e, cond_true, if_neg e, r.look, asI_int]
    simp only [Option.bind_some]
    obtain ⟨h', a1, a2, a3⟩ := r.bump w n
    rw [a1]
    exact ⟨h', rfl, a2, a3⟩
theorem tcnt_l1 (k : Nat) {h0 : H} (w0 : WF h0) {b : Nat} {m : Sl} {l : List Int} (r : SlR 1 h0 m (ivs l)) (nb : ¬ SlB m b) (hl : l.length ≤ 10000) (c0 : Cn) (x11 : Sl) (x12 x13 : Int) : ∀ n i h, l.length - i < n → i ≤ l.length → Ch (fun x => x = b) h0 h → CnR h b (cntL c0 (l.take i)) →
    ∃ h', tree_Counts.l1 k n (some b) x11 x12 x13 m (Int.ofNat l.length) (Int.ofNat i) h = some ((), h') ∧ Ch (fun x => x = b) h0 h' ∧ CnR h' b (cntL c0 l)
  | 0, i, h, hf, _, _, _ => by omega
  | n + 1, i, h, hf, hi, C, R => by
    rw [tree_Counts.l1_succ]
    by_cases c : i < l.length
    rotate_left
    · rw [decNlt c, cond_false]
      rw [List.take_of_length_le (by omega)] at R
      exact ⟨h, rfl, C, R⟩
    rw [decLt c, cond_true]
    have rh : SlR 1 h m (ivs l) := r.keep fun x hx => C.keep x (r.blk w0 hx) fun f => nb (by subst f; exact hx)
    obtain ⟨_, p, e1, e2⟩ := SlR.int rh c
    rw [e1]
    simp only [asP_ptr, Option.bind_some]
    rw [e2, asI_int]
    simp only [Option.bind_some]
    obtain ⟨h1, a1, a2, a3⟩ := cnt_one C.wf R l[i]
    rw [a1]
    simp only [Option.bind_some]
    rw [wrap_succ (by omega)]
    refine tcnt_l1 k w0 r nb hl c0 x11 x12 x13 n (i + 1) h1 (by omega) c (C.trans a2 fun _ _ f => f) ?_
    rw [List.take_succ_eq_append_getElem c, cntL_app]
    exact a3
theorem rcnt_l1 (k : Nat) {h0 : H} (w0 : WF h0) {b : Nat} {s : Sl} {vs : List Vs} (T : TreeR h0 s vs) {j : Nat} (hj : j < vs.length) (ns : ¬ SlB s b) (nb : ¬ SlB vs[j].2 b) (hl : vs[j].1.mp.length ≤ 10000) (c0 : Cn) : ∀ n i h, vs[j].1.mp.length - i < n → i ≤ vs[j].1.mp.length → Ch (fun x => x = b) h0 h → CnR h b (cntL c0 (vs[j].1.mp.take i)) →
    ∃ h', corbelref16_Counts.l1 k n s (some b) (Int.ofNat j) (Int.ofNat i) h = some ((), h') ∧ Ch (fun x => x = b) h0 h' ∧ CnR h' b (cntL c0 vs[j].1.mp)
  | 0, i, h, hf, _, _, _ => by omega
  | n + 1, i, h, hf, hi, C, R => by
    rw [corbelref16_Counts.l1_succ]
    have Th : TreeR h s vs → True := fun _ => trivial
    have sl : SlR 5 h s (vs.map voL).flatten := T.sl.keep fun x hx => C.keep x (T.sl.blk w0 hx) fun f => ns (by subst f; exact hx)
    have r := T.mp _ (List.getElem_mem hj)
    have rh : SlR 1 h vs[j].2 (ivs vs[j].1.mp) := r.keep fun x hx => C.keep x (r.blk w0 hx) fun f => nb (by subst f; exact hx)
    have at_ : ∃ bb o, ixs 5 s.a s.n (Int.ofNat j) = some (.pointer (some ⟨bb, o, none⟩)) ∧ ldc h (some ⟨bb, o + 4, none⟩) = (voL vs[j])[4]? := by
      obtain ⟨bb, o, e1, e2⟩ := sl.elem (j := j) (by rw [T.n]; exact hj)
      rw [flat_at (vo_es vs) j (by rw [List.length_map]; exact hj), List.getElem_map] at e2
      exact ⟨bb, o, e1, gets_cell e2 (by decide)⟩
    obtain ⟨bb, o, e1, e2⟩ := at_
    rw [e1]
    simp only [asP_ptr, Option.bind_some, fadd_at]
    rw [e2, show asS ((voL vs[j])[4]?) = some vs[j].2 from asS_slv _]
    simp only [Option.bind_some]
    rw [SlR.ivn rh]
    by_cases c : i < vs[j].1.mp.length
    rotate_left
    · rw [decNlt c, cond_false]
      rw [List.take_of_length_le (by omega)] at R
      exact ⟨h, rfl, C, R⟩
    rw [decLt c, cond_true]
    obtain ⟨_, p, f1, f2⟩ := SlR.int rh c
    rw [SlR.ivn rh] at f1
    rw [f1]
    simp only [asP_ptr, Option.bind_some]
    rw [f2, asI_int]
    simp only [Option.bind_some]
    obtain ⟨h1, a1, a2, a3⟩ := cnt_one C.wf R vs[j].1.mp[i]
    rw [a1]
    simp only [Option.bind_some]
    rw [wrap_succ (by omega)]
    refine rcnt_l1 k w0 T hj ns nb hl c0 n (i + 1) h1 (by omega) c (C.trans a2 fun _ _ f => f) ?_
    rw [List.take_succ_eq_append_getElem c, cntL_app]
    exact a3
/-- all maps, one behind the other -/
def allM (t : List Vol) : List Int := (t.map (·.mp)).flatten
theorem allM_succ {vs : List Vs} {i : Nat} (c : i < vs.length) : allM ((vols vs).take (i + 1)) = allM ((vols vs).take i) ++ vs[i].1.mp := by
  unfold allM
  rw [List.take_succ_eq_append_getElem (by rw [vols_len]; exact c), List.map_append, List.flatten_append]
  simp only [vols, List.getElem_map, List.map_cons, List.map_nil, List.flatten_cons, List.flatten_nil, List.append_nil]
theorem tcnt_l0 (k : Nat) (hk : 20000 < k) {h0 : H} (w0 : WF h0) {b : Nat} {s : Sl} {vs : List Vs} (T : TreeR h0 s vs) (B : TreeB vs) (ns : ¬ SlB s b) (nb : ∀ q ∈ vs, ¬ SlB q.2 b) (hb : b < h0.next) : ∀ n i h, vs.length - i < n → i ≤ vs.length → Ch (fun x => x = b) h0 h → CnR h b (cntL ⟨fun _ => none, 0⟩ (allM ((vols vs).take i))) →
    ∃ h', tree_Counts.l0 k n (some b) s (Int.ofNat vs.length) (Int.ofNat i) h = some ((), h') ∧ Ch (fun x => x = b) h0 h' ∧ CnR h' b (cntL ⟨fun _ => none, 0⟩ (allM (vols vs)))
  | 0, i, h, hf, _, _, _ => by omega
  | n + 1, i, h, hf, hi, C, R => by
    rw [tree_Counts.l0_succ]
    have hn := B.n
    by_cases c : i < vs.length
    rotate_left
    · rw [decNlt c, cond_false]
      rw [List.take_of_length_le (by rw [vols_len]; omega)] at R
      exact ⟨h, rfl, C, R⟩
    rw [decLt c, cond_true]
    have sl : SlR 5 h s (vs.map voL).flatten := T.sl.keep fun x hx => C.keep x (T.sl.blk w0 hx) fun f => ns (by subst f; exact hx)
    have Th : TreeR h s vs := ⟨sl, fun q hq => (T.mp q hq).keep fun x hx => C.keep x ((T.mp q hq).blk w0 hx) fun f => nb q hq (by subst f; exact hx)⟩
    obtain ⟨bb, o, e1, e2, _⟩ := Th.at c
    rw [e1]
    simp only [asP_ptr, Option.bind_some]
    rw [e2, bindVo]
    have hM := Th.mp _ (List.getElem_mem c)
    have hB := B.nm _ (List.getElem_mem c)
    have hS := allM_succ c
    have hN := nb _ (List.getElem_mem c)
    generalize vs[i] = q at hM hB hS hN
    dsimp only [voT]
    rw [show [Value.string (ba q.1.nm), Value.string (ba q.1.pa), Value.bool q.1.sn, Value.int .i64 q.1.sz, Value.slice q.2.a q.2.n q.2.c] = voL q from rfl, show [Value.string (⟨#[]⟩ : ByteArray), Value.string (⟨#[]⟩ : ByteArray), Value.bool false, Value.int .i64 (0 : Int), Value.slice none 0 0] = zVo from rfl]
    obtain ⟨h1, b1, b2, b3, b4⟩ := box_ok C.wf 58 5 zVo (voL q) rfl rfl rfl
    rw [b1]
    simp only [Option.bind_some]
    rw [show asS (ldc h1 (some ⟨h.next, 4, none⟩)) = some q.2 by rw [b4.ldc]; exact asS_slv _]
    simp only [Option.bind_some]
    have C1 : Ch (fun x => x = b) h0 h1 := C.trans b2 fun _ _ f => f.elim
    have M1 := hM.stay C.wf b2
    obtain ⟨h2, a1, a2, a3⟩ := tcnt_l1 k b2.wf M1 hN hB.2.2 (cntL ⟨fun _ => none, 0⟩ (allM ((vols vs).take i))) s (Int.ofNat vs.length) (Int.ofNat i) k 0 h1 (by omega) (Nat.zero_le _) (Ch.refl b2.wf) (R.stay C.wf b2)
    rw [SlR.ivn M1, show (0 : Int) = Int.ofNat 0 from rfl, a1]
    simp only [Option.bind_some]
    rw [wrap_succ (by omega)]
    refine tcnt_l0 k hk w0 T B ns nb hb n (i + 1) h2 (by omega) c (C1.trans a2 fun _ _ f => f) ?_
    rw [hS, cntL_app]
    exact a3
theorem rcnt_l0 (k : Nat) (hk : 20000 < k) {h0 : H} (w0 : WF h0) {b : Nat} {s : Sl} {vs : List Vs} (T : TreeR h0 s vs) (B : TreeB vs) (ns : ¬ SlB s b) (nb : ∀ q ∈ vs, ¬ SlB q.2 b) : ∀ n i h, vs.length - i < n → i ≤ vs.length → Ch (fun x => x = b) h0 h → CnR h b (cntL ⟨fun _ => none, 0⟩ (allM ((vols vs).take i))) →
    ∃ h', corbelref16_Counts.l0 k n s (some b) (Int.ofNat i) h = some ((), h') ∧ Ch (fun x => x = b) h0 h' ∧ CnR h' b (cntL ⟨fun _ => none, 0⟩ (allM (vols vs)))
  | 0, i, h, hf, _, _, _ => by omega
  | n + 1, i, h, hf, hi, C, R => by
    rw [corbelref16_Counts.l0_succ]
    have hn := B.n
    rw [T.n]
    by_cases c : i < vs.length
    rotate_left
    · rw [decNlt c, cond_false]
      rw [List.take_of_length_le (by rw [vols_len]; omega)] at R
      exact ⟨h, rfl, C, R⟩
    rw [decLt c, cond_true]
    have sl : SlR 5 h s (vs.map voL).flatten := T.sl.keep fun x hx => C.keep x (T.sl.blk w0 hx) fun f => ns (by subst f; exact hx)
    have Th : TreeR h s vs := ⟨sl, fun q hq => (T.mp q hq).keep fun x hx => C.keep x ((T.mp q hq).blk w0 hx) fun f => nb q hq (by subst f; exact hx)⟩
    have hS := allM_succ c
    obtain ⟨h2, a1, a2, a3⟩ := rcnt_l1 k C.wf Th c ns (nb _ (List.getElem_mem c)) (B.nm _ (List.getElem_mem c)).2.2 (cntL ⟨fun _ => none, 0⟩ (allM ((vols vs).take i))) k 0 h (by have := (B.nm _ (List.getElem_mem c)).2.2; omega) (Nat.zero_le _) (Ch.refl C.wf) R
    rw [show (0 : Int) = Int.ofNat 0 from rfl, a1]
    simp only [Option.bind_some]
    rw [wrap_succ (by omega)]
    refine rcnt_l0 k hk w0 T B ns nb n (i + 1) h2 (by omega) c (C.trans a2 fun _ _ f => f) ?_
    rw [hS, cntL_app]
    exact a3
theorem Ch0.key {h h1 h2 : H} {b : Nat} (c : Ch0 h h1) (d : Ch (fun x => x = b) h1 h2) (hb : h.next ≤ b) : Ch0 h h2 := c.trans d fun x hx f => by omega
theorem tcnt_f (k : Nat) (hk : 20000 < k) {h : H} (w : WF h) {s : Sl} {vs : List Vs} (T : TreeR h s vs) (B : TreeB vs) (Tl : ∀ x, SlB s x → x < h.next) (Ml : ∀ q ∈ vs, ∀ x, SlB q.2 x → x < h.next) :
    ∃ b h', tree_Counts.f k s h = some (some b, h') ∧ Ch0 h h' ∧ CnR h' b (cntL ⟨fun _ => none, 0⟩ (allM (vols vs))) := by
  unfold tree_Counts.f
  obtain ⟨n1, n2⟩ := CnR.new w
  have hn := B.n
  obtain ⟨h', a1, a2, a3⟩ := tcnt_l0 k hk n1.wf (b := h.next) (T.stay w n1) B (fun f => by have := Tl _ f; omega) (fun q hq f => by have := Ml q hq _ f; omega) (Nat.lt_succ_self _) k 0 _ (by omega) (Nat.zero_le _) (Ch.refl n1.wf) n2
  rw [T.n, show (0 : Int) = Int.ofNat 0 from rfl, a1]
  exact ⟨h.next, h', rfl, Ch0.key n1 a2 (Nat.le_refl _), a3⟩
theorem rcnt_f (k : Nat) (hk : 20000 < k) {h : H} (w : WF h) {s : Sl} {vs : List Vs} (T : TreeR h s vs) (B : TreeB vs) (Tl : ∀ x, SlB s x → x < h.next) (Ml : ∀ q ∈ vs, ∀ x, SlB q.2 x → x < h.next) :
    ∃ b h', corbelref16_Counts.f k s h = some (some b, h') ∧ Ch0 h h' ∧ CnR h' b (cntL ⟨fun _ => none, 0⟩ (allM (vols vs))) := by
  unfold corbelref16_Counts.f
  obtain ⟨n1, n2⟩ := CnR.new w
  have hn := B.n
  obtain ⟨h', a1, a2, a3⟩ := rcnt_l0 k hk n1.wf (b := h.next) (T.stay w n1) B (fun f => by have := Tl _ f; omega) (fun q hq f => by have := Ml q hq _ f; omega) k 0 _ (by omega) (Nat.zero_le _) (Ch.refl n1.wf) n2
  rw [show (0 : Int) = Int.ofNat 0 from rfl, a1]
  exact ⟨h.next, h', rfl, Ch0.key n1 a2 (Nat.le_refl _), a3⟩
end Go.Proofs.Ytfenkpghcbohdaa.Fw
