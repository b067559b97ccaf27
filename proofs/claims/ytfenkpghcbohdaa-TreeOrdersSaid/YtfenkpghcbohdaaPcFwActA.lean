/- Trees acted upon, by the program: copied, sized, found, one put in. No condition. -/
import Derived.Test.YtfenkpghcbohdaaPcFwActP
import Derived.Test.YtfenkpghcbohdaaPcFTree
namespace Go.Proofs.Ytfenkpghcbohdaa.Fw
open Go Den Fwd
set_option linter.unusedVariables false
set_option linter.unusedSimpArgs false
/-! ### a map of another size -/
theorem ivs_take (l : List Int) (n : Nat) : (ivs l).take n = ivs (l.take n) := by unfold ivs; rw [List.map_take]
theorem ivs_drop (l : List Int) (n : Nat) : (ivs l).drop n = ivs (l.drop n) := by unfold ivs; rw [List.map_drop]
theorem ivs_app (l m : List Int) : ivs l ++ ivs m = ivs (l ++ m) := by unfold ivs; rw [List.map_append]
theorem ivs_rep (n : Nat) : List.replicate n (Value.int .i64 0) = ivs (List.replicate n 0) := by unfold ivs; rw [List.map_replicate]
theorem ivs_one (l : List Int) : (ivs l).all Den.one = true := by rw [List.all_eq_true]; intro v hv; obtain ⟨n, _, rfl⟩ := List.mem_map.1 hv; rfl
theorem xsized_l0 (k : Nat) {h0 : H} (w0 : WF h0) (x5 : Sl) {s : Sl} {l : List Int} (r : SlR 1 h0 s (ivs l)) (hl : l.length ≤ 10000) : ∀ n i h t us, l.length - i < n → i ≤ l.length → Ch0 h0 h → Ow 3 1 h t (ivs us) → (∀ x, SlB t x → h0.next ≤ x) → us.length ≤ i →
    ∃ t' h', extent_Sized.l0 k n x5 s (Int.ofNat l.length) t (Int.ofNat i) h = some (t', h') ∧ Ch0 h0 h'
  | 0, i, h, t, us, hf, _, _, _, _, _ => by omega
  | n + 1, i, h, t, us, hf, hi, C, O, F, ul => by
    rw [extent_Sized.l0_succ]
    by_cases c : i < l.length
    · rw [decLt c, cond_true]
      obtain ⟨_, p, e1, e2⟩ := SlR.int (r.stay w0 C) c
      rw [e1]
      simp only [asP_ptr, Option.bind_some, e2, asI_int]
      cases z : l[i] != (0 : Int) with
      | true =>
        simp only [cond_true]
        obtain ⟨t', h', a1, a2, a3, a4⟩ := push_i C.wf O l[i] (by omega)
        rw [a1]
        simp only [Option.bind_some]
        rw [wrap_succ (by omega)]
        exact xsized_l0 k w0 x5 r hl n (i + 1) h' t' _ (by omega) (by omega) (Ch0.own C a2 F) a3 (fun x hx => (a4 x hx).elim (F x) fun f => Nat.le_trans C.le f) (by rw [List.length_append, List.length_singleton]; omega)
      | false =>
        simp only [cond_false, Option.bind_some]
        rw [wrap_succ (by omega)]
        exact xsized_l0 k w0 x5 r hl n (i + 1) h t us (by omega) (by omega) C O F (by omega)
    · rw [decNlt c, cond_false]
      exact ⟨t, h, rfl, C⟩
theorem xsized_f (k : Nat) (hk : 20000 < k) {h : H} (w : WF h) {s : Sl} {l : List Int} (r : SlR 1 h s (ivs l)) (hl : l.length ≤ 10000) (sz : Int) :
    ∃ t t2 h', extent_Sized.f k s sz h = some ((t, t2), h') ∧ Ch0 h h' ∧ (okSize sz = true → Ow 3 1 h' t (ivs (sizedP l sz)) ∧ ∀ x, SlB t x → h.next ≤ x) ∧ (okSize sz = false → t = ⟨none, 0, 0⟩) := by
  unfold extent_Sized.f extent_sized.f
  rw [size_cond]
  simp only [Option.bind_some]
  cases hz : okSize sz with
  | false => exact ⟨_, _, h, rfl, Ch.refl w, (fun f => by cases f), (fun _ => rfl)⟩
  | true =>
    simp only [Bool.not_true, cond_false]
    obtain ⟨z1, z2, z3⟩ := okSize_iff.1 hz
    obtain ⟨m, hm⟩ : ∃ m : Nat, sz / 8 = Int.ofNat m := ⟨_, nn _ (by omega)⟩
    have hm' := hm
    simp only [Int.ofNat_eq_natCast] at hm'
    have hmn : (sz / 8).toNat = m := by omega
    rw [Int.tdiv_eq_ediv_of_nonneg z1, wrap_in (n := sz / 8) (by omega) (by omega), hm]
    rw [mkz_ok (.int .i64 0) rfl (by omega) (by omega)]
    obtain ⟨n1, n2, n3⟩ := newZ_ok w 3 1 (.int .i64 0) m
    rw [Nat.mul_one, ivs_rep] at n3
    rw [show asS2 (some (Value.slice (some ⟨h.next, 0, none⟩) m m, newZ h 3 1 [Value.int .i64 0] m)) = some ((⟨some ⟨h.next, 0, none⟩, m, m⟩ : Sl), newZ h 3 1 [Value.int .i64 0] m) from rfl]
    simp only [Option.bind_some]
    generalize newZ h 3 1 [Value.int .i64 0] m = g at n1 n2 n3 ⊢
    have r1 := r.stay w n1
    have sn := SlR.ivn r
    obtain ⟨h2, w1, w2, w3, w4⟩ := cpy_ok (l := []) n1.wf (es := 1) (d := ⟨some ⟨h.next, 0, none⟩, m, m⟩) rfl n3 (by rw [ivs_len, List.length_replicate]; show 0 + m * 1 ≤ m; omega) r1 (ivs_one l)
    rw [w1]
    rw [show asI2 .i64 (some (Value.int .i64 (Int.ofNat (min s.n m)), h2)) = some (Int.ofNat (min s.n m), h2) from rfl]
    simp only [Option.bind_some]
    have C2 : Ch0 h h2 := Ch0.at n1 w2 (Nat.le_refl _)
    have em : (cond (decide (Int.ofNat s.n < Int.ofNat m)) (Int.ofNat s.n) (Int.ofNat m)) = Int.ofNat (min m l.length) := by
      rw [sn]
      by_cases c : l.length < m
      · rw [decLt c, cond_true, Nat.min_eq_right (by omega)]
      · rw [decNlt c, cond_false, Nat.min_eq_left (by omega)]
    rw [em]
    obtain ⟨s4, a1, a2, a3, a4⟩ := subs_ok (r.stay w C2) (lo := min m l.length) (hi := l.length) (Nat.min_le_right _ _) (by omega) (xlo := some (Int.ofNat (min m l.length))) (xhi := none) rfl (by rw [sn]; rfl)
    rw [a1]
    rw [show (some (Value.slice s4.a s4.n s4.c)) = some (slv s4) from rfl, asS_slv]
    simp only [Option.bind_some]
    rw [Nat.mul_one, Nat.mul_one, ivs_drop, ivs_take] at a3
    have l4 : ((l.drop (min m l.length)).take (l.length - min m l.length)).length = s4.n := by rw [a2, List.length_take, List.length_drop]; omega
    obtain ⟨t', h3, b1, b2⟩ := xsized_l0 k w2.wf ⟨some ⟨h.next, 0, none⟩, m, m⟩ a3 (by rw [l4, a2]; omega) k 0 h2 ⟨none, 0, 0⟩ [] (by rw [l4, a2]; omega) (Nat.zero_le _) (Ch.refl w2.wf) Ow.nil (fun x f => absurd f noSlB) (Nat.zero_le _)
    rw [l4] at b1
    rw [show (0 : Int) = Int.ofNat 0 from rfl, b1]
    refine ⟨_, _, h3, rfl, C2.then b2, fun _ => ⟨?_, fun x ⟨o, f⟩ => by have : h.next = x := congrArg Addr.block (Option.some.inj f); omega⟩, fun f => by cases f⟩
    have e : over (ivs (List.replicate m 0)) 0 ((ivs l).take (min s.n m * 1)) = ivs (sizedP l sz) := by
      unfold over sizedP zerosI
      rw [hmn, sn, Nat.mul_one, List.take_zero, List.nil_append, ivs_take, ivs_len, List.length_take, Nat.zero_add, ivs_drop, List.drop_replicate, ivs_app]
      congr 1
      by_cases c : l.length ≤ m
      · rw [Nat.min_eq_left c, List.take_of_length_le (Nat.le_refl _), Nat.min_eq_left (Nat.le_refl _), List.take_append, List.take_of_length_le c, List.take_replicate]
        congr 2
        omega
      · rw [Nat.min_eq_right (by omega), Nat.min_eq_left (by omega), Nat.sub_self, List.replicate_zero, List.append_nil, List.take_append_of_le_length (by omega)]
    rw [e] at w4
    have ln : (sizedP l sz).length = m := by
      unfold sizedP zerosI
      rw [hmn, List.length_take, List.length_append, List.length_replicate]; omega
    exact (Ow.of_is w4 (n := m) (by rw [ivs_len, ln, Nat.mul_one]) (by unfold unk; omega)).stay w2.wf b2
/-! ### cloned, copied -/
theorem isnil_f (a : Option Addr) (n c : Nat) : asB (binO1 Try.prog .eql 29 (Value.slice a n c) (Value.slice none 0 0)) = some a.isNone := by
  cases a <;> simp [binO1, binB, binA, eqA, Try.underlying29, asB]
theorem clone_f (k : Nat) {h : H} (w : WF h) {s : Sl} {l : List Int} (r : SlR 1 h s (ivs l)) (hl : l.length ≤ 10000) :
    ∃ t h', slices_Clone_int_int.f k s h = some (t, h') ∧ Ch0 h h' ∧ Ow 3 1 h' t (ivs l) ∧ ∀ x, SlB t x → h.next ≤ x := by
  unfold slices_Clone_int_int.f
  rw [isnil_f]
  simp only [Option.bind_some]
  cases ha : s.a with
  | none =>
    have e : l = [] := by
      rcases r with ⟨e, _⟩ | ⟨b, o, e, _⟩
      · unfold ivs at e
        exact List.map_eq_nil_iff.1 e
      · rw [ha] at e; cases e
    subst e
    exact ⟨_, h, rfl, Ch.refl w, Ow.nil, fun x f => absurd f noSlB⟩
  | some a =>
    simp only [Option.isNone_some, cond_false]
    obtain ⟨m, h2, d1, d2, d3, d4⟩ := dup_ok w r hl
    rw [ha] at d1
    rw [d1]
    exact ⟨m, h2, rfl, d2, d3, d4⟩
theorem tcopied_f (k : Nat) {h : H} (w : WF h) (q : Vs) (r : SlR 1 h q.2 (ivs q.1.mp)) (hl : q.1.mp.length ≤ 10000) :
    ∃ m h', tree_copied.f k (voT q) h = some (voT (q.1, m), h') ∧ Ch0 h h' ∧ Ow 3 1 h' m (ivs q.1.mp) ∧ ∀ x, SlB m x → h.next ≤ x := by
  unfold tree_copied.f voT
  dsimp only
  rw [show [Value.string (ba q.1.nm), Value.string (ba q.1.pa), Value.bool q.1.sn, Value.int .i64 q.1.sz, Value.slice q.2.a q.2.n q.2.c] = voL q from rfl, show [Value.string (⟨#[]⟩ : ByteArray), Value.string (⟨#[]⟩ : ByteArray), Value.bool false, Value.int .i64 (0 : Int), Value.slice none 0 0] = zVo from rfl]
  obtain ⟨y1, y2, y3⟩ := newR_ok w 58 5 (voL q)
  generalize newR h 58 5 (voL q) = g at y1 y2 y3 ⊢
  obtain ⟨z1, z2, z3⟩ := newR_ok y1.wf 58 5 zVo
  generalize newR g 58 5 zVo = f at z1 z2 z3 ⊢
  have I := y3.stay y1.wf z1
  have C := y1.then z1
  rw [show asS (ldc f (some ⟨h.next, 4, none⟩)) = some q.2 by rw [I.ldc]; exact asS_slv _]
  simp only [Option.bind_some]
  obtain ⟨m, h2, a1, a2, a3, a4⟩ := clone_f k C.wf (r.stay w C) hl
  rw [a1]
  simp only [Option.bind_some]
  obtain ⟨h3, b1, b2, b3, b4⟩ := (I.stay C.wf a2).set a2.wf 4 (slv m) (by show 4 < 5; decide) rfl
  rw [show [Value.slice m.a m.n m.c] = [slv m] from rfl, b1]
  simp only [Option.bind_some]
  have b4 : Is h3 h.next 58 5 (voL (q.1, m)) := b4
  rw [ldaIs (n := 5) b4 rfl, bindVo]
  dsimp only [voT]
  rw [show [Value.string (ba q.1.nm), Value.string (ba q.1.pa), Value.bool q.1.sn, Value.int .i64 q.1.sz, Value.slice m.a m.n m.c] = voL (q.1, m) from rfl]
  have fl := C.le
  have Z3 := (z3.stay z1.wf a2).keep (b2.keep g.next (by have := a2.le; omega) (by omega))
  obtain ⟨h4, c1, c2, c3, c4⟩ := Is.whole b2.wf Z3 rfl (voL (q.1, m)) rfl rfl
  rw [c1]
  simp only [Option.bind_some]
  rw [ldaIs (n := 5) c4 rfl, bindVo]
  have C3 := Ch0.at (C.then a2) b2 (Nat.le_refl _)
  refine ⟨m, h4, rfl, Ch0.at C3 c2 (by omega), ?_, fun x hx => by have := a4 x hx; omega⟩
  exact a3.keep fun b hb => by
    have := a4 b hb
    have := a3.lt a2.wf hb
    rw [c2.keep b (by omega) (by omega)]
    exact b2.keep b (by omega) (by omega)
theorem all_l0 (k : Nat) {h0 : H} (w0 : WF h0) {s : Sl} {vs : List Vs} (T : TreeR h0 s vs) (B : TreeB vs) (x1 : Sl) : ∀ n i h t us, vs.length - i < n → i ≤ vs.length → Ch0 h0 h → TreeO h t us → Fresh h0.next t us → vols us = (vols vs).take i →
    ∃ t' h' us', tree_all.l0 k n s (Int.ofNat vs.length) t (Int.ofNat i) h = some (t', h') ∧ Ch0 h0 h' ∧ TreeO h' t' us' ∧ Fresh h0.next t' us' ∧ vols us' = vols vs
  | 0, i, h, t, us, hf, _, _, _, _, _ => by omega
  | n + 1, i, h, t, us, hf, hi, C, O, F, e => by
    rw [tree_all.l0_succ]
    have hn := B.n
    have ul : us.length = i := by
      have := congrArg List.length e
      rw [vols_len, List.length_take, vols_len] at this
      omega
    by_cases c : i < vs.length
    · rw [decLt c, cond_true]
      obtain ⟨b, o, e1, e2, e3⟩ := (T.stay w0 C).at c
      rw [e1]
      simp only [asP_ptr, Option.bind_some]
      rw [e2, bindVo]
      dsimp only [voT]
      have hB := B.nm _ (List.getElem_mem c)
      have hM := T.mp _ (List.getElem_mem c)
      generalize hq : vs[i] = q at hB hM
      rw [show [Value.string (ba q.1.nm), Value.string (ba q.1.pa), Value.bool q.1.sn, Value.int .i64 q.1.sz, Value.slice q.2.a q.2.n q.2.c] = voL q from rfl, show [Value.string (⟨#[]⟩ : ByteArray), Value.string (⟨#[]⟩ : ByteArray), Value.bool false, Value.int .i64 (0 : Int), Value.slice none 0 0] = zVo from rfl]
      obtain ⟨h1, b1, b2, b3, b4⟩ := box_ok C.wf 58 5 zVo (voL q) rfl rfl rfl
      rw [b1]
      simp only [Option.bind_some]
      rw [ldaIs (n := 5) b4 rfl, bindVo]
      have C1 := C.then b2
      obtain ⟨m, h2, d1, d2, d3, d4⟩ := tcopied_f k b2.wf q (hM.stay w0 C1) (by omega)
      have d1 : tree_copied.f k ((voT q).1, (voT q).2.1, (voT q).2.2.1, (voT q).2.2.2.1, (voT q).2.2.2.2) h1 = _ := d1
      dsimp only [voT] at d1 ⊢
      rw [d1]
      simp only [Option.bind_some]
      rw [show [Value.string (ba q.1.nm), Value.string (ba q.1.pa), Value.bool q.1.sn, Value.int .i64 q.1.sz, Value.slice m.a m.n m.c] = voL (q.1, m) from rfl]
      have C2 := C1.then d2
      have O2 := O.stay C.wf (b2.then d2)
      have lt1 : h.next ≤ h1.next := b2.le
      obtain ⟨t1, h4, g1, g2, g3, g4⟩ := push_vo C2.wf O2.ow (q.1, m) (by omega)
      rw [g1]
      simp only [Option.bind_some]
      rw [wrap_succ (by omega)]
      have mf : ∀ x, SlB m x → h.next ≤ x := fun x hx => by have := d4 x hx; omega
      have O4 := TreeO.push C2.wf O2 g2 (q.1, m) d3 (fun x hx f => by have := mf x f; have := O.ow.lt C.wf hx; omega) (fun a ha x hx f => by have := mf x f; have := (O.mp a ha).lt C.wf hx; omega) g3 g4
      have F4 : Fresh h0.next t1 (us ++ [(q.1, m)]) := by
        refine ⟨fun x hx => (g4 x hx).elim (F.1 x) fun f => Nat.le_trans C2.le f, fun a ha x hx => ?_⟩
        rcases List.mem_append.1 ha with z | z
        · exact F.2 a z x hx
        · rw [List.mem_singleton.1 z] at hx; exact Nat.le_trans C.le (mf x hx)
      have hv : (vols vs)[i]'(by rw [vols_len]; exact c) = q.1 := by simp only [vols, List.getElem_map, hq]
      exact all_l0 k w0 T B x1 n (i + 1) h4 t1 (us ++ [(q.1, m)]) (by omega) (by omega) (Ch0.own C2 g2 F.1) O4 F4 (by
        rw [List.take_succ_eq_append_getElem (by rw [vols_len]; exact c), hv, ← e]
        unfold vols
        rw [List.map_append]; rfl)
    · rw [decNlt c, cond_false]
      exact ⟨t, h, us, rfl, C, O, F, by rw [e, List.take_of_length_le (by rw [vols_len]; omega)]⟩
theorem all_f (k : Nat) (hk : 20000 < k) {h : H} (w : WF h) {s : Sl} {vs : List Vs} (T : TreeR h s vs) (B : TreeB vs) :
    ∃ t h' us, tree_all.f k s h = some (t, h') ∧ Ch0 h h' ∧ TreeO h' t us ∧ Fresh h.next t us ∧ vols us = vols vs := by
  unfold tree_all.f
  have hn := B.n
  obtain ⟨t, h', us, a1, a2⟩ := all_l0 k w T B s k 0 h ⟨none, 0, 0⟩ [] (by omega) (Nat.zero_le _) (Ch.refl w) TreeO.nil Fresh.nil rfl
  rw [T.n, show (0 : Int) = Int.ofNat 0 from rfl, a1]
  exact ⟨t, h', us, rfl, a2⟩
/-! ### found -/
theorem TreeR.far {h h' : H} {s : Sl} {vs : List Vs} (w : WF h) {g : H} (c0 : Ch0 h g) (T : TreeR h s vs) {rb : Nat} (hr : h.next ≤ rb) (c : Ch (fun z => z = rb) g h') : TreeR h' s vs := T.stay w (Ch0.at c0 c hr)
end Go.Proofs.Ytfenkpghcbohdaa.Fw
