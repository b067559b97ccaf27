/- One volume put in, by the program. No condition. -/
import Derived.Test.YtfenkpghcbohdaaPcFwActA
namespace Go.Proofs.Ytfenkpghcbohdaa.Fw
open Go Den Fwd
set_option linter.unusedVariables false
set_option linter.unusedSimpArgs false
theorem tat2_f (k : Nat) (hk : 2000 < k) {h : H} (w : WF h) {s : Sl} {vs : List Vs} (T : TreeR h s vs) (hn : vs.length ≤ 1000) (S : SortV vs) (nm : List UInt8) :
    ∃ r fo h', tree_at.f k s (ba nm) h = some ((Int.ofNat r, fo), h') ∧ Ch0 h h' ∧ r ≤ vs.length ∧ (∀ a (ha : a < vs.length), a < r → less vs[a].1.nm nm = true) ∧ (∀ ha : r < vs.length, less vs[r].1.nm nm = false) ∧ fo = hasV (vols vs) nm ∧ (fo = true → ∃ hr : r < vs.length, vs[r].1.nm = nm) := by
  unfold tree_at.f slices_BinarySearchFunc_api_Volume_api_Volume_string_tree_at_1.f
  obtain ⟨r, h1, a1, a2, a3, a4, a5⟩ := bs_l0 k w T hn S nm (Int.ofNat s.n) k 0 vs.length h (by omega) (Nat.zero_le _) (Nat.le_refl _) (Ch.refl w) (fun a ha f => by omega) (fun a ha f => by omega)
  rw [show Int.ofNat s.n = Int.ofNat vs.length by rw [T.n]] at a1 ⊢
  rw [show (0 : Int) = Int.ofNat 0 from rfl, a1]
  simp only [Option.bind_some]
  have no : ∀ (hr : ∀ hr : r < vs.length, vs[r].1.nm ≠ nm), hasV (vols vs) nm = false := fun hr => hasV_no.2 fun u hu e => by
    obtain ⟨q, hq, rfl⟩ := List.mem_map.1 hu
    obtain ⟨j, hj, rfl⟩ := List.mem_iff_getElem.1 hq
    rcases Nat.lt_trichotomy j r with g | g | g
    · have := a4 j hj g
      rw [e, less_irr] at this
      cases this
    · subst g
      exact hr hj e
    · have h1 := S.lt hj g
      rw [e] at h1
      rw [a5 r (by omega) (Nat.le_refl _)] at h1
      cases h1
  by_cases c : r < vs.length
  · rw [decLt c]
    obtain ⟨b, o, e1, e2, e3⟩ := (T.stay w a2).at c
    simp only [cond_true]
    rw [e1]
    simp only [asP_ptr, Option.bind_some]
    rw [e2, bindVo]
    obtain ⟨h3, f1, f2⟩ := tat1_f k a2.wf vs[r] nm
    have f1 : tree_at_1.f k (ba vs[r].1.nm, ba vs[r].1.pa, vs[r].1.sn, vs[r].1.sz, vs[r].2) (ba nm) h1 = _ := f1
    dsimp only [voT]
    rw [f1]
    simp only [Option.bind_some]
    obtain ⟨g1, g2⟩ := cmp_lt vs[r].1.nm nm
    by_cases d : vs[r].1.nm = nm
    · exact ⟨r, true, h3, by rw [g2.2 d]; rfl, a2.then f2, a3, a4, (fun ha => a5 r ha (Nat.le_refl _)), (hasV_iff.2 ⟨vs[r].1, mem_vols c, d⟩).symm, fun _ => ⟨c, d⟩⟩
    · refine ⟨r, false, h3, ?_, a2.then f2, a3, a4, (fun ha => a5 r ha (Nat.le_refl _)), (no fun _ => d).symm, fun f => by cases f⟩
      rw [show (Lib.compareBytes vs[r].1.nm nm == Int.ofNat 0) = false by rw [beq_eq_false_iff_ne]; exact fun f => d (g2.1 f)]
  · rw [decNlt c]
    exact ⟨r, false, h1, rfl, a2, a3, a4, (fun ha => absurd ha c), (no fun hr => absurd hr c).symm, fun f => by cases f⟩
/-! ### slices.Insert -/
theorem insert_f (k : Nat) {h : H} (w : WF h) {s : Sl} {vs : List Vs} (o : Ow 58 5 h s (vs.map voL).flatten) (hn : vs.length ≤ 1000) {vb : Nat} {q : Vs} (I : Is h vb 58 5 (voL q)) (nb : ¬ SlB s vb) {i : Nat} (hi : i ≤ vs.length) :
    ∃ s' h', slices_Insert_vol.f k s (Int.ofNat i) ⟨some ⟨vb, 0, none⟩, 1, 1⟩ h = some (s', h') ∧ Ch (SlB s) h h' ∧ Ow 58 5 h' s' ((vs.take i ++ q :: vs.drop i).map voL).flatten ∧ ∀ b, SlB s' b → SlB s b ∨ h.next ≤ b := by
  unfold slices_Insert_vol.f insS
  have Rv : SlR 5 h ⟨some ⟨vb, 0, none⟩, 1, 1⟩ (([q].map voL).flatten) := by
    rw [vo_sing]
    exact SlR.of_is I (n := 1) rfl (by unfold unk; omega)
  have sn := Ow.von o
  -- at the end: append
  have app : i = vs.length → asS2 (apv 58 5 72 (.slice s.a s.n s.c) (.slice (some ⟨vb, 0, none⟩) 1 1) h) = asS2 (insV s.a s.n s.c i (.slice (some ⟨vb, 0, none⟩) 1 1) h) → ∃ s' h', asS2 (insV s.a s.n s.c i (.slice (some ⟨vb, 0, none⟩) 1 1) h) = some (s', h') ∧ Ch (SlB s) h h' ∧ Ow 58 5 h' s' ((vs.take i ++ q :: vs.drop i).map voL).flatten ∧ ∀ b, SlB s' b → SlB s b ∨ h.next ≤ b := fun e1 e2 => by
    obtain ⟨s', h', a1, a2, a3, a4⟩ := apps_vo w o Rv (by show vs.length + 1 ≤ 10000; omega)
    have a1 : asS2 (apv 58 5 72 (.slice s.a s.n s.c) (.slice (some ⟨vb, 0, none⟩) 1 1) h) = some (s', h') := a1
    refine ⟨s', h', by rw [← e2]; exact a1, a2, ?_, a4⟩
    rw [e1, List.take_of_length_le (Nat.le_refl _), List.drop_eq_nil_of_le (Nat.le_refl _)]
    exact a3
  rcases o with ⟨e1, rfl⟩ | ⟨b, n, c, rfl, hl, J, hc⟩
  · have ev : vs.length = 0 := by
      have := congrArg List.length e1
      rw [vo_len] at this
      have this : vs.length * 5 = 0 := this
      omega
    have ei : i = 0 := by omega
    subst ei
    exact app (by omega) rfl
  · rw [vo_len] at hl
    have hn' : n = vs.length := by omega
    subst hn'
    by_cases c : i = vs.length
    · refine app c ?_
      show _ = asS2 (cond (Nat.beq i vs.length) _ _)
      rw [c, Nat.beq_refl]; rfl
    · obtain ⟨B, j1, j2, j3, j4, j5⟩ := J.rowAt
      obtain ⟨V, v1, v2, v3, v4, v5⟩ := I.rowAt
      rw [vo_len] at j2
      have vne : vb ≠ b := fun f => nb (by subst f; exact ⟨0, rfl⟩)
      have g1 : B.gets 0 (vs.length * 5) = some (vs.map voL).flatten := Row.gets_of (vs.length * 5) 0 _ (by rw [vo_len]) (fun i hi => by rw [Nat.zero_add]; exact j5 i)
      have g2 : V.gets 0 5 = some (voL q) := Row.gets_of 5 0 _ rfl (fun i hi => by rw [Nat.zero_add]; exact v5 i)
      rename_i cc
      have hg : insG b vs.length i cc vb B V = true := by
        unfold insG
        simp only [Bool.and_eq_true, Bool.or_eq_true, Bool.not_eq_true']
        refine ⟨⟨⟨⟨⟨⟨⟨?_, ?_⟩, ?_⟩, ?_⟩, ?_⟩, ?_⟩, ?_⟩, ?_⟩
        · exact Nat.ble_eq_true_of_le (by omega)
        · rcases hc with ⟨z, _⟩ | z
          · exact .inr (by rw [z, Nat.beq_refl])
          · exact .inl (by rw [z, Nat.beq_refl])
        · rw [j4]; rfl
        · rw [j3]; rfl
        · rw [j2, Nat.beq_refl]
        · exact Nat.ble_eq_true_of_le (by omega)
        · rw [v4]; rfl
        · exact beq_false vne
      have e0 : insV (some ⟨b, 0, none⟩) vs.length cc i (.slice (some ⟨vb, 0, none⟩) 1 1) h = some (.slice (some ⟨h.next, 0, none⟩) (vs.length + 1) (unkOf 5), (h.put b (.row false { B with ver := h.clock })).new (rowOf (insRow (vs.map voL).flatten (voL q) i) 58 5 (h.clock + 1))) := by
        show cond (Nat.beq i vs.length) _ (cond (Nat.beq 0 0) (insM b vs.length i cc vb 0 h) none) = _
        rw [beq_false c, cond_false, show Nat.beq 0 0 = true from rfl, cond_true]
        unfold insM
        rw [j1, v1]
        simp only
        rw [hg, cond_true, g1, g2]
        simp only
        rw [vo_one, voL_one]; rfl
      have bl : b < h.next := J.lt w
      have w1 : WF (h.put b (.row false { B with ver := h.clock })) := w.put bl rfl
      have c1 : Ch (fun z => z = b) h (h.put b (.row false { B with ver := h.clock })) := ⟨w1, Nat.le_refl _, fun z hz hne => by rw [H.get_put, if_neg hne]⟩
      obtain ⟨n1, n2, n3⟩ := newR_ok w1 58 5 (insRow (vs.map voL).flatten (voL q) i)
      have en : (h.put b (.row false { B with ver := h.clock })).new (rowOf (insRow (vs.map voL).flatten (voL q) i) 58 5 (h.clock + 1)) = newR (h.put b (.row false { B with ver := h.clock })) 58 5 (insRow (vs.map voL).flatten (voL q) i) := rfl
      rw [en] at e0
      have fin : asS2 (insV (some ⟨b, 0, none⟩) vs.length cc i (.slice (some ⟨vb, 0, none⟩) 1 1) h) = some ((⟨some ⟨h.next, 0, none⟩, vs.length + 1, unkOf 5⟩ : Sl), newR (h.put b (.row false { B with ver := h.clock })) 58 5 (insRow (vs.map voL).flatten (voL q) i)) := by rw [e0]; rfl
      have el : insRow (vs.map voL).flatten (voL q) i = ((vs.take i ++ q :: vs.drop i).map voL).flatten := by
        unfold insRow
        rw [vo_take, vo_drop _ _ hi, vo_app, List.map_cons, List.flatten_cons, List.append_assoc]
      refine ⟨⟨some ⟨h.next, 0, none⟩, vs.length + 1, unkOf 5⟩, _, fin, ?_, ?_, fun z ⟨oo, f⟩ => .inr (by have : h.next = z := congrArg Addr.block (Option.some.inj f); omega)⟩
      · exact (c1.mono fun z _ f => by subst f; exact ⟨0, rfl⟩).trans (n1.mono fun _ _ f => f.elim) fun _ _ f => f
      · refine .inr ⟨h.next, vs.length + 1, unkOf 5, rfl, ?_, ?_, .inr rfl⟩
        · rw [vo_len, List.length_append, List.length_cons, List.length_take, List.length_drop]; omega
        · rw [el] at n3 ⊢
          exact n3
/-- what an act answers -/
def Did (h : H) (r : Option ((Sl × Int) × H)) (res : Res) : Prop := ∃ s h' us, r = some ((s, res.1), h') ∧ Ch0 h h' ∧ TreeO h' s us ∧ Fresh h.next s us ∧ vols us = res.2
theorem Did.no {h h' : H} (c : Ch0 h h') (e : Int) : Did h (some (((⟨none, 0, 0⟩ : Sl), e), h')) (e, []) := ⟨_, h', [], rfl, c, TreeO.nil, Fresh.nil, rfl⟩
theorem TreeO.ins {h h' : H} (w : WF h) {t t' : Sl} {us : List Vs} (T : TreeO h t us) (c : Ch (SlB t) h h') (q : Vs) (M : Ow 3 1 h q.2 (ivs q.1.mp)) (hs : ∀ x, SlB t x → ¬ SlB q.2 x) (ha : ∀ a ∈ us, Apart a q) {j : Nat} (o : Ow 58 5 h' t' ((us.take j ++ q :: us.drop j).map voL).flatten) (hb : ∀ b, SlB t' b → SlB t b ∨ h.next ≤ b) : TreeO h' t' (us.take j ++ q :: us.drop j) := by
  have keep : ∀ a : Vs, Ow 3 1 h a.2 (ivs a.1.mp) → (∀ x, SlB t x → ¬ SlB a.2 x) → Ow 3 1 h' a.2 (ivs a.1.mp) := fun a O n => O.keep fun b hb => c.keep b (O.lt w hb) fun f => n b f hb
  have far : ∀ a : Vs, Ow 3 1 h a.2 (ivs a.1.mp) → (∀ x, SlB t x → ¬ SlB a.2 x) → ∀ x, SlB t' x → ¬ SlB a.2 x := fun a O n x hx f => (hb x hx).elim (fun g => n x g f) fun g => by have := O.lt w f; omega
  refine ⟨o, fun a hm => ?_, ?_, fun a hm => ?_⟩
  · rw [List.perm_middle.mem_iff, List.take_append_drop] at hm
    rcases List.mem_cons.1 hm with z | z
    · rw [z]; exact keep q M hs
    · exact keep a (T.mp a z) (T.ne a z)
  · rw [List.perm_middle.pairwise_iff Apart.symm, List.take_append_drop]
    exact List.pairwise_cons.2 ⟨fun a hm => (ha a hm).symm, T.di⟩
  · rw [List.perm_middle.mem_iff, List.take_append_drop] at hm
    rcases List.mem_cons.1 hm with z | z
    · rw [z]; exact far q M hs
    · exact far a (T.mp a z) (T.ne a z)
theorem twith_f (k : Nat) (hk : 20000 < k) {h : H} (w : WF h) {s : Sl} {vs : List Vs} (T : TreeR h s vs) (R : RightP (vols vs)) (q : Vs) (Q : SlR 1 h q.2 (ivs q.1.mp)) (hq : q.1.mp.length ≤ 10000) : Did h (tree_with.f k s (voT q) h) (withP (vols vs) q.1) := by
  unfold tree_with.f voT
  dsimp only
  rw [show [Value.string (ba q.1.nm), Value.string (ba q.1.pa), Value.bool q.1.sn, Value.int .i64 q.1.sz, Value.slice q.2.a q.2.n q.2.c] = voL q from rfl]
  obtain ⟨y1, y2, y3⟩ := newR_ok w 58 5 (voL q)
  generalize newR h 58 5 (voL q) = g at y1 y2 y3 ⊢
  rw [show asT (ldc g (some ⟨h.next, 0, none⟩)) = some (ba q.1.nm) by rw [y3.ldc]; exact asTs _]
  simp only [Option.bind_some]
  have B := R.b
  have T1 := T.stay w y1
  obtain ⟨r, fo, h1, a1, a2, a3, a4, a5, a6, _⟩ := tat2_f k (by omega) y1.wf T1 B.n R.so q.1.nm
  rw [a1]
  simp only [Option.bind_some]
  have C1 := y1.then a2
  unfold withP
  cases hf : fo with
  | true =>
    rw [← a6, hf, if_pos rfl]
    exact Did.no C1 11
  | false =>
    rw [← a6, hf]
    simp only [cond_false, Bool.false_eq_true, if_false]
    rw [vols_len, T.n]
    by_cases c : vs.length < 12
    rotate_left
    · rw [if_pos (by omega), decide_eq_true (show Int.ofNat vs.length ≥ (12 : Int) by simp only [Int.ofNat_eq_natCast]; omega)]
      exact Did.no C1 6
    rw [if_neg (by omega), decide_eq_false (show ¬ Int.ofNat vs.length ≥ (12 : Int) by simp only [Int.ofNat_eq_natCast]; omega)]
    simp only [cond_false]
    obtain ⟨t, h2, us, b1, b2, b3, b4, b5⟩ := all_f k hk a2.wf (T1.stay y1.wf a2) B
    rw [b1]
    simp only [Option.bind_some]
    have Y2 := (y3.stay y1.wf a2).stay a2.wf b2
    rw [ldaIs (n := 5) Y2 rfl, bindVo]
    have C2 := C1.then b2
    obtain ⟨m, h3, d1, d2, d3, d4⟩ := tcopied_f k b2.wf q (Q.stay w C2) hq
    have d1 : tree_copied.f k ((voT q).1, (voT q).2.1, (voT q).2.2.1, (voT q).2.2.2.1, (voT q).2.2.2.2) h2 = _ := d1
    dsimp only [voT] at d1 ⊢
    rw [d1]
    simp only [Option.bind_some]
    rw [show [Value.string (ba q.1.nm), Value.string (ba q.1.pa), Value.bool q.1.sn, Value.int .i64 q.1.sz, Value.slice m.a m.n m.c] = voL (q.1, m) from rfl]
    obtain ⟨n1, n2, n3⟩ := newR_ok d2.wf 58 5 (voL (q.1, m))
    have O3 := b3.stay b2.wf (d2.then n1)
    have ul : us.length = vs.length := by rw [← vols_len us, b5, vols_len]
    have lt2 := b2.le
    have lt3 := d2.le
    obtain ⟨t', h4, e1, e2, e3, e4⟩ := insert_f k n1.wf O3.ow (by omega) n3 (fun f => by have := b3.ow.lt b2.wf f; omega) (i := r) (by omega)
    rw [e1]
    simp only [Option.bind_some]
    rw [same1_of (b2.keep h.next (by have := a2.le; omega) fun f => f)]
    simp only [Bool.and_self, cond_true]
    have C4 : Ch0 h h4 := Ch0.own ((C2.then d2).then n1) e2 fun x hx => by have := b4.1 x hx; have := C1.le; omega
    have hs : ∀ x, SlB t x → ¬ SlB m x := fun x hx f => by have := d4 x f; have := b3.ow.lt b2.wf hx; omega
    have ha : ∀ a ∈ us, Apart a (q.1, m) := fun a hm x hx f => by have := d4 x f; have := (b3.mp a hm).lt b2.wf hx; omega
    refine ⟨t', h4, _, rfl, C4, TreeO.ins n1.wf O3 e2 (q.1, m) (d3.stay d2.wf n1) hs ha e3 e4, ⟨fun x hx => (e4 x hx).elim (fun f => by have := b4.1 x f; have := C1.le; omega) fun f => by have := ((C2.then d2).then n1).le; omega, fun a hm x hx => ?_⟩, ?_⟩
    · rw [List.perm_middle.mem_iff, List.take_append_drop] at hm
      rcases List.mem_cons.1 hm with z | z
      · rw [z] at hx; have := d4 x hx; have := C2.le; omega
      · have := b4.2 a z x hx; have := C1.le; omega
    · rw [vols_put, b5]
      obtain ⟨p1, p2, p3⟩ := put_vols (us := vs) rfl (v := q.1) (j := r) a3 a4 a5
      exact putP_of p1 p2 p3
theorem sizedP_nil (sz : Int) : sizedP [] sz = zerosI sz := by
  unfold sizedP zerosI
  rw [List.nil_append, List.take_of_length_le (by rw [List.length_replicate]; exact Nat.le_refl _)]
theorem tcreate_f (k : Nat) (hk : 20000 < k) {h : H} (w : WF h) {s : Sl} {vs : List Vs} (T : TreeR h s vs) (R : RightP (vols vs)) (nm : List UInt8) (hkn : nm.length < k) (sz : Int) : Did h (tree_Create.f k s (ba nm) sz h) (createP (vols vs) nm sz) := by
  unfold tree_Create.f
  obtain ⟨m, m2, h1, a1, a2, a3, a4⟩ := xsized_f k hk w (s := ⟨none, 0, 0⟩) (l := []) (.inl ⟨rfl, .inl rfl⟩) (Nat.zero_le _) sz
  rw [a1]
  simp only [Option.bind_some]
  have B := R.b
  obtain ⟨v, h2, b1, b2, b3⟩ := tright_f k hk a2.wf (T.stay w a2) B
  have vt := b3.2 R
  subst vt
  rw [b1]
  simp only [Option.bind_some, Bool.not_true, cond_false]
  obtain ⟨h3, c1, c2⟩ := isName_f k b2.wf nm hkn
  rw [c1]
  simp only [Option.bind_some]
  have C3 := (a2.then b2).then c2
  unfold createP
  cases hn : isName nm with
  | false =>
    rw [Bool.false_and, if_neg (by decide)]
    exact Did.no C3 1
  | true =>
    rw [Bool.true_and]
    simp only [Bool.not_true, cond_false]
    cases hz : okSize sz with
    | false =>
      rw [a4 hz] at *
      rw [xright_f k (s := ⟨none, 0, 0⟩) (l := []) (.inl ⟨rfl, .inl rfl⟩) (by show 0 < k; omega) (by decide)]
      have : rightMap sz [] = false := by unfold rightMap; rw [hz, Bool.false_and]
      rw [this]
      simp only [Option.bind_some, Bool.not_false, cond_true]
      rw [if_neg (by decide)]
      exact Did.no C3 1
    | true =>
      obtain ⟨M, F⟩ := a3 hz
      rw [sizedP_nil] at M
      have M3 := M.stay a2.wf (b2.then c2)
      have zl := zerosI_len hz
      obtain ⟨z1, z2, z3⟩ := okSize_iff.1 hz
      rw [xright_f k M3.slr (by omega) (by omega), right_zeros hz]
      simp only [Option.bind_some, Bool.not_true, cond_false]
      rw [if_pos trivial]
      obtain ⟨t, h4, us, d1, d2, d3, d4, d5⟩ := twith_f k hk c2.wf (T.stay w C3) R (⟨nm, [], false, sz, zerosI sz⟩, m) M3.slr (by show (zerosI sz).length ≤ _; omega)
      have d1 : tree_with.f k s (ba nm, ⟨#[]⟩, false, sz, m) h3 = _ := d1
      rw [d1]
      exact ⟨t, h4, us, rfl, C3.then d2, d3, d4.mono C3.le, d5⟩
end Go.Proofs.Ytfenkpghcbohdaa.Fw
