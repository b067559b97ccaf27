/- TreeOrders: the law's forward run comes to true. -/
import Derived.Test.YtfenkpghcbohdaaPcFwApA
import Derived.Test.YtfenkpghcbohdaaPcArTreeOrders
namespace Go.Proofs.Ytfenkpghcbohdaa
open Go Den Fwd Fw
set_option linter.unusedVariables false
set_option linter.unusedSimpArgs false
/-! ### two lists are the same, by the program -/
theorem Pure.eqInts_l0 (k : Nat) {h : H} {s t : Sl} {l m : List Int} (r : SlR 1 h s (ivs l)) (q : SlR 1 h t (ivs m)) (e : l = m) (hx : l.length ≤ 100000) : ∀ n j, l.length - j < n → j ≤ l.length →
    slices_Equal_int_int.l0 k n s t (Int.ofNat l.length) (Int.ofNat j) h = some (.inr (), h)
  | 0, j, hf, _ => by omega
  | n + 1, j, hf, hj => by
    rw [slices_Equal_int_int.l0_succ]
    by_cases c : j < l.length
    rotate_left
    · rw [decNlt c, cond_false]
    rw [decLt c, cond_true]
    obtain ⟨_, p, e1, e2⟩ := SlR.int r c
    rw [e1]
    simp only [asP_ptr, Option.bind_some]
    rw [e2, asI_int]
    simp only [Option.bind_some]
    obtain ⟨_, p', f1, f2⟩ := SlR.int q (j := j) (by rw [← e]; exact c)
    rw [f1]
    simp only [asP_ptr, Option.bind_some]
    rw [f2, asI_int]
    simp only [Option.bind_some]
    subst e
    rw [show (l[j] != l[j]) = false by simp, cond_false, wrap_succ (by omega)]
    exact Pure.eqInts_l0 k r q rfl hx n (j + 1) (by omega) c
theorem Pure.eqInts_f (k : Nat) {h : H} {s t : Sl} {l m : List Int} (r : SlR 1 h s (ivs l)) (q : SlR 1 h t (ivs m)) (e : l = m) (hx : l.length < k) (hx2 : l.length ≤ 100000) : slices_Equal_int_int.f k s t h = some (true, h) := by
  unfold slices_Equal_int_int.f
  rw [SlR.ivn r, SlR.ivn q, ← e, show (Int.ofNat l.length != Int.ofNat l.length) = false by simp, cond_false, show (0 : Int) = Int.ofNat 0 from rfl, Pure.eqInts_l0 k r q e hx2 k 0 (by omega) (Nat.zero_le _)]
  rfl
theorem Pure.same1_f (k : Nat) (hk : 20000 < k) {h : H} (w : WF h) (q u : Vs) (Q : SlR 1 h q.2 (ivs q.1.mp)) (U : SlR 1 h u.2 (ivs u.1.mp)) (hb : q.1.mp.length ≤ 10000) (e : q.1 = u.1) :
    ∃ h', tree_Same_1.f k (voT q) (voT u) h = some (true, h') ∧ Ch0 h h' := by
  unfold tree_Same_1.f voT
  dsimp only
  rw [show [Value.string (ba q.1.nm), Value.string (ba q.1.pa), Value.bool q.1.sn, Value.int .i64 q.1.sz, Value.slice q.2.a q.2.n q.2.c] = voL q from rfl, show [Value.string (ba u.1.nm), Value.string (ba u.1.pa), Value.bool u.1.sn, Value.int .i64 u.1.sz, Value.slice u.2.a u.2.n u.2.c] = voL u from rfl]
  obtain ⟨y1, y2, y3⟩ := newR_ok w 58 5 (voL q)
  generalize newR h 58 5 (voL q) = g at y1 y2 y3 ⊢
  obtain ⟨z1, z2, z3⟩ := newR_ok y1.wf 58 5 (voL u)
  generalize newR g 58 5 (voL u) = f at z1 z2 z3 ⊢
  have I := y3.stay y1.wf z1
  have C := y1.then z1
  have q0 : asT (ldc f (some ⟨h.next, 0, none⟩)) = some (ba q.1.nm) := by rw [I.ldc]; exact asTs _
  have q1 : asT (ldc f (some ⟨h.next, 1, none⟩)) = some (ba q.1.pa) := by rw [I.ldc]; exact asTs _
  have q2 : asB (ldc f (some ⟨h.next, 2, none⟩)) = some q.1.sn := by rw [I.ldc]; exact asBs _
  have q3 : asI .i64 (ldc f (some ⟨h.next, 3, none⟩)) = some q.1.sz := by rw [I.ldc]; exact asI_int _ _
  have q4 : asS (ldc f (some ⟨h.next, 4, none⟩)) = some q.2 := by rw [I.ldc]; exact asS_slv _
  have u0 : asT (ldc f (some ⟨g.next, 0, none⟩)) = some (ba u.1.nm) := by rw [z3.ldc]; exact asTs _
  have u1 : asT (ldc f (some ⟨g.next, 1, none⟩)) = some (ba u.1.pa) := by rw [z3.ldc]; exact asTs _
  have u2 : asB (ldc f (some ⟨g.next, 2, none⟩)) = some u.1.sn := by rw [z3.ldc]; exact asBs _
  have u3 : asI .i64 (ldc f (some ⟨g.next, 3, none⟩)) = some u.1.sz := by rw [z3.ldc]; exact asI_int _ _
  have u4 : asS (ldc f (some ⟨g.next, 4, none⟩)) = some u.2 := by rw [z3.ldc]; exact asS_slv _
  rw [q0, u0]
  simp only [Option.bind_some]
  rw [q1, u1]
  simp only [Option.bind_some]
  rw [bat_eq, bat_eq]
  refine ⟨f, ?_, C⟩
  rw [decide_eq_true (show q.1.nm = u.1.nm by rw [e]), decide_eq_true (show q.1.pa = u.1.pa by rw [e])]
  simp only [cond_true, Option.bind_some]
  rw [q2, u2]
  simp only [Option.bind_some]
  rw [show (q.1.sn == u.1.sn) = true by rw [e]; simp]
  simp only [cond_true, Option.bind_some]
  rw [q3, u3]
  simp only [Option.bind_some]
  rw [show (q.1.sz == u.1.sz) = true by rw [e]; simp]
  simp only [cond_true, Option.bind_some]
  rw [q4, u4]
  simp only [Option.bind_some]
  rw [Pure.eqInts_f k (Q.stay w C) (U.stay w C) (by rw [e]) (by omega) (by omega)]
  rfl
theorem Pure.same_l0 (k : Nat) (hk : 20000 < k) {h0 : H} (w0 : WF h0) {s t : Sl} {vs us : List Vs} (S : TreeR h0 s vs) (T : TreeR h0 t us) (B : TreeB vs) (e : vols vs = vols us) : ∀ n i h, vs.length - i < n → i ≤ vs.length → Ch0 h0 h →
    ∃ h', slices_EqualFunc_api_Volume_api_Volume_api_Volume_api_Volume_tree_Same_1.l0 k n t () s (Int.ofNat vs.length) (Int.ofNat i) h = some (.inr (), h') ∧ Ch0 h0 h'
  | 0, i, h, hf, _, _ => by omega
  | n + 1, i, h, hf, hi, C => by
    rw [slices_EqualFunc_api_Volume_api_Volume_api_Volume_api_Volume_tree_Same_1.l0_succ]
    have hn := B.n
    have hl : vs.length = us.length := by rw [← vols_len vs, e, vols_len]
    by_cases c : i < vs.length
    rotate_left
    · rw [decNlt c, cond_false]
      exact ⟨h, rfl, C⟩
    rw [decLt c, cond_true]
    have c' : i < us.length := by omega
    obtain ⟨b, o, e1, e2, _⟩ := (S.stay w0 C).at c
    rw [e1]
    simp only [asP_ptr, Option.bind_some]
    rw [e2, bindVo]
    have hv : (vols vs)[i]'(by rw [vols_len]; exact c) = vs[i].1 := by simp only [vols, List.getElem_map]
    have hu : (vols us)[i]'(by rw [vols_len]; exact c') = us[i].1 := by simp only [vols, List.getElem_map]
    have ee : vs[i].1 = us[i].1 := by rw [← hv, ← hu]; simp only [e]
    have hM := S.mp _ (List.getElem_mem c)
    have hB := B.nm _ (List.getElem_mem c)
    have hU := T.mp _ (List.getElem_mem c')
    generalize vs[i] = q at ee hM hB
    dsimp only [voT]
    rw [show [Value.string (ba q.1.nm), Value.string (ba q.1.pa), Value.bool q.1.sn, Value.int .i64 q.1.sz, Value.slice q.2.a q.2.n q.2.c] = voL q from rfl, show [Value.string (⟨#[]⟩ : ByteArray), Value.string (⟨#[]⟩ : ByteArray), Value.bool false, Value.int .i64 (0 : Int), Value.slice none 0 0] = zVo from rfl]
    obtain ⟨h1, b1, b2, b3, b4⟩ := box_ok C.wf 58 5 zVo (voL q) rfl rfl rfl
    rw [b1]
    simp only [Option.bind_some]
    have C1 := C.then b2
    obtain ⟨b', o', f1, f2, _⟩ := (T.stay w0 C1).at c'
    rw [f1]
    simp only [asP_ptr, Option.bind_some]
    rw [f2, bindVo]
    generalize us[i] = u at ee hU
    dsimp only [voT]
    rw [show [Value.string (ba u.1.nm), Value.string (ba u.1.pa), Value.bool u.1.sn, Value.int .i64 u.1.sz, Value.slice u.2.a u.2.n u.2.c] = voL u from rfl]
    obtain ⟨h2, d1, d2, d3, d4⟩ := box_ok b2.wf 58 5 zVo (voL u) rfl rfl rfl
    rw [d1]
    simp only [Option.bind_some]
    have C2 := C1.then d2
    rw [ldaIs (n := 5) (b4.stay b2.wf d2) rfl, bindVo, ldaIs (n := 5) d4 rfl, bindVo]
    obtain ⟨h3, a1, a2⟩ := Pure.same1_f k hk d2.wf q u (hM.stay w0 C2) (hU.stay w0 C2) hB.2.2 ee
    have a1 : tree_Same_1.f k ((voT q).1, (voT q).2.1, (voT q).2.2.1, (voT q).2.2.2.1, (voT q).2.2.2.2) ((voT u).1, (voT u).2.1, (voT u).2.2.1, (voT u).2.2.2.1, (voT u).2.2.2.2) h2 = _ := a1
    rw [a1]
    simp only [Option.bind_some, Bool.not_true, cond_false]
    rw [wrap_succ (by omega)]
    exact Pure.same_l0 k hk w0 S T B e n (i + 1) h3 (by omega) (by omega) (C2.then a2)
theorem Pure.same_f (k : Nat) (hk : 20000 < k) {h : H} (w : WF h) {s t : Sl} {vs us : List Vs} (S : TreeR h s vs) (T : TreeR h t us) (B : TreeB vs) (e : vols vs = vols us) :
    ∃ h', tree_Same.f k s t h = some (true, h') ∧ Ch0 h h' := by
  unfold tree_Same.f slices_EqualFunc_api_Volume_api_Volume_api_Volume_api_Volume_tree_Same_1.f
  have hn := B.n
  have hl : vs.length = us.length := by rw [← vols_len vs, e, vols_len]
  obtain ⟨h', a1, a2⟩ := Pure.same_l0 k hk w S T B e k 0 h (by omega) (Nat.zero_le _) (Ch.refl w)
  rw [S.n, T.n, ← hl, show (Int.ofNat vs.length != Int.ofNat vs.length) = false by simp, cond_false, show (0 : Int) = Int.ofNat 0 from rfl, a1]
  exact ⟨h', rfl, a2⟩
/-! ### plain lists -/
def Pure.mkV (nm : List UInt8) : Vol := ⟨nm, [], false, 8, zerosI 8⟩
theorem Pure.create_mk (t : List Vol) {nm : List UInt8} (h : isName nm = true) : createP t nm 8 = withP t (Pure.mkV nm) := by
  unfold createP
  rw [h, show okSize 8 = true from rfl]
  rfl
theorem Pure.putP_perm (t : List Vol) (v : Vol) : (putP t v).Perm (v :: t) := by
  unfold putP
  refine List.perm_middle.trans ?_
  rw [List.takeWhile_append_dropWhile]
theorem Pure.sorted_perm : ∀ {a b : List Vol}, (a.Pairwise fun x y => less x.nm y.nm = true) → (b.Pairwise fun x y => less x.nm y.nm = true) → a.Perm b → a = b
  | [], b, _, _, p => (List.nil_perm.1 p).symm
  | x :: a, [], _, _, p => by have := p.length_eq; simp at this
  | x :: a, y :: b, ha, hb, p => by
    obtain ⟨a1, a2⟩ := List.pairwise_cons.1 ha
    obtain ⟨b1, b2⟩ := List.pairwise_cons.1 hb
    have e : x = y := by
      have hx : x ∈ y :: b := p.subset List.mem_cons_self
      have hy : y ∈ x :: a := p.symm.subset List.mem_cons_self
      rcases List.mem_cons.1 hx with h | h
      · exact h
      rcases List.mem_cons.1 hy with g | g
      · exact g.symm
      have h1 := b1 x h
      have h2 := a1 y g
      rw [(less_not h1).1] at h2
      cases h2
    subst e
    rw [Pure.sorted_perm a2 b2 p.cons_inv]
theorem Pure.nodup_names {A : List Vol} (R : A.Pairwise fun x y => less x.nm y.nm = true) : (A.map (·.nm)).Nodup := by
  unfold List.Nodup
  rw [List.pairwise_map]
  exact R.imp fun h => (less_not h).2
/-! ### lists of strings -/
def Pure.strs (l : List (List UInt8)) : List Value := l.map fun x => .string (ba x)
theorem Pure.strs_len (l : List (List UInt8)) : (Pure.strs l).length = l.length := List.length_map _
theorem Pure.strs_one (l : List (List UInt8)) : (Pure.strs l).all Den.one = true := by rw [List.all_eq_true]; intro v hv; obtain ⟨n, _, rfl⟩ := List.mem_map.1 hv; rfl
theorem Pure.strs_n {h : H} {s : Sl} {l : List (List UInt8)} (r : SlR 1 h s (Pure.strs l)) : s.n = l.length := by
  have := r.len
  rw [Pure.strs_len] at this
  omega
theorem Pure.push_s {h : H} (w : WF h) {s : Sl} {l : List (List UInt8)} (r : Ow 9 1 h s (Pure.strs l)) (x : List UInt8) (hb : l.length ≤ 100000) :
    ∃ s' h', asS2 (apv 9 1 16 (.slice s.a s.n s.c) (.slice (some ⟨h.next, 0, none⟩) 1 1) (newR h 9 1 [.string (ba x)])) = some (s', h') ∧ Ch (SlB s) h h' ∧ Ow 9 1 h' s' (Pure.strs (l ++ [x])) ∧ ∀ b, SlB s' b → SlB s b ∨ h.next ≤ b := by
  obtain ⟨n1, n2, n3⟩ := newR_ok w 9 1 [.string (ba x)]
  have hs := Pure.strs_n r.slr
  obtain ⟨s', h', e1, e2, e3, e4, e5⟩ := apv_ok (by_ := 16) n1.wf (r.stay w n1) (by decide) (SlR.of_is n3 (n := 1) rfl (by unfold unk; omega)) (by rw [hs]; show (l.length + 1) * 16 ≤ _; omega) rfl
  refine ⟨s', h', e1, (n1.mono fun _ _ f => f.elim).trans e2 fun _ _ f => f, ?_, fun b hb => (e5 b hb).imp id fun f => by omega⟩
  have : Pure.strs l ++ [.string (ba x)] = Pure.strs (l ++ [x]) := by unfold Pure.strs; rw [List.map_append]; rfl
  rw [← this]; exact e3
theorem Pure.apps_s {h : H} (w : WF h) {s x : Sl} {l m : List (List UInt8)} (r : Ow 9 1 h s (Pure.strs l)) (q : SlR 1 h x (Pure.strs m)) (hb : l.length + m.length ≤ 100000) :
    ∃ s' h', asS2 (apv 9 1 16 (.slice s.a s.n s.c) (.slice x.a x.n x.c) h) = some (s', h') ∧ Ch (SlB s) h h' ∧ Ow 9 1 h' s' (Pure.strs (l ++ m)) ∧ ∀ b, SlB s' b → SlB s b ∨ h.next ≤ b := by
  obtain ⟨s', h', e1, e2, e3, e4, e5⟩ := apv_ok (by_ := 16) w r (by decide) q (by rw [Pure.strs_n r.slr, Pure.strs_n q]; omega) (Pure.strs_one m)
  refine ⟨s', h', e1, e2, ?_, fun b hb => (e5 b hb).imp id fun f => f.1⟩
  have : Pure.strs l ++ Pure.strs m = Pure.strs (l ++ m) := by unfold Pure.strs; rw [List.map_append]
  rw [← this]; exact e3
theorem Pure.strs_take (l : List (List UInt8)) (n : Nat) : (Pure.strs l).take n = Pure.strs (l.take n) := by unfold Pure.strs; rw [List.map_take]
theorem Pure.strs_drop (l : List (List UInt8)) (n : Nat) : (Pure.strs l).drop n = Pure.strs (l.drop n) := by unfold Pure.strs; rw [List.map_drop]
/-! ### the loops -/
theorem Pure.ord_l2 (k : Nat) {h : H} {t x40 : Sl} {us : List Vs} (T : TreeR h t us) (R : RightP (vols us)) : ∀ n i, us.length - i < n → 1 ≤ i → i ≤ us.length + 1 →
    corbellaw18_TreeOrders.l2 k n t x40 (Int.ofNat i) h = some (.inr (), h)
  | 0, i, hf, _, _ => by omega
  | n + 1, i, hf, h1, hi => by
    rw [corbellaw18_TreeOrders.l2_succ]
    have hn := R.b.n
    rw [T.n]
    by_cases c : i < us.length
    rotate_left
    · rw [decNlt c, cond_false]
    rw [decLt c, cond_true]
    obtain ⟨j, rfl⟩ : ∃ j, i = j + 1 := ⟨i - 1, by omega⟩
    rw [show wrapA .i64 (Int.ofNat (j + 1) - 1) = Int.ofNat j from by
      rw [wrap_in (by simp only [Int.ofNat_eq_natCast]; omega) (by simp only [Int.ofNat_eq_natCast]; omega)]
      simp only [Int.ofNat_eq_natCast]; omega]
    obtain ⟨b, o, e1, _, e3⟩ := T.at (i := j) (by omega)
    obtain ⟨b', o', f1, _, f3⟩ := T.at c
    rw [T.n] at e1 f1
    rw [e1]
    simp only [asP_ptr, Option.bind_some, fadd]
    rw [e3 0 (by decide), show asT ((voL us[j])[0]?) = some (ba us[j].1.nm) from asTs _]
    simp only [Option.bind_some]
    rw [f1]
    simp only [asP_ptr, Option.bind_some]
    rw [f3 0 (by decide), show asT ((voL us[j + 1])[0]?) = some (ba us[j + 1].1.nm) from asTs _]
    simp only [Option.bind_some]
    have L : less us[j].1.nm us[j + 1].1.nm = true := SortV.lt R.so c (Nat.lt_succ_self j)
    rw [ba_list, ba_list, show Op.bytesLess us[j].1.nm us[j + 1].1.nm = true from L]
    simp only [Bool.not_true, cond_false]
    rw [wrap_succ (by omega)]
    exact Pure.ord_l2 k T R n (j + 1 + 1) (by omega) (by omega) (by omega)
def Pure.Sep (t : Sl) (us : List Vs) (s : Sl) : Prop := ∀ x, (SlB t x ∨ ∃ q ∈ us, SlB q.2 x) → ¬ SlB s x
theorem Pure.ord_l0 (k : Nat) (hk : 20000 < k) {h0 : H} (w0 : WF h0) {a0 x2 x3 : Sl} {l : List Int} (r0 : SlR 1 h0 a0 (ivs l)) : ∀ n i h t us s al, 12 - i < n → i ≤ 12 → Ch0 h0 h → TreeO h t us → Ow 9 1 h s (Pure.strs al) → (∀ x, SlB s x → h0.next ≤ x) → Pure.Sep t us s → RightP (vols us) → (vols us).Perm (al.map Pure.mkV) → al.length ≤ i → (∀ x ∈ al, isName x = true) →
    ∃ h' t' us' s' al', corbellaw18_TreeOrders.l0 k n a0 x2 x3 t s (Int.ofNat i) h = some (.inr (t', s'), h') ∧ Ch0 h0 h' ∧ TreeO h' t' us' ∧ Ow 9 1 h' s' (Pure.strs al') ∧ RightP (vols us') ∧ (vols us').Perm (al'.map Pure.mkV) ∧ al'.length ≤ 12 ∧ ∀ x ∈ al', isName x = true
  | 0, i, h, t, us, s, al, hf, _, _, _, _, _, _, _, _, _, _ => by omega
  | n + 1, i, h, t, us, s, al, hf, hi, C, O, W, F, D, R, P, hl, hN => by
    rw [corbellaw18_TreeOrders.l0_succ]
    have fin : ∃ h' t' us' s' al', (some (.inr (t, s), h) : Option ((Bool ⊕ (Sl × Sl)) × H)) = some (.inr (t', s'), h') ∧ Ch0 h0 h' ∧ TreeO h' t' us' ∧ Ow 9 1 h' s' (Pure.strs al') ∧ RightP (vols us') ∧ (vols us').Perm (al'.map Pure.mkV) ∧ al'.length ≤ 12 ∧ ∀ x ∈ al', isName x = true := ⟨h, t, us, s, al, rfl, C, O, W, R, P, by omega, hN⟩
    rw [SlR.ivn r0]
    by_cases c1 : i < l.length
    rotate_left
    · rw [decNlt c1]; exact fin
    rw [decLt c1, cond_true]
    by_cases c2 : i < 12
    rotate_left
    · rw [show decide (Int.ofNat i < (12 : Int)) = false from decNlt (b := 12) c2]; exact fin
    rw [show decide (Int.ofNat i < (12 : Int)) = true from decLt (b := 12) c2]
    simp only [Option.bind_some, cond_true]
    clear fin
    obtain ⟨_, p, e1, e2⟩ := SlR.int (r0.stay w0 C) c1
    rw [SlR.ivn r0] at e1
    rw [e1]
    simp only [asP_ptr, Option.bind_some]
    rw [e2, asI_int]
    simp only [Option.bind_some]
    obtain ⟨nm, m1, m2⟩ := name2_f k l[i]
    rw [m1]
    simp only [Option.bind_some]
    have nl := nameLen m2
    obtain ⟨t2, h2, us2, d1, d2, d3, d4, d5⟩ := tcreate_f k hk C.wf O.read R nm (by omega) 8
    rw [d1]
    simp only [Option.bind_some]
    obtain ⟨r, a1, a2⟩ := rat_f k (by omega) (O.read.stay C.wf d2) R.b.n nm
    rw [a1]
    simp only [Option.bind_some]
    have len : us.length = al.length := by have := P.length_eq; rw [vols_len, List.length_map] at this; exact this
    have C2 := C.then d2
    have lt1 : 12 - (i + 1) < n := by omega
    have wi : wrapA .i64 (Int.ofNat i + 1) = Int.ofNat (i + 1) := wrap_succ (by omega)
    have R2 := createP_right R (nm := nm) (sz := 8)
    rw [Pure.create_mk _ m2] at d5 R2 ⊢
    unfold withP at d5 R2 ⊢
    have el : ¬ 12 ≤ (vols us).length := by rw [vols_len]; omega
    rw [if_neg el] at d5 R2 ⊢
    cases hh : hasV (vols us) (Pure.mkV nm).nm with
    | true =>
      rw [if_pos rfl]
      have rr : decide (r ≥ (0 : Int)) = true := by
        rcases a2 with ⟨j, rfl, _⟩ | ⟨_, f⟩
        · exact decide_eq_true (by simp only [Int.ofNat_eq_natCast]; omega)
        · obtain ⟨u, hu, e⟩ := hasV_iff.1 hh
          obtain ⟨q, hq, rfl⟩ := List.mem_map.1 hu
          exact absurd e (f q hq)
      rw [rr, show ((11 : Int) == 11) = true from rfl, show ((11 : Int) == 0) = false from rfl]
      simp only [BEq.rfl, Bool.not_true, cond_false, Option.bind_some]
      rw [wi]
      exact Pure.ord_l0 k hk w0 r0 n (i + 1) h2 t us s al lt1 c2 C2 (O.stay C.wf d2) (W.stay C.wf d2) F D R P (by omega) hN
    | false =>
      rw [hh, if_neg (by decide)] at d5 R2
      rw [if_neg (by decide)]
      have rr : decide (r ≥ (0 : Int)) = false := by
        rcases a2 with ⟨j, rfl, hj, f1, _⟩ | ⟨f, _⟩
        · exact absurd f1 (hasV_no.1 hh _ (mem_vols hj))
        · rw [f]; rfl
      rw [rr, show ((0 : Int) == 11) = false from rfl, show ((0 : Int) == 0) = true from rfl]
      simp only [BEq.rfl, Bool.not_true, cond_false, cond_true, Option.bind_some]
      obtain ⟨s3, h3, v1, v2, v3, v4⟩ := Pure.push_s d2.wf (W.stay C.wf d2) nm (by omega)
      rw [v1]
      simp only [Option.bind_some]
      rw [wi]
      have R3 : RightP (vols us2) := by rw [d5]; exact (R2 rfl).1
      have sl : ∀ x, SlB s x → x < h.next := fun x hx => W.lt C.wf hx
      have O3 : TreeO h3 t2 us2 := d3.keep fun x hx => v2.keep x (d3.lt d2.wf hx) fun f => by have := d4.all hx; have := sl x f; omega
      refine Pure.ord_l0 k hk w0 r0 n (i + 1) h3 t2 us2 s3 (al ++ [nm]) lt1 c2 (Ch0.own C2 v2 F) O3 v3 (fun x hx => (v4 x hx).elim (F x) fun f => Nat.le_trans C2.le f) (fun x hx f => ?_) R3 ?_ (by rw [List.length_append, List.length_singleton]; omega) (fun x hx => ?_)
      · rcases v4 x f with g | g
        · have := d4.all hx; have := sl x g; omega
        · have := d3.lt d2.wf hx; omega
      · rw [d5, List.map_append]
        refine (Pure.putP_perm _ _).trans ?_
        exact ((List.Perm.cons _ P).trans (List.perm_append_comm (l₁ := [Pure.mkV nm])))
      · rcases List.mem_append.1 hx with g | g
        · exact hN x g
        · rw [List.mem_singleton.1 g]; exact m2
theorem Pure.ord_l1 (k : Nat) (hk : 20000 < k) {h0 : H} (w0 : WF h0) {a1 x20 : Sl} {l : List Int} (r1 : SlR 1 h0 a1 (ivs l)) {A : List Vol} (hA : (A.map (·.nm)).Nodup) (hA2 : A.length ≤ 12) : ∀ n i h t us s rm, rm.length < n → i + rm.length ≤ 12 → Ch0 h0 h → TreeO h t us → SlR 1 h s (Pure.strs rm) → RightP (vols us) → (vols us ++ rm.map Pure.mkV).Perm A → (∀ x ∈ rm, isName x = true) →
    ∃ h' t' us', corbellaw18_TreeOrders.l1 k n a1 x20 t s (Int.ofNat i) h = some (.inr t', h') ∧ Ch0 h0 h' ∧ TreeO h' t' us' ∧ RightP (vols us') ∧ (vols us').Perm A
  | 0, i, h, t, us, s, rm, hf, _, _, _, _, _, _, _ => by omega
  | n + 1, i, h, t, us, s, rm, hf, hi, C, O, r, R, P, hN => by
    rw [corbellaw18_TreeOrders.l1_succ]
    have rn := Pure.strs_n r
    by_cases c : 0 < rm.length
    rotate_left
    · have : rm = [] := List.eq_nil_of_length_eq_zero (by omega)
      subst this
      rw [rn, show decide (Int.ofNat ([] : List (List UInt8)).length > (0 : Int)) = false from rfl, cond_false]
      rw [List.map_nil, List.append_nil] at P
      exact ⟨h, t, us, rfl, C, O, R, P⟩
    rw [rn, show decide (Int.ofNat rm.length > (0 : Int)) = true from decLt (a := 0) c, cond_true]
    have J : ∃ j, j < rm.length ∧ (cond (decide (Int.ofNat i < Int.ofNat a1.n)) ((asP (ixs 1 a1.a a1.n (Int.ofNat i))).bind fun p25 => (asI .i64 (ldc h p25)).bind fun n26 => (corbelhand_Pick.f k n26 (Int.ofNat rm.length) h).bind fun q27 => some (q27.1, q27.2)) (some ((0 : Int), h)) : Option (Int × H)) = some (Int.ofNat j, h) := by
      rw [SlR.ivn r1]
      by_cases d : i < l.length
      · rw [decLt d, cond_true]
        obtain ⟨_, p, e1, e2⟩ := SlR.int (r1.stay w0 C) d
        rw [SlR.ivn r1] at e1
        rw [e1]
        simp only [asP_ptr, Option.bind_some]
        rw [e2, asI_int]
        simp only [Option.bind_some]
        rw [pick_f k _ _ h (by simp only [Int.ofNat_eq_natCast]; omega) (by simp only [Int.ofNat_eq_natCast]; omega)]
        have z0 := Int.emod_nonneg l[i] (show Int.ofNat rm.length ≠ 0 by simp only [Int.ofNat_eq_natCast]; omega)
        have z1 := Int.emod_lt_of_pos l[i] (show (0 : Int) < Int.ofNat rm.length by simp only [Int.ofNat_eq_natCast]; omega)
        obtain ⟨j, hj⟩ : ∃ j : Nat, l[i] % Int.ofNat rm.length = Int.ofNat j := ⟨_, nn _ z0⟩
        rw [hj] at z1 ⊢
        simp only [Int.ofNat_eq_natCast] at z1
        exact ⟨j, by omega, rfl⟩
      · rw [decNlt d, cond_false]
        exact ⟨0, c, rfl⟩
    obtain ⟨j, hj, J⟩ := J
    rw [J]
    simp only [Option.bind_some]
    obtain ⟨p, e1, e2⟩ := r.elem1 (j := j) (by rw [rn]; exact hj)
    rw [rn] at e1
    rw [e1]
    simp only [asP_ptr, Option.bind_some]
    have ec : (Pure.strs rm)[j]? = some (.string (ba rm[j])) := by unfold Pure.strs; rw [List.getElem?_map, List.getElem?_eq_getElem hj]; rfl
    rw [e2, ec, asTs]
    simp only [Option.bind_some]
    have hnm := hN _ (List.getElem_mem hj)
    have nl := nameLen hnm
    obtain ⟨t2, h2, us2, d1, d2, d3, d4, d5⟩ := tcreate_f k hk C.wf O.read R rm[j] (by omega) 8
    rw [d1]
    simp only [Option.bind_some]
    have R2 := createP_right R (nm := rm[j]) (sz := 8)
    have er : rm = rm.take j ++ rm[j] :: rm.drop (j + 1) := by rw [← List.drop_eq_getElem_cons hj, List.take_append_drop]
    have lenA := P.length_eq
    rw [List.length_append, vols_len, List.length_map] at lenA
    have hno : hasV (vols us) (Pure.mkV rm[j]).nm = false := by
      refine hasV_no.2 fun u hu e => ?_
      have nd : ((vols us ++ rm.map Pure.mkV).map (·.nm)).Nodup := (P.map (·.nm)).nodup_iff.2 hA
      rw [List.map_append] at nd
      have dis := (List.nodup_append.1 nd).2.2
      refine dis u.nm (List.mem_map.2 ⟨u, hu, rfl⟩) rm[j] ?_ e
      rw [List.map_map]
      exact List.mem_map.2 ⟨rm[j], List.getElem_mem hj, rfl⟩
    rw [Pure.create_mk _ hnm] at d5 R2 ⊢
    have ew : withP (vols us) (Pure.mkV rm[j]) = (0, putP (vols us) (Pure.mkV rm[j])) := by
      unfold withP
      rw [hno, if_neg (by decide), if_neg (by rw [vols_len]; omega)]
    rw [ew] at d5 R2 ⊢
    rw [show ((0 : Int) != 0) = false from rfl, cond_false]
    have r2 := r.stay C.wf d2
    obtain ⟨s4, b1, b2, b3, b4⟩ := subs_ok r2 (lo := 0) (hi := j) (Nat.zero_le _) (by rw [rn]; omega) (xlo := none) (xhi := some (Int.ofNat j)) rfl rfl
    rw [rn] at b1
    rw [b1, show (some (Value.slice s4.a s4.n s4.c)) = some (slv s4) from rfl, asS_slv]
    simp only [Option.bind_some]
    rw [Nat.zero_mul, List.drop_zero, Nat.mul_one, Nat.sub_zero, Pure.strs_take] at b3
    obtain ⟨n1, n2, n3⟩ := newR_ok d2.wf 9 1 []
    have W1 : Ow 9 1 (newR h2 9 1 []) ⟨some ⟨h2.next, 0, none⟩, 0, 0⟩ (Pure.strs []) := Ow.of_is n3 (n := 0) rfl (by unfold unk; omega)
    obtain ⟨s5, h3, v1, v2, v3, v4⟩ := Pure.apps_s n1.wf W1 (b3.stay d2.wf n1) (by rw [List.length_take, List.length_nil]; omega)
    have v1 : asS2 (apv 9 1 16 (.slice (some ⟨h2.next, 0, none⟩) 0 0) (.slice s4.a s4.n s4.c) (newR h2 9 1 [])) = some (s5, h3) := v1
    rw [v1]
    simp only [Option.bind_some]
    rw [List.nil_append] at v3
    have own : ∀ b, SlB (⟨some ⟨h2.next, 0, none⟩, 0, 0⟩ : Sl) b → h2.next ≤ b := fun b ⟨o, f⟩ => by
      have : h2.next = b := congrArg Addr.block (Option.some.inj f)
      omega
    have own5 : ∀ b, SlB s5 b → h2.next ≤ b := fun b hb => (v4 b hb).elim (own b) fun f => by omega
    have c3 := Ch0.own n1 v2 own
    rw [wrap_succ (by omega)]
    obtain ⟨s6, g1, g2, g3, g4⟩ := subs_ok (r2.stay d2.wf c3) (lo := j + 1) (hi := rm.length) (by omega) (by rw [rn]; omega) (xlo := some (Int.ofNat (j + 1))) (xhi := none) rfl (by rw [rn]; rfl)
    rw [rn] at g1
    rw [g1, show (some (Value.slice s6.a s6.n s6.c)) = some (slv s6) from rfl, asS_slv]
    simp only [Option.bind_some]
    rw [Nat.mul_one, Nat.mul_one, Pure.strs_drop, Pure.strs_take, List.take_of_length_le (by rw [List.length_drop]; omega)] at g3
    obtain ⟨s7, h4, y1, y2, y3, y4⟩ := Pure.apps_s v2.wf v3 g3 (by rw [List.length_take, List.length_drop]; omega)
    rw [y1]
    simp only [Option.bind_some]
    rw [wrap_succ (by omega)]
    have c4 := Ch0.own c3 y2 own5
    have R3 : RightP (vols us2) := by rw [d5]; exact (R2 rfl).1
    refine Pure.ord_l1 k hk w0 r1 hA hA2 n (i + 1) h4 t2 us2 s7 (rm.take j ++ rm.drop (j + 1)) (by rw [List.length_append, List.length_take, List.length_drop]; omega) (by rw [List.length_append, List.length_take, List.length_drop]; omega) ((C.then d2).then c4) (d3.stay d2.wf c4) y3.slr R3 ?_ (fun x hx => hN x ?_)
    · refine List.Perm.trans ?_ P
      rw [d5]
      have e2 : rm.map Pure.mkV = (rm.take j).map Pure.mkV ++ Pure.mkV rm[j] :: (rm.drop (j + 1)).map Pure.mkV := by rw [← List.map_cons, ← List.map_append, ← er]
      rw [e2, List.map_append]
      refine ((Pure.putP_perm _ _).append_right _).trans ?_
      rw [List.cons_append, ← List.append_assoc, ← List.append_assoc]
      exact List.perm_middle.symm
    · rcases List.mem_append.1 hx with z | z
      · exact List.mem_of_mem_take z
      · exact List.mem_of_mem_drop z
theorem Pure.ord_f (k : Nat) (hk : 20000 < k) {h : H} (w : WF h) {a0 a1 : Sl} {l m : List Int} (r0 : SlR 1 h a0 (ivs l)) (r1 : SlR 1 h a1 (ivs m)) : ∃ h', corbellaw18_TreeOrders.f k a0 a1 h = some (true, h') := by
  unfold corbellaw18_TreeOrders.f
  simp only [Bool.not_true, cond_false]
  have R0 : RightP (vols []) := ⟨List.Pairwise.nil, (fun _ f => by cases f), (fun _ f => by cases f), (fun _ f => by cases f), Nat.zero_le _⟩
  obtain ⟨h1, t, us, s, al, b1, b2, b3, b4, b5, b6, b7, b8⟩ := Pure.ord_l0 k hk w (x2 := a1) (x3 := ⟨none, 0, 0⟩) r0 k 0 h ⟨none, 0, 0⟩ [] ⟨none, 0, 0⟩ [] (by omega) (by omega) (Ch.refl w) TreeO.nil Ow.nil (fun x f => absurd f noSlB) (fun x _ f => absurd f noSlB) R0 (List.Perm.refl _) (Nat.le_refl _) (fun x f => by cases f)
  rw [show (0 : Int) = Int.ofNat 0 from rfl, b1]
  simp only [Option.bind_some]
  obtain ⟨h2, t2, us2, c1, c2, c3, c4, c5⟩ := Pure.ord_l1 k hk b2.wf (x20 := t) (r1.stay w b2) (A := vols us) (Pure.nodup_names b5.so) b5.le k 0 h1 ⟨none, 0, 0⟩ [] s al (by omega) (by omega) (Ch.refl b2.wf) TreeO.nil b4.slr R0 (by show (al.map Pure.mkV).Perm _; exact b6.symm) b8
  rw [c1]
  simp only [Option.bind_some]
  have T2 := b3.read.stay b2.wf c2
  rw [show (1 : Int) = Int.ofNat 1 from rfl, Pure.ord_l2 k T2 b5 k 1 (by have := b5.b.n; omega) (Nat.le_refl _) (by omega)]
  simp only [Option.bind_some]
  have e := Pure.sorted_perm b5.so c4.so c5.symm
  obtain ⟨h3, f1, f2⟩ := Pure.same_f k hk c2.wf T2 c3.read b5.b e
  rw [f1]
  simp only [Option.bind_some, cond_true]
  obtain ⟨v, h4, g1, g2, g3⟩ := tright_f k hk f2.wf (T2.stay c2.wf f2) b5.b
  rw [g1, g3.2 b5]
  exact ⟨h4, rfl⟩
theorem Pure.TreeOrders : ∀ h x vs, Den.WF h → Den.Dead h → Ar.TreeOrders.R h x vs → Ar.TreeOrders.Q x → ∃ a, Den.encL [.sl, .sl] a = vs ∧ Den.toldB (Fwd.corbellaw18_TreeOrders.f 2000000 a.1 a.2 h) = true := by
  rintro h ⟨l, m, _⟩ vs w _ ⟨va, vb, rfl, r1, vc, vd, rfl, r2, rfl⟩ _
  obtain ⟨s, rfl, s1, _⟩ := RSl.one (f := fun n : Int => Value.int .i64 n) (fun h x l r => r) w r1
  obtain ⟨t, rfl, t1, _⟩ := RSl.one (f := fun n : Int => Value.int .i64 n) (fun h x l r => r) w r2
  obtain ⟨h', e⟩ := Pure.ord_f 2000000 (by decide) w (a0 := s) (a1 := t) s1 t1
  exact ⟨(s, t), rfl, (congrArg toldB e).trans rfl⟩
end Go.Proofs.Ytfenkpghcbohdaa
