/- A tree's bytes read back: plain lists. No program, no condition. -/
import Derived.Test.YtfenkpghcbohdaaPaFwTreeB
import Derived.Test.YtfenkpghcbohdaaDenOpen
namespace Go.Proofs.Ytfenkpghcbohdaa.Fw
open Go Den Fwd
set_option linter.unusedVariables false
set_option linter.unusedSimpArgs false
/-! ### as the program reads: so many bytes, or all there are -/
/-! ### as the reference reads: so many bytes, or none -/
/-! ### what is laid is read -/
/-! ### bounds of what is read -/
/-! ### the map -/
/-! ### a volume -/
def zVo : List Value := [Value.string (⟨#[]⟩ : ByteArray), Value.string (⟨#[]⟩ : ByteArray), Value.bool false, Value.int .i64 (0 : Int), Value.slice none 0 0]
theorem TreeO.keep {h h' : H} {s : Sl} {vs : List Vs} (k : ∀ x, (SlB s x ∨ ∃ q ∈ vs, SlB q.2 x) → h'.get x = h.get x) (T : TreeO h s vs) : TreeO h' s vs :=
  ⟨T.ow.keep fun b hb => k b (.inl hb), fun q hq => (T.mp q hq).keep fun b hb => k b (.inr ⟨q, hq, hb⟩), T.di, T.ne⟩
theorem Fresh.all {n : Nat} {s : Sl} {vs : List Vs} (F : Fresh n s vs) {x : Nat} (h : SlB s x ∨ ∃ q ∈ vs, SlB q.2 x) : n ≤ x := h.elim (F.1 x) fun ⟨q, hq, hx⟩ => F.2 q hq x hx
theorem TreeO.lt {h : H} (w : WF h) {s : Sl} {vs : List Vs} (T : TreeO h s vs) {x : Nat} (hx : SlB s x ∨ ∃ q ∈ vs, SlB q.2 x) : x < h.next := hx.elim (T.ow.lt w) fun ⟨q, hq, f⟩ => (T.mp q hq).lt w f
/-! ### the same? -/
theorem sameInts_l0 (k : Nat) {h : H} {s t : Sl} {l m : List Int} (r : SlR 1 h s (ivs l)) (q : SlR 1 h t (ivs m)) (hl : l.length = m.length) (hx : l.length ≤ 100000) : ∀ n j, l.length - j < n → j ≤ l.length → l.take j = m.take j →
    ∃ v, corbelref7_SameInts.l0 k n s t (Int.ofNat j) h = some (v, h) ∧ ((v = .inr () ∧ l = m) ∨ (v = .inl false ∧ l ≠ m))
  | 0, j, hf, _, _ => by omega
  | n + 1, j, hf, hj, e => by
    rw [corbelref7_SameInts.l0_succ, SlR.ivn r]
    by_cases c : j < l.length
    · rw [decLt c, cond_true]
      obtain ⟨n1, p, e1, e2⟩ := SlR.int r c
      obtain ⟨n2, p', f1, f2⟩ := SlR.int q (show j < m.length by omega)
      rw [n1] at e1
      rw [e1]
      simp only [asP_ptr, Option.bind_some, e2, asI_int]
      rw [f1]
      simp only [asP_ptr, Option.bind_some, f2, asI_int]
      by_cases d : l[j] = m[j]
      · rw [d, show (m[j] != m[j]) = false by simp, cond_false, wrap_succ (by omega)]
        refine sameInts_l0 k r q hl hx n (j + 1) (by omega) (by omega) ?_
        rw [List.take_succ_eq_append_getElem c, List.take_succ_eq_append_getElem (by omega), e, d]
      · rw [show (l[j] != m[j]) = true by rw [bne_iff_ne]; exact d, cond_true]
        exact ⟨_, rfl, .inr ⟨rfl, fun f => d (by subst f; rfl)⟩⟩
    · rw [decNlt c, cond_false]
      rw [List.take_of_length_le (by omega), List.take_of_length_le (by omega)] at e
      exact ⟨_, rfl, .inl ⟨rfl, e⟩⟩
theorem sameInts_f (k : Nat) {h : H} {s t : Sl} {l m : List Int} (r : SlR 1 h s (ivs l)) (q : SlR 1 h t (ivs m)) (hx : l.length < k) (hx2 : l.length ≤ 100000) : corbelref7_SameInts.f k s t h = some (decide (l = m), h) := by
  unfold corbelref7_SameInts.f
  rw [SlR.ivn r, SlR.ivn q]
  by_cases c : l.length = m.length
  · rw [c, show (Int.ofNat m.length != Int.ofNat m.length) = false by simp, cond_false, show (0 : Int) = Int.ofNat 0 from rfl]
    obtain ⟨v, a1, a2⟩ := sameInts_l0 k r q c hx2 k 0 (by omega) (Nat.zero_le _) rfl
    rw [a1]
    rcases a2 with ⟨rfl, e⟩ | ⟨rfl, e⟩
    · rw [decide_eq_true e]; rfl
    · rw [decide_eq_false e]; rfl
  · rw [show (Int.ofNat l.length != Int.ofNat m.length) = true by rw [bne_iff_ne]; exact fun f => c (Int.ofNat.inj f), cond_true, decide_eq_false (fun f => c (by rw [f]))]
theorem Vol.ext_iff' (a b : Vol) : a = b ↔ a.nm = b.nm ∧ a.pa = b.pa ∧ a.sn = b.sn ∧ a.sz = b.sz ∧ a.mp = b.mp := by
  cases a; cases b
  simp only [Vol.mk.injEq]
theorem sameVol_f (k : Nat) (hk : 20000 < k) {h : H} (w : WF h) (q u : Vs) (Q : SlR 1 h q.2 (ivs q.1.mp)) (U : SlR 1 h u.2 (ivs u.1.mp)) (hb : q.1.mp.length ≤ 10000) :
    ∃ h', corbelref16_SameVolume.f k (voT q) (voT u) h = some (decide (q.1 = u.1), h') ∧ Ch0 h h' := by
  unfold corbelref16_SameVolume.f voT
  dsimp only
  rw [show [Value.string (ba q.1.nm), Value.string (ba q.1.pa), Value.bool q.1.sn, Value.int .i64 q.1.sz, Value.slice q.2.a q.2.n q.2.c] = voL q from rfl, show [Value.string (ba u.1.nm), Value.string (ba u.1.pa), Value.bool u.1.sn, Value.int .i64 u.1.sz, Value.slice u.2.a u.2.n u.2.c] = voL u from rfl]
  obtain ⟨y1, y2, y3⟩ := newR_ok w 58 5 (voL q)
  generalize newR h 58 5 (voL q) = g at y1 y2 y3 ⊢
  obtain ⟨z1, z2, z3⟩ := newR_ok y1.wf 58 5 (voL u)
  generalize newR g 58 5 (voL u) = f at z1 z2 z3 ⊢
  have I := y3.stay y1.wf z1
  have C := y1.then z1
  have q0 : asT (ldc f (some ⟨h.next, 0, none⟩)) = some (ba q.1.nm) := by rw [I.ldc]; exact asTs _
  have q1 : asT (ldc f (some ⟨h.next, 1, none⟩)) = some (ba q.1.pa) := by rw [I.ldc]; exact asTs _
  have q2 : asB (ldc f (some ⟨h.next, 2, none⟩)) = some q.1.sn := by rw [I.ldc]; exact asBs _
  have q3 : asI .i64 (ldc f (some ⟨h.next, 3, none⟩)) = some q.1.sz := by rw [I.ldc]; exact asI_int _ _
  have q4 : asS (ldc f (some ⟨h.next, 4, none⟩)) = some q.2 := by rw [I.ldc]; exact asS_slv _
  have u0 : asT (ldc f (some ⟨g.next, 0, none⟩)) = some (ba u.1.nm) := by rw [z3.ldc]; exact asTs _
  have u1 : asT (ldc f (some ⟨g.next, 1, none⟩)) = some (ba u.1.pa) := by rw [z3.ldc]; exact asTs _
  have u2 : asB (ldc f (some ⟨g.next, 2, none⟩)) = some u.1.sn := by rw [z3.ldc]; exact asBs _
  have u3 : asI .i64 (ldc f (some ⟨g.next, 3, none⟩)) = some u.1.sz := by rw [z3.ldc]; exact asI_int _ _
  have u4 : asS (ldc f (some ⟨g.next, 4, none⟩)) = some u.2 := by rw [z3.ldc]; exact asS_slv _
  rw [q0, u0]
  simp only [Option.bind_some]
  rw [q1, u1]
  simp only [Option.bind_some]
  rw [bat_eq, bat_eq]
  refine ⟨f, ?_, C⟩
  have E := Vol.ext_iff' q.1 u.1
  by_cases c0 : q.1.nm = u.1.nm
  rotate_left
  · rw [decide_eq_false c0, decide_eq_false (fun e => c0 (E.1 e).1)]; rfl
  rw [decide_eq_true c0]
  simp only [cond_true, Option.bind_some]
  by_cases c1 : q.1.pa = u.1.pa
  rotate_left
  · rw [decide_eq_false c1, decide_eq_false (fun e => c1 (E.1 e).2.1)]; rfl
  rw [decide_eq_true c1]
  simp only [cond_true, Option.bind_some]
  rw [q2, u2]
  simp only [Option.bind_some]
  by_cases c2 : q.1.sn = u.1.sn
  rotate_left
  · rw [show (q.1.sn == u.1.sn) = false by rw [beq_eq_false_iff_ne]; exact c2, decide_eq_false (fun e => c2 (E.1 e).2.2.1)]; rfl
  rw [show (q.1.sn == u.1.sn) = true by rw [c2]; simp]
  simp only [cond_true, Option.bind_some]
  rw [q3, u3]
  simp only [Option.bind_some]
  by_cases c3 : q.1.sz = u.1.sz
  rotate_left
  · rw [show (q.1.sz == u.1.sz) = false by rw [beq_eq_false_iff_ne]; exact c3, decide_eq_false (fun e => c3 (E.1 e).2.2.2.1)]; rfl
  rw [show (q.1.sz == u.1.sz) = true by rw [c3]; simp]
  simp only [cond_true, Option.bind_some]
  rw [q4, u4]
  simp only [Option.bind_some]
  rw [sameInts_f k (Q.stay w C) (U.stay w C) (by omega) (by omega)]
  simp only [Option.bind_some]
  rw [decide_eq_decide.2 (show q.1.mp = u.1.mp ↔ q.1 = u.1 from ⟨fun e => E.2 ⟨c0, c1, c2, c3, e⟩, fun e => (E.1 e).2.2.2.2⟩)]
theorem sameTree_l0 (k : Nat) (hk : 20000 < k) {h0 : H} (w0 : WF h0) {s t : Sl} {vs us : List Vs} (S : TreeR h0 s vs) (T : TreeR h0 t us) (B : TreeB vs) (hl : vs.length = us.length) : ∀ n i h, vs.length - i < n → i ≤ vs.length → Ch0 h0 h → (vols vs).take i = (vols us).take i →
    ∃ v h', corbelref16_SameTree.l0 k n s t (Int.ofNat i) h = some (v, h') ∧ Ch0 h0 h' ∧ ((v = .inr () ∧ vols vs = vols us) ∨ (v = .inl false ∧ vols vs ≠ vols us))
  | 0, i, h, hf, _, _, _ => by omega
  | n + 1, i, h, hf, hi, C, e => by
    rw [corbelref16_SameTree.l0_succ, S.n]
    have hn := B.n
    by_cases c : i < vs.length
    · rw [decLt c, cond_true]
      obtain ⟨b, o, e1, e2, _⟩ := (S.stay w0 C).at c
      rw [S.n] at e1
      rw [e1]
      simp only [asP_ptr, Option.bind_some]
      rw [e2, bindVo]
      obtain ⟨b', o', f1, f2, _⟩ := (T.stay w0 C).at (i := i) (by omega)
      rw [f1]
      simp only [asP_ptr, Option.bind_some]
      rw [f2, bindVo]
      have hv : (vols vs)[i]'(by rw [vols_len]; exact c) = vs[i].1 := by simp only [vols, List.getElem_map]
      have hu : (vols us)[i]'(by rw [vols_len]; omega) = (us[i]'(by omega)).1 := by simp only [vols, List.getElem_map]
      obtain ⟨h', a1, a2⟩ := sameVol_f k hk C.wf vs[i] (us[i]'(by omega)) ((S.mp _ (List.getElem_mem c)).stay w0 C) ((T.mp _ (List.getElem_mem (by omega))).stay w0 C) (B.nm _ (List.getElem_mem c)).2.2
      have a1 : corbelref16_SameVolume.f k ((voT vs[i]).1, (voT vs[i]).2.1, (voT vs[i]).2.2.1, (voT vs[i]).2.2.2.1, (voT vs[i]).2.2.2.2) ((voT (us[i]'(by omega))).1, (voT (us[i]'(by omega))).2.1, (voT (us[i]'(by omega))).2.2.1, (voT (us[i]'(by omega))).2.2.2.1, (voT (us[i]'(by omega))).2.2.2.2) h = _ := a1
      rw [a1]
      simp only [Option.bind_some]
      by_cases d : vs[i].1 = (us[i]'(by omega)).1
      · rw [decide_eq_true d, Bool.not_true, cond_false, wrap_succ (by omega)]
        refine sameTree_l0 k hk w0 S T B hl n (i + 1) h' (by omega) (by omega) (C.then a2) ?_
        rw [List.take_succ_eq_append_getElem (by rw [vols_len]; exact c), List.take_succ_eq_append_getElem (by rw [vols_len]; omega), e, hv, hu, d]
      · rw [decide_eq_false d, Bool.not_false, cond_true]
        refine ⟨_, h', rfl, C.then a2, .inr ⟨rfl, fun f => d ?_⟩⟩
        rw [← hv, ← hu]
        simp only [f]
    · rw [decNlt c, cond_false]
      rw [List.take_of_length_le (by rw [vols_len]; omega), List.take_of_length_le (by rw [vols_len]; omega)] at e
      exact ⟨_, h, rfl, C, .inl ⟨rfl, e⟩⟩
theorem sameTree_f (k : Nat) (hk : 20000 < k) {h : H} (w : WF h) {s t : Sl} {vs us : List Vs} (S : TreeR h s vs) (T : TreeR h t us) (B : TreeB vs) :
    ∃ h', corbelref16_SameTree.f k s t h = some (decide (vols vs = vols us), h') ∧ Ch0 h h' := by
  unfold corbelref16_SameTree.f
  rw [S.n, T.n]
  have hn := B.n
  by_cases c : vs.length = us.length
  · rw [show (Int.ofNat vs.length != Int.ofNat us.length) = false by rw [c]; simp, cond_false, show (0 : Int) = Int.ofNat 0 from rfl]
    obtain ⟨v, h', a1, a2, a3⟩ := sameTree_l0 k hk w S T B c k 0 h (by omega) (Nat.zero_le _) (Ch.refl w) rfl
    rw [a1]
    rcases a3 with ⟨rfl, e⟩ | ⟨rfl, e⟩
    · exact ⟨h', by rw [decide_eq_true e]; rfl, a2⟩
    · exact ⟨h', by rw [decide_eq_false e]; rfl, a2⟩
  · rw [show (Int.ofNat vs.length != Int.ofNat us.length) = true by rw [bne_iff_ne]; exact fun f => c (Int.ofNat.inj f), cond_true]
    exact ⟨h, by rw [decide_eq_false (fun f => c (by have := congrArg List.length f; rw [vols_len, vols_len] at this; exact this))], Ch.refl w⟩
/-! ### a list of bytes' slices -/
structure PsO (n0 : Nat) (h : H) (s : Sl) (ps : Parts) : Prop where
  ow : Ow 30 1 h s (ps.map fun p => slv p.1)
  rd : PartsR h ps
  fs : ∀ z, SlB s z → n0 ≤ z
  fp : ∀ p ∈ ps, ∀ z, SlB p.1 z → n0 ≤ z ∧ ¬ SlB s z
theorem PsO.nil {n0 : Nat} {h : H} : PsO n0 h ⟨none, 0, 0⟩ [] := ⟨Ow.nil, (fun _ f => by cases f), (fun z f => absurd f noSlB), (fun _ f => by cases f)⟩
theorem PsO.keep {n0 : Nat} {h h' : H} {s : Sl} {ps : Parts} (w : WF h) (P : PsO n0 h s ps) (k : ∀ z, n0 ≤ z → z < h.next → h'.get z = h.get z) : PsO n0 h' s ps :=
  ⟨P.ow.keep fun b hb => k b (P.fs b hb) (P.ow.lt w hb), fun p hp => (P.rd p hp).keep fun b hb => k b (P.fp p hp b hb).1 ((P.rd p hp).blk w hb), P.fs, P.fp⟩
theorem PsO.stay {n0 : Nat} {h h' : H} {s : Sl} {ps : Parts} (w : WF h) (P : PsO n0 h s ps) (c : Ch0 h h') : PsO n0 h' s ps := P.keep w fun z _ hz => c.keep z hz fun f => f
theorem PsO.n {n0 : Nat} {h : H} {s : Sl} {ps : Parts} (P : PsO n0 h s ps) : s.n = ps.length := by
  have := P.ow.slr.len
  rw [List.length_map, Nat.mul_one] at this
  exact this.symm
theorem PsO.push {n0 : Nat} {h : H} (w : WF h) {s : Sl} {ps : Parts} (P : PsO n0 h s ps) (hn : n0 ≤ h.next) (p : Sl × List UInt8) (rp : SlR 1 h p.1 (byt p.2)) (fp : ∀ z, SlB p.1 z → n0 ≤ z ∧ ¬ SlB s z) (hb : ps.length ≤ 2000000000000) :
    ∃ s' h', asS2 (apv 30 1 24 (.slice s.a s.n s.c) (.slice (some ⟨h.next, 0, none⟩) 1 1) (newR h 30 1 [slv p.1])) = some (s', h') ∧ Ch (SlB s) h h' ∧ PsO n0 h' s' (ps ++ [p]) ∧ ∀ b, SlB s' b → SlB s b ∨ h.next ≤ b := by
  obtain ⟨n1, n2, n3⟩ := newR_ok w 30 1 [slv p.1]
  obtain ⟨s', h', e1, e2, e3, e4, e5⟩ := apv_ok (by_ := 24) n1.wf (P.ow.stay w n1) (by decide) (SlR.of_is n3 (n := 1) rfl (by unfold unk; omega)) (by rw [P.n]; show (ps.length + 1) * 24 ≤ _; omega) rfl
  have c : Ch (SlB s) h h' := (n1.mono fun _ _ f => f.elim).trans e2 fun _ _ f => f
  have near : ∀ b, SlB s' b → SlB s b ∨ h.next ≤ b := fun b hb => (e5 b hb).imp id fun f => by omega
  have mem : ∀ q ∈ ps ++ [p], SlR 1 h q.1 (byt q.2) ∧ ∀ z, SlB q.1 z → n0 ≤ z ∧ ¬ SlB s z := fun q hq => by
    rcases List.mem_append.1 hq with z | z
    · exact ⟨P.rd q z, P.fp q z⟩
    · rw [List.mem_singleton.1 z]; exact ⟨rp, fp⟩
  refine ⟨s', h', e1, c, ⟨?_, fun q hq => ?_, fun z hz => (near z hz).elim (P.fs z) fun f => by omega, fun q hq z hz => ?_⟩, near⟩
  · rw [List.map_append]; exact e3
  · obtain ⟨r, f⟩ := mem q hq
    exact r.keep fun b hb => c.keep b (r.blk w hb) (f b hb).2
  · obtain ⟨r, f⟩ := mem q hq
    refine ⟨(f z hz).1, fun g => (near z g).elim (f z hz).2 fun y => ?_⟩
    have := r.blk w hz
    omega
/-! ### the program -/
/-! ### the reference -/
end Go.Proofs.Ytfenkpghcbohdaa.Fw
