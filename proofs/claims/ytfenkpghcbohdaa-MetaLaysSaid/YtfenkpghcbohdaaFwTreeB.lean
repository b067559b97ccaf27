/- Lists of volumes of the run's own: copied, one put in. No condition. -/
import Derived.Test.YtfenkpghcbohdaaFwTreeA
namespace Go.Proofs.Ytfenkpghcbohdaa.Fw
open Go Den Fwd
set_option linter.unusedVariables false
set_option linter.unusedSimpArgs false
/-! ### a list of the run's own -/
abbrev Apart (a b : Vs) : Prop := ∀ x, SlB a.2 x → ¬ SlB b.2 x
theorem Apart.symm {a b : Vs} (h : Apart a b) : Apart b a := fun x hb ha => h x ha hb
structure TreeO (h : H) (s : Sl) (vs : List Vs) : Prop where
  ow : Ow 58 5 h s (vs.map voL).flatten
  mp : ∀ q ∈ vs, Ow 3 1 h q.2 (ivs q.1.mp)
  di : vs.Pairwise Apart
  ne : ∀ q ∈ vs, ∀ x, SlB s x → ¬ SlB q.2 x
/-- nothing of it lies below -/
def Fresh (n : Nat) (s : Sl) (vs : List Vs) : Prop := (∀ x, SlB s x → n ≤ x) ∧ ∀ q ∈ vs, ∀ x, SlB q.2 x → n ≤ x
theorem Fresh.mono {m n : Nat} {s : Sl} {vs : List Vs} (f : Fresh n s vs) (h : m ≤ n) : Fresh m s vs := ⟨fun x hx => Nat.le_trans h (f.1 x hx), fun q hq x hx => Nat.le_trans h (f.2 q hq x hx)⟩
theorem TreeO.read {h : H} {s : Sl} {vs : List Vs} (T : TreeO h s vs) : TreeR h s vs := ⟨T.ow.slr, fun q hq => (T.mp q hq).slr⟩
theorem TreeO.stay {h h' : H} {s : Sl} {vs : List Vs} (w : WF h) (c : Ch0 h h') (T : TreeO h s vs) : TreeO h' s vs := ⟨T.ow.stay w c, fun q hq => (T.mp q hq).stay w c, T.di, T.ne⟩
theorem TreeO.nil {h : H} : TreeO h ⟨none, 0, 0⟩ [] := ⟨Ow.nil, (fun _ f => by cases f), List.Pairwise.nil, (fun _ f => by cases f)⟩
theorem noSlB {n c x : Nat} : ¬ SlB ⟨none, n, c⟩ x := fun ⟨o, f⟩ => by cases f
theorem Fresh.nil {n : Nat} : Fresh n ⟨none, 0, 0⟩ [] := ⟨(fun x f => absurd f noSlB), (fun _ f => by cases f)⟩
theorem voL_one (q : Vs) : (voL q).all Den.one = true := rfl
theorem vo_len (vs : List Vs) : ((vs.map voL).flatten).length = vs.length * 5 := by rw [flat_len (vo_es vs), List.length_map]
theorem Ow.von {h : H} {s : Sl} {vs : List Vs} (o : Ow 58 5 h s (vs.map voL).flatten) : s.n = vs.length := by
  have := o.slr.len
  rw [vo_len] at this
  omega
theorem vo_app (a b : List Vs) : ((a ++ b).map voL).flatten = (a.map voL).flatten ++ (b.map voL).flatten := by rw [List.map_append, List.flatten_append]
theorem vo_sing (q : Vs) : ([q].map voL).flatten = voL q := by simp
theorem vo_take (vs : List Vs) (i : Nat) : ((vs.map voL).flatten).take (i * 5) = ((vs.take i).map voL).flatten := by
  by_cases c : i ≤ vs.length
  · have e : (vs.map voL).flatten = ((vs.take i).map voL).flatten ++ ((vs.drop i).map voL).flatten := by rw [← vo_app, List.take_append_drop]
    rw [e, List.take_append_of_le_length (by rw [vo_len, List.length_take]; omega), List.take_of_length_le (by rw [vo_len, List.length_take]; omega)]
  · rw [List.take_of_length_le (by rw [vo_len]; omega), List.take_of_length_le (by omega)]
theorem vo_drop (vs : List Vs) (i : Nat) (c : i ≤ vs.length) : ((vs.map voL).flatten).drop (i * 5) = ((vs.drop i).map voL).flatten := by
  have e : (vs.map voL).flatten = ((vs.take i).map voL).flatten ++ ((vs.drop i).map voL).flatten := by rw [← vo_app, List.take_append_drop]
  have l : (((vs.take i).map voL).flatten).length = i * 5 := by rw [vo_len, List.length_take]; omega
  rw [e, ← l, List.drop_left]
/-- a list's rows, one more -/
theorem push_vo {h : H} (w : WF h) {s : Sl} {vs : List Vs} (o : Ow 58 5 h s (vs.map voL).flatten) (q : Vs) (hn : vs.length ≤ 1000) :
    ∃ s' h', asS2 (apv 58 5 72 (.slice s.a s.n s.c) (.slice (some ⟨h.next, 0, none⟩) 1 1) (newR h 58 5 (voL q))) = some (s', h') ∧ Ch (SlB s) h h' ∧ Ow 58 5 h' s' ((vs ++ [q]).map voL).flatten ∧ ∀ b, SlB s' b → SlB s b ∨ h.next ≤ b := by
  obtain ⟨n1, n2, n3⟩ := newR_ok w 58 5 (voL q)
  obtain ⟨s', h', e1, e2, e3, e4, e5⟩ := apv_ok (by_ := 72) n1.wf (o.stay w n1) (by decide) (SlR.of_is n3 (n := 1) rfl (by unfold unk; omega)) (by rw [Ow.von o]; show (vs.length + 1) * 72 ≤ _; omega) (voL_one q)
  refine ⟨s', h', e1, (n1.mono fun _ _ f => f.elim).trans e2 fun _ _ f => f, ?_, fun b hb => (e5 b hb).imp id fun f => ?_⟩
  · rw [vo_app, vo_sing]; exact e3
  · omega
/-- .. rows behind rows -/
theorem apps_vo {h : H} (w : WF h) {s x : Sl} {vs us : List Vs} (o : Ow 58 5 h s (vs.map voL).flatten) (r : SlR 5 h x (us.map voL).flatten) (hn : vs.length + us.length ≤ 10000) :
    ∃ s' h', asS2 (apv 58 5 72 (.slice s.a s.n s.c) (.slice x.a x.n x.c) h) = some (s', h') ∧ Ch (SlB s) h h' ∧ Ow 58 5 h' s' ((vs ++ us).map voL).flatten ∧ ∀ b, SlB s' b → SlB s b ∨ h.next ≤ b := by
  have hx : x.n = us.length := by have := r.len; rw [vo_len] at this; omega
  obtain ⟨s', h', e1, e2, e3, e4, e5⟩ := apv_ok (by_ := 72) w o (by decide) r (by rw [Ow.von o, hx]; omega) (vo_one us)
  exact ⟨s', h', e1, e2, by rw [vo_app]; exact e3, fun b hb => (e5 b hb).imp id fun f => f.1⟩
/-- append([]int{}, m...) -/
theorem dup_ok {h : H} (w : WF h) {s : Sl} {l : List Int} (r : SlR 1 h s (ivs l)) (hl : l.length ≤ 10000) :
    ∃ s' h', asS2 (apv 3 1 8 (Value.slice (some ⟨h.next, 0, none⟩) 0 0) (Value.slice s.a s.n s.c) (newR h 3 1 [])) = some (s', h') ∧ Ch0 h h' ∧ Ow 3 1 h' s' (ivs l) ∧ ∀ b, SlB s' b → h.next ≤ b := by
  obtain ⟨n1, n2, n3⟩ := newR_ok w 3 1 []
  obtain ⟨s', h', e1, e2, e3, e4, e5⟩ := apv_ok (by_ := 8) n1.wf (Ow.of_is n3 (n := 0) rfl (by unfold unk; omega)) (by decide) (r.stay w n1) (by rw [SlR.ivn r]; show (0 + l.length) * 8 ≤ _; omega) (by rw [List.all_eq_true]; intro v hv; obtain ⟨n, _, rfl⟩ := List.mem_map.1 hv; rfl)
  have own : ∀ b, SlB (⟨some ⟨h.next, 0, none⟩, 0, 0⟩ : Sl) b → h.next ≤ b := fun b ⟨o, f⟩ => by
    have : h.next = b := congrArg Addr.block (Option.some.inj f)
    omega
  exact ⟨s', h', e1, Ch0.own n1 e2 own, e3, fun b hb => (e5 b hb).elim (own b) fun f => by omega⟩
/-! ### copied -/
theorem TreeO.push {h h' : H} (w : WF h) {s s' : Sl} {vs : List Vs} (T : TreeO h s vs) (c : Ch (SlB s) h h') (q : Vs) (M : Ow 3 1 h q.2 (ivs q.1.mp)) (hs : ∀ x, SlB s x → ¬ SlB q.2 x) (ha : ∀ a ∈ vs, Apart a q) (o : Ow 58 5 h' s' ((vs ++ [q]).map voL).flatten) (hb : ∀ b, SlB s' b → SlB s b ∨ h.next ≤ b) : TreeO h' s' (vs ++ [q]) := by
  have keep : ∀ a : Vs, Ow 3 1 h a.2 (ivs a.1.mp) → (∀ x, SlB s x → ¬ SlB a.2 x) → Ow 3 1 h' a.2 (ivs a.1.mp) := fun a O n => O.keep fun b hb => c.keep b (O.lt w hb) fun f => n b f hb
  have far : ∀ a : Vs, Ow 3 1 h a.2 (ivs a.1.mp) → (∀ x, SlB s x → ¬ SlB a.2 x) → ∀ x, SlB s' x → ¬ SlB a.2 x := fun a O n x hx f => (hb x hx).elim (fun g => n x g f) fun g => by have := O.lt w f; omega
  refine ⟨o, fun a ha' => ?_, ?_, fun a ha' => ?_⟩
  · rcases List.mem_append.1 ha' with e | e
    · exact keep a (T.mp a e) (T.ne a e)
    · rw [List.mem_singleton.1 e]; exact keep q M hs
  · rw [List.pairwise_append]
    exact ⟨T.di, List.pairwise_singleton _ _, fun a ha' b hb' => by rw [List.mem_singleton.1 hb']; exact ha a ha'⟩
  · rcases List.mem_append.1 ha' with e | e
    · exact far a (T.mp a e) (T.ne a e)
    · rw [List.mem_singleton.1 e]; exact far q M hs
theorem copied_l0 (k : Nat) {h0 : H} (w0 : WF h0) {s : Sl} {vs : List Vs} (T : TreeR h0 s vs) (B : TreeB vs) : ∀ n i h t us, vs.length - i < n → i ≤ vs.length → Ch0 h0 h → TreeO h t us → Fresh h0.next t us → vols us = (vols vs).take i →
    ∃ t' h' us', corbelref16_copied.l0 k n s t (Int.ofNat i) h = some (t', h') ∧ Ch0 h0 h' ∧ TreeO h' t' us' ∧ Fresh h0.next t' us' ∧ vols us' = vols vs
  | 0, i, h, t, us, hf, _, _, _, _, _ => by omega
  | n + 1, i, h, t, us, hf, hi, C, O, F, e => by
    rw [corbelref16_copied.l0_succ]
    have hn := B.n
    have ul : us.length = i := by
      have := congrArg List.length e
      rw [vols_len, List.length_take, vols_len] at this
      omega
    by_cases c : i < vs.length
    · rw [T.n, decLt c, cond_true]
      obtain ⟨b, o, e1, e2, e3⟩ := (T.stay w0 C).at c
      rw [T.n] at e1
      rw [e1]
      simp only [asP_ptr, Option.bind_some]
      rw [e2, bindVo]
      dsimp only [voT]
      have hB := B.nm _ (List.getElem_mem c)
      have hM := T.mp _ (List.getElem_mem c)
      generalize hq : vs[i] = q at hB hM
      rw [show [Value.string (ba q.1.nm), Value.string (ba q.1.pa), Value.bool q.1.sn, Value.int .i64 q.1.sz, Value.slice q.2.a q.2.n q.2.c] = voL q from rfl]
      obtain ⟨h1, b1, b2, b3, b4⟩ := box_ok C.wf 58 5 [Value.string (⟨#[]⟩ : ByteArray), Value.string (⟨#[]⟩ : ByteArray), Value.bool false, Value.int .i64 (0 : Int), Value.slice none 0 0] (voL q) rfl rfl rfl
      rw [b1]
      simp only [Option.bind_some]
      have C1 := C.then b2
      obtain ⟨n1, n2, n3⟩ := newR_ok b2.wf 3 1 []
      rw [(b4.stay b2.wf n1).ldc, show asS ((voL q)[4]?) = some q.2 from asS_slv _]
      simp only [Option.bind_some]
      obtain ⟨m, h2, d1, d2, d3, d4⟩ := dup_ok b2.wf (hM.stay w0 C1) (by omega)
      rw [d1]
      simp only [Option.bind_some]
      have C2 := C1.then d2
      obtain ⟨h3, f1, f2, f3, f4⟩ := (b4.stay b2.wf d2).set d2.wf 4 (slv m) (by show 4 < 5; decide) rfl
      rw [show [Value.slice m.a m.n m.c] = [slv m] from rfl, f1]
      simp only [Option.bind_some]
      have C3 := Ch0.at C2 f2 C.le
      let q' : Vs := (q.1, m)
      have f4 : Is h3 h.next 58 5 (voL q') := f4
      rw [ldaIs (n := 5) f4 rfl, bindVo]
      dsimp only [voT]
      rw [show [Value.string (ba q'.1.nm), Value.string (ba q'.1.pa), Value.bool q'.1.sn, Value.int .i64 q'.1.sz, Value.slice q'.2.a q'.2.n q'.2.c] = voL q' from rfl]
      have O2 := O.stay C.wf (b2.then d2)
      have lt1 : h.next < h1.next := by omega
      -- what the box's cell turns is no block of the list
      have O3 : TreeO h3 t us := by
        have kp : ∀ x, x < h.next → h3.get x = h2.get x := fun x hx => f2.keep x (by have := b2.le; have := d2.le; omega) fun f => by omega
        exact ⟨O2.ow.keep fun x hx => kp x (O.ow.lt C.wf hx), fun a ha => (O2.mp a ha).keep fun x hx => kp x ((O.mp a ha).lt C.wf hx), O2.di, O2.ne⟩
      have M3 : Ow 3 1 h3 q'.2 (ivs q'.1.mp) := d3.keep fun x hx => f2.keep x (d3.lt d2.wf hx) fun f => by have := d4 x hx; omega
      obtain ⟨t1, h4, g1, g2, g3, g4⟩ := push_vo C3.wf O3.ow q' (by omega)
      rw [g1]
      simp only [Option.bind_some]
      rw [wrap_succ (by omega)]
      have mf : ∀ x, SlB q'.2 x → h.next ≤ x := fun x hx => by have := d4 x hx; omega
      have O4 := TreeO.push C3.wf O3 g2 q' M3 (fun x hx f => by have := mf x f; have := O.ow.lt C.wf hx; omega) (fun a ha x hx f => by have := mf x f; have := (O.mp a ha).lt C.wf hx; omega) g3 g4
      have F4 : Fresh h0.next t1 (us ++ [q']) := by
        refine ⟨fun x hx => (g4 x hx).elim (F.1 x) fun f => Nat.le_trans C3.le f, fun a ha x hx => ?_⟩
        rcases List.mem_append.1 ha with z | z
        · exact F.2 a z x hx
        · rw [List.mem_singleton.1 z] at hx; exact Nat.le_trans C.le (mf x hx)
      have hv : (vols vs)[i]'(by rw [vols_len]; exact c) = q.1 := by simp only [vols, List.getElem_map, hq]
      exact copied_l0 k w0 T B n (i + 1) h4 t1 (us ++ [q']) (by omega) (by omega) (Ch0.own C3 g2 F.1) O4 F4 (by
        rw [List.take_succ_eq_append_getElem (by rw [vols_len]; exact c), hv, ← e]
        unfold vols
        rw [List.map_append]; rfl)
    · rw [T.n, decNlt c, cond_false]
      exact ⟨t, h, us, rfl, C, O, F, by rw [e, List.take_of_length_le (by rw [vols_len]; omega)]⟩
theorem copied_f (k : Nat) (hk : 20000 < k) {h : H} (w : WF h) {s : Sl} {vs : List Vs} (T : TreeR h s vs) (B : TreeB vs) :
    ∃ t h' us, corbelref16_copied.f k s h = some (t, h') ∧ Ch0 h h' ∧ TreeO h' t us ∧ Fresh h.next t us ∧ vols us = vols vs := by
  unfold corbelref16_copied.f
  have hn := B.n
  obtain ⟨t, h', us, a1, a2⟩ := copied_l0 k w T B k 0 h ⟨none, 0, 0⟩ [] (by omega) (Nat.zero_le _) (Ch.refl w) TreeO.nil Fresh.nil rfl
  rw [show (0 : Int) = Int.ofNat 0 from rfl, a1]
  exact ⟨t, h', us, rfl, a2⟩
theorem put_l0 (k : Nat) {h : H} {s : Sl} {vs : List Vs} (T : TreeR h s vs) (hn : vs.length ≤ 1000) {b : Nat} {q : Vs} (I : Is h b 58 5 (voL q)) : ∀ n i, vs.length - i < n → i ≤ vs.length → (∀ a (ha : a < vs.length), a < i → less vs[a].1.nm q.1.nm = true) →
    ∃ j, j ≤ vs.length ∧ corbelref16_put.l0 k n s (some ⟨b, 0, none⟩) (Int.ofNat i) h = some (Int.ofNat j, h) ∧ (∀ a (ha : a < vs.length), a < j → less vs[a].1.nm q.1.nm = true) ∧ (∀ hj : j < vs.length, less vs[j].1.nm q.1.nm = false)
  | 0, i, hf, _, _ => by omega
  | n + 1, i, hf, hi, hA => by
    rw [corbelref16_put.l0_succ, T.n]
    by_cases c : i < vs.length
    · rw [decLt c, cond_true]
      obtain ⟨b', o', e1, e2, e3⟩ := T.at c
      rw [T.n] at e1
      rw [e1]
      simp only [asP_ptr, Option.bind_some, fadd, Nat.add_zero]
      have e30 := e3 0 (by decide)
      rw [Nat.add_zero] at e30
      rw [e30, show asT ((voL vs[i])[0]?) = some (ba vs[i].1.nm) from asTs _]
      simp only [Option.bind_some]
      rw [I.ldc, show asT ((voL q)[0]?) = some (ba q.1.nm) from asTs _]
      simp only [Option.bind_some]
      rw [ba_list, ba_list]
      cases z : Op.bytesLess vs[i].1.nm q.1.nm with
      | true =>
        rw [cond_true, wrap_succ (by omega)]
        exact put_l0 k T hn I n (i + 1) (by omega) (by omega) fun a ha hai => by
          by_cases e : a = i
          · subst e; exact z
          · exact hA a ha (by omega)
      | false =>
        rw [cond_false]
        exact ⟨i, hi, rfl, hA, fun _ => z⟩
    · rw [decNlt c]
      exact ⟨i, hi, rfl, hA, fun hj => absurd hj c⟩
theorem put_f (k : Nat) (hk : 20000 < k) {h : H} (w : WF h) {s : Sl} {vs : List Vs} (T : TreeO h s vs) (hn : vs.length ≤ 1000) (q : Vs) (M : Ow 3 1 h q.2 (ivs q.1.mp)) (ha : ∀ a ∈ vs, Apart a q) :
    ∃ t h', corbelref16_put.f k s (voT q) h = some (t, h') ∧ Ch0 h h' ∧ (∀ x, SlB t x → h.next ≤ x) ∧ ∃ j, j ≤ vs.length ∧ TreeO h' t (vs.take j ++ q :: vs.drop j) ∧ (∀ a (ha : a < vs.length), a < j → less vs[a].1.nm q.1.nm = true) ∧ (∀ hj : j < vs.length, less vs[j].1.nm q.1.nm = false) := by
  unfold corbelref16_put.f voT
  dsimp only
  rw [show [Value.string (ba q.1.nm), Value.string (ba q.1.pa), Value.bool q.1.sn, Value.int .i64 q.1.sz, Value.slice q.2.a q.2.n q.2.c] = voL q from rfl]
  obtain ⟨y1, y2, y3⟩ := newR_ok w 58 5 (voL q)
  generalize newR h 58 5 (voL q) = g at y1 y2 y3 ⊢
  have T1 := T.stay w y1
  obtain ⟨j, hj, a1, a2, a3⟩ := put_l0 k T1.read hn y3 k 0 (by omega) (Nat.zero_le _) (fun a ha f => by omega)
  rw [show (0 : Int) = Int.ofNat 0 from rfl, a1]
  simp only [Option.bind_some]
  have sn := T1.read.n
  obtain ⟨s1, b1, b2, b3, b4⟩ := subs_ok T1.ow.slr (lo := 0) (hi := j) (Nat.zero_le _) (by omega) (xlo := none) (xhi := some (Int.ofNat j)) rfl rfl
  rw [b1]
  rw [show (some (Value.slice s1.a s1.n s1.c)) = some (slv s1) from rfl, asS_slv]
  simp only [Option.bind_some]
  rw [Nat.zero_mul, List.drop_zero, Nat.sub_zero, vo_take] at b3
  obtain ⟨n1, n2, n3⟩ := newR_ok y1.wf 58 5 []
  have O0 : Ow 58 5 (newR g 58 5 []) ⟨some ⟨g.next, 0, none⟩, 0, 0⟩ ((([] : List Vs).map voL).flatten) := Ow.of_is n3 (n := 0) rfl (by unfold unk; omega)
  have lt1 : (vs.take j).length = j := by rw [List.length_take]; omega
  obtain ⟨t1, h1, c1, c2, c3, c4⟩ := apps_vo n1.wf O0 (b3.stay y1.wf n1) (by rw [lt1]; show 0 + j ≤ _; omega)
  have c1 : asS2 (apv 58 5 72 (Value.slice (some ⟨g.next, 0, none⟩) 0 0) (Value.slice s1.a s1.n s1.c) (newR g 58 5 [])) = some (t1, h1) := c1
  rw [c1]
  simp only [Option.bind_some]
  have own0 : ∀ b, SlB (⟨some ⟨g.next, 0, none⟩, 0, 0⟩ : Sl) b → g.next ≤ b := fun b ⟨o, f⟩ => by
    have : g.next = b := congrArg Addr.block (Option.some.inj f)
    omega
  have C1 : Ch0 g h1 := Ch0.own n1 c2 own0
  have f1 : ∀ b, SlB t1 b → g.next ≤ b := fun b hb => (c4 b hb).elim (own0 b) fun f => by omega
  rw [ldaIs (n := 5) (y3.stay y1.wf C1) rfl, bindVo]
  dsimp only [voT]
  rw [show [Value.string (ba q.1.nm), Value.string (ba q.1.pa), Value.bool q.1.sn, Value.int .i64 q.1.sz, Value.slice q.2.a q.2.n q.2.c] = voL q from rfl]
  obtain ⟨t2, h2, d1, d2, d3, d4⟩ := push_vo C1.wf c3 q (by rw [List.length_append, lt1]; show 0 + j ≤ _; omega)
  rw [d1]
  simp only [Option.bind_some]
  have C2 : Ch0 g h2 := Ch0.own C1 d2 f1
  have f2 : ∀ b, SlB t2 b → g.next ≤ b := fun b hb => (d4 b hb).elim (f1 b) fun f => Nat.le_trans C1.le f
  obtain ⟨s2, e1, e2, e3, e4⟩ := subs_ok T1.ow.slr (lo := j) (hi := s.n) (by omega) (Nat.le_refl _) (xlo := some (Int.ofNat j)) (xhi := none) rfl rfl
  rw [e1]
  rw [show (some (Value.slice s2.a s2.n s2.c)) = some (slv s2) from rfl, asS_slv]
  simp only [Option.bind_some]
  rw [vo_drop _ _ hj, List.take_of_length_le (by rw [vo_len, List.length_drop]; exact Nat.mul_le_mul_right _ (by omega))] at e3
  obtain ⟨t3, h3, g1, g2, g3, g4⟩ := apps_vo C2.wf d3 (e3.stay y1.wf C2) (by simp only [List.length_append, lt1, List.length_drop, List.length_singleton]; show 0 + j + 1 + (vs.length - j) ≤ _; omega)
  rw [g1]
  simp only [Option.bind_some]
  have C3 : Ch0 g h3 := Ch0.own C2 g2 f2
  have f3 : ∀ b, SlB t3 b → g.next ≤ b := fun b hb => (g4 b hb).elim (f2 b) fun f => Nat.le_trans C2.le f
  have ne : ¬ SlB (⟨some ⟨g.next, 0, none⟩, 0, 0⟩ : Sl) h.next := fun f => by have := own0 _ f; omega
  rw [same1_of (c2.keep h.next (by have := n1.le; omega) ne)]
  simp only [Bool.and_self, cond_true]
  have C := y1.then C3
  refine ⟨t3, h3, rfl, C, fun x hx => by have := f3 x hx; have := y1.le; omega, j, hj, ⟨?_, ?_, ?_, ?_⟩, a2, a3⟩
  · have : ([] : List Vs) ++ vs.take j ++ [q] ++ vs.drop j = vs.take j ++ q :: vs.drop j := by simp
    rw [← this]; exact g3
  · intro a hm
    rw [List.perm_middle.mem_iff, List.take_append_drop] at hm
    rcases List.mem_cons.1 hm with z | z
    · rw [z]; exact M.stay w C
    · exact (T.mp a z).stay w C
  · rw [List.perm_middle.pairwise_iff Apart.symm, List.take_append_drop]
    exact List.pairwise_cons.2 ⟨fun a hm => (ha a hm).symm, T.di⟩
  · intro a hm x hx f
    have := f3 x hx
    rw [List.perm_middle.mem_iff, List.take_append_drop] at hm
    rcases List.mem_cons.1 hm with z | z
    · rw [z] at f; have := M.lt w f; have := y1.le; omega
    · have := (T.mp a z).lt w f; have := y1.le; omega
/-! ### which lists stay right -/
theorem put_right {t : List Vol} (R : RightP t) (v : Vol) (hv : isName v.nm = true) (hm : rightMap v.sz v.mp = true) (hno : ∀ u ∈ t, u.nm ≠ v.nm) (hp : parP t v) (hl : t.length < 12) (j : Nat) (hj : j ≤ t.length)
    (h1 : ∀ a (ha : a < t.length), a < j → less t[a].nm v.nm = true) (h2 : ∀ hj : j < t.length, less t[j].nm v.nm = false) : RightP (t.take j ++ v :: t.drop j) := by
  have mem : ∀ u, u ∈ t.take j ++ v :: t.drop j ↔ u = v ∨ u ∈ t := fun u => by rw [List.perm_middle.mem_iff, List.take_append_drop, List.mem_cons]
  have af : ∀ a (ha : a < t.length), j ≤ a → less v.nm t[a].nm = true := fun a ha hja => by
    have hj' : j < t.length := by omega
    have e : less v.nm t[j].nm = true := by
      rcases less_tri v.nm t[j].nm with g | g | g
      · exact g
      · exact absurd g.symm (hno _ (List.getElem_mem hj'))
      · rw [h2 hj'] at g; cases g
    by_cases z : j = a
    · subst z; exact e
    · exact less_trans e (sorted_lt R.so ha (by omega))
  refine ⟨?_, fun u hu => ?_, fun u hu => ?_, fun u hu => ?_, ?_⟩
  · rw [List.pairwise_append]
    refine ⟨R.so.sublist (List.take_sublist _ _), List.pairwise_cons.2 ⟨fun u hu => ?_, R.so.sublist (List.drop_sublist _ _)⟩, fun u hu x hx => ?_⟩
    · obtain ⟨a, ha, rfl⟩ := List.mem_iff_getElem.1 hu
      rw [List.getElem_drop]
      exact af _ _ (by omega)
    · obtain ⟨a, ha, rfl⟩ := List.mem_iff_getElem.1 hu
      rw [List.length_take] at ha
      rw [List.getElem_take]
      have L := h1 a (by omega) (by omega)
      rcases List.mem_cons.1 hx with z | z
      · rw [z]; exact L
      · obtain ⟨c, hc, rfl⟩ := List.mem_iff_getElem.1 z
        rw [List.getElem_drop]
        exact less_trans L (af _ _ (by omega))
  · rcases (mem u).1 hu with z | z
    · rw [z]; exact hv
    · exact R.na u z
  · rcases (mem u).1 hu with z | z
    · rw [z]; exact hm
    · exact R.ma u z
  · have up : ∀ x, parP t x → parP (t.take j ++ v :: t.drop j) x := fun x hx => hx.imp id fun ⟨g1, y, hy, g2⟩ => ⟨g1, y, (mem y).2 (.inr hy), g2⟩
    rcases (mem u).1 hu with z | z
    · rw [z]; exact up v hp
    · exact up u (R.pa u z)
  · rw [List.length_append, List.length_cons, List.length_take, List.length_drop]; omega
theorem nameLen {s : List UInt8} (h : isName s = true) : s.length ≤ 8 := by
  unfold isName at h
  rw [Bool.and_eq_true, Bool.and_eq_true, decide_eq_true_eq, decide_eq_true_eq] at h
  exact h.2.2
theorem mapLen {n : Int} {m : List Int} (h : rightMap n m = true) : m.length ≤ 32 ∧ (m.length : Int) = n / 8 ∧ 0 ≤ n ∧ n ≤ 256 ∧ n % 8 = 0 := by
  unfold rightMap at h
  rw [Bool.and_eq_true, Bool.and_eq_true, decide_eq_true_eq] at h
  obtain ⟨z1, z2, z3⟩ := okSize_iff.1 h.1
  have := h.2.1
  exact ⟨by omega, this, z1, z2, z3⟩
theorem RightP.paLen {t : List Vol} (R : RightP t) {v : Vol} (hv : v ∈ t) : v.pa.length ≤ 8 := by
  rcases R.pa v hv with e | ⟨_, u, hu, e, _⟩
  · rw [e]; exact Nat.zero_le _
  · rw [← e]; exact nameLen (R.na u hu)
theorem RightP.b {vs : List Vs} (R : RightP (vols vs)) : TreeB vs := by
  refine ⟨by have := R.le; rw [vols_len] at this; omega, fun q hq => ?_⟩
  have hm : q.1 ∈ vols vs := List.mem_map.2 ⟨q, hq, rfl⟩
  have a := nameLen (R.na _ hm)
  have b := R.paLen hm
  have c := (mapLen (R.ma _ hm)).1
  exact ⟨by omega, by omega, by omega⟩
theorem vols_put (vs : List Vs) (j : Nat) (q : Vs) : vols (vs.take j ++ q :: vs.drop j) = (vols vs).take j ++ q.1 :: (vols vs).drop j := by
  unfold vols
  rw [List.map_append, List.map_cons, List.map_take, List.map_drop]
theorem cell_lt {h : H} (w : WF h) {b o : Nat} {v : Value} (e : h.cell b o = some v) : b < h.next := by
  rcases Nat.lt_or_ge b h.next with z | z
  · exact z
  · unfold H.cell at e
    rw [w.dom b z] at e; cases e
theorem rsize_f (k : Nat) (n : Int) (h : H) : corbelref16_RightSize.f k n h = some (okSize n, h) := size_cond n h
/-- one number more -/
theorem push_i {h : H} (w : WF h) {s : Sl} {l : List Int} (r : Ow 3 1 h s (ivs l)) (n : Int) (hb : l.length ≤ 100000) :
    ∃ s' h', asS2 (apv 3 1 8 (.slice s.a s.n s.c) (.slice (some ⟨h.next, 0, none⟩) 1 1) (newR h 3 1 [.int .i64 n])) = some (s', h') ∧ Ch (SlB s) h h' ∧ Ow 3 1 h' s' (ivs (l ++ [n])) ∧ ∀ b, SlB s' b → SlB s b ∨ h.next ≤ b := by
  obtain ⟨n1, n2, n3⟩ := newR_ok w 3 1 [.int .i64 n]
  have hs := SlR.ivn r.slr
  obtain ⟨s', h', e1, e2, e3, e4, e5⟩ := apv_ok (by_ := 8) n1.wf (r.stay w n1) (by decide) (SlR.of_is n3 (n := 1) rfl (by unfold unk; omega)) (by rw [hs]; show (l.length + 1) * 8 ≤ _; omega) rfl
  refine ⟨s', h', e1, (n1.mono fun _ _ f => f.elim).trans e2 fun _ _ f => f, ?_, fun b hb => (e5 b hb).imp id fun f => by omega⟩
  have : ivs l ++ [.int .i64 n] = ivs (l ++ [n]) := by unfold ivs; rw [List.map_append]; rfl
  rw [← this]; exact e3
theorem sized_l0 (k : Nat) {h0 : H} (m : Nat) (hm : m ≤ 1000) : ∀ n i h t, m - i < n → i ≤ m → Ch0 h0 h → Ow 3 1 h t (ivs (List.replicate i 0)) → (∀ x, SlB t x → h0.next ≤ x) →
    ∃ t' h', corbelref16_Sized.l0 k n ⟨none, 0, 0⟩ (Int.ofNat m) ⟨none, 0, 0⟩ t (Int.ofNat i) h = some (t', h') ∧ Ch0 h0 h' ∧ Ow 3 1 h' t' (ivs (List.replicate m 0)) ∧ ∀ x, SlB t' x → h0.next ≤ x
  | 0, i, h, t, hf, _, _, _, _ => by omega
  | n + 1, i, h, t, hf, hi, C, O, F => by
    rw [corbelref16_Sized.l0_succ]
    by_cases c : i < m
    · rw [decLt c, cond_true, decNlt (show ¬ i < 0 by omega), cond_false]
      obtain ⟨t', h', a1, a2, a3, a4⟩ := push_i C.wf O 0 (by rw [List.length_replicate]; omega)
      rw [a1]
      simp only [Option.bind_some]
      rw [wrap_succ (by omega)]
      refine sized_l0 k m hm n (i + 1) h' t' (by omega) (by omega) (Ch0.own C a2 F) ?_ fun x hx => (a4 x hx).elim (F x) fun f => Nat.le_trans C.le f
      rw [List.replicate_succ']; exact a3
    · rw [decNlt c, cond_false]
      have : i = m := by omega
      subst this
      exact ⟨t, h, rfl, C, O, F⟩
theorem sized_f (k : Nat) (hk : 20000 < k) {h : H} (w : WF h) (sz : Int) (hz : okSize sz = true) :
    ∃ t t2 h' l, corbelref16_Sized.f k ⟨none, 0, 0⟩ sz h = some ((t, t2), h') ∧ Ch0 h h' ∧ Ow 3 1 h' t (ivs l) ∧ (∀ x, SlB t x → h.next ≤ x) ∧ rightMap sz l = true := by
  unfold corbelref16_Sized.f
  rw [rsize_f, hz]
  simp only [Option.bind_some, Bool.not_true, cond_false]
  obtain ⟨z1, z2, z3⟩ := okSize_iff.1 hz
  obtain ⟨m, hm⟩ : ∃ m : Nat, sz / 8 = Int.ofNat m := ⟨_, nn _ (by omega)⟩
  have hm' := hm
  simp only [Int.ofNat_eq_natCast] at hm'
  rw [Int.tdiv_eq_ediv_of_nonneg z1, wrap_in (n := sz / 8) (by omega) (by omega), hm]
  obtain ⟨t, h', a1, a2, a3, a4⟩ := sized_l0 k (h0 := h) m (by omega) k 0 h ⟨none, 0, 0⟩ (by omega) (Nat.zero_le _) (Ch.refl w) Ow.nil (fun x f => absurd f noSlB)
  rw [show (0 : Int) = Int.ofNat 0 from rfl, a1]
  simp only [Option.bind_some]
  have e1 : corbelref16_Sized.l1 k k ⟨none, 0, 0⟩ t ⟨none, 0, 0⟩ (Int.ofNat m) h' = some (⟨none, 0, 0⟩, h') := by
    obtain ⟨k', rfl⟩ : ∃ k', k = k' + 1 := ⟨k - 1, by omega⟩
    rw [corbelref16_Sized.l1_succ]
    rw [decNlt (show ¬ m < 0 by omega), cond_false]
  rw [e1]
  refine ⟨t, _, h', _, rfl, a2, a3, a4, ?_⟩
  unfold rightMap
  rw [hz, Bool.true_and, Bool.and_eq_true, decide_eq_true_eq, List.length_replicate]
  refine ⟨by omega, ?_⟩
  rw [List.all_eq_true]
  intro x hx
  rw [(List.mem_replicate.1 hx).2]; rfl
/-! ### created -/
/-- what an act on a right list answers -/
def Made (h : H) (r : Option ((Sl × Int) × H)) : Prop := ∃ t e h', r = some ((t, e), h') ∧ Ch0 h h' ∧ (e ≠ 0 ∨ (e = 0 ∧ ∃ us, TreeO h' t us ∧ Fresh h.next t us ∧ RightP (vols us) ∧ us ≠ []))
theorem Made.no {h h' : H} (c : Ch0 h h') (t : Sl) {e : Int} (he : e ≠ 0) : Made h (some ((t, e), h')) := ⟨t, e, h', rfl, c, .inl he⟩
theorem put_vols {t : List Vol} {us : List Vs} (hu : vols us = t) {v : Vol} {j : Nat} (hj : j ≤ us.length) (h1 : ∀ a (ha : a < us.length), a < j → less us[a].1.nm v.nm = true) (h2 : ∀ hj : j < us.length, less us[j].1.nm v.nm = false) :
    j ≤ t.length ∧ (∀ a (ha : a < t.length), a < j → less t[a].nm v.nm = true) ∧ (∀ hj : j < t.length, less t[j].nm v.nm = false) := by
  subst hu
  have e : ∀ a (ha : a < (vols us).length), (vols us)[a] = (us[a]'(by rw [vols_len] at ha; exact ha)).1 := fun a ha => by simp only [vols, List.getElem_map]
  refine ⟨by rw [vols_len]; exact hj, fun a ha haj => ?_, fun hj' => ?_⟩
  · rw [e]; exact h1 a _ haj
  · rw [e]; exact h2 _
theorem mk_f (k : Nat) (hk : 20000 < k) {h h1 : H} (C1 : Ch0 h h1) {s : Sl} {vs : List Vs} (R : RightP (vols vs)) (hl : vs.length < 12) {l : Sl} {us : List Vs} (O : TreeO h1 l us) (F : Fresh h.next l us) (hu : vols us = vols vs)
    (v : Vol) {m : Sl} (M : Ow 3 1 h1 m (ivs v.mp)) (Fm : ∀ x, SlB m x → h.next ≤ x) (ap : ∀ a ∈ us, Apart a (v, m)) (hv : isName v.nm = true) (hm : rightMap v.sz v.mp = true) (hno : ∀ u ∈ vols vs, u.nm ≠ v.nm) (hp : parP (vols vs) v) :
    ∃ t h', corbelref16_put.f k l (voT (v, m)) h1 = some (t, h') ∧ Ch0 h1 h' ∧ ∃ us', TreeO h' t us' ∧ Fresh h.next t us' ∧ RightP (vols us') ∧ us' ≠ [] := by
  have ul : us.length = vs.length := by rw [← vols_len us, hu, vols_len]
  obtain ⟨t, h', a1, a2, a3, j, hj, a4, a5, a6⟩ := put_f k hk C1.wf O (by omega) (v, m) M ap
  refine ⟨t, h', a1, a2, _, a4, ⟨fun x hx => Nat.le_trans C1.le (a3 x hx), fun q hq x hx => ?_⟩, ?_, by simp⟩
  · rw [List.perm_middle.mem_iff, List.take_append_drop] at hq
    rcases List.mem_cons.1 hq with z | z
    · rw [z] at hx; exact Fm x hx
    · exact F.2 q z x hx
  · rw [vols_put, hu]
    obtain ⟨b1, b2, b3⟩ := put_vols hu hj a5 a6
    exact put_right R v hv hm hno hp (by rw [vols_len]; omega) j b1 b2 b3
theorem create_f (k : Nat) (hk : 20000 < k) {h : H} (w : WF h) {s : Sl} {vs : List Vs} (T : TreeR h s vs) (R : RightP (vols vs)) (nm : List UInt8) (hv : isName nm = true) (sz : Int) (hz : okSize sz = true) : Made h (corbelref16_Create.f k s (ba nm) sz h) := by
  unfold corbelref16_Create.f
  have B := R.b
  obtain ⟨v, h1, a1, a2, a3⟩ := rtree_f k hk w T B
  have vt := a3.2 R
  subst vt
  rw [a1]
  simp only [Option.bind_some, Bool.not_true, cond_false]
  rw [rname_f k h1 nm (by have := nameLen hv; omega) (by have := nameLen hv; omega), hv]
  simp only [Option.bind_some, Bool.not_true, cond_false]
  rw [rsize_f, hz]
  simp only [Option.bind_some, Bool.not_true, cond_false]
  obtain ⟨r, b1, b2⟩ := rat_f k (by omega) (T.stay w a2) B.n nm
  rw [b1]
  simp only [Option.bind_some]
  rcases b2 with ⟨j, rfl, _⟩ | ⟨rfl, no⟩
  · rw [decide_eq_true (show Int.ofNat j ≥ (0 : Int) from Int.natCast_nonneg j), cond_true]
    exact Made.no a2 _ (by decide)
  · rw [show decide ((-1 : Int) ≥ 0) = false from rfl, cond_false, T.n]
    by_cases c : vs.length < 12
    · rw [decide_eq_false (show ¬ Int.ofNat vs.length ≥ (12 : Int) by simp only [Int.ofNat_eq_natCast]; omega), cond_false]
      obtain ⟨m, m2, h2, l, d1, d2, d3, d4, d5⟩ := sized_f k hk a2.wf sz hz
      rw [d1]
      simp only [Option.bind_some]
      have C2 := a2.then d2
      obtain ⟨t, h3, us, e1, e2, e3, e4, e5⟩ := copied_f k hk C2.wf (T.stay w C2) B
      rw [e1]
      simp only [Option.bind_some]
      have C3 := C2.then e2
      obtain ⟨t', h', f1, f2, f3⟩ := mk_f k hk C3 (s := s) R c e3 (e4.mono C2.le) e5 ⟨nm, [], false, sz, l⟩ (d3.stay d2.wf e2) (fun x hx => Nat.le_trans a2.le (d4 x hx)) (fun a ha x hx f => by
        have := e4.2 a ha x hx
        have := d3.lt d2.wf f
        omega) hv d5 (fun u hu => by obtain ⟨q, hq, rfl⟩ := List.mem_map.1 hu; exact no q hq) (.inl rfl)
      have f1 : corbelref16_put.f k t (ba nm, ⟨#[]⟩, false, sz, m) h3 = some (t', h') := f1
      rw [f1]
      exact ⟨t', 0, h', rfl, C3.then f2, .inr ⟨rfl, f3⟩⟩
    · rw [decide_eq_true (show Int.ofNat vs.length ≥ (12 : Int) by simp only [Int.ofNat_eq_natCast]; omega), cond_true]
      exact Made.no a2 _ (by decide)
theorem branch_f (k : Nat) (hk : 20000 < k) {h : H} (w : WF h) {s : Sl} {vs : List Vs} (T : TreeR h s vs) (R : RightP (vols vs)) (of nm : List UInt8) (hv : isName nm = true) (sn : Bool) : Made h (corbelref16_branch.f k s (ba of) (ba nm) sn h) := by
  unfold corbelref16_branch.f
  have B := R.b
  obtain ⟨r0, z1, z2⟩ := rat_f k (by omega) T B.n of
  rw [z1]
  simp only [Option.bind_some]
  obtain ⟨v, h1, a1, a2, a3⟩ := rtree_f k hk w T B
  have vt := a3.2 R
  subst vt
  rw [a1]
  simp only [Option.bind_some, Bool.not_true, cond_false]
  rw [rname_f k h1 nm (by have := nameLen hv; omega) (by have := nameLen hv; omega), hv]
  simp only [Option.bind_some, Bool.not_true, cond_false]
  rcases z2 with ⟨i, rfl, hi, y1, y2⟩ | ⟨rfl, _⟩
  rotate_left
  · rw [show decide ((-1 : Int) < 0) = true from rfl, cond_true]
    exact Made.no a2 _ (by decide)
  rw [decide_eq_false (show ¬ Int.ofNat i < (0 : Int) by simp only [Int.ofNat_eq_natCast]; omega), cond_false]
  have T1 := T.stay w a2
  obtain ⟨bb, oo, x1, x2, x3⟩ := T1.at hi
  rw [x1]
  simp only [asP_ptr, Option.bind_some, fadd]
  rw [x3 2 (by decide), show asB ((voL vs[i])[2]?) = some vs[i].1.sn from asBs _]
  simp only [Option.bind_some]
  have bl : bb < h1.next := cell_lt a2.wf (show h1.cell bb (oo + 2) = some (.bool vs[i].1.sn) from x3 2 (by decide))
  cases sc : (vs[i].1.sn == sn) with
  | true =>
    rw [cond_true]
    exact Made.no a2 _ (by decide)
  | false =>
    rw [cond_false]
    obtain ⟨r, b1, b2⟩ := rat_f k (by omega) T1 B.n nm
    rw [b1]
    simp only [Option.bind_some]
    rcases b2 with ⟨j, rfl, _⟩ | ⟨rfl, no⟩
    · rw [decide_eq_true (show Int.ofNat j ≥ (0 : Int) from Int.natCast_nonneg j), cond_true]
      exact Made.no a2 _ (by decide)
    · rw [show decide ((-1 : Int) ≥ 0) = false from rfl, cond_false]
      have sn' : Int.ofNat s.n = Int.ofNat vs.length := by rw [T.n]
      rw [sn']
      by_cases c : vs.length < 12
      · rw [decide_eq_false (show ¬ Int.ofNat vs.length ≥ (12 : Int) by simp only [Int.ofNat_eq_natCast]; omega), cond_false]
        obtain ⟨t, h3, us, e1, e2, e3, e4, e5⟩ := copied_f k hk a2.wf T1 B
        rw [e1]
        simp only [Option.bind_some]
        have C3 := a2.then e2
        obtain ⟨b3, o3, g1, g2, g3⟩ := (T1.stay a2.wf e2).at hi
        rw [x1] at g1
        cases g1
        rw [g3 3 (by decide), show asI .i64 ((voL vs[i])[3]?) = some vs[i].1.sz from asI_int _ _]
        simp only [Option.bind_some]
        obtain ⟨n1, n2, n3⟩ := newR_ok C3.wf 3 1 []
        have n4 : ldc (newR h3 3 1 []) (some ⟨bb, oo + 4, none⟩) = ldc h3 (some ⟨bb, oo + 4, none⟩) := cell_keep (n1.keep bb (by have := e2.le; omega) fun f => f) _
        rw [n4, g3 4 (by decide), show asS ((voL vs[i])[4]?) = some vs[i].2 from asS_slv _]
        simp only [Option.bind_some]
        obtain ⟨m, h4, d1, d2, d3, d4⟩ := dup_ok C3.wf (T.mp _ (List.getElem_mem hi) |>.stay w C3) (by have := (B.nm _ (List.getElem_mem hi)).2.2; omega)
        rw [d1]
        simp only [Option.bind_some]
        have C4 := C3.then d2
        have hm : vs[i].1 ∈ vols vs := mem_vols hi
        obtain ⟨t', h', f1, f2, f3⟩ := mk_f k hk C4 (s := s) R c (e3.stay C3.wf d2) (e4.mono a2.le) e5 ⟨nm, of, sn, vs[i].1.sz, vs[i].1.mp⟩ (m := m) d3 (fun x hx => Nat.le_trans C3.le (d4 x hx)) (fun a ha x hx f => by
          have := (e3.mp a ha).lt C3.wf hx
          have := d4 x f
          omega) hv (show rightMap vs[i].1.sz vs[i].1.mp = true from R.ma vs[i].1 hm) (fun u hu => by obtain ⟨q, hq, rfl⟩ := List.mem_map.1 hu; exact no q hq) (.inr ⟨fun f => no _ (List.getElem_mem hi) (by rw [y1]; exact f), vs[i].1, hm, y1, fun f => by
            have f : vs[i].1.sn = sn := f
            rw [f] at sc; simp at sc⟩)
        have f1 : corbelref16_put.f k t (ba nm, ba of, sn, vs[i].1.sz, m) h4 = some (t', h') := f1
        rw [f1]
        simp only [Option.bind_some]
        have kb : h3.get bb = h1.get bb := e2.keep bb bl fun f => f
        have kc : h4.get bb = (newR h3 3 1 []).get bb := by
          rw [n1.keep bb (by have := e2.le; omega) fun f => f]
          exact d2.keep bb (by have := e2.le; omega) fun f => f
        simp only [same1_of kb, same1_of kc, Bool.and_self, cond_true]
        exact ⟨t', 0, h', rfl, C4.then f2, .inr ⟨rfl, f3⟩⟩
      · rw [decide_eq_true (show Int.ofNat vs.length ≥ (12 : Int) by simp only [Int.ofNat_eq_natCast]; omega), cond_true]
        exact Made.no a2 _ (by decide)
/-! ### a hand's names -/
theorem name_f (k : Nat) (n : Int) (h : H) : ∃ nm, corbelhand_Name.f k n h = some (ba nm, h) ∧ isName nm = true := by
  unfold corbelhand_Name.f
  rw [pick_f k n 7 h (by decide) (by decide)]
  simp only [Option.bind_some]
  obtain ⟨j, hj⟩ : ∃ j : Nat, n % 7 = Int.ofNat j := ⟨_, nn _ (Int.emod_nonneg n (by decide))⟩
  have hj2 : j < 7 := by have := Int.emod_lt_of_pos n (show (0 : Int) < 7 by decide); rw [hj] at this; simp only [Int.ofNat_eq_natCast] at this; omega
  rw [hj]
  rcases (show j = 0 ∨ j = 1 ∨ j = 2 ∨ j = 3 ∨ j = 4 ∨ j = 5 ∨ j = 6 by omega) with rfl | rfl | rfl | rfl | rfl | rfl | rfl
  · exact ⟨[97], rfl, by decide +kernel⟩
  · exact ⟨[98], rfl, by decide +kernel⟩
  · exact ⟨[99], rfl, by decide +kernel⟩
  · exact ⟨[118, 111, 108, 49], rfl, by decide +kernel⟩
  · exact ⟨[115, 110, 97, 112], rfl, by decide +kernel⟩
  · exact ⟨[122, 122, 57], rfl, by decide +kernel⟩
  · exact ⟨[120], rfl, by decide +kernel⟩
/-! ### a cell of a map set -/
theorem seti {h : H} (w : WF h) {s : Sl} {l : List Int} (r : Ow 3 1 h s (ivs l)) {j : Nat} (hj : j < l.length) (n : Int) :
    ∃ b h', ixs 1 s.a s.n (Int.ofNat j) = some (.pointer (some ⟨b, j, none⟩)) ∧ stv 1 h (some ⟨b, j, none⟩) [.int .i64 n] = some (undef, h') ∧ Ch (SlB s) h h' ∧ h'.next = h.next ∧ Ow 3 1 h' s (ivs (l.set j n)) := by
  rcases r with ⟨f, _⟩ | ⟨b, m, cc, rfl, hl, I, hc⟩
  · have := congrArg List.length f
    rw [ivs_len] at this
    have this : l.length = 0 := this
    omega
  · rw [ivs_len, Nat.mul_one] at hl
    obtain ⟨h', i1, i2, i3, i4⟩ := I.set w j (.int .i64 n) (by rw [ivs_len]; exact hj) rfl
    have e0 : ixs 1 (some ⟨b, 0, none⟩) m (Int.ofNat j) = some (.pointer (some ⟨b, j, none⟩)) := by
      have : ixs 1 (some ⟨b, 0, none⟩) m (Int.ofNat j) = some (.pointer (some ⟨b, 0 + j * 1, none⟩)) := cond_eta _ _ _ (Nat.ble_eq_true_of_le (by show j + 1 ≤ m; omega))
      rw [this, Nat.zero_add, Nat.mul_one]
    refine ⟨b, h', e0, i1, i2.mono fun x _ hx => by subst hx; exact ⟨0, rfl⟩, i3, .inr ⟨b, m, cc, rfl, by rw [ivs_len, List.length_set]; omega, ?_, hc⟩⟩
    have : (ivs l).set j (.int .i64 n) = ivs (l.set j n) := by unfold ivs; rw [List.map_set]
    rw [← this]; exact i4
/-- one with another map -/
def setQ (q : Vs) (m : List Int) : Vs := ({ q.1 with mp := m }, q.2)
theorem voL_setQ (q : Vs) (m : List Int) : voL (setQ q m) = voL q := rfl
theorem set_vo (vs : List Vs) (i : Nat) (hi : i < vs.length) (m : List Int) : (vs.set i (setQ vs[i] m)).map voL = vs.map voL := by
  rw [List.map_set, voL_setQ]
  apply List.ext_getElem?
  intro j
  rw [List.getElem?_set]
  by_cases c : i = j
  · subst c
    rw [if_pos rfl, if_pos (by rw [List.length_map]; exact hi), List.getElem?_map, List.getElem?_eq_getElem hi]; rfl
  · rw [if_neg c]
theorem mem_setQ {vs : List Vs} {i : Nat} {hi : i < vs.length} {m : List Int} {a : Vs} (h : a ∈ vs.set i (setQ vs[i] m)) : a = setQ vs[i] m ∨ ∃ j, ∃ hj : j < vs.length, j ≠ i ∧ a = vs[j] := by
  obtain ⟨j, hj, rfl⟩ := List.mem_iff_getElem.1 h
  rw [List.length_set] at hj
  rw [List.getElem_set]
  by_cases c : i = j
  · rw [if_pos c]; exact .inl rfl
  · rw [if_neg c]; exact .inr ⟨j, hj, fun f => c f.symm, rfl⟩
theorem TreeO.setMap {h h' : H} (w : WF h) {s : Sl} {vs : List Vs} (T : TreeO h s vs) {i : Nat} (hi : i < vs.length) (c : Ch (SlB vs[i].2) h h') {m : List Int} (M : Ow 3 1 h' vs[i].2 (ivs m)) : TreeO h' s (vs.set i (setQ vs[i] m)) := by
  have pw := List.pairwise_iff_getElem.1 T.di
  have ap : ∀ j (hj : j < vs.length), j ≠ i → Apart vs[i] vs[j] := fun j hj hji => by
    rcases Nat.lt_trichotomy j i with z | z | z
    · exact (pw j i hj hi z).symm
    · exact absurd z hji
    · exact pw i j hi hj z
  refine ⟨?_, fun a ha => ?_, ?_, fun a ha x hx => ?_⟩
  · rw [set_vo]
    exact T.ow.keep fun b hb => c.keep b (T.ow.lt w hb) fun f => T.ne _ (List.getElem_mem hi) b hb f
  · rcases mem_setQ ha with rfl | ⟨j, hj, hji, rfl⟩
    · exact M
    · exact (T.mp _ (List.getElem_mem hj)).keep fun b hb => c.keep b ((T.mp _ (List.getElem_mem hj)).lt w hb) fun f => ap j hj hji b f hb
  · rw [List.pairwise_iff_getElem]
    intro a b ha hb hab x hx f
    rw [List.length_set] at ha hb
    rw [List.getElem_set] at hx f
    have ex : SlB vs[a].2 x := by
      by_cases z : i = a
      · subst z; rw [if_pos rfl] at hx; exact hx
      · rw [if_neg z] at hx; exact hx
    have fx : SlB vs[b].2 x := by
      by_cases z : i = b
      · subst z; rw [if_pos rfl] at f; exact f
      · rw [if_neg z] at f; exact f
    exact pw a b ha hb hab x ex fx
  · rcases mem_setQ ha with rfl | ⟨j, hj, hji, rfl⟩
    · exact T.ne _ (List.getElem_mem hi) x hx
    · exact T.ne _ (List.getElem_mem hj) x hx
theorem Fresh.setMap {n : Nat} {s : Sl} {vs : List Vs} (F : Fresh n s vs) {i : Nat} (hi : i < vs.length) (m : List Int) : Fresh n s (vs.set i (setQ vs[i] m)) := by
  refine ⟨F.1, fun a ha x hx => ?_⟩
  rcases mem_setQ ha with rfl | ⟨j, hj, hji, rfl⟩
  · exact F.2 _ (List.getElem_mem hi) x hx
  · exact F.2 _ (List.getElem_mem hj) x hx
theorem right_set {vs : List Vs} (R : RightP (vols vs)) {i : Nat} (hi : i < vs.length) {m : List Int} (hm : rightMap vs[i].1.sz m = true) : RightP (vols (vs.set i (setQ vs[i] m))) := by
  have len : (vols (vs.set i (setQ vs[i] m))).length = vs.length := by rw [vols_len, List.length_set]
  -- each is one of the old ones but for its map
  have old : ∀ j (hj : j < vs.length), ∃ (hj' : j < (vols (vs.set i (setQ vs[i] m))).length), (vols (vs.set i (setQ vs[i] m)))[j].nm = vs[j].1.nm ∧ (vols (vs.set i (setQ vs[i] m)))[j].pa = vs[j].1.pa ∧ (vols (vs.set i (setQ vs[i] m)))[j].sn = vs[j].1.sn ∧ rightMap (vols (vs.set i (setQ vs[i] m)))[j].sz (vols (vs.set i (setQ vs[i] m)))[j].mp = true := by
    intro j hj
    refine ⟨by rw [len]; exact hj, ?_⟩
    simp only [vols, List.getElem_map, List.getElem_set]
    by_cases z : i = j
    · subst z
      rw [if_pos rfl]
      exact ⟨rfl, rfl, rfl, hm⟩
    · rw [if_neg z]
      exact ⟨rfl, rfl, rfl, R.ma _ (mem_vols hj)⟩
  have idx : ∀ v ∈ vols (vs.set i (setQ vs[i] m)), ∃ j, ∃ hj : j < vs.length, v.nm = vs[j].1.nm ∧ v.pa = vs[j].1.pa ∧ v.sn = vs[j].1.sn ∧ rightMap v.sz v.mp = true := fun v hv => by
    obtain ⟨j, hj, rfl⟩ := List.mem_iff_getElem.1 hv
    rw [len] at hj
    obtain ⟨_, e⟩ := old j hj
    exact ⟨j, hj, e⟩
  refine ⟨adj_sorted fun j hj => ?_, fun v hv => ?_, fun v hv => ?_, fun v hv => ?_, ?_⟩
  · have hj' : j + 1 < vs.length := by rw [len] at hj; exact hj
    obtain ⟨_, e1, _⟩ := old j (by omega)
    obtain ⟨_, e2, _⟩ := old (j + 1) hj'
    rw [e1, e2]
    exact SortV.lt R.so hj' (by omega)
  · obtain ⟨j, hj, e1, _⟩ := idx v hv
    rw [e1]; exact R.na _ (mem_vols hj)
  · obtain ⟨j, hj, _, _, _, e⟩ := idx v hv
    exact e
  · obtain ⟨j, hj, e1, e2, e3, _⟩ := idx v hv
    rw [e1, e2, e3]
    refine (R.pa _ (mem_vols hj)).imp id fun ⟨g1, u, hu, g2, g3⟩ => ⟨g1, ?_⟩
    obtain ⟨q, hq, rfl⟩ := List.mem_map.1 hu
    obtain ⟨a, ha, rfl⟩ := List.mem_iff_getElem.1 hq
    obtain ⟨ha', f1, f2, f3, _⟩ := old a ha
    exact ⟨_, List.getElem_mem ha', by rw [f1]; exact g2, by rw [f3]; exact g3⟩
  · rw [len]
    have := R.le
    rw [vols_len] at this
    exact this
theorem rightMap_set {n : Int} {m : List Int} (h : rightMap n m = true) (j : Nat) (x : Int) (hx : okN x = true) : rightMap n (m.set j x) = true := by
  unfold rightMap at h ⊢
  rw [Bool.and_eq_true, Bool.and_eq_true] at h ⊢
  refine ⟨h.1, by rw [List.length_set]; exact h.2.1, ?_⟩
  rw [List.all_eq_true]
  intro y hy
  rcases List.mem_or_eq_of_mem_set hy with z | z
  · exact (List.all_eq_true.1 h.2.2) y z
  · rw [z]; exact hx
/-! ### of -/
def rawL (a b c d e : Int) : List Value := [.int .i64 a, .int .i64 b, .int .i64 c, .int .i64 d, .int .i64 e]
theorem bindRaw {β : Type} (a b c d e : Int) (f : FT [.int .i64, .int .i64, .int .i64, .int .i64, .int .i64] → Option β) : (asSt [(.int .i64), (.int .i64), (.int .i64), (.int .i64), (.int .i64)] (some (Value.agg (rawL a b c d e).toArray))).bind f = f (show FT [.int .i64, .int .i64, .int .i64, .int .i64, .int .i64] from (a, b, c, d, e)) := rfl
/-- an argument: raw steps -/
def RawsR (h : H) (s : Sl) : Prop := ∀ h', Ch0 h h' → ∀ i, i < s.n → ∃ b o x1 x2 x3 x4 x5, ixs 5 s.a s.n (Int.ofNat i) = some (.pointer (some ⟨b, o, none⟩)) ∧ lda 5 h' (some ⟨b, o, none⟩) = some (.agg (rawL x1 x2 x3 x4 x5).toArray)
theorem RawsR.stay {h h' : H} {s : Sl} (r : RawsR h s) (c : Ch0 h h') : RawsR h' s := fun g cg => r g (c.then cg)
theorem made_then {h g : H} {r : Option ((Sl × Int) × H)} (c : Ch0 h g) (m : Made g r) : Made h r := by
  obtain ⟨t, e, h', m1, m2, m3⟩ := m
  refine ⟨t, e, h', m1, c.then m2, m3.imp id fun ⟨z, us, u1, u2, u3, u4⟩ => ⟨z, us, u1, u2.mono c.le, u3, u4⟩⟩
theorem of_l0 (k : Nat) (hk : 20000 < k) {h0 : H} (w0 : WF h0) {s : Sl} (A : RawsR h0 s) : ∀ n i h t us, 16 - i < n → i ≤ 16 → Ch0 h0 h → TreeO h t us → Fresh h0.next t us → RightP (vols us) →
    ∃ t' h' us', corbellaw19_of.l0 k n s t (Int.ofNat i) h = some (t', h') ∧ Ch0 h0 h' ∧ TreeO h' t' us' ∧ Fresh h0.next t' us' ∧ RightP (vols us')
  | 0, i, h, t, us, hf, _, _, _, _, _ => by omega
  | n + 1, i, h, t, us, hf, hi, C, O, F, R => by
    rw [corbellaw19_of.l0_succ]
    by_cases c : i < s.n ∧ i < 16
    rotate_left
    · have hg : (cond (decide (Int.ofNat i < Int.ofNat s.n)) (some (decide (Int.ofNat i < (16 : Int)), h)) (some (false, h)) : Option (Bool × H)) = some (false, h) := by
        by_cases q : i < s.n
        · rw [decLt q, decide_eq_false (show ¬ Int.ofNat i < (16 : Int) by simp only [Int.ofNat_eq_natCast]; omega)]; rfl
        · rw [decNlt q]; rfl
      rw [hg]
      simp only [Option.bind_some, cond_false]
      exact ⟨t, h, us, rfl, C, O, F, R⟩
    rw [decLt c.1, cond_true, decide_eq_true (show Int.ofNat i < (16 : Int) by simp only [Int.ofNat_eq_natCast]; omega)]
    simp only [Option.bind_some, cond_true]
    obtain ⟨b, o, x1, x2, x3, x4, x5, e1, e2⟩ := A h C i c.1
    rw [e1]
    simp only [asP_ptr, Option.bind_some]
    rw [e2, bindRaw]
    dsimp only
    obtain ⟨g, b1, b2, b3, b4⟩ := box_ok C.wf 113 5 (rawL 0 0 0 0 0) (rawL x1 x2 x3 x4 x5) rfl rfl rfl
    rw [show [Value.int .i64 (0 : Int), Value.int .i64 0, Value.int .i64 0, Value.int .i64 0, Value.int .i64 0] = rawL 0 0 0 0 0 from rfl, show [Value.int .i64 x1, Value.int .i64 x2, Value.int .i64 x3, Value.int .i64 x4, Value.int .i64 x5] = rawL x1 x2 x3 x4 x5 from rfl, b1]
    simp only [Option.bind_some]
    have L : ∀ {g' : H} (j : Nat), Ch0 g g' → ldc g' (some ⟨h.next, j, none⟩) = (rawL x1 x2 x3 x4 x5)[j]? := fun j c => (b4.stay b2.wf c).ldc j
    have L0 : asI .i64 (ldc g (some ⟨h.next, 0, none⟩)) = some x1 := by rw [L 0 (Ch.refl b2.wf)]; exact asI_int _ _
    have L1 : asI .i64 (ldc g (some ⟨h.next, 1, none⟩)) = some x2 := by rw [L 1 (Ch.refl b2.wf)]; exact asI_int _ _
    have L2 : asI .i64 (ldc g (some ⟨h.next, 2, none⟩)) = some x3 := by rw [L 2 (Ch.refl b2.wf)]; exact asI_int _ _
    have L3 : asI .i64 (ldc g (some ⟨h.next, 3, none⟩)) = some x4 := by rw [L 3 (Ch.refl b2.wf)]; exact asI_int _ _
    have L4 : ∀ {g' : H}, Ch0 g g' → asI .i64 (ldc g' (some ⟨h.next, 4, none⟩)) = some x5 := fun c => by rw [L 4 c]; exact asI_int _ _
    rw [L0]
    simp only [Option.bind_some]
    rw [pick_f k x1 6 g (by decide) (by decide)]
    simp only [Option.bind_some]
    generalize x1 % 6 = r
    have O1 := O.stay C.wf b2
    have C1 := C.then b2
    have N := fun m => name_f k m g
    obtain ⟨nm1, N1, Ni1⟩ := N x3
    obtain ⟨nm2, N2, Ni2⟩ := N x2
    have j12 : ∃ z, (cond (r == (0 : Int))
      (some (r == (0 : Int), g))
      ((cond (r == (1 : Int))
      (some (r == (1 : Int), g))
      (some (r == (2 : Int), g)) : Option ((Bool) × H)).bind fun j11 =>
    some (j11.1, j11.2)) : Option ((Bool) × H)) = some (z, g) := by
      cases r == (0 : Int) <;> cases r == (1 : Int) <;> exact ⟨_, rfl⟩
    obtain ⟨z, ez⟩ := j12
    rw [ez]
    simp only [Option.bind_some]
    have J : Made g (cond z
      ((asI .i64 (ldc g (some ⟨h.next, 2, none⟩))).bind fun n13 =>
    (corbelhand_Name.f k n13 g).bind fun q14 =>
    (asI .i64 (ldc q14.2 (some ⟨h.next, 3, none⟩))).bind fun n15 =>
    (corbelhand_Pick.f k n15 (33 : Int) q14.2).bind fun q16 =>
    (corbelref16_Create.f k t q14.1 (wrapA .i64 ((8 : Int) * q16.1)) q16.2).bind fun q17 =>
    cond (same1 g q14.2 (some (Value.pointer (some ⟨h.next, 3, none⟩))) && (true)) (some ((q17.1.1, q17.1.2), q17.2)) none)
      ((cond (r == (3 : Int))
      (some (r == (3 : Int), g))
      (some (r == (4 : Int), g)) : Option ((Bool) × H)).bind fun j18 =>
    (cond j18.1
      ((asI .i64 (ldc j18.2 (some ⟨h.next, 1, none⟩))).bind fun n19 =>
    (corbelhand_Name.f k n19 j18.2).bind fun q20 =>
    (asI .i64 (ldc q20.2 (some ⟨h.next, 2, none⟩))).bind fun n21 =>
    (corbelhand_Name.f k n21 q20.2).bind fun q22 =>
    (corbelref16_Snapshot.f k t q20.1 q22.1 q22.2).bind fun q23 =>
    cond (same1 j18.2 q20.2 (some (Value.pointer (some ⟨h.next, 2, none⟩))) && (true)) (some ((q23.1.1, q23.1.2), q23.2)) none)
      ((asI .i64 (ldc j18.2 (some ⟨h.next, 1, none⟩))).bind fun n24 =>
    (corbelhand_Name.f k n24 j18.2).bind fun q25 =>
    (asI .i64 (ldc q25.2 (some ⟨h.next, 2, none⟩))).bind fun n26 =>
    (corbelhand_Name.f k n26 q25.2).bind fun q27 =>
    (corbelref16_Clone.f k t q25.1 q27.1 q27.2).bind fun q28 =>
    cond (same1 j18.2 q25.2 (some (Value.pointer (some ⟨h.next, 2, none⟩))) && (true)) (some ((q28.1.1, q28.1.2), q28.2)) none) : Option ((Sl × Int) × H)).bind fun j29 =>
    some ((j29.1.1, j29.1.2), j29.2)) : Option ((Sl × Int) × H)) := by
      have s1 : ∀ j, same1 g g (some (Value.pointer (some ⟨h.next, j, none⟩))) = true := fun j => same1_of rfl
      cases z with
      | true =>
        rw [cond_true, L2]
        simp only [Option.bind_some]
        rw [N1]
        simp only [Option.bind_some]
        rw [L3]
        simp only [Option.bind_some]
        rw [pick_f k x4 33 g (by decide) (by decide)]
        simp only [Option.bind_some]
        have p0 := Int.emod_nonneg x4 (show (33 : Int) ≠ 0 by decide)
        have p1 := Int.emod_lt_of_pos x4 (show (0 : Int) < 33 by decide)
        rw [wrap_in (n := 8 * (x4 % 33)) (by omega) (by omega)]
        obtain ⟨t', e, h', m1, m2, m3⟩ := create_f k hk b2.wf O1.read R nm1 Ni1 (8 * (x4 % 33)) (okSize_iff.2 ⟨by omega, by omega, by omega⟩)
        rw [m1]
        simp only [Option.bind_some, s1, Bool.and_self, cond_true]
        exact ⟨t', e, h', rfl, m2, m3⟩
      | false =>
        rw [cond_false]
        have j18 : ∃ z, ((cond (r == (3 : Int)) (some (r == (3 : Int), g)) (some (r == (4 : Int), g)) : Option ((Bool) × H))) = some (z, g) := by
          cases r == (3 : Int) <;> exact ⟨_, rfl⟩
        obtain ⟨y, ey⟩ := j18
        rw [ey]
        simp only [Option.bind_some]
        cases y with
        | true =>
          rw [cond_true, L1]
          simp only [Option.bind_some]
          rw [N2]
          simp only [Option.bind_some]
          rw [L2]
          simp only [Option.bind_some]
          rw [N1]
          simp only [Option.bind_some]
          unfold corbelref16_Snapshot.f
          obtain ⟨t', e, h', m1, m2, m3⟩ := branch_f k hk b2.wf O1.read R nm2 nm1 Ni1 true
          rw [m1]
          simp only [Option.bind_some, s1, Bool.and_self, cond_true]
          exact ⟨t', e, h', rfl, m2, m3⟩
        | false =>
          rw [cond_false, L1]
          simp only [Option.bind_some]
          rw [N2]
          simp only [Option.bind_some]
          rw [L2]
          simp only [Option.bind_some]
          rw [N1]
          simp only [Option.bind_some]
          unfold corbelref16_Clone.f
          obtain ⟨t', e, h', m1, m2, m3⟩ := branch_f k hk b2.wf O1.read R nm2 nm1 Ni1 false
          rw [m1]
          simp only [Option.bind_some, s1, Bool.and_self, cond_true]
          exact ⟨t', e, h', rfl, m2, m3⟩
    obtain ⟨t1, e, g1, m1, m2, m3⟩ := J
    rw [m1]
    simp only [Option.bind_some]
    have C2 := C1.then m2
    rcases m3 with he | ⟨rfl, vs, O2, F2, R2, ne⟩
    · rw [show (e != (0 : Int)) = true by rw [bne_iff_ne]; exact he, cond_true, wrap_succ (by omega)]
      exact of_l0 k hk w0 A n (i + 1) g1 t us (by omega) (by omega) C2 (O1.stay b2.wf m2) F R
    · rw [show ((0 : Int) != (0 : Int)) = false from rfl, cond_false, L4 m2]
      simp only [Option.bind_some]
      have B2 := R2.b
      have le := R2.le
      rw [vols_len] at le
      have pos : 0 < vs.length := List.length_pos_iff.2 ne
      have T2 := O2.read
      have F3 : Fresh h0.next t1 vs := F2.mono C1.le
      rw [pick_f k x5 (Int.ofNat t1.n) g1 (by rw [T2.n]; simp only [Int.ofNat_eq_natCast]; omega) (by rw [T2.n]; simp only [Int.ofNat_eq_natCast]; omega)]
      simp only [Option.bind_some]
      obtain ⟨a, ha⟩ : ∃ a : Nat, x5 % Int.ofNat t1.n = Int.ofNat a := ⟨_, nn _ (Int.emod_nonneg x5 (by rw [T2.n]; simp only [Int.ofNat_eq_natCast]; omega))⟩
      have ha2 : a < vs.length := by
        have := Int.emod_lt_of_pos x5 (b := Int.ofNat t1.n) (by rw [T2.n]; simp only [Int.ofNat_eq_natCast]; omega)
        rw [ha, T2.n] at this
        simp only [Int.ofNat_eq_natCast] at this
        omega
      rw [ha]
      obtain ⟨bb, oo, y1, y2, y3⟩ := T2.at ha2
      rw [y1]
      simp only [asP_ptr, Option.bind_some, fadd]
      rw [y3 4 (by decide), show asS ((voL vs[a])[4]?) = some vs[a].2 from asS_slv _]
      simp only [Option.bind_some]
      have M := O2.mp _ (List.getElem_mem ha2)
      have mn := SlR.ivn M.slr
      have rm := R2.ma _ (mem_vols ha2)
      have ml := (mapLen rm).1
      by_cases z : 0 < vs[a].1.mp.length
      · rw [decide_eq_true (show Int.ofNat vs[a].2.n > (0 : Int) by rw [mn]; simp only [Int.ofNat_eq_natCast]; omega)]
        simp only [cond_true]
        rw [L4 m2]
        simp only [Option.bind_some]
        rw [pick_f k x5 (Int.ofNat vs[a].2.n) g1 (by rw [mn]; simp only [Int.ofNat_eq_natCast]; omega) (by rw [mn]; simp only [Int.ofNat_eq_natCast]; omega)]
        simp only [Option.bind_some]
        rw [L4 m2]
        simp only [Option.bind_some]
        rw [pick_f k x5 23 g1 (by decide) (by decide)]
        simp only [Option.bind_some]
        obtain ⟨j, hj⟩ : ∃ j : Nat, x5 % Int.ofNat vs[a].2.n = Int.ofNat j := ⟨_, nn _ (Int.emod_nonneg x5 (b := Int.ofNat vs[a].2.n) (by rw [mn]; simp only [Int.ofNat_eq_natCast]; omega))⟩
        have hj2 : j < vs[a].1.mp.length := by
          have := Int.emod_lt_of_pos x5 (b := Int.ofNat vs[a].2.n) (by rw [mn]; simp only [Int.ofNat_eq_natCast]; omega)
          rw [hj, mn] at this
          simp only [Int.ofNat_eq_natCast] at this
          omega
        rw [hj]
        have p0 := Int.emod_nonneg x5 (show (23 : Int) ≠ 0 by decide)
        have p1 := Int.emod_lt_of_pos x5 (show (0 : Int) < 23 by decide)
        rw [wrap_in (n := 17 + x5 % 23) (by omega) (by omega)]
        obtain ⟨mb, g2, v1, v2, v3, v4, v5⟩ := seti C2.wf M hj2 (17 + x5 % 23)
        rw [v1]
        simp only [asP_ptr, Option.bind_some]
        rw [v2]
        simp only [Option.bind_some]
        rw [same1_of rfl, same1_of rfl]
        simp only [Bool.and_self, cond_true, Option.bind_some]
        rw [wrap_succ (by omega)]
        have C3 : Ch0 h0 g2 := Ch0.own C2 v3 (F3.2 _ (List.getElem_mem ha2))
        exact of_l0 k hk w0 A n (i + 1) g2 t1 _ (by omega) (by omega) C3 (O2.setMap C2.wf ha2 v3 v5) (F3.setMap ha2 _) (right_set R2 ha2 (rightMap_set rm j _ (by
          unfold okN
          rw [Bool.or_eq_true, Bool.and_eq_true, decide_eq_true_eq, decide_eq_true_eq, decide_eq_true_eq]
          exact .inr ⟨by omega, by omega⟩)))
      · rw [decide_eq_false (show ¬ Int.ofNat vs[a].2.n > (0 : Int) by rw [mn]; simp only [Int.ofNat_eq_natCast]; omega)]
        simp only [cond_false, Option.bind_some]
        rw [wrap_succ (by omega)]
        exact of_l0 k hk w0 A n (i + 1) g1 t1 vs (by omega) (by omega) C2 O2 F3 R2
theorem of_f (k : Nat) (hk : 20000 < k) {h : H} (w : WF h) {s : Sl} (A : RawsR h s) : ∃ t h' us, corbellaw19_of.f k s h = some (t, h') ∧ Ch0 h h' ∧ TreeO h' t us ∧ Fresh h.next t us ∧ RightP (vols us) := by
  unfold corbellaw19_of.f
  obtain ⟨t, h', us, a1, a2⟩ := of_l0 k hk w A k 0 h ⟨none, 0, 0⟩ [] (by omega) (by omega) (Ch.refl w) TreeO.nil Fresh.nil ⟨List.Pairwise.nil, (fun _ f => by cases f), (fun _ f => by cases f), (fun _ f => by cases f), Nat.zero_le _⟩
  rw [show (0 : Int) = Int.ofNat 0 from rfl, a1]
  exact ⟨t, h', us, rfl, a2⟩
def mapB (m : List Int) : List UInt8 := m.map u8
def layV (v : Vol) : List UInt8 := beN v.nm.length 1 ++ v.nm ++ beN v.pa.length 1 ++ v.pa ++ beN (if v.sn then 1 else 0) 1 ++ beN v.sz.toNat 2 ++ mapB v.mp
def layP (t : List Vol) : List UInt8 := beN t.length 1 ++ (t.map layV).flatten
theorem layV_len (v : Vol) : (layV v).length = 5 + v.nm.length + v.pa.length + v.mp.length := by
  unfold layV mapB
  simp only [List.length_append, beN_len, List.length_map]
  omega
theorem beN1 (n : Nat) : beN n 1 = [UInt8.ofNat n] := by
  show [UInt8.ofNat (n / 256 ^ 0)] = _
  rw [Nat.pow_zero, Nat.div_one]
structure VolB (v : Vol) : Prop where
  nm : v.nm.length ≤ 8
  pa : v.pa.length ≤ 8
  mp : v.mp.length ≤ 32
  sz : 0 ≤ v.sz ∧ v.sz ≤ 256
theorem RightP.vb {t : List Vol} (R : RightP t) {v : Vol} (hv : v ∈ t) : VolB v := ⟨nameLen (R.na v hv), R.paLen hv, (mapLen (R.ma v hv)).1, (mapLen (R.ma v hv)).2.2.1, (mapLen (R.ma v hv)).2.2.2.1⟩
theorem newT_ok {h : H} (w : WF h) (nm : List UInt8) : Ch0 h (newT h 5 (ba nm)) ∧ (newT h 5 (ba nm)).next = h.next + 1 ∧ SlR 1 (newT h 5 (ba nm)) ⟨some ⟨h.next, 0, none⟩, nm.length, unkOf 1⟩ (byt nm) := by
  have e : newT h 5 (ba nm) = newR h 5 1 (byt nm) := by
    unfold newT newR byt
    rw [show (ba nm).data.toList = nm from List.toList_toArray]
  rw [e]
  obtain ⟨n1, n2, n3⟩ := newR_ok w 5 1 (byt nm)
  refine ⟨n1, n2, .inr ⟨h.next, 0, rfl, by rw [byt_len]; show nm.length = nm.length * 1; omega, ?_, .inr rfl⟩⟩
  show (newR h 5 1 (byt nm)).gets h.next 0 (nm.length * 1) = _
  rw [n3.gets (by rw [byt_len]; omega), List.drop_zero, List.take_of_length_le (by rw [byt_len]; omega)]
theorem appStr {h : H} (w : WF h) {s : Sl} {x : List UInt8} (r : Ow 5 1 h s (byt x)) (nm : List UInt8) (hb : x.length + nm.length ≤ 1000000) :
    ∃ s' h', asS2 (apv 5 1 1 (.slice s.a s.n s.c) (.string (ba nm)) h) = some (s', h') ∧ Ch (SlB s) h h' ∧ Ow 5 1 h' s' (byt (x ++ nm)) ∧ ∀ b, SlB s' b → SlB s b ∨ h.next ≤ b := by
  have hs := r.slr.n_byt
  have el : (ba nm).data.toList = nm := List.toList_toArray
  have e0 : apv 5 1 1 (.slice s.a s.n s.c) (.string (ba nm)) h = apN 5 1 1 (.slice s.a s.n s.c) nm.length (byt nm) h := by
    have e1 : lenV (.string (ba nm)) = some nm.length := by
      show some (ba nm).data.toList.length = _
      rw [el]
    have e2 : firstA h 1 nm.length (.string (ba nm)) = some (byt nm) := by
      show some (((ba nm).data.toList.take nm.length).map _) = _
      rw [el, List.take_of_length_le (Nat.le_refl _)]; rfl
    unfold apv
    simp only [e1, e2]
  rw [e0]
  obtain ⟨s', h', e1, e2, e3, e4, e5⟩ := apN_ok (by_ := 1) w r (by decide) (n := nm.length) (new := byt nm) (by rw [hs]; omega) (byt_one _) (by rw [byt_len]; omega)
  rw [e1]
  exact ⟨s', h', rfl, e2, by rw [← byt_app]; exact e3, fun b hb => (e5 b hb).imp id fun f => f.1⟩
/-! ### the map's bytes -/
theorem lay_l1 (k : Nat) {h0 : H} (w0 : WF h0) {m : Sl} {l : List Int} (r : SlR 1 h0 m (ivs l)) (hl : l.length ≤ 1000) (x23 : Sl) (x24 x25 : Int) : ∀ n i h t pre, l.length - i < n → i ≤ l.length → Ch0 h0 h → Ow 5 1 h t (byt pre) → (∀ x, SlB t x → h0.next ≤ x) → pre.length ≤ 10000 + i →
    ∃ t' h', meta_Lay.l1 k n x23 x24 x25 m (Int.ofNat l.length) t (Int.ofNat i) h = some (t', h') ∧ Ch0 h0 h' ∧ Ow 5 1 h' t' (byt (pre ++ mapB (l.drop i))) ∧ ∀ x, SlB t' x → h0.next ≤ x
  | 0, i, h, t, pre, hf, _, _, _, _, _ => by omega
  | n + 1, i, h, t, pre, hf, hi, C, O, F, hp => by
    rw [meta_Lay.l1_succ]
    by_cases c : i < l.length
    · rw [decLt c, cond_true]
      obtain ⟨_, p, e1, e2⟩ := SlR.int (r.stay w0 C) c
      rw [e1]
      simp only [asP_ptr, Option.bind_some, e2, asI_int]
      obtain ⟨t', h', a1, a2, a3, a4⟩ := push_b C.wf O (u8 l[i]) _ (wrap_u8 _) (by omega)
      rw [a1]
      simp only [Option.bind_some]
      rw [wrap_succ (by omega)]
      obtain ⟨t2, h2, b1, b2, b3, b4⟩ := lay_l1 k w0 r hl x23 x24 x25 n (i + 1) h' t' (pre ++ [u8 l[i]]) (by omega) (by omega) (Ch0.own C a2 F) a3 (fun x hx => (a4 x hx).elim (F x) fun f => Nat.le_trans C.le f) (by rw [List.length_append, List.length_singleton]; omega)
      refine ⟨t2, h2, b1, b2, ?_, b4⟩
      rw [List.drop_eq_getElem_cons c]
      rw [List.append_assoc] at b3
      exact b3
    · rw [decNlt c, cond_false]
      refine ⟨t, h, rfl, C, ?_, F⟩
      rw [List.drop_eq_nil_of_le (by omega)]
      show Ow 5 1 h t (byt (pre ++ []))
      rw [List.append_nil]; exact O
theorem rlay_l1 (k : Nat) {h0 : H} (w0 : WF h0) {m : Sl} {l : List Int} (r : SlR 1 h0 m (ivs l)) (hl : l.length ≤ 1000) {vb : Nat} {q : Vs} (hq : q.2 = m) (x24 : Sl) (x25 : Int) : ∀ n i h t pre, l.length - i < n → i ≤ l.length → Ch0 h0 h → Is h vb 58 5 (voL q) → ¬ SlB t vb → Ow 5 1 h t (byt pre) → (∀ x, SlB t x → h0.next ≤ x) → pre.length ≤ 10000 + i →
    ∃ t' h', corbelref16_Lay.l1 k n x24 x25 (some ⟨vb, 0, none⟩) t (Int.ofNat i) h = some (t', h') ∧ Ch0 h0 h' ∧ Ow 5 1 h' t' (byt (pre ++ mapB (l.drop i))) ∧ ∀ x, SlB t' x → h0.next ≤ x
  | 0, i, h, t, pre, hf, _, _, _, _, _, _, _ => by omega
  | n + 1, i, h, t, pre, hf, hi, C, I, nv, O, F, hp => by
    rw [corbelref16_Lay.l1_succ]
    simp only [asP_ptr, Option.bind_some, fadd]
    have L4 : asS (ldc h (some ⟨vb, 0 + 4, none⟩)) = some m := by rw [I.ldc, ← hq]; exact asS_slv _
    rw [L4]
    simp only [Option.bind_some]
    rw [SlR.ivn r]
    by_cases c : i < l.length
    · rw [decLt c, cond_true]
      obtain ⟨hn, p, e1, e2⟩ := SlR.int (r.stay w0 C) c
      rw [hn] at e1
      rw [e1]
      simp only [asP_ptr, Option.bind_some, e2, asI_int]
      obtain ⟨t', h', a1, a2, a3, a4⟩ := push_b C.wf O (u8 l[i]) _ (wrap_u8 _) (by omega)
      rw [a1]
      simp only [Option.bind_some]
      rw [wrap_succ (by omega)]
      have vl := I.lt C.wf
      obtain ⟨t2, h2, b1, b2, b3, b4⟩ := rlay_l1 k w0 r hl hq x24 x25 n (i + 1) h' t' (pre ++ [u8 l[i]]) (by omega) (by omega) (Ch0.own C a2 F) (I.keep (a2.keep vb vl nv)) (fun f => (a4 _ f).elim nv fun z => by omega) a3 (fun x hx => (a4 x hx).elim (F x) fun f => Nat.le_trans C.le f) (by rw [List.length_append, List.length_singleton]; omega)
      refine ⟨t2, h2, b1, b2, ?_, b4⟩
      rw [List.drop_eq_getElem_cons c]
      rw [List.append_assoc] at b3
      exact b3
    · rw [decNlt c, cond_false]
      refine ⟨t, h, rfl, C, ?_, F⟩
      rw [List.drop_eq_nil_of_le (by omega)]
      show Ow 5 1 h t (byt (pre ++ []))
      rw [List.append_nil]; exact O
/-! ### the program -/
theorem lay_l0 (k : Nat) (hk : 20000 < k) {h0 : H} (w0 : WF h0) {s : Sl} {vs : List Vs} (T : TreeR h0 s vs) (R : RightP (vols vs)) : ∀ n i h t pre, vs.length - i < n → i ≤ vs.length → Ch0 h0 h → Ow 5 1 h t (byt pre) → (∀ x, SlB t x → h0.next ≤ x) → pre.length ≤ 1 + 60 * i →
    ∃ t' h', meta_Lay.l0 k n s (Int.ofNat vs.length) t (Int.ofNat i) h = some (t', h') ∧ Ch0 h0 h' ∧ Ow 5 1 h' t' (byt (pre ++ (((vols vs).drop i).map layV).flatten)) ∧ ∀ x, SlB t' x → h0.next ≤ x
  | 0, i, h, t, pre, hf, _, _, _, _, _ => by omega
  | n + 1, i, h, t, pre, hf, hi, C, O, F, hp => by
    rw [meta_Lay.l0_succ]
    have hn := R.le
    rw [vols_len] at hn
    by_cases c : i < vs.length
    rotate_left
    · rw [decNlt c, cond_false]
      refine ⟨t, h, rfl, C, ?_, F⟩
      rw [List.drop_eq_nil_of_le (by rw [vols_len]; omega)]
      show Ow 5 1 h t (byt (pre ++ []))
      rw [List.append_nil]; exact O
    rw [decLt c, cond_true]
    obtain ⟨b, o, e1, e2, e3⟩ := (T.stay w0 C).at c
    rw [e1]
    simp only [asP_ptr, Option.bind_some]
    rw [e2, bindVo]
    dsimp only [voT]
    have V := R.vb (mem_vols c)
    have hM := T.mp _ (List.getElem_mem c)
    have hd : (vols vs).drop i = vs[i].1 :: (vols vs).drop (i + 1) := by
      rw [List.drop_eq_getElem_cons (by rw [vols_len]; exact c)]
      simp only [vols, List.getElem_map]
    generalize vs[i] = q at V hM hd
    rw [show [Value.string (ba q.1.nm), Value.string (ba q.1.pa), Value.bool q.1.sn, Value.int .i64 q.1.sz, Value.slice q.2.a q.2.n q.2.c] = voL q from rfl]
    obtain ⟨g, b1, b2, b3, b4⟩ := box_ok C.wf 58 5 [Value.string (⟨#[]⟩ : ByteArray), Value.string (⟨#[]⟩ : ByteArray), Value.bool false, Value.int .i64 (0 : Int), Value.slice none 0 0] (voL q) rfl rfl rfl
    rw [b1]
    simp only [Option.bind_some]
    have C1 := C.then b2
    have LL : ∀ {g' : H} (j : Nat), Ch0 g g' → ldc g' (some ⟨h.next, j, none⟩) = (voL q)[j]? := fun j c => (b4.stay b2.wf c).ldc j
    have L0 : ∀ {g' : H}, Ch0 g g' → asT (ldc g' (some ⟨h.next, 0, none⟩)) = some (ba q.1.nm) := fun c => by rw [LL 0 c]; exact asTs _
    have L1 : ∀ {g' : H}, Ch0 g g' → asT (ldc g' (some ⟨h.next, 1, none⟩)) = some (ba q.1.pa) := fun c => by rw [LL 1 c]; exact asTs _
    have L2 : asB (ldc g (some ⟨h.next, 2, none⟩)) = some q.1.sn := by rw [LL 2 (Ch.refl b2.wf)]; exact asBs _
    have L3 : ∀ {g' : H}, Ch0 g g' → asI .i64 (ldc g' (some ⟨h.next, 3, none⟩)) = some q.1.sz := fun c => by rw [LL 3 c]; exact asI_int _ _
    have L4 : ∀ {g' : H}, Ch0 g g' → asS (ldc g' (some ⟨h.next, 4, none⟩)) = some q.2 := fun c => by rw [LL 4 c]; exact asS_slv _
    rw [L2]
    simp only [Option.bind_some]
    have J : (cond q.1.sn (some ((1 : Int), g)) (some ((0 : Int), g)) : Option ((Int) × H)) = some (Int.ofNat (if q.1.sn then 1 else 0), g) := by cases q.1.sn <;> rfl
    rw [J]
    simp only [Option.bind_some]
    rw [L0 (Ch.refl b2.wf)]
    simp only [Option.bind_some]
    rw [ba_data]
    obtain ⟨p1, g1, d1, d2, d3, d4⟩ := cbytes_f k (by omega) q.1.nm.length 1 (by decide) b2.wf (Int.ofNat q.1.nm.length) rfl 1 rfl
    rw [d1]
    simp only [Option.bind_some]
    rw [L0 d2]
    simp only [Option.bind_some]
    obtain ⟨t1, t2, t3⟩ := newT_ok d2.wf q.1.nm
    have D2 := d2.then t1
    rw [L1 D2]
    simp only [Option.bind_some]
    rw [ba_data, ba_data]
    obtain ⟨p2, g2, f1, f2, f3, f4⟩ := cbytes_f k (by omega) q.1.pa.length 1 (by decide) t1.wf (Int.ofNat q.1.pa.length) rfl 1 rfl
    rw [f1]
    simp only [Option.bind_some]
    have D3 := D2.then f2
    rw [L1 D3]
    simp only [Option.bind_some]
    obtain ⟨u1, u2, u3⟩ := newT_ok f2.wf q.1.pa
    have D4 := D3.then u1
    rw [ba_data]
    obtain ⟨p3, g3, m1, m2, m3, m4⟩ := cbytes_f k (by omega) (if q.1.sn then 1 else 0) 1 (by decide) u1.wf (Int.ofNat (if q.1.sn then 1 else 0)) rfl 1 rfl
    rw [m1]
    simp only [Option.bind_some]
    have D5 := D4.then m2
    rw [L3 D5]
    simp only [Option.bind_some]
    obtain ⟨p4, g4, v1, v2, v3, v4⟩ := cbytes_f k (by omega) q.1.sz.toNat 2 (by decide) m2.wf q.1.sz (nn _ V.sz.1) 2 rfl
    rw [v1]
    simp only [Option.bind_some]
    have D6 := D5.then v2
    let ps : Parts := [(t, pre), (p1, beN q.1.nm.length 1), (⟨some ⟨g1.next, 0, none⟩, q.1.nm.length, unkOf 1⟩, q.1.nm), (p2, beN q.1.pa.length 1), (⟨some ⟨g2.next, 0, none⟩, q.1.pa.length, unkOf 1⟩, q.1.pa), (p3, beN (if q.1.sn then 1 else 0) 1), (p4, beN q.1.sz.toNat 2)]
    obtain ⟨y1, y2, y3⟩ := newR_ok v2.wf 30 1 (ps.map fun p => slv p.1)
    have hps : PartsR g4 ps := by
      intro p hp
      simp only [ps, List.mem_cons, List.not_mem_nil, or_false] at hp
      rcases hp with rfl | rfl | rfl | rfl | rfl | rfl | rfl
      · exact O.slr.stay C.wf (b2.then D6)
      · exact d3.slr.stay d2.wf (((t1.then f2).then u1).then m2 |>.then v2)
      · exact t3.stay t1.wf ((f2.then u1).then m2 |>.then v2)
      · exact f3.slr.stay f2.wf ((u1.then m2).then v2)
      · exact u3.stay u1.wf (m2.then v2)
      · exact m3.slr.stay m2.wf v2
      · exact v3.slr
    obtain ⟨s', h', w1, w2, w3, w4⟩ := concat_f k (by omega) y1.wf (ps := ps) (SlR.of_is y3 (n := 7) rfl (by unfold unk; omega)) (hps.stay v2.wf y1) (by show 7 < 1000; decide) (by
      show pre.length + ((beN q.1.nm.length 1).length + (q.1.nm.length + ((beN q.1.pa.length 1).length + (q.1.pa.length + ((beN (if q.1.sn then 1 else 0) 1).length + ((beN q.1.sz.toNat 2).length + 0)))))) ≤ _
      have := V.nm; have := V.pa
      simp only [beN_len]; omega)
    rw [show [Value.slice t.a t.n t.c, Value.slice p1.a p1.n p1.c, Value.slice (some ⟨g1.next, 0, none⟩) q.1.nm.length (unkOf 1), Value.slice p2.a p2.n p2.c, Value.slice (some ⟨g2.next, 0, none⟩) q.1.pa.length (unkOf 1), Value.slice p3.a p3.n p3.c, Value.slice p4.a p4.n p4.c] = ps.map fun p => slv p.1 from rfl, w1]
    simp only [Option.bind_some]
    have D7 := (D6.then y1).then w2
    have kb : ∀ {a b : H}, Ch0 g a → Ch0 a b → ∀ j, same1 a b (some (Value.pointer (some ⟨h.next, j, none⟩))) = true := fun ca cb j => same1_of (cb.keep h.next (by have := ca.le; omega) fun f => f)
    simp only [kb (Ch.refl b2.wf) d2, kb D2 f2, kb D4 m2, kb D5 v2, Bool.and_self, cond_true]
    rw [L4 D7]
    simp only [Option.bind_some]
    have C7 : Ch0 h0 h' := C1.then D7
    have nlen := (SlR.ivn hM)
    rw [nlen]
    have hj : joined ps = pre ++ (beN q.1.nm.length 1 ++ q.1.nm ++ beN q.1.pa.length 1 ++ q.1.pa ++ beN (if q.1.sn then 1 else 0) 1 ++ beN q.1.sz.toNat 2) := by
      unfold joined
      simp only [ps, List.map_cons, List.map_nil, List.flatten_cons, List.flatten_nil, List.append_nil, List.append_assoc]
    rw [hj] at w3
    have F8 : ∀ x, SlB s' x → h0.next ≤ x := fun x hx => by have := w4 x hx; have := C.le; have := b2.le; have := D6.le; have := y1.le; omega
    have Vn := V.nm
    have Vp := V.pa
    have Vm := V.mp
    obtain ⟨t4, h4, x1, x2, x3, x4⟩ := lay_l1 k w0 hM (by omega) s (Int.ofNat vs.length) (Int.ofNat i) k 0 h' s' _ (by omega) (Nat.zero_le _) C7 w3 F8 (by
      simp only [List.length_append, beN_len]; omega)
    rw [show (0 : Int) = Int.ofNat 0 from rfl, x1]
    simp only [Option.bind_some]
    rw [wrap_succ (by omega)]
    have ev : pre ++ (beN q.1.nm.length 1 ++ q.1.nm ++ beN q.1.pa.length 1 ++ q.1.pa ++ beN (if q.1.sn then 1 else 0) 1 ++ beN q.1.sz.toNat 2) ++ mapB (q.1.mp.drop 0) = pre ++ layV q.1 := by
      rw [List.drop_zero]
      unfold layV
      simp only [List.append_assoc]
    rw [ev] at x3
    obtain ⟨t5, h5, z1, z2, z3, z4⟩ := lay_l0 k hk w0 T R n (i + 1) h4 t4 _ (by omega) (by omega) x2 x3 x4 (by rw [List.length_append, layV_len]; omega)
    refine ⟨t5, h5, z1, z2, ?_, z4⟩
    rw [hd, List.map_cons, List.flatten_cons, ← List.append_assoc]
    exact z3
theorem flat_layV_len : ∀ {t : List Vol}, (∀ v ∈ t, VolB v) → ((t.map layV).flatten).length ≤ t.length * 53
  | [], _ => Nat.zero_le _
  | v :: t, h => by
    have ih := flat_layV_len fun x hx => h x (List.mem_cons_of_mem _ hx)
    have V := h v List.mem_cons_self
    have := V.nm; have := V.pa; have := V.mp
    rw [List.map_cons, List.flatten_cons, List.length_append, layV_len, List.length_cons]
    omega
theorem RightP.layLen {t : List Vol} (R : RightP t) : (layP t).length ≤ 637 := by
  unfold layP
  rw [List.length_append, beN_len]
  have := flat_layV_len fun v hv => R.vb hv
  have := R.le
  omega
noncomputable instance (t : List Vol) : Decidable (RightP t) := Classical.propDecidable _
theorem lay_f (k : Nat) (hk : 20000 < k) {h : H} (w : WF h) {s : Sl} {vs : List Vs} (T : TreeR h s vs) (B : TreeB vs) :
    ∃ t h', meta_Lay.f k s h = some ((t, if RightP (vols vs) then 0 else 1), h') ∧ Ch0 h h' ∧ Ow 5 1 h' t (byt (if RightP (vols vs) then layP (vols vs) else [])) ∧ ∀ x, SlB t x → h.next ≤ x := by
  unfold meta_Lay.f
  obtain ⟨v, h1, a1, a2, a3⟩ := tright_f k hk w T B
  rw [a1]
  simp only [Option.bind_some]
  by_cases R : RightP (vols vs)
  · rw [a3.2 R, if_pos R, if_pos R]
    simp only [Bool.not_true, cond_false]
    rw [T.n, wrap_u8n]
    obtain ⟨n1, n2, n3⟩ := newR_ok a2.wf 5 1 (byt [UInt8.ofNat vs.length])
    have C2 := a2.then n1
    have hn := R.le
    rw [vols_len] at hn
    obtain ⟨t, h2, b1, b2, b3, b4⟩ := lay_l0 k hk w T R k 0 _ ⟨some ⟨h1.next, 0, none⟩, 1, 1⟩ [UInt8.ofNat vs.length] (by omega) (Nat.zero_le _) C2 (Ow.of_is n3 (n := 1) rfl (by unfold unk; omega)) (fun x ⟨o, f⟩ => by have : h1.next = x := congrArg Addr.block (Option.some.inj f); have := a2.le; omega) (by show 1 ≤ _; omega)
    rw [show (0 : Int) = Int.ofNat 0 from rfl]
    have b1 : meta_Lay.l0 k k s (Int.ofNat vs.length) ⟨some ⟨h1.next, 0, none⟩, 1, 1⟩ (Int.ofNat 0) (newR h1 5 1 [Value.int .u8 (Int.ofNat (UInt8.ofNat vs.length).toNat)]) = some (t, h2) := b1
    rw [b1]
    refine ⟨t, h2, rfl, b2, ?_, b4⟩
    unfold layP
    rw [beN1, vols_len]
    rw [List.drop_zero] at b3
    exact b3
  · have : v = false := by
      cases v with
      | false => rfl
      | true => exact absurd (a3.1 rfl) R
    rw [this, if_neg R, if_neg R]
    exact ⟨_, h1, rfl, a2, Ow.nil, fun x f => absurd f noSlB⟩
/-! ### the reference -/
theorem rlay_l0 (k : Nat) (hk : 20000 < k) {h0 : H} (w0 : WF h0) {s : Sl} {vs : List Vs} (T : TreeR h0 s vs) (R : RightP (vols vs)) : ∀ n i h t pre, vs.length - i < n → i ≤ vs.length → Ch0 h0 h → Ow 5 1 h t (byt pre) → (∀ x, SlB t x → h0.next ≤ x) → pre.length ≤ 1 + 60 * i →
    ∃ t' h', corbelref16_Lay.l0 k n s t (Int.ofNat i) h = some (t', h') ∧ Ch0 h0 h' ∧ Ow 5 1 h' t' (byt (pre ++ (((vols vs).drop i).map layV).flatten)) ∧ ∀ x, SlB t' x → h0.next ≤ x
  | 0, i, h, t, pre, hf, _, _, _, _, _ => by omega
  | n + 1, i, h, t, pre, hf, hi, C, O, F, hp => by
    rw [corbelref16_Lay.l0_succ]
    have hn := R.le
    rw [vols_len] at hn
    by_cases c : i < vs.length
    rotate_left
    · rw [T.n, decNlt c, cond_false]
      refine ⟨t, h, rfl, C, ?_, F⟩
      rw [List.drop_eq_nil_of_le (by rw [vols_len]; omega)]
      show Ow 5 1 h t (byt (pre ++ []))
      rw [List.append_nil]; exact O
    rw [T.n, decLt c, cond_true]
    obtain ⟨b, o, e1, e2, e3⟩ := (T.stay w0 C).at c
    rw [T.n] at e1
    rw [e1]
    simp only [asP_ptr, Option.bind_some]
    rw [e2, bindVo]
    dsimp only [voT]
    have V := R.vb (mem_vols c)
    have hM := T.mp _ (List.getElem_mem c)
    have hd : (vols vs).drop i = vs[i].1 :: (vols vs).drop (i + 1) := by
      rw [List.drop_eq_getElem_cons (by rw [vols_len]; exact c)]
      simp only [vols, List.getElem_map]
    generalize vs[i] = q at V hM hd
    rw [show [Value.string (ba q.1.nm), Value.string (ba q.1.pa), Value.bool q.1.sn, Value.int .i64 q.1.sz, Value.slice q.2.a q.2.n q.2.c] = voL q from rfl]
    obtain ⟨g, b1, b2, b3, b4⟩ := box_ok C.wf 58 5 [Value.string (⟨#[]⟩ : ByteArray), Value.string (⟨#[]⟩ : ByteArray), Value.bool false, Value.int .i64 (0 : Int), Value.slice none 0 0] (voL q) rfl rfl rfl
    rw [b1]
    simp only [Option.bind_some]
    have Vn := V.nm
    have Vp := V.pa
    have Vm := V.mp
    have C1 := C.then b2
    have O1 := O.stay C.wf b2
    have nx : ∀ x, SlB t x → x < h.next := fun x hx => O.lt C.wf hx
    -- the box stands, whatever the bytes' block is
    have far0 : ¬ SlB t h.next := fun f => by have := nx _ f; omega
    obtain ⟨g0, hb0⟩ : ∃ m, m = h.next := ⟨_, rfl⟩
    have L0 : asT (ldc g (some ⟨h.next, 0, none⟩)) = some (ba q.1.nm) := by rw [b4.ldc]; exact asTs _
    rw [L0]
    simp only [Option.bind_some]
    rw [ba_data]
    obtain ⟨t1, h1, a1, a2, a3, a4⟩ := push_b b2.wf O1 (UInt8.ofNat q.1.nm.length) _ (wrap_u8n _) (by omega)
    rw [a1]
    simp only [Option.bind_some]
    have I1 := b4.keep (a2.keep h.next (by omega) far0)
    have far1 : ¬ SlB t1 h.next := fun f => (a4 _ f).elim far0 fun z => by omega
    have F1 : ∀ x, SlB t1 x → h0.next ≤ x := fun x hx => (a4 x hx).elim (F x) fun z => Nat.le_trans C1.le z
    have C2 := Ch0.own C1 a2 F
    rw [show asT (ldc h1 (some ⟨h.next, 0, none⟩)) = some (ba q.1.nm) by rw [I1.ldc]; exact asTs _]
    simp only [Option.bind_some]
    obtain ⟨t2, h2, d1, d2, d3, d4⟩ := appStr C2.wf a3 q.1.nm (by simp only [List.length_append, List.length_singleton]; omega)
    rw [d1]
    simp only [Option.bind_some]
    have lt1 : h.next < h1.next := by have := a2.le; omega
    have I2 := I1.keep (d2.keep h.next lt1 far1)
    have far2 : ¬ SlB t2 h.next := fun f => (d4 _ f).elim far1 fun z => by omega
    have F2 : ∀ x, SlB t2 x → h0.next ≤ x := fun x hx => (d4 x hx).elim (F1 x) fun z => Nat.le_trans C2.le z
    have C3 := Ch0.own C2 d2 F1
    have lt2 : h.next < h2.next := by have := d2.le; omega
    rw [show asT (ldc h2 (some ⟨h.next, 1, none⟩)) = some (ba q.1.pa) by rw [I2.ldc]; exact asTs _]
    simp only [Option.bind_some]
    rw [ba_data]
    obtain ⟨t3, h3, f1, f2, f3, f4⟩ := push_b C3.wf d3 (UInt8.ofNat q.1.pa.length) _ (wrap_u8n _) (by simp only [List.length_append, List.length_singleton]; omega)
    rw [f1]
    simp only [Option.bind_some]
    have I3 := I2.keep (f2.keep h.next lt2 far2)
    have far3 : ¬ SlB t3 h.next := fun f => (f4 _ f).elim far2 fun z => by omega
    have F3 : ∀ x, SlB t3 x → h0.next ≤ x := fun x hx => (f4 x hx).elim (F2 x) fun z => Nat.le_trans C3.le z
    have C4 := Ch0.own C3 f2 F2
    have lt3 : h.next < h3.next := by have := f2.le; omega
    rw [show asT (ldc h3 (some ⟨h.next, 1, none⟩)) = some (ba q.1.pa) by rw [I3.ldc]; exact asTs _]
    simp only [Option.bind_some]
    obtain ⟨t4, h4, m1, m2, m3, m4⟩ := appStr C4.wf f3 q.1.pa (by simp only [List.length_append, List.length_singleton]; omega)
    rw [m1]
    simp only [Option.bind_some]
    have I4 := I3.keep (m2.keep h.next lt3 far3)
    have far4 : ¬ SlB t4 h.next := fun f => (m4 _ f).elim far3 fun z => by omega
    have F4 : ∀ x, SlB t4 x → h0.next ≤ x := fun x hx => (m4 x hx).elim (F3 x) fun z => Nat.le_trans C4.le z
    have C5 := Ch0.own C4 m2 F3
    have lt4 : h.next < h4.next := by have := m2.le; omega
    rw [show asB (ldc h4 (some ⟨h.next, 2, none⟩)) = some q.1.sn by rw [I4.ldc]; exact asBs _]
    simp only [Option.bind_some]
    obtain ⟨t5, h5, v1, v2, v3, v4⟩ := push_b C5.wf m3 (UInt8.ofNat (if q.1.sn then 1 else 0)) (if q.1.sn then 1 else 0) (by cases q.1.sn <;> rfl) (by simp only [List.length_append, List.length_singleton]; omega)
    have J : (cond q.1.sn
      ((asS2 (apv 5 1 1 (Value.slice t4.a t4.n t4.c) (Value.slice (some ⟨h4.next, 0, none⟩) 1 1) (newR h4 5 1 [(Value.int .u8 (1 : Int))]))).bind fun q18 =>
    some (q18.1, q18.2))
      ((asS2 (apv 5 1 1 (Value.slice t4.a t4.n t4.c) (Value.slice (some ⟨h4.next, 0, none⟩) 1 1) (newR h4 5 1 [(Value.int .u8 (0 : Int))]))).bind fun q19 =>
    some (q19.1, q19.2)) : Option ((Sl) × H)) = some (t5, h5) := by
      cases z : q.1.sn with
      | true =>
        rw [z, if_pos rfl] at v1
        rw [cond_true, v1]; rfl
      | false =>
        rw [z, if_neg (by decide)] at v1
        rw [cond_false, v1]; rfl
    rw [J]
    simp only [Option.bind_some]
    have I5 := I4.keep (v2.keep h.next lt4 far4)
    have far5 : ¬ SlB t5 h.next := fun f => (v4 _ f).elim far4 fun z => by omega
    have F5 : ∀ x, SlB t5 x → h0.next ≤ x := fun x hx => (v4 x hx).elim (F4 x) fun z => Nat.le_trans C5.le z
    have C6 := Ch0.own C5 v2 F4
    have lt5 : h.next < h5.next := by have := v2.le; omega
    rw [show asI .i64 (ldc h5 (some ⟨h.next, 3, none⟩)) = some q.1.sz by rw [I5.ldc]; exact asI_int _ _]
    simp only [Option.bind_some]
    obtain ⟨p4, h6, w1, w2, w3, w4⟩ := big_f k (by omega) q.1.sz.toNat 2 (by decide) C6.wf q.1.sz (nn _ V.sz.1) 2 rfl
    rw [w1]
    simp only [Option.bind_some]
    have C7 := C6.then w2
    have I6 := I5.stay C6.wf w2
    obtain ⟨t7, h7, y1, y2, y3, y4⟩ := app_b C7.wf (v3.stay C6.wf w2) w3.slr (by simp only [List.length_append, List.length_singleton, beN_len]; omega)
    rw [y1]
    simp only [Option.bind_some]
    have lt6 : h.next < h6.next := by have := w2.le; omega
    have I7 := I6.keep (y2.keep h.next lt6 far5)
    have F7 : ∀ x, SlB t7 x → h0.next ≤ x := fun x hx => (y4 x hx).elim (F5 x) fun z => Nat.le_trans C7.le z
    have C8 := Ch0.own C7 y2 F5
    have far7 : ¬ SlB t7 h.next := fun f => (y4 _ f).elim far5 fun z => by omega
    -- the map's bytes
    obtain ⟨t8, h8, x1, x2, x3, x4⟩ := rlay_l1 k w0 hM (by omega) rfl s (Int.ofNat i) k 0 h7 t7 _ (by omega) (Nat.zero_le _) C8 I7 far7 y3 F7 (by
      simp only [List.length_append, List.length_singleton, beN_len]; omega)
    rw [show (0 : Int) = Int.ofNat 0 from rfl, x1]
    simp only [Option.bind_some]
    rw [wrap_succ (by omega)]
    have ev : pre ++ [UInt8.ofNat q.1.nm.length] ++ q.1.nm ++ [UInt8.ofNat q.1.pa.length] ++ q.1.pa ++ [UInt8.ofNat (if q.1.sn then 1 else 0)] ++ beN q.1.sz.toNat 2 ++ mapB (q.1.mp.drop 0) = pre ++ layV q.1 := by
      rw [List.drop_zero]
      unfold layV
      rw [beN1, beN1, beN1]
      simp only [List.append_assoc]
    rw [ev] at x3
    obtain ⟨t9, h9, z1, z2, z3, z4⟩ := rlay_l0 k hk w0 T R n (i + 1) h8 t8 _ (by omega) (by omega) x2 x3 x4 (by rw [List.length_append, layV_len]; omega)
    refine ⟨t9, h9, z1, z2, ?_, z4⟩
    rw [hd, List.map_cons, List.flatten_cons, ← List.append_assoc]
    exact z3
theorem rlayT_f (k : Nat) (hk : 20000 < k) {h : H} (w : WF h) {s : Sl} {vs : List Vs} (T : TreeR h s vs) (B : TreeB vs) :
    ∃ t h', corbelref16_Lay.f k s h = some ((t, decide (RightP (vols vs))), h') ∧ Ch0 h h' ∧ Ow 5 1 h' t (byt (if RightP (vols vs) then layP (vols vs) else [])) ∧ ∀ x, SlB t x → h.next ≤ x := by
  unfold corbelref16_Lay.f
  obtain ⟨v, h1, a1, a2, a3⟩ := rtree_f k hk w T B
  rw [a1]
  simp only [Option.bind_some]
  by_cases R : RightP (vols vs)
  · rw [a3.2 R, if_pos R, decide_eq_true R]
    simp only [Bool.not_true, cond_false]
    rw [T.n, wrap_u8n]
    obtain ⟨n1, n2, n3⟩ := newR_ok a2.wf 5 1 (byt [UInt8.ofNat vs.length])
    have C2 := a2.then n1
    have hn := R.le
    rw [vols_len] at hn
    obtain ⟨t, h2, b1, b2, b3, b4⟩ := rlay_l0 k hk w T R k 0 _ ⟨some ⟨h1.next, 0, none⟩, 1, 1⟩ [UInt8.ofNat vs.length] (by omega) (Nat.zero_le _) C2 (Ow.of_is n3 (n := 1) rfl (by unfold unk; omega)) (fun x ⟨o, f⟩ => by have : h1.next = x := congrArg Addr.block (Option.some.inj f); have := a2.le; omega) (by show 1 ≤ _; omega)
    rw [show (0 : Int) = Int.ofNat 0 from rfl]
    have b1 : corbelref16_Lay.l0 k k s ⟨some ⟨h1.next, 0, none⟩, 1, 1⟩ (Int.ofNat 0) (newR h1 5 1 [Value.int .u8 (Int.ofNat (UInt8.ofNat vs.length).toNat)]) = some (t, h2) := b1
    rw [b1]
    refine ⟨t, h2, rfl, b2, ?_, b4⟩
    unfold layP
    rw [beN1, vols_len]
    rw [List.drop_zero] at b3
    exact b3
  · have : v = false := by
      cases v with
      | false => rfl
      | true => exact absurd (a3.1 rfl) R
    rw [this, if_neg R, decide_eq_false R]
    exact ⟨_, h1, rfl, a2, Ow.nil, fun x f => absurd f noSlB⟩
end Go.Proofs.Ytfenkpghcbohdaa.Fw
