/- Lists of volumes of the run's own: copied, one put in. No condition. -/
import Derived.Test.YtfenkpghcbohdaaPaFwTreeA
namespace Go.Proofs.Ytfenkpghcbohdaa.Fw
open Go Den Fwd
set_option linter.unusedVariables false
set_option linter.unusedSimpArgs false
/-! ### a list of the run's own -/
abbrev Apart (a b : Vs) : Prop := ∀ x, SlB a.2 x → ¬ SlB b.2 x
theorem Apart.symm {a b : Vs} (h : Apart a b) : Apart b a := fun x hb ha => h x ha hb
structure TreeO (h : H) (s : Sl) (vs : List Vs) : Prop where
  ow : Ow 58 5 h s (vs.map voL).flatten
  mp : ∀ q ∈ vs, Ow 3 1 h q.2 (ivs q.1.mp)
  di : vs.Pairwise Apart
  ne : ∀ q ∈ vs, ∀ x, SlB s x → ¬ SlB q.2 x
/-- nothing of it lies below -/
def Fresh (n : Nat) (s : Sl) (vs : List Vs) : Prop := (∀ x, SlB s x → n ≤ x) ∧ ∀ q ∈ vs, ∀ x, SlB q.2 x → n ≤ x
theorem Fresh.mono {m n : Nat} {s : Sl} {vs : List Vs} (f : Fresh n s vs) (h : m ≤ n) : Fresh m s vs := ⟨fun x hx => Nat.le_trans h (f.1 x hx), fun q hq x hx => Nat.le_trans h (f.2 q hq x hx)⟩
theorem TreeO.read {h : H} {s : Sl} {vs : List Vs} (T : TreeO h s vs) : TreeR h s vs := ⟨T.ow.slr, fun q hq => (T.mp q hq).slr⟩
theorem TreeO.stay {h h' : H} {s : Sl} {vs : List Vs} (w : WF h) (c : Ch0 h h') (T : TreeO h s vs) : TreeO h' s vs := ⟨T.ow.stay w c, fun q hq => (T.mp q hq).stay w c, T.di, T.ne⟩
theorem TreeO.nil {h : H} : TreeO h ⟨none, 0, 0⟩ [] := ⟨Ow.nil, (fun _ f => by cases f), List.Pairwise.nil, (fun _ f => by cases f)⟩
theorem noSlB {n c x : Nat} : ¬ SlB ⟨none, n, c⟩ x := fun ⟨o, f⟩ => by cases f
theorem Fresh.nil {n : Nat} : Fresh n ⟨none, 0, 0⟩ [] := ⟨(fun x f => absurd f noSlB), (fun _ f => by cases f)⟩
theorem voL_one (q : Vs) : (voL q).all Den.one = true := rfl
theorem vo_len (vs : List Vs) : ((vs.map voL).flatten).length = vs.length * 5 := by rw [flat_len (vo_es vs), List.length_map]
theorem Ow.von {h : H} {s : Sl} {vs : List Vs} (o : Ow 58 5 h s (vs.map voL).flatten) : s.n = vs.length := by
  have := o.slr.len
  rw [vo_len] at this
  omega
theorem vo_app (a b : List Vs) : ((a ++ b).map voL).flatten = (a.map voL).flatten ++ (b.map voL).flatten := by rw [List.map_append, List.flatten_append]
theorem vo_sing (q : Vs) : ([q].map voL).flatten = voL q := by simp
theorem vo_take (vs : List Vs) (i : Nat) : ((vs.map voL).flatten).take (i * 5) = ((vs.take i).map voL).flatten := by
  by_cases c : i ≤ vs.length
  · have e : (vs.map voL).flatten = ((vs.take i).map voL).flatten ++ ((vs.drop i).map voL).flatten := by rw [← vo_app, List.take_append_drop]
    rw [e, List.take_append_of_le_length (by rw [vo_len, List.length_take]; omega), List.take_of_length_le (by rw [vo_len, List.length_take]; omega)]
  · rw [List.take_of_length_le (by rw [vo_len]; omega), List.take_of_length_le (by omega)]
theorem vo_drop (vs : List Vs) (i : Nat) (c : i ≤ vs.length) : ((vs.map voL).flatten).drop (i * 5) = ((vs.drop i).map voL).flatten := by
  have e : (vs.map voL).flatten = ((vs.take i).map voL).flatten ++ ((vs.drop i).map voL).flatten := by rw [← vo_app, List.take_append_drop]
  have l : (((vs.take i).map voL).flatten).length = i * 5 := by rw [vo_len, List.length_take]; omega
  rw [e, ← l, List.drop_left]
/-- a list's rows, one more -/
theorem push_vo {h : H} (w : WF h) {s : Sl} {vs : List Vs} (o : Ow 58 5 h s (vs.map voL).flatten) (q : Vs) (hn : vs.length ≤ 1000) :
    ∃ s' h', asS2 (apv 58 5 72 (.slice s.a s.n s.c) (.slice (some ⟨h.next, 0, none⟩) 1 1) (newR h 58 5 (voL q))) = some (s', h') ∧ Ch (SlB s) h h' ∧ Ow 58 5 h' s' ((vs ++ [q]).map voL).flatten ∧ ∀ b, SlB s' b → SlB s b ∨ h.next ≤ b := by
  obtain ⟨n1, n2, n3⟩ := newR_ok w 58 5 (voL q)
  obtain ⟨s', h', e1, e2, e3, e4, e5⟩ := apv_ok (by_ := 72) n1.wf (o.stay w n1) (by decide) (SlR.of_is n3 (n := 1) rfl (by unfold unk; omega)) (by rw [Ow.von o]; show (vs.length + 1) * 72 ≤ _; omega) (voL_one q)
  refine ⟨s', h', e1, (n1.mono fun _ _ f => f.elim).trans e2 fun _ _ f => f, ?_, fun b hb => (e5 b hb).imp id fun f => ?_⟩
  · rw [vo_app, vo_sing]; exact e3
  · omega
/-- .. rows behind rows -/
theorem apps_vo {h : H} (w : WF h) {s x : Sl} {vs us : List Vs} (o : Ow 58 5 h s (vs.map voL).flatten) (r : SlR 5 h x (us.map voL).flatten) (hn : vs.length + us.length ≤ 10000) :
    ∃ s' h', asS2 (apv 58 5 72 (.slice s.a s.n s.c) (.slice x.a x.n x.c) h) = some (s', h') ∧ Ch (SlB s) h h' ∧ Ow 58 5 h' s' ((vs ++ us).map voL).flatten ∧ ∀ b, SlB s' b → SlB s b ∨ h.next ≤ b := by
  have hx : x.n = us.length := by have := r.len; rw [vo_len] at this; omega
  obtain ⟨s', h', e1, e2, e3, e4, e5⟩ := apv_ok (by_ := 72) w o (by decide) r (by rw [Ow.von o, hx]; omega) (vo_one us)
  exact ⟨s', h', e1, e2, by rw [vo_app]; exact e3, fun b hb => (e5 b hb).imp id fun f => f.1⟩
/-- append([]int{}, m...) -/
theorem dup_ok {h : H} (w : WF h) {s : Sl} {l : List Int} (r : SlR 1 h s (ivs l)) (hl : l.length ≤ 10000) :
    ∃ s' h', asS2 (apv 3 1 8 (Value.slice (some ⟨h.next, 0, none⟩) 0 0) (Value.slice s.a s.n s.c) (newR h 3 1 [])) = some (s', h') ∧ Ch0 h h' ∧ Ow 3 1 h' s' (ivs l) ∧ ∀ b, SlB s' b → h.next ≤ b := by
  obtain ⟨n1, n2, n3⟩ := newR_ok w 3 1 []
  obtain ⟨s', h', e1, e2, e3, e4, e5⟩ := apv_ok (by_ := 8) n1.wf (Ow.of_is n3 (n := 0) rfl (by unfold unk; omega)) (by decide) (r.stay w n1) (by rw [SlR.ivn r]; show (0 + l.length) * 8 ≤ _; omega) (by rw [List.all_eq_true]; intro v hv; obtain ⟨n, _, rfl⟩ := List.mem_map.1 hv; rfl)
  have own : ∀ b, SlB (⟨some ⟨h.next, 0, none⟩, 0, 0⟩ : Sl) b → h.next ≤ b := fun b ⟨o, f⟩ => by
    have : h.next = b := congrArg Addr.block (Option.some.inj f)
    omega
  exact ⟨s', h', e1, Ch0.own n1 e2 own, e3, fun b hb => (e5 b hb).elim (own b) fun f => by omega⟩
/-! ### copied -/
theorem TreeO.push {h h' : H} (w : WF h) {s s' : Sl} {vs : List Vs} (T : TreeO h s vs) (c : Ch (SlB s) h h') (q : Vs) (M : Ow 3 1 h q.2 (ivs q.1.mp)) (hs : ∀ x, SlB s x → ¬ SlB q.2 x) (ha : ∀ a ∈ vs, Apart a q) (o : Ow 58 5 h' s' ((vs ++ [q]).map voL).flatten) (hb : ∀ b, SlB s' b → SlB s b ∨ h.next ≤ b) : TreeO h' s' (vs ++ [q]) := by
  have keep : ∀ a : Vs, Ow 3 1 h a.2 (ivs a.1.mp) → (∀ x, SlB s x → ¬ SlB a.2 x) → Ow 3 1 h' a.2 (ivs a.1.mp) := fun a O n => O.keep fun b hb => c.keep b (O.lt w hb) fun f => n b f hb
  have far : ∀ a : Vs, Ow 3 1 h a.2 (ivs a.1.mp) → (∀ x, SlB s x → ¬ SlB a.2 x) → ∀ x, SlB s' x → ¬ SlB a.2 x := fun a O n x hx f => (hb x hx).elim (fun g => n x g f) fun g => by have := O.lt w f; omega
  refine ⟨o, fun a ha' => ?_, ?_, fun a ha' => ?_⟩
  · rcases List.mem_append.1 ha' with e | e
    · exact keep a (T.mp a e) (T.ne a e)
    · rw [List.mem_singleton.1 e]; exact keep q M hs
  · rw [List.pairwise_append]
    exact ⟨T.di, List.pairwise_singleton _ _, fun a ha' b hb' => by rw [List.mem_singleton.1 hb']; exact ha a ha'⟩
  · rcases List.mem_append.1 ha' with e | e
    · exact far a (T.mp a e) (T.ne a e)
    · rw [List.mem_singleton.1 e]; exact far q M hs
theorem copied_l0 (k : Nat) {h0 : H} (w0 : WF h0) {s : Sl} {vs : List Vs} (T : TreeR h0 s vs) (B : TreeB vs) : ∀ n i h t us, vs.length - i < n → i ≤ vs.length → Ch0 h0 h → TreeO h t us → Fresh h0.next t us → vols us = (vols vs).take i →
    ∃ t' h' us', corbelref16_copied.l0 k n s t (Int.ofNat i) h = some (t', h') ∧ Ch0 h0 h' ∧ TreeO h' t' us' ∧ Fresh h0.next t' us' ∧ vols us' = vols vs
  | 0, i, h, t, us, hf, _, _, _, _, _ => by omega
  | n + 1, i, h, t, us, hf, hi, C, O, F, e => by
    rw [corbelref16_copied.l0_succ]
    have hn := B.n
    have ul : us.length = i := by
      have := congrArg List.length e
      rw [vols_len, List.length_take, vols_len] at this
      omega
    by_cases c : i < vs.length
    · rw [T.n, decLt c, cond_true]
      obtain ⟨b, o, e1, e2, e3⟩ := (T.stay w0 C).at c
      rw [T.n] at e1
      rw [e1]
      simp only [asP_ptr, Option.bind_some]
      rw [e2, bindVo]
      dsimp only [voT]
      have hB := B.nm _ (List.getElem_mem c)
      have hM := T.mp _ (List.getElem_mem c)
      generalize hq : vs[i] = q at hB hM
      rw [show [Value.string (ba q.1.nm), Value.string (ba q.1.pa), Value.bool q.1.sn, Value.int .i64 q.1.sz, Value.slice q.2.a q.2.n q.2.c] = voL q from rfl]
      obtain ⟨h1, b1, b2, b3, b4⟩ := box_ok C.wf 58 5 [Value.string (⟨#[]⟩ : ByteArray), Value.string (⟨#[]⟩ : ByteArray), Value.bool false, Value.int .i64 (0 : Int), Value.slice none 0 0] (voL q) rfl rfl rfl
      rw [b1]
      simp only [Option.bind_some]
      have C1 := C.then b2
      obtain ⟨n1, n2, n3⟩ := newR_ok b2.wf 3 1 []
      rw [(b4.stay b2.wf n1).ldc, show asS ((voL q)[4]?) = some q.2 from asS_slv _]
      simp only [Option.bind_some]
      obtain ⟨m, h2, d1, d2, d3, d4⟩ := dup_ok b2.wf (hM.stay w0 C1) (by omega)
      rw [d1]
      simp only [Option.bind_some]
      have C2 := C1.then d2
      obtain ⟨h3, f1, f2, f3, f4⟩ := (b4.stay b2.wf d2).set d2.wf 4 (slv m) (by show 4 < 5; decide) rfl
      rw [show [Value.slice m.a m.n m.c] = [slv m] from rfl, f1]
      simp only [Option.bind_some]
      have C3 := Ch0.at C2 f2 C.le
      let q' : Vs := (q.1, m)
      have f4 : Is h3 h.next 58 5 (voL q') := f4
      rw [ldaIs (n := 5) f4 rfl, bindVo]
      dsimp only [voT]
      rw [show [Value.string (ba q'.1.nm), Value.string (ba q'.1.pa), Value.bool q'.1.sn, Value.int .i64 q'.1.sz, Value.slice q'.2.a q'.2.n q'.2.c] = voL q' from rfl]
      have O2 := O.stay C.wf (b2.then d2)
      have lt1 : h.next < h1.next := by omega
      -- what the box's cell turns is no block of the list
      have O3 : TreeO h3 t us := by
        have kp : ∀ x, x < h.next → h3.get x = h2.get x := fun x hx => f2.keep x (by have := b2.le; have := d2.le; omega) fun f => by omega
        exact ⟨O2.ow.keep fun x hx => kp x (O.ow.lt C.wf hx), fun a ha => (O2.mp a ha).keep fun x hx => kp x ((O.mp a ha).lt C.wf hx), O2.di, O2.ne⟩
      have M3 : Ow 3 1 h3 q'.2 (ivs q'.1.mp) := d3.keep fun x hx => f2.keep x (d3.lt d2.wf hx) fun f => by have := d4 x hx; omega
      obtain ⟨t1, h4, g1, g2, g3, g4⟩ := push_vo C3.wf O3.ow q' (by omega)
      rw [g1]
      simp only [Option.bind_some]
      rw [wrap_succ (by omega)]
      have mf : ∀ x, SlB q'.2 x → h.next ≤ x := fun x hx => by have := d4 x hx; omega
      have O4 := TreeO.push C3.wf O3 g2 q' M3 (fun x hx f => by have := mf x f; have := O.ow.lt C.wf hx; omega) (fun a ha x hx f => by have := mf x f; have := (O.mp a ha).lt C.wf hx; omega) g3 g4
      have F4 : Fresh h0.next t1 (us ++ [q']) := by
        refine ⟨fun x hx => (g4 x hx).elim (F.1 x) fun f => Nat.le_trans C3.le f, fun a ha x hx => ?_⟩
        rcases List.mem_append.1 ha with z | z
        · exact F.2 a z x hx
        · rw [List.mem_singleton.1 z] at hx; exact Nat.le_trans C.le (mf x hx)
      have hv : (vols vs)[i]'(by rw [vols_len]; exact c) = q.1 := by simp only [vols, List.getElem_map, hq]
      exact copied_l0 k w0 T B n (i + 1) h4 t1 (us ++ [q']) (by omega) (by omega) (Ch0.own C3 g2 F.1) O4 F4 (by
        rw [List.take_succ_eq_append_getElem (by rw [vols_len]; exact c), hv, ← e]
        unfold vols
        rw [List.map_append]; rfl)
    · rw [T.n, decNlt c, cond_false]
      exact ⟨t, h, us, rfl, C, O, F, by rw [e, List.take_of_length_le (by rw [vols_len]; omega)]⟩
theorem copied_f (k : Nat) (hk : 20000 < k) {h : H} (w : WF h) {s : Sl} {vs : List Vs} (T : TreeR h s vs) (B : TreeB vs) :
    ∃ t h' us, corbelref16_copied.f k s h = some (t, h') ∧ Ch0 h h' ∧ TreeO h' t us ∧ Fresh h.next t us ∧ vols us = vols vs := by
  unfold corbelref16_copied.f
  have hn := B.n
  obtain ⟨t, h', us, a1, a2⟩ := copied_l0 k w T B k 0 h ⟨none, 0, 0⟩ [] (by omega) (Nat.zero_le _) (Ch.refl w) TreeO.nil Fresh.nil rfl
  rw [show (0 : Int) = Int.ofNat 0 from rfl, a1]
  exact ⟨t, h', us, rfl, a2⟩
/-! ### which lists stay right -/
theorem put_right {t : List Vol} (R : RightP t) (v : Vol) (hv : isName v.nm = true) (hm : rightMap v.sz v.mp = true) (hno : ∀ u ∈ t, u.nm ≠ v.nm) (hp : parP t v) (hl : t.length < 12) (j : Nat) (hj : j ≤ t.length)
    (h1 : ∀ a (ha : a < t.length), a < j → less t[a].nm v.nm = true) (h2 : ∀ hj : j < t.length, less t[j].nm v.nm = false) : RightP (t.take j ++ v :: t.drop j) := by
  have mem : ∀ u, u ∈ t.take j ++ v :: t.drop j ↔ u = v ∨ u ∈ t := fun u => by rw [List.perm_middle.mem_iff, List.take_append_drop, List.mem_cons]
  have af : ∀ a (ha : a < t.length), j ≤ a → less v.nm t[a].nm = true := fun a ha hja => by
    have hj' : j < t.length := by omega
    have e : less v.nm t[j].nm = true := by
      rcases less_tri v.nm t[j].nm with g | g | g
      · exact g
      · exact absurd g.symm (hno _ (List.getElem_mem hj'))
      · rw [h2 hj'] at g; cases g
    by_cases z : j = a
    · subst z; exact e
    · exact less_trans e (sorted_lt R.so ha (by omega))
  refine ⟨?_, fun u hu => ?_, fun u hu => ?_, fun u hu => ?_, ?_⟩
  · rw [List.pairwise_append]
    refine ⟨R.so.sublist (List.take_sublist _ _), List.pairwise_cons.2 ⟨fun u hu => ?_, R.so.sublist (List.drop_sublist _ _)⟩, fun u hu x hx => ?_⟩
    · obtain ⟨a, ha, rfl⟩ := List.mem_iff_getElem.1 hu
      rw [List.getElem_drop]
      exact af _ _ (by omega)
    · obtain ⟨a, ha, rfl⟩ := List.mem_iff_getElem.1 hu
      rw [List.length_take] at ha
      rw [List.getElem_take]
      have L := h1 a (by omega) (by omega)
      rcases List.mem_cons.1 hx with z | z
      · rw [z]; exact L
      · obtain ⟨c, hc, rfl⟩ := List.mem_iff_getElem.1 z
        rw [List.getElem_drop]
        exact less_trans L (af _ _ (by omega))
  · rcases (mem u).1 hu with z | z
    · rw [z]; exact hv
    · exact R.na u z
  · rcases (mem u).1 hu with z | z
    · rw [z]; exact hm
    · exact R.ma u z
  · have up : ∀ x, parP t x → parP (t.take j ++ v :: t.drop j) x := fun x hx => hx.imp id fun ⟨g1, y, hy, g2⟩ => ⟨g1, y, (mem y).2 (.inr hy), g2⟩
    rcases (mem u).1 hu with z | z
    · rw [z]; exact up v hp
    · exact up u (R.pa u z)
  · rw [List.length_append, List.length_cons, List.length_take, List.length_drop]; omega
theorem nameLen {s : List UInt8} (h : isName s = true) : s.length ≤ 8 := by
  unfold isName at h
  rw [Bool.and_eq_true, Bool.and_eq_true, decide_eq_true_eq, decide_eq_true_eq] at h
  exact h.2.2
theorem mapLen {n : Int} {m : List Int} (h : rightMap n m = true) : m.length ≤ 32 ∧ (m.length : Int) = n / 8 ∧ 0 ≤ n ∧ n ≤ 256 ∧ n % 8 = 0 := by
  unfold rightMap at h
  rw [Bool.and_eq_true, Bool.and_eq_true, decide_eq_true_eq] at h
  obtain ⟨z1, z2, z3⟩ := okSize_iff.1 h.1
  have := h.2.1
  exact ⟨by omega, this, z1, z2, z3⟩
theorem RightP.paLen {t : List Vol} (R : RightP t) {v : Vol} (hv : v ∈ t) : v.pa.length ≤ 8 := by
  rcases R.pa v hv with e | ⟨_, u, hu, e, _⟩
  · rw [e]; exact Nat.zero_le _
  · rw [← e]; exact nameLen (R.na u hu)
theorem RightP.b {vs : List Vs} (R : RightP (vols vs)) : TreeB vs := by
  refine ⟨by have := R.le; rw [vols_len] at this; omega, fun q hq => ?_⟩
  have hm : q.1 ∈ vols vs := List.mem_map.2 ⟨q, hq, rfl⟩
  have a := nameLen (R.na _ hm)
  have b := R.paLen hm
  have c := (mapLen (R.ma _ hm)).1
  exact ⟨by omega, by omega, by omega⟩
theorem vols_put (vs : List Vs) (j : Nat) (q : Vs) : vols (vs.take j ++ q :: vs.drop j) = (vols vs).take j ++ q.1 :: (vols vs).drop j := by
  unfold vols
  rw [List.map_append, List.map_cons, List.map_take, List.map_drop]
/-- one number more -/
theorem push_i {h : H} (w : WF h) {s : Sl} {l : List Int} (r : Ow 3 1 h s (ivs l)) (n : Int) (hb : l.length ≤ 100000) :
    ∃ s' h', asS2 (apv 3 1 8 (.slice s.a s.n s.c) (.slice (some ⟨h.next, 0, none⟩) 1 1) (newR h 3 1 [.int .i64 n])) = some (s', h') ∧ Ch (SlB s) h h' ∧ Ow 3 1 h' s' (ivs (l ++ [n])) ∧ ∀ b, SlB s' b → SlB s b ∨ h.next ≤ b := by
  obtain ⟨n1, n2, n3⟩ := newR_ok w 3 1 [.int .i64 n]
  have hs := SlR.ivn r.slr
  obtain ⟨s', h', e1, e2, e3, e4, e5⟩ := apv_ok (by_ := 8) n1.wf (r.stay w n1) (by decide) (SlR.of_is n3 (n := 1) rfl (by unfold unk; omega)) (by rw [hs]; show (l.length + 1) * 8 ≤ _; omega) rfl
  refine ⟨s', h', e1, (n1.mono fun _ _ f => f.elim).trans e2 fun _ _ f => f, ?_, fun b hb => (e5 b hb).imp id fun f => by omega⟩
  have : ivs l ++ [.int .i64 n] = ivs (l ++ [n]) := by unfold ivs; rw [List.map_append]; rfl
  rw [← this]; exact e3
/-! ### created -/
/-- what an act on a right list answers -/
def Made (h : H) (r : Option ((Sl × Int) × H)) : Prop := ∃ t e h', r = some ((t, e), h') ∧ Ch0 h h' ∧ (e ≠ 0 ∨ (e = 0 ∧ ∃ us, TreeO h' t us ∧ Fresh h.next t us ∧ RightP (vols us) ∧ us ≠ []))
theorem Made.no {h h' : H} (c : Ch0 h h') (t : Sl) {e : Int} (he : e ≠ 0) : Made h (some ((t, e), h')) := ⟨t, e, h', rfl, c, .inl he⟩
theorem put_vols {t : List Vol} {us : List Vs} (hu : vols us = t) {v : Vol} {j : Nat} (hj : j ≤ us.length) (h1 : ∀ a (ha : a < us.length), a < j → less us[a].1.nm v.nm = true) (h2 : ∀ hj : j < us.length, less us[j].1.nm v.nm = false) :
    j ≤ t.length ∧ (∀ a (ha : a < t.length), a < j → less t[a].nm v.nm = true) ∧ (∀ hj : j < t.length, less t[j].nm v.nm = false) := by
  subst hu
  have e : ∀ a (ha : a < (vols us).length), (vols us)[a] = (us[a]'(by rw [vols_len] at ha; exact ha)).1 := fun a ha => by simp only [vols, List.getElem_map]
  refine ⟨by rw [vols_len]; exact hj, fun a ha haj => ?_, fun hj' => ?_⟩
  · rw [e]; exact h1 a _ haj
  · rw [e]; exact h2 _
/-! ### a hand's names -/
/-! ### a cell of a map set -/
/-! ### of -/
def rawL (a b c d e : Int) : List Value := [.int .i64 a, .int .i64 b, .int .i64 c, .int .i64 d, .int .i64 e]
/-- an argument: raw steps -/
def RawsR (h : H) (s : Sl) : Prop := ∀ h', Ch0 h h' → ∀ i, i < s.n → ∃ b o x1 x2 x3 x4 x5, ixs 5 s.a s.n (Int.ofNat i) = some (.pointer (some ⟨b, o, none⟩)) ∧ lda 5 h' (some ⟨b, o, none⟩) = some (.agg (rawL x1 x2 x3 x4 x5).toArray)
theorem RawsR.stay {h h' : H} {s : Sl} (r : RawsR h s) (c : Ch0 h h') : RawsR h' s := fun g cg => r g (c.then cg)
structure VolB (v : Vol) : Prop where
  nm : v.nm.length ≤ 8
  pa : v.pa.length ≤ 8
  mp : v.mp.length ≤ 32
  sz : 0 ≤ v.sz ∧ v.sz ≤ 256
theorem RightP.vb {t : List Vol} (R : RightP t) {v : Vol} (hv : v ∈ t) : VolB v := ⟨nameLen (R.na v hv), R.paLen hv, (mapLen (R.ma v hv)).1, (mapLen (R.ma v hv)).2.2.1, (mapLen (R.ma v hv)).2.2.2.1⟩
/-! ### the map's bytes -/
/-! ### the program -/
noncomputable instance (t : List Vol) : Decidable (RightP t) := Classical.propDecidable _
/-! ### the reference -/
end Go.Proofs.Ytfenkpghcbohdaa.Fw
