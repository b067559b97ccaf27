/- Lists of volumes of the run's own: copied, one put in. No condition. -/
import Derived.Test.YtfenkpghcbohdaaPcFwTreeA
namespace Go.Proofs.Ytfenkpghcbohdaa.Fw
open Go Den Fwd
set_option linter.unusedVariables false
set_option linter.unusedSimpArgs false
/-! ### a list of the run's own -/
abbrev Apart (a b : Vs) : Prop := ∀ x, SlB a.2 x → ¬ SlB b.2 x
theorem Apart.symm {a b : Vs} (h : Apart a b) : Apart b a := fun x hb ha => h x ha hb
structure TreeO (h : H) (s : Sl) (vs : List Vs) : Prop where
  ow : Ow 58 5 h s (vs.map voL).flatten
  mp : ∀ q ∈ vs, Ow 3 1 h q.2 (ivs q.1.mp)
  di : vs.Pairwise Apart
  ne : ∀ q ∈ vs, ∀ x, SlB s x → ¬ SlB q.2 x
/-- nothing of it lies below -/
def Fresh (n : Nat) (s : Sl) (vs : List Vs) : Prop := (∀ x, SlB s x → n ≤ x) ∧ ∀ q ∈ vs, ∀ x, SlB q.2 x → n ≤ x
theorem Fresh.mono {m n : Nat} {s : Sl} {vs : List Vs} (f : Fresh n s vs) (h : m ≤ n) : Fresh m s vs := ⟨fun x hx => Nat.le_trans h (f.1 x hx), fun q hq x hx => Nat.le_trans h (f.2 q hq x hx)⟩
theorem TreeO.read {h : H} {s : Sl} {vs : List Vs} (T : TreeO h s vs) : TreeR h s vs := ⟨T.ow.slr, fun q hq => (T.mp q hq).slr⟩
theorem TreeO.stay {h h' : H} {s : Sl} {vs : List Vs} (w : WF h) (c : Ch0 h h') (T : TreeO h s vs) : TreeO h' s vs := ⟨T.ow.stay w c, fun q hq => (T.mp q hq).stay w c, T.di, T.ne⟩
theorem TreeO.nil {h : H} : TreeO h ⟨none, 0, 0⟩ [] := ⟨Ow.nil, (fun _ f => by cases f), List.Pairwise.nil, (fun _ f => by cases f)⟩
theorem noSlB {n c x : Nat} : ¬ SlB ⟨none, n, c⟩ x := fun ⟨o, f⟩ => by cases f
theorem Fresh.nil {n : Nat} : Fresh n ⟨none, 0, 0⟩ [] := ⟨(fun x f => absurd f noSlB), (fun _ f => by cases f)⟩
theorem voL_one (q : Vs) : (voL q).all Den.one = true := rfl
theorem vo_len (vs : List Vs) : ((vs.map voL).flatten).length = vs.length * 5 := by rw [flat_len (vo_es vs), List.length_map]
theorem Ow.von {h : H} {s : Sl} {vs : List Vs} (o : Ow 58 5 h s (vs.map voL).flatten) : s.n = vs.length := by
  have := o.slr.len
  rw [vo_len] at this
  omega
theorem vo_app (a b : List Vs) : ((a ++ b).map voL).flatten = (a.map voL).flatten ++ (b.map voL).flatten := by rw [List.map_append, List.flatten_append]
theorem vo_sing (q : Vs) : ([q].map voL).flatten = voL q := by simp
theorem vo_take (vs : List Vs) (i : Nat) : ((vs.map voL).flatten).take (i * 5) = ((vs.take i).map voL).flatten := by
  by_cases c : i ≤ vs.length
  · have e : (vs.map voL).flatten = ((vs.take i).map voL).flatten ++ ((vs.drop i).map voL).flatten := by rw [← vo_app, List.take_append_drop]
    rw [e, List.take_append_of_le_length (by rw [vo_len, List.length_take]; omega), List.take_of_length_le (by rw [vo_len, List.length_take]; omega)]
  · rw [List.take_of_length_le (by rw [vo_len]; omega), List.take_of_length_le (by omega)]
theorem vo_drop (vs : List Vs) (i : Nat) (c : i ≤ vs.length) : ((vs.map voL).flatten).drop (i * 5) = ((vs.drop i).map voL).flatten := by
  have e : (vs.map voL).flatten = ((vs.take i).map voL).flatten ++ ((vs.drop i).map voL).flatten := by rw [← vo_app, List.take_append_drop]
  have l : (((vs.take i).map voL).flatten).length = i * 5 := by rw [vo_len, List.length_take]; omega
  rw [e, ← l, List.drop_left]
/-- a list's rows, one more -/
theorem push_vo {h : H} (w : WF h) {s : Sl} {vs : List Vs} (o : Ow 58 5 h s (vs.map voL).flatten) (q : Vs) (hn : vs.length ≤ 1000) :
    ∃ s' h', asS2 (apv 58 5 72 (.slice s.a s.n s.c) (.slice (some ⟨h.next, 0, none⟩) 1 1) (newR h 58 5 (voL q))) = some (s', h') ∧ Ch (SlB s) h h' ∧ Ow 58 5 h' s' ((vs ++ [q]).map voL).flatten ∧ ∀ b, SlB s' b → SlB s b ∨ h.next ≤ b := by
  obtain ⟨n1, n2, n3⟩ := newR_ok w 58 5 (voL q)
  obtain ⟨s', h', e1, e2, e3, e4, e5⟩ := apv_ok (by_ := 72) n1.wf (o.stay w n1) (by decide) (SlR.of_is n3 (n := 1) rfl (by unfold unk; omega)) (by rw [Ow.von o]; show (vs.length + 1) * 72 ≤ _; omega) (voL_one q)
  refine ⟨s', h', e1, (n1.mono fun _ _ f => f.elim).trans e2 fun _ _ f => f, ?_, fun b hb => (e5 b hb).imp id fun f => ?_⟩
  · rw [vo_app, vo_sing]; exact e3
  · omega
/-- .. rows behind rows -/
theorem apps_vo {h : H} (w : WF h) {s x : Sl} {vs us : List Vs} (o : Ow 58 5 h s (vs.map voL).flatten) (r : SlR 5 h x (us.map voL).flatten) (hn : vs.length + us.length ≤ 10000) :
    ∃ s' h', asS2 (apv 58 5 72 (.slice s.a s.n s.c) (.slice x.a x.n x.c) h) = some (s', h') ∧ Ch (SlB s) h h' ∧ Ow 58 5 h' s' ((vs ++ us).map voL).flatten ∧ ∀ b, SlB s' b → SlB s b ∨ h.next ≤ b := by
  have hx : x.n = us.length := by have := r.len; rw [vo_len] at this; omega
  obtain ⟨s', h', e1, e2, e3, e4, e5⟩ := apv_ok (by_ := 72) w o (by decide) r (by rw [Ow.von o, hx]; omega) (vo_one us)
  exact ⟨s', h', e1, e2, by rw [vo_app]; exact e3, fun b hb => (e5 b hb).imp id fun f => f.1⟩
/-- append([]int{}, m...) -/
theorem dup_ok {h : H} (w : WF h) {s : Sl} {l : List Int} (r : SlR 1 h s (ivs l)) (hl : l.length ≤ 10000) :
    ∃ s' h', asS2 (apv 3 1 8 (Value.slice (some ⟨h.next, 0, none⟩) 0 0) (Value.slice s.a s.n s.c) (newR h 3 1 [])) = some (s', h') ∧ Ch0 h h' ∧ Ow 3 1 h' s' (ivs l) ∧ ∀ b, SlB s' b → h.next ≤ b := by
  obtain ⟨n1, n2, n3⟩ := newR_ok w 3 1 []
  obtain ⟨s', h', e1, e2, e3, e4, e5⟩ := apv_ok (by_ := 8) n1.wf (Ow.of_is n3 (n := 0) rfl (by unfold unk; omega)) (by decide) (r.stay w n1) (by rw [SlR.ivn r]; show (0 + l.length) * 8 ≤ _; omega) (by rw [List.all_eq_true]; intro v hv; obtain ⟨n, _, rfl⟩ := List.mem_map.1 hv; rfl)
  have own : ∀ b, SlB (⟨some ⟨h.next, 0, none⟩, 0, 0⟩ : Sl) b → h.next ≤ b := fun b ⟨o, f⟩ => by
    have : h.next = b := congrArg Addr.block (Option.some.inj f)
    omega
  exact ⟨s', h', e1, Ch0.own n1 e2 own, e3, fun b hb => (e5 b hb).elim (own b) fun f => by omega⟩
/-! ### copied -/
theorem TreeO.push {h h' : H} (w : WF h) {s s' : Sl} {vs : List Vs} (T : TreeO h s vs) (c : Ch (SlB s) h h') (q : Vs) (M : Ow 3 1 h q.2 (ivs q.1.mp)) (hs : ∀ x, SlB s x → ¬ SlB q.2 x) (ha : ∀ a ∈ vs, Apart a q) (o : Ow 58 5 h' s' ((vs ++ [q]).map voL).flatten) (hb : ∀ b, SlB s' b → SlB s b ∨ h.next ≤ b) : TreeO h' s' (vs ++ [q]) := by
  have keep : ∀ a : Vs, Ow 3 1 h a.2 (ivs a.1.mp) → (∀ x, SlB s x → ¬ SlB a.2 x) → Ow 3 1 h' a.2 (ivs a.1.mp) := fun a O n => O.keep fun b hb => c.keep b (O.lt w hb) fun f => n b f hb
  have far : ∀ a : Vs, Ow 3 1 h a.2 (ivs a.1.mp) → (∀ x, SlB s x → ¬ SlB a.2 x) → ∀ x, SlB s' x → ¬ SlB a.2 x := fun a O n x hx f => (hb x hx).elim (fun g => n x g f) fun g => by have := O.lt w f; omega
  refine ⟨o, fun a ha' => ?_, ?_, fun a ha' => ?_⟩
  · rcases List.mem_append.1 ha' with e | e
    · exact keep a (T.mp a e) (T.ne a e)
    · rw [List.mem_singleton.1 e]; exact keep q M hs
  · rw [List.pairwise_append]
    exact ⟨T.di, List.pairwise_singleton _ _, fun a ha' b hb' => by rw [List.mem_singleton.1 hb']; exact ha a ha'⟩
  · rcases List.mem_append.1 ha' with e | e
    · exact far a (T.mp a e) (T.ne a e)
    · rw [List.mem_singleton.1 e]; exact far q M hs
/-! ### which lists stay right -/
theorem put_right {t : List Vol} (R : RightP t) (v : Vol) (hv : isName v.nm = true) (hm : rightMap v.sz v.mp = true) (hno : ∀ u ∈ t, u.nm ≠ v.nm) (hp : parP t v) (hl : t.length < 12) (j : Nat) (hj : j ≤ t.length)
    (h1 : ∀ a (ha : a < t.length), a < j → less t[a].nm v.nm = true) (h2 : ∀ hj : j < t.length, less t[j].nm v.nm = false) : RightP (t.take j ++ v :: t.drop j) := by
  have mem : ∀ u, u ∈ t.take j ++ v :: t.drop j ↔ u = v ∨ u ∈ t := fun u => by rw [List.perm_middle.mem_iff, List.take_append_drop, List.mem_cons]
  have af : ∀ a (ha : a < t.length), j ≤ a → less v.nm t[a].nm = true := fun a ha hja => by
    have hj' : j < t.length := by omega
    have e : less v.nm t[j].nm = true := by
      rcases less_tri v.nm t[j].nm with g | g | g
      · exact g
      · exact absurd g.symm (hno _ (List.getElem_mem hj'))
      · rw [h2 hj'] at g; cases g
    by_cases z : j = a
    · subst z; exact e
    · exact less_trans e (sorted_lt R.so ha (by omega))
  refine ⟨?_, fun u hu => ?_, fun u hu => ?_, fun u hu => ?_, ?_⟩
  · rw [List.pairwise_append]
    refine ⟨R.so.sublist (List.take_sublist _ _), List.pairwise_cons.2 ⟨fun u hu => ?_, R.so.sublist (List.drop_sublist _ _)⟩, fun u hu x hx => ?_⟩
    · obtain ⟨a, ha, rfl⟩ := List.mem_iff_getElem.1 hu
      rw [List.getElem_drop]
      exact af _ _ (by omega)
    · obtain ⟨a, ha, rfl⟩ := List.mem_iff_getElem.1 hu
      rw [List.length_take] at ha
      rw [List.getElem_take]
      have L := h1 a (by omega) (by omega)
      rcases List.mem_cons.1 hx with z | z
      · rw [z]; exact L
      · obtain ⟨c, hc, rfl⟩ := List.mem_iff_getElem.1 z
        rw [List.getElem_drop]
        exact less_trans L (af _ _ (by omega))
  · rcases (mem u).1 hu with z | z
    · rw [z]; exact hv
    · exact R.na u z
  · rcases (mem u).1 hu with z | z
    · rw [z]; exact hm
    · exact R.ma u z
  · have up : ∀ x, parP t x → parP (t.take j ++ v :: t.drop j) x := fun x hx => hx.imp id fun ⟨g1, y, hy, g2⟩ => ⟨g1, y, (mem y).2 (.inr hy), g2⟩
    rcases (mem u).1 hu with z | z
    · rw [z]; exact up v hp
    · exact up u (R.pa u z)
  · rw [List.length_append, List.length_cons, List.length_take, List.length_drop]; omega
theorem nameLen {s : List UInt8} (h : isName s = true) : s.length ≤ 8 := by
  unfold isName at h
  rw [Bool.and_eq_true, Bool.and_eq_true, decide_eq_true_eq, decide_eq_true_eq] at h
  exact h.2.2
theorem mapLen {n : Int} {m : List Int} (h : rightMap n m = true) : m.length ≤ 32 ∧ (m.length : Int) = n / 8 ∧ 0 ≤ n ∧ n ≤ 256 ∧ n % 8 = 0 := by
  unfold rightMap at h
  rw [Bool.and_eq_true, Bool.and_eq_true, decide_eq_true_eq] at h
  obtain ⟨z1, z2, z3⟩ := okSize_iff.1 h.1
  have := h.2.1
  exact ⟨by omega, this, z1, z2, z3⟩
theorem RightP.paLen {t : List Vol} (R : RightP t) {v : Vol} (hv : v ∈ t) : v.pa.length ≤ 8 := by
  rcases R.pa v hv with e | ⟨_, u, hu, e, _⟩
  · rw [e]; exact Nat.zero_le _
  · rw [← e]; exact nameLen (R.na u hu)
theorem RightP.b {vs : List Vs} (R : RightP (vols vs)) : TreeB vs := by
  refine ⟨by have := R.le; rw [vols_len] at this; omega, fun q hq => ?_⟩
  have hm : q.1 ∈ vols vs := List.mem_map.2 ⟨q, hq, rfl⟩
  have a := nameLen (R.na _ hm)
  have b := R.paLen hm
  have c := (mapLen (R.ma _ hm)).1
  exact ⟨by omega, by omega, by omega⟩
theorem vols_put (vs : List Vs) (j : Nat) (q : Vs) : vols (vs.take j ++ q :: vs.drop j) = (vols vs).take j ++ q.1 :: (vols vs).drop j := by
  unfold vols
  rw [List.map_append, List.map_cons, List.map_take, List.map_drop]
/-- one number more -/
theorem push_i {h : H} (w : WF h) {s : Sl} {l : List Int} (r : Ow 3 1 h s (ivs l)) (n : Int) (hb : l.length ≤ 100000) :
    ∃ s' h', asS2 (apv 3 1 8 (.slice s.a s.n s.c) (.slice (some ⟨h.next, 0, none⟩) 1 1) (newR h 3 1 [.int .i64 n])) = some (s', h') ∧ Ch (SlB s) h h' ∧ Ow 3 1 h' s' (ivs (l ++ [n])) ∧ ∀ b, SlB s' b → SlB s b ∨ h.next ≤ b := by
  obtain ⟨n1, n2, n3⟩ := newR_ok w 3 1 [.int .i64 n]
  have hs := SlR.ivn r.slr
  obtain ⟨s', h', e1, e2, e3, e4, e5⟩ := apv_ok (by_ := 8) n1.wf (r.stay w n1) (by decide) (SlR.of_is n3 (n := 1) rfl (by unfold unk; omega)) (by rw [hs]; show (l.length + 1) * 8 ≤ _; omega) rfl
  refine ⟨s', h', e1, (n1.mono fun _ _ f => f.elim).trans e2 fun _ _ f => f, ?_, fun b hb => (e5 b hb).imp id fun f => by omega⟩
  have : ivs l ++ [.int .i64 n] = ivs (l ++ [n]) := by unfold ivs; rw [List.map_append]; rfl
  rw [← this]; exact e3
/-! ### created -/
/-- what an act on a right list answers -/
def Made (h : H) (r : Option ((Sl × Int) × H)) : Prop := ∃ t e h', r = some ((t, e), h') ∧ Ch0 h h' ∧ (e ≠ 0 ∨ (e = 0 ∧ ∃ us, TreeO h' t us ∧ Fresh h.next t us ∧ RightP (vols us) ∧ us ≠ []))
theorem Made.no {h h' : H} (c : Ch0 h h') (t : Sl) {e : Int} (he : e ≠ 0) : Made h (some ((t, e), h')) := ⟨t, e, h', rfl, c, .inl he⟩
theorem put_vols {t : List Vol} {us : List Vs} (hu : vols us = t) {v : Vol} {j : Nat} (hj : j ≤ us.length) (h1 : ∀ a (ha : a < us.length), a < j → less us[a].1.nm v.nm = true) (h2 : ∀ hj : j < us.length, less us[j].1.nm v.nm = false) :
    j ≤ t.length ∧ (∀ a (ha : a < t.length), a < j → less t[a].nm v.nm = true) ∧ (∀ hj : j < t.length, less t[j].nm v.nm = false) := by
  subst hu
  have e : ∀ a (ha : a < (vols us).length), (vols us)[a] = (us[a]'(by rw [vols_len] at ha; exact ha)).1 := fun a ha => by simp only [vols, List.getElem_map]
  refine ⟨by rw [vols_len]; exact hj, fun a ha haj => ?_, fun hj' => ?_⟩
  · rw [e]; exact h1 a _ haj
  · rw [e]; exact h2 _
/-! ### a hand's names -/
/-! ### a cell of a map set -/
/-! ### of -/
def rawL (a b c d e : Int) : List Value := [.int .i64 a, .int .i64 b, .int .i64 c, .int .i64 d, .int .i64 e]
/-- an argument: raw steps -/
def RawsR (h : H) (s : Sl) : Prop := ∀ h', Ch0 h h' → ∀ i, i < s.n → ∃ b o x1 x2 x3 x4 x5, ixs 5 s.a s.n (Int.ofNat i) = some (.pointer (some ⟨b, o, none⟩)) ∧ lda 5 h' (some ⟨b, o, none⟩) = some (.agg (rawL x1 x2 x3 x4 x5).toArray)
theorem RawsR.stay {h h' : H} {s : Sl} (r : RawsR h s) (c : Ch0 h h') : RawsR h' s := fun g cg => r g (c.then cg)
structure VolB (v : Vol) : Prop where
  nm : v.nm.length ≤ 8
  pa : v.pa.length ≤ 8
  mp : v.mp.length ≤ 32
  sz : 0 ≤ v.sz ∧ v.sz ≤ 256
theorem RightP.vb {t : List Vol} (R : RightP t) {v : Vol} (hv : v ∈ t) : VolB v := ⟨nameLen (R.na v hv), R.paLen hv, (mapLen (R.ma v hv)).1, (mapLen (R.ma v hv)).2.2.1, (mapLen (R.ma v hv)).2.2.2.1⟩
/-! ### the map's bytes -/
/-! ### the program -/
noncomputable instance (t : List Vol) : Decidable (RightP t) := Classical.propDecidable _
/-! ### the reference -/
end Go.Proofs.Ytfenkpghcbohdaa.Fw
