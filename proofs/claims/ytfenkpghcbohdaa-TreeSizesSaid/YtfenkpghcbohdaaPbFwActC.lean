/- A volume deleted, sized, by the program. No condition. -/
import Derived.Test.YtfenkpghcbohdaaPbFwActB
namespace Go.Proofs.Ytfenkpghcbohdaa.Fw
open Go Den Fwd
set_option linter.unusedVariables false
set_option linter.unusedSimpArgs false
/-! ### sized -/
theorem flat_set1 {es : Nat} : ∀ {gs : List (List Value)}, (∀ g ∈ gs, g.length = es) → ∀ (i : Nat) (hi : i < gs.length) (j : Nat), j < es → ∀ v : Value, gs.flatten.set (i * es + j) v = (gs.set i (gs[i].set j v)).flatten
  | g :: gs, h, 0, _, j, hj, v => by
    have hg := h g List.mem_cons_self
    rw [List.flatten_cons, Nat.zero_mul, Nat.zero_add, List.set_append_left _ _ (by omega), List.set_cons_zero, List.flatten_cons]; rfl
  | g :: gs, h, i + 1, hi, j, hj, v => by
    have hg := h g List.mem_cons_self
    have := flat_set1 (gs := gs) (fun x hx => h x (List.mem_cons_of_mem _ hx)) i (by rw [List.length_cons] at hi; omega) j hj v
    have e : (i + 1) * es + j = g.length + (i * es + j) := by rw [Nat.add_mul, Nat.one_mul, hg]; omega
    rw [List.flatten_cons, e, List.set_append_right _ _ (by omega), show g.length + (i * es + j) - g.length = i * es + j by omega, this, List.set_cons_succ, List.flatten_cons]; rfl
/-- a cell of a list's row set -/
theorem set_cell {h : H} (w : WF h) {s : Sl} {vs : List Vs} (ow : Ow 58 5 h s (vs.map voL).flatten) {i : Nat} (hi : i < vs.length) (j : Nat) (hj : j < 5) (v : Value) (h1 : Den.one v = true) (q : Vs) (hq : (voL vs[i]).set j v = voL q) :
    ∃ b h', ixs 5 s.a s.n (Int.ofNat i) = some (.pointer (some ⟨b, i * 5, none⟩)) ∧ stv 1 h (some ⟨b, i * 5 + j, none⟩) [v] = some (undef, h') ∧ Ch (SlB s) h h' ∧ Ow 58 5 h' s ((vs.set i q).map voL).flatten := by
  rcases ow with ⟨f, _⟩ | ⟨b, m, cc, rfl, hl, I, hc⟩
  · have := congrArg List.length f
    rw [vo_len] at this
    have this : vs.length * 5 = 0 := this
    omega
  · rw [vo_len] at hl
    obtain ⟨h', i1, i2, i3, i4⟩ := I.set w (i * 5 + j) v (by rw [vo_len]; omega) h1
    have e0 : ixs 5 (some ⟨b, 0, none⟩) m (Int.ofNat i) = some (.pointer (some ⟨b, i * 5, none⟩)) := by
      have : ixs 5 (some ⟨b, 0, none⟩) m (Int.ofNat i) = some (.pointer (some ⟨b, 0 + i * 5, none⟩)) := cond_eta _ _ _ (Nat.ble_eq_true_of_le (by show i + 1 ≤ m; omega))
      rw [this, Nat.zero_add]
    have ev : (vs.map voL).flatten.set (i * 5 + j) v = ((vs.set i q).map voL).flatten := by
      rw [flat_set1 (vo_es vs) i (by rw [List.length_map]; exact hi) j hj, List.getElem_map, hq, List.map_set]
    rw [ev] at i4
    exact ⟨b, h', e0, i1, i2.mono fun x _ hx => by subst hx; exact ⟨0, rfl⟩, .inr ⟨b, m, cc, rfl, by rw [vo_len, List.length_set]; exact hl, i4, hc⟩⟩
/-- a list with another map at one place -/
theorem TreeO.swap {h h' : H} (w : WF h) {s : Sl} {vs : List Vs} (T : TreeO h s vs) {i : Nat} (hi : i < vs.length) (c : Ch (SlB s) h h') (q : Vs) (o : Ow 58 5 h' s ((vs.set i q).map voL).flatten) (M : Ow 3 1 h q.2 (ivs q.1.mp)) (hs : ∀ x, SlB s x → ¬ SlB q.2 x) (ha : ∀ j (hj : j < vs.length), j ≠ i → Apart vs[j] q) : TreeO h' s (vs.set i q) := by
  have keep : ∀ a : Vs, Ow 3 1 h a.2 (ivs a.1.mp) → (∀ x, SlB s x → ¬ SlB a.2 x) → Ow 3 1 h' a.2 (ivs a.1.mp) := fun a O n => O.keep fun b hb => c.keep b (O.lt w hb) fun f => n b f hb
  have pw := List.pairwise_iff_getElem.1 T.di
  refine ⟨o, fun a hm => ?_, ?_, fun a hm => ?_⟩
  · rcases List.mem_or_eq_of_mem_set hm with z | z
    · exact keep a (T.mp a z) (T.ne a z)
    · rw [z]; exact keep q M hs
  · rw [List.pairwise_iff_getElem]
    intro a b ha' hb' hab
    rw [List.length_set] at ha' hb'
    rw [List.getElem_set, List.getElem_set]
    by_cases z1 : i = a
    · rw [if_pos z1, if_neg (by omega)]
      exact (ha b hb' (by omega)).symm
    · rw [if_neg z1]
      by_cases z2 : i = b
      · rw [if_pos z2]; exact ha a ha' (by omega)
      · rw [if_neg z2]; exact pw a b ha' hb' hab
  · rcases List.mem_or_eq_of_mem_set hm with z | z
    · exact T.ne a z
    · rw [z]; exact hs
theorem set_resz {t : List Vol} (S : t.Pairwise fun a b => less a.nm b.nm = true) {nm : List UInt8} {sz : Int} {r : Nat} (hr : r < t.length) (e : t[r].nm = nm) : t.set r { t[r] with sz := sz, mp := sizedP t[r].mp sz } = t.map (resz nm sz) := by
  apply List.ext_getElem
  · rw [List.length_set, List.length_map]
  · intro i h1 h2
    rw [List.length_set] at h1
    rw [List.getElem_set, List.getElem_map]
    by_cases c : r = i
    · subst c
      rw [if_pos rfl]
      unfold resz
      rw [if_pos e]
    · rw [if_neg c]
      unfold resz
      rw [if_neg (fun f => c (sorted_inj S hr h1 (by rw [e, f])))]
theorem tresize_f (k : Nat) (hk : 20000 < k) {h : H} (w : WF h) {s : Sl} {vs : List Vs} (T : TreeR h s vs) (R : RightP (vols vs)) (nm : List UInt8) (sz : Int) : Did h (tree_Resize.f k s (ba nm) sz h) (resizeP (vols vs) nm sz) := by
  unfold tree_Resize.f
  have B := R.b
  obtain ⟨v, h2, b1, b2, b3⟩ := tright_f k hk w T B
  have vt := b3.2 R
  subst vt
  rw [b1]
  simp only [Option.bind_some, Bool.not_true, cond_false]
  obtain ⟨r, h4, d1, d2, d3⟩ := find_f k hk b2.wf (T.stay w b2) B nm
  rw [d1]
  simp only [Option.bind_some]
  have C4 := b2.then d2
  unfold resizeP
  rw [show [Value.string (⟨#[]⟩ : ByteArray), Value.string (⟨#[]⟩ : ByteArray), Value.bool false, Value.int .i64 (0 : Int), Value.slice none 0 0] = zVo from rfl]
  rcases d3 with ⟨u, m, e1, rfl, e3, e4⟩ | ⟨e1, rfl⟩
  rotate_left
  · rw [e1]
    obtain ⟨h5, f1, f2, f3, f4⟩ := box_ok d2.wf 58 5 zVo (voL zVs) rfl rfl rfl
    have f1 : stv 5 (newR h4 58 5 zVo) (some ⟨h4.next, 0, none⟩) [Value.string (voT zVs).1, Value.string (voT zVs).2.1, Value.bool (voT zVs).2.2.1, Value.int .i64 (voT zVs).2.2.2.1, Value.slice (voT zVs).2.2.2.2.a (voT zVs).2.2.2.2.n (voT zVs).2.2.2.2.c] = _ := f1
    rw [f1]
    simp only [Option.bind_some]
    rw [show asS (ldc h5 (some ⟨h4.next, 4, none⟩)) = some ⟨none, 0, 0⟩ by rw [f4.ldc]; exact asS_slv _]
    simp only [Option.bind_some]
    obtain ⟨m1, m2, h6, a1, a2, _⟩ := xsized_f k hk f2.wf (s := ⟨none, 0, 0⟩) (l := []) (.inl ⟨rfl, .inl rfl⟩) (Nat.zero_le _) sz
    rw [a1]
    exact Did.no ((C4.then f2).then a2) 7
  rw [e1]
  dsimp only [voT]
  rw [show [Value.string (ba u.nm), Value.string (ba u.pa), Value.bool u.sn, Value.int .i64 u.sz, Value.slice m.a m.n m.c] = voL (u, m) from rfl]
  obtain ⟨h5, f1, f2, f3, f4⟩ := box_ok d2.wf 58 5 zVo (voL (u, m)) rfl rfl rfl
  rw [f1]
  simp only [Option.bind_some, Bool.not_true, cond_false]
  rw [show asS (ldc h5 (some ⟨h4.next, 4, none⟩)) = some m by rw [f4.ldc]; exact asS_slv _]
  simp only [Option.bind_some]
  obtain ⟨um, un⟩ := findV_some e1
  have ma := R.ma u um
  have ml := (mapLen ma).1
  obtain ⟨m1, m2, h6, a1, a2, a3, a4⟩ := xsized_f k hk f2.wf (e3.slr.stay d2.wf f2) (by omega) sz
  rw [a1]
  simp only [Option.bind_some]
  rw [show asB (ldc h6 (some ⟨h4.next, 2, none⟩)) = some u.sn by rw [(f4.stay f2.wf a2).ldc]; exact asBs _]
  simp only [Option.bind_some]
  have C6 := (C4.then f2).then a2
  cases hs : u.sn with
  | true =>
    rw [if_pos rfl]
    exact Did.no C6 10
  | false =>
    rw [if_neg (by decide)]
    simp only [cond_false]
    cases hz : okSize sz with
    | false =>
      rw [a4 hz, xright_f k (s := ⟨none, 0, 0⟩) (l := []) (.inl ⟨rfl, .inl rfl⟩) (by show 0 < k; omega) (by decide)]
      have : rightMap sz [] = false := by unfold rightMap; rw [hz, Bool.false_and]
      rw [this, if_neg (by decide)]
      exact Did.no C6 1
    | true =>
      rw [if_pos rfl]
      obtain ⟨M, F⟩ := a3 hz
      have sr := sizedP_right ma hz
      have sl := (mapLen sr).1
      rw [xright_f k M.slr (by omega) (by omega), sr]
      simp only [Option.bind_some, Bool.not_true, cond_false]
      obtain ⟨t, h7, us, l1, l2, l3, l4, l5⟩ := all_f k hk a2.wf (T.stay w C6) B
      rw [l1]
      simp only [Option.bind_some]
      have C7 := C6.then l2
      obtain ⟨r, fo, h8, o1, o2, o3, o4, o5, o6, o7⟩ := tat2_f k (by omega) l2.wf (T.stay w C7) B.n R.so nm
      rw [o1]
      simp only [Option.bind_some]
      have ft : fo = true := by rw [o6, hasV_iff]; exact ⟨u, um, un⟩
      obtain ⟨hr, en⟩ := o7 ft
      have ul : us.length = vs.length := by rw [← vols_len us, l5, vols_len]
      have hr' : r < us.length := by omega
      have C8 := C7.then o2
      have L8 := l3.stay l2.wf o2
      have eu : us[r].1 = u := by
        have h1 : (vols us)[r]'(by rw [vols_len]; exact hr') = (vols vs)[r]'(by rw [vols_len]; exact hr) := by simp only [l5]
        have h2 : us[r].1 = vs[r].1 := by simpa only [vols, List.getElem_map] using h1
        rw [h2]
        exact nm_inj R (mem_vols hr) um (by rw [en, un])
      obtain ⟨b, h9, p1, p2, p3, p4⟩ := set_cell o2.wf L8.ow hr' 3 (by decide) (.int .i64 sz) rfl ({ us[r].1 with sz := sz }, us[r].2) rfl
      rw [p1]
      simp only [asP_ptr, Option.bind_some, fadd]
      rw [p2]
      simp only [Option.bind_some]
      have hr2 : r < (us.set r ({ us[r].1 with sz := sz }, us[r].2)).length := by rw [List.length_set]; exact hr'
      have eg : (us.set r ({ us[r].1 with sz := sz }, us[r].2))[r] = ({ us[r].1 with sz := sz }, us[r].2) := by rw [List.getElem_set, if_pos rfl]
      obtain ⟨b', h10, q1, q2, q3, q4⟩ := set_cell p3.wf p4 hr2 4 (by decide) (slv m1) rfl ({ us[r].1 with sz := sz, mp := sizedP u.mp sz }, m1) (by rw [eg]; rfl)
      rw [p1] at q1
      cases q1
      rw [show [Value.slice m1.a m1.n m1.c] = [slv m1] from rfl, q2]
      have cc : Ch (SlB t) h8 h10 := p3.trans q3 fun _ _ f => f
      have tl : ∀ x, SlB t x → h6.next ≤ x := fun x hx => l4.1 x hx
      have m1l : ∀ x, SlB m1 x → x < h6.next := fun x hx => M.lt a2.wf hx
      rw [List.set_set] at q4
      have O10 := L8.swap o2.wf hr' cc _ q4 (by
        show Ow 3 1 h8 m1 (ivs (sizedP u.mp sz))
        exact (M.stay a2.wf l2).stay l2.wf o2) (fun x hx f => by have := tl x hx; have := m1l x f; omega) (fun j hj _ x hx f => by have := l4.2 _ (List.getElem_mem hj) x hx; have := m1l x f; omega)
      refine ⟨t, h10, _, rfl, Ch0.own C8 cc (fun x hx => by have := tl x hx; have := C6.le; omega), O10, ⟨fun x hx => by have := tl x hx; have := C6.le; omega, fun a ha x hx => ?_⟩, ?_⟩
      · rcases List.mem_or_eq_of_mem_set ha with z | z
        · have := l4.2 a z x hx; have := C6.le; omega
        · rw [z] at hx; have := F x hx; have := (C4.then f2).le; omega
      · show vols (us.set r ({ us[r].1 with sz := sz, mp := sizedP u.mp sz }, m1)) = (vols vs).map (resz nm sz)
        have hrv : r < (vols vs).length := by rw [vols_len]; exact hr
        have ev : (vols vs)[r] = us[r].1 := by
          rw [eu]
          have : (vols vs)[r] = vs[r].1 := by simp only [vols, List.getElem_map]
          rw [this]
          exact nm_inj R (mem_vols hr) um (by rw [en, un])
        have := set_resz R.so (nm := nm) (sz := sz) hrv (by rw [ev, eu, un])
        rw [← this, ev, eu, ← l5]
        unfold vols
        rw [List.map_set]
end Go.Proofs.Ytfenkpghcbohdaa.Fw
