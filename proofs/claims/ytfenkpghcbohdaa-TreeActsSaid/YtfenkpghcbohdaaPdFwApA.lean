/- Trees acted upon: plain lists. No program, no condition. -/
import Derived.Test.YtfenkpghcbohdaaPdFwTreeC
import Derived.Test.YtfenkpghcbohdaaPdFTree
namespace Go.Proofs.Ytfenkpghcbohdaa.Fw
open Go Den Fwd
set_option linter.unusedVariables false
set_option linter.unusedSimpArgs false
def findV (t : List Vol) (nm : List UInt8) : Option Vol := t.find? fun u => decide (u.nm = nm)
def hasV (t : List Vol) (nm : List UInt8) : Bool := t.any fun u => decide (u.nm = nm)
def putP (t : List Vol) (v : Vol) : List Vol := t.takeWhile (fun u => less u.nm v.nm) ++ v :: t.dropWhile (fun u => less u.nm v.nm)
abbrev Res := Int × List Vol
def withP (t : List Vol) (v : Vol) : Res := if hasV t v.nm then (11, []) else if 12 ≤ t.length then (6, []) else (0, putP t v)
def zerosI (sz : Int) : List Int := List.replicate (sz / 8).toNat 0
def createP (t : List Vol) (nm : List UInt8) (sz : Int) : Res := if isName nm && okSize sz then withP t ⟨nm, [], false, sz, zerosI sz⟩ else (1, [])
def deriveP (t : List Vol) (of nm : List UInt8) (sn : Bool) : Res := if isName nm then (match findV t of with
  | none => (7, [])
  | some u => if u.sn = sn then (10, []) else withP t ⟨nm, of, sn, u.sz, u.mp⟩) else (1, [])
def unpa (nm : List UInt8) (x : Vol) : Vol := if x.pa = nm then { x with pa := [] } else x
def deleteP (t : List Vol) (nm : List UInt8) : Res := match findV t nm with
  | none => (7, [])
  | some u => if u.sn && t.any (fun x => decide (x.pa = nm)) then (12, []) else (0, (t.filter fun x => decide (x.nm ≠ nm)).map (unpa nm))
def sizedP (m : List Int) (sz : Int) : List Int := (m ++ zerosI sz).take (sz / 8).toNat
def resz (nm : List UInt8) (sz : Int) (x : Vol) : Vol := if x.nm = nm then { x with sz := sz, mp := sizedP x.mp sz } else x
def resizeP (t : List Vol) (nm : List UInt8) (sz : Int) : Res := match findV t nm with
  | none => (7, [])
  | some u => if u.sn then (10, []) else if okSize sz then (0, t.map (resz nm sz)) else (1, [])
theorem tw_take {α : Type} {p : α → Bool} : ∀ {t : List α} {j : Nat}, j ≤ t.length → (∀ a (ha : a < t.length), a < j → p t[a] = true) → (∀ hj : j < t.length, p t[j] = false) → t.takeWhile p = t.take j ∧ t.dropWhile p = t.drop j
  | [], j, hj, _, _ => by
    have : j = 0 := by simpa using hj
    subst this
    exact ⟨rfl, rfl⟩
  | x :: t, 0, _, _, h2 => by
    have h := h2 (by simp)
    have h : p x = false := h
    rw [List.takeWhile_cons, List.dropWhile_cons, h]
    exact ⟨rfl, rfl⟩
  | x :: t, j + 1, hj, h1, h2 => by
    have h : p x = true := h1 0 (by simp) (by omega)
    rw [List.length_cons] at hj
    obtain ⟨e1, e2⟩ := tw_take (p := p) (t := t) (j := j) (by omega) (fun a ha haj => h1 (a + 1) (by rw [List.length_cons]; omega) (by omega)) (fun hj' => h2 (by rw [List.length_cons]; omega))
    rw [List.takeWhile_cons, List.dropWhile_cons, h]
    exact ⟨by rw [if_pos rfl, e1]; rfl, by rw [if_pos rfl, e2]; rfl⟩
theorem putP_of {t : List Vol} {v : Vol} {j : Nat} (hj : j ≤ t.length) (h1 : ∀ a (ha : a < t.length), a < j → less t[a].nm v.nm = true) (h2 : ∀ hj : j < t.length, less t[j].nm v.nm = false) : t.take j ++ v :: t.drop j = putP t v := by
  obtain ⟨e1, e2⟩ := tw_take (p := fun u : Vol => less u.nm v.nm) hj h1 h2
  unfold putP
  rw [e1, e2]
theorem putP_pos (t : List Vol) (v : Vol) : ∃ j, j ≤ t.length ∧ (∀ a (ha : a < t.length), a < j → less t[a].nm v.nm = true) ∧ (∀ hj : j < t.length, less t[j].nm v.nm = false) := by
  induction t with
  | nil => exact ⟨0, Nat.le_refl _, (fun a ha f => by omega), (fun hj => by cases hj)⟩
  | cons x t ih =>
    cases h : less x.nm v.nm with
    | false => exact ⟨0, Nat.zero_le _, (fun a ha f => by omega), (fun _ => h)⟩
    | true =>
      obtain ⟨j, h1, h2, h3⟩ := ih
      refine ⟨j + 1, by rw [List.length_cons]; omega, fun a ha f => ?_, fun hj => h3 (by rw [List.length_cons] at hj; omega)⟩
      cases a with
      | zero => exact h
      | succ a => exact h2 a (by rw [List.length_cons] at ha; omega) (by omega)
theorem hasV_iff {t : List Vol} {nm : List UInt8} : hasV t nm = true ↔ ∃ u ∈ t, u.nm = nm := by
  unfold hasV
  rw [List.any_eq_true]
  constructor
  · rintro ⟨u, h1, h2⟩
    exact ⟨u, h1, of_decide_eq_true h2⟩
  · rintro ⟨u, h1, h2⟩
    exact ⟨u, h1, decide_eq_true h2⟩
theorem hasV_no {t : List Vol} {nm : List UInt8} : hasV t nm = false ↔ ∀ u ∈ t, u.nm ≠ nm := by
  rw [Bool.eq_false_iff, ne_eq, hasV_iff]
  constructor
  · intro h u hu e; exact h ⟨u, hu, e⟩
  · rintro h ⟨u, hu, e⟩; exact h u hu e
theorem putP_right {t : List Vol} (R : RightP t) (v : Vol) (hv : isName v.nm = true) (hm : rightMap v.sz v.mp = true) (hno : ∀ u ∈ t, u.nm ≠ v.nm) (hp : parP t v) (hl : t.length < 12) : RightP (putP t v) := by
  obtain ⟨j, h1, h2, h3⟩ := putP_pos t v
  rw [← putP_of h1 h2 h3]
  exact put_right R v hv hm hno hp hl j h1 h2 h3
theorem zerosI_len {sz : Int} (h : okSize sz = true) : ((zerosI sz).length : Int) = sz / 8 := by
  obtain ⟨z1, z2, z3⟩ := okSize_iff.1 h
  unfold zerosI
  rw [List.length_replicate]
  omega
theorem right_zeros {sz : Int} (h : okSize sz = true) : rightMap sz (zerosI sz) = true := by
  unfold rightMap
  rw [h, Bool.true_and, Bool.and_eq_true, decide_eq_true_eq]
  refine ⟨zerosI_len h, ?_⟩
  rw [List.all_eq_true]
  intro x hx
  rw [(List.mem_replicate.1 hx).2]; rfl
theorem findV_some {t : List Vol} {nm : List UInt8} {u : Vol} (h : findV t nm = some u) : u ∈ t ∧ u.nm = nm := ⟨List.mem_of_find?_eq_some h, by have := List.find?_some (p := fun u : Vol => decide (u.nm = nm)) h; exact of_decide_eq_true this⟩
theorem findV_none {t : List Vol} {nm : List UInt8} : findV t nm = none ↔ ∀ u ∈ t, u.nm ≠ nm := by
  unfold findV
  rw [List.find?_eq_none]
  constructor
  · intro h u hu e; exact h u hu (decide_eq_true e)
  · intro h u hu e; exact h u hu (of_decide_eq_true e)
theorem nm_inj {t : List Vol} (R : RightP t) {u v : Vol} (hu : u ∈ t) (hv : v ∈ t) (e : u.nm = v.nm) : u = v := by
  obtain ⟨i, hi, rfl⟩ := List.mem_iff_getElem.1 hu
  obtain ⟨j, hj, rfl⟩ := List.mem_iff_getElem.1 hv
  have := sorted_inj R.so hi hj e
  subst this; rfl
theorem findV_is {t : List Vol} (R : RightP t) {u : Vol} (hu : u ∈ t) : findV t u.nm = some u := by
  cases e : findV t u.nm with
  | none => exact absurd rfl (findV_none.1 e u hu)
  | some v =>
    obtain ⟨h1, h2⟩ := findV_some e
    rw [nm_inj R h1 hu h2]
/-! ### what is done leaves a list right -/
theorem withP_right {t : List Vol} (R : RightP t) {v : Vol} (hv : isName v.nm = true) (hm : rightMap v.sz v.mp = true) (hp : parP t v) : (withP t v).1 = 0 → RightP (withP t v).2 ∧ (withP t v).2 ≠ [] := by
  unfold withP
  cases h : hasV t v.nm with
  | true => intro f; simp at f
  | false =>
    by_cases c : 12 ≤ t.length
    · rw [if_pos c]; intro f; simp at f
    · rw [if_neg c]
      intro _
      exact ⟨putP_right R v hv hm (hasV_no.1 h) hp (by omega), by show putP t v ≠ []; unfold putP; simp⟩
theorem createP_right {t : List Vol} (R : RightP t) {nm : List UInt8} {sz : Int} (h : (createP t nm sz).1 = 0) : RightP (createP t nm sz).2 ∧ (createP t nm sz).2 ≠ [] := by
  unfold createP at h ⊢
  by_cases c : (isName nm && okSize sz) = true
  · rw [if_pos c] at h ⊢
    rw [Bool.and_eq_true] at c
    exact withP_right R c.1 (right_zeros c.2) (.inl rfl) h
  · rw [if_neg c] at h
    cases h
theorem deriveP_right {t : List Vol} (R : RightP t) {of nm : List UInt8} {sn : Bool} (h : (deriveP t of nm sn).1 = 0) : RightP (deriveP t of nm sn).2 ∧ (deriveP t of nm sn).2 ≠ [] := by
  unfold deriveP at h ⊢
  by_cases c : isName nm = true
  rotate_left
  · rw [if_neg c] at h; cases h
  rw [if_pos c] at h ⊢
  cases e : findV t of with
  | none => rw [e] at h; cases h
  | some u =>
    rw [e] at h
    simp only at h ⊢
    obtain ⟨h1, h2⟩ := findV_some e
    by_cases d : u.sn = sn
    · rw [if_pos d] at h; cases h
    · rw [if_neg d] at h ⊢
      have hno : ∀ x ∈ t, x.nm ≠ nm := by
        unfold withP at h
        cases q : hasV t nm with
        | true => simp only [q] at h; cases h
        | false => exact hasV_no.1 q
      refine withP_right R c (R.ma u h1) (.inr ⟨fun f => hno u h1 ?_, u, h1, h2, d⟩) h
      have f : of = nm := f
      rw [h2, f]
theorem unpa_nm (nm : List UInt8) (x : Vol) : (unpa nm x).nm = x.nm ∧ (unpa nm x).sn = x.sn ∧ (unpa nm x).sz = x.sz ∧ (unpa nm x).mp = x.mp := by
  unfold unpa
  by_cases c : x.pa = nm
  · rw [if_pos c]; exact ⟨rfl, rfl, rfl, rfl⟩
  · rw [if_neg c]; exact ⟨rfl, rfl, rfl, rfl⟩
theorem deleteP_right {t : List Vol} (R : RightP t) {nm : List UInt8} (h : (deleteP t nm).1 = 0) : RightP (deleteP t nm).2 := by
  unfold deleteP at h ⊢
  cases e : findV t nm with
  | none => rw [e] at h; cases h
  | some u =>
    rw [e] at h
    simp only at h ⊢
    by_cases c : (u.sn && t.any (fun x => decide (x.pa = nm))) = true
    · rw [if_pos c] at h; cases h
    · rw [if_neg c]
      have mem : ∀ v, v ∈ (t.filter fun x => decide (x.nm ≠ nm)).map (unpa nm) → ∃ x ∈ t, x.nm ≠ nm ∧ v = unpa nm x := fun v hv => by
        obtain ⟨x, hx, rfl⟩ := List.mem_map.1 hv
        rw [List.mem_filter] at hx
        exact ⟨x, hx.1, of_decide_eq_true hx.2, rfl⟩
      refine ⟨?_, fun v hv => ?_, fun v hv => ?_, fun v hv => ?_, ?_⟩
      · rw [List.pairwise_map]
        refine List.Pairwise.imp ?_ (R.so.sublist List.filter_sublist)
        intro a b hab
        rw [(unpa_nm nm a).1, (unpa_nm nm b).1]; exact hab
      · obtain ⟨x, hx, _, rfl⟩ := mem v hv
        rw [(unpa_nm nm x).1]; exact R.na x hx
      · obtain ⟨x, hx, _, rfl⟩ := mem v hv
        rw [(unpa_nm nm x).2.2.1, (unpa_nm nm x).2.2.2]; exact R.ma x hx
      · obtain ⟨x, hx, hne, rfl⟩ := mem v hv
        by_cases d : x.pa = nm
        · refine .inl ?_
          unfold unpa; rw [if_pos d]
        · have ux : unpa nm x = x := by unfold unpa; rw [if_neg d]
          rw [ux]
          refine (R.pa x hx).imp id fun ⟨g1, y, hy, g2, g3⟩ => ⟨g1, unpa nm y, ?_, by rw [(unpa_nm nm y).1]; exact g2, by rw [(unpa_nm nm y).2.1]; exact g3⟩
          exact List.mem_map.2 ⟨y, List.mem_filter.2 ⟨hy, decide_eq_true (by rw [g2]; exact d)⟩, rfl⟩
      · rw [List.length_map]
        have := List.length_filter_le (fun x : Vol => decide (x.nm ≠ nm)) t
        have := R.le
        omega
theorem resz_nm (nm : List UInt8) (sz : Int) (x : Vol) : (resz nm sz x).nm = x.nm ∧ (resz nm sz x).sn = x.sn ∧ (resz nm sz x).pa = x.pa := by
  unfold resz
  by_cases c : x.nm = nm
  · rw [if_pos c]; exact ⟨rfl, rfl, rfl⟩
  · rw [if_neg c]; exact ⟨rfl, rfl, rfl⟩
theorem sizedP_right {m : List Int} {n sz : Int} (h : rightMap n m = true) (hz : okSize sz = true) : rightMap sz (sizedP m sz) = true := by
  obtain ⟨z1, z2, z3⟩ := okSize_iff.1 hz
  have zl := zerosI_len hz
  unfold rightMap at h ⊢
  rw [Bool.and_eq_true, Bool.and_eq_true] at h
  rw [hz, Bool.true_and, Bool.and_eq_true, decide_eq_true_eq]
  unfold sizedP
  refine ⟨by rw [List.length_take, List.length_append]; omega, ?_⟩
  rw [List.all_eq_true]
  intro x hx
  rcases List.mem_append.1 (List.mem_of_mem_take hx) with e | e
  · exact (List.all_eq_true.1 h.2.2) x e
  · rw [(List.mem_replicate.1 e).2]; rfl
theorem resizeP_right {t : List Vol} (R : RightP t) {nm : List UInt8} {sz : Int} (h : (resizeP t nm sz).1 = 0) : RightP (resizeP t nm sz).2 ∧ (resizeP t nm sz).2 ≠ [] := by
  unfold resizeP at h ⊢
  cases e : findV t nm with
  | none => rw [e] at h; cases h
  | some u =>
    rw [e] at h
    simp only at h ⊢
    by_cases c : u.sn = true
    · rw [if_pos c] at h; cases h
    · rw [if_neg c] at h ⊢
      by_cases d : okSize sz = true
      rotate_left
      · rw [if_neg d] at h; cases h
      rw [if_pos d]
      refine ⟨⟨?_, fun v hv => ?_, fun v hv => ?_, fun v hv => ?_, ?_⟩, ?_⟩
      · rw [List.pairwise_map]
        refine List.Pairwise.imp ?_ R.so
        intro a b hab
        rw [(resz_nm nm sz a).1, (resz_nm nm sz b).1]; exact hab
      · obtain ⟨x, hx, rfl⟩ := List.mem_map.1 hv
        rw [(resz_nm nm sz x).1]; exact R.na x hx
      · obtain ⟨x, hx, rfl⟩ := List.mem_map.1 hv
        unfold resz
        by_cases q : x.nm = nm
        · rw [if_pos q]; exact sizedP_right (R.ma x hx) d
        · rw [if_neg q]; exact R.ma x hx
      · obtain ⟨x, hx, rfl⟩ := List.mem_map.1 hv
        rw [(resz_nm nm sz x).1, (resz_nm nm sz x).2.1, (resz_nm nm sz x).2.2]
        exact (R.pa x hx).imp id fun ⟨g1, y, hy, g2, g3⟩ => ⟨g1, resz nm sz y, List.mem_map.2 ⟨y, hy, rfl⟩, by rw [(resz_nm nm sz y).1]; exact g2, by rw [(resz_nm nm sz y).2.1]; exact g3⟩
      · rw [List.length_map]; exact R.le
      · intro f
        have := (findV_some e).1
        rw [List.map_eq_nil_iff] at f
        rw [f] at this; cases this
end Go.Proofs.Ytfenkpghcbohdaa.Fw
/- Trees acted upon, by the program: copied, sized, found, one put in. No condition. -/
namespace Go.Proofs.Ytfenkpghcbohdaa.Fw
open Go Den Fwd
set_option linter.unusedVariables false
set_option linter.unusedSimpArgs false
/-! ### a map of another size -/
theorem ivs_take (l : List Int) (n : Nat) : (ivs l).take n = ivs (l.take n) := by unfold ivs; rw [List.map_take]
theorem ivs_drop (l : List Int) (n : Nat) : (ivs l).drop n = ivs (l.drop n) := by unfold ivs; rw [List.map_drop]
theorem ivs_app (l m : List Int) : ivs l ++ ivs m = ivs (l ++ m) := by unfold ivs; rw [List.map_append]
theorem ivs_rep (n : Nat) : List.replicate n (Value.int .i64 0) = ivs (List.replicate n 0) := by unfold ivs; rw [List.map_replicate]
theorem ivs_one (l : List Int) : (ivs l).all Den.one = true := by rw [List.all_eq_true]; intro v hv; obtain ⟨n, _, rfl⟩ := List.mem_map.1 hv; rfl
theorem xsized_l0 (k : Nat) {h0 : H} (w0 : WF h0) (x5 : Sl) {s : Sl} {l : List Int} (r : SlR 1 h0 s (ivs l)) (hl : l.length ≤ 10000) : ∀ n i h t us, l.length - i < n → i ≤ l.length → Ch0 h0 h → Ow 3 1 h t (ivs us) → (∀ x, SlB t x → h0.next ≤ x) → us.length ≤ i →
    ∃ t' h', extent_Sized.l0 k n x5 s (Int.ofNat l.length) t (Int.ofNat i) h = some (t', h') ∧ Ch0 h0 h'
  | 0, i, h, t, us, hf, _, _, _, _, _ => by omega
  | n + 1, i, h, t, us, hf, hi, C, O, F, ul => by
    rw [extent_Sized.l0_succ]
    by_cases c : i < l.length
    · rw [decLt c, cond_true]
      obtain ⟨_, p, e1, e2⟩ := SlR.int (r.stay w0 C) c
      rw [e1]
      simp only [asP_ptr, Option.bind_some, e2, asI_int]
      cases z : l[i] != (0 : Int) with
      | true =>
        simp only [cond_true]
        obtain ⟨t', h', a1, a2, a3, a4⟩ := push_i C.wf O l[i] (by omega)
        rw [a1]
        simp only [Option.bind_some]
        rw [wrap_succ (by omega)]
        exact xsized_l0 k w0 x5 r hl n (i + 1) h' t' _ (by omega) (by omega) (Ch0.own C a2 F) a3 (fun x hx => (a4 x hx).elim (F x) fun f => Nat.le_trans C.le f) (by rw [List.length_append, List.length_singleton]; omega)
      | false =>
        simp only [cond_false, Option.bind_some]
        rw [wrap_succ (by omega)]
        exact xsized_l0 k w0 x5 r hl n (i + 1) h t us (by omega) (by omega) C O F (by omega)
    · rw [decNlt c, cond_false]
      exact ⟨t, h, rfl, C⟩
theorem xsized_f (k : Nat) (hk : 20000 < k) {h : H} (w : WF h) {s : Sl} {l : List Int} (r : SlR 1 h s (ivs l)) (hl : l.length ≤ 10000) (sz : Int) :
    ∃ t t2 h', extent_Sized.f k s sz h = some ((t, t2), h') ∧ Ch0 h h' ∧ (okSize sz = true → Ow 3 1 h' t (ivs (sizedP l sz)) ∧ ∀ x, SlB t x → h.next ≤ x) ∧ (okSize sz = false → t = ⟨none, 0, 0⟩) := by
  unfold extent_Sized.f extent_sized.f
  rw [size_cond]
  simp only [Option.bind_some]
  cases hz : okSize sz with
  | false => exact ⟨_, _, h, rfl, Ch.refl w, (fun f => by cases f), (fun _ => rfl)⟩
  | true =>
    simp only [Bool.not_true, cond_false]
    obtain ⟨z1, z2, z3⟩ := okSize_iff.1 hz
    obtain ⟨m, hm⟩ : ∃ m : Nat, sz / 8 = Int.ofNat m := ⟨_, nn _ (by omega)⟩
    have hm' := hm
    simp only [Int.ofNat_eq_natCast] at hm'
    have hmn : (sz / 8).toNat = m := by omega
    rw [Int.tdiv_eq_ediv_of_nonneg z1, wrap_in (n := sz / 8) (by omega) (by omega), hm]
    rw [mkz_ok (.int .i64 0) rfl (by omega) (by omega)]
    obtain ⟨n1, n2, n3⟩ := newZ_ok w 3 1 (.int .i64 0) m
    rw [Nat.mul_one, ivs_rep] at n3
    rw [show asS2 (some (Value.slice (some ⟨h.next, 0, none⟩) m m, newZ h 3 1 [Value.int .i64 0] m)) = some ((⟨some ⟨h.next, 0, none⟩, m, m⟩ : Sl), newZ h 3 1 [Value.int .i64 0] m) from rfl]
    simp only [Option.bind_some]
    generalize newZ h 3 1 [Value.int .i64 0] m = g at n1 n2 n3 ⊢
    have r1 := r.stay w n1
    have sn := SlR.ivn r
    obtain ⟨h2, w1, w2, w3, w4⟩ := cpy_ok (l := []) n1.wf (es := 1) (d := ⟨some ⟨h.next, 0, none⟩, m, m⟩) rfl n3 (by rw [ivs_len, List.length_replicate]; show 0 + m * 1 ≤ m; omega) r1 (ivs_one l)
    rw [w1]
    rw [show asI2 .i64 (some (Value.int .i64 (Int.ofNat (min s.n m)), h2)) = some (Int.ofNat (min s.n m), h2) from rfl]
    simp only [Option.bind_some]
    have C2 : Ch0 h h2 := Ch0.at n1 w2 (Nat.le_refl _)
    have em : (cond (decide (Int.ofNat s.n < Int.ofNat m)) (Int.ofNat s.n) (Int.ofNat m)) = Int.ofNat (min m l.length) := by
      rw [sn]
      by_cases c : l.length < m
      · rw [decLt c, cond_true, Nat.min_eq_right (by omega)]
      · rw [decNlt c, cond_false, Nat.min_eq_left (by omega)]
    rw [em]
    obtain ⟨s4, a1, a2, a3, a4⟩ := subs_ok (r.stay w C2) (lo := min m l.length) (hi := l.length) (Nat.min_le_right _ _) (by omega) (xlo := some (Int.ofNat (min m l.length))) (xhi := none) rfl (by rw [sn]; rfl)
    rw [a1]
    rw [show (some (Value.slice s4.a s4.n s4.c)) = some (slv s4) from rfl, asS_slv]
    simp only [Option.bind_some]
    rw [Nat.mul_one, Nat.mul_one, ivs_drop, ivs_take] at a3
    have l4 : ((l.drop (min m l.length)).take (l.length - min m l.length)).length = s4.n := by rw [a2, List.length_take, List.length_drop]; omega
    obtain ⟨t', h3, b1, b2⟩ := xsized_l0 k w2.wf ⟨some ⟨h.next, 0, none⟩, m, m⟩ a3 (by rw [l4, a2]; omega) k 0 h2 ⟨none, 0, 0⟩ [] (by rw [l4, a2]; omega) (Nat.zero_le _) (Ch.refl w2.wf) Ow.nil (fun x f => absurd f noSlB) (Nat.zero_le _)
    rw [l4] at b1
    rw [show (0 : Int) = Int.ofNat 0 from rfl, b1]
    refine ⟨_, _, h3, rfl, C2.then b2, fun _ => ⟨?_, fun x ⟨o, f⟩ => by have : h.next = x := congrArg Addr.block (Option.some.inj f); omega⟩, fun f => by cases f⟩
    have e : over (ivs (List.replicate m 0)) 0 ((ivs l).take (min s.n m * 1)) = ivs (sizedP l sz) := by
      unfold over sizedP zerosI
      rw [hmn, sn, Nat.mul_one, List.take_zero, List.nil_append, ivs_take, ivs_len, List.length_take, Nat.zero_add, ivs_drop, List.drop_replicate, ivs_app]
      congr 1
      by_cases c : l.length ≤ m
      · rw [Nat.min_eq_left c, List.take_of_length_le (Nat.le_refl _), Nat.min_eq_left (Nat.le_refl _), List.take_append, List.take_of_length_le c, List.take_replicate]
        congr 2
        omega
      · rw [Nat.min_eq_right (by omega), Nat.min_eq_left (by omega), Nat.sub_self, List.replicate_zero, List.append_nil, List.take_append_of_le_length (by omega)]
    rw [e] at w4
    have ln : (sizedP l sz).length = m := by
      unfold sizedP zerosI
      rw [hmn, List.length_take, List.length_append, List.length_replicate]; omega
    exact (Ow.of_is w4 (n := m) (by rw [ivs_len, ln, Nat.mul_one]) (by unfold unk; omega)).stay w2.wf b2
/-! ### cloned, copied -/
theorem isnil_f (a : Option Addr) (n c : Nat) : asB (binO1 Try.prog .eql 29 (Value.slice a n c) (Value.slice none 0 0)) = some a.isNone := by
  cases a <;> simp [binO1, binB, binA, eqA, Try.underlying29, asB]
theorem clone_f (k : Nat) {h : H} (w : WF h) {s : Sl} {l : List Int} (r : SlR 1 h s (ivs l)) (hl : l.length ≤ 10000) :
    ∃ t h', slices_Clone_int_int.f k s h = some (t, h') ∧ Ch0 h h' ∧ Ow 3 1 h' t (ivs l) ∧ ∀ x, SlB t x → h.next ≤ x := by
  unfold slices_Clone_int_int.f
  rw [isnil_f]
  simp only [Option.bind_some]
  cases ha : s.a with
  | none =>
    have e : l = [] := by
      rcases r with ⟨e, _⟩ | ⟨b, o, e, _⟩
      · unfold ivs at e
        exact List.map_eq_nil_iff.1 e
      · rw [ha] at e; cases e
    subst e
    exact ⟨_, h, rfl, Ch.refl w, Ow.nil, fun x f => absurd f noSlB⟩
  | some a =>
    simp only [Option.isNone_some, cond_false]
    obtain ⟨m, h2, d1, d2, d3, d4⟩ := dup_ok w r hl
    rw [ha] at d1
    rw [d1]
    exact ⟨m, h2, rfl, d2, d3, d4⟩
theorem tcopied_f (k : Nat) {h : H} (w : WF h) (q : Vs) (r : SlR 1 h q.2 (ivs q.1.mp)) (hl : q.1.mp.length ≤ 10000) :
    ∃ m h', tree_copied.f k (voT q) h = some (voT (q.1, m), h') ∧ Ch0 h h' ∧ Ow 3 1 h' m (ivs q.1.mp) ∧ ∀ x, SlB m x → h.next ≤ x := by
  unfold tree_copied.f voT
  dsimp only
  rw [show [Value.string (ba q.1.nm), Value.string (ba q.1.pa), Value.bool q.1.sn, Value.int .i64 q.1.sz, Value.slice q.2.a q.2.n q.2.c] = voL q from rfl, show [Value.string (⟨#[]⟩ : ByteArray), Value.string (⟨#[]⟩ : ByteArray), Value.bool false, Value.int .i64 (0 : Int), Value.slice none 0 0] = zVo from rfl]
  obtain ⟨y1, y2, y3⟩ := newR_ok w 58 5 (voL q)
  generalize newR h 58 5 (voL q) = g at y1 y2 y3 ⊢
  obtain ⟨z1, z2, z3⟩ := newR_ok y1.wf 58 5 zVo
  generalize newR g 58 5 zVo = f at z1 z2 z3 ⊢
  have I := y3.stay y1.wf z1
  have C := y1.then z1
  rw [show asS (ldc f (some ⟨h.next, 4, none⟩)) = some q.2 by rw [I.ldc]; exact asS_slv _]
  simp only [Option.bind_some]
  obtain ⟨m, h2, a1, a2, a3, a4⟩ := clone_f k C.wf (r.stay w C) hl
  rw [a1]
  simp only [Option.bind_some]
  obtain ⟨h3, b1, b2, b3, b4⟩ := (I.stay C.wf a2).set a2.wf 4 (slv m) (by show 4 < 5; decide) rfl
  rw [show [Value.slice m.a m.n m.c] = [slv m] from rfl, b1]
  simp only [Option.bind_some]
  have b4 : Is h3 h.next 58 5 (voL (q.1, m)) := b4
  rw [ldaIs (n := 5) b4 rfl, bindVo]
  dsimp only [voT]
  rw [show [Value.string (ba q.1.nm), Value.string (ba q.1.pa), Value.bool q.1.sn, Value.int .i64 q.1.sz, Value.slice m.a m.n m.c] = voL (q.1, m) from rfl]
  have fl := C.le
  have Z3 := (z3.stay z1.wf a2).keep (b2.keep g.next (by have := a2.le; omega) (by omega))
  obtain ⟨h4, c1, c2, c3, c4⟩ := Is.whole b2.wf Z3 rfl (voL (q.1, m)) rfl rfl
  rw [c1]
  simp only [Option.bind_some]
  rw [ldaIs (n := 5) c4 rfl, bindVo]
  have C3 := Ch0.at (C.then a2) b2 (Nat.le_refl _)
  refine ⟨m, h4, rfl, Ch0.at C3 c2 (by omega), ?_, fun x hx => by have := a4 x hx; omega⟩
  exact a3.keep fun b hb => by
    have := a4 b hb
    have := a3.lt a2.wf hb
    rw [c2.keep b (by omega) (by omega)]
    exact b2.keep b (by omega) (by omega)
theorem all_l0 (k : Nat) {h0 : H} (w0 : WF h0) {s : Sl} {vs : List Vs} (T : TreeR h0 s vs) (B : TreeB vs) (x1 : Sl) : ∀ n i h t us, vs.length - i < n → i ≤ vs.length → Ch0 h0 h → TreeO h t us → Fresh h0.next t us → vols us = (vols vs).take i →
    ∃ t' h' us', tree_all.l0 k n s (Int.ofNat vs.length) t (Int.ofNat i) h = some (t', h') ∧ Ch0 h0 h' ∧ TreeO h' t' us' ∧ Fresh h0.next t' us' ∧ vols us' = vols vs
  | 0, i, h, t, us, hf, _, _, _, _, _ => by omega
  | n + 1, i, h, t, us, hf, hi, C, O, F, e => by
    rw [tree_all.l0_succ]
    have hn := B.n
    have ul : us.length = i := by
      have := congrArg List.length e
      rw [vols_len, List.length_take, vols_len] at this
      omega
    by_cases c : i < vs.length
    · rw [decLt c, cond_true]
      obtain ⟨b, o, e1, e2, e3⟩ := (T.stay w0 C).at c
      rw [e1]
      simp only [asP_ptr, Option.bind_some]
      rw [e2, bindVo]
      dsimp only [voT]
      have hB := B.nm _ (List.getElem_mem c)
      have hM := T.mp _ (List.getElem_mem c)
      generalize hq : vs[i] = q at hB hM
      rw [show [Value.string (ba q.1.nm), Value.string (ba q.1.pa), Value.bool q.1.sn, Value.int .i64 q.1.sz, Value.slice q.2.a q.2.n q.2.c] = voL q from rfl, show [Value.string (⟨#[]⟩ : ByteArray), Value.string (⟨#[]⟩ : ByteArray), Value.bool false, Value.int .i64 (0 : Int), Value.slice none 0 0] = zVo from rfl]
      obtain ⟨h1, b1, b2, b3, b4⟩ := box_ok C.wf 58 5 zVo (voL q) rfl rfl rfl
      rw [b1]
      simp only [Option.bind_some]
      rw [ldaIs (n := 5) b4 rfl, bindVo]
      have C1 := C.then b2
      obtain ⟨m, h2, d1, d2, d3, d4⟩ := tcopied_f k b2.wf q (hM.stay w0 C1) (by omega)
      have d1 : tree_copied.f k ((voT q).1, (voT q).2.1, (voT q).2.2.1, (voT q).2.2.2.1, (voT q).2.2.2.2) h1 = _ := d1
      dsimp only [voT] at d1 ⊢
      rw [d1]
      simp only [Option.bind_some]
      rw [show [Value.string (ba q.1.nm), Value.string (ba q.1.pa), Value.bool q.1.sn, Value.int .i64 q.1.sz, Value.slice m.a m.n m.c] = voL (q.1, m) from rfl]
      have C2 := C1.then d2
      have O2 := O.stay C.wf (b2.then d2)
      have lt1 : h.next ≤ h1.next := b2.le
      obtain ⟨t1, h4, g1, g2, g3, g4⟩ := push_vo C2.wf O2.ow (q.1, m) (by omega)
      rw [g1]
      simp only [Option.bind_some]
      rw [wrap_succ (by omega)]
      have mf : ∀ x, SlB m x → h.next ≤ x := fun x hx => by have := d4 x hx; omega
      have O4 := TreeO.push C2.wf O2 g2 (q.1, m) d3 (fun x hx f => by have := mf x f; have := O.ow.lt C.wf hx; omega) (fun a ha x hx f => by have := mf x f; have := (O.mp a ha).lt C.wf hx; omega) g3 g4
      have F4 : Fresh h0.next t1 (us ++ [(q.1, m)]) := by
        refine ⟨fun x hx => (g4 x hx).elim (F.1 x) fun f => Nat.le_trans C2.le f, fun a ha x hx => ?_⟩
        rcases List.mem_append.1 ha with z | z
        · exact F.2 a z x hx
        · rw [List.mem_singleton.1 z] at hx; exact Nat.le_trans C.le (mf x hx)
      have hv : (vols vs)[i]'(by rw [vols_len]; exact c) = q.1 := by simp only [vols, List.getElem_map, hq]
      exact all_l0 k w0 T B x1 n (i + 1) h4 t1 (us ++ [(q.1, m)]) (by omega) (by omega) (Ch0.own C2 g2 F.1) O4 F4 (by
        rw [List.take_succ_eq_append_getElem (by rw [vols_len]; exact c), hv, ← e]
        unfold vols
        rw [List.map_append]; rfl)
    · rw [decNlt c, cond_false]
      exact ⟨t, h, us, rfl, C, O, F, by rw [e, List.take_of_length_le (by rw [vols_len]; omega)]⟩
theorem all_f (k : Nat) (hk : 20000 < k) {h : H} (w : WF h) {s : Sl} {vs : List Vs} (T : TreeR h s vs) (B : TreeB vs) :
    ∃ t h' us, tree_all.f k s h = some (t, h') ∧ Ch0 h h' ∧ TreeO h' t us ∧ Fresh h.next t us ∧ vols us = vols vs := by
  unfold tree_all.f
  have hn := B.n
  obtain ⟨t, h', us, a1, a2⟩ := all_l0 k w T B s k 0 h ⟨none, 0, 0⟩ [] (by omega) (Nat.zero_le _) (Ch.refl w) TreeO.nil Fresh.nil rfl
  rw [T.n, show (0 : Int) = Int.ofNat 0 from rfl, a1]
  exact ⟨t, h', us, rfl, a2⟩
/-! ### found -/
theorem find_l0 (k : Nat) {h0 : H} (w0 : WF h0) {s : Sl} {vs : List Vs} (T : TreeR h0 s vs) (B : TreeB vs) (nm : List UInt8) {rb : Nat} (hr : rb < h0.next) (far : ∀ h, Ch (fun z => z = rb) h0 h → TreeR h s vs) : ∀ n i h, vs.length - i < n → i ≤ vs.length → Ch0 h0 h → Is h rb 58 5 zVo → (∀ j (hj : j < vs.length), j < i → vs[j].1.nm ≠ nm) →
    ∃ v h', tree_Find.l0 k n (ba nm) (some ⟨rb, 0, none⟩) s (Int.ofNat vs.length) (Int.ofNat i) h = some (v, h') ∧ Ch (fun z => z = rb) h0 h' ∧ ((v = .inl true ∧ ∃ u m, findV (vols vs) nm = some u ∧ Is h' rb 58 5 (voL (u, m)) ∧ Ow 3 1 h' m (ivs u.mp) ∧ ∀ x, SlB m x → h0.next ≤ x) ∨ (v = .inr () ∧ findV (vols vs) nm = none ∧ Is h' rb 58 5 zVo))
  | 0, i, h, hf, _, _, _, _ => by omega
  | n + 1, i, h, hf, hi, C, I, hA => by
    rw [tree_Find.l0_succ]
    have hn := B.n
    have Ct : Ch (fun z => z = rb) h0 h := C.mono fun _ _ f => f.elim
    by_cases c : i < vs.length
    · rw [decLt c, cond_true]
      obtain ⟨b, o, e1, e2, e3⟩ := (far h Ct).at c
      rw [e1]
      simp only [asP_ptr, Option.bind_some]
      rw [e2, bindVo]
      dsimp only [voT]
      have hB := B.nm _ (List.getElem_mem c)
      have hM := (far h Ct).mp _ (List.getElem_mem c)
      generalize hq : vs[i] = q at hB hM
      rw [show [Value.string (ba q.1.nm), Value.string (ba q.1.pa), Value.bool q.1.sn, Value.int .i64 q.1.sz, Value.slice q.2.a q.2.n q.2.c] = voL q from rfl, show [Value.string (⟨#[]⟩ : ByteArray), Value.string (⟨#[]⟩ : ByteArray), Value.bool false, Value.int .i64 (0 : Int), Value.slice none 0 0] = zVo from rfl]
      obtain ⟨h1, b1, b2, b3, b4⟩ := box_ok C.wf 58 5 zVo (voL q) rfl rfl rfl
      rw [b1]
      simp only [Option.bind_some]
      rw [show asT (ldc h1 (some ⟨h.next, 0, none⟩)) = some (ba q.1.nm) by rw [b4.ldc]; exact asTs _]
      simp only [Option.bind_some]
      rw [bat_eq]
      have C1 := C.then b2
      by_cases e : q.1.nm = nm
      · rw [decide_eq_true e, cond_true]
        rw [ldaIs (n := 5) b4 rfl, bindVo]
        obtain ⟨m, h2, d1, d2, d3, d4⟩ := tcopied_f k b2.wf q (hM.stay C.wf b2) (by omega)
        have d1 : tree_copied.f k ((voT q).1, (voT q).2.1, (voT q).2.2.1, (voT q).2.2.2.1, (voT q).2.2.2.2) h1 = _ := d1
        dsimp only [voT] at d1 ⊢
        rw [d1]
        simp only [Option.bind_some]
        rw [show [Value.string (ba q.1.nm), Value.string (ba q.1.pa), Value.bool q.1.sn, Value.int .i64 q.1.sz, Value.slice m.a m.n m.c] = voL (q.1, m) from rfl]
        have I2 := (I.stay C.wf b2).stay b2.wf d2
        obtain ⟨h3, f1, f2, f3, f4⟩ := Is.whole d2.wf I2 rfl (voL (q.1, m)) rfl rfl
        rw [f1]
        have mf : ∀ x, SlB m x → h0.next ≤ x := fun x hx => by have := d4 x hx; have := C1.le; omega
        refine ⟨_, h3, rfl, ((C1.then d2).mono fun _ _ f => f.elim).trans f2 fun _ _ f => f, .inl ⟨rfl, q.1, m, ?_, f4, d3.keep fun x hx => f2.keep x (d3.lt d2.wf hx) fun f => by have := mf x hx; omega, mf⟩⟩
        unfold findV vols
        rw [List.find?_eq_some_iff_getElem]
        refine ⟨decide_eq_true e, i, by rw [List.length_map]; exact c, by rw [List.getElem_map, hq], fun j hj => ?_⟩
        rw [List.getElem_map]
        have := hA j (by omega) hj
        simpa using this
      · rw [decide_eq_false e, cond_false, wrap_succ (by omega)]
        exact find_l0 k w0 T B nm hr far n (i + 1) h1 (by omega) (by omega) C1 (I.stay C.wf b2) fun j hj hji => by
          by_cases z : j = i
          · subst z; rw [hq]; exact e
          · exact hA j hj (by omega)
    · rw [decNlt c, cond_false]
      refine ⟨_, h, rfl, Ct, .inr ⟨rfl, findV_none.2 fun u hu => ?_, I⟩⟩
      obtain ⟨q, hq, rfl⟩ := List.mem_map.1 hu
      obtain ⟨j, hj, rfl⟩ := List.mem_iff_getElem.1 hq
      exact hA j hj (by omega)
/-- what Find tells -/
def FindR (h h' : H) (t : List Vol) (nm : List UInt8) (r : VoT × Bool) : Prop := (∃ u m, findV t nm = some u ∧ r = (voT (u, m), true) ∧ Ow 3 1 h' m (ivs u.mp) ∧ ∀ x, SlB m x → h.next ≤ x) ∨ (findV t nm = none ∧ r = (voT zVs, false))
theorem TreeR.far {h h' : H} {s : Sl} {vs : List Vs} (w : WF h) {g : H} (c0 : Ch0 h g) (T : TreeR h s vs) {rb : Nat} (hr : h.next ≤ rb) (c : Ch (fun z => z = rb) g h') : TreeR h' s vs := T.stay w (Ch0.at c0 c hr)
theorem find_f (k : Nat) (hk : 20000 < k) {h : H} (w : WF h) {s : Sl} {vs : List Vs} (T : TreeR h s vs) (B : TreeB vs) (nm : List UInt8) :
    ∃ r h', tree_Find.f k s (ba nm) h = some (r, h') ∧ Ch0 h h' ∧ FindR h h' (vols vs) nm r := by
  unfold tree_Find.f
  rw [show [Value.string (⟨#[]⟩ : ByteArray), Value.string (⟨#[]⟩ : ByteArray), Value.bool false, Value.int .i64 (0 : Int), Value.slice none 0 0] = zVo from rfl]
  obtain ⟨z1, z2, z3⟩ := newR_ok w 58 5 zVo
  generalize newR h 58 5 zVo = g at z1 z2 z3 ⊢
  have hn := B.n
  obtain ⟨v, h1, a1, a2, a3⟩ := find_l0 k z1.wf (T.stay w z1) B nm (rb := h.next) (by omega) (fun h' c => T.far w z1 (Nat.le_refl _) c) k 0 g (by omega) (Nat.zero_le _) (Ch.refl z1.wf) z3 (fun j hj f => by omega)
  rw [T.n, show (0 : Int) = Int.ofNat 0 from rfl, a1]
  have C1 := Ch0.at z1 a2 (Nat.le_refl _)
  rcases a3 with ⟨rfl, u, m, e1, e2, e3, e4⟩ | ⟨rfl, e1, e2⟩
  · simp only [Option.bind_some]
    rw [ldaIs (n := 5) e2 rfl, bindVo]
    exact ⟨_, h1, rfl, C1, .inl ⟨u, m, e1, rfl, e3, fun x hx => by have := e4 x hx; omega⟩⟩
  · simp only [Option.bind_some]
    obtain ⟨h2, b1, b2, b3, b4⟩ := Is.whole a2.wf e2 rfl zVo rfl rfl
    rw [b1]
    simp only [Option.bind_some]
    have b4 : Is h2 h.next 58 5 (voL zVs) := b4
    rw [ldaIs (n := 5) b4 rfl, bindVo]
    exact ⟨_, h2, rfl, Ch0.at C1 b2 (Nat.le_refl _), .inr ⟨e1, rfl⟩⟩
end Go.Proofs.Ytfenkpghcbohdaa.Fw
/- One volume put in, by the program. No condition. -/
namespace Go.Proofs.Ytfenkpghcbohdaa.Fw
open Go Den Fwd
set_option linter.unusedVariables false
set_option linter.unusedSimpArgs false
theorem tat2_f (k : Nat) (hk : 2000 < k) {h : H} (w : WF h) {s : Sl} {vs : List Vs} (T : TreeR h s vs) (hn : vs.length ≤ 1000) (S : SortV vs) (nm : List UInt8) :
    ∃ r fo h', tree_at.f k s (ba nm) h = some ((Int.ofNat r, fo), h') ∧ Ch0 h h' ∧ r ≤ vs.length ∧ (∀ a (ha : a < vs.length), a < r → less vs[a].1.nm nm = true) ∧ (∀ ha : r < vs.length, less vs[r].1.nm nm = false) ∧ fo = hasV (vols vs) nm ∧ (fo = true → ∃ hr : r < vs.length, vs[r].1.nm = nm) := by
  unfold tree_at.f slices_BinarySearchFunc_api_Volume_api_Volume_string_tree_at_1.f
  obtain ⟨r, h1, a1, a2, a3, a4, a5⟩ := bs_l0 k w T hn S nm (Int.ofNat s.n) k 0 vs.length h (by omega) (Nat.zero_le _) (Nat.le_refl _) (Ch.refl w) (fun a ha f => by omega) (fun a ha f => by omega)
  rw [show Int.ofNat s.n = Int.ofNat vs.length by rw [T.n]] at a1 ⊢
  rw [show (0 : Int) = Int.ofNat 0 from rfl, a1]
  simp only [Option.bind_some]
  have no : ∀ (hr : ∀ hr : r < vs.length, vs[r].1.nm ≠ nm), hasV (vols vs) nm = false := fun hr => hasV_no.2 fun u hu e => by
    obtain ⟨q, hq, rfl⟩ := List.mem_map.1 hu
    obtain ⟨j, hj, rfl⟩ := List.mem_iff_getElem.1 hq
    rcases Nat.lt_trichotomy j r with g | g | g
    · have := a4 j hj g
      rw [e, less_irr] at this
      cases this
    · subst g
      exact hr hj e
    · have h1 := S.lt hj g
      rw [e] at h1
      rw [a5 r (by omega) (Nat.le_refl _)] at h1
      cases h1
  by_cases c : r < vs.length
  · rw [decLt c]
    obtain ⟨b, o, e1, e2, e3⟩ := (T.stay w a2).at c
    simp only [cond_true]
    rw [e1]
    simp only [asP_ptr, Option.bind_some]
    rw [e2, bindVo]
    obtain ⟨h3, f1, f2⟩ := tat1_f k a2.wf vs[r] nm
    have f1 : tree_at_1.f k (ba vs[r].1.nm, ba vs[r].1.pa, vs[r].1.sn, vs[r].1.sz, vs[r].2) (ba nm) h1 = _ := f1
    dsimp only [voT]
    rw [f1]
    simp only [Option.bind_some]
    obtain ⟨g1, g2⟩ := cmp_lt vs[r].1.nm nm
    by_cases d : vs[r].1.nm = nm
    · exact ⟨r, true, h3, by rw [g2.2 d]; rfl, a2.then f2, a3, a4, (fun ha => a5 r ha (Nat.le_refl _)), (hasV_iff.2 ⟨vs[r].1, mem_vols c, d⟩).symm, fun _ => ⟨c, d⟩⟩
    · refine ⟨r, false, h3, ?_, a2.then f2, a3, a4, (fun ha => a5 r ha (Nat.le_refl _)), (no fun _ => d).symm, fun f => by cases f⟩
      rw [show (Lib.compareBytes vs[r].1.nm nm == Int.ofNat 0) = false by rw [beq_eq_false_iff_ne]; exact fun f => d (g2.1 f)]
  · rw [decNlt c]
    exact ⟨r, false, h1, rfl, a2, a3, a4, (fun ha => absurd ha c), (no fun hr => absurd hr c).symm, fun f => by cases f⟩
/-! ### slices.Insert -/
theorem insert_f (k : Nat) {h : H} (w : WF h) {s : Sl} {vs : List Vs} (o : Ow 58 5 h s (vs.map voL).flatten) (hn : vs.length ≤ 1000) {vb : Nat} {q : Vs} (I : Is h vb 58 5 (voL q)) (nb : ¬ SlB s vb) {i : Nat} (hi : i ≤ vs.length) :
    ∃ s' h', slices_Insert_vol.f k s (Int.ofNat i) ⟨some ⟨vb, 0, none⟩, 1, 1⟩ h = some (s', h') ∧ Ch (SlB s) h h' ∧ Ow 58 5 h' s' ((vs.take i ++ q :: vs.drop i).map voL).flatten ∧ ∀ b, SlB s' b → SlB s b ∨ h.next ≤ b := by
  unfold slices_Insert_vol.f insS
  have Rv : SlR 5 h ⟨some ⟨vb, 0, none⟩, 1, 1⟩ (([q].map voL).flatten) := by
    rw [vo_sing]
    exact SlR.of_is I (n := 1) rfl (by unfold unk; omega)
  have sn := Ow.von o
  -- at the end: append
  have app : i = vs.length → asS2 (apv 58 5 72 (.slice s.a s.n s.c) (.slice (some ⟨vb, 0, none⟩) 1 1) h) = asS2 (insV s.a s.n s.c i (.slice (some ⟨vb, 0, none⟩) 1 1) h) → ∃ s' h', asS2 (insV s.a s.n s.c i (.slice (some ⟨vb, 0, none⟩) 1 1) h) = some (s', h') ∧ Ch (SlB s) h h' ∧ Ow 58 5 h' s' ((vs.take i ++ q :: vs.drop i).map voL).flatten ∧ ∀ b, SlB s' b → SlB s b ∨ h.next ≤ b := fun e1 e2 => by
    obtain ⟨s', h', a1, a2, a3, a4⟩ := apps_vo w o Rv (by show vs.length + 1 ≤ 10000; omega)
    have a1 : asS2 (apv 58 5 72 (.slice s.a s.n s.c) (.slice (some ⟨vb, 0, none⟩) 1 1) h) = some (s', h') := a1
    refine ⟨s', h', by rw [← e2]; exact a1, a2, ?_, a4⟩
    rw [e1, List.take_of_length_le (Nat.le_refl _), List.drop_eq_nil_of_le (Nat.le_refl _)]
    exact a3
  rcases o with ⟨e1, rfl⟩ | ⟨b, n, c, rfl, hl, J, hc⟩
  · have ev : vs.length = 0 := by
      have := congrArg List.length e1
      rw [vo_len] at this
      have this : vs.length * 5 = 0 := this
      omega
    have ei : i = 0 := by omega
    subst ei
    exact app (by omega) rfl
  · rw [vo_len] at hl
    have hn' : n = vs.length := by omega
    subst hn'
    by_cases c : i = vs.length
    · refine app c ?_
      show _ = asS2 (cond (Nat.beq i vs.length) _ _)
      rw [c, Nat.beq_refl]; rfl
    · obtain ⟨B, j1, j2, j3, j4, j5⟩ := J.rowAt
      obtain ⟨V, v1, v2, v3, v4, v5⟩ := I.rowAt
      rw [vo_len] at j2
      have vne : vb ≠ b := fun f => nb (by subst f; exact ⟨0, rfl⟩)
      have g1 : B.gets 0 (vs.length * 5) = some (vs.map voL).flatten := Row.gets_of (vs.length * 5) 0 _ (by rw [vo_len]) (fun i hi => by rw [Nat.zero_add]; exact j5 i)
      have g2 : V.gets 0 5 = some (voL q) := Row.gets_of 5 0 _ rfl (fun i hi => by rw [Nat.zero_add]; exact v5 i)
      rename_i cc
      have hg : insG b vs.length i cc vb B V = true := by
        unfold insG
        simp only [Bool.and_eq_true, Bool.or_eq_true, Bool.not_eq_true']
        refine ⟨⟨⟨⟨⟨⟨⟨?_, ?_⟩, ?_⟩, ?_⟩, ?_⟩, ?_⟩, ?_⟩, ?_⟩
        · exact Nat.ble_eq_true_of_le (by omega)
        · rcases hc with ⟨z, _⟩ | z
          · exact .inr (by rw [z, Nat.beq_refl])
          · exact .inl (by rw [z, Nat.beq_refl])
        · rw [j4]; rfl
        · rw [j3]; rfl
        · rw [j2, Nat.beq_refl]
        · exact Nat.ble_eq_true_of_le (by omega)
        · rw [v4]; rfl
        · exact beq_false vne
      have e0 : insV (some ⟨b, 0, none⟩) vs.length cc i (.slice (some ⟨vb, 0, none⟩) 1 1) h = some (.slice (some ⟨h.next, 0, none⟩) (vs.length + 1) (unkOf 5), (h.put b (.row false { B with ver := h.clock })).new (rowOf (insRow (vs.map voL).flatten (voL q) i) 58 5 (h.clock + 1))) := by
        show cond (Nat.beq i vs.length) _ (cond (Nat.beq 0 0) (insM b vs.length i cc vb 0 h) none) = _
        rw [beq_false c, cond_false, show Nat.beq 0 0 = true from rfl, cond_true]
        unfold insM
        rw [j1, v1]
        simp only
        rw [hg, cond_true, g1, g2]
        simp only
        rw [vo_one, voL_one]; rfl
      have bl : b < h.next := J.lt w
      have w1 : WF (h.put b (.row false { B with ver := h.clock })) := w.put bl rfl
      have c1 : Ch (fun z => z = b) h (h.put b (.row false { B with ver := h.clock })) := ⟨w1, Nat.le_refl _, fun z hz hne => by rw [H.get_put, if_neg hne]⟩
      obtain ⟨n1, n2, n3⟩ := newR_ok w1 58 5 (insRow (vs.map voL).flatten (voL q) i)
      have en : (h.put b (.row false { B with ver := h.clock })).new (rowOf (insRow (vs.map voL).flatten (voL q) i) 58 5 (h.clock + 1)) = newR (h.put b (.row false { B with ver := h.clock })) 58 5 (insRow (vs.map voL).flatten (voL q) i) := rfl
      rw [en] at e0
      have fin : asS2 (insV (some ⟨b, 0, none⟩) vs.length cc i (.slice (some ⟨vb, 0, none⟩) 1 1) h) = some ((⟨some ⟨h.next, 0, none⟩, vs.length + 1, unkOf 5⟩ : Sl), newR (h.put b (.row false { B with ver := h.clock })) 58 5 (insRow (vs.map voL).flatten (voL q) i)) := by rw [e0]; rfl
      have el : insRow (vs.map voL).flatten (voL q) i = ((vs.take i ++ q :: vs.drop i).map voL).flatten := by
        unfold insRow
        rw [vo_take, vo_drop _ _ hi, vo_app, List.map_cons, List.flatten_cons, List.append_assoc]
      refine ⟨⟨some ⟨h.next, 0, none⟩, vs.length + 1, unkOf 5⟩, _, fin, ?_, ?_, fun z ⟨oo, f⟩ => .inr (by have : h.next = z := congrArg Addr.block (Option.some.inj f); omega)⟩
      · exact (c1.mono fun z _ f => by subst f; exact ⟨0, rfl⟩).trans (n1.mono fun _ _ f => f.elim) fun _ _ f => f
      · refine .inr ⟨h.next, vs.length + 1, unkOf 5, rfl, ?_, ?_, .inr rfl⟩
        · rw [vo_len, List.length_append, List.length_cons, List.length_take, List.length_drop]; omega
        · rw [el] at n3 ⊢
          exact n3
/-- what an act answers -/
def Did (h : H) (r : Option ((Sl × Int) × H)) (res : Res) : Prop := ∃ s h' us, r = some ((s, res.1), h') ∧ Ch0 h h' ∧ TreeO h' s us ∧ Fresh h.next s us ∧ vols us = res.2
theorem Did.no {h h' : H} (c : Ch0 h h') (e : Int) : Did h (some (((⟨none, 0, 0⟩ : Sl), e), h')) (e, []) := ⟨_, h', [], rfl, c, TreeO.nil, Fresh.nil, rfl⟩
theorem TreeO.ins {h h' : H} (w : WF h) {t t' : Sl} {us : List Vs} (T : TreeO h t us) (c : Ch (SlB t) h h') (q : Vs) (M : Ow 3 1 h q.2 (ivs q.1.mp)) (hs : ∀ x, SlB t x → ¬ SlB q.2 x) (ha : ∀ a ∈ us, Apart a q) {j : Nat} (o : Ow 58 5 h' t' ((us.take j ++ q :: us.drop j).map voL).flatten) (hb : ∀ b, SlB t' b → SlB t b ∨ h.next ≤ b) : TreeO h' t' (us.take j ++ q :: us.drop j) := by
  have keep : ∀ a : Vs, Ow 3 1 h a.2 (ivs a.1.mp) → (∀ x, SlB t x → ¬ SlB a.2 x) → Ow 3 1 h' a.2 (ivs a.1.mp) := fun a O n => O.keep fun b hb => c.keep b (O.lt w hb) fun f => n b f hb
  have far : ∀ a : Vs, Ow 3 1 h a.2 (ivs a.1.mp) → (∀ x, SlB t x → ¬ SlB a.2 x) → ∀ x, SlB t' x → ¬ SlB a.2 x := fun a O n x hx f => (hb x hx).elim (fun g => n x g f) fun g => by have := O.lt w f; omega
  refine ⟨o, fun a hm => ?_, ?_, fun a hm => ?_⟩
  · rw [List.perm_middle.mem_iff, List.take_append_drop] at hm
    rcases List.mem_cons.1 hm with z | z
    · rw [z]; exact keep q M hs
    · exact keep a (T.mp a z) (T.ne a z)
  · rw [List.perm_middle.pairwise_iff Apart.symm, List.take_append_drop]
    exact List.pairwise_cons.2 ⟨fun a hm => (ha a hm).symm, T.di⟩
  · rw [List.perm_middle.mem_iff, List.take_append_drop] at hm
    rcases List.mem_cons.1 hm with z | z
    · rw [z]; exact far q M hs
    · exact far a (T.mp a z) (T.ne a z)
theorem twith_f (k : Nat) (hk : 20000 < k) {h : H} (w : WF h) {s : Sl} {vs : List Vs} (T : TreeR h s vs) (R : RightP (vols vs)) (q : Vs) (Q : SlR 1 h q.2 (ivs q.1.mp)) (hq : q.1.mp.length ≤ 10000) : Did h (tree_with.f k s (voT q) h) (withP (vols vs) q.1) := by
  unfold tree_with.f voT
  dsimp only
  rw [show [Value.string (ba q.1.nm), Value.string (ba q.1.pa), Value.bool q.1.sn, Value.int .i64 q.1.sz, Value.slice q.2.a q.2.n q.2.c] = voL q from rfl]
  obtain ⟨y1, y2, y3⟩ := newR_ok w 58 5 (voL q)
  generalize newR h 58 5 (voL q) = g at y1 y2 y3 ⊢
  rw [show asT (ldc g (some ⟨h.next, 0, none⟩)) = some (ba q.1.nm) by rw [y3.ldc]; exact asTs _]
  simp only [Option.bind_some]
  have B := R.b
  have T1 := T.stay w y1
  obtain ⟨r, fo, h1, a1, a2, a3, a4, a5, a6, _⟩ := tat2_f k (by omega) y1.wf T1 B.n R.so q.1.nm
  rw [a1]
  simp only [Option.bind_some]
  have C1 := y1.then a2
  unfold withP
  cases hf : fo with
  | true =>
    rw [← a6, hf, if_pos rfl]
    exact Did.no C1 11
  | false =>
    rw [← a6, hf]
    simp only [cond_false, Bool.false_eq_true, if_false]
    rw [vols_len, T.n]
    by_cases c : vs.length < 12
    rotate_left
    · rw [if_pos (by omega), decide_eq_true (show Int.ofNat vs.length ≥ (12 : Int) by simp only [Int.ofNat_eq_natCast]; omega)]
      exact Did.no C1 6
    rw [if_neg (by omega), decide_eq_false (show ¬ Int.ofNat vs.length ≥ (12 : Int) by simp only [Int.ofNat_eq_natCast]; omega)]
    simp only [cond_false]
    obtain ⟨t, h2, us, b1, b2, b3, b4, b5⟩ := all_f k hk a2.wf (T1.stay y1.wf a2) B
    rw [b1]
    simp only [Option.bind_some]
    have Y2 := (y3.stay y1.wf a2).stay a2.wf b2
    rw [ldaIs (n := 5) Y2 rfl, bindVo]
    have C2 := C1.then b2
    obtain ⟨m, h3, d1, d2, d3, d4⟩ := tcopied_f k b2.wf q (Q.stay w C2) hq
    have d1 : tree_copied.f k ((voT q).1, (voT q).2.1, (voT q).2.2.1, (voT q).2.2.2.1, (voT q).2.2.2.2) h2 = _ := d1
    dsimp only [voT] at d1 ⊢
    rw [d1]
    simp only [Option.bind_some]
    rw [show [Value.string (ba q.1.nm), Value.string (ba q.1.pa), Value.bool q.1.sn, Value.int .i64 q.1.sz, Value.slice m.a m.n m.c] = voL (q.1, m) from rfl]
    obtain ⟨n1, n2, n3⟩ := newR_ok d2.wf 58 5 (voL (q.1, m))
    have O3 := b3.stay b2.wf (d2.then n1)
    have ul : us.length = vs.length := by rw [← vols_len us, b5, vols_len]
    have lt2 := b2.le
    have lt3 := d2.le
    obtain ⟨t', h4, e1, e2, e3, e4⟩ := insert_f k n1.wf O3.ow (by omega) n3 (fun f => by have := b3.ow.lt b2.wf f; omega) (i := r) (by omega)
    rw [e1]
    simp only [Option.bind_some]
    rw [same1_of (b2.keep h.next (by have := a2.le; omega) fun f => f)]
    simp only [Bool.and_self, cond_true]
    have C4 : Ch0 h h4 := Ch0.own ((C2.then d2).then n1) e2 fun x hx => by have := b4.1 x hx; have := C1.le; omega
    have hs : ∀ x, SlB t x → ¬ SlB m x := fun x hx f => by have := d4 x f; have := b3.ow.lt b2.wf hx; omega
    have ha : ∀ a ∈ us, Apart a (q.1, m) := fun a hm x hx f => by have := d4 x f; have := (b3.mp a hm).lt b2.wf hx; omega
    refine ⟨t', h4, _, rfl, C4, TreeO.ins n1.wf O3 e2 (q.1, m) (d3.stay d2.wf n1) hs ha e3 e4, ⟨fun x hx => (e4 x hx).elim (fun f => by have := b4.1 x f; have := C1.le; omega) fun f => by have := ((C2.then d2).then n1).le; omega, fun a hm x hx => ?_⟩, ?_⟩
    · rw [List.perm_middle.mem_iff, List.take_append_drop] at hm
      rcases List.mem_cons.1 hm with z | z
      · rw [z] at hx; have := d4 x hx; have := C2.le; omega
      · have := b4.2 a z x hx; have := C1.le; omega
    · rw [vols_put, b5]
      obtain ⟨p1, p2, p3⟩ := put_vols (us := vs) rfl (v := q.1) (j := r) a3 a4 a5
      exact putP_of p1 p2 p3
theorem sizedP_nil (sz : Int) : sizedP [] sz = zerosI sz := by
  unfold sizedP zerosI
  rw [List.nil_append, List.take_of_length_le (by rw [List.length_replicate]; exact Nat.le_refl _)]
theorem tcreate_f (k : Nat) (hk : 20000 < k) {h : H} (w : WF h) {s : Sl} {vs : List Vs} (T : TreeR h s vs) (R : RightP (vols vs)) (nm : List UInt8) (hkn : nm.length < k) (sz : Int) : Did h (tree_Create.f k s (ba nm) sz h) (createP (vols vs) nm sz) := by
  unfold tree_Create.f
  obtain ⟨m, m2, h1, a1, a2, a3, a4⟩ := xsized_f k hk w (s := ⟨none, 0, 0⟩) (l := []) (.inl ⟨rfl, .inl rfl⟩) (Nat.zero_le _) sz
  rw [a1]
  simp only [Option.bind_some]
  have B := R.b
  obtain ⟨v, h2, b1, b2, b3⟩ := tright_f k hk a2.wf (T.stay w a2) B
  have vt := b3.2 R
  subst vt
  rw [b1]
  simp only [Option.bind_some, Bool.not_true, cond_false]
  obtain ⟨h3, c1, c2⟩ := isName_f k b2.wf nm hkn
  rw [c1]
  simp only [Option.bind_some]
  have C3 := (a2.then b2).then c2
  unfold createP
  cases hn : isName nm with
  | false =>
    rw [Bool.false_and, if_neg (by decide)]
    exact Did.no C3 1
  | true =>
    rw [Bool.true_and]
    simp only [Bool.not_true, cond_false]
    cases hz : okSize sz with
    | false =>
      rw [a4 hz] at *
      rw [xright_f k (s := ⟨none, 0, 0⟩) (l := []) (.inl ⟨rfl, .inl rfl⟩) (by show 0 < k; omega) (by decide)]
      have : rightMap sz [] = false := by unfold rightMap; rw [hz, Bool.false_and]
      rw [this]
      simp only [Option.bind_some, Bool.not_false, cond_true]
      rw [if_neg (by decide)]
      exact Did.no C3 1
    | true =>
      obtain ⟨M, F⟩ := a3 hz
      rw [sizedP_nil] at M
      have M3 := M.stay a2.wf (b2.then c2)
      have zl := zerosI_len hz
      obtain ⟨z1, z2, z3⟩ := okSize_iff.1 hz
      rw [xright_f k M3.slr (by omega) (by omega), right_zeros hz]
      simp only [Option.bind_some, Bool.not_true, cond_false]
      rw [if_pos trivial]
      obtain ⟨t, h4, us, d1, d2, d3, d4, d5⟩ := twith_f k hk c2.wf (T.stay w C3) R (⟨nm, [], false, sz, zerosI sz⟩, m) M3.slr (by show (zerosI sz).length ≤ _; omega)
      have d1 : tree_with.f k s (ba nm, ⟨#[]⟩, false, sz, m) h3 = _ := d1
      rw [d1]
      exact ⟨t, h4, us, rfl, C3.then d2, d3, d4.mono C3.le, d5⟩
theorem tderive_f (k : Nat) (hk : 20000 < k) {h : H} (w : WF h) {s : Sl} {vs : List Vs} (T : TreeR h s vs) (R : RightP (vols vs)) (of nm : List UInt8) (hkn : nm.length < k) (sn : Bool) : Did h (tree_derived.f k s (ba of) (ba nm) sn h) (deriveP (vols vs) of nm sn) := by
  unfold tree_derived.f
  have B := R.b
  obtain ⟨v, h2, b1, b2, b3⟩ := tright_f k hk w T B
  have vt := b3.2 R
  subst vt
  rw [b1]
  simp only [Option.bind_some, Bool.not_true, cond_false]
  obtain ⟨h3, c1, c2⟩ := isName_f k b2.wf nm hkn
  rw [c1]
  simp only [Option.bind_some]
  have C3 := b2.then c2
  unfold deriveP
  cases hn : isName nm with
  | false => exact Did.no C3 1
  | true =>
    simp only [Bool.not_true, cond_false, if_true]
    obtain ⟨r, h4, d1, d2, d3⟩ := find_f k hk c2.wf (T.stay w C3) B of
    rw [d1]
    simp only [Option.bind_some]
    have C4 := C3.then d2
    rw [show [Value.string (⟨#[]⟩ : ByteArray), Value.string (⟨#[]⟩ : ByteArray), Value.bool false, Value.int .i64 (0 : Int), Value.slice none 0 0] = zVo from rfl]
    rcases d3 with ⟨u, m, e1, rfl, e3, e4⟩ | ⟨e1, rfl⟩
    · rw [e1]
      dsimp only [voT]
      rw [show [Value.string (ba u.nm), Value.string (ba u.pa), Value.bool u.sn, Value.int .i64 u.sz, Value.slice m.a m.n m.c] = voL (u, m) from rfl]
      obtain ⟨h5, f1, f2, f3, f4⟩ := box_ok d2.wf 58 5 zVo (voL (u, m)) rfl rfl rfl
      rw [f1]
      simp only [Option.bind_some, Bool.not_true, cond_false]
      rw [show asB (ldc h5 (some ⟨h4.next, 2, none⟩)) = some u.sn by rw [f4.ldc]; exact asBs _]
      simp only [Option.bind_some]
      have C5 := C4.then f2
      by_cases sc : u.sn = sn
      · rw [if_pos sc, show (u.sn == sn) = true by rw [sc]; simp]
        exact Did.no C5 10
      · rw [if_neg sc, show (u.sn == sn) = false by rw [beq_eq_false_iff_ne]; exact sc]
        simp only [cond_false]
        rw [show asI .i64 (ldc h5 (some ⟨h4.next, 3, none⟩)) = some u.sz by rw [f4.ldc]; exact asI_int _ _, show asS (ldc h5 (some ⟨h4.next, 4, none⟩)) = some m by rw [f4.ldc]; exact asS_slv _]
        simp only [Option.bind_some]
        have ul := (mapLen (R.ma u (findV_some e1).1)).1
        obtain ⟨t, h6, us, g1, g2, g3, g4, g5⟩ := twith_f k hk f2.wf (T.stay w C5) R (⟨nm, of, sn, u.sz, u.mp⟩, m) (e3.slr.stay d2.wf f2) (by show u.mp.length ≤ _; omega)
        have g1 : tree_with.f k s (ba nm, ba of, sn, u.sz, m) h5 = _ := g1
        rw [g1]
        exact ⟨t, h6, us, rfl, C5.then g2, g3, g4.mono C5.le, g5⟩
    · rw [e1]
      obtain ⟨h5, f1, f2, f3, f4⟩ := box_ok d2.wf 58 5 zVo (voL zVs) rfl rfl rfl
      have f1 : stv 5 (newR h4 58 5 zVo) (some ⟨h4.next, 0, none⟩) [Value.string (voT zVs).1, Value.string (voT zVs).2.1, Value.bool (voT zVs).2.2.1, Value.int .i64 (voT zVs).2.2.2.1, Value.slice (voT zVs).2.2.2.2.a (voT zVs).2.2.2.2.n (voT zVs).2.2.2.2.c] = _ := f1
      rw [f1]
      exact Did.no (C4.then f2) 7
end Go.Proofs.Ytfenkpghcbohdaa.Fw
/- A volume deleted, sized, by the program. No condition. -/
namespace Go.Proofs.Ytfenkpghcbohdaa.Fw
open Go Den Fwd
set_option linter.unusedVariables false
set_option linter.unusedSimpArgs false
theorem del1_l0 (k : Nat) {h0 : H} (w0 : WF h0) {s : Sl} {vs : List Vs} (T : TreeR h0 s vs) (hn : vs.length ≤ 1000) (nm : List UInt8) {nb : Nat} (J : Is h0 nb 9 1 [Value.string (ba nm)]) : ∀ n i h, vs.length - i < n → i ≤ vs.length → Ch0 h0 h →
    ∃ v h', slices_IndexFunc_api_Volume_api_Volume_tree_Delete_1.l0 k n s (some ⟨nb, 0, none⟩) (Int.ofNat vs.length) (Int.ofNat i) h = some (v, h') ∧ Ch0 h0 h' ∧ ((v = .inr () ∧ ∀ q ∈ vs.drop i, q.1.pa ≠ nm) ∨ ((∃ j : Nat, v = .inl (Int.ofNat j)) ∧ ∃ q ∈ vs, q.1.pa = nm))
  | 0, i, h, hf, _, _ => by omega
  | n + 1, i, h, hf, hi, C => by
    rw [slices_IndexFunc_api_Volume_api_Volume_tree_Delete_1.l0_succ]
    by_cases c : i < vs.length
    · rw [decLt c, cond_true]
      obtain ⟨b, o, e1, e2, e3⟩ := (T.stay w0 C).at c
      rw [e1]
      simp only [asP_ptr, Option.bind_some]
      rw [e2, bindVo]
      have hd : vs.drop i = vs[i] :: vs.drop (i + 1) := List.drop_eq_getElem_cons c
      have hm := List.getElem_mem c
      generalize vs[i] = q at hd hm
      unfold tree_Delete_1.f
      dsimp only [voT]
      rw [show [Value.string (ba q.1.nm), Value.string (ba q.1.pa), Value.bool q.1.sn, Value.int .i64 q.1.sz, Value.slice q.2.a q.2.n q.2.c] = voL q from rfl]
      obtain ⟨y1, y2, y3⟩ := newR_ok C.wf 58 5 (voL q)
      generalize newR h 58 5 (voL q) = g at y1 y2 y3 ⊢
      have C1 := C.then y1
      rw [show asT (ldc g (some ⟨h.next, 1, none⟩)) = some (ba q.1.pa) by rw [y3.ldc]; exact asTs _, show asT (ldc g (some ⟨nb, 0, none⟩)) = some (ba nm) by rw [(J.stay w0 C1).ldc]; exact asTs _]
      simp only [Option.bind_some]
      rw [bat_eq]
      by_cases e : q.1.pa = nm
      · rw [decide_eq_true e, cond_true]
        exact ⟨_, g, rfl, C1, .inr ⟨⟨i, rfl⟩, q, hm, e⟩⟩
      · rw [decide_eq_false e, cond_false, wrap_succ (by omega)]
        obtain ⟨v', h3, d1, d2, d3⟩ := del1_l0 k w0 T hn nm J n (i + 1) g (by omega) (by omega) C1
        refine ⟨v', h3, d1, d2, d3.imp (fun ⟨x, y⟩ => ⟨x, fun q' hq' => ?_⟩) fun x => x⟩
        rw [hd] at hq'
        rcases List.mem_cons.1 hq' with z | z
        · rw [z]; exact e
        · exact y q' z
    · rw [decNlt c, cond_false]
      exact ⟨_, h, rfl, C, .inl ⟨rfl, fun q hq => by rw [List.drop_eq_nil_of_le (by omega)] at hq; cases hq⟩⟩
theorem del1_f (k : Nat) (hk : 20000 < k) {h : H} (w : WF h) {s : Sl} {vs : List Vs} (T : TreeR h s vs) (hn : vs.length ≤ 1000) (nm : List UInt8) {nb : Nat} (J : Is h nb 9 1 [Value.string (ba nm)]) :
    ∃ h', slices_ContainsFunc_api_Volume_api_Volume_tree_Delete_1.f k s (some ⟨nb, 0, none⟩) h = some ((vols vs).any fun x => decide (x.pa = nm), h') ∧ Ch0 h h' := by
  unfold slices_ContainsFunc_api_Volume_api_Volume_tree_Delete_1.f slices_IndexFunc_api_Volume_api_Volume_tree_Delete_1.f
  obtain ⟨v, h1, a1, a2, a3⟩ := del1_l0 k w T hn nm J k 0 h (by omega) (Nat.zero_le _) (Ch.refl w)
  rw [T.n, show (0 : Int) = Int.ofNat 0 from rfl, a1]
  rcases a3 with ⟨rfl, e⟩ | ⟨⟨j, rfl⟩, q, hq, e⟩
  · refine ⟨h1, ?_, a2⟩
    rw [List.drop_zero] at e
    have : ((vols vs).any fun x => decide (x.pa = nm)) = false := by
      rw [List.any_eq_false]
      intro x hx
      obtain ⟨q, hq, rfl⟩ := List.mem_map.1 hx
      simpa using e q hq
    rw [this]; rfl
  · refine ⟨h1, ?_, a2⟩
    have : ((vols vs).any fun x => decide (x.pa = nm)) = true := by
      rw [List.any_eq_true]
      exact ⟨q.1, List.mem_map.2 ⟨q, hq, rfl⟩, decide_eq_true e⟩
    rw [this]
    simp only [Option.bind_some]
    rw [decide_eq_true (show Int.ofNat j ≥ Int.ofNat 0 by simp only [Int.ofNat_eq_natCast]; omega)]
def unQ (nm : List UInt8) (q : Vs) : Vs := (unpa nm q.1, q.2)
def delL (nm : List UInt8) (l : List Vs) : List Vs := (l.filter fun q => decide (q.1.nm ≠ nm)).map (unQ nm)
theorem delL_snoc (nm : List UInt8) (l : List Vs) (q : Vs) : delL nm (l ++ [q]) = if q.1.nm ≠ nm then delL nm l ++ [unQ nm q] else delL nm l := by
  unfold delL
  rw [List.filter_append, List.map_append]
  by_cases c : q.1.nm ≠ nm
  · rw [if_pos c, List.filter_cons_of_pos (by simpa using c)]; rfl
  · rw [if_neg c, List.filter_cons_of_neg (by simpa using c)]; simp
theorem delL_mem {nm : List UInt8} {l : List Vs} {a : Vs} (h : a ∈ delL nm l) : ∃ q ∈ l, a = unQ nm q := by
  unfold delL at h
  obtain ⟨q, hq, rfl⟩ := List.mem_map.1 h
  exact ⟨q, (List.mem_filter.1 hq).1, rfl⟩
theorem vols_delL (nm : List UInt8) (l : List Vs) : vols (delL nm l) = ((vols l).filter fun x => decide (x.nm ≠ nm)).map (unpa nm) := by
  unfold delL vols
  rw [List.map_map, List.filter_map, List.map_map]; rfl
theorem del_l0 (k : Nat) {h0 : H} (w0 : WF h0) {s : Sl} {us : List Vs} (T : TreeO h0 s us) (hn : us.length ≤ 1000) (nm : List UInt8) {nb : Nat} (J : Is h0 nb 9 1 [Value.string (ba nm)]) : ∀ n i h t, us.length - i < n → i ≤ us.length → Ch0 h0 h → TreeO h t (delL nm (us.take i)) → (∀ x, SlB t x → h0.next ≤ x) →
    ∃ t' h', tree_Delete.l0 k n (some ⟨nb, 0, none⟩) s (Int.ofNat us.length) t (Int.ofNat i) h = some (t', h') ∧ Ch0 h0 h' ∧ TreeO h' t' (delL nm us) ∧ ∀ x, SlB t' x → h0.next ≤ x
  | 0, i, h, t, hf, _, _, _, _ => by omega
  | n + 1, i, h, t, hf, hi, C, O, F => by
    rw [tree_Delete.l0_succ]
    by_cases c : i < us.length
    rotate_left
    · rw [decNlt c, cond_false]
      rw [List.take_of_length_le (by omega)] at O
      exact ⟨t, h, rfl, C, O, F⟩
    rw [decLt c, cond_true]
    obtain ⟨b, o, e1, e2, e3⟩ := (T.read.stay w0 C).at c
    rw [e1]
    simp only [asP_ptr, Option.bind_some]
    rw [e2, bindVo]
    dsimp only [voT]
    have hM := T.mp _ (List.getElem_mem c)
    have pw := List.pairwise_iff_getElem.1 T.di
    have ht : us.take (i + 1) = us.take i ++ [us[i]] := List.take_succ_eq_append_getElem c
    have apart : ∀ a ∈ delL nm (us.take i), Apart a (unQ nm us[i]) := fun a ha => by
      obtain ⟨q, hq, rfl⟩ := delL_mem ha
      obtain ⟨j, hj, rfl⟩ := List.mem_iff_getElem.1 hq
      rw [List.length_take] at hj
      rw [List.getElem_take]
      exact pw j i (by omega) c (by omega)
    have ulen : (delL nm (us.take i)).length ≤ 1000 := by
      unfold delL
      rw [List.length_map]
      have := List.length_filter_le (fun q : Vs => decide (q.1.nm ≠ nm)) (us.take i)
      rw [List.length_take] at this
      omega
    generalize us[i] = q at hM ht apart
    rw [show [Value.string (ba q.1.nm), Value.string (ba q.1.pa), Value.bool q.1.sn, Value.int .i64 q.1.sz, Value.slice q.2.a q.2.n q.2.c] = voL q from rfl, show [Value.string (⟨#[]⟩ : ByteArray), Value.string (⟨#[]⟩ : ByteArray), Value.bool false, Value.int .i64 (0 : Int), Value.slice none 0 0] = zVo from rfl]
    obtain ⟨h1, b1, b2, b3, b4⟩ := box_ok C.wf 58 5 zVo (voL q) rfl rfl rfl
    rw [b1]
    simp only [Option.bind_some]
    have C1 := C.then b2
    rw [show asT (ldc h1 (some ⟨h.next, 1, none⟩)) = some (ba q.1.pa) by rw [b4.ldc]; exact asTs _, show asT (ldc h1 (some ⟨nb, 0, none⟩)) = some (ba nm) by rw [(J.stay w0 C1).ldc]; exact asTs _]
    simp only [Option.bind_some]
    rw [bat_eq]
    have JJ : ∃ h2, (cond (decide (q.1.pa = nm)) ((stv 1 h1 (some ⟨h.next, 1, none⟩) [(Value.string (⟨#[]⟩ : ByteArray))]).bind fun q20 => some ((), q20.2)) (some ((), h1)) : Option (Unit × H)) = some ((), h2) ∧ Ch (fun z => z = h.next) h1 h2 ∧ Is h2 h.next 58 5 (voL (unQ nm q)) := by
      by_cases e : q.1.pa = nm
      · rw [decide_eq_true e, cond_true]
        obtain ⟨h2, f1, f2, f3, f4⟩ := b4.set b2.wf 1 (.string (⟨#[]⟩ : ByteArray)) (by show 1 < 5; decide) rfl
        rw [f1]
        refine ⟨h2, rfl, f2, ?_⟩
        unfold unQ unpa
        rw [if_pos e]; exact f4
      · rw [decide_eq_false e, cond_false]
        refine ⟨h1, rfl, Ch.refl b2.wf, ?_⟩
        unfold unQ unpa
        rw [if_neg e]; exact b4
    obtain ⟨h2, j1, j2, j3⟩ := JJ
    rw [j1]
    simp only [Option.bind_some]
    have C2 := Ch0.at C1 j2 C.le
    rw [show asT (ldc h2 (some ⟨h.next, 0, none⟩)) = some (ba q.1.nm) by rw [j3.ldc, show (voL (unQ nm q))[0]? = some (.string (ba (unpa nm q.1).nm)) from rfl, (unpa_nm nm q.1).1]; exact asTs _, show asT (ldc h2 (some ⟨nb, 0, none⟩)) = some (ba nm) by rw [(J.stay w0 C2).ldc]; exact asTs _]
    simp only [Option.bind_some]
    rw [bat_eq]
    have O2 : TreeO h2 t (delL nm (us.take i)) := (O.stay C.wf b2).keep fun x hx => j2.keep x (by have := O.lt C.wf hx; omega) (by have := O.lt C.wf hx; omega)
    by_cases e : q.1.nm = nm
    · rw [decide_eq_true e]
      simp only [Bool.not_true, cond_false, Option.bind_some]
      rw [wrap_succ (by omega)]
      refine del_l0 k w0 T hn nm J n (i + 1) h2 t (by omega) (by omega) C2 ?_ F
      rw [ht, delL_snoc, if_neg (fun f => f e)]
      exact O2
    · rw [decide_eq_false e]
      simp only [Bool.not_false, cond_true]
      rw [ldaIs (n := 5) j3 rfl, bindVo]
      dsimp only [voT]
      rw [show [Value.string (ba (unQ nm q).1.nm), Value.string (ba (unQ nm q).1.pa), Value.bool (unQ nm q).1.sn, Value.int .i64 (unQ nm q).1.sz, Value.slice (unQ nm q).2.a (unQ nm q).2.n (unQ nm q).2.c] = voL (unQ nm q) from rfl]
      obtain ⟨t1, h3, g1, g2, g3, g4⟩ := push_vo C2.wf O2.ow (unQ nm q) ulen
      rw [g1]
      simp only [Option.bind_some]
      rw [wrap_succ (by omega)]
      have M2 : Ow 3 1 h2 (unQ nm q).2 (ivs (unQ nm q).1.mp) := by
        show Ow 3 1 h2 q.2 (ivs (unpa nm q.1).mp)
        rw [(unpa_nm nm q.1).2.2.2]
        exact hM.stay w0 C2
      have ml : ∀ x, SlB q.2 x → x < h0.next := fun x hx => hM.lt w0 hx
      refine del_l0 k w0 T hn nm J n (i + 1) h3 t1 (by omega) (by omega) (Ch0.own C2 g2 F) ?_ (fun x hx => (g4 x hx).elim (F x) fun f => Nat.le_trans C2.le f)
      rw [ht, delL_snoc, if_pos e]
      exact TreeO.push C2.wf O2 g2 (unQ nm q) M2 (fun x hx f => by have := F x hx; have := ml x f; omega) apart g3 g4
theorem tdelete_f (k : Nat) (hk : 20000 < k) {h : H} (w : WF h) {s : Sl} {vs : List Vs} (T : TreeR h s vs) (R : RightP (vols vs)) (nm : List UInt8) : Did h (tree_Delete.f k s (ba nm) h) (deleteP (vols vs) nm) := by
  unfold tree_Delete.f
  obtain ⟨y1, y2, y3⟩ := newR_ok w 9 1 [Value.string (ba nm)]
  generalize newR h 9 1 [Value.string (ba nm)] = g at y1 y2 y3 ⊢
  have B := R.b
  obtain ⟨v, h2, b1, b2, b3⟩ := tright_f k hk y1.wf (T.stay w y1) B
  have vt := b3.2 R
  subst vt
  rw [b1]
  simp only [Option.bind_some, Bool.not_true, cond_false]
  have C2 := y1.then b2
  have Y2 := y3.stay y1.wf b2
  rw [show asT (ldc h2 (some ⟨h.next, 0, none⟩)) = some (ba nm) by rw [Y2.ldc]; exact asTs _]
  simp only [Option.bind_some]
  obtain ⟨r, h4, d1, d2, d3⟩ := find_f k hk b2.wf (T.stay w C2) B nm
  rw [d1]
  simp only [Option.bind_some]
  have C4 := C2.then d2
  unfold deleteP
  rw [show [Value.string (⟨#[]⟩ : ByteArray), Value.string (⟨#[]⟩ : ByteArray), Value.bool false, Value.int .i64 (0 : Int), Value.slice none 0 0] = zVo from rfl]
  rcases d3 with ⟨u, m, e1, rfl, e3, e4⟩ | ⟨e1, rfl⟩
  · rw [e1]
    dsimp only [voT]
    rw [show [Value.string (ba u.nm), Value.string (ba u.pa), Value.bool u.sn, Value.int .i64 u.sz, Value.slice m.a m.n m.c] = voL (u, m) from rfl]
    obtain ⟨h5, f1, f2, f3, f4⟩ := box_ok d2.wf 58 5 zVo (voL (u, m)) rfl rfl rfl
    rw [f1]
    simp only [Option.bind_some, Bool.not_true, cond_false]
    rw [show asB (ldc h5 (some ⟨h4.next, 2, none⟩)) = some u.sn by rw [f4.ldc]; exact asBs _]
    simp only [Option.bind_some]
    have C5 := C4.then f2
    have Y5 := (Y2.stay b2.wf d2).stay d2.wf f2
    have J : ∃ h6, (cond u.sn ((slices_ContainsFunc_api_Volume_api_Volume_tree_Delete_1.f k s (some ⟨h.next, 0, none⟩) h5).bind fun q6 => some (q6.1, q6.2)) (some (false, h5)) : Option (Bool × H)) = some (u.sn && (vols vs).any fun x => decide (x.pa = nm), h6) ∧ Ch0 h5 h6 := by
      cases hs : u.sn with
      | false => exact ⟨h5, rfl, Ch.refl f2.wf⟩
      | true =>
        obtain ⟨h6, g1, g2⟩ := del1_f k hk f2.wf (T.stay w C5) B.n nm Y5
        rw [cond_true, g1]
        exact ⟨h6, by rw [Bool.true_and]; rfl, g2⟩
    obtain ⟨h6, j1, j2⟩ := J
    rw [j1]
    simp only [Option.bind_some]
    have C6 := C5.then j2
    cases hb : (u.sn && (vols vs).any fun x => decide (x.pa = nm)) with
    | true =>
      rw [if_pos rfl]
      exact Did.no C6 12
    | false =>
      rw [if_neg (by decide)]
      simp only [cond_false]
      obtain ⟨t, h7, us, l1, l2, l3, l4, l5⟩ := all_f k hk j2.wf (T.stay w C6) B
      rw [l1]
      simp only [Option.bind_some]
      have C7 := C6.then l2
      have ul : us.length = vs.length := by rw [← vols_len us, l5, vols_len]
      have hn := B.n
      obtain ⟨t', h8, m1, m2, m3, m4⟩ := del_l0 k l2.wf l3 (by omega) nm ((Y5.stay f2.wf j2).stay j2.wf l2) k 0 h7 ⟨none, 0, 0⟩ (by omega) (Nat.zero_le _) (Ch.refl l2.wf) TreeO.nil (fun x f => absurd f noSlB)
      rw [l3.read.n, show (0 : Int) = Int.ofNat 0 from rfl, m1]
      refine ⟨t', h8, _, rfl, C7.then m2, m3, ⟨fun x hx => Nat.le_trans C7.le (m4 x hx), fun a ha x hx => ?_⟩, ?_⟩
      · obtain ⟨q, hq, rfl⟩ := delL_mem ha
        have := l4.2 q hq x hx
        have := C6.le
        omega
      · rw [vols_delL, l5]
  · rw [e1]
    obtain ⟨h5, f1, f2, f3, f4⟩ := box_ok d2.wf 58 5 zVo (voL zVs) rfl rfl rfl
    have f1 : stv 5 (newR h4 58 5 zVo) (some ⟨h4.next, 0, none⟩) [Value.string (voT zVs).1, Value.string (voT zVs).2.1, Value.bool (voT zVs).2.2.1, Value.int .i64 (voT zVs).2.2.2.1, Value.slice (voT zVs).2.2.2.2.a (voT zVs).2.2.2.2.n (voT zVs).2.2.2.2.c] = _ := f1
    rw [f1]
    exact Did.no (C4.then f2) 7
/-! ### sized -/
theorem flat_set1 {es : Nat} : ∀ {gs : List (List Value)}, (∀ g ∈ gs, g.length = es) → ∀ (i : Nat) (hi : i < gs.length) (j : Nat), j < es → ∀ v : Value, gs.flatten.set (i * es + j) v = (gs.set i (gs[i].set j v)).flatten
  | g :: gs, h, 0, _, j, hj, v => by
    have hg := h g List.mem_cons_self
    rw [List.flatten_cons, Nat.zero_mul, Nat.zero_add, List.set_append_left _ _ (by omega), List.set_cons_zero, List.flatten_cons]; rfl
  | g :: gs, h, i + 1, hi, j, hj, v => by
    have hg := h g List.mem_cons_self
    have := flat_set1 (gs := gs) (fun x hx => h x (List.mem_cons_of_mem _ hx)) i (by rw [List.length_cons] at hi; omega) j hj v
    have e : (i + 1) * es + j = g.length + (i * es + j) := by rw [Nat.add_mul, Nat.one_mul, hg]; omega
    rw [List.flatten_cons, e, List.set_append_right _ _ (by omega), show g.length + (i * es + j) - g.length = i * es + j by omega, this, List.set_cons_succ, List.flatten_cons]; rfl
/-- a cell of a list's row set -/
theorem set_cell {h : H} (w : WF h) {s : Sl} {vs : List Vs} (ow : Ow 58 5 h s (vs.map voL).flatten) {i : Nat} (hi : i < vs.length) (j : Nat) (hj : j < 5) (v : Value) (h1 : Den.one v = true) (q : Vs) (hq : (voL vs[i]).set j v = voL q) :
    ∃ b h', ixs 5 s.a s.n (Int.ofNat i) = some (.pointer (some ⟨b, i * 5, none⟩)) ∧ stv 1 h (some ⟨b, i * 5 + j, none⟩) [v] = some (undef, h') ∧ Ch (SlB s) h h' ∧ Ow 58 5 h' s ((vs.set i q).map voL).flatten := by
  rcases ow with ⟨f, _⟩ | ⟨b, m, cc, rfl, hl, I, hc⟩
  · have := congrArg List.length f
    rw [vo_len] at this
    have this : vs.length * 5 = 0 := this
    omega
  · rw [vo_len] at hl
    obtain ⟨h', i1, i2, i3, i4⟩ := I.set w (i * 5 + j) v (by rw [vo_len]; omega) h1
    have e0 : ixs 5 (some ⟨b, 0, none⟩) m (Int.ofNat i) = some (.pointer (some ⟨b, i * 5, none⟩)) := by
      have : ixs 5 (some ⟨b, 0, none⟩) m (Int.ofNat i) = some (.pointer (some ⟨b, 0 + i * 5, none⟩)) := cond_eta _ _ _ (Nat.ble_eq_true_of_le (by show i + 1 ≤ m; omega))
      rw [this, Nat.zero_add]
    have ev : (vs.map voL).flatten.set (i * 5 + j) v = ((vs.set i q).map voL).flatten := by
      rw [flat_set1 (vo_es vs) i (by rw [List.length_map]; exact hi) j hj, List.getElem_map, hq, List.map_set]
    rw [ev] at i4
    exact ⟨b, h', e0, i1, i2.mono fun x _ hx => by subst hx; exact ⟨0, rfl⟩, .inr ⟨b, m, cc, rfl, by rw [vo_len, List.length_set]; exact hl, i4, hc⟩⟩
/-- a list with another map at one place -/
theorem TreeO.swap {h h' : H} (w : WF h) {s : Sl} {vs : List Vs} (T : TreeO h s vs) {i : Nat} (hi : i < vs.length) (c : Ch (SlB s) h h') (q : Vs) (o : Ow 58 5 h' s ((vs.set i q).map voL).flatten) (M : Ow 3 1 h q.2 (ivs q.1.mp)) (hs : ∀ x, SlB s x → ¬ SlB q.2 x) (ha : ∀ j (hj : j < vs.length), j ≠ i → Apart vs[j] q) : TreeO h' s (vs.set i q) := by
  have keep : ∀ a : Vs, Ow 3 1 h a.2 (ivs a.1.mp) → (∀ x, SlB s x → ¬ SlB a.2 x) → Ow 3 1 h' a.2 (ivs a.1.mp) := fun a O n => O.keep fun b hb => c.keep b (O.lt w hb) fun f => n b f hb
  have pw := List.pairwise_iff_getElem.1 T.di
  refine ⟨o, fun a hm => ?_, ?_, fun a hm => ?_⟩
  · rcases List.mem_or_eq_of_mem_set hm with z | z
    · exact keep a (T.mp a z) (T.ne a z)
    · rw [z]; exact keep q M hs
  · rw [List.pairwise_iff_getElem]
    intro a b ha' hb' hab
    rw [List.length_set] at ha' hb'
    rw [List.getElem_set, List.getElem_set]
    by_cases z1 : i = a
    · rw [if_pos z1, if_neg (by omega)]
      exact (ha b hb' (by omega)).symm
    · rw [if_neg z1]
      by_cases z2 : i = b
      · rw [if_pos z2]; exact ha a ha' (by omega)
      · rw [if_neg z2]; exact pw a b ha' hb' hab
  · rcases List.mem_or_eq_of_mem_set hm with z | z
    · exact T.ne a z
    · rw [z]; exact hs
theorem set_resz {t : List Vol} (S : t.Pairwise fun a b => less a.nm b.nm = true) {nm : List UInt8} {sz : Int} {r : Nat} (hr : r < t.length) (e : t[r].nm = nm) : t.set r { t[r] with sz := sz, mp := sizedP t[r].mp sz } = t.map (resz nm sz) := by
  apply List.ext_getElem
  · rw [List.length_set, List.length_map]
  · intro i h1 h2
    rw [List.length_set] at h1
    rw [List.getElem_set, List.getElem_map]
    by_cases c : r = i
    · subst c
      rw [if_pos rfl]
      unfold resz
      rw [if_pos e]
    · rw [if_neg c]
      unfold resz
      rw [if_neg (fun f => c (sorted_inj S hr h1 (by rw [e, f])))]
theorem tresize_f (k : Nat) (hk : 20000 < k) {h : H} (w : WF h) {s : Sl} {vs : List Vs} (T : TreeR h s vs) (R : RightP (vols vs)) (nm : List UInt8) (sz : Int) : Did h (tree_Resize.f k s (ba nm) sz h) (resizeP (vols vs) nm sz) := by
  unfold tree_Resize.f
  have B := R.b
  obtain ⟨v, h2, b1, b2, b3⟩ := tright_f k hk w T B
  have vt := b3.2 R
  subst vt
  rw [b1]
  simp only [Option.bind_some, Bool.not_true, cond_false]
  obtain ⟨r, h4, d1, d2, d3⟩ := find_f k hk b2.wf (T.stay w b2) B nm
  rw [d1]
  simp only [Option.bind_some]
  have C4 := b2.then d2
  unfold resizeP
  rw [show [Value.string (⟨#[]⟩ : ByteArray), Value.string (⟨#[]⟩ : ByteArray), Value.bool false, Value.int .i64 (0 : Int), Value.slice none 0 0] = zVo from rfl]
  rcases d3 with ⟨u, m, e1, rfl, e3, e4⟩ | ⟨e1, rfl⟩
  rotate_left
  · rw [e1]
    obtain ⟨h5, f1, f2, f3, f4⟩ := box_ok d2.wf 58 5 zVo (voL zVs) rfl rfl rfl
    have f1 : stv 5 (newR h4 58 5 zVo) (some ⟨h4.next, 0, none⟩) [Value.string (voT zVs).1, Value.string (voT zVs).2.1, Value.bool (voT zVs).2.2.1, Value.int .i64 (voT zVs).2.2.2.1, Value.slice (voT zVs).2.2.2.2.a (voT zVs).2.2.2.2.n (voT zVs).2.2.2.2.c] = _ := f1
    rw [f1]
    simp only [Option.bind_some]
    rw [show asS (ldc h5 (some ⟨h4.next, 4, none⟩)) = some ⟨none, 0, 0⟩ by rw [f4.ldc]; exact asS_slv _]
    simp only [Option.bind_some]
    obtain ⟨m1, m2, h6, a1, a2, _⟩ := xsized_f k hk f2.wf (s := ⟨none, 0, 0⟩) (l := []) (.inl ⟨rfl, .inl rfl⟩) (Nat.zero_le _) sz
    rw [a1]
    exact Did.no ((C4.then f2).then a2) 7
  rw [e1]
  dsimp only [voT]
  rw [show [Value.string (ba u.nm), Value.string (ba u.pa), Value.bool u.sn, Value.int .i64 u.sz, Value.slice m.a m.n m.c] = voL (u, m) from rfl]
  obtain ⟨h5, f1, f2, f3, f4⟩ := box_ok d2.wf 58 5 zVo (voL (u, m)) rfl rfl rfl
  rw [f1]
  simp only [Option.bind_some, Bool.not_true, cond_false]
  rw [show asS (ldc h5 (some ⟨h4.next, 4, none⟩)) = some m by rw [f4.ldc]; exact asS_slv _]
  simp only [Option.bind_some]
  obtain ⟨um, un⟩ := findV_some e1
  have ma := R.ma u um
  have ml := (mapLen ma).1
  obtain ⟨m1, m2, h6, a1, a2, a3, a4⟩ := xsized_f k hk f2.wf (e3.slr.stay d2.wf f2) (by omega) sz
  rw [a1]
  simp only [Option.bind_some]
  rw [show asB (ldc h6 (some ⟨h4.next, 2, none⟩)) = some u.sn by rw [(f4.stay f2.wf a2).ldc]; exact asBs _]
  simp only [Option.bind_some]
  have C6 := (C4.then f2).then a2
  cases hs : u.sn with
  | true =>
    rw [if_pos rfl]
    exact Did.no C6 10
  | false =>
    rw [if_neg (by decide)]
    simp only [cond_false]
    cases hz : okSize sz with
    | false =>
      rw [a4 hz, xright_f k (s := ⟨none, 0, 0⟩) (l := []) (.inl ⟨rfl, .inl rfl⟩) (by show 0 < k; omega) (by decide)]
      have : rightMap sz [] = false := by unfold rightMap; rw [hz, Bool.false_and]
      rw [this, if_neg (by decide)]
      exact Did.no C6 1
    | true =>
      rw [if_pos rfl]
      obtain ⟨M, F⟩ := a3 hz
      have sr := sizedP_right ma hz
      have sl := (mapLen sr).1
      rw [xright_f k M.slr (by omega) (by omega), sr]
      simp only [Option.bind_some, Bool.not_true, cond_false]
      obtain ⟨t, h7, us, l1, l2, l3, l4, l5⟩ := all_f k hk a2.wf (T.stay w C6) B
      rw [l1]
      simp only [Option.bind_some]
      have C7 := C6.then l2
      obtain ⟨r, fo, h8, o1, o2, o3, o4, o5, o6, o7⟩ := tat2_f k (by omega) l2.wf (T.stay w C7) B.n R.so nm
      rw [o1]
      simp only [Option.bind_some]
      have ft : fo = true := by rw [o6, hasV_iff]; exact ⟨u, um, un⟩
      obtain ⟨hr, en⟩ := o7 ft
      have ul : us.length = vs.length := by rw [← vols_len us, l5, vols_len]
      have hr' : r < us.length := by omega
      have C8 := C7.then o2
      have L8 := l3.stay l2.wf o2
      have eu : us[r].1 = u := by
        have h1 : (vols us)[r]'(by rw [vols_len]; exact hr') = (vols vs)[r]'(by rw [vols_len]; exact hr) := by simp only [l5]
        have h2 : us[r].1 = vs[r].1 := by simpa only [vols, List.getElem_map] using h1
        rw [h2]
        exact nm_inj R (mem_vols hr) um (by rw [en, un])
      obtain ⟨b, h9, p1, p2, p3, p4⟩ := set_cell o2.wf L8.ow hr' 3 (by decide) (.int .i64 sz) rfl ({ us[r].1 with sz := sz }, us[r].2) rfl
      rw [p1]
      simp only [asP_ptr, Option.bind_some, fadd]
      rw [p2]
      simp only [Option.bind_some]
      have hr2 : r < (us.set r ({ us[r].1 with sz := sz }, us[r].2)).length := by rw [List.length_set]; exact hr'
      have eg : (us.set r ({ us[r].1 with sz := sz }, us[r].2))[r] = ({ us[r].1 with sz := sz }, us[r].2) := by rw [List.getElem_set, if_pos rfl]
      obtain ⟨b', h10, q1, q2, q3, q4⟩ := set_cell p3.wf p4 hr2 4 (by decide) (slv m1) rfl ({ us[r].1 with sz := sz, mp := sizedP u.mp sz }, m1) (by rw [eg]; rfl)
      rw [p1] at q1
      cases q1
      rw [show [Value.slice m1.a m1.n m1.c] = [slv m1] from rfl, q2]
      have cc : Ch (SlB t) h8 h10 := p3.trans q3 fun _ _ f => f
      have tl : ∀ x, SlB t x → h6.next ≤ x := fun x hx => l4.1 x hx
      have m1l : ∀ x, SlB m1 x → x < h6.next := fun x hx => M.lt a2.wf hx
      rw [List.set_set] at q4
      have O10 := L8.swap o2.wf hr' cc _ q4 (by
        show Ow 3 1 h8 m1 (ivs (sizedP u.mp sz))
        exact (M.stay a2.wf l2).stay l2.wf o2) (fun x hx f => by have := tl x hx; have := m1l x f; omega) (fun j hj _ x hx f => by have := l4.2 _ (List.getElem_mem hj) x hx; have := m1l x f; omega)
      refine ⟨t, h10, _, rfl, Ch0.own C8 cc (fun x hx => by have := tl x hx; have := C6.le; omega), O10, ⟨fun x hx => by have := tl x hx; have := C6.le; omega, fun a ha x hx => ?_⟩, ?_⟩
      · rcases List.mem_or_eq_of_mem_set ha with z | z
        · have := l4.2 a z x hx; have := C6.le; omega
        · rw [z] at hx; have := F x hx; have := (C4.then f2).le; omega
      · show vols (us.set r ({ us[r].1 with sz := sz, mp := sizedP u.mp sz }, m1)) = (vols vs).map (resz nm sz)
        have hrv : r < (vols vs).length := by rw [vols_len]; exact hr
        have ev : (vols vs)[r] = us[r].1 := by
          rw [eu]
          have : (vols vs)[r] = vs[r].1 := by simp only [vols, List.getElem_map]
          rw [this]
          exact nm_inj R (mem_vols hr) um (by rw [en, un])
        have := set_resz R.so (nm := nm) (sz := sz) hrv (by rw [ev, eu, un])
        rw [← this, ev, eu, ← l5]
        unfold vols
        rw [List.map_set]
end Go.Proofs.Ytfenkpghcbohdaa.Fw
/- What an act does to a list of volumes, and what it leaves alone. No program, no condition. -/
namespace Go.Proofs.Ytfenkpghcbohdaa.Fw
open Go Den Fwd
set_option linter.unusedVariables false
set_option linter.unusedSimpArgs false
def actP (t : List Vol) (what : Int) (of nm : List UInt8) (sz : Int) : Res :=
  if what < 3 then createP t nm sz else if what < 5 then deriveP t of nm true else if what < 7 then deriveP t of nm false else if what = 7 then deleteP t nm else resizeP t nm sz
theorem withP_no {t : List Vol} {v : Vol} : (withP t v).1 = 0 ∨ (withP t v).2 = [] := by
  unfold withP
  by_cases a : hasV t v.nm = true
  · rw [if_pos a]; exact .inr rfl
  · rw [if_neg a]
    by_cases b : 12 ≤ t.length
    · rw [if_pos b]; exact .inr rfl
    · rw [if_neg b]; exact .inl rfl
theorem createP_no {t : List Vol} {nm : List UInt8} {sz : Int} : (createP t nm sz).1 = 0 ∨ (createP t nm sz).2 = [] := by
  unfold createP
  by_cases a : (isName nm && okSize sz) = true
  · rw [if_pos a]; exact withP_no
  · rw [if_neg a]; exact .inr rfl
theorem deriveP_no {t : List Vol} {of nm : List UInt8} {sn : Bool} : (deriveP t of nm sn).1 = 0 ∨ (deriveP t of nm sn).2 = [] := by
  unfold deriveP
  by_cases a : isName nm = true
  · rw [if_pos a]
    cases e : findV t of with
    | none => exact .inr rfl
    | some u =>
      simp only
      by_cases c : u.sn = sn
      · rw [if_pos c]; exact .inr rfl
      · rw [if_neg c]; exact withP_no
  · rw [if_neg a]; exact .inr rfl
theorem deleteP_no {t : List Vol} {nm : List UInt8} : (deleteP t nm).1 = 0 ∨ (deleteP t nm).2 = [] := by
  unfold deleteP
  cases e : findV t nm with
  | none => exact .inr rfl
  | some u =>
    simp only
    by_cases c : (u.sn && t.any (fun x => decide (x.pa = nm))) = true
    · rw [if_pos c]; exact .inr rfl
    · rw [if_neg c]; exact .inl rfl
theorem resizeP_no {t : List Vol} {nm : List UInt8} {sz : Int} : (resizeP t nm sz).1 = 0 ∨ (resizeP t nm sz).2 = [] := by
  unfold resizeP
  cases e : findV t nm with
  | none => exact .inr rfl
  | some u =>
    simp only
    by_cases c : u.sn = true
    · rw [if_pos c]; exact .inr rfl
    · rw [if_neg c]
      by_cases d : okSize sz = true
      · rw [if_pos d]; exact .inl rfl
      · rw [if_neg d]; exact .inr rfl
theorem actP_no {t : List Vol} {what : Int} {of nm : List UInt8} {sz : Int} : (actP t what of nm sz).1 = 0 ∨ (actP t what of nm sz).2 = [] := by
  unfold actP
  by_cases a : what < 3
  · rw [if_pos a]; exact createP_no
  rw [if_neg a]
  by_cases b : what < 5
  · rw [if_pos b]; exact deriveP_no
  rw [if_neg b]
  by_cases c : what < 7
  · rw [if_pos c]; exact deriveP_no
  rw [if_neg c]
  by_cases d : what = 7
  · rw [if_pos d]; exact deleteP_no
  rw [if_neg d]; exact resizeP_no
theorem actP_right {t : List Vol} (R : RightP t) {what : Int} {of nm : List UInt8} {sz : Int} (h : (actP t what of nm sz).1 = 0) : RightP (actP t what of nm sz).2 := by
  unfold actP at h ⊢
  by_cases a : what < 3
  · rw [if_pos a] at h ⊢; exact (createP_right R h).1
  rw [if_neg a] at h ⊢
  by_cases b : what < 5
  · rw [if_pos b] at h ⊢; exact (deriveP_right R h).1
  rw [if_neg b] at h ⊢
  by_cases c : what < 7
  · rw [if_pos c] at h ⊢; exact (deriveP_right R h).1
  rw [if_neg c] at h ⊢
  by_cases d : what = 7
  · rw [if_pos d] at h ⊢; exact deleteP_right R h
  rw [if_neg d] at h ⊢; exact (resizeP_right R h).1
end Go.Proofs.Ytfenkpghcbohdaa.Fw
/- Acts on trees: names, sizes, raw acts; the loops of TreeApart. No condition. -/
namespace Go.Proofs.Ytfenkpghcbohdaa.Fw
open Go Den Fwd
set_option linter.unusedVariables false
set_option linter.unusedSimpArgs false
theorem size_f (k : Nat) (n : Int) : ∃ sz, ∀ h, corbelhand_Size.f k n h = some (sz, h) := by
  have key : ∀ h, corbelhand_Size.f k n h = some (if n % 17 = 16 then wrapA .i64 (n.tdiv 17) else wrapA .i64 (8 * (n % 5)), h) := fun h => by
    unfold corbelhand_Size.f
    rw [pick_f k n 17 h (by decide) (by decide)]
    simp only [Option.bind_some]
    by_cases c : n % 17 = 16
    · rw [if_pos c, show (n % 17 == (16 : Int)) = true by rw [c]; rfl, cond_true]
    · rw [if_neg c, show (n % 17 == (16 : Int)) = false by rw [beq_eq_false_iff_ne]; exact c, cond_false, pick_f k n 5 h (by decide) (by decide)]
      rfl
  exact ⟨_, key⟩
theorem name2_f (k : Nat) (n : Int) : ∃ nm, (∀ h, corbelhand_Name.f k n h = some (ba nm, h)) ∧ isName nm = true := by
  obtain ⟨j, hj⟩ : ∃ j : Nat, n % 7 = Int.ofNat j := ⟨_, nn _ (Int.emod_nonneg n (by decide))⟩
  have hj2 : j < 7 := by have := Int.emod_lt_of_pos n (show (0 : Int) < 7 by decide); rw [hj] at this; simp only [Int.ofNat_eq_natCast] at this; omega
  have key : ∀ nm, (∀ h : H, (some (Int.ofNat j, h) : Option (Int × H)).bind (fun q1 => (asT (ixv 7 1 #[(Value.string (⟨#[97]⟩ : ByteArray)), (Value.string (⟨#[98]⟩ : ByteArray)), (Value.string (⟨#[99]⟩ : ByteArray)), (Value.string (⟨#[118, 111, 108, 49]⟩ : ByteArray)), (Value.string (⟨#[115, 110, 97, 112]⟩ : ByteArray)), (Value.string (⟨#[122, 122, 57]⟩ : ByteArray)), (Value.string (⟨#[120]⟩ : ByteArray))] q1.1)).bind fun s2 => some (s2, q1.2)) = some (ba nm, h)) → ∀ h, corbelhand_Name.f k n h = some (ba nm, h) := fun nm e h => by
    unfold corbelhand_Name.f
    rw [pick_f k n 7 h (by decide) (by decide), hj]
    exact e h
  rcases (show j = 0 ∨ j = 1 ∨ j = 2 ∨ j = 3 ∨ j = 4 ∨ j = 5 ∨ j = 6 by omega) with rfl | rfl | rfl | rfl | rfl | rfl | rfl
  · exact ⟨[97], key _ (fun h => rfl), by decide +kernel⟩
  · exact ⟨[98], key _ (fun h => rfl), by decide +kernel⟩
  · exact ⟨[99], key _ (fun h => rfl), by decide +kernel⟩
  · exact ⟨[118, 111, 108, 49], key _ (fun h => rfl), by decide +kernel⟩
  · exact ⟨[115, 110, 97, 112], key _ (fun h => rfl), by decide +kernel⟩
  · exact ⟨[122, 122, 57], key _ (fun h => rfl), by decide +kernel⟩
  · exact ⟨[120], key _ (fun h => rfl), by decide +kernel⟩
theorem odd_f (k : Nat) (n : Int) (s : List UInt8) : ∃ nm, (∀ h, corbelhand_Odd.f k n (ba s) h = some (ba nm, h)) ∧ nm.length ≤ 11 + s.length := by
  by_cases c : n % 40 = 38
  · refine ⟨s, fun h => ?_, by omega⟩
    unfold corbelhand_Odd.f
    rw [pick_f k n 40 h (by decide) (by decide)]
    simp only [Option.bind_some]
    rw [show (n % 40 == (38 : Int)) = true by rw [c]; rfl, cond_true]
  · by_cases d : n % 40 = 39
    · obtain ⟨j, hj⟩ : ∃ j : Nat, (wrapA .i64 (n.tdiv 40)) % 4 = Int.ofNat j := ⟨_, nn _ (Int.emod_nonneg _ (by decide))⟩
      have hj2 : j < 4 := by have := Int.emod_lt_of_pos (wrapA .i64 (n.tdiv 40)) (show (0 : Int) < 4 by decide); rw [hj] at this; simp only [Int.ofNat_eq_natCast] at this; omega
      have key : ∀ nm, (∀ h : H, (some (Int.ofNat j, h) : Option (Int × H)).bind (fun q2 => (asT (ixv 4 1 #[(Value.string (⟨#[]⟩ : ByteArray)), (Value.string (⟨#[85, 112, 112, 101, 114]⟩ : ByteArray)), (Value.string (⟨#[116, 111, 111, 108, 111, 110, 103, 110, 97, 109, 101]⟩ : ByteArray)), (Value.string (⟨#[97, 32, 98]⟩ : ByteArray))] q2.1)).bind fun s3 => some (s3, q2.2)) = some (ba nm, h)) → ∀ h, corbelhand_Odd.f k n (ba s) h = some (ba nm, h) := fun nm e h => by
        unfold corbelhand_Odd.f
        rw [pick_f k n 40 h (by decide) (by decide)]
        simp only [Option.bind_some]
        rw [show (n % 40 == (38 : Int)) = false by rw [beq_eq_false_iff_ne]; exact c, show (n % 40 == (39 : Int)) = true by rw [d]; rfl, cond_false, cond_true, pick_f k _ 4 h (by decide) (by decide), hj]
        exact e h
      rcases (show j = 0 ∨ j = 1 ∨ j = 2 ∨ j = 3 by omega) with rfl | rfl | rfl | rfl
      · exact ⟨[], key _ (fun h => rfl), Nat.zero_le _⟩
      · exact ⟨[85, 112, 112, 101, 114], key _ (fun h => rfl), by simp only [List.length_cons, List.length_nil]; omega⟩
      · exact ⟨[116, 111, 111, 108, 111, 110, 103, 110, 97, 109, 101], key _ (fun h => rfl), by simp only [List.length_cons, List.length_nil]; omega⟩
      · exact ⟨[97, 32, 98], key _ (fun h => rfl), by simp only [List.length_cons, List.length_nil]; omega⟩
    · obtain ⟨nm, e, hn⟩ := name2_f k n
      have := nameLen hn
      refine ⟨nm, fun h => ?_, by omega⟩
      unfold corbelhand_Odd.f
      rw [pick_f k n 40 h (by decide) (by decide)]
      simp only [Option.bind_some]
      rw [show (n % 40 == (38 : Int)) = false by rw [beq_eq_false_iff_ne]; exact c, show (n % 40 == (39 : Int)) = false by rw [beq_eq_false_iff_ne]; exact d, cond_false, cond_false, e h]
      rfl
/-! ### raw acts -/
def actL (a b c d e : Int) (s : List UInt8) : List Value := [.int .i64 a, .int .i64 b, .int .i64 c, .int .i64 d, .int .i64 e, .string (ba s)]
theorem bindAct {β : Type} (a b c d e : Int) (s : List UInt8) (f : FT [.int .i64, .int .i64, .int .i64, .int .i64, .int .i64, .str] → Option β) : (asSt [(.int .i64), (.int .i64), (.int .i64), (.int .i64), (.int .i64), .str] (some (Value.agg (actL a b c d e s).toArray))).bind f = f (show FT [.int .i64, .int .i64, .int .i64, .int .i64, .int .i64, .str] from (a, b, c, d, e, ba s)) := rfl
def ActsR (M : Nat) (h : H) (s : Sl) : Prop := ∀ h', Ch0 h h' → ∀ i, i < s.n → ∃ b o x1 x2 x3 x4 x5 z, z.length ≤ M ∧ ixs 6 s.a s.n (Int.ofNat i) = some (.pointer (some ⟨b, o, none⟩)) ∧ lda 6 h' (some ⟨b, o, none⟩) = some (.agg (actL x1 x2 x3 x4 x5 z).toArray)
theorem ActsR.stay {M : Nat} {h h' : H} {s : Sl} (r : ActsR M h s) (c : Ch0 h h') : ActsR M h' s := fun g cg => r g (c.then cg)
/-! ### TreeApart -/
end Go.Proofs.Ytfenkpghcbohdaa.Fw
