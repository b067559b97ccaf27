/- Trees acted upon: plain lists. No program, no condition. -/
import Derived.Test.YtfenkpghcbohdaaPcFwTreeC
namespace Go.Proofs.Ytfenkpghcbohdaa.Fw
open Go Den Fwd
set_option linter.unusedVariables false
set_option linter.unusedSimpArgs false
def hasV (t : List Vol) (nm : List UInt8) : Bool := t.any fun u => decide (u.nm = nm)
def putP (t : List Vol) (v : Vol) : List Vol := t.takeWhile (fun u => less u.nm v.nm) ++ v :: t.dropWhile (fun u => less u.nm v.nm)
abbrev Res := Int × List Vol
def withP (t : List Vol) (v : Vol) : Res := if hasV t v.nm then (11, []) else if 12 ≤ t.length then (6, []) else (0, putP t v)
def zerosI (sz : Int) : List Int := List.replicate (sz / 8).toNat 0
def createP (t : List Vol) (nm : List UInt8) (sz : Int) : Res := if isName nm && okSize sz then withP t ⟨nm, [], false, sz, zerosI sz⟩ else (1, [])
def sizedP (m : List Int) (sz : Int) : List Int := (m ++ zerosI sz).take (sz / 8).toNat
theorem tw_take {α : Type} {p : α → Bool} : ∀ {t : List α} {j : Nat}, j ≤ t.length → (∀ a (ha : a < t.length), a < j → p t[a] = true) → (∀ hj : j < t.length, p t[j] = false) → t.takeWhile p = t.take j ∧ t.dropWhile p = t.drop j
  | [], j, hj, _, _ => by
    have : j = 0 := by simpa using hj
    subst this
    exact ⟨rfl, rfl⟩
  | x :: t, 0, _, _, h2 => by
    have h := h2 (by simp)
    have h : p x = false := h
    rw [List.takeWhile_cons, List.dropWhile_cons, h]
    exact ⟨rfl, rfl⟩
  | x :: t, j + 1, hj, h1, h2 => by
    have h : p x = true := h1 0 (by simp) (by omega)
    rw [List.length_cons] at hj
    obtain ⟨e1, e2⟩ := tw_take (p := p) (t := t) (j := j) (by omega) (fun a ha haj => h1 (a + 1) (by rw [List.length_cons]; omega) (by omega)) (fun hj' => h2 (by rw [List.length_cons]; omega))
    rw [List.takeWhile_cons, List.dropWhile_cons, h]
    exact ⟨by rw [if_pos rfl, e1]; rfl, by rw [if_pos rfl, e2]; rfl⟩
theorem putP_of {t : List Vol} {v : Vol} {j : Nat} (hj : j ≤ t.length) (h1 : ∀ a (ha : a < t.length), a < j → less t[a].nm v.nm = true) (h2 : ∀ hj : j < t.length, less t[j].nm v.nm = false) : t.take j ++ v :: t.drop j = putP t v := by
  obtain ⟨e1, e2⟩ := tw_take (p := fun u : Vol => less u.nm v.nm) hj h1 h2
  unfold putP
  rw [e1, e2]
theorem putP_pos (t : List Vol) (v : Vol) : ∃ j, j ≤ t.length ∧ (∀ a (ha : a < t.length), a < j → less t[a].nm v.nm = true) ∧ (∀ hj : j < t.length, less t[j].nm v.nm = false) := by
  induction t with
  | nil => exact ⟨0, Nat.le_refl _, (fun a ha f => by omega), (fun hj => by cases hj)⟩
  | cons x t ih =>
    cases h : less x.nm v.nm with
    | false => exact ⟨0, Nat.zero_le _, (fun a ha f => by omega), (fun _ => h)⟩
    | true =>
      obtain ⟨j, h1, h2, h3⟩ := ih
      refine ⟨j + 1, by rw [List.length_cons]; omega, fun a ha f => ?_, fun hj => h3 (by rw [List.length_cons] at hj; omega)⟩
      cases a with
      | zero => exact h
      | succ a => exact h2 a (by rw [List.length_cons] at ha; omega) (by omega)
theorem hasV_iff {t : List Vol} {nm : List UInt8} : hasV t nm = true ↔ ∃ u ∈ t, u.nm = nm := by
  unfold hasV
  rw [List.any_eq_true]
  constructor
  · rintro ⟨u, h1, h2⟩
    exact ⟨u, h1, of_decide_eq_true h2⟩
  · rintro ⟨u, h1, h2⟩
    exact ⟨u, h1, decide_eq_true h2⟩
theorem hasV_no {t : List Vol} {nm : List UInt8} : hasV t nm = false ↔ ∀ u ∈ t, u.nm ≠ nm := by
  rw [Bool.eq_false_iff, ne_eq, hasV_iff]
  constructor
  · intro h u hu e; exact h ⟨u, hu, e⟩
  · rintro h ⟨u, hu, e⟩; exact h u hu e
theorem putP_right {t : List Vol} (R : RightP t) (v : Vol) (hv : isName v.nm = true) (hm : rightMap v.sz v.mp = true) (hno : ∀ u ∈ t, u.nm ≠ v.nm) (hp : parP t v) (hl : t.length < 12) : RightP (putP t v) := by
  obtain ⟨j, h1, h2, h3⟩ := putP_pos t v
  rw [← putP_of h1 h2 h3]
  exact put_right R v hv hm hno hp hl j h1 h2 h3
theorem zerosI_len {sz : Int} (h : okSize sz = true) : ((zerosI sz).length : Int) = sz / 8 := by
  obtain ⟨z1, z2, z3⟩ := okSize_iff.1 h
  unfold zerosI
  rw [List.length_replicate]
  omega
theorem right_zeros {sz : Int} (h : okSize sz = true) : rightMap sz (zerosI sz) = true := by
  unfold rightMap
  rw [h, Bool.true_and, Bool.and_eq_true, decide_eq_true_eq]
  refine ⟨zerosI_len h, ?_⟩
  rw [List.all_eq_true]
  intro x hx
  rw [(List.mem_replicate.1 hx).2]; rfl
/-! ### what is done leaves a list right -/
theorem withP_right {t : List Vol} (R : RightP t) {v : Vol} (hv : isName v.nm = true) (hm : rightMap v.sz v.mp = true) (hp : parP t v) : (withP t v).1 = 0 → RightP (withP t v).2 ∧ (withP t v).2 ≠ [] := by
  unfold withP
  cases h : hasV t v.nm with
  | true => intro f; simp at f
  | false =>
    by_cases c : 12 ≤ t.length
    · rw [if_pos c]; intro f; simp at f
    · rw [if_neg c]
      intro _
      exact ⟨putP_right R v hv hm (hasV_no.1 h) hp (by omega), by show putP t v ≠ []; unfold putP; simp⟩
theorem createP_right {t : List Vol} (R : RightP t) {nm : List UInt8} {sz : Int} (h : (createP t nm sz).1 = 0) : RightP (createP t nm sz).2 ∧ (createP t nm sz).2 ≠ [] := by
  unfold createP at h ⊢
  by_cases c : (isName nm && okSize sz) = true
  · rw [if_pos c] at h ⊢
    rw [Bool.and_eq_true] at c
    exact withP_right R c.1 (right_zeros c.2) (.inl rfl) h
  · rw [if_neg c] at h
    cases h
end Go.Proofs.Ytfenkpghcbohdaa.Fw
