/- What an act does to a list of volumes, and what it leaves alone. No program, no condition. -/
import Derived.Test.YtfenkpghcbohdaaPaFwActP
namespace Go.Proofs.Ytfenkpghcbohdaa.Fw
open Go Den Fwd
set_option linter.unusedVariables false
set_option linter.unusedSimpArgs false
def actP (t : List Vol) (what : Int) (of nm : List UInt8) (sz : Int) : Res :=
  if what < 3 then createP t nm sz else if what < 5 then deriveP t of nm true else if what < 7 then deriveP t of nm false else if what = 7 then deleteP t nm else resizeP t nm sz
theorem withP_no {t : List Vol} {v : Vol} : (withP t v).1 = 0 ∨ (withP t v).2 = [] := by
  unfold withP
  by_cases a : hasV t v.nm = true
  · rw [if_pos a]; exact .inr rfl
  · rw [if_neg a]
    by_cases b : 12 ≤ t.length
    · rw [if_pos b]; exact .inr rfl
    · rw [if_neg b]; exact .inl rfl
theorem createP_no {t : List Vol} {nm : List UInt8} {sz : Int} : (createP t nm sz).1 = 0 ∨ (createP t nm sz).2 = [] := by
  unfold createP
  by_cases a : (isName nm && okSize sz) = true
  · rw [if_pos a]; exact withP_no
  · rw [if_neg a]; exact .inr rfl
theorem deriveP_no {t : List Vol} {of nm : List UInt8} {sn : Bool} : (deriveP t of nm sn).1 = 0 ∨ (deriveP t of nm sn).2 = [] := by
  unfold deriveP
  by_cases a : isName nm = true
  · rw [if_pos a]
    cases e : findV t of with
    | none => exact .inr rfl
    | some u =>
      simp only
      by_cases c : u.sn = sn
      · rw [if_pos c]; exact .inr rfl
      · rw [if_neg c]; exact withP_no
  · rw [if_neg a]; exact .inr rfl
theorem deleteP_no {t : List Vol} {nm : List UInt8} : (deleteP t nm).1 = 0 ∨ (deleteP t nm).2 = [] := by
  unfold deleteP
  cases e : findV t nm with
  | none => exact .inr rfl
  | some u =>
    simp only
    by_cases c : (u.sn && t.any (fun x => decide (x.pa = nm))) = true
    · rw [if_pos c]; exact .inr rfl
    · rw [if_neg c]; exact .inl rfl
theorem resizeP_no {t : List Vol} {nm : List UInt8} {sz : Int} : (resizeP t nm sz).1 = 0 ∨ (resizeP t nm sz).2 = [] := by
  unfold resizeP
  cases e : findV t nm with
  | none => exact .inr rfl
  | some u =>
    simp only
    by_cases c : u.sn = true
    · rw [if_pos c]; exact .inr rfl
    · rw [if_neg c]
      by_cases d : okSize sz = true
      · rw [if_pos d]; exact .inl rfl
      · rw [if_neg d]; exact .inr rfl
theorem actP_no {t : List Vol} {what : Int} {of nm : List UInt8} {sz : Int} : (actP t what of nm sz).1 = 0 ∨ (actP t what of nm sz).2 = [] := by
  unfold actP
  by_cases a : what < 3
  · rw [if_pos a]; exact createP_no
  rw [if_neg a]
  by_cases b : what < 5
  · rw [if_pos b]; exact deriveP_no
  rw [if_neg b]
  by_cases c : what < 7
  · rw [if_pos c]; exact deriveP_no
  rw [if_neg c]
  by_cases d : what = 7
  · rw [if_pos d]; exact deleteP_no
  rw [if_neg d]; exact resizeP_no
theorem actP_right {t : List Vol} (R : RightP t) {what : Int} {of nm : List UInt8} {sz : Int} (h : (actP t what of nm sz).1 = 0) : RightP (actP t what of nm sz).2 := by
  unfold actP at h ⊢
  by_cases a : what < 3
  · rw [if_pos a] at h ⊢; exact (createP_right R h).1
  rw [if_neg a] at h ⊢
  by_cases b : what < 5
  · rw [if_pos b] at h ⊢; exact (deriveP_right R h).1
  rw [if_neg b] at h ⊢
  by_cases c : what < 7
  · rw [if_pos c] at h ⊢; exact (deriveP_right R h).1
  rw [if_neg c] at h ⊢
  by_cases d : what = 7
  · rw [if_pos d] at h ⊢; exact deleteP_right R h
  rw [if_neg d] at h ⊢; exact (resizeP_right R h).1
/-- what is laid beside: `back` undoes what a deletion does to a Parent -/
def back (what : Int) (nm : List UInt8) (u v : Vol) : Vol := if what = 7 ∧ u.pa = nm then { v with pa := nm } else v
structure Kept (t next : List Vol) (what : Int) (of nm : List UInt8) : Prop where
  a : ∀ u ∈ t, u.nm = nm → 7 ≤ what ∧ (what = 7 → ∀ v ∈ next, v.nm ≠ nm)
  b : ∀ u ∈ t, u.nm ≠ nm → ∃ v ∈ next, v.nm = u.nm ∧ back what nm u v = u
  c : 2 < what → what < 7 → ∃ f ∈ t, f.nm = of ∧ (⟨nm, of, decide (what < 5), f.sz, f.mp⟩ : Vol) ∈ next
theorem withP_kept {t : List Vol} {v : Vol} (h : (withP t v).1 = 0) : (∀ u ∈ t, u.nm ≠ v.nm) ∧ (∀ u ∈ t, u ∈ (withP t v).2) ∧ v ∈ (withP t v).2 := by
  unfold withP at h ⊢
  by_cases a : hasV t v.nm = true
  · rw [if_pos a] at h; cases h
  rw [if_neg a] at h ⊢
  by_cases b : 12 ≤ t.length
  · rw [if_pos b] at h; cases h
  rw [if_neg b]
  exact ⟨hasV_no.1 (Bool.eq_false_iff.2 a), fun u hu => putP_mem.2 (.inr hu), putP_mem.2 (.inl rfl)⟩
theorem back_self (what : Int) (hw : what ≠ 7) (nm : List UInt8) (u v : Vol) : back what nm u v = v := by unfold back; rw [if_neg (fun f => hw f.1)]
theorem actP_kept {t : List Vol} {what : Int} {of nm : List UInt8} {sz : Int} (h : (actP t what of nm sz).1 = 0) : Kept t (actP t what of nm sz).2 what of nm := by
  unfold actP at h ⊢
  by_cases a : what < 3
  · rw [if_pos a] at h ⊢
    unfold createP at h ⊢
    by_cases c : (isName nm && okSize sz) = true
    · rw [if_pos c] at h ⊢
      obtain ⟨h1, h2, h3⟩ := withP_kept h
      exact ⟨fun u hu e => absurd e (h1 u hu), fun u hu e => ⟨u, h2 u hu, rfl, back_self _ (by omega) _ _ _⟩, fun f => by omega⟩
    · rw [if_neg c] at h; cases h
  rw [if_neg a] at h ⊢
  have dv : ∀ sn, (2 < what → what < 7 → sn = decide (what < 5)) → what < 7 → (deriveP t of nm sn).1 = 0 → Kept t (deriveP t of nm sn).2 what of nm := fun sn es hw h => by
    unfold deriveP at h ⊢
    by_cases c : isName nm = true
    rotate_left
    · rw [if_neg c] at h; cases h
    rw [if_pos c] at h ⊢
    cases e : findV t of with
    | none => rw [e] at h; cases h
    | some u =>
      rw [e] at h
      simp only at h ⊢
      by_cases d : u.sn = sn
      · rw [if_pos d] at h; cases h
      rw [if_neg d] at h ⊢
      obtain ⟨h1, h2, h3⟩ := withP_kept h
      obtain ⟨e1, e2⟩ := findV_some e
      refine ⟨fun u hu e => absurd e (h1 u hu), fun u hu e => ⟨u, h2 u hu, rfl, back_self _ (by omega) _ _ _⟩, fun f1 f2 => ⟨u, e1, e2, ?_⟩⟩
      rw [← es f1 f2]; exact h3
  by_cases b : what < 5
  · rw [if_pos b] at h ⊢
    exact dv true (fun _ _ => (decide_eq_true b).symm) (by omega) h
  rw [if_neg b] at h ⊢
  by_cases c : what < 7
  · rw [if_pos c] at h ⊢
    exact dv false (fun _ _ => (decide_eq_false b).symm) c h
  rw [if_neg c] at h ⊢
  by_cases d : what = 7
  · rw [if_pos d] at h ⊢
    unfold deleteP at h ⊢
    cases e : findV t nm with
    | none => rw [e] at h; cases h
    | some u =>
      rw [e] at h
      simp only at h ⊢
      by_cases g : (u.sn && t.any (fun x => decide (x.pa = nm))) = true
      · rw [if_pos g] at h; cases h
      rw [if_neg g]
      refine ⟨fun u hu e => ⟨by omega, fun _ v hv => ?_⟩, fun u hu e => ⟨unpa nm u, List.mem_map.2 ⟨u, List.mem_filter.2 ⟨hu, decide_eq_true e⟩, rfl⟩, (unpa_nm nm u).1, ?_⟩, fun _ f => by omega⟩
      · obtain ⟨x, hx, rfl⟩ := List.mem_map.1 hv
        rw [(unpa_nm nm x).1]
        exact of_decide_eq_true (List.mem_filter.1 hx).2
      · unfold back unpa
        by_cases q : u.pa = nm
        · rw [if_pos ⟨d, q⟩, if_pos q]
          show (⟨u.nm, nm, u.sn, u.sz, u.mp⟩ : Vol) = u
          rw [← q]
        · rw [if_neg (fun f => q f.2), if_neg q]
  · rw [if_neg d] at h ⊢
    unfold resizeP at h ⊢
    cases e : findV t nm with
    | none => rw [e] at h; cases h
    | some u =>
      rw [e] at h
      simp only at h ⊢
      by_cases g : u.sn = true
      · rw [if_pos g] at h; cases h
      rw [if_neg g] at h ⊢
      by_cases q : okSize sz = true
      rotate_left
      · rw [if_neg q] at h; cases h
      rw [if_pos q]
      refine ⟨fun u hu e => ⟨by omega, fun f => absurd f d⟩, fun u hu e => ⟨resz nm sz u, List.mem_map.2 ⟨u, hu, rfl⟩, (resz_nm nm sz u).1, ?_⟩, fun _ f => by omega⟩
      rw [back_self _ d]
      unfold resz
      rw [if_neg e]
end Go.Proofs.Ytfenkpghcbohdaa.Fw
