/- Matrices of raw numbers; products, inverses, sameness by what is read. No condition. -/
import Derived.Test.YtnjeafdbifcfhaaPbFwLinP
import Derived.Test.YtnjeafdbifcfhaaPbFMat
namespace Go.Proofs.Ytnjeafdbifcfhaa.Fw
open Go Den Fwd GF
set_option linter.unusedVariables false
set_option linter.unusedSimpArgs false
/-- what is read as this matrix -/
def MxI (h : H) (s : Sl) (r c : Nat) (m : Mx) : Prop := ∃ ps, MxR h s ps ∧ mxv ps = m ∧ Dim r c m
theorem MxI.stay {h h' : H} {s : Sl} {r c : Nat} {m : Mx} (w : WF h) (k : Ch0 h h') (A : MxI h s r c m) : MxI h' s r c m := by
  obtain ⟨ps, a, b⟩ := A
  exact ⟨ps, a.stay w k, b⟩
theorem MxI.n {h : H} {s : Sl} {r c : Nat} {m : Mx} (A : MxI h s r c m) : s.n = r := by
  obtain ⟨ps, a, b, d⟩ := A
  rw [a.n, ← mxv_len, b, d.n]
theorem Dim.hd {r c : Nat} {m : Mx} (d : Dim r c m) (h : 0 < r) : (Fw.hd m).length = c := by
  obtain ⟨n, w⟩ := d
  cases m with
  | nil => simp at n; omega
  | cons x l => exact w x List.mem_cons_self
theorem Dim.rt {r c : Nat} {m : Mx} (d : Dim r c m) (h1 : 0 < r) (h2 : r ≤ 64) (h3 : 0 < c) (h4 : c ≤ 64) : RtM m where
  n0 := by rw [d.n]; exact h1
  n1 := by rw [d.n]; exact h2
  c0 := by rw [d.hd h1]; exact h3
  c1 := by rw [d.hd h1]; exact h4
  al := fun r hr => by rw [d.hd h1]; exact d.w r hr
theorem MxI.mul (k : Nat) (hk : 1000 < k) {fb : Nat} {h : H} (w : WF h) (F : FldR h fb) {sa sb : Sl} {r n c : Nat} {a b : Mx} (A : MxI h sa r n a) (B : MxI h sb n c b) (h1 : 0 < r) (h2 : r ≤ 64) (h3 : 0 < n) (h4 : n ≤ 64) (h5 : 0 < c) (h6 : c ≤ 64) :
    ∃ s h', matrix_Mul.f k (some ⟨fb, 0, none⟩) sa sb h = some (s, h') ∧ Ch0 h h' ∧ MxI h' s r c (mulM a b) := by
  obtain ⟨ps, a1, rfl, a3⟩ := A
  obtain ⟨qs, b1, rfl, b3⟩ := B
  obtain ⟨out, os, h', c1, c2, c3⟩ := mmul_f k hk w F a1 b1 (a3.rt h1 h2 h3 h4) (b3.rt h3 h4 h5 h6) (by rw [a3.hd h1, b3.n])
  exact ⟨out, h', c1, c2.ch, os, c2.mxr, c3, mulM_dim a3 b3 h3⟩
theorem MxI.same (k : Nat) (hk : 1000 < k) {h : H} {sa sb : Sl} {r c r' c' : Nat} {a b : Mx} (A : MxI h sa r c a) (B : MxI h sb r' c' b) (h2 : r ≤ 64) (h6 : c ≤ 64) : matrix_Same.f k sa sb h = some (decide (a = b), h) := by
  obtain ⟨ps, a1, rfl, a3⟩ := A
  obtain ⟨qs, b1, rfl, b3⟩ := B
  exact msame_f k hk a1 b1 (by have := a3.n; rw [mxv_len] at this; omega) fun p hp => by
    have := a3.w p.2 (List.mem_map.2 ⟨p, hp, rfl⟩)
    omega
theorem MxI.inv (k : Nat) (hk : 1000 < k) {fb : Nat} {h : H} (w : WF h) (F : FldR h fb) {sa : Sl} {n : Nat} {a : Mx} (A : MxI h sa n n a) (h1 : 0 < n) (h2 : n ≤ 64) :
    ∃ s ok h', matrix_Inverse.f k (some ⟨fb, 0, none⟩) sa h = some ((s, ok), h') ∧ Ch0 h h' ∧ ((ok = false ∧ invP a = none) ∨ ∃ x, ok = true ∧ invP a = some x ∧ MxI h' s n n x ∧ mulM x a = idM n ∧ mulM a x = idM n) := by
  obtain ⟨ps, a1, rfl, a3⟩ := A
  obtain ⟨s, ok, h', b1, b2, b3⟩ := inv_sq_f k hk w F a1 (a3.rt h1 h2 h1 h2) (by rw [a3.hd h1, ← mxv_len, a3.n])
  refine ⟨s, ok, h', b1, b2, b3.imp (fun x => x) ?_⟩
  rintro ⟨os, c1, c2, c3⟩
  rcases invP_cases a3 h1 with ⟨y, e, dy, y1, y2⟩ | ⟨e, _⟩
  · rw [c2] at e
    cases e
    exact ⟨_, c1, c2, ⟨os, c3, rfl, dy⟩, y1, y2⟩
  · rw [c2] at e; cases e
theorem MxI.id (k : Nat) (hk : 1000 < k) {h : H} (w : WF h) (n : Nat) (h1 : 1 ≤ n) (hn : n ≤ 64) : ∃ s h', matrix_Identity.f k (Int.ofNat n) h = some (s, h') ∧ Ch0 h h' ∧ MxI h' s n n (idM n) := by
  obtain ⟨s, ps, h', a1, a2, a3, _⟩ := mid_f k hk w n h1 hn
  exact ⟨s, h', a1, a2.ch, ps, a2.mxr, a3, idM_dim n⟩
end Go.Proofs.Ytnjeafdbifcfhaa.Fw
