/- Cells in groups of one size, one behind the other. No program, no condition. -/
import Derived.Test.YtbegaeohggkblaaFwIntA
namespace Go.Proofs.Ytbegaeohggkblaa.Fw
open Go Den Fwd
set_option linter.unusedVariables false
set_option linter.unusedSimpArgs false
theorem flat_len {es : Nat} : ∀ {gs : List (List Value)}, (∀ g ∈ gs, g.length = es) → gs.flatten.length = gs.length * es
  | [], _ => by simp
  | g :: gs, h => by
    rw [List.flatten_cons, List.length_append, flat_len fun x hx => h x (List.mem_cons_of_mem _ hx), h g List.mem_cons_self, List.length_cons, Nat.add_mul, Nat.one_mul]; omega
theorem flat_at {es : Nat} : ∀ {gs : List (List Value)}, (∀ g ∈ gs, g.length = es) → ∀ (i : Nat) (hi : i < gs.length), (gs.flatten.drop (i * es)).take es = gs[i]
  | g :: gs, h, 0, _ => by
    have hg := h g List.mem_cons_self
    rw [List.flatten_cons, Nat.zero_mul, List.drop_zero, List.take_append_of_le_length (by omega), List.take_of_length_le (by omega)]; rfl
  | g :: gs, h, i + 1, hi => by
    have hg := h g List.mem_cons_self
    have := flat_at (gs := gs) (fun x hx => h x (List.mem_cons_of_mem _ hx)) i (by rw [List.length_cons] at hi; omega)
    rw [List.flatten_cons, Nat.add_mul, Nat.one_mul, Nat.add_comm, ← List.drop_drop]
    rw [show (g ++ gs.flatten).drop es = gs.flatten by rw [← hg, List.drop_left], this]; rfl
theorem flat_set {es : Nat} : ∀ {gs : List (List Value)}, (∀ g ∈ gs, g.length = es) → ∀ (i : Nat) (hi : i < gs.length) (g' : List Value), g'.length = es → over gs.flatten (i * es) g' = (gs.set i g').flatten
  | g :: gs, h, 0, _, g', hg' => by
    have hg := h g List.mem_cons_self
    unfold over
    rw [Nat.zero_mul, Nat.zero_add, List.take_zero, List.nil_append, List.flatten_cons, hg', ← hg, List.drop_left, List.set_cons_zero, List.flatten_cons]
  | g :: gs, h, i + 1, hi, g', hg' => by
    have hg := h g List.mem_cons_self
    have := flat_set (gs := gs) (fun x hx => h x (List.mem_cons_of_mem _ hx)) i (by rw [List.length_cons] at hi; omega) g' hg'
    rw [List.set_cons_succ, List.flatten_cons, List.flatten_cons, ← this]
    unfold over
    have e : (i + 1) * es = g.length + i * es := by rw [Nat.add_mul, Nat.one_mul, hg]; omega
    rw [e, List.take_append, List.take_of_length_le (by omega), show g.length + i * es - g.length = i * es by omega, List.drop_append, List.drop_eq_nil_of_le (by omega), List.nil_append, show g.length + i * es + g'.length - g.length = i * es + g'.length by omega]
    simp only [List.append_assoc]
theorem set_mapG {α : Type} (f : α → List Value) (l : List α) (i : Nat) (x : α) : (l.set i x).map f = (l.map f).set i (f x) := List.map_set
/-- a group of a block -/
theorem Is.grp {h : H} {b e es0 : Nat} {pre post : List Value} {es : Nat} {gs : List (List Value)} (I : Is h b e es0 (pre ++ gs.flatten ++ post)) (hg : ∀ g ∈ gs, g.length = es) {i : Nat} (hi : i < gs.length) :
    h.gets b (pre.length + i * es) es = some gs[i] ∧ lda es h (some ⟨b, pre.length + i * es, none⟩) = some (.agg gs[i].toArray) := by
  have fl := flat_len hg
  have hle : (i + 1) * es ≤ gs.length * es := Nat.mul_le_mul_right _ hi
  rw [Nat.add_mul, Nat.one_mul] at hle
  have e : (((pre ++ gs.flatten ++ post).drop (pre.length + i * es)).take es) = gs[i] := by
    rw [List.append_assoc, List.drop_append, List.drop_eq_nil_of_le (by omega), List.nil_append, show pre.length + i * es - pre.length = i * es by omega, List.drop_append_of_le_length (by omega), List.take_append_of_le_length (by rw [List.length_drop]; omega), flat_at hg i hi]
  have g1 := I.gets (o := pre.length + i * es) (n := es) (by simp only [List.length_append]; omega)
  rw [e] at g1
  refine ⟨g1, ?_⟩
  show (match h.gets b (pre.length + i * es) es with | some vs => some (Value.agg vs.toArray) | none => none) = _
  rw [g1]
theorem Is.grpSet {h : H} (w : WF h) {b e es0 : Nat} {pre post : List Value} {es : Nat} {gs : List (List Value)} (I : Is h b e es0 (pre ++ gs.flatten ++ post)) (hg : ∀ g ∈ gs, g.length = es) {i : Nat} (hi : i < gs.length) (g' : List Value) (h' : g'.length = es) (h1 : g'.all Den.one = true) :
    ∃ hh, stv es h (some ⟨b, pre.length + i * es, none⟩) g' = some (undef, hh) ∧ Ch (fun z => z = b) h hh ∧ hh.next = h.next ∧ Is hh b e es0 (pre ++ (gs.set i g').flatten ++ post) := by
  have fl := flat_len hg
  have hle : (i + 1) * es ≤ gs.length * es := Nat.mul_le_mul_right _ hi
  rw [Nat.add_mul, Nat.one_mul] at hle
  obtain ⟨hh, a1, a2, a3, a4⟩ := stv_ok w I (o := pre.length + i * es) g' (by simp only [List.length_append]; omega) h1
  rw [h'] at a1
  refine ⟨hh, a1, a2, a3, ?_⟩
  have : over (pre ++ gs.flatten ++ post) (pre.length + i * es) g' = pre ++ (gs.set i g').flatten ++ post := by
    rw [← flat_set hg i hi g' h']
    unfold over
    rw [List.append_assoc pre, List.take_append, List.take_of_length_le (by omega), show pre.length + i * es - pre.length = i * es by omega, List.take_append_of_le_length (by omega), List.drop_append, List.drop_eq_nil_of_le (by omega), List.nil_append, show pre.length + i * es + g'.length - pre.length = i * es + g'.length by omega, List.drop_append_of_le_length (by omega)]
    simp only [List.append_assoc]
  rw [← this]; exact a4
/-- a group of a slice -/
theorem SlR.grp {h : H} {s : Sl} {es : Nat} {gs : List (List Value)} (r : SlR es h s gs.flatten) (hes : 0 < es) (hg : ∀ g ∈ gs, g.length = es) : s.n = gs.length ∧ ∀ (i : Nat) (hi : i < gs.length), ∃ b o, ixs es s.a gs.length (Int.ofNat i) = some (.pointer (some ⟨b, o, none⟩)) ∧ lda es h (some ⟨b, o, none⟩) = some (.agg gs[i].toArray) := by
  have hn : s.n = gs.length := by
    have := r.len
    rw [flat_len hg] at this
    exact (Nat.eq_of_mul_eq_mul_right hes this).symm
  refine ⟨hn, fun i hi => ?_⟩
  obtain ⟨b, o, e1, e2⟩ := r.elem (j := i) (by omega)
  rw [flat_at hg i hi] at e2
  rw [hn] at e1
  refine ⟨b, o, e1, ?_⟩
  show (match h.gets b o es with | some vs => some (Value.agg vs.toArray) | none => none) = _
  rw [e2]
end Go.Proofs.Ytbegaeohggkblaa.Fw
