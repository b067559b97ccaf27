/- 'copy(dst, src)' where dst is a row of the call's own (or a cut of it) and src a row that is read: the row behind it, element by element. No condition. -/
import Derived.Test.YtfenkpghcbohdaaWMore
import Derived.Laws.IdiomCopy
import Derived.Laws.CopyOwn
namespace Go.Proofs.Ytfenkpghcbohdaa.Copy
open Go.RowKit Go.Proofs.YtfenkpghcbohdaaW.PrintWords Go.Proofs.YtfenkpghcbohdaaW.PrintLast Go.Proofs.YtfenkpghcbohdaaW.PrintMore
set_option linter.unusedVariables false
set_option linter.unusedSimpArgs false

/-- xs, with ys laid over it from place o on -/
def lay {α : Type} (xs : List α) : Nat → List α → List α
  | _, [] => xs
  | o, y :: ys => lay (xs.set o y) (o + 1) ys
theorem lay_len {α : Type} : ∀ (ys xs : List α) (o : Nat), (lay xs o ys).length = xs.length
  | [], _, _ => rfl
  | y :: ys, xs, o => by rw [lay, lay_len ys, List.length_set]
theorem lay_get {α : Type} : ∀ (ys xs : List α) (o i : Nat), (lay xs o ys)[i]? = if i < xs.length ∧ o ≤ i ∧ i < o + ys.length then ys[i - o]? else xs[i]?
  | [], xs, o, i => by rw [lay, if_neg (by simp)]
  | y :: ys, xs, o, i => by
    rw [lay, lay_get ys, List.length_set, List.length_cons]
    by_cases h : i = o
    · subst h
      rw [if_neg (by omega)]
      by_cases hl : i < xs.length
      · rw [if_pos (by omega), List.getElem?_set_self hl, Nat.sub_self, List.getElem?_cons_zero]
      · rw [if_neg (by omega), List.getElem?_eq_none (by rw [List.length_set]; omega), List.getElem?_eq_none (by omega)]
    · rw [List.getElem?_set_ne (by omega)]
      by_cases hc : i < xs.length ∧ o + 1 ≤ i ∧ i < o + 1 + ys.length
      · rw [if_pos hc, if_pos (by omega), show i - o = (i - (o + 1)) + 1 by omega, List.getElem?_cons_succ]
      · rw [if_neg hc, if_neg (by omega)]
theorem lay_eq {α : Type} (xs ys : List α) (o : Nat) (h : o + ys.length ≤ xs.length) : lay xs o ys = xs.take o ++ (ys ++ xs.drop (o + ys.length)) := by
  apply List.ext_getElem?
  intro i
  rw [lay_get, List.getElem?_append, List.getElem?_append, List.getElem?_take, List.getElem?_drop, List.length_take]
  by_cases h1 : i < o
  · rw [if_neg (by omega), if_pos (by omega), if_pos h1]
  · rw [if_neg (show ¬ i < min o xs.length by omega), show min o xs.length = o by omega]
    by_cases h2 : i < o + ys.length
    · rw [if_pos (by omega), if_pos (by omega)]
    · rw [if_neg (by omega), if_neg (by omega)]
      congr 1
      omega

section
variable {k : IntKind} {e base g cap : Nat} {ok : Nat → Prop}
theorem R_lay : ∀ (ys : List Int) (o : Nat) (xs : List Int) (W : World), (Kd.int k).R e W base ok (.slice (some ⟨g, 0, none⟩) xs.length cap) xs →
    (Kd.int k).R e (W.setCells g o (ys.map (Value.int k))) base ok (.slice (some ⟨g, 0, none⟩) xs.length cap) (lay xs o ys) ∧ W.grownBy (W.setCells g o (ys.map (Value.int k))) (some g)
  | [], o, xs, W, h => ⟨h, ⟨rfl, rfl, rfl, Nat.le_refl _, fun _ _ _ => rfl⟩⟩
  | y :: ys, o, xs, W, h => by
    have h1 := Kd.R_put h ((o : Nat) : Int) y
    rw [Int.toNat_natCast] at h1
    have h2 := R_lay ys (o + 1) (xs.set o y) _ (by rw [List.length_set]; exact h1.1)
    rw [List.length_set] at h2
    exact ⟨h2.1, h1.2.trans h2.2⟩
theorem below_cells {w0 : World} (hg : base ≤ g) : ∀ (vs : List Value) (o : Nat) (W : World), Below base w0 W → Below base w0 (W.setCells g o vs)
  | [], _, _, h => h
  | v :: vs, o, W, h => below_cells hg vs (o + 1) _ (h.setCell hg v)
theorem copy_row {P : Program} {w0 W : World} {ops : Array Oper} {rest : List Oper} {o : Oper} {a : Act} {Q : Exit → Act → World → Prop} (hgd : o.guard = none) (d s : Operand) (dT sT : TypeId)
    (ho : o.op = .call { callee := .builtin .copy, args := #[d, s], argTypes := #[dT, sT] }) (elem : TypeId) (hu : P.underlying dT = some (.slice elem)) (hsz : (P.info? elem).map (·.size) = some 1)
    (off : Nat) (xs ys : List Int) (g cap dLen dCap : Nat) (A : Option Addr) (c : Nat) (hd : a.eval d = .slice (some ⟨g, off, none⟩) dLen dCap) (hs : a.eval s = .slice A ys.length c)
    (hr : (Kd.int k).R e W base ok (.slice (some ⟨g, 0, none⟩) xs.length cap) xs) (hoff : off + dLen ≤ xs.length) (hsrc : (Kd.int k).C W A ys.length ys) (HB : Below base w0 W) (hg : base ≤ g)
    (h : ∀ W', (Kd.int k).R e W' base ok (.slice (some ⟨g, 0, none⟩) xs.length cap) (lay xs off (ys.take dLen)) → Below base w0 W' → W.grownBy W' (some g) → wpList P ops Q rest (a.put o.dst (goInt (Nat.min ys.length dLen))) W') :
    wpList P ops Q (o :: rest) a W := by
  have hl : (ys.take dLen).length = Nat.min ys.length dLen := by rw [List.length_take]; exact Nat.min_comm _ _
  obtain ⟨h1, h2⟩ := R_lay (ys.take dLen) off xs W hr
  by_cases h0 : Nat.min ys.length dLen = 0
  · refine wpList_copy_nothing hgd d s dT sT ho elem hu hsz _ A dLen dCap ys.length c hd hs h0 ?_
    have e0 : ys.take dLen = [] := List.eq_nil_of_length_eq_zero (by rw [hl, h0])
    have := h W (by rw [e0]; exact hr) HB ⟨rfl, rfl, rfl, Nat.le_refl _, fun _ _ _ => rfl⟩
    rwa [h0] at this
  · have hpos : 0 < ys.length := Nat.lt_of_lt_of_le (Nat.pos_of_ne_zero h0) (Nat.min_le_left _ _)
    obtain ⟨ad, rfl, _⟩ := Kd.at_int hsrc 0 (by omega) (by omega)
    have hn : ((ys.take dLen).map (Value.int k)).length = Nat.min ys.length dLen := by rw [List.length_map, hl]
    have hrun := run_copy_cells (P := P) W dT sT o.type elem g off dLen dCap ad ys.length c ((ys.take dLen).map (Value.int k)) hu hsz hn
      (fun j v hj => by
        rw [List.getElem?_map] at hj
        obtain ⟨y, hy, rfl⟩ := Option.map_eq_some_iff.1 hj
        rw [List.getElem?_take] at hy
        split at hy
        · have hjl : j < ys.length := by
            rcases Nat.lt_or_ge j ys.length with q | q
            · exact q
            · rw [List.getElem?_eq_none q] at hy; cases hy
          obtain ⟨ad', ha, hc⟩ := Kd.at_int hsrc (j : Int) (by omega) (by omega)
          cases ha
          rw [Int.toNat_natCast] at hc
          rw [hc]
          congr 2
          unfold rd
          rw [List.getD_eq_getElem?_getD, Int.toNat_natCast, hy]
          rfl
        · cases hy)
      (fun j hj => by
        have hj2 : j < dLen := Nat.lt_of_lt_of_le (by rw [hn] at hj; exact hj) (Nat.min_le_right _ _)
        have := (Kd.R_celln (0 : Int) hr ((off + j : Nat) : Int) (by omega) (by omega)).1
        rw [Int.toNat_natCast] at this
        rw [this]; rfl)
      (fun j hj => by
        have hj2 : j < dLen := Nat.lt_of_lt_of_le (by rw [hn] at hj; exact hj) (Nat.min_le_right _ _)
        have := (Kd.R_celln (0 : Int) hr ((off + j : Nat) : Int) (by omega) (by omega)).2
        rw [Int.toNat_natCast] at this
        exact this)
      (fun v hv => by
        obtain ⟨y, _, rfl⟩ := List.mem_map.1 hv
        rfl)
    have hfin := h _ h1 (below_cells hg _ off W HB) h2
    rw [← hn] at hfin
    clear h h1 h2
    generalize (ys.take dLen).map (Value.int k) = cs at hrun hfin
    refine wpList_plain hgd fun K hK => ?_
    unfold Oper.wp
    simp [execOp, ho, resolve, invoke, builtin, hd, hs, hrun, Result.andThen]
    exact hK _ _ hfin
/-- dst a whole row of the call's own, made or nil, of whatever length -/
theorem copy_any {P : Program} {w0 W : World} {ops : Array Oper} {rest : List Oper} {o : Oper} {a : Act} {Q : Exit → Act → World → Prop} (hgd : o.guard = none) (d s : Operand) (dT sT : TypeId)
    (ho : o.op = .call { callee := .builtin .copy, args := #[d, s], argTypes := #[dT, sT] }) (elem : TypeId) (hu : P.underlying dT = some (.slice elem)) (hsz : (P.info? elem).map (·.size) = some 1)
    (xs ys : List Int) (v : Value) (A : Option Addr) (c : Nat) (hd : a.eval d = v) (hs : a.eval s = .slice A ys.length c)
    (hr : (Kd.int k).R e W base ok v xs) (hsrc : (Kd.int k).C W A ys.length ys) (HB : Below base w0 W)
    (h : ∀ W', (Kd.int k).R e W' base ok v (lay xs 0 (ys.take xs.length)) → Below base w0 W' → W.grownBy W' v.ownBlock → wpList P ops Q rest (a.put o.dst (goInt (Nat.min ys.length xs.length))) W') :
    wpList P ops Q (o :: rest) a W := by
  by_cases hp : 0 < xs.length
  · obtain ⟨g, cap, rfl, hg, _, _⟩ := Kd.R_form hr hp
    exact copy_row hgd d s dT sT ho elem hu hsz 0 xs ys g cap xs.length cap A c hd hs hr (by omega) hsrc HB hg h
  · obtain ⟨A', c', rfl⟩ := Kd.R_slice hr
    have h0 : xs.length = 0 := by omega
    have hm : Nat.min ys.length xs.length = 0 := by rw [h0]; exact Nat.min_zero _
    refine wpList_copy_nothing hgd d s dT sT ho elem hu hsz A' A xs.length c' ys.length c hd hs hm ?_
    have e0 : ys.take xs.length = [] := by rw [h0]; rfl
    have := h W (by rw [e0]; exact hr) HB ⟨rfl, rfl, rfl, Nat.le_refl _, fun _ _ _ => rfl⟩
    rwa [hm] at this
end
end Go.Proofs.Ytfenkpghcbohdaa.Copy
