/- A small machine for closed runs: its operations on values are the real ones. No condition. -/
import Derived.Test.YtnjeafdbifcfhaaDenB
import Derived.Laws.Entries
namespace Go.Proofs.Ytnjeafdbifcfhaa.Den
open Go
set_option linter.unusedSimpArgs false
set_option linter.unusedVariables false

theorem VR.int_inv {σ : Sg} {k : IntKind} {n : Int} {v : Value} (h : VR σ (.int k n) v) : v = .int k n := by cases h; rfl
theorem VR.bool_inv {σ : Sg} {b : Bool} {v : Value} (h : VR σ (.bool b) v) : v = .bool b := by cases h; rfl
theorem VR.string_inv {σ : Sg} {s : ByteArray} {v : Value} (h : VR σ (.string s) v) : v = .string s := by cases h; rfl

theorem wrap_small (k : IntKind) (n : Int) (hk : k.signed = true) (h : -(2 ^ (k.bits - 1) : Int) ≤ n ∧ n < (2 ^ (k.bits - 1) : Int)) : k.wrap n = n := by
  unfold IntKind.wrap
  cases k <;> simp [IntKind.signed, IntKind.bits] at hk h ⊢ <;> (split <;> omega)
theorem wrapA_eq (k : IntKind) (n : Int) : wrapA k n = k.wrap n := by
  have e : ∀ (c : Bool) (a b x : Int), (c = true → a = x) → b = x → cond c a b = x := fun c a b x h1 h2 => by cases c; exact h2; exact h1 rfl
  unfold wrapA
  split
  · rename_i m
    refine e _ _ _ _ (fun h => ?_) rfl
    have h := Nat.le_of_ble_eq_true h
    rw [wrap_small .i64 _ rfl]
    simp [IntKind.bits]; omega
  · rename_i m
    refine e _ _ _ _ (fun h => ?_) rfl
    have h := Nat.le_of_ble_eq_true h
    rw [wrap_small .i64 _ rfl]
    simp [IntKind.bits]; omega
  · rename_i m; simp only [IntKind.wrap, IntKind.signed, IntKind.bits]; simp; rfl
  · rename_i m; simp only [IntKind.wrap, IntKind.signed, IntKind.bits]; simp; rfl
  · rename_i m
    refine e _ _ _ _ (fun h => ?_) rfl
    have h := Nat.le_of_ble_eq_true h
    rw [wrap_small .i32 _ rfl]
    simp [IntKind.bits]; omega
  · rfl

theorem cond_some {α : Type} {c : Bool} {x : Option α} {y : α} (h : cond c x none = some y) : c = true ∧ x = some y := by cases c <;> simp at h; exact ⟨rfl, h⟩
theorem cond_none {α : Type} {c : Bool} {x : Option α} {y : α} (h : cond c none x = some y) : c = false ∧ x = some y := by cases c <;> simp at h; exact ⟨rfl, h⟩

theorem intA_run {P : Program} {w : World} {op : BinOp} {k : IntKind} {a b : Int} {v : Value} (h : intA op k a b = some v) (t : TypeId) (hs : op ≠ .shl ∧ op ≠ .shr) : (binOp op t (.int k a) (.int k b)).run P w = .ok v w ∧ ∀ σ, VR σ v v := by
  have bits : ∀ (x y : Nat) (f : Nat → Nat → Nat), (Nat.blt x (2 ^ k.bits) && Nat.blt y (2 ^ k.bits)) = true → (BitVec.ofInt k.bits (.ofNat x)).toNat = x ∧ (BitVec.ofInt k.bits (.ofNat y)).toNat = y := by
    intro x y f hc
    simp only [Bool.and_eq_true] at hc
    have h1 := Nat.le_of_ble_eq_true hc.1
    have h2 := Nat.le_of_ble_eq_true hc.2
    constructor
    · rw [show BitVec.ofInt k.bits (.ofNat x) = BitVec.ofNat k.bits x from rfl, BitVec.toNat_ofNat]; exact Nat.mod_eq_of_lt h1
    · rw [show BitVec.ofInt k.bits (.ofNat y) = BitVec.ofNat k.bits y from rfl, BitVec.toNat_ofNat]; exact Nat.mod_eq_of_lt h2
  unfold intA at h
  split at h <;> (try (split at h))
  all_goals first
    | (cases h; done)
    | (exact absurd rfl hs.1)
    | (exact absurd rfl hs.2)
    | (cases h; simp [binOp, Op.intArith, Op.intCmp, wrapA_eq]; intro σ; constructor)
    | (obtain ⟨hc, h⟩ := cond_none h; cases h; simp at hc; simp [binOp, Op.intDiv, hc, wrapA_eq]; intro σ; constructor)
    | (obtain ⟨hc, h⟩ := cond_some h; cases h
       rename_i x y
       obtain ⟨h1, h2⟩ := bits x y (fun a _ => a) hc
       refine ⟨?_, fun σ => .int _ _⟩
       simp only [binOp, ne_eq, not_true_eq_false, if_false, Op.intBits, BitVec.toNat_and, BitVec.toNat_or, BitVec.toNat_xor, BitVec.toNat_not, h1, h2, Sem.run_pure, wrapA_eq]
       rfl)

theorem strA_run {P : Program} {w : World} {op : BinOp} {a b : ByteArray} {v : Value} (h : strA op a b = some v) (t : TypeId) (hs : op ≠ .shl ∧ op ≠ .shr) : (binOp op t (.string a) (.string b)).run P w = .ok v w ∧ ∀ σ, VR σ v v := by
  unfold strA at h
  split at h
  · obtain ⟨hc, h⟩ := cond_some h
    cases h
    have hc := Nat.le_of_ble_eq_true hc
    refine ⟨?_, fun σ => .string _⟩
    have : ¬ ((a.size + b.size : Nat) : Int) > IntKind.i64.max := by
      have e : IntKind.i64.max = 9223372036854775807 := by decide
      rw [e]; omega
    simp [binOp, Op.stringOp, if_neg this]
    try omega
  all_goals first
    | (cases h; done)
    | (cases h; exact ⟨by simp [binOp, Op.stringOp], fun σ => .bool _⟩)

theorem eqA_run {P : Program} {w : World} {σ : Sg} {t : TypeId} {x y x' y' : Value} {b : Bool} (h : eqA (P.underlying t) x y = some b) (hx : VR σ x x') (hy : VR σ y y') : (Op.equal t x' y').run P w = .ok b w := by
  unfold eqA at h
  unfold Op.equal Op.maxDepth Op.equalIn
  split at h
  all_goals first
    | (cases h; done)
    | (rename_i hd; cases h; cases hx <;> cases hy <;> simp [run_underlying hd])
    | (rename_i hd _; cases h; cases hx <;> cases hy <;> simp [run_underlying hd])
    | (rename_i hd _ _ _; cases h; cases hx <;> cases hy <;> simp [run_underlying hd])
    | (rename_i hd _ _; cases h; cases hx <;> cases hy <;> simp [run_underlying hd])

theorem eqGuard_scalar {P : Program} {w : World} (op : BinOp) (t : TypeId) (x y : Operand) {a b : Value} (ha : one a = true) (hn : a ≠ .nilIface) : (eqGuard op t x y a b).run P w = .ok () w := by
  unfold eqGuard
  cases hop : (!(op matches .eql | .neq))
  · simp only [Bool.false_eq_true, if_false]
    cases a <;> simp [one] at ha hn ⊢
  · simp

theorem binA_run {P : Program} {w : World} {σ : Sg} {op : BinOp} {t : TypeId} {x y x' y' v : Value} (h : binA P op t x y = some v) (hx : VR σ x x') (hy : VR σ y y') (ox oy : Operand) :
    (do eqGuard op t ox oy x' y'; binOp op t x' y' : Sem Value).run P w = .ok v w ∧ VR σ v v := by
  unfold binA at h
  have e1 : ∀ {b : Bool}, eqA (P.underlying t) x y = some b → (eqGuard op t ox oy x' y').run P w = .ok () w := fun {b} h => by
    refine eqGuard_scalar op t ox oy ?_ ?_
    · rw [hx.one]; cases x <;> first | rfl | (unfold eqA at h; split at h <;> simp_all)
    · intro hn; subst hn; cases hx; unfold eqA at h; split at h <;> simp_all
  split at h
  · split at h
    · rename_i m; cases h; have := hx.int_inv; subst this; have := hy.int_inv; subst this
      refine ⟨?_, .int _ _⟩
      rw [Sem.run_bind, eqGuard_scalar _ _ _ _ rfl (by simp)]
      simp [binOp, Op.shift, wrapA_eq]
      intro hh; exact absurd hh (by omega)
    · cases h
  · split at h
    · rename_i m; cases h; have := hx.int_inv; subst this; have := hy.int_inv; subst this
      refine ⟨?_, .int _ _⟩
      rw [Sem.run_bind, eqGuard_scalar _ _ _ _ rfl (by simp)]
      simp [binOp, Op.shift, wrapA_eq]
      intro hh; exact absurd hh (by omega)
    · cases h
  · rename_i hs1 hs2
    split at h
    · rename_i hk; subst hk; have := hx.int_inv; subst this; have := hy.int_inv; subst this
      obtain ⟨h1, h2⟩ := intA_run (P := P) (w := w) h t ⟨fun e => hs1 e, fun e => hs2 e⟩
      exact ⟨by rw [Sem.run_bind, eqGuard_scalar _ _ _ _ rfl (by simp)]; exact h1, h2 σ⟩
    · cases h
  · rename_i hs1 hs2
    have := hx.string_inv; subst this; have := hy.string_inv; subst this
    obtain ⟨h1, h2⟩ := strA_run (P := P) (w := w) h t ⟨fun e => by subst e; simp [strA] at h, fun e => by subst e; simp [strA] at h⟩
    exact ⟨by rw [Sem.run_bind, eqGuard_scalar _ _ _ _ rfl (by simp)]; exact h1, h2 σ⟩
  · split at h
    · rename_i b hb; cases h
      refine ⟨?_, .bool _⟩
      rw [Sem.run_bind, e1 hb]
      have := eqA_run (P := P) (w := w) hb hx hy
      unfold eqA at hb
      split at hb
      all_goals first
        | (cases hb; done)
        | (cases hx <;> cases hy <;> simp [binOp, this])
    · cases h
  · split at h
    · rename_i b hb; cases h
      refine ⟨?_, .bool _⟩
      rw [Sem.run_bind, e1 hb]
      have := eqA_run (P := P) (w := w) hb hx hy
      unfold eqA at hb
      split at hb
      all_goals first
        | (cases hb; done)
        | (cases hx <;> cases hy <;> simp [binOp, this])
    · cases h
  · cases h

theorem unA_run {P : Program} {w : World} {σ : Sg} {op : UnOp} {x x' v : Value} (h : unA op x = some v) (hx : VR σ x x') : (Op.unary op x').run P w = .ok v w ∧ VR σ v v := by
  unfold unA at h
  split at h
  · cases h; have := hx.int_inv; subst this; exact ⟨by simp [Op.unary, Op.intArith, wrapA_eq], .int _ _⟩
  · cases h; have := hx.bool_inv; subst this; exact ⟨by simp [Op.unary], .bool _⟩
  · cases h

/-! ### types -/
theorem sizeA_run {P : Program} {t : TypeId} {n : Nat} (h : sizeA P t = some n) (w : World) : (sizeOf t).run P w = .ok n w := by
  unfold sizeA at h
  split at h
  · cases h
  · rename_i i hi; cases h; simp [sizeOf, typeInfo, hi]
theorem info_run {P : Program} {t : TypeId} {i : TypeInfo} (h : P.info? t = some i) (w : World) : (typeInfo t).run P w = .ok i w := by simp [typeInfo, h]
theorem zeroA_run {P : Program} {t : TypeId} {z : Value} (h : zeroA P t = some z) (w : World) : (zeroValue t).run P w = .ok z w ∧ plain z = true := by
  unfold zeroA at h
  split at h
  · cases h
  · rename_i i hi
    split at h
    · cases h
    · rename_i z' hz
      obtain ⟨hc, h⟩ := cond_some h
      cases h
      exact ⟨by simp [zeroValue, typeInfo, hi, hz], hc⟩
theorem isAggA_run {P : Program} {t : TypeId} {b : Bool} (h : isAggA P t = some b) (w : World) : (isAgg t).run P w = .ok b w := by
  unfold isAggA at h
  split at h
  · cases h
  · rename_i hd; cases h; simp [isAgg, run_underlying hd]
  · rename_i hd; cases h; simp [isAgg, run_underlying hd]
  · rename_i d h1 h2 hd; cases h
    simp only [isAgg, Sem.run_bind, run_underlying hd, Result.andThen_ok]
    cases d <;> first | rfl | (exact absurd rfl (h1 _)) | (exact absurd rfl (h2 _ _)) | (exact (h1 _ rfl).elim) | (exact (h2 _ _ rfl).elim)
end Go.Proofs.Ytnjeafdbifcfhaa.Den
