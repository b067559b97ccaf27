/- A small machine, run forward: more slots turn nothing. No condition. -/
import Derived.Test.YtnjeafdbifcfhaaDenT
namespace Go.Proofs.Ytnjeafdbifcfhaa.Den
open Go
set_option linter.unusedSimpArgs false
set_option linter.unusedVariables false

def EL (ρ ρ2 : Env) : Prop := ∀ x v, ρ x = some v → ρ2 x = some v
def Le (s S1 : S) : Prop := ∀ t v, s.get t = some v → S1.get t = some v
theorem Le.refl (s : S) : Le s s := fun _ _ h => h
theorem Le.trans {a b c : S} (h : Le a b) (k : Le b c) : Le a c := fun t v q => k t v (h t v q)
theorem Le.env {s S1 : S} (h : Le s S1) : EL (envOf s) (envOf S1) := by
  intro x v hx
  cases x with
  | tmp t => exact h t v hx
  | const u => exact hx
  | global g => cases hx
  | func f => exact hx
theorem Le.put {s S1 : S} (h : Le s S1) (d : Nat) (v : Value) : Le (s.put d v) (S1.put d v) := by
  intro t u hu
  rw [T.get_put] at hu ⊢
  split at hu
  · rename_i e; rw [if_pos e]; exact hu
  · rename_i e; rw [if_neg e]; exact h t u hu
theorem Le.putA {s S1 s' : S} (h : Le s S1) {N : Nat} {d : Option Tmp} {v : Value} (hp : putA N s d v = some s') : ∃ S', putA N S1 d v = some S' ∧ Le s' S' := by
  cases d with
  | none => cases hp; exact ⟨S1, rfl, h⟩
  | some d =>
    have hp : cond (Nat.blt d N) (some (s.put d v)) none = some s' := hp
    obtain ⟨h1, h2⟩ := cond_some hp
    cases h2
    exact ⟨S1.put d v, by show cond (Nat.blt d N) (some (S1.put d v)) none = _; rw [h1]; rfl, h.put d v⟩
theorem envl_mono {ρ ρ2 : Env} (e : EL ρ ρ2) : ∀ {l : List Operand} {vs : List Value}, envl ρ l = some vs → envl ρ2 l = some vs
  | [], vs, h => h
  | x :: l, vs, h => by
    unfold envl at h ⊢
    split at h
    · rename_i v us hv hu; rw [e x v hv, envl_mono e hu]; exact h
    · cases h
theorem envs_mono {ρ ρ2 : Env} (e : EL ρ ρ2) : ∀ {l : List (Nat × Operand)} {vs : List (Nat × Value)}, envs ρ l = some vs → envs ρ2 l = some vs
  | [], vs, h => h
  | (i, x) :: l, vs, h => by
    unfold envs at h ⊢
    split at h
    · rename_i v us hv hu; rw [e x v hv, envs_mono e hu]; exact h
    · cases h
theorem on1_mono {ρ ρ2 : Env} (e : EL ρ ρ2) {f : Value → Option Value} {x : Operand} {v : Value} (h : on1 f (ρ x) = some v) : on1 f (ρ2 x) = some v := by
  cases hq : ρ x with
  | none => rw [hq] at h; cases h
  | some u => rw [hq] at h; rw [e x u hq]; exact h
theorem on2_mono {ρ ρ2 : Env} (e : EL ρ ρ2) {f : Value → Value → Option Value} {x y : Operand} {v : Value} (h : on2 f (ρ x) (ρ y) = some v) : on2 f (ρ2 x) (ρ2 y) = some v := by
  cases hq : ρ x with
  | none => rw [hq] at h; cases h
  | some u => cases hr : ρ y with
    | none => rw [hq, hr] at h; cases h
    | some w => rw [hq, hr] at h; rw [e x u hq, e y w hr]; exact h
theorem bndA_mono {ρ ρ2 : Env} (e : EL ρ ρ2) {x : Option Operand} {d n : Nat} (h : bndA ρ x d = some n) : bndA ρ2 x d = some n := by
  cases x with
  | none => exact h
  | some x =>
    unfold bndA at h ⊢
    simp only at h ⊢
    split at h
    · rename_i k m hq; rw [e x _ hq]; exact h
    · cases h
theorem sliceA_mono {P : Program} {ρ ρ2 : Env} (e : EL ρ ρ2) {t : TypeId} {x : Value} {lo hi mx : Option Operand} {v : Value} (h : sliceA P ρ t x lo hi mx = some v) : sliceA P ρ2 t x lo hi mx = some v := by
  have z3 : ∀ u, zero3 ρ lo hi mx u = some v → zero3 ρ2 lo hi mx u = some v := by
    intro u h
    unfold zero3 at h ⊢
    split at h
    · split at h
      · rename_i l hh h1 h2; rw [bndA_mono e h1, bndA_mono e h2]; exact h
      · cases h
    · rename_i m
      split at h
      · rename_i l hh h1
        split at h
        · rename_i h2 h3 h4 h5; rw [bndA_mono e h1]; simp only; rw [bndA_mono e h4, bndA_mono e h5]; exact h
        · cases h
      · cases h
  have sR : ∀ b o s len cap, sliceR ρ b o s len cap lo hi mx = some v → sliceR ρ2 b o s len cap lo hi mx = some v := by
    intro b o s len cap h
    unfold sliceR at h ⊢
    split at h
    · split at h
      · rename_i l hh h1 h2; rw [bndA_mono e h1, bndA_mono e h2]; exact h
      · cases h
    · rename_i m
      split at h
      · rename_i l hh h1
        split at h
        · rename_i h2 h3 h4 h5; rw [bndA_mono e h1]; simp only; rw [bndA_mono e h4, bndA_mono e h5]; exact h
        · cases h
      · cases h
  unfold sliceA at h ⊢
  split at h
  · split at h
    · unfold sliceS at h ⊢
      split at h
      · rename_i l hh h1 h2; rw [bndA_mono e h1, bndA_mono e h2]; exact h
      · cases h
    · cases h
  · unfold sliceV at h ⊢
    split at h
    · split at h
      · exact z3 _ h
      · exact sR _ _ _ _ _ h
      · exact z3 _ h
      · cases h
    · cases h
  · unfold sliceP at h ⊢
    split at h
    · split at h
      · rename_i l hh h1 h2; rw [bndA_mono e h1, bndA_mono e h2]; exact h
      · cases h
    · cases h
  · cases h
theorem pickO_mono {ρ ρ2 : Env} (e : EL ρ ρ2) {c a b : Operand} {v : Value} (h : pickO ρ c a b = some v) : pickO ρ2 c a b = some v := by
  unfold pickO at h ⊢
  split at h
  · rename_i t hq
    rw [e c _ hq]
    cases t
    · exact e b v h
    · exact e a v h
  · cases h
theorem binO_mono {P : Program} {ρ ρ2 : Env} (e : EL ρ ρ2) {op : BinOp} {t : TypeId} {x y : Operand} {v : Value} (h : binO P ρ op t x y = some v) : binO P ρ2 op t x y = some v := by
  unfold binO at h ⊢
  split at h
  · rename_i a b h1 h2; rw [e x a h1, e y b h2]; exact h
  · cases h
theorem aop_mono {P : Program} {call : CallF} {ρ ρ2 : Env} (e : EL ρ ρ2) {op : Op} {h : H} {v : Value} {h' : H} (k : aop P call op ρ h = some (v, h')) : aop P call op ρ2 h = some (v, h') := by
  have pvm : ∀ {x y : Option Value}, (∀ u, x = some u → y = some u) → pv h x = some (v, h') → pv h y = some (v, h') := by
    intro x y hxy hp
    obtain ⟨h1, h2⟩ := pv_some hp
    rw [hxy v h1, h2]; rfl
  have nvm : ∀ {x y : New}, (∀ u, x = some u → y = some u) → nv h x = some (v, h') → nv h y = some (v, h') := by
    intro x y hxy hp
    cases x with
    | none => cases hp
    | some u => rw [hxy u rfl]; exact hp
  cases op <;> simp only [aop] at k ⊢
  case move x => exact pvm (e x) k
  case assign x => exact pvm (e x) k
  case pick c a b => exact pvm (fun u q => pickO_mono e q) k
  case build t ps =>
    refine pvm (fun u q => ?_) k
    unfold buildO at q ⊢
    split at q
    · rename_i l hl; rw [envs_mono e hl]; exact q
    · cases q
  case nilCheck x => exact pvm (fun u q => on1_mono e q) k
  case binOp op t x y yt => exact pvm (fun u q => binO_mono e q) k
  case unOp op t x => exact pvm (fun u q => on1_mono e q) k
  case makeFunc fn first captured =>
    refine pvm (fun u q => ?_) k
    unfold funcO at q ⊢
    split at q
    · rename_i a c h1 h2; rw [envl_mono e h1, envl_mono e h2]; exact q
    · cases q
  case slice t x lo hi mx =>
    refine pvm (fun u q => ?_) k
    cases hq : ρ x with
    | none => rw [hq] at q; cases q
    | some w => rw [hq] at q; rw [e x w hq]; exact sliceA_mono e q
  case fieldAddr s x f => exact pvm (fun u q => on1_mono e q) k
  case field s x f => exact pvm (fun u q => on1_mono e q) k
  case indexAddr t x i => exact pvm (fun u q => on2_mono e q) k
  case index t x i => exact pvm (fun u q => on2_mono e q) k
  case extract x i => exact pvm (fun u q => on1_mono e q) k
  case load t x => exact pvm (fun u q => on1_mono e q) k
  case lookup t x i ok => exact pvm (fun u q => on2_mono e q) k
  case convert s d x =>
    cases hq : ρ x with
    | none => rw [hq] at k; cases k
    | some w => rw [hq] at k; rw [e x w hq]; exact k
  case alloc t => exact k
  case box t x =>
    refine nvm (fun u q => ?_) k
    cases hq : ρ x with
    | none =>
      rw [hq] at q
      unfold boxA at q
      split at q
      · rename_i hh; cases hh
      · cases q
    | some w => rw [hq] at q; rw [e x w hq]; exact q
  case buildSlice t n ps =>
    refine nvm (fun u q => ?_) k
    cases hq : envs ρ ps.toList with
    | none =>
      unfold buildSliceA at q
      rw [hq] at q
      split at q
      · rename_i hh; cases hh
      · cases q
    | some w => unfold buildSliceA at q ⊢; rw [hq] at q; rw [envs_mono e hq]; exact q
  case makeSlice t l c =>
    refine nvm (fun u q => ?_) k
    cases hq : ρ l with
    | none =>
      unfold makeSliceA at q
      rw [hq] at q
      split at q
      · rename_i hh _; cases hh
      · cases q
    | some w => cases hr : ρ c with
      | none =>
        unfold makeSliceA at q
        rw [hr] at q
        split at q
        · rename_i hh; cases hh
        · cases q
      | some w2 => rw [hq, hr] at q; rw [e l w hq, e c w2 hr]; exact q
  case makeMap t n =>
    cases n with
    | none => exact k
    | some n => cases k
  case range t x =>
    refine nvm (fun u q => ?_) k
    cases hq : ρ x with
    | none =>
      rw [hq] at q
      unfold rangeA at q
      split at q
      · rename_i hh; cases hh
      · cases q
    | some w => rw [hq] at q; rw [e x w hq]; exact q
  case store t x y =>
    cases hq : ρ x with
    | none =>
      rw [hq] at k
      unfold storeO at k
      split at k
      · rename_i hh _; cases hh
      · cases k
    | some w => cases hr : ρ y with
      | none =>
        rw [hr] at k
        unfold storeO at k
        split at k
        · rename_i hh; cases hh
        · cases k
      | some w2 => rw [hq, hr] at k; rw [e x w hq, e y w2 hr]; exact k
  case mapUpdate t m x y =>
    cases hq : ρ m with
    | none => rw [hq] at k; cases k
    | some w => cases hr : ρ x with
      | none => rw [hq, hr] at k; cases k
      | some w2 => cases hz : ρ y with
        | none => rw [hq, hr, hz] at k; cases k
        | some w3 => rw [hq, hr, hz] at k; rw [e m w hq, e x w2 hr, e y w3 hz]; exact k
  case insert t m x y =>
    cases hq : ρ m with
    | none => rw [hq] at k; cases k
    | some w => cases hr : ρ x with
      | none => rw [hq, hr] at k; cases k
      | some w2 => cases hz : ρ y with
        | none => rw [hq, hr, hz] at k; cases k
        | some w3 => rw [hq, hr, hz] at k; rw [e m w hq, e x w2 hr, e y w3 hz]; exact k
  case next it s =>
    cases s with
    | false => cases k
    | true =>
      cases hq : ρ it with
      | none =>
        have k : nextA h (ρ it) = some (v, h') := k
        rw [hq] at k; cases k
      | some w =>
        have k : nextA h (ρ it) = some (v, h') := k
        show nextA h (ρ2 it) = some (v, h')
        rw [hq] at k; rw [e it w hq]; exact k
  case call c =>
    unfold callA at k ⊢
    split at k
    · rename_i vs hvs
      rw [envl_mono e hvs]
      cases hc : c.callee with
      | value f =>
        rw [hc] at k
        simp only at k ⊢
        cases hq : ρ f with
        | none => rw [hq] at k; cases k
        | some w => rw [hq] at k; rw [e f w hq]; exact k
      | builtin b => rw [hc] at k; exact k
      | invoke a b => rw [hc] at k; cases k
    · cases k
  all_goals cases k
theorem aop_noCall {P : Program} {call : CallF} {ρ : Env} {op : Op} {h : H} {r : Value × H} (k : aop P noCall op ρ h = some r) : aop P call op ρ h = some r := by
  cases op <;> try exact k
  case makeMap t n => cases n <;> exact k
  case next t n => cases n <;> exact k
  case call c =>
    simp only [aop] at k ⊢
    unfold callA at k ⊢
    split at k
    · rename_i vs hvs
      cases hc : c.callee with
      | value f =>
        rw [hc] at k
        simp only at k
        unfold enterA at k
        split at k
        · cases k
        · cases k
      | builtin b => rw [hc] at k; exact k
      | invoke a b => rw [hc] at k; cases k
    · cases k
end Go.Proofs.Ytnjeafdbifcfhaa.Den
