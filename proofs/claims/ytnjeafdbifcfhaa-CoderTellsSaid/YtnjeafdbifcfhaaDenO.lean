/- A small machine for closed runs: its calls are the real ones, if its drawn regions are. No condition. -/
import Derived.Test.YtnjeafdbifcfhaaDenM
namespace Go.Proofs.Ytnjeafdbifcfhaa.Den
open Go
variable {ds : List Deferred}
set_option linter.unusedSimpArgs false
set_option linter.unusedVariables false

theorem slotsOf_get : ∀ (l : List Value) (s : S) (i t : Nat) (v : Value), (slotsOf s i l).get t = some v → (i ≤ t ∧ l[t - i]? = some v) ∨ s.get t = some v
  | [], s, i, t, v, h => .inr h
  | u :: l, s, i, t, v, h => by
    have h : (slotsOf (s.put i u) (i + 1) l).get t = some v := h
    rcases slotsOf_get l (s.put i u) (i + 1) t v h with ⟨h1, h2⟩ | h1
    · refine .inl ⟨by omega, ?_⟩
      rw [show t - i = (t - (i + 1)) + 1 by omega]; simpa using h2
    · rw [T.get_put] at h1
      split at h1
      · rename_i e; subst e; cases h1; exact .inl ⟨Nat.le_refl _, by simp⟩
      · exact .inr h1

theorem loadCell_run {P : Program} {σ : Sg} {h : H} {w : World} (R : Rel σ h w) {t : TypeId} {x x' v : Value} (hx : VR σ x x') (hl : loadA P t h x = some v) :
    ∃ v', (do loadVar t (← asAddr x') : Sem Value).run P w = .ok v' w ∧ VR σ v v' := by
  obtain ⟨v', k1, k2⟩ := loadA_run (P := P) R.core hl hx
  refine ⟨v', ?_, k2⟩
  unfold loadA at hl
  split at hl
  · cases hx with
    | ptr _ hj => simpa [Instr.loadAt, Instr.sureAddr, asAddr] using k1
  · cases hl

theorem resA_run {P : Program} {σ : Sg} {N : Nat} {h : H} {w : World} (R : Rel σ h w) {s : S} {a : Act} (hs : SR σ N ds s a) (F : ResultVar → Sem Value) (hF : ∀ t, F (.tmp t) = Pure.pure (a.tmps.getD t undef)) (hF2 : ∀ c t, F (.cell c t) = do loadVar t (← asAddr (a.tmps.getD c undef))) :
    ∀ {l : List ResultVar} {vs : List Value}, resA P s h l = some vs → ∃ vs', (l.mapM F : Sem (List Value)).run P w = .ok vs' w ∧ VRs σ vs vs'
  | [], vs, hr => by cases hr; exact ⟨[], rfl, .nil⟩
  | .tmp t :: l, vs, hr => by
    unfold resA at hr
    split at hr
    · rename_i v us hv hu
      cases hr
      obtain ⟨us', k1, k2⟩ := resA_run R hs F hF hF2 hu
      obtain ⟨v', k3, k4⟩ := hs.get t v hv
      refine ⟨v' :: us', ?_, .cons k4 k2⟩
      have : a.tmps.getD t undef = v' := by simp [k3]
      simp only [List.mapM_cons, hF, Sem.run_bind, Sem.run_pure, Result.andThen_ok, this]
      rw [k1]; rfl
    · cases hr
  | .cell c t :: l, vs, hr => by
    unfold resA at hr
    split at hr
    · rename_i x us hv hu
      obtain ⟨us', k1, k2⟩ := resA_run R hs F hF hF2 hu
      obtain ⟨p', k3, k4⟩ := hs.get c _ hv
      have e : a.tmps.getD c undef = p' := by simp [k3]
      split at hr
      · rename_i u hl
        cases hr
        obtain ⟨v', q1, q2⟩ := loadCell_run R k4 hl
        refine ⟨v' :: us', ?_, .cons q2 k2⟩
        simp only [List.mapM_cons, hF2, Sem.run_bind, Sem.run_pure, Result.andThen_ok, e]
        simp only [Sem.run_bind] at q1
        rw [q1]; simp only [Result.andThen_ok]; rw [k1]; rfl
      · cases hr
    · cases hr

def resV : List Value → Value
  | [v] => v
  | vs => .tuple vs.toArray
theorem results_run {P : Program} {σ : Sg} {N : Nat} {h : H} {w : World} (R : Rel σ h w) {s : S} {a : Act} (hs : SR σ N ds s a) {fn : Func} {vs : List Value} (hr : resA P s h fn.results.toList = some vs) :
    ∃ v', (results fn a.tmps).run P w = .ok v' w ∧ VR σ (resV vs) v' := by
  have key : ∀ F : ResultVar → Sem Value, (∀ t, F (.tmp t) = Pure.pure (a.tmps.getD t undef)) → (∀ c t, F (.cell c t) = do loadVar t (← asAddr (a.tmps.getD c undef))) →
      ∃ v', (do let vs ← List.toArray <$> fn.results.toList.mapM F; Pure.pure (if h : vs.size = 1 then vs[0] else .tuple vs) : Sem Value).run P w = .ok v' w ∧ VR σ (resV vs) v' := by
    intro F h1 h2
    obtain ⟨vs', k1, k2⟩ := resA_run R hs F h1 h2 hr
    refine ⟨if h : vs'.toArray.size = 1 then vs'.toArray[0] else .tuple vs'.toArray, ?_, ?_⟩
    · rw [Sem.run_bind, Sem.run_map, k1]; rfl
    · cases k2 with
      | nil => exact VRs.tuple .nil
      | cons hx hl => cases hl with
        | nil => exact hx
        | cons hy hl =>
          rw [dif_neg (by simp)]
          exact VRs.tuple (.cons hx (.cons hy hl))
  unfold results
  rw [Array.mapM_eq_mapM_toList]
  refine key _ ?_ ?_
  · intro t; rfl
  · intro c t; rfl

/-- a function is left: its marks are come to, one by one -/
theorem leaves_ok {P : Program} {fn : Func} {tmps : Array Value} {R : Ending → World → Prop} {σ σ' : Sg} {h h' : H} {w : World} {B : Nat} (hB : w.heap.size ≤ B)
    (hR : ∀ w', Rel σ' h' w' → Fr σ h w σ' h' w' → ∃ v, (results fn tmps).run P w' = .ok v w' ∧ R (.returned v) w') :
    ∀ (ds : List Deferred) (w' : World), Rel σ' h' w' → Fr σ h w σ' h' w' → Marks B σ' h' w' ds → LeavesInM Fence.wide 0 P fn tmps R ds .returning w'
  | [], w', r, k, m => hR w' r k
  | d :: ds, w', r, k, m => by
    obtain ⟨D, rfl, h2, h3, h4⟩ := m.mark d (by simp)
    have nd := List.nodup_cons.1 m.nodup
    have L : Loc σ' h' w' D (.deferred (some [])) := ⟨h3, h4⟩
    refine ⟨by simp, .inl ⟨D, _, rfl, run_takeDeferred h3, leaves_ok hB hR ds _ (L.rel r _) (k.putObj (by omega) _) (Marks.putObj ⟨nd.2, fun d hd => m.mark d (List.mem_cons_of_mem _ hd)⟩ ?_ _)⟩⟩
    intro d hd e
    obtain ⟨D', e', _⟩ := m.mark d (List.mem_cons_of_mem _ hd)
    rw [e'] at e
    cases e
    exact nd.1 (by rw [← e']; exact hd)

theorem dcall_succ (P : Program) (C : FuncId → Bool) (X : CallF) (L n : Nat) (f : FuncId) (args : List Value) (h : H) : dcall P C X L (n + 1) f args h = match X f args h with
    | some r => some r
    | none => match P.funcs[f]? with
      | none => none
      | some fn => match fn.body with
        | none => none
        | some c => cond (Nat.ble args.length fn.ntmps) (outA P fn (dcode P C (dcall P C X L n) fn.ntmps L c (slotsOf .nil 0 args) h)) none := rfl

theorem dcall_bodied (P : Program) (C : FuncId → Bool) {X : CallF} (hX : Bodied P X) (L : Nat) : ∀ n, Bodied P (dcall P C X L n)
  | 0 => fun k args h r hr => by cases hr
  | n + 1 => fun k args h r hr => by
    rw [dcall_succ] at hr
    split at hr
    · rename_i hx
      exact hX _ _ _ _ hx
    · split at hr
      · cases hr
      · rename_i fn hf
        split at hr
        · cases hr
        · rename_i c hb
          exact ⟨fn, hf, by rw [hb]; rfl⟩

theorem dcall_sound {P : Program} {C : FuncId → Bool} (hC : ∀ k, C k = true → ChunkLaw P k) (hN : Named P) (hD : ∀ call, Bodied P call → Sound P call → Draws P call) {X : CallF} (hX : Bodied P X) (hXS : Sound P X) (L : Nat) : ∀ n, Sound P (dcall P C X L n)
  | 0 => fun k args h v h' hr => by cases hr
  | n + 1 => by
    intro k args h v h' hr σ w args' ha R
    have ih := dcall_sound hC hN hD hX hXS L n
    have hb := dcall_bodied P C hX L n
    rw [dcall_succ] at hr
    split at hr
    · rename_i r hx
      rw [hr] at hx
      exact hXS _ _ _ _ _ hx σ w args' ha R
    rename_i hxn
    clear hxn
    split at hr
    · cases hr
    · rename_i fn hf
      split at hr
      · cases hr
      · rename_i c hc
        refine (callsIn_wide (n := 0)).1 (callsIn_of_wp_marks hf hc trivial ?_ rfl)
        obtain ⟨hlen, hr⟩ := cond_some hr
        unfold outA at hr
        have hs : SR σ fn.ntmps [] (slotsOf .nil 0 args) { tmps := args'.toArray ++ Array.replicate (fn.ntmps - args'.toArray.size) undef, defers := [] } := by
          refine ⟨?_, rfl, fun t v ht => ?_⟩
          · have hle := ble_le hlen
            have := ha.length
            simp; omega
          · rcases slotsOf_get _ _ _ _ _ ht with ⟨_, h2⟩ | h2
            · rw [Nat.sub_zero] at h2
              obtain ⟨v', k1, k2⟩ := ha.get t h2
              refine ⟨v', ?_, k2⟩
              have hlt : t < args'.toArray.size := by have := (List.getElem?_eq_some_iff.1 k1).1; simpa using this
              show (args'.toArray ++ Array.replicate _ undef)[t]? = _
              rw [Array.getElem?_append_left hlt]; simpa using k1
            · cases h2
        split at hr
        · cases hr
        · rename_i ex s1 h1 hnex hd
          split at hr
          · rename_i u hres
            cases hr
            refine dcode_ok hC hN hb ih (hD _ hb ih) fn.ntmps L c _ wd_wide (.inl rfl) 0 w.heap.size [] σ _ s1 h h' ex _ w _ hd (Nat.le_refl _) hs R (Marks.nil _ _ _ _) fun σ' a' w' ds' q1 q2 q3 q4 => ?_
            have post : LeavesInM Fence.wide 0 P fn a'.tmps (fun e w' => ∃ σ' v', e = .returned v' ∧ VR σ' v v' ∧ Rel σ' h' w' ∧ Fr σ h w σ' h' w') a'.defers .returning w' := by
              rw [q1.defers]
              refine leaves_ok (Nat.le_refl _) (fun w'' z1 z2 => ?_) ds' w' q2 q3 q4
              obtain ⟨v', r1, r2⟩ := results_run z1 q1 hres
              exact ⟨v', r1, σ', v', rfl, r2, z1, z2⟩
            cases ex with
            | normal => exact post
            | ret => exact post
            | exit id => exact absurd rfl (hnex id)
          · rename_i us hne hres
            cases hr
            refine dcode_ok hC hN hb ih (hD _ hb ih) fn.ntmps L c _ wd_wide (.inl rfl) 0 w.heap.size [] σ _ s1 h h' ex _ w _ hd (Nat.le_refl _) hs R (Marks.nil _ _ _ _) fun σ' a' w' ds' q1 q2 q3 q4 => ?_
            have post : LeavesInM Fence.wide 0 P fn a'.tmps (fun e w' => ∃ σ' v', e = .returned v' ∧ VR σ' (.tuple us.toArray) v' ∧ Rel σ' h' w' ∧ Fr σ h w σ' h' w') a'.defers .returning w' := by
              rw [q1.defers]
              refine leaves_ok (Nat.le_refl _) (fun w'' z1 z2 => ?_) ds' w' q2 q3 q4
              obtain ⟨v', r1, r2⟩ := results_run z1 q1 hres
              have e : resV us = .tuple us.toArray := by
                unfold resV; split
                · exact absurd rfl (hne _)
                · rfl
              rw [e] at r2
              exact ⟨v', r1, σ', v', rfl, r2, z1, z2⟩
            cases ex with
            | normal => exact post
            | ret => exact post
            | exit id => exact absurd rfl (hnex id)
          · cases hr
        · cases hr
end Go.Proofs.Ytnjeafdbifcfhaa.Den
