/- A small machine for closed runs: its code is the real one, but for the regions that draw. No condition. -/
import Derived.Test.YtbegaeohggkblaaDenL
import Derived.Scope
namespace Go.Proofs.Ytbegaeohggkblaa.Den
open Go
set_option linter.unusedSimpArgs false
set_option linter.unusedVariables false

/-- the slots -/
structure SR (σ : Sg) (N : Nat) (s : S) (a : Act) : Prop where
  size : a.tmps.size = N
  defers : a.defers = []
  get : ∀ t v, s.get t = some v → ∃ v', a.tmps[t]? = some v' ∧ VR σ v v'

theorem SR.mono {σ σ' : Sg} {N : Nat} {s : S} {a : Act} (h : SR σ N s a) (le : σ.le σ') : SR σ' N s a :=
  ⟨h.size, h.defers, fun t v ht => let ⟨v', k1, k2⟩ := h.get t v ht; ⟨v', k1, k2.mono le⟩⟩

theorem SR.env {σ : Sg} {N : Nat} {s : S} {a : Act} (h : SR σ N s a) : ER σ (envOf s) a.eval := by
  intro x v hx
  cases x with
  | tmp t =>
    obtain ⟨v', k1, k2⟩ := h.get t v hx
    show VR σ v (a.tmps.getD t undef)
    have : a.tmps.getD t undef = v' := by simp [k1]
    rw [this]; exact k2
  | const u =>
    have hx : cond (plain u) (some u) none = some v := hx
    obtain ⟨h1, h2⟩ := cond_some hx
    cases h2
    exact plain_VR σ h1
  | global g => cases hx
  | func f => cases hx; exact .func _ rfl rfl (fun i u u' k _ => by simp at k) (fun i u u' k _ => by simp at k)

theorem SR.put {σ : Sg} {N : Nat} {s s' : S} {a : Act} (h : SR σ N s a) {dst : Option Tmp} {v v' : Value} (hv : VR σ v v') (hp : putA N s dst v = some s') : SR σ N s' (a.put dst v') := by
  cases dst with
  | none => cases hp; exact h
  | some d =>
    have hp : cond (Nat.blt d N) (some (s.put d v)) none = some s' := hp
    obtain ⟨h1, h2⟩ := cond_some hp
    cases h2
    have h1 := blt_lt h1
    refine ⟨by simp [Act.put, h.size], h.defers, fun t u ht => ?_⟩
    rw [T.get_put] at ht
    by_cases e : t = d
    · subst e
      rw [if_pos rfl] at ht; cases ht
      have : t < a.tmps.size := by rw [h.size]; exact h1
      exact ⟨v', by simp [Act.put, this], hv⟩
    · rw [if_neg e] at ht
      obtain ⟨u', k1, k2⟩ := h.get t u ht
      refine ⟨u', ?_, k2⟩
      show (a.tmps.setIfInBounds d v')[t]? = _
      rw [Array.getElem?_setIfInBounds_ne (fun q => e q.symm)]; exact k1

theorem SR.wanted {σ : Sg} {N : Nat} {s : S} {a : Act} (h : SR σ N s a) {ops : Array Oper} {o : Oper} {b : Bool} (hw : wantedA ops s o = some b) : Region.wanted o (yielded ops a.tmps) = b := by
  unfold wantedA at hw
  unfold Region.wanted
  split at hw
  · rename_i hg; rw [hg]; cases hw; rfl
  · rename_i g want hg
    rw [hg]
    split at hw
    · rename_i t ht
      have y : yielded ops a.tmps g = match a.tmps[t]? with | some (.bool b) => some b | _ => none := by
        unfold yielded; rw [ht]; rfl
      split at hw
      · rename_i c hc
        cases hw
        obtain ⟨v', k1, k2⟩ := h.get t _ hc
        have := k2.bool_inv; subst this
        show (yielded ops a.tmps g == some want) = _
        rw [y, k1]
        cases c <;> cases want <;> rfl
      · rename_i u hnb hc
        cases hw
        obtain ⟨v', k1, k2⟩ := h.get t _ hc
        show (yielded ops a.tmps g == some want) = _
        rw [y, k1]
        cases k2 <;> first | rfl | exact absurd rfl (hnb _)
      · cases hw
    · cases hw

/-- a call does what the machine's does -/
def Sound (P : Program) (call : CallF) : Prop :=
  ∀ k args h v h', call k args h = some (v, h') → ∀ σ w args', VRs σ args args' → Rel σ h w →
    Calls P k args'.toArray w fun e w' => ∃ σ' v', e = .returned v' ∧ VR σ' v v' ∧ Rel σ' h' w' ∧ Fr σ h w σ' h' w'

/-- one operation -/
theorem Goes.wp {P : Program} {call : CallF} (hS : Sound P call) {σ : Sg} {h h' : H} {w : World} {o : Oper} {a : Act} {v : Value} (R : Rel σ h w) (g : Goes P call σ h w (execOp a.eval o) v h') {K : Act → World → Prop} {Q : Exit → Act → World → Prop}
    (hK : ∀ σ' w' v', VR σ' v v' → Rel σ' h' w' → Fr σ h w σ' h' w' → K (a.put o.dst v') w') : o.wp P a w K Q := by
  unfold Oper.wp
  cases g with
  | val hs hv R' F => rw [hs]; exact hK _ _ _ hv R' F
  | skip hs hv R' F => rw [hs]; subst hv; exact hK _ _ _ (VR.undef _) R' F
  | enter hs hv hc =>
    rw [hs]
    show Calls P _ _ w _
    refine (hS _ _ _ _ _ hc σ w _ hv R).mono ?_
    rintro e w' ⟨σ', v', rfl, k1, k2, k3⟩
    exact hK _ _ _ k1 k2 k3

theorem dstep_run {P : Program} {call : CallF} (hN : Named P) (hB : Bodied P call) (hS : Sound P call) {σ : Sg} {N : Nat} {ops : Array Oper} {o : Oper} {s s' : S} {h h' : H} {v : Value} {a : Act} {w : World} (R : Rel σ h w) (hs : SR σ N s a)
    (hd : dstep P call N ops o s h = some (v, s', h')) {K : Act → World → Prop} {Q : Exit → Act → World → Prop}
    (hK : ∀ σ' w' v', VR σ' v v' → Rel σ' h' w' → Fr σ h w σ' h' w' → SR σ' N s' (a.put o.dst v') → K (a.put o.dst v') w') :
    if Region.wanted o (yielded ops a.tmps) then o.wp P a w K Q ∨ (o.asks P a w ∧ LetsOut Q) else K (a.put o.dst undef) w := by
  unfold dstep at hd
  split at hd
  · rename_i hw
    rw [hs.wanted hw]
    simp only [if_true]
    split at hd
    · rename_i u h1 ha
      split at hd
      · rename_i s1 hp
        cases hd
        exact .inl (Goes.wp hS R (aop_run hN hB R hs.env ha) fun σ' w' v' k1 k2 k3 => hK σ' w' v' k1 k2 k3 ((hs.mono k3.le).put k1 hp))
      · cases hd
    · cases hd
  · rename_i hw
    rw [hs.wanted hw]
    simp only [Bool.false_eq_true, if_false]
    split at hd
    · rename_i s1 hp
      cases hd
      have F := Fr.refl R (w' := w) rfl rfl rfl rfl
      exact hK σ w undef (VR.undef σ) R F (hs.put (VR.undef σ) hp)
    · cases hd
  · cases hd

theorem dops_cons {P : Program} {call : CallF} {N : Nat} {ops : Array Oper} {o : Oper} {l : List Oper} {s : S} {h : H} : dops P call N ops (o :: l) s h = match dstep P call N ops o s h with
    | some (_, s', h') => dops P call N ops l s' h'
    | none => none := rfl

theorem dops_run {P : Program} {call : CallF} (hN : Named P) (hB : Bodied P call) (hS : Sound P call) {N : Nat} {ops : Array Oper} {Q : Exit → Act → World → Prop} : ∀ {l : List Oper} {σ : Sg} {s s' : S} {h h' : H} {a : Act} {w : World}, Rel σ h w → SR σ N s a → dops P call N ops l s h = some (s', h') →
    (∀ σ' a' w', SR σ' N s' a' → Rel σ' h' w' → Fr σ h w σ' h' w' → Q .normal a' w') → wpList P ops Q l a w
  | [], σ, s, s', h, h', a, w, R, hs, hd, hQ => by cases hd; exact hQ σ a w hs R (Fr.refl R rfl rfl rfl rfl)
  | o :: l, σ, s, s', h, h', a, w, R, hs, hd, hQ => by
    rw [dops_cons] at hd
    split at hd
    · rename_i v s1 h1 hst
      unfold wpList
      refine dstep_run hN hB hS R hs hst (fun σ1 w1 v1 k1 k2 k3 k4 => ?_)
      exact dops_run hN hB hS k2 k4 hd fun σ' a' w' q1 q2 q3 => hQ σ' a' w' q1 q2 (Fr.trans R k2 k3 q3)
    · cases hd

def Ex.real : Ex → Exit
  | .normal => .normal
  | .ret => .ret
  | .exit id => .exit id

/-- regions that draw -/
def Draws (P : Program) (call : CallF) : Prop :=
  ∀ (N : Nat) (ops : Array Oper) (id : Nat) (σ : Sg) (s s' : S) (h h' : H) (a : Act) (w : World) (Q : Exit → Act → World → Prop), Rel σ h w → SR σ N s a → ddraw P call N ops s h = some (s', h') →
    (∀ σ' a' w', SR σ' N s' a' → Rel σ' h' w' → Fr σ h w σ' h' w' → Q .normal a' w') → (Code.region id ops true).wp P Q a w

/-- code: from related states it comes to related ones -/
def CodeOk (P : Program) (N : Nat) (c : Code) (run : S → H → Option (Ex × S × H)) : Prop :=
  ∀ (σ : Sg) (s s' : S) (h h' : H) (ex : Ex) (a : Act) (w : World) (Q : Exit → Act → World → Prop), run s h = some (ex, s', h') → SR σ N s a → Rel σ h w →
    (∀ σ' a' w', SR σ' N s' a' → Rel σ' h' w' → Fr σ h w σ' h' w' → Q ex.real a' w') → c.wp P Q a w

theorem loop_ok {P : Program} {N : Nat} {c : Code} {run : S → H → Option (Ex × S × H)} (hc : CodeOk P N c run) : ∀ (L : Nat) (σ : Sg) (s s' : S) (h h' : H) (ex : Ex) (a : Act) (w : World) (Q : Exit → Act → World → Prop), loopA run L s h = some (ex, s', h') → SR σ N s a → Rel σ h w →
    (∀ σ' a' w', SR σ' N s' a' → Rel σ' h' w' → Fr σ h w σ' h' w' → Q ex.real a' w') → Code.rounds P c Q L a w
  | 0, σ, s, s', h, h', ex, a, w, Q, hl, _, _, _ => by cases hl
  | L + 1, σ, s, s', h, h', ex, a, w, Q, hl, hs, R, hQ => by
    have hl : (match run s h with | some (.normal, s1, h1) => loopA run L s1 h1 | r => r) = some (ex, s', h') := hl
    rw [rounds_succ]
    cases hr : run s h with
    | none => rw [hr] at hl; cases hl
    | some r =>
      obtain ⟨e1, s1, h1⟩ := r
      rw [hr] at hl
      cases e1 with
      | normal =>
        exact hc σ s s1 h h1 .normal a w _ hr hs R fun σ1 a1 w1 k1 k2 k3 => loop_ok hc L σ1 s1 s' h1 h' ex a1 w1 Q hl k1 k2 fun σ' a' w' q1 q2 q3 => hQ σ' a' w' q1 q2 (Fr.trans R k2 k3 q3)
      | ret => cases hl; exact hc σ s s' h h' .ret a w _ hr hs R hQ
      | exit id => cases hl; exact hc σ s s' h h' (.exit id) a w _ hr hs R hQ

theorem dcode_ok {P : Program} {call : CallF} (hN : Named P) (hB : Bodied P call) (hS : Sound P call) (hD : Draws P call) (N L : Nat) (c : Code) : CodeOk P N c (dcode P call N L c) := by
  induction c with
  | skip =>
    intro σ s s' h h' ex a w Q hr hs R hQ
    cases hr; exact wp_skip (hQ σ a w hs R (Fr.refl R rfl rfl rfl rfl))
  | region id ops draw =>
    intro σ s s' h h' ex a w Q hr hs R hQ
    cases draw with
    | false =>
      have hr : regA (dops P call N ops ops.toList s h) = some (ex, s', h') := hr
      unfold regA at hr
      split at hr
      · rename_i s1 h1 hd
        cases hr
        exact wp_region_list (dops_run hN hB hS R hs hd hQ)
      · cases hr
    | true =>
      have hr : regA (ddraw P call N ops s h) = some (ex, s', h') := hr
      unfold regA at hr
      split at hr
      · rename_i s1 h1 hd
        cases hr
        exact hD N ops id σ s s' h h' a w Q R hs hd hQ
      · cases hr
  | seq x y ihx ihy =>
    intro σ s s' h h' ex a w Q hr hs R hQ
    have hr : seqA (dcode P call N L y) (dcode P call N L x s h) = some (ex, s', h') := hr
    refine wp_seq ?_
    cases hx : dcode P call N L x s h with
    | none => rw [hx] at hr; cases hr
    | some r =>
      obtain ⟨e1, s1, h1⟩ := r
      rw [hx] at hr
      cases e1 with
      | normal =>
        exact ihx σ s s1 h h1 .normal a w _ hx hs R fun σ1 a1 w1 k1 k2 k3 => ihy σ1 s1 s' h1 h' ex a1 w1 Q hr k1 k2 fun σ' a' w' q1 q2 q3 => hQ σ' a' w' q1 q2 (Fr.trans R k2 k3 q3)
      | ret => cases hr; exact ihx σ s s' h h' .ret a w _ hx hs R hQ
      | exit id => cases hr; exact ihx σ s s' h h' (.exit id) a w _ hx hs R hQ
  | cond t x y ihx ihy =>
    intro σ s s' h h' ex a w Q hr hs R hQ
    have hr : (match envOf s t with | some (.bool t) => cond t (dcode P call N L x s h) (dcode P call N L y s h) | _ => none) = some (ex, s', h') := hr
    split at hr
    · rename_i b hb
      have e := (hs.env t _ hb).bool_inv
      cases b with
      | true => exact wp_cond_true e (ihx σ s s' h h' ex a w Q hr hs R hQ)
      | false => exact wp_cond_false e (ihy σ s s' h h' ex a w Q hr hs R hQ)
    · cases hr
  | block id x ih =>
    intro σ s s' h h' ex a w Q hr hs R hQ
    have hr : blockA id (dcode P call N L x s h) = some (ex, s', h') := hr
    refine wp_block ?_
    cases hx : dcode P call N L x s h with
    | none => rw [hx] at hr; cases hr
    | some r =>
      obtain ⟨e1, s1, h1⟩ := r
      rw [hx] at hr
      cases e1 with
      | normal => cases hr; exact ih σ s s' h h' .normal a w _ hx hs R hQ
      | ret => cases hr; exact ih σ s s' h h' .ret a w _ hx hs R hQ
      | exit id' =>
        have hr : cond (Nat.beq id id') (some (Ex.normal, s1, h1)) (some (.exit id', s1, h1)) = some (ex, s', h') := hr
        refine ih σ s s1 h h1 (.exit id') a w _ hx hs R fun σ' a' w' q1 q2 q3 => ?_
        show (if id' = id then Q .normal a' w' else Q (.exit id') a' w')
        cases hb : Nat.beq id id' with
        | true =>
          rw [hb] at hr; cases hr
          rw [if_pos (beq_eq hb).symm]; exact hQ σ' a' w' q1 q2 q3
        | false =>
          rw [hb] at hr; cases hr
          rw [if_neg (fun e => by subst e; rw [Nat.beq_refl] at hb; cases hb)]; exact hQ σ' a' w' q1 q2 q3
  | loop x ih =>
    intro σ s s' h h' ex a w Q hr hs R hQ
    exact wp_loop_rounds L (loop_ok ih L σ s s' h h' ex a w Q hr hs R hQ)
  | rangeFunc f ps x y ihx ihy => intro σ s s' h h' ex a w Q hr hs R hQ; cases hr
  | exit id => intro σ s s' h h' ex a w Q hr hs R hQ; cases hr; exact wp_exit (hQ σ a w hs R (Fr.refl R rfl rfl rfl rfl))
  | scope x ih =>
    intro σ s s' h h' ex a w Q hr hs R hQ
    refine wp_scope_straight (ih σ s s' h h' ex a w _ hr hs R fun σ' a' w' q1 q2 q3 => ?_)
    have := hQ σ' a' w' q1 q2 q3
    cases ex <;> exact this
  | label l => intro σ s s' h h' ex a w Q hr hs R hQ; cases hr; exact wp_label (hQ σ a w hs R (Fr.refl R rfl rfl rfl rfl))
  | goto l => intro σ s s' h h' ex a w Q hr hs R hQ; cases hr
  | ret => intro σ s s' h h' ex a w Q hr hs R hQ; cases hr; exact wp_ret (hQ σ a w hs R (Fr.refl R rfl rfl rfl rfl))
  | refuse why => intro σ s s' h h' ex a w Q hr hs R hQ; cases hr
end Go.Proofs.Ytbegaeohggkblaa.Den
