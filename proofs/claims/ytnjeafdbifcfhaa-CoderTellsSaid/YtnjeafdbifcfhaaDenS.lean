/- A small machine for closed runs: what it comes to, the program comes to. No condition. -/
import Derived.Test.YtnjeafdbifcfhaaDenR
namespace Go.Proofs.Ytnjeafdbifcfhaa.Den
open Go
variable {ds : List Deferred}
set_option linter.unusedSimpArgs false
set_option linter.unusedVariables false

/-- no block that is read is written by what may come up on either side -/
def Dyn (P : Program) (ops : Array Oper) (S' : Nat → S) (H' : Nat → H) : Prop :=
  ∀ (j : Nat) (o : Oper) (b : Nat), ops[j]? = some o → clsOf P o.op = 0 → rblk o.op (envOf (S' j)) = some b → ∀ (e : Nat) (p : Oper), ops[e]? = some p → clsOf P p.op = 2 → ord ops e j = true ∨ ord ops j e = true ∨ sameVer (H' e) (H' (e + 1)) b = true
theorem dynOk_spec {P : Program} {ops : Array Oper} {tr : List (S × H)} (h : dynOk P ops tr = true) : Dyn P ops (sAt tr) (hAt tr) := by
  intro j o b ho hc hb e p hp he
  cases h1 : ord ops e j with
  | true => exact .inl rfl
  | false => cases h2 : ord ops j e with
    | true => exact .inr (.inl rfl)
    | false =>
      right; right
      have hm : (j, e) ∈ pairsOf P ops := by
        unfold pairsOf
        refine List.mem_flatMap.2 ⟨j, List.mem_range.2 (getElem_lt ho), ?_⟩
        rw [ho]
        simp only [hc, Nat.beq_refl, cond_true]
        refine List.mem_map.2 ⟨e, List.mem_filter.2 ⟨List.mem_range.2 (getElem_lt hp), ?_⟩, rfl⟩
        rw [hp]
        simp [he, h1, h2]
      have h3 := List.all_eq_true.1 h (j, e) hm
      simp only [ho, hb] at h3
      exact h3

theorem rblk_mono {op : Op} {ρ ρ2 : Env} (h : ∀ x v, ρ x = some v → ρ2 x = some v) {b : Nat} (hb : rblk op ρ = some b) : rblk op ρ2 = some b := by
  have key : ∀ x, blkOf (ρ x) = some b → blkOf (ρ2 x) = some b := by
    intro x hx
    cases hq : ρ x with
    | none => rw [hq] at hx; cases hx
    | some v => rw [h x v hq]; rw [hq] at hx; exact hx
  unfold rblk at hb ⊢
  split at hb
  · exact key _ hb
  · exact key _ hb
  · exact key _ hb
  · split at hb
    · exact key _ hb
    · cases hb
  · cases hb

section
variable {P : Program} {call : CallF} {N : Nat} {ops : Array Oper} {S' : Nat → S} {H' : Nat → H} {V : Nat → Value} {σ0 : Sg} {w0 : World}
variable {D : Nat → Prop} {m : Nat} {σ : Sg} {w : World} {a : Act} {j : Nat} {o : Oper}

theorem Text.same (T : Text P call N ops S' H' V σ0 w0) {e b : Nat} (he : e < ops.size) (hb : b < (H' e).next) (h : sameVer (H' e) (H' (e + 1)) b = true) : (H' (e + 1)).get b = (H' e).get b := by
  obtain ⟨x, hx⟩ := T.tot (Nat.le_of_lt he) hb
  obtain ⟨x', k1, k2⟩ := T.keep e (e + 1) (Nat.le_succ _) he b x hx
  unfold sameVer at h
  rw [hx, k1] at h
  have h := beq_eq h
  have hv := T.ver (Nat.le_of_lt he) hx
  rcases k2 with rfl | ⟨_, k2⟩
  · rw [hx, k1]
  · omega

/-- what is read is what the text's order reads -/
theorem Rdy.cur_read (Z : Rdy ds P call N ops S' H' V σ0 w0 D m σ w a j o) (dyn : Dyn P ops S' H') (hc : clsOf P o.op = 0) {b r : Nat} (hb : rblk o.op (envOf (S' j)) = some b) {x : Blk} (hx : (H' j).get b = some x) (hjb : σ.j b = some r) : Cur P ops S' H' D m b x := by
  have T := Z.T; have St := Z.St; have I := Z.I; have hj := Z.hj; have ho := Z.ho; have hr := Z.hr
  have hjn := getElem_lt ho
  have hlt := T.lt (Nat.le_of_lt hjn) hx
  -- ahead of it in the text, and not come up
  have ahead : ∀ (e : Nat) (p : Oper), m ≤ e → e < j → ops[e]? = some p → clsOf P p.op = 2 → b < (H' e).next → (H' (e + 1)).get b = (H' e).get b := by
    intro e p h1 h2 hp he hbe
    have hD : ¬ D e := fun q => by have := (I.eff e p hp he).1 q; omega
    rcases dyn j o b ho hc hb e p hp he with q | q | q
    · exact absurd (Z.ord_listed (getElem_lt hp) q) hD
    · have := St.ord_lt hjn e (getElem_lt hp) q; omega
    · exact T.same (getElem_lt hp) hbe q
  have behind : ∀ (e : Nat) (p : Oper), j ≤ e → e < m → ops[e]? = some p → clsOf P p.op = 2 → b < (H' e).next → (H' (e + 1)).get b = (H' e).get b := by
    intro e p h1 h2 hp he hbe
    have hD : D e := (I.eff e p hp he).2 h2
    rcases dyn j o b ho hc hb e p hp he with q | q | q
    · have := St.ord_lt (getElem_lt hp) j hjn q; omega
    · exact (Z.ord_not hD q).elim
    · exact T.same (getElem_lt hp) hbe q
  rcases I.dom b r hjb with h | ⟨k, h1, h2, h3, h4⟩
  · refine .inl ⟨h, ?_⟩
    rcases Nat.le_total m j with hm | hm
    · rw [← T.cont j m hm (Nat.le_of_lt hjn) h fun e p q1 q2 q3 q4 => ahead e p q1 q2 q3 q4 (Nat.lt_of_lt_of_le h (T.next m e q1 (by omega)))]; exact hx
    · rw [T.cont m j hm I.mn hlt fun e p q1 q2 q3 q4 => behind e p q1 q2 q3 q4 (Nat.lt_of_lt_of_le hlt (T.next j e q1 (by have := I.mn; omega)))]; exact hx
  · have hkj : k < j := by
      rcases Nat.lt_or_ge k j with h | h
      · exact h
      · have := T.next j k h (Nat.le_of_lt (AlP_lt h3)); omega
    have hb1 : b < (H' (k + 1)).next := by rw [AlP_next' h3]; omega
    refine .inr ⟨k, h1, h2, h3, h4, ?_⟩
    rw [← T.cont j (k + 1) hkj (Nat.le_of_lt hjn) hb1 fun e p q1 q2 q3 q4 => ahead e p (by omega) q2 q3 q4 (Nat.lt_of_lt_of_le hb1 (T.next (k + 1) e q1 (by omega)))]; exact hx

open Classical in
/-- one operation that may come up -/
theorem Rdy.step {F : Fence} (Wf : Wd F) (nn : Nat) (Z : Rdy ds P call N ops S' H' V σ0 w0 D m σ w a j o) (hN : Named P) (hB : Bodied P call) (hS : Sound P call) (dyn : Dyn P ops S' H') {K : Act → World → Prop} {Q : Exit → Act → World → Prop}
    (hK : ∀ m' σ' w' a', DI ds P N ops S' H' V σ0 w0 (fun k => D k ∨ k = j) m' σ' w' a' → K a' w') : wpOpIn F nn P ops Q j K a w := by
  have T := Z.T; have St := Z.St; have I := Z.I; have hj := Z.hj; have ho := Z.ho; have hr := Z.hr
  have hjn := getElem_lt ho
  unfold wpOpIn
  simp only [ho]
  have hst := T.step j o ho
  unfold dstep at hst
  split at hst
  · rename_i hw
    rw [Z.wanted hw]
    simp only [if_true]
    split at hst
    · rename_i u h1 ha
      split at hst
      · have e1 : u = V j := congrArg (fun p => p.1) (Option.some.inj hst)
        have e2 : h1 = H' (j + 1) := congrArg (fun p => p.2.2) (Option.some.inj hst)
        subst e1; subst e2
        let ρ : Env := fun x => if x ∈ o.op.operands then envOf (S' j) x else none
        have sub : ∀ x v, ρ x = some v → envOf (S' j) x = some v := fun x v h => by
          simp only [ρ] at h; split at h
          · exact h
          · cases h
        have mem : ∀ x v, ρ x = some v → x ∈ o.op.operands := fun x v h => by
          simp only [ρ] at h; split at h
          · assumption
          · cases h
        have ha' : aop P call o.op ρ (H' j) = some (V j, H' (j + 1)) := by
          rw [aop_congr o.op (ρ2 := envOf (S' j)) fun x hx => by simp [ρ, hx]]; exact ha
        have hρ : ER σ ρ a.eval := fun x v h => Z.operand (mem x v h) (sub x v h)
        rcases Nat.lt_or_ge (clsOf P o.op) 2 with hlt | hge
        · rcases clsOf_le (P := P) (op := o.op) (by omega) with hc | hc
          · -- a value
            obtain ⟨he, hrun⟩ := aop_cls0 hc ha'
            have hna : ¬ AlP P ops S' H' j := by
              rintro ⟨p, _, hp, hc1, _⟩
              rw [ho] at hp; cases hp; rw [hc] at hc1; cases hc1
            have hget : ∃ (h1 : H), (∀ b, rblk o.op ρ = some b → h1.get b = (H' j).get b) ∧ Core σ h1 w := by
              cases hb : rblk o.op ρ with
              | none => exact ⟨H.empty, fun b h => (by cases h), fun b x r hx => (by cases hx), fun b lo l r hx => (by cases hx)⟩
              | some b =>
                have hb' := rblk_mono sub hb
                cases hx : (H' j).get b with
                | none => exact ⟨H.empty, fun b' h => by cases h; rw [hx]; rfl, fun b x r hx => (by cases hx), fun b lo l r hx => (by cases hx)⟩
                | some x =>
                  refine ⟨⟨Den.T.nil.put b x, 0, 0⟩, fun b' h => ?_, fun b' x' r hx' hal hjb => ?_, fun b' lo l r hx' hjb => ?_⟩
                  · cases h; rw [hx]
                    show (Den.T.nil.put b x).get b = some x
                    exact Den.T.get_put_self Den.T.nil b x
                  · have hy : (Den.T.nil.put b x).get b' = some x' := hx'
                    clear hx'
                    rw [Den.T.get_put] at hy
                    split at hy
                    · rename_i e
                      have ey : x = x' := Option.some.inj hy
                      subst e; subst ey
                      exact I.core _ _ r (Z.cur_read dyn hc hb' hx hjb) hal hjb
                    · cases hy
                  · have hy : (Den.T.nil.put b x).get b' = some (.ro lo l) := hx'
                    clear hx'
                    rw [Den.T.get_put] at hy
                    split at hy
                    · rename_i e
                      have ey : x = .ro lo l := Option.some.inj hy
                      subst e; subst ey
                      exact (I.ro T (Nat.le_of_lt hjn) hx hjb).1.mono I.fle
                    · cases hy
            obtain ⟨h1, g1, g2⟩ := hget
            obtain ⟨v', k1, k2⟩ := hrun h1 w σ a.eval g1 g2 hρ
            refine ⟨fun f _ => Wf.fn f, ?_⟩
            rw [Wf.sem _ _ (aop_no_defer ha)]
            rw [k1]
            exact hK m σ w _ (Z.quiet (by rw [hc]; decide) hna k2)
          · -- a block
            obtain ⟨B, g, q1, q2, q3, q4⟩ := aop_cls1 hc ha'
            obtain ⟨s, k1, k2⟩ := q4 w σ a.eval hρ
            obtain ⟨v', w', σ', r1, r2⟩ := Z.alloc ⟨o, B, ho, hc, hw, q2⟩ q2 q1 k2
            refine ⟨fun f _ => Wf.fn f, ?_⟩
            rw [Wf.sem _ _ (aop_no_defer ha)]
            rw [k1]
            have : (do Pure.pure (Next.value (← s)) : Sem Next).run P w = .ok (.value v') w' := by simp [r1]
            rw [this]
            exact hK m σ' w' _ r2
        · -- a write, or a call
          have hc : clsOf P o.op = 2 := by
            by_cases h : clsOf P o.op = 2
            · exact h
            · rcases clsOf_le h with h | h <;> omega
          have Rj := (Z.rel hc).2
          have hρ2 : ER (σ.below (H' j).next) ρ a.eval := by
            intro x v h
            have hx := sub x v h
            have hv := hρ x v h
            cases x with
            | tmp t => exact (T.slot j (Nat.le_of_lt hjn) t v hx).below hv
            | const u =>
              have hx : cond (plain u) (some u) none = some v := hx
              obtain ⟨h1, h2⟩ := cond_some hx
              cases h2
              exact plain_VR _ h1
            | global g => cases hx
            | func f => cases hx; exact .func _ rfl rfl (fun i u u' k _ => by simp at k) (fun i u u' k _ => by simp at k)
          refine Goes.wp Wf nn hS Rj (aop_no_defer ha) (aop_run hN hB (o := o) Rj hρ2 ha') fun σ1 w1 v' k1 k2 k3 => ?_
          obtain ⟨σ', k4⟩ := Z.effect hc k1 k2 k3
          exact hK _ σ' w1 _ k4
      · cases hst
    · cases hst
  · rename_i hw
    rw [Z.wanted hw]
    simp only [Bool.false_eq_true, if_false]
    split at hst
    · have e1 : undef = V j := congrArg (fun p => p.1) (Option.some.inj hst)
      have e2 : H' j = H' (j + 1) := congrArg (fun p => p.2.2) (Option.some.inj hst)
      by_cases hc : clsOf P o.op = 2
      · have Rj := (Z.rel hc).2
        obtain ⟨σ', k4⟩ := Z.effect hc (σ1 := σ.below (H' j).next) (w1 := w) (v' := undef) (by rw [← e1]; exact VR.undef _) (by rw [← e2]; exact Rj) (by rw [← e2]; exact Fr.refl Rj rfl rfl rfl rfl)
        exact ⟨fun f _ => Wf.fn f, hK _ σ' w _ k4⟩
      · refine ⟨fun f _ => Wf.fn f, hK m σ w _ (Z.quiet hc ?_ (by rw [← e1]; exact VR.undef σ))⟩
        rintro ⟨p, _, hp, _, hw', _⟩
        rw [ho] at hp; cases hp; rw [hw] at hw'; cases hw'
    · cases hst
  · cases hst

/-- all have come up -/
theorem DI.done (T : Text P call N ops S' H' V σ0 w0) (St : Stat P ops) (I : DI ds P N ops S' H' V σ0 w0 D m σ w a) (all : ∀ k, k < ops.size → D k) :
    SR σ N ds (S' ops.size) a ∧ Rel σ (H' ops.size) w ∧ Fr σ0 (H' 0) w0 σ (H' ops.size) w := by
  have hno : ∀ (e : Nat) (p : Oper), m ≤ e → ops[e]? = some p → clsOf P p.op ≠ 2 := fun e p h hp he => by have := (I.eff e p hp he).1 (all e (getElem_lt hp)); omega
  obtain ⟨σt, wt, Rt, Ft⟩ := T.rel ops.size (Nat.le_refl _)
  have cont : ∀ b p, m ≤ p → p ≤ ops.size → b < (H' p).next → (H' ops.size).get b = (H' p).get b := fun b p h1 h2 hb => T.cont ops.size p h2 (Nat.le_refl _) hb fun e q q1 q2 q3 q4 => absurd q4 (hno e q (by omega) q3)
  have cur : ∀ b x r, (H' ops.size).get b = some x → σ.j b = some r → Cur P ops S' H' D m b x := by
    intro b x r hb hjb
    rcases I.dom b r hjb with h | ⟨k, h1, h2, h3, h4⟩
    · exact .inl ⟨h, by rw [← cont b m (Nat.le_refl _) I.mn h]; exact hb⟩
    · have hb1 : b < (H' (k + 1)).next := by rw [AlP_next' h3]; omega
      exact .inr ⟨k, h1, h2, h3, h4, by rw [← cont b (k + 1) (by omega) (AlP_lt h3) hb1]; exact hb⟩
  have jd : ∀ b, (H' ops.size).next ≤ b → σ.j b = none := by
    intro b hb
    cases hq : σ.j b with
    | none => rfl
    | some r =>
      rcases I.dom b r hq with h | ⟨k, h1, h2, h3, h4⟩
      · have := T.next m ops.size I.mn (Nat.le_refl _); omega
      · have := AlP_next' h3; have := T.next (k + 1) ops.size (AlP_lt h3) (Nat.le_refl _); omega
  have F : Fr σ0 (H' 0) w0 σ (H' ops.size) w := by
    refine ⟨I.fle, I.fos, I.ftape, I.fout, I.fsize, I.fkeep, I.fnone, fun b r h1 h2 => ?_, T.next 0 _ (Nat.zero_le _) (Nat.le_refl _), Ft.clock, fun b x hb => T.keep 0 _ (Nat.zero_le _) (Nat.le_refl _) b x hb, Ft.stay, fun b h1 h2 => ?_, Ft.ros⟩
    · rcases I.ffresh b r h1 h2 with q | ⟨b0, x, q1, q2, q3, x', q4, q5⟩
      · exact .inl q
      · obtain ⟨y, k1, k2⟩ := T.keep m ops.size I.mn (Nat.le_refl _) b0 x' q4
        refine .inr ⟨b0, x, q1, q2, q3, y, k1, ?_⟩
        rcases k2 with rfl | ⟨k2, _⟩
        · exact q5
        · rw [q5] at k2; cases k2
    · rcases Nat.lt_or_ge b (H' m).next with hb | hb
      · exact I.madeA b h1 hb fun k q1 q2 q3 => absurd (all k (AlP_lt q1)) q3
      · obtain ⟨k, k1, k2, k3, k4⟩ := T.find ops.size m I.mn (Nat.le_refl _) (fun e p q1 _ q3 => hno e p q1 q3) hb h2
        rw [k4]; exact I.madeB k (all k k2) k1 k3
  refine ⟨⟨I.size, I.defers, fun t v hv => ?_⟩, ⟨Rt.dom, Rt.tot, jd, fun b x r hb ha hjb => I.core b x r (cur b x r hb hjb) ha hjb, fun b b' x x' r h1 h2 h3 h4 h5 h6 => I.inj b b' x x' r (cur b x r h1 h5) h2 (cur b' x' r h3 h6) h4 h5 h6, Rt.ver, ro_step T.r0 F⟩,
    F⟩
  rcases T.slots ops.size (Nat.le_refl _) t v hv with ⟨i, p, h1, h2, h3, rfl⟩ | ⟨h1, h2⟩
  · exact I.new i p t h2 (all i h1) h3
  · exact I.old t v h1 fun k p hp _ => h2 k p (getElem_lt hp) hp
end

/-! ### whatever order is drawn -/
theorem getD_in' {listed : Array Bool} {i : Nat} (hi : i < listed.size) (h : listed.getD i false = false) : listed.getD i true = false := by simp [hi] at h ⊢; exact h
theorem getD_both' {listed : Array Bool} {i : Nat} (h : listed.getD i true = false) : listed.getD i false = false := by
  rcases Nat.lt_or_ge i listed.size with h' | h'
  · simp [h'] at h ⊢; exact h
  · simp [Array.getElem?_eq_none h'] at h
theorem getD_rep (m j : Nat) : (Array.replicate m false).getD j false = false := by
  rcases Nat.lt_or_ge j m with h | h
  · simp [h]
  · simp [h]
theorem filter_lt {i : Nat} {p q : Nat → Bool} (hp : p i = true) (hq : q i = false) (hpq : ∀ k, q k = true → p k = true) : ∀ {l : List Nat}, i ∈ l → (l.filter q).length < (l.filter p).length
  | [], h => by cases h
  | k :: l, h => by
    have le : ∀ l : List Nat, (l.filter q).length ≤ (l.filter p).length := by
      intro l
      induction l with
      | nil => exact Nat.le_refl _
      | cons k l ih =>
        rw [List.filter_cons, List.filter_cons]
        cases hk : q k with
        | true => rw [hpq k hk]; simpa using ih
        | false => cases p k <;> simp <;> omega
    rw [List.filter_cons, List.filter_cons]
    rcases List.mem_cons.1 h with rfl | h
    · rw [hp, hq]; simp; have := le l; omega
    · have := filter_lt hp hq hpq h
      cases hk : q k with
      | true => rw [hpq k hk]; simpa using this
      | false => cases p k <;> simp <;> omega

section
variable {P : Program} {call : CallF} {N : Nat} {ops : Array Oper} {S' : Nat → S} {H' : Nat → H} {V : Nat → Value} {σ0 : Sg} {w0 : World}

theorem draw_any {F : Fence} (Wf : Wd F) (nn : Nat) (T : Text P call N ops S' H' V σ0 w0) (St : Stat P ops) (hN : Named P) (hB : Bodied P call) (hS : Sound P call) (dyn : Dyn P ops S' H') {Q : Exit → Act → World → Prop}
    (hQ : ∀ σ' a' w', SR σ' N ds (S' ops.size) a' → Rel σ' (H' ops.size) w' → Fr σ0 (H' 0) w0 σ' (H' ops.size) w' → Q .normal a' w') :
    ∀ (fuel : Nat) (listed : Array Bool) (m : Nat) (σ : Sg) (w : World) (a : Act), listed.size = ops.size → DI ds P N ops S' H' V σ0 w0 (fun k => listed.getD k false = true) m σ w a →
      ((List.range ops.size).filter fun k => !listed.getD k false).length ≤ fuel → wpAnyIn F nn P .any ops Q fuel listed a w := by
  -- nothing may come up: all have
  have none_left : ∀ (listed : Array Bool), listed.size = ops.size → Region.ready .any ops listed = [] → ∀ k, k < ops.size → listed.getD k false = true := by
    intro listed hs hr k
    induction k using Nat.strongRecOn with
    | _ k ih =>
      intro hk
      cases hq : listed.getD k false with
      | true => rfl
      | false =>
        exfalso
        obtain ⟨o, ho⟩ : ∃ o, ops[k]? = some o := ⟨ops[k], by simp⟩
        have : k ∈ Region.ready .any ops listed := by
          rw [mem_ready]
          refine ⟨getD_in' (by omega) hq, o, ho, fun e he hb => ?_⟩
          have hlt := St.edge k o ho e.on (List.mem_map.2 ⟨e, List.mem_filter.2 ⟨by simpa using he, hb⟩, rfl⟩)
          exact ih e.on hlt (by omega)
        rw [hr] at this; cases this
  intro fuel
  induction fuel with
  | zero =>
    intro listed m σ w a hs I hf
    have all : ∀ k, k < ops.size → listed.getD k false = true := by
      intro k hk
      cases hq : listed.getD k false with
      | true => rfl
      | false =>
        have : k ∈ (List.range ops.size).filter fun k => !listed.getD k false := List.mem_filter.2 ⟨List.mem_range.2 hk, by rw [hq]; rfl⟩
        have := List.length_pos_of_mem this
        omega
    refine ⟨?_, ?_⟩
    · cases hr : Region.ready .any ops listed with
      | nil => rfl
      | cons j l =>
        have hj : j ∈ Region.ready .any ops listed := by rw [hr]; simp
        obtain ⟨h0, o, ho, _⟩ := mem_ready.1 hj
        have := getD_both' h0
        rw [all j (getElem_lt ho)] at this; cases this
    · obtain ⟨k1, k2, k3⟩ := I.done T St all
      exact hQ σ a w k1 k2 k3
  | succ fuel ih =>
    intro listed m σ w a hs I hf
    refine ⟨fun hr => ?_, fun j hj => ?_⟩
    · obtain ⟨k1, k2, k3⟩ := I.done T St (none_left listed hs hr)
      exact hQ σ a w k1 k2 k3
    · obtain ⟨h0, o, ho, hed⟩ := mem_ready.1 hj
      have hjf := getD_both' h0
      have hjn := getElem_lt ho
      have Z : Rdy ds P call N ops S' H' V σ0 w0 (fun k => listed.getD k false = true) m σ w a j o := ⟨T, St, I, by rw [hjf]; simp, ho, fun e he => by
        obtain ⟨e', h1, rfl⟩ := List.mem_map.1 he
        obtain ⟨h1, h2⟩ := List.mem_filter.1 h1
        exact hed e' (by simpa using h1) h2⟩
      refine Z.step Wf nn hN hB hS dyn fun m' σ' w' a' I' => ?_
      have hset : ∀ k, ((listed.setIfInBounds j true).getD k false = true) = (listed.getD k false = true ∨ k = j) := by
        intro k
        by_cases e : k = j
        · subst e
          have : k < listed.size := by omega
          simp [this]
        · rw [getD_set_ne false (fun q => e q.symm)]; simp [e]
      have I2 : DI ds P N ops S' H' V σ0 w0 (fun k => (listed.setIfInBounds j true).getD k false = true) m' σ' w' a' := by
        have : (fun k => (listed.setIfInBounds j true).getD k false = true) = fun k => listed.getD k false = true ∨ k = j := funext hset
        rw [this]; exact I'
      refine ih (listed.setIfInBounds j true) m' σ' w' a' (by simpa using hs) I2 ?_
      have := filter_lt (i := j) (p := fun k => !listed.getD k false) (q := fun k => !(listed.setIfInBounds j true).getD k false) (by simp only [hjf]; rfl)
        (by have := (hset j).symm ▸ (Or.inr rfl : listed.getD j false = true ∨ j = j); simp only [this]; rfl)
        (fun k hk => by
          cases hq : listed.getD k false with
          | false => rfl
          | true =>
            have := (hset k).symm ▸ (Or.inl hq : listed.getD k false = true ∨ k = j)
            simp only [this] at hk; cases hk) (l := List.range ops.size) (List.mem_range.2 hjn)
      omega
end

theorem draws_ok {P : Program} (hM : P.follows .mixedOrders = true) (hN : Named P) (call : CallF) (hB : Bodied P call) (hS : Sound P call) : Draws P call := by
  intro F Wf nn N ops id ds σ s s' h h' a w Q R hs hd hQ
  unfold ddraw at hd
  split at hd
  · rename_i tr ht
    obtain ⟨hok, hlast⟩ := cond_some hd
    simp only [Bool.and_eq_true] at hok
    have St := statOk_spec hok.1
    have dyn := dynOk_spec hok.2
    obtain ⟨l1, l2, l3, l4⟩ := dtrace_spec ht
    let w1 : World := { w with drawn := w.drawn + 1 }
    have R1 : Rel σ h w1 := R.heap rfl
    obtain ⟨V, T⟩ := text_of hN hB hS St ht R1 hs
    have e1 : sAt tr ops.size = s' := by unfold sAt; rw [hlast]
    have e2 : hAt tr ops.size = h' := by unfold hAt; rw [hlast]
    have R0 : Rel σ (hAt tr 0) w1 := by rw [l3]; exact R1
    have hs0 : SR σ N ds (sAt tr 0) a := by rw [l2]; exact hs
    refine wpIn_region_any hM (draw_any (ds := ds) Wf nn T St hN hB hS dyn (fun σ' a' w' k1 k2 k3 => ?_) ops.size _ 0 σ w1 a (by simp) ?_ ?_)
    · rw [e1] at k1
      rw [e2] at k2 k3
      rw [l3] at k3
      exact hQ σ' a' w' k1 k2 (Fr.trans R R1 (Fr.refl R rfl rfl rfl rfl) k3)
    · have no : ∀ k, ¬ ((Array.replicate ops.size false).getD k false = true) := fun k => by rw [getD_rep]; simp
      refine { size := hs0.size, defers := hs0.defers, cl := fun j o _ hj => absurd hj (no j), dn := fun k hk => absurd hk (no k), mn := Nat.zero_le _, eff := fun e p _ _ => ⟨fun q => absurd q (no e), fun q => by omega⟩, new := fun k o t _ hk => absurd hk (no k), old := fun t v hv _ => hs0.get t v hv, core := ?_, inj := ?_, dom := ?_, un := fun k _ hk => absurd hk (Nat.not_lt_zero _), madeA := fun b q1 q2 => (by omega), madeB := fun k hk => absurd hk (no k), fle := Sg.le.refl σ, fos := rfl, ftape := rfl, fout := rfl, fsize := Nat.le_refl _, fkeep := fun _ _ _ => rfl, fnone := fun _ _ q => q, ffresh := ?_ }
      · rintro b x r (⟨_, hb⟩ | ⟨k, hk, _⟩) ha hj
        · exact R0.blk b x r hb ha hj
        · exact absurd hk (no k)
      · rintro b b' x x' r (⟨_, hb⟩ | ⟨k, hk, _⟩) ha (⟨_, hb'⟩ | ⟨k, hk', _⟩) ha' h1 h2
        · exact R0.inj b b' x x' r hb ha hb' ha' h1 h2
        · exact absurd hk' (no k)
        · exact absurd hk (no k)
        · exact absurd hk (no _)
      · intro b r hj
        left
        rcases Nat.lt_or_ge b (hAt tr 0).next with q | q
        · exact q
        · rw [R0.jdom b q] at hj; cases hj
      · intro b r hb hj
        rw [R0.jdom b hb] at hj; cases hj
    · exact Nat.le_trans (List.length_filter_le _ _) (by simp)
  · cases hd

theorem noX_bodied (P : Program) : Bodied P noX := fun _ _ _ _ h => by cases h
theorem noX_sound (P : Program) : Sound P noX := fun _ _ _ _ _ h => by cases h
def bodied (P : Program) (f : FuncId) : Bool := match P.funcs[f]? with
  | some fn => fn.body.isSome
  | none => false
theorem trueX_some {ks : List FuncId} {k : FuncId} {args : List Value} {h : H} {r : Value × H} (hx : trueX ks k args h = some r) : args = [] ∧ k ∈ ks ∧ r = (.bool true, h) := by
  unfold trueX at hx
  split at hx
  · obtain ⟨h1, h2⟩ := cond_some hx
    cases h2
    obtain ⟨k', h3, h4⟩ := List.any_eq_true.1 h1
    have : k' = k := by simpa using h4
    subst this
    exact ⟨rfl, h3, rfl⟩
  · cases hx
theorem trueX_bodied {P : Program} {ks : List FuncId} (hb : ks.all (bodied P) = true) : Bodied P (trueX ks) := by
  intro k args h r hx
  obtain ⟨_, h1, _⟩ := trueX_some hx
  have h2 := List.all_eq_true.1 hb k h1
  unfold bodied at h2
  split at h2
  · rename_i fn hf
    refine ⟨fn, hf, ?_⟩
    cases hq : fn.body with
    | none => rw [hq] at h2; cases h2
    | some c => rfl
  · cases h2
theorem trueX_sound {P : Program} {ks : List FuncId} (hk : ∀ k ∈ ks, ∀ w : World, Calls P k #[] w fun e w' => e = .returned (.bool true) ∧ Go.RowKit.Below w.heap.size w w') : Sound P (trueX ks) := by
  intro k args h v h' hx σ w args' ha R
  obtain ⟨rfl, h1, h2⟩ := trueX_some hx
  cases h2
  cases ha
  refine (hk k h1 w).mono ?_
  rintro e w' ⟨rfl, hb⟩
  obtain ⟨k1, k2⟩ := R.under hb
  exact ⟨σ, .bool true, rfl, .bool _, k1, k2⟩

theorem plain1_inv {σ' : Sg} {v v' : Value} (hp : plain1 v = true) (hv : VR σ' v v') : v' = v := by
  cases v with
  | bool b => exact hv.bool_inv
  | int k n => exact hv.int_inv
  | string s => exact hv.string_inv
  | pointer a => cases a with
    | none => cases hv; rfl
    | some a => simp [plain1] at hp
  | slice a n c => cases a with
    | none => cases hv; rfl
    | some a => simp [plain1] at hp
  | map a => cases a with
    | none => cases hv; rfl
    | some a => simp [plain1] at hp
  | nilFunc => cases hv; rfl
  | nilIface => cases hv; rfl
  | _ => simp [plain1] at hp
/-- **what the machine comes to, the program comes to**: from arguments that are only read -/
theorem run_open {P : Program} {C : FuncId → Bool} (hC : ∀ k, C k = true → ChunkLaw P k) (hM : P.follows .mixedOrders = true) (hN : Named P) {X : CallF} (hX : Bodied P X) (hXS : Sound P X) (L n : Nat) {f : FuncId} {args args' : List Value} {v : Value} {h h' : H} (hd : dcall P C X L n f args h = some (v, h')) (hp : plain1 v = true)
    {σ : Sg} {w : World} (ha : VRs σ args args') (R : Rel σ h w) (dead : ∀ b x, h.get b = some x → x.alive = false) :
    Calls P f args'.toArray w fun e w' => e = .returned v ∧ Go.RowKit.Below w.heap.size w w' := by
  refine (dcall_sound hC hN (fun call hB hS => draws_ok hM hN call hB hS) hX hXS L n f args h v h' hd σ w args' ha R).mono ?_
  rintro e w' ⟨σ', v', rfl, k1, k2, k3⟩
  exact ⟨congrArg _ (plain1_inv hp k1), ⟨k3.os, k3.tape, k3.output, k3.size, fun k hk => k3.keep k hk fun b x hx hl => by rw [dead b x hx] at hl; cases hl⟩⟩
theorem run_calls {P : Program} {C : FuncId → Bool} (hC : ∀ k, C k = true → ChunkLaw P k) (hM : P.follows .mixedOrders = true) (hN : Named P) {X : CallF} (hX : Bodied P X) (hXS : Sound P X) (L n : Nat) {f : FuncId} {v : Value} {h' : H} (hd : dcall P C X L n f [] H.empty = some (v, h')) (hp : plain1 v = true) (w : World) :
    Calls P f #[] w fun e w' => e = .returned v ∧ Go.RowKit.Below w.heap.size w w' := by
  let σ : Sg := ⟨fun _ => none, fun _ => 0, fun _ => 0⟩
  have R : Rel σ H.empty w := ⟨fun _ _ => rfl, fun b hb => absurd hb (Nat.not_lt_zero _), fun _ _ => rfl, fun b x r hx _ _ => (by cases hx), fun b b' x x' r hx _ _ _ _ _ => (by cases hx), fun b x hx => (by cases hx), fun b lo l r hx _ => (by cases hx)⟩
  exact run_open hC hM hN hX hXS L n hd hp (σ := σ) .nil R fun b x hx => (by cases hx)
/-- one more row that is only read -/
noncomputable def H.addRo (h : H) (lo : Nat) (l : List Value) : H := ⟨h.t.put h.next (.ro lo l), h.next + 1, h.clock + 1⟩
theorem H.get_addRo (h : H) (lo : Nat) (l : List Value) (c : Nat) : (h.addRo lo l).get c = if c = h.next then some (.ro lo l) else h.get c := T.get_put h.t h.next c _
theorem Rel.addRo {σ : Sg} {h : H} {w : World} (R : Rel σ h w) (dead : ∀ b x, h.get b = some x → x.alive = false) {lo : Nat} {l : List Value} {r rs es : Nat} (hr : RoR σ w r lo l) :
    Rel (σ.add h.next r rs es) (h.addRo lo l) w ∧ (∀ b x, (h.addRo lo l).get b = some x → x.alive = false) ∧ σ.le (σ.add h.next r rs es) := by
  have hj0 := R.jdom h.next (Nat.le_refl _)
  have le : σ.le (σ.add h.next r rs es) := Sg.le_add hj0
  have dead' : ∀ b x, (h.addRo lo l).get b = some x → x.alive = false := by
    intro b x hx
    rw [H.get_addRo] at hx
    split at hx
    · cases hx; rfl
    · exact dead b x hx
  refine ⟨⟨fun b hb => ?_, fun b hb => ?_, fun b hb => ?_, fun b x r' hx ha _ => ?_, fun b b' x x' r' hx ha _ _ _ _ => ?_, fun b x hx => ?_, fun b lo' l' r' hx hj => ?_⟩, dead', le⟩
  · have hb : h.next + 1 ≤ b := hb
    rw [H.get_addRo, if_neg (by omega)]; exact R.dom b (by omega)
  · have hb : b < h.next + 1 := hb
    rw [H.get_addRo]; split
    · exact ⟨_, rfl⟩
    · exact R.tot b (by omega)
  · have hb : h.next + 1 ≤ b := hb
    have : b ≠ h.next := by omega
    simp [Sg.add, this]; exact R.jdom b (by omega)
  · rw [dead' b x hx] at ha; cases ha
  · rw [dead' b x hx] at ha; cases ha
  · show x.ver < h.clock + 1
    rw [H.get_addRo] at hx
    split at hx
    · cases hx; exact Nat.zero_lt_succ _
    · have := R.ver b x hx; omega
  · refine ⟨?_, fun b' x hx ha => by rw [dead' b' x hx] at ha; cases ha⟩
    rw [H.get_addRo] at hx
    split at hx
    · rename_i e; subst e; cases hx
      have : r' = r := by simp [Sg.add] at hj; exact hj.symm
      subst this
      exact hr.mono le
    · rename_i e
      have hj' : σ.j b = some r' := by simpa [Sg.add, e] using hj
      exact (R.ro b lo' l' r' hx hj').1.mono le
end Go.Proofs.Ytnjeafdbifcfhaa.Den
