/- A small machine for closed runs: regions that draw their order, what the check says of them. No condition. -/
import Derived.Test.YtnjeafdbifcfhaaDenN
namespace Go.Proofs.Ytnjeafdbifcfhaa.Den
open Go
variable {ds : List Deferred}
set_option linter.unusedSimpArgs false
set_option linter.unusedVariables false

/-! ### the check, as facts -/
structure Stat (P : Program) (ops : Array Oper) : Prop where
  edge : ∀ (j : Nat) (o : Oper), ops[j]? = some o → ∀ e ∈ edgesOf o, e < j
  ordS : ∀ (i j : Nat) (o : Oper), ops[j]? = some o → i < ops.size → ord ops i j = true → ∃ e ∈ edgesOf o, e = i ∨ ord ops i e = true
  dst : ∀ (i j : Nat) (p o : Oper) (t : Tmp), ops[i]? = some p → ops[j]? = some o → i ≠ j → p.dst = some t → o.dst ≠ some t
  look : ∀ (i j : Nat) (p o : Oper) (t : Tmp), ops[i]? = some p → ops[j]? = some o → p.dst = some t → t ∈ o.looksAt ops → ord ops i j = true ∨ ord ops j i = true
  eff : ∀ (i j : Nat) (p o : Oper), ops[i]? = some p → ops[j]? = some o → clsOf P p.op = 2 → clsOf P o.op = 2 → i < j → ord ops i j = true

theorem getElem_lt {α : Type} {a : Array α} {i : Nat} {x : α} (h : a[i]? = some x) : i < a.size := (Array.getElem?_eq_some_iff.1 h).1

theorem statOk_spec {P : Program} {ops : Array Oper} (h : statOk P ops = true) : Stat P ops := by
  unfold statOk at h
  simp only [List.all_eq_true, List.mem_range] at h
  have at1 : ∀ (j : Nat) (o : Oper), ops[j]? = some o → (∀ e ∈ edgesOf o, Nat.blt e j = true) ∧ ∀ i, i < ops.size → (!(ord ops i j) || ((edgesOf o).any fun e => Nat.beq e i || ord ops i e)) = true ∧
      ∀ p, ops[i]? = some p → (∀ t, p.dst = some t → (Nat.beq i j || !(o.dst == some t)) = true ∧ (!((o.looksAt ops).contains t) || ord ops i j || ord ops j i) = true) ∧
        (!(Nat.beq (clsOf P p.op) 2 && Nat.beq (clsOf P o.op) 2 && Nat.blt i j) || ord ops i j) = true := by
    intro j o ho
    have h1 := h j (getElem_lt ho)
    rw [ho] at h1
    simp only [Bool.and_eq_true, List.all_eq_true, List.mem_range] at h1
    refine ⟨h1.1, fun i hi => ?_⟩
    have h2 := h1.2 i hi
    refine ⟨h2.1, fun p hp => ?_⟩
    have h3 := h2.2
    rw [hp] at h3
    simp only [Bool.and_eq_true] at h3
    refine ⟨fun t ht => ?_, h3.2⟩
    have h4 := h3.1
    rw [ht] at h4
    simp only [Bool.and_eq_true] at h4
    exact h4
  refine ⟨fun j o ho e he => blt_lt ((at1 j o ho).1 e he), fun i j o ho hi hord => ?_, fun i j p o t hp ho hij hd hd2 => ?_, fun i j p o t hp ho hd hl => ?_, fun i j p o hp ho h1 h2 hij => ?_⟩
  · have := ((at1 j o ho).2 i hi).1
    rw [hord] at this
    simp only [Bool.not_true, Bool.false_or, List.any_eq_true, Bool.or_eq_true] at this
    obtain ⟨e, he, h1⟩ := this
    exact ⟨e, he, h1.imp beq_eq id⟩
  · have := ((((at1 j o ho).2 i (getElem_lt hp)).2 p hp).1 t hd).1
    rw [hd2] at this
    simp at this
    exact hij this
  · have := ((((at1 j o ho).2 i (getElem_lt hp)).2 p hp).1 t hd).2
    have hc : (o.looksAt ops).contains t = true := by simpa using hl
    rw [hc] at this
    simp only [Bool.not_true, Bool.false_or, Bool.or_eq_true] at this
    exact this
  · have := (((at1 j o ho).2 i (getElem_lt hp)).2 p hp).2
    rw [h1, h2] at this
    have hb : Nat.blt i j = true := Nat.ble_eq_true_of_le hij
    rw [hb] at this
    simpa using this

section
variable {P : Program} {ops : Array Oper} (St : Stat P ops)
include St
theorem Stat.ord_lt {i : Nat} (hi : i < ops.size) : ∀ j, j < ops.size → ord ops i j = true → i < j := by
  intro j
  induction j using Nat.strongRecOn with
  | _ j ih =>
    intro hj ho
    obtain ⟨o, hoj⟩ : ∃ o, ops[j]? = some o := ⟨ops[j], by simp [hj]⟩
    obtain ⟨e, he, h1⟩ := St.ordS i j o hoj hi ho
    have hlt := St.edge j o hoj e he
    rcases h1 with rfl | h1
    · exact hlt
    · have := ih e hlt (by omega) h1; omega
/-- what stands ahead of something that may come up has come up -/
theorem Stat.ord_in {D : Nat → Prop} (hcl : ∀ (j : Nat) (o : Oper), ops[j]? = some o → D j → ∀ e ∈ edgesOf o, D e) {i : Nat} (hi : i < ops.size) : ∀ (j : Nat) (o : Oper), ops[j]? = some o → (∀ e ∈ edgesOf o, D e) → ord ops i j = true → D i := by
  intro j
  induction j using Nat.strongRecOn with
  | _ j ih =>
    intro o hoj hD ho
    obtain ⟨e, he, h1⟩ := St.ordS i j o hoj hi ho
    have hlt := St.edge j o hoj e he
    rcases h1 with rfl | h1
    · exact hD e he
    · obtain ⟨oe, hoe⟩ : ∃ oe, ops[e]? = some oe := ⟨ops[e]'(by have := getElem_lt hoj; omega), by have := getElem_lt hoj; simp⟩
      exact ih e hlt oe hoe (hcl e oe hoe (hD e he)) h1
end

/-! ### the run in the order of the text -/
theorem dtrace_cons {P : Program} {call : CallF} {N : Nat} {ops : Array Oper} {o : Oper} {l : List Oper} {s : S} {h : H} : dtrace P call N ops (o :: l) s h = match dstep P call N ops o s h with
    | some (_, s', h') => match dtrace P call N ops l s' h' with
      | some tr => some ((s, h) :: tr)
      | none => none
    | none => none := rfl
theorem dtrace_spec {P : Program} {call : CallF} {N : Nat} {ops : Array Oper} : ∀ {l : List Oper} {s : S} {h : H} {tr : List (S × H)}, dtrace P call N ops l s h = some tr →
    tr.length = l.length + 1 ∧ sAt tr 0 = s ∧ hAt tr 0 = h ∧ ∀ (k : Nat) (o : Oper), l[k]? = some o → ∃ v, dstep P call N ops o (sAt tr k) (hAt tr k) = some (v, sAt tr (k + 1), hAt tr (k + 1))
  | [], s, h, tr, e => by cases e; exact ⟨rfl, rfl, rfl, fun k o hk => by simp at hk⟩
  | o :: l, s, h, tr, e => by
    rw [dtrace_cons] at e
    split at e
    · rename_i v s' h' hd
      split at e
      · rename_i tr' ht
        cases e
        obtain ⟨h1, h2, h3, h4⟩ := dtrace_spec ht
        refine ⟨by simp [h1], rfl, rfl, fun k o' hk => ?_⟩
        cases k with
        | zero =>
          simp at hk; subst hk
          refine ⟨v, ?_⟩
          show dstep P call N ops o s h = some (v, sAt tr' 0, hAt tr' 0)
          rw [h2, h3]; exact hd
        | succ k => exact h4 k o' (by simpa using hk)
      · cases e
    · cases e

theorem dstep_put {P : Program} {call : CallF} {N : Nat} {ops : Array Oper} {o : Oper} {s s' : S} {h h' : H} {v : Value} (hd : dstep P call N ops o s h = some (v, s', h')) : putA N s o.dst v = some s' := by
  unfold dstep at hd
  split at hd
  · split at hd
    · split at hd
      · rename_i hp; cases hd; exact hp
      · cases hd
    · cases hd
  · split at hd
    · rename_i hp; cases hd; exact hp
    · cases hd
  · cases hd

theorem Goes.ex {P : Program} {call : CallF} (hS : Sound P call) {σ : Sg} {h h' : H} {w : World} {s : Sem Next} {v : Value} (R : Rel σ h w) (g : Goes P call σ h w s v h') : ∃ σ' w' v', VR σ' v v' ∧ Rel σ' h' w' ∧ Fr σ h w σ' h' w' := by
  cases g with
  | val hs hv R' F => exact ⟨_, _, _, hv, R', F⟩
  | skip hs hv R' F => subst hv; exact ⟨_, _, _, VR.undef _, R', F⟩
  | enter hs hv hc =>
    obtain ⟨e, w', fr, ⟨σ', v', _, k1, k2, k3⟩, _⟩ := hS _ _ _ _ _ hc σ w _ hv R []
    exact ⟨σ', w', v', k1, k2, k3⟩

theorem dstep_ex {P : Program} {call : CallF} (hN : Named P) (hB : Bodied P call) (hS : Sound P call) {σ : Sg} {N : Nat} {ops : Array Oper} {o : Oper} {s s' : S} {h h' : H} {v : Value} {a : Act} {w : World} (R : Rel σ h w) (hs : SR σ N ds s a)
    (hd : dstep P call N ops o s h = some (v, s', h')) : ∃ σ' w' v', VR σ' v v' ∧ Rel σ' h' w' ∧ Fr σ h w σ' h' w' ∧ SR σ' N ds s' (a.put o.dst v') := by
  unfold dstep at hd
  split at hd
  · split at hd
    · rename_i u h1 ha
      split at hd
      · rename_i s1 hp
        cases hd
        obtain ⟨σ', w', v', k1, k2, k3⟩ := Goes.ex hS R (aop_run hN hB (o := o) R hs.env ha)
        exact ⟨σ', w', v', k1, k2, k3, (hs.mono k3.le).put k1 hp⟩
      · cases hd
    · cases hd
  · split at hd
    · rename_i s1 hp
      cases hd
      exact ⟨σ, w, undef, VR.undef σ, R, Fr.refl R rfl rfl rfl rfl, hs.put (VR.undef σ) hp⟩
    · cases hd
  · cases hd

/-- all that the numbers of a value tell of lies below -/
def Lo (n : Nat) (v : Value) : Prop := ∃ σ v', (∀ b, n ≤ b → σ.j b = none) ∧ VR σ v v'
def Sg.below (σ : Sg) (n : Nat) : Sg := ⟨fun b => if b < n then σ.j b else none, σ.rs, σ.es⟩
theorem VR.cutTo {σ1 : Sg} {v v1 : Value} {n : Nat} (h1 : VR σ1 v v1) (hlo : ∀ b, n ≤ b → σ1.j b = none) : ∀ {σ : Sg} {v' : Value}, VR σ v v' → VR (σ.below n) v v' := by
  have lt : ∀ b r, σ1.j b = some r → b < n := fun b r hb => by
    rcases Nat.lt_or_ge b n with h | h
    · exact h
    · rw [hlo b h] at hb; cases hb
  have jb : ∀ (σ : Sg) b r s, σ1.j b = some r → σ.j b = some s → (σ.below n).j b = some s := fun σ b r s hb hs => by simp [Sg.below, lt b r hb, hs]
  induction h1 with
  | bool b => intro σ v' h; cases h; exact .bool b
  | int k m => intro σ v' h; cases h; exact .int k m
  | string s => intro σ v' h; cases h; exact .string s
  | nilp => intro σ v' h; cases h; exact .nilp
  | ptr o hj => intro σ v' h; cases h with
    | ptr _ hj' => exact .ptr o (jb σ _ _ _ hj hj')
  | nils => intro σ v' h; cases h; exact .nils
  | slice o len hj hc => intro σ v' h; cases h with
    | slice _ _ hj' hc' => exact .slice o len (jb σ _ _ _ hj hj') hc'
  | emp a c => intro σ v' h; cases h with
    | emp a c => exact .emp a c
  | nilm => intro σ v' h; cases h; exact .nilm
  | map hj => intro σ v' h; cases h with
    | map hj' => exact .map (jb σ _ _ _ hj hj')
  | nilf => intro σ v' h; cases h; exact .nilf
  | nili => intro σ v' h; cases h; exact .nili
  | func f ha hc va vc iha ihc => intro σ v' h; cases h with
    | func _ ha' hc' va' vc' =>
      refine .func f ha' hc' (fun i u u' k1 k2 => ?_) (fun i u u' k1 k2 => ?_)
      · obtain ⟨u1, hu1⟩ : ∃ u1, _ = some u1 := ⟨_, Array.getElem?_eq_getElem (by rw [← ha]; exact getElem_lt k1)⟩
        exact iha i u u1 k1 hu1 (va' i u u' k1 k2)
      · obtain ⟨u1, hu1⟩ : ∃ u1, _ = some u1 := ⟨_, Array.getElem?_eq_getElem (by rw [← hc]; exact getElem_lt k1)⟩
        exact ihc i u u1 k1 hu1 (vc' i u u' k1 k2)
  | agg ha va iha => intro σ v' h; cases h with
    | agg ha' va' =>
      refine .agg ha' (fun i u u' k1 k2 => ?_)
      obtain ⟨u1, hu1⟩ : ∃ u1, _ = some u1 := ⟨_, Array.getElem?_eq_getElem (by rw [← ha]; exact getElem_lt k1)⟩
      exact iha i u u1 k1 hu1 (va' i u u' k1 k2)
  | tuple ha va iha => intro σ v' h; cases h with
    | tuple ha' va' =>
      refine .tuple ha' (fun i u u' k1 k2 => ?_)
      obtain ⟨u1, hu1⟩ : ∃ u1, _ = some u1 := ⟨_, Array.getElem?_eq_getElem (by rw [← ha]; exact getElem_lt k1)⟩
      exact iha i u u1 k1 hu1 (va' i u u' k1 k2)
theorem Lo.below {n : Nat} {v : Value} (h : Lo n v) {σ : Sg} {v' : Value} (hv : VR σ v v') : VR (σ.below n) v v' := by
  obtain ⟨σ1, v1, h1, h2⟩ := h; exact h2.cutTo h1 hv

theorem MsR.cutTo {σ1 : Sg} {n : Nat} (hlo : ∀ b, n ≤ b → σ1.j b = none) {l l1 : List MapEntry} (h1 : MsR σ1 l l1) : ∀ {σ : Sg} {l' : List MapEntry}, MsR σ l l' → MsR (σ.below n) l l' := by
  induction h1 with
  | nil => intro σ l' h; cases h; exact .nil
  | cons hk hv hl ih => intro σ l' h; cases h with
    | cons hk' hv' hl' => exact .cons (hk.cutTo hlo hk') (hv.cutTo hlo hv') (ih hl')
theorem BlkR.cutTo {σ1 : Sg} {n b : Nat} (hlo : ∀ b, n ≤ b → σ1.j b = none) {x : Blk} {o1 : Obj} (h1 : BlkR σ1 b x o1) {σ : Sg} {o : Obj} (h : BlkR σ b x o) : BlkR (σ.below n) b x o := by
  cases x with
  | row l B => cases l with
    | false => trivial
    | true =>
      obtain ⟨c, fz, q1, q2, q3, q4, q5, q6⟩ := h
      obtain ⟨c1, fz1, _, _, _, _, _, p6⟩ := h1
      refine ⟨c, fz, q1, q2, q3, q4, q5, fun i v hv => ?_⟩
      obtain ⟨v', k1, k2⟩ := q6 i v hv
      obtain ⟨v1, _, k4⟩ := p6 i v hv
      exact ⟨v', k1, k4.cutTo hlo k2⟩
  | map es clock ver =>
    obtain ⟨es', q1, q2⟩ := h
    obtain ⟨es1, _, p2⟩ := h1
    exact ⟨es', q1, p2.cutTo hlo q2⟩
  | iter s pos ver => exact h
  | ro lo l => exact h.elim

/-- the text's run, as facts -/
structure Text (P : Program) (call : CallF) (N : Nat) (ops : Array Oper) (S' : Nat → S) (H' : Nat → H) (V : Nat → Value) (σ0 : Sg) (w0 : World) : Prop where
  step : ∀ (k : Nat) (o : Oper), ops[k]? = some o → dstep P call N ops o (S' k) (H' k) = some (V k, S' (k + 1), H' (k + 1))
  r0 : Rel σ0 (H' 0) w0
  rel : ∀ k, k ≤ ops.size → ∃ σ w, Rel σ (H' k) w ∧ Fr σ0 (H' 0) w0 σ (H' k) w
  slot : ∀ k, k ≤ ops.size → ∀ t v, (S' k).get t = some v → Lo (H' k).next v
  next : ∀ i j, i ≤ j → j ≤ ops.size → (H' i).next ≤ (H' j).next
  keep : ∀ i j, i ≤ j → j ≤ ops.size → ∀ b x, (H' i).get b = some x → ∃ x', (H' j).get b = some x' ∧ (x' = x ∨ (x.alive = true ∧ (H' i).clock ≤ x'.ver))
  slots : ∀ k, k ≤ ops.size → ∀ t v, (S' k).get t = some v → (∃ (i : Nat) (o : Oper), i < k ∧ ops[i]? = some o ∧ o.dst = some t ∧ v = V i) ∨ ((S' 0).get t = some v ∧ ∀ (i : Nat) (o : Oper), i < k → ops[i]? = some o → o.dst ≠ some t)

theorem text_of {P : Program} {call : CallF} (hN : Named P) (hB : Bodied P call) (hS : Sound P call) {N : Nat} {ops : Array Oper} (St : Stat P ops) {s : S} {h : H} {tr : List (S × H)} (ht : dtrace P call N ops ops.toList s h = some tr) {σ0 : Sg} {w0 : World} {a0 : Act} (R0 : Rel σ0 h w0) (hs0 : SR σ0 N ds s a0) :
    ∃ V, Text P call N ops (sAt tr) (hAt tr) V σ0 w0 := by
  obtain ⟨h1, h2, h3, h4⟩ := dtrace_spec ht
  have hv : ∀ k, ∃ v, ∀ o, ops[k]? = some o → dstep P call N ops o (sAt tr k) (hAt tr k) = some (v, sAt tr (k + 1), hAt tr (k + 1)) := by
    intro k
    cases hk : ops[k]? with
    | none => exact ⟨undef, fun o ho => by cases ho⟩
    | some o =>
      obtain ⟨v, hv⟩ := h4 k o (by simpa using hk)
      exact ⟨v, fun o' ho' => by cases ho'; exact hv⟩
  obtain ⟨V, step⟩ := Classical.axiomOfChoice hv
  refine ⟨V, ?_⟩
  have all : ∀ k, k ≤ ops.size → ∃ σ w a, Rel σ (hAt tr k) w ∧ SR σ N ds (sAt tr k) a ∧ Fr σ0 (hAt tr 0) w0 σ (hAt tr k) w ∧ ∀ i, i ≤ k → ∃ σi wi, Rel σi (hAt tr i) wi ∧ Fr σi (hAt tr i) wi σ (hAt tr k) w := by
    intro k
    induction k with
    | zero =>
      intro _
      have R0' : Rel σ0 (hAt tr 0) w0 := by rw [h3]; exact R0
      exact ⟨σ0, w0, a0, R0', by rw [h2]; exact hs0, Fr.refl R0' rfl rfl rfl rfl, fun i hi => ⟨σ0, w0, by rw [show i = 0 by omega]; exact R0', by rw [show i = 0 by omega]; exact Fr.refl R0' rfl rfl rfl rfl⟩⟩
    | succ k ih =>
      intro hk
      obtain ⟨σ, w, a, k1, k2, k3, k4⟩ := ih (by omega)
      obtain ⟨o, ho⟩ : ∃ o, ops[k]? = some o := ⟨ops[k]'(by omega), by simp⟩
      obtain ⟨σ', w', v', q1, q2, q3, q4⟩ := dstep_ex hN hB hS k1 k2 (step k o ho)
      refine ⟨σ', w', _, q2, q4, Fr.trans (by rw [h3]; exact R0) k1 k3 q3, fun i hi => ?_⟩
      rcases Nat.lt_or_ge i (k + 1) with hlt | hge
      · obtain ⟨σi, wi, r1, r2⟩ := k4 i (by omega)
        exact ⟨σi, wi, r1, Fr.trans r1 k1 r2 q3⟩
      · have : i = k + 1 := by omega
        subst this
        exact ⟨σ', w', q2, Fr.refl q2 rfl rfl rfl rfl⟩
  refine ⟨step, (by rw [h3]; exact R0), fun k hk => ?_, fun k hk t v hv => ?_, fun i j hij hj => ?_, fun i j hij hj b x hb => ?_, fun k => ?_⟩
  · obtain ⟨σ, w, a, k1, _, k3, _⟩ := all k hk; exact ⟨σ, w, k1, k3⟩
  · obtain ⟨σ, w, a, k1, k2, _, _⟩ := all k hk
    obtain ⟨v', _, k5⟩ := k2.get t v hv
    exact ⟨σ, v', k1.jdom, k5⟩
  · obtain ⟨σ, w, a, _, _, _, k4⟩ := all j hj
    obtain ⟨σi, wi, _, r2⟩ := k4 i hij
    exact r2.next
  · obtain ⟨σ, w, a, _, _, _, k4⟩ := all j hj
    obtain ⟨σi, wi, _, r2⟩ := k4 i hij
    exact r2.keepA b x hb
  · induction k with
    | zero => intro _ t v hv; exact .inr ⟨hv, fun i o hi => by omega⟩
    | succ k ih =>
      intro hk t v hv
      obtain ⟨o, ho⟩ : ∃ o, ops[k]? = some o := ⟨ops[k]'(by omega), by simp⟩
      have hp := dstep_put (step k o ho)
      cases hd : o.dst with
      | none =>
        rw [hd] at hp
        have hp : sAt tr k = sAt tr (k + 1) := Option.some.inj hp
        rw [← hp] at hv
        rcases ih (by omega) t v hv with ⟨i, p, q1, q2, q3, q4⟩ | ⟨q1, q2⟩
        · exact .inl ⟨i, p, by omega, q2, q3, q4⟩
        · refine .inr ⟨q1, fun i p hi hpi => ?_⟩
          rcases Nat.lt_or_ge i k with h | h
          · exact q2 i p h hpi
          · have : i = k := by omega
            subst this; rw [ho] at hpi; cases hpi; rw [hd]; exact fun e => by cases e
      | some d =>
        rw [hd] at hp
        have hp : cond (Nat.blt d N) (some ((sAt tr k).put d (V k))) none = some (sAt tr (k + 1)) := hp
        obtain ⟨_, hp⟩ := cond_some hp
        have hp : (sAt tr k).put d (V k) = sAt tr (k + 1) := Option.some.inj hp
        rw [← hp, T.get_put] at hv
        by_cases e : t = d
        · rw [if_pos e] at hv; cases hv
          exact .inl ⟨k, o, by omega, ho, by rw [hd, e], rfl⟩
        · rw [if_neg e] at hv
          rcases ih (by omega) t v hv with ⟨i, p, q1, q2, q3, q4⟩ | ⟨q1, q2⟩
          · exact .inl ⟨i, p, by omega, q2, q3, q4⟩
          · refine .inr ⟨q1, fun i p hi hpi => ?_⟩
            rcases Nat.lt_or_ge i k with h | h
            · exact q2 i p h hpi
            · have : i = k := by omega
              subst this; rw [ho] at hpi; cases hpi; rw [hd]; exact fun q => e (by cases q; rfl)
end Go.Proofs.Ytnjeafdbifcfhaa.Den
