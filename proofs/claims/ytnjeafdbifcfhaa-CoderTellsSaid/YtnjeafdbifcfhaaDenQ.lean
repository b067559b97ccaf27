/- A small machine for closed runs: regions that draw their order, whatever has come up. No condition. -/
import Derived.Test.YtnjeafdbifcfhaaDenP
namespace Go.Proofs.Ytnjeafdbifcfhaa.Den
open Go
variable {ds : List Deferred}
set_option linter.unusedSimpArgs false
set_option linter.unusedVariables false

/-- number k makes a block -/
def AlP (P : Program) (ops : Array Oper) (S' : Nat → S) (H' : Nat → H) (k : Nat) : Prop := ∃ o B, ops[k]? = some o ∧ clsOf P o.op = 1 ∧ wantedA ops (S' k) o = some true ∧ H' (k + 1) = (H' k).new B
/-- what a block holds, when those of D have come up -/
def Cur (P : Program) (ops : Array Oper) (S' : Nat → S) (H' : Nat → H) (D : Nat → Prop) (m b : Nat) (x : Blk) : Prop :=
  (b < (H' m).next ∧ (H' m).get b = some x) ∨ (∃ k, D k ∧ m ≤ k ∧ AlP P ops S' H' k ∧ b = (H' k).next ∧ (H' (k + 1)).get b = some x)

theorem clsOf_le {P : Program} {op : Op} (h : clsOf P op ≠ 2) : clsOf P op = 0 ∨ clsOf P op = 1 := by
  have : clsOf P op ≤ 2 := by
    unfold clsOf
    split <;> first
      | exact Nat.zero_le _
      | exact Nat.le_succ _
      | exact Nat.le_refl _
      | (split <;> first | exact Nat.zero_le _ | exact Nat.le_succ _ | exact Nat.le_refl _)
  omega

structure DI (ds : List Deferred) (P : Program) (N : Nat) (ops : Array Oper) (S' : Nat → S) (H' : Nat → H) (V : Nat → Value) (σ0 : Sg) (w0 : World) (D : Nat → Prop) (m : Nat) (σ : Sg) (w : World) (a : Act) : Prop where
  size : a.tmps.size = N
  defers : a.defers = ds
  cl : ∀ (j : Nat) (o : Oper), ops[j]? = some o → D j → ∀ e ∈ edgesOf o, D e
  dn : ∀ k, D k → k < ops.size
  mn : m ≤ ops.size
  eff : ∀ (e : Nat) (o : Oper), ops[e]? = some o → clsOf P o.op = 2 → (D e ↔ e < m)
  new : ∀ (k : Nat) (o : Oper) (t : Tmp), ops[k]? = some o → D k → o.dst = some t → ∃ v', a.tmps[t]? = some v' ∧ VR σ (V k) v'
  old : ∀ t v, (S' 0).get t = some v → (∀ (k : Nat) (o : Oper), ops[k]? = some o → D k → o.dst ≠ some t) → ∃ v', a.tmps[t]? = some v' ∧ VR σ v v'
  core : ∀ b x r, Cur P ops S' H' D m b x → x.alive = true → σ.j b = some r → ∃ o, w.heap[r]? = some o ∧ BlkR σ b x o
  inj : ∀ b b' x x' r, Cur P ops S' H' D m b x → x.alive = true → Cur P ops S' H' D m b' x' → x'.alive = true → σ.j b = some r → σ.j b' = some r → b = b'
  dom : ∀ b r, σ.j b = some r → b < (H' m).next ∨ ∃ k, D k ∧ m ≤ k ∧ AlP P ops S' H' k ∧ b = (H' k).next
  un : ∀ k, AlP P ops S' H' k → k < m → ¬ D k → σ.j (H' k).next = none ∧ (H' m).get (H' k).next = (H' (k + 1)).get (H' k).next
  madeA : ∀ b, (H' 0).next ≤ b → b < (H' m).next → (∀ k, AlP P ops S' H' k → k < m → ¬ D k → b ≠ (H' k).next) → ∃ r, σ.j b = some r
  madeB : ∀ k, D k → m ≤ k → AlP P ops S' H' k → ∃ r, σ.j (H' k).next = some r
  fle : σ0.le σ
  fos : w.os = w0.os
  ftape : w.tape = w0.tape
  fout : w.output = w0.output
  fsize : w0.heap.size ≤ w.heap.size
  fkeep : ∀ r, r < w0.heap.size → (∀ b x, (H' 0).get b = some x → x.alive = true → σ0.j b ≠ some r) → w.heap[r]? = w0.heap[r]?
  fnone : ∀ b, b < (H' 0).next → σ0.j b = none → σ.j b = none
  ffresh : ∀ b r, (H' 0).next ≤ b → σ.j b = some r → w0.heap.size ≤ r ∨ ∃ b0 x, (H' 0).get b0 = some x ∧ x.alive = true ∧ σ0.j b0 = some r ∧ ∃ x', (H' m).get b0 = some x' ∧ x'.alive = false

section
variable {P : Program} {call : CallF} {N : Nat} {ops : Array Oper} {S' : Nat → S} {H' : Nat → H} {V : Nat → Value} {σ0 : Sg} {w0 : World}

/-- what is only read is as it was -/
theorem DI.ro {ds : List Deferred} {D : Nat → Prop} {m : Nat} {σ : Sg} {w : World} {a : Act} (T : Text P call N ops S' H' V σ0 w0) (I : DI ds P N ops S' H' V σ0 w0 D m σ w a) {k : Nat} (hk : k ≤ ops.size) {b lo r : Nat} {l : List Value} (hb : (H' k).get b = some (.ro lo l)) (hj : σ.j b = some r) :
    RoR σ0 w r lo l ∧ r < w0.heap.size ∧ ∀ b' x, (H' 0).get b' = some x → x.alive = true → σ0.j b' ≠ some r := by
  obtain ⟨σk, wk, _, Fk⟩ := T.rel k hk
  have hb0 := Fk.ros b lo l hb
  have hlt : b < (H' 0).next := by
    rcases Nat.lt_or_ge b (H' 0).next with q | q
    · exact q
    · rw [T.r0.dom b q] at hb0; cases hb0
  have hj0 : σ0.j b = some r := by
    cases hq : σ0.j b with
    | none => rw [I.fnone b hlt hq] at hj; cases hj
    | some r0 => rw [I.fle.j b r0 hq] at hj; exact hj
  obtain ⟨k1, k2⟩ := T.r0.ro b lo l r hb0 hj0
  have hr : r < w0.heap.size := by
    obtain ⟨c, e, fz, l', q1, _⟩ := k1
    exact (Array.getElem?_eq_some_iff.1 q1).1
  exact ⟨k1.heap (I.fkeep r hr k2), hr, k2⟩
theorem Text.lt (T : Text P call N ops S' H' V σ0 w0) {k : Nat} (hk : k ≤ ops.size) {b : Nat} {x : Blk} (h : (H' k).get b = some x) : b < (H' k).next := by
  obtain ⟨σ, w, R, _⟩ := T.rel k hk
  rcases Nat.lt_or_ge b (H' k).next with h1 | h1
  · exact h1
  · rw [R.dom b h1] at h; cases h
theorem Text.tot (T : Text P call N ops S' H' V σ0 w0) {k : Nat} (hk : k ≤ ops.size) {b : Nat} (h : b < (H' k).next) : ∃ x, (H' k).get b = some x := by
  obtain ⟨σ, w, R, _⟩ := T.rel k hk; exact R.tot b h
theorem Text.ver (T : Text P call N ops S' H' V σ0 w0) {k : Nat} (hk : k ≤ ops.size) {b : Nat} {x : Blk} (h : (H' k).get b = some x) : x.ver < (H' k).clock := by
  obtain ⟨σ, w, R, _⟩ := T.rel k hk; exact R.ver b x h

/-- what an operation does with the heap, by its kind -/
theorem Text.kind (T : Text P call N ops S' H' V σ0 w0) {k : Nat} {o : Oper} (ho : ops[k]? = some o) (hc : clsOf P o.op ≠ 2) : H' (k + 1) = H' k ∨ AlP P ops S' H' k := by
  have hst := T.step k o ho
  unfold dstep at hst
  split at hst
  · rename_i hw
    split at hst
    · rename_i u h1 ha
      split at hst
      · have e : h1 = H' (k + 1) := by have := Option.some.inj hst; exact congrArg (fun p => p.2.2) this
        have hle := clsOf_le hc
        rcases hle with h0 | h0
        · exact .inl (by rw [← e]; exact (aop_cls0 h0 ha).1)
        · obtain ⟨B, g, _, e2, _⟩ := aop_cls1 h0 ha
          exact .inr ⟨o, B, ho, h0, hw, by rw [← e]; exact e2⟩
      · cases hst
    · cases hst
  · split at hst
    · left; have := Option.some.inj hst; exact (congrArg (fun p => p.2.2) this).symm
    · cases hst
  · cases hst
theorem Text.get_quiet (T : Text P call N ops S' H' V σ0 w0) {k : Nat} {o : Oper} (ho : ops[k]? = some o) (hc : clsOf P o.op ≠ 2) {b : Nat} (hb : b < (H' k).next) : (H' (k + 1)).get b = (H' k).get b := by
  rcases T.kind ho hc with h | ⟨_, B, _, _, _, h⟩
  · rw [h]
  · rw [h, H.get_new, if_neg (by omega)]
theorem Text.cont (T : Text P call N ops S' H' V σ0 w0) {b : Nat} : ∀ (q p : Nat), p ≤ q → q ≤ ops.size → b < (H' p).next → (∀ (e : Nat) (o : Oper), p ≤ e → e < q → ops[e]? = some o → clsOf P o.op = 2 → (H' (e + 1)).get b = (H' e).get b) → (H' q).get b = (H' p).get b := by
  intro q
  induction q with
  | zero => intro p hp _ _ _; rw [show p = 0 by omega]
  | succ q ih =>
    intro p hp hq hb he
    rcases Nat.lt_or_ge p (q + 1) with h | h
    · obtain ⟨o, ho⟩ : ∃ o, ops[q]? = some o := ⟨ops[q]'(by omega), by simp⟩
      rw [← ih p (by omega) (by omega) hb fun e o' h1 h2 => he e o' h1 (by omega)]
      by_cases hc : clsOf P o.op = 2
      · exact he q o (by omega) (by omega) ho hc
      · exact T.get_quiet ho hc (Nat.lt_of_lt_of_le hb (T.next p q (by omega) (by omega)))
    · rw [show p = q + 1 by omega]
theorem AlP_next' {k : Nat} (h : AlP P ops S' H' k) : (H' (k + 1)).next = (H' k).next + 1 := by obtain ⟨_, B, _, _, _, e⟩ := h; rw [e]; rfl
theorem AlP_lt {k : Nat} (h : AlP P ops S' H' k) : k < ops.size := by obtain ⟨_, B, ho, _⟩ := h; exact getElem_lt ho
theorem AlP_inj (T : Text P call N ops S' H' V σ0 w0) {k l : Nat} (hk : AlP P ops S' H' k) (hl : AlP P ops S' H' l) (e : (H' k).next = (H' l).next) : k = l := by
  rcases Nat.lt_trichotomy k l with h | h | h
  · have := AlP_next' hk; have := T.next (k + 1) l (by omega) (Nat.le_of_lt (AlP_lt hl)); omega
  · exact h
  · have := AlP_next' hl; have := T.next (l + 1) k (by omega) (Nat.le_of_lt (AlP_lt hk)); omega

/-- where a number comes from, if nothing is written -/
theorem Text.find (T : Text P call N ops S' H' V σ0 w0) {b : Nat} : ∀ (q p : Nat), p ≤ q → q ≤ ops.size → (∀ (e : Nat) (o : Oper), p ≤ e → e < q → ops[e]? = some o → clsOf P o.op ≠ 2) → (H' p).next ≤ b → b < (H' q).next → ∃ k, p ≤ k ∧ k < q ∧ AlP P ops S' H' k ∧ b = (H' k).next := by
  intro q
  induction q with
  | zero => intro p hp _ _ h1 h2; rw [show p = 0 by omega] at h1; omega
  | succ q ih =>
    intro p hp hq hno h1 h2
    rcases Nat.lt_or_ge p (q + 1) with h | h
    · rcases Nat.lt_or_ge b (H' q).next with hb | hb
      · obtain ⟨k, k1, k2, k3⟩ := ih p (by omega) (by omega) (fun e o q1 q2 => hno e o q1 (by omega)) h1 hb
        exact ⟨k, k1, by omega, k3⟩
      · obtain ⟨o, ho⟩ : ∃ o, ops[q]? = some o := ⟨ops[q]'(by omega), by simp⟩
        rcases T.kind ho (hno q o (by omega) (by omega) ho) with e | e
        · rw [e] at h2; omega
        · exact ⟨q, by omega, by omega, e, by have := AlP_next' e; omega⟩
    · rw [show p = q + 1 by omega] at h1; omega

/-- something may come up -/
structure Rdy (ds : List Deferred) (P : Program) (call : CallF) (N : Nat) (ops : Array Oper) (S' : Nat → S) (H' : Nat → H) (V : Nat → Value) (σ0 : Sg) (w0 : World) (D : Nat → Prop) (m : Nat) (σ : Sg) (w : World) (a : Act) (j : Nat) (o : Oper) : Prop where
  T : Text P call N ops S' H' V σ0 w0
  St : Stat P ops
  I : DI ds P N ops S' H' V σ0 w0 D m σ w a
  hj : ¬ D j
  ho : ops[j]? = some o
  hr : ∀ e ∈ edgesOf o, D e
variable {D : Nat → Prop} {m : Nat} {σ : Sg} {w : World} {a : Act} {j : Nat} {o : Oper}

theorem Rdy.ord_listed (Z : Rdy ds P call N ops S' H' V σ0 w0 D m σ w a j o) {i : Nat} (hi : i < ops.size) (h : ord ops i j = true) : D i := Z.St.ord_in Z.I.cl hi j o Z.ho Z.hr h
theorem Rdy.ord_not (Z : Rdy ds P call N ops S' H' V σ0 w0 D m σ w a j o) {i : Nat} (hi : D i) (h : ord ops j i = true) : False := by
  have T := Z.T; have St := Z.St; have I := Z.I; have hj := Z.hj; have ho := Z.ho; have hr := Z.hr
  have hin := I.dn i hi
  obtain ⟨p, hp⟩ : ∃ p, ops[i]? = some p := ⟨ops[i], by simp⟩
  exact hj (St.ord_in I.cl (getElem_lt ho) i p hp (I.cl i p hp hi) h)

/-- what the operation looks at is there -/
theorem Rdy.slot (Z : Rdy ds P call N ops S' H' V σ0 w0 D m σ w a j o) {t : Tmp} (ht : t ∈ o.looksAt ops) {v : Value} (hv : (S' j).get t = some v) : ∃ v', a.tmps[t]? = some v' ∧ VR σ v v' := by
  have T := Z.T; have St := Z.St; have I := Z.I; have hj := Z.hj; have ho := Z.ho; have hr := Z.hr
  have hjn := getElem_lt ho
  rcases T.slots j (Nat.le_of_lt hjn) t v hv with ⟨i, p, h1, h2, h3, rfl⟩ | ⟨h1, h2⟩
  · rcases St.look i j p o t h2 ho h3 ht with h | h
    · exact I.new i p t h2 (Z.ord_listed (getElem_lt h2) h) h3
    · have := St.ord_lt hjn i (getElem_lt h2) h; omega
  · refine I.old t v h1 fun k p hp hk hd => ?_
    rcases Nat.lt_or_ge k j with h | h
    · exact h2 k p h hp hd
    · have hne : k ≠ j := fun e => hj (e ▸ hk)
      rcases St.look k j p o t hp ho hd ht with q | q
      · have := St.ord_lt (getElem_lt hp) j hjn q; omega
      · exact Z.ord_not hk q
theorem Rdy.wanted (Z : Rdy ds P call N ops S' H' V σ0 w0 D m σ w a j o) {b : Bool} (hw : wantedA ops (S' j) o = some b) : Region.wanted o (yielded ops a.tmps) = b := by
  have T := Z.T; have St := Z.St; have I := Z.I; have hj := Z.hj; have ho := Z.ho; have hr := Z.hr
  unfold wantedA at hw
  unfold Region.wanted
  split at hw
  · rename_i hg; rw [hg]; cases hw; rfl
  · rename_i g want hg
    rw [hg]
    split at hw
    · rename_i t ht
      have y : yielded ops a.tmps g = match a.tmps[t]? with | some (.bool b) => some b | _ => none := by
        unfold yielded; rw [ht]; rfl
      have hl : t ∈ o.looksAt ops := List.mem_append_right _ (by rw [hg]; simp [ht])
      split at hw
      · rename_i c hc
        cases hw
        obtain ⟨v', k1, k2⟩ := Z.slot hl hc
        have := k2.bool_inv; subst this
        show (yielded ops a.tmps g == some want) = _
        rw [y, k1]
        cases c <;> cases want <;> rfl
      · rename_i u hnb hc
        cases hw
        obtain ⟨v', k1, k2⟩ := Z.slot hl hc
        show (yielded ops a.tmps g == some want) = _
        rw [y, k1]
        cases k2 <;> first | rfl | exact absurd rfl (hnb _)
      · cases hw
    · cases hw
/-- the operation's operands -/
theorem Rdy.operand (Z : Rdy ds P call N ops S' H' V σ0 w0 D m σ w a j o) {x : Operand} (hx : x ∈ o.op.operands) {v : Value} (hv : envOf (S' j) x = some v) : VR σ v (a.eval x) := by
  have T := Z.T; have St := Z.St; have I := Z.I; have hj := Z.hj; have ho := Z.ho; have hr := Z.hr
  cases x with
  | tmp t =>
    have hl : t ∈ o.looksAt ops := List.mem_append_left _ (List.mem_filterMap.2 ⟨.tmp t, by simpa using hx, rfl⟩)
    obtain ⟨v', k1, k2⟩ := Z.slot hl hv
    show VR σ v (a.tmps.getD t undef)
    have : a.tmps.getD t undef = v' := by simp [k1]
    rw [this]; exact k2
  | const u =>
    have hx : cond (plain u) (some u) none = some v := hv
    obtain ⟨h1, h2⟩ := cond_some hx
    cases h2
    exact plain_VR σ h1
  | global g => cases hv
  | func f => cases hv; exact .func _ rfl rfl (fun i u u' k _ => by simp at k) (fun i u u' k _ => by simp at k)

/-- the slots behind the operation -/
theorem Rdy.slots (Z : Rdy ds P call N ops S' H' V σ0 w0 D m σ w a j o) {σ' : Sg} (le : σ.le σ') {v' : Value} (hv : VR σ' (V j) v') :
    (∀ (k : Nat) (p : Oper) (t : Tmp), ops[k]? = some p → (D k ∨ k = j) → p.dst = some t → ∃ u, (a.put o.dst v').tmps[t]? = some u ∧ VR σ' (V k) u) ∧
    (∀ t v, (S' 0).get t = some v → (∀ (k : Nat) (p : Oper), ops[k]? = some p → (D k ∨ k = j) → p.dst ≠ some t) → ∃ u, (a.put o.dst v').tmps[t]? = some u ∧ VR σ' v u) ∧
    (a.put o.dst v').tmps.size = N ∧ (a.put o.dst v').defers = ds := by
  have T := Z.T; have St := Z.St; have I := Z.I; have hj := Z.hj; have ho := Z.ho; have hr := Z.hr
  have hput := dstep_put (T.step j o ho)
  have other : ∀ t, o.dst ≠ some t → (a.put o.dst v').tmps[t]? = a.tmps[t]? := by
    intro t ht
    cases hd : o.dst with
    | none => rfl
    | some d =>
      show (a.tmps.setIfInBounds d v')[t]? = _
      rw [Array.getElem?_setIfInBounds_ne (fun e => ht (by rw [hd, e]))]
  refine ⟨fun k p t hp hk hd => ?_, fun t v ht hno => ?_, ?_, ?_⟩
  · by_cases e : k = j
    · subst e
      rw [ho] at hp; cases hp
      rw [hd] at hput ⊢
      have hput : cond (Nat.blt t N) (some ((S' k).put t (V k))) none = some (S' (k + 1)) := hput
      have hlt := blt_lt (cond_some hput).1
      have : t < a.tmps.size := by rw [I.size]; exact hlt
      exact ⟨v', by simp [Act.put, this], hv⟩
    · have hk : D k := hk.resolve_right e
      obtain ⟨u, k1, k2⟩ := I.new k p t hp hk hd
      exact ⟨u, by rw [other t fun q => St.dst k j p o t hp ho e hd q]; exact k1, k2.mono le⟩
  · obtain ⟨u, k1, k2⟩ := I.old t v ht fun k p hp hk => hno k p hp (.inl hk)
    exact ⟨u, by rw [other t (hno j o ho (.inr rfl))]; exact k1, k2.mono le⟩
  · cases hd : o.dst with
    | none => exact I.size
    | some d => simp [Act.put, I.size]
  · cases hd : o.dst <;> exact I.defers
theorem Rdy.closed (Z : Rdy ds P call N ops S' H' V σ0 w0 D m σ w a j o) : ∀ (k : Nat) (p : Oper), ops[k]? = some p → (D k ∨ k = j) → ∀ e ∈ edgesOf p, D e ∨ e = j := by
  have T := Z.T; have St := Z.St; have I := Z.I; have hj := Z.hj; have ho := Z.ho; have hr := Z.hr
  intro k p hp hk e he
  rcases hk with hk | rfl
  · exact .inl (I.cl k p hp hk e he)
  · rw [ho] at hp; cases hp; exact .inl (hr e he)

/-- an operation that makes nothing and writes nothing -/
theorem Rdy.quiet (Z : Rdy ds P call N ops S' H' V σ0 w0 D m σ w a j o) (hc : clsOf P o.op ≠ 2) (hna : ¬ AlP P ops S' H' j) {v' : Value} (hv : VR σ (V j) v') : DI ds P N ops S' H' V σ0 w0 (fun k => D k ∨ k = j) m σ w (a.put o.dst v') := by
  have T := Z.T; have St := Z.St; have I := Z.I; have hj := Z.hj; have ho := Z.ho; have hr := Z.hr
  obtain ⟨s1, s2, s3, s4⟩ := Z.slots (Sg.le.refl σ) hv
  have cur : ∀ {b x}, Cur P ops S' H' (fun k => D k ∨ k = j) m b x → Cur P ops S' H' D m b x := by
    rintro b x (h | ⟨k, hk, h1, h2, h3⟩)
    · exact .inl h
    · rcases hk with hk | rfl
      · exact .inr ⟨k, hk, h1, h2, h3⟩
      · exact absurd h2 hna
  exact {
    size := s3, defers := s4, cl := Z.closed
    dn := fun k hk => by rcases hk with hk | rfl; exact I.dn k hk; exact getElem_lt ho
    mn := I.mn
    eff := fun e p hp he => by
      have hne : e ≠ j := fun q => by subst q; rw [ho] at hp; cases hp; exact hc he
      constructor
      · intro h; exact (I.eff e p hp he).1 (h.resolve_right hne)
      · intro h; exact .inl ((I.eff e p hp he).2 h)
    new := s1, old := s2
    core := fun b x r h => I.core b x r (cur h)
    inj := fun b b' x x' r h1 h2 h3 => I.inj b b' x x' r (cur h1) h2 (cur h3)
    dom := fun b r h => by
      rcases I.dom b r h with h | ⟨k, h1, h2⟩
      · exact .inl h
      · exact .inr ⟨k, .inl h1, h2⟩
    un := fun k h1 h2 h3 => I.un k h1 h2 fun q => h3 (.inl q)
    madeA := fun b h1 h2 h3 => I.madeA b h1 h2 fun k q1 q2 q3 => h3 k q1 q2 fun q => q.elim q3 fun e => hna (e ▸ q1)
    madeB := fun k h1 h2 h3 => by
      rcases h1 with h1 | rfl
      · exact I.madeB k h1 h2 h3
      · exact absurd h3 hna
    fle := I.fle, fos := I.fos, ftape := I.ftape, fout := I.fout, fsize := I.fsize, fkeep := I.fkeep, fnone := I.fnone, ffresh := I.ffresh }

/-- the number that is made is nobody's yet -/
theorem Rdy.fresh_no (Z : Rdy ds P call N ops S' H' V σ0 w0 D m σ w a j o) (ha : AlP P ops S' H' j) : σ.j (H' j).next = none := by
  have T := Z.T; have St := Z.St; have I := Z.I; have hj := Z.hj; have ho := Z.ho; have hr := Z.hr
  cases hq : σ.j (H' j).next with
  | none => rfl
  | some r =>
    rcases Nat.lt_or_ge j m with h | h
    · rw [(I.un j ha h hj).1] at hq; cases hq
    · rcases I.dom _ r hq with h1 | ⟨k, h1, h2, h3, h4⟩
      · have := T.next m j h (Nat.le_of_lt (AlP_lt ha)); omega
      · have := AlP_inj T ha h3 h4; subst this; exact absurd h1 hj

/-- an operation that makes a block -/
theorem Rdy.alloc (Z : Rdy ds P call N ops S' H' V σ0 w0 D m σ w a j o) (ha : AlP P ops S' H' j) {B : Blk} {g : Nat → Value} (hB : H' (j + 1) = (H' j).new B) (hV : V j = g (H' j).next) {s : Sem Value} (mk : Makes P σ w s B g) :
    ∃ v' w' σ', s.run P w = .ok v' w' ∧ DI ds P N ops S' H' V σ0 w0 (fun k => D k ∨ k = j) m σ' w' (a.put o.dst v') := by
  have T := Z.T; have St := Z.St; have I := Z.I; have hj := Z.hj; have ho := Z.ho; have hr := Z.hr
  obtain ⟨ob, v', w', rs, es, m1, m2, m3, m4, m5, m6⟩ := mk
  have hno := Z.fresh_no ha
  obtain ⟨hb, hv⟩ := m6 (H' j).next hno
  have le : σ.le (σ.add (H' j).next w.heap.size rs es) := Sg.le_add hno
  have hc1 : clsOf P o.op = 1 := by obtain ⟨p, _, hp, hc, _⟩ := ha; rw [ho] at hp; cases hp; exact hc
  have hjn := getElem_lt ho
  obtain ⟨s1, s2, s3, s4⟩ := Z.slots le (by rw [hV]; exact hv)
  have jn : ∀ b r, (σ.add (H' j).next w.heap.size rs es).j b = some r → b ≠ (H' j).next → σ.j b = some r := fun b r h hne => by simpa [Sg.add, hne] using h
  have at0 : ∀ r, (σ.add (H' j).next w.heap.size rs es).j (H' j).next = some r → r = w.heap.size := fun r h => by simp [Sg.add] at h; exact h.symm
  have gB : (H' (j + 1)).get (H' j).next = some B := by rw [hB, H.get_new, if_pos rfl]
  have oldh : ∀ r, r < w.heap.size → w'.heap[r]? = w.heap[r]? := fun r hr => by rw [m2, Array.getElem?_push, if_neg (by omega)]
  -- what is current of the new number is what was made
  have curj : ∀ x, Cur P ops S' H' (fun k => D k ∨ k = j) m (H' j).next x → x = B := by
    rintro x (⟨h1, h2⟩ | ⟨k, _, h2, h3, h4, h5⟩)
    · rcases Nat.lt_or_ge j m with h | h
      · rw [(I.un j ha h hj).2, gB] at h2; cases h2; rfl
      · have := T.next m j h (Nat.le_of_lt hjn); omega
    · have := AlP_inj T ha h3 h4; subst this
      rw [gB] at h5; cases h5; rfl
  have curo : ∀ b x, b ≠ (H' j).next → Cur P ops S' H' (fun k => D k ∨ k = j) m b x → Cur P ops S' H' D m b x := by
    rintro b x hne (h | ⟨k, hk, h2, h3, h4, h5⟩)
    · exact .inl h
    · rcases hk with hk | rfl
      · exact .inr ⟨k, hk, h2, h3, h4, h5⟩
      · exact absurd h4 hne
  have lt : ∀ b x r, b ≠ (H' j).next → Cur P ops S' H' (fun k => D k ∨ k = j) m b x → x.alive = true → (σ.add (H' j).next w.heap.size rs es).j b = some r → r < w.heap.size := by
    intro b x r hne h1 h2 h3
    obtain ⟨o1, q1, _⟩ := I.core b x r (curo b x hne h1) h2 (jn b r h3 hne)
    exact getElem_lt q1
  refine ⟨v', w', _, m1, {
    size := s3, defers := s4, cl := Z.closed
    dn := fun k hk => by rcases hk with hk | rfl; exact I.dn k hk; exact hjn
    mn := I.mn
    eff := fun e p hp he => by
      have hne : e ≠ j := fun q => by subst q; rw [ho] at hp; cases hp; rw [hc1] at he; cases he
      constructor
      · intro h; exact (I.eff e p hp he).1 (h.resolve_right hne)
      · intro h; exact .inl ((I.eff e p hp he).2 h)
    new := s1, old := s2
    core := fun b x r h1 h2 h3 => by
      by_cases e : b = (H' j).next
      · subst e
        have := curj x h1; subst this
        have := at0 r h3; subst this
        exact ⟨ob, by rw [m2]; simp, hb⟩
      · obtain ⟨o1, q1, q2⟩ := I.core b x r (curo b x e h1) h2 (jn b r h3 e)
        exact ⟨o1, by rw [oldh r (getElem_lt q1)]; exact q1, q2.mono le (jn b r h3 e)⟩
    inj := fun b b' x x' r h1 h2 h3 h4 h5 h6 => by
      by_cases e : b = (H' j).next
      · by_cases e' : b' = (H' j).next
        · rw [e, e']
        · have := lt b' x' r e' h3 h4 h6; subst e; have := at0 r h5; omega
      · by_cases e' : b' = (H' j).next
        · have := lt b x r e h1 h2 h5; subst e'; have := at0 r h6; omega
        · exact I.inj b b' x x' r (curo b x e h1) h2 (curo b' x' e' h3) h4 (jn b r h5 e) (jn b' r h6 e')
    dom := fun b r h => by
      by_cases e : b = (H' j).next
      · rcases Nat.lt_or_ge j m with hm | hm
        · left; have := AlP_next' ha; have := T.next (j + 1) m (by omega) I.mn; omega
        · exact .inr ⟨j, .inr rfl, hm, ha, e⟩
      · rcases I.dom b r (jn b r h e) with h | ⟨k, h1, h2⟩
        · exact .inl h
        · exact .inr ⟨k, .inl h1, h2⟩
    un := fun k h1 h2 h3 => by
      have hk : ¬ D k := fun q => h3 (.inl q)
      have hne : k ≠ j := fun q => h3 (.inr q)
      obtain ⟨q1, q2⟩ := I.un k h1 h2 hk
      refine ⟨?_, q2⟩
      have : (H' k).next ≠ (H' j).next := fun q => hne (AlP_inj T h1 ha q)
      simp [Sg.add, this, q1]
    madeA := fun b h1 h2 h3 => by
      by_cases e : b = (H' j).next
      · subst e; exact ⟨_, Sg.add_j⟩
      · obtain ⟨r, hr⟩ := I.madeA b h1 h2 fun k q1 q2 q3 => by
          by_cases ek : k = j
          · subst ek; exact e
          · exact h3 k q1 q2 fun q => q.elim q3 ek
        exact ⟨r, le.j b r hr⟩
    madeB := fun k h1 h2 h3 => by
      by_cases ek : k = j
      · subst ek; exact ⟨_, Sg.add_j⟩
      · obtain ⟨r, hr⟩ := I.madeB k (h1.resolve_right ek) h2 h3
        exact ⟨r, le.j _ r hr⟩
    fle := I.fle.trans le, fos := m3.trans I.fos, ftape := m4.trans I.ftape, fout := m5.trans I.fout
    fsize := by have := I.fsize; rw [m2]; simp; omega
    fkeep := fun r h1 h2 => by rw [oldh r (by have := I.fsize; omega)]; exact I.fkeep r h1 h2
    fnone := fun b h1 h2 => by
      have : b ≠ (H' j).next := by have := T.next 0 j (Nat.zero_le _) (Nat.le_of_lt hjn); omega
      simp [Sg.add, this, I.fnone b h1 h2]
    ffresh := fun b r h1 h2 => by
      by_cases e : b = (H' j).next
      · subst e; have := at0 r h2; have := I.fsize; left; omega
      · exact I.ffresh b r h1 (jn b r h2 e) }⟩
end
end Go.Proofs.Ytnjeafdbifcfhaa.Den
