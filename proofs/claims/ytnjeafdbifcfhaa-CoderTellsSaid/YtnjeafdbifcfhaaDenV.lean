/- A small machine, run forward: what comes of it comes of the machine. No condition. -/
import Derived.Test.YtnjeafdbifcfhaaDenU
namespace Go.Proofs.Ytnjeafdbifcfhaa.Den
open Go
set_option linter.unusedSimpArgs false
set_option linter.unusedVariables false

section
variable (P : Program) (C : FuncId → Bool) (X : CallF)
/-- a call comes to this, however deep and long it may go, from some depth on -/
def Fn (f : FuncId) (args : List Value) (h : H) (v : Value) (h' : H) : Prop := ∃ M, ∀ n, M ≤ n → ∀ L, M ≤ L → dcall P C X L n f args h = some (v, h')
def TblS (tbl : Tbl) : Prop := ∀ (R : Type) (f : FuncId) (args : List Value) (h : H) (K : Value → H → Option R) (r : R), tbl R f args h K = some r → ∃ v h', Fn P C X f args h v h' ∧ K v h' = some r
/-- a part of a function's code comes to this, from these slots or more -/
def Runs (N : Nat) (c : Code) (s : S) (h : H) (e : Ex) (s' : S) (h' : H) : Prop :=
  ∃ M, ∀ n, M ≤ n → ∀ L, M ≤ L → ∀ S1, Le s S1 → ∃ s1, dcode P C (dcall P C X L n) N L c S1 h = some (e, s1, h') ∧ Le s' s1 ∧ ∀ t, asg c t = false → s1.get t = S1.get t
end
section
variable {P : Program} {C : FuncId → Bool} {X : CallF} {tbl : Tbl} {N : Nat}

theorem kop_sound (hT : TblS P C X tbl) {R : Type} {op : Op} {t : TypeId} {ρ : Env} {h : H} {K : Value → H → Option R} {r : R} (k : kop P tbl R op t ρ h K = some r) :
    ∃ v h', (∃ M, ∀ n, M ≤ n → ∀ L, M ≤ L → aop P (dcall P C X L n) op ρ h = some (v, h')) ∧ K v h' = some r := by
  have val : ∀ {o : Option Value} {kd : Kd}, kval kd o (fun v => K v h) = some r → (∀ call v, o = some v → aop P call op ρ h = some (v, h)) → ∃ v h', (∃ M, ∀ n, M ≤ n → ∀ L, M ≤ L → aop P (dcall P C X L n) op ρ h = some (v, h')) ∧ K v h' = some r := by
    intro o kd hk ho
    obtain ⟨v, h1, h2⟩ := kval_some hk
    exact ⟨v, h, ⟨0, fun n _ L _ => ho _ v h1⟩, h2⟩
  have all : ∀ {kd : Kd}, kvalH kd (aop P noCall op ρ h) K = some r → ∃ v h', (∃ M, ∀ n, M ≤ n → ∀ L, M ≤ L → aop P (dcall P C X L n) op ρ h = some (v, h')) ∧ K v h' = some r := by
    intro kd hk
    obtain ⟨v, h', h1, h2⟩ := kvalH_some hk
    exact ⟨v, h', ⟨0, fun n _ L _ => aop_noCall h1⟩, h2⟩
  cases op <;> simp only [kop] at k
  case move x =>
    split at k
    · rename_i v hv; exact ⟨v, h, ⟨0, fun n _ L _ => by simp [aop, hv, pv]⟩, k⟩
    · cases k
  case assign x =>
    split at k
    · rename_i v hv; exact ⟨v, h, ⟨0, fun n _ L _ => by simp [aop, hv, pv]⟩, k⟩
    · cases k
  case call c =>
    split at k
    · rename_i f hf
      split at k
      · rename_i vs hvs
        split at k
        · rename_i g first captured hg
          obtain ⟨v, h', ⟨M, hM⟩, h2⟩ := hT _ _ _ _ _ _ k
          refine ⟨v, h', ⟨M, fun n hn L hL => ?_⟩, h2⟩
          simp only [aop, callA, hvs, hf, enterA, hg]
          exact hM n hn L hL
        · cases k
      · cases k
    · exact all k
  case fieldAddr s x f => exact val k fun call v hv => by simp [aop, hv, pv]
  case indexAddr s x i => exact val k fun call v hv => by simp [aop, hv, pv]
  case load s x => exact val k fun call v hv => by simp [aop, hv, pv]
  case field s x f => exact val k fun call v hv => by simp [aop, hv, pv]
  case index s x i => exact val k fun call v hv => by simp [aop, hv, pv]
  case slice s x lo hi mx => exact val k fun call v hv => by simp [aop, hv, pv]
  case binOp bop s x y yt => exact val k fun call v hv => by simp [aop, hv, pv]
  case lookup s x i ok =>
    cases ok with
    | false => exact val k fun call v hv => by simp [aop, hv, pv]
    | true =>
      simp only [kop] at k
      obtain ⟨q, h1, h2⟩ := Option.bind_eq_some_iff.1 k
      exact ⟨_, h, ⟨0, fun n _ L _ => by simp only [aop, as2_inv h1]; rfl⟩, h2⟩
  case next x st =>
    cases st with
    | false => exact all k
    | true =>
      have k : ((nxt h (ρ x)).bind fun q => match q with
        | none => K (.tuple #[.bool false]) h
        | some r => K (.tuple #[.bool true, .int .i64 (.ofNat r.1), .int .i32 r.2.1]) r.2.2) = some r := k
      obtain ⟨q, h1, h2⟩ := Option.bind_eq_some_iff.1 k
      have e := nxt_inv h1
      cases q with
      | none => exact ⟨_, _, ⟨0, fun n _ L _ => e⟩, h2⟩
      | some r => exact ⟨_, _, ⟨0, fun n _ L _ => e⟩, h2⟩
  case convert s d x =>
    split at k
    · rename_i e h1 h2
      obtain ⟨v, hv, k2⟩ := kval_some k
      obtain ⟨a, ha, hv⟩ := on1_some hv
      exact ⟨v, h, ⟨0, fun n _ L _ => by simp only [aop, ha, convO, h1, h2, hv, pv]⟩, k2⟩
    · exact all k
  case nilCheck x => exact val k fun call v hv => by simp [aop, hv, pv]
  all_goals exact all k

/-- one operation that is wanted, from more slots -/
theorem kstep_sound (hT : TblS P C X tbl) {R : Type} {o : Oper} {s : S} {h : H} {K : S → H → Option R} {r : R} (k : kstep P tbl N R o s h K = some r) :
    ∃ v s' h', (∃ M, ∀ n, M ≤ n → ∀ L, M ≤ L → ∀ S1, Le s S1 → ∃ S', aop P (dcall P C X L n) o.op (envOf S1) h = some (v, h') ∧ putA N S1 o.dst v = some S' ∧ Le s' S') ∧ putA N s o.dst v = some s' ∧ K s' h' = some r := by
  unfold kstep at k
  obtain ⟨v, h', ⟨M, hM⟩, h2⟩ := kop_sound hT k
  split at h2
  · rename_i s' hs'
    refine ⟨v, s', h', ⟨M, fun n hn L hL S1 le => ?_⟩, hs', h2⟩
    obtain ⟨S', q1, q2⟩ := le.putA hs'
    exact ⟨S', aop_mono le.env (hM n hn L hL), q1, q2⟩
  · cases h2

theorem dops_app {call : CallF} {ops : Array Oper} : ∀ {a b : List Oper} {s s1 : S} {h h1 : H}, dops P call N ops a s h = some (s1, h1) → dops P call N ops (a ++ b) s h = dops P call N ops b s1 h1
  | [], b, s, s1, h, h1, q => by cases q; rfl
  | o :: a, b, s, s1, h, h1, q => by
    rw [List.cons_append, dops_cons]
    rw [dops_cons] at q
    cases hd : dstep P call N ops o s h with
    | none => rw [hd] at q; cases q
    | some p =>
      obtain ⟨v, s', h'⟩ := p
      rw [hd] at q
      exact dops_app q
theorem putA_get {s s' : S} {d : Option Tmp} {v : Value} (h : putA N s d v = some s') (t : Nat) : s'.get t = if d = some t then some v else s.get t := by
  cases d with
  | none => cases h; simp
  | some d =>
    have h : cond (Nat.blt d N) (some (s.put d v)) none = some s' := h
    obtain ⟨_, h2⟩ := cond_some h
    cases h2
    rw [T.get_put]
    by_cases e : t = d
    · subst e; simp
    · have : ¬ (some d = some t) := fun q => e (by cases q; rfl)
      simp [e, this]
theorem sameG_eq {a b : Option (Nat × Bool)} (h : sameG a b = true) : a = b := by
  unfold sameG at h
  split at h
  · rfl
  · simp only [Bool.and_eq_true] at h
    rename_i j w j' w'
    have h2 : w = w' := by simpa using h.2
    rw [beq_eq h.1, h2]
  · cases h
/-- the operations of a group hang on its guard -/
def inG (j : Nat) (w : Bool) (i : Nat) (o : Oper) : Bool := match o.guard with
  | some (j', w') => (Nat.beq j j' && (w == w')) || Nat.ble i j'
  | none => false
theorem glen_take {j : Nat} {w : Bool} {i : Nat} : ∀ {l : List Oper}, ∀ o ∈ l.take (glen j w i l), inG j w i o = true
  | [], o, ho => by simp at ho
  | a :: l, o, ho => by
    have e : glen j w i (a :: l) = (match a.guard with
      | some (j', w') => cond ((Nat.beq j j' && (w == w')) || Nat.ble i j') (Nat.succ (glen j w i l)) 0
      | none => 0) := rfl
    cases hg : a.guard with
    | none => rw [e, hg] at ho; simp at ho
    | some p =>
      obtain ⟨j', w'⟩ := p
      rw [e, hg] at ho
      simp only at ho
      cases hc : ((Nat.beq j j' && (w == w')) || Nat.ble i j') with
      | false => rw [hc] at ho; simp at ho
      | true =>
        rw [hc] at ho
        simp only [cond_true, List.take_succ_cons, List.mem_cons] at ho
        rcases ho with rfl | ho
        · unfold inG; rw [hg]; exact hc
        · exact glen_take o ho

theorem gOk_cons {ops : Array Oper} {s : S} {j m : Nat} {o : Oper} {l : List Oper} (h : gOk N ops s j (o :: l) m = true) :
    (∀ d, o.dst = some d → s.get d = none ∧ d < N) ∧ (∃ j' w', o.guard = some (j', w') ∧ j' < m ∧ (j = j' ∨ ∃ d', (ops[j']?).bind (·.dst) = some d')) ∧ gOk N ops s j l (m + 1) = true := by
  have h : ((match o.dst with
    | some t => (s.get t).isNone && Nat.blt t N
    | none => true) && (match o.guard with
    | some (j', _) => Nat.blt j' m && (Nat.beq j j' || ((ops[j']?).bind (·.dst)).isSome)
    | none => false) && gOk N ops s j l (m + 1)) = true := h
  simp only [Bool.and_eq_true] at h
  obtain ⟨⟨h1, h2⟩, h3⟩ := h
  refine ⟨fun d hd => ?_, ?_, h3⟩
  · rw [hd] at h1
    simp only [Bool.and_eq_true] at h1
    exact ⟨by simpa using h1.1, blt_lt h1.2⟩
  · split at h2
    · rename_i j' w' hg
      simp only [Bool.and_eq_true, Bool.or_eq_true] at h2
      refine ⟨j', w', hg, blt_lt h2.1, ?_⟩
      rcases h2.2 with q | q
      · exact .inl (beq_eq q)
      · exact .inr (Option.isSome_iff_exists.1 q)
    · cases h2
/-- a group that is not wanted -/
theorem group_off {call : CallF} {ops : Array Oper} {j : Nat} {w : Bool} {i : Nat} {t0 : Nat} {b : Bool} (ht : (ops[j]?).bind (·.dst) = some t0) (hbw : b ≠ w) :
    ∀ {l : List Oper} {m : Nat} {s0 S1 : S} {h : H}, (∀ k o, l[k]? = some o → ops[m + k]? = some o) → (∀ o ∈ l, inG j w i o = true) → gOk N ops s0 j l m = true → s0.get t0 = some (.bool b) → S1.get t0 = some (.bool b) →
      (∀ j' o' d', i ≤ j' → j' < m → ops[j']? = some o' → o'.dst = some d' → S1.get d' = some undef) → i ≤ m →
      ∃ S', dops P call N ops l S1 h = some (S', h) ∧ ∀ t, dsts l t = false → S'.get t = S1.get t := by
  intro l
  induction l with
  | nil => intro m s0 S1 h _ _ _ _ _ _ _; exact ⟨S1, rfl, fun _ _ => rfl⟩
  | cons o l ih =>
    intro m s0 S1 h hl hg hok h0 h1 hu him
    have ho : ops[m]? = some o := by have := hl 0 o rfl; simpa using this
    have hgo := hg o (by simp)
    obtain ⟨hok1, ⟨j', w', hq, hlt, hs⟩, hok3⟩ := gOk_cons hok
    -- it is not wanted
    have hw : wantedA ops S1 o = some false := by
      unfold inG at hgo
      rw [hq] at hgo
      simp only [Bool.or_eq_true, Bool.and_eq_true] at hgo
      unfold wantedA
      rw [hq]
      simp only
      by_cases hj : j = j'
      · subst hj
        rw [ht]
        simp only [h1]
        have hw' : w = w' ∨ i ≤ j := by
          rcases hgo with q | q
          · left; simpa using q.2
          · right; exact ble_le q
        rcases hw' with q | q
        · subst q
          cases b <;> cases w <;> simp_all
        · obtain ⟨o', ho', hd'⟩ := Option.bind_eq_some_iff.1 ht
          have := hu j o' t0 q hlt ho' hd'
          rw [h1] at this; cases this
      · have hi : i ≤ j' := by
          rcases hgo with q | q
          · exact absurd (beq_eq q.1) hj
          · exact ble_le q
        obtain ⟨d', hd'⟩ : ∃ d', (ops[j']?).bind (·.dst) = some d' := by
          rcases hs with q | q
          · exact absurd q hj
          · exact q
        rw [hd']
        obtain ⟨o', ho', hdd⟩ := Option.bind_eq_some_iff.1 hd'
        simp only [hu j' o' d' hi hlt ho' hdd]
        rfl
    have hput : ∃ S2, putA N S1 o.dst undef = some S2 := by
      cases hd : o.dst with
      | none => exact ⟨S1, rfl⟩
      | some d =>
        refine ⟨S1.put d undef, ?_⟩
        show cond (Nat.blt d N) _ _ = _
        have : Nat.blt d N = true := by rw [Nat.blt_eq]; exact (hok1 d hd).2
        rw [this]; rfl
    obtain ⟨S2, hput⟩ := hput
    have hget := putA_get hput
    have ht0 : o.dst ≠ some t0 := fun q => by rw [(hok1 t0 q).1] at h0; cases h0
    obtain ⟨S', q1, q2⟩ := ih (m := m + 1) (s0 := s0) (S1 := S2) (h := h) (fun k o' hk => by have := hl (k + 1) o' (by simpa using hk); rw [show m + 1 + k = m + (k + 1) by omega]; exact this) (fun o' ho' => hg o' (by simp [ho'])) hok3 h0 (by rw [hget, if_neg ht0]; exact h1)
      (fun j' o' d' g1 g2 g3 g4 => by
        rw [hget]
        by_cases e : o.dst = some d'
        · rw [if_pos e]
        · rw [if_neg e]
          have : j' ≠ m := fun q => by subst q; rw [ho] at g3; cases g3; exact e g4
          exact hu j' o' d' g1 (by omega) g3 g4) (by omega)
    refine ⟨S', ?_, fun t ht => ?_⟩
    · rw [dops_cons]
      have : dstep P call N ops o S1 h = some (undef, S2, h) := by unfold dstep; rw [hw]; simp only [hput]
      rw [this]; exact q1
    · simp only [dsts, List.any_cons, Bool.or_eq_false_iff] at ht
      rw [q2 t (by simpa [dsts] using ht.2), hget, if_neg]
      intro e
      rw [e] at ht
      simp at ht
theorem dsts_mem {l : List Oper} {t : Nat} : dsts l t = false ↔ ∀ o ∈ l, o.dst ≠ some t := by
  unfold dsts
  rw [List.any_eq_false]
  constructor
  · intro h o ho e
    have := h o ho
    rw [e] at this
    simp at this
  · intro h o ho
    have := h o ho
    cases hd : o.dst with
    | none => simp
    | some d =>
      rw [hd] at this
      have : d ≠ t := fun q => this (by rw [q])
      simp only [Bool.not_eq_true]
      rw [beq_dec]; simpa using this
theorem gOk_mem {ops : Array Oper} {s : S} {j : Nat} : ∀ {l : List Oper} {m : Nat}, gOk N ops s j l m = true → ∀ o ∈ l, ∀ d, o.dst = some d → s.get d = none
  | [], m, h, o, ho => by cases ho
  | a :: l, m, h, o, ho => by
    obtain ⟨h1, _, h3⟩ := gOk_cons h
    rcases List.mem_cons.1 ho with rfl | ho
    · exact fun d hd => (h1 d hd).1
    · exact gOk_mem h3 o ho
/-- the guard under which one works is met -/
def CurOk (ops : Array Oper) (cur : Option (Nat × Bool)) (l : List Oper) (s : S) : Prop := ∀ j w, cur = some (j, w) → ∃ t0, (ops[j]?).bind (·.dst) = some t0 ∧ s.get t0 = some (.bool w) ∧ ∀ o ∈ l, o.dst ≠ some t0
theorem wanted_cur {ops : Array Oper} {cur : Option (Nat × Bool)} {l : List Oper} {s S1 : S} (hc : CurOk ops cur l s) (le : Le s S1) {o : Oper} (ho : o.guard = cur) : wantedA ops S1 o = some true := by
  unfold wantedA
  rw [ho]
  cases cur with
  | none => rfl
  | some p =>
    obtain ⟨j, w⟩ := p
    obtain ⟨t0, h1, h2, _⟩ := hc j w rfl
    simp only [h1, le t0 _ h2]
    cases w <;> rfl
theorem csel_on {R : Type} (w : Bool) (on off : Option R) : csel w w on off = on := by cases w <;> rfl
theorem csel_off {R : Type} {w b : Bool} (h : b ≠ w) (on off : Option R) : csel w b on off = off := by cases w <;> cases b <;> first | rfl | exact absurd rfl h
theorem kdo_sound (hT : TblS P C X tbl) {ops : Array Oper} : ∀ (fuel : Nat) {R : Type} {cur : Option (Nat × Bool)} {i : Nat} {l : List Oper} {s : S} {h : H} {K : S → H → Option R} {r : R},
    kdo P tbl N ops fuel R cur i l s h K = some r → (∀ k o, l[k]? = some o → ops[i + k]? = some o) → CurOk ops cur l s →
    ∃ s' h', (∃ M, ∀ n, M ≤ n → ∀ L, M ≤ L → ∀ S1, Le s S1 → ∃ S', dops P (dcall P C X L n) N ops l S1 h = some (S', h') ∧ Le s' S' ∧ ∀ t, dsts l t = false → S'.get t = S1.get t) ∧ K s' h' = some r
  | 0, R, cur, i, l, s, h, K, r, k, hl, hc => by cases k
  | fuel + 1, R, cur, i, [], s, h, K, r, k, hl, hc => ⟨s, h, ⟨0, fun n _ L _ S1 le => ⟨S1, rfl, le, fun _ _ => rfl⟩⟩, k⟩
  | fuel + 1, R, cur, i, o :: l', s, h, K, r, k, hl, hc => by
    have k : cond (sameG cur o.guard) (kstep P tbl N R o s h fun s' h' => kdo P tbl N ops fuel R cur (i + 1) l' s' h' K)
        (match o.guard with
          | some (j, w) => match (ops[j]?).bind (·.dst) with
            | some t => match s.get t with
              | some (.bool b) => match (o :: l').drop (glen j w i (o :: l')) with
                | q :: rest => match q.op, q.dst with
                  | .pick (.tmp t') x y, some d => cond (sameG cur q.guard && Nat.beq t t' && gOk N ops s j ((o :: l').take (glen j w i (o :: l'))) i && Nat.blt d N)
                      ((csel w b (kdo P tbl N ops fuel (Bool × H) (some (j, w)) i ((o :: l').take (glen j w i (o :: l'))) s h fun s1 h1 => (asB (envOf s1 (cond w x y))).bind fun z => some (z, h1)) ((asB (envOf s (cond w y x))).bind fun z => some (z, h))).bind
                        fun p => kdo P tbl N ops fuel R cur (i + glen j w i (o :: l') + 1) rest (s.put d (.bool p.1)) p.2 K) none
                  | _, _ => none
                | [] => none
              | _ => none
            | none => none
          | none => none) = some r := k
    cases hg : sameG cur o.guard with
    | true =>
      rw [hg] at k
      obtain ⟨v, s', h', ⟨M1, hM1⟩, p1, k2⟩ := kstep_sound hT k
      have hgo : o.guard = cur := (sameG_eq hg).symm
      have hc' : CurOk ops cur l' s' := by
        intro j w e
        obtain ⟨t0, g1, g2, g3⟩ := hc j w e
        refine ⟨t0, g1, ?_, fun o' ho' => g3 o' (by simp [ho'])⟩
        rw [putA_get p1, if_neg (g3 o (by simp))]; exact g2
      obtain ⟨s2, h2, ⟨M2, hM2⟩, k3⟩ := kdo_sound hT fuel k2 (fun k o' hk => by have := hl (k + 1) o' (by simpa using hk); rw [show i + 1 + k = i + (k + 1) by omega]; exact this) hc'
      refine ⟨s2, h2, ⟨max M1 M2, fun n hn L hL S1 le => ?_⟩, k3⟩
      obtain ⟨S', a1, p2, le'⟩ := hM1 n (by omega) L (by omega) S1 le
      obtain ⟨S2, q1, q2, q3⟩ := hM2 n (by omega) L (by omega) S' le'
      refine ⟨S2, ?_, q2, fun t ht => ?_⟩
      · rw [dops_cons]
        have : dstep P (dcall P C X L n) N ops o S1 h = some (v, S', h') := by
          unfold dstep
          rw [wanted_cur hc le hgo]
          simp only [a1, p2]
        rw [this]; exact q1
      · rw [dsts_mem] at ht
        rw [q3 t (dsts_mem.2 fun o' ho' => ht o' (by simp [ho'])), putA_get p2, if_neg (ht o (by simp))]
    | false =>
      rw [hg] at k
      simp only [cond_false] at k
      split at k
      · rename_i j w hgo
        split at k
        · rename_i t ht
          split at k
          · rename_i b hb
            split at k
            · rename_i q rest hdrop
              split at k
              · rename_i t' x y d hop hdst
                have hq := (cond_some k).1
                have k2 := (cond_some k).2
                clear k
                simp only [Bool.and_eq_true] at hq
                obtain ⟨⟨⟨hq1, hq2⟩, hq3⟩, hq4⟩ := hq
                have hq1 := (sameG_eq hq1).symm
                have hq2 := beq_eq hq2
                subst hq2
                have hsplit : (o :: l').take (glen j w i (o :: l')) ++ q :: rest = o :: l' := by rw [← hdrop]; exact List.take_append_drop _ _
                have htake : ∀ o' ∈ (o :: l').take (glen j w i (o :: l')), inG j w i o' = true := fun o' ho' => glen_take o' ho'
                have hglen : ((o :: l').take (glen j w i (o :: l'))).length = glen j w i (o :: l') := by
                  rw [List.length_take]
                  have : glen j w i (o :: l') < (o :: l').length := by
                    rcases Nat.lt_or_ge (glen j w i (o :: l')) (o :: l').length with q0 | q0
                    · exact q0
                    · rw [List.drop_eq_nil_of_le q0] at hdrop; cases hdrop
                  omega
                generalize hgg : (o :: l').take (glen j w i (o :: l')) = g at *
                have hlg : ∀ k o', g[k]? = some o' → ops[i + k]? = some o' := fun k o' hk => hl k o' (by rw [← hsplit, List.getElem?_append_left (List.getElem?_eq_some_iff.1 hk).1]; exact hk)
                have hlq : ∀ k o', rest[k]? = some o' → ops[i + glen j w i (o :: l') + 1 + k]? = some o' := fun k o' hk => by
                  have := hl (g.length + (k + 1)) o' (by rw [← hsplit, List.getElem?_append_right (by omega)]; simpa using hk)
                  rw [hglen] at this
                  rw [show i + glen j w i (o :: l') + 1 + k = i + (glen j w i (o :: l') + (k + 1)) by omega]; exact this
                have memg : ∀ o' ∈ g, o' ∈ o :: l' := fun o' ho' => by rw [← hsplit]; simp [ho']
                have memq : q ∈ o :: l' := by rw [← hsplit]; simp
                have memr : ∀ o' ∈ rest, o' ∈ o :: l' := fun o' ho' => by rw [← hsplit]; simp [ho']
                have hnone := gOk_mem hq3
                have htg : ∀ o' ∈ g, o'.dst ≠ some t := fun o' ho' e => by rw [hnone o' ho' t e] at hb; cases hb
                obtain ⟨p, hsel, k⟩ := Option.bind_eq_some_iff.1 k2
                obtain ⟨z, hz⟩ := p
                have k : kdo P tbl N ops fuel R cur (i + glen j w i (o :: l') + 1) rest (s.put d (.bool z)) hz K = some r := k
                have leg : ∀ {S1 Sg : S}, Le s S1 → (∀ t, dsts g t = false → Sg.get t = S1.get t) → Le s Sg := fun {S1 Sg} le q2 t1 v1 hv1 => by
                  rw [q2 t1 (dsts_mem.2 fun o' ho' e => by rw [hnone o' ho' t1 e] at hv1; cases hv1)]; exact le t1 v1 hv1
                -- the group, wanted or not
                have grp : ∃ M, ∀ n, M ≤ n → ∀ L, M ≤ L → ∀ S1, Le s S1 → ∃ Sg, dops P (dcall P C X L n) N ops g S1 h = some (Sg, hz) ∧ envOf Sg (cond b x y) = some (.bool z) ∧ ∀ t, dsts g t = false → Sg.get t = S1.get t := by
                  by_cases hbw : b = w
                  · subst hbw
                    rw [csel_on] at hsel
                    obtain ⟨s1, h1, ⟨M, hM⟩, k1⟩ := kdo_sound hT fuel hsel hlg (fun j' w' e => by cases e; exact ⟨t, ht, hb, htg⟩)
                    obtain ⟨z', hz1, hz2⟩ := Option.bind_eq_some_iff.1 k1
                    cases hz2
                    refine ⟨M, fun n hn L hL S1 le => ?_⟩
                    obtain ⟨Sg, q1, q2, q3⟩ := hM n hn L hL S1 le
                    exact ⟨Sg, q1, q2.env _ _ (asB_inv hz1), q3⟩
                  · rw [csel_off hbw] at hsel
                    obtain ⟨z', hz1, hz2⟩ := Option.bind_eq_some_iff.1 hsel
                    cases hz2
                    refine ⟨0, fun n hn L hL S1 le => ?_⟩
                    obtain ⟨Sg, q1, q2⟩ := group_off (P := P) (N := N) (call := dcall P C X L n) (i := i) (h := h) ht hbw hlg htake hq3 hb (le t _ hb) (fun j' o' d' g1 g2 => by omega) (Nat.le_refl _)
                    refine ⟨Sg, q1, ?_, q2⟩
                    have := (leg le q2).env _ _ (asB_inv hz1)
                    cases b <;> cases w <;> first | exact this | exact absurd rfl hbw
                obtain ⟨M1, hM1⟩ := grp
                have hc2 : CurOk ops cur rest (s.put d (.bool z)) := by
                  intro j0 w0 e
                  obtain ⟨t0, g1, g2, g3⟩ := hc j0 w0 e
                  refine ⟨t0, g1, ?_, fun o' ho' => g3 o' (memr o' ho')⟩
                  have : t0 ≠ d := fun q0 => g3 q memq (by rw [hdst, q0])
                  rw [T.get_put_ne _ _ this]; exact g2
                obtain ⟨s2, h2, ⟨M2, hM2⟩, k3⟩ := kdo_sound hT fuel k hlq hc2
                refine ⟨s2, h2, ⟨max M1 M2, fun n hn L hL S1 le => ?_⟩, k3⟩
                obtain ⟨Sg, q1, q2, q3⟩ := hM1 n (by omega) L (by omega) S1 le
                have leg := leg le q3
                obtain ⟨S2, u1, u2, u3⟩ := hM2 n (by omega) L (by omega) (Sg.put d (.bool z)) (leg.put d _)
                refine ⟨S2, ?_, u2, fun t1 ht1 => ?_⟩
                · rw [← hsplit, dops_app q1, dops_cons]
                  have hw : wantedA ops Sg q = some true := wanted_cur hc leg hq1
                  have ha : aop P (dcall P C X L n) q.op (envOf Sg) hz = some (.bool z, hz) := by
                    rw [hop]
                    simp only [aop, pickO]
                    have : envOf Sg (.tmp t) = some (.bool b) := leg t _ hb
                    rw [this]
                    simp only
                    have q2' : cond b (envOf Sg x) (envOf Sg y) = some (.bool z) := by cases b <;> exact q2
                    rw [q2']; rfl
                  have hp : putA N Sg q.dst (.bool z) = some (Sg.put d (.bool z)) := by
                    rw [hdst]
                    show cond (Nat.blt d N) _ _ = _
                    rw [hq4]; rfl
                  have : dstep P (dcall P C X L n) N ops q Sg hz = some (.bool z, Sg.put d (.bool z), hz) := by
                    unfold dstep; rw [hw]; simp only [ha, hp]
                  rw [this]; exact u1
                · rw [dsts_mem] at ht1
                  have : t1 ≠ d := fun q0 => ht1 q memq (by rw [hdst, q0])
                  rw [u3 t1 (dsts_mem.2 fun o' ho' => ht1 o' (memr o' ho')), T.get_put_ne _ _ this, q3 t1 (dsts_mem.2 fun o' ho' => ht1 o' (memg o' ho'))]
              · cases k
            · cases k
          · cases k
        · cases k
      · cases k
end
end Go.Proofs.Ytnjeafdbifcfhaa.Den
