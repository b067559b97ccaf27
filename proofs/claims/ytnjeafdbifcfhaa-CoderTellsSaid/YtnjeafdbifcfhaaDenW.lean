/- A small machine, run forward: regions, code, loops, functions. No condition. -/
import Derived.Test.YtnjeafdbifcfhaaDenV
namespace Go.Proofs.Ytnjeafdbifcfhaa.Den
open Go
set_option linter.unusedSimpArgs false
set_option linter.unusedVariables false

section
variable {P : Program} {C : FuncId → Bool} {X : CallF} {tbl : Tbl} {N : Nat}

/-- two traces: the same memory, and more slots -/
def TrLe (a b : List (S × H)) : Prop := a.length = b.length ∧ ∀ (k : Nat) (p q : S × H), a[k]? = some p → b[k]? = some q → Le p.1 q.1 ∧ p.2 = q.2
theorem TrLe.hAt {a b : List (S × H)} (h : TrLe a b) (k : Nat) : hAt b k = hAt a k := by
  unfold Den.hAt
  cases ha : a[k]? with
  | none =>
    have : b[k]? = none := by rw [List.getElem?_eq_none_iff] at ha ⊢; rw [← h.1]; exact ha
    rw [this]
  | some p =>
    have hk := (List.getElem?_eq_some_iff.1 ha).1
    obtain ⟨q, hq⟩ : ∃ q, b[k]? = some q := ⟨b[k]'(h.1 ▸ hk), List.getElem?_eq_getElem _⟩
    rw [hq]; exact (h.2 k p q ha hq).2.symm
theorem TrLe.sAt {a b : List (S × H)} (h : TrLe a b) (k : Nat) : Le (sAt a k) (sAt b k) := by
  unfold Den.sAt
  cases ha : a[k]? with
  | none =>
    have : b[k]? = none := by rw [List.getElem?_eq_none_iff] at ha ⊢; rw [← h.1]; exact ha
    rw [this]; exact Le.refl _
  | some p =>
    have hk := (List.getElem?_eq_some_iff.1 ha).1
    obtain ⟨q, hq⟩ : ∃ q, b[k]? = some q := ⟨b[k]'(h.1 ▸ hk), List.getElem?_eq_getElem _⟩
    rw [hq]; exact (h.2 k p q ha hq).1
theorem rblk_same {op : Op} {ρ ρ2 : Env} (e : EL ρ ρ2) (hd : rdef op ρ = true) : rblk op ρ2 = rblk op ρ := by
  have key : ∀ x, (ρ x).isSome = true → ρ2 x = ρ x := fun x hx => by
    obtain ⟨v, hv⟩ := Option.isSome_iff_exists.1 hx
    rw [hv, e x v hv]
  cases op <;> simp only [rblk, rdef] at hd ⊢
  case load s x => rw [key x hd]
  case lookup s x i ok => rw [key x hd]
  case convert s d x => rw [key x hd]
  case call c =>
    cases hx : c.args.toList with
    | nil => rfl
    | cons x l => cases l with
      | nil => rw [hx] at hd; simp only at hd ⊢; rw [key x hd]
      | cons y l => rfl
theorem dynS_ok {ops : Array Oper} {a b : List (S × H)} (h : dynS P ops a = true) (le : TrLe a b) : dynOk P ops b = true := by
  unfold dynS at h
  unfold dynOk
  rw [List.all_eq_true] at h ⊢
  intro q hq
  have := h q hq
  cases ho : ops[q.1]? with
  | none => rw [ho] at this; cases this
  | some o =>
    rw [ho] at this
    simp only [Bool.and_eq_true] at this ⊢
    obtain ⟨h1, h2⟩ := this
    rw [rblk_same (le.sAt q.1).env h1, le.hAt, le.hAt]
    exact h2
theorem kdrw_sound (hT : TblS P C X tbl) {ops : Array Oper} : ∀ {l : List Oper} {R : Type} {tr : List (S × H)} {s : S} {h : H} {K : List (S × H) → S → H → Option R} {r : R}, kdrw P tbl N R l tr s h K = some r →
    ∃ ta s' h', (∃ M, ∀ n, M ≤ n → ∀ L, M ≤ L → ∀ S1, Le s S1 → ∃ tb S', dtrace P (dcall P C X L n) N ops l S1 h = some tb ∧ TrLe ta tb ∧ tb[l.length]? = some (S', h') ∧ Le s' S') ∧ K (tr ++ ta) s' h' = some r
  | [], R, tr, s, h, K, r, k => ⟨[(s, h)], s, h, ⟨0, fun n _ L _ S1 le => ⟨[(S1, h)], S1, rfl, ⟨rfl, fun k p q h1 h2 => by
      cases k with
      | zero => simp at h1 h2; subst h1; subst h2; exact ⟨le, rfl⟩
      | succ k => simp at h1⟩, rfl, le⟩⟩, k⟩
  | o :: l, R, tr, s, h, K, r, k => by
    have k : cond (sameG none o.guard) (kstep P tbl N R o s h fun s' h' => kdrw P tbl N R l (tr ++ [(s, h)]) s' h' K) none = some r := k
    obtain ⟨hg, k⟩ := cond_some k
    have hg := (sameG_eq hg).symm
    obtain ⟨v, s1, h1, ⟨M1, hM1⟩, p1, k2⟩ := kstep_sound hT k
    obtain ⟨ta, s', h', ⟨M2, hM2⟩, k3⟩ := kdrw_sound hT (ops := ops) k2
    refine ⟨(s, h) :: ta, s', h', ⟨max M1 M2, fun n hn L hL S1 le => ?_⟩, by rw [List.append_assoc] at k3; exact k3⟩
    obtain ⟨S', a1, a2, le'⟩ := hM1 n (by omega) L (by omega) S1 le
    obtain ⟨tb, S2, b1, b2, b3, b4⟩ := hM2 n (by omega) L (by omega) S' le'
    refine ⟨(S1, h) :: tb, S2, ?_, ⟨by simp [b2.1], fun k p q q1 q2 => ?_⟩, by simpa using b3, b4⟩
    · have : dstep P (dcall P C X L n) N ops o S1 h = some (v, S', h1) := by
        unfold dstep wantedA
        rw [hg]
        simp only [a1, a2]
      show (match dstep P (dcall P C X L n) N ops o S1 h with
        | some (_, s', h') => match dtrace P (dcall P C X L n) N ops l s' h' with
          | some tr => some ((S1, h) :: tr)
          | none => none
        | none => none) = _
      rw [this]; simp only [b1]
    · cases k with
      | zero => simp at q1 q2; subst q1; subst q2; exact ⟨le, rfl⟩
      | succ k => exact b2.2 k p q (by simpa using q1) (by simpa using q2)
theorem dstep_frame {call : CallF} {ops : Array Oper} {o : Oper} {s s' : S} {h h' : H} {v : Value} (q : dstep P call N ops o s h = some (v, s', h')) {t : Nat} (ht : o.dst ≠ some t) : s'.get t = s.get t := by
  unfold dstep at q
  split at q
  · split at q
    · rename_i u h1 ha
      split at q
      · rename_i s1 hp; cases q; rw [putA_get hp, if_neg ht]
      · cases q
    · cases q
  · split at q
    · rename_i s1 hp; cases q; rw [putA_get hp, if_neg ht]
    · cases q
  · cases q
theorem dops_frame {call : CallF} {ops : Array Oper} : ∀ {l : List Oper} {s s' : S} {h h' : H}, dops P call N ops l s h = some (s', h') → ∀ t, dsts l t = false → s'.get t = s.get t
  | [], s, s', h, h', q, t, ht => by cases q; rfl
  | o :: l, s, s', h, h', q, t, ht => by
    rw [dops_cons] at q
    cases hd : dstep P call N ops o s h with
    | none => rw [hd] at q; cases q
    | some p =>
      obtain ⟨v, s1, h1⟩ := p
      rw [hd] at q
      rw [dsts_mem] at ht
      rw [dops_frame q t (dsts_mem.2 fun o' ho' => ht o' (by simp [ho'])), dstep_frame hd (ht o (by simp))]
theorem dtrace_frame {call : CallF} {ops : Array Oper} : ∀ {l : List Oper} {s : S} {h : H} {tr : List (S × H)}, dtrace P call N ops l s h = some tr → ∀ (k : Nat) (p : S × H), tr[k]? = some p → ∀ t, dsts l t = false → p.1.get t = s.get t
  | [], s, h, tr, q, k, p, hk, t, ht => by
    cases q
    cases k with
    | zero => simp at hk; subst hk; rfl
    | succ k => simp at hk
  | o :: l, s, h, tr, q, k, p, hk, t, ht => by
    have q : (match dstep P call N ops o s h with
        | some (_, s', h') => match dtrace P call N ops l s' h' with
          | some tr => some ((s, h) :: tr)
          | none => none
        | none => none) = some tr := q
    cases hd : dstep P call N ops o s h with
    | none => rw [hd] at q; cases q
    | some p1 =>
      obtain ⟨v, s1, h1⟩ := p1
      rw [hd] at q
      simp only at q
      cases ht1 : dtrace P call N ops l s1 h1 with
      | none => rw [ht1] at q; cases q
      | some tr1 =>
        rw [ht1] at q
        cases q
        rw [dsts_mem] at ht
        cases k with
        | zero => simp at hk; subst hk; rfl
        | succ k =>
          rw [dtrace_frame ht1 k p (by simpa using hk) t (dsts_mem.2 fun o' ho' => ht o' (by simp [ho'])), dstep_frame hd (ht o (by simp))]
theorem ddraw_frame {call : CallF} {ops : Array Oper} {s s' : S} {h h' : H} (q : ddraw P call N ops s h = some (s', h')) {t : Nat} (ht : dsts ops.toList t = false) : s'.get t = s.get t := by
  unfold ddraw at q
  split at q
  · rename_i tr htr
    obtain ⟨_, q⟩ := cond_some q
    exact dtrace_frame htr _ _ q t ht
  · cases q
/-- a stretch of a drawn region, in the text's order -/
def Seg (call : CallF) (N : Nat) (P : Program) (ops : Array Oper) (l : List Oper) (s : S) (h : H) (seg : List (S × H)) (s' : S) (h' : H) : Prop := dtrace P call N ops l s h = some (seg ++ [(s', h')]) ∧ seg.length = l.length
theorem Seg.nil {call : CallF} {ops : Array Oper} (s : S) (h : H) : Seg call N P ops [] s h [] s h := ⟨rfl, rfl⟩
theorem Seg.cons {call : CallF} {ops : Array Oper} {o : Oper} {l : List Oper} {s s1 s' : S} {h h1 h' : H} {v : Value} {seg : List (S × H)} (hd : dstep P call N ops o s h = some (v, s1, h1)) (k : Seg call N P ops l s1 h1 seg s' h') : Seg call N P ops (o :: l) s h ((s, h) :: seg) s' h' := by
  refine ⟨?_, by simp [k.2]⟩
  show (match dstep P call N ops o s h with
    | some (_, s', h') => match dtrace P call N ops l s' h' with
      | some tr => some ((s, h) :: tr)
      | none => none
    | none => none) = _
  rw [hd]; simp only [k.1]; rfl
theorem Seg.app {call : CallF} {ops : Array Oper} : ∀ {a b : List Oper} {s s1 s' : S} {h h1 h' : H} {sa sb : List (S × H)}, Seg call N P ops a s h sa s1 h1 → Seg call N P ops b s1 h1 sb s' h' → Seg call N P ops (a ++ b) s h (sa ++ sb) s' h'
  | [], b, s, s1, s', h, h1, h', sa, sb, ka, kb => by
    obtain ⟨k1, k2⟩ := ka
    have : sa = [] := List.eq_nil_of_length_eq_zero k2
    subst this
    cases k1
    exact kb
  | o :: a, b, s, s1, s', h, h1, h', sa, sb, ka, kb => by
    obtain ⟨k1, k2⟩ := ka
    cases sa with
    | nil => simp at k2
    | cons p sa =>
      have k1 : (match dstep P call N ops o s h with
        | some (_, s', h') => match dtrace P call N ops a s' h' with
          | some tr => some ((s, h) :: tr)
          | none => none
        | none => none) = some (p :: sa ++ [(s1, h1)]) := k1
      cases hd : dstep P call N ops o s h with
      | none => rw [hd] at k1; cases k1
      | some q =>
        obtain ⟨v, s2, h2⟩ := q
        rw [hd] at k1
        simp only at k1
        cases ht : dtrace P call N ops a s2 h2 with
        | none => rw [ht] at k1; cases k1
        | some tr =>
          rw [ht] at k1
          have k1 := Option.some.inj k1
          simp only [List.cons_append, List.cons.injEq] at k1
          obtain ⟨e1, e2⟩ := k1
          subst e1
          have : Seg call N P ops a s2 h2 sa s1 h1 := ⟨by rw [ht, e2], by simpa using k2⟩
          exact Seg.cons hd (Seg.app this kb)
theorem Seg.frame {call : CallF} {ops : Array Oper} {l : List Oper} {s s' : S} {h h' : H} {seg : List (S × H)} (k : Seg call N P ops l s h seg s' h') : ∀ t, dsts l t = false → s'.get t = s.get t := fun t ht =>
  dtrace_frame k.1 seg.length (s', h') (by simp) t ht
/-- what is read and written in a stretch stands in the lists -/
structure Cov (P : Program) (ops : Array Oper) (i : Nat) (l : List Oper) (tr : List (S × H)) (le : LEs) (ef : EFs) : Prop where
  rd : ∀ (k : Nat) (o : Oper) (p : S × H), l[k]? = some o → tr[k]? = some p → firstsOf P ops (i + k) = true → ∀ b, rblk o.op (envOf p.1) = some b → (i + k, some b) ∈ le
  wt : ∀ (k : Nat) (o : Oper) (p q : S × H), l[k]? = some o → tr[k]? = some p → tr[k + 1]? = some q → secondsOf P ops (i + k) = true → p.2 = q.2 ∨ (i + k, p.2, q.2) ∈ ef
theorem Cov.mono {ops : Array Oper} {i : Nat} {l : List Oper} {tr : List (S × H)} {le le' : LEs} {ef ef' : EFs} (c : Cov P ops i l tr le ef) (h1 : ∀ x ∈ le, x ∈ le') (h2 : ∀ x ∈ ef, x ∈ ef') : Cov P ops i l tr le' ef' :=
  ⟨fun k o p a b d e f => h1 _ (c.rd k o p a b d e f), fun k o p q a b d e => (c.wt k o p q a b d e).imp id (h2 _)⟩
theorem Cov.app {ops : Array Oper} {i : Nat} {a b : List Oper} {sa sb : List (S × H)} {le : LEs} {ef : EFs} {x : S × H} (hl : sa.length = a.length) (hx : (sb[0]? = some x)) (c1 : Cov P ops i a (sa ++ [x]) le ef) (c2 : Cov P ops (i + a.length) b sb le ef) : Cov P ops i (a ++ b) (sa ++ sb) le ef := by
  have tr : ∀ {k : Nat} {p : S × H}, k ≤ a.length → (sa ++ sb)[k]? = some p → (sa ++ [x])[k]? = some p := by
    intro k p hk hp
    rcases Nat.lt_or_ge k sa.length with q | q
    · rw [List.getElem?_append_left q] at hp ⊢; exact hp
    · have e : k = sa.length := by omega
      subst e
      rw [List.getElem?_append_right (Nat.le_refl _)] at hp ⊢
      simp only [Nat.sub_self] at hp ⊢
      rw [hx] at hp; cases hp; rfl
  constructor
  · intro k o p ho hp hf b hb
    rcases Nat.lt_or_ge k a.length with q | q
    · rw [List.getElem?_append_left q] at ho
      exact c1.rd k o p ho (tr (by omega) hp) hf b hb
    · rw [List.getElem?_append_right q] at ho
      rw [List.getElem?_append_right (by omega), hl] at hp
      have := c2.rd (k - a.length) o p ho hp (by rw [show i + a.length + (k - a.length) = i + k by omega]; exact hf) b hb
      rw [show i + a.length + (k - a.length) = i + k by omega] at this; exact this
  · intro k o p p' ho hp hp' hf
    rcases Nat.lt_or_ge k a.length with q | q
    · rw [List.getElem?_append_left q] at ho
      exact c1.wt k o p p' ho (tr (by omega) hp) (tr (by omega) hp') hf
    · rw [List.getElem?_append_right q] at ho
      rw [List.getElem?_append_right (by omega), hl] at hp hp'
      have := c2.wt (k - a.length) o p p' ho hp (by rw [show k - a.length + 1 = k + 1 - a.length by omega]; exact hp') (by rw [show i + a.length + (k - a.length) = i + k by omega]; exact hf)
      rw [show i + a.length + (k - a.length) = i + k by omega] at this; exact this
theorem rblk_slot {op : Op} {ρ : Env} {b : Nat} (h : rblk op ρ = some b) : ∃ x, rslot op = some x ∧ blkOf (ρ x) = some b := by
  cases op <;> simp only [rblk, rslot] at h ⊢ <;> try exact absurd h (by simp)
  case load s x => exact ⟨x, rfl, h⟩
  case lookup s x i ok => exact ⟨x, rfl, h⟩
  case convert s d x => exact ⟨x, rfl, h⟩
  case call c =>
    cases hx : c.args.toList with
    | nil => rw [hx] at h; cases h
    | cons x l => cases l with
      | nil => rw [hx] at h; exact ⟨x, rfl, h⟩
      | cons y l => rw [hx] at h; cases h
theorem rslot_rblk {op : Op} {x : Operand} (h : rslot op = some x) (ρ : Env) : rblk op ρ = blkOf (ρ x) := by
  cases op <;> simp only [rblk, rslot] at h ⊢
  case call c =>
    cases hx : c.args.toList with
    | nil => rw [hx] at h; cases h
    | cons y l => cases l with
      | nil => rw [hx] at h; cases h; rfl
      | cons z l => rw [hx] at h; cases h
  all_goals first | (cases h; done) | (cases h; rfl)
/-- a group that is not wanted, in a drawn region -/
theorem seg_off {call : CallF} {ops : Array Oper} {j : Nat} {w : Bool} {i : Nat} {t0 : Nat} {b : Bool} (ht : (ops[j]?).bind (·.dst) = some t0) (hbw : b ≠ w) :
    ∀ {l : List Oper} {m : Nat} {s0 S1 : S} {h : H} {pre : List Nat} {le : LEs}, (∀ k o, l[k]? = some o → ops[m + k]? = some o) → (∀ o ∈ l, inG j w i o = true) → gOk N ops s0 j l m = true → s0.get t0 = some (.bool b) → S1.get t0 = some (.bool b) →
      (∀ j' o' d', i ≤ j' → j' < m → ops[j']? = some o' → o'.dst = some d' → S1.get d' = some undef) → i ≤ m → (∀ t ∈ pre, S1.get t = some undef) → (∀ t v, s0.get t = some v → S1.get t = some v) → offL P ops s0 l m pre = some le →
      ∃ seg S', Seg call N P ops l S1 h seg S' h ∧ Cov P ops m l (seg ++ [(S', h)]) le [] := by
  intro l
  induction l with
  | nil => intro m s0 S1 h pre le _ _ _ _ _ _ _ _ _ _; exact ⟨[], S1, Seg.nil S1 h, ⟨fun k o p hk => by simp at hk, fun k o p q hk => by simp at hk⟩⟩
  | cons o l ih =>
    intro m s0 S1 h pre le hl hg hok h0 h1 hu him hpre hle hoff
    have ho : ops[m]? = some o := by have := hl 0 o rfl; simpa using this
    have hgo := hg o (by simp)
    obtain ⟨hok1, ⟨j', w', hq, hlt, hs⟩, hok3⟩ := gOk_cons hok
    have hw : wantedA ops S1 o = some false := by
      unfold inG at hgo
      rw [hq] at hgo
      simp only [Bool.or_eq_true, Bool.and_eq_true] at hgo
      unfold wantedA
      rw [hq]
      simp only
      by_cases hj : j = j'
      · subst hj
        rw [ht]
        simp only [h1]
        have hw' : w = w' ∨ i ≤ j := by
          rcases hgo with q | q
          · left; simpa using q.2
          · right; exact ble_le q
        rcases hw' with q | q
        · subst q
          cases b <;> cases w <;> simp_all
        · obtain ⟨o', ho', hd'⟩ := Option.bind_eq_some_iff.1 ht
          have := hu j o' t0 q hlt ho' hd'
          rw [h1] at this; cases this
      · have hi : i ≤ j' := by
          rcases hgo with q | q
          · exact absurd (beq_eq q.1) hj
          · exact ble_le q
        obtain ⟨d', hd'⟩ : ∃ d', (ops[j']?).bind (·.dst) = some d' := by
          rcases hs with q | q
          · exact absurd q hj
          · exact q
        rw [hd']
        obtain ⟨o', ho', hdd⟩ := Option.bind_eq_some_iff.1 hd'
        simp only [hu j' o' d' hi hlt ho' hdd]
        rfl
    have hput : ∃ S2, putA N S1 o.dst undef = some S2 := by
      cases hd : o.dst with
      | none => exact ⟨S1, rfl⟩
      | some d =>
        refine ⟨S1.put d undef, ?_⟩
        show cond (Nat.blt d N) _ _ = _
        have : Nat.blt d N = true := by rw [Nat.blt_eq]; exact (hok1 d hd).2
        rw [this]; rfl
    obtain ⟨S2, hput⟩ := hput
    have hget := putA_get hput
    have ht0 : o.dst ≠ some t0 := fun q => by rw [(hok1 t0 q).1] at h0; cases h0
    have hstep : dstep P call N ops o S1 h = some (undef, S2, h) := by unfold dstep; rw [hw]; simp only [hput]
    have hoff : (match offL P ops s0 l (m + 1) (match o.dst with
        | some d => d :: pre
        | none => pre) with
      | none => none
      | some le => cond (firstsOf P ops m) (match rslot o.op with
        | none => some le
        | some x => cond (isIn pre x) (some le) (cond (envOf s0 x).isSome (some ((m, rblk o.op (envOf s0)) :: le)) none)) (some le)) = some le := hoff
    cases hrest : offL P ops s0 l (m + 1) (match o.dst with
        | some d => d :: pre
        | none => pre) with
    | none => rw [hrest] at hoff; cases hoff
    | some le1 =>
      rw [hrest] at hoff
      simp only at hoff
      obtain ⟨seg, S', k1, k2⟩ := ih (m := m + 1) (s0 := s0) (S1 := S2) (h := h) (fun k o' hk => by have := hl (k + 1) o' (by simpa using hk); rw [show m + 1 + k = m + (k + 1) by omega]; exact this) (fun o' ho' => hg o' (by simp [ho'])) hok3 h0 (by rw [hget, if_neg ht0]; exact h1)
        (fun j' o' d' g1 g2 g3 g4 => by
          rw [hget]
          by_cases e : o.dst = some d'
          · rw [if_pos e]
          · rw [if_neg e]
            have : j' ≠ m := fun q => by subst q; rw [ho] at g3; cases g3; exact e g4
            exact hu j' o' d' g1 (by omega) g3 g4) (by omega)
        (fun t htp => by
          rw [hget]
          by_cases e : o.dst = some t
          · rw [if_pos e]
          · rw [if_neg e]
            cases hd : o.dst with
            | none => rw [hd] at htp; exact hpre t htp
            | some d =>
              rw [hd] at htp
              rcases List.mem_cons.1 htp with q | q
              · subst q; exact absurd hd e
              · exact hpre t q)
        (fun t v hv => by
          rw [hget, if_neg (fun e => by rw [(hok1 t e).1] at hv; cases hv)]; exact hle t v hv) hrest
      have sub : ∀ x ∈ le1, x ∈ le := by
        intro x hx
        cases hf : firstsOf P ops m with
        | false => rw [hf] at hoff; cases hoff; exact hx
        | true =>
          rw [hf] at hoff
          simp only [cond_true] at hoff
          split at hoff
          · cases hoff; exact hx
          · rename_i y _
            cases hi : isIn pre y with
            | true => rw [hi] at hoff; cases hoff; exact hx
            | false =>
              rw [hi] at hoff
              obtain ⟨_, hoff⟩ := cond_some hoff
              cases hoff; simp [hx]
      refine ⟨(S1, h) :: seg, S', Seg.cons hstep k1, ?_⟩
      have hz : (seg ++ [(S', h)])[0]? = some (S2, h) := by
        cases seg with
        | nil =>
          have : l = [] := List.eq_nil_of_length_eq_zero (by rw [← k1.2]; rfl)
          subst this
          have := k1.1
          cases this; rfl
        | cons p seg =>
          have e := (dtrace_spec k1.1)
          have h2 := e.2.1; have h3 := e.2.2.1
          simp only [sAt, hAt, List.cons_append, List.getElem?_cons_zero] at h2 h3
          simp only [List.cons_append, List.getElem?_cons_zero]
          rw [← h2, ← h3]
      refine Cov.app (a := [o]) (sa := [(S1, h)]) (x := (S2, h)) rfl hz ⟨fun k o' p hk hp hf bb hb => ?_, fun k o' p q hk hp hq hf => ?_⟩ (k2.mono sub (fun x hx => hx))
      · cases k with
        | succ k => simp at hk
        | zero =>
          simp at hk hp
          subst hk; subst hp
          obtain ⟨x, hx, hbx⟩ := rblk_slot hb
          have hf : firstsOf P ops m = true := hf
          rw [hf, hx] at hoff
          simp only [cond_true] at hoff
          cases hi : isIn pre x with
          | true =>
            unfold isIn at hi
            split at hi
            · rename_i t
              obtain ⟨u, hu1, hu2⟩ := List.any_eq_true.1 hi
              have := beq_eq hu2
              subst this
              have e : envOf S1 (.tmp u) = some undef := hpre u hu1
              rw [e] at hbx; cases hbx
            · cases hi
          | false =>
            rw [hi] at hoff
            obtain ⟨hs1, hoff⟩ := cond_some hoff
            cases hoff
            obtain ⟨v, hv⟩ := Option.isSome_iff_exists.1 hs1
            have le0 : Le s0 S1 := hle
            have e1 := le0.env x v hv
            have : rblk o.op (envOf s0) = some bb := by rw [rslot_rblk hx, hv, ← e1]; exact hbx
            simp [this]
      · cases k with
        | succ k => simp at hk
        | zero =>
          simp at hp hq
          subst hp; subst hq; left; rfl
theorem kdrg_sound (hT : TblS P C X tbl) {ops : Array Oper} : ∀ (fuel : Nat) {R : Type} {cur : Option (Nat × Bool)} {i : Nat} {l : List Oper} {s : S} {h : H} {le : LEs} {ef : EFs} {K : S → H → LEs → EFs → Option R} {r : R},
    kdrg P tbl N ops fuel R cur i l s h le ef K = some r → (∀ k o, l[k]? = some o → ops[i + k]? = some o) → CurOk ops cur l s →
    ∃ s' h' le' ef', (∃ M, ∀ n, M ≤ n → ∀ L, M ≤ L → ∀ S1, Le s S1 → ∃ seg S', Seg (dcall P C X L n) N P ops l S1 h seg S' h' ∧ Le s' S' ∧ Cov P ops i l (seg ++ [(S', h')]) le' ef') ∧ K s' h' (le ++ le') (ef ++ ef') = some r
  | 0, R, cur, i, l, s, h, le, ef, K, r, k, hl, hc => by cases k
  | fuel + 1, R, cur, i, [], s, h, le, ef, K, r, k, hl, hc => ⟨s, h, [], [], ⟨0, fun n _ L _ S1 l1 => ⟨[], S1, Seg.nil S1 h, l1, ⟨fun k o p hk => by simp at hk, fun k o p q hk => by simp at hk⟩⟩⟩, by rw [List.append_nil, List.append_nil]; exact k⟩
  | fuel + 1, R, cur, i, o :: l', s, h, le, ef, K, r, k, hl, hc => by
    have k : cond (sameG cur o.guard) (cond (!(firstsOf P ops i) || rdef o.op (envOf s)) (kstep P tbl N R o s h fun s' h' => kdrg P tbl N ops fuel R cur (i + 1) l' s' h' (cond (firstsOf P ops i) (le ++ [(i, rblk o.op (envOf s))]) le) (cond (secondsOf P ops i) (ef ++ [(i, h, h')]) ef) K) none)
        (match o.guard with
          | some (j, w) => match (ops[j]?).bind (·.dst) with
            | some t => match s.get t with
              | some (.bool b) => match (o :: l').drop (glen j w i (o :: l')) with
                | q :: rest => match q.op, q.dst with
                  | .pick (.tmp t') x y, some d => cond (sameG cur q.guard && Nat.beq t t' && gOk N ops s j ((o :: l').take (glen j w i (o :: l'))) i && Nat.blt d N && !(firstsOf P ops (i + glen j w i (o :: l'))))
                      (match offL P ops s ((o :: l').take (glen j w i (o :: l'))) i [] with
                        | some off => ((csel w b (kdrg P tbl N ops fuel (Bool × H × LEs × EFs) (some (j, w)) i ((o :: l').take (glen j w i (o :: l'))) s h [] [] fun s1 h1 le1 ef1 => (asB (envOf s1 (cond w x y))).bind fun z => some (z, h1, le1, ef1)) ((asB (envOf s (cond w y x))).bind fun z => some (z, h, off, []))).bind
                          fun p => kdrg P tbl N ops fuel R cur (i + glen j w i (o :: l') + 1) rest (s.put d (.bool p.1)) p.2.1 (le ++ p.2.2.1) (ef ++ p.2.2.2) K)
                        | none => none) none
                  | _, _ => none
                | [] => none
              | _ => none
            | none => none
          | none => none) = some r := k
    cases hg : sameG cur o.guard with
    | true =>
      rw [hg] at k
      obtain ⟨hrd, k⟩ := cond_some k
      obtain ⟨v, s', h', ⟨M1, hM1⟩, p1, k2⟩ := kstep_sound hT k
      have hgo : o.guard = cur := (sameG_eq hg).symm
      have hc' : CurOk ops cur l' s' := by
        intro j w e
        obtain ⟨t0, g1, g2, g3⟩ := hc j w e
        refine ⟨t0, g1, ?_, fun o' ho' => g3 o' (by simp [ho'])⟩
        rw [putA_get p1, if_neg (g3 o (by simp))]; exact g2
      obtain ⟨s2, h2, le', ef', ⟨M2, hM2⟩, k3⟩ := kdrg_sound hT fuel k2 (fun k o' hk => by have := hl (k + 1) o' (by simpa using hk); rw [show i + 1 + k = i + (k + 1) by omega]; exact this) hc'
      refine ⟨s2, h2, (cond (firstsOf P ops i) [(i, rblk o.op (envOf s))] []) ++ le', (cond (secondsOf P ops i) [(i, h, h')] []) ++ ef', ⟨max M1 M2, fun n hn L hL S1 l1 => ?_⟩, ?_⟩
      · obtain ⟨S', a1, p2, le1⟩ := hM1 n (by omega) L (by omega) S1 l1
        obtain ⟨seg, S2, q1, q2, q3⟩ := hM2 n (by omega) L (by omega) S' le1
        have hstep : dstep P (dcall P C X L n) N ops o S1 h = some (v, S', h') := by
          unfold dstep
          rw [wanted_cur hc l1 hgo]
          simp only [a1, p2]
        refine ⟨(S1, h) :: seg, S2, Seg.cons hstep q1, q2, ?_⟩
        have hz : (seg ++ [(S2, h2)])[0]? = some (S', h') := by
          cases seg with
          | nil =>
            have : l' = [] := List.eq_nil_of_length_eq_zero (by rw [← q1.2]; rfl)
            subst this
            have := q1.1
            cases this; rfl
          | cons p seg =>
            have e := (dtrace_spec q1.1)
            have h2 := e.2.1; have h3 := e.2.2.1
            simp only [sAt, hAt, List.cons_append, List.getElem?_cons_zero] at h2 h3
            simp only [List.cons_append, List.getElem?_cons_zero]
            rw [← h2, ← h3]
        refine Cov.app (a := [o]) (sa := [(S1, h)]) (x := (S', h')) rfl hz ⟨fun k o' p hk hp hf bb hb => ?_, fun k o' p q hk hp hq hf => ?_⟩ (q3.mono (fun x hx => by simp [hx]) (fun x hx => by simp [hx]))
        · cases k with
          | succ k => simp at hk
          | zero =>
            simp at hk hp
            subst hk; subst hp
            have hf : firstsOf P ops i = true := hf
            rw [hf] at hrd
            have hrd : rdef o.op (envOf s) = true := by simpa using hrd
            rw [rblk_same l1.env hrd] at hb
            simp [hf, hb]
        · cases k with
          | succ k => simp at hk
          | zero =>
            simp at hp hq
            subst hp; subst hq
            have hf : secondsOf P ops i = true := hf
            right; simp [hf]
      · have e1 : le ++ (cond (firstsOf P ops i) [(i, rblk o.op (envOf s))] [] ++ le') = cond (firstsOf P ops i) (le ++ [(i, rblk o.op (envOf s))]) le ++ le' := by cases firstsOf P ops i <;> simp
        have e2 : ef ++ (cond (secondsOf P ops i) [(i, h, h')] [] ++ ef') = cond (secondsOf P ops i) (ef ++ [(i, h, h')]) ef ++ ef' := by cases secondsOf P ops i <;> simp
        rw [e1, e2]; exact k3
    | false =>
      rw [hg] at k
      simp only [cond_false] at k
      split at k
      · rename_i j w hgo
        split at k
        · rename_i t ht
          split at k
          · rename_i b hb
            split at k
            · rename_i q rest hdrop
              split at k
              · rename_i t' x y d hop hdst
                have hq := (cond_some k).1
                have k2 := (cond_some k).2
                clear k
                simp only [Bool.and_eq_true] at hq
                obtain ⟨⟨⟨⟨hq1, hq2⟩, hq3⟩, hq4⟩, hq5⟩ := hq
                have hq1 := (sameG_eq hq1).symm
                have hq2 := beq_eq hq2
                subst hq2
                have hsplit : (o :: l').take (glen j w i (o :: l')) ++ q :: rest = o :: l' := by rw [← hdrop]; exact List.take_append_drop _ _
                have htake : ∀ o' ∈ (o :: l').take (glen j w i (o :: l')), inG j w i o' = true := fun o' ho' => glen_take o' ho'
                have hglen : ((o :: l').take (glen j w i (o :: l'))).length = glen j w i (o :: l') := by
                  rw [List.length_take]
                  have : glen j w i (o :: l') < (o :: l').length := by
                    rcases Nat.lt_or_ge (glen j w i (o :: l')) (o :: l').length with q0 | q0
                    · exact q0
                    · rw [List.drop_eq_nil_of_le q0] at hdrop; cases hdrop
                  omega
                generalize hgg : (o :: l').take (glen j w i (o :: l')) = g at *
                have hlg : ∀ k o', g[k]? = some o' → ops[i + k]? = some o' := fun k o' hk => hl k o' (by rw [← hsplit, List.getElem?_append_left (List.getElem?_eq_some_iff.1 hk).1]; exact hk)
                have hlq : ∀ k o', rest[k]? = some o' → ops[i + glen j w i (o :: l') + 1 + k]? = some o' := fun k o' hk => by
                  have := hl (g.length + (k + 1)) o' (by rw [← hsplit, List.getElem?_append_right (by omega)]; simpa using hk)
                  rw [hglen] at this
                  rw [show i + glen j w i (o :: l') + 1 + k = i + (glen j w i (o :: l') + (k + 1)) by omega]; exact this
                have memg : ∀ o' ∈ g, o' ∈ o :: l' := fun o' ho' => by rw [← hsplit]; simp [ho']
                have memq : q ∈ o :: l' := by rw [← hsplit]; simp
                have memr : ∀ o' ∈ rest, o' ∈ o :: l' := fun o' ho' => by rw [← hsplit]; simp [ho']
                have hnone := gOk_mem hq3
                have htg : ∀ o' ∈ g, o'.dst ≠ some t := fun o' ho' e => by rw [hnone o' ho' t e] at hb; cases hb
                split at k2
                · rename_i off hoff
                  obtain ⟨p, hsel, k⟩ := Option.bind_eq_some_iff.1 k2
                  obtain ⟨z, hz, leG, efG⟩ := p
                  have k : kdrg P tbl N ops fuel R cur (i + glen j w i (o :: l') + 1) rest (s.put d (.bool z)) hz (le ++ leG) (ef ++ efG) K = some r := k
                  have leg : ∀ {S1 Sg : S}, Le s S1 → (∀ t, dsts g t = false → Sg.get t = S1.get t) → Le s Sg := fun {S1 Sg} le q2 t1 v1 hv1 => by
                    rw [q2 t1 (dsts_mem.2 fun o' ho' e => by rw [hnone o' ho' t1 e] at hv1; cases hv1)]; exact le t1 v1 hv1
                  have grp : ∃ M, ∀ n, M ≤ n → ∀ L, M ≤ L → ∀ S1, Le s S1 → ∃ seg Sg, Seg (dcall P C X L n) N P ops g S1 h seg Sg hz ∧ envOf Sg (cond b x y) = some (.bool z) ∧ Cov P ops i g (seg ++ [(Sg, hz)]) leG efG := by
                    by_cases hbw : b = w
                    · subst hbw
                      rw [csel_on] at hsel
                      obtain ⟨s1, h1, le1, ef1, ⟨M, hM⟩, k1⟩ := kdrg_sound hT fuel hsel hlg (fun j' w' e => by cases e; exact ⟨t, ht, hb, htg⟩)
                      obtain ⟨z', hz1, hz2⟩ := Option.bind_eq_some_iff.1 k1
                      cases hz2
                      refine ⟨M, fun n hn L hL S1 l1 => ?_⟩
                      obtain ⟨seg, Sg, q1, q2, q3⟩ := hM n hn L hL S1 l1
                      exact ⟨seg, Sg, q1, q2.env _ _ (asB_inv hz1), q3⟩
                    · rw [csel_off hbw] at hsel
                      obtain ⟨z', hz1, hz2⟩ := Option.bind_eq_some_iff.1 hsel
                      cases hz2
                      refine ⟨0, fun n hn L hL S1 l1 => ?_⟩
                      obtain ⟨seg, Sg, q1, q2⟩ := seg_off (P := P) (N := N) (call := dcall P C X L n) (i := i) (h := h) ht hbw hlg htake hq3 hb (l1 t _ hb) (fun j' o' d' g1 g2 => by omega) (Nat.le_refl _) (pre := []) (fun t ht => by cases ht) l1 hoff
                      refine ⟨seg, Sg, q1, ?_, q2⟩
                      have := (leg l1 q1.frame).env _ _ (asB_inv hz1)
                      cases b <;> cases w <;> first | exact this | exact absurd rfl hbw
                  obtain ⟨M1, hM1⟩ := grp
                  have hc2 : CurOk ops cur rest (s.put d (.bool z)) := by
                    intro j0 w0 e
                    obtain ⟨t0, g1, g2, g3⟩ := hc j0 w0 e
                    refine ⟨t0, g1, ?_, fun o' ho' => g3 o' (memr o' ho')⟩
                    have : t0 ≠ d := fun q0 => g3 q memq (by rw [hdst, q0])
                    rw [T.get_put_ne _ _ this]; exact g2
                  obtain ⟨s2, h2, le', ef', ⟨M2, hM2⟩, k3⟩ := kdrg_sound hT fuel k hlq hc2
                  refine ⟨s2, h2, leG ++ le', efG ++ ef', ⟨max M1 M2, fun n hn L hL S1 l1 => ?_⟩, by rw [← List.append_assoc, ← List.append_assoc]; exact k3⟩
                  obtain ⟨seg, Sg, q1, q2, q3⟩ := hM1 n (by omega) L (by omega) S1 l1
                  have leg := leg l1 q1.frame
                  obtain ⟨seg2, S2, u1, u2, u3⟩ := hM2 n (by omega) L (by omega) (Sg.put d (.bool z)) (leg.put d _)
                  have hw : wantedA ops Sg q = some true := wanted_cur hc leg hq1
                  have ha : aop P (dcall P C X L n) q.op (envOf Sg) hz = some (.bool z, hz) := by
                    rw [hop]
                    simp only [aop, pickO]
                    have : envOf Sg (.tmp t) = some (.bool b) := leg t _ hb
                    rw [this]
                    simp only
                    have q2' : cond b (envOf Sg x) (envOf Sg y) = some (.bool z) := by cases b <;> exact q2
                    rw [q2']; rfl
                  have hp : putA N Sg q.dst (.bool z) = some (Sg.put d (.bool z)) := by
                    rw [hdst]
                    show cond (Nat.blt d N) _ _ = _
                    rw [hq4]; rfl
                  have hstep : dstep P (dcall P C X L n) N ops q Sg hz = some (.bool z, Sg.put d (.bool z), hz) := by
                    unfold dstep; rw [hw]; simp only [ha, hp]
                  have hz2 : (seg2 ++ [(S2, h2)])[0]? = some (Sg.put d (.bool z), hz) := by
                    cases seg2 with
                    | nil =>
                      have : rest = [] := List.eq_nil_of_length_eq_zero (by rw [← u1.2]; rfl)
                      subst this
                      have := u1.1
                      cases this; rfl
                    | cons p seg =>
                      have e := (dtrace_spec u1.1)
                      have h2 := e.2.1; have h3 := e.2.2.1
                      simp only [sAt, hAt, List.cons_append, List.getElem?_cons_zero] at h2 h3
                      simp only [List.cons_append, List.getElem?_cons_zero]
                      rw [← h2, ← h3]
                  refine ⟨seg ++ (Sg, hz) :: seg2, S2, by rw [← hsplit]; exact Seg.app q1 (Seg.cons hstep u1), u2, ?_⟩
                  rw [← hsplit, List.append_assoc]
                  refine Cov.app (x := (Sg, hz)) q1.2 rfl (q3.mono (fun x hx => by simp [hx]) (fun x hx => by simp [hx])) ?_
                  rw [hglen]
                  refine Cov.app (a := [q]) (sa := [(Sg, hz)]) (x := (Sg.put d (.bool z), hz)) rfl hz2 ⟨fun k o' p hk hp hf bb hb => ?_, fun k o' p q hk hp hq hf => ?_⟩ (u3.mono (fun x hx => by simp [hx]) (fun x hx => by simp [hx]))
                  · cases k with
                    | succ k => simp at hk
                    | zero =>
                      have hf : firstsOf P ops (i + glen j w i (o :: l')) = true := hf
                      rw [hf] at hq5; cases hq5
                  · cases k with
                    | succ k => simp at hk
                    | zero =>
                      simp at hp hq
                      subst hp; subst hq; left; rfl
                · cases k2
              · cases k
            · cases k
          · cases k
        · cases k
      · cases k
theorem dynL_ok {ops : Array Oper} {seg : List (S × H)} {s' : S} {h' : H} {le : LEs} {ef : EFs} (hd : dynL (pairsOf P ops) le ef = true) (c : Cov P ops 0 ops.toList (seg ++ [(s', h')]) le ef) (hl : seg.length = ops.toList.length) : dynOk P ops (seg ++ [(s', h')]) = true := by
  unfold dynOk
  rw [List.all_eq_true]
  intro q hq
  have hf : firstsOf P ops q.1 = true := List.any_eq_true.2 ⟨q, hq, by simp⟩
  have hs : secondsOf P ops q.2 = true := List.any_eq_true.2 ⟨q, hq, by simp⟩
  have hd := List.all_eq_true.1 hd q hq
  -- both are numbers of operations
  have hj : ∃ o, ops[q.1]? = some o := by
    unfold pairsOf at hq
    obtain ⟨j, hj1, hj2⟩ := List.mem_flatMap.1 hq
    split at hj2
    · cases hj2
    · rename_i o ho
      cases hc : Nat.beq (clsOf P o.op) 0 with
      | false => rw [hc] at hj2; cases hj2
      | true =>
        rw [hc] at hj2
        obtain ⟨e, _, he⟩ := List.mem_map.1 hj2
        subst he
        exact ⟨o, ho⟩
  obtain ⟨o, ho⟩ := hj
  rw [ho]
  simp only
  cases hb : rblk o.op (envOf (sAt (seg ++ [(s', h')]) q.1)) with
  | none => rfl
  | some b =>
    simp only
    have hjl : q.1 < ops.toList.length := by rw [Array.length_toList]; exact getElem_lt ho
    obtain ⟨p, hp⟩ : ∃ p, (seg ++ [(s', h')])[q.1]? = some p := ⟨_, List.getElem?_eq_getElem (by simp; omega)⟩
    have hsa : sAt (seg ++ [(s', h')]) q.1 = p.1 := by unfold sAt; rw [hp]
    rw [hsa] at hb
    have m1 := c.rd q.1 o p (by rw [Array.getElem?_toList]; exact ho) hp (by rw [Nat.zero_add]; exact hf) b hb
    rw [Nat.zero_add] at m1
    rcases Nat.lt_or_ge q.2 ops.toList.length with he | he
    · obtain ⟨p1, hp1⟩ : ∃ p, (seg ++ [(s', h')])[q.2]? = some p := ⟨_, List.getElem?_eq_getElem (by simp; omega)⟩
      obtain ⟨p2, hp2⟩ : ∃ p, (seg ++ [(s', h')])[q.2 + 1]? = some p := ⟨_, List.getElem?_eq_getElem (by simp; omega)⟩
      have e1 : hAt (seg ++ [(s', h')]) q.2 = p1.2 := by unfold hAt; rw [hp1]
      have e2 : hAt (seg ++ [(s', h')]) (q.2 + 1) = p2.2 := by unfold hAt; rw [hp2]
      rw [e1, e2]
      rcases c.wt q.2 (ops.toList[q.2]) p1 p2 (List.getElem?_eq_getElem he) hp1 hp2 (by rw [Nat.zero_add]; exact hs) with e | m2
      · rw [e]
        unfold sameVer
        cases h' : p2.2.get b <;> simp
      · rw [Nat.zero_add] at m2
        have := List.all_eq_true.1 (List.all_eq_true.1 hd _ m1) _ m2
        simp at this
        exact this
    · have e1 : hAt (seg ++ [(s', h')]) (q.2 + 1) = H.empty := by
        unfold hAt
        rw [List.getElem?_eq_none (by simp; omega)]
      unfold pairsOf at hq
      obtain ⟨j, hj1, hj2⟩ := List.mem_flatMap.1 hq
      split at hj2
      · cases hj2
      · rename_i o' ho'
        cases hc : Nat.beq (clsOf P o'.op) 0 with
        | false => rw [hc] at hj2; cases hj2
        | true =>
          rw [hc] at hj2
          obtain ⟨e, he1, he2⟩ := List.mem_map.1 hj2
          subst he2
          have := List.mem_range.1 (List.mem_filter.1 he1).1
          rw [Array.length_toList] at he
          simp at he
          omega
theorem kreg_sound (hT : TblS P C X tbl) {R : Type} {id : Nat} {ops : Array Oper} {draw : Bool} {s : S} {h : H} {K : S → H → Option R} {r : R} (k : kreg P tbl N R ops draw s h K = some r) :
    ∃ s' h', Runs P C X N (.region id ops draw) s h .normal s' h' ∧ K s' h' = some r := by
  unfold kreg at k
  cases draw with
  | false =>
    simp only [cond_false] at k
    obtain ⟨s', h', ⟨M, hM⟩, k2⟩ := kdo_sound hT _ k (fun k o hk => by rw [Nat.zero_add]; simpa using hk) (fun j w e => by cases e)
    refine ⟨s', h', ⟨M, fun n hn L hL S1 le => ?_⟩, k2⟩
    obtain ⟨S', q1, q2, q3⟩ := hM n hn L hL S1 le
    refine ⟨S', ?_, q2, q3⟩
    show regA (dops P (dcall P C X L n) N ops ops.toList S1 h) = _
    rw [q1]; rfl
  | true =>
    simp only [cond_true] at k
    obtain ⟨hs, k⟩ := cond_some k
    cases hng : noGuard ops.toList with
    | true =>
      rw [hng] at k
      obtain ⟨ta, s', h', ⟨M, hM⟩, k2⟩ := kdrw_sound hT (ops := ops) k
      obtain ⟨hd, k2⟩ := cond_some k2
      rw [List.nil_append] at hd
      refine ⟨s', h', ⟨M, fun n hn L hL S1 le => ?_⟩, k2⟩
      obtain ⟨tb, S', q1, q2, q3, q4⟩ := hM n hn L hL S1 le
      have hdr : ddraw P (dcall P C X L n) N ops S1 h = some (S', h') := by
        unfold ddraw
        rw [q1]
        simp only [hs, dynS_ok hd q2, Bool.and_self, cond_true]
        rw [← q3]; simp
      refine ⟨S', ?_, q4, fun t ht => ddraw_frame hdr ht⟩
      show regA (ddraw P (dcall P C X L n) N ops S1 h) = _
      rw [hdr]; rfl
    | false =>
      rw [hng] at k
      simp only [cond_false] at k
      obtain ⟨s', h', le', ef', ⟨M, hM⟩, k2⟩ := kdrg_sound hT _ k (fun k o hk => by rw [Nat.zero_add]; simpa using hk) (fun j w e => by cases e)
      obtain ⟨hd, k2⟩ := cond_some k2
      rw [List.nil_append, List.nil_append] at hd
      refine ⟨s', h', ⟨M, fun n hn L hL S1 le => ?_⟩, k2⟩
      obtain ⟨seg, S', q1, q2, q3⟩ := hM n hn L hL S1 le
      have hdr : ddraw P (dcall P C X L n) N ops S1 h = some (S', h') := by
        unfold ddraw
        rw [q1.1]
        simp only [hs, dynL_ok hd q3 q1.2, Bool.and_self, cond_true]
        have : ops.size = seg.length := by rw [q1.2]; simp
        rw [this]; simp
      refine ⟨S', ?_, q2, fun t ht => ddraw_frame hdr ht⟩
      show regA (ddraw P (dcall P C X L n) N ops S1 h) = _
      rw [hdr]; rfl

/-! ### code -/
theorem rangeFA_slots {L : Nat} {v : Option Value} {ps : List Tmp} {iha ihb : S → H → Option (Ex × S × H)} {s s' : S} {h h' : H} {e : Ex} (q : rangeFA C N L v ps iha ihb s h = some (e, s', h')) : s' = s := by
  unfold rangeFA at q
  split at q
  · split at q
    · obtain ⟨_, q⟩ := cond_some q
      unfold chunkV at q
      split at q
      · rename_i base len cap n _ _
        cases hl : Nat.beq len 0 with
        | true => rw [hl] at q; cases q; rfl
        | false =>
          rw [hl] at q
          simp only [cond_false] at q
          unfold chunkS at q
          split at q
          · obtain ⟨_, q⟩ := cond_some q
            split at q
            · cases q; rfl
            · cases q
          · cases q
      · cases q
    · cases q
  · cases q
theorem asg_frame {call : CallF} {L : Nat} (c : Code) : ∀ {s s' : S} {h h' : H} {e : Ex}, dcode P C call N L c s h = some (e, s', h') → ∀ t, asg c t = false → s'.get t = s.get t := by
  induction c with
  | skip => intro s s' h h' e q t _; cases q; rfl
  | region id ops draw =>
    intro s s' h h' e q t ht
    cases draw with
    | false =>
      have q : regA (dops P call N ops ops.toList s h) = some (e, s', h') := q
      cases hd : dops P call N ops ops.toList s h with
      | none => rw [hd] at q; cases q
      | some p => rw [hd] at q; cases q; exact dops_frame hd t ht
    | true =>
      have q : regA (ddraw P call N ops s h) = some (e, s', h') := q
      cases hd : ddraw P call N ops s h with
      | none => rw [hd] at q; cases q
      | some p => rw [hd] at q; cases q; exact ddraw_frame hd ht
  | seq a b iha ihb =>
    intro s s' h h' e q t ht
    have ht : (asg a t || asg b t) = false := ht
    rw [Bool.or_eq_false_iff] at ht
    have q : seqA (dcode P C call N L b) (dcode P C call N L a s h) = some (e, s', h') := q
    cases hd : dcode P C call N L a s h with
    | none => rw [hd] at q; cases q
    | some p =>
      obtain ⟨e1, s1, h1⟩ := p
      rw [hd] at q
      cases e1 with
      | normal => rw [ihb q t ht.2, iha hd t ht.1]
      | ret => cases q; exact iha hd t ht.1
      | exit i => cases q; exact iha hd t ht.1
  | cond c a b iha ihb =>
    intro s s' h h' e q t ht
    have ht : (asg a t || asg b t) = false := ht
    rw [Bool.or_eq_false_iff] at ht
    have q : (match envOf s c with
      | some (.bool u) => cond u (dcode P C call N L a s h) (dcode P C call N L b s h)
      | _ => none) = some (e, s', h') := q
    split at q
    · rename_i u _
      cases u
      · exact ihb q t ht.2
      · exact iha q t ht.1
    · cases q
  | block id a iha =>
    intro s s' h h' e q t ht
    have q : blockA id (dcode P C call N L a s h) = some (e, s', h') := q
    cases hd : dcode P C call N L a s h with
    | none => rw [hd] at q; cases q
    | some p =>
      obtain ⟨e1, s1, h1⟩ := p
      rw [hd] at q
      have := iha hd t ht
      cases e1 with
      | normal => cases q; exact this
      | ret => cases q; exact this
      | exit i =>
        have q : cond (Nat.beq id i) (some (Ex.normal, s1, h1)) (some (Ex.exit i, s1, h1)) = some (e, s', h') := q
        cases hb : Nat.beq id i <;> rw [hb] at q <;> cases q <;> exact this
  | loop a iha =>
    intro s s' h h' e q t ht
    have key : ∀ (m : Nat) (s s' : S) (h h' : H) (e : Ex), loopA (dcode P C call N L a) m s h = some (e, s', h') → s'.get t = s.get t := by
      intro m
      induction m with
      | zero => intro s s' h h' e q; cases q
      | succ m ih =>
        intro s s' h h' e q
        have q : (match dcode P C call N L a s h with
          | some (.normal, s', h') => loopA (dcode P C call N L a) m s' h'
          | r => r) = some (e, s', h') := q
        cases hd : dcode P C call N L a s h with
        | none => rw [hd] at q; cases q
        | some p =>
          obtain ⟨e1, s1, h1⟩ := p
          rw [hd] at q
          have h0 := iha hd t ht
          cases e1 with
          | normal => rw [ih s1 s' h1 h' e q, h0]
          | ret => cases q; exact h0
          | exit i => cases q; exact h0
    exact key L s s' h h' e q
  | rangeFunc f ps x y _ _ =>
    intro s s' h h' e q t ht
    have q : cond (flatC x && flatC y) (rangeFA C N L (envOf s f) ps.toList (dcode P C call N L x) (dcode P C call N L y) s h) none = some (e, s', h') := q
    obtain ⟨_, q⟩ := cond_some q
    rw [rangeFA_slots q]
  | exit id => intro s s' h h' e q t _; cases q; rfl
  | scope a iha => intro s s' h h' e q t ht; exact iha q t ht
  | label l => intro s s' h h' e q t _; cases q; rfl
  | goto l => intro s s' h h' e q t _; cases q
  | ret => intro s s' h h' e q t _; cases q; rfl
  | refuse w => intro s s' h h' e q t _; cases q

theorem mkS_get : ∀ {l : List (Nat × Value)} {t : Nat} {v : Value}, (mkS l).get t = some v → ∃ p ∈ l, p = (t, v)
  | [], t, v, h => by cases h
  | p :: l, t, v, h => by
    have h : ((mkS l).put p.1 p.2).get t = some v := h
    rw [T.get_put] at h
    split at h
    · rename_i e; cases h; exact ⟨p, by simp, by rw [e]⟩
    · obtain ⟨q, h1, h2⟩ := mkS_get h; exact ⟨q, by simp [h1], h2⟩
theorem getS_mem {s : S} : ∀ {l : List Nat} {vs : List (Nat × Value)}, getS s l = some vs → ∀ p ∈ vs, p.1 ∈ l ∧ s.get p.1 = some p.2
  | [], vs, h, p, hp => by cases h; cases hp
  | t :: l, vs, h, p, hp => by
    have h : (match s.get t, getS s l with
      | some v, some vs => some ((t, v) :: vs)
      | _, _ => none) = some vs := h
    split at h
    · rename_i v us hv hu
      cases h
      rcases List.mem_cons.1 hp with rfl | hp
      · exact ⟨by simp, hv⟩
      · obtain ⟨q1, q2⟩ := getS_mem hu p hp; exact ⟨by simp [q1], q2⟩
    · cases h
theorem aftS_le {s s' S1 s1 : S} {c : Code} {keep : List Nat} {outs : List (Nat × Value)} (h : aftS s c keep outs = some s') (le : Le s S1) (fr : ∀ t, asg c t = false → s1.get t = S1.get t) (ho : ∀ q ∈ outs, s1.get q.1 = some q.2) : Le s' s1 := by
  unfold aftS at h
  split at h
  · rename_i l hl
    obtain ⟨hk, h⟩ := cond_some h
    cases h
    intro t v hv
    obtain ⟨p, hp, rfl⟩ := mkS_get hv
    rcases List.mem_append.1 hp with hp | hp
    · exact ho _ hp
    · obtain ⟨q1, q2⟩ := getS_mem hl _ hp
      have := List.all_eq_true.1 hk _ q1
      rw [fr _ (by simpa using this)]
      exact le _ _ q2
  · cases h
theorem decT_get : ∀ {l : Slots} {s : S} {x : Tup l}, decT l s = some x → ∀ p ∈ encT l x, s.get p.1 = some p.2
  | [], s, x, h, p, hp => by cases hp
  | [q], s, x, h, p, hp => by
    have hp : p ∈ [(q.1, mkV q.2 x)] := hp
    simp only [List.mem_singleton] at hp
    subst hp
    exact asK_inv h
  | q :: q2 :: l, s, x, h, p, hp => by
    obtain ⟨x1, h1, h⟩ := Option.bind_eq_some_iff.1 h
    obtain ⟨x2, h2, h⟩ := Option.bind_eq_some_iff.1 h
    cases h
    have hp : p ∈ (q.1, mkV q.2 x1) :: encT (q2 :: l) x2 := hp
    rcases List.mem_cons.1 hp with rfl | hp
    · exact asK_inv h1
    · exact decT_get h2 p hp
theorem exEq_eq {a b : Ex} (h : exEq a b = true) : a = b := by
  unfold exEq at h
  split at h
  · rfl
  · rfl
  · rw [beq_eq h]
  · cases h
/-- what is told where ways meet is so -/
theorem jout_ok {R : Type} : ∀ {rets : Option Slots} {outs : Slots} {good e : Ex} {s : S} {x : JT rets outs}, jout rets outs good e s = some x → ∀ {K : Ex → List (Nat × Value) → Option R} {r : R}, jencK rets outs good x K = some r →
    ∃ l, K e l = some r ∧ ∀ p ∈ l, s.get p.1 = some p.2
  | none, outs, good, e, s, x, h, K, r, k => by
    have h : cond (exEq e good) (decT outs s) none = some x := h
    obtain ⟨h1, h2⟩ := cond_some h
    rw [exEq_eq h1]
    exact ⟨_, k, decT_get h2⟩
  | some rs, outs, good, e, s, x, h, K, r, k => by
    have h : cond (exEq e good) ((decT outs s).bind fun x => some (Sum.inr x)) (cond (exEq e .ret) ((decT rs s).bind fun x => some (Sum.inl x)) none) = some x := h
    cases hg : exEq e good with
    | true =>
      rw [hg] at h
      obtain ⟨y, h1, h2⟩ := Option.bind_eq_some_iff.1 h
      cases h2
      rw [exEq_eq hg]
      exact ⟨_, k, decT_get h1⟩
    | false =>
      rw [hg] at h
      obtain ⟨h0, h⟩ := cond_some h
      obtain ⟨y, h1, h2⟩ := Option.bind_eq_some_iff.1 h
      cases h2
      rw [exEq_eq h0]
      exact ⟨_, k, decT_get h1⟩
end
section
variable (P : Program) (C : FuncId → Bool) (X : CallF) (N : Nat)
/-- what is owed for a loop -/
def PassS (c : Code) (run : Pass) : Prop := ∀ (R : Type) (s : S) (h : H) (K : Ex → List (Nat × Value) → H → Option R) (r : R), run R s h K = some r →
  ∃ e outs h', (∃ M, ∀ n, M ≤ n → ∀ L, M ≤ L → ∀ S1, Le s S1 → ∃ s1, dcode P C (dcall P C X L n) N L c S1 h = some (e, s1, h') ∧ ∀ q ∈ outs, s1.get q.1 = some q.2) ∧ K e outs h' = some r
end
section
variable {P : Program} {C : FuncId → Bool} {X : CallF} {tbl : Tbl} {N : Nat}
theorem pass_runs {c : Code} {run : Pass} {keep : List Nat} (hp : PassS P C X N c run) {R : Type} {s : S} {h : H} {K : Ex → S → H → Option R} {r : R}
    (k : (run R s h fun e l h' => match aftS s c keep l with
        | some s' => K e s' h'
        | none => none) = some r) : ∃ e s' h', Runs P C X N c s h e s' h' ∧ K e s' h' = some r := by
  obtain ⟨e, outs, h', ⟨M, hM⟩, k2⟩ := hp R s h _ r k
  split at k2
  · rename_i s' hs'
    refine ⟨e, s', h', ⟨M, fun n hn L hL S1 le => ?_⟩, k2⟩
    obtain ⟨s1, q1, q2⟩ := hM n hn L hL S1 le
    exact ⟨s1, q1, aftS_le hs' le (asg_frame c q1) q2, asg_frame c q1⟩
  · cases k2
theorem kcode_sound (hT : TblS P C X tbl) (an : Nat → Option Ann) (c : Code) : ∀ {R : Type} {p : Nat} {s : S} {h : H} {K : Ex → S → H → Option R} {r : R}, (∀ q ∈ need an c p, PassS P C X N q.1 q.2) → kcode P tbl N an c R p s h K = some r →
    ∃ e s' h', Runs P C X N c s h e s' h' ∧ K e s' h' = some r := by
  induction c with
  | skip => intro R p s h K r _ k; exact ⟨.normal, s, h, ⟨0, fun n _ L _ S1 le => ⟨S1, rfl, le, fun _ _ => rfl⟩⟩, k⟩
  | region id ops draw =>
    intro R p s h K r _ k
    obtain ⟨s', h', k1, k2⟩ := kreg_sound hT (id := id) (K := fun s' h' => K .normal s' h') k
    exact ⟨.normal, s', h', k1, k2⟩
  | seq a b iha ihb =>
    intro R p s h K r hn k
    have hn : ∀ q ∈ need an a (2 * p) ++ need an b (2 * p + 1), PassS P C X N q.1 q.2 := hn
    have k : kcode P tbl N an a R (2 * p) s h (fun e s' h' => match e with
      | .normal => kcode P tbl N an b R (2 * p + 1) s' h' K
      | .ret => K .ret s' h'
      | .exit id => K (.exit id) s' h') = some r := k
    obtain ⟨e, s1, h1, ⟨M1, hM1⟩, k2⟩ := iha (fun q hq => hn q (by simp [hq])) k
    have other : ∀ e', e' ≠ .normal → e = e' → K e' s1 h1 = some r → ∃ e s' h', Runs P C X N (.seq a b) s h e s' h' ∧ K e s' h' = some r := by
      intro e' hne he hk
      subst he
      refine ⟨e, s1, h1, ⟨M1, fun n hn L hL S1 le => ?_⟩, hk⟩
      obtain ⟨s2, q1, q2, q3⟩ := hM1 n hn L hL S1 le
      have hd : dcode P C (dcall P C X L n) N L (.seq a b) S1 h = some (e, s2, h1) := by
        show seqA (dcode P C (dcall P C X L n) N L b) (dcode P C (dcall P C X L n) N L a S1 h) = _
        rw [q1]
        cases e with
        | normal => exact absurd rfl hne
        | ret => rfl
        | exit i => rfl
      exact ⟨s2, hd, q2, asg_frame _ hd⟩
    cases e with
    | ret => exact other _ (fun q => by cases q) rfl k2
    | exit i => exact other _ (fun q => by cases q) rfl k2
    | normal =>
      obtain ⟨e, s2, h2, ⟨M2, hM2⟩, k3⟩ := ihb (fun q hq => hn q (by simp [hq])) k2
      refine ⟨e, s2, h2, ⟨max M1 M2, fun n hn L hL S1 le => ?_⟩, k3⟩
      obtain ⟨s3, q1, q2, q3⟩ := hM1 n (by omega) L (by omega) S1 le
      obtain ⟨s4, u1, u2, u3⟩ := hM2 n (by omega) L (by omega) s3 q2
      have hd : dcode P C (dcall P C X L n) N L (.seq a b) S1 h = some (e, s4, h2) := by
        show seqA (dcode P C (dcall P C X L n) N L b) (dcode P C (dcall P C X L n) N L a S1 h) = _
        rw [q1]; exact u1
      exact ⟨s4, hd, u2, asg_frame _ hd⟩
  | cond c x y ihx ihy =>
    intro R p s h K r hn k
    have hn : ∀ q ∈ need an x (2 * p) ++ need an y (2 * p + 1), PassS P C X N q.1 q.2 := hn
    have k : (match envOf s c with
      | some (.bool t) => match an p with
        | some (.join keep rets outs) => (cond t (kcode P tbl N an x (JT rets outs × H) (2 * p) s h fun e s' h' => (jout rets outs .normal e s').bind fun b => some (b, h')) (kcode P tbl N an y (JT rets outs × H) (2 * p + 1) s h fun e s' h' => (jout rets outs .normal e s').bind fun b => some (b, h'))).bind
            fun q => jencK rets outs .normal q.1 fun e l => match aftS s (.cond c x y) keep l with
              | some s' => K e s' q.2
              | none => none
        | _ => cond t (kcode P tbl N an x R (2 * p) s h K) (kcode P tbl N an y R (2 * p + 1) s h K)
      | _ => none) = some r := k
    split at k
    · rename_i t ht
      have lift : ∀ {e : Ex} {s' : S} {h' : H}, Runs P C X N (cond t x y) s h e s' h' → ∃ M, ∀ n, M ≤ n → ∀ L, M ≤ L → ∀ S1, Le s S1 → ∃ s1, dcode P C (dcall P C X L n) N L (.cond c x y) S1 h = some (e, s1, h') ∧ Le s' s1 := by
        rintro e s' h' ⟨M, hM⟩
        refine ⟨M, fun n hn L hL S1 le => ?_⟩
        obtain ⟨s1, q1, q2, q3⟩ := hM n hn L hL S1 le
        refine ⟨s1, ?_, q2⟩
        show (match envOf S1 c with
          | some (.bool u) => cond u (dcode P C (dcall P C X L n) N L x S1 h) (dcode P C (dcall P C X L n) N L y S1 h)
          | _ => none) = _
        rw [le.env _ _ ht]
        cases t <;> exact q1
      split at k
      · rename_i keep rets outs ha
        obtain ⟨q, hq, k⟩ := Option.bind_eq_some_iff.1 k
        have inner : ∃ e s' h', Runs P C X N (cond t x y) s h e s' h' ∧ ((jout rets outs .normal e s').bind fun b => some (b, h')) = some q := by
          cases t with
          | true => exact ihx (fun q hq => hn q (by simp [hq])) hq
          | false => exact ihy (fun q hq => hn q (by simp [hq])) hq
        obtain ⟨e, s1, h1, hr, hj⟩ := inner
        obtain ⟨b, hb1, hb2⟩ := Option.bind_eq_some_iff.1 hj
        cases hb2
        obtain ⟨l, k2, hl⟩ := jout_ok hb1 k
        split at k2
        · rename_i s' hs'
          obtain ⟨M, hM⟩ := lift hr
          refine ⟨e, s', h1, ⟨M, fun n hn L hL S1 le => ?_⟩, k2⟩
          obtain ⟨s2, q1, q2⟩ := hM n hn L hL S1 le
          exact ⟨s2, q1, aftS_le hs' le (asg_frame _ q1) (fun p hp => q2 _ _ (hl p hp)), asg_frame _ q1⟩
        · cases k2
      · have inner : ∃ e s' h', Runs P C X N (cond t x y) s h e s' h' ∧ K e s' h' = some r := by
          cases t with
          | true => exact ihx (fun q hq => hn q (by simp [hq])) k
          | false => exact ihy (fun q hq => hn q (by simp [hq])) k
        obtain ⟨e, s1, h1, hr, k2⟩ := inner
        obtain ⟨M, hM⟩ := lift hr
        refine ⟨e, s1, h1, ⟨M, fun n hn L hL S1 le => ?_⟩, k2⟩
        obtain ⟨s2, q1, q2⟩ := hM n hn L hL S1 le
        exact ⟨s2, q1, q2, asg_frame _ q1⟩
    · cases k
  | block id a iha =>
    intro R p s h K r hn k
    have hn : ∀ q ∈ need an a (2 * p), PassS P C X N q.1 q.2 := hn
    have k : kcode P tbl N an a R (2 * p) s h (fun e s' h' => match e with
      | .normal => K .normal s' h'
      | .ret => K .ret s' h'
      | .exit id' => cond (Nat.beq id id') (K .normal s' h') (K (.exit id') s' h')) = some r := k
    obtain ⟨e, s1, h1, ⟨M, hM⟩, k2⟩ := iha hn k
    have fin : ∀ e', (∀ s2, blockA id (some (e, s2, h1)) = some (e', s2, h1)) → K e' s1 h1 = some r → ∃ e s' h', Runs P C X N (.block id a) s h e s' h' ∧ K e s' h' = some r := by
      intro e' he hk
      refine ⟨e', s1, h1, ⟨M, fun n hn L hL S1 le => ?_⟩, hk⟩
      obtain ⟨s2, q1, q2, q3⟩ := hM n hn L hL S1 le
      have hd : dcode P C (dcall P C X L n) N L (.block id a) S1 h = some (e', s2, h1) := by
        show blockA id (dcode P C (dcall P C X L n) N L a S1 h) = _
        rw [q1]; exact he s2
      exact ⟨s2, hd, q2, asg_frame _ hd⟩
    cases e with
    | normal => exact fin .normal (fun _ => rfl) k2
    | ret => exact fin .ret (fun _ => rfl) k2
    | exit i =>
      simp only at k2
      cases hb : Nat.beq id i with
      | true =>
        rw [hb] at k2
        refine fin .normal (fun s2 => ?_) k2
        show cond (Nat.beq id i) _ _ = _
        rw [hb]; rfl
      | false =>
        rw [hb] at k2
        refine fin (.exit i) (fun s2 => ?_) k2
        show cond (Nat.beq id i) _ _ = _
        rw [hb]; rfl
  | loop b _ =>
    intro R p s h K r hn k
    have k : (match an p with
      | some (.pass keep run) => run R s h fun e l h' => match aftS s (.loop b) keep l with
        | some s' => K e s' h'
        | none => none
      | _ => none) = some r := k
    split at k
    · rename_i keep run ha
      refine pass_runs (hn (.loop b, run) ?_) k
      show (Code.loop b, run) ∈ (match an p with
        | some (.pass _ run) => [(Code.loop b, run)]
        | _ => [])
      rw [ha]; simp
    · cases k
  | rangeFunc f ps x y _ _ =>
    intro R p s h K r hn k
    have k : (match an p with
      | some (.pass keep run) => run R s h fun e l h' => match aftS s (.rangeFunc f ps x y) keep l with
        | some s' => K e s' h'
        | none => none
      | _ => none) = some r := k
    split at k
    · rename_i keep run ha
      refine pass_runs (hn (.rangeFunc f ps x y, run) ?_) k
      show (Code.rangeFunc f ps x y, run) ∈ (match an p with
        | some (.pass _ run) => [(Code.rangeFunc f ps x y, run)]
        | _ => [])
      rw [ha]; simp
    · cases k
  | exit id => intro R p s h K r _ k; exact ⟨.exit id, s, h, ⟨0, fun n _ L _ S1 le => ⟨S1, rfl, le, fun _ _ => rfl⟩⟩, k⟩
  | scope a iha => intro R p s h K r hn k; exact iha (p := 2 * p) hn k
  | label l => intro R p s h K r _ k; exact ⟨.normal, s, h, ⟨0, fun n _ L _ S1 le => ⟨S1, rfl, le, fun _ _ => rfl⟩⟩, k⟩
  | goto l => intro R p s h K r _ k; cases k
  | ret => intro R p s h K r _ k; exact ⟨.ret, s, h, ⟨0, fun n _ L _ S1 le => ⟨S1, rfl, le, fun _ _ => rfl⟩⟩, k⟩
  | refuse w => intro R p s h K r _ k; cases k
end
end Go.Proofs.Ytnjeafdbifcfhaa.Den
