/- A small machine for closed runs: regions that draw their order come to what the text's order comes to. No condition. -/
import Derived.Test.YtnjeafdbifcfhaaDenQ
import Derived.Test.YtnjeafdbifcfhaaDenO
namespace Go.Proofs.Ytnjeafdbifcfhaa.Den
open Go
variable {ds : List Deferred}
set_option linter.unusedSimpArgs false
set_option linter.unusedVariables false

section
variable {P : Program} {call : CallF} {N : Nat} {ops : Array Oper} {S' : Nat → S} {H' : Nat → H} {V : Nat → Value} {σ0 : Sg} {w0 : World}
variable {D : Nat → Prop} {m : Nat} {σ : Sg} {w : World} {a : Act} {j : Nat} {o : Oper}

/-- ahead of an operation that writes: no other one that writes is left -/
theorem Rdy.eff_lt (Z : Rdy ds P call N ops S' H' V σ0 w0 D m σ w a j o) (hc : clsOf P o.op = 2) : m ≤ j ∧ ∀ (e : Nat) (p : Oper), m ≤ e → e < j → ops[e]? = some p → clsOf P p.op ≠ 2 := by
  constructor
  · rcases Nat.lt_or_ge j m with h | h
    · exact absurd ((Z.I.eff j o Z.ho hc).2 h) Z.hj
    · exact h
  · intro e p h1 h2 hp he
    have := Z.St.eff e j p o hp Z.ho he hc h2
    have hD := Z.ord_listed (getElem_lt hp) this
    have := (Z.I.eff e p hp he).1 hD
    omega

/-- the heap of the text's order, ahead of an operation that writes -/
theorem Rdy.rel (Z : Rdy ds P call N ops S' H' V σ0 w0 D m σ w a j o) (hc : clsOf P o.op = 2) :
    (∀ b x r, (H' j).get b = some x → (σ.below (H' j).next).j b = some r → Cur P ops S' H' D m b x) ∧ Rel (σ.below (H' j).next) (H' j) w := by
  have T := Z.T; have St := Z.St; have I := Z.I; have hj := Z.hj; have ho := Z.ho; have hr := Z.hr
  obtain ⟨hm, hno⟩ := Z.eff_lt hc
  have hjn := getElem_lt ho
  have cur : ∀ b x r, (H' j).get b = some x → (σ.below (H' j).next).j b = some r → Cur P ops S' H' D m b x := by
    intro b x r hb hjb
    have hlt := T.lt (Nat.le_of_lt hjn) hb
    have hσ : σ.j b = some r := by simpa [Sg.below, hlt] using hjb
    rcases I.dom b r hσ with h | ⟨k, h1, h2, h3, h4⟩
    · refine .inl ⟨h, ?_⟩
      rw [← T.cont j m hm (Nat.le_of_lt hjn) h fun e p q1 q2 q3 q4 => absurd q4 (hno e p q1 q2 q3)]; exact hb
    · refine .inr ⟨k, h1, h2, h3, h4, ?_⟩
      have hkj : k < j := by
        rcases Nat.lt_or_ge k j with h | h
        · exact h
        · have := T.next j k h (Nat.le_of_lt (AlP_lt h3)); omega
      have hb1 : b < (H' (k + 1)).next := by rw [AlP_next' h3]; omega
      rw [← T.cont j (k + 1) hkj (Nat.le_of_lt hjn) hb1 fun e p q1 q2 q3 q4 => absurd q4 (hno e p (by omega) q2 q3)]; exact hb
  refine ⟨cur, ?_⟩
  obtain ⟨σt, wt, Rt, Ft⟩ := T.rel j (Nat.le_of_lt hjn)
  have bj : ∀ b r, (σ.below (H' j).next).j b = some r → σ.j b = some r := fun b r h => by
    unfold Sg.below at h; simp only at h; split at h
    · exact h
    · cases h
  refine ⟨Rt.dom, Rt.tot, fun b hb => by simp [Sg.below]; omega, fun b x r hb ha hjb => ?_, fun b b' x x' r hb ha hb' ha' h1 h2 => ?_, Rt.ver, fun b lo l r hb hjb => ?_⟩
  · have hjb' := bj b r hjb
    obtain ⟨ob, q1, q2⟩ := I.core b x r (cur b x r hb hjb) ha hjb'
    obtain ⟨rt, hrt⟩ : ∃ rt, σt.j b = some rt := by
      rcases Nat.lt_or_ge b (H' 0).next with h0 | h0
      · cases hq : σ0.j b with
        | none => rw [I.fnone b h0 hq] at hjb'; cases hjb'
        | some r0 => exact ⟨r0, Ft.le.j b r0 hq⟩
      · exact Ft.made b h0 (T.lt (Nat.le_of_lt hjn) hb)
    obtain ⟨ot, _, t2⟩ := Rt.blk b x rt hb ha hrt
    exact ⟨ob, q1, t2.cutTo Rt.jdom q2⟩
  · exact I.inj b b' x x' r (cur b x r hb h1) ha (cur b' x' r hb' h2) ha' (bj b r h1) (bj b' r h2)
  · obtain ⟨k1, k2, k3⟩ := I.ro T (Nat.le_of_lt hjn) hb (bj b r hjb)
    have le : σ0.le (σ.below (H' j).next) := by
      refine ⟨fun c s hc => ?_, fun c s hc => I.fle.rs c s hc, fun c s hc => I.fle.es c s hc⟩
      have hlt : c < (H' 0).next := by
        rcases Nat.lt_or_ge c (H' 0).next with q | q
        · exact q
        · rw [T.r0.jdom c q] at hc; cases hc
      have := T.next 0 j (Nat.zero_le _) (Nat.le_of_lt hjn)
      show (if c < (H' j).next then σ.j c else none) = some s
      rw [if_pos (by omega)]; exact I.fle.j c s hc
    refine ⟨k1.mono le, fun b' x hx ha hjb' => ?_⟩
    have hjb' := bj b' r hjb'
    rcases Nat.lt_or_ge b' (H' 0).next with q | q
    · obtain ⟨x0, q0⟩ := T.tot (Nat.zero_le _) q
      obtain ⟨x1, q1, q2⟩ := T.keep 0 j (Nat.zero_le _) (Nat.le_of_lt hjn) b' x0 q0
      rw [hx] at q1; cases q1
      have ha0 : x0.alive = true := by
        rcases q2 with rfl | q2
        · exact ha
        · exact q2.1
      have hj0 : σ0.j b' = some r := by
        cases hq : σ0.j b' with
        | none => rw [I.fnone b' q hq] at hjb'; cases hjb'
        | some r0 => rw [I.fle.j b' r0 hq] at hjb'; exact hjb'
      exact k3 b' x0 q0 ha0 hj0
    · rcases I.ffresh b' r q hjb' with q1 | ⟨b0, x0, q1, q2, q3, _⟩
      · omega
      · exact k3 b0 x0 q1 q2 q3

/-- an operation that writes -/
theorem Rdy.effect (Z : Rdy ds P call N ops S' H' V σ0 w0 D m σ w a j o) (hc : clsOf P o.op = 2) {σ1 : Sg} {w1 : World} {v' : Value} (hv : VR σ1 (V j) v') (R1 : Rel σ1 (H' (j + 1)) w1) (F : Fr (σ.below (H' j).next) (H' j) w σ1 (H' (j + 1)) w1) :
    ∃ σ', DI ds P N ops S' H' V σ0 w0 (fun k => D k ∨ k = j) (j + 1) σ' w1 (a.put o.dst v') := by
  have T := Z.T; have St := Z.St; have I := Z.I; have hj := Z.hj; have ho := Z.ho; have hr := Z.hr
  obtain ⟨hm, hno⟩ := Z.eff_lt hc
  obtain ⟨cur, Rj⟩ := Z.rel hc
  have hjn := getElem_lt ho
  have nn : (H' j).next ≤ (H' (j + 1)).next := F.next
  have mj : (H' m).next ≤ (H' j).next := T.next m j hm (Nat.le_of_lt hjn)
  have z0 : (H' 0).next ≤ (H' j).next := T.next 0 j (Nat.zero_le _) (Nat.le_of_lt hjn)
  let σ' : Sg := ⟨fun b => if b < (H' (j + 1)).next then σ1.j b else σ.j b, fun b => if b < (H' (j + 1)).next then σ1.rs b else σ.rs b, fun b => if b < (H' (j + 1)).next then σ1.es b else σ.es b⟩
  have lo : ∀ b r, b < (H' (j + 1)).next → σ'.j b = some r → σ1.j b = some r := fun b r h1 h2 => by simpa [σ', h1] using h2
  have hi : ∀ b r, (H' (j + 1)).next ≤ b → σ'.j b = some r → σ.j b = some r := fun b r h1 h2 => by simpa [σ', Nat.not_lt.2 h1] using h2
  have bel : ∀ b r, b < (H' j).next → σ.j b = some r → (σ.below (H' j).next).j b = some r := fun b r h1 h2 => by simp [Sg.below, h1, h2]
  have bel' : ∀ b r, (σ.below (H' j).next).j b = some r → σ.j b = some r := fun b r h => by
    unfold Sg.below at h; simp only at h; split at h
    · exact h
    · cases h
  -- what is told beyond belongs to later ones
  have later : ∀ b r, (H' j).next ≤ b → σ.j b = some r → ∃ k, D k ∧ j + 1 ≤ k ∧ AlP P ops S' H' k ∧ b = (H' k).next ∧ (H' (j + 1)).next ≤ b := by
    intro b r h1 h2
    rcases I.dom b r h2 with h | ⟨k, k1, k2, k3, k4⟩
    · omega
    · have hne : k ≠ j := fun e => hj (e ▸ k1)
      have hk : j + 1 ≤ k := by
        rcases Nat.lt_or_ge k j with h | h
        · have := AlP_next' k3; have := T.next (k + 1) j (by omega) (Nat.le_of_lt hjn); omega
        · omega
      exact ⟨k, k1, hk, k3, k4, by rw [k4]; exact T.next (j + 1) k hk (Nat.le_of_lt (AlP_lt k3))⟩
  have le : σ.le σ' := by
    have key : ∀ b r, σ.j b = some r → (b < (H' j).next ∧ σ1.j b = some r ∧ σ1.rs b = σ.rs b ∧ σ1.es b = σ.es b) ∨ (H' (j + 1)).next ≤ b := by
      intro b r h
      rcases Nat.lt_or_ge b (H' j).next with h1 | h1
      · have hb := bel b r h1 h
        exact .inl ⟨h1, F.le.j b r hb, F.le.rs b r hb, F.le.es b r hb⟩
      · obtain ⟨k, _, _, _, _, q⟩ := later b r h1 h; exact .inr q
    refine ⟨fun b r h => ?_, fun b r h => ?_, fun b r h => ?_⟩
    · rcases key b r h with ⟨h1, h2, _, _⟩ | h1
      · have : b < (H' (j + 1)).next := by omega
        simp [σ', this, h2]
      · simp [σ', Nat.not_lt.2 h1, h]
    · rcases key b r h with ⟨h1, _, h2, _⟩ | h1
      · have : b < (H' (j + 1)).next := by omega
        simp [σ', this, h2]
      · simp [σ', Nat.not_lt.2 h1]
    · rcases key b r h with ⟨h1, _, _, h2⟩ | h1
      · have : b < (H' (j + 1)).next := by omega
        simp [σ', this, h2]
      · simp [σ', Nat.not_lt.2 h1]
  have le1 : σ1.le σ' := by
    have key : ∀ b r, σ1.j b = some r → b < (H' (j + 1)).next := fun b r h => by
      rcases Nat.lt_or_ge b (H' (j + 1)).next with h1 | h1
      · exact h1
      · rw [R1.jdom b h1] at h; cases h
    exact ⟨fun b r h => by simp [σ', key b r h, h], fun b r h => by simp [σ', key b r h], fun b r h => by simp [σ', key b r h]⟩
  obtain ⟨s1, s2, s3, s4⟩ := Z.slots le (hv.mono le1)
  -- alive later and old: alive, and where it was
  have back : ∀ b x r, b < (H' j).next → (H' (j + 1)).get b = some x → x.alive = true → σ1.j b = some r → ∃ y, (H' j).get b = some y ∧ y.alive = true ∧ (σ.below (H' j).next).j b = some r := by
    intro b x r h1 h2 h3 h4
    obtain ⟨y, hy⟩ := Rj.tot b h1
    obtain ⟨y', k1, k2⟩ := F.keepA b y hy
    rw [h2] at k1; cases k1
    refine ⟨y, hy, ?_, ?_⟩
    · rcases k2 with rfl | ⟨k2, _⟩
      · exact h3
      · exact k2
    · cases hq : (σ.below (H' j).next).j b with
      | none => rw [F.none b h1 hq] at h4; cases h4
      | some r0 => rw [F.le.j b r0 hq] at h4; exact h4
  have dead : ∀ b0, (∃ x', (H' m).get b0 = some x' ∧ x'.alive = false) → ∃ x', (H' (j + 1)).get b0 = some x' ∧ x'.alive = false := by
    rintro b0 ⟨x', h1, h2⟩
    obtain ⟨y, k1, k2⟩ := T.keep m (j + 1) (by omega) hjn b0 x' h1
    refine ⟨y, k1, ?_⟩
    rcases k2 with rfl | ⟨k2, _⟩
    · exact h2
    · rw [h2] at k2; cases k2
  -- a block of a later one is seen as it was
  have ext : ∀ b x r, (H' (j + 1)).next ≤ b → Cur P ops S' H' (fun k => D k ∨ k = j) (j + 1) b x → x.alive = true → σ.j b = some r → Cur P ops S' H' D m b x := by
    rintro b x r h1 (⟨h2, _⟩ | ⟨k, hk, k2, k3, k4, k5⟩) _ _
    · omega
    · rcases hk with hk | rfl
      · exact .inr ⟨k, hk, by omega, k3, k4, k5⟩
      · omega
  have curlo : ∀ b x, b < (H' (j + 1)).next → Cur P ops S' H' (fun k => D k ∨ k = j) (j + 1) b x → (H' (j + 1)).get b = some x := by
    rintro b x h1 (⟨_, h2⟩ | ⟨k, hk, k2, k3, k4, k5⟩)
    · exact h2
    · have := T.next (j + 1) k k2 (Nat.le_of_lt (AlP_lt k3)); omega
  -- a block of a later one is nobody's whom the operation knows
  have apart : ∀ b x r, (H' (j + 1)).next ≤ b → Cur P ops S' H' D m b x → x.alive = true → σ.j b = some r → ∀ c y, (H' j).get c = some y → y.alive = true → (σ.below (H' j).next).j c ≠ some r := by
    intro b x r h1 h2 h3 h4 c y hy hya hcj
    have := I.inj c b y x r (cur c y r hy hcj) hya h2 h3 (bel' c r hcj) h4
    have := T.lt (Nat.le_of_lt hjn) hy
    omega
  refine ⟨σ', {
    size := s3, defers := s4, cl := Z.closed
    dn := fun k hk => by rcases hk with hk | rfl; exact I.dn k hk; exact hjn
    mn := hjn
    eff := fun e p hp he => by
      constructor
      · rintro (h | rfl)
        · have := (I.eff e p hp he).1 h; omega
        · omega
      · intro h
        by_cases e0 : e = j
        · exact .inr e0
        · left
          rcases Nat.lt_or_ge e m with h1 | h1
          · exact (I.eff e p hp he).2 h1
          · exact absurd he (hno e p h1 (by omega) hp)
    new := s1, old := s2
    core := fun b x r h1 h2 h3 => by
      rcases Nat.lt_or_ge b (H' (j + 1)).next with hb | hb
      · have h3 := lo b r hb h3
        obtain ⟨ob, k1, k2⟩ := R1.blk b x r (curlo b x hb h1) h2 h3
        exact ⟨ob, k1, k2.mono le1 h3⟩
      · have h3 := hi b r hb h3
        have hcu := ext b x r hb h1 h2 h3
        obtain ⟨ob, k1, k2⟩ := I.core b x r hcu h2 h3
        exact ⟨ob, by rw [F.keep r (getElem_lt k1) (apart b x r hb hcu h2 h3)]; exact k1, k2.mono le h3⟩
    inj := fun b b' x x' r h1 h2 h3 h4 h5 h6 => by
      have mixed : ∀ b b' x x', b < (H' (j + 1)).next → (H' (j + 1)).next ≤ b' → Cur P ops S' H' (fun k => D k ∨ k = j) (j + 1) b x → x.alive = true → Cur P ops S' H' (fun k => D k ∨ k = j) (j + 1) b' x' → x'.alive = true → σ'.j b = some r → σ'.j b' = some r → False := by
        intro b b' x x' hb hb' h1 h2 h3 h4 h5 h6
        have h5 := lo b r hb h5
        have h6 := hi b' r hb' h6
        have hcu := ext b' x' r hb' h3 h4 h6
        have ap := apart b' x' r hb' hcu h4 h6
        obtain ⟨ob, k1, _⟩ := I.core b' x' r hcu h4 h6
        have hrl := getElem_lt k1
        rcases Nat.lt_or_ge b (H' j).next with hlt | hge
        · obtain ⟨y, y1, y2, y3⟩ := back b x r hlt (curlo b x hb h1) h2 h5
          exact ap b y y1 y2 y3
        · rcases F.fresh b r hge h5 with q | ⟨b0, y, y1, y2, y3, _⟩
          · omega
          · exact ap b0 y y1 y2 y3
      rcases Nat.lt_or_ge b (H' (j + 1)).next with hb | hb <;> rcases Nat.lt_or_ge b' (H' (j + 1)).next with hb' | hb'
      · exact R1.inj b b' x x' r (curlo b x hb h1) h2 (curlo b' x' hb' h3) h4 (lo b r hb h5) (lo b' r hb' h6)
      · exact (mixed b b' x x' hb hb' h1 h2 h3 h4 h5 h6).elim
      · exact (mixed b' b x' x hb' hb h3 h4 h1 h2 h6 h5).elim
      · exact I.inj b b' x x' r (ext b x r hb h1 h2 (hi b r hb h5)) h2 (ext b' x' r hb' h3 h4 (hi b' r hb' h6)) h4 (hi b r hb h5) (hi b' r hb' h6)
    dom := fun b r h => by
      rcases Nat.lt_or_ge b (H' (j + 1)).next with hb | hb
      · exact .inl hb
      · obtain ⟨k, k1, k2, k3, k4, _⟩ := later b r (by omega) (hi b r hb h)
        exact .inr ⟨k, .inl k1, k2, k3, k4⟩
    un := fun k h1 h2 h3 => by
      have hk : ¬ D k := fun q => h3 (.inl q)
      have hne : k ≠ j := fun q => h3 (.inr q)
      have hkj : k < j := by omega
      have hkn : (H' k).next < (H' j).next := by have := AlP_next' h1; have := T.next (k + 1) j hkj (Nat.le_of_lt hjn); omega
      -- nobody had it
      have hs : σ.j (H' k).next = none := by
        rcases Nat.lt_or_ge k m with h | h
        · exact (I.un k h1 h hk).1
        · cases hq : σ.j (H' k).next with
          | none => rfl
          | some r =>
            rcases I.dom _ r hq with q | ⟨l, l1, l2, l3, l4⟩
            · have := T.next m k h (by omega); omega
            · have := AlP_inj T h1 l3 l4; subst this; exact absurd l1 hk
      have hg : (H' j).get (H' k).next = (H' (k + 1)).get (H' k).next := by
        rcases Nat.lt_or_ge k m with h | h
        · rw [← (I.un k h1 h hk).2]
          have hb : (H' k).next < (H' m).next := by have := AlP_next' h1; have := T.next (k + 1) m h I.mn; omega
          exact T.cont j m hm (Nat.le_of_lt hjn) hb fun e p q1 q2 q3 q4 => absurd q4 (hno e p q1 q2 q3)
        · have hb : (H' k).next < (H' (k + 1)).next := by have := AlP_next' h1; omega
          exact T.cont j (k + 1) hkj (Nat.le_of_lt hjn) hb fun e p q1 q2 q3 q4 => absurd q4 (hno e p (by omega) q2 q3)
      have hb0 : (σ.below (H' j).next).j (H' k).next = none := by simp [Sg.below, hs]
      refine ⟨?_, ?_⟩
      · have : (H' k).next < (H' (j + 1)).next := by omega
        simp [σ', this, F.none _ hkn hb0]
      · rw [F.stay _ hkn hb0, hg]
    madeA := fun b h1 h2 h3 => by
      rcases Nat.lt_or_ge b (H' j).next with hb | hb
      · have old : ∃ r, σ.j b = some r := by
          rcases Nat.lt_or_ge b (H' m).next with hbm | hbm
          · exact I.madeA b h1 hbm fun k q1 q2 q3 => h3 k q1 (by omega) fun q => q.elim q3 fun e => by omega
          · obtain ⟨k, k1, k2, k3, k4⟩ := T.find j m hm (Nat.le_of_lt hjn) (fun e p q1 q2 q3 => hno e p q1 q2 q3) hbm hb
            by_cases hk : D k
            · rw [k4]; exact I.madeB k hk k1 k3
            · exact absurd k4 (h3 k k3 (by omega) fun q => q.elim hk fun e => by omega)
        obtain ⟨r, hr⟩ := old
        exact ⟨r, le.j b r hr⟩
      · obtain ⟨r, hr⟩ := F.made b hb h2
        exact ⟨r, le1.j b r hr⟩
    madeB := fun k h1 h2 h3 => by
      obtain ⟨r, hr⟩ := I.madeB k (h1.resolve_right (by omega)) (by omega) h3
      exact ⟨r, le.j _ r hr⟩
    fle := I.fle.trans le, fos := F.os.trans I.fos, ftape := F.tape.trans I.ftape, fout := F.output.trans I.fout
    fsize := Nat.le_trans I.fsize F.size
    fkeep := fun r h1 h2 => by
      rw [F.keep r (Nat.lt_of_lt_of_le h1 I.fsize) ?_, I.fkeep r h1 h2]
      intro c y hy hya hcj
      have hσ := bel' c r hcj
      rcases Nat.lt_or_ge c (H' 0).next with h0 | h0
      · obtain ⟨y0, hy0⟩ := T.tot (Nat.zero_le _) h0
        obtain ⟨y1, k1, k2⟩ := T.keep 0 j (Nat.zero_le _) (Nat.le_of_lt hjn) c y0 hy0
        rw [hy] at k1; cases k1
        have ha0 : y0.alive = true := by
          rcases k2 with rfl | ⟨k2, _⟩
          · exact hya
          · exact k2
        refine h2 c y0 hy0 ha0 ?_
        cases hq : σ0.j c with
        | none => rw [I.fnone c h0 hq] at hσ; cases hσ
        | some r0 => rw [I.fle.j c r0 hq] at hσ; exact hσ
      · rcases I.ffresh c r h0 hσ with q | ⟨b0, x, q1, q2, q3, _⟩
        · omega
        · exact h2 b0 x q1 q2 q3
    fnone := fun b h1 h2 => by
      have h3 := I.fnone b h1 h2
      have : b < (H' (j + 1)).next := by omega
      have h4 : (σ.below (H' j).next).j b = none := by simp [Sg.below, h3]
      simp [σ', this, F.none b (by omega) h4]
    ffresh := fun b r h1 h2 => by
      rcases Nat.lt_or_ge b (H' (j + 1)).next with hb | hb
      · have h2 := lo b r hb h2
        have old : ∀ c, (H' 0).next ≤ c → σ.j c = some r → w0.heap.size ≤ r ∨ ∃ b0 x, (H' 0).get b0 = some x ∧ x.alive = true ∧ σ0.j b0 = some r ∧ ∃ x', (H' (j + 1)).get b0 = some x' ∧ x'.alive = false := by
          intro c hc hcr
          rcases I.ffresh c r hc hcr with q | ⟨b0, x, q1, q2, q3, q4⟩
          · exact .inl q
          · exact .inr ⟨b0, x, q1, q2, q3, dead b0 q4⟩
        rcases Nat.lt_or_ge b (H' j).next with hlt | hge
        · cases hq : (σ.below (H' j).next).j b with
          | none => rw [F.none b hlt hq] at h2; cases h2
          | some r0 =>
            rw [F.le.j b r0 hq] at h2; cases h2
            exact old b h1 (bel' b r hq)
        · rcases F.fresh b r hge h2 with q | ⟨b1, y, y1, y2, y3, y', y4, y5⟩
          · exact .inl (Nat.le_trans I.fsize q)
          · have hσ := bel' b1 r y3
            rcases Nat.lt_or_ge b1 (H' 0).next with h0 | h0
            · obtain ⟨y0, hy0⟩ := T.tot (Nat.zero_le _) h0
              obtain ⟨y6, k1, k2⟩ := T.keep 0 j (Nat.zero_le _) (Nat.le_of_lt hjn) b1 y0 hy0
              rw [y1] at k1; cases k1
              have ha0 : y0.alive = true := by
                rcases k2 with rfl | ⟨k2, _⟩
                · exact y2
                · exact k2
              refine .inr ⟨b1, y0, hy0, ha0, ?_, y', y4, y5⟩
              cases hq : σ0.j b1 with
              | none => rw [I.fnone b1 h0 hq] at hσ; cases hσ
              | some r0 => rw [I.fle.j b1 r0 hq] at hσ; exact hσ
            · exact old b1 h0 hσ
      · rcases I.ffresh b r h1 (hi b r hb h2) with q | ⟨b0, x, q1, q2, q3, q4⟩
        · exact .inl q
        · exact .inr ⟨b0, x, q1, q2, q3, dead b0 q4⟩ }⟩
end
end Go.Proofs.Ytnjeafdbifcfhaa.Den
