/- A small machine for closed runs: slicing, lengths, and what is left of the operations on values. No condition. -/
import Derived.Test.YtnjeafdbifcfhaaDenD
namespace Go.Proofs.Ytnjeafdbifcfhaa.Den
open Go
set_option linter.unusedSimpArgs false
set_option linter.unusedVariables false

theorem bnd_run {σ : Sg} {ρ : Env} {ρ' : Operand → Value} (hρ : ER σ ρ ρ') {x : Option Operand} {d n : Nat} (h : bndA ρ x d = some n) : (x = none ∧ n = d) ∨ ∃ (y : Operand) (k : IntKind), x = some y ∧ ρ' y = .int k n := by
  unfold bndA at h
  split at h
  · cases h; exact .inl ⟨rfl, rfl⟩
  · rename_i y
    split at h
    · rename_i k m hm; cases h; exact .inr ⟨y, k, rfl, (hρ _ _ hm).int_inv⟩
    · cases h

theorem bound_run {P : Program} {w : World} {k : IntKind} {n y : Nat} (c : BoundsCode) (h : n ≤ y) : (Instr.sliceBound (.int k n) y c).run P w = .ok n w := by
  have : (0 : Int) ≤ n ∧ (n : Int) ≤ y := ⟨by omega, by omega⟩
  simp [Instr.sliceBound, asIntOf, this, h]

theorem bounds2_run {P : Program} {w : World} {σ : Sg} {ρ : Env} {ρ' : Operand → Value} (hρ : ER σ ρ ρ') {lo hi : Option Operand} {l h len cap : Nat} (b : Bool)
    (hl : bndA ρ lo 0 = some l) (hh : bndA ρ hi len = some h) (h1 : l ≤ h) (h2 : h ≤ cap) : (Instr.sliceBounds b len cap (lo.map ρ') (hi.map ρ') none).run P w = .ok (l, h, cap) w := by
  rcases bnd_run hρ hl with ⟨rfl, rfl⟩ | ⟨y, k, rfl, hy⟩ <;> rcases bnd_run hρ hh with ⟨rfl, rfl⟩ | ⟨z, k', rfl, hz⟩ <;>
    simp [Instr.sliceBounds, *, bound_run]

theorem bounds3_run {P : Program} {w : World} {σ : Sg} {ρ : Env} {ρ' : Operand → Value} (hρ : ER σ ρ ρ') {lo : Option Operand} {hi m : Operand} {l h mm len cap d : Nat} (b : Bool)
    (hl : bndA ρ lo 0 = some l) (hh : bndA ρ (some hi) d = some h) (hm : bndA ρ (some m) 0 = some mm) (h1 : l ≤ h) (h2 : h ≤ mm) (h3 : mm ≤ cap) : (Instr.sliceBounds b len cap (lo.map ρ') (some (ρ' hi)) (some (ρ' m))).run P w = .ok (l, h, mm) w := by
  rcases bnd_run hρ hh with ⟨e, _⟩ | ⟨z, k', e, hz⟩
  · cases e
  cases e
  rcases bnd_run hρ hm with ⟨e, _⟩ | ⟨u, k2, e, hu⟩
  · cases e
  cases e
  rcases bnd_run hρ hl with ⟨rfl, rfl⟩ | ⟨y, k, rfl, hy⟩ <;>
    simp [Instr.sliceBounds, *, bound_run]

theorem zero3_run {P : Program} {w : World} {σ : Sg} {ρ : Env} {ρ' : Operand → Value} (hρ : ER σ ρ ρ') {lo hi mx : Option Operand} {v x : Value} (h : zero3 ρ lo hi mx v = some x) (b : Bool) (cap : Nat) :
    x = v ∧ ∃ m, (Instr.sliceBounds b 0 cap (lo.map ρ') (hi.map ρ') (mx.map ρ')).run P w = .ok (0, 0, m) w ∧ (m = 0 ∨ m = cap) := by
  unfold zero3 at h
  split at h
  · split at h
    · rename_i l hh hl hhi
      obtain ⟨hc, h⟩ := cond_some h
      cases h
      simp only [Bool.and_eq_true] at hc
      have c1 := beq_eq hc.1; have c2 := beq_eq hc.2
      subst c1; subst c2
      exact ⟨rfl, cap, bounds2_run hρ b hl hhi (Nat.le_refl _) (Nat.zero_le _), .inr rfl⟩
    · cases h
  · split at h
    · split at h
      · rename_i l hl hi _ _ h2 m2 hhi hm
        obtain ⟨hc, h⟩ := cond_some h
        cases h
        simp only [Bool.and_eq_true] at hc
        have c1 := beq_eq hc.1.1; have c2 := beq_eq hc.1.2; have c3 := beq_eq hc.2
        subst c1; subst c2; subst c3
        exact ⟨rfl, 0, bounds3_run hρ b ‹_› hhi hm (Nat.le_refl _) (Nat.le_refl _) (Nat.zero_le _), .inl rfl⟩
      · cases h
    · cases h

theorem slice2_run {σ : Sg} {b r o s len cap cap' l h : Nat} {v : Value} (hv : slice2 b o s len cap l h = some v) (hj : σ.j b = some r) (hc : CapR σ b o len cap cap') :
    l ≤ h ∧ h ≤ cap' ∧ VR σ v (.slice (if cap' = l then some ⟨r, o, none⟩ else some ⟨r, o + l * s, none⟩) (h - l) (cap' - l)) := by
  unfold slice2 at hv
  cases hu : isUnk cap with
  | true =>
    rw [hu] at hv
    obtain ⟨hq, hv⟩ := cond_some (c := Nat.beq cap (unkOf s) && Nat.ble l h && Nat.ble h len) hv
    simp only [Bool.and_eq_true] at hq
    obtain ⟨⟨q1, q2⟩, q3⟩ := hq
    have q1 := beq_eq q1; have q2 := ble_le q2; have q3 := ble_le q3
    have hu : unk ≤ cap := ble_le hu
    rcases hc with ⟨h1, _⟩ | ⟨h1, h2, h3⟩
    · omega
    have hs : s = σ.es b := by rw [h1] at q1; unfold unkOf at q1; omega
    refine ⟨q2, by omega, ?_⟩
    cases hl : Nat.beq l len with
    | true =>
      rw [hl] at hv; cases hv
      have hl := beq_eq hl
      have : h - l = 0 := by omega
      rw [this]
      split
      · exact .emp _ _
      · exact .emp _ _
    | false =>
      rw [hl] at hv; cases hv
      have hne : l ≠ len := fun e => by subst e; rw [Nat.beq_refl] at hl; cases hl
      rw [if_neg (by omega)]
      refine .slice _ _ hj (.inr ⟨h1, by omega, ?_⟩)
      have e3 : l * s + (cap' - l) * σ.es b = cap' * σ.es b := by rw [hs, ← Nat.add_mul]; congr 1; omega
      omega
  | false =>
    rw [hu] at hv
    obtain ⟨hq, hv⟩ := cond_some (c := Nat.ble l h && Nat.ble h cap) hv
    simp only [Bool.and_eq_true] at hq
    obtain ⟨q2, q3⟩ := hq
    have q2 := ble_le q2; have q3 := ble_le q3
    have hu : cap < unk := by
      rcases Nat.lt_or_ge cap unk with h | h
      · exact h
      · rw [isUnk, Nat.ble_eq_true_of_le h] at hu; cases hu
    rcases hc with ⟨_, rfl⟩ | ⟨h1, _⟩
    · cases hv
      refine ⟨q2, q3, ?_⟩
      have e : (cond (Nat.beq cap' l) o (o + l * s)) = if cap' = l then o else o + l * s := by rw [beq_dec]; by_cases h : cap' = l <;> simp [h]
      rw [e]
      split
      · exact .slice _ _ hj (.inl ⟨by omega, rfl⟩)
      · exact .slice _ _ hj (.inl ⟨by omega, rfl⟩)
    · unfold unkOf at h1; omega

theorem slice3_run {σ : Sg} {b r o s len cap cap' l h m : Nat} {v : Value} (hv : slice3 b o s len cap l h m = some v) (hj : σ.j b = some r) (hc : CapR σ b o len cap cap') :
    l ≤ h ∧ h ≤ m ∧ m ≤ cap' ∧ VR σ v (.slice (if m = l then some ⟨r, o, none⟩ else some ⟨r, o + l * s, none⟩) (h - l) (m - l)) := by
  unfold slice3 at hv
  obtain ⟨hq, hv⟩ := cond_some hv
  simp only [Bool.and_eq_true] at hq
  obtain ⟨⟨⟨q1, q2⟩, q3⟩, hm⟩ := hq
  have q1 := ble_le q1; have q2 := ble_le q2; have q3 := ble_le q3; have hm := blt_lt hm
  cases hv
  have e : (cond (Nat.beq m l) o (o + l * s)) = if m = l then o else o + l * s := by rw [beq_dec]; by_cases h : m = l <;> simp [h]
  rw [e]
  have hcap : m ≤ cap' := by
    rcases hc with ⟨h1, rfl⟩ | ⟨h1, h2, _⟩
    · cases hu : isUnk cap' with
      | true => have := ble_le hu; omega
      | false => rw [hu] at q3; exact q3
    · have : isUnk cap = true := by rw [isUnk, h1]; exact Nat.ble_eq_true_of_le (by unfold unkOf; omega)
      rw [this] at q3; exact Nat.le_trans q3 h2
  refine ⟨q1, q2, hcap, ?_⟩
  split
  · exact .slice _ _ hj (.inl ⟨by omega, rfl⟩)
  · exact .slice _ _ hj (.inl ⟨by omega, rfl⟩)

theorem sliceA_run {P : Program} {w : World} {σ : Sg} {ρ : Env} {ρ' : Operand → Value} (hρ : ER σ ρ ρ') {t : TypeId} {x x' v : Value} {lo hi mx : Option Operand} (h : sliceA P ρ t x lo hi mx = some v) (hx : VR σ x x') :
    ∃ v', (Instr.sliceAt t x' (lo.map ρ') (hi.map ρ') (mx.map ρ')).run P w = .ok v' w ∧ VR σ v v' := by
  unfold sliceA at h
  split at h
  · rename_i hu
    split at h
    · rename_i s
      have := hx.string_inv; subst this
      unfold sliceS at h
      split at h
      · rename_i l hh hl hhi
        obtain ⟨hq, h⟩ := cond_some h
        simp only [Bool.and_eq_true] at hq
        cases h
        refine ⟨_, ?_, .string _⟩
        have b2 := bounds2_run (P := P) (w := w) hρ (len := s.size) (cap := s.size) false hl hhi (ble_le hq.1) (ble_le hq.2)
        simp [Instr.sliceAt, run_underlying hu, Instr.slice, b2]
      · cases h
    · cases h
  · rename_i e hu
    unfold sliceV at h
    split at h
    · rename_i s hs
      split at h
      · obtain ⟨rfl, m, hb, hm⟩ := zero3_run (P := P) (w := w) hρ h true 0
        cases hx
        have hm : m = 0 := by rcases hm with h | h <;> exact h
        subst hm
        exact ⟨.slice none 0 0, by simp [Instr.sliceAt, run_underlying hu, Instr.slice, hb, sizeA_run hs], .nils⟩
      · rename_i b o len cap
        cases hx with
        | slice _ _ hj hc =>
          rename_i r cap'
          unfold sliceR at h
          split at h
          · split at h
            · rename_i l hh hl hhi
              obtain ⟨h1, h2, h3⟩ := slice2_run h hj hc
              refine ⟨_, ?_, h3⟩
              have b2 := bounds2_run (P := P) (w := w) hρ true hl hhi h1 h2
              simp [Instr.sliceAt, run_underlying hu, Instr.slice, b2, sizeA_run hs, addr_add]
            · cases h
          · split at h
            · split at h
              · rename_i l hl hi _ _ h2 m2 hhi hm
                obtain ⟨h1, h2, h3, h4⟩ := slice3_run h hj hc
                refine ⟨_, ?_, h4⟩
                have b3 := bounds3_run (P := P) (w := w) (len := len) hρ true ‹_› hhi hm h1 h2 h3
                simp [Instr.sliceAt, run_underlying hu, Instr.slice, b3, sizeA_run hs, addr_add]
              · cases h
            · cases h
      · cases hx with
        | emp a c =>
          obtain ⟨rfl, m, hb, hm⟩ := zero3_run (P := P) (w := w) hρ h true c
          refine ⟨.slice (some a) 0 m, ?_, .emp _ _⟩
          have ha : a.add 0 = a := rfl
          simp [Instr.sliceAt, run_underlying hu, Instr.slice, hb, sizeA_run hs, ha]
      · cases h
    · cases h
  · rename_i n e hu
    unfold sliceP at h
    split at h
    · rename_i b o s hs
      split at h
      · rename_i l hh hl hhi
        obtain ⟨hq, h⟩ := cond_some h
        simp only [Bool.and_eq_true] at hq
        obtain ⟨⟨q1, q2⟩, q3⟩ := hq
        have q1 := ble_le q1; have q2 := ble_le q2; have q3 := blt_lt q3
        cases h
        cases hx with
        | ptr _ hj =>
          rename_i r
          have b2 := bounds2_run (P := P) (w := w) hρ (len := n) (cap := n) false hl hhi q1 q2
          refine ⟨.slice (some (if n = l then ⟨r, o, none⟩ else ⟨r, o + l * (s + 1), none⟩)) (hh - l) (n - l), ?_, ?_⟩
          · simp [Instr.sliceAt, run_underlying hu, Instr.sureAddr, b2, sizeA_run hs, addr_add]
          · have e : (cond (Nat.beq n l) o (o + l * (s + 1))) = if n = l then o else o + l * (s + 1) := by rw [beq_dec]; by_cases h : n = l <;> simp [h]
            rw [e]
            split
            · exact .slice _ _ hj (.inl ⟨by omega, rfl⟩)
            · exact .slice _ _ hj (.inl ⟨by omega, rfl⟩)
      · cases h
    · cases h
  · cases h

theorem lenA_run {P : Program} {w : World} {σ : Sg} {t ty : TypeId} {x x' v : Value} {ts : Array TypeId} (ht : ts[0]? = some t) (h : lenA P t x = some v) (hx : VR σ x x') : (Builtin.len_ ts ty #[x']).run P w = .ok v w ∧ VR σ v v := by
  unfold lenA at h
  split at h
  · rename_i s hu; cases h; have := hx.string_inv; subst this; exact ⟨by simp [Builtin.len_, ht, run_underlying hu, goInt], .int _ _⟩
  · rename_i e a n c hu
    cases h
    refine ⟨?_, .int _ _⟩
    cases hx <;> simp [Builtin.len_, ht, run_underlying hu, goInt]
  · rename_i n e hu; cases h; exact ⟨by simp [Builtin.len_, ht, run_underlying hu, goInt], .int _ _⟩
  · rename_i k e hu; cases h; cases hx; exact ⟨by simp [Builtin.len_, ht, run_underlying hu, goInt], .int _ _⟩
  · rename_i a hu
    split at h
    · rename_i n e hu2; cases h; exact ⟨by simp [Builtin.len_, ht, run_underlying hu, run_underlying hu2, goInt], .int _ _⟩
    · cases h
  · cases h
theorem capA_run {P : Program} {w : World} {σ : Sg} {t ty : TypeId} {x x' v : Value} {ts : Array TypeId} (ht : ts[0]? = some t) (h : capA P t x = some v) (hx : VR σ x x') : (Builtin.cap_ ts ty #[x']).run P w = .ok v w ∧ VR σ v v := by
  unfold capA at h
  split at h
  · rename_i e n c hu
    obtain ⟨hc, h⟩ := cond_none h
    cases h
    cases hx
    exact ⟨by simp [Builtin.cap_, ht, run_underlying hu, goInt], .int _ _⟩
  · rename_i e b o n c hu
    obtain ⟨hc, h⟩ := cond_none h
    cases h
    refine ⟨?_, .int _ _⟩
    cases hx with
    | slice _ _ hj hcr =>
      rcases hcr with ⟨_, rfl⟩ | ⟨h1, _⟩
      · simp [Builtin.cap_, ht, run_underlying hu, goInt]
      · rw [isUnk, h1, Nat.ble_eq_true_of_le (by unfold unkOf; omega)] at hc; cases hc
  · cases h
theorem fold_run {P : Program} {w : World} {f : Value → Value → Option Value} {g : Value → Value → Sem Value} (hf : ∀ a b v, f a b = some v → (g a b).run P w = .ok v w) :
    ∀ {l : List Value} {a v : Value}, foldA f a l = some v → (l.foldlM g a).run P w = .ok v w
  | [], a, v, h => by cases h; rfl
  | x :: l, a, v, h => by
    unfold foldA at h
    split at h
    · rename_i u hu
      simp only [List.foldlM_cons, Sem.run_bind, hf _ _ _ hu, Result.andThen_ok]
      exact fold_run hf h
    · cases h
theorem nilA_run {P : Program} {w : World} {σ : Sg} {x x' v : Value} {ρ' : Operand → Value} (h : nilA x = some v) (hx : VR σ x x') (o : Oper) (ox : Operand) (ho : o.op = .nilCheck ox) (hr : ρ' ox = x') :
    (execOp ρ' o).run P w = .ok (.value x') w ∧ VR σ v x' := by
  unfold nilA at h
  split at h
  · cases h; cases hx with
    | ptr _ hj => exact ⟨by simp [execOp, ho, hr], .ptr _ hj⟩
  · cases h
    cases hx with
    | func f ha hc va vc => exact ⟨by simp [execOp, ho, hr], .func _ ha hc va vc⟩
  · cases h
theorem extractA_run {P : Program} {w : World} {σ : Sg} {x x' v : Value} {i : Nat} (h : extractA x i = some v) (hx : VR σ x x') : ∃ v', (Instr.extract x' i).run P w = .ok v' w ∧ VR σ v v' := by
  unfold extractA at h
  split at h
  · cases hx with
    | tuple ha va =>
      rename_i a a'
      obtain ⟨u, h1, h2⟩ := (VRs.of_arrays ha va).get i (v := v) (by simpa using h)
      have : a'[i]? = some u := by simpa using h1
      exact ⟨u, by simp [Instr.extract, this], h2⟩
  · cases h
theorem funcO_run {σ : Sg} {ρ : Env} {ρ' : Operand → Value} (hρ : ER σ ρ ρ') {fn : Fn} {first captured : Array Operand} {v : Value} (h : funcO ρ fn first captured = some v) : VR σ v (.func fn (first.map ρ') (captured.map ρ')) := by
  unfold funcO at h
  split at h
  · rename_i a c ha hc
    cases h
    have h1 := envl_run hρ ha
    have h2 := envl_run hρ hc
    refine .func fn (by simpa using h1.length) (by simpa using h2.length) (fun i u u' k1 k2 => ?_) (fun i u u' k1 k2 => ?_)
    · obtain ⟨z, z1, z2⟩ := h1.get i (v := u) (by simpa using k1)
      have : (first.toList.map ρ')[i]? = some u' := by rw [← Array.toList_map]; simpa using k2
      rw [this] at z1; cases z1; exact z2
    · obtain ⟨z, z1, z2⟩ := h2.get i (v := u) (by simpa using k1)
      have : (captured.toList.map ρ')[i]? = some u' := by rw [← Array.toList_map]; simpa using k2
      rw [this] at z1; cases z1; exact z2
  · cases h
end Go.Proofs.Ytnjeafdbifcfhaa.Den
