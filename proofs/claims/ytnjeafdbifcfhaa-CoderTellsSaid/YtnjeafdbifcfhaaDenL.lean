/- A small machine for closed runs: one operation, one region, all of the code. No condition. -/
import Derived.Test.YtnjeafdbifcfhaaDenK
import Derived.Tactics
namespace Go.Proofs.Ytnjeafdbifcfhaa.Den
open Go
set_option linter.unusedSimpArgs false
set_option linter.unusedVariables false

/-- what an operation comes to, on both sides -/
inductive Goes (P : Program) (call : CallF) (σ : Sg) (h : H) (w : World) (s : Sem Next) (v : Value) (h' : H) : Prop where
  | val {σ' : Sg} {w' : World} {v' : Value} (hs : s.run P w = .ok (.value v') w') (hv : VR σ' v v') (R : Rel σ' h' w') (F : Fr σ h w σ' h' w')
  | skip {w' : World} (hs : s.run P w = .ok .skip w') (hv : v = undef) (R : Rel σ h' w') (F : Fr σ h w σ h' w')
  | enter {k : FuncId} {args : List Value} {args' : List Value} (hs : s.run P w = .ok (.enter k args'.toArray) w) (hv : VRs σ args args') (hc : call k args h = some (v, h'))

theorem Does.goes {P : Program} {call : CallF} {σ : Sg} {h h' : H} {w : World} {s : Sem Value} {v : Value} (d : Does P σ h w s v h') {t : Sem Next} (ht : t = (do Pure.pure (Next.value (← s)) : Sem Next)) : Goes P call σ h w t v h' := by
  obtain ⟨σ', w', v', h1, h2, h3, h4⟩ := d
  exact .val (by rw [ht]; simp [h1]) h2 h3 h4

theorem pv_does {P : Program} {σ : Sg} {h : H} {w : World} (R : Rel σ h w) {s : Sem Value} {x : Option Value} {v : Value} {h' : H} (hp : pv h x = some (v, h')) (hx : ∀ u, x = some u → ∃ u', s.run P w = .ok u' w ∧ VR σ u u') : Does P σ h w s v h' := by
  cases x with
  | none => cases hp
  | some u => cases hp; obtain ⟨u', h1, h2⟩ := hx _ rfl; exact Does.pure R h1 h2
theorem nv_does {P : Program} {σ : Sg} {h : H} {w : World} (R : Rel σ h w) {s : Sem Value} {x : New} {v : Value} {h' : H} (hp : nv h x = some (v, h')) (hx : ∀ B g, x = some (B, g) → B.ver = h.clock ∧ Makes P σ w s B g) : Does P σ h w s v h' := by
  unfold nv at hp
  split at hp
  · rename_i B g; cases hp; obtain ⟨h1, h2⟩ := hx B g rfl; exact h2.does R h1
  · cases hp
theorem on1_some {f : Value → Option Value} {x : Option Value} {u : Value} (h : on1 f x = some u) : ∃ a, x = some a ∧ f a = some u := by
  cases x with
  | none => cases h
  | some a => exact ⟨a, rfl, h⟩
theorem on2_some {f : Value → Value → Option Value} {x y : Option Value} {u : Value} (h : on2 f x y = some u) : ∃ a b, x = some a ∧ y = some b ∧ f a b = some u := by
  cases x with
  | none => cases h
  | some a => cases y with
    | none => cases h
    | some b => exact ⟨a, b, rfl, rfl, h⟩

/-- the real block turns, and is still what the machine's is -/
theorem Rel.same {σ : Sg} {h : H} {w w' : World} (R : Rel σ h w) {b r : Nat} {x : Blk} {o' : Obj} (hx : h.get b = some x) (ha : x.alive = true) (hj : σ.j b = some r) (hr : w'.heap[r]? = some o') (hb : BlkR σ b x o')
    (hother : ∀ k, k ≠ r → w'.heap[k]? = w.heap[k]?) (hsz : w'.heap.size = w.heap.size) (h1 : w'.os = w.os) (h2 : w'.tape = w.tape) (h3 : w'.output = w.output) : Rel σ h w' ∧ Fr σ h w σ h w' := by
  have F : Fr σ h w σ h w' := by
    refine ⟨Sg.le.refl σ, h1, h2, h3, by omega, fun s hs hfree => ?_, fun _ _ k => k, fun c s hc hjs => ?_, Nat.le_refl _, Nat.le_refl _, fun c y hy => ⟨y, hy, .inl rfl⟩, fun _ _ _ => rfl, fun c h1 h2 => absurd h1 (Nat.not_le_of_lt h2), fun _ _ _ k => k⟩
    · exact hother s fun e => hfree b x hx ha (by rw [e]; exact hj)
    · rw [R.jdom c hc] at hjs; cases hjs
  refine ⟨⟨R.dom, R.tot, R.jdom, fun c y s hy hya hjs => ?_, R.inj, R.ver, ro_step R F⟩, F⟩
  by_cases e : c = b
  · subst e; rw [hx] at hy; cases hy; rw [hj] at hjs; cases hjs; exact ⟨o', hr, hb⟩
  · obtain ⟨o, k1, k2⟩ := R.blk c y s hy hya hjs
    have : s ≠ r := fun q => by subst q; exact e (R.inj c b y x s hy hya hx ha hjs hj)
    exact ⟨o, by rw [hother s this]; exact k1, k2⟩

theorem mark_run {P : Program} {σ : Sg} {h : H} {w : World} (R : Rel σ h w) {b r : Nat} {B : Row} (hB : h.rowAt b = some B) (hj : σ.j b = some r) (hes : B.es = 1) (o : Nat) :
    ∃ w', (markStringish ⟨r, o, none⟩).run P w = .ok () w' ∧ Rel σ h w' ∧ Fr σ h w σ h w' := by
  obtain ⟨c, fz, h1, h2, h3, h4, h5, h6⟩ := R.row hB hj
  have hr : r < w.heap.size := (Array.getElem?_eq_some_iff.1 h1).1
  let fz' : Nat × Nat := if fz.1 == fz.2 then (c.size, c.size + 1) else (min fz.1 c.size, max fz.2 (c.size + 1))
  have hfz : FzOk B.es c.size fz' := by
    show FzOk B.es c.size (if fz.1 == fz.2 then (c.size, c.size + 1) else (min fz.1 c.size, max fz.2 (c.size + 1)))
    by_cases h : fz.1 = fz.2
    · rw [if_pos (by simp [h])]; exact .inr ⟨hes, Nat.le_refl _⟩
    · rw [if_neg (by simp [h])]
      rcases h5 with rfl | ⟨_, h5⟩
      · exact absurd rfl h
      · exact .inr ⟨hes, by show c.size ≤ min fz.1 c.size; omega⟩
  let w' : World := w.freeze { block := r, off := c.size } 1
  have hw' : w'.heap[r]? = some (.cells c B.elem fz') := by
    show (w.freeze { block := r, off := c.size } 1).heap[r]? = _
    unfold World.freeze
    rw [if_neg (by decide)]
    simp only [Array.getElem?_modify, if_true, h1, Option.map_some]
    rfl
  have hoth : ∀ k, k ≠ r → w'.heap[k]? = w.heap[k]? := by
    intro k hk
    show (w.freeze { block := r, off := c.size } 1).heap[k]? = _
    unfold World.freeze
    rw [if_neg (by decide)]
    simp only [Array.getElem?_modify]
    rw [if_neg (fun q => hk q.symm)]
  have hsz : w'.heap.size = w.heap.size := by
    show (w.freeze { block := r, off := c.size } 1).heap.size = _
    unfold World.freeze
    rw [if_neg (by decide)]
    simp
  have hrest : w'.os = w.os ∧ w'.tape = w.tape ∧ w'.output = w.output := by
    show (w.freeze { block := r, off := c.size } 1).os = _ ∧ (w.freeze { block := r, off := c.size } 1).tape = _ ∧ (w.freeze { block := r, off := c.size } 1).output = _
    unfold World.freeze
    rw [if_neg (by decide)]
    exact ⟨rfl, rfl, rfl⟩
  obtain ⟨k1, k2⟩ := Rel.same R (H.rowAt_some hB) rfl hj hw' ⟨c, fz', rfl, h2, h3, h4, hfz, h6⟩ hoth hsz hrest.1 hrest.2.1 hrest.2.2
  refine ⟨w', ?_, k1, k2⟩
  have hs : w.shape? r = some (B.elem, c.size) := by simp [World.shape?, h1]
  simp only [markStringish, Sem.run_bind, run_shape, Result.andThen_ok, hs, run_freeze]
  rfl

theorem convO_run {P : Program} {σ : Sg} {h : H} {w : World} (R : Rel σ h w) {s d : TypeId} {x x' v : Value} {h' : H} (hx : VR σ x x') (hc : convO P s d h x = some (v, h')) : Does P σ h w (convert s d x') v h' := by
  unfold convO at hc
  split at hc
  · rename_i ds k h1 h2
    split at hc
    · rename_i k' n; cases hc; have := hx.int_inv; subst this
      exact Does.pure R (v' := .int k (wrapA k n)) (by simp [convert, run_underlying h1, run_underlying h2, Conv.intToInt, wrapA_eq]) (.int _ _)
    · cases hc
  · rename_i e h1 h2
    refine pv_does R hc fun u hu => ?_
    obtain ⟨k1, k2, k3⟩ := textA_run (P := P) R.core hu hx
    refine ⟨u, ?_, k3⟩
    unfold textA at hu
    rw [k1] at hu
    simp only at hu
    split at hu
    · cases hx; simp [convert, run_underlying h1, run_underlying h2, run_underlying k1]; simpa using k2
    · cases hx with
      | emp a c => simp [convert, run_underlying h1, run_underlying h2, run_underlying k1]; simpa using k2
    · cases hx with
      | slice _ _ _ _ => simp [convert, run_underlying h1, run_underlying h2, run_underlying k1]; simpa using k2
    · cases hu
  · rename_i h1 h2
    split at hc
    · cases hc; have := hx.string_inv; subst this
      exact Does.pure R (by simp [convert, run_underlying h1, run_underlying h2]) (.string _)
    · cases hc
  · rename_i e h1 h2
    split at hc
    · rename_i b
      have := hx.string_inv; subst this
      refine nv_does R hc fun B g hg => ?_
      obtain ⟨k1, k2, k3⟩ := bytesO_run (P := P) (σ := σ) (w := w) hg
      refine ⟨k2, ?_⟩
      have e1 : (convert s d (.string b)).run P w = (Conv.stringToBytes e b).run P w := by simp [convert, run_underlying h1, run_underlying h2, run_underlying k1]
      obtain ⟨o, v', w', rs, es, q1, q⟩ := k3
      exact ⟨o, v', w', rs, es, by rw [e1]; exact q1, q⟩
    · cases hc
  · rename_i e1 e h1 h2
    split at hc
    · rename_i b o len cap hsd hu
      split at hc
      · rename_i B hB
        obtain ⟨hes, hc⟩ := cond_some hc
        have hes := beq_eq hes
        cases hc
        have hsd : s = d := by simpa using hsd
        subst hsd
        cases hx with
        | slice _ _ hj hcap =>
          rename_i r cap'
          obtain ⟨w', k1, k2, k3⟩ := mark_run (P := P) R hB hj hes o
          refine ⟨σ, w', _, ?_, .slice o len hj hcap, k2, k3⟩
          have he : e1 = e := by rw [h1] at h2; cases h2; rfl
          subst he
          simp [convert, run_underlying h1, run_underlying hu, k1]
      · cases hc
    · cases hc
  · cases hc

theorem fold0_some {f : Value → Value → Option Value} {l : List Value} {u : Value} (h : fold0 f l = some u) : ∃ a m, l = a :: m ∧ foldA f a m = some u := by
  cases l with
  | nil => cases h
  | cons a m => exact ⟨a, m, rfl, h⟩
theorem max_run {P : Program} {w : World} {σ : Sg} : ∀ {l l' : List Value} {a a' u : Value}, foldA maxA a l = some u → VR σ a a' → VRs σ l l' → ∃ u', (l'.foldlM Builtin.max2 a').run P w = .ok u' w ∧ VR σ u u'
  | [], _, a, a', u, h, ha, hl => by cases hl; cases h; exact ⟨a', rfl, ha⟩
  | y :: l, _, a, a', u, h, ha, hl => by
    cases hl with
    | cons hy hl =>
      unfold foldA at h
      split at h
      · rename_i q hq
        unfold maxA at hq
        split at hq
        · rename_i k x k' y'
          cases hq
          have := ha.int_inv; subst this
          have := hy.int_inv; subst this
          have e : (bif decide (y' > x) then y' else x) = if y' > x then y' else x := by by_cases h : y' > x <;> simp [h]
          rw [e] at h
          obtain ⟨u', k1, k2⟩ := max_run (P := P) (w := w) h (.int _ _) hl
          exact ⟨u', by simp only [List.foldlM_cons, Sem.run_bind, Builtin.max2, Sem.run_pure, Result.andThen_ok]; exact k1, k2⟩
        · cases hq
      · cases h
theorem min_run {P : Program} {w : World} {σ : Sg} : ∀ {l l' : List Value} {a a' u : Value}, foldA minA a l = some u → VR σ a a' → VRs σ l l' → ∃ u', (l'.foldlM Builtin.min2 a').run P w = .ok u' w ∧ VR σ u u'
  | [], _, a, a', u, h, ha, hl => by cases hl; cases h; exact ⟨a', rfl, ha⟩
  | y :: l, _, a, a', u, h, ha, hl => by
    cases hl with
    | cons hy hl =>
      unfold foldA at h
      split at h
      · rename_i q hq
        unfold minA at hq
        split at hq
        · rename_i k x k' y'
          cases hq
          have := ha.int_inv; subst this
          have := hy.int_inv; subst this
          have e : (bif decide (y' < x) then y' else x) = if y' < x then y' else x := by by_cases h : y' < x <;> simp [h]
          rw [e] at h
          obtain ⟨u', k1, k2⟩ := min_run (P := P) (w := w) h (.int _ _) hl
          exact ⟨u', by simp only [List.foldlM_cons, Sem.run_bind, Builtin.min2, Sem.run_pure, Result.andThen_ok]; exact k1, k2⟩
        · cases hq
      · cases h

theorem builtA_run {P : Program} {σ : Sg} {h : H} {w : World} (R : Rel σ h w) {b : Builtin} {ts : Array TypeId} {ty : TypeId} {cs : Array Bool} {vs vs' : List Value} {v : Value} {h' : H} (hv : VRs σ vs vs') (hc : builtA P b ts vs h = some (v, h')) (call : CallF) :
    Goes P call σ h w (builtin b ts ty cs vs'.toArray) v h' := by
  unfold builtA at hc
  split at hc
  · rename_i t x ht
    cases hv with
    | cons hx hl =>
      cases hl
      rename_i x'
      split at hc
      · rename_i k e hu
        split at hc
        · cases hc; cases hx
          exact (Does.pure R (s := Builtin.len_ ts ty #[.map none]) (v' := .int .i64 0) (by simp [Builtin.len_, ht, run_underlying hu, goInt]) (.int _ _)).goes rfl
        · refine (pv_does R hc (s := Builtin.len_ ts ty #[x']) fun u hu2 => ?_).goes rfl
          obtain ⟨k1, k2⟩ := mapLenA_run (P := P) (ty := ty) R.core ht hu hu2 hx
          exact ⟨u, k1, k2⟩
      · refine (pv_does R hc (s := Builtin.len_ ts ty #[x']) fun u hu2 => ?_).goes rfl
        obtain ⟨k1, k2⟩ := lenA_run (P := P) (w := w) (ty := ty) ht hu2 hx
        exact ⟨u, k1, k2⟩
  · rename_i t x ht
    cases hv with
    | cons hx hl =>
      cases hl
      rename_i x'
      refine (pv_does R hc (s := Builtin.cap_ ts ty #[x']) fun u hu2 => ?_).goes rfl
      obtain ⟨k1, k2⟩ := capA_run (P := P) (w := w) (ty := ty) ht hu2 hx
      exact ⟨u, k1, k2⟩
  · refine (pv_does R hc (s := Builtin.max_ ts ty vs'.toArray) fun u hu2 => ?_).goes rfl
    obtain ⟨a, l, rfl, hu2⟩ := fold0_some hu2
    cases hv with
    | cons ha hl =>
      obtain ⟨u', k1, k2⟩ := max_run (P := P) (w := w) hu2 ha hl
      exact ⟨u', by simp only [Builtin.max_]; exact k1, k2⟩
  · refine (pv_does R hc (s := Builtin.min_ ts ty vs'.toArray) fun u hu2 => ?_).goes rfl
    obtain ⟨a, l, rfl, hu2⟩ := fold0_some hu2
    cases hv with
    | cons ha hl =>
      obtain ⟨u', k1, k2⟩ := min_run (P := P) (w := w) hu2 ha hl
      exact ⟨u', by simp only [Builtin.min_]; exact k1, k2⟩
  · rename_i t s x ht
    cases hv with
    | cons hs hl =>
      cases hl with
      | cons hx hl =>
        cases hl
        split at hc
        · rename_i t1 ht1
          split at hc
          · rename_i k hd
            exact (appendZ_run R ht ht1 hd hs hx hc).goes rfl
          · rename_i d hni hd
            exact (appendA_run R ht ht1 hd (fun k e => hni k e) hs hx hc).goes rfl
          · cases hc
        · cases hc
  · rename_i t d s ht
    cases hv with
    | cons hd hl =>
      cases hl with
      | cons hs hl =>
        cases hl
        exact (copyA_run R ht hc hd hs).goes rfl
  · cases hc


/-- no function of the program bears the name that the machine keeps for itself -/
def Named (P : Program) : Prop := ∀ (k : FuncId) (fn : Func), P.funcs[k]? = some fn → (fn.name == "runtime.NumGoroutine") = false
/-- what is called has a body -/
def Bodied (P : Program) (call : CallF) : Prop := ∀ k args h r, call k args h = some r → ∃ fn, P.funcs[k]? = some fn ∧ fn.body.isNone = false

theorem enterA_run {P : Program} {call : CallF} (hN : Named P) (hB : Bodied P call) {σ : Sg} {h : H} {w : World} {f : Option Value} {f' : Value} {vs vs' : List Value} {v : Value} {h' : H} (hf : ∀ u, f = some u → VR σ u f') (hv : VRs σ vs vs') (hc : enterA call f vs h = some (v, h')) :
    Goes P call σ h w (do let d ← Deferred.ofValue f' vs'.toArray; invoke d.target d.args) v h' := by
  unfold enterA at hc
  split at hc
  · rename_i k first captured
    have hf := hf _ rfl
    cases hf with
    | func _ ha hc1 va vc =>
      rename_i a' c'
      obtain ⟨fn, h1, h2⟩ := hB _ _ _ _ hc
      refine .enter (args' := a'.toList ++ vs' ++ c'.toList) ?_ ((VRs.of_arrays ha va).append hv |>.append (VRs.of_arrays hc1 vc)) hc
      have hn : ¬ fn.name = "runtime.NumGoroutine" := by simpa using hN k fn h1
      have h2 : ¬ fn.body = none := by intro e; rw [e] at h2; cases h2
      have e : a' ++ (vs'.toArray ++ c') = (a'.toList ++ (vs' ++ c'.toList)).toArray := by apply Array.ext'; simp
      simp [Deferred.ofValue, invoke, callFunc, h1, hn, h2, e]
  · cases hc

theorem callA_run {P : Program} {call : CallF} (hN : Named P) (hB : Bodied P call) {σ : Sg} {h : H} {w : World} (R : Rel σ h w) {ρ : Env} {ρ' : Operand → Value} (hρ : ER σ ρ ρ') {c : Call} {ty : TypeId} {v : Value} {h' : H} (hc : callA P call c ρ h = some (v, h')) :
    Goes P call σ h w (do let d ← resolve ρ' c ty; invoke d.target d.args) v h' := by
  unfold callA at hc
  split at hc
  · rename_i vs hvs
    have hv := envl_run hρ hvs
    have e : (c.args.toList.map ρ').toArray = c.args.map ρ' := by apply Array.ext'; simp
    split at hc
    · rename_i f hf
      have := enterA_run (w := w) hN hB (f' := ρ' f) (fun u hu => hρ _ _ hu) hv hc
      unfold resolve
      rw [hf]
      rw [e] at this
      simpa using this
    · rename_i b hb
      have this := fun cs => builtA_run (P := P) (w := w) R (ty := ty) (cs := cs) hv hc call
      unfold resolve
      rw [hb]
      rw [e] at this
      simp [invoke]
      exact this _
    · cases hc
  · cases hc

theorem aop_run {P : Program} {call : CallF} (hN : Named P) (hB : Bodied P call) {σ : Sg} {h : H} {w : World} (R : Rel σ h w) {ρ : Env} {ρ' : Operand → Value} (hρ : ER σ ρ ρ') {o : Oper} {v : Value} {h' : H} (ha : aop P call o.op ρ h = some (v, h')) :
    Goes P call σ h w (execOp ρ' o) v h' := by
  obtain ⟨dst, op, type, pos, after, guard⟩ := o
  unfold aop at ha
  cases op <;> simp only at ha
  case move x => exact (pv_does R ha (s := Pure.pure (ρ' x)) fun u hu => ⟨ρ' x, rfl, hρ _ _ hu⟩).goes rfl
  case assign x => exact (pv_does R ha (s := Pure.pure (ρ' x)) fun u hu => ⟨ρ' x, rfl, hρ _ _ hu⟩).goes rfl
  case pick c a b =>
    refine (pv_does R ha (s := do Pure.pure (if ← asBool (ρ' c) then ρ' a else ρ' b)) fun u hu => ?_).goes ?_
    · unfold pickO at hu
      split at hu
      · rename_i t ht
        have e := (hρ _ _ ht).bool_inv
        cases t
        · exact ⟨ρ' b, by simp [e, asBool], hρ _ _ hu⟩
        · exact ⟨ρ' a, by simp [e, asBool], hρ _ _ hu⟩
      · cases hu
    · simp [execOp]
  case build t ps =>
    refine (pv_does R ha (s := Instr.build t (ps.map fun (i, x) => (i, ρ' x))) fun u hu => ?_).goes rfl
    unfold buildO at hu
    split at hu
    · rename_i qs hq
      obtain ⟨v', k1, k2⟩ := buildA_run (w := w) hu (envs_run hρ hq)
      refine ⟨v', ?_, k2⟩
      rw [← k1]; congr 2
      apply Array.ext'; simp
    · cases hu
  case nilCheck x =>
    unfold pv at ha
    split at ha
    · rename_i u hu
      cases ha
      obtain ⟨a, h1, h2⟩ := on1_some hu
      obtain ⟨k1, k2⟩ := nilA_run (P := P) (w := w) h2 (hρ _ _ h1) ⟨dst, .nilCheck x, type, pos, after, guard⟩ x rfl rfl
      exact .val k1 k2 R (Fr.refl R rfl rfl rfl rfl)
    · cases ha
  case binOp op t x y yt =>
    refine (pv_does R ha (s := do eqGuard op t x y (ρ' x) (ρ' y); binOp op t (ρ' x) (ρ' y)) fun u hu => ?_).goes rfl
    unfold binO at hu
    split at hu
    · rename_i a b h1 h2
      obtain ⟨k1, k2⟩ := binB_run (w := w) hu (hρ _ _ h1) (hρ _ _ h2) x y
      exact ⟨u, k1, k2⟩
    · cases hu
  case unOp op t x =>
    refine (pv_does R ha (s := Op.unary op (ρ' x)) fun u hu => ?_).goes rfl
    obtain ⟨a, h1, h2⟩ := on1_some hu
    obtain ⟨k1, k2⟩ := unA_run (P := P) (w := w) h2 (hρ _ _ h1)
    exact ⟨u, k1, k2⟩
  case makeFunc fn first captured =>
    refine (pv_does R ha (s := Instr.makeFunc fn (first.map ρ') (captured.map ρ')) fun u hu => ?_).goes rfl
    exact ⟨_, rfl, funcO_run hρ hu⟩
  case slice t x lo hi mx =>
    refine (pv_does R ha (s := Instr.sliceAt t (ρ' x) (lo.map ρ') (hi.map ρ') (mx.map ρ')) fun u hu => ?_).goes rfl
    obtain ⟨a, h1, h2⟩ := on1_some hu
    exact sliceA_run hρ h2 (hρ _ _ h1)
  case fieldAddr s x f =>
    refine (pv_does R ha (s := Instr.fieldAt s (ρ' x) f) fun u hu => ?_).goes rfl
    obtain ⟨a, h1, h2⟩ := on1_some hu
    exact fieldAddrA_run h2 (hρ _ _ h1)
  case field s x f =>
    refine (pv_does R ha (s := Instr.field s (ρ' x) f) fun u hu => ?_).goes rfl
    obtain ⟨a, h1, h2⟩ := on1_some hu
    exact fieldA_run h2 (hρ _ _ h1)
  case indexAddr t x i =>
    refine (pv_does R ha (s := Instr.indexAt t (ρ' x) (ρ' i)) fun u hu => ?_).goes rfl
    obtain ⟨a, b, h1, h2, h3⟩ := on2_some hu
    exact indexAddrA_run h3 (hρ _ _ h1) (hρ _ _ h2)
  case index t x i =>
    refine (pv_does R ha (s := Instr.index t (ρ' x) (ρ' i)) fun u hu => ?_).goes rfl
    obtain ⟨a, b, h1, h2, h3⟩ := on2_some hu
    exact indexA_run h3 (hρ _ _ h1) (hρ _ _ h2)
  case extract x i =>
    refine (pv_does R ha (s := Instr.extract (ρ' x) i) fun u hu => ?_).goes rfl
    obtain ⟨a, h1, h2⟩ := on1_some hu
    exact extractA_run h2 (hρ _ _ h1)
  case load t x =>
    refine (pv_does R ha (s := Instr.loadAt t (ρ' x)) fun u hu => ?_).goes rfl
    obtain ⟨a, h1, h2⟩ := on1_some hu
    exact loadA_run R.core h2 (hρ _ _ h1)
  case lookup t x i ok =>
    refine (pv_does R ha (s := Instr.lookup t (ρ' x) (ρ' i) ok) fun u hu => ?_).goes rfl
    obtain ⟨a, b, h1, h2, h3⟩ := on2_some hu
    exact lookupA_run R.core h3 (hρ _ _ h1) (hρ _ _ h2)
  case convert s d x =>
    split at ha
    · rename_i a h1
      exact (convO_run R (hρ _ _ h1) ha).goes rfl
    · cases ha
  case alloc t => exact (nv_does R ha fun B g hg => allocA_run hg).goes rfl
  case box t x => exact (nv_does R ha fun B g hg => boxA_run (fun u hu => hρ _ _ hu) hg).goes rfl
  case buildSlice t n ps => exact (nv_does R ha fun B g hg => buildSliceA_run hρ hg).goes rfl
  case makeSlice t l c => exact (nv_does R ha fun B g hg => makeSliceA_run (fun u hu => hρ _ _ hu) (fun u hu => hρ _ _ hu) hg).goes rfl
  case makeMap t r =>
    cases r with
    | some r => cases ha
    | none => exact (nv_does R ha fun B g hg => by cases hg; exact ⟨rfl, makeMap_run⟩).goes rfl
  case range t x => exact (nv_does R ha fun B g hg => rangeA_run (fun u hu => hρ _ _ hu) hg).goes rfl
  case store t x y =>
    obtain ⟨rfl, w', k1, k2, k3⟩ := storeO_run (P := P) R (fun u hu => hρ x u hu) (fun u hu => hρ y u hu) ha
    exact .skip (by simp [execOp, k1]) rfl k2 k3
  case mapUpdate t m k x =>
    unfold mapPutO at ha
    split at ha
    · rename_i a b c h1 h2 h3
      unfold unit at ha
      split at ha
      · rename_i h2' hp
        cases ha
        obtain ⟨w', k1, k2, k3⟩ := mapPutA_run (P := P) R (hρ _ _ h1) (hρ _ _ h2) (hρ _ _ h3) hp
        exact .skip (by simp [execOp, k1]) rfl k2 k3
      · cases ha
    · cases ha
  case insert t m k x =>
    unfold mapPutO at ha
    split at ha
    · rename_i a b c h1 h2 h3
      unfold unit at ha
      split at ha
      · rename_i h2' hp
        cases ha
        obtain ⟨w', k1, k2, k3⟩ := mapPutA_run (P := P) R (hρ _ _ h1) (hρ _ _ h2) (hρ _ _ h3) hp
        exact .skip (by simp [execOp, k1]) rfl k2 k3
      · cases ha
    · cases ha
  case next it b =>
    cases b with
    | false => cases ha
    | true => exact (nextA_run R type (fun u hu => hρ _ _ hu) ha).goes rfl
  case call c =>
    have := callA_run (w := w) hN hB R hρ (ty := type) ha
    simpa [execOp] using this
  all_goals (cases ha)
end Go.Proofs.Ytnjeafdbifcfhaa.Den
