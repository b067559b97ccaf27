/- A small machine for closed runs: the kinds of operations, by what they need of memory. No condition. -/
import Derived.Test.YtnjeafdbifcfhaaDenM
namespace Go.Proofs.Ytnjeafdbifcfhaa.Den
open Go
set_option linter.unusedSimpArgs false
set_option linter.unusedVariables false

theorem envl_congr {ρ ρ2 : Env} : ∀ {l : List Operand}, (∀ x ∈ l, ρ x = ρ2 x) → envl ρ l = envl ρ2 l
  | [], _ => rfl
  | x :: l, h => by unfold envl; rw [h x (by simp), envl_congr fun y hy => h y (by simp [hy])]
theorem envs_congr {ρ ρ2 : Env} : ∀ {l : List (Nat × Operand)}, (∀ x ∈ l.map (·.2), ρ x = ρ2 x) → envs ρ l = envs ρ2 l
  | [], _ => rfl
  | (i, x) :: l, h => by unfold envs; rw [h x (by simp), envs_congr fun y hy => h y (by simp only [List.map_cons, List.mem_cons]; exact .inr hy)]
theorem bndA_congr {ρ ρ2 : Env} {x : Option Operand} (h : ∀ y ∈ x.toArray, ρ y = ρ2 y) (d : Nat) : bndA ρ x d = bndA ρ2 x d := by
  cases x with
  | none => rfl
  | some y =>
    have e : ρ y = ρ2 y := h y (by simp)
    simp only [bndA, e]
theorem sliceA_congr {P : Program} {ρ ρ2 : Env} {lo hi mx : Option Operand} (h1 : ∀ y ∈ lo.toArray, ρ y = ρ2 y) (h2 : ∀ y ∈ hi.toArray, ρ y = ρ2 y) (h3 : ∀ y ∈ mx.toArray, ρ y = ρ2 y) (t : TypeId) (x : Value) : sliceA P ρ t x lo hi mx = sliceA P ρ2 t x lo hi mx := by
  have b1 := fun d => bndA_congr h1 d
  have b2 := fun d => bndA_congr h2 d
  have b3 := fun d => bndA_congr h3 d
  have z : ∀ v, zero3 ρ lo hi mx v = zero3 ρ2 lo hi mx v := fun v => by
    unfold zero3
    cases mx with
    | none => simp only [b1, b2]
    | some m =>
      simp only [b1]
      cases hi with
      | none => cases bndA ρ2 lo 0 <;> rfl
      | some h => cases bndA ρ2 lo 0 <;> simp only [b2, b3]
  have r : ∀ b o s len cap, sliceR ρ b o s len cap lo hi mx = sliceR ρ2 b o s len cap lo hi mx := fun b o s len cap => by
    unfold sliceR
    cases mx with
    | none => simp only [b1, b2]
    | some m =>
      simp only [b1]
      cases hi with
      | none => cases bndA ρ2 lo 0 <;> rfl
      | some h => cases bndA ρ2 lo 0 <;> simp only [b2, b3]
  unfold sliceA sliceS sliceV sliceP
  simp only [b1, b2, z, r]
theorem aop_congr {P : Program} {call : CallF} {ρ ρ2 : Env} {h : H} (op : Op) (hρ : ∀ x ∈ op.operands, ρ x = ρ2 x) : aop P call op ρ h = aop P call op ρ2 h := by
  cases op <;> simp only [Op.operands] at hρ <;> simp only [aop]
  case pick c a b => unfold pickO; rw [hρ c (by simp), hρ a (by simp), hρ b (by simp)]
  case build t ps => unfold buildO; rw [envs_congr fun x hx => hρ x (by simpa using hx)]
  case buildSlice t n ps => unfold buildSliceA; rw [envs_congr fun x hx => hρ x (by simpa using hx)]
  case binOp op t x y yt => unfold binO; rw [hρ x (by simp), hρ y (by simp)]
  case makeFunc fn first captured => unfold funcO; rw [envl_congr (l := first.toList) fun x hx => hρ x (by simp at hx; simp [hx]), envl_congr (l := captured.toList) fun x hx => hρ x (by simp at hx; simp [hx])]
  case slice t x lo hi mx =>
    have e := fun v => sliceA_congr (P := P) (ρ := ρ) (ρ2 := ρ2) (lo := lo) (hi := hi) (mx := mx) (fun y hy => hρ y (by simp only [Array.mem_append]; exact .inl (.inl (.inr hy)))) (fun y hy => hρ y (by simp only [Array.mem_append]; exact .inl (.inr hy))) (fun y hy => hρ y (by simp only [Array.mem_append]; exact .inr hy)) t v
    rw [hρ x (by simp)]
    simp only [e]
  case call c =>
    unfold callA
    have e : envl ρ c.args.toList = envl ρ2 c.args.toList := envl_congr fun x hx => hρ x (by simp [Call.operands]; right; simpa using hx)
    rw [e]
    split
    · split
      · rename_i f hf
        have : ρ f = ρ2 f := hρ f (by simp [Call.operands, hf])
        rw [this]
      · rfl
      · rfl
    · rfl
  all_goals first
    | rfl
    | (simp_all; done)
    | (cases ‹Option Operand› <;> simp_all; done)
    | (cases ‹Bool› <;> simp_all; done)

/-- a value alone -/
def Val (P : Program) (σ : Sg) (w : World) (s : Sem Value) (v : Value) : Prop := ∃ v', s.run P w = .ok v' w ∧ VR σ v v'
theorem Val.next {P : Program} {σ : Sg} {w : World} {s : Sem Value} {v : Value} (h : Val P σ w s v) {t : Sem Next} (ht : t = (do Pure.pure (Next.value (← s)) : Sem Next)) : ∃ v', t.run P w = .ok (.value v') w ∧ VR σ v v' := by
  obtain ⟨v', k1, k2⟩ := h; exact ⟨v', by rw [ht]; simp [k1], k2⟩
theorem pv_some {h h' : H} {x : Option Value} {v : Value} (e : pv h x = some (v, h')) : x = some v ∧ h' = h := by
  cases x with
  | none => cases e
  | some u => cases e; exact ⟨rfl, rfl⟩

/-- an operation that reads at most one block, and makes nothing -/
theorem aop_cls0 {P : Program} {call : CallF} {ρ : Env} {h h' : H} {o : Oper} {v : Value} (hc : clsOf P o.op = 0) (ha : aop P call o.op ρ h = some (v, h')) :
    h' = h ∧ ∀ (h1 : H) (w : World) (σ : Sg) (ρ' : Operand → Value), (∀ b, rblk o.op ρ = some b → h1.get b = h.get b) → Core σ h1 w → ER σ ρ ρ' → ∃ v', (execOp ρ' o).run P w = .ok (.value v') w ∧ VR σ v v' := by
  obtain ⟨dst, op, type, pos, after, guard⟩ := o
  unfold aop at ha
  have row : ∀ {h h1 : H} {b : Nat}, h1.get b = h.get b → h1.rowAt b = h.rowAt b := fun {h h1 b} e => by unfold H.rowAt; rw [e]
  cases op <;> simp only [clsOf] at hc <;> simp only at ha
  case move x => obtain ⟨h1, rfl⟩ := pv_some ha; exact ⟨rfl, fun _ w σ ρ' _ _ hρ => Val.next (s := Pure.pure (ρ' x)) ⟨ρ' x, rfl, hρ _ _ h1⟩ rfl⟩
  case assign x => obtain ⟨h1, rfl⟩ := pv_some ha; exact ⟨rfl, fun _ w σ ρ' _ _ hρ => Val.next (s := Pure.pure (ρ' x)) ⟨ρ' x, rfl, hρ _ _ h1⟩ rfl⟩
  case pick c a b =>
    obtain ⟨hu, rfl⟩ := pv_some ha
    refine ⟨rfl, fun _ w σ ρ' _ _ hρ => Val.next (s := do Pure.pure (if ← asBool (ρ' c) then ρ' a else ρ' b)) ?_ (by simp [execOp])⟩
    unfold pickO at hu
    split at hu
    · rename_i t ht
      have e := (hρ _ _ ht).bool_inv
      cases t
      · exact ⟨ρ' b, by simp [e, asBool], hρ _ _ hu⟩
      · exact ⟨ρ' a, by simp [e, asBool], hρ _ _ hu⟩
    · cases hu
  case build t ps =>
    obtain ⟨hu, rfl⟩ := pv_some ha
    refine ⟨rfl, fun _ w σ ρ' _ _ hρ => Val.next (s := Instr.build t (ps.map fun (i, x) => (i, ρ' x))) ?_ rfl⟩
    unfold buildO at hu
    split at hu
    · rename_i qs hq
      obtain ⟨v', k1, k2⟩ := buildA_run (w := w) hu (envs_run hρ hq)
      refine ⟨v', ?_, k2⟩
      rw [← k1]; congr 2
      apply Array.ext'; simp
    · cases hu
  case nilCheck x =>
    obtain ⟨hu, rfl⟩ := pv_some ha
    refine ⟨rfl, fun _ w σ ρ' _ _ hρ => ?_⟩
    obtain ⟨a, h1, h2⟩ := on1_some hu
    obtain ⟨k1, k2⟩ := nilA_run (P := P) (w := w) h2 (hρ _ _ h1) ⟨dst, .nilCheck x, type, pos, after, guard⟩ x rfl rfl
    exact ⟨_, k1, k2⟩
  case binOp op t x y yt =>
    obtain ⟨hu, rfl⟩ := pv_some ha
    refine ⟨rfl, fun _ w σ ρ' _ _ hρ => Val.next (s := do eqGuard op t x y (ρ' x) (ρ' y); binOp op t (ρ' x) (ρ' y)) ?_ rfl⟩
    unfold binO at hu
    split at hu
    · rename_i a b h1 h2
      obtain ⟨k1, k2⟩ := binB_run (w := w) hu (hρ _ _ h1) (hρ _ _ h2) x y
      exact ⟨v, k1, k2⟩
    · cases hu
  case unOp op t x =>
    obtain ⟨hu, rfl⟩ := pv_some ha
    refine ⟨rfl, fun _ w σ ρ' _ _ hρ => Val.next (s := Op.unary op (ρ' x)) ?_ rfl⟩
    obtain ⟨a, h1, h2⟩ := on1_some hu
    obtain ⟨k1, k2⟩ := unA_run (P := P) (w := w) h2 (hρ _ _ h1)
    exact ⟨v, k1, k2⟩
  case makeFunc fn first captured =>
    obtain ⟨hu, rfl⟩ := pv_some ha
    exact ⟨rfl, fun _ w σ ρ' _ _ hρ => Val.next (s := Instr.makeFunc fn (first.map ρ') (captured.map ρ')) ⟨_, rfl, funcO_run hρ hu⟩ rfl⟩
  case slice t x lo hi mx =>
    obtain ⟨hu, rfl⟩ := pv_some ha
    refine ⟨rfl, fun _ w σ ρ' _ _ hρ => Val.next (s := Instr.sliceAt t (ρ' x) (lo.map ρ') (hi.map ρ') (mx.map ρ')) ?_ rfl⟩
    obtain ⟨a, h1, h2⟩ := on1_some hu
    exact sliceA_run hρ h2 (hρ _ _ h1)
  case fieldAddr s x f =>
    obtain ⟨hu, rfl⟩ := pv_some ha
    refine ⟨rfl, fun _ w σ ρ' _ _ hρ => Val.next (s := Instr.fieldAt s (ρ' x) f) ?_ rfl⟩
    obtain ⟨a, h1, h2⟩ := on1_some hu
    exact fieldAddrA_run h2 (hρ _ _ h1)
  case field s x f =>
    obtain ⟨hu, rfl⟩ := pv_some ha
    refine ⟨rfl, fun _ w σ ρ' _ _ hρ => Val.next (s := Instr.field s (ρ' x) f) ?_ rfl⟩
    obtain ⟨a, h1, h2⟩ := on1_some hu
    exact fieldA_run h2 (hρ _ _ h1)
  case indexAddr t x i =>
    obtain ⟨hu, rfl⟩ := pv_some ha
    refine ⟨rfl, fun _ w σ ρ' _ _ hρ => Val.next (s := Instr.indexAt t (ρ' x) (ρ' i)) ?_ rfl⟩
    obtain ⟨a, b, h1, h2, h3⟩ := on2_some hu
    exact indexAddrA_run h3 (hρ _ _ h1) (hρ _ _ h2)
  case index t x i =>
    obtain ⟨hu, rfl⟩ := pv_some ha
    refine ⟨rfl, fun _ w σ ρ' _ _ hρ => Val.next (s := Instr.index t (ρ' x) (ρ' i)) ?_ rfl⟩
    obtain ⟨a, b, h1, h2, h3⟩ := on2_some hu
    exact indexA_run h3 (hρ _ _ h1) (hρ _ _ h2)
  case extract x i =>
    obtain ⟨hu, rfl⟩ := pv_some ha
    refine ⟨rfl, fun _ w σ ρ' _ _ hρ => Val.next (s := Instr.extract (ρ' x) i) ?_ rfl⟩
    obtain ⟨a, h1, h2⟩ := on1_some hu
    exact extractA_run h2 (hρ _ _ h1)
  case load t x =>
    obtain ⟨hu, rfl⟩ := pv_some ha
    refine ⟨rfl, fun h1 w σ ρ' hb C hρ => Val.next (s := Instr.loadAt t (ρ' x)) ?_ rfl⟩
    obtain ⟨a, k1, k2⟩ := on1_some hu
    refine loadA_run C ?_ (hρ _ _ k1)
    unfold loadA at k2 ⊢
    split at k2
    · rename_i b ob
      simp only [H.gets, H.cell, hb b (by simp [rblk, k1, blkOf])] at k2 ⊢; exact k2
    · cases k2
  case lookup t x i ok =>
    obtain ⟨hu, rfl⟩ := pv_some ha
    refine ⟨rfl, fun h1 w σ ρ' hb C hρ => Val.next (s := Instr.lookup t (ρ' x) (ρ' i) ok) ?_ rfl⟩
    obtain ⟨a, b, k1, k2, k3⟩ := on2_some hu
    refine lookupA_run C ?_ (hρ _ _ k1) (hρ _ _ k2)
    unfold lookupA at k3 ⊢
    split at k3
    · obtain ⟨q1, q2⟩ := cond_some k3
      rw [q1]
      split at q2
      · exact q2
      · rename_i bb
        rw [hb bb (by simp [rblk, k1, blkOf])]; exact q2
      · cases q2
    · cases k3
  case convert s d x =>
    split at ha
    · rename_i a h1
      unfold convO at ha
      split at ha
      · rename_i ds k u1 u2
        split at ha
        · rename_i k' n
          cases ha
          refine ⟨rfl, fun _ w σ ρ' _ _ hρ => Val.next (s := convert s d (ρ' x)) ?_ rfl⟩
          have := (hρ _ _ h1).int_inv
          rw [this]
          exact ⟨.int k (wrapA k n), by simp [convert, run_underlying u1, run_underlying u2, Conv.intToInt, wrapA_eq], .int _ _⟩
        · cases ha
      · rename_i e u1 u2
        obtain ⟨hu, rfl⟩ := pv_some ha
        refine ⟨rfl, fun hh w σ ρ' hb C hρ => Val.next (s := convert s d (ρ' x)) ?_ rfl⟩
        have hx := hρ _ _ h1
        have hu' : textA P e hh a = some v := by
          unfold textA at hu ⊢
          split at hu
          · split at hu
            · exact hu
            · exact hu
            · rename_i b ob len cap
              simp only [H.gets, hb b (by simp [rblk, h1, blkOf])] at hu ⊢; exact hu
            · cases hu
          · cases hu
        generalize ρ' x = x' at hx
        obtain ⟨k1, k2, k3⟩ := textA_run (P := P) C hu' hx
        refine ⟨v, ?_, k3⟩
        unfold textA at hu'
        rw [k1] at hu'
        simp only at hu'
        split at hu'
        · cases hx; simp [convert, run_underlying u1, run_underlying u2, run_underlying k1]; simpa using k2
        · cases hx with
          | emp a c => simp [convert, run_underlying u1, run_underlying u2, run_underlying k1]; simpa using k2
        · cases hx with
          | slice _ _ _ _ => simp [convert, run_underlying u1, run_underlying u2, run_underlying k1]; simpa using k2
        · cases hu'
      · rename_i u1 u2
        split at ha
        · cases ha
          refine ⟨rfl, fun _ w σ ρ' _ _ hρ => Val.next (s := convert s d (ρ' x)) ?_ rfl⟩
          have := (hρ _ _ h1).string_inv
          rw [this]
          exact ⟨_, by simp [convert, run_underlying u1, run_underlying u2], .string _⟩
        · cases ha
      · rename_i e u1 u2; rw [u1, u2] at hc; cases hc
      · rename_i e1 e u1 u2; rw [u1, u2] at hc; cases hc
      · cases ha
    · cases ha
  case call c =>
    obtain ⟨callee, args, ts⟩ := c
    cases callee with
    | value f => cases hc
    | invoke r m => cases hc
    | builtin b =>
      unfold callA at ha
      split at ha
      · rename_i vs hvs
        have hvs : envl ρ args.toList = some vs := hvs
        have ha2 : builtA P b ts vs h = some (v, h') := ha
        clear ha
        have ha := ha2
        clear ha2
        unfold builtA at ha
        have run1 : ∀ {ρ' : Operand → Value} {w : World} {σ : Sg} {s : Sem Value} {v : Value}, Val P σ w s v → (∀ cs, builtin b ts type cs (args.map ρ') = (do Pure.pure (Next.value (← s)) : Sem Next)) → ∃ v', (execOp ρ' ⟨dst, .call ⟨.builtin b, args, ts⟩, type, pos, after, guard⟩).run P w = .ok (.value v') w ∧ VR σ v v' := by
          intro ρ' w σ s v hv he
          refine hv.next ?_
          simp only [execOp, resolve, pure_bind, invoke]
          exact he _
        have arr : ∀ {ρ' : Operand → Value}, (args.toList.map ρ').toArray = args.map ρ' := fun {ρ'} => by apply Array.ext'; simp
        split at ha
        · rename_i t x ht hvs
          have one1 : ∀ {σ : Sg} {ρ' : Operand → Value}, ER σ ρ ρ' → ∃ x', args.map ρ' = #[x'] ∧ VR σ x x' := by
            intro σ ρ' hρ
            have := envl_run hρ hvs
            cases hm : args.toList.map ρ' with
            | nil => rw [hm] at this; cases this
            | cons y l =>
              rw [hm] at this
              cases this with
              | cons hx hl => cases hl; exact ⟨y, by rw [← arr, hm], hx⟩
          split at ha
          · rename_i k e hu
            split at ha
            · cases ha
              refine ⟨rfl, fun _ w σ ρ' _ _ hρ => ?_⟩
              obtain ⟨x', e1, e2⟩ := one1 hρ
              cases e2
              refine run1 (s := Builtin.len_ ts type #[.map none]) ⟨.int .i64 0, by simp [Builtin.len_, ht, run_underlying hu, goInt], .int _ _⟩ fun cs => by rw [e1]; rfl
            · obtain ⟨hu2, rfl⟩ := pv_some ha
              refine ⟨rfl, fun h1 w σ ρ' hb C hρ => ?_⟩
              obtain ⟨x', e1, e2⟩ := one1 hρ
              have hl : mapLenA h1 x = some v := by
                unfold mapLenA at hu2 ⊢
                split at hu2
                · rename_i bb hvs _
                  have : rblk (.call ⟨.builtin .len, args, ts⟩) ρ = some bb := by
                    show (match args.toList with | [x] => blkOf (ρ x) | _ => none) = some bb
                    generalize args.toList = al at hvs
                    cases al with
                    | nil => cases hvs
                    | cons y l =>
                      unfold envl at hvs
                      split at hvs
                      · rename_i v0 vs0 q1 q2
                        cases hvs
                        cases l with
                        | nil => simp [q1, blkOf]
                        | cons z l =>
                          unfold envl at q2
                          split at q2
                          · cases q2
                          · cases q2
                      · cases hvs
                  rw [hb bb this]; exact hu2
                · cases hu2
              obtain ⟨k1, k2⟩ := mapLenA_run (P := P) (ty := type) C ht hu hl e2
              exact run1 (s := Builtin.len_ ts type #[x']) ⟨v, k1, k2⟩ fun cs => by rw [e1]; rfl
          · obtain ⟨hu2, rfl⟩ := pv_some ha
            refine ⟨rfl, fun h1 w σ ρ' hb C hρ => ?_⟩
            obtain ⟨x', e1, e2⟩ := one1 hρ
            obtain ⟨k1, k2⟩ := lenA_run (P := P) (w := w) (ty := type) ht hu2 e2
            exact run1 (s := Builtin.len_ ts type #[x']) ⟨v, k1, k2⟩ fun cs => by rw [e1]; rfl
        · rename_i t x ht hvs
          obtain ⟨hu2, rfl⟩ := pv_some ha
          refine ⟨rfl, fun h1 w σ ρ' hb C hρ => ?_⟩
          have := envl_run hρ hvs
          cases hm : args.toList.map ρ' with
          | nil => rw [hm] at this; cases this
          | cons y l =>
            rw [hm] at this
            cases this with
            | cons hx hl =>
              cases hl
              obtain ⟨k1, k2⟩ := capA_run (P := P) (w := w) (ty := type) ht hu2 hx
              exact run1 (s := Builtin.cap_ ts type #[y]) ⟨v, k1, k2⟩ fun cs => by rw [← arr, hm]; rfl
        · obtain ⟨hu2, rfl⟩ := pv_some ha
          refine ⟨rfl, fun h1 w σ ρ' hb C hρ => ?_⟩
          have hv := envl_run hρ hvs
          obtain ⟨a, l, rfl, hu2⟩ := fold0_some hu2
          cases hm : args.toList.map ρ' with
          | nil => rw [hm] at hv; cases hv
          | cons y l' =>
            rw [hm] at hv
            cases hv with
            | cons hx hl =>
              obtain ⟨u', k1, k2⟩ := max_run (P := P) (w := w) hu2 hx hl
              exact run1 (s := Builtin.max_ ts type (y :: l').toArray) ⟨u', by simp only [Builtin.max_]; exact k1, k2⟩ fun cs => by rw [← arr, hm]; rfl
        · obtain ⟨hu2, rfl⟩ := pv_some ha
          refine ⟨rfl, fun h1 w σ ρ' hb C hρ => ?_⟩
          have hv := envl_run hρ hvs
          obtain ⟨a, l, rfl, hu2⟩ := fold0_some hu2
          cases hm : args.toList.map ρ' with
          | nil => rw [hm] at hv; cases hv
          | cons y l' =>
            rw [hm] at hv
            cases hv with
            | cons hx hl =>
              obtain ⟨u', k1, k2⟩ := min_run (P := P) (w := w) hu2 hx hl
              exact run1 (s := Builtin.min_ ts type (y :: l').toArray) ⟨u', by simp only [Builtin.min_]; exact k1, k2⟩ fun cs => by rw [← arr, hm]; rfl
        · cases hc
        · cases hc
        · cases ha
      · cases ha
  all_goals first | (cases hc; done) | (cases ha; done)

theorem nv_some {h h' : H} {x : New} {v : Value} (e : nv h x = some (v, h')) : ∃ B g, x = some (B, g) ∧ v = g h.next ∧ h' = h.new B := by
  cases x with
  | none => cases e
  | some p => obtain ⟨B, g⟩ := p; cases e; exact ⟨B, g, rfl, rfl, rfl⟩

/-- an operation that makes one block -/
theorem aop_cls1 {P : Program} {call : CallF} {ρ : Env} {h h' : H} {o : Oper} {v : Value} (hc : clsOf P o.op = 1) (ha : aop P call o.op ρ h = some (v, h')) :
    ∃ B g, v = g h.next ∧ h' = h.new B ∧ B.ver = h.clock ∧ ∀ (w : World) (σ : Sg) (ρ' : Operand → Value), ER σ ρ ρ' → ∃ s, execOp ρ' o = (do Pure.pure (Next.value (← s)) : Sem Next) ∧ Makes P σ w s B g := by
  obtain ⟨dst, op, type, pos, after, guard⟩ := o
  unfold aop at ha
  cases op <;> simp only [clsOf] at hc <;> simp only at ha
  case alloc t =>
    obtain ⟨B, g, e, h1, h2⟩ := nv_some ha
    exact ⟨B, g, h1, h2, (allocA_run (P := P) (σ := ⟨fun _ => none, fun _ => 0, fun _ => 0⟩) (w := default) e).1, fun w σ ρ' hρ => ⟨_, rfl, (allocA_run e).2⟩⟩
  case box t x =>
    obtain ⟨B, g, e, h1, h2⟩ := nv_some ha
    refine ⟨B, g, h1, h2, ?_, fun w σ ρ' hρ => ⟨_, rfl, (boxA_run (fun u hu => hρ _ _ hu) e).2⟩⟩
    unfold boxA at e; split at e
    · cases e; rfl
    · cases e
  case buildSlice t n ps =>
    obtain ⟨B, g, e, h1, h2⟩ := nv_some ha
    refine ⟨B, g, h1, h2, ?_, fun w σ ρ' hρ => ⟨_, rfl, (buildSliceA_run hρ e).2⟩⟩
    unfold buildSliceA at e; split at e
    · split at e
      · obtain ⟨_, e⟩ := cond_some e
        split at e
        · cases e; rfl
        · cases e
      · cases e
    · cases e
  case makeSlice t l c =>
    obtain ⟨B, g, e, h1, h2⟩ := nv_some ha
    refine ⟨B, g, h1, h2, ?_, fun w σ ρ' hρ => ⟨_, rfl, (makeSliceA_run (fun u hu => hρ _ _ hu) (fun u hu => hρ _ _ hu) e).2⟩⟩
    unfold makeSliceA at e; split at e
    · split at e
      · obtain ⟨_, e⟩ := cond_some e
        cases e; rfl
      · cases e
    · cases e
  case makeMap t r =>
    cases r with
    | some r => cases ha
    | none =>
      obtain ⟨B, g, e, h1, h2⟩ := nv_some ha
      cases e
      exact ⟨_, _, h1, h2, rfl, fun w σ ρ' hρ => ⟨_, rfl, makeMap_run⟩⟩
  case range t x =>
    obtain ⟨B, g, e, h1, h2⟩ := nv_some ha
    refine ⟨B, g, h1, h2, ?_, fun w σ ρ' hρ => ⟨_, rfl, (rangeA_run (fun u hu => hρ _ _ hu) e).2⟩⟩
    unfold rangeA at e; split at e
    · cases e; rfl
    · cases e
  case convert s d x =>
    split at ha
    · rename_i a h1
      unfold convO at ha
      split at ha
      · rename_i ds k u1 u2; rw [u1, u2] at hc; cases ds <;> cases hc
      · rename_i e u1 u2; rw [u1, u2] at hc; cases hc
      · rename_i u1 u2; rw [u1, u2] at hc; cases hc
      · rename_i e u1 u2
        split at ha
        · rename_i b
          obtain ⟨B, g, e1, e2, e3⟩ := nv_some ha
          refine ⟨B, g, e2, e3, ?_, fun w σ ρ' hρ => ⟨convert s d (ρ' x), rfl, ?_⟩⟩
          · unfold bytesO at e1; split at e1
            · cases e1; rfl
            · cases e1
          · have := (hρ _ _ h1).string_inv
            rw [this]
            obtain ⟨k1, k2, k3⟩ := bytesO_run (P := P) (σ := σ) (w := w) e1
            have eq1 : (convert s d (.string b)).run P w = (Conv.stringToBytes e b).run P w := by simp [convert, run_underlying u1, run_underlying u2, run_underlying k1]
            obtain ⟨o, v', w', rs, es, q1, q⟩ := k3
            exact ⟨o, v', w', rs, es, by rw [eq1]; exact q1, q⟩
        · cases ha
      · rename_i e1 e u1 u2; rw [u1, u2] at hc; cases hc
      · cases ha
    · cases ha
  case call c =>
    obtain ⟨callee, args, ts⟩ := c
    cases callee with
    | value f => cases hc
    | invoke r m => cases hc
    | builtin b => cases b <;> cases hc
  all_goals first | (cases hc; done) | (cases ha; done)
end Go.Proofs.Ytnjeafdbifcfhaa.Den
