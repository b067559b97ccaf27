/- A small machine for closed runs: its code is the real one, but for the regions that draw. No condition. -/
import Derived.Test.YtnjeafdbifcfhaaDenL
import Derived.Scope
import Derived.OrdersIn
import Derived.TacticsIn
import Derived.LoopNIn
import Derived.RangeFuncCalls
import Derived.RangeFuncOwn
namespace Go.Proofs.Ytnjeafdbifcfhaa.Den
open Go
variable {ds : List Deferred}
set_option linter.unusedSimpArgs false
set_option linter.unusedVariables false

/-- the slots -/
structure SR (σ : Sg) (N : Nat) (ds : List Deferred) (s : S) (a : Act) : Prop where
  size : a.tmps.size = N
  defers : a.defers = ds
  get : ∀ t v, s.get t = some v → ∃ v', a.tmps[t]? = some v' ∧ VR σ v v'

theorem SR.mono {σ σ' : Sg} {N : Nat} {s : S} {a : Act} (h : SR σ N ds s a) (le : σ.le σ') : SR σ' N ds s a :=
  ⟨h.size, h.defers, fun t v ht => let ⟨v', k1, k2⟩ := h.get t v ht; ⟨v', k1, k2.mono le⟩⟩

theorem SR.env {σ : Sg} {N : Nat} {s : S} {a : Act} (h : SR σ N ds s a) : ER σ (envOf s) a.eval := by
  intro x v hx
  cases x with
  | tmp t =>
    obtain ⟨v', k1, k2⟩ := h.get t v hx
    show VR σ v (a.tmps.getD t undef)
    have : a.tmps.getD t undef = v' := by simp [k1]
    rw [this]; exact k2
  | const u =>
    have hx : cond (plain u) (some u) none = some v := hx
    obtain ⟨h1, h2⟩ := cond_some hx
    cases h2
    exact plain_VR σ h1
  | global g => cases hx
  | func f => cases hx; exact .func _ rfl rfl (fun i u u' k _ => by simp at k) (fun i u u' k _ => by simp at k)

theorem SR.put {σ : Sg} {N : Nat} {s s' : S} {a : Act} (h : SR σ N ds s a) {dst : Option Tmp} {v v' : Value} (hv : VR σ v v') (hp : putA N s dst v = some s') : SR σ N ds s' (a.put dst v') := by
  cases dst with
  | none => cases hp; exact h
  | some d =>
    have hp : cond (Nat.blt d N) (some (s.put d v)) none = some s' := hp
    obtain ⟨h1, h2⟩ := cond_some hp
    cases h2
    have h1 := blt_lt h1
    refine ⟨by simp [Act.put, h.size], h.defers, fun t u ht => ?_⟩
    rw [T.get_put] at ht
    by_cases e : t = d
    · subst e
      rw [if_pos rfl] at ht; cases ht
      have : t < a.tmps.size := by rw [h.size]; exact h1
      exact ⟨v', by simp [Act.put, this], hv⟩
    · rw [if_neg e] at ht
      obtain ⟨u', k1, k2⟩ := h.get t u ht
      refine ⟨u', ?_, k2⟩
      show (a.tmps.setIfInBounds d v')[t]? = _
      rw [Array.getElem?_setIfInBounds_ne (fun q => e q.symm)]; exact k1

theorem SR.wanted {σ : Sg} {N : Nat} {s : S} {a : Act} (h : SR σ N ds s a) {ops : Array Oper} {o : Oper} {b : Bool} (hw : wantedA ops s o = some b) : Region.wanted o (yielded ops a.tmps) = b := by
  unfold wantedA at hw
  unfold Region.wanted
  split at hw
  · rename_i hg; rw [hg]; cases hw; rfl
  · rename_i g want hg
    rw [hg]
    split at hw
    · rename_i t ht
      have y : yielded ops a.tmps g = match a.tmps[t]? with | some (.bool b) => some b | _ => none := by
        unfold yielded; rw [ht]; rfl
      split at hw
      · rename_i c hc
        cases hw
        obtain ⟨v', k1, k2⟩ := h.get t _ hc
        have := k2.bool_inv; subst this
        show (yielded ops a.tmps g == some want) = _
        rw [y, k1]
        cases c <;> cases want <;> rfl
      · rename_i u hnb hc
        cases hw
        obtain ⟨v', k1, k2⟩ := h.get t _ hc
        show (yielded ops a.tmps g == some want) = _
        rw [y, k1]
        cases k2 <;> first | rfl | exact absurd rfl (hnb _)
      · cases hw
    · cases hw

/-- a call does what the machine's does -/
def Sound (P : Program) (call : CallF) : Prop :=
  ∀ k args h v h', call k args h = some (v, h') → ∀ σ w args', VRs σ args args' → Rel σ h w →
    Calls P k args'.toArray w fun e w' => ∃ σ' v', e = .returned v' ∧ VR σ' v v' ∧ Rel σ' h' w' ∧ Fr σ h w σ' h' w'

/-- a fence that asks nothing, in a round or in none -/
structure Wd (F : Fence) : Prop where
  fn : ∀ f, F.fn f
  depth : F.depth.isSome = false
  sem : ∀ ρ (o : Oper), (∀ c, o.op ≠ .defer c) → o.semAt F.round ρ = execOp ρ o
  calls : ∀ {P : Program} {f : FuncId} {args : Array Value} {w : World} {R : Ending → World → Prop} (n : Nat), Calls P f args w R → CallsIn F n P f args w R
theorem wd_wide : Wd Fence.wide := ⟨fun _ => trivial, rfl, fun ρ o _ => Oper.semAt_none ρ o, fun n h => callsIn_wide.2 h⟩
theorem wd_round (l : Nat) : Wd (Fence.wide.inRound l) := ⟨fun _ => trivial, rfl, fun ρ o h => Oper.semAt_some l ρ o h, fun n h => CallsIn.inRound l (callsIn_wide.2 h)⟩

theorem aop_no_defer {P : Program} {call : CallF} {op : Op} {ρ : Env} {h : H} {r : Value × H} (ha : aop P call op ρ h = some r) : ∀ c, op ≠ .defer c := by
  rintro c rfl
  cases ha

/-- one operation -/
theorem Goes.wp {F : Fence} (W : Wd F) (n : Nat) {P : Program} {call : CallF} (hS : Sound P call) {σ : Sg} {h h' : H} {w : World} {o : Oper} {a : Act} {v : Value} (R : Rel σ h w) (hnd : ∀ c, o.op ≠ .defer c) (g : Goes P call σ h w (execOp a.eval o) v h') {K : Act → World → Prop} {Q : Exit → Act → World → Prop}
    (hK : ∀ σ' w' v', VR σ' v v' → Rel σ' h' w' → Fr σ h w σ' h' w' → K (a.put o.dst v') w') : o.wpIn F n P a w K Q := by
  refine ⟨fun f _ => W.fn f, ?_⟩
  rw [W.sem _ _ hnd]
  cases g with
  | val hs hv R' F => rw [hs]; exact hK _ _ _ hv R' F
  | skip hs hv R' F => rw [hs]; subst hv; exact hK _ _ _ (VR.undef _) R' F
  | enter hs hv hc =>
    rw [hs]
    refine ⟨fun q => by (rw [W.depth] at q; cases q), ?_⟩
    refine W.calls _ ((hS _ _ _ _ _ hc σ w _ hv R).mono ?_)
    rintro e w' ⟨σ', v', rfl, k1, k2, k3⟩
    exact hK _ _ _ k1 k2 k3

theorem dstep_run {F : Fence} (W : Wd F) (n : Nat) {P : Program} {call : CallF} (hN : Named P) (hB : Bodied P call) (hS : Sound P call) {σ : Sg} {N : Nat} {ops : Array Oper} {o : Oper} {s s' : S} {h h' : H} {v : Value} {a : Act} {w : World} (R : Rel σ h w) (hs : SR σ N ds s a)
    (hd : dstep P call N ops o s h = some (v, s', h')) {K : Act → World → Prop} {Q : Exit → Act → World → Prop}
    (hK : ∀ σ' w' v', VR σ' v v' → Rel σ' h' w' → Fr σ h w σ' h' w' → SR σ' N ds s' (a.put o.dst v') → K (a.put o.dst v') w') :
    if Region.wanted o (yielded ops a.tmps) then o.wpIn F n P a w K Q else (∀ f, o.about P w a.eval = some f → F.fn f) ∧ K (a.put o.dst undef) w := by
  unfold dstep at hd
  split at hd
  · rename_i hw
    rw [hs.wanted hw]
    simp only [if_true]
    split at hd
    · rename_i u h1 ha
      split at hd
      · rename_i s1 hp
        cases hd
        exact (Goes.wp W n hS R (aop_no_defer ha) (aop_run hN hB R hs.env ha) fun σ' w' v' k1 k2 k3 => hK σ' w' v' k1 k2 k3 ((hs.mono k3.le).put k1 hp))
      · cases hd
    · cases hd
  · rename_i hw
    rw [hs.wanted hw]
    simp only [Bool.false_eq_true, if_false]
    split at hd
    · rename_i s1 hp
      cases hd
      have F := Fr.refl R (w' := w) rfl rfl rfl rfl
      exact ⟨fun f _ => W.fn f, hK σ w undef (VR.undef σ) R F (hs.put (VR.undef σ) hp)⟩
    · cases hd
  · cases hd

theorem dops_cons {P : Program} {call : CallF} {N : Nat} {ops : Array Oper} {o : Oper} {l : List Oper} {s : S} {h : H} : dops P call N ops (o :: l) s h = match dstep P call N ops o s h with
    | some (_, s', h') => dops P call N ops l s' h'
    | none => none := rfl

theorem dops_run {F : Fence} (W : Wd F) (n : Nat) {P : Program} {call : CallF} (hN : Named P) (hB : Bodied P call) (hS : Sound P call) {N : Nat} {ops : Array Oper} {Q : Exit → Act → World → Prop} : ∀ {l : List Oper} {σ : Sg} {s s' : S} {h h' : H} {a : Act} {w : World}, Rel σ h w → SR σ N ds s a → dops P call N ops l s h = some (s', h') →
    (∀ σ' a' w', SR σ' N ds s' a' → Rel σ' h' w' → Fr σ h w σ' h' w' → Q .normal a' w') → wpListIn F n P ops Q l a w
  | [], σ, s, s', h, h', a, w, R, hs, hd, hQ => by cases hd; exact hQ σ a w hs R (Fr.refl R rfl rfl rfl rfl)
  | o :: l, σ, s, s', h, h', a, w, R, hs, hd, hQ => by
    rw [dops_cons] at hd
    split at hd
    · rename_i v s1 h1 hst
      unfold wpListIn
      refine dstep_run W n hN hB hS R hs hst (fun σ1 w1 v1 k1 k2 k3 k4 => ?_)
      exact dops_run W n hN hB hS k2 k4 hd fun σ' a' w' q1 q2 q3 => hQ σ' a' w' q1 q2 (Fr.trans R k2 k3 q3)
    · cases hd

def Ex.real : Ex → Exit
  | .normal => .normal
  | .ret => .ret
  | .exit id => .exit id

/-- regions that draw -/
def Draws (P : Program) (call : CallF) : Prop :=
  ∀ (F : Fence), Wd F → ∀ (n N : Nat) (ops : Array Oper) (id : Nat) (ds : List Deferred) (σ : Sg) (s s' : S) (h h' : H) (a : Act) (w : World) (Q : Exit → Act → World → Prop), Rel σ h w → SR σ N ds s a → ddraw P call N ops s h = some (s', h') →
    (∀ σ' a' w', SR σ' N ds s' a' → Rel σ' h' w' → Fr σ h w σ' h' w' → Q .normal a' w') → (Code.region id ops true).wpIn F n P Q a w

/-- the marks that loops over functions have left -/
structure Marks (B : Nat) (σ : Sg) (h : H) (w : World) (ds : List Deferred) : Prop where
  nodup : ds.Nodup
  mark : ∀ d ∈ ds, ∃ D, d = { target := .collected D, args := #[] } ∧ B ≤ D ∧ w.heap[D]? = some (.deferred (some [])) ∧ ∀ b x, h.get b = some x → x.alive = true → σ.j b ≠ some D
theorem Marks.nil (B : Nat) (σ : Sg) (h : H) (w : World) : Marks B σ h w [] := ⟨List.nodup_nil, fun d hd => by cases hd⟩
theorem Fr.away {σ σ' : Sg} {h h' : H} {w w' : World} (k : Fr σ h w σ' h' w') {D : Nat} {o : Obj} (h1 : w.heap[D]? = some o) (h2 : ∀ b x, h.get b = some x → x.alive = true → σ.j b ≠ some D) (R : Rel σ h w) :
    w'.heap[D]? = some o ∧ ∀ b x, h'.get b = some x → x.alive = true → σ'.j b ≠ some D := by
  have hlt : D < w.heap.size := by
    rcases Nat.lt_or_ge D w.heap.size with q | q
    · exact q
    · rw [Array.getElem?_eq_none q] at h1; cases h1
  refine ⟨by rw [k.keep D hlt h2]; exact h1, fun b x hb hal hj => ?_⟩
  rcases Nat.lt_or_ge b h.next with q | q
  · obtain ⟨y, hy⟩ := R.tot b q
    cases hjb : σ.j b with
    | none => rw [k.none b q hjb] at hj; cases hj
    | some r =>
      have e : σ'.j b = some r := k.le.j b r hjb
      rw [e] at hj; cases hj
      obtain ⟨x', q1, q2⟩ := k.keepA b y hy
      rw [hb] at q1; cases q1
      rcases q2 with rfl | ⟨q2, _⟩
      · exact h2 b _ hy hal hjb
      · exact h2 b y hy q2 hjb
  · rcases k.fresh b D q hj with q1 | ⟨b0, y, q1, q2, q3, _⟩
    · omega
    · exact h2 b0 y q1 q2 q3
theorem Marks.step {B : Nat} {σ σ' : Sg} {h h' : H} {w w' : World} {ds : List Deferred} (m : Marks B σ h w ds) (R : Rel σ h w) (k : Fr σ h w σ' h' w') : Marks B σ' h' w' ds :=
  ⟨m.nodup, fun d hd => by
    obtain ⟨D, h1, h2, h3, h4⟩ := m.mark d hd
    obtain ⟨q1, q2⟩ := k.away h3 h4 R
    exact ⟨D, h1, h2, q1, q2⟩⟩

/-- code: from related states it comes to related ones -/
def CodeOk (F : Fence) (P : Program) (N : Nat) (c : Code) (run : S → H → Option (Ex × S × H)) : Prop :=
  ∀ (n B : Nat) (ds : List Deferred) (σ : Sg) (s s' : S) (h h' : H) (ex : Ex) (a : Act) (w : World) (Q : Exit → Act → World → Prop), run s h = some (ex, s', h') → B ≤ w.heap.size → SR σ N ds s a → Rel σ h w → Marks B σ h w ds →
    (∀ σ' a' w' ds', SR σ' N ds' s' a' → Rel σ' h' w' → Fr σ h w σ' h' w' → Marks B σ' h' w' ds' → Q ex.real a' w') → c.wpIn F n P Q a w

theorem loop_ok {F : Fence} {P : Program} {N : Nat} {c : Code} {run : S → H → Option (Ex × S × H)} (hc : CodeOk F P N c run) (n B : Nat) : ∀ (L : Nat) (ds : List Deferred) (σ : Sg) (s s' : S) (h h' : H) (ex : Ex) (a : Act) (w : World) (Q : Exit → Act → World → Prop), loopA run L s h = some (ex, s', h') → B ≤ w.heap.size → SR σ N ds s a → Rel σ h w → Marks B σ h w ds →
    (∀ σ' a' w' ds', SR σ' N ds' s' a' → Rel σ' h' w' → Fr σ h w σ' h' w' → Marks B σ' h' w' ds' → Q ex.real a' w') → Code.roundsIn F n P c Q L a w
  | 0, ds, σ, s, s', h, h', ex, a, w, Q, hl, _, _, _, _, _ => by cases hl
  | L + 1, ds, σ, s, s', h, h', ex, a, w, Q, hl, hB, hs, R, M, hQ => by
    have hl : (match run s h with | some (.normal, s1, h1) => loopA run L s1 h1 | r => r) = some (ex, s', h') := hl
    rw [roundsIn_succ]
    cases hr : run s h with
    | none => rw [hr] at hl; cases hl
    | some r =>
      obtain ⟨e1, s1, h1⟩ := r
      rw [hr] at hl
      cases e1 with
      | normal =>
        exact hc n B ds σ s s1 h h1 .normal a w _ hr hB hs R M fun σ1 a1 w1 ds1 k1 k2 k3 k4 => loop_ok hc n B L ds1 σ1 s1 s' h1 h' ex a1 w1 Q hl (Nat.le_trans hB k3.size) k1 k2 k4 fun σ' a' w' ds' q1 q2 q3 q4 => hQ σ' a' w' ds' q1 q2 (Fr.trans R k2 k3 q3) q4
      | ret => cases hl; exact hc n B ds σ s s' h h' .ret a w _ hr hB hs R M hQ
      | exit id => cases hl; exact hc n B ds σ s s' h h' (.exit id) a w _ hr hB hs R M hQ

/-- what is asked of the function that a loop over a function's pieces calls -/
structure ChunkLaw (P : Program) (k : FuncId) : Prop where
  enters : ∀ (args : Array Value) (w : World), (callFunc k args).run P w = .ok (.enter k args) w
  pieces : ∀ (m l Bs Bn r o len n : Nat), 1 ≤ n → len + n < 4611686018427387904 → ∀ (J : Nat → World → Prop),
    (∀ i W, J i W → ∃ cap, len ≤ cap ∧ W.cell? ⟨Bs, 0, none⟩ = some (.slice (some ⟨r, o, none⟩) len cap)) →
    (∀ i W, J i W → W.cell? ⟨Bn, 0, none⟩ = some (.int .i64 n)) → (∀ i W, J i W → J i W.drew) →
    (∀ i W, J i W → i * n < len → YieldAt Fence.wide (m - 1) P l #[pieceA r o len n i] W fun e W' => e = .returned (.bool true) ∧ J (i + 1) W') →
    ∀ W, J 0 W → CallsIn Fence.wide m P k #[.func (.yield l) #[] #[], .pointer (some ⟨Bs, 0, none⟩), .pointer (some ⟨Bn, 0, none⟩)] W fun e W' => (∃ v, e = .returned v) ∧ ∃ i, J i W' ∧ len ≤ i * n
  empty : ∀ (m l Bs Bn cap : Nat) (base : Option Addr) (W : World), W.cell? ⟨Bs, 0, none⟩ = some (.slice base 0 cap) →
    CallsIn Fence.wide m P k #[.func (.yield l) #[] #[], .pointer (some ⟨Bs, 0, none⟩), .pointer (some ⟨Bn, 0, none⟩)] W fun e W' => (∃ v, e = .returned v) ∧ W' = W

/-- a block that is none of the machine's -/
structure Loc (σ : Sg) (h : H) (w : World) (r : Nat) (o : Obj) : Prop where
  there : w.heap[r]? = some o
  free : ∀ b x, h.get b = some x → x.alive = true → σ.j b ≠ some r
theorem Loc.step {σ σ' : Sg} {h h' : H} {w w' : World} {r : Nat} {o : Obj} (L : Loc σ h w r o) (R : Rel σ h w) (k : Fr σ h w σ' h' w') : Loc σ' h' w' r o :=
  let ⟨q1, q2⟩ := k.away L.there L.free R
  ⟨q1, q2⟩
theorem Loc.lt {σ : Sg} {h : H} {w : World} {r : Nat} {o : Obj} (L : Loc σ h w r o) : r < w.heap.size := by
  rcases Nat.lt_or_ge r w.heap.size with q | q
  · exact q
  · have := L.there; rw [Array.getElem?_eq_none q] at this; cases this
theorem Rel.live_lt {σ : Sg} {h : H} {w : World} (R : Rel σ h w) {b r : Nat} {x : Blk} (hx : h.get b = some x) (ha : x.alive = true) (hj : σ.j b = some r) : r < w.heap.size := by
  obtain ⟨o, h1, _⟩ := R.blk b x r hx ha hj
  rcases Nat.lt_or_ge r w.heap.size with q | q
  · exact q
  · rw [Array.getElem?_eq_none q] at h1; cases h1
theorem Loc.putObj {σ : Sg} {h : H} {w : World} {r : Nat} {o : Obj} (L : Loc σ h w r o) {l : Nat} (hl : r ≠ l) (o' : Obj) : Loc σ h (w.putObj l o') r o :=
  ⟨(World.putObj_heap_other hl).trans L.there, L.free⟩
theorem Loc.same {σ : Sg} {h : H} {w : World} {r : Nat} {o : Obj} (L : Loc σ h w r o) (o' : Obj) : Loc σ h (w.putObj r o') r o' :=
  ⟨World.putObj_heap_same L.lt, L.free⟩
theorem Loc.rel {σ : Sg} {h : H} {w : World} {r : Nat} {o : Obj} (L : Loc σ h w r o) (R : Rel σ h w) (o' : Obj) (hc : ∀ c e fz, o ≠ .cells c e fz := by intros; nofun) : Rel σ h (w.putObj r o') :=
  ⟨R.dom, R.tot, R.jdom, fun b x q hx ha hj => by
    obtain ⟨u, h1, h2⟩ := R.blk b x q hx ha hj
    exact ⟨u, (World.putObj_heap_other (fun e => L.free b x hx ha (by rw [← e]; exact hj))).trans h1, h2⟩, R.inj, R.ver, fun b lo l q hx hj => by
    obtain ⟨k1, k2⟩ := R.ro b lo l q hx hj
    refine ⟨k1.heap (World.putObj_heap_other fun e => ?_), k2⟩
    obtain ⟨c, e1, fz, l', h1, _⟩ := k1
    subst e
    rw [L.there] at h1
    cases h1
    exact hc _ _ _ rfl⟩
theorem Fr.putObj {σ σ' : Sg} {h h' : H} {w w' : World} (k : Fr σ h w σ' h' w') {l : Nat} (hl : w.heap.size ≤ l) (o : Obj) : Fr σ h w σ' h' (w'.putObj l o) :=
  ⟨k.le, k.os, k.tape, k.output, by rw [World.putObj_size]; exact k.size, fun r hr hf => (World.putObj_heap_other (by omega)).trans (k.keep r hr hf), k.none, k.fresh, k.next, k.clock, k.keepA, k.stay, k.made, k.ros⟩
theorem Marks.putObj {B : Nat} {σ : Sg} {h : H} {w : World} {ds : List Deferred} (m : Marks B σ h w ds) {l : Nat} (hl : ∀ d ∈ ds, d.target ≠ .collected l) (o : Obj) : Marks B σ h (w.putObj l o) ds :=
  ⟨m.nodup, fun d hd => by
    obtain ⟨D, h1, h2, h3, h4⟩ := m.mark d hd
    refine ⟨D, h1, h2, (World.putObj_heap_other ?_).trans h3, h4⟩
    rintro rfl
    exact hl d hd (by rw [h1])⟩
/-- no mark names a block that is no mark's -/
theorem Marks.not {B : Nat} {σ : Sg} {h : H} {w : World} {ds : List Deferred} (m : Marks B σ h w ds) {l : Nat} (hl : w.heap[l]? ≠ some (.deferred (some []))) : ∀ d ∈ ds, d.target ≠ .collected l := by
  intro d hd e
  obtain ⟨D, h1, _, h3, _⟩ := m.mark d hd
  rw [h1] at e
  cases e
  exact hl h3

theorem sameVer_get {σ σ' : Sg} {h h' : H} {w w' : World} (R : Rel σ h w) (k : Fr σ h w σ' h' w') {b : Nat} {x : Blk} (hx : h.get b = some x) (hv : sameVer h h' b = true) : h'.get b = some x := by
  obtain ⟨x', h1, h2⟩ := k.keepA b x hx
  unfold sameVer at hv
  rw [hx, h1] at hv
  have hv := beq_eq hv
  have := R.ver b x hx
  rcases h2 with rfl | ⟨_, h2⟩
  · exact h1
  · omega

theorem roundsA_succ {N : Nat} {iha ihb : S → H → Option (Ex × S × H)} {p : Tmp} {s : S} {h0 : H} {bs bn b o len n fuel i : Nat} {h : H} : roundsA N iha ihb p s h0 bs bn b o len n (fuel + 1) i h = cond (Nat.ble len (i * n)) (some h)
    (match putA N s (some p) (pieceA b o len n i) with
      | some s1 => match iha s1 h with
        | some (.normal, s2, h2) => match ihb s2 h2 with
          | some (.normal, _, h3) => cond (sameVer h0 h3 bs && sameVer h0 h3 bn) (roundsA N iha ihb p s h0 bs bn b o len n fuel (i + 1) h3) none
          | _ => none
        | _ => none
      | none => none) := rfl

/-- a call that leaves all as it was but for new memory -/
theorem Rel.under {σ : Sg} {h : H} {w w' : World} (R : Rel σ h w) (b : Go.RowKit.Below w.heap.size w w') : Rel σ h w' ∧ Fr σ h w σ h w' := by
  have F : Fr σ h w σ h w' := ⟨Sg.le.refl σ, b.os, b.tape, b.output, b.size, fun r hr _ => b.block r hr, fun _ _ q => q, fun b' r hb hj => (by rw [R.jdom b' hb] at hj; cases hj), Nat.le_refl _, Nat.le_refl _, fun b' x hx => ⟨x, hx, .inl rfl⟩, fun _ _ _ => rfl, fun b' h1 h2 => absurd h2 (by omega), fun _ _ _ q => q⟩
  refine ⟨⟨R.dom, R.tot, R.jdom, fun b' x r hx ha hj => ?_, R.inj, R.ver, ro_step R F⟩, F⟩
  obtain ⟨o, h1, h2⟩ := R.blk b' x r hx ha hj
  exact ⟨o, by rw [b.block r (R.live_lt hx ha hj)]; exact h1, h2⟩

theorem oneCell_some {h : H} {b : Nat} {v : Value} (e : oneCell h b = some v) : ∃ B, h.rowAt b = some B ∧ B.get 0 = some v := by
  unfold oneCell at e
  split at e
  · rename_i B hB; exact ⟨B, hB, e⟩
  · cases e
theorem rowAt_congr {h h' : H} {b : Nat} (e : h'.get b = h.get b) : h'.rowAt b = h.rowAt b := by unfold H.rowAt; rw [e]
theorem oneCell_congr {h h' : H} {b : Nat} (e : h'.get b = h.get b) : oneCell h' b = oneCell h b := by unfold oneCell; rw [rowAt_congr e]
/-- the one cell of a box, seen from both sides -/
theorem Rel.box {σ : Sg} {h : H} {w : World} (R : Rel σ h w) {b r : Nat} {v : Value} (e : oneCell h b = some v) (hj : σ.j b = some r) : ∃ v', w.cell? ⟨r, 0, none⟩ = some v' ∧ VR σ v v' := by
  obtain ⟨B, h1, h2⟩ := oneCell_some e
  obtain ⟨c, fz, k1, _, _, _, _, k2⟩ := R.row h1 hj
  obtain ⟨v', q1, q2⟩ := k2 0 v h2
  exact ⟨v', by rw [cell_eq k1]; exact q1, q2⟩

/-- the function's value, and its two boxes -/
theorem chunk_fn {σ : Sg} {k : FuncId} {fst cap : Array Value} {bs bn : Nat} {v : Value} (hf : fst.toList = []) (hc : cap.toList = [.pointer (some ⟨bs, 0, none⟩), .pointer (some ⟨bn, 0, none⟩)]) (e : VR σ (.func (.func k) fst cap) v) :
    ∃ r1 r2, v = .func (.func k) #[] #[.pointer (some ⟨r1, 0, none⟩), .pointer (some ⟨r2, 0, none⟩)] ∧ σ.j bs = some r1 ∧ σ.j bn = some r2 := by
  cases e with
  | func _ ha hc' va vc =>
    rename_i a' c'
    have v0 := VRs.of_arrays ha va
    have vs := VRs.of_arrays hc' vc
    rw [hf] at v0
    rw [hc] at vs
    generalize e1 : a'.toList = l1 at v0
    generalize e2 : c'.toList = l2 at vs
    cases v0
    cases vs with
    | cons v1 vs => cases vs with
      | cons v2 vs =>
        cases vs
        cases v1 with
        | ptr _ j1 => cases v2 with
          | ptr _ j2 =>
            have e1 : a' = #[] := by apply Array.ext'; simpa using e1
            have e2 := congrArg List.toArray e2
            rw [Array.toArray_toList] at e2
            subst e1; subst e2
            exact ⟨_, _, rfl, j1, j2⟩

/-- a loop over the pieces of a slice -/
theorem chunk_ok {P : Program} {N L : Nat} {x y : Code} {rx ry : S → H → Option (Ex × S × H)} (hx : ∀ F, Wd F → CodeOk F P N x rx) (hy : ∀ F, Wd F → CodeOk F P N y ry) {k : FuncId} (law : ChunkLaw P k) {g : Operand} {p : Tmp} {ps : Array Tmp} (hps : ps.toList = [p]) {bs bn : Nat} {fst cap : Array Value}
    (hf : fst.toList = []) (hc : cap.toList = [.pointer (some ⟨bs, 0, none⟩), .pointer (some ⟨bn, 0, none⟩)]) {n B : Nat} {ds : List Deferred} {σ : Sg} {s s' : S} {h h' : H} {ex : Ex} {a : Act} {w : World} {Q : Exit → Act → World → Prop}
    (hg : envOf s g = some (.func (.func k) fst cap)) (hr : chunkV N L rx ry p s h bs bn = some (ex, s', h')) (hB : B ≤ w.heap.size) (hs : SR σ N ds s a) (R : Rel σ h w) (M : Marks B σ h w ds)
    (hQ : ∀ σ' a' w' ds', SR σ' N ds' s' a' → Rel σ' h' w' → Fr σ h w σ' h' w' → Marks B σ' h' w' ds' → Q ex.real a' w') : (Code.rangeFunc g ps x y).wpIn Fence.wide n P Q a w := by
  obtain ⟨r1, r2, hge, hj1, hj2⟩ := chunk_fn hf hc (hs.env g _ hg)
  obtain rfl : ps = #[p] := by apply Array.ext'; simpa using hps
  refine wpIn_rangeFunc fun fn hfn => ?_
  obtain ⟨rec, hrec⟩ : ∃ rec : LoopState → Loop, rec = fun st => { state := st, pending := none, fn, tmps := a.tmps, params := #[p], assign := x, body := y, defers := w.heap.size } := ⟨_, rfl⟩
  obtain ⟨W1, hW1⟩ : ∃ W1, W1 = (w.alloc (.deferred (some []))).alloc (.loop (rec .ready)) := ⟨_, rfl⟩
  have hL1 : W1.heap[w.heap.size + 1]? = some (.loop (rec .ready)) := by
    rw [hW1]; have := World.alloc_heap_new (w.alloc (.deferred (some []))) (.loop (rec .ready)); rwa [World.size_alloc] at this
  have hD1 : W1.heap[w.heap.size]? = some (.deferred (some [])) := by
    rw [hW1]; exact (RowKit.Below.heap_alloc _ _ _ (by simp)).trans (World.alloc_heap_new w _)
  have hb1 : RowKit.Below w.heap.size w W1 := by
    rw [hW1]; exact ((RowKit.Below.refl _ w).alloc (Nat.le_refl _) _).alloc (by simp) _
  obtain ⟨R1, F1⟩ := R.under hb1
  have hfree : ∀ r, w.heap.size ≤ r → ∀ b x, h.get b = some x → x.alive = true → σ.j b ≠ some r := fun r hr b x hx ha hj => by have := R.live_lt hx ha hj; omega
  have LL : Loc σ h W1 (w.heap.size + 1) (.loop (rec .ready)) := ⟨hL1, hfree _ (by omega)⟩
  have LD : Loc σ h W1 w.heap.size (.deferred (some [])) := ⟨hD1, hfree _ (Nat.le_refl _)⟩
  have M1 := M.step R F1
  refine ⟨w.heap.size + 1, [{ target := .collected w.heap.size, args := #[] }], W1, { target := .fn (.func k) #[.pointer (some ⟨r1, 0, none⟩), .pointer (some ⟨r2, 0, none⟩)], args := #[.func (.yield (w.heap.size + 1)) #[] #[]] }, W1, k,
    #[.func (.yield (w.heap.size + 1)) #[] #[]] ++ #[.pointer (some ⟨r1, 0, none⟩), .pointer (some ⟨r2, 0, none⟩)], W1, ?_, ?_, fun _ _ => trivial, ?_, fun q => Bool.noConfusion q, ?_⟩
  · rw [hW1, hrec]; exact run_enterLoop_outer _ _ _ _ _
  · simp only [resolve, hge]
    simp [go_sem]
  · simp [invoke, go_sem, law.enters]
  -- behind the last round
  have fin : ∀ (σi : Sg) (W' : World) (v : Value), ex = .normal → s' = s → Rel σi h' W' → Fr σ h w σi h' W' → Loc σi h' W' (w.heap.size + 1) (.loop (rec .ready)) → Loc σi h' W' w.heap.size (.deferred (some [])) → Marks B σi h' W' ds →
      rangePost Fence.wide n P (w.heap.size + 1) Q { a with defers := [{ target := .collected w.heap.size, args := #[] }] ++ a.defers } (.returned v) W' := by
    rintro σi W' v rfl rfl Ri Fi Li Di Mi
    obtain ⟨o, ho⟩ : ∃ o, (Instr.endLoop (w.heap.size + 1)).run P W' = .ok none (W'.putObj (w.heap.size + 1) o) := ⟨_, (run_endLoop Li.there (by rw [hrec]; simp)).trans (by rw [hrec])⟩
    refine ⟨none, _, ho, ?_⟩
    refine hQ σi _ _ ({ target := .collected w.heap.size, args := #[] } :: ds) ⟨hs.size, by simp [hs.defers], (hs.mono Fi.le).get⟩ (Li.rel Ri _) (Fi.putObj (by omega) _) ?_
    have Mi' := Mi.putObj (l := w.heap.size + 1) (Mi.not (by rw [Li.there]; simp)) o
    have Di' := Di.putObj (l := w.heap.size + 1) (by omega) o
    refine ⟨List.nodup_cons.2 ⟨fun hm => ?_, M.nodup⟩, fun d hd => ?_⟩
    · exact M.not (l := w.heap.size) (by rw [Array.getElem?_eq_none (Nat.le_refl _)]; simp) _ hm rfl
    · rcases List.mem_cons.1 hd with rfl | hd
      · exact ⟨w.heap.size, rfl, hB, Di'.there, Di'.free⟩
      · exact Mi'.mark d hd
  unfold chunkV at hr
  split at hr
  · rename_i base len cap' n' e1 e2
    cases hz : Nat.beq len 0 with
    | true =>
      rw [hz] at hr
      have hl := beq_eq hz
      subst hl
      cases hr
      obtain ⟨v', k1, k2⟩ := R1.box e1 hj1
      obtain ⟨base', c', rfl⟩ : ∃ base' c', v' = .slice base' 0 c' := by
        cases k2 with
        | nils => exact ⟨_, _, rfl⟩
        | slice o len hj hc => exact ⟨_, _, rfl⟩
        | emp a c => exact ⟨_, _, rfl⟩
      refine (law.empty (n - 1) (w.heap.size + 1) r1 r2 c' base' W1 k1).mono ?_
      rintro e W' ⟨⟨v, rfl⟩, rfl⟩
      exact fin σ W' v rfl rfl R1 F1 LL LD M1
    | false =>
      rw [hz] at hr
      have hr : chunkS N L rx ry p s h bs bn base len cap' n' = some (ex, s', h') := hr
      unfold chunkS at hr
      split at hr
      · rename_i b o hr0
        obtain ⟨hok, hr⟩ := cond_some hr
        simp only [Bool.and_eq_true] at hok
        obtain ⟨⟨ok1, ok2⟩, ok3⟩ := hok
        have ok1 := ble_le ok1
        have ok2 := blt_lt ok2
        have ok3 := ble_le ok3
        split at hr
        · rename_i hF hrd
          cases hr
          -- where the slice lies
          obtain ⟨v', k1, k2⟩ := R1.box e1 hj1
          obtain ⟨r, hjr⟩ : ∃ r, σ.j b = some r := by
            cases k2 with
            | slice o len hj hc => exact ⟨_, hj⟩
          refine (law.pieces (n - 1) (w.heap.size + 1) r1 r2 r o len n' ok1 ok2 (fun i W => ∃ fuel σi hi, roundsA N rx ry p s h bs bn b o len n' fuel i hi = some h' ∧ Rel σi hi W ∧ Fr σ h w σi hi W ∧ Loc σi hi W (w.heap.size + 1) (.loop (rec .ready)) ∧
            Loc σi hi W w.heap.size (.deferred (some [])) ∧ Marks B σi hi W ds ∧ hi.get bs = h.get bs ∧ hi.get bn = h.get bn) ?_ ?_ ?_ ?_ W1 ⟨L, σ, h, hrd, R1, F1, LL, LD, M1, rfl, rfl⟩).mono ?_
          · rintro i W ⟨fuel, σi, hi, _, Ri, Fi, _, _, _, g1, _⟩
            obtain ⟨v', k1, k2⟩ := Ri.box ((oneCell_congr g1).trans e1) (Fi.le.j _ _ hj1)
            cases k2 with
            | slice _ _ hj hc =>
              rw [Fi.le.j _ _ hjr] at hj; cases hj
              refine ⟨_, ?_, k1⟩
              rcases hc with ⟨_, rfl⟩ | ⟨_, q, _⟩
              · exact ok3
              · exact q
          · rintro i W ⟨fuel, σi, hi, _, Ri, Fi, _, _, _, _, g2⟩
            obtain ⟨v', k1, k2⟩ := Ri.box ((oneCell_congr g2).trans e2) (Fi.le.j _ _ hj2)
            cases k2; exact k1
          · rintro i W ⟨fuel, σi, hi, g0, Ri, Fi, Li, Di, Mi, g1, g2⟩
            exact ⟨fuel, σi, hi, g0, Ri.heap rfl, ⟨Fi.le, Fi.os, Fi.tape, Fi.output, Fi.size, Fi.keep, Fi.none, Fi.fresh, Fi.next, Fi.clock, Fi.keepA, Fi.stay, Fi.made, Fi.ros⟩, ⟨Li.there, Li.free⟩, ⟨Di.there, Di.free⟩, ⟨Mi.nodup, Mi.mark⟩, g1, g2⟩
          · -- one round
            rintro i W ⟨fuel, σi, hi, g0, Ri, Fi, Li, Di, Mi, g1, g2⟩ hlt
            cases fuel with
            | zero => cases g0
            | succ fuel =>
              have hnle : Nat.ble len (i * n') = false := by
                cases hq : Nat.ble len (i * n') with
                | false => rfl
                | true => have := ble_le hq; omega
              rw [roundsA_succ, hnle] at g0
              simp only [cond_false] at g0
              split at g0
              · rename_i s1 hp
                split at g0
                · rename_i s2 h2 hx2
                  split at g0
                  · rename_i s3 h3 hy3
                    obtain ⟨hv, g0⟩ := cond_some g0
                    simp only [Bool.and_eq_true] at hv
                    have hcap : Nat.min n' (len - i * n') < unk := Nat.lt_of_le_of_lt (Nat.min_le_left n' (len - i * n')) (by show n' < 4611686018427387904; omega)
                    have vr : VR σi (pieceA b o len n' i) (pieceA r o len n' i) := .slice _ _ (Fi.le.j _ _ hjr) (.inl ⟨hcap, rfl⟩)
                    have hs1 : SR σi N [] s1 { tmps := a.tmps.setIfInBounds p (pieceA r o len n' i), defers := [] } :=
                      SR.put (σ := σi) (N := N) (ds := []) (s := s) (a := { tmps := a.tmps, defers := [] }) ⟨hs.size, rfl, (hs.mono Fi.le).get⟩ vr hp
                    have hyl : (Instr.yield (w.heap.size + 1) #[pieceA r o len n' i]).run P W = .ok (.round (w.heap.size + 1) fn (a.tmps.setIfInBounds p (pieceA r o len n' i)) x y) W := by
                      rw [run_yield (P := P) (args := #[pieceA r o len n' i]) Li.there (by rw [hrec]; simp), hrec]
                      simp
                    refine ⟨fn, _, x, y, hyl, roundIn_of_wpIn hfn ?_⟩
                    refine hx _ (wd_round _) _ 0 [] σi s1 s2 hi h2 .normal _ W _ hx2 (Nat.zero_le _) hs1 Ri (Marks.nil _ _ _ _) fun σ2 a2 w2 ds2 q1 q2 q3 q4 => ?_
                    have Li2 := Li.step Ri q3
                    have Di2 := Di.step Ri q3
                    have Mi2 := Mi.step Ri q3
                    have F2 := Fr.trans R Ri Fi q3
                    obtain ⟨busy, hbusy⟩ : ∃ busy : Loop, busy = { rec .ready with state := .busy } := ⟨_, rfl⟩
                    have hbeg : (Instr.beginRound (w.heap.size + 1)).run P w2 = .ok () (w2.putObj (w.heap.size + 1) (.loop busy)) := by
                      rw [run_beginRound Li2.there (by rw [hrec]), hbusy]
                    refine ⟨_, hbeg, ?_⟩
                    have R3 := Li2.rel q2 (.loop busy)
                    have Li3 := Li2.same (.loop busy)
                    have Di3 := Di2.putObj (l := w.heap.size + 1) (by omega) (.loop busy)
                    have Mi3 := Mi2.putObj (l := w.heap.size + 1) (Mi2.not (by rw [Li2.there]; simp)) (.loop busy)
                    have q5 := q4.putObj (l := w.heap.size + 1) (q4.not (by rw [Li2.there]; simp)) (.loop busy)
                    have F3 := F2.putObj (l := w.heap.size + 1) (by omega) (.loop busy)
                    refine hy _ (wd_round _) _ 0 ds2 σ2 s2 s3 h2 h3 .normal a2 _ _ hy3 (Nat.zero_le _) q1 R3 q5 fun σ3 a3 w3 ds3 u1 u2 u3 u4 => ?_
                    have Li4 := Li3.step R3 u3
                    have Di4 := Di3.step R3 u3
                    have Mi4 := Mi3.step R3 u3
                    have F4 := Fr.trans R R3 F3 u3
                    have hend : (Instr.endRound (w.heap.size + 1) none).run P w3 = .ok (.bool true) (w3.putObj (w.heap.size + 1) (.loop (rec .ready))) := by
                      rw [run_endRound none Li4.there, hbusy, hrec]; rfl
                    obtain ⟨B1, b1, _⟩ := oneCell_some e1
                    obtain ⟨B2, b2, _⟩ := oneCell_some e2
                    exact ⟨_, _, hend, rfl, fuel, σ3, h3, g0, Li4.rel u2 _, F4.putObj (by omega) _, Li4.same _, Di4.putObj (by omega) _, Mi4.putObj (Mi4.not (by rw [Li4.there]; simp)) _,
                      (sameVer_get R F4 (H.rowAt_some b1) hv.1).trans (H.rowAt_some b1).symm, (sameVer_get R F4 (H.rowAt_some b2) hv.2).trans (H.rowAt_some b2).symm⟩
                  · cases g0
                · cases g0
              · cases g0
          · rintro e W' ⟨⟨v, rfl⟩, i, ⟨fuel, σi, hi, g0, Ri, Fi, Li, Di, Mi, g1, g2⟩, hlen⟩
            have : hi = h' := by
              cases fuel with
              | zero => cases g0
              | succ fuel =>
                rw [roundsA_succ, show Nat.ble len (i * n') = true from Nat.ble_eq_true_of_le hlen] at g0
                exact Option.some.inj g0
            subst this
            exact fin σi W' v rfl rfl Ri Fi Li Di Mi
        · cases hr
      · cases hr
  · cases hr
theorem dcode_ok {P : Program} {C : FuncId → Bool} (hC : ∀ k, C k = true → ChunkLaw P k) {call : CallF} (hN : Named P) (hB : Bodied P call) (hS : Sound P call) (hD : Draws P call) (N L : Nat) (c : Code) : ∀ F, Wd F → (F = Fence.wide ∨ flatC c = true) → CodeOk F P N c (dcode P C call N L c) := by
  induction c with
  | skip =>
    intro F W hF n B ds σ s s' h h' ex a w Q hr hB hs R M hQ
    cases hr; exact wpIn_skip (hQ σ a w ds hs R (Fr.refl R rfl rfl rfl rfl) M)
  | region id ops draw =>
    intro F W hF n B ds σ s s' h h' ex a w Q hr hB hs R M hQ
    cases draw with
    | false =>
      have hr : regA (dops P call N ops ops.toList s h) = some (ex, s', h') := hr
      unfold regA at hr
      split at hr
      · rename_i s1 h1 hd
        cases hr
        exact wpIn_region_list (dops_run W n hN (by assumption) hS R hs hd fun σ' a' w' k1 k2 k3 => hQ σ' a' w' ds k1 k2 k3 (M.step R k3))
      · cases hr
    | true =>
      have hr : regA (ddraw P call N ops s h) = some (ex, s', h') := hr
      unfold regA at hr
      split at hr
      · rename_i s1 h1 hd
        cases hr
        exact hD F W n N ops id ds σ s s' h h' a w Q R hs hd fun σ' a' w' k1 k2 k3 => hQ σ' a' w' ds k1 k2 k3 (M.step R k3)
      · cases hr
  | seq x y ihx ihy =>
    intro F W hF n B ds σ s s' h h' ex a w Q hr hB hs R M hQ
    have hF2 : (F = Fence.wide ∨ flatC x = true) ∧ (F = Fence.wide ∨ flatC y = true) := by
      rcases hF with e | e
      · exact ⟨.inl e, .inl e⟩
      · have e : (flatC x && flatC y) = true := e
        simp only [Bool.and_eq_true] at e
        exact ⟨.inr e.1, .inr e.2⟩
    have hr : seqA (dcode P C call N L y) (dcode P C call N L x s h) = some (ex, s', h') := hr
    refine wpIn_seq ?_
    cases hx : dcode P C call N L x s h with
    | none => rw [hx] at hr; cases hr
    | some r =>
      obtain ⟨e1, s1, h1⟩ := r
      rw [hx] at hr
      cases e1 with
      | normal =>
        exact ihx F W hF2.1 n B ds σ s s1 h h1 .normal a w _ hx hB hs R M fun σ1 a1 w1 ds1 k1 k2 k3 k4 => ihy F W hF2.2 n B ds1 σ1 s1 s' h1 h' ex a1 w1 Q hr (Nat.le_trans hB k3.size) k1 k2 k4 fun σ' a' w' ds' q1 q2 q3 q4 => hQ σ' a' w' ds' q1 q2 (Fr.trans R k2 k3 q3) q4
      | ret => cases hr; exact ihx F W hF2.1 n B ds σ s s' h h' .ret a w _ hx hB hs R M hQ
      | exit id => cases hr; exact ihx F W hF2.1 n B ds σ s s' h h' (.exit id) a w _ hx hB hs R M hQ
  | cond t x y ihx ihy =>
    intro F W hF n B ds σ s s' h h' ex a w Q hr hB hs R M hQ
    have hF2 : (F = Fence.wide ∨ flatC x = true) ∧ (F = Fence.wide ∨ flatC y = true) := by
      rcases hF with e | e
      · exact ⟨.inl e, .inl e⟩
      · have e : (flatC x && flatC y) = true := e
        simp only [Bool.and_eq_true] at e
        exact ⟨.inr e.1, .inr e.2⟩
    have hr : (match envOf s t with | some (.bool t) => cond t (dcode P C call N L x s h) (dcode P C call N L y s h) | _ => none) = some (ex, s', h') := hr
    split at hr
    · rename_i b hb
      have e := (hs.env t _ hb).bool_inv
      cases b with
      | true => exact wpIn_cond_true e (ihx F W hF2.1 n B ds σ s s' h h' ex a w Q hr hB hs R M hQ)
      | false => exact wpIn_cond_false e (ihy F W hF2.2 n B ds σ s s' h h' ex a w Q hr hB hs R M hQ)
    · cases hr
  | block id x ih =>
    intro F W hF n B ds σ s s' h h' ex a w Q hr hB hs R M hQ
    have hF : F = Fence.wide ∨ flatC x = true := hF
    have hr : blockA id (dcode P C call N L x s h) = some (ex, s', h') := hr
    refine wpIn_block ?_
    cases hx : dcode P C call N L x s h with
    | none => rw [hx] at hr; cases hr
    | some r =>
      obtain ⟨e1, s1, h1⟩ := r
      rw [hx] at hr
      cases e1 with
      | normal => cases hr; exact ih F W hF n B ds σ s s' h h' .normal a w _ hx hB hs R M hQ
      | ret => cases hr; exact ih F W hF n B ds σ s s' h h' .ret a w _ hx hB hs R M hQ
      | exit id' =>
        have hr : cond (Nat.beq id id') (some (Ex.normal, s1, h1)) (some (.exit id', s1, h1)) = some (ex, s', h') := hr
        refine ih F W hF n B ds σ s s1 h h1 (.exit id') a w _ hx hB hs R M fun σ' a' w' ds' q1 q2 q3 q4 => ?_
        show (if id' = id then Q .normal a' w' else Q (.exit id') a' w')
        cases hb : Nat.beq id id' with
        | true =>
          rw [hb] at hr; cases hr
          rw [if_pos (beq_eq hb).symm]; exact hQ σ' a' w' ds' q1 q2 q3 q4
        | false =>
          rw [hb] at hr; cases hr
          rw [if_neg (fun e => by subst e; rw [Nat.beq_refl] at hb; cases hb)]; exact hQ σ' a' w' ds' q1 q2 q3 q4
  | loop x ih =>
    intro F W hF n B ds σ s s' h h' ex a w Q hr hB hs R M hQ
    have hF : F = Fence.wide ∨ flatC x = true := hF
    exact wpIn_loop_rounds L (loop_ok (ih F W hF) n B L ds σ s s' h h' ex a w Q hr hB hs R M hQ)
  | rangeFunc f ps x y ihx ihy =>
    intro F W hF n B ds σ s s' h h' ex a w Q hr hB hs R M hQ
    have hr : cond (flatC x && flatC y) (rangeFA C N L (envOf s f) ps.toList (dcode P C call N L x) (dcode P C call N L y) s h) none = some (ex, s', h') := hr
    obtain ⟨hfl, hr⟩ := cond_some hr
    simp only [Bool.and_eq_true] at hfl
    rcases hF with rfl | e
    · unfold rangeFA at hr
      split at hr
      · rename_i k fst cap p hg hps
        split at hr
        · rename_i bs bn hf hc
          obtain ⟨hk, hr⟩ := cond_some hr
          exact chunk_ok (fun F W => ihx F W (.inr hfl.1)) (fun F W => ihy F W (.inr hfl.2)) (hC k hk) hps hf hc hg hr hB hs R M hQ
        · cases hr
      · cases hr
    · cases e
  | exit id => intro F W hF n B ds σ s s' h h' ex a w Q hr hB hs R M hQ; cases hr; exact wpIn_exit (hQ σ a w ds hs R (Fr.refl R rfl rfl rfl rfl) M)
  | scope x ih =>
    intro F W hF n B ds σ s s' h h' ex a w Q hr hB hs R M hQ
    rcases hF with rfl | e
    · refine wpIn_wide.2 (wp_scope_straight (wpIn_wide.1 (ih Fence.wide wd_wide (.inl rfl) n B ds σ s s' h h' ex a w _ hr hB hs R M fun σ' a' w' ds' q1 q2 q3 q4 => ?_)))
      have := hQ σ' a' w' ds' q1 q2 q3 q4
      cases ex <;> exact this
    · cases e
  | label l => intro F W hF n B ds σ s s' h h' ex a w Q hr hB hs R M hQ; cases hr; exact wpIn_label (hQ σ a w ds hs R (Fr.refl R rfl rfl rfl rfl) M)
  | goto l => intro F W hF n B ds σ s s' h h' ex a w Q hr hB hs R M hQ; cases hr
  | ret => intro F W hF n B ds σ s s' h h' ex a w Q hr hB hs R M hQ; cases hr; exact wpIn_ret (hQ σ a w ds hs R (Fr.refl R rfl rfl rfl rfl) M)
  | refuse why => intro F W hF n B ds σ s s' h h' ex a w Q hr hB hs R M hQ; cases hr
end Go.Proofs.Ytnjeafdbifcfhaa.Den
