/- A small machine, run forward: loops, functions, tables of calls. No condition. -/
import Derived.Test.YtnjeafdbifcfhaaDenW
namespace Go.Proofs.Ytnjeafdbifcfhaa.Den
open Go
set_option linter.unusedSimpArgs false
set_option linter.unusedVariables false

/-- a loop that is told by a function with a bound on its rounds -/
noncomputable def lrun (ins : Slots) (rets : Option Slots) (outs : Slots) (id : Nat) (g : Tup ins → H → Option (JT rets outs × H)) : Pass := fun R s h K =>
  (decT ins s).bind fun a => (g a h).bind fun q => jencK rets outs (.exit id) q.1 fun e l => K e l q.2
abbrev Wr := ∀ (R : Type), List Value → H → (Value → H → Option R) → Option R
structure Ent where
  f : FuncId
  chk : List Value → Bool
  w : Wr
noncomputable def tblOf (l : List Ent) : Tbl := fun R f args h K => List.rec (motive := fun _ => Option R) none (fun e _ ih => cond (Nat.beq e.f f && e.chk args) (e.w R args h K) ih) l
def anyArgs : List Value → Bool := fun _ => true
/-- a call of a function that is told by a function on plain values -/
def wr (ks rs : List Kd) (g : RT ks → H → Option (RT rs × H)) : Wr := fun R args h K => (decL ks args).bind fun a => (g a h).bind fun q => K (resV1 (encL rs q.1)) q.2
theorem decL_inv : ∀ {l : List Kd} {vs : List Value} {x : RT l}, decL l vs = some x → vs = encL l x
  | [], [], x, h => rfl
  | [], v :: vs, x, h => by cases h
  | [k], [], x, h => by cases h
  | [k], [v], x, h => by
    have h : asK k (some v) = some x := h
    rw [Option.some.inj (asK_inv h)]; rfl
  | [k], v :: u :: vs, x, h => by cases h
  | k :: q :: l, [], x, h => by cases h
  | k :: q :: l, v :: vs, x, h => by
    have h : ((asK k (some v)).bind fun x => (decL (q :: l) vs).bind fun y => some (x, y)) = some x := h
    obtain ⟨y, h1, h⟩ := Option.bind_eq_some_iff.1 h
    obtain ⟨z, h2, h⟩ := Option.bind_eq_some_iff.1 h
    cases h
    rw [Option.some.inj (asK_inv h1), decL_inv h2]; rfl

section
variable (P : Program) (C : FuncId → Bool) (X : CallF)
def WrS (f : FuncId) (w : Wr) : Prop := ∀ (R : Type) (args : List Value) (h : H) (K : Value → H → Option R) (r : R), w R args h K = some r → ∃ v h', Fn P C X f args h v h' ∧ K v h' = some r
end
section
variable {P : Program} {C : FuncId → Bool} {X : CallF} {tbl : Tbl} {N : Nat}
theorem tblOf_sound {l : List Ent} (hl : ∀ e ∈ l, WrS P C X e.f e.w) : TblS P C X (tblOf l) := by
  intro R f args h K r k
  induction l with
  | nil => cases k
  | cons e l ih =>
    have k : cond (Nat.beq e.f f && e.chk args) (e.w R args h K) (tblOf l R f args h K) = some r := k
    cases hb : (Nat.beq e.f f && e.chk args) with
    | true =>
      rw [hb] at k
      simp only [Bool.and_eq_true] at hb
      have hf := Nat.eq_of_beq_eq_true hb.1
      subst hf
      exact hl e (by simp) R args h K r k
    | false => rw [hb] at k; exact ih (fun e' he' => hl e' (by simp [he'])) k
theorem loop_pass (hT : TblS P C X tbl) {an : Nat → Option Ann} {ins : Slots} {rets : Option Slots} {outs : Slots} {id pb : Nat} {body : Code} (f : Nat → Tup ins → H → Option (JT rets outs × H)) (h0 : ∀ a h, f 0 a h = none)
    (step : ∀ k a h, f (k + 1) a h = kcode P tbl N an body (JT rets outs × H) pb (mkS (encT ins a)) h fun e s' h' => match e with
      | .normal => (decT ins s').bind fun a' => f k a' h'
      | .ret => (jout rets outs (.exit id) .ret s').bind fun b => some (b, h')
      | .exit i => (jout rets outs (.exit id) (.exit i) s').bind fun b => some (b, h'))
    (inner : ∀ q ∈ need an body pb, PassS P C X N q.1 q.2) (k : Nat) : PassS P C X N (.loop body) (lrun ins rets outs id (f k)) := by
  have key : ∀ (k : Nat) (a : Tup ins) (h : H) (x : JT rets outs) (h1 : H), f k a h = some (x, h1) → ∃ e s', jout rets outs (.exit id) e s' = some x ∧
      ∃ M, ∀ n, M ≤ n → ∀ L, M ≤ L → ∀ m, k ≤ m → ∀ S1, Le (mkS (encT ins a)) S1 → ∃ s1, loopA (dcode P C (dcall P C X L n) N L body) m S1 h = some (e, s1, h1) ∧ Le s' s1 := by
    intro k
    induction k with
    | zero => intro a h x h1 hf; rw [h0] at hf; cases hf
    | succ k ih =>
      intro a h x h1 hf
      rw [step] at hf
      obtain ⟨e, s', h2, ⟨M, hM⟩, k2⟩ := kcode_sound hT an body inner hf
      have stop : ∀ e', e = e' → (∀ (s1 : S) (g : S → H → Option (Ex × S × H)), (match (some (e', s1, h2) : Option (Ex × S × H)) with
          | some (.normal, s', h') => g s' h'
          | r => r) = some (e', s1, h2)) → ((jout rets outs (.exit id) e' s').bind fun b => some (b, h2)) = some (x, h1) → ∃ e s', jout rets outs (.exit id) e s' = some x ∧
      ∃ M, ∀ n, M ≤ n → ∀ L, M ≤ L → ∀ m, k + 1 ≤ m → ∀ S1, Le (mkS (encT ins a)) S1 → ∃ s1, loopA (dcode P C (dcall P C X L n) N L body) m S1 h = some (e, s1, h1) ∧ Le s' s1 := by
        intro e' he hg hj
        subst he
        obtain ⟨b, hb1, hb2⟩ := Option.bind_eq_some_iff.1 hj
        cases hb2
        refine ⟨e, s', hb1, M, fun n hn L hL m hm S1 le => ?_⟩
        obtain ⟨s1, q1, q2, _⟩ := hM n hn L hL S1 le
        obtain ⟨m, rfl⟩ : ∃ m', m = m' + 1 := ⟨m - 1, by omega⟩
        refine ⟨s1, ?_, q2⟩
        show (match dcode P C (dcall P C X L n) N L body S1 h with
          | some (.normal, s', h') => loopA (dcode P C (dcall P C X L n) N L body) m s' h'
          | r => r) = _
        rw [q1]; exact hg s1 _
      cases e with
      | ret => exact stop .ret rfl (fun _ _ => rfl) k2
      | exit i => exact stop (.exit i) rfl (fun _ _ => rfl) k2
      | normal =>
        obtain ⟨a', ha1, ha2⟩ := Option.bind_eq_some_iff.1 k2
        obtain ⟨e, s2, hj, M2, hM2⟩ := ih a' h2 x h1 ha2
        refine ⟨e, s2, hj, max M M2, fun n hn L hL m hm S1 le => ?_⟩
        obtain ⟨s1, q1, q2, _⟩ := hM n (by omega) L (by omega) S1 le
        obtain ⟨m, rfl⟩ : ∃ m', m = m' + 1 := ⟨m - 1, by omega⟩
        obtain ⟨s3, u1, u2⟩ := hM2 n (by omega) L (by omega) m (by omega) s1 (fun t v hv => by
          obtain ⟨p, hp, rfl⟩ := mkS_get hv
          exact q2 _ _ (decT_get ha1 _ hp))
        refine ⟨s3, ?_, u2⟩
        show (match dcode P C (dcall P C X L n) N L body S1 h with
          | some (.normal, s', h') => loopA (dcode P C (dcall P C X L n) N L body) m s' h'
          | r => r) = _
        rw [q1]; exact u1
  intro R s h K r hr
  obtain ⟨a, ha, hr⟩ := Option.bind_eq_some_iff.1 hr
  obtain ⟨⟨x, h1⟩, hf, hr⟩ := Option.bind_eq_some_iff.1 hr
  obtain ⟨e, s', hj, M, hM⟩ := key k a h x h1 hf
  obtain ⟨l, k2, hl⟩ := jout_ok hj (K := fun e l => K e l h1) hr
  refine ⟨e, l, h1, ⟨max M k, fun n hn L hL S1 le => ?_⟩, k2⟩
  obtain ⟨s1, q1, q2⟩ := hM n (by omega) L (by omega) L (by omega) S1 (fun t v hv => by
    obtain ⟨p, hp, rfl⟩ := mkS_get hv
    exact le _ _ (decT_get ha _ hp))
  exact ⟨s1, q1, fun p hp => q2 _ _ (hl p hp)⟩

/-! ### a loop over the pieces of a slice -/
structure ChI where
  bs : Nat
  bn : Nat
  base : Option Addr
  len : Nat
  cap : Nat
  n : Nat
noncomputable def chInfo (h : H) (ps : PT 2) : Option ChI :=
  match ps.1, ps.2 with
  | some ⟨bs, 0, none⟩, some ⟨bn, 0, none⟩ => match oneCell h bs, oneCell h bn with
    | some (.slice base len cap), some (.int .i64 (.ofNat n)) => some ⟨bs, bn, base, len, cap, n⟩
    | _, _ => none
  | _, _ => none
noncomputable def chB (F : Nat → Nat → H → H → Option H) (ok : Bool) (h : H) : Option Addr → Option H
  | some ⟨b, o, none⟩ => cond ok (F b o h h) none
  | _ => none
noncomputable def chGo (F : Nat → Nat → H → H → Option H) (c : ChI) (h : H) : Option H :=
  cond (Nat.beq c.len 0) (some h) (chB F (Nat.ble 1 c.n && Nat.blt (c.len + c.n) 4611686018427387904 && Nat.ble c.len c.cap) h c.base)
noncomputable def chRun (ck : Nat) (g : Operand) (ins : Slots) (f : Tup ins → ChI → Nat → Nat → H → H → Option H) : Pass := fun R s h K =>
  (asF ck 2 (envOf s g)).bind fun ps => (chInfo h ps).bind fun c => (decT ins s).bind fun a => (chGo (f a c) c h).bind fun h' => K .normal [] h'
theorem chunk_pass (hT : TblS P C X tbl) {an : Nat → Option Ann} {ins : Slots} {ck pa pb p : Nat} {g : Operand} {x y : Code} (hC : C ck = true) (hfl : (flatC x && flatC y) = true) (hp : Nat.blt p N = true)
    (f : Nat → Tup ins → ChI → Nat → Nat → Nat → H → H → Option H) (h0 : ∀ a c b o i w h, f 0 a c b o i w h = none)
    (step : ∀ k a c b o i w h, f (k + 1) a c b o i w h = cond (Nat.ble c.len (i * c.n)) (some h) (kcode P tbl N an x H pa ((mkS (encT ins a)).put p (pieceA b o c.len c.n i)) h fun e s2 h2 => match e with
      | .normal => kcode P tbl N an y H pb s2 h2 fun e s3 h3 => match e with
        | .normal => cond (sameVer w h3 c.bs && sameVer w h3 c.bn) (f k a c b o (i + 1) w h3) none
        | .ret => none
        | .exit _ => none
      | .ret => none
      | .exit _ => none))
    (ix : ∀ q ∈ need an x pa, PassS P C X N q.1 q.2) (iy : ∀ q ∈ need an y pb, PassS P C X N q.1 q.2) (k : Nat) : PassS P C X N (.rangeFunc g #[p] x y) (chRun ck g ins (fun a c b o w h => f k a c b o 0 w h)) := by
  have key : ∀ (k : Nat) (a : Tup ins) (c : ChI) (b o i : Nat) (w h h1 : H), f k a c b o i w h = some h1 →
      ∃ M, ∀ n, M ≤ n → ∀ L, M ≤ L → ∀ m, k ≤ m → ∀ S1, Le (mkS (encT ins a)) S1 → roundsA N (dcode P C (dcall P C X L n) N L x) (dcode P C (dcall P C X L n) N L y) p S1 w c.bs c.bn b o c.len c.n m i h = some h1 := by
    intro k
    induction k with
    | zero => intro a c b o i w h h1 hf; rw [h0] at hf; cases hf
    | succ k ih =>
      intro a c b o i w h h1 hf
      rw [step] at hf
      cases hle : Nat.ble c.len (i * c.n) with
      | true =>
        rw [hle] at hf
        cases hf
        refine ⟨0, fun n _ L _ m hm S1 _ => ?_⟩
        obtain ⟨m, rfl⟩ : ∃ m', m = m' + 1 := ⟨m - 1, by omega⟩
        rw [roundsA_succ, hle]; rfl
      | false =>
        rw [hle] at hf
        obtain ⟨e, s2, h2, ⟨M1, hM1⟩, k2⟩ := kcode_sound hT an x ix hf
        cases e with
        | ret => cases k2
        | exit i => cases k2
        | normal =>
          obtain ⟨e, s3, h3, ⟨M2, hM2⟩, k3⟩ := kcode_sound hT an y iy k2
          cases e with
          | ret => cases k3
          | exit i => cases k3
          | normal =>
            obtain ⟨hv, k3⟩ := cond_some k3
            obtain ⟨M3, hM3⟩ := ih a c b o (i + 1) w h3 h1 k3
            refine ⟨max M1 (max M2 M3), fun n hn L hL m hm S1 le => ?_⟩
            obtain ⟨m, rfl⟩ : ∃ m', m = m' + 1 := ⟨m - 1, by omega⟩
            obtain ⟨s4, q1, q2, _⟩ := hM1 n (by omega) L (by omega) (S1.put p (pieceA b o c.len c.n i)) (le.put p _)
            obtain ⟨s5, u1, u2, _⟩ := hM2 n (by omega) L (by omega) s4 q2
            rw [roundsA_succ, hle]
            have : putA N S1 (some p) (pieceA b o c.len c.n i) = some (S1.put p (pieceA b o c.len c.n i)) := by
              show cond (Nat.blt p N) _ _ = _
              rw [hp]; rfl
            simp only [cond_false, this, q1, u1, hv, cond_true]
            exact hM3 n (by omega) L (by omega) m (by omega) S1 le
  intro R s h K r hr
  obtain ⟨ps, hps, hr1⟩ := Option.bind_eq_some_iff.1 hr
  obtain ⟨c, hc, hr2⟩ := Option.bind_eq_some_iff.1 hr1
  obtain ⟨a, ha, hr3⟩ := Option.bind_eq_some_iff.1 hr2
  obtain ⟨h1, hg, hr4⟩ := Option.bind_eq_some_iff.1 hr3
  clear hr hr1 hr2 hr3
  have hv := asK_inv (k := .fn ck 2) (x := ps) hps
  obtain ⟨p1, p2⟩ := ps
  unfold chInfo at hc
  split at hc
  · rename_i bs bn e1 e2
    split at hc
    · rename_i base len cap n e3 e4
      cases hc
      have e1 : p1 = some ⟨bs, 0, none⟩ := e1
      have e2 : p2 = some ⟨bn, 0, none⟩ := e2
      subst e1; subst e2
      have lea : ∀ {S1 : S}, Le s S1 → Le (mkS (encT ins a)) S1 := fun {S1} le t v hv => by
        obtain ⟨p, hp, rfl⟩ := mkS_get hv
        exact le _ _ (decT_get ha _ hp)
      have run : ∃ M, ∀ n', M ≤ n' → ∀ L, M ≤ L → ∀ S1, Le s S1 → chunkV N L (dcode P C (dcall P C X L n') N L x) (dcode P C (dcall P C X L n') N L y) p S1 h bs bn = some (.normal, S1, h1) := by
        unfold chGo at hg
        cases hl : Nat.beq len 0 with
        | true =>
          have hg : cond (Nat.beq len 0) (some h) _ = some h1 := hg
          rw [hl] at hg
          cases hg
          refine ⟨0, fun n' _ L _ S1 _ => ?_⟩
          unfold chunkV
          rw [e3, e4]
          simp only [hl, cond_true]
        | false =>
          have hg2 : cond (Nat.beq len 0) (some h) _ = some h1 := hg
          rw [hl] at hg2
          simp only [cond_false] at hg2
          clear hg
          have hg3 : chB (fun b o w h => f k a ⟨bs, bn, base, len, cap, n⟩ b o 0 w h) (Nat.ble 1 n && Nat.blt (len + n) 4611686018427387904 && Nat.ble len cap) h base = some h1 := hg2
          clear hg2
          generalize hF : (fun b o w h => f k a ⟨bs, bn, base, len, cap, n⟩ b o 0 w h) = F at hg3
          cases hb : base with
          | none => rw [hb] at hg3; cases hg3
          | some ad =>
          obtain ⟨b, o, pth⟩ := ad
          cases pth with
          | some z => rw [hb] at hg3; cases hg3
          | none =>
            rw [hb] at hg3
            obtain ⟨hq, hg⟩ := cond_some hg3
            rw [← hF] at hg
            obtain ⟨M, hM⟩ := key k a _ b o 0 h h h1 hg
            refine ⟨max M k, fun n' hn' L hL S1 le => ?_⟩
            unfold chunkV
            rw [e3, e4]
            simp only [hl, cond_false]
            unfold chunkS
            rw [hb]
            simp only [hq, cond_true]
            have := hM n' (by omega) L (by omega) L (by omega) S1 (lea le)
            have this : roundsA N (dcode P C (dcall P C X L n') N L x) (dcode P C (dcall P C X L n') N L y) p S1 h bs bn b o len n L 0 h = some h1 := this
            rw [this]
      obtain ⟨M, hM⟩ := run
      refine ⟨.normal, [], h1, ⟨M, fun n' hn' L hL S1 le => ⟨S1, ?_, fun q hq => by cases hq⟩⟩, hr4⟩
      show cond (flatC x && flatC y) (rangeFA C N L (envOf S1 g) (#[p] : Array Tmp).toList (dcode P C (dcall P C X L n') N L x) (dcode P C (dcall P C X L n') N L y) S1 h) none = _
      rw [hfl]
      have hv := le.env _ _ hv
      rw [hv]
      show cond (C ck) (chunkV N L (dcode P C (dcall P C X L n') N L x) (dcode P C (dcall P C X L n') N L y) p S1 h bs bn) none = _
      rw [hC]
      exact hM n' hn' L hL S1 le
    · cases hc
  · cases hc
theorem kres_sound {R : Type} {h : H} : ∀ {l : List ResultVar} {s : S} {K : List Value → Option R} {r : R}, kres P R s h l K = some r → ∃ vs, (∀ S1, Le s S1 → resA P S1 h l = some vs) ∧ K vs = some r
  | [], s, K, r, k => ⟨[], fun _ _ => rfl, k⟩
  | .tmp t :: l, s, K, r, k => by
    unfold kres at k
    split at k
    · rename_i v hv
      obtain ⟨vs, h1, h2⟩ := kres_sound k
      refine ⟨v :: vs, fun S1 le => ?_, h2⟩
      unfold resA; rw [le t v hv, h1 S1 le]
    · cases k
  | .cell a t :: l, s, K, r, k => by
    unfold kres at k
    split at k
    · rename_i x hx
      obtain ⟨v, hv, k⟩ := kval_some k
      obtain ⟨vs, h1, h2⟩ := kres_sound k
      refine ⟨v :: vs, fun S1 le => ?_, h2⟩
      unfold resA; rw [le a x hx, h1 S1 le]; simp only [hv]
    · cases k
/-- a function, run forward -/
theorem fn_of (hT : TblS P C X tbl) {an : Nat → Option Ann} {fn : Func} {f : FuncId} {c : Code} {args : List Value} {h : H} (hf : P.funcs[f]? = some fn) (hb : fn.body = some c) (hX : X f args h = none) (inner : ∀ q ∈ need an c 1, PassS P C X fn.ntmps q.1 q.2)
    {R : Type} {K : List Value → H → Option R} {r : R} (k : kfun P tbl an R fn args h K = some r) : ∃ vs h', Fn P C X f args h (resV1 vs) h' ∧ K vs h' = some r := by
  unfold kfun at k
  rw [hb] at k
  simp only at k
  obtain ⟨hn, k⟩ := cond_some k
  obtain ⟨e, s', h', ⟨M, hM⟩, k2⟩ := kcode_sound hT an c inner k
  have out : ∀ e', e = e' → (∀ i, e' ≠ .exit i) → kres P R s' h' fn.results.toList (fun vs => K vs h') = some r → ∃ vs h', Fn P C X f args h (resV1 vs) h' ∧ K vs h' = some r := by
    intro e' he hne hk
    subst he
    obtain ⟨vs, h1, h2⟩ := kres_sound hk
    refine ⟨vs, h', ⟨M + 1, fun n hn' L hL => ?_⟩, h2⟩
    obtain ⟨n, rfl⟩ : ∃ m, n = m + 1 := ⟨n - 1, by omega⟩
    rw [dcall_succ, hX, hf]
    simp only [hb, hn, cond_true]
    obtain ⟨s1, q1, q2, _⟩ := hM n (by omega) L (by omega) _ (Le.refl _)
    rw [q1]
    unfold outA
    cases e with
    | exit i => exact absurd rfl (hne i)
    | normal =>
      simp only [h1 s1 q2]
      cases vs with
      | nil => rfl
      | cons v vs => cases vs <;> rfl
    | ret =>
      simp only [h1 s1 q2]
      cases vs with
      | nil => rfl
      | cons v vs => cases vs <;> rfl
  unfold kout at k2
  cases e with
  | exit i => cases k2
  | normal => exact out .normal rfl (fun i q => by cases q) k2
  | ret => exact out .ret rfl (fun i q => by cases q) k2
/-- what a function's forward run owes for a call of it -/
def Told (P : Program) (C : FuncId → Bool) (X : CallF) (f : FuncId) (ks rs : List Kd) (g : RT ks → H → Option (RT rs × H)) : Prop := ∀ a h x h', g a h = some (x, h') → Fn P C X f (encL ks a) h (resV1 (encL rs x)) h'
theorem told_of {f : FuncId} {ks rs : List Kd} {g : RT ks → H → Option (RT rs × H)} (hg : ∀ a h q, g a h = some q → ∃ vs h', Fn P C X f (encL ks a) h (resV1 vs) h' ∧ ((decL rs vs).bind fun x => some (x, h')) = some q) : Told P C X f ks rs g := by
  intro a h x h' hx
  obtain ⟨vs, h1, k1, k2⟩ := hg a h _ hx
  obtain ⟨y, q1, q2⟩ := Option.bind_eq_some_iff.1 k2
  cases q2
  rw [decL_inv q1] at k1; exact k1
theorem wr_told {f : FuncId} {ks rs : List Kd} {g : RT ks → H → Option (RT rs × H)} (h : Told P C X f ks rs g) : WrS P C X f (wr ks rs g) := by
  intro R args h0 K r e
  obtain ⟨a, h1, e⟩ := Option.bind_eq_some_iff.1 e
  obtain ⟨⟨x, h'⟩, h2, e⟩ := Option.bind_eq_some_iff.1 e
  refine ⟨_, h', ?_, e⟩
  rw [decL_inv h1]
  exact h a h0 x h' h2
end
end Go.Proofs.Ytnjeafdbifcfhaa.Den
