/- A small machine for closed runs: its heap and the real one, side by side. No condition. -/
import Derived.Test.YtnjeafdbifcfhaaDenE
namespace Go.Proofs.Ytnjeafdbifcfhaa.Den
open Go
set_option linter.unusedSimpArgs false
set_option linter.unusedVariables false

theorem Row.get_eq (B : Row) (o : Nat) : B.get o = if o < B.n then some ((B.cells.get o).getD (zAt B.z o)) else none := by
  unfold Row.get
  cases h : Nat.blt o B.n with
  | true => rw [if_pos (blt_lt h)]; rfl
  | false =>
    rw [if_neg]; rfl
    intro hh; rw [Nat.blt, Nat.ble_eq_true_of_le hh] at h; cases h
theorem Row.get_lt {B : Row} {o : Nat} {v : Value} (h : B.get o = some v) : o < B.n := by
  rw [Row.get_eq] at h; split at h
  · assumption
  · cases h
theorem Row.gets_succ (B : Row) (o k : Nat) : B.gets o (k + 1) = match B.get o with
    | none => none
    | some v => match B.gets (o + 1) k with
      | none => none
      | some vs => some (v :: vs) := rfl
theorem Row.gets_spec {B : Row} : ∀ {k o : Nat} {vs : List Value}, B.gets o k = some vs → vs.length = k ∧ ∀ i, i < k → B.get (o + i) = vs[i]?
  | 0, o, vs, h => by cases h; exact ⟨rfl, fun i hi => by omega⟩
  | k + 1, o, vs, h => by
    rw [Row.gets_succ] at h
    split at h
    · cases h
    · rename_i v hv
      split at h
      · cases h
      · rename_i ws hw
        cases h
        obtain ⟨h1, h2⟩ := Row.gets_spec hw
        refine ⟨by simp [h1], fun i hi => ?_⟩
        cases i with
        | zero => simpa using hv
        | succ i => have := h2 i (by omega); rw [show o + (i + 1) = o + 1 + i by omega]; simpa using this
theorem cellsPut_cons (t : T Value) (o : Nat) (v : Value) (vs : List Value) : cellsPut t o (v :: vs) = cellsPut (t.put o v) (o + 1) vs := rfl
theorem cellsPut_get : ∀ (vs : List Value) (t : T Value) (o i : Nat), (cellsPut t o vs).get i = if o ≤ i ∧ i < o + vs.length then vs[i - o]? else t.get i
  | [], t, o, i => by simp [cellsPut]; intro h1 h2; omega
  | v :: vs, t, o, i => by
    rw [cellsPut_cons, cellsPut_get vs, T.get_put]
    by_cases h : i = o
    · subst h; rw [if_neg (by omega)]; simp
    · by_cases h2 : o ≤ i ∧ i < o + (v :: vs).length
      · have h3 : o + 1 ≤ i ∧ i < o + 1 + vs.length := by simp at h2; omega
        rw [if_pos h3, if_pos h2]
        obtain ⟨k, rfl⟩ : ∃ k, i = o + 1 + k := ⟨i - o - 1, by omega⟩
        rw [show o + 1 + k - (o + 1) = k by omega, show o + 1 + k - o = k + 1 by omega]; simp
      · have h3 : ¬ (o + 1 ≤ i ∧ i < o + 1 + vs.length) := by simp at h2; omega
        rw [if_neg h3, if_neg h2, if_neg h]

/-! ### the relation -/
/-- no cell of the row is frozen -/
def FzOk (es n : Nat) (fz : Nat × Nat) : Prop := fz = (0, 0) ∨ (es = 1 ∧ n ≤ fz.1)
theorem FzOk.free {es n : Nat} {fz : Nat × Nat} (h : FzOk es n fz) (i : Nat) (hi : i < n) : ¬ (fz.1 ≤ i ∧ i < fz.2) := by
  rcases h with rfl | ⟨_, h⟩
  · intro hh; exact absurd hh.2 (Nat.not_lt_zero _)
  · omega
def RowR (σ : Sg) (b : Nat) (B : Row) (o : Obj) : Prop :=
  ∃ c fz, o = .cells c B.elem fz ∧ c.size = σ.rs b ∧ σ.es b = B.es ∧ B.n ≤ c.size ∧ FzOk B.es c.size fz ∧ (∀ i v, B.get i = some v → ∃ v', c[i]? = some v' ∧ VR σ v v')
inductive MsR (σ : Sg) : List MapEntry → List MapEntry → Prop where
  | nil : MsR σ [] []
  | cons {k k' v v' : Value} {n : Nat} {l l' : List MapEntry} (hk : VR σ k k') (hv : VR σ v v') (hl : MsR σ l l') : MsR σ (⟨k, v, n⟩ :: l) (⟨k', v', n⟩ :: l')
def BlkR (σ : Sg) (b : Nat) : Blk → Obj → Prop
  | .row true B, o => RowR σ b B o
  | .row false _, _ => True
  | .ro _ _, _ => False
  | .map es clock _, o => ∃ es' : Array MapEntry, o = .map es' clock ∧ MsR σ es es'.toList
  | .iter s pos _, o => o = .stringIter s pos

/-- cells that are only read, in the real block -/
def RoR (σ : Sg) (w : World) (r lo : Nat) (l : List Value) : Prop := ∃ c e fz l', w.heap[r]? = some (.cells c e fz) ∧ VRs σ l l' ∧ ∀ k, k < l.length → c[lo + k]? = l'[k]?
structure Rel (σ : Sg) (h : H) (w : World) : Prop where
  dom : ∀ b, h.next ≤ b → h.get b = none
  tot : ∀ b, b < h.next → ∃ x, h.get b = some x
  jdom : ∀ b, h.next ≤ b → σ.j b = none
  blk : ∀ b x r, h.get b = some x → x.alive = true → σ.j b = some r → ∃ o, w.heap[r]? = some o ∧ BlkR σ b x o
  inj : ∀ b b' x x' r, h.get b = some x → x.alive = true → h.get b' = some x' → x'.alive = true → σ.j b = some r → σ.j b' = some r → b = b'
  ver : ∀ b x, h.get b = some x → x.ver < h.clock
  ro : ∀ b lo l r, h.get b = some (.ro lo l) → σ.j b = some r → RoR σ w r lo l ∧ ∀ b' x, h.get b' = some x → x.alive = true → σ.j b' ≠ some r

/-- what a step leaves as it was -/
structure Fr (σ : Sg) (h : H) (w : World) (σ' : Sg) (h' : H) (w' : World) : Prop where
  le : σ.le σ'
  os : w'.os = w.os
  tape : w'.tape = w.tape
  output : w'.output = w.output
  size : w.heap.size ≤ w'.heap.size
  keep : ∀ r, r < w.heap.size → (∀ b x, h.get b = some x → x.alive = true → σ.j b ≠ some r) → w'.heap[r]? = w.heap[r]?
  none : ∀ b, b < h.next → σ.j b = none → σ'.j b = none
  fresh : ∀ b r, h.next ≤ b → σ'.j b = some r → w.heap.size ≤ r ∨ ∃ b0 x, h.get b0 = some x ∧ x.alive = true ∧ σ.j b0 = some r ∧ ∃ x', h'.get b0 = some x' ∧ x'.alive = false
  next : h.next ≤ h'.next
  clock : h.clock ≤ h'.clock
  keepA : ∀ b x, h.get b = some x → ∃ x', h'.get b = some x' ∧ (x' = x ∨ (x.alive = true ∧ h.clock ≤ x'.ver))
  stay : ∀ b, b < h.next → σ.j b = Option.none → h'.get b = h.get b
  made : ∀ b, h.next ≤ b → b < h'.next → ∃ r, σ'.j b = some r
  ros : ∀ b lo l, h'.get b = some (.ro lo l) → h.get b = some (.ro lo l)

theorem RoR.mono {σ σ' : Sg} (h : σ.le σ') {w : World} {r lo : Nat} {l : List Value} (hr : RoR σ w r lo l) : RoR σ' w r lo l := by
  obtain ⟨c, e, fz, l', h1, h2, h3⟩ := hr
  have : VRs σ' l l' := by
    clear h3
    induction h2 with
    | nil => exact .nil
    | cons hv _ ih => exact .cons (hv.mono h) ih
  exact ⟨c, e, fz, l', h1, this, h3⟩
theorem RoR.heap {σ : Sg} {w w' : World} {r lo : Nat} {l : List Value} (hw : w'.heap[r]? = w.heap[r]?) (hr : RoR σ w r lo l) : RoR σ w' r lo l := by
  obtain ⟨c, e, fz, l', h1, h2, h3⟩ := hr
  exact ⟨c, e, fz, l', hw.trans h1, h2, h3⟩
/-- what is only read stays, whatever a step does -/
theorem ro_step {σ σ' : Sg} {h h' : H} {w w' : World} (R : Rel σ h w) (F : Fr σ h w σ' h' w') : ∀ b lo l r, h'.get b = some (.ro lo l) → σ'.j b = some r → RoR σ' w' r lo l ∧ ∀ b' x, h'.get b' = some x → x.alive = true → σ'.j b' ≠ some r := by
  intro b lo l r hb hj
  have hb0 := F.ros b lo l hb
  have hlt : b < h.next := by
    rcases Nat.lt_or_ge b h.next with q | q
    · exact q
    · rw [R.dom b q] at hb0; cases hb0
  have hj0 : σ.j b = some r := by
    cases hq : σ.j b with
    | none => rw [F.none b hlt hq] at hj; cases hj
    | some r0 => rw [F.le.j b r0 hq] at hj; exact hj
  obtain ⟨k1, k2⟩ := R.ro b lo l r hb0 hj0
  have hr : r < w.heap.size := by
    obtain ⟨c, e, fz, l', q1, _⟩ := k1
    exact (Array.getElem?_eq_some_iff.1 q1).1
  refine ⟨(k1.heap (F.keep r hr k2)).mono F.le, fun b' x hx ha hjb => ?_⟩
  rcases Nat.lt_or_ge b' h.next with q | q
  · obtain ⟨x0, q0⟩ := R.tot b' q
    obtain ⟨x1, q1, q2⟩ := F.keepA b' x0 q0
    rw [hx] at q1; cases q1
    have ha0 : x0.alive = true := by
      rcases q2 with rfl | q2
      · exact ha
      · exact q2.1
    have hjb0 : σ.j b' = some r := by
      cases hq : σ.j b' with
      | none => rw [F.none b' q hq] at hjb; cases hjb
      | some r0 => rw [F.le.j b' r0 hq] at hjb; exact hjb
    exact k2 b' x0 q0 ha0 hjb0
  · rcases F.fresh b' r q hjb with q1 | ⟨b0, x0, q1, q2, q3, _⟩
    · omega
    · exact k2 b0 x0 q1 q2 q3

theorem Fr.refl {σ : Sg} {h : H} {w w' : World} (R : Rel σ h w) (hh : w'.heap = w.heap) (h1 : w'.os = w.os) (h2 : w'.tape = w.tape) (h3 : w'.output = w.output) : Fr σ h w σ h w' where
  le := Sg.le.refl σ
  os := h1
  tape := h2
  output := h3
  size := by rw [hh]; exact Nat.le_refl _
  keep := fun r _ _ => by rw [hh]
  none := fun _ _ h => h
  fresh := fun b r hb hj => by rw [R.jdom b hb] at hj; cases hj
  next := Nat.le_refl _
  clock := Nat.le_refl _
  keepA := fun b x hx => ⟨x, hx, .inl rfl⟩
  stay := fun _ _ _ => rfl
  made := fun b h1 h2 => absurd h1 (Nat.not_le_of_lt h2)
  ros := fun _ _ _ h => h

theorem Rel.heap {σ : Sg} {h : H} {w w' : World} (R : Rel σ h w) (hh : w'.heap = w.heap) : Rel σ h w' where
  dom := R.dom
  tot := R.tot
  jdom := R.jdom
  blk := fun b x r hx ha hj => by rw [hh]; exact R.blk b x r hx ha hj
  inj := R.inj
  ver := R.ver
  ro := fun b lo l r hb hj => ⟨(R.ro b lo l r hb hj).1.heap (by rw [hh]), (R.ro b lo l r hb hj).2⟩

theorem Fr.trans {σ σ' σ'' : Sg} {h h' h'' : H} {w w' w'' : World} (R : Rel σ h w) (R' : Rel σ' h' w') (a : Fr σ h w σ' h' w') (b : Fr σ' h' w' σ'' h'' w'') : Fr σ h w σ'' h'' w'' := by
  -- a block of old, alive later: it was alive, and where it was
  have old : ∀ c x r, c < h.next → h'.get c = some x → x.alive = true → σ'.j c = some r → ∃ x0, h.get c = some x0 ∧ x0.alive = true ∧ σ.j c = some r := by
    intro c x r hc hx ha hj
    obtain ⟨x0, hx0⟩ := R.tot c hc
    obtain ⟨x1, hx1, hk⟩ := a.keepA c x0 hx0
    rw [hx1] at hx; cases hx
    refine ⟨x0, hx0, ?_, ?_⟩
    · rcases hk with rfl | ⟨h1, _⟩
      · exact ha
      · exact h1
    · cases hj0 : σ.j c with
      | none => rw [a.none c hc hj0] at hj; cases hj
      | some r0 => rw [a.le.j c r0 hj0] at hj; exact hj
  -- dead stays dead
  have dead : ∀ c x, h'.get c = some x → x.alive = false → ∃ x', h''.get c = some x' ∧ x'.alive = false := by
    intro c x hx hd
    obtain ⟨x1, hx1, hk⟩ := b.keepA c x hx
    refine ⟨x1, hx1, ?_⟩
    rcases hk with rfl | ⟨h1, _⟩
    · exact hd
    · rw [hd] at h1; cases h1
  refine ⟨a.le.trans b.le, b.os.trans a.os, b.tape.trans a.tape, b.output.trans a.output, Nat.le_trans a.size b.size, ?_, ?_, ?_, Nat.le_trans a.next b.next, Nat.le_trans a.clock b.clock, ?_, fun c hc hj => (b.stay c (Nat.lt_of_lt_of_le hc a.next) (a.none c hc hj)).trans (a.stay c hc hj), fun c h1 h2 => ?_, fun c lo l hc => a.ros c lo l (b.ros c lo l hc)⟩
  · intro r hr hfree
    rw [b.keep r (Nat.lt_of_lt_of_le hr a.size) ?_, a.keep r hr hfree]
    intro c x hx ha hj
    rcases Nat.lt_or_ge c h.next with hc | hc
    · obtain ⟨x0, k1, k2, k3⟩ := old c x r hc hx ha hj
      exact hfree c x0 k1 k2 k3
    · rcases a.fresh c r hc hj with h1 | ⟨b0, x0, k1, k2, k3, _⟩
      · omega
      · exact hfree b0 x0 k1 k2 k3
  · intro c hc hj
    exact b.none c (Nat.lt_of_lt_of_le hc a.next) (a.none c hc hj)
  · intro c r hc hj
    rcases Nat.lt_or_ge c h'.next with h1 | h1
    · cases hj' : σ'.j c with
      | none => rw [b.none c h1 hj'] at hj; cases hj
      | some r' =>
        rw [b.le.j c r' hj'] at hj; cases hj
        rcases a.fresh c r hc hj' with h2 | ⟨b0, x0, k1, k2, k3, x1, k4, k5⟩
        · exact .inl h2
        · obtain ⟨x2, k6, k7⟩ := dead b0 x1 k4 k5
          exact .inr ⟨b0, x0, k1, k2, k3, x2, k6, k7⟩
    · rcases b.fresh c r h1 hj with h2 | ⟨b0, x0, k1, k2, k3, x1, k4, k5⟩
      · exact .inl (Nat.le_trans a.size h2)
      · rcases Nat.lt_or_ge b0 h.next with h3 | h3
        · obtain ⟨x2, k6, k7, k8⟩ := old b0 x0 r h3 k1 k2 k3
          exact .inr ⟨b0, x2, k6, k7, k8, x1, k4, k5⟩
        · rcases a.fresh b0 r h3 k3 with h4 | ⟨b1, x3, m1, m2, m3, x4, m4, m5⟩
          · exact .inl h4
          · obtain ⟨x5, m6, m7⟩ := dead b1 x4 m4 m5
            exact .inr ⟨b1, x3, m1, m2, m3, x5, m6, m7⟩
  · intro c x hx
    obtain ⟨x1, k1, k2⟩ := a.keepA c x hx
    obtain ⟨x2, k3, k4⟩ := b.keepA c x1 k1
    refine ⟨x2, k3, ?_⟩
    rcases k4 with rfl | ⟨k4, k5⟩
    · exact k2
    · rcases k2 with rfl | ⟨k2, k6⟩
      · exact .inr ⟨k4, Nat.le_trans a.clock k5⟩
      · exact .inr ⟨k2, Nat.le_trans a.clock k5⟩
  · rcases Nat.lt_or_ge c h'.next with h3 | h3
    · obtain ⟨r, hr⟩ := a.made c h1 h3
      exact ⟨r, b.le.j c r hr⟩
    · exact b.made c h3 h2

theorem MsR.mono {σ σ' : Sg} (h : σ.le σ') {l l' : List MapEntry} (hl : MsR σ l l') : MsR σ' l l' := by
  induction hl with
  | nil => exact .nil
  | cons hk hv _ ih => exact .cons (hk.mono h) (hv.mono h) ih
theorem BlkR.mono {σ σ' : Sg} (h : σ.le σ') {b r : Nat} (hj : σ.j b = some r) {x : Blk} {o : Obj} (hb : BlkR σ b x o) : BlkR σ' b x o := by
  cases x with
  | row l B => cases l with
    | false => trivial
    | true =>
      obtain ⟨c, fz, h1, h2, h3, h4, h5, h6⟩ := hb
      refine ⟨c, fz, h1, by rw [h.rs _ _ hj]; exact h2, by rw [h.es _ _ hj]; exact h3, h4, h5, fun i v hv => ?_⟩
      obtain ⟨v', k1, k2⟩ := h6 i v hv
      exact ⟨v', k1, k2.mono h⟩
  | map es clock ver => obtain ⟨es', h1, h2⟩ := hb; exact ⟨es', h1, h2.mono h⟩
  | iter s pos ver => exact hb
  | ro lo l => exact hb.elim

/-! ### one block is written -/
theorem H.get_put (h : H) (b c : Nat) (x : Blk) : (h.put b x).get c = if c = b then some x else h.get c := T.get_put h.t b c x
theorem H.get_new (h : H) (c : Nat) (x : Blk) : (h.new x).get c = if c = h.next then some x else h.get c := T.get_put h.t h.next c x

theorem Rel.upd {σ : Sg} {h : H} {w w' : World} (R : Rel σ h w) {b r : Nat} {x x' : Blk} {o' : Obj} (hx : h.get b = some x) (ha : x.alive = true) (hj : σ.j b = some r)
    (hv : x'.ver = h.clock) (hr : w'.heap[r]? = some o') (hb : BlkR σ b x' o') (hother : ∀ k, k ≠ r → w'.heap[k]? = w.heap[k]?) (hsz : w'.heap.size = w.heap.size)
    (h1 : w'.os = w.os) (h2 : w'.tape = w.tape) (h3 : w'.output = w.output) : Rel σ (h.put b x') w' ∧ Fr σ h w σ (h.put b x') w' := by
  have hbn : b < h.next := by
    rcases Nat.lt_or_ge b h.next with k | k
    · exact k
    · rw [R.dom b k] at hx; cases hx
  have ver1 := R.ver b x hx
  have F : Fr σ h w σ (h.put b x') w' := by
    refine ⟨Sg.le.refl σ, h1, h2, h3, by omega, fun s hs hfree => ?_, fun _ _ k => k, fun c s hc hjs => ?_, Nat.le_refl _, Nat.le_succ _, fun c y hy => ?_, fun c hc hjc => ?_, fun c h1 h2 => absurd h1 (Nat.not_le_of_lt h2), fun c lo l hc => ?_⟩
    · exact hother s fun e => hfree b x hx ha (by rw [e]; exact hj)
    · rw [R.jdom c hc] at hjs; cases hjs
    · rw [H.get_put]
      split
      · rename_i e; subst e; rw [hx] at hy; cases hy; exact ⟨x', rfl, .inr ⟨ha, by omega⟩⟩
      · exact ⟨y, hy, .inl rfl⟩
    · rw [H.get_put, if_neg (fun e => by rw [e, hj] at hjc; cases hjc)]
    · rw [H.get_put] at hc
      split at hc
      · cases hc; exact hb.elim
      · exact hc
  constructor
  · refine ⟨fun c hc => ?_, fun c hc => ?_, R.jdom, fun c y s hy hya hjs => ?_, fun c c' y y' s hy hya hy' hya' k1 k2 => ?_, fun c y hy => ?_, ro_step R F⟩
    · have hc : h.next ≤ c := hc
      rw [H.get_put, if_neg (by omega)]; exact R.dom c hc
    · have hc : c < h.next := hc
      rw [H.get_put]; split
      · exact ⟨_, rfl⟩
      · exact R.tot c hc
    · rw [H.get_put] at hy
      split at hy
      · rename_i e; subst e; cases hy; rw [hj] at hjs; cases hjs; exact ⟨o', hr, hb⟩
      · rename_i e
        obtain ⟨o, k1, k2⟩ := R.blk c y s hy hya hjs
        have : s ≠ r := fun q => by subst q; exact e (R.inj c b y x s hy hya hx ha hjs hj)
        exact ⟨o, by rw [hother s this]; exact k1, k2⟩
    · have al : ∀ c y, (h.put b x').get c = some y → y.alive = true → ∃ z, h.get c = some z ∧ z.alive = true := by
        intro c y hy hya
        rw [H.get_put] at hy
        split at hy
        · rename_i e; subst e; exact ⟨x, hx, ha⟩
        · exact ⟨y, hy, hya⟩
      obtain ⟨z, z1, z2⟩ := al c y hy hya
      obtain ⟨z', z3, z4⟩ := al c' y' hy' hya'
      exact R.inj c c' z z' s z1 z2 z3 z4 k1 k2
    · show y.ver < h.clock + 1
      rw [H.get_put] at hy
      split at hy
      · cases hy; omega
      · have := R.ver c y hy; omega
  · exact F

/-- a place more -/
def Sg.add (σ : Sg) (b r rs es : Nat) : Sg := ⟨fun c => if c = b then some r else σ.j c, fun c => if c = b then rs else σ.rs c, fun c => if c = b then es else σ.es c⟩
theorem Sg.le_add {σ : Sg} {b r rs es : Nat} (h : σ.j b = none) : σ.le (σ.add b r rs es) := by
  have ne : ∀ c s, σ.j c = some s → c ≠ b := fun c s hc e => by subst e; rw [h] at hc; cases hc
  exact ⟨fun c s hc => by simp [Sg.add, ne c s hc, hc], fun c s hc => by simp [Sg.add, ne c s hc], fun c s hc => by simp [Sg.add, ne c s hc]⟩

theorem Rel.new {σ : Sg} {h : H} {w w' : World} (R : Rel σ h w) {x : Blk} {o : Obj} {rs es : Nat} (hv : x.ver = h.clock) (hw : w'.heap = w.heap.push o) (hb : BlkR (σ.add h.next w.heap.size rs es) h.next x o)
    (h1 : w'.os = w.os) (h2 : w'.tape = w.tape) (h3 : w'.output = w.output) :
    Rel (σ.add h.next w.heap.size rs es) (h.new x) w' ∧ Fr σ h w (σ.add h.next w.heap.size rs es) (h.new x) w' := by
  have hj0 := R.jdom h.next (Nat.le_refl _)
  have le : σ.le (σ.add h.next w.heap.size rs es) := Sg.le_add hj0
  have old : ∀ r, r < w.heap.size → w'.heap[r]? = w.heap[r]? := fun r hr => by rw [hw, Array.getElem?_push, if_neg (by omega)]
  have hd0 := R.dom h.next (Nat.le_refl _)
  have jn : ∀ c r, (σ.add h.next w.heap.size rs es).j c = some r → c ≠ h.next → σ.j c = some r := fun c r hc hne => by simpa [Sg.add, hne] using hc
  have F : Fr σ h w (σ.add h.next w.heap.size rs es) (h.new x) w' := by
    refine ⟨le, h1, h2, h3, by rw [hw]; simp, fun s hs _ => old s hs, fun c hc hjc => ?_, fun c s hc hjs => ?_, Nat.le_succ _, Nat.le_succ _, fun c y hy => ?_, fun c hc _ => by rw [H.get_new, if_neg (by omega)], fun c h1 h2 => ⟨w.heap.size, by
      have h2 : c < h.next + 1 := h2
      have e : c = h.next := by omega
      rw [e]; simp [Sg.add]⟩, fun c lo l hc => ?_⟩
    · have : c ≠ h.next := by omega
      simp [Sg.add, this, hjc]
    · by_cases e : c = h.next
      · subst e; simp [Sg.add] at hjs; exact .inl (by omega)
      · have := jn c s hjs e; rw [R.jdom c hc] at this; cases this
    · have : c ≠ h.next := fun e => by subst e; rw [hd0] at hy; cases hy
      exact ⟨y, by rw [H.get_new, if_neg this]; exact hy, .inl rfl⟩
    · rw [H.get_new] at hc
      split at hc
      · cases hc; exact hb.elim
      · exact hc
  constructor
  · refine ⟨fun c hc => ?_, fun c hc => ?_, fun c hc => ?_, fun c y s hy hya hjs => ?_, fun c c' y y' s hy hya hy' hya' k1 k2 => ?_, fun c y hy => ?_, ro_step R F⟩
    · have hc : h.next + 1 ≤ c := hc
      rw [H.get_new, if_neg (by omega)]; exact R.dom c (by omega)
    · have hc : c < h.next + 1 := hc
      rw [H.get_new]; split
      · exact ⟨_, rfl⟩
      · exact R.tot c (by omega)
    · have hc : h.next + 1 ≤ c := hc
      have : c ≠ h.next := by omega
      simp [Sg.add, this]; exact R.jdom c (by omega)
    · rw [H.get_new] at hy
      split at hy
      · rename_i e; subst e; cases hy
        have : s = w.heap.size := by simp [Sg.add] at hjs; exact hjs.symm
        subst this
        exact ⟨o, by rw [hw]; simp, hb⟩
      · rename_i e
        have hj := jn c s hjs e
        obtain ⟨p, k1, k2⟩ := R.blk c y s hy hya hj
        have hs : s < w.heap.size := (Array.getElem?_eq_some_iff.1 k1).1
        exact ⟨p, by rw [old s hs]; exact k1, k2.mono le hj⟩
    · have lt : ∀ c y s, c ≠ h.next → (h.new x).get c = some y → y.alive = true → (σ.add h.next w.heap.size rs es).j c = some s → h.get c = some y ∧ σ.j c = some s ∧ s < w.heap.size := by
        intro c y s hne hy hya hjs
        rw [H.get_new, if_neg hne] at hy
        have hj := jn c s hjs hne
        obtain ⟨p, k1, _⟩ := R.blk c y s hy hya hj
        exact ⟨hy, hj, (Array.getElem?_eq_some_iff.1 k1).1⟩
      have at0 : ∀ s, (σ.add h.next w.heap.size rs es).j h.next = some s → s = w.heap.size := fun s hs => by simp [Sg.add] at hs; exact hs.symm
      by_cases e : c = h.next
      · by_cases e' : c' = h.next
        · rw [e, e']
        · obtain ⟨_, _, q⟩ := lt c' y' s e' hy' hya' k2
          subst e; have := at0 s k1; omega
      · by_cases e' : c' = h.next
        · obtain ⟨_, _, q⟩ := lt c y s e hy hya k1
          subst e'; have := at0 s k2; omega
        · obtain ⟨q1, q2, _⟩ := lt c y s e hy hya k1
          obtain ⟨q3, q4, _⟩ := lt c' y' s e' hy' hya' k2
          exact R.inj c c' y y' s q1 hya q3 hya' q2 q4
    · show y.ver < h.clock + 1
      rw [H.get_new] at hy
      split at hy
      · cases hy; omega
      · have := R.ver c y hy; omega
  · exact F
theorem Sg.add_j {σ : Sg} {b r rs es : Nat} : (σ.add b r rs es).j b = some r := by simp [Sg.add]
end Go.Proofs.Ytnjeafdbifcfhaa.Den
