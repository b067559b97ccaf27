/- A small machine for closed runs: reading memory, and making it. No condition. -/
import Derived.Test.YtnjeafdbifcfhaaDenF
namespace Go.Proofs.Ytnjeafdbifcfhaa.Den
open Go
set_option linter.unusedSimpArgs false
set_option linter.unusedVariables false

theorem H.rowAt_some {h : H} {b : Nat} {B : Row} (e : h.rowAt b = some B) : h.get b = some (.row true B) := by
  unfold H.rowAt at e
  split at e
  · rename_i hh; cases e; exact hh
  · cases e

/-- the blocks that live are there, and those that are only read -/
structure Core (σ : Sg) (h : H) (w : World) : Prop where
  blk : ∀ b x r, h.get b = some x → x.alive = true → σ.j b = some r → ∃ o, w.heap[r]? = some o ∧ BlkR σ b x o
  ro : ∀ b lo l r, h.get b = some (.ro lo l) → σ.j b = some r → RoR σ w r lo l
theorem Rel.core {σ : Sg} {h : H} {w : World} (R : Rel σ h w) : Core σ h w := ⟨R.blk, fun b lo l r h1 h2 => (R.ro b lo l r h1 h2).1⟩
/-- a row that lives, seen from both sides -/
theorem Core.row {σ : Sg} {h : H} {w : World} (R : Core σ h w) {b r : Nat} {B : Row} (hB : h.rowAt b = some B) (hj : σ.j b = some r) :
    ∃ c fz, w.heap[r]? = some (.cells c B.elem fz) ∧ c.size = σ.rs b ∧ σ.es b = B.es ∧ B.n ≤ c.size ∧ FzOk B.es c.size fz ∧ (∀ i v, B.get i = some v → ∃ v', c[i]? = some v' ∧ VR σ v v') := by
  obtain ⟨o, h1, c, fz, rfl, h2⟩ := R.blk b _ r (H.rowAt_some hB) rfl hj
  exact ⟨c, fz, h1, h2⟩
theorem Rel.row {σ : Sg} {h : H} {w : World} (R : Rel σ h w) {b r : Nat} {B : Row} (hB : h.rowAt b = some B) (hj : σ.j b = some r) :
    ∃ c fz, w.heap[r]? = some (.cells c B.elem fz) ∧ c.size = σ.rs b ∧ σ.es b = B.es ∧ B.n ≤ c.size ∧ FzOk B.es c.size fz ∧ (∀ i v, B.get i = some v → ∃ v', c[i]? = some v' ∧ VR σ v v') := R.core.row hB hj

theorem cell_eq {w : World} {r o : Nat} {c : Array Value} {e : TypeId} {fz : Nat × Nat} (h : w.heap[r]? = some (.cells c e fz)) : w.cell? ⟨r, o, none⟩ = c[o]? := by simp [World.cell?, h]

theorem loadCells_run {P : Program} {w : World} {r : Nat} {c : Array Value} {e : TypeId} {fz : Nat × Nat} (h : w.heap[r]? = some (.cells c e fz)) : ∀ (vs : List Value) (o i : Nat) (acc : Array Value), (∀ k, k < vs.length → c[o + i + k]? = vs[k]?) →
    (loadCellsFrom ⟨r, o, none⟩ i vs.length acc).run P w = .ok (acc ++ vs.toArray) w
  | [], o, i, acc, _ => by simp [loadCellsFrom]
  | v :: vs, o, i, acc, hk => by
    have h0 := hk 0 (by simp)
    have h0 : w.cell? ⟨r, o + i, none⟩ = some v := by rw [cell_eq h]; simpa using h0
    simp only [List.length_cons, loadCellsFrom, addr_add, Sem.run_bind, run_load, h0, Result.andThen_ok]
    rw [loadCells_run h vs o (i + 1) (acc.push v) (fun k hk' => by have := hk (k + 1) (by simpa using hk'); rw [show o + (i + 1) + k = o + i + (k + 1) by omega]; simpa using this)]
    simp

theorem pick_cells {σ : Sg} {B : Row} {c : Array Value} (hc : ∀ (i : Nat) (v : Value), B.get i = some v → ∃ v', c[i]? = some v' ∧ VR σ v v') : ∀ {n o : Nat} {vs : List Value}, B.gets o n = some vs →
    ∃ vs', vs'.length = n ∧ VRs σ vs vs' ∧ ∀ k, k < n → c[o + k]? = vs'[k]?
  | 0, o, vs, h => by cases h; exact ⟨[], rfl, .nil, fun k hk => by omega⟩
  | n + 1, o, vs, h => by
    rw [Row.gets_succ] at h
    split at h
    · cases h
    · rename_i v hv
      split at h
      · cases h
      · rename_i ws hw
        cases h
        obtain ⟨v', k1, k2⟩ := hc o v hv
        obtain ⟨ws', q1, q2, q3⟩ := pick_cells hc hw
        refine ⟨v' :: ws', by simp [q1], .cons k2 q2, fun k hk => ?_⟩
        cases k with
        | zero => simpa using k1
        | succ k => have := q3 k (by omega); rw [show o + (k + 1) = o + 1 + k by omega]; simpa using this

theorem H.gets_run {σ : Sg} {h : H} {w : World} (R : Core σ h w) {b r o n : Nat} {vs : List Value} (hg : h.gets b o n = some vs) (hj : σ.j b = some r) :
    ∃ c e fz vs', w.heap[r]? = some (.cells c e fz) ∧ vs'.length = n ∧ VRs σ vs vs' ∧ ∀ k, k < n → c[o + k]? = vs'[k]? := by
  unfold H.gets at hg
  split at hg
  · rename_i B hB
    obtain ⟨o1, h1, c, fz, rfl, _, _, _, _, hc⟩ := R.blk b _ r hB rfl hj
    obtain ⟨vs', q1, q2, q3⟩ := pick_cells hc hg
    exact ⟨c, _, fz, vs', h1, q1, q2, q3⟩
  · rename_i lo l hB
    obtain ⟨c, e, fz, l', h1, h2, h3⟩ := R.ro b lo l r hB hj
    unfold roGets at hg
    obtain ⟨hq, hg⟩ := cond_some hg
    cases hg
    simp only [Bool.and_eq_true] at hq
    have q1 := ble_le hq.1
    have q2 := ble_le hq.2
    have hl := h2.length
    refine ⟨c, e, fz, (l'.drop (o - lo)).take n, h1, by simp; omega, (h2.drop _).take _, fun k hk => ?_⟩
    have := h3 (o - lo + k) (by omega)
    rw [show lo + (o - lo + k) = o + k by omega] at this
    rw [this, List.getElem?_take, if_pos hk, List.getElem?_drop]
  · cases hg
theorem H.cell_run {σ : Sg} {h : H} {w : World} (R : Core σ h w) {b r o : Nat} {v : Value} (hg : h.cell b o = some v) (hj : σ.j b = some r) :
    ∃ c e fz v', w.heap[r]? = some (.cells c e fz) ∧ c[o]? = some v' ∧ VR σ v v' := by
  unfold H.cell at hg
  split at hg
  · rename_i B hB
    obtain ⟨o1, h1, c, fz, rfl, _, _, _, _, hc⟩ := R.blk b _ r hB rfl hj
    obtain ⟨v', k1, k2⟩ := hc o v hg
    exact ⟨c, _, fz, v', h1, k1, k2⟩
  · rename_i lo l hB
    obtain ⟨c, e, fz, l', h1, h2, h3⟩ := R.ro b lo l r hB hj
    obtain ⟨hq, hg⟩ := cond_some hg
    have q1 := ble_le hq
    obtain ⟨v', k1, k2⟩ := h2.get _ hg
    have hlt : o - lo < l.length := (List.getElem?_eq_some_iff.1 hg).1
    have := h3 (o - lo) hlt
    rw [show lo + (o - lo) = o by omega] at this
    exact ⟨c, e, fz, v', h1, this.trans k1, k2⟩
  · cases hg

theorem loadA_run {P : Program} {w : World} {σ : Sg} {h : H} (R : Core σ h w) {t : TypeId} {x x' v : Value} (hl : loadA P t h x = some v) (hx : VR σ x x') : ∃ v', (Instr.loadAt t x').run P w = .ok v' w ∧ VR σ v v' := by
  unfold loadA at hl
  split at hl
  · rename_i b o
    cases hx with
    | ptr _ hj =>
      rename_i r
      split at hl
      · rename_i n ha hn
        split at hl
        · rename_i vs hvs
          cases hl
          obtain ⟨c, e, fz, vs', h1, q1, q2, q3⟩ := H.gets_run R hvs hj
          refine ⟨.agg vs'.toArray, ?_, q2.agg⟩
          have := loadCells_run (P := P) h1 vs' o 0 #[] (fun k hk => by rw [Nat.add_zero]; exact q3 k (by omega))
          rw [q1] at this
          simp [Instr.loadAt, Instr.sureAddr, loadVar, isAggA_run ha, sizeA_run hn, loadCells, this]
        · cases hl
      · rename_i ha
        obtain ⟨c, e, fz, v', h1, k1, k2⟩ := H.cell_run R hl hj
        refine ⟨v', ?_, k2⟩
        have : w.cell? ⟨r, o, none⟩ = some v' := by rw [cell_eq h1]; exact k1
        simp [Instr.loadAt, Instr.sureAddr, loadVar, isAggA_run ha, this]
      · cases hl
  · cases hl

theorem bytesA_run {σ : Sg} : ∀ {vs vs' : List Value} {bs : List UInt8}, bytesA vs = some bs → VRs σ vs vs' → vs' = vs ∧ ∃ ns : List Nat, vs = ns.map (fun n : Nat => Value.int .u8 n) ∧ bs = ns.map UInt8.ofNat
  | [], vs', bs, h, hv => by cases h; cases hv; exact ⟨rfl, [], rfl, rfl⟩
  | v :: vs, vs', bs, h, hv => by
    unfold bytesA at h
    split at h
    · rename_i he; cases he
    · rename_i n l he
      cases he
      split at h
      · rename_i bs' hb
        cases h
        cases hv with
        | cons h1 h2 =>
          obtain ⟨e, ns, k1, k2⟩ := bytesA_run hb h2
          have := h1.int_inv; subst this; subst e
          exact ⟨rfl, n :: ns, by rw [k1]; rfl, by rw [k2]; rfl⟩
      · cases h
    · cases h

theorem pushes (l : List UInt8) : ∀ s : ByteArray, (l.foldl ByteArray.push s) = ⟨s.data ++ l.toArray⟩ := by
  induction l with
  | nil => intro s; simp
  | cons a l ih => intro s; rw [List.foldl_cons, ih]; simp [ByteArray.push]

theorem textLoop_run {P : Program} {w : World} (f : Value → ByteArray → Sem (ForInStep ByteArray)) (hf : ∀ (n : Nat) (s : ByteArray), f (.int .u8 n) s = pure (.yield (s.push (UInt8.ofNat n)))) : ∀ (ns : List Nat) (s : ByteArray),
    (forIn (ns.map (fun n : Nat => Value.int .u8 n)) s f : Sem ByteArray).run P w = .ok ((ns.map UInt8.ofNat).foldl ByteArray.push s) w
  | [], s => by simp
  | n :: ns, s => by
    simp only [List.map_cons, List.forIn_cons, hf, Sem.run_bind, Sem.run_pure, Result.andThen_ok, List.foldl_cons]
    exact textLoop_run f hf ns (s.push (UInt8.ofNat n))

theorem textA_run {P : Program} {w : World} {σ : Sg} {h : H} (R : Core σ h w) {e : TypeId} {x x' v : Value} (hl : textA P e h x = some v) (hx : VR σ x x') :
    P.underlying e = some (.int .u8) ∧ (Conv.bytesToString x').run P w = .ok v w ∧ VR σ v v := by
  unfold textA at hl
  split at hl
  · rename_i hu
    refine ⟨hu, ?_⟩
    split at hl
    · cases hl; cases hx; exact ⟨by simp [Conv.bytesToString], .string _⟩
    · cases hl; cases hx with
      | emp a c => exact ⟨by simp [Conv.bytesToString, loadCells, loadCellsFrom], .string _⟩
    · rename_i b o len cap
      split at hl
      · rename_i vs hvs
        split at hl
        · rename_i bs hbs
          cases hl
          cases hx with
          | slice _ _ hj hc =>
            rename_i r cap'
            obtain ⟨c, e, fz, vs', h1, q1, q2, q3⟩ := H.gets_run R hvs hj
            obtain ⟨rfl, ns, k1, k2⟩ := bytesA_run hbs q2
            refine ⟨?_, .string _⟩
            have hld := loadCells_run (P := P) h1 vs' o 0 #[] (fun k hk => by rw [Nat.add_zero]; exact q3 k (by omega))
            rw [q1] at hld
            subst k1
            simp only [Conv.bytesToString, loadCells, Sem.run_bind, hld, Result.andThen_ok, Array.empty_append, List.forIn_toArray]
            rw [textLoop_run _ (fun n s => rfl) ns ByteArray.empty]
            simp only [Result.andThen_ok, Sem.run_pure, k2, pushes]
            simp
        · cases hl
      · cases hl
    · cases hl
  · cases hl

/-! ### maps -/
theorem keyEq_now {σ : Sg} {d : TypeDesc} {k e e' : Value} {b : Bool} (hk : keyDesc (some d) k = true) (h : keyEq k e = some b) (he : VR σ e e') : Instr.sameNow d k e' = some b := by
  cases k with
  | int kk n =>
    cases d with
    | int kd =>
      cases e with
      | int k' m =>
        have := he.int_inv; subst this
        have h : (if kk = k' then some (n == m) else none) = some b := h
        by_cases hkk : kk = k'
        · rw [if_pos hkk] at h; cases h; simp [Instr.sameNow, hkk]
        · rw [if_neg hkk] at h; cases h
      | _ => cases h
    | _ => cases hk
  | string s =>
    cases d with
    | string =>
      cases e with
      | string s' => have := he.string_inv; subst this; cases h; rfl
      | _ => cases h
    | _ => cases hk
  | bool s =>
    cases d with
    | bool =>
      cases e with
      | bool s' => have := he.bool_inv; subst this; cases h; rfl
      | _ => cases h
    | _ => cases hk
  | _ => cases d <;> cases hk
def FoundR (σ : Sg) : Option (Nat × Value) → Option (Nat × Value) → Prop
  | none, none => True
  | some (a, v), some (a', v') => a = a' ∧ VR σ v v'
  | _, _ => False
theorem findA_now {σ : Sg} {d : TypeDesc} {k : Value} (hk : keyDesc (some d) k = true) {es es' : List MapEntry} (he : MsR σ es es') : ∀ {i : Nat} {q : Option (Nat × Value)}, findA k es i = some q →
    ∃ q', Instr.findNow d k es' i = some q' ∧ FoundR σ q q' := by
  induction he with
  | nil => intro i q h; cases h; exact ⟨none, rfl, trivial⟩
  | @cons k1 k1' v v' n l l' hk1 hv hl ih =>
    intro i q h
    unfold findA at h
    unfold Instr.findNow
    split at h
    · rename_i hq; cases h
      simp only at hq
      rw [show Instr.sameNow d k k1' = some true from keyEq_now hk hq hk1]
      exact ⟨_, rfl, rfl, hv⟩
    · rename_i hq
      simp only at hq
      rw [show Instr.sameNow d k k1' = some false from keyEq_now hk hq hk1]
      exact ih h
    · cases h
theorem keyDesc_VR {σ : Sg} {d : Option TypeDesc} {k k' : Value} (h : keyDesc d k = true) (hk : VR σ k k') : k' = k ∧ ∃ d', d = some d' ∧ (∀ b n, (Instr.checkKey b (n + 1) · k) = fun t => Instr.checkKey b (n + 1) t k) := by
  unfold keyDesc at h
  split at h
  · exact ⟨hk.int_inv, _, rfl, fun _ _ => rfl⟩
  · exact ⟨hk.string_inv, _, rfl, fun _ _ => rfl⟩
  · exact ⟨hk.bool_inv, _, rfl, fun _ _ => rfl⟩
  · cases h
theorem checkKey_run' {P : Program} {w : World} {kt : TypeId} {k : Value} (h : keyDesc (P.underlying kt) k = true) (b : Bool) (n : Nat) : (Instr.checkKey b (n + 1) kt k).run P w = .ok () w := by
  unfold keyDesc at h
  split at h
  · rename_i hd; simp [Instr.checkKey, run_underlying hd]
  · rename_i hd; simp [Instr.checkKey, run_underlying hd]
  · rename_i hd; simp [Instr.checkKey, run_underlying hd]
  · cases h
theorem checkKey_run {P : Program} {w : World} {kt : TypeId} {k : Value} (h : keyDesc (P.underlying kt) k = true) (b : Bool) : (Instr.checkKey b 10000 kt k).run P w = .ok () w := checkKey_run' h b 9999

theorem keyDesc_some {P : Program} {kt : TypeId} {k : Value} (hk : keyDesc (P.underlying kt) k = true) : ∃ d, P.underlying kt = some d := by
  cases hq : P.underlying kt with
  | none => rw [hq] at hk; cases hk
  | some d => exact ⟨d, rfl⟩

/-- a key is looked for, on both sides -/
theorem findKey_run {P : Program} {w : World} {σ : Sg} {kt : TypeId} {es es' : List MapEntry} {k : Value} {q : Option (Nat × Value)} (h : findA k es 0 = some q) (hk : keyDesc (P.underlying kt) k = true) (he : MsR σ es es') :
    ∃ q', (Instr.findKey kt k es').run P w = .ok q' w ∧ FoundR σ q q' := by
  obtain ⟨d, hd⟩ := keyDesc_some hk
  rw [hd] at hk
  obtain ⟨q', k1, k2⟩ := findA_now hk he h
  exact ⟨q', by simp [Instr.findKey, run_underlying hd, k1], k2⟩

theorem lookA_run {P : Program} {w : World} {σ : Sg} {kt et : TypeId} {ok : Bool} {es es' : List MapEntry} {k v : Value} (h : lookA P et ok es k = some v) (hk : keyDesc (P.underlying kt) k = true) (he : MsR σ es es') :
    (∃ i u', (Instr.findKey kt k es').run P w = .ok (some (i, u')) w ∧ VR σ v (if ok then .tuple #[u', .bool true] else u')) ∨
    (∃ z, (Instr.findKey kt k es').run P w = .ok none w ∧ (zeroValue et).run P w = .ok z w ∧ VR σ v (if ok then .tuple #[z, .bool false] else z)) := by
  unfold lookA at h
  have tup : ∀ {a a' : Value} (b : Bool), VR σ a a' → VR σ (cond ok (.tuple #[a, .bool b]) a) (if ok then .tuple #[a', .bool b] else a') := fun {a a'} b ha => by
    cases ok
    · exact ha
    · exact VRs.tuple (.cons ha (.cons (.bool b) .nil))
  split at h
  · rename_i i u hf
    cases h
    obtain ⟨q', k1, k2⟩ := findKey_run (w := w) hf hk he
    cases q' with
    | none => exact k2.elim
    | some p =>
      obtain ⟨a', v'⟩ := p
      exact .inl ⟨_, _, k1, tup true k2.2⟩
  · rename_i hf
    split at h
    · rename_i z hz
      cases h
      obtain ⟨z1, z2⟩ := zeroA_run hz w
      obtain ⟨q', k1, k2⟩ := findKey_run (w := w) hf hk he
      cases q' with
      | some p => exact k2.elim
      | none => exact .inr ⟨z, k1, z1, tup false (plain_VR σ z2)⟩
    · cases h
  · cases h

theorem lookupA_run {P : Program} {w : World} {σ : Sg} {h : H} (R : Core σ h w) {t : TypeId} {ok : Bool} {x x' k k' v : Value} (hl : lookupA P t ok h x k = some v) (hx : VR σ x x') (hk : VR σ k k') :
    ∃ v', (Instr.lookup t x' k' ok).run P w = .ok v' w ∧ VR σ v v' := by
  unfold lookupA at hl
  split at hl
  · rename_i kt et hu
    obtain ⟨hq, hl2⟩ := cond_some hl
    clear hl
    obtain ⟨e, _⟩ := keyDesc_VR hq hk
    subst e
    split at hl2
    · cases hx
      rcases lookA_run (w := w) hl2 hq (MsR.nil (σ := σ)) with ⟨i, u', k1, k2⟩ | ⟨z, k1, k3, k2⟩
      · exact ⟨_, by simp [Instr.lookup, run_underlying hu, checkKey_run hq, k1], k2⟩
      · exact ⟨_, by simp [Instr.lookup, run_underlying hu, checkKey_run hq, k1, k3], k2⟩
    · split at hl2
      · rename_i b x2 es clock ver hb
        cases hx with
        | map hj =>
          rename_i r
          obtain ⟨o, h1, es', rfl, h2⟩ := R.blk b _ r hb rfl hj
          have hg : (getObj r).run P w = .ok (.map es' clock) w := by simp [getObj, Sem.run, h1]
          rcases lookA_run (w := w) hl2 hq h2 with ⟨i, u', k1, k2⟩ | ⟨z, k1, k3, k2⟩
          · exact ⟨_, by simp [Instr.lookup, run_underlying hu, hg, checkKey_run hq, k1], k2⟩
          · exact ⟨_, by simp [Instr.lookup, run_underlying hu, hg, checkKey_run hq, k1, k3], k2⟩
      · cases hl2
    · cases hl2
  · cases hl

theorem MsR.length {σ : Sg} {l l' : List MapEntry} (h : MsR σ l l') : l.length = l'.length := by
  induction h with
  | nil => rfl
  | cons _ _ _ ih => simp [ih]
theorem mapLenA_run {P : Program} {w : World} {σ : Sg} {h : H} (R : Core σ h w) {t ty : TypeId} {ts : Array TypeId} (ht : ts[0]? = some t) {k e : TypeId} (hu : P.underlying t = some (.map k e)) {x x' v : Value} (hl : mapLenA h x = some v) (hx : VR σ x x') :
    (Builtin.len_ ts ty #[x']).run P w = .ok v w ∧ VR σ v v := by
  unfold mapLenA at hl
  split at hl
  · rename_i b
    split at hl
    · rename_i es clock ver hb
      cases hl
      cases hx with
      | map hj =>
        rename_i r
        obtain ⟨o, h1, es', rfl, h2⟩ := R.blk b _ r hb rfl hj
        have : (getObj r).run P w = .ok (.map es' clock) w := by simp [getObj, Sem.run, h1]
        refine ⟨?_, .int _ _⟩
        simp [Builtin.len_, ht, run_underlying hu, this, goInt, h2.length]
    · cases hl
  · cases hl
end Go.Proofs.Ytnjeafdbifcfhaa.Den
