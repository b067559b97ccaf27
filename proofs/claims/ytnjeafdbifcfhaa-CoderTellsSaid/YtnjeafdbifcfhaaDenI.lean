/- A small machine for closed runs: memory that is written. No condition. -/
import Derived.Test.YtnjeafdbifcfhaaDenH
namespace Go.Proofs.Ytnjeafdbifcfhaa.Den
open Go
set_option linter.unusedSimpArgs false
set_option linter.unusedVariables false

theorem one_cell (v : Value) : one v = v.oneCell' := by cases v <;> rfl
theorem VRs.ones {σ : Sg} {vs vs' : List Value} (h : VRs σ vs vs') (ho : vs.all one = true) : ∀ v ∈ vs', v.oneCell' = true := by
  induction h with
  | nil => intro v hv; simp at hv
  | cons hx _ ih =>
    simp only [List.all_cons, Bool.and_eq_true] at ho
    intro v hv
    rcases List.mem_cons.1 hv with rfl | hv
    · rw [← one_cell, hx.one]; exact ho.1
    · exact ih ho.2 v hv

/-- cells of one row are stored -/
theorem storeCells_run {P : Program} {r : Nat} {e : TypeId} {fz : Nat × Nat} : ∀ (vs : List Value) (o i : Nat) (w : World) (c : Array Value), w.heap[r]? = some (.cells c e fz) → o + i + vs.length ≤ c.size → (∀ k, k < c.size → ¬ (fz.1 ≤ k ∧ k < fz.2)) → (∀ v ∈ vs, v.oneCell' = true) →
    ∃ w' c', (storeCells ⟨r, o, none⟩ vs i).run P w = .ok () w' ∧ w'.heap[r]? = some (.cells c' e fz) ∧ c'.size = c.size ∧ (∀ k, c'[k]? = if o + i ≤ k ∧ k < o + i + vs.length then vs[k - (o + i)]? else c[k]?) ∧
      (∀ k, k ≠ r → w'.heap[k]? = w.heap[k]?) ∧ w'.heap.size = w.heap.size ∧ w'.os = w.os ∧ w'.tape = w.tape ∧ w'.output = w.output
  | [], o, i, w, c, h, hs, hf, h1 => ⟨w, c, by simp [storeCells], h, rfl, fun k => by rw [if_neg (by simp)], fun _ _ => rfl, rfl, rfl, rfl, rfl⟩
  | v :: vs, o, i, w, c, h, hs, hf, h1 => by
    simp only [List.length_cons] at hs
    have hlt : o + i < c.size := by omega
    have hc : w.cell? ⟨r, o + i, none⟩ = some c[o + i] := by rw [cell_eq h]; simp [hlt]
    have hz : w.frozen? ⟨r, o + i, none⟩ = false := by
      have := hf (o + i) hlt
      simp only [World.frozen?, h]
      simp; omega
    have hw : (w.setCell ⟨r, o + i, none⟩ v).heap[r]? = some (.cells (c.setIfInBounds (o + i) v) e fz) := by
      simp [World.setCell, Array.getElem?_modify, h]
    have hother : ∀ k, k ≠ r → (w.setCell ⟨r, o + i, none⟩ v).heap[k]? = w.heap[k]? := by
      intro k hk
      simp only [World.setCell, Array.getElem?_modify]
      rw [if_neg (fun q => hk q.symm)]
    obtain ⟨w', c', k1, k2, k3, k4, k5, k6, k7, k8, k9⟩ := storeCells_run (P := P) vs o (i + 1) (w.setCell ⟨r, o + i, none⟩ v) _ hw (by simp; omega) (by simpa using hf) (fun u hu => h1 u (by simp [hu]))
    refine ⟨w', c', ?_, k2, by simpa using k3, fun k => ?_, fun k hk => (k5 k hk).trans (hother k hk), by rw [k6]; simp [World.setCell], k7, k8, k9⟩
    · simp only [storeCells, addr_add, Sem.run_bind]
      rw [run_store P w _ v _ (h1 v (by simp)), hc]
      simp only [hz, Bool.false_eq_true, if_false, Result.andThen_ok]
      exact k1
    · rw [k4 k]
      simp only [List.length_cons]
      by_cases hk : k = o + i
      · subst hk
        rw [if_neg (by omega), if_pos (by omega)]
        simp [hlt]
      · by_cases hin : o + i ≤ k ∧ k < o + i + (vs.length + 1)
        · rw [if_pos (by omega), if_pos hin]
          obtain ⟨m, rfl⟩ : ∃ m, k = o + i + 1 + m := ⟨k - (o + i + 1), by omega⟩
          rw [show o + i + 1 + m - (o + (i + 1)) = m by omega, show o + i + 1 + m - (o + i) = m + 1 by omega]; simp
        · rw [if_neg (by omega), if_neg hin, Array.getElem?_setIfInBounds_ne (by omega)]

/-- what a row reads as behind a store -/
theorem put_get (B : Row) (o : Nat) (vs : List Value) (ver n : Nat) (i : Nat) : Row.get { B with cells := cellsPut B.cells o vs, n := n, ver := ver } i = if i < n then (if o ≤ i ∧ i < o + vs.length then vs[i - o]? else some ((B.cells.get i).getD (zAt B.z i))) else none := by
  rw [Row.get_eq]
  show (if i < n then some (((cellsPut B.cells o vs).get i).getD (zAt B.z i)) else none) = _
  rw [cellsPut_get]
  by_cases h : i < n
  · rw [if_pos h, if_pos h]
    by_cases h2 : o ≤ i ∧ i < o + vs.length
    · rw [if_pos h2, if_pos h2]
      have : i - o < vs.length := by omega
      simp [this]
    · rw [if_neg h2, if_neg h2]
  · rw [if_neg h, if_neg h]

theorem storeA_run {P : Program} {σ : Sg} {h : H} {w : World} (R : Rel σ h w) {b o r : Nat} {vs vs' : List Value} {h' : H} (hs : storeA h b o vs = some h') (hj : σ.j b = some r) (hv : VRs σ vs vs') :
    ∃ w', (storeCells ⟨r, o, none⟩ vs').run P w = .ok () w' ∧ Rel σ h' w' ∧ Fr σ h w σ h' w' := by
  unfold storeA at hs
  split at hs
  · cases hs; cases hv
    exact ⟨w, by simp [storeCells], R, Fr.refl R rfl rfl rfl rfl⟩
  · split at hs
    · rename_i v0 vs0 _ B hB
      obtain ⟨hq, hs⟩ := cond_some hs
      cases hs
      simp only [Bool.and_eq_true] at hq
      have hq1 := ble_le hq.1
      obtain ⟨c, fz, h1, h2, h3, h4, h5, h6⟩ := R.row hB hj
      have hl := hv.length
      obtain ⟨w', c', k1, k2, k3, k4, k5, k6, k7, k8, k9⟩ := storeCells_run (P := P) vs' o 0 w c h1 (by omega) h5.free (hv.ones hq.2)
      refine ⟨w', k1, Rel.upd R (x' := .row true { B with cells := cellsPut B.cells o (v0 :: vs0), ver := h.clock }) (H.rowAt_some hB) rfl hj rfl k2 ⟨c', fz, rfl, k3.trans h2, h3, by rw [k3]; exact h4, by rw [k3]; exact h5, fun i v hi => ?_⟩ k5 k6 k7 k8 k9⟩
      have hi' : Row.get { B with cells := cellsPut B.cells o (v0 :: vs0), n := B.n, ver := h.clock } i = some v := hi
      rw [put_get] at hi'
      split at hi'
      · rename_i hin
        rw [k4 i]
        split at hi'
        · rename_i hr
          rw [if_pos (by rw [← hl]; omega)]
          obtain ⟨v', q1, q2⟩ := hv.get (i - o) hi'
          exact ⟨v', by simpa using q1, q2⟩
        · rename_i hr
          rw [if_neg (by rw [← hl]; omega)]
          exact h6 i v (by rw [Row.get_eq, if_pos hin]; exact hi')
      · cases hi'
    · cases hs

theorem storeO_run {P : Program} {σ : Sg} {h : H} {w : World} (R : Rel σ h w) {t : TypeId} {x y : Option Value} {x' y' v : Value} {h' : H} (hx : ∀ u, x = some u → VR σ u x') (hy : ∀ u, y = some u → VR σ u y') (hs : storeO P t h x y = some (v, h')) :
    v = undef ∧ ∃ w', (Instr.storeAt t x' y').run P w = .ok () w' ∧ Rel σ h' w' ∧ Fr σ h w σ h' w' := by
  unfold storeO at hs
  split at hs
  · rename_i b o u
    split at hs
    · rename_i n hn
      obtain ⟨hq, hs⟩ := cond_some hs
      have hq := beq_eq hq
      unfold unit at hs
      split at hs
      · rename_i h1 hst
        cases hs
        have hx := hx _ rfl
        have hy := hy _ rfl
        cases hx with
        | ptr _ hj =>
          obtain ⟨w', k1, k2, k3⟩ := storeA_run (P := P) R hst hj hy.cells
          refine ⟨rfl, w', ?_, k2, k3⟩
          have hl := hy.cells.length
          have : y'.cells.size = n := by rw [← hq, hl]; simp
          simp [Instr.storeAt, Instr.sureAddr, storeVar, sizeA_run hn, this, k1]
      · cases hs
    · cases hs
  · cases hs

theorem first_run {P : Program} {σ : Sg} {h : H} {w : World} (R : Rel σ h w) {s n : Nat} {x x' : Value} {cs : List Value} (hf : firstA h s n x = some cs) (hx : VR σ x x') :
    ∃ cs', (Builtin.firstCells s n x').run P w = .ok cs' w ∧ VRs σ cs cs'.toList := by
  unfold firstA at hf
  split at hf
  · cases hf; cases hx; exact ⟨#[], by simp [Builtin.firstCells], .nil⟩
  · obtain ⟨hn, hf⟩ := cond_some hf
    have hn := beq_eq hn
    subst hn
    cases hf; cases hx with
    | emp a c => exact ⟨#[], by simp [Builtin.firstCells, loadCells, loadCellsFrom], .nil⟩
  · rename_i b o len cap
    cases hx with
    | slice _ _ hj hc =>
      rename_i r cap'
      obtain ⟨c, e, fz, vs', h1, q1, q2, q3⟩ := H.gets_run R.core hf hj
      have := loadCells_run (P := P) h1 vs' o 0 #[] (fun k hk => by rw [Nat.add_zero]; exact q3 k (by omega))
      rw [q1] at this
      exact ⟨vs'.toArray, by simp [Builtin.firstCells, loadCells, this], by simpa using q2⟩
  · rename_i s'
    cases hf
    have := hx.string_inv; subst this
    refine ⟨_, rfl, ?_⟩
    have e : ((s'.extract 0 n).data.map fun b => Value.int .u8 b.toNat).toList = (s'.data.toList.take n).map fun c => Value.int .u8 (.ofNat c.toNat) := by
      rw [Array.toList_map]
      congr 1
      rw [ByteArray.data_extract, Array.toList_extract]; simp
    rw [e]
    have : ∀ l : List UInt8, VRs σ (l.map fun c => Value.int .u8 (.ofNat c.toNat)) (l.map fun c => Value.int .u8 (.ofNat c.toNat)) := by
      intro l; induction l with
      | nil => exact .nil
      | cons a l ih => exact .cons (.int _ _) ih
    exact this _
  · cases hf
theorem lenV_run {P : Program} {σ : Sg} {w : World} {x x' : Value} {n : Nat} (h : lenV x = some n) (hx : VR σ x x') : (Builtin.lenOf x').run P w = .ok n w := by
  unfold lenV at h
  split at h
  · cases h; cases hx <;> simp [Builtin.lenOf]
  · cases h; have := hx.string_inv; subst this; simp [Builtin.lenOf]
  · cases h

theorem copyA_run {P : Program} {σ : Sg} {h : H} {w : World} (R : Rel σ h w) {t ty : TypeId} {ts : Array TypeId} (ht : ts[0]? = some t) {d d' s s' v : Value} {h' : H} (hc : copyA P t d s h = some (v, h')) (hd : VR σ d d') (hs : VR σ s s') :
    Does P σ h w (Builtin.copy_ ts ty #[d', s']) v h' := by
  unfold copyA at hc
  have a0 : (#[d', s'] : Array Value)[0]? = some d' := rfl
  have a1 : (#[d', s'] : Array Value)[1]? = some s' := rfl
  split at hc
  · rename_i e hu
    split at hc
    · rename_i sz base dlen cap m hsz hm
      have hlen := lenV_run (P := P) (w := w) hm hs
      split at hc
      · rename_i cs hcs
        obtain ⟨cs', f1, f2⟩ := first_run (P := P) R hcs hs
        split at hc
        · obtain ⟨hq, hc⟩ := cond_some hc
          cases hc
          cases hd
          refine Does.pure R (v' := .int .i64 (.ofNat (Nat.min m 0))) ?_ (.int _ _)
          simp only [Builtin.copy_, ht, a0, a1, Sem.run_bind, run_underlying hu, Result.andThen_ok, hlen, sizeA_run hsz, f1, Sem.run_pure, goInt]
          rfl
        · rename_i b o
          split at hc
          · rename_i h1 hst
            cases hc
            cases hd with
            | slice _ _ hj hcap =>
              rename_i r cap'
              obtain ⟨w', k1, k2, k3⟩ := storeA_run (P := P) R hst hj f2
              refine ⟨σ, w', .int .i64 (.ofNat (Nat.min m dlen)), ?_, .int _ _, k2, k3⟩
              simp only [Builtin.copy_, ht, a0, a1, Sem.run_bind, run_underlying hu, Result.andThen_ok, hlen, sizeA_run hsz, f1, Sem.run_pure, goInt, k1]
              rfl
          · cases hc
        · obtain ⟨hq, hc⟩ := cond_some hc
          have hq := beq_eq hq
          cases hc
          cases hd with
          | emp a c =>
            have hz : cs'.toList = [] := by
              have := f2.length
              rw [hq] at this
              exact List.length_eq_zero_iff.1 this.symm
            refine Does.pure R (v' := .int .i64 (.ofNat (Nat.min m 0))) ?_ (.int _ _)
            simp only [Builtin.copy_, ht, a0, a1, Sem.run_bind, run_underlying hu, Result.andThen_ok, hlen, sizeA_run hsz, f1, Sem.run_pure, goInt, hz, storeCells]
            rfl
      · cases hc
    · cases hc
  · cases hc

/-! ### append -/
theorem growBy_le (newLen : Nat) : ∀ (k c : Nat), 256 ≤ c → c < 2 * newLen → 256 < newLen → Builtin.growBy newLen k c ≤ 2 * newLen
  | 0, c, _, h, _ => by unfold Builtin.growBy; omega
  | k + 1, c, h0, h, h1 => by
    unfold Builtin.growBy
    split
    · omega
    · exact growBy_le newLen k _ (by omega) (by omega) h1
theorem nextcap_le {need cap : Nat} (h : cap < need) : Builtin.nextslicecap need cap ≤ 2 * need := by
  unfold Builtin.nextslicecap
  split
  · omega
  · split
    · omega
    · exact growBy_le need 4 cap (by omega) (by omega) (by omega)

/-- what is appended: so many elements, these cells, in whatever world with this heap -/
def Brings (P : Program) (ts : Array TypeId) (e : TypeId) (i : TypeInfo) (x : Value) (w : World) (n : Nat) (new : Array Value) : Prop :=
  (∃ t1 d, ts[1]? = some t1 ∧ P.underlying t1 = some d ∧ (∀ k, d ≠ .int k) ∧ (Builtin.lenOf x).run P w = .ok n w ∧ ∀ w2 : World, w2.heap = w.heap → (Builtin.firstCells i.size n x).run P w2 = .ok new w2) ∨
  (∃ t1 k k2 z, ts[1]? = some t1 ∧ P.underlying t1 = some (.int k) ∧ x = .int k2 n ∧ n ≤ 140737488355328 ∧ n * i.bytes ≤ 140737488355328 ∧ i.zero = some z ∧ new = Builtin.zeroCells z.cells n ∧ z.cells.size = i.size)

theorem int_matches {d : TypeDesc} (h : ∀ k, d ≠ .int k) : (d matches .int _) = false := by
  cases d <;> first | rfl | exact absurd rfl (h _)

theorem zero_none (z : Array Value) (n s : Nat) (hz : z.size = s) (h : n * s = 0) : Builtin.zeroCells z n = #[] := by
  unfold Builtin.zeroCells; rw [hz, h]; simp

theorem append_room {P : Program} {w w' : World} {ts : Array TypeId} {t ty e : TypeId} (ht : ts[0]? = some t) (hu : P.underlying t = some (.slice e)) {i : TypeInfo} (hi : P.info? e = some i) {base : Option Addr} {len cap n : Nat} {x : Value} {new : Array Value}
    (hb : Brings P ts e i x w n new) (hroom : len + n ≤ cap)
    (hs : match base with | some a => (storeCells (a.add (len * i.size)) new.toList).run P w = .ok () w' | none => w' = w) :
    (Builtin.append_ ts ty #[.slice base len cap, x]).run P w = .ok (.slice base (len + n) cap) w' := by
  have a0 : (#[Value.slice base len cap, x] : Array Value)[0]? = some (.slice base len cap) := rfl
  have a1 : (#[Value.slice base len cap, x] : Array Value)[1]? = some x := rfl
  rcases hb with ⟨t1, d, h1, h2, h3, h4, h5⟩ | ⟨t1, k, k2, z, h1, h2, rfl, h4, h5, h6, rfl, h8⟩
  · have hm := int_matches h3
    have h5 := h5 w rfl
    cases base with
    | none =>
      subst hs
      simp only [Builtin.append_, ht, a0, a1, h1, Sem.run_bind, run_underlying hu, run_underlying h2, Result.andThen_ok, sizeOf, info_run hi, Sem.run_pure, hm, Bool.false_eq_true, if_false, h4, Bool.not_false, if_true, if_pos hroom, h5]
    | some a =>
      simp only [Builtin.append_, ht, a0, a1, h1, Sem.run_bind, run_underlying hu, run_underlying h2, Result.andThen_ok, sizeOf, info_run hi, Sem.run_pure, hm, Bool.false_eq_true, if_false, h4, Bool.not_false, if_true, if_pos hroom, h5, hs]
  · have hm : ((TypeDesc.int k) matches .int _) = true := rfl
    have hw : IntKind.i64.wrap (n : Int) = n := by rw [wrap_small _ _ rfl]; simp [IntKind.bits]; omega
    have n1 : ¬ ((n : Int) < 0) := by omega
    have n2 : ¬ ((n : Int) * (i.bytes : Int) > 2 ^ 48) := by
      have : ((n * i.bytes : Nat) : Int) ≤ 140737488355328 := by omega
      rw [Int.natCast_mul] at this; omega
    have hzr : ∀ w2 : World, (zeroValue e).run P w2 = .ok z w2 := fun w2 => by simp [zeroValue, typeInfo, hi, h6]
    have happ : ∀ w2 : World, (if n * i.size = 0 then Pure.pure #[] else do Pure.pure (Builtin.zeroCells (← zeroValue e).cells n) : Sem (Array Value)).run P w2 = .ok (Builtin.zeroCells z.cells n) w2 := by
      intro w2
      by_cases h0 : n * i.size = 0
      · rw [if_pos h0, zero_none _ _ _ h8 h0]; rfl
      · rw [if_neg h0]; simp [hzr]
    cases base with
    | none =>
      subst hs
      simp only [Builtin.append_, ht, a0, a1, h1, Sem.run_bind, run_underlying hu, run_underlying h2, Result.andThen_ok, sizeOf, info_run hi, Sem.run_pure, Bool.false_eq_true, if_false, asInt, asIntOf, hw, n1, n2, Int.toNat_natCast, Bool.not_true, if_true, if_pos hroom, happ]
    | some a =>
      simp only [Builtin.append_, ht, a0, a1, h1, Sem.run_bind, run_underlying hu, run_underlying h2, Result.andThen_ok, sizeOf, info_run hi, Sem.run_pure, Bool.false_eq_true, if_false, asInt, asIntOf, hw, n1, n2, Int.toNat_natCast, Bool.not_true, if_true, if_pos hroom, happ, hs]

/-- where there is none: a new row -/
theorem append_grow {P : Program} {w : World} {ts : Array TypeId} {t ty e : TypeId} (ht : ts[0]? = some t) (hu : P.underlying t = some (.slice e)) {i : TypeInfo} (hi : P.info? e = some i) {z : Value} (hz : i.zero = some z) (hzs : z.cells.size = i.size) {base : Option Addr} {len cap n : Nat} {x : Value} {old new : Array Value}
    (hb : Brings P ts e i x w n new) (hroom : cap < len + n) (hsz : i.bytes ≠ 0) (hbig : (len + n) * i.bytes ≤ 140737488355328)
    (hold : ∀ w2 : World, w2.heap = w.heap → (Builtin.firstCells i.size len (.slice base len cap)).run P w2 = .ok old w2) :
    ∃ cap', len + n ≤ cap' ∧ (Builtin.append_ ts ty #[.slice base len cap, x]).run P w = .ok (.slice (some ⟨w.heap.size, 0, none⟩) (len + n) cap')
      { w with drawn := w.drawn + 1, heap := w.heap.push (.cells (old ++ new ++ Builtin.zeroCells z.cells (cap' - (len + n))) e (0, 0)) } := by
  have a0 : (#[Value.slice base len cap, x] : Array Value)[0]? = some (.slice base len cap) := rfl
  have a1 : (#[Value.slice base len cap, x] : Array Value)[1]? = some x := rfl
  let q : Question := .appendCap (len + n) cap e
  have hf : q.forced = false := rfl
  let cap' := q.cut (w.tape w.drawn q)
  have hcap : len + n ≤ cap' := by show len + n ≤ len + n + _ % _; omega
  have hnr : ¬ (len + n ≤ cap) := by omega
  have hle : len + n ≤ 140737488355328 := Nat.le_trans (Nat.le_mul_of_pos_right _ (Nat.pos_of_ne_zero hsz)) hbig
  have m1 : ¬ ((len + n : Nat) : Int) > IntKind.i64.max := by
    have e : IntKind.i64.max = 9223372036854775807 := by decide
    rw [e]; omega
  have m2 : ¬ (Builtin.nextslicecap (len + n) cap * i.bytes > 2 ^ 48) := by
    have h1 := nextcap_le hroom
    have h2 := Nat.mul_le_mul_right i.bytes h1
    have h3 : 2 * (len + n) * i.bytes = 2 * ((len + n) * i.bytes) := Nat.mul_assoc _ _ _
    omega
  have hzr : ∀ w2 : World, (zeroValue e).run P w2 = .ok z w2 := fun w2 => by simp [zeroValue, typeInfo, hi, hz]
  refine ⟨cap', hcap, ?_⟩
  let w1 : World := { w with drawn := w.drawn + 1 }
  have hch : (choose (.appendCap (len + n) cap e)).run P w = .ok cap' w1 := by rw [run_choose, show Question.appendCap (len + n) cap e = q from rfl, hf]; rfl
  rcases hb with ⟨t1, d, h1, h2, h3, h4, h5⟩ | ⟨t1, k, k2, z', h1, h2, rfl, h4, h5, h6, rfl, h8⟩
  · have hm := int_matches h3
    have h5 := h5 w1 rfl
    have ho := hold w1 rfl
    have m3 : ¬ (((len + n : Nat) : Int) > IntKind.i64.max ∧ (False ∨ i.bytes = 0)) := fun h => m1 h.1
    simp only [Builtin.append_, ht, a0, a1, h1, Sem.run_bind, run_underlying hu, run_underlying h2, Result.andThen_ok, sizeOf, info_run hi, Sem.run_pure, hm, Bool.false_eq_true, if_false, h4, Bool.not_false, if_true, if_neg hnr, hch, run_askRoom, ho, h5, hzr, newRow, run_newObj, hsz, or_self, and_false, if_neg m2]
    rfl
  · have hw : IntKind.i64.wrap (n : Int) = n := by rw [wrap_small _ _ rfl]; simp [IntKind.bits]; omega
    have n1 : ¬ ((n : Int) < 0) := by omega
    have n2 : ¬ ((n : Int) * (i.bytes : Int) > 2 ^ 48) := by
      have : ((n * i.bytes : Nat) : Int) ≤ 140737488355328 := by omega
      rw [Int.natCast_mul] at this; omega
    have ez : z' = z := by rw [hz] at h6; cases h6; rfl
    subst ez
    have happ : ∀ w2 : World, (if n * i.size = 0 then Pure.pure #[] else do Pure.pure (Builtin.zeroCells (← zeroValue e).cells n) : Sem (Array Value)).run P w2 = .ok (Builtin.zeroCells z'.cells n) w2 := by
      intro w2
      by_cases h0 : n * i.size = 0
      · rw [if_pos h0, zero_none _ _ _ h8 h0]; rfl
      · rw [if_neg h0]; simp [hzr]
    have ho := hold w1 rfl
    simp only [Builtin.append_, ht, a0, a1, h1, Sem.run_bind, run_underlying hu, run_underlying h2, Result.andThen_ok, sizeOf, info_run hi, Sem.run_pure, Bool.false_eq_true, if_false, asInt, asIntOf, hw, n1, n2, Int.toNat_natCast, Bool.not_true, if_true, if_neg hnr, hch, run_askRoom, ho, happ, hzr, newRow, run_newObj, hsz, or_false, and_true, if_neg m1, if_neg m2]
    rfl
end Go.Proofs.Ytnjeafdbifcfhaa.Den
