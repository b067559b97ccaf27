/- A small machine for closed runs: append, maps, the bytes of a string one by one. No condition. -/
import Derived.Test.YtnjeafdbifcfhaaDenI
namespace Go.Proofs.Ytnjeafdbifcfhaa.Den
open Go
set_option linter.unusedSimpArgs false
set_option linter.unusedVariables false

/-- a block is seen under a new number -/
theorem Rel.move {σ : Sg} {h : H} {w : World} (R : Rel σ h w) {x : Blk} {o : Obj} {r rs es : Nat} (hv : x.ver = h.clock) (hfree : ∀ c y, h.get c = some y → y.alive = true → σ.j c ≠ some r) (hr : w.heap[r]? = some o)
    (hb : BlkR (σ.add h.next r rs es) h.next x o) (hro : ∀ c lo l, h.get c = some (.ro lo l) → σ.j c ≠ some r) : Rel (σ.add h.next r rs es) (h.new x) w := by
  have hj0 := R.jdom h.next (Nat.le_refl _)
  have le : σ.le (σ.add h.next r rs es) := Sg.le_add hj0
  have jn : ∀ c s, (σ.add h.next r rs es).j c = some s → c ≠ h.next → σ.j c = some s := fun c s hc hne => by simpa [Sg.add, hne] using hc
  refine ⟨fun c hc => ?_, fun c hc => ?_, fun c hc => ?_, fun c y s hy hya hjs => ?_, fun c c' y y' s hy hya hy' hya' k1 k2 => ?_, fun c y hy => ?_, fun c lo l s hc hjs => ?_⟩
  · have hc : h.next + 1 ≤ c := hc
    rw [H.get_new, if_neg (by omega)]; exact R.dom c (by omega)
  · have hc : c < h.next + 1 := hc
    rw [H.get_new]; split
    · exact ⟨_, rfl⟩
    · exact R.tot c (by omega)
  · have hc : h.next + 1 ≤ c := hc
    have : c ≠ h.next := by omega
    simp [Sg.add, this]; exact R.jdom c (by omega)
  · rw [H.get_new] at hy
    split at hy
    · rename_i e; subst e; cases hy
      have : s = r := by simp [Sg.add] at hjs; exact hjs.symm
      subst this
      exact ⟨o, hr, hb⟩
    · rename_i e
      have hj := jn c s hjs e
      obtain ⟨p, k1, k2⟩ := R.blk c y s hy hya hj
      exact ⟨p, k1, k2.mono le hj⟩
  · have lt : ∀ c y s, c ≠ h.next → (h.new x).get c = some y → y.alive = true → (σ.add h.next r rs es).j c = some s → h.get c = some y ∧ σ.j c = some s ∧ s ≠ r := by
      intro c y s hne hy hya hjs
      rw [H.get_new, if_neg hne] at hy
      have hj := jn c s hjs hne
      exact ⟨hy, hj, fun e => hfree c y hy hya (by rw [← e]; exact hj)⟩
    have at0 : ∀ s, (σ.add h.next r rs es).j h.next = some s → s = r := fun s hs => by simp [Sg.add] at hs; exact hs.symm
    by_cases e : c = h.next
    · by_cases e' : c' = h.next
      · rw [e, e']
      · obtain ⟨_, _, q⟩ := lt c' y' s e' hy' hya' k2
        subst e; exact absurd (at0 s k1) q
    · by_cases e' : c' = h.next
      · obtain ⟨_, _, q⟩ := lt c y s e hy hya k1
        subst e'; exact absurd (at0 s k2) q
      · obtain ⟨q1, q2, _⟩ := lt c y s e hy hya k1
        obtain ⟨q3, q4, _⟩ := lt c' y' s e' hy' hya' k2
        exact R.inj c c' y y' s q1 hya q3 hya' q2 q4
  · show y.ver < h.clock + 1
    rw [H.get_new] at hy
    split at hy
    · cases hy; omega
    · have := R.ver c y hy; omega
  · rw [H.get_new] at hc
    split at hc
    · cases hc; exact hb.elim
    · rename_i e
      obtain ⟨k1, k2⟩ := R.ro c lo l s hc (jn c s hjs e)
      refine ⟨k1.mono le, fun c' y hy hya hjc => ?_⟩
      rw [H.get_new] at hy
      split at hy
      · rename_i e'; subst e'
        have : s = r := by simp [Sg.add] at hjc; exact hjc.symm
        subst this
        exact hro c lo l hc (jn c s hjs e)
      · rename_i e'
        exact k2 c' y hy hya (jn c' s hjc e')

theorem zeroCells_size (z : Array Value) (n : Nat) : (Builtin.zeroCells z n).size = n * z.size := by simp [Builtin.zeroCells]

/-- a new row behind append: its first cells are told -/
theorem grown_new {P : Program} {σ : Sg} {h : H} {w : World} (R : Rel σ h w) {B : Row} {old new rest : Array Value} {tot cap' : Nat} (hv : B.ver = h.clock) (hn : B.n ≤ old.size + new.size) (hz : (old ++ new ++ rest).size = cap' * B.es)
    (hc : ∀ i v, B.get i = some v → ∃ v', (old ++ new)[i]? = some v' ∧ VR σ v v') (htot : tot ≤ cap') :
    ∃ σ' w', { w with drawn := w.drawn + 1, heap := w.heap.push (.cells (old ++ new ++ rest) B.elem (0, 0)) } = w' ∧ VR σ' (.slice (some ⟨h.next, 0, none⟩) tot (unkOf B.es)) (.slice (some ⟨w.heap.size, 0, none⟩) tot cap') ∧ Rel σ' (h.new (.row true B)) w' ∧ Fr σ h w σ' (h.new (.row true B)) w' := by
  have hget : ∀ i v, B.get i = some v → ∃ v', (old ++ new ++ rest)[i]? = some v' ∧ VR σ v v' := by
    intro i v hi
    obtain ⟨v', k1, k2⟩ := hc i v hi
    have hlt : i < (old ++ new).size := (Array.getElem?_eq_some_iff.1 k1).1
    exact ⟨v', by rw [Array.getElem?_append_left hlt]; exact k1, k2⟩
  obtain ⟨k1, k2⟩ := new_row (P := P) R (B := B) (c := old ++ new ++ rest) (fz := (0, 0)) (w' := { w with drawn := w.drawn + 1, heap := w.heap.push (.cells (old ++ new ++ rest) B.elem (0, 0)) }) hv rfl rfl rfl rfl (by simp; omega) (.inl rfl) hget
  exact ⟨_, _, rfl, .slice 0 tot Sg.add_j (.inr ⟨by simp [Sg.add], htot, by rw [show (σ.add h.next w.heap.size (old ++ new ++ rest).size B.es).es h.next = B.es by simp [Sg.add], show (σ.add h.next w.heap.size (old ++ new ++ rest).size B.es).rs h.next = (old ++ new ++ rest).size by simp [Sg.add], hz]; omega⟩), k1, k2⟩

theorem list_get_append {σ : Sg} {l l' m m' : List Value} (h : VRs σ l l') (hm : VRs σ m m') : VRs σ (l ++ m) (l' ++ m') := h.append hm

theorem growA_run {P : Program} {σ : Sg} {h : H} {w : World} (R : Rel σ h w) {ts : Array TypeId} {t ty e : TypeId} (ht : ts[0]? = some t) (hu : P.underlying t = some (.slice e)) {i : TypeInfo} (hi : P.info? e = some i) {z : Value} (hz : i.zero = some z) (hzs : z.cells.size = i.size)
    {b o len cap n r cap' : Nat} {B : Row} {new : List Value} {new' : Array Value} {x' v : Value} {h' : H} (hs0 : i.size ≠ 0) (hs1 : i.bytes ≠ 0) (hbig : (len + n) * i.bytes ≤ 140737488355328) (hnl : new.length = n * i.size) (hone : new.all one = true)
    (hB : h.rowAt b = some B) (hj : σ.j b = some r) (hcap : CapR σ b o len cap cap') (hb : Brings P ts e i x' w n new') (hnew : VRs σ new new'.toList) (hg : growA B b o len n cap i.size e new h = some (v, h')) :
    Does P σ h w (Builtin.append_ ts ty #[.slice (some ⟨r, o, none⟩) len cap', x']) v h' := by
  unfold growA at hg
  obtain ⟨he, hg⟩ := cond_some hg
  have he := beq_eq he
  obtain ⟨c, fz, r1, r2, r3, r4, r5, r6⟩ := R.row hB hj
  have hnl' : new'.size = n * i.size := by have := hnew.length; simp at this; omega
  have hpos : 0 < i.size := Nat.pos_of_ne_zero hs0
  have inplace : ∀ {h1 : H}, len + n ≤ cap' → storeA h b (o + len * i.size) new = some h1 → ∃ w', (Builtin.append_ ts ty #[.slice (some ⟨r, o, none⟩) len cap', x']).run P w = .ok (.slice (some ⟨r, o, none⟩) (len + n) cap') w' ∧ Rel σ h1 w' ∧ Fr σ h w σ h1 w' := by
    intro h1 hroom hst
    obtain ⟨w', k1, k2, k3⟩ := storeA_run (P := P) R hst hj hnew
    exact ⟨w', append_room ht hu hi hb hroom (by simp only [addr_add]; exact k1), k2, k3⟩
  have readold : ∀ {vs : List Value}, B.gets o (len * i.size) = some vs → ∃ old : Array Value, VRs σ vs old.toList ∧ ∀ w2 : World, w2.heap = w.heap → (Builtin.firstCells i.size len (.slice (some ⟨r, o, none⟩) len cap')).run P w2 = .ok old w2 := by
    intro vs hvs
    obtain ⟨vs', q1, q2, q3⟩ := pick_cells r6 hvs
    refine ⟨vs'.toArray, by simpa using q2, fun w2 hw2 => ?_⟩
    have r1' : w2.heap[r]? = some (.cells c B.elem fz) := by rw [hw2]; exact r1
    have := loadCells_run (P := P) r1' vs' o 0 #[] (fun k hk => by rw [Nat.add_zero]; exact q3 k (by omega))
    rw [q1] at this
    simp [Builtin.firstCells, loadCells, this]
  cases huk : isUnk cap with
  | true =>
    rw [huk] at hg
    obtain ⟨hq, hg⟩ := cond_some (c := Nat.beq cap (unkOf i.size)) hg
    have hq := beq_eq hq
    have hu1 : unk ≤ cap := ble_le huk
    rcases hcap with ⟨hc1, _⟩ | ⟨hc1, hc2, hc3⟩
    · omega
    rw [r3, he] at hc3
    cases hfit : Nat.ble (o + (len + n) * i.size) B.n with
    | true =>
      rw [hfit] at hg
      simp only [cond_true] at hg
      have hfit := ble_le hfit
      have hroom : len + n ≤ cap' := by
        have : (len + n) * i.size ≤ cap' * i.size := by omega
        exact Nat.le_of_mul_le_mul_right this hpos
      split at hg
      · rename_i h1 hst
        cases hg
        obtain ⟨w', k1, k2, k3⟩ := inplace hroom hst
        exact ⟨σ, w', _, k1, .slice o (len + n) hj (.inr ⟨hc1, hroom, by rw [r3, he]; exact hc3⟩), k2, k3⟩
      · cases hg
    | false =>
      rw [hfit] at hg
      simp only [cond_false] at hg
      have hq3 := (cond_some hg).1
      have hg2 := (cond_some hg).2
      clear hg
      simp only [Bool.and_eq_true] at hq3
      have g1 := beq_eq hq3.1.1; have g2 := beq_eq hq3.1.2; have g3 := beq_eq hq3.2
      subst g1
      cases hg2
      let D : Blk := .row false { B with ver := h.clock }
      let N : Row := ⟨cellsPut B.cells B.n new, B.z, (len + n) * i.size, e, i.size, h.clock + 1⟩
      have hNget : ∀ k, Row.get N k = if k < (len + n) * i.size then (if B.n ≤ k ∧ k < B.n + new.length then new[k - B.n]? else some ((B.cells.get k).getD (zAt B.z k))) else none := by
        intro k
        rw [Row.get_eq]
        show (if k < (len + n) * i.size then some (((cellsPut B.cells B.n new).get k).getD (zAt B.z k)) else none) = _
        rw [cellsPut_get]
        by_cases h1 : k < (len + n) * i.size
        · rw [if_pos h1, if_pos h1]
          by_cases h2 : B.n ≤ k ∧ k < B.n + new.length
          · rw [if_pos h2, if_pos h2]
            have : k - B.n < new.length := by omega
            simp [this]
          · rw [if_neg h2, if_neg h2]
        · rw [if_neg h1, if_neg h1]
      have hmul : (len + n) * i.size = len * i.size + n * i.size := Nat.add_mul _ _ _
      by_cases hroom : len + n ≤ cap'
      · -- in place
        have hrs : c.size = cap' * i.size := by rw [r2, ← hc3]; omega
        have hle : (len + n) * i.size ≤ c.size := by rw [hrs]; exact Nat.mul_le_mul_right _ hroom
        obtain ⟨w', c', k1, k2, k3, k4, k5, k6, k7, k8, k9⟩ := storeCells_run (P := P) new'.toList (0 + len * i.size) 0 w c r1 (by simp; omega) r5.free (hnew.ones hone)
        obtain ⟨R1, F1⟩ := Rel.upd R (x' := D) (o' := .cells c' B.elem fz) (H.rowAt_some hB) rfl hj rfl k2 trivial k5 k6 k7 k8 k9
        have hrun := append_room (w' := w') (ty := ty) ht hu hi hb hroom (base := some ⟨r, 0, none⟩) (by simp only [addr_add]; exact k1)
        have hfree : ∀ c y, (h.put b D).get c = some y → y.alive = true → σ.j c ≠ some r := by
          intro c0 y hy hya hjc
          rw [H.get_put] at hy
          split at hy
          · cases hy; cases hya
          · rename_i hne; exact hne (R.inj c0 b y _ r hy hya (H.rowAt_some hB) rfl hjc hj)
        have hbn : b < h.next := by
          rcases Nat.lt_or_ge b h.next with k | k
          · exact k
          · rw [R.jdom b k] at hj; cases hj
        have le : σ.le (σ.add h.next r (cap' * i.size) i.size) := Sg.le_add (R.jdom _ (Nat.le_refl _))
        have hRow : BlkR (σ.add h.next r (cap' * i.size) i.size) h.next (.row true N) (.cells c' B.elem fz) := by
          refine ⟨c', fz, by rw [g3], ?_, by simp [Sg.add]; rfl, by show (len + n) * i.size ≤ _; rw [k3]; exact hle, by rw [k3]; show FzOk i.size c.size fz; rw [← he]; exact r5, fun k u hk => ?_⟩
          · rw [k3, hrs]; simp [Sg.add]
          · rw [hNget] at hk
            split at hk
            · rename_i hlt
              rw [k4 k]
              split at hk
              · rename_i hin
                rw [if_pos (by simp; omega)]
                obtain ⟨u', q1, q2⟩ := hnew.get (k - B.n) hk
                exact ⟨u', by rw [show k - (0 + len * i.size + 0) = k - B.n by omega]; exact q1, q2.mono le⟩
              · rename_i hin
                have hkB : k < B.n := by omega
                rw [if_neg (by simp; omega)]
                obtain ⟨u', q1, q2⟩ := r6 k u (by rw [Row.get_eq, if_pos hkB]; exact hk)
                exact ⟨u', q1, q2.mono le⟩
            · cases hk
        have R2 := Rel.move R1 (x := .row true N) (r := r) (rs := cap' * i.size) (es := i.size) rfl hfree k2 hRow (fun c0 lo l hc0 hjc => (R.ro c0 lo l r (F1.ros c0 lo l hc0) hjc).2 b _ (H.rowAt_some hB) rfl hj)
        refine ⟨_, w', _, hrun, .slice 0 (len + n) Sg.add_j (.inr ⟨by simp [Sg.add]; exact hq, hroom, by simp [Sg.add]⟩), R2, ?_⟩
        refine ⟨le, F1.os, F1.tape, F1.output, F1.size, F1.keep, fun c0 hc0 hj0 => ?_, fun c0 s hc0 hjs => ?_, Nat.le_trans F1.next (Nat.le_succ _), Nat.le_trans F1.clock (Nat.le_succ _), fun c0 y hy => ?_, fun c0 hc0 hj0 => ?_, fun c0 q1 q2 => ⟨r, by
          have q2 : c0 < h.next + 1 := q2
          have : c0 = h.next := by omega
          subst this; exact Sg.add_j⟩, fun c0 lo l hc0 => ?_⟩
        · have : c0 ≠ h.next := by omega
          show (σ.add h.next r (cap' * i.size) i.size).j c0 = none
          simp [Sg.add, this, hj0]
        · by_cases e0 : c0 = h.next
          · subst e0
            have hjs : (σ.add h.next r (cap' * i.size) i.size).j h.next = some s := hjs
            have : s = r := by simp [Sg.add] at hjs; exact hjs.symm
            subst this
            refine .inr ⟨b, _, H.rowAt_some hB, rfl, hj, D, ?_, rfl⟩
            rw [H.get_new]
            have : b ≠ (h.put b D).next := by show b ≠ h.next; omega
            rw [if_neg this, H.get_put, if_pos rfl]
          · have hjs : (σ.add h.next r (cap' * i.size) i.size).j c0 = some s := hjs
            simp [Sg.add, e0] at hjs
            rw [R.jdom c0 hc0] at hjs; cases hjs
        · obtain ⟨y', q1, q2⟩ := F1.keepA c0 y hy
          refine ⟨y', ?_, q2⟩
          rw [H.get_new]
          have : c0 ≠ (h.put b D).next := by
            intro e0
            have e0 : c0 = h.next := e0
            rw [e0, R.dom _ (Nat.le_refl _)] at hy; cases hy
          rw [if_neg this]; exact q1
        · rw [H.get_new, if_neg (by show c0 ≠ h.next; omega)]; exact F1.stay c0 hc0 hj0
        · rw [H.get_new] at hc0
          split at hc0
          · cases hc0
          · exact F1.ros c0 lo l hc0
      · -- a new row
        have hrows : ∃ vs, B.gets 0 (len * i.size) = some vs := by
          rw [g2]
          have : ∀ (k o : Nat), o + k ≤ B.n → ∃ vs, B.gets o k = some vs := by
            intro k
            induction k with
            | zero => intro o _; exact ⟨[], rfl⟩
            | succ k ih =>
              intro o ho
              obtain ⟨vs, hvs⟩ := ih (o + 1) (by omega)
              have : B.get o = some ((B.cells.get o).getD (zAt B.z o)) := by rw [Row.get_eq, if_pos (by omega)]
              exact ⟨_, by rw [Row.gets_succ, this]; simp only [hvs]; rfl⟩
          exact this B.n 0 (by omega)
        obtain ⟨vs, hvs⟩ := hrows
        obtain ⟨old, o1, o2⟩ := readold hvs
        obtain ⟨R1, F1⟩ := Rel.upd R (x' := D) (o' := .cells c B.elem fz) (w' := w) (H.rowAt_some hB) rfl hj rfl r1 trivial (fun _ _ => rfl) rfl rfl rfl rfl
        obtain ⟨cap2, hcap2, hrun⟩ := append_grow (ty := ty) ht hu hi hz hzs hb (Nat.lt_of_not_le hroom) hs1 hbig o2
        obtain ⟨g1', g2'⟩ := Row.gets_spec hvs
        have holdl : old.size = len * i.size := by have := o1.length; simp at this; omega
        obtain ⟨σ', w', e1, e2, e3, e4⟩ := grown_new (P := P) R1 (B := N) (old := old) (new := new') (rest := Builtin.zeroCells z.cells (cap2 - (len + n))) (tot := len + n) (cap' := cap2) rfl (by show (len + n) * i.size ≤ _; omega)
          (by
            have hm2 : (cap2 - (len + n)) * i.size = cap2 * i.size - (len + n) * i.size := Nat.sub_mul _ _ _
            have hm3 : (len + n) * i.size ≤ cap2 * i.size := Nat.mul_le_mul_right _ hcap2
            show _ = cap2 * i.size
            simp only [Array.size_append, zeroCells_size, hzs]; omega)
          (fun k u hk => by
            rw [hNget] at hk
            split at hk
            · rename_i hlt
              split at hk
              · rename_i hin
                obtain ⟨u', q1, q2⟩ := hnew.get (k - B.n) hk
                refine ⟨u', ?_, q2⟩
                rw [Array.getElem?_append_right (by omega), holdl, g2]; simpa using q1
              · rename_i hin
                have hkB : k < B.n := by omega
                have : vs[k]? = some u := by rw [← g2' k (by omega), Nat.zero_add, Row.get_eq, if_pos hkB]; exact hk
                obtain ⟨u', q1, q2⟩ := o1.get k this
                refine ⟨u', ?_, q2⟩
                rw [Array.getElem?_append_left (by omega)]; simpa using q1
            · cases hk) hcap2
        subst e1
        refine ⟨σ', _, _, hrun, ?_, e3, Fr.trans R R1 F1 e4⟩
        rw [hq]; exact e2
  | false =>
    rw [huk] at hg
    simp only [cond_false] at hg
    have hu1 : cap < unk := by
      rcases Nat.lt_or_ge cap unk with h | h
      · exact h
      · rw [isUnk, Nat.ble_eq_true_of_le h] at huk; cases huk
    have hce : cap' = cap := by
      rcases hcap with ⟨_, hc1⟩ | ⟨hc1, _⟩
      · exact hc1
      · unfold unkOf at hc1; omega
    subst hce
    cases hfit : Nat.ble (len + n) cap' with
    | true =>
      rw [hfit] at hg
      simp only [cond_true] at hg
      have hroom := ble_le hfit
      split at hg
      · rename_i h1 hst
        cases hg
        obtain ⟨w', k1, k2, k3⟩ := inplace hroom hst
        exact ⟨σ, w', _, k1, .slice o (len + n) hj (.inl ⟨hu1, rfl⟩), k2, k3⟩
      · cases hg
    | false =>
      rw [hfit] at hg
      simp only [cond_false] at hg
      have hroom : cap' < len + n := by
        rcases Nat.lt_or_ge cap' (len + n) with h | h
        · exact h
        · rw [Nat.ble_eq_true_of_le h] at hfit; cases hfit
      split at hg
      · rename_i vs hvs
        cases hg
        obtain ⟨old, o1, o2⟩ := readold hvs
        obtain ⟨cap2, hcap2, hrun⟩ := append_grow (ty := ty) ht hu hi hz hzs hb hroom hs1 hbig o2
        obtain ⟨g1', g2'⟩ := Row.gets_spec hvs
        have holdl : old.size = len * i.size := by have := o1.length; simp at this; omega
        have hmul : (len + n) * i.size = len * i.size + n * i.size := Nat.add_mul _ _ _
        obtain ⟨σ', w', e1, e2, e3, e4⟩ := grown_new (P := P) R (B := ⟨cellsPut .nil 0 (vs ++ new), [], (vs ++ new).length, e, i.size, h.clock⟩) (old := old) (new := new') (rest := Builtin.zeroCells z.cells (cap2 - (len + n))) (tot := len + n) (cap' := cap2) rfl (by show (vs ++ new).length ≤ _; simp; omega)
          (by
            have hm2 : (cap2 - (len + n)) * i.size = cap2 * i.size - (len + n) * i.size := Nat.sub_mul _ _ _
            have hm3 : (len + n) * i.size ≤ cap2 * i.size := Nat.mul_le_mul_right _ hcap2
            show _ = cap2 * i.size
            simp only [Array.size_append, zeroCells_size, hzs]; omega)
          (fun k u hk => by
            rw [rowOf_get] at hk
            obtain ⟨u', q1, q2⟩ := (o1.append hnew).get k hk
            exact ⟨u', by rw [← Array.getElem?_toList, Array.toList_append]; exact q1, q2⟩) hcap2
        subst e1
        exact ⟨σ', _, _, hrun, e2, e3, e4⟩
      · cases hg
end Go.Proofs.Ytnjeafdbifcfhaa.Den
