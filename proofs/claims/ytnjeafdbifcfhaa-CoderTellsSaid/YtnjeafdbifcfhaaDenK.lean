/- A small machine for closed runs: append at its kinds, maps, the bytes of a string one by one. No condition. -/
import Derived.Test.YtnjeafdbifcfhaaDenJ
namespace Go.Proofs.Ytnjeafdbifcfhaa.Den
open Go
set_option linter.unusedSimpArgs false
set_option linter.unusedVariables false

theorem appendN_run {P : Program} {σ : Sg} {h : H} {w : World} (R : Rel σ h w) {ts : Array TypeId} {t ty e : TypeId} (ht : ts[0]? = some t) (hu : P.underlying t = some (.slice e))
    {s s' x' v : Value} {n : Nat} {new : List Value} {new' : Array Value} {h' : H} (hs : VR σ s s') (hb : ∀ i, P.info? e = some i → i.bytes ≠ 0 → Brings P ts e i x' w n new') (hnew : VRs σ new new'.toList) (hg : appendN P e s n new h = some (v, h')) :
    Does P σ h w (Builtin.append_ ts ty #[s', x']) v h' := by
  unfold appendN at hg
  split at hg
  · rename_i i base len cap z hi hz
    have hq := (cond_none hg).1
    have hg2 := (cond_none hg).2
    clear hg
    simp only [Bool.or_eq_false_iff, Bool.not_eq_false'] at hq
    obtain ⟨⟨⟨⟨⟨q1, q2⟩, q3⟩, q4⟩, q5⟩, q6⟩ := hq
    have q1 := beq_eq q1; have q6 := beq_eq q6
    have hs0 : i.size ≠ 0 := fun e => by rw [e] at q2; simp at q2
    have hs1 : i.bytes ≠ 0 := fun e => by rw [e] at q3; simp at q3
    have hbig : (len + n) * i.bytes ≤ 140737488355328 := by
      rcases Nat.lt_or_ge 140737488355328 ((len + n) * i.bytes) with h | h
      · rw [Nat.blt, Nat.ble_eq_true_of_le h] at q4; cases q4
      · exact h
    have hzz : i.zero = some z := by
      unfold zeroA at hz
      rw [hi] at hz
      simp only at hz
      split at hz
      · cases hz
      · rename_i z' hz'; have := (cond_some hz).2; cases this; exact hz'
    have hb := hb i hi hs1
    split at hg2
    · -- nil
      cases hs
      cases hn : Nat.beq n 0 with
      | true =>
        rw [hn] at hg2
        have hn := beq_eq hn
        subst hn
        cases hg2
        exact Does.pure R (v' := .slice none 0 0) (append_room ht hu hi hb (Nat.le_refl _) rfl) .nils
      | false =>
        rw [hn] at hg2
        cases hg2
        have hpos : 0 < 0 + n := by
          rcases Nat.eq_zero_or_pos n with h | h
          · subst h; simp at hn
          · omega
        obtain ⟨cap2, hcap2, hrun⟩ := append_grow (ty := ty) (base := none) (old := #[]) ht hu hi hzz q1 hb hpos hs1 hbig (fun w2 _ => by simp [Builtin.firstCells])
        have hnl : new'.size = n * i.size := by have := hnew.length; simp at this; omega
        obtain ⟨σ', w', e1, e2, e3, e4⟩ := grown_new (P := P) R (B := ⟨cellsPut .nil 0 new, [], new.length, e, i.size, h.clock⟩) (old := #[]) (new := new') (rest := Builtin.zeroCells z.cells (cap2 - (0 + n))) (tot := 0 + n) (cap' := cap2) rfl (by show new.length ≤ _; simp; omega)
          (by
            have hc2 : n ≤ cap2 := by omega
            have hm2 : (cap2 - n) * i.size = cap2 * i.size - n * i.size := Nat.sub_mul _ _ _
            have hm3 : n * i.size ≤ cap2 * i.size := Nat.mul_le_mul_right _ hc2
            show _ = cap2 * i.size
            simp only [Array.size_append, zeroCells_size, q1, Nat.zero_add]; simp; omega)
          (fun k u hk => by
            rw [rowOf_get] at hk
            obtain ⟨u', p1, p2⟩ := hnew.get k hk
            exact ⟨u', by simpa using p1, p2⟩) hcap2
        subst e1
        refine ⟨σ', _, _, hrun, ?_, e3, e4⟩
        have e5 : VR σ' (.slice (some ⟨h.next, 0, none⟩) (0 + n) (unkOf i.size)) (.slice (some ⟨w.heap.size, 0, none⟩) (0 + n) cap2) := e2
        rw [Nat.zero_add] at e5
        rw [Nat.zero_add]; exact e5
    · rename_i b o
      split at hg2
      · rename_i B hB
        cases hs with
        | slice _ _ hj hcap => exact growA_run R ht hu hi hzz q1 hs0 hs1 hbig q6 q5 hB hj hcap hb hnew hg2
      · cases hg2
    · have hq := (cond_some hg2).1
      have hg3 := (cond_some hg2).2
      clear hg2
      simp only [Bool.and_eq_true] at hq
      have g1 := beq_eq hq.1; have g2 := beq_eq hq.2
      subst g1; subst g2
      cases hg3
      cases hs with
      | emp a c =>
        have hz0 : new'.toList = [] := by
          have := hnew.length
          rw [q6] at this
          have : new' = #[] := Array.eq_empty_of_size_eq_zero (by simpa using this.symm)
          rw [this]
        exact Does.pure R (v' := .slice (some a) 0 c) (append_room (w' := w) ht hu hi hb (Nat.zero_le _) (by rw [hz0]; simp [storeCells])) (.emp a c)
  · cases hg

theorem appendA_run {P : Program} {σ : Sg} {h : H} {w : World} (R : Rel σ h w) {ts : Array TypeId} {t t1 ty : TypeId} {d : TypeDesc} (ht : ts[0]? = some t) (ht1 : ts[1]? = some t1) (hd : P.underlying t1 = some d) (hni : ∀ k, d ≠ .int k)
    {s s' x x' v : Value} {h' : H} (hs : VR σ s s') (hx : VR σ x x') (ha : appendA P t s x h = some (v, h')) : Does P σ h w (Builtin.append_ ts ty #[s', x']) v h' := by
  unfold appendA at ha
  split at ha
  · rename_i e hu
    split at ha
    · rename_i z n hz hn
      split at ha
      · rename_i new hf
        obtain ⟨new', f1, f2⟩ := first_run (P := P) R hf hx
        have hfr : ∀ w2 : World, w2.heap = w.heap → ∃ c, (Builtin.firstCells z n x').run P w2 = .ok c w2 ∧ VRs σ new c.toList := fun w2 hw => first_run (P := P) (R.heap hw) hf hx
        refine appendN_run R ht hu hs (fun i hi _ => ?_) f2 ha
        have hzi : i.size = z := by
          unfold sizeA at hz; rw [hi] at hz; cases hz; rfl
        refine .inl ⟨t1, d, ht1, hd, hni, lenV_run hn hx, fun w2 hw2 => ?_⟩
        rw [hzi]
        -- the same cells in whatever world has this heap
        have key : ∀ w2 : World, w2.heap = w.heap → (Builtin.firstCells z n x').run P w2 = .ok new' w2 := by
          intro w2 hw2
          unfold firstA at hf
          split at hf
          · cases hf; cases hx; simp [Builtin.firstCells] at f1 ⊢; exact f1
          · obtain ⟨hn0, hf⟩ := cond_some hf
            have hn0 := beq_eq hn0
            subst hn0
            cases hx with
            | emp a c => simp [Builtin.firstCells, loadCells, loadCellsFrom] at f1 ⊢; exact f1
          · rename_i b o len cap
            cases hx with
            | slice _ _ hj hc =>
              rename_i r cap'
              obtain ⟨c, e, fz, vs', r1, q1, q2, q3⟩ := H.gets_run R.core hf hj
              have l1 := loadCells_run (P := P) r1 vs' o 0 #[] (fun k hk => by rw [Nat.add_zero]; exact q3 k (by omega))
              have r2 : w2.heap[r]? = some (.cells c e fz) := by rw [hw2]; exact r1
              have l2 := loadCells_run (P := P) r2 vs' o 0 #[] (fun k hk => by rw [Nat.add_zero]; exact q3 k (by omega))
              rw [q1] at l1 l2
              simp only [Builtin.firstCells, loadCells] at f1 ⊢
              rw [l1] at f1
              rw [l2]
              cases f1
              rfl
          · have := hx.string_inv; subst this
            simp only [Builtin.firstCells, Sem.run_pure] at f1 ⊢
            cases f1; rfl
          · cases hf
        exact key w2 hw2
      · cases ha
    · cases ha
  · cases ha

theorem zeroCells_list (z : Array Value) (n : Nat) : (Builtin.zeroCells z n).toList = (List.range (n * z.size)).map fun i => z[i % z.size]! := by
  simp [Builtin.zeroCells]

theorem appendZ_run {P : Program} {σ : Sg} {h : H} {w : World} (R : Rel σ h w) {ts : Array TypeId} {t t1 ty : TypeId} {k : IntKind} (ht : ts[0]? = some t) (ht1 : ts[1]? = some t1) (hd : P.underlying t1 = some (.int k))
    {s s' x x' v : Value} {h' : H} (hs : VR σ s s') (hx : VR σ x x') (ha : appendZ P t s x h = some (v, h')) : Does P σ h w (Builtin.append_ ts ty #[s', x']) v h' := by
  unfold appendZ at ha
  split at ha
  · rename_i e k2 n hu
    have := hx.int_inv; subst this
    split at ha
    · rename_i z i hz hi
      have hq := (cond_some ha).1
      have ha2 := (cond_some ha).2
      clear ha
      simp only [Bool.and_eq_true] at hq
      have q1 := ble_le hq.1.1; have q2 := ble_le hq.1.2; have q3 := beq_eq hq.2
      obtain ⟨z1, z2⟩ := zeroA_run hz w
      have hzz : i.zero = some z := by
        unfold zeroA at hz
        rw [hi] at hz
        simp only at hz
        split at hz
        · cases hz
        · rename_i z' hz'; have := (cond_some hz).2; cases this; exact hz'
      have hnew : VRs σ ((List.range (n * z.cells.size)).map (zAt z.cells.toList)) (Builtin.zeroCells z.cells n).toList := by
        rw [zeroCells_list]
        have hsz : ∀ i, i < n * z.cells.size → zAt z.cells.toList i = z.cells[i % z.cells.size]! := by
          intro i hi
          have hpos : 0 < z.cells.size := by
            rcases Nat.eq_zero_or_pos z.cells.size with h | h
            · rw [h] at hi; omega
            · exact h
          have hlt : i % z.cells.size < z.cells.size := Nat.mod_lt _ hpos
          unfold zAt; rw [getElem!_pos z.cells _ hlt]; simp [hlt]
        have : (List.range (n * z.cells.size)).map (zAt z.cells.toList) = (List.range (n * z.cells.size)).map fun i => z.cells[i % z.cells.size]! := List.map_congr_left fun i hi => hsz i (by simpa using hi)
        rw [this]
        exact VRs.map_self _ (fun i => at_VR σ z2 _) _
      refine appendN_run R ht hu hs (fun i' hi' _ => ?_) hnew ha2
      rw [hi] at hi'; cases hi'
      exact .inr ⟨t1, k, k2, z, ht1, hd, rfl, q2, q1, hzz, rfl, q3⟩
    · cases ha
  · cases ha

/-! ### maps -/
theorem MsR.modify {σ : Sg} {l l' : List MapEntry} (h : MsR σ l l') {k k' v v' : Value} (hk : VR σ k k') (hv : VR σ v v') : ∀ i, MsR σ (l.modify i fun e => { e with key := k, val := v }) (l'.modify i fun e => { e with key := k', val := v' }) := by
  induction h with
  | nil => intro i; cases i <;> simp <;> exact .nil
  | cons hk1 hv1 hl ih => intro i; cases i with
    | zero => simp; exact .cons hk hv hl
    | succ i => simp; exact .cons hk1 hv1 (ih i)
theorem MsR.snoc {σ : Sg} {l l' : List MapEntry} (h : MsR σ l l') {k k' v v' : Value} (hk : VR σ k k') (hv : VR σ v v') (n : Nat) : MsR σ (l ++ [⟨k, v, n⟩]) (l' ++ [⟨k', v', n⟩]) := by
  induction h with
  | nil => exact MsR.cons hk hv .nil
  | cons hk1 hv1 _ ih => exact MsR.cons hk1 hv1 ih

theorem findA_key {k : Value} : ∀ {es : List MapEntry} {i j : Nat} {v : Value}, findA k es i = some (some (j, v)) → i ≤ j ∧ ∃ e, es[j - i]? = some e ∧ keyEq k e.key = some true
  | [], i, j, v, h => by cases h
  | e :: es, i, j, v, h => by
    unfold findA at h
    split at h
    · rename_i hk; cases h; exact ⟨Nat.le_refl _, e, by simp, hk⟩
    · obtain ⟨h1, e', h2, h3⟩ := findA_key h
      refine ⟨by omega, e', ?_, h3⟩
      rw [show j - i = (j - (i + 1)) + 1 by omega]; simpa using h2
    · cases h
theorem ba_beq (s s' : ByteArray) : (s == s') = decide (s = s') := by
  have e : (s == s') = (s.data == s'.data) := by show ByteArray.beq s s' = _; unfold ByteArray.beq; rfl
  rw [e]
  by_cases h : s = s'
  · subst h; simp
  · have : s.data ≠ s'.data := fun q => h (by cases s; cases s'; simp_all)
    simp [h, this]
theorem keyEq_eq {σ : Sg} {d : Option TypeDesc} {k e e' : Value} (hk : keyDesc d k = true) (h : keyEq k e = some true) (he : VR σ e e') : e' = k := by
  cases k with
  | int k1 n =>
    cases e with
    | int k' m =>
      have h2 : (if k1 = k' then some (n == m) else none) = some true := h
      clear h
      by_cases hkk : k1 = k'
      · rw [if_pos hkk] at h2; have := he.int_inv; subst this; subst hkk
        have h3 : n = m := by simpa using h2
        rw [h3]
      · rw [if_neg hkk] at h2; cases h2
    | _ => cases h
  | string s =>
    cases e with
    | string s' =>
      have h2 : some (s == s') = some true := h
      have := he.string_inv; subst this
      rw [ba_beq] at h2
      have h3 : s = s' := by simpa using h2
      rw [h3]
    | _ => cases h
  | bool b =>
    cases e with
    | bool b' =>
      have h2 : some (b == b') = some true := h
      have := he.bool_inv; subst this
      have h3 : b = b' := by cases b <;> cases b' <;> first | rfl | (cases h2)
      rw [h3]
    | _ => cases h
  | _ => simp [keyDesc] at hk
theorem MsR.get {σ : Sg} {l l' : List MapEntry} (h : MsR σ l l') : ∀ {i : Nat} {e : MapEntry}, l[i]? = some e → ∃ e', l'[i]? = some e' ∧ VR σ e.key e'.key := by
  induction h with
  | nil => intro i e h; simp at h
  | @cons k k' v v' n l l' hk hv hl ih => intro i e h; cases i with
    | zero => simp at h; subst h; exact ⟨⟨k', v', n⟩, by simp, hk⟩
    | succ i => simp at h; obtain ⟨e', h1, h2⟩ := ih h; exact ⟨e', by simpa using h1, h2⟩

theorem keyThatStays_same {P : Program} {w : World} {d : Option TypeDesc} {k : Value} (hk : keyDesc d k = true) : (Instr.keyThatStays k k).run P w = .ok k w := by
  unfold keyDesc at hk
  split at hk
  · simp [Instr.keyThatStays, Instr.sameBits]
  · simp [Instr.keyThatStays, Instr.sameBits, ba_beq]
  · simp [Instr.keyThatStays, Instr.sameBits]
  · cases hk

theorem setObj_map {P : Program} {w : World} {r : Nat} {es : Array MapEntry} {cl : Nat} (h : w.heap[r]? = some (.map es cl)) (o : Obj) : (setObj r o).run P w = .ok () { w with heap := w.heap.setIfInBounds r o } := by simp [setObj, Sem.run, h]

theorem mapPutA_run {P : Program} {σ : Sg} {h : H} {w : World} (R : Rel σ h w) {t : TypeId} {m m' k k' v v' : Value} {h' : H} (hm : VR σ m m') (hk : VR σ k k') (hv : VR σ v v') (hp : mapPutA P t m k v h = some h') :
    ∃ w', (Instr.mapUpdate t m' k' v').run P w = .ok () w' ∧ Rel σ h' w' ∧ Fr σ h w σ h' w' := by
  unfold mapPutA at hp
  split at hp
  · rename_i kt et hu
    have hq := (cond_some hp).1
    have hp2 := (cond_some hp).2
    clear hp
    have hp := hp2
    clear hp2
    unfold mputH at hp
    split at hp
    · rename_i b
      split at hp
      rotate_left
      · cases hp
      rename_i es clock ver hb
      obtain ⟨e, _⟩ := keyDesc_VR hq hk
      subst e
      cases hm with
      | map hj =>
        rename_i r
        obtain ⟨o, h1, es', rfl, h2⟩ := R.blk b _ r hb rfl hj
        have hg : (getObj r).run P w = .ok (.map es' clock) w := by simp [getObj, Sem.run, h1]
        have hset : ∀ o : Obj, ({ w with heap := w.heap.setIfInBounds r o } : World).heap[r]? = some o := fun o => by
          have : r < w.heap.size := (Array.getElem?_eq_some_iff.1 h1).1
          simp [this]
        have hoth : ∀ (o : Obj) (c : Nat), c ≠ r → ({ w with heap := w.heap.setIfInBounds r o } : World).heap[c]? = w.heap[c]? := fun o c hc => by
          show (w.heap.setIfInBounds r o)[c]? = _
          rw [Array.getElem?_setIfInBounds_ne (fun q => hc q.symm)]
        split at hp
        · rename_i i u hf
          cases hp
          obtain ⟨q', f1, f2⟩ := findKey_run (w := w) hf hq h2
          cases q' with
          | none => exact f2.elim
          | some p =>
            obtain ⟨i', u'⟩ := p
            obtain ⟨rfl, f3⟩ := f2
            obtain ⟨_, e, g1, g2⟩ := findA_key hf
            have g1 : es[i]? = some e := by simpa using g1
            obtain ⟨e', g3, g4⟩ := h2.get g1
            have g5 : e'.key = k' := keyEq_eq hq g2 g4
            have g3' : es'[i]? = some e' := by simpa using g3
            have hrun : (Instr.mapUpdate t (.map (some r)) k' v').run P w = .ok () { w with heap := w.heap.setIfInBounds r (.map (es'.modify i fun e => { e with key := k', val := v' }) clock) } := by
              simp [Instr.mapUpdate, run_underlying hu, hg, checkKey_run hq, f1, g3', g5, keyThatStays_same hq, setObj_map h1]
            obtain ⟨k1, k2⟩ := Rel.upd R (x' := .map (es.modify i fun e => { e with key := k', val := v }) clock h.clock) (o' := .map (es'.modify i fun e => { e with key := k', val := v' }) clock) (w' := { w with heap := w.heap.setIfInBounds r (.map (es'.modify i fun e => { e with key := k', val := v' }) clock) }) hb rfl hj rfl (hset _)
              ⟨_, rfl, by rw [Array.toList_modify]; exact h2.modify hk hv i⟩ (hoth _) (by simp) rfl rfl rfl
            exact ⟨_, hrun, k1, k2⟩
        · rename_i hf
          cases hp
          obtain ⟨q', f1, f2⟩ := findKey_run (w := w) hf hq h2
          cases q' with
          | some p => exact f2.elim
          | none =>
            have hrun : (Instr.mapUpdate t (.map (some r)) k' v').run P w = .ok () { w with heap := w.heap.setIfInBounds r (.map (es'.push ⟨k', v', clock⟩) (clock + 1)) } := by
              simp [Instr.mapUpdate, run_underlying hu, hg, checkKey_run hq, f1, setObj_map h1]
            obtain ⟨k1, k2⟩ := Rel.upd R (x' := .map (es ++ [⟨k', v, clock⟩]) (clock + 1) h.clock) (o' := .map (es'.push ⟨k', v', clock⟩) (clock + 1)) (w' := { w with heap := w.heap.setIfInBounds r (.map (es'.push ⟨k', v', clock⟩) (clock + 1)) }) hb rfl hj rfl (hset _)
              ⟨_, rfl, by rw [Array.toList_push]; exact h2.snoc hk hv clock⟩ (hoth _) (by simp) rfl rfl rfl
            exact ⟨_, hrun, k1, k2⟩
        · cases hp
    · cases hp
  · cases hp

theorem nextA_run {P : Program} {σ : Sg} {h : H} {w : World} (R : Rel σ h w) {x : Option Value} {x' v : Value} {h' : H} (ty : TypeId) (hx : ∀ u, x = some u → VR σ u x') (hn : nextA h x = some (v, h')) : Does P σ h w (Instr.next x' true ty) v h' := by
  unfold nextA at hn
  split at hn
  · rename_i b
    split at hn
    · rename_i s pos ver hb
      have hx := hx _ rfl
      cases hx with
      | ptr _ hj =>
        rename_i r
        obtain ⟨o, h1, h2⟩ := R.blk b _ r hb rfl hj
        have h2 : o = .stringIter s pos := h2
        subst h2
        have hg : (getObj r).run P w = .ok (.stringIter s pos) w := by simp [getObj, Sem.run, h1]
        cases hlt : Nat.blt pos s.size with
        | true =>
          rw [hlt] at hn
          cases hn
          have hp := blt_lt hlt
          have hs : ∀ o : Obj, (setObj r o).run P w = .ok () { w with heap := w.heap.setIfInBounds r o } := fun o => by simp [setObj, Sem.run, h1]
          have hr : r < w.heap.size := (Array.getElem?_eq_some_iff.1 h1).1
          obtain ⟨k1, k2⟩ := Rel.upd R (x' := .iter s (pos + (Utf8.decode s pos).2) h.clock) (o' := .stringIter s (pos + (Utf8.decode s pos).2)) (w' := { w with heap := w.heap.setIfInBounds r (.stringIter s (pos + (Utf8.decode s pos).2)) }) hb rfl hj rfl (by simp [hr]) rfl
            (fun c hc => by show (w.heap.setIfInBounds r _)[c]? = _; rw [Array.getElem?_setIfInBounds_ne (fun q => hc q.symm)]) (by simp) rfl rfl rfl
          refine ⟨σ, _, .tuple #[.bool true, goInt pos, .int .i32 (Utf8.decode s pos).1], ?_, VRs.tuple (.cons (.bool _) (.cons (.int _ _) (.cons (.int _ _) .nil))), k1, k2⟩
          simp [Instr.next, hg, hp, hs]
        | false =>
          rw [hlt] at hn
          cases hn
          have hp : ¬ pos < s.size := fun h => by rw [Nat.blt, Nat.ble_eq_true_of_le h] at hlt; cases hlt
          exact Does.pure R (v' := .tuple #[.bool false]) (by simp [Instr.next, hg, hp]) (VRs.tuple (.cons (.bool _) .nil))
    · cases hn
  · cases hn
end Go.Proofs.Ytnjeafdbifcfhaa.Den
