/- A small machine for closed runs: memory that is made. No condition. -/
import Derived.Test.YtnjeafdbifcfhaaDenG
namespace Go.Proofs.Ytnjeafdbifcfhaa.Den
open Go
set_option linter.unusedSimpArgs false
set_option linter.unusedVariables false

/-- the real operation does what the machine's does -/
def Does (P : Program) (σ : Sg) (h : H) (w : World) (s : Sem Value) (v : Value) (h' : H) : Prop :=
  ∃ σ' w' v', s.run P w = .ok v' w' ∧ VR σ' v v' ∧ Rel σ' h' w' ∧ Fr σ h w σ' h' w'

theorem Does.pure {P : Program} {σ : Sg} {h : H} {w : World} (R : Rel σ h w) {s : Sem Value} {v v' : Value} (hs : s.run P w = .ok v' w) (hv : VR σ v v') : Does P σ h w s v h :=
  ⟨σ, w, v', hs, hv, R, Fr.refl R rfl rfl rfl rfl⟩

theorem rowOf_get (cs : List Value) (elem es clock i : Nat) : Row.get ⟨cellsPut .nil 0 cs, [], cs.length, elem, es, clock⟩ i = cs[i]? := by
  rw [Row.get_eq]
  show (if i < cs.length then some (((cellsPut .nil 0 cs).get i).getD _) else none) = _
  rw [cellsPut_get]
  by_cases h : i < cs.length
  · rw [if_pos h, if_pos ⟨Nat.zero_le _, by omega⟩]; simp [h]
  · rw [if_neg h]; simp [h]

/-- a new row -/
theorem new_row {P : Program} {σ : Sg} {h : H} {w w' : World} (R : Rel σ h w) {B : Row} {c : Array Value} {fz : Nat × Nat} (hv : B.ver = h.clock) (hw : w'.heap = w.heap.push (.cells c B.elem fz))
    (h1 : w'.os = w.os) (h2 : w'.tape = w.tape) (h3 : w'.output = w.output) (hn : B.n ≤ c.size) (hf : FzOk B.es c.size fz) (hc : ∀ i v, B.get i = some v → ∃ v', c[i]? = some v' ∧ VR σ v v') :
    Rel (σ.add h.next w.heap.size c.size B.es) (h.new (.row true B)) w' ∧ Fr σ h w (σ.add h.next w.heap.size c.size B.es) (h.new (.row true B)) w' := by
  refine Rel.new R (x := .row true B) hv hw ?_ h1 h2 h3
  refine ⟨c, fz, rfl, by simp [Sg.add], by simp [Sg.add], hn, hf, fun i v hi => ?_⟩
  obtain ⟨v', k1, k2⟩ := hc i v hi
  exact ⟨v', k1, k2.mono (Sg.le_add (R.jdom _ (Nat.le_refl _)))⟩

theorem new_list {P : Program} {σ : Sg} {h : H} {w w' : World} (R : Rel σ h w) {cs cs' : List Value} {elem es : Nat} (hv : VRs σ cs cs') (hw : w'.heap = w.heap.push (.cells cs'.toArray elem (0, 0)))
    (h1 : w'.os = w.os) (h2 : w'.tape = w.tape) (h3 : w'.output = w.output) :
    Rel (σ.add h.next w.heap.size cs'.toArray.size es) (h.new (rowOf cs elem es h.clock)) w' ∧ Fr σ h w (σ.add h.next w.heap.size cs'.toArray.size es) (h.new (rowOf cs elem es h.clock)) w' := by
  refine new_row (P := P) R (B := ⟨cellsPut .nil 0 cs, [], cs.length, elem, es, h.clock⟩) rfl hw h1 h2 h3 ?_ (.inl rfl) fun i v hi => ?_
  · show cs.length ≤ _; rw [hv.length]; simp
  · rw [rowOf_get] at hi
    obtain ⟨v', k1, k2⟩ := hv.get i hi
    exact ⟨v', by simpa using k1, k2⟩

theorem default_VR (σ : Sg) : VR σ (default : Value) (default : Value) := .bool _
theorem at_VR (σ : Sg) {z : Value} (hz : plain z = true) (i : Nat) : VR σ (z.cells[i]!) (z.cells[i]!) := by
  by_cases hi : i < z.cells.size
  · have e : z.cells[i]! = z.cells[i] := getElem!_pos z.cells i hi
    rw [e]
    obtain ⟨v', k1, k2⟩ := (plain_VRs σ hz).get i (v := z.cells[i]) (by simp [hi])
    have : v' = z.cells[i] := by simp [hi] at k1; exact k1.symm
    rw [this] at k2; exact k2
  · have e : z.cells[i]! = default := getElem!_neg z.cells i hi
    rw [e]; exact default_VR σ
theorem VRs.map_self {σ : Sg} (f : Nat → Value) (hf : ∀ i, VR σ (f i) (f i)) : ∀ l : List Nat, VRs σ (l.map f) (l.map f)
  | [] => .nil
  | i :: l => .cons (hf i) (VRs.map_self f hf l)

/-- the real operation makes one block, as the machine's does, under whatever number -/
def Makes (P : Program) (σ : Sg) (w : World) (s : Sem Value) (x : Blk) (g : Nat → Value) : Prop :=
  ∃ o v' w' rs es, s.run P w = .ok v' w' ∧ w'.heap = w.heap.push o ∧ w'.os = w.os ∧ w'.tape = w.tape ∧ w'.output = w.output ∧
    ∀ b, σ.j b = none → BlkR (σ.add b w.heap.size rs es) b x o ∧ VR (σ.add b w.heap.size rs es) (g b) v'
theorem Makes.does {P : Program} {σ : Sg} {h : H} {w : World} (R : Rel σ h w) {s : Sem Value} {x : Blk} {g : Nat → Value} (m : Makes P σ w s x g) (hv : x.ver = h.clock) : Does P σ h w s (g h.next) (h.new x) := by
  obtain ⟨o, v', w', rs, es, h1, h2, h3, h4, h5, h6⟩ := m
  obtain ⟨k1, k2⟩ := h6 h.next (R.jdom _ (Nat.le_refl _))
  obtain ⟨k3, k4⟩ := Rel.new R hv h2 k1 h3 h4 h5
  exact ⟨_, w', v', h1, k2, k3, k4⟩
theorem row_BlkR {σ : Sg} {b r : Nat} {B : Row} {c : Array Value} {fz : Nat × Nat} (hj : σ.j b = none) (hn : B.n ≤ c.size) (hf : FzOk B.es c.size fz) (hc : ∀ i v, B.get i = some v → ∃ v', c[i]? = some v' ∧ VR σ v v') :
    BlkR (σ.add b r c.size B.es) b (.row true B) (.cells c B.elem fz) := by
  refine ⟨c, fz, rfl, by simp [Sg.add], by simp [Sg.add], hn, hf, fun i v hi => ?_⟩
  obtain ⟨v', k1, k2⟩ := hc i v hi
  exact ⟨v', k1, k2.mono (Sg.le_add hj)⟩
theorem list_BlkR {σ : Sg} {b r : Nat} {cs cs' : List Value} {elem es clock : Nat} (hj : σ.j b = none) (hv : VRs σ cs cs') :
    BlkR (σ.add b r cs'.toArray.size es) b (rowOf cs elem es clock) (.cells cs'.toArray elem (0, 0)) := by
  refine row_BlkR (B := ⟨cellsPut .nil 0 cs, [], cs.length, elem, es, clock⟩) hj (by show cs.length ≤ _; rw [hv.length]; simp) (.inl rfl) fun i v hi => ?_
  rw [rowOf_get] at hi
  obtain ⟨v', k1, k2⟩ := hv.get i hi
  exact ⟨v', by simpa using k1, k2⟩

theorem allocA_run {P : Program} {σ : Sg} {w : World} {t : TypeId} {clock : Nat} {x : Blk} {g : Nat → Value} (ha : allocA P t clock = some (x, g)) : x.ver = clock ∧ Makes P σ w (Instr.alloc t true (.tuple #[])) x g := by
  unfold allocA at ha
  split at ha
  · rename_i i z hi hz
    cases ha
    obtain ⟨z1, z2⟩ := zeroA_run hz w
    refine ⟨rfl, .cells z.cells t (0, 0), .pointer (some ⟨w.heap.size, 0, none⟩), { w with heap := w.heap.push (.cells z.cells t (0, 0)) }, z.cells.size, i.size, ?_, rfl, rfl, rfl, rfl, fun b hb => ⟨list_BlkR hb (plain_VRs σ z2), .ptr 0 Sg.add_j⟩⟩
    simp [Instr.alloc, z1, newVar, newRow]
  · cases ha

theorem boxA_run {P : Program} {σ : Sg} {w : World} {t : TypeId} {clock : Nat} {x : Option Value} {x' : Value} {B : Blk} {g : Nat → Value} (hx : ∀ u, x = some u → VR σ u x') (ha : boxA P t clock x = some (B, g)) : B.ver = clock ∧ Makes P σ w (Instr.box t x') B g := by
  unfold boxA at ha
  split at ha
  · rename_i i u hi
    cases ha
    have hu := hx u rfl
    refine ⟨rfl, .cells x'.cells t (0, 0), .pointer (some ⟨w.heap.size, 0, none⟩), { w with heap := w.heap.push (.cells x'.cells t (0, 0)) }, x'.cells.size, i.size, ?_, rfl, rfl, rfl, rfl, fun b hb => ⟨list_BlkR hb hu.cells, .ptr 0 Sg.add_j⟩⟩
    simp [Instr.box, newVar, newRow]
  · cases ha

theorem buildSliceA_run {P : Program} {σ : Sg} {w : World} {ρ : Env} {ρ' : Operand → Value} (hρ : ER σ ρ ρ') {t : TypeId} {len clock : Nat} {parts : Array (Nat × Operand)} {B : Blk} {g : Nat → Value}
    (ha : buildSliceA P ρ t len parts clock = some (B, g)) : B.ver = clock ∧ Makes P σ w (Instr.buildSlice t len (parts.map fun (i, x) => (i, ρ' x))) B g := by
  unfold buildSliceA at ha
  split at ha
  · rename_i e ps hu hps
    split at ha
    · rename_i s z hs hz
      cases hc : (Nat.ble (len * (s + 1)) 16777216 && Nat.beq z.cells.size (s + 1)) with
      | false => rw [hc] at ha; cases ha
      | true =>
        rw [hc] at ha
        simp only [Bool.and_eq_true] at hc
        have c1 := ble_le hc.1
        have c2 := beq_eq hc.2
        simp only [cond_true] at ha
        split at ha
        · rename_i cs hcs
          cases ha
          obtain ⟨z1, z2⟩ := zeroA_run hz w
          have hp := envs_run hρ hps
          have hb : VRs σ ((Array.range (len * (s + 1))).map (z.cells[· % z.cells.size]!)).toList ((Array.range (len * (s + 1))).map (z.cells[· % z.cells.size]!)).toList := by
            rw [Array.toList_map]; exact VRs.map_self _ (fun i => at_VR σ z2 _) _
          obtain ⟨out', o1, o2⟩ := fill_run _ hp hb hcs
          have hfl := fill_run (fun i => some (i * (s + 1), s + 1)) hp hb hcs
          have ol : out'.toList.length = len * (s + 1) ∨ True := .inr trivial
          refine ⟨rfl, .cells out' e (0, 0), .slice (some ⟨w.heap.size, 0, none⟩) len len, { w with heap := w.heap.push (.cells out' e (0, 0)) }, out'.size, s + 1, ?_, rfl, rfl, rfl, rfl, fun b hb => ⟨list_BlkR hb o2, .slice 0 len Sg.add_j (.inl ⟨?_, rfl⟩)⟩⟩
          · have e0 : (do let zero ← if len * (s + 1) = 0 then Pure.pure #[] else do Pure.pure (← zeroValue e).cells
                          Pure.pure ((Array.range (len * (s + 1))).map (zero[· % zero.size]!)) : Sem (Array Value)).run P w = .ok ((Array.range (len * (s + 1))).map (z.cells[· % z.cells.size]!)) w := by
              by_cases hl : len * (s + 1) = 0
              · simp [hl]
              · simp [hl, z1]
            have e1 : ¬ len * (s + 1) > 2 ^ 24 := by omega
            by_cases hl : len * (s + 1) = 0
            · have hr : (Array.range (len * (s + 1))).map (z.cells[· % z.cells.size]!) = #[] := by rw [hl]; simp
              rw [hr] at o1
              have hz0 : ∀ f : Nat → Value, (Array.range 0).map f = #[] := fun f => by simp
              have o1' : Instr.fill (fun i => some (i * (s + 1), s + 1)) #[] (List.map (fun x => (x.fst, ρ' x.snd)) parts.toList) = some out' := o1
              simp only [Instr.buildSlice, Sem.run_bind, run_underlying hu, Result.andThen_ok, sizeA_run hs, hl, if_true, Sem.run_pure, hz0, Array.toList_map]
              rw [if_neg (by decide)]
              simp [o1', newRow]
            · simp [Instr.buildSlice, run_underlying hu, sizeA_run hs, hl, e1, z1, o1, newRow]
              try (intro hbig; omega)
          · unfold unk
            have : len ≤ len * (s + 1) := Nat.le_mul_of_pos_right _ (Nat.succ_pos _)
            omega
        · cases ha
    · cases ha
  · cases ha

theorem makeSliceA_run {P : Program} {σ : Sg} {w : World} {t : TypeId} {clock : Nat} {l c : Option Value} {l' c' : Value} {X : Blk} {g : Nat → Value} (hl : ∀ u, l = some u → VR σ u l') (hc : ∀ u, c = some u → VR σ u c')
    (ha : makeSliceA P t clock l c = some (X, g)) : X.ver = clock ∧ Makes P σ w (Instr.makeSlice t l' c') X g := by
  unfold makeSliceA at ha
  split at ha
  · rename_i e kl nl kc nc hu
    have := (hl _ rfl).int_inv; subst this
    have := (hc _ rfl).int_inv; subst this
    split at ha
    · rename_i i z hi hz
      cases hq : (Nat.ble nl nc && Nat.ble (i.bytes * nc) 140737488355328 && Nat.ble nc 140737488355328 && Nat.blt 0 i.size && Nat.beq z.cells.size i.size) with
      | false => rw [hq] at ha; cases ha
      | true =>
        rw [hq] at ha
        cases ha
        simp only [Bool.and_eq_true] at hq
        obtain ⟨⟨⟨⟨q1, q2⟩, q3⟩, q4⟩, q5⟩ := hq
        have q1 := ble_le q1; have q2 := ble_le q2; have q3 := ble_le q3; have q4 := blt_lt q4; have q5 := beq_eq q5
        obtain ⟨z1, z2⟩ := zeroA_run hz w
        have wl : IntKind.i64.wrap (nl : Int) = nl := by rw [wrap_small _ _ rfl]; simp [IntKind.bits]; omega
        have wc : IntKind.i64.wrap (nc : Int) = nc := by rw [wrap_small _ _ rfl]; simp [IntKind.bits]; omega
        have hbig : ¬ ((281474976710656 : Int) < (i.bytes : Int) * (nc : Int)) := by
          have : ((i.bytes * nc : Nat) : Int) ≤ 140737488355328 := by omega
          rw [Int.natCast_mul] at this; omega
        let C : Array Value := (Array.range (nc * i.size)).map (z.cells[· % z.cells.size]!)
        have hrun : (Instr.makeSlice t (.int kl (Int.ofNat nl)) (.int kc (Int.ofNat nc))).run P w = .ok (.slice (some ⟨w.heap.size, 0, none⟩) nl nc) { w with heap := w.heap.push (.cells C e (0, 0)) } := by
          have n1 : ¬ ((nc : Int) < 0) := by omega
          have n2 : ¬ ((nl : Int) < 0) := by omega
          have n3 : ¬ ((nl : Int) > (nc : Int)) := by omega
          by_cases h0 : nc * i.size = 0
          · have hC : C = #[] := by show (Array.range (nc * i.size)).map _ = _; rw [h0]; simp
            rw [hC]
            have hz0 : ∀ f : Nat → Value, (Array.range 0).map f = #[] := fun f => by simp
            simp [Instr.makeSlice, run_underlying hu, asInt, asIntOf, typeInfo, hi, sizeOf, wl, wc, hbig, n1, n2, n3, newRow, h0, hz0]
            try omega
          · simp [Instr.makeSlice, run_underlying hu, asInt, asIntOf, typeInfo, hi, sizeOf, z1, wl, wc, hbig, n1, n2, n3, newRow, h0, C]
            try omega
        have hCs : C.size = nc * i.size := by simp [C]
        have hget : ∀ k v, Row.get ⟨.nil, z.cells.toList, nc * i.size, e, i.size, clock⟩ k = some v → ∃ v', C[k]? = some v' ∧ VR σ v v' := by
          intro k v hv
          have hk := Row.get_lt hv
          rw [Row.get_eq, if_pos hk] at hv
          have hv : zAt z.cells.toList k = v := by simpa [T.get_nil] using hv
          have hk : k < nc * i.size := hk
          refine ⟨z.cells[k % z.cells.size]!, by simp [C, hk], ?_⟩
          have hlt : k % z.cells.size < z.cells.size := Nat.mod_lt _ (by omega)
          have e1 : z.cells[k % z.cells.size]! = v := by
            rw [← hv]; unfold zAt; rw [getElem!_pos z.cells _ hlt]; simp [hlt]
          have := at_VR σ z2 (k % z.cells.size)
          rw [e1] at this ⊢; exact this
        exact ⟨rfl, .cells C e (0, 0), _, _, C.size, i.size, hrun, rfl, rfl, rfl, rfl, fun b hb => ⟨row_BlkR (B := ⟨.nil, z.cells.toList, nc * i.size, e, i.size, clock⟩) hb (by rw [hCs]; exact Nat.le_refl _) (.inl rfl) hget, .slice 0 nl Sg.add_j (.inl ⟨by unfold unk; omega, rfl⟩)⟩⟩
    · cases ha
  · cases ha

theorem rangeA_run {P : Program} {σ : Sg} {w : World} {t : TypeId} {clock : Nat} {x : Option Value} {x' : Value} {B : Blk} {g : Nat → Value} (hx : ∀ u, x = some u → VR σ u x') (ha : rangeA P t clock x = some (B, g)) : B.ver = clock ∧ Makes P σ w (Instr.range t x') B g := by
  unfold rangeA at ha
  split at ha
  · rename_i s hu
    cases ha
    have := (hx _ rfl).string_inv; subst this
    exact ⟨rfl, .stringIter s 0, .pointer (some ⟨w.heap.size, 0, none⟩), { w with heap := w.heap.push (.stringIter s 0) }, 0, 0, by simp [Instr.range, run_underlying hu], rfl, rfl, rfl, rfl, fun b hb => ⟨rfl, .ptr 0 Sg.add_j⟩⟩
  · cases ha
theorem makeMap_run {P : Program} {σ : Sg} {w : World} {t : TypeId} {clock : Nat} : Makes P σ w (Instr.makeMap t none) (.map [] 0 clock) (fun b => .map (some b)) :=
  ⟨.map #[] 0, .map (some w.heap.size), { w with heap := w.heap.push (.map #[] 0) }, 0, 0, by simp [Instr.makeMap], rfl, rfl, rfl, rfl, fun b hb => ⟨⟨#[], rfl, .nil⟩, .map Sg.add_j⟩⟩

theorem bytesO_run {P : Program} {σ : Sg} {w : World} {e : TypeId} {clock : Nat} {s : ByteArray} {B : Blk} {g : Nat → Value} (ha : bytesO P e clock s = some (B, g)) : P.underlying e = some (.int .u8) ∧ B.ver = clock ∧ Makes P σ w (Conv.stringToBytes e s) B g := by
  unfold bytesO at ha
  split at ha
  · rename_i hu hs
    cases ha
    refine ⟨hu, rfl, ?_⟩
    let q : Question := .appendCap s.size 0 e
    let cap := q.cut (w.tape w.drawn q)
    have hcap : s.size ≤ cap := by
      show s.size ≤ s.size + _ % _
      omega
    let C : Array Value := (s.data.map fun b => Value.int .u8 b.toNat) ++ Array.replicate (cap - s.size) (.int .u8 0)
    have hCs : C.size = cap := by simp [C]; have : s.data.size = s.size := rfl; omega
    let w1 : World := { w with drawn := w.drawn + 1, heap := w.heap.push (.cells C e (C.size, C.size + 1)) }
    have hrun : (Conv.stringToBytes e s).run P w = .ok (.slice (some ⟨w.heap.size, 0, none⟩) s.size cap) w1 := by
      have hf : q.forced = false := rfl
      have e1 : ({ w with drawn := w.drawn + 1, heap := w.heap.push (.cells C e (0, 0)) } : World).shape? w.heap.size = some (e, C.size) := by simp [World.shape?]
      have e2 : ({ w with drawn := w.drawn + 1, heap := w.heap.push (.cells C e (0, 0)) } : World).freeze { block := w.heap.size, off := C.size } 1 = w1 := by
        simp only [World.freeze, w1]
        rw [if_neg (by decide)]
        congr 1
        apply Array.ext_getElem?
        intro k
        rw [Array.getElem?_modify, Array.getElem?_push, Array.getElem?_push]
        by_cases hk : k = w.heap.size
        · simp [hk]
        · have hk' : ¬ w.heap.size = k := fun h => hk h.symm
          simp [hk, hk']
      simp only [Conv.stringToBytes, Sem.run_bind, run_choose]
      rw [show Question.appendCap s.size 0 e = q from rfl, hf]
      simp only [Bool.false_eq_true, if_false, Result.andThen_ok, newRow, Sem.run_bind, run_newObj, Sem.run_pure, markStringish, run_shape]
      rw [show (Question.cut q (w.tape w.drawn q)) = cap from rfl, e1]
      simp only [Sem.run_bind, run_freeze, Result.andThen_ok, Sem.run_pure]
      exact congrArg (Result.ok _) e2
    have hget : ∀ k v, Row.get ⟨cellsPut .nil 0 (s.data.toList.map fun c => .int .u8 (.ofNat c.toNat)), [], (s.data.toList.map fun c => Value.int .u8 (.ofNat c.toNat)).length, e, 1, clock⟩ k = some v → ∃ v', C[k]? = some v' ∧ VR σ v v' := by
      intro k v hv
      rw [rowOf_get] at hv
      rw [List.getElem?_map] at hv
      obtain ⟨c, hc, rfl⟩ := Option.map_eq_some_iff.1 hv
      refine ⟨.int .u8 (.ofNat c.toNat), ?_, .int _ _⟩
      have hk : k < s.data.size := by have := (List.getElem?_eq_some_iff.1 hc).1; simpa using this
      have hc' : s.data[k]? = some c := by simpa using hc
      simp only [C]
      rw [Array.getElem?_append_left (by simpa using hk), Array.getElem?_map, hc']
      rfl
    refine ⟨.cells C e (C.size, C.size + 1), _, w1, C.size, 1, hrun, rfl, rfl, rfl, rfl, fun b hb => ⟨row_BlkR (B := ⟨cellsPut .nil 0 (s.data.toList.map fun c => .int .u8 (.ofNat c.toNat)), [], (s.data.toList.map fun c => Value.int .u8 (.ofNat c.toNat)).length, e, 1, clock⟩) (fz := (C.size, C.size + 1)) hb (by rw [hCs]; simpa using hcap) (.inr ⟨rfl, Nat.le_refl _⟩) hget, ?_⟩⟩
    have : s.data.toList.length = s.size := by simp
    rw [this]
    exact .slice 0 s.size Sg.add_j (.inr ⟨by simp [Sg.add], hcap, by simp [Sg.add, hCs]⟩)
  · cases ha
end Go.Proofs.Ytnjeafdbifcfhaa.Den
