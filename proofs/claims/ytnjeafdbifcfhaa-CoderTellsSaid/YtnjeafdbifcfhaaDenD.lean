/- A small machine for closed runs: its operations on addresses are the real ones. No condition. -/
import Derived.Test.YtnjeafdbifcfhaaDenC
import Derived.Laws.StructEq
namespace Go.Proofs.Ytnjeafdbifcfhaa.Den
open Go
set_option linter.unusedSimpArgs false
set_option linter.unusedVariables false

def ER (σ : Sg) (ρ : Env) (ρ' : Operand → Value) : Prop := ∀ x v, ρ x = some v → VR σ v (ρ' x)

inductive PRs (σ : Sg) : List (Nat × Value) → List (Nat × Value) → Prop where
  | nil : PRs σ [] []
  | cons {i : Nat} {v v' : Value} {l l' : List (Nat × Value)} (h : VR σ v v') (hl : PRs σ l l') : PRs σ ((i, v) :: l) ((i, v') :: l')

theorem envl_run {σ : Sg} {ρ : Env} {ρ' : Operand → Value} (hρ : ER σ ρ ρ') : ∀ {l : List Operand} {vs : List Value}, envl ρ l = some vs → VRs σ vs (l.map ρ')
  | [], vs, h => by cases h; exact .nil
  | x :: l, vs, h => by
    unfold envl at h
    split at h
    · rename_i v ws hv hw; cases h; exact .cons (hρ x v hv) (envl_run hρ hw)
    · cases h
theorem envs_run {σ : Sg} {ρ : Env} {ρ' : Operand → Value} (hρ : ER σ ρ ρ') : ∀ {l : List (Nat × Operand)} {ps : List (Nat × Value)}, envs ρ l = some ps → PRs σ ps (l.map fun (i, x) => (i, ρ' x))
  | [], vs, h => by cases h; exact .nil
  | (i, x) :: l, vs, h => by
    unfold envs at h
    split at h
    · rename_i v ws hv hw; cases h; exact .cons (hρ x v hv) (envs_run hρ hw)
    · cases h

theorem VRs.set {σ : Sg} {l l' : List Value} (h : VRs σ l l') {v v' : Value} (hv : VR σ v v') : ∀ i, VRs σ (l.set i v) (l'.set i v') := by
  induction h with
  | nil => intro i; simp; exact .nil
  | cons hx hl ih => intro i; cases i with
    | zero => simp; exact .cons hv hl
    | succ i => simp; exact .cons hx (ih i)

def fillStep (off : Nat) (cs : Array Value) : Value × Nat → Array Value := fun (c, j) => cs.setIfInBounds (off + j) c
theorem fill_fold {σ : Sg} {v v' : List Value} (h : VRs σ v v') : ∀ (off j : Nat) (cs cs' : Array Value), VRs σ cs.toList cs'.toList →
    VRs σ ((v.zipIdx j).foldl (fillStep off) cs).toList ((v'.zipIdx j).foldl (fillStep off) cs').toList := by
  induction h with
  | nil => intro off j cs cs' hc; exact hc
  | cons hx _ ih =>
    intro off j cs cs' hc
    simp only [List.zipIdx_cons, List.foldl_cons]
    refine ih off (j + 1) _ _ ?_
    simp only [fillStep, Array.toList_setIfInBounds]
    exact hc.set hx _
theorem fill_run {σ : Sg} (place : Nat → Option (Nat × Nat)) : ∀ {ps ps' : List (Nat × Value)} {cs cs' out : Array Value}, PRs σ ps ps' → VRs σ cs.toList cs'.toList → Instr.fill place cs ps = some out →
    ∃ out', Instr.fill place cs' ps' = some out' ∧ VRs σ out.toList out'.toList := by
  intro ps ps' cs cs' out hp
  induction hp generalizing cs cs' with
  | nil => intro hc h; cases h; exact ⟨cs', rfl, hc⟩
  | @cons i v v' l l' hv hl ih =>
    intro hc h
    unfold Instr.fill at h ⊢
    split at h
    · cases h
    · rename_i off size hpl
      have hs : v'.cells.size = v.cells.size := by have := hv.cells.length; simpa using this.symm
      have hz : cs'.size = cs.size := by have := hc.length; simpa using this.symm
      rw [hs, hz]
      split at h
      · cases h
      · rename_i hcond
        rw [if_neg hcond]
        refine ih ?_ h
        have e : ∀ (a b : Array Value), (Array.foldl (fun cs (x : Value × Nat) => match x with | (c, j) => cs.setIfInBounds (off + j) c) b a.zipIdx) = (a.toList.zipIdx 0).foldl (fillStep off) b := by
          intro a b
          rw [← Array.foldl_toList]
          simp
          rfl
        rw [e, e]
        exact fill_fold hv.cells off 0 cs cs' hc

theorem sizesA_run {P : Program} (w : World) : ∀ {fs : List Field} {pl : List (Nat × Nat)}, sizesA P fs = some pl →
    (fs.mapM fun f => do pure (f.offset, ← sizeOf f.type) : Sem (List (Nat × Nat))).run P w = .ok pl w
  | [], pl, h => by cases h; rfl
  | f :: fs, pl, h => by
    unfold sizesA at h
    split at h
    · rename_i n ns hn hns; cases h
      simp only [List.mapM_cons, Sem.run_bind, sizeA_run hn, Result.andThen_ok, Sem.run_pure, sizesA_run w hns]
    · cases h

theorem plain_VRs (σ : Sg) {z : Value} (h : plain z = true) : VRs σ z.cells.toList z.cells.toList := (plain_VR σ h).cells

theorem buildA_run {P : Program} {w : World} {σ : Sg} {t : TypeId} {ps ps' : List (Nat × Value)} {v : Value} (h : buildA P t ps = some v) (hp : PRs σ ps ps') :
    ∃ v', (Instr.build t ps'.toArray).run P w = .ok v' w ∧ VR σ v v' := by
  unfold buildA at h
  split at h
  · rename_i z fs hz hu
    obtain ⟨z1, z2⟩ := zeroA_run hz w
    split at h
    · rename_i pl hpl
      split at h
      · rename_i cs hf
        cases h
        obtain ⟨out', h1, h2⟩ := fill_run (fun i : Nat => pl[i]?) hp (plain_VRs σ z2) hf
        refine ⟨.agg out', ?_, .agg (by simpa using h2.length) fun i a a' ha ha' => ?_⟩
        · simp only [Instr.build, Sem.run_bind, z1, Result.andThen_ok, run_underlying hu, Array.mapM_eq_mapM_toList, Sem.run_map, sizesA_run w hpl]
          have : (fun x : Nat => pl.toArray[x]?) = fun i : Nat => pl[i]? := by funext i; simp
          simp only [this, h1, Sem.run_pure]
        · obtain ⟨a2, k1, k2⟩ := h2.get i (v := a) (by simpa using ha)
          have : out'.toList[i]? = some a' := by simpa using ha'
          rw [this] at k1; cases k1; exact k2
      · cases h
    · cases h
  · rename_i z n e hz hu
    obtain ⟨z1, z2⟩ := zeroA_run hz w
    split at h
    · rename_i s hs
      split at h
      · rename_i cs hf
        cases h
        obtain ⟨out', h1, h2⟩ := fill_run (fun i => some (i * s, s)) hp (plain_VRs σ z2) hf
        refine ⟨.agg out', ?_, .agg (by simpa using h2.length) fun i a a' ha ha' => ?_⟩
        · simp only [Instr.build, Sem.run_bind, z1, Result.andThen_ok, run_underlying hu, sizeA_run hs, h1, Sem.run_pure]
        · obtain ⟨a2, k1, k2⟩ := h2.get i (v := a) (by simpa using ha)
          have : out'.toList[i]? = some a' := by simpa using ha'
          rw [this] at k1; cases k1; exact k2
      · cases h
    · cases h
  · cases h

theorem VR.of_lists {σ : Sg} {a a' : Array Value} (h : VRs σ a.toList a'.toList) : VR σ (.agg a) (.agg a') := by
  refine .agg (by simpa using h.length) fun i v v' h1 h2 => ?_
  obtain ⟨u, k1, k2⟩ := h.get i (v := v) (by simpa using h1)
  have : a'.toList[i]? = some v' := by simpa using h2
  rw [this] at k1; cases k1; exact k2

theorem addr_add (b o n : Nat) : (⟨b, o, none⟩ : Addr).add n = ⟨b, o + n, none⟩ := by
  unfold Addr.add
  split
  · rename_i h; subst h; rfl
  · rfl

theorem fieldAddrA_run {P : Program} {w : World} {σ : Sg} {s : TypeId} {x x' : Value} {f : Nat} {v : Value} (h : fieldAddrA P s x f = some v) (hx : VR σ x x') :
    ∃ v', (Instr.fieldAt s x' f).run P w = .ok v' w ∧ VR σ v v' := by
  unfold fieldAddrA at h
  split at h
  · rename_i fs b o hu
    split at h
    · rename_i fd hf
      split at h
      · rename_i n hn
        cases h
        cases hx with
        | ptr _ hj =>
          refine ⟨_, ?_, .ptr (o + fd.offset) hj⟩
          simp [Instr.fieldAt, run_underlying hu, hf, Instr.sureAddr, fieldPlace, sizeA_run hn, addr_add]
      · cases h
    · cases h
  · cases h

theorem VRs.take {σ : Sg} {l l' : List Value} (h : VRs σ l l') : ∀ n, VRs σ (l.take n) (l'.take n) := by
  induction h with
  | nil => intro n; simp; exact .nil
  | cons hx _ ih => intro n; cases n with
    | zero => simp; exact .nil
    | succ n => simp; exact .cons hx (ih n)
theorem VRs.drop {σ : Sg} {l l' : List Value} (h : VRs σ l l') : ∀ n, VRs σ (l.drop n) (l'.drop n) := by
  induction h with
  | nil => intro n; simp; exact .nil
  | cons hx hl ih => intro n; cases n with
    | zero => simp; exact .cons hx hl
    | succ n => simp; exact ih n

theorem partA_run {P : Program} {w : World} {σ : Sg} {t : TypeId} {cs cs' : Array Value} {off : Nat} {v : Value} (h : partA P t cs off = some v) (hc : VRs σ cs.toList cs'.toList) :
    ∃ v', (part t cs' off).run P w = .ok v' w ∧ VR σ v v' := by
  unfold partA at h
  split at h
  · rename_i n ha hn
    obtain ⟨hb, h⟩ := cond_some h
    cases h
    refine ⟨.agg (cs'.extract off (off + n)), ?_, ?_⟩
    · simp [part, isAggA_run ha, sizeA_run hn]
    · refine VR.of_lists ?_
      rw [Array.toList_extract, Array.toList_extract]
      exact (hc.drop _).take _
  · rename_i ha
    obtain ⟨u, k1, k2⟩ := hc.get off (v := v) (by simpa using h)
    have : cs'[off]? = some u := by simpa using k1
    exact ⟨u, by simp [part, isAggA_run ha, this], k2⟩
  · cases h

theorem fieldA_run {P : Program} {w : World} {σ : Sg} {s : TypeId} {x x' : Value} {f : Nat} {v : Value} (h : fieldA P s x f = some v) (hx : VR σ x x') :
    ∃ v', (Instr.field s x' f).run P w = .ok v' w ∧ VR σ v v' := by
  unfold fieldA at h
  split at h
  · rename_i fs cs hu
    split at h
    · rename_i fd hf
      cases hx with
      | agg ha va =>
        obtain ⟨v', h1, h2⟩ := partA_run (w := w) h (VRs.of_arrays ha va)
        exact ⟨v', by simp [Instr.field, run_underlying hu, hf, asAgg, h1], h2⟩
    · cases h
  · cases h

theorem blt_lt {a b : Nat} (h : Nat.blt a b = true) : a < b := Nat.le_of_ble_eq_true h
theorem ble_le {a b : Nat} (h : Nat.ble a b = true) : a ≤ b := Nat.le_of_ble_eq_true h
theorem beq_eq {a b : Nat} (h : Nat.beq a b = true) : a = b := Nat.eq_of_beq_eq_true h

theorem indexAddrA_run {P : Program} {w : World} {σ : Sg} {t : TypeId} {x x' i i' v : Value} (h : indexAddrA P t x i = some v) (hx : VR σ x x') (hi : VR σ i i') :
    ∃ v', (Instr.indexAt t x' i').run P w = .ok v' w ∧ VR σ v v' := by
  unfold indexAddrA at h
  split at h
  · rename_i len e b o k n hu
    split at h
    · rename_i s hs
      obtain ⟨hb, h⟩ := cond_some h
      have hb := blt_lt hb
      cases h; have := hi.int_inv; subst this
      cases hx with
      | ptr _ hj =>
        refine ⟨_, ?_, .ptr _ hj⟩
        simp [Instr.indexAt, asIntOf, run_underlying hu, Instr.sureAddr, sizeA_run hs, addr_add, hb]
    · cases h
  · rename_i e b o len c k n hu
    split at h
    · rename_i s hs
      obtain ⟨hb, h⟩ := cond_some h
      have hb := blt_lt hb
      cases h; have := hi.int_inv; subst this
      cases hx with
      | slice _ _ hj hc =>
        refine ⟨_, ?_, .ptr _ hj⟩
        simp [Instr.indexAt, asIntOf, run_underlying hu, Instr.sureAddr, sizeA_run hs, addr_add, hb]
    · cases h
  · cases h

theorem indexA_run {P : Program} {w : World} {σ : Sg} {t : TypeId} {x x' i i' v : Value} (h : indexA P t x i = some v) (hx : VR σ x x') (hi : VR σ i i') :
    ∃ v', (Instr.index t x' i').run P w = .ok v' w ∧ VR σ v v' := by
  unfold indexA at h
  split at h
  · rename_i len e cs k n hu
    split at h
    · rename_i s hs
      obtain ⟨hb, h⟩ := cond_some h
      have hb := blt_lt hb
      have := hi.int_inv; subst this
      cases hx with
      | agg ha va =>
        obtain ⟨v', h1, h2⟩ := partA_run (w := w) h (VRs.of_arrays ha va)
        exact ⟨v', by simp [Instr.index, asIntOf, run_underlying hu, sizeA_run hs, hb, h1], h2⟩
    · cases h
  · rename_i s k n hu
    split at h
    · rename_i c hc
      cases h; have := hi.int_inv; subst this; have := hx.string_inv; subst this
      refine ⟨_, ?_, .int _ _⟩
      have hlt : n < s.size := by
        have := (List.getElem?_eq_some_iff.1 hc).1
        simpa using this
      have e : s[n]? = some c := by
        rw [getElem?_pos s n hlt]
        have e2 : s.data.toList[n]? = some s[n] := by
          have : n < s.data.toList.length := by simpa using hlt
          rw [List.getElem?_eq_getElem this]; rfl
        rw [e2] at hc; exact hc
      simp [Instr.index, asIntOf, run_underlying hu, e]
    · cases h
  · cases h

theorem eqL_run {P : Program} {w : World} {σ : Sg} {d : Nat} {t : TypeId} {a b a' b' : Value} {r : Bool} (h : eqL (P.underlying t) a b = some r) (ha : VR σ a a') (hb : VR σ b b') : (Op.equalIn (d + 1) t a' b').run P w = .ok r w := by
  unfold eqL at h
  split at h
  · rename_i hd
    split at h
    · rename_i hk; subst hk; cases h; cases ha; cases hb; exact run_equalIn_int w d t _ _ _ _ hd
    · cases h
  · rename_i hd; cases h; cases ha; cases hb; exact run_equalIn_string w d t _ _ hd
  · rename_i hd; cases h; cases ha; cases hb; exact run_equalIn_bool' w d t _ _ hd
  · cases h
theorem fieldsEq_run {P : Program} {w : World} {σ : Sg} {d : Nat} {xs ys xs' ys' : Array Value} (hx : VRs σ xs.toList xs'.toList) (hy : VRs σ ys.toList ys'.toList) : ∀ {fs : List Field} {r : Bool}, fieldsEq P xs ys fs = some r → (Op.eqFields (d + 1) xs' ys' fs).run P w = .ok r w
  | [], r, h => by cases h; simp [Op.eqFields]
  | f :: fs, r, h => by
    unfold fieldsEq at h
    cases hn : (f.name == "_") with
    | true => rw [hn] at h; cases h
    | false =>
      rw [hn] at h
      have hn' : f.name ≠ "_" := by simpa using hn
      simp only [cond_false] at h
      split at h
      · rename_i a b h1 h2
        split at h
        · rename_i r1 h3
          obtain ⟨a', k1, k2⟩ := partA_run (w := w) h1 hx
          obtain ⟨b', k3, k4⟩ := partA_run (w := w) h2 hy
          have he := eqL_run (w := w) (d := d) h3 k2 k4
          rw [Op.eqFields]
          simp only [if_pos hn', Sem.run_bind, k1, k3, he, Result.andThen_ok]
          cases r1 with
          | true => simpa using fieldsEq_run hx hy h
          | false => cases h; simp
        · cases h
      · cases h
theorem binB_run {P : Program} {w : World} {σ : Sg} {op : BinOp} {t : TypeId} {x y x' y' v : Value} (h : binB P op t x y = some v) (hx : VR σ x x') (hy : VR σ y y') (ox oy : Operand) :
    (do eqGuard op t ox oy x' y'; binOp op t x' y' : Sem Value).run P w = .ok v w ∧ VR σ v v := by
  unfold binB at h
  split at h
  · unfold eqS at h
    split at h
    · rename_i xs ys td fs hu
      cases hx with
      | agg hx1 hx2 => cases hy with
        | agg hy1 hy2 =>
          rename_i xs' ys'
          cases hg : (P.stoodInHeld t || P.eqGuardType P.depth t) with
          | true => rw [hg] at h; cases h
          | false =>
            rw [hg] at h
            simp only [Bool.or_eq_false_iff] at hg
            simp only [cond_false] at h
            have hf : P.fieldsOf t = fs := by simp [Program.fieldsOf, hu]
            have key : ∀ {b : Bool}, fieldsEq P xs ys fs.toList = some b → (Op.equalIn 10000 t (.agg xs') (.agg ys')).run P w = .ok b w := fun {b} hb => by
              rw [run_equalIn_struct (P := P) w 9999 t xs' ys' (by rw [hf]; exact hu) hg.1, hf]
              exact fieldsEq_run (d := 9998) (VRs.of_arrays hx1 hx2) (VRs.of_arrays hy1 hy2) hb
            split at h
            · rename_i b hb
              cases h
              exact ⟨by rw [Sem.run_bind, run_eqGuard_agg (P := P) w _ t ox oy xs' ys' hg.2, Result.andThen_ok, run_eql_struct, key hb]; rfl, .bool _⟩
            · rename_i b hb
              cases h
              exact ⟨by rw [Sem.run_bind, run_eqGuard_agg (P := P) w _ t ox oy xs' ys' hg.2, Result.andThen_ok, run_neq_struct, key hb]; rfl, .bool _⟩
            · cases h
    · cases h
  · exact binA_run h hx hy ox oy

end Go.Proofs.Ytnjeafdbifcfhaa.Den
