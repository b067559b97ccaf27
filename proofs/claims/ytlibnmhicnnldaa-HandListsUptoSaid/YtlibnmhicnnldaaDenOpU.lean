/- The arguments of an open law of which the bulk is bounded, as blocks that are only read. No condition. -/
import Derived.Test.YtlibnmhicnnldaaDenOpen
import Derived.Test.YtlibnmhicnnldaaRows
namespace Go.Proofs.Ytlibnmhicnnldaa.Den.U
open Go Go.RowKit Go.Proofs.Ytlibnmhicnnldaa.Den
set_option linter.unusedVariables false
set_option linter.unusedSimpArgs false

/-- each string, each slice in it is short enough, and all of it -/
def Wt {H0 : Type} (P : Program) (t : TypeId) (d : DataW H0) : Prop := (d.weights P t).all (· ≤ reachBytes) = true ∧ Rows.uptoBulk d ≤ 1048576
theorem part_le {H : Type} {d : DataW H} {l : List (DataW H)} (h : d ∈ l) : Rows.uptoBulk d ≤ Rows.uptoBulkAll l := by
  induction l with
  | nil => cases h
  | cons x r ih =>
    simp only [Rows.uptoBulkAll]
    cases List.mem_cons.1 h with
    | inl e => subst e; omega
    | inr e => have := ih e; omega
theorem wt_each {H0 : Type} {P : Program} (ts : List TypeId) (ds : List (DataW H0)) (h : (DataW.weightsEach P ts ds).all (· ≤ reachBytes) = true) (hb : Rows.uptoBulkAll ds ≤ 1048576) (i : Nat) (t : TypeId) (d : DataW H0) (ht : ts[i]? = some t) (hd : ds[i]? = some d) : Wt P t d :=
  ⟨Den.wt_each ts ds h i t d ht hd, Nat.le_trans (part_le (List.mem_of_getElem? hd)) hb⟩
/-- data of type t, opened: R tells what the cells vs say in h -/
structure DOb (P : Program) (t : TypeId) {α : Type} (R : H → α → List Value → Prop) (q : α → Prop) : Prop where
  mono : ∀ h h' a vs, HExt h h' → R h a vs → R h' a vs
  go : ∀ (H0 : Type) (enc : TypeId × Value → H0) (w : World) (fuel : Nat) (cs : List Value) (x : DataW H0 × List MemPlace), DataW.trod enc P w 0 (fun _ => true) true fuel t cs = some x → Wt P t x.1 →
    ∀ σ h, Rel σ h w → Dead h → ∃ σ' h' a vs, Rel σ' h' w ∧ Dead h' ∧ σ.le σ' ∧ HExt h h' ∧ VRs σ' vs cs ∧ R h' a vs ∧ q a

section
variable {P : Program} {t e : TypeId}
theorem DOb.int {k : IntKind} (ht : P.underlying t = some (.int k)) : DOb P t (RInt k) (fun n => (Lit.int k n).wf = true) :=
  ⟨fun _ _ _ _ _ r => r, fun H0 enc w fuel cs x h wt σ g R D => by
    obtain ⟨n, rfl, _, e3⟩ := DataW.trod_int ht h
    exact ⟨σ, g, n, [.int k n], R, D, Sg.le.refl σ, HExt.refl g, .cons (.int _ _) .nil, rfl, e3⟩⟩
theorem DOb.bool (ht : P.underlying t = some .bool) : DOb P t RBool (fun _ => True) :=
  ⟨fun _ _ _ _ _ r => r, fun H0 enc w fuel cs x h wt σ g R D => by
    obtain ⟨n, rfl, _⟩ := DataW.trod_bool ht h
    exact ⟨σ, g, n, [.bool n], R, D, Sg.le.refl σ, HExt.refl g, .cons (.bool _) .nil, rfl, trivial⟩⟩
theorem DOb.string (ht : P.underlying t = some .string) : DOb P t RStr (fun s => s.size ≤ 1048576) :=
  ⟨fun _ _ _ _ _ r => r, fun H0 enc w fuel cs x h wt σ g R D => by
    obtain ⟨n, rfl, e2, e3⟩ := DataW.trod_string ht h
    subst e2
    have : n.size ≤ 1048576 := by
      have h2 := wt.2
      simp only [Rows.uptoBulk] at h2
      have e : n.data.toList.length = n.size := by rw [Array.length_toList]; rfl
      omega
    exact ⟨σ, g, n, [.string n], R, D, Sg.le.refl σ, HExt.refl g, .cons (.string _) .nil, rfl, this⟩⟩
theorem DOb.slice {α : Type} {R : H → α → List Value → Prop} {q : α → Prop} {es : Nat} (ht : P.underlying t = some (.slice e)) (he : P.cellsOf e = es) (hes : 0 < es) (hd : DOb P e R q) :
    DOb P t (RSl es R) (fun xs => xs.length * P.bytesOf e ≤ reachBytes ∧ xs.length ≤ maxLen ∧ ∀ x ∈ xs, q x) := by
  refine ⟨fun h h' xs vs k r => ?_, fun H0 enc w fuel cs x h wt σ g Re D => ?_⟩
  · obtain ⟨s, rfl, r1, r2⟩ := r
    refine ⟨s, rfl, r1, ?_⟩
    rcases r2 with r2 | ⟨r2, b, o, r3, r4, ls, r5, r6, r7, r8⟩
    · exact .inl r2
    · exact .inr ⟨r2, b, o, r3, r4, ls, r5, r6, fun i x l h1 h2 => hd.mono _ _ _ _ k (r7 i x l h1 h2), k _ _ r8⟩
  · rcases Go.Deep.open_slice ht h with ⟨rfl, _⟩ | ⟨a, len, cap, m, n, Dd, Pl, rfl, _, hl, hm, hmm, hxe, hx⟩
    · exact ⟨σ, g, [], [.slice none 0 0], Re, D, Sg.le.refl σ, HExt.refl g, .cons .nils .nil, ⟨⟨none, 0, 0⟩, rfl, rfl, .inl ⟨rfl, .inl rfl⟩⟩, by simp, by simp⟩
    · simp only [if_true] at hmm
      subst hmm
      subst hxe
      have wt1 := wt.1
      have wtB := wt.2
      simp only [Rows.uptoBulk] at wtB
      rw [DataW.weights, ht] at wt1
      simp only [List.all_cons, List.all_append, Bool.and_eq_true, decide_eq_true_eq, List.length_map, List.length_range] at wt1
      obtain ⟨wtl, wte, _⟩ := wt1
      have wtb : len * P.bytesOf e ≤ reachBytes := Nat.le_trans (Nat.mul_le_mul_right _ (by omega)) wtl
      have wti : ∀ i, i < len → Wt P e (Dd i) := fun i hi => ⟨Den.wt_all _ wte _ (List.mem_map.2 ⟨i, List.mem_range.2 hi, rfl⟩), Nat.le_trans (part_le (List.mem_map.2 ⟨i, List.mem_range.2 hi, rfl⟩)) (by omega)⟩
      rcases Nat.eq_zero_or_pos len with z | z
      · subst z
        exact ⟨σ, g, [], [emptyV], Re, D, Sg.le.refl σ, HExt.refl g, .cons (.emp a m) .nil, ⟨⟨some ⟨0, 0, some 0⟩, 0, 0⟩, rfl, rfl, .inl ⟨rfl, .inr rfl⟩⟩, by simp, by simp⟩
      · have step : ∀ k, k ≤ len → ∃ (σ' : Sg) (h' : H) (xs : List α) (ls ls' : List (List Value)), Rel σ' h' w ∧ Dead h' ∧ σ.le σ' ∧ HExt g h' ∧ xs.length = k ∧ ls.length = k ∧ ls'.length = k ∧ (∀ l ∈ ls', l.length = es) ∧
            (∀ (i : Nat) (l l' : List Value), ls[i]? = some l → ls'[i]? = some l' → VRs σ' l l') ∧ (∀ (i : Nat) (x : α) (l : List Value), xs[i]? = some x → ls[i]? = some l → R h' x l) ∧ (∀ x ∈ xs, q x) ∧
            (∀ (i : Nat) (l' : List Value), ls'[i]? = some l' → w.cells? 0 (a.add (i * es)) es = some l') := by
          intro k
          induction k with
          | zero => intro _; exact ⟨σ, g, [], [], [], Re, D, Sg.le.refl σ, HExt.refl g, rfl, rfl, rfl, by simp, by simp, by simp, by simp, by simp⟩
          | succ k ih =>
            intro hk
            obtain ⟨σ1, h1, xs, ls, ls', R1, D1, k1, k2, k3, k4, k5, k6, k7, k8, k9, k10⟩ := ih (by omega)
            obtain ⟨cs', c1, c2⟩ := hx k (by omega)
            rw [he] at c1
            obtain ⟨σ2, h2, x2, vs2, R2, D2, j1, j2, j3, j4, j5⟩ := hd.go H0 enc w n cs' _ c2 (wti k (by omega)) σ1 h1 R1 D1
            refine ⟨σ2, h2, xs ++ [x2], ls ++ [vs2], ls' ++ [cs'], R2, D2, k1.trans j1, k2.trans j2, by simp [k3], by simp [k4], by simp [k5], ?_, ?_, ?_, ?_, ?_⟩
            · intro l hl
              rcases List.mem_append.1 hl with q | q
              · exact k6 l q
              · rw [List.mem_singleton.1 q]; exact (World.cells?_some c1).2.1
            · intro i l l' h3 h4
              rcases Nat.lt_trichotomy i k with q | q | q
              · rw [List.getElem?_append_left (by omega)] at h3 h4
                exact (k7 i l l' h3 h4).mono j1
              · subst q
                rw [List.getElem?_append_right (by omega), k4] at h3
                rw [List.getElem?_append_right (by omega), k5] at h4
                simp at h3 h4
                subst h3; subst h4; exact j3
              · rw [List.getElem?_eq_none (by simp [k4]; omega)] at h3; cases h3
            · intro i x l h3 h4
              rcases Nat.lt_trichotomy i k with q | q | q
              · rw [List.getElem?_append_left (by omega)] at h3 h4
                exact hd.mono _ _ _ _ j2 (k8 i x l h3 h4)
              · subst q
                rw [List.getElem?_append_right (by omega), k3] at h3
                rw [List.getElem?_append_right (by omega), k4] at h4
                simp at h3 h4
                subst h3; subst h4; exact j4
              · rw [List.getElem?_eq_none (by simp [k4]; omega)] at h4; cases h4
            · intro x hx
              rcases List.mem_append.1 hx with q | q
              · exact k9 x q
              · rw [List.mem_singleton.1 q]; exact j5
            · intro i l' h3
              rcases Nat.lt_trichotomy i k with q | q | q
              · rw [List.getElem?_append_left (by omega)] at h3
                exact k10 i l' h3
              · subst q
                rw [List.getElem?_append_right (by omega), k5] at h3
                simp at h3
                subst h3; exact c1
              · rw [List.getElem?_eq_none (by simp [k5]; omega)] at h3; cases h3
        obtain ⟨σ1, h1, xs, ls, ls', R1, D1, k1, k2, k3, k4, k5, k6, k7, k8, k9, k10⟩ := step len (Nat.le_refl _)
        have k6' : ∀ l ∈ ls, l.length = es := by
          intro l hl
          obtain ⟨i, hi, rfl⟩ := List.mem_iff_getElem.1 hl
          have := k7 i ls[i] (ls'[i]'(by omega)) (by simp) (by simp)
          rw [this.length]; exact k6 _ (by simp)
        have cell : ∀ k, k < len * es → w.cell? (a.add k) = ls'.flatten[k]? := by
          intro k hk
          have hf : ls'.flatten.length = len * es := by rw [flatten_len ls' k6, k5]
          rw [flatten_get ls' k6 k (by omega)]
          have hd1 : k / es < len := Nat.div_lt_of_lt_mul (by rw [Nat.mul_comm]; exact hk)
          have hd2 : k % es < es := Nat.mod_lt _ hes
          obtain ⟨l', hl'⟩ : ∃ l', ls'[k / es]? = some l' := ⟨ls'[k / es]'(by omega), by simp⟩
          rw [hl']
          obtain ⟨_, c2, c3⟩ := World.cells?_some (k10 _ _ hl')
          have := c3 (k % es) hd2
          rw [Addr.add_add, Nat.mul_comm, Nat.div_add_mod] at this
          exact this
        obtain ⟨v0, hv0⟩ : ∃ v0, w.cell? (a.add 0) = some v0 := by
          have hf : ls'.flatten.length = len * es := by rw [flatten_len ls' k6, k5]
          have h0 : 0 < len * es := Nat.mul_pos z hes
          exact ⟨ls'.flatten[0]'(by omega), by rw [cell 0 h0, List.getElem?_eq_getElem]⟩
        have shape : a.spot = none ∧ ∃ c e' fz, w.heap[a.block]? = some (.cells c e' fz) := by
          unfold World.cell? at hv0
          have hb : a.add 0 = a := by simp [Addr.add]
          rw [hb] at hv0
          split at hv0
          · rename_i c e' fz hh
            cases ha : a.spot with
            | none => exact ⟨rfl, c, e', fz, hh⟩
            | some _ => rw [ha] at hv0; simp at hv0
          · cases hv0
        obtain ⟨hs, c, e', fz, hh⟩ := shape
        obtain ⟨ab, ao, asp⟩ := a
        simp only at hs hh
        subst hs
        have ro : RoR σ1 w ab ao ls.flatten := by
          refine ⟨c, e', fz, ls'.flatten, hh, VRs.flatten (by omega) k7, fun k hk => ?_⟩
          have hk' : k < len * es := by rw [flatten_len ls k6', k4] at hk; exact hk
          have := cell k hk'
          have ad : (⟨ab, ao, none⟩ : Addr).add k = ⟨ab, ao + k, none⟩ := by unfold Addr.add; split <;> simp_all
          rw [ad] at this
          simpa [World.cell?, hh] using this
        obtain ⟨R2, D2, l2⟩ := R1.addRo D1 (rs := ao + m * es) (es := es) ro
        have ext : HExt h1 (h1.addRo ao ls.flatten) := by
          intro b x hx
          rw [H.get_addRo]
          have : b ≠ h1.next := by
            rintro rfl
            rw [R1.dom _ (Nat.le_refl _)] at hx; cases hx
          rw [if_neg this]; exact hx
        have hj : (σ1.add h1.next ab (ao + m * es) es).j h1.next = some ab := by simp [Sg.add]
        refine ⟨_, _, xs, [Sl.v ⟨some ⟨h1.next, ao, none⟩, len, unkOf es⟩], R2, D2, k1.trans l2, k2.trans ext, .cons (.slice ao len hj (.inr ⟨?_, hl, ?_⟩)) .nil, ⟨_, rfl, k3.symm, .inr ⟨?_, h1.next, ao, rfl, rfl, ls, by omega, k6', fun i x l h3 h4 => hd.mono _ _ _ _ ext (k8 i x l h3 h4), ?_⟩⟩, by rw [k3]; exact wtb, by omega, k9⟩
        · simp [Sg.add]
        · simp [Sg.add]
        · rintro rfl; simp at k3; omega
        · rw [H.get_addRo, if_pos rfl]

/-- the fields of a struct from place off on -/
def DFields {α : Type} (P : Program) (fs : List Field) (off sz : Nat) (R : H → α → List Value → Prop) (q : α → Prop) : Prop :=
  (∀ h h' a vs, HExt h h' → R h a vs → R h' a vs) ∧
  ∀ (H0 : Type) (enc : TypeId × Value → H0) (w : World) (n : Nat) (cs : List Value), (∀ (i : Nat) (f : Field), fs[i]? = some f → ∃ y, DataW.trod enc P w 0 (fun _ => true) true n f.type ((cs.drop f.offset).take (P.cellsOf f.type)) = some y ∧ Wt P f.type y.1) → cs.length = off + sz →
    ∀ σ h, Rel σ h w → Dead h → ∃ σ' h' a vs, Rel σ' h' w ∧ Dead h' ∧ σ.le σ' ∧ HExt h h' ∧ VRs σ' vs (cs.drop off) ∧ R h' a vs ∧ q a
theorem DFields.last {α : Type} {R : H → α → List Value → Prop} {q : α → Prop} {f : Field} (hd : DOb P f.type R q) : DFields P [f] f.offset (P.cellsOf f.type) R q := by
  refine ⟨hd.mono, fun H0 enc w n cs h hl σ g Re D => ?_⟩
  obtain ⟨y, hy, wt⟩ := h 0 f rfl
  rw [List.take_of_length_le (by rw [List.length_drop, hl]; omega)] at hy
  exact hd.go H0 enc w n _ _ hy wt σ g Re D
theorem DFields.field {α β : Type} {A : H → α → List Value → Prop} {B : H → β → List Value → Prop} {qa : α → Prop} {qb : β → Prop} {f : Field} {fs : List Field} {off sz : Nat} (ha : DOb P f.type A qa) (ho : off = f.offset + P.cellsOf f.type) (hb : DFields P fs off sz B qb) :
    DFields P (f :: fs) f.offset (P.cellsOf f.type + sz) (RPair A B) (fun v => qa v.1 ∧ qb v.2) := by
  refine ⟨fun h h' a vs k r => ?_, fun H0 enc w n cs h hl σ g Re D => ?_⟩
  · obtain ⟨va, vb, rfl, r1, r2⟩ := r
    exact ⟨va, vb, rfl, ha.mono _ _ _ _ k r1, hb.1 _ _ _ _ k r2⟩
  · subst ho
    obtain ⟨y, hy, wt⟩ := h 0 f rfl
    obtain ⟨σ1, h1, x1, vs1, R1, D1, j1, j2, j3, j4, j5⟩ := ha.go H0 enc w n _ _ hy wt σ g Re D
    obtain ⟨σ2, h2, x2, vs2, R2, D2, l1, l2, l3, l4, l5⟩ := hb.2 H0 enc w n cs (fun i g hg => h (i + 1) g hg) (by omega) σ1 h1 R1 D1
    refine ⟨σ2, h2, (x1, x2), vs1 ++ vs2, R2, D2, j1.trans l1, j2.trans l2, ?_, ⟨vs1, vs2, rfl, ha.mono _ _ _ _ l2 j4, l4⟩, j5, l5⟩
    have e : cs.drop f.offset = (cs.drop f.offset).take (P.cellsOf f.type) ++ cs.drop (f.offset + P.cellsOf f.type) := by rw [← List.drop_drop, List.take_append_drop]
    rw [e]
    exact (j3.mono l1).append l3
theorem DOb.struct {α : Type} {R : H → α → List Value → Prop} {q : α → Prop} {fs : Array Field} {sz : Nat} (ht : P.underlying t = some (.struct fs)) (hs : P.cellsOf t = sz) (hf : DFields P fs.toList 0 sz R q) : DOb P t R q := by
  refine ⟨hf.1, fun H0 enc w fuel cs x h wt σ g Re D => ?_⟩
  obtain ⟨xs, n, rfl, rfl, hl, hxl, hx⟩ := DataW.trod_struct ht h
  have wt1 := wt.1
  have wtB := wt.2
  simp only [Rows.uptoBulk] at wtB
  rw [DataW.weights, ht] at wt1
  have wt2 := wt_each _ _ wt1 (by omega)
  exact hf.2 H0 enc w n cs (fun i f hfi => by
    have hfi' : fs[i]? = some f := by simpa using hfi
    have := hx i f hfi'
    have hi : i < xs.length := by
      rw [hxl]
      rcases Nat.lt_or_ge i fs.size with z | z
      · exact z
      · rw [Array.getElem?_eq_none z] at hfi'; cases hfi'
    exact ⟨xs[i], by rw [this, List.getElem?_eq_getElem hi], wt2 i f.type _ (by simp [hfi']) (by simp [hi])⟩) (by rw [hl, hs]; omega) σ g Re D
end

/-- the arguments, one behind the other -/
def DArgs (P : Program) (w : World) {α : Type} (args' : List Value) (R : H → α → List Value → Prop) (q : α → Prop) : Prop :=
  (∀ h h' a vs, HExt h h' → R h a vs → R h' a vs) ∧
  ∀ σ h, Rel σ h w → Dead h → ∃ σ' h' a vs, Rel σ' h' w ∧ Dead h' ∧ σ.le σ' ∧ HExt h h' ∧ VRs σ' vs args' ∧ R h' a vs ∧ q a
theorem DArgs.nil {P : Program} {w : World} : DArgs P w [] (fun _ (_ : Unit) vs => vs = []) (fun _ => True) :=
  ⟨fun _ _ _ _ _ r => r, fun σ h R D => ⟨σ, h, (), [], R, D, Sg.le.refl σ, HExt.refl h, .nil, rfl, trivial⟩⟩
theorem DArgs.cons {P : Program} {w : World} {α β : Type} {A : H → α → List Value → Prop} {B : H → β → List Value → Prop} {qa : α → Prop} {qb : β → Prop} {t : TypeId} {v : Value} {rest : List Value} (ha : DOb P t A qa) {H0 : Type} {enc : TypeId × Value → H0} {fuel : Nat} {x : DataW H0 × List MemPlace} (hx : DataW.trod enc P w 0 (fun _ => true) true fuel t [v] = some x) (wt : Wt P t x.1) (hb : DArgs P w rest B qb) :
    DArgs P w (v :: rest) (RPair A B) (fun v => qa v.1 ∧ qb v.2) := by
  refine ⟨fun h h' a vs k r => ?_, fun σ g Re D => ?_⟩
  · obtain ⟨va, vb, rfl, r1, r2⟩ := r
    exact ⟨va, vb, rfl, ha.mono _ _ _ _ k r1, hb.1 _ _ _ _ k r2⟩
  · obtain ⟨σ1, h1, x1, vs1, R1, D1, j1, j2, j3, j4, j5⟩ := ha.go H0 enc w fuel _ _ hx wt σ g Re D
    obtain ⟨σ2, h2, x2, vs2, R2, D2, l1, l2, l3, l4, l5⟩ := hb.2 σ1 h1 R1 D1
    exact ⟨σ2, h2, (x1, x2), vs1 ++ vs2, R2, D2, j1.trans l1, j2.trans l2, (j3.mono l1).append l3, ⟨vs1, vs2, rfl, ha.mono _ _ _ _ l2 j4, l4⟩, j5, l5⟩
theorem DArgs.consS {P : Program} {w : World} {α β : Type} {A : H → α → List Value → Prop} {B : H → β → List Value → Prop} {qa : α → Prop} {qb : β → Prop} {t : TypeId} {cs : Array Value} {rest : List Value} (ha : DOb P t A qa) {H0 : Type} {enc : TypeId × Value → H0} {fuel : Nat} {x : DataW H0 × List MemPlace} (hx : DataW.trod enc P w 0 (fun _ => true) true fuel t cs.toList = some x) (wt : Wt P t x.1) (hb : DArgs P w rest B qb) :
    DArgs P w (.agg cs :: rest) (RPair (RAgg A) B) (fun v => qa v.1 ∧ qb v.2) := by
  refine ⟨fun h h' a vs k r => ?_, fun σ g Re D => ?_⟩
  · obtain ⟨va, vb, rfl, ⟨l, r0, r1⟩, r2⟩ := r
    exact ⟨va, vb, rfl, ⟨l, r0, ha.mono _ _ _ _ k r1⟩, hb.1 _ _ _ _ k r2⟩
  · obtain ⟨σ1, h1, x1, vs1, R1, D1, j1, j2, j3, j4, j5⟩ := ha.go H0 enc w fuel _ _ hx wt σ g Re D
    obtain ⟨σ2, h2, x2, vs2, R2, D2, l1, l2, l3, l4, l5⟩ := hb.2 σ1 h1 R1 D1
    refine ⟨σ2, h2, (x1, x2), .agg vs1.toArray :: vs2, R2, D2, j1.trans l1, j2.trans l2, .cons ?_ l3, ⟨[.agg vs1.toArray], vs2, rfl, ⟨vs1, rfl, ha.mono _ _ _ _ l2 j4⟩, l4⟩, j5, l5⟩
    have := (j3.mono l1).agg
    simpa using this

/-- **an open law**: its function's forward run comes to true at every heap in which its arguments stand -/
theorem open_calls {X : CallF} (hX : Bodied Try.prog X) (hXS : Sound Try.prog X) {f : FuncId} {ks : List Kd} {g : RT ks → H → Option (RT [.bool] × H)} (ht : Den.Told Try.prog seatC X f ks [.bool] g)
    {W : World} {α : Type} {args' : List Value} {R : H → α → List Value → Prop} {q : α → Prop} (da : DArgs Try.prog W args' R q)
    (law : ∀ h x vs, WF h → Dead h → R h x vs → q x → ∃ a, encL ks a = vs ∧ toldB (g a h) = true) :
    Calls Try.prog f args'.toArray W fun e w' => e = .returned (.bool true) ∧ Below W.heap.size W w' := by
  let σ : Sg := ⟨fun _ => none, fun _ => 0, fun _ => 0⟩
  have R0 : Rel σ H.empty W := ⟨fun _ _ => rfl, fun b hb => absurd hb (Nat.not_lt_zero _), fun _ _ => rfl, fun b x r hx _ _ => (by cases hx), fun b b' x x' r hx _ _ _ _ _ => (by cases hx), fun b x hx => (by cases hx), fun b lo l r hx _ => (by cases hx)⟩
  obtain ⟨σ', h, x, vs, R1, D1, _, _, k3, k4, k5⟩ := da.2 σ H.empty R0 fun b x hx => (by cases hx)
  obtain ⟨a, rfl, ha⟩ := law h x vs ⟨R1.dom, R1.tot, R1.ver⟩ D1 k4 k5
  obtain ⟨h1, e⟩ := toldB_true ha
  obtain ⟨M, hM⟩ := ht a h true h1 e
  exact run_open seatC_law (Checked.mixed Try.checked) named hX hXS M M (hM M (Nat.le_refl _) M (Nat.le_refl _)) rfl k3 R1 D1
end Go.Proofs.Ytlibnmhicnnldaa.Den.U
