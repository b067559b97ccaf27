/- The arguments of an open law, as blocks that are only read. No condition. -/
import Derived.Test.YtnjeafdbifcfhaaDenRun
import Derived.Deep.Slices
import Derived.ChangeArms
import Derived.DataReads
import Derived.OpenShut
import Derived.DataElems
import GoSem.ClaimJoined
namespace Go.Proofs.Ytnjeafdbifcfhaa.Den
open Go Go.RowKit
set_option linter.unusedVariables false
set_option linter.unusedSimpArgs false

/-- nothing is the run's own yet -/
def Dead (h : H) : Prop := ∀ b x, h.get b = some x → x.alive = false
/-- what stood in h stands in h' -/
def HExt (h h' : H) : Prop := ∀ b x, h.get b = some x → h'.get b = some x
theorem HExt.refl (h : H) : HExt h h := fun _ _ k => k
theorem HExt.trans {a b c : H} (k : HExt a b) (l : HExt b c) : HExt a c := fun x y z => l x y (k x y z)

/-- each string, each slice in it is short enough -/
def Wt {H0 : Type} (P : Program) (t : TypeId) (d : DataW H0) : Prop := (d.weights P t).all (· ≤ reachBytes) = true
theorem wt_all {H0 : Type} {P : Program} {e : TypeId} : ∀ (ds : List (DataW H0)), (DataW.weightsAll P e ds).all (· ≤ reachBytes) = true → ∀ d ∈ ds, Wt P e d
  | [], _, d, hd => by cases hd
  | d0 :: ds, h, d, hd => by
    rw [DataW.weightsAll, List.all_append, Bool.and_eq_true] at h
    rcases List.mem_cons.1 hd with rfl | q
    · exact h.1
    · exact wt_all ds h.2 d q
theorem wt_each {H0 : Type} {P : Program} : ∀ (ts : List TypeId) (ds : List (DataW H0)), (DataW.weightsEach P ts ds).all (· ≤ reachBytes) = true → ∀ (i : Nat) t d, ts[i]? = some t → ds[i]? = some d → Wt P t d
  | [], ds, _, i, t, d, ht, _ => by simp at ht
  | _ :: _, [], _, i, t, d, _, hd => by simp at hd
  | t0 :: ts, d0 :: ds, h, i, t, d, ht, hd => by
    rw [DataW.weightsEach, List.all_append, Bool.and_eq_true] at h
    cases i with
    | zero => simp at ht hd; subst ht; subst hd; exact h.1
    | succ i => exact wt_each ts ds h.2 i t d (by simpa using ht) (by simpa using hd)
/-- data of type t, opened: R tells what the cells vs say in h -/
structure DOb (P : Program) (t : TypeId) {α : Type} (R : H → α → List Value → Prop) (q : α → Prop) : Prop where
  mono : ∀ h h' a vs, HExt h h' → R h a vs → R h' a vs
  go : ∀ (H0 : Type) (enc : TypeId × Value → H0) (w : World) (fuel : Nat) (cs : List Value) (x : DataW H0 × List MemPlace), DataW.trod enc P w 0 (fun _ => true) true fuel t cs = some x → Wt P t x.1 →
    ∀ σ h, Rel σ h w → Dead h → ∃ σ' h' a vs, Rel σ' h' w ∧ Dead h' ∧ σ.le σ' ∧ HExt h h' ∧ VRs σ' vs cs ∧ R h' a vs ∧ q a

def RInt (k : IntKind) (_ : H) (n : Int) (vs : List Value) : Prop := vs = [.int k n]
def RBool (_ : H) (b : Bool) (vs : List Value) : Prop := vs = [.bool b]
def RStr (_ : H) (s : ByteArray) (vs : List Value) : Prop := vs = [.string s]
/-- an empty slice -/
def EmpV (s : Sl) : Prop := s = ⟨none, 0, 0⟩ ∨ s = ⟨some ⟨0, 0, some 0⟩, 0, 0⟩
/-- a slice of an argument, element by element -/
def RSl {α : Type} (es : Nat) (R : H → α → List Value → Prop) (h : H) (xs : List α) (vs : List Value) : Prop :=
  ∃ s : Sl, vs = [s.v] ∧ s.n = xs.length ∧ ((xs = [] ∧ EmpV s) ∨ (xs ≠ [] ∧ ∃ b o, s.a = some ⟨b, o, none⟩ ∧ s.c = unkOf es ∧
    ∃ ls : List (List Value), ls.length = xs.length ∧ (∀ l ∈ ls, l.length = es) ∧ (∀ (i : Nat) (x : α) (l : List Value), xs[i]? = some x → ls[i]? = some l → R h x l) ∧ h.get b = some (.ro o ls.flatten)))
section
variable {P : Program} {t e : TypeId}
theorem DOb.int {k : IntKind} (ht : P.underlying t = some (.int k)) : DOb P t (RInt k) (fun n => (Lit.int k n).wf = true) :=
  ⟨fun _ _ _ _ _ r => r, fun H0 enc w fuel cs x h wt σ g R D => by
    obtain ⟨n, rfl, _, e3⟩ := DataW.trod_int ht h
    exact ⟨σ, g, n, [.int k n], R, D, Sg.le.refl σ, HExt.refl g, .cons (.int _ _) .nil, rfl, e3⟩⟩
theorem DOb.bool (ht : P.underlying t = some .bool) : DOb P t RBool (fun _ => True) :=
  ⟨fun _ _ _ _ _ r => r, fun H0 enc w fuel cs x h wt σ g R D => by
    obtain ⟨n, rfl, _⟩ := DataW.trod_bool ht h
    exact ⟨σ, g, n, [.bool n], R, D, Sg.le.refl σ, HExt.refl g, .cons (.bool _) .nil, rfl, trivial⟩⟩
theorem DOb.string (ht : P.underlying t = some .string) : DOb P t RStr (fun s => s.size ≤ reachBytes) :=
  ⟨fun _ _ _ _ _ r => r, fun H0 enc w fuel cs x h wt σ g R D => by
    obtain ⟨n, rfl, e2, e3⟩ := DataW.trod_string ht h
    subst e2
    have : n.size ≤ reachBytes := by
      have := wt
      unfold Wt DataW.weights at this
      rw [List.all_cons, Bool.and_eq_true, decide_eq_true_eq] at this
      simpa using this.1
    exact ⟨σ, g, n, [.string n], R, D, Sg.le.refl σ, HExt.refl g, .cons (.string _) .nil, rfl, this⟩⟩
theorem VRs.flatten {σ : Sg} : ∀ {ls ls' : List (List Value)}, ls.length = ls'.length → (∀ (i : Nat) (l l' : List Value), ls[i]? = some l → ls'[i]? = some l' → VRs σ l l') → VRs σ ls.flatten ls'.flatten
  | [], [], _, _ => .nil
  | [], _ :: _, h, _ => by simp at h
  | _ :: _, [], h, _ => by simp at h
  | l :: ls, l' :: ls', h, hv => by
    simp only [List.flatten_cons]
    exact (hv 0 l l' rfl rfl).append (VRs.flatten (by simpa using h) fun i a a' h1 h2 => hv (i + 1) a a' (by simpa using h1) (by simpa using h2))
theorem flatten_get {es : Nat} : ∀ (ls : List (List Value)), (∀ l ∈ ls, l.length = es) → ∀ k, k < ls.flatten.length → ls.flatten[k]? = (ls[k / es]?).bind (·[k % es]?)
  | [], _, k, h => by simp at h
  | l :: ls, hl, k, h => by
    have h0 : l.length = es := hl l List.mem_cons_self
    rw [List.flatten_cons] at h ⊢
    by_cases c : k < es
    · rw [List.getElem?_append_left (by omega), Nat.div_eq_of_lt c, Nat.mod_eq_of_lt c]; rfl
    · have hes : 0 < es := by
        rcases Nat.eq_zero_or_pos es with z | z
        · subst z
          exfalso
          have : (l :: ls).flatten.length = 0 := by
            rw [List.length_flatten]
            have : ∀ (m : List (List Value)), (∀ l ∈ m, l.length = 0) → (m.map List.length).sum = 0 := by
              intro m hm
              induction m with
              | nil => rfl
              | cons a m ih => simp [hm a List.mem_cons_self, ih fun x hx => hm x (List.mem_cons_of_mem _ hx)]
            exact this _ hl
          rw [List.flatten_cons] at this; omega
        · exact z
      rw [List.getElem?_append_right (by omega), h0, flatten_get ls (fun x hx => hl x (List.mem_cons_of_mem _ hx)) (k - es) (by rw [List.length_append] at h; omega)]
      have hk : k = (k - es) + es := by omega
      have e1 : k / es = (k - es) / es + 1 := Nat.div_eq_sub_div hes (by omega)
      have e2 : k % es = (k - es) % es := (Nat.mod_eq_sub_mod (by omega))
      rw [e1, e2, List.getElem?_cons_succ]
theorem flatten_len {es : Nat} : ∀ (ls : List (List Value)), (∀ l ∈ ls, l.length = es) → ls.flatten.length = ls.length * es
  | [], _ => by simp
  | l :: ls, hl => by
    rw [List.flatten_cons, List.length_append, flatten_len ls fun x hx => hl x (List.mem_cons_of_mem _ hx), hl l List.mem_cons_self, List.length_cons, Nat.add_mul, Nat.one_mul]; omega
theorem DOb.slice {α : Type} {R : H → α → List Value → Prop} {q : α → Prop} {es : Nat} (ht : P.underlying t = some (.slice e)) (he : P.cellsOf e = es) (hes : 0 < es) (hd : DOb P e R q) :
    DOb P t (RSl es R) (fun xs => xs.length * P.bytesOf e ≤ reachBytes ∧ xs.length ≤ maxLen ∧ ∀ x ∈ xs, q x) := by
  refine ⟨fun h h' xs vs k r => ?_, fun H0 enc w fuel cs x h wt σ g Re D => ?_⟩
  · obtain ⟨s, rfl, r1, r2⟩ := r
    refine ⟨s, rfl, r1, ?_⟩
    rcases r2 with r2 | ⟨r2, b, o, r3, r4, ls, r5, r6, r7, r8⟩
    · exact .inl r2
    · exact .inr ⟨r2, b, o, r3, r4, ls, r5, r6, fun i x l h1 h2 => hd.mono _ _ _ _ k (r7 i x l h1 h2), k _ _ r8⟩
  · rcases Go.Deep.open_slice ht h with ⟨rfl, _⟩ | ⟨a, len, cap, m, n, Dd, Pl, rfl, _, hl, hm, hmm, hxe, hx⟩
    · exact ⟨σ, g, [], [.slice none 0 0], Re, D, Sg.le.refl σ, HExt.refl g, .cons .nils .nil, ⟨⟨none, 0, 0⟩, rfl, rfl, .inl ⟨rfl, .inl rfl⟩⟩, by simp, by simp⟩
    · simp only [if_true] at hmm
      subst hmm
      subst hxe
      have wt1 := wt
      unfold Wt at wt1
      rw [DataW.weights, ht] at wt1
      simp only [List.all_cons, List.all_append, Bool.and_eq_true, decide_eq_true_eq, List.length_map, List.length_range] at wt1
      obtain ⟨wtl, wte, _⟩ := wt1
      have wtb : len * P.bytesOf e ≤ reachBytes := Nat.le_trans (Nat.mul_le_mul_right _ (by omega)) wtl
      have wti : ∀ i, i < len → Wt P e (Dd i) := fun i hi => wt_all _ wte _ (List.mem_map.2 ⟨i, List.mem_range.2 hi, rfl⟩)
      rcases Nat.eq_zero_or_pos len with z | z
      · subst z
        exact ⟨σ, g, [], [emptyV], Re, D, Sg.le.refl σ, HExt.refl g, .cons (.emp a m) .nil, ⟨⟨some ⟨0, 0, some 0⟩, 0, 0⟩, rfl, rfl, .inl ⟨rfl, .inr rfl⟩⟩, by simp, by simp⟩
      · have step : ∀ k, k ≤ len → ∃ (σ' : Sg) (h' : H) (xs : List α) (ls ls' : List (List Value)), Rel σ' h' w ∧ Dead h' ∧ σ.le σ' ∧ HExt g h' ∧ xs.length = k ∧ ls.length = k ∧ ls'.length = k ∧ (∀ l ∈ ls', l.length = es) ∧
            (∀ (i : Nat) (l l' : List Value), ls[i]? = some l → ls'[i]? = some l' → VRs σ' l l') ∧ (∀ (i : Nat) (x : α) (l : List Value), xs[i]? = some x → ls[i]? = some l → R h' x l) ∧ (∀ x ∈ xs, q x) ∧
            (∀ (i : Nat) (l' : List Value), ls'[i]? = some l' → w.cells? 0 (a.add (i * es)) es = some l') := by
          intro k
          induction k with
          | zero => intro _; exact ⟨σ, g, [], [], [], Re, D, Sg.le.refl σ, HExt.refl g, rfl, rfl, rfl, by simp, by simp, by simp, by simp, by simp⟩
          | succ k ih =>
            intro hk
            obtain ⟨σ1, h1, xs, ls, ls', R1, D1, k1, k2, k3, k4, k5, k6, k7, k8, k9, k10⟩ := ih (by omega)
            obtain ⟨cs', c1, c2⟩ := hx k (by omega)
            rw [he] at c1
            obtain ⟨σ2, h2, x2, vs2, R2, D2, j1, j2, j3, j4, j5⟩ := hd.go H0 enc w n cs' _ c2 (wti k (by omega)) σ1 h1 R1 D1
            refine ⟨σ2, h2, xs ++ [x2], ls ++ [vs2], ls' ++ [cs'], R2, D2, k1.trans j1, k2.trans j2, by simp [k3], by simp [k4], by simp [k5], ?_, ?_, ?_, ?_, ?_⟩
            · intro l hl
              rcases List.mem_append.1 hl with q | q
              · exact k6 l q
              · rw [List.mem_singleton.1 q]; exact (World.cells?_some c1).2.1
            · intro i l l' h3 h4
              rcases Nat.lt_trichotomy i k with q | q | q
              · rw [List.getElem?_append_left (by omega)] at h3 h4
                exact (k7 i l l' h3 h4).mono j1
              · subst q
                rw [List.getElem?_append_right (by omega), k4] at h3
                rw [List.getElem?_append_right (by omega), k5] at h4
                simp at h3 h4
                subst h3; subst h4; exact j3
              · rw [List.getElem?_eq_none (by simp [k4]; omega)] at h3; cases h3
            · intro i x l h3 h4
              rcases Nat.lt_trichotomy i k with q | q | q
              · rw [List.getElem?_append_left (by omega)] at h3 h4
                exact hd.mono _ _ _ _ j2 (k8 i x l h3 h4)
              · subst q
                rw [List.getElem?_append_right (by omega), k3] at h3
                rw [List.getElem?_append_right (by omega), k4] at h4
                simp at h3 h4
                subst h3; subst h4; exact j4
              · rw [List.getElem?_eq_none (by simp [k4]; omega)] at h4; cases h4
            · intro x hx
              rcases List.mem_append.1 hx with q | q
              · exact k9 x q
              · rw [List.mem_singleton.1 q]; exact j5
            · intro i l' h3
              rcases Nat.lt_trichotomy i k with q | q | q
              · rw [List.getElem?_append_left (by omega)] at h3
                exact k10 i l' h3
              · subst q
                rw [List.getElem?_append_right (by omega), k5] at h3
                simp at h3
                subst h3; exact c1
              · rw [List.getElem?_eq_none (by simp [k5]; omega)] at h3; cases h3
        obtain ⟨σ1, h1, xs, ls, ls', R1, D1, k1, k2, k3, k4, k5, k6, k7, k8, k9, k10⟩ := step len (Nat.le_refl _)
        have k6' : ∀ l ∈ ls, l.length = es := by
          intro l hl
          obtain ⟨i, hi, rfl⟩ := List.mem_iff_getElem.1 hl
          have := k7 i ls[i] (ls'[i]'(by omega)) (by simp) (by simp)
          rw [this.length]; exact k6 _ (by simp)
        have cell : ∀ k, k < len * es → w.cell? (a.add k) = ls'.flatten[k]? := by
          intro k hk
          have hf : ls'.flatten.length = len * es := by rw [flatten_len ls' k6, k5]
          rw [flatten_get ls' k6 k (by omega)]
          have hd1 : k / es < len := Nat.div_lt_of_lt_mul (by rw [Nat.mul_comm]; exact hk)
          have hd2 : k % es < es := Nat.mod_lt _ hes
          obtain ⟨l', hl'⟩ : ∃ l', ls'[k / es]? = some l' := ⟨ls'[k / es]'(by omega), by simp⟩
          rw [hl']
          obtain ⟨_, c2, c3⟩ := World.cells?_some (k10 _ _ hl')
          have := c3 (k % es) hd2
          rw [Addr.add_add, Nat.mul_comm, Nat.div_add_mod] at this
          exact this
        obtain ⟨v0, hv0⟩ : ∃ v0, w.cell? (a.add 0) = some v0 := by
          have hf : ls'.flatten.length = len * es := by rw [flatten_len ls' k6, k5]
          have h0 : 0 < len * es := Nat.mul_pos z hes
          exact ⟨ls'.flatten[0]'(by omega), by rw [cell 0 h0, List.getElem?_eq_getElem]⟩
        have shape : a.spot = none ∧ ∃ c e' fz, w.heap[a.block]? = some (.cells c e' fz) := by
          unfold World.cell? at hv0
          have hb : a.add 0 = a := by simp [Addr.add]
          rw [hb] at hv0
          split at hv0
          · rename_i c e' fz hh
            cases ha : a.spot with
            | none => exact ⟨rfl, c, e', fz, hh⟩
            | some _ => rw [ha] at hv0; simp at hv0
          · cases hv0
        obtain ⟨hs, c, e', fz, hh⟩ := shape
        obtain ⟨ab, ao, asp⟩ := a
        simp only at hs hh
        subst hs
        have ro : RoR σ1 w ab ao ls.flatten := by
          refine ⟨c, e', fz, ls'.flatten, hh, VRs.flatten (by omega) k7, fun k hk => ?_⟩
          have hk' : k < len * es := by rw [flatten_len ls k6', k4] at hk; exact hk
          have := cell k hk'
          have ad : (⟨ab, ao, none⟩ : Addr).add k = ⟨ab, ao + k, none⟩ := by unfold Addr.add; split <;> simp_all
          rw [ad] at this
          simpa [World.cell?, hh] using this
        obtain ⟨R2, D2, l2⟩ := R1.addRo D1 (rs := ao + m * es) (es := es) ro
        have ext : HExt h1 (h1.addRo ao ls.flatten) := by
          intro b x hx
          rw [H.get_addRo]
          have : b ≠ h1.next := by
            rintro rfl
            rw [R1.dom _ (Nat.le_refl _)] at hx; cases hx
          rw [if_neg this]; exact hx
        have hj : (σ1.add h1.next ab (ao + m * es) es).j h1.next = some ab := by simp [Sg.add]
        refine ⟨_, _, xs, [Sl.v ⟨some ⟨h1.next, ao, none⟩, len, unkOf es⟩], R2, D2, k1.trans l2, k2.trans ext, .cons (.slice ao len hj (.inr ⟨?_, hl, ?_⟩)) .nil, ⟨_, rfl, k3.symm, .inr ⟨?_, h1.next, ao, rfl, rfl, ls, by omega, k6', fun i x l h3 h4 => hd.mono _ _ _ _ ext (k8 i x l h3 h4), ?_⟩⟩, by rw [k3]; exact wtb, by omega, k9⟩
        · simp [Sg.add]
        · simp [Sg.add]
        · rintro rfl; simp at k3; omega
        · rw [H.get_addRo, if_pos rfl]

/-- the fields of a struct from place off on -/
def DFields {α : Type} (P : Program) (fs : List Field) (off sz : Nat) (R : H → α → List Value → Prop) (q : α → Prop) : Prop :=
  (∀ h h' a vs, HExt h h' → R h a vs → R h' a vs) ∧
  ∀ (H0 : Type) (enc : TypeId × Value → H0) (w : World) (n : Nat) (cs : List Value), (∀ (i : Nat) (f : Field), fs[i]? = some f → ∃ y, DataW.trod enc P w 0 (fun _ => true) true n f.type ((cs.drop f.offset).take (P.cellsOf f.type)) = some y ∧ Wt P f.type y.1) → cs.length = off + sz →
    ∀ σ h, Rel σ h w → Dead h → ∃ σ' h' a vs, Rel σ' h' w ∧ Dead h' ∧ σ.le σ' ∧ HExt h h' ∧ VRs σ' vs (cs.drop off) ∧ R h' a vs ∧ q a
def RPair {α β : Type} (A : H → α → List Value → Prop) (B : H → β → List Value → Prop) (h : H) (x : α × β) (vs : List Value) : Prop :=
  ∃ va vb, vs = va ++ vb ∧ A h x.1 va ∧ B h x.2 vb
theorem DFields.last {α : Type} {R : H → α → List Value → Prop} {q : α → Prop} {f : Field} (hd : DOb P f.type R q) : DFields P [f] f.offset (P.cellsOf f.type) R q := by
  refine ⟨hd.mono, fun H0 enc w n cs h hl σ g Re D => ?_⟩
  obtain ⟨y, hy, wt⟩ := h 0 f rfl
  rw [List.take_of_length_le (by rw [List.length_drop, hl]; omega)] at hy
  exact hd.go H0 enc w n _ _ hy wt σ g Re D
theorem DFields.field {α β : Type} {A : H → α → List Value → Prop} {B : H → β → List Value → Prop} {qa : α → Prop} {qb : β → Prop} {f : Field} {fs : List Field} {off sz : Nat} (ha : DOb P f.type A qa) (ho : off = f.offset + P.cellsOf f.type) (hb : DFields P fs off sz B qb) :
    DFields P (f :: fs) f.offset (P.cellsOf f.type + sz) (RPair A B) (fun v => qa v.1 ∧ qb v.2) := by
  refine ⟨fun h h' a vs k r => ?_, fun H0 enc w n cs h hl σ g Re D => ?_⟩
  · obtain ⟨va, vb, rfl, r1, r2⟩ := r
    exact ⟨va, vb, rfl, ha.mono _ _ _ _ k r1, hb.1 _ _ _ _ k r2⟩
  · subst ho
    obtain ⟨y, hy, wt⟩ := h 0 f rfl
    obtain ⟨σ1, h1, x1, vs1, R1, D1, j1, j2, j3, j4, j5⟩ := ha.go H0 enc w n _ _ hy wt σ g Re D
    obtain ⟨σ2, h2, x2, vs2, R2, D2, l1, l2, l3, l4, l5⟩ := hb.2 H0 enc w n cs (fun i g hg => h (i + 1) g hg) (by omega) σ1 h1 R1 D1
    refine ⟨σ2, h2, (x1, x2), vs1 ++ vs2, R2, D2, j1.trans l1, j2.trans l2, ?_, ⟨vs1, vs2, rfl, ha.mono _ _ _ _ l2 j4, l4⟩, j5, l5⟩
    have e : cs.drop f.offset = (cs.drop f.offset).take (P.cellsOf f.type) ++ cs.drop (f.offset + P.cellsOf f.type) := by rw [← List.drop_drop, List.take_append_drop]
    rw [e]
    exact (j3.mono l1).append l3
theorem DOb.struct {α : Type} {R : H → α → List Value → Prop} {q : α → Prop} {fs : Array Field} {sz : Nat} (ht : P.underlying t = some (.struct fs)) (hs : P.cellsOf t = sz) (hf : DFields P fs.toList 0 sz R q) : DOb P t R q := by
  refine ⟨hf.1, fun H0 enc w fuel cs x h wt σ g Re D => ?_⟩
  obtain ⟨xs, n, rfl, rfl, hl, hxl, hx⟩ := DataW.trod_struct ht h
  have wt1 := wt
  unfold Wt at wt1
  rw [DataW.weights, ht] at wt1
  have wt2 := wt_each _ _ wt1
  exact hf.2 H0 enc w n cs (fun i f hfi => by
    have hfi' : fs[i]? = some f := by simpa using hfi
    have := hx i f hfi'
    have hi : i < xs.length := by
      rw [hxl]
      rcases Nat.lt_or_ge i fs.size with z | z
      · exact z
      · rw [Array.getElem?_eq_none z] at hfi'; cases hfi'
    exact ⟨xs[i], by rw [this, List.getElem?_eq_getElem hi], wt2 i f.type _ (by simp [hfi']) (by simp [hi])⟩) (by rw [hl, hs]; omega) σ g Re D
end

/-- the arguments, one behind the other -/
def DArgs (P : Program) (w : World) {α : Type} (args' : List Value) (R : H → α → List Value → Prop) (q : α → Prop) : Prop :=
  (∀ h h' a vs, HExt h h' → R h a vs → R h' a vs) ∧
  ∀ σ h, Rel σ h w → Dead h → ∃ σ' h' a vs, Rel σ' h' w ∧ Dead h' ∧ σ.le σ' ∧ HExt h h' ∧ VRs σ' vs args' ∧ R h' a vs ∧ q a
theorem DArgs.nil {P : Program} {w : World} : DArgs P w [] (fun _ (_ : Unit) vs => vs = []) (fun _ => True) :=
  ⟨fun _ _ _ _ _ r => r, fun σ h R D => ⟨σ, h, (), [], R, D, Sg.le.refl σ, HExt.refl h, .nil, rfl, trivial⟩⟩
theorem DArgs.cons {P : Program} {w : World} {α β : Type} {A : H → α → List Value → Prop} {B : H → β → List Value → Prop} {qa : α → Prop} {qb : β → Prop} {t : TypeId} {v : Value} {rest : List Value} (ha : DOb P t A qa) {H0 : Type} {enc : TypeId × Value → H0} {fuel : Nat} {x : DataW H0 × List MemPlace} (hx : DataW.trod enc P w 0 (fun _ => true) true fuel t [v] = some x) (wt : Wt P t x.1) (hb : DArgs P w rest B qb) :
    DArgs P w (v :: rest) (RPair A B) (fun v => qa v.1 ∧ qb v.2) := by
  refine ⟨fun h h' a vs k r => ?_, fun σ g Re D => ?_⟩
  · obtain ⟨va, vb, rfl, r1, r2⟩ := r
    exact ⟨va, vb, rfl, ha.mono _ _ _ _ k r1, hb.1 _ _ _ _ k r2⟩
  · obtain ⟨σ1, h1, x1, vs1, R1, D1, j1, j2, j3, j4, j5⟩ := ha.go H0 enc w fuel _ _ hx wt σ g Re D
    obtain ⟨σ2, h2, x2, vs2, R2, D2, l1, l2, l3, l4, l5⟩ := hb.2 σ1 h1 R1 D1
    exact ⟨σ2, h2, (x1, x2), vs1 ++ vs2, R2, D2, j1.trans l1, j2.trans l2, (j3.mono l1).append l3, ⟨vs1, vs2, rfl, ha.mono _ _ _ _ l2 j4, l4⟩, j5, l5⟩
/-- .. a struct -/
def RAgg {α : Type} (A : H → α → List Value → Prop) (h : H) (x : α) (vs : List Value) : Prop := ∃ l, vs = [.agg l.toArray] ∧ A h x l
theorem DArgs.consS {P : Program} {w : World} {α β : Type} {A : H → α → List Value → Prop} {B : H → β → List Value → Prop} {qa : α → Prop} {qb : β → Prop} {t : TypeId} {cs : Array Value} {rest : List Value} (ha : DOb P t A qa) {H0 : Type} {enc : TypeId × Value → H0} {fuel : Nat} {x : DataW H0 × List MemPlace} (hx : DataW.trod enc P w 0 (fun _ => true) true fuel t cs.toList = some x) (wt : Wt P t x.1) (hb : DArgs P w rest B qb) :
    DArgs P w (.agg cs :: rest) (RPair (RAgg A) B) (fun v => qa v.1 ∧ qb v.2) := by
  refine ⟨fun h h' a vs k r => ?_, fun σ g Re D => ?_⟩
  · obtain ⟨va, vb, rfl, ⟨l, r0, r1⟩, r2⟩ := r
    exact ⟨va, vb, rfl, ⟨l, r0, ha.mono _ _ _ _ k r1⟩, hb.1 _ _ _ _ k r2⟩
  · obtain ⟨σ1, h1, x1, vs1, R1, D1, j1, j2, j3, j4, j5⟩ := ha.go H0 enc w fuel _ _ hx wt σ g Re D
    obtain ⟨σ2, h2, x2, vs2, R2, D2, l1, l2, l3, l4, l5⟩ := hb.2 σ1 h1 R1 D1
    refine ⟨σ2, h2, (x1, x2), .agg vs1.toArray :: vs2, R2, D2, j1.trans l1, j2.trans l2, .cons ?_ l3, ⟨[.agg vs1.toArray], vs2, rfl, ⟨vs1, rfl, ha.mono _ _ _ _ l2 j4⟩, l4⟩, j5, l5⟩
    have := (j3.mono l1).agg
    simpa using this

/-- what holds of a heap of the run -/
structure WF (h : H) : Prop where
  dom : ∀ b, h.next ≤ b → h.get b = none
  tot : ∀ b, b < h.next → ∃ x, h.get b = some x
  ver : ∀ b x, h.get b = some x → x.ver < h.clock
/-- **an open law**: its function's forward run comes to true at every heap in which its arguments stand -/
theorem open_calls {X : CallF} (hX : Bodied Try.prog X) (hXS : Sound Try.prog X) {f : FuncId} {ks : List Kd} {g : RT ks → H → Option (RT [.bool] × H)} (ht : Den.Told Try.prog seatC X f ks [.bool] g)
    {W : World} {α : Type} {args' : List Value} {R : H → α → List Value → Prop} {q : α → Prop} (da : DArgs Try.prog W args' R q)
    (law : ∀ h x vs, WF h → Dead h → R h x vs → q x → ∃ a, encL ks a = vs ∧ toldB (g a h) = true) :
    Calls Try.prog f args'.toArray W fun e w' => e = .returned (.bool true) ∧ Below W.heap.size W w' := by
  let σ : Sg := ⟨fun _ => none, fun _ => 0, fun _ => 0⟩
  have R0 : Rel σ H.empty W := ⟨fun _ _ => rfl, fun b hb => absurd hb (Nat.not_lt_zero _), fun _ _ => rfl, fun b x r hx _ _ => (by cases hx), fun b b' x x' r hx _ _ _ _ _ => (by cases hx), fun b x hx => (by cases hx), fun b lo l r hx _ => (by cases hx)⟩
  obtain ⟨σ', h, x, vs, R1, D1, _, _, k3, k4, k5⟩ := da.2 σ H.empty R0 fun b x hx => (by cases hx)
  obtain ⟨a, rfl, ha⟩ := law h x vs ⟨R1.dom, R1.tot, R1.ver⟩ D1 k4 k5
  obtain ⟨h1, e⟩ := toldB_true ha
  obtain ⟨M, hM⟩ := ht a h true h1 e
  exact run_open seatC_law (Checked.mixed Try.checked) named hX hXS M M (hM M (Nat.le_refl _) M (Nat.le_refl _)) rfl k3 R1 D1
end Go.Proofs.Ytnjeafdbifcfhaa.Den
