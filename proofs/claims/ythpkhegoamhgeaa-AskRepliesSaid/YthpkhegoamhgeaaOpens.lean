/- Arguments of any shape (structs, slices of structs, slices of slices), opened as what the printed words read. No condition. -/
import Derived.Test.YthpkhegoamhgeaaWMore
import Derived.Deep.Slices
import Derived.ChangeArms
import Derived.DataReads
import Derived.OpenShut
import Derived.SizedLaws
namespace Go.Proofs.Ythpkhegoamhgeaa.Opens
open Go.RowKit Go.Proofs.YthpkhegoamhgeaaW.PrintWords Go.Proofs.YthpkhegoamhgeaaW.PrintLast Go.Proofs.YthpkhegoamhgeaaW.PrintMore
set_option linter.unusedVariables false

/-- what stands as data of type t is read by d, and q is known of it -/
def Opens {α : Type} (P : Program) (t : TypeId) (d : Kd α) (q : α → Prop) : Prop :=
  d.sz = P.cellsOf t ∧ ∀ (H : Type) (enc : TypeId × Value → H) (w : World) (fuel : Nat) (cs : List Value) (x : DataW H × List MemPlace), DataW.trod enc P w 0 (fun _ => true) true fuel t cs = some x → ∃ v : α, d.K w v cs ∧ q v
section
variable {P : Program} {t e : TypeId}
theorem int {k : IntKind} (ht : P.underlying t = some (.int k)) (hc : P.cellsOf t = 1) : Opens P t (Kd.int k) (fun n => (Lit.int k n).wf = true) :=
  ⟨hc.symm, fun H enc w fuel cs x h => by obtain ⟨n, e1, _, e3⟩ := DataW.trod_int ht h; exact ⟨n, e1, e3⟩⟩
theorem bool (ht : P.underlying t = some .bool) (hc : P.cellsOf t = 1) : Opens P t Kd.bool (fun _ => True) :=
  ⟨hc.symm, fun H enc w fuel cs x h => by obtain ⟨n, e1, _⟩ := DataW.trod_bool ht h; exact ⟨n, e1, trivial⟩⟩
theorem string (ht : P.underlying t = some .string) (hc : P.cellsOf t = 1) : Opens P t Kd.string (fun s => s.size ≤ maxLen) :=
  ⟨hc.symm, fun H enc w fuel cs x h => by obtain ⟨n, e1, _, e3⟩ := DataW.trod_string ht h; exact ⟨n, e1, e3⟩⟩
theorem slice {α : Type} [Inhabited α] {d : Kd α} {q : α → Prop} (ht : P.underlying t = some (.slice e)) (hc : P.cellsOf t = 1) (hd : Opens P e d q) : Opens P t (Kd.slice e d) (fun xs => xs.length ≤ maxLen ∧ ∀ x ∈ xs, q x) := by
  refine ⟨hc.symm, fun H enc w fuel cs x h => ?_⟩
  rcases Go.Deep.open_slice ht h with ⟨rfl, _⟩ | ⟨a, len, cap, m, n, D, Pl, rfl, _, hl, hm, hmm, _, hx⟩
  · exact ⟨[], ⟨none, 0, rfl, Nat.le_refl _, ⟨rfl, by simp, fun h => absurd h (by simp)⟩⟩, by simp, by simp⟩
  · simp only [if_true] at hmm
    subst hmm
    have each : ∀ i, i < len → ∃ y : α × List Value, w.cells? 0 (a.add (i * P.cellsOf e)) (P.cellsOf e) = some y.2 ∧ d.K w y.1 y.2 ∧ q y.1 := by
      intro i hi
      obtain ⟨cs', h1, h2⟩ := hx i (by omega)
      obtain ⟨v, hv, hq⟩ := hd.2 H enc w n cs' _ h2
      exact ⟨(v, cs'), h1, hv, hq⟩
    obtain ⟨y, hy⟩ := Go.Deep.choose_lt each
    have hlen : ((List.range len).map fun i => (y i).1).length = len := by simp
    refine ⟨(List.range len).map fun i => (y i).1, ⟨some a, _, by rw [hlen], by rw [hlen]; exact hl, ⟨rfl, by rw [hlen]; unfold maxLen at hm; omega, fun _ => ⟨a, rfl, fun j p hp => ?_⟩⟩⟩, by rw [hlen]; omega, fun p hp => ?_⟩
    · have hj : j < len := by
        rcases Nat.lt_or_ge j len with z | z
        · exact z
        · rw [List.getElem?_eq_none (by rw [hlen]; exact z)] at hp; cases hp
      rw [List.getElem?_map, List.getElem?_range hj] at hp
      simp only [Option.map_some, Option.some.injEq] at hp
      subst hp
      obtain ⟨h1, h2, _⟩ := hy j hj
      obtain ⟨_, c2, c3⟩ := World.cells?_some h1
      refine ⟨(y j).2, by rw [c2, hd.1], h2, fun i u hu => ?_⟩
      have hi : i < P.cellsOf e := by
        rcases Nat.lt_or_ge i (P.cellsOf e) with z | z
        · exact z
        · rw [List.getElem?_eq_none (by rw [c2]; exact z)] at hu; cases hu
      have := c3 i hi
      rw [hu, Addr.add_add] at this
      rw [hd.1]; exact this
    · obtain ⟨i, hi, rfl⟩ := List.mem_map.1 hp
      exact (hy i (List.mem_range.1 hi)).2.2
/-- the fields of a struct from place off on -/
def Fields {α : Type} (P : Program) (fs : List Field) (off : Nat) (d : Kd α) (q : α → Prop) : Prop :=
  ∀ (H : Type) (enc : TypeId × Value → H) (w : World) (n : Nat) (cs : List Value), (∀ (i : Nat) (f : Field), fs[i]? = some f → ∃ y, DataW.trod enc P w 0 (fun _ => true) true n f.type ((cs.drop f.offset).take (P.cellsOf f.type)) = some y) → cs.length = off + d.sz →
    ∃ v : α, d.K w v (cs.drop off) ∧ q v
theorem last {α : Type} {d : Kd α} {q : α → Prop} {f : Field} (hd : Opens P f.type d q) : Fields P [f] f.offset d q := by
  intro H enc w n cs h hl
  obtain ⟨y, hy⟩ := h 0 f rfl
  rw [List.take_of_length_le (by rw [List.length_drop, hl, hd.1]; omega)] at hy
  exact hd.2 H enc w n _ _ hy
theorem field {α β : Type} {a : Kd α} {b : Kd β} {qa : α → Prop} {qb : β → Prop} {f : Field} {fs : List Field} {off : Nat} (ha : Opens P f.type a qa) (ho : off = f.offset + a.sz) (hb : Fields P fs off b qb) :
    Fields P (f :: fs) f.offset (Kd.pair a b) (fun v => qa v.1 ∧ qb v.2) := by
  intro H enc w n cs h hl
  subst ho
  have hl' : cs.length = f.offset + (a.sz + b.sz) := hl
  obtain ⟨y, hy⟩ := h 0 f rfl
  obtain ⟨v1, k1, q1⟩ := ha.2 H enc w n _ _ hy
  obtain ⟨v2, k2, q2⟩ := hb H enc w n cs (fun i g hg => h (i + 1) g hg) (by omega)
  refine ⟨(v1, v2), ⟨(cs.drop f.offset).take (P.cellsOf f.type), cs.drop (f.offset + a.sz), ?_, k1, k2⟩, q1, q2⟩
  rw [← ha.1, ← List.drop_drop, List.take_append_drop]
theorem struct {α : Type} {d : Kd α} {q : α → Prop} {fs : Array Field} (ht : P.underlying t = some (.struct fs)) (hs : d.sz = P.cellsOf t) (hf : Fields P fs.toList 0 d q) : Opens P t d q := by
  refine ⟨hs, fun H enc w fuel cs x h => ?_⟩
  obtain ⟨xs, n, rfl, _, hl, hxl, hx⟩ := DataW.trod_struct ht h
  obtain ⟨v, k, hq⟩ := hf H enc w n cs (fun i f hfi => by
    have hfi' : fs[i]? = some f := by simpa using hfi
    have := hx i f hfi'
    have hi : i < xs.length := by
      rw [hxl]
      rcases Nat.lt_or_ge i fs.size with z | z
      · exact z
      · rw [Array.getElem?_eq_none z] at hfi'; cases hfi'
    exact ⟨xs[i], by rw [this, List.getElem?_eq_getElem hi]⟩) (by rw [hl, hs]; omega)
  exact ⟨v, k, hq⟩
theorem iso {α β : Type} {d : Kd α} {q : α → Prop} (h : Opens P t d q) (f : β → α) (g : α → β) (hg : ∀ x, f (g x) = x) : Opens P t (Kd.iso d f) (fun b => q (f b)) := by
  refine ⟨h.1, fun H enc w fuel cs x hx => ?_⟩
  obtain ⟨v, k, hq⟩ := h.2 H enc w fuel cs x hx
  exact ⟨g v, by show d.K w (f (g v)) cs; rw [hg]; exact k, by show q (f (g v)); rw [hg]; exact hq⟩
end
end Go.Proofs.Ythpkhegoamhgeaa.Opens
