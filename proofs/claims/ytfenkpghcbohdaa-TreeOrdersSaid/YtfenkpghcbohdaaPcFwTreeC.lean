/- A tree's bytes read back: plain lists. No program, no condition. -/
import Derived.Test.YtfenkpghcbohdaaPcFwTreeB
import Derived.Test.YtfenkpghcbohdaaDenOpen
namespace Go.Proofs.Ytfenkpghcbohdaa.Fw
open Go Den Fwd
set_option linter.unusedVariables false
set_option linter.unusedSimpArgs false
/-! ### as the program reads: so many bytes, or all there are -/
/-! ### as the reference reads: so many bytes, or none -/
/-! ### what is laid is read -/
/-! ### bounds of what is read -/
/-! ### the map -/
/-! ### a volume -/
def zVo : List Value := [Value.string (⟨#[]⟩ : ByteArray), Value.string (⟨#[]⟩ : ByteArray), Value.bool false, Value.int .i64 (0 : Int), Value.slice none 0 0]
theorem TreeO.keep {h h' : H} {s : Sl} {vs : List Vs} (k : ∀ x, (SlB s x ∨ ∃ q ∈ vs, SlB q.2 x) → h'.get x = h.get x) (T : TreeO h s vs) : TreeO h' s vs :=
  ⟨T.ow.keep fun b hb => k b (.inl hb), fun q hq => (T.mp q hq).keep fun b hb => k b (.inr ⟨q, hq, hb⟩), T.di, T.ne⟩
theorem Fresh.all {n : Nat} {s : Sl} {vs : List Vs} (F : Fresh n s vs) {x : Nat} (h : SlB s x ∨ ∃ q ∈ vs, SlB q.2 x) : n ≤ x := h.elim (F.1 x) fun ⟨q, hq, hx⟩ => F.2 q hq x hx
theorem TreeO.lt {h : H} (w : WF h) {s : Sl} {vs : List Vs} (T : TreeO h s vs) {x : Nat} (hx : SlB s x ∨ ∃ q ∈ vs, SlB q.2 x) : x < h.next := hx.elim (T.ow.lt w) fun ⟨q, hq, f⟩ => (T.mp q hq).lt w f
/-! ### the same? -/
/-! ### a list of bytes' slices -/
structure PsO (n0 : Nat) (h : H) (s : Sl) (ps : Parts) : Prop where
  ow : Ow 30 1 h s (ps.map fun p => slv p.1)
  rd : PartsR h ps
  fs : ∀ z, SlB s z → n0 ≤ z
  fp : ∀ p ∈ ps, ∀ z, SlB p.1 z → n0 ≤ z ∧ ¬ SlB s z
theorem PsO.nil {n0 : Nat} {h : H} : PsO n0 h ⟨none, 0, 0⟩ [] := ⟨Ow.nil, (fun _ f => by cases f), (fun z f => absurd f noSlB), (fun _ f => by cases f)⟩
theorem PsO.keep {n0 : Nat} {h h' : H} {s : Sl} {ps : Parts} (w : WF h) (P : PsO n0 h s ps) (k : ∀ z, n0 ≤ z → z < h.next → h'.get z = h.get z) : PsO n0 h' s ps :=
  ⟨P.ow.keep fun b hb => k b (P.fs b hb) (P.ow.lt w hb), fun p hp => (P.rd p hp).keep fun b hb => k b (P.fp p hp b hb).1 ((P.rd p hp).blk w hb), P.fs, P.fp⟩
theorem PsO.stay {n0 : Nat} {h h' : H} {s : Sl} {ps : Parts} (w : WF h) (P : PsO n0 h s ps) (c : Ch0 h h') : PsO n0 h' s ps := P.keep w fun z _ hz => c.keep z hz fun f => f
theorem PsO.n {n0 : Nat} {h : H} {s : Sl} {ps : Parts} (P : PsO n0 h s ps) : s.n = ps.length := by
  have := P.ow.slr.len
  rw [List.length_map, Nat.mul_one] at this
  exact this.symm
theorem PsO.push {n0 : Nat} {h : H} (w : WF h) {s : Sl} {ps : Parts} (P : PsO n0 h s ps) (hn : n0 ≤ h.next) (p : Sl × List UInt8) (rp : SlR 1 h p.1 (byt p.2)) (fp : ∀ z, SlB p.1 z → n0 ≤ z ∧ ¬ SlB s z) (hb : ps.length ≤ 2000000000000) :
    ∃ s' h', asS2 (apv 30 1 24 (.slice s.a s.n s.c) (.slice (some ⟨h.next, 0, none⟩) 1 1) (newR h 30 1 [slv p.1])) = some (s', h') ∧ Ch (SlB s) h h' ∧ PsO n0 h' s' (ps ++ [p]) ∧ ∀ b, SlB s' b → SlB s b ∨ h.next ≤ b := by
  obtain ⟨n1, n2, n3⟩ := newR_ok w 30 1 [slv p.1]
  obtain ⟨s', h', e1, e2, e3, e4, e5⟩ := apv_ok (by_ := 24) n1.wf (P.ow.stay w n1) (by decide) (SlR.of_is n3 (n := 1) rfl (by unfold unk; omega)) (by rw [P.n]; show (ps.length + 1) * 24 ≤ _; omega) rfl
  have c : Ch (SlB s) h h' := (n1.mono fun _ _ f => f.elim).trans e2 fun _ _ f => f
  have near : ∀ b, SlB s' b → SlB s b ∨ h.next ≤ b := fun b hb => (e5 b hb).imp id fun f => by omega
  have mem : ∀ q ∈ ps ++ [p], SlR 1 h q.1 (byt q.2) ∧ ∀ z, SlB q.1 z → n0 ≤ z ∧ ¬ SlB s z := fun q hq => by
    rcases List.mem_append.1 hq with z | z
    · exact ⟨P.rd q z, P.fp q z⟩
    · rw [List.mem_singleton.1 z]; exact ⟨rp, fp⟩
  refine ⟨s', h', e1, c, ⟨?_, fun q hq => ?_, fun z hz => (near z hz).elim (P.fs z) fun f => by omega, fun q hq z hz => ?_⟩, near⟩
  · rw [List.map_append]; exact e3
  · obtain ⟨r, f⟩ := mem q hq
    exact r.keep fun b hb => c.keep b (r.blk w hb) (f b hb).2
  · obtain ⟨r, f⟩ := mem q hq
    refine ⟨(f z hz).1, fun g => (near z g).elim (f z hz).2 fun y => ?_⟩
    have := r.blk w hz
    omega
/-! ### the program -/
/-! ### the reference -/
end Go.Proofs.Ytfenkpghcbohdaa.Fw
