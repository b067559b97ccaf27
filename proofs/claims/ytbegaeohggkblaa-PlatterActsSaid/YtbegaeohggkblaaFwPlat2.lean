/- chapter 7's platter, more of it. No condition. -/
import Derived.Test.YtbegaeohggkblaaFwPlat
namespace Go.Proofs.Ytbegaeohggkblaa.Fw
open Go Den Fwd
set_option linter.unusedVariables false
set_option linter.unusedSimpArgs false
theorem flush_f (k : Nat) {h : H} (w : WF h) {p : Nat} {M C : Nat → Prop} {st : Plat} (r : PlatR h p M C st) (hb : st.now.length ≤ 1000) :
    ∃ h' M', platter_Platter_Flush.f k (some ⟨p, 0, none⟩) h = some ((), h') ∧ Ch M h h' ∧ PlatR h' p M' C ⟨st.now, st.now, [], st.writes⟩ ∧ (∀ b, M' b → M b ∨ h.next ≤ b) := by
  obtain ⟨sD, sN, sQ, lD, lN, lQ, b1, b2, b3, b4, b5, b6, b7, b8, b9, b10, b11, b12, b13, b14⟩ := r.ex
  unfold platter_Platter_Flush.f
  simp only [Option.bind_some, nilA, asP, fadd, b1.ldc]
  simp only [List.getElem?_cons_succ, List.getElem?_cons_zero, asS_slv, Option.bind_some]
  obtain ⟨so, h2, a1, a2, a3, a4, a5⟩ := clone2_f k w b3.slr b6.one (by rw [b6.1]; omega)
  rw [a1]
  simp only [Option.bind_some]
  have hp2 := b1.keep (a2.keep p (r.mlt p b8) fun f => f)
  obtain ⟨h3, c1, c2, c3, c4⟩ := stv_ok a2.wf hp2 (o := 0) [slv so] (by simp) rfl
  rw [show ([slv so] : List Value).length = 1 from rfl] at c1
  rw [show (Value.slice so.a so.n so.c) = slv so from rfl, show (0 + 0 : Nat) = 0 from rfl, c1]
  simp only [Option.bind_some]
  rw [show over [slv sD, slv sN, slv sQ, Value.int .i64 st.writes] 0 [slv so] = [slv so, slv sN, slv sQ, .int .i64 st.writes] from rfl] at c4
  obtain ⟨h4, d1, d2, d3, d4⟩ := stv_ok c2.wf c4 (o := 2) [Value.slice none 0 0] (by simp) rfl
  rw [show ([Value.slice none 0 0] : List Value).length = 1 from rfl] at d1
  rw [show (0 + 2 : Nat) = 2 from rfl, d1]
  simp only [Option.bind_some]
  rw [show over [slv so, slv sN, slv sQ, Value.int .i64 st.writes] 2 [Value.slice none 0 0] = [slv so, slv sN, slv ⟨none, 0, 0⟩, .int .i64 st.writes] from rfl] at d4
  have T24 : Ch (fun b => b = p) h2 h4 := c2.trans d2 fun _ _ f => f
  have T : Ch M h h4 := (a2.mono fun _ _ f => f.elim).trans (T24.mono (G := M) fun b _ f => by subst f; exact b8) fun _ _ f => f
  have le2 := a2.le
  have le4 := T24.le
  have kD : ∀ b, b < h.next → b ≠ p → h4.get b = h.get b := fun b hb hp => (T24.keep b (by omega) hp).trans (a2.keep b hb fun f => f)
  have kC : ∀ b, C b → h4.get b = h.get b ∧ C b := fun b hb => ⟨kD b (r.clt b hb) fun e => by subst e; exact r.dis b b8 hb, hb⟩
  refine ⟨h4, fun b => M b ∨ SlB so b, rfl, T, ⟨⟨so, sN, ⟨none, 0, 0⟩, lN, lN, [], d4, a3.keep fun b hb => T24.keep b (a5 b hb).2 (by have := (a5 b hb).1; have := r.mlt p b8; omega), b3.keep fun b hb => kD b (r.mlt b (b10 b hb).1) (b10 b hb).2, Ow.nil, b6.keep kC, b6.keep kC, ⟨rfl, fun i q h1 => by rw [List.getElem?_nil] at h1; cases h1⟩, .inl b8,
    fun b hb => ⟨.inr hb, by have := (a5 b hb).1; have := r.mlt p b8; omega⟩, fun b hb => ⟨.inl (b10 b hb).1, (b10 b hb).2⟩, fun b hb => (by obtain ⟨o, h1⟩ := hb; cases h1), fun b hb hn => ?_, fun b hb hn => (by obtain ⟨o, h1⟩ := hn; cases h1), fun b hb hn => (by obtain ⟨o, h1⟩ := hn; cases h1)⟩, ?_, ?_, ?_⟩, ?_⟩
  · have := r.mlt b (b10 b hn).1; have := (a5 b hb).1; omega
  · rintro b (hb | hb)
    · exact Nat.lt_of_lt_of_le (r.mlt b hb) T.le
    · have := (a5 b hb).2; omega
  · exact fun b hb => Nat.lt_of_lt_of_le (r.clt b hb) T.le
  · rintro b (hb | hb) hc
    · exact r.dis b hb hc
    · have := (a5 b hb).1; have := r.clt b hc; omega
  · rintro b (hb | hb)
    · exact .inl hb
    · exact .inr (a5 b hb).1
end Go.Proofs.Ytbegaeohggkblaa.Fw
