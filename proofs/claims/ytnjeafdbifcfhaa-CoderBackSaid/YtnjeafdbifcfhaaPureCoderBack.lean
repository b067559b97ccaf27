/- CoderBack: the law's forward run comes to true. -/
import Derived.Test.YtnjeafdbifcfhaaFwDec
import Derived.Test.YtnjeafdbifcfhaaFCod
import Derived.Test.YtnjeafdbifcfhaaArCoderBack
namespace Go.Proofs.Ytnjeafdbifcfhaa
open Go Den Fwd Fw
set_option linter.unusedVariables false
set_option linter.unusedSimpArgs false
theorem Pure.pick6 (a : Int) : ∃ i : Nat, a % 6 = Int.ofNat i ∧ i < 6 := by
  refine ⟨_, nn _ (Int.emod_nonneg a (by decide)), ?_⟩
  have := Int.emod_lt_of_pos a (show (0 : Int) < 6 by decide)
  omega
theorem Pure.back_f (k : Nat) (hk : 1000 < k) {h : H} (w : WF h) (s0 i0 j0 : Int) : ∃ h', corbellaw5_CoderBack.f k s0 i0 j0 h = some (true, h') := by
  unfold corbellaw5_CoderBack.f
  obtain ⟨cb, h1, a1, a2, C⟩ := cnew_f k hk w
  rw [a1]
  simp only [Option.bind_some, Bool.not_true, cond_false]
  rw [show binO1 Try.prog .eql 53 (Value.pointer (some ⟨cb, 0, none⟩)) (Value.pointer none) = some (.bool false) from rfl, show asB (some (Value.bool false)) = some false from rfl]
  simp only [Option.bind_some, cond_false]
  obtain ⟨dx, x, h2, b1, b2, b3, b4, b5⟩ := hbytes_f k s0 128 (by decide) (by omega) a2.wf
  rw [show (128 : Int) = Int.ofNat 128 from rfl, b1]
  simp only [Option.bind_some]
  have C2 := C.stay a2.wf b2
  obtain ⟨sp, ps, h3, c1, c2, c3⟩ := enc_f k hk b2.wf C2 b4.slr b3
  rw [c1]
  simp only [Option.bind_some]
  have de := enc_dim b3
  have lp : ps.length = 6 := by rw [← mxv_len, c3]; exact de.n
  rw [show ((0 : Int) != (0 : Int)) = false from rfl]
  simp only [cond_false, Option.bind_some]
  rw [c2.mxr.n, lp, show (Int.ofNat 6 != (6 : Int)) = false from rfl]
  simp only [cond_false, Option.bind_some]
  have C3 := C2.stay b2.wf c2.ch
  obtain ⟨h4, d1, d2⟩ := chkA_f k hk c2.ch.wf C3 c2.mxr (by rw [c3]; exact de)
  rw [d1, decide_eq_true (show encP ((mxv ps).take 4).flatten = mxv ps by rw [c3, enc_take b3, chunks_flat b3])]
  simp only [Option.bind_some, Bool.not_true, cond_false]
  obtain ⟨t, h5, e1, O5⟩ := own_m d2.wf (c2.mxr.stay c2.ch.wf d2) (by omega)
  rw [← lp, ← c2.mxr.n]
  rw [e1]
  simp only [Option.bind_some]
  obtain ⟨i, hi, hi6⟩ := Pure.pick6 i0
  obtain ⟨j, hj, hj6⟩ := Pure.pick6 j0
  rw [pick_f k i0 6 h5 (by decide) (by decide), hi]
  simp only [Option.bind_some]
  have nl : ∀ {g : H}, SlR 1 g ⟨none, 0, 0⟩ (byt []) := .inl ⟨rfl, .inl rfl⟩
  have nb : ∀ x, SlB ⟨none, 0, 0⟩ x → ¬ SlB t x := fun x hx => by obtain ⟨o, q⟩ := hx; cases q
  obtain ⟨p, h6, f1, f2, O6, _⟩ := O5.put (j := i) (by omega) ⟨none, 0, 0⟩ [] nl nb
  have f2 : stv 1 h5 p [Value.slice none 0 0] = _ := f2
  rw [f1]
  simp only [asP_ptr, Option.bind_some]
  rw [f2]
  simp only [Option.bind_some]
  rw [pick_f k j0 6 h6 (by decide) (by decide), hj]
  simp only [Option.bind_some]
  obtain ⟨p2, h7, g1, g2, O7, _⟩ := O6.put (j := j) (by rw [List.length_set]; omega) ⟨none, 0, 0⟩ [] nl nb
  have g2 : stv 1 h6 p2 [Value.slice none 0 0] = _ := g2
  rw [g1]
  simp only [asP_ptr, Option.bind_some]
  rw [g2]
  simp only [Option.bind_some]
  have c37 := d2.then O7.ch
  obtain ⟨s, h8, k1, k2, k3⟩ := decB_f k hk O7.ch.wf (C3.stay c2.ch.wf c37) O7.mxr b3 hi6 hj6 (by rw [mxv_set, mxv_set, c3])
  rw [k1]
  simp only [Option.bind_some, cond_true]
  rw [txt_sl k3, txt_sl (b4.slr.stay b2.wf (c2.ch.then (c37.then k2)))]
  simp only [Option.bind_some]
  rw [ba_eq, decide_eq_true rfl]
  exact ⟨h8, rfl⟩
theorem Pure.CoderBack : ∀ h x vs, Den.WF h → Den.Dead h → Ar.CoderBack.R h x vs → Ar.CoderBack.Q x → ∃ a, Den.encL [.int .i64, .int .i64, .int .i64] a = vs ∧ Den.toldB (Fwd.corbellaw5_CoderBack.f 1000000 a.1 a.2.1 a.2.2 h) = true := by
  rintro h ⟨a, b, c, _⟩ vs w _ ⟨va, vb, rfl, r1, vc, vd, rfl, r2, ve, vf, rfl, r3, rfl⟩ _
  obtain rfl := r1
  obtain rfl := r2
  obtain rfl := r3
  obtain ⟨h', g⟩ := Pure.back_f 1000000 (by decide) w a b c
  exact ⟨(a, b, c), rfl, (congrArg toldB g).trans rfl⟩
end Go.Proofs.Ytnjeafdbifcfhaa
