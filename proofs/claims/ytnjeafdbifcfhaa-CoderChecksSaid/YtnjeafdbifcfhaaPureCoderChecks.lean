/- CoderChecks: the law's forward run comes to true. -/
import Derived.Test.YtnjeafdbifcfhaaFwDec
import Derived.Test.YtnjeafdbifcfhaaFCod
import Derived.Test.YtnjeafdbifcfhaaArCoderChecks
namespace Go.Proofs.Ytnjeafdbifcfhaa
open Go Den Fwd Fw
set_option linter.unusedVariables false
set_option linter.unusedSimpArgs false
theorem Pure.pick6 (a : Int) : ∃ i : Nat, a % 6 = Int.ofNat i ∧ i < 6 := by
  refine ⟨_, nn _ (Int.emod_nonneg a (by decide)), ?_⟩
  have := Int.emod_lt_of_pos a (show (0 : Int) < 6 by decide)
  omega
theorem Pure.wf8 {n : Int} (h : (Lit.int .u8 n).wf = true) : ∃ m : UInt8, n = Int.ofNat m.toNat := by
  have h2 : 0 ≤ n ∧ n ≤ 255 := by simpa [Lit.wf, IntKind.min, IntKind.max, IntKind.signed, IntKind.bits] using h
  refine ⟨UInt8.ofNat n.toNat, ?_⟩
  have : (UInt8.ofNat n.toNat).toNat = n.toNat := by
    show n.toNat % 256 = n.toNat
    omega
  rw [this]
  exact nn n h2.1
/-- a byte of a new row is turned -/
theorem Pure.poke {g0 h h' : H} {s t : Sl} {ps : Parts} {j : Nat} {y y' : List UInt8} (o : MxO g0 h s (ps.set j (t, y))) (hj : j < ps.length) (r : SlR 1 h' t (byt y')) (c : Ch (SlB t) h h') (h1 : ∀ b, SlB t b → g0.next ≤ b) (h2 : ∀ b, SlB t b → ¬ SlB s b) (h3 : ∀ p ∈ ps, ∀ b, SlB p.1 b → ¬ SlB t b) (hr : PartsR h ps) (hd' : ∀ p ∈ ps, ∀ b, SlB p.1 b → ¬ SlB s b) : MxO g0 h' s (ps.set j (t, y')) := by
  refine ⟨Ch0.own o.ch c h1, ?_, ?_, o.fr, ?_⟩
  · have e : ((ps.set j (t, y')).map fun p => slv p.1) = ((ps.set j (t, y)).map fun p => slv p.1) := by rw [List.map_set, List.map_set]
    rw [e]
    exact o.ow.keep fun b hb => c.keep b (o.ow.lt o.ch.wf hb) fun f => h2 b f hb
  · intro p hp
    rcases List.mem_or_eq_of_mem_set hp with e | e
    · exact (hr p e).keep fun b hb => c.keep b ((hr p e).blk o.ch.wf hb) (h3 p e b hb)
    · rw [e]; exact r
  · intro p hp b hb
    rcases List.mem_or_eq_of_mem_set hp with e | e
    · exact hd' p e b hb
    · rw [e] at hb; exact h2 b hb
theorem Pure.checks_f (k : Nat) (hk : 1000 < k) {h : H} (w : WF h) (s0 i0 k0 : Int) (v : UInt8) : ∃ h', corbellaw5_CoderChecks.f k s0 i0 k0 (Int.ofNat v.toNat) h = some (true, h') := by
  unfold corbellaw5_CoderChecks.f
  obtain ⟨cb, h1, a1, a2, C⟩ := cnew_f k hk w
  rw [a1]
  simp only [Option.bind_some, Bool.not_true, cond_false]
  rw [show binO1 Try.prog .eql 53 (Value.pointer (some ⟨cb, 0, none⟩)) (Value.pointer none) = some (.bool false) from rfl, show asB (some (Value.bool false)) = some false from rfl]
  simp only [Option.bind_some, cond_false]
  obtain ⟨dx, x, h2, b1, b2, b3, b4, b5⟩ := hbytes_f k s0 128 (by decide) (by omega) a2.wf
  rw [show (128 : Int) = Int.ofNat 128 from rfl, b1]
  simp only [Option.bind_some]
  have C2 := C.stay a2.wf b2
  obtain ⟨sp, ps, h3, c1, c2, c3⟩ := enc_f k hk b2.wf C2 b4.slr b3
  rw [c1]
  simp only [Option.bind_some]
  have de := enc_dim b3
  have lp : ps.length = 6 := by rw [← mxv_len, c3]; exact de.n
  have sn : sp.n = 6 := by rw [c2.mxr.n, lp]
  rw [show ((0 : Int) != (0 : Int)) = false from rfl]
  simp only [cond_false, Option.bind_some]
  rw [show (Int.ofNat sp.n != (6 : Int)) = false by rw [sn]; rfl]
  simp only [cond_false, Option.bind_some]
  have C3 := C2.stay b2.wf c2.ch
  obtain ⟨i, hi, hi6⟩ := Pure.pick6 i0
  rw [pick_f k i0 6 h3 (by decide) (by decide), hi]
  simp only [Option.bind_some]
  have ip : i < ps.length := by omega
  obtain ⟨p, e1, e2⟩ := c2.mxr.at ip
  rw [e1]
  simp only [asP_ptr, Option.bind_some]
  rw [e2]
  have er : ps[i].2 = (encP x).getD i [] := by rw [← c3, mxv_getD ip]
  have el : ps[i].2.length = 32 := by rw [er]; exact de.row hi6
  simp only [Option.bind_some, (c2.mxr.row ip).n_byt, el]
  rw [show (Int.ofNat 32 != (32 : Int)) = false from rfl]
  simp only [cond_false]
  obtain ⟨t, h5, f1, O5⟩ := own_m c2.ch.wf c2.mxr (by omega)
  rw [f1]
  simp only [Option.bind_some]
  obtain ⟨n1, n2, n3⟩ := newR_ok O5.ch.wf 5 1 []
  have A5 := c2.mxr.stay c2.ch.wf (O5.ch.then n1)
  obtain ⟨p', g1, g2⟩ := A5.at ip
  rw [e1] at g1
  cases g1
  rw [g2]
  simp only [Option.bind_some]
  have R5 := (c2.mxr.row ip).stay c2.ch.wf O5.ch
  obtain ⟨u, h6, i1, i2, _, _, _, i6, i7⟩ := own_b O5.ch.wf R5 (by omega)
  rw [i1]
  simp only [Option.bind_some]
  have O6 := O5.more i2
  have dut : ∀ b, SlB u b → ¬ SlB t b := fun b hb f => by have := i7 b hb; have := O5.ow.lt O5.ch.wf f; omega
  have dpu : ∀ p ∈ ps, ∀ b, SlB p.1 b → ¬ SlB u b := fun p hp b hb f => by have := i7 b f; have := (O5.rs p hp).blk O5.ch.wf hb; omega
  obtain ⟨p7, h7, j1, j2, O7, j4⟩ := O6.put ip u ps[i].2 i6.slr dut
  rw [j1]
  simp only [asP_ptr, Option.bind_some]
  rw [j2]
  simp only [Option.bind_some]
  obtain ⟨p8, k1, k2⟩ := O7.mxr.at (j := i) (by rw [List.length_set]; exact ip)
  rw [j1] at k1
  cases k1
  rw [k2, List.getElem_set_self]
  simp only [Option.bind_some]
  obtain ⟨K, hK⟩ : ∃ T : Nat, k0 % 32 = Int.ofNat T := ⟨_, nn _ (Int.emod_nonneg k0 (by decide))⟩
  have K1 : K < 32 := by have := Int.emod_lt_of_pos k0 (show (0 : Int) < 32 by decide); rw [hK] at this; simp only [Int.ofNat_eq_natCast] at this; omega
  rw [pick_f k k0 32 h7 (by decide) (by decide), hK]
  simp only [Option.bind_some]
  have U7 : Ow 5 1 h7 u (byt ps[i].2) := i6.keep fun b hb => j4.keep b (i6.lt i2.wf hb) (dut b hb)
  obtain ⟨b8, h8, l1, l2, l3, l4, l5, l6⟩ := setb O7.ch.wf U7 (j := K) (by omega) (ps[i].2[K]'(by omega) ^^^ v)
  rw [l1]
  simp only [asP_ptr, Option.bind_some]
  rw [l2, asI_int]
  simp only [Option.bind_some]
  rw [xor_u8, asI_int]
  simp only [Option.bind_some]
  rw [l3]
  simp only [Option.bind_some, same1_refl, Bool.and_self, cond_true]
  have hu : ∀ b, SlB u b → h3.next ≤ b := fun b hb => by have := i7 b hb; have := O5.ch.le; omega
  have rs7 : PartsR h7 ps := fun p hp => (O6.rs p hp).keep fun b hb => j4.keep b ((O6.rs p hp).blk O6.ch.wf hb) (O6.ds p hp b hb)
  have O8 := Pure.poke O7 ip l6.slr l4 hu dut dpu rs7 O6.ds
  obtain ⟨q1, q2⟩ := chk_turned b3 hi6 K1 v (mxv (ps.set i (u, ps[i].2.set K (ps[i].2[K]'(by omega) ^^^ v)))) (by
    rw [mxv_set, c3]
    show (encP x).set i (ps[i].2.set K (ps[i].2[K]'(by omega) ^^^ v)) = _
    rw [← bytD (show K < ps[i].2.length by omega), er])
  have C8 := C3.stay c2.ch.wf O8.ch
  obtain ⟨h9, m1, m2⟩ := chkA_f k hk O8.ch.wf C8 O8.mxr q1
  rw [m1]
  simp only [Option.bind_some]
  rw [z_eq, show decide (encP ((mxv (ps.set i (u, ps[i].2.set K (ps[i].2[K]'(by omega) ^^^ v)))).take 4).flatten = mxv (ps.set i (u, ps[i].2.set K (ps[i].2[K]'(by omega) ^^^ v)))) = decide (v = 0) from decide_eq_decide.2 q2]
  simp only [beq_self_eq_true, Bool.not_true, cond_false]
  have O9 := O8.more m2
  have nl : ∀ {g : H}, SlR 1 g ⟨none, 0, 0⟩ (byt []) := .inl ⟨rfl, .inl rfl⟩
  have nb : ∀ x, SlB ⟨none, 0, 0⟩ x → ¬ SlB t x := fun x hx => by obtain ⟨o, q⟩ := hx; cases q
  obtain ⟨p10, ha, r1, r2, Oa, _⟩ := O9.put (j := i) (by rw [List.length_set]; exact ip) ⟨none, 0, 0⟩ [] nl nb
  have r2 : stv 1 h9 p10 [Value.slice none 0 0] = _ := r2
  rw [j1] at r1
  cases r1
  rw [r2]
  simp only [Option.bind_some]
  have hm : mxv ((ps.set i (u, ps[i].2.set K (ps[i].2[K]'(by omega) ^^^ v))).set i (⟨none, 0, 0⟩, [])) = ((encP x).set i []).set i [] := by
    rw [mxv_set, mxv_set, c3, List.set_set, List.set_set]
  have Ca := C3.stay c2.ch.wf Oa.ch
  obtain ⟨s, hb, t1, t2, t3⟩ := decB_f k hk Oa.ch.wf Ca Oa.mxr b3 hi6 hi6 hm
  rw [t1]
  simp only [Option.bind_some, cond_true]
  rw [txt_sl t3, txt_sl (b4.slr.stay b2.wf (c2.ch.then (Oa.ch.then t2)))]
  simp only [Option.bind_some]
  rw [ba_eq, decide_eq_true rfl]
  simp only [cond_true]
  obtain ⟨hc, v1, v2⟩ := chkB_f k hk t2.wf (Ca.stay Oa.ch.wf t2) (Oa.mxr.stay Oa.ch.wf t2) b3 hi6 hm
  rw [v1]
  exact ⟨hc, rfl⟩
theorem Pure.CoderChecks : ∀ h x vs, Den.WF h → Den.Dead h → Ar.CoderChecks.R h x vs → Ar.CoderChecks.Q x → ∃ a, Den.encL [.int .i64, .int .i64, .int .i64, .int .u8] a = vs ∧ Den.toldB (Fwd.corbellaw5_CoderChecks.f 1000000 a.1 a.2.1 a.2.2.1 a.2.2.2 h) = true := by
  rintro h ⟨a, b, c, d, _⟩ vs w _ ⟨va, vb, rfl, r1, vc, vd, rfl, r2, ve, vf, rfl, r3, vg, vh, rfl, r4, rfl⟩ ⟨_, _, _, q4, _⟩
  obtain rfl := r1
  obtain rfl := r2
  obtain rfl := r3
  obtain rfl := r4
  obtain ⟨v, rfl⟩ := Pure.wf8 q4
  obtain ⟨h', g⟩ := Pure.checks_f 1000000 (by decide) w a b c v
  exact ⟨(a, b, c, Int.ofNat v.toNat), rfl, (congrArg toldB g).trans rfl⟩
end Go.Proofs.Ytnjeafdbifcfhaa
