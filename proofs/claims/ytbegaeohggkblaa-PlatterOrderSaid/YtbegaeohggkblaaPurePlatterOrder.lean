/- PlatterOrder: the law's forward run comes to true. -/
import Derived.Test.YtbegaeohggkblaaFwOrder
namespace Go.Proofs.Ytbegaeohggkblaa
open Go Den Fwd Fw
set_option linter.unusedVariables false
theorem Pure.order_f (k : Nat) (hk : 1000 < k) {h : H} (w : WF h) {s t : Sl} {l : List Int} {kp : List Bool} (rs : SlR 1 h s (ivs l)) (rt : SlR 1 h t (kp.map .bool)) (hsb : ∀ b, SlB s b → b < h.next) (htb : ∀ b, SlB t b → b < h.next) (hll : l.length ≤ 9223372036854775807) (hkl : kp.length ≤ 9223372036854775807) :
    ∃ h', corbellaw7_PlatterOrder.f k s t h = some (true, h') := by
  let K : Nat → Nat := fun i => ((l[i]?.getD 0) % 5).toNat
  let B : Nat → Bool := fun i => (kp[i]?).getD false
  have hK : ∀ i n, l[i]? = some n → Int.ofNat (K i) = n % 5 := fun i n e => by
    show Int.ofNat ((l[i]?.getD 0) % 5).toNat = _
    rw [e]
    exact Int.toNat_of_nonneg (Int.emod_nonneg n (by decide))
  have hK5 : ∀ i, K i < 5 := fun i => by
    have := Int.emod_lt_of_pos (l[i]?.getD 0) (show (0 : Int) < 5 by decide)
    have := Int.emod_nonneg (l[i]?.getD 0) (show (5 : Int) ≠ 0 by decide)
    show ((l[i]?.getD 0) % 5).toNat < 5
    omega
  unfold corbellaw7_PlatterOrder.f
  obtain ⟨p, h1, M, C, a1, a2, a3, a4, a5⟩ := new_f k hk 5 (by decide) (by decide) w
  rw [show (5 : Int) = Int.ofNat 5 from rfl, a1]
  simp only [Option.bind_some, Bool.not_true, cond_false, eqptr42, asB]
  obtain ⟨n1, n2, n3⟩ := newR_ok a2.wf 56 5 [Value.int .i64 0, Value.int .i64 0, Value.int .i64 0, Value.int .i64 0, Value.int .i64 0]
  have le1 := a2.le
  have I0 : LI K B h (newR h1 56 5 [Value.int .i64 0, Value.int .i64 0, Value.int .i64 0, Value.int .i64 0, Value.int .i64 0]) p h1.next M C ⟨none, 0, 0⟩ ⟨none, 0, 0⟩ 0 :=
    ⟨a2.trans n1 fun _ _ f => f, a3.keep n1 fun _ f => f.elim, n3, ⟨fun m => Nat.lt_irrefl _ (a3.mlt _ m), fun m => Nat.lt_irrefl _ (a3.clt _ m), le1⟩, Ow.nil, Ow.nil,
      fun b hb => (by obtain ⟨o, q⟩ := hb; cases q), fun b hb => (by obtain ⟨o, q⟩ := hb; cases q), a4, a5⟩
  obtain ⟨h2, M2, C2, od, kd, b1, I⟩ := order_l0 k hk w rs rt hsb htb hll hkl K B hK (fun _ => rfl) p h1.next (min l.length 30) rfl k 0 _ M C _ _ (by omega) (Nat.zero_le _) I0
  rw [show (0 : Int) = Int.ofNat 0 from rfl]
  rw [show (Value.int IntKind.i64 (Int.ofNat 0)) = Value.int .i64 0 from rfl, b1]
  simp only [Option.bind_some]
  generalize hN : min l.length 30 = N at I
  have hN30 : N ≤ 30 := by omega
  obtain ⟨s3, h3, c1, c2, c3, c4⟩ := pending_f k hk I.ch.wf I.pl (by show (pendN K N).length ≤ _; rw [pendN_len]; omega)
  rw [c1]
  simp only [Option.bind_some]
  have om3 := I.om.keep fun b hb => c2.keep b (I.om.lt I.ch.wf hb) fun f => f
  rw [sameInts_f k c3.slr om3.slr (by rw [List.length_map]; show (pendN K N).length < _; rw [pendN_len]; omega) (by rw [List.length_map]; show (pendN K N).length < _; rw [pendN_len]; omega)]
  simp only [Option.bind_some, Bool.not_true, cond_false]
  have pl3 := I.pl.keep c2 fun _ f => f.elim
  rw [writes_f k pl3]
  have hod : od.n = N := by have := I.om.slr.len; rw [ivs_len, List.length_map, pendN_len] at this; omega
  simp only [Option.bind_some, hod, bne_self_eq_false, cond_false]
  have km3 := I.km.keep fun b hb => c2.keep b (I.km.lt I.ch.wf hb) fun f => f
  have le3 := c2.le
  have hkn := keptN_len B N
  obtain ⟨h4, M4, d1, d2, d3, d4⟩ := crash_f k hk c2.wf pl3 km3.slr (fun b hb => ⟨km3.lt c2.wf hb, (I.kb b hb).1⟩) (by omega) (by omega) (by
    show ∀ q ∈ pendN K N, _
    have : ∀ i, ∀ q ∈ pendN K i, ∃ a : Nat, a < 5 ∧ q.1 = Int.ofNat a := by
      intro i
      induction i with
      | zero => intro q hq; simp [pendN] at hq
      | succ i ih =>
        intro q hq
        rw [pendN] at hq
        rcases List.mem_append.1 hq with f | f
        · exact ih q f
        · rw [List.mem_singleton.1 f]; exact ⟨K i, hK5 i, rfl⟩
    simpa using this N) (by show (pendN K N).length ≤ _; rw [pendN_len]; omega) (by simp)
  rw [d1]
  simp only [Option.bind_some]
  have hLlt := I.la.lt I.ch.wf
  have la4 := (I.la.keep (c2.keep _ hLlt fun f => f)).keep (d2.keep _ (by omega) I.lm.1)
  have hM4 : ¬ M4 h1.next := fun m => by
    rcases d4 _ m with f | f
    · exact I.lm.1 f
    · omega
  obtain ⟨h5, e1, e2, e3⟩ := order_l1 k hk (lastN_len K B N) (crash_last K B N N (Nat.le_refl _)) od hM4 k 0 h4 (by omega) (Nat.zero_le _) (Ch.refl d2.wf) d3 la4
  rw [e1]
  simp only [Option.bind_some]
  rw [writes_f k e3]
  exact ⟨h5, by simp⟩
theorem Pure.PlatterOrder : ∀ h x vs, Den.WF h → Den.Dead h → Ar.PlatterOrder.R h x vs → Ar.PlatterOrder.Q x → ∃ a, Den.encL [.sl, .sl] a = vs ∧ Den.toldB (Fwd.corbellaw7_PlatterOrder.f 2000 a.1 a.2 h) = true := by
  rintro h ⟨l, kp, _⟩ vs w _ ⟨va, vb, rfl, r1, vc, vd, rfl, r2, rfl⟩ ⟨⟨_, q1, _⟩, ⟨_, q2, _⟩, _⟩
  obtain ⟨s, rfl, s1, _, s2⟩ := RSl.slr1 (f := fun n => .int .i64 n) (fun _ _ _ e => e) r1
  obtain ⟨t, rfl, t1, _, t2⟩ := RSl.slr1 (f := fun n => .bool n) (fun _ _ _ e => e) r2
  have lt : ∀ b, h.get b ≠ none → b < h.next := fun b hb => by
    rcases Nat.lt_or_ge b h.next with q | q
    · exact q
    · exact absurd (w.dom b q) hb
  obtain ⟨h', e⟩ := Pure.order_f 2000 (by decide) w s1 t1 (fun b hb => lt b (s2 b hb)) (fun b hb => lt b (t2 b hb)) (by unfold maxLen at q1; omega) (by unfold maxLen at q2; omega)
  exact ⟨(s, t), rfl, by rw [e]; rfl⟩
end Go.Proofs.Ytbegaeohggkblaa
