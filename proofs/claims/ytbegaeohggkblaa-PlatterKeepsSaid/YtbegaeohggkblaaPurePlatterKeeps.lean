/- PlatterKeeps: the law's forward run comes to true. -/
import Derived.Test.YtbegaeohggkblaaFwKeeps
import Derived.Test.YtbegaeohggkblaaArPlatterKeeps
namespace Go.Proofs.Ytbegaeohggkblaa
open Go Den Fwd Fw
set_option linter.unusedVariables false
theorem Pure.eqptr42 (p : Addr) : binO1 Try.prog .eql 42 (.pointer (some p)) (.pointer none) = some (.bool false) := by
  simp [binO1, binB, binA, Try.underlying42, eqA]
theorem Pure.keeps_f (k : Nat) (hk : 1000 < k) {h : H} (w : WF h) {s t : Sl} {ls : List (List Value)} (rs : SlR 4 h s ls.flatten) (hln : ls.length = s.n) (hl4 : ∀ l ∈ ls, l.length = 4) (hsb : ∀ b, SlB s b → b < h.next) (K N : Nat → Int) (hKN : ∀ (i : Nat) (l : List Value), ls[i]? = some l → l[1]? = some (.int .i64 (K i)) ∧ l[2]? = some (.int .i64 (N i)))
    (fl : Int) {keep : List Int} (rt : SlR 1 h t (ivs keep)) (htb : ∀ b, SlB t b → b < h.next) (hkl : keep.length < k) (hkl2 : keep.length < 9223372036854775807) :
    ∃ h', corbellaw7_PlatterKeeps.f k s fl t h = some (true, h') := by
  unfold corbellaw7_PlatterKeeps.f
  obtain ⟨p, h1, M, C, a1, a2, a3, a4, a5⟩ := new_f k hk 6 (by decide) (by decide) w
  rw [show (6 : Int) = Int.ofNat 6 from rfl, a1]
  simp only [Option.bind_some, Bool.not_true, cond_false, Pure.eqptr42, asB]
  have hT : (cond (decide ((30 : Int) < Int.ofNat s.n)) (30 : Int) (Int.ofNat s.n)) = Int.ofNat (min s.n 30) := by
    by_cases c : (30 : Int) < Int.ofNat s.n
    · rw [decide_eq_true c, cond_true]; simp at c; rw [show min s.n 30 = 30 by omega]; rfl
    · rw [decide_eq_false c, cond_false]; simp at c; rw [show min s.n 30 = s.n by omega]
  rw [hT]
  generalize hTT : min s.n 30 = T
  have T1 : T ≤ s.n := by omega
  have T2 : T ≤ 30 := by omega
  obtain ⟨n1, n2, n3⟩ := newR_ok a2.wf 45 6 [Value.map none, Value.map none, Value.map none, Value.map none, Value.map none, Value.map none]
  obtain ⟨h2, u1, u2, u3, u4⟩ := stv_ok n1.wf n3 (o := 0) [Value.map none, Value.map none, Value.map none, Value.map none, Value.map none, Value.map none] (Nat.le_refl _) rfl
  rw [show ([Value.map none, Value.map none, Value.map none, Value.map none, Value.map none, Value.map none] : List Value).length = 6 from rfl] at u1
  rw [u1]
  simp only [Option.bind_some]
  have le1 := a2.le
  obtain ⟨h3, m, b1, b2, b3, b4, b5⟩ := keeps_l0 k u2.wf s t fl (some ⟨p, 0, none⟩) h1.next (by omega) k 0 h2 _ (fun _ => 0) (by omega) (Nat.zero_le _) (Ch.refl u2.wf) u4 rfl (fun q hq => by omega) (fun q r hq => by omega)
  rw [show (0 : Int) = Int.ofNat 0 from rfl, b1]
  simp only [Option.bind_some]
  rw [wrap_in (n := Int.ofNat T + 1) (by simp; omega) (by simp; omega), pick_f k _ _ h3 (by simp) (by simp; omega)]
  simp only [Option.bind_some]
  obtain ⟨z1, z2, z3⟩ := newR_ok b2.wf 46 6 [Value.int .u8 0, Value.int .u8 0, Value.int .u8 0, Value.int .u8 0, Value.int .u8 0, Value.int .u8 0]
  rw [show (Value.int IntKind.u8 (Int.ofNat 0)) = Value.int .u8 0 from rfl]
  have le3 := b2.le
  have le4 := z1.le
  have c14 : Ch (fun x => x = h1.next) h1 (newR h3 46 6 [Value.int .u8 0, Value.int .u8 0, Value.int .u8 0, Value.int .u8 0, Value.int .u8 0, Value.int .u8 0]) :=
    ⟨z1.wf, by omega, fun x hx hf => (z1.keep x (by omega) fun f => f).trans ((b2.keep x (by omega) hf).trans ((u2.keep x (by omega) hf).trans (n1.keep x hx fun f => f)))⟩
  have I0 : KI h (newR h3 46 6 [Value.int .u8 0, Value.int .u8 0, Value.int .u8 0, Value.int .u8 0, Value.int .u8 0, Value.int .u8 0]) p h1.next h3.next m (fun _ n => decide (n = 0)) (fun _ => 0) M C ⟨List.replicate 6 zeros160, List.replicate 6 zeros160, [], 0⟩ 0 := by
    have mlt := fun x (hx : M x) => a3.mlt x hx
    have clt := fun x (hx : C x) => a3.clt x hx
    refine ⟨⟨z1.wf, by omega, fun x hx _ => (c14.keep x (by omega) (by omega)).trans (a2.keep x hx fun f => f)⟩, a3.keep c14 fun x e => by subst e; exact ⟨fun f => Nat.lt_irrefl _ (mlt _ f), fun f => Nat.lt_irrefl _ (clt _ f)⟩, rfl, fun q hq => ?_, Nat.le_refl _, rfl, ?_, fun q hq => ?_, b5, ⟨_, z3, rfl, fun q hq => ?_⟩, ⟨by omega, by omega, by omega, fun f => Nat.lt_irrefl _ (mlt _ f), fun f => Nat.lt_irrefl _ (clt _ f), fun f => ?_, fun f => ?_⟩, fun q hq => ?_, a4, a5, ⟨rfl, fun q hq => ⟨0, by decide, by decide, by simp, ?_⟩⟩, fun x hx => (by cases hx), fun q hq => ⟨by simp, by decide, by decide⟩⟩
    · show (List.replicate 6 zeros160)[q]? = _
      rw [List.getElem?_replicate, if_pos hq]; rfl
    · obtain ⟨l, L1, L2, L3⟩ := b3
      exact ⟨l, L1.keep (z1.keep _ (by omega) fun f => f), L2, L3⟩
    · obtain ⟨x1, x2⟩ := b4 q hq
      exact ⟨_, x2.keep (z1.keep _ (x2.lt b2.wf) fun f => f), fun n => by by_cases f : n = 0 <;> simp [f]⟩
    · have : q = 0 ∨ q = 1 ∨ q = 2 ∨ q = 3 ∨ q = 4 ∨ q = 5 := by omega
      rcases this with rfl | rfl | rfl | rfl | rfl | rfl <;> rfl
    · have := mlt _ f; omega
    · have := clt _ f; omega
    · obtain ⟨x1, x2⟩ := b4 q hq
      have := x2.lt b2.wf
      exact ⟨by omega, by omega, by omega, fun f => by have := mlt _ f; omega, fun f => by have := clt _ f; omega⟩
    · show (List.replicate 6 zeros160)[q]? = _
      rw [List.getElem?_replicate, if_pos hq]; rfl
  obtain ⟨h5, m5, may5, last5, M5, C5, st5, d1, I⟩ := keeps_l1 k hk w rs hln hl4 hsb K N hKN (fl % (Int.ofNat T + 1)) t p h1.next h3.next T T1 T2 k 0 _ m _ _ M C _ (by omega) (Nat.zero_le _) I0
  rw [d1]
  simp only [Option.bind_some]
  obtain ⟨h6, M6, e1, e2, e3, e4⟩ := crash_f k hk I.ch.wf I.pl (rt.keep fun b hb => I.ch.keep b (htb b hb) fun f => f) (fun b hb => ⟨by have := I.ch.le; have := htb b hb; omega, fun f => by have := I.mn b f; have := htb b hb; omega⟩) hkl hkl2 (fun x hx => by
    obtain ⟨q, q1, q2, _⟩ := I.mp x hx
    exact ⟨q, by rw [I.md.1]; exact q1, q2⟩) (by have := I.pn; omega) (by rw [I.md.1]; decide)
  rw [e1]
  simp only [Option.bind_some]
  obtain ⟨g1, g2, g3, g4, g5, g6, g7⟩ := I.da
  obtain ⟨lA, A1, A2, A3⟩ := I.row
  obtain ⟨h7, f1, f2, f3⟩ := keeps_l3 k hk (A := h1.next) (m := m5) (may := may5) (M := M6) (fun f => (e4 _ f).elim g4 (by have := A1.lt I.ch.wf; omega)) (MayD.crash keep st5.pend 0 st5.done I.md I.mp) k 0 h6 (by omega) (Nat.zero_le _) (Ch.refl e2.wf) e3 ⟨lA, A1.keep (e2.keep _ (A1.lt I.ch.wf) g4), A2, A3⟩ fun q hq => by
    obtain ⟨D, D1, D2⟩ := I.maps q hq
    exact ⟨D, D1.keep (e2.keep _ (D1.lt I.ch.wf) (I.dm q hq).2.2.2.1), D2⟩
  rw [f1]
  simp only [Option.bind_some]
  obtain ⟨s8, h8, v1, v2, v3, v4⟩ := pending_f k hk f2.wf f3 (Nat.zero_le _)
  rw [v1]
  have hn : s8.n = 0 := by have := v3.slr.len; rw [ivs_len, Nat.mul_one] at this; exact this.symm
  exact ⟨h8, by simp [hn]⟩
theorem Pure.PlatterKeeps : ∀ h x vs, Den.WF h → Den.Dead h → Ar.PlatterKeeps.R h x vs → Ar.PlatterKeeps.Q x → ∃ a, Den.encL [.sl, .int .i64, .sl] a = vs ∧ Den.toldB (Fwd.corbellaw7_PlatterKeeps.f 35184372088833 a.1 a.2.1 a.2.2 h) = true := by
  rintro h ⟨l, fl, kp, _⟩ vs w _ ⟨va, vb, rfl, r1, vc, vd, rfl, r2, ve, vf, rfl, r3, rfl⟩ ⟨_, _, ⟨q1, _⟩, _⟩
  obtain ⟨s, ls, rfl, s1, s2, s3, s4, s5, s6⟩ := RSl.many w (by decide) r1
  have s1 : s.n = l.length := s1
  have s3 : ls.length = l.length := s3
  obtain ⟨t, rfl, t1, _, t2⟩ := RSl.one (f := fun n => .int .i64 n) (fun _ _ _ e => e) w r3
  obtain rfl := r2
  have hb : Try.prog.bytesOf 3 = 8 := by kernel_rfl
  have hlen : kp.length ≤ 17592186044416 := by
    have q1 : kp.length * Try.prog.bytesOf 3 ≤ reachBytes := q1
    rw [hb] at q1
    have : reachBytes ≤ 140737488355328 := by unfold reachBytes; decide
    omega
  obtain ⟨h', e⟩ := Pure.keeps_f 35184372088833 (by decide) w s2 (by rw [s3, s1]) s4 s6 (fun i => (l[i]?.getD (0, 0, 0, [])).2.1) (fun i => (l[i]?.getD (0, 0, 0, [])).2.2.1) (fun i c hc => by
    have hil : i < l.length := by
      rcases Nat.lt_or_ge i ls.length with q | q
      · omega
      · rw [List.getElem?_eq_none q] at hc; cases hc
    have e := List.getElem?_eq_getElem hil
    obtain ⟨x1, y1, rfl, z1, x2, y2, rfl, z2, x3, y3, rfl, z3, z4⟩ := s5 i _ c e hc
    obtain rfl := z1
    obtain rfl := z2
    obtain rfl := z3
    rw [e]
    exact ⟨rfl, rfl⟩) fl t1 t2 (by show kp.length < _; omega) (by show kp.length < _; omega)
  exact ⟨(s, fl, t), rfl, by rw [e]; rfl⟩
end Go.Proofs.Ytbegaeohggkblaa
