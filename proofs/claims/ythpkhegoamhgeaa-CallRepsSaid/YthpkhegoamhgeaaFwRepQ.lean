/- call's replies: the same by the reference? No condition. -/
import Derived.Test.YthpkhegoamhgeaaFwRepP
namespace Go.Proofs.Ythpkhegoamhgeaa.Fw
open Go Den Fwd
set_option linter.unusedVariables false
set_option linter.unusedSimpArgs false

/-! ### Pc -/
def Pc.same (p q : Pc) : Bool := (p.st == q.st) && ((p.gn == q.gn) && ((p.ix == q.ix) && decide (p.data = q.data)))
theorem Pc.same_self (p : Pc) : p.same p = true := by unfold Pc.same; simp
theorem pcSame_f (k : Nat) {h : H} (w : WF h) (p q : Pc) (d e : Sl) (rp : SlR 1 h d (byt p.data)) (rq : SlR 1 h e (byt q.data)) :
    ∃ h', corbelref7_SamePiece.f k (p.tup d) (q.tup e) h = some (p.same q, h') ∧ Ch0 h h' := by
  unfold corbelref7_SamePiece.f Pc.tup
  dsimp only
  rw [show [Value.int .i64 p.st, Value.int .i64 p.gn, Value.int .i64 p.ix, Value.slice d.a d.n d.c] = p.vs d from rfl, show [Value.int .i64 q.st, Value.int .i64 q.gn, Value.int .i64 q.ix, Value.slice e.a e.n e.c] = q.vs e from rfl]
  obtain ⟨z1, z2, z3⟩ := newR_ok w 69 4 (p.vs d)
  generalize newR h 69 4 (p.vs d) = g0 at z1 z2 z3 ⊢
  obtain ⟨y1, y2, y3⟩ := newR_ok z1.wf 69 4 (q.vs e)
  generalize newR g0 69 4 (q.vs e) = g1 at y1 y2 y3 ⊢
  have I := z3.stay z1.wf y1
  have c1 : Ch0 h g1 := z1.then y1
  refine ⟨g1, ?_, c1⟩
  have A0 : (p.vs d)[0]? = some (.int .i64 p.st) := rfl
  have B0 : (q.vs e)[0]? = some (.int .i64 q.st) := rfl
  have A1 : (p.vs d)[1]? = some (.int .i64 p.gn) := rfl
  have B1 : (q.vs e)[1]? = some (.int .i64 q.gn) := rfl
  have A2 : (p.vs d)[2]? = some (.int .i64 p.ix) := rfl
  have B2 : (q.vs e)[2]? = some (.int .i64 q.ix) := rfl
  have AD : (p.vs d)[3]? = some (slv d) := rfl
  have BD : (q.vs e)[3]? = some (slv e) := rfl
  have td := txt_sl (rp.stay w c1)
  have te := txt_sl (rq.stay w c1)
  unfold Pc.same
  simp only [I.ldc, y3.ldc, A0, B0, A1, B1, A2, B2, AD, BD, asI_int, asS_slv, Option.bind_some]
  cases (p.st == q.st) with
  | false => rfl
  | true =>
    simp only [cond_true, I.ldc, y3.ldc, A0, B0, A1, B1, A2, B2, AD, BD, asI_int, asS_slv, Option.bind_some]
    cases (p.gn == q.gn) with
    | false => rfl
    | true =>
      simp only [cond_true, I.ldc, y3.ldc, A0, B0, A1, B1, A2, B2, AD, BD, asI_int, asS_slv, Option.bind_some]
      cases (p.ix == q.ix) with
      | false => rfl
      | true =>
        simp only [cond_true, I.ldc, y3.ldc, A0, B0, A1, B1, A2, B2, AD, BD, asI_int, asS_slv, Option.bind_some]
        rw [td, te]
        simp only [Option.bind_some, ba_eq, Bool.true_and]
/-- all of two lists -/
def pcSames : List Pc → List Pc → Bool
  | [], [] => true
  | p :: ps, q :: qs => p.same q && pcSames ps qs
  | _, _ => false
theorem pcSames_self : ∀ l, pcSames l l = true
  | [] => rfl
  | p :: l => by unfold pcSames; rw [Pc.same_self, pcSames_self l]; rfl
theorem pcSames_len : ∀ (l m : List Pc), l.length ≠ m.length → pcSames l m = false
  | [], [], h => absurd rfl h
  | [], _ :: _, _ => rfl
  | _ :: _, [], _ => rfl
  | p :: l, q :: m, h => by unfold pcSames; rw [pcSames_len l m (fun e => h (by rw [List.length_cons, List.length_cons, e])), Bool.and_false]
theorem pcSames_l0 (k : Nat) {h0 : H} (w0 : WF h0) {s t : Sl} {ps qs : PcS} (rp : PcR h0 s ps) (rq : PcR h0 t qs) (hl : ps.length = qs.length) (hl2 : ps.length ≤ 1000) : ∀ n j h, ps.length - j < n → j ≤ ps.length → Ch0 h0 h →
    ∃ h' v, corbelref7_SamePieces.l0 k n s t (Int.ofNat j) h = some (v, h') ∧ Ch0 h0 h' ∧ ((v = .inl false ∧ pcSames ((ps.drop j).map (·.1)) ((qs.drop j).map (·.1)) = false) ∨ (v = .inr () ∧ pcSames ((ps.drop j).map (·.1)) ((qs.drop j).map (·.1)) = true))
  | 0, j, h, hn, _, _ => by omega
  | n + 1, j, h, hn, hj, hc => by
    rw [corbelref7_SamePieces.l0_succ, rp.n]
    by_cases c : j < ps.length
    · have c' : j < qs.length := by omega
      rw [decide_eq_true (show Int.ofNat j < Int.ofNat ps.length by simp; omega), cond_true]
      obtain ⟨p, e1, e2⟩ := (rp.stay w0 hc).at c
      obtain ⟨p', f1, f2⟩ := (rq.stay w0 hc).at c'
      rw [rp.n] at e1
      rw [e1]
      simp only [asP_ptr, Option.bind_some]
      rw [show ps[j].1.vs ps[j].2 = pcV ps[j].1.st ps[j].1.gn ps[j].1.ix ps[j].2 from rfl] at e2
      rw [show qs[j].1.vs qs[j].2 = pcV qs[j].1.st qs[j].1.gn qs[j].1.ix qs[j].2 from rfl] at f2
      rw [e2, bindPc]
      dsimp only
      rw [f1]
      simp only [asP_ptr, Option.bind_some]
      rw [f2, bindPc]
      dsimp only
      obtain ⟨h1, a1, a2⟩ := pcSame_f k hc.wf ps[j].1 qs[j].1 ps[j].2 qs[j].2 ((rp.stay w0 hc).da _ (List.getElem_mem c)) ((rq.stay w0 hc).da _ (List.getElem_mem c'))
      rw [show ((ps[j].1.st, ps[j].1.gn, ps[j].1.ix, ps[j].2) : PcT) = ps[j].1.tup ps[j].2 from rfl, show ((qs[j].1.st, qs[j].1.gn, qs[j].1.ix, qs[j].2) : PcT) = qs[j].1.tup qs[j].2 from rfl, a1]
      simp only [Option.bind_some]
      have hd : ps.drop j = ps[j] :: ps.drop (j + 1) := List.drop_eq_getElem_cons c
      have hd' : qs.drop j = qs[j] :: qs.drop (j + 1) := List.drop_eq_getElem_cons c'
      have un : pcSames ((ps.drop j).map (·.1)) ((qs.drop j).map (·.1)) = (ps[j].1.same qs[j].1 && pcSames ((ps.drop (j + 1)).map (·.1)) ((qs.drop (j + 1)).map (·.1))) := by
        rw [hd, hd', List.map_cons, List.map_cons]; rfl
      rw [un]
      cases hr : ps[j].1.same qs[j].1 with
      | false => exact ⟨h1, _, rfl, hc.then a2, .inl ⟨rfl, rfl⟩⟩
      | true =>
        simp only [Bool.not_true, cond_false, Bool.true_and]
        rw [wrap_succ (by omega)]
        exact pcSames_l0 k w0 rp rq hl hl2 n (j + 1) h1 (by omega) (by omega) (hc.then a2)
    · rw [decide_eq_false (show ¬ Int.ofNat j < Int.ofNat ps.length by simp; omega), cond_false]
      exact ⟨h, _, rfl, hc, .inr ⟨rfl, by rw [List.drop_eq_nil_of_le (by omega), List.drop_eq_nil_of_le (by omega)]; rfl⟩⟩
theorem pcSames_f (k : Nat) (hk : 1000 < k) {h : H} (w : WF h) {s t : Sl} {ps qs : PcS} (rp : PcR h s ps) (rq : PcR h t qs) (hl2 : ps.length ≤ 1000) : ∃ h', corbelref7_SamePieces.f k s t h = some (pcSames (ps.map (·.1)) (qs.map (·.1)), h') ∧ Ch0 h h' := by
  unfold corbelref7_SamePieces.f
  rw [rp.n, rq.n]
  by_cases c : ps.length = qs.length
  · rw [c, show (Int.ofNat qs.length != Int.ofNat qs.length) = false by simp, cond_false]
    obtain ⟨h', v, a1, a2, a3⟩ := pcSames_l0 k w rp rq c hl2 k 0 h (by omega) (Nat.zero_le _) (Ch.refl w)
    rw [show (0 : Int) = Int.ofNat 0 from rfl, a1]
    rw [List.drop_zero, List.drop_zero] at a3
    rcases a3 with ⟨rfl, e⟩ | ⟨rfl, e⟩
    · rw [e]; exact ⟨h', rfl, a2⟩
    · rw [e]; exact ⟨h', rfl, a2⟩
  · have : (Int.ofNat ps.length != Int.ofNat qs.length) = true := by
      simp only [bne_iff_ne, ne_eq]
      intro f
      exact c (Int.ofNat.inj f)
    rw [this, cond_true, pcSames_len _ _ (by rw [List.length_map, List.length_map]; exact c)]
    exact ⟨h, rfl, Ch.refl w⟩

/-! ### It -/
def It.same (p q : It) : Bool := (p.st == q.st) && ((p.gn == q.gn) && decide (p.data = q.data))
theorem It.same_self (p : It) : p.same p = true := by unfold It.same; simp
theorem itSame_f (k : Nat) {h : H} (w : WF h) (p q : It) (d e : Sl) (rp : SlR 1 h d (byt p.data)) (rq : SlR 1 h e (byt q.data)) :
    ∃ h', corbelref7_SameIntent.f k (p.tup d) (q.tup e) h = some (p.same q, h') ∧ Ch0 h h' := by
  unfold corbelref7_SameIntent.f It.tup
  dsimp only
  rw [show [Value.int .i64 p.st, Value.int .i64 p.gn, Value.slice d.a d.n d.c] = p.vs d from rfl, show [Value.int .i64 q.st, Value.int .i64 q.gn, Value.slice e.a e.n e.c] = q.vs e from rfl]
  obtain ⟨z1, z2, z3⟩ := newR_ok w 72 3 (p.vs d)
  generalize newR h 72 3 (p.vs d) = g0 at z1 z2 z3 ⊢
  obtain ⟨y1, y2, y3⟩ := newR_ok z1.wf 72 3 (q.vs e)
  generalize newR g0 72 3 (q.vs e) = g1 at y1 y2 y3 ⊢
  have I := z3.stay z1.wf y1
  have c1 : Ch0 h g1 := z1.then y1
  refine ⟨g1, ?_, c1⟩
  have A0 : (p.vs d)[0]? = some (.int .i64 p.st) := rfl
  have B0 : (q.vs e)[0]? = some (.int .i64 q.st) := rfl
  have A1 : (p.vs d)[1]? = some (.int .i64 p.gn) := rfl
  have B1 : (q.vs e)[1]? = some (.int .i64 q.gn) := rfl
  have AD : (p.vs d)[2]? = some (slv d) := rfl
  have BD : (q.vs e)[2]? = some (slv e) := rfl
  have td := txt_sl (rp.stay w c1)
  have te := txt_sl (rq.stay w c1)
  unfold It.same
  simp only [I.ldc, y3.ldc, A0, B0, A1, B1, AD, BD, asI_int, asS_slv, Option.bind_some]
  cases (p.st == q.st) with
  | false => rfl
  | true =>
    simp only [cond_true, I.ldc, y3.ldc, A0, B0, A1, B1, AD, BD, asI_int, asS_slv, Option.bind_some]
    cases (p.gn == q.gn) with
    | false => rfl
    | true =>
      simp only [cond_true, I.ldc, y3.ldc, A0, B0, A1, B1, AD, BD, asI_int, asS_slv, Option.bind_some]
      rw [td, te]
      simp only [Option.bind_some, ba_eq, Bool.true_and]
/-- all of two lists -/
def itSames : List It → List It → Bool
  | [], [] => true
  | p :: ps, q :: qs => p.same q && itSames ps qs
  | _, _ => false
theorem itSames_self : ∀ l, itSames l l = true
  | [] => rfl
  | p :: l => by unfold itSames; rw [It.same_self, itSames_self l]; rfl
theorem itSames_len : ∀ (l m : List It), l.length ≠ m.length → itSames l m = false
  | [], [], h => absurd rfl h
  | [], _ :: _, _ => rfl
  | _ :: _, [], _ => rfl
  | p :: l, q :: m, h => by unfold itSames; rw [itSames_len l m (fun e => h (by rw [List.length_cons, List.length_cons, e])), Bool.and_false]
theorem itSames_l0 (k : Nat) {h0 : H} (w0 : WF h0) {s t : Sl} {ps qs : ItS} (rp : ItR h0 s ps) (rq : ItR h0 t qs) (hl : ps.length = qs.length) (hl2 : ps.length ≤ 1000) : ∀ n j h, ps.length - j < n → j ≤ ps.length → Ch0 h0 h →
    ∃ h' v, corbelref7_SameIntents.l0 k n s t (Int.ofNat j) h = some (v, h') ∧ Ch0 h0 h' ∧ ((v = .inl false ∧ itSames ((ps.drop j).map (·.1)) ((qs.drop j).map (·.1)) = false) ∨ (v = .inr () ∧ itSames ((ps.drop j).map (·.1)) ((qs.drop j).map (·.1)) = true))
  | 0, j, h, hn, _, _ => by omega
  | n + 1, j, h, hn, hj, hc => by
    rw [corbelref7_SameIntents.l0_succ, rp.n]
    by_cases c : j < ps.length
    · have c' : j < qs.length := by omega
      rw [decide_eq_true (show Int.ofNat j < Int.ofNat ps.length by simp; omega), cond_true]
      obtain ⟨p, e1, e2⟩ := (rp.stay w0 hc).at c
      obtain ⟨p', f1, f2⟩ := (rq.stay w0 hc).at c'
      rw [rp.n] at e1
      rw [e1]
      simp only [asP_ptr, Option.bind_some]
      rw [show ps[j].1.vs ps[j].2 = itV ps[j].1.st ps[j].1.gn ps[j].2 from rfl] at e2
      rw [show qs[j].1.vs qs[j].2 = itV qs[j].1.st qs[j].1.gn qs[j].2 from rfl] at f2
      rw [e2, bindIt]
      dsimp only
      rw [f1]
      simp only [asP_ptr, Option.bind_some]
      rw [f2, bindIt]
      dsimp only
      obtain ⟨h1, a1, a2⟩ := itSame_f k hc.wf ps[j].1 qs[j].1 ps[j].2 qs[j].2 ((rp.stay w0 hc).da _ (List.getElem_mem c)) ((rq.stay w0 hc).da _ (List.getElem_mem c'))
      rw [show ((ps[j].1.st, ps[j].1.gn, ps[j].2) : ItT) = ps[j].1.tup ps[j].2 from rfl, show ((qs[j].1.st, qs[j].1.gn, qs[j].2) : ItT) = qs[j].1.tup qs[j].2 from rfl, a1]
      simp only [Option.bind_some]
      have hd : ps.drop j = ps[j] :: ps.drop (j + 1) := List.drop_eq_getElem_cons c
      have hd' : qs.drop j = qs[j] :: qs.drop (j + 1) := List.drop_eq_getElem_cons c'
      have un : itSames ((ps.drop j).map (·.1)) ((qs.drop j).map (·.1)) = (ps[j].1.same qs[j].1 && itSames ((ps.drop (j + 1)).map (·.1)) ((qs.drop (j + 1)).map (·.1))) := by
        rw [hd, hd', List.map_cons, List.map_cons]; rfl
      rw [un]
      cases hr : ps[j].1.same qs[j].1 with
      | false => exact ⟨h1, _, rfl, hc.then a2, .inl ⟨rfl, rfl⟩⟩
      | true =>
        simp only [Bool.not_true, cond_false, Bool.true_and]
        rw [wrap_succ (by omega)]
        exact itSames_l0 k w0 rp rq hl hl2 n (j + 1) h1 (by omega) (by omega) (hc.then a2)
    · rw [decide_eq_false (show ¬ Int.ofNat j < Int.ofNat ps.length by simp; omega), cond_false]
      exact ⟨h, _, rfl, hc, .inr ⟨rfl, by rw [List.drop_eq_nil_of_le (by omega), List.drop_eq_nil_of_le (by omega)]; rfl⟩⟩
theorem itSames_f (k : Nat) (hk : 1000 < k) {h : H} (w : WF h) {s t : Sl} {ps qs : ItS} (rp : ItR h s ps) (rq : ItR h t qs) (hl2 : ps.length ≤ 1000) : ∃ h', corbelref7_SameIntents.f k s t h = some (itSames (ps.map (·.1)) (qs.map (·.1)), h') ∧ Ch0 h h' := by
  unfold corbelref7_SameIntents.f
  rw [rp.n, rq.n]
  by_cases c : ps.length = qs.length
  · rw [c, show (Int.ofNat qs.length != Int.ofNat qs.length) = false by simp, cond_false]
    obtain ⟨h', v, a1, a2, a3⟩ := itSames_l0 k w rp rq c hl2 k 0 h (by omega) (Nat.zero_le _) (Ch.refl w)
    rw [show (0 : Int) = Int.ofNat 0 from rfl, a1]
    rw [List.drop_zero, List.drop_zero] at a3
    rcases a3 with ⟨rfl, e⟩ | ⟨rfl, e⟩
    · rw [e]; exact ⟨h', rfl, a2⟩
    · rw [e]; exact ⟨h', rfl, a2⟩
  · have : (Int.ofNat ps.length != Int.ofNat qs.length) = true := by
      simp only [bne_iff_ne, ne_eq]
      intro f
      exact c (Int.ofNat.inj f)
    rw [this, cond_true, itSames_len _ _ (by rw [List.length_map, List.length_map]; exact c)]
    exact ⟨h, rfl, Ch.refl w⟩

def Rr.same (p q : Rr) : Bool := (p.code == q.code) && ((p.boot == q.boot) && (pcSames p.ps q.ps && itSames p.is q.is))
theorem Rr.same_self (p : Rr) : p.same p = true := by unfold Rr.same; rw [pcSames_self, itSames_self]; simp
theorem rrSame_f (k : Nat) (hk : 1000 < k) {h : H} (w : WF h) (c c' b b' : Int) {sp si tp ti : Sl} {ps qs : PcS} {is js : ItS} (rp : PcR h sp ps) (ri : ItR h si is) (rq : PcR h tp qs) (rj : ItR h ti js) (hp : ps.length ≤ 1000) (hi : is.length ≤ 1000) (P Q : Rr) (hP : (⟨c, b, ps.map (·.1), is.map (·.1)⟩ : Rr) = P) (hQ : (⟨c', b', qs.map (·.1), js.map (·.1)⟩ : Rr) = Q) :
    ∃ h', corbelref7_SameRep.f k (c, b, sp, si) (c', b', tp, ti) h = some (P.same Q, h') ∧ Ch0 h h' := by
  unfold corbelref7_SameRep.f
  dsimp only
  rw [show [Value.int .i64 c, Value.int .i64 b, Value.slice sp.a sp.n sp.c, Value.slice si.a si.n si.c] = repV c b sp si from rfl, show [Value.int .i64 c', Value.int .i64 b', Value.slice tp.a tp.n tp.c, Value.slice ti.a ti.n ti.c] = repV c' b' tp ti from rfl]
  obtain ⟨z1, z2, z3⟩ := newR_ok w 67 4 (repV c b sp si)
  generalize newR h 67 4 (repV c b sp si) = g0 at z1 z2 z3 ⊢
  obtain ⟨y1, y2, y3⟩ := newR_ok z1.wf 67 4 (repV c' b' tp ti)
  generalize newR g0 67 4 (repV c' b' tp ti) = g1 at y1 y2 y3 ⊢
  have I := z3.stay z1.wf y1
  have c1 : Ch0 h g1 := z1.then y1
  have A0 : (repV c b sp si)[0]? = some (.int .i64 c) := rfl
  have A1 : (repV c b sp si)[1]? = some (.int .i64 b) := rfl
  have A2 : (repV c b sp si)[2]? = some (slv sp) := rfl
  have A3 : (repV c b sp si)[3]? = some (slv si) := rfl
  have B0 : (repV c' b' tp ti)[0]? = some (.int .i64 c') := rfl
  have B1 : (repV c' b' tp ti)[1]? = some (.int .i64 b') := rfl
  have B2 : (repV c' b' tp ti)[2]? = some (slv tp) := rfl
  have B3 : (repV c' b' tp ti)[3]? = some (slv ti) := rfl
  have hS : P.same Q = ((c == c') && ((b == b') && (pcSames (ps.map (·.1)) (qs.map (·.1)) && itSames (is.map (·.1)) (js.map (·.1))))) := by rw [← hP, ← hQ]; rfl
  rw [hS]
  simp only [I.ldc, y3.ldc, A0, A1, A2, A3, B0, B1, B2, B3, asI_int, asS_slv, Option.bind_some]
  cases e1 : (c == c') with
  | false => exact ⟨g1, rfl, c1⟩
  | true =>
    simp only [cond_true, I.ldc, y3.ldc, A0, A1, A2, A3, B0, B1, B2, B3, asI_int, asS_slv, Option.bind_some]
    cases e2 : (b == b') with
    | false => exact ⟨g1, rfl, c1⟩
    | true =>
      simp only [cond_true, I.ldc, y3.ldc, A0, A1, A2, A3, B0, B1, B2, B3, asI_int, asS_slv, Option.bind_some]
      obtain ⟨g2, u1, u2⟩ := pcSames_f k hk c1.wf (rp.stay w c1) (rq.stay w c1) hp
      rw [u1]
      simp only [Option.bind_some]
      have c2 := c1.then u2
      have I2 := I.stay c1.wf u2
      have Y2 := y3.stay c1.wf u2
      cases e3 : pcSames (ps.map (·.1)) (qs.map (·.1)) with
      | false => exact ⟨g2, rfl, c2⟩
      | true =>
        simp only [cond_true, I2.ldc, Y2.ldc, A0, A1, A2, A3, B0, B1, B2, B3, asI_int, asS_slv, Option.bind_some]
        obtain ⟨g3, v1, v2⟩ := itSames_f k hk c2.wf (ri.stay w c2) (rj.stay w c2) hi
        rw [v1]
        exact ⟨g3, by simp, c2.then v2⟩
theorem rpRight_f (k : Nat) {h : H} (w : WF h) (q : Pc) (d : Sl) (r : SlR 1 h d (byt q.data)) : ∃ h', corbelref7_RightPiece.f k (q.tup d) h = some (q.right, h') ∧ Ch0 h h' := by
  obtain ⟨h', a1, a2⟩ := pcRight_f k w q d r
  exact ⟨h', (show corbelref7_RightPiece.f k (q.tup d) h = chunk_Right.f k (q.tup d) h from rfl).trans a1, a2⟩
theorem riRight_f (k : Nat) {h : H} (w : WF h) (q : It) (d : Sl) (r : SlR 1 h d (byt q.data)) : ∃ h', corbelref7_RightIntent.f k (q.tup d) h = some (q.right, h') ∧ Ch0 h h' := by
  obtain ⟨h', a1, a2⟩ := itRight_f k w q d r
  exact ⟨h', (show corbelref7_RightIntent.f k (q.tup d) h = intent_Right.f k (q.tup d) h from rfl).trans a1, a2⟩
theorem rrR_l0 (k : Nat) {h0 : H} (w0 : WF h0) {bb : Nat} {c b : Int} {sp si : Sl} (I : Is h0 bb 67 4 (repV c b sp si)) {ps : PcS} (r : PcR h0 sp ps) (hl : ps.length ≤ 1000) : ∀ n j h, ps.length - j < n → j ≤ ps.length → Ch0 h0 h →
    ∃ h' v, corbelref7_RightRep.l0 k n (some ⟨bb, 0, none⟩) (Int.ofNat j) h = some (v, h') ∧ Ch0 h0 h' ∧ ((v = .inl false ∧ (ps.drop j).all (fun p => p.1.right) = false) ∨ (v = .inr () ∧ (ps.drop j).all (fun p => p.1.right) = true))
  | 0, j, h, hn, _, _ => by omega
  | n + 1, j, h, hn, hj, hc => by
    rw [corbelref7_RightRep.l0_succ]
    simp only [nilA, asP_ptr, Option.bind_some, fadd, Nat.zero_add]
    rw [(I.stay w0 hc).ldc, show asS ((repV c b sp si)[2]?) = some sp from rfl]
    simp only [Option.bind_some, r.n]
    by_cases cj : j < ps.length
    · rw [decide_eq_true (show Int.ofNat j < Int.ofNat ps.length by simp; omega), cond_true]
      obtain ⟨p, e1, e2⟩ := (r.stay w0 hc).at cj
      rw [r.n] at e1
      rw [e1]
      simp only [asP_ptr, Option.bind_some]
      rw [show ps[j].1.vs ps[j].2 = pcV ps[j].1.st ps[j].1.gn ps[j].1.ix ps[j].2 from rfl] at e2
      rw [e2, bindPc]
      dsimp only
      obtain ⟨h1, a1, a2⟩ := rpRight_f k hc.wf ps[j].1 ps[j].2 (((r.stay w0 hc).da _ (List.getElem_mem cj)))
      rw [show ((ps[j].1.st, ps[j].1.gn, ps[j].1.ix, ps[j].2) : PcT) = ps[j].1.tup ps[j].2 from rfl, a1]
      simp only [Option.bind_some]
      have hd : ps.drop j = ps[j] :: ps.drop (j + 1) := List.drop_eq_getElem_cons cj
      cases hr : ps[j].1.right with
      | false => exact ⟨h1, _, rfl, hc.then a2, .inl ⟨rfl, by rw [hd, List.all_cons, hr]; rfl⟩⟩
      | true =>
        simp only [Bool.not_true, cond_false]
        rw [wrap_succ (by omega)]
        obtain ⟨h2, v, b1, b2, b3⟩ := rrR_l0 k w0 I r hl n (j + 1) h1 (by omega) (by omega) (hc.then a2)
        have e3 : (ps.drop j).all (fun p => p.1.right) = (ps.drop (j + 1)).all (fun p => p.1.right) := by rw [hd, List.all_cons, hr, Bool.true_and]
        exact ⟨h2, v, b1, b2, by rw [e3]; exact b3⟩
    · rw [decide_eq_false (show ¬ Int.ofNat j < Int.ofNat ps.length by simp; omega), cond_false]
      exact ⟨h, _, rfl, hc, .inr ⟨rfl, by rw [List.drop_eq_nil_of_le (by omega)]; rfl⟩⟩
theorem rrR_l1 (k : Nat) {h0 : H} (w0 : WF h0) {bb : Nat} {c b : Int} {sp si : Sl} (I : Is h0 bb 67 4 (repV c b sp si)) {ps : ItS} (r : ItR h0 si ps) (hl : ps.length ≤ 1000) : ∀ n j h, ps.length - j < n → j ≤ ps.length → Ch0 h0 h →
    ∃ h' v, corbelref7_RightRep.l1 k n (some ⟨bb, 0, none⟩) (Int.ofNat j) h = some (v, h') ∧ Ch0 h0 h' ∧ ((v = .inl false ∧ (ps.drop j).all (fun p => p.1.right) = false) ∨ (v = .inr () ∧ (ps.drop j).all (fun p => p.1.right) = true))
  | 0, j, h, hn, _, _ => by omega
  | n + 1, j, h, hn, hj, hc => by
    rw [corbelref7_RightRep.l1_succ]
    simp only [nilA, asP_ptr, Option.bind_some, fadd, Nat.zero_add]
    rw [(I.stay w0 hc).ldc, show asS ((repV c b sp si)[3]?) = some si from rfl]
    simp only [Option.bind_some, r.n]
    by_cases cj : j < ps.length
    · rw [decide_eq_true (show Int.ofNat j < Int.ofNat ps.length by simp; omega), cond_true]
      obtain ⟨p, e1, e2⟩ := (r.stay w0 hc).at cj
      rw [r.n] at e1
      rw [e1]
      simp only [asP_ptr, Option.bind_some]
      rw [show ps[j].1.vs ps[j].2 = itV ps[j].1.st ps[j].1.gn ps[j].2 from rfl] at e2
      rw [e2, bindIt]
      dsimp only
      obtain ⟨h1, a1, a2⟩ := riRight_f k hc.wf ps[j].1 ps[j].2 (((r.stay w0 hc).da _ (List.getElem_mem cj)))
      rw [show ((ps[j].1.st, ps[j].1.gn, ps[j].2) : ItT) = ps[j].1.tup ps[j].2 from rfl, a1]
      simp only [Option.bind_some]
      have hd : ps.drop j = ps[j] :: ps.drop (j + 1) := List.drop_eq_getElem_cons cj
      cases hr : ps[j].1.right with
      | false => exact ⟨h1, _, rfl, hc.then a2, .inl ⟨rfl, by rw [hd, List.all_cons, hr]; rfl⟩⟩
      | true =>
        simp only [Bool.not_true, cond_false]
        rw [wrap_succ (by omega)]
        obtain ⟨h2, v, b1, b2, b3⟩ := rrR_l1 k w0 I r hl n (j + 1) h1 (by omega) (by omega) (hc.then a2)
        have e3 : (ps.drop j).all (fun p => p.1.right) = (ps.drop (j + 1)).all (fun p => p.1.right) := by rw [hd, List.all_cons, hr, Bool.true_and]
        exact ⟨h2, v, b1, b2, by rw [e3]; exact b3⟩
    · rw [decide_eq_false (show ¬ Int.ofNat j < Int.ofNat ps.length by simp; omega), cond_false]
      exact ⟨h, _, rfl, hc, .inr ⟨rfl, by rw [List.drop_eq_nil_of_le (by omega)]; rfl⟩⟩
theorem refRight_f (k : Nat) (hk : 1000 < k) {h : H} (w : WF h) (c b : Int) {sp si : Sl} {ps : PcS} {is : ItS} (rp : PcR h sp ps) (ri : ItR h si is) (hp : ps.length ≤ 1000) (hi : is.length ≤ 1000) (Q : Rr) (hQ : (⟨c, b, ps.map (·.1), is.map (·.1)⟩ : Rr) = Q) :
    ∃ h', corbelref7_RightRep.f k (c, b, sp, si) h = some (Q.right, h') ∧ Ch0 h h' := by
  unfold corbelref7_RightRep.f
  dsimp only
  rw [show [Value.int .i64 c, Value.int .i64 b, Value.slice sp.a sp.n sp.c, Value.slice si.a si.n si.c] = repV c b sp si from rfl]
  obtain ⟨z1, z2, z3⟩ := newR_ok w 67 4 (repV c b sp si)
  generalize newR h 67 4 (repV c b sp si) = g0 at z1 z2 z3 ⊢
  have Qc : Q.code = c := by rw [← hQ]
  have Qb : Q.boot = b := by rw [← hQ]
  have Qp : Q.ps.length = ps.length := by rw [← hQ]; exact List.length_map _
  have Qi : Q.is.length = is.length := by rw [← hQ]; exact List.length_map _
  have hw : Q.wrong = (!(ps.all fun p => p.1.right) || !(is.all fun p => p.1.right)) := by
    rw [← hQ]
    unfold Rr.wrong
    rw [map_all, map_all]
  have wr : Q.wrong = true → Q.right = false := fun e => by unfold Rr.right; rw [e]; simp
  obtain ⟨g1, v, a1, a2, a3⟩ := rrR_l0 k z1.wf z3 (rp.stay w z1) hp k 0 g0 (by omega) (Nat.zero_le _) (Ch.refl z1.wf)
  rw [show (0 : Int) = Int.ofNat 0 from rfl, a1]
  rw [List.drop_zero] at a3
  rcases a3 with ⟨rfl, e⟩ | ⟨rfl, e⟩
  · rw [wr (by rw [hw, e]; rfl)]
    exact ⟨g1, rfl, z1.then a2⟩
  simp only [Option.bind_some]
  obtain ⟨g2, v2, b1, b2, b3⟩ := rrR_l1 k a2.wf (z3.stay z1.wf a2) ((ri.stay w z1).stay z1.wf a2) hi k 0 g1 (by omega) (Nat.zero_le _) (Ch.refl a2.wf)
  rw [b1]
  rw [List.drop_zero] at b3
  rcases b3 with ⟨rfl, e'⟩ | ⟨rfl, e'⟩
  · rw [wr (by rw [hw, e']; simp)]
    exact ⟨g2, rfl, (z1.then a2).then b2⟩
  have wf' : Q.wrong = false := by rw [hw, e, e']; rfl
  refine ⟨g2, ?_, (z1.then a2).then b2⟩
  have I2 := (z3.stay z1.wf a2).stay a2.wf b2
  have V0 : (repV c b sp si)[0]? = some (.int .i64 c) := rfl
  have V1 : (repV c b sp si)[1]? = some (.int .i64 b) := rfl
  have V2 : (repV c b sp si)[2]? = some (slv sp) := rfl
  have V3 : (repV c b sp si)[3]? = some (slv si) := rfl
  have bad : ∀ x : Bool, Q.right = x → some (x, g2) = some (Q.right, g2) := fun x e => by rw [e]
  rw [show Int.ofNat 0 = (0 : Int) from rfl]
  simp only [Option.bind_some, I2.ldc, V0, asI_int]
  by_cases d1 : 0 ≤ c
  rotate_left
  · simp only [decide_eq_false (show ¬ c ≥ 0 from d1), cond_false, Option.bind_some]
    exact bad _ (by unfold Rr.right; rw [Qc, decide_eq_false (p := 0 ≤ c ∧ c ≤ 255) (fun f => d1 f.1)]; rfl)
  simp only [decide_eq_true (show c ≥ 0 from d1), cond_true, I2.ldc, V0, V1, asI_int, Option.bind_some]
  by_cases d2 : c ≤ 255
  rotate_left
  · simp only [decide_eq_false d2, cond_false, Option.bind_some]
    exact bad _ (by unfold Rr.right; rw [Qc, decide_eq_false (p := 0 ≤ c ∧ c ≤ 255) (fun f => d2 f.2)]; rfl)
  simp only [decide_eq_true d2, cond_true, I2.ldc, V0, V1, asI_int, Option.bind_some]
  by_cases d3 : 0 ≤ b
  rotate_left
  · simp only [decide_eq_false (show ¬ b ≥ 0 from d3), cond_false, Option.bind_some]
    exact bad _ (by unfold Rr.right; rw [Qb, decide_eq_false (p := 0 ≤ b ∧ b ≤ 2147483647) (fun f => d3 f.1)]; simp)
  simp only [decide_eq_true (show b ≥ 0 from d3), cond_true, I2.ldc, V0, V1, asI_int, Option.bind_some]
  by_cases d4 : b ≤ 2147483647
  rotate_left
  · simp only [decide_eq_false d4, cond_false, Option.bind_some]
    exact bad _ (by unfold Rr.right; rw [Qb, decide_eq_false (p := 0 ≤ b ∧ b ≤ 2147483647) (fun f => d4 f.2)]; simp)
  simp only [decide_eq_true d4, cond_true, I2.ldc, V2, V3, asS_slv, Option.bind_some, rp.n]
  by_cases d5 : ps.length ≤ 2
  rotate_left
  · simp only [decide_eq_false (show ¬ Int.ofNat ps.length ≤ (2 : Int) by simp; omega), cond_false, Option.bind_some]
    exact bad _ (by unfold Rr.right; rw [Qp, decide_eq_false d5]; simp)
  simp only [decide_eq_true (show Int.ofNat ps.length ≤ (2 : Int) by simp; omega), cond_true, I2.ldc, V2, V3, asS_slv, Option.bind_some, ri.n]
  have e : decide (Int.ofNat is.length ≤ (16 : Int)) = decide (is.length ≤ 16) := by
    by_cases cc : is.length ≤ 16
    · rw [decide_eq_true cc, decide_eq_true (show Int.ofNat is.length ≤ (16 : Int) by simp; omega)]
    · rw [decide_eq_false cc, decide_eq_false (show ¬ Int.ofNat is.length ≤ (16 : Int) by simp; omega)]
  rw [e]
  refine bad _ ?_
  unfold Rr.right
  rw [Qc, Qb, Qp, Qi, wf']
  simp [d1, d2, d3, d4, d5]
/-! ### bytes piled up -/
structure Acc (g0 h : H) (t : Sl) (x : List UInt8) : Prop where
  ch : Ch0 g0 h
  ow : Ow 5 1 h t (byt x)
  fr : ∀ b, SlB t b → g0.next ≤ b
theorem Acc.app {g0 h : H} {t : Sl} {x : List UInt8} (A : Acc g0 h t x) {s : Sl} {y : List UInt8} (r : SlR 1 h s (byt y)) (hl : x.length + y.length ≤ 1000000) :
    ∃ t' h', asS2 (apv 5 1 1 (.slice t.a t.n t.c) (.slice s.a s.n s.c) h) = some (t', h') ∧ Acc g0 h' t' (x ++ y) := by
  obtain ⟨t', h', a1, a2, a3, a4⟩ := app_b A.ch.wf A.ow r (by omega)
  exact ⟨t', h', a1, Ch0.own A.ch a2 A.fr, a3, fun b hb => (a4 b hb).elim (A.fr b) fun f => Nat.le_trans A.ch.le f⟩
theorem Acc.push {g0 h : H} {t : Sl} {x : List UInt8} (A : Acc g0 h t x) (c : UInt8) (v : Int) (hv : v = Int.ofNat c.toNat) (hl : x.length ≤ 1000000) :
    ∃ t' h', asS2 (apv 5 1 1 (.slice t.a t.n t.c) (.slice (some ⟨h.next, 0, none⟩) 1 1) (newR h 5 1 [.int .u8 v])) = some (t', h') ∧ Acc g0 h' t' (x ++ [c]) := by
  obtain ⟨t', h', a1, a2, a3, a4⟩ := push_b A.ch.wf A.ow c v hv hl
  exact ⟨t', h', a1, Ch0.own A.ch a2 A.fr, a3, fun b hb => (a4 b hb).elim (A.fr b) fun f => Nat.le_trans A.ch.le f⟩
theorem Acc.more {g0 h h' : H} {t : Sl} {x : List UInt8} (A : Acc g0 h t x) (c : Ch0 h h') : Acc g0 h' t x := ⟨A.ch.then c, A.ow.stay A.ch.wf c, A.fr⟩
theorem Acc.big (k : Nat) (hk : 1000 < k) {g0 h : H} {t : Sl} {x : List UInt8} (A : Acc g0 h t x) (n : Nat) (s : Nat) (hs : s ≤ 8) (m : Int) (hm : m = Int.ofNat n) (tt : Int) (ht : tt = Int.ofNat s) (hl : x.length ≤ 100000) :
    ∃ s1 h1 t' h', corbelref7_Big.f k m tt h = some (s1, h1) ∧ asS2 (apv 5 1 1 (.slice t.a t.n t.c) (.slice s1.a s1.n s1.c) h1) = some (t', h') ∧ Ch0 h h1 ∧ Acc g0 h' t' (x ++ beN n s) := by
  obtain ⟨s1, h1, a1, a2, a3, a4⟩ := big_f k hk n s hs A.ch.wf m hm tt ht
  obtain ⟨t', h', b1, b2⟩ := (A.more a2).app a3.slr (by rw [beN_len]; omega)
  exact ⟨s1, h1, t', h', a1, b1, a2, b2⟩
theorem pbytes_f (k : Nat) (hk : 1000 < k) {h : H} (w : WF h) (q : Pc) (d : Sl) (r : SlR 1 h d (byt q.data)) (rt : q.right = true) :
    ∃ s' h', corbelref7_pieceBytes.f k (q.tup d) h = some (s', h') ∧ Ch0 h h' ∧ Ow 5 1 h' s' (byt (layPc q)) ∧ ∀ b, SlB s' b → h.next ≤ b := by
  have R := (Pc.right_iff q).1 rt
  have r0 := R.s0
  have r1 := R.s1
  have r2 := R.g0
  have r3 := R.g1
  have r4 := R.i0
  have r5 := R.i1
  have dl := R.dl
  unfold corbelref7_pieceBytes.f Pc.tup
  dsimp only
  rw [show [Value.int .i64 q.st, Value.int .i64 q.gn, Value.int .i64 q.ix, Value.slice d.a d.n d.c] = q.vs d from rfl]
  obtain ⟨z1, z2, z3⟩ := newR_ok w 69 4 (q.vs d)
  generalize newR h 69 4 (q.vs d) = g0 at z1 z2 z3 ⊢
  have V0 : (q.vs d)[0]? = some (.int .i64 q.st) := rfl
  have V1 : (q.vs d)[1]? = some (.int .i64 q.gn) := rfl
  have V2 : (q.vs d)[2]? = some (.int .i64 q.ix) := rfl
  have VD : (q.vs d)[3]? = some (slv d) := rfl
  simp only [z3.ldc, V0, asI_int, Option.bind_some]
  obtain ⟨s1, g1, a1, a2, a3, a4⟩ := big_f k hk q.st.toNat 1 (by decide) z1.wf q.st (nn _ r0) 1 rfl
  rw [a1]
  simp only [Option.bind_some]
  rw [(z3.stay z1.wf a2).ldc, V1]
  simp only [asI_int, Option.bind_some]
  have A1 : Acc g0 g1 s1 (beN q.st.toNat 1) := ⟨a2, a3, a4⟩
  obtain ⟨s2, g2, t2, g3, b1, b2, b3, A2⟩ := A1.big k hk q.gn.toNat 6 (by decide) q.gn (nn _ (by omega)) 6 rfl (by rw [beN_len]; omega)
  rw [b1]
  simp only [Option.bind_some]
  rw [b2]
  simp only [Option.bind_some]
  rw [same1_of (o := 1) (a2.keep h.next (by omega) fun f => f), Bool.true_and, cond_true]
  rw [(z3.stay z1.wf A2.ch).ldc, V2]
  simp only [asI_int, Option.bind_some]
  obtain ⟨t3, g4, c1, A3⟩ := A2.push (UInt8.ofNat q.ix.toNat) (wrapA .u8 q.ix) (by rw [nn q.ix r4]; exact wrap_u8n _) (by simp only [List.length_append, beN_len]; omega)
  rw [c1]
  simp only [Option.bind_some]
  rw [(z3.stay z1.wf A3.ch).ldc, VD]
  simp only [asS_slv, Option.bind_some]
  obtain ⟨t4, g5, d1, A4⟩ := A3.app ((r.stay w z1).stay z1.wf A3.ch) (by simp only [List.length_append, beN_len, List.length_singleton]; omega)
  rw [d1]
  refine ⟨t4, g5, rfl, z1.then A4.ch, ?_, fun b hb => by have := A4.fr b hb; omega⟩
  have : layPc q = beN q.st.toNat 1 ++ beN q.gn.toNat 6 ++ [UInt8.ofNat q.ix.toNat] ++ q.data := by
    unfold layPc
    have e1 : beN q.ix.toNat 1 = [UInt8.ofNat q.ix.toNat] := by
      show [UInt8.ofNat (q.ix.toNat / 256 ^ 0)] = _
      rw [Nat.pow_zero, Nat.div_one]
    rw [e1]
  rw [this]; exact A4.ow
theorem rlP_l (k : Nat) (hk : 1000 < k) {g0 : H} (w0 : WF g0) {bb : Nat} {c b : Int} {sp si : Sl} (I : Is g0 bb 67 4 (repV c b sp si)) {ps : PcS} (r : PcR g0 sp ps) (hl : ps.length ≤ 20) (hr : ∀ p ∈ ps, p.1.right = true) : ∀ n j h t (x : List UInt8), ps.length - j < n → j ≤ ps.length → Acc g0 h t x → x.length ≤ 1000 + 40 * j →
    ∃ t' h', corbelref7_LayRep.l0 k n (some ⟨bb, 0, none⟩) t (Int.ofNat j) h = some (t', h') ∧ Acc g0 h' t' (x ++ laysPc ((ps.drop j).map (·.1)))
  | 0, j, h, t, x, hn, _, _, _ => by omega
  | n + 1, j, h, t, x, hn, hj, A, hx => by
    rw [corbelref7_LayRep.l0_succ]
    simp only [nilA, asP_ptr, Option.bind_some, fadd, Nat.zero_add]
    rw [(I.stay w0 A.ch).ldc, show asS ((repV c b sp si)[2]?) = some sp from rfl]
    simp only [Option.bind_some, r.n]
    by_cases cj : j < ps.length
    · rw [decide_eq_true (show Int.ofNat j < Int.ofNat ps.length by simp; omega), cond_true]
      obtain ⟨p, e1, e2⟩ := (r.stay w0 A.ch).at cj
      rw [r.n] at e1
      rw [e1]
      simp only [asP_ptr, Option.bind_some]
      have rt := hr _ (List.getElem_mem cj)
      have da := r.da _ (List.getElem_mem cj)
      have hd : ps.drop j = ps[j] :: ps.drop (j + 1) := List.drop_eq_getElem_cons cj
      generalize ps[j] = q at e2 rt da hd
      rw [show q.1.vs q.2 = pcV q.1.st q.1.gn q.1.ix q.2 from rfl] at e2
      rw [e2, bindPc]
      dsimp only
      obtain ⟨s1, h1, a1, a2, a3, a4⟩ := pbytes_f k hk A.ch.wf q.1 q.2 (da.stay w0 A.ch) rt
      rw [show ((q.1.st, q.1.gn, q.1.ix, q.2) : PcT) = q.1.tup q.2 from rfl, a1]
      simp only [Option.bind_some]
      have ql : (layPc q.1).length = 40 := by rw [layPc_len, ((Pc.right_iff _).1 rt).dl]
      have jb : 40 * j ≤ 40 * 20 := Nat.mul_le_mul_left _ (by omega)
      obtain ⟨t', h2, b1, A2⟩ := (A.more a2).app a3.slr (by omega)
      rw [b1]
      simp only [Option.bind_some]
      rw [wrap_succ (by omega)]
      obtain ⟨t3, h3, f1, A3⟩ := rlP_l k hk w0 I r hl hr n (j + 1) h2 t' (x ++ layPc q.1) (by omega) (by omega) A2 (by rw [List.length_append]; omega)
      refine ⟨t3, h3, f1, ?_⟩
      rw [hd, List.map_cons, laysPc_cons, ← List.append_assoc]; exact A3
    · rw [decide_eq_false (show ¬ Int.ofNat j < Int.ofNat ps.length by simp; omega), cond_false]
      refine ⟨t, h, rfl, ?_⟩
      rw [List.drop_eq_nil_of_le (by omega)]
      show Acc g0 h t (x ++ [])
      rw [List.append_nil]; exact A
theorem SlR.fld {h : H} {s : Sl} {l : List Value} {es : Nat} (r : SlR es h s l) {j : Nat} (hj : j < s.n) : ∃ b o, ixs es s.a s.n (Int.ofNat j) = some (.pointer (some ⟨b, o, none⟩)) ∧ ∀ i, i < es → ldc h (some ⟨b, o + i, none⟩) = ((l.drop (j * es)).take es)[i]? := by
  obtain ⟨b, o, h1, h2⟩ := r.elem hj
  exact ⟨b, o, h1, fun i hi => gets_cell h2 hi⟩
theorem rlI_l (k : Nat) (hk : 1000 < k) {g0 : H} (w0 : WF g0) {bb : Nat} {c b : Int} {sp si : Sl} (I : Is g0 bb 67 4 (repV c b sp si)) {ps : ItS} (r : ItR g0 si ps) (hl : ps.length ≤ 20) (hr : ∀ p ∈ ps, p.1.right = true) : ∀ n j h t (x : List UInt8), ps.length - j < n → j ≤ ps.length → Acc g0 h t x → x.length ≤ 2000 + 135 * j →
    ∃ t' h', corbelref7_LayRep.l1 k n (some ⟨bb, 0, none⟩) t (Int.ofNat j) h = some (t', h') ∧ Acc g0 h' t' (x ++ laysIt ((ps.drop j).map (·.1)))
  | 0, j, h, t, x, hn, _, _, _ => by omega
  | n + 1, j, h, t, x, hn, hj, A, hx => by
    rw [corbelref7_LayRep.l1_succ]
    simp only [nilA, asP_ptr, Option.bind_some, fadd, Nat.zero_add]
    rw [(I.stay w0 A.ch).ldc, show asS ((repV c b sp si)[3]?) = some si from rfl]
    simp only [Option.bind_some, r.n]
    by_cases cj : j < ps.length
    · rw [decide_eq_true (show Int.ofNat j < Int.ofNat ps.length by simp; omega), cond_true]
      have rt := hr _ (List.getElem_mem cj)
      have da := r.da _ (List.getElem_mem cj)
      have hd : ps.drop j = ps[j] :: ps.drop (j + 1) := List.drop_eq_getElem_cons cj
      have F : ∀ {g : H}, Ch0 g0 g → ∃ bq oq, ixs 3 si.a ps.length (Int.ofNat j) = some (.pointer (some ⟨bq, oq, none⟩)) ∧ ∀ i, i < 3 → ldc g (some ⟨bq, oq + i, none⟩) = (ps[j].1.vs ps[j].2)[i]? := fun {g} cc => by
        obtain ⟨bq, oq, f1, f2⟩ := SlR.fld (r.stay w0 cc).sl (j := j) (by rw [r.n]; exact cj)
        rw [itcells_at ps cj] at f2
        rw [r.n] at f1
        exact ⟨bq, oq, f1, f2⟩
      generalize ps[j] = q at F rt da hd
      have R := (It.right_iff _).1 rt
      have r0 := R.s0
      have r2 := R.g0
      have dl := R.dl
      obtain ⟨bq, oq, f1, f2⟩ := F A.ch
      have jb : 135 * j ≤ 135 * 20 := Nat.mul_le_mul_left _ (by omega)
      rw [f1]
      simp only [nilA, asP_ptr, Option.bind_some, fadd]
      rw [f2 0 (by decide), show (q.1.vs q.2)[0]? = some (.int .i64 q.1.st) from rfl]
      simp only [asI_int, Option.bind_some]
      obtain ⟨s1, h1, t1, h2, a1, a2, a3, A1⟩ := A.big k hk q.1.st.toNat 1 (by decide) q.1.st (nn _ r0) 1 rfl (by omega)
      rw [a1]
      simp only [Option.bind_some]
      rw [a2]
      simp only [Option.bind_some]
      rw [(I.stay w0 A1.ch).ldc, show asS ((repV c b sp si)[3]?) = some si from rfl]
      simp only [Option.bind_some, r.n]
      obtain ⟨bq, oq, f1, f2⟩ := F A1.ch
      rw [f1]
      simp only [nilA, asP_ptr, Option.bind_some, fadd]
      rw [f2 1 (by decide), show (q.1.vs q.2)[1]? = some (.int .i64 q.1.gn) from rfl]
      simp only [asI_int, Option.bind_some]
      obtain ⟨s2, h3, t2, h4, b1, b2, b3, A2⟩ := A1.big k hk q.1.gn.toNat 6 (by decide) q.1.gn (nn _ (by omega)) 6 rfl (by simp only [List.length_append, beN_len]; omega)
      rw [b1]
      simp only [Option.bind_some]
      rw [b2]
      simp only [Option.bind_some]
      rw [(I.stay w0 A2.ch).ldc, show asS ((repV c b sp si)[3]?) = some si from rfl]
      simp only [Option.bind_some, r.n]
      obtain ⟨bq, oq, f1, f2⟩ := F A2.ch
      rw [f1]
      simp only [nilA, asP_ptr, Option.bind_some, fadd]
      rw [f2 2 (by decide), show asS ((q.1.vs q.2)[2]?) = some q.2 from rfl]
      simp only [Option.bind_some]
      obtain ⟨t3, h5, d1, A3⟩ := A2.app (da.stay w0 A2.ch) (by simp only [List.length_append, beN_len]; omega)
      rw [d1]
      simp only [Option.bind_some]
      rw [wrap_succ (by omega)]
      have e : x ++ beN q.1.st.toNat 1 ++ beN q.1.gn.toNat 6 ++ q.1.data = x ++ layIt q.1 := by unfold layIt; simp only [List.append_assoc]
      rw [e] at A3
      obtain ⟨t4, h6, g1, A4⟩ := rlI_l k hk w0 I r hl hr n (j + 1) h5 t3 (x ++ layIt q.1) (by omega) (by omega) A3 (by rw [List.length_append, layIt_len]; omega)
      refine ⟨t4, h6, g1, ?_⟩
      rw [hd, List.map_cons, laysIt_cons, ← List.append_assoc]; exact A4
    · rw [decide_eq_false (show ¬ Int.ofNat j < Int.ofNat ps.length by simp; omega), cond_false]
      refine ⟨t, h, rfl, ?_⟩
      rw [List.drop_eq_nil_of_le (by omega)]
      show Acc g0 h t (x ++ [])
      rw [List.append_nil]; exact A
theorem refLay_f (k : Nat) (hk : 1000 < k) {h : H} (w : WF h) (c b : Int) {sp si : Sl} {ps : PcS} {is : ItS} (rp : PcR h sp ps) (ri : ItR h si is) (Q : Rr) (hQ : (⟨c, b, ps.map (·.1), is.map (·.1)⟩ : Rr) = Q) (hr : Q.right = true) :
    ∃ s' h', corbelref7_LayRep.f k (c, b, sp, si) h = some (s', h') ∧ Ch0 h h' ∧ Ow 5 1 h' s' (byt (layRr Q)) ∧ ∀ b, SlB s' b → h.next ≤ b := by
  have R := (Rr.right_iff Q).1 hr
  have Qc : Q.code = c := by rw [← hQ]
  have Qb : Q.boot = b := by rw [← hQ]
  have Qps : Q.ps = ps.map (·.1) := by rw [← hQ]
  have Qis : Q.is = is.map (·.1) := by rw [← hQ]
  have Qp : Q.ps.length = ps.length := by rw [Qps]; exact List.length_map _
  have Qi : Q.is.length = is.length := by rw [Qis]; exact List.length_map _
  have RC0 := R.c0
  have RB0 := R.b0
  have Rpl := R.pl
  have Ril := R.il
  rw [Qc] at RC0
  rw [Qb] at RB0
  rw [Qp] at Rpl
  rw [Qi] at Ril
  have prr : ∀ p ∈ ps, p.1.right = true := fun p hp => R.pr _ (by rw [Qps]; exact List.mem_map.2 ⟨p, hp, rfl⟩)
  have irr : ∀ p ∈ is, p.1.right = true := fun p hp => R.ir _ (by rw [Qis]; exact List.mem_map.2 ⟨p, hp, rfl⟩)
  unfold corbelref7_LayRep.f
  dsimp only
  rw [show [Value.int .i64 c, Value.int .i64 b, Value.slice sp.a sp.n sp.c, Value.slice si.a si.n si.c] = repV c b sp si from rfl]
  obtain ⟨z1, z2, z3⟩ := newR_ok w 67 4 (repV c b sp si)
  generalize newR h 67 4 (repV c b sp si) = g0 at z1 z2 z3 ⊢
  have V0 : (repV c b sp si)[0]? = some (.int .i64 c) := rfl
  have V1 : (repV c b sp si)[1]? = some (.int .i64 b) := rfl
  have V2 : (repV c b sp si)[2]? = some (slv sp) := rfl
  have V3 : (repV c b sp si)[3]? = some (slv si) := rfl
  simp only [z3.ldc, V0, asI_int, Option.bind_some]
  obtain ⟨s1, g1, a1, a2, a3, a4⟩ := big_f k hk c.toNat 1 (by decide) z1.wf c (nn _ RC0) 1 rfl
  rw [a1]
  simp only [Option.bind_some]
  rw [(z3.stay z1.wf a2).ldc, V1]
  simp only [asI_int, Option.bind_some]
  have A1 : Acc g0 g1 s1 (beN c.toNat 1) := ⟨a2, a3, a4⟩
  obtain ⟨s2, g2, t2, g3, b1, b2, b3, A2⟩ := A1.big k hk b.toNat 4 (by decide) b (nn _ RB0) 4 rfl (by rw [beN_len]; omega)
  rw [b1]
  simp only [Option.bind_some]
  rw [b2]
  simp only [Option.bind_some]
  rw [same1_of (o := 1) (a2.keep h.next (by omega) fun f => f), Bool.true_and, cond_true]
  rw [(z3.stay z1.wf A2.ch).ldc, V2]
  simp only [asS_slv, Option.bind_some, rp.n]
  obtain ⟨t3, g4, c1, A3⟩ := A2.push (UInt8.ofNat ps.length) (wrapA .u8 (Int.ofNat ps.length)) (wrap_u8n _) (by simp only [List.length_append, beN_len]; omega)
  rw [c1]
  simp only [Option.bind_some]
  obtain ⟨t4, g5, d1, A4⟩ := rlP_l k hk z1.wf z3 (rp.stay w z1) (by omega) prr k 0 g4 t3 _ (by omega) (Nat.zero_le _) A3 (by simp only [List.length_append, beN_len, List.length_singleton]; omega)
  rw [show (0 : Int) = Int.ofNat 0 from rfl, d1]
  simp only [Option.bind_some]
  rw [(z3.stay z1.wf A4.ch).ldc, V3]
  simp only [asS_slv, Option.bind_some, ri.n]
  have plen : (laysPc (ps.map (·.1))).length = 40 * ps.length := by
    rw [← Qps, laysPc_len _ R.pr, Qp]
  rw [List.drop_zero] at A4
  obtain ⟨t5, g6, e1, A5⟩ := A4.push (UInt8.ofNat is.length) (wrapA .u8 (Int.ofNat is.length)) (wrap_u8n _) (by simp only [List.length_append, beN_len, plen, List.length_singleton]; omega)
  rw [e1]
  simp only [Option.bind_some]
  obtain ⟨t6, g7, f1, A6⟩ := rlI_l k hk z1.wf z3 (ri.stay w z1) (by omega) irr k 0 g6 t5 _ (by omega) (Nat.zero_le _) A5 (by simp only [List.length_append, beN_len, plen, List.length_singleton]; omega)
  rw [f1]
  refine ⟨t6, g7, rfl, z1.then A6.ch, ?_, fun x hx => by have := A6.fr x hx; omega⟩
  have : layRr Q = beN c.toNat 1 ++ beN b.toNat 4 ++ [UInt8.ofNat ps.length] ++ laysPc (ps.map (·.1)) ++ [UInt8.ofNat is.length] ++ laysIt (is.map (·.1)) := by
    unfold layRr
    rw [Qc, Qb, Qp, Qi, Qps, Qis]
    have b1 : ∀ n : Nat, beN n 1 = [UInt8.ofNat n] := fun n => by
      show [UInt8.ofNat (n / 256 ^ 0)] = _
      rw [Nat.pow_zero, Nat.div_one]
    rw [b1, b1 is.length, b1]
    simp only [List.append_assoc]
  rw [List.drop_zero] at A6
  rw [this]; exact A6.ow
theorem lackP_true (x : List UInt8) (n : Nat) : lackP true x n = true := rfl
theorem lackP_lt {x : List UInt8} {n : Nat} (l : Bool) (h : x.length < n) : lackP l x n = true := by unfold lackP; rw [decide_eq_true h, Bool.or_true]
theorem lackP_ge {x : List UInt8} {n : Nat} (h : n ≤ x.length) : lackP false x n = false := by unfold lackP; rw [decide_eq_false (by omega)]; rfl
theorem pcsP_true : ∀ (n : Nat) (a : List Pc) (x : List UInt8), (pcsP n a x true).2.2 = true
  | 0, a, x => rfl
  | n + 1, a, x => by unfold pcsP; dsimp only; rw [lackP_true, lackP_true, lackP_true, lackP_true]; exact pcsP_true n _ _
theorem itsP_true : ∀ (n : Nat) (a : List It) (x : List UInt8), (itsP n a x true).2.2 = true
  | 0, a, x => rfl
  | n + 1, a, x => by unfold itsP; dsimp only; rw [lackP_true, lackP_true, lackP_true]; exact itsP_true n _ _
theorem pcsP_short {x : List UInt8} (hx : x.length < 40) (n : Nat) (a : List Pc) : (pcsP (n + 1) a x false).2.2 = true := by
  unfold pcsP
  dsimp only
  have e : lackP (lackP (lackP (lackP false x 1) (takeP x 1).2 6) (takeP (takeP x 1).2 6).2 1) (takeP (takeP (takeP x 1).2 6).2 1).2 32 = true := by
    by_cases c1 : x.length < 1
    · rw [lackP_lt _ c1]; rfl
    rw [takeP_ok (n := 1) (by omega)]
    dsimp only
    have l1 : (x.drop 1).length = x.length - 1 := List.length_drop
    by_cases c2 : (x.drop 1).length < 6
    · rw [lackP_lt _ c2]; rfl
    rw [takeP_ok (n := 6) (by omega)]
    dsimp only
    have l2 : ((x.drop 1).drop 6).length = x.length - 7 := by rw [List.length_drop, l1]; omega
    by_cases c3 : ((x.drop 1).drop 6).length < 1
    · rw [lackP_lt (n := 1) _ c3]; rfl
    rw [takeP_ok (n := 1) (x := (x.drop 1).drop 6) (by omega)]
    dsimp only
    exact lackP_lt _ (by rw [List.length_drop, l2]; omega)
  rw [e]
  exact pcsP_true _ _ _
theorem itsP_short {x : List UInt8} (hx : x.length < 135) (n : Nat) (a : List It) : (itsP (n + 1) a x false).2.2 = true := by
  unfold itsP
  dsimp only
  have e : lackP (lackP (lackP false x 1) (takeP x 1).2 6) (takeP (takeP x 1).2 6).2 128 = true := by
    by_cases c1 : x.length < 1
    · rw [lackP_lt _ c1]; rfl
    rw [takeP_ok (n := 1) (by omega)]
    dsimp only
    have l1 : (x.drop 1).length = x.length - 1 := List.length_drop
    by_cases c2 : (x.drop 1).length < 6
    · rw [lackP_lt _ c2]; rfl
    rw [takeP_ok (n := 6) (by omega)]
    dsimp only
    exact lackP_lt _ (by rw [List.length_drop, l1]; omega)
  rw [e]
  exact itsP_true _ _ _
def pcOf (y : List UInt8) : Pc := ⟨Int.ofNat (unbe (cutL y 0 1)), Int.ofNat (unbe (cutL y 1 7)), Int.ofNat (unbe (cutL y 7 8)), y.drop 8⟩
def itOf (y : List UInt8) : It := ⟨Int.ofNat (unbe (cutL y 0 1)), Int.ofNat (unbe (cutL y 1 7)), cutL y 7 135⟩
theorem cutL_take' {x : List UInt8} {n lo hi : Nat} (h : hi ≤ n) : cutL (x.take n) lo hi = cutL x lo hi := by
  unfold cutL
  rw [List.drop_take, List.take_take, Nat.min_eq_left (by omega)]
theorem pcsP_step {x : List UInt8} (hx : 40 ≤ x.length) (n : Nat) (a : List Pc) : pcsP (n + 1) a x false = pcsP n (a ++ [pcOf (x.take 40)]) (x.drop 40) false := by
  have l1 : (x.drop 1).length = x.length - 1 := List.length_drop
  have l2 : ((x.drop 1).drop 6).length = x.length - 7 := by rw [List.length_drop, l1]; omega
  have l3 : (((x.drop 1).drop 6).drop 1).length = x.length - 8 := by rw [List.length_drop, l2]; omega
  conv => lhs; unfold pcsP
  dsimp only
  unfold numP
  rw [takeP_ok (x := x) (n := 1) (by omega)]
  dsimp only
  rw [takeP_ok (x := x.drop 1) (n := 6) (by omega)]
  dsimp only
  rw [takeP_ok (x := (x.drop 1).drop 6) (n := 1) (by omega)]
  dsimp only
  rw [takeP_ok (x := ((x.drop 1).drop 6).drop 1) (n := 32) (by omega)]
  dsimp only
  rw [lackP_ge (by omega), lackP_ge (by omega), lackP_ge (by omega), lackP_ge (by omega)]
  unfold pcOf
  rw [cutL_take' (by decide), cutL_take' (by decide), cutL_take' (by decide), List.drop_take, List.drop_drop, List.drop_drop, List.drop_drop]
  rfl
theorem itsP_step {x : List UInt8} (hx : 135 ≤ x.length) (n : Nat) (a : List It) : itsP (n + 1) a x false = itsP n (a ++ [itOf x]) (x.drop 135) false := by
  have l1 : (x.drop 1).length = x.length - 1 := List.length_drop
  have l2 : ((x.drop 1).drop 6).length = x.length - 7 := by rw [List.length_drop, l1]; omega
  conv => lhs; unfold itsP
  dsimp only
  unfold numP
  rw [takeP_ok (x := x) (n := 1) (by omega)]
  dsimp only
  rw [takeP_ok (x := x.drop 1) (n := 6) (by omega)]
  dsimp only
  rw [takeP_ok (x := (x.drop 1).drop 6) (n := 128) (by omega)]
  dsimp only
  rw [lackP_ge (by omega), lackP_ge (by omega), lackP_ge (by omega)]
  unfold itOf
  rw [List.drop_drop, List.drop_drop]
  rfl
/-- bytes in a slice of their own -/
theorem own_b {h : H} (w : WF h) {s : Sl} {x : List UInt8} (r : SlR 1 h s (byt x)) (hx : x.length ≤ 140737488355328) :
    ∃ t h', asS2 (apv 5 1 1 (Value.slice (some ⟨h.next, 0, none⟩) 0 0) (Value.slice s.a s.n s.c) (newR h 5 1 [])) = some (t, h') ∧ Ch0 h h' ∧ Ch0 h (newR h 5 1 []) ∧ (newR h 5 1 []).next = h.next + 1 ∧ (∀ z, z < h.next → h'.get z = (newR h 5 1 []).get z) ∧ Ow 5 1 h' t (byt x) ∧ ∀ b, SlB t b → h.next ≤ b := by
  obtain ⟨n1, n2, n3⟩ := newR_ok w 5 1 []
  have ow : Ow 5 1 (newR h 5 1 []) ⟨some ⟨h.next, 0, none⟩, 0, 0⟩ (byt []) := Ow.of_is n3 rfl (by unfold unk; omega)
  obtain ⟨t, g2, f1, f2, f3, f4⟩ := app_b n1.wf ow (r.stay w n1) (by show 0 + _ ≤ _; omega)
  have hb : ∀ b, SlB ⟨some ⟨h.next, 0, none⟩, 0, 0⟩ b → h.next ≤ b := fun b hb => by obtain ⟨o, q⟩ := hb; have : h.next = b := congrArg Addr.block (Option.some.inj q); omega
  rw [List.nil_append] at f3
  exact ⟨t, g2, f1, Ch0.own n1 f2 hb, n1, n2, fun z hz => f2.keep z (by omega) fun f => by have := hb z f; omega, f3, fun b hb' => (f4 b hb').elim (hb b) fun f => by omega⟩
theorem u8_lt {c : List UInt8} {j : Nat} (h : j < c.length) : unbe (cutL c j (j + 1)) < 256 := by
  have := unbe_bound (cutL c j (j + 1))
  rw [cutL_len (by omega), show j + 1 - j = 1 by omega] at this
  exact this
theorem rpiece_f (k : Nat) (hk : 1000 < k) {h : H} (w : WF h) {s : Sl} {y : List UInt8} (r : SlR 1 h s (byt y)) (hy : y.length = 40) :
    ∃ d h', corbelref7_piece.f k s h = some ((pcOf y).tup d, h') ∧ Ch0 h h' ∧ SlR 1 h' d (byt (pcOf y).data) ∧ ∀ b, SlB d b → h.next ≤ b := by
  unfold corbelref7_piece.f
  rw [show [Value.int .i64 (0 : Int), Value.int .i64 (0 : Int), Value.int .i64 (0 : Int), Value.slice none 0 0] = pcV 0 0 0 ⟨none, 0, 0⟩ from rfl]
  obtain ⟨z1, z2, z3⟩ := newR_ok w 69 4 (pcV 0 0 0 ⟨none, 0, 0⟩)
  generalize newR h 69 4 (pcV 0 0 0 ⟨none, 0, 0⟩) = g0 at z1 z2 z3 ⊢
  have r0 := r.stay w z1
  obtain ⟨b0, o0, a1, a2, a3⟩ := byte_at r w z1 (j := 0) (by omega)
  obtain ⟨b7, o7, d1, d2, d3⟩ := byte_at r w z1 (j := 7) (by omega)
  rw [show (0 : Int) = Int.ofNat 0 from rfl, a1]
  simp only [asP_ptr, Option.bind_some, a2, asI_int]
  rw [show (some (7 : Int)) = some (Int.ofNat 7) from rfl]
  rw [from_at k hk r0 z1.wf (Ch.refl z1.wf) 1 7 (by decide) (by omega) (by decide) _ rfl]
  dsimp only
  rw [show (7 : Int) = Int.ofNat 7 from rfl, d1]
  simp only [asP_ptr, Option.bind_some, d2, asI_int]
  obtain ⟨s1, e1, e2, e3, e4⟩ := subb_ok r0 (lo := 8) (hi := y.length) (by omega) (Nat.le_refl _) (xlo := some (8 : Int)) (xhi := none) rfl (by rw [r.n_byt]; rfl)
  rw [e1]
  simp only [asS_slv, Option.bind_some]
  rw [List.take_of_length_le (by rw [List.length_drop]; exact Nat.le_refl _)] at e3
  obtain ⟨t, g2, f1, f2, f3, f4, f5, f6, f7⟩ := own_b z1.wf e3 (by rw [List.length_drop]; omega)
  rw [f1]
  simp only [Option.bind_some]
  have q0 := u8_lt (c := y) (j := 0) (by omega)
  have q7 := u8_lt (c := y) (j := 7) (by omega)
  rw [wrap_in (n := Int.ofNat (unbe (cutL y 0 (0 + 1)))) (by simp only [Int.ofNat_eq_natCast]; omega) (by simp only [Int.ofNat_eq_natCast]; omega), wrap_in (n := Int.ofNat (unbe (cutL y 7 (7 + 1)))) (by simp only [Int.ofNat_eq_natCast]; omega) (by simp only [Int.ofNat_eq_natCast]; omega)]
  have Z2 := z3.stay z1.wf f2
  rw [show [Value.int .i64 (Int.ofNat (unbe (cutL y 0 (0 + 1)))), Value.int .i64 (Int.ofNat (unbe (cutL y 1 7))), Value.int .i64 (Int.ofNat (unbe (cutL y 7 (7 + 1)))), Value.slice t.a t.n t.c] = (pcOf y).vs t from rfl]
  obtain ⟨g3, x1, x2, x3, x4⟩ := Is.whole f2.wf Z2 rfl ((pcOf y).vs t) rfl rfl
  rw [x1]
  simp only [Option.bind_some]
  have S1 : ∀ b o, same1 g0 g0 (some (.pointer (some ⟨b, o, none⟩))) = true := fun b o => same1_of rfl
  have S2 : ∀ b o, b < h.next → same1 (newR g0 5 1 []) g2 (some (.pointer (some ⟨b, o, none⟩))) = true := fun b o hb => same1_of (f5 b (by omega))
  simp only [S1, S2 b0 o0 a3, S2 b7 o7 d3, Bool.and_self, cond_true]
  rw [show (pcOf y).vs t = pcV (pcOf y).st (pcOf y).gn (pcOf y).ix t from rfl] at x4
  rw [Is.pc x4, bindPc]
  exact ⟨t, g3, rfl, Ch0.at (z1.then f2) x2 (Nat.le_refl _), f6.slr.keep fun b hb => x2.keep b (f6.lt f2.wf hb) (by have := f7 b hb; omega), fun b hb => by have := f7 b hb; omega⟩
theorem rrdP_l (k : Nat) (hk : 1000 < k) {zb pb : Nat} (hzp : zb < pb) (a0 : Sl) (c b : Int) : ∀ n m h s x sp si (ps : PcS) (is : ItS), m < n → WF h → SlR 1 h s (byt x) → (∀ z, SlB s z → z < pb) → Is h zb 67 4 (repV 0 0 ⟨none, 0, 0⟩ ⟨none, 0, 0⟩) → Bd h pb c b sp si ps is → ps.length + m ≤ 255 →
    ∃ h' v, corbelref7_ReadRep.l0 k n (some ⟨zb, 0, none⟩) a0 (some ⟨pb, 0, none⟩) s (Int.ofNat m) h = some (v, h') ∧ Ch (fun z => zb ≤ z) h h' ∧ Is h' zb 67 4 (repV 0 0 ⟨none, 0, 0⟩ ⟨none, 0, 0⟩) ∧
      ((v = .inl false ∧ (pcsP m (ps.map (·.1)) x false).2.2 = true) ∨ ∃ s' x' sp' ps', v = .inr s' ∧ pcsP m (ps.map (·.1)) x false = (ps'.map (·.1), x', false) ∧ SlR 1 h' s' (byt x') ∧ (∀ z, SlB s' z → z < pb) ∧ Bd h' pb c b sp' si ps' is ∧ ps'.length ≤ 255)
  | 0, m, h, s, x, sp, si, ps, is, hn, _, _, _, _, _, _ => by omega
  | n + 1, 0, h, s, x, sp, si, ps, is, hn, w, r, hs, Z, B, hl => by
    rw [corbelref7_ReadRep.l0_succ, decide_eq_false (show ¬ Int.ofNat 0 > (0 : Int) by decide), cond_false]
    exact ⟨h, .inr s, rfl, Ch.refl w, Z, .inr ⟨s, x, sp, ps, rfl, rfl, r, hs, B, by omega⟩⟩
  | n + 1, m + 1, h, s, x, sp, si, ps, is, hn, w, r, hs, Z, B, hl => by
    rw [corbelref7_ReadRep.l0_succ, decide_eq_true (show Int.ofNat (m + 1) > (0 : Int) by simp only [Int.ofNat_eq_natCast]; omega), cond_true, r.n_byt]
    by_cases cx : x.length < 40
    · rw [decide_eq_true (show Int.ofNat x.length < (40 : Int) by simp; omega), cond_true]
      obtain ⟨h', x1, x2, x3, x4⟩ := Is.whole w Z rfl (repV 0 0 ⟨none, 0, 0⟩ ⟨none, 0, 0⟩) rfl rfl
      rw [show [Value.int .i64 (0 : Int), Value.int .i64 0, Value.slice none 0 0, Value.slice none 0 0] = repV 0 0 ⟨none, 0, 0⟩ ⟨none, 0, 0⟩ from rfl, x1]
      exact ⟨h', .inl false, rfl, x2.mono fun z _ f => by omega, x4, .inl ⟨rfl, pcsP_short cx _ _⟩⟩
    · rw [decide_eq_false (show ¬ Int.ofNat x.length < (40 : Int) by simp; omega), cond_false]
      simp only [nilA, asP_ptr, Option.bind_some, fadd, Nat.zero_add]
      rw [B.box.ldc, show asS ((repV c b sp si)[2]?) = some sp from rfl]
      simp only [Option.bind_some]
      obtain ⟨s1, a1, a2, a3, a4⟩ := subb_ok r (lo := 0) (hi := 40) (Nat.zero_le _) (by omega) (xlo := none) (xhi := some (40 : Int)) rfl rfl
      rw [r.n_byt] at a1
      rw [a1]
      simp only [asS_slv, Option.bind_some]
      rw [List.drop_zero, Nat.sub_zero] at a3
      obtain ⟨d, h1, b1, b2, b3, b4⟩ := rpiece_f k hk w a3 (by rw [List.length_take]; omega)
      rw [b1]
      simp only [Option.bind_some, Pc.tup]
      have B1 := B.keep w b2 (fun _ _ _ f => f)
      have pbl := B.box.lt w
      generalize hq : pcOf (x.take 40) = q at b3 ⊢
      obtain ⟨sn, g1, g2, e1, e2, e3, e4⟩ := B1.addP b2.wf q d b3 (fun z hz => ⟨by have := b4 z hz; omega, fun f => by have := b4 z hz; have := B.op.lt w f; omega, fun f => by have := b4 z hz; have := B.oi.lt w f; omega⟩) (by omega)
      rw [show [Value.int .i64 q.st, Value.int .i64 q.gn, Value.int .i64 q.ix, Value.slice d.a d.n d.c] = q.vs d from rfl, e1]
      simp only [Option.bind_some]
      rw [e2]
      simp only [Option.bind_some]
      have mm := same1_of (o := 2) (b2.keep pb pbl fun f => f)
      simp only [mm, Bool.and_self, cond_true]
      obtain ⟨s2, c1, c2, c3, c4⟩ := subb_ok r (lo := 40) (hi := x.length) (by omega) (Nat.le_refl _) (xlo := some (40 : Int)) (xhi := none) rfl (by rw [r.n_byt]; rfl)
      rw [r.n_byt] at c1
      rw [c1]
      simp only [asS_slv, Option.bind_some]
      rw [List.take_of_length_le (by rw [List.length_drop]; exact Nat.le_refl _)] at c3
      have cc : Ch (fun z => pb ≤ z) h g2 := (b2.mono fun z _ f => f.elim).trans e3 fun z _ f => f
      have hs2 : ∀ z, SlB s2 z → z < pb := fun z hz => hs z (c4 z hz)
      have r2 : SlR 1 g2 s2 (byt (x.drop 40)) := c3.keep fun z hz => cc.keep z (c3.blk w hz) (by have := hs2 z hz; omega)
      have Z2 := Z.keep (cc.keep zb (Z.lt w) (by omega))
      rw [wrap_in (n := Int.ofNat (m + 1) - 1) (by simp only [Int.ofNat_eq_natCast]; omega) (by simp only [Int.ofNat_eq_natCast]; omega), show Int.ofNat (m + 1) - 1 = Int.ofNat m by simp only [Int.ofNat_eq_natCast]; omega]
      obtain ⟨h', v, f1, f2, f3, f4⟩ := rrdP_l k hk hzp a0 c b n m g2 s2 (x.drop 40) sn si (ps ++ [(q, d)]) is (by omega) cc.wf r2 hs2 Z2 e4 (by rw [List.length_append, List.length_singleton]; omega)
      have un : pcsP (m + 1) (ps.map (·.1)) x false = pcsP m ((ps ++ [(q, d)]).map (·.1)) (x.drop 40) false := by
        rw [pcsP_step (by omega), hq, List.map_append]; rfl
      rw [un]
      exact ⟨h', v, f1, (cc.mono fun z _ f => by omega).trans f2 fun z _ f => f, f3, f4⟩
theorem rrdI_l (k : Nat) (hk : 1000 < k) {zb pb : Nat} (hzp : zb < pb) (a0 : Sl) (c b : Int) : ∀ n m h s x sp si (ps : PcS) (is : ItS), m < n → WF h → SlR 1 h s (byt x) → (∀ z, SlB s z → z < pb) → Is h zb 67 4 (repV 0 0 ⟨none, 0, 0⟩ ⟨none, 0, 0⟩) → Bd h pb c b sp si ps is → is.length + m ≤ 255 →
    ∃ h' v, corbelref7_ReadRep.l1 k n (some ⟨zb, 0, none⟩) a0 (some ⟨pb, 0, none⟩) s (Int.ofNat m) h = some (v, h') ∧ Ch (fun z => zb ≤ z) h h' ∧ Is h' zb 67 4 (repV 0 0 ⟨none, 0, 0⟩ ⟨none, 0, 0⟩) ∧
      ((v = .inl false ∧ (itsP m (is.map (·.1)) x false).2.2 = true) ∨ ∃ x' si' is', v = .inr () ∧ itsP m (is.map (·.1)) x false = (is'.map (·.1), x', false) ∧ Bd h' pb c b sp si' ps is' ∧ is'.length ≤ 255)
  | 0, m, h, s, x, sp, si, ps, is, hn, _, _, _, _, _, _ => by omega
  | n + 1, 0, h, s, x, sp, si, ps, is, hn, w, r, hs, Z, B, hl => by
    rw [corbelref7_ReadRep.l1_succ, decide_eq_false (show ¬ Int.ofNat 0 > (0 : Int) by decide), cond_false]
    exact ⟨h, .inr (), rfl, Ch.refl w, Z, .inr ⟨x, si, is, rfl, rfl, B, by omega⟩⟩
  | n + 1, m + 1, h, s, x, sp, si, ps, is, hn, w, r, hs, Z, B, hl => by
    rw [corbelref7_ReadRep.l1_succ, decide_eq_true (show Int.ofNat (m + 1) > (0 : Int) by simp only [Int.ofNat_eq_natCast]; omega), cond_true, r.n_byt]
    by_cases cx : x.length < 135
    · rw [decide_eq_true (show Int.ofNat x.length < (135 : Int) by simp; omega), cond_true]
      obtain ⟨h', x1, x2, x3, x4⟩ := Is.whole w Z rfl (repV 0 0 ⟨none, 0, 0⟩ ⟨none, 0, 0⟩) rfl rfl
      rw [show [Value.int .i64 (0 : Int), Value.int .i64 0, Value.slice none 0 0, Value.slice none 0 0] = repV 0 0 ⟨none, 0, 0⟩ ⟨none, 0, 0⟩ from rfl, x1]
      exact ⟨h', .inl false, rfl, x2.mono fun z _ f => by omega, x4, .inl ⟨rfl, itsP_short cx _ _⟩⟩
    · rw [decide_eq_false (show ¬ Int.ofNat x.length < (135 : Int) by simp; omega), cond_false]
      simp only [nilA, asP_ptr, Option.bind_some, fadd, Nat.zero_add]
      rw [B.box.ldc, show asS ((repV c b sp si)[3]?) = some si from rfl]
      simp only [Option.bind_some]
      obtain ⟨b0, o0, u1, u2, u3⟩ := byte_at r w (Ch.refl w) (j := 0) (by omega)
      rw [r.n_byt] at u1
      rw [show (0 : Int) = Int.ofNat 0 from rfl, u1]
      simp only [asP_ptr, Option.bind_some, u2, asI_int]
      rw [show (some (7 : Int)) = some (Int.ofNat 7) from rfl]
      rw [← r.n_byt]
      rw [from_at k hk r w (Ch.refl w) 1 7 (by decide) (by omega) (by decide) _ rfl]
      dsimp only
      obtain ⟨s1, a1, a2, a3, a4⟩ := subb_ok r (lo := 7) (hi := 135) (by omega) (by omega) (xlo := some (Int.ofNat 7)) (xhi := some (135 : Int)) rfl rfl
      rw [a1]
      simp only [asS_slv, Option.bind_some]
      obtain ⟨d, h1, b1, b2, b3, b4, b5, b6, b7⟩ := own_b w a3 (by rw [List.length_take]; omega)
      rw [b1]
      simp only [Option.bind_some]
      have q0 := u8_lt (c := x) (j := 0) (by omega)
      rw [wrap_in (n := Int.ofNat (unbe (cutL x 0 (0 + 1)))) (by simp only [Int.ofNat_eq_natCast]; omega) (by simp only [Int.ofNat_eq_natCast]; omega)]
      have B1 := B.keep w b2 (fun _ _ _ f => f)
      have pbl := B.box.lt w
      obtain ⟨sn, g1, g2, e1, e2, e3, e4⟩ := B1.addI b2.wf (itOf x) d b6.slr (fun z hz => ⟨by have := b7 z hz; omega, fun f => by have := b7 z hz; have := B.op.lt w f; omega, fun f => by have := b7 z hz; have := B.oi.lt w f; omega⟩) (by omega)
      rw [show [Value.int .i64 (Int.ofNat (unbe (cutL x 0 (0 + 1)))), Value.int .i64 (Int.ofNat (unbe (cutL x 1 7))), Value.slice d.a d.n d.c] = (itOf x).vs d from rfl, e1]
      simp only [Option.bind_some]
      rw [e2]
      simp only [Option.bind_some]
      have S1 : ∀ z o, same1 h h (some (.pointer (some ⟨z, o, none⟩))) = true := fun z o => same1_of rfl
      have S2 : ∀ z o, z < h.next → same1 (newR h 5 1 []) h1 (some (.pointer (some ⟨z, o, none⟩))) = true := fun z o hz => same1_of (b5 z hz)
      simp only [S1, S2 b0 o0 u3, S2 pb 3 pbl, Bool.and_self, cond_true]
      obtain ⟨s2, c1, c2, c3, c4⟩ := subb_ok r (lo := 135) (hi := x.length) (by omega) (Nat.le_refl _) (xlo := some (135 : Int)) (xhi := none) rfl (by rw [r.n_byt]; rfl)
      rw [c1]
      simp only [asS_slv, Option.bind_some]
      rw [List.take_of_length_le (by rw [List.length_drop]; exact Nat.le_refl _)] at c3
      have cc : Ch (fun z => pb ≤ z) h g2 := (b2.mono fun z _ f => f.elim).trans e3 fun z _ f => f
      have hs2 : ∀ z, SlB s2 z → z < pb := fun z hz => hs z (c4 z hz)
      have r2 : SlR 1 g2 s2 (byt (x.drop 135)) := c3.keep fun z hz => cc.keep z (c3.blk w hz) (by have := hs2 z hz; omega)
      have Z2 := Z.keep (cc.keep zb (Z.lt w) (by omega))
      rw [wrap_in (n := Int.ofNat (m + 1) - 1) (by simp only [Int.ofNat_eq_natCast]; omega) (by simp only [Int.ofNat_eq_natCast]; omega), show Int.ofNat (m + 1) - 1 = Int.ofNat m by simp only [Int.ofNat_eq_natCast]; omega]
      obtain ⟨h', v, f1, f2, f3, f4⟩ := rrdI_l k hk hzp a0 c b n m g2 s2 (x.drop 135) sp sn ps (is ++ [(itOf x, d)]) (by omega) cc.wf r2 hs2 Z2 e4 (by rw [List.length_append, List.length_singleton]; omega)
      have un : itsP (m + 1) (is.map (·.1)) x false = itsP m ((is ++ [(itOf x, d)]).map (·.1)) (x.drop 135) false := by
        rw [itsP_step (by omega), List.map_append]; rfl
      rw [un]
      exact ⟨h', v, f1, (cc.mono fun z _ f => by omega).trans f2 fun z _ f => f, f3, f4⟩
theorem readRr_lack {x : List UInt8} (h : (iP x).2.2 = true) : readRr x = none := by
  unfold readRr
  exact if_neg fun f => by rw [h] at f; cases f.1
theorem readRr_lackP {x : List UInt8} (h : (pP x).2.2 = true) : readRr x = none := readRr_lack (by unfold iP; rw [h, lackP_true]; exact itsP_true _ _ _)
theorem readRr_lt {x : List UInt8} (h : x.length < 6) : readRr x = none := by
  refine readRr_lackP ?_
  have : plk1 x = true := by
    unfold plk1
    by_cases c1 : x.length < 1
    · rw [lackP_lt _ c1]; rfl
    rw [takeP_ok (n := 1) (by omega)]
    dsimp only
    have l1 : (x.drop 1).length = x.length - 1 := List.length_drop
    by_cases c2 : (x.drop 1).length < 4
    · rw [lackP_lt _ c2]; rfl
    rw [takeP_ok (n := 4) (by omega)]
    dsimp only
    exact lackP_lt _ (by rw [List.length_drop, l1]; omega)
  unfold pP
  rw [this]
  exact pcsP_true _ _ _
theorem heads {x : List UInt8} (h : 6 ≤ x.length) : numP x 1 = Int.ofNat (unbe (cutL x 0 1)) ∧ numP (takeP x 1).2 4 = Int.ofNat (unbe (cutL x 1 5)) ∧ pN x = unbe (cutL x 5 6) ∧ pst1 x = x.drop 6 ∧ plk1 x = false := by
  have l1 : (x.drop 1).length = x.length - 1 := List.length_drop
  have l2 : ((x.drop 1).drop 4).length = x.length - 5 := by rw [List.length_drop, l1]; omega
  have t1 : takeP x 1 = (x.take 1, x.drop 1) := takeP_ok (by omega)
  have t2 : takeP (x.drop 1) 4 = ((x.drop 1).take 4, (x.drop 1).drop 4) := takeP_ok (by omega)
  have t3 : takeP ((x.drop 1).drop 4) 1 = (((x.drop 1).drop 4).take 1, ((x.drop 1).drop 4).drop 1) := takeP_ok (by omega)
  refine ⟨?_, ?_, ?_, ?_, ?_⟩
  · unfold numP; rw [t1]; rfl
  · unfold numP; rw [t1]; dsimp only; rw [t2]; rfl
  · unfold pN; rw [t1]; dsimp only; rw [t2]; dsimp only; rw [t3, List.drop_drop]; rfl
  · unfold pst1; rw [t1]; dsimp only; rw [t2]; dsimp only; rw [t3, List.drop_drop, List.drop_drop]
  · unfold plk1; rw [t1]; dsimp only; rw [t2]; dsimp only
    rw [lackP_ge (by omega), lackP_ge (by omega), lackP_ge (by omega)]
abbrev NilS : Sl := ⟨none, 0, 0⟩
/-- none is told -/
theorem no_exit {h g : H} (c : Ch0 h g) {x : List UInt8} (hr : readRr x = none) (Z : Is g h.next 67 4 (repV 0 0 NilS NilS)) :
    ((asSt [(.int .i64), (.int .i64), .sl, .sl] (lda 4 g (some ⟨h.next, 0, none⟩))).bind fun s31 => some ((((s31.1, s31.2.1, s31.2.2.1, s31.2.2.2) : RrT), false), g)) = some ((((0, 0, NilS, NilS) : RrT), (readRr x).isSome), g) := by
  rw [Is.rr Z, bindRr, hr]; rfl
set_option maxHeartbeats 4000000 in
theorem refRead_f (k : Nat) (hk : 1000000 < k) {h : H} (w : WF h) {s : Sl} {x : List UInt8} (r : SlR 1 h s (byt x)) (hx : x.length ≤ 140737488355328) :
    ∃ c b sp si ps is h', corbelref7_ReadRep.f k s h = some (((c, b, sp, si), (readRr x).isSome), h') ∧ Ch0 h h' ∧ PcR h' sp ps ∧ ItR h' si is ∧ (⟨c, b, ps.map (·.1), is.map (·.1)⟩ : Rr) = (readRr x).getD Rr.zero := by
  unfold corbelref7_ReadRep.f
  rw [show [Value.int .i64 (0 : Int), Value.int .i64 0, Value.slice none 0 0, Value.slice none 0 0] = repV 0 0 NilS NilS from rfl, r.n_byt]
  have NO : ∀ {g : H}, Ch0 h g → readRr x = none → ∃ c b sp si ps is h', some ((((0, 0, NilS, NilS) : RrT), (readRr x).isSome), g) = some (((c, b, sp, si), (readRr x).isSome), h') ∧ Ch0 h h' ∧ PcR h' sp ps ∧ ItR h' si is ∧ (⟨c, b, ps.map (·.1), is.map (·.1)⟩ : Rr) = (readRr x).getD Rr.zero := fun {g} cg hr =>
    ⟨0, 0, NilS, NilS, [], [], g, rfl, cg, ⟨.inl ⟨rfl, .inl rfl⟩, fun p hp => by cases hp⟩, ⟨.inl ⟨rfl, .inl rfl⟩, fun p hp => by cases hp⟩, by rw [hr]; rfl⟩
  by_cases c6 : x.length < 6
  · have hr := readRr_lt c6
    rw [decide_eq_true (show Int.ofNat x.length < (6 : Int) by simp; omega), cond_true]
    obtain ⟨h1, a1, a2, a3, a4⟩ := box_ok w 67 4 (repV 0 0 NilS NilS) (repV 0 0 NilS NilS) rfl rfl rfl
    rw [a1]
    simp only [Option.bind_some]
    rw [no_exit a2 hr a4]
    exact NO a2 hr
  rw [decide_eq_false (show ¬ Int.ofNat x.length < (6 : Int) by simp; omega), cond_false]
  obtain ⟨H1, H2, H3, H4, H5⟩ := heads (x := x) (by omega)
  obtain ⟨z1, z2, z3⟩ := newR_ok w 67 4 (repV 0 0 NilS NilS)
  generalize newR h 67 4 (repV 0 0 NilS NilS) = g0 at z1 z2 z3 ⊢
  obtain ⟨b0, o0, a1, a2, a3⟩ := byte_at r w z1 (j := 0) (by omega)
  rw [r.n_byt] at a1
  rw [show (0 : Int) = Int.ofNat 0 from rfl, a1]
  rw [show repV (Int.ofNat 0) (Int.ofNat 0) NilS NilS = repV 0 0 NilS NilS from rfl]
  simp only [asP_ptr, Option.bind_some, a2, asI_int]
  have r0 := r.stay w z1
  rw [show (some (5 : Int)) = some (Int.ofNat 5) from rfl]
  rw [← r.n_byt]
  rw [from_at k (by omega) r0 z1.wf (Ch.refl z1.wf) 1 5 (by decide) (by omega) (by decide) _ rfl]
  dsimp only
  have q0 := u8_lt (c := x) (j := 0) (by omega)
  have q5 := u8_lt (c := x) (j := 5) (by omega)
  rw [wrap_in (n := Int.ofNat (unbe (cutL x 0 (0 + 1)))) (by simp only [Int.ofNat_eq_natCast]; omega) (by simp only [Int.ofNat_eq_natCast]; omega)]
  rw [show [Value.int .i64 (Int.ofNat (unbe (cutL x 0 (0 + 1)))), Value.int .i64 (Int.ofNat (unbe (cutL x 1 5))), Value.slice none 0 0, Value.slice none 0 0] = repV (Int.ofNat (unbe (cutL x 0 1))) (Int.ofNat (unbe (cutL x 1 5))) NilS NilS from rfl]
  rw [← H1, ← H2]
  generalize numP x 1 = C at H1
  generalize numP (takeP x 1).2 4 = B' at H2
  obtain ⟨g1, b1, b2, b3, b4⟩ := box_ok z1.wf 67 4 (repV 0 0 NilS NilS) (repV C B' NilS NilS) rfl rfl rfl
  rw [b1]
  simp only [Option.bind_some]
  rw [show same1 g0 g0 (some (Value.pointer (some ⟨b0, o0, none⟩))) = true from same1_of rfl, Bool.true_and, cond_true]
  have c1 : Ch0 h g1 := z1.then b2
  obtain ⟨b5, o5, d1, d2, d3⟩ := byte_at r w c1 (j := 5) (by omega)
  rw [show (5 : Int) = Int.ofNat 5 from rfl, d1]
  simp only [asP_ptr, Option.bind_some, d2, asI_int]
  rw [wrap_in (n := Int.ofNat (unbe (cutL x 5 (5 + 1)))) (by simp only [Int.ofNat_eq_natCast]; omega) (by simp only [Int.ofNat_eq_natCast]; omega)]
  rw [show unbe (cutL x 5 (5 + 1)) = pN x from H3.symm]
  rw [show unbe (cutL x 5 (5 + 1)) = pN x from H3.symm] at q5
  obtain ⟨s1, e1, e2, e3, e4⟩ := subb_ok r (lo := 6) (hi := x.length) (by omega) (Nat.le_refl _) (xlo := some (6 : Int)) (xhi := none) rfl (by rw [r.n_byt]; rfl)
  rw [e1]
  simp only [asS_slv, Option.bind_some]
  rw [List.take_of_length_le (by rw [List.length_drop]; exact Nat.le_refl _), ← H4] at e3
  have Z1 := z3.stay z1.wf b2
  have sb : ∀ z, SlB s1 z → z < g0.next := fun z hz => by have := r.blk w (e4 z hz); omega
  obtain ⟨g2, v, i1, i2, i3, i4⟩ := rrdP_l k (by omega) (show h.next < g0.next by omega) s C B' k (pN x) g1 s1 (pst1 x) NilS NilS [] [] (by omega) b2.wf (e3.stay w c1) sb Z1 (Bd.of_is b4) (by show 0 + pN x ≤ 255; omega)
  rw [i1]
  have cg2 : Ch0 h g2 := c1.trans i2 fun z hz f => by omega
  have eP : pcsP (pN x) (([] : PcS).map (·.1)) (pst1 x) false = pP x := by unfold pP; rw [H5]; rfl
  rw [eP] at i4
  rcases i4 with ⟨rfl, i5⟩ | ⟨s', x', sp, ps, rfl, i5, i6, i7, i8, i9⟩
  · have hr := readRr_lackP i5
    simp only [Option.bind_some]
    rw [no_exit cg2 hr i3]
    exact NO cg2 hr
  simp only [Option.bind_some]
  rw [i6.n_byt]
  have xP : (pP x).2.1 = x' := by rw [i5]
  have lP : (pP x).2.2 = false := by rw [i5]
  by_cases c7 : x'.length < 1
  · have hr : readRr x = none := readRr_lack (by unfold iP; rw [xP, lackP_lt _ c7]; exact itsP_true _ _ _)
    rw [decide_eq_true (show Int.ofNat x'.length < (1 : Int) by simp; omega), cond_true]
    obtain ⟨g12, x1, x2, x3, x4⟩ := Is.whole cg2.wf i3 rfl (repV 0 0 NilS NilS) rfl rfl
    rw [show repV 0 0 ⟨none, 0, 0⟩ ⟨none, 0, 0⟩ = repV 0 0 NilS NilS from rfl, x1]
    simp only [Option.bind_some]
    have cg12 : Ch0 h g12 := Ch0.at cg2 x2 (Nat.le_refl _)
    rw [no_exit cg12 hr x4]
    exact NO cg12 hr
  rw [decide_eq_false (show ¬ Int.ofNat x'.length < (1 : Int) by simp; omega), cond_false]
  obtain ⟨b8, o8, j1, j2, j3⟩ := byte_at i6 cg2.wf (Ch.refl cg2.wf) (j := 0) (by omega)
  rw [i6.n_byt] at j1
  rw [j1]
  simp only [asP_ptr, Option.bind_some, j2, asI_int]
  have q8 := u8_lt (c := x') (j := 0) (by omega)
  rw [wrap_in (n := Int.ofNat (unbe (cutL x' 0 (0 + 1)))) (by simp only [Int.ofNat_eq_natCast]; omega) (by simp only [Int.ofNat_eq_natCast]; omega)]
  have tk : takeP x' 1 = (x'.take 1, x'.drop 1) := takeP_ok (by omega)
  have hM : unbe (cutL x' 0 (0 + 1)) = iN x := by unfold iN; rw [xP, tk]; rfl
  rw [hM] at q8 ⊢
  obtain ⟨s2, k1, k2, k3, k4⟩ := subb_ok i6 (lo := 1) (hi := x'.length) (by omega) (Nat.le_refl _) (xlo := some (1 : Int)) (xhi := none) rfl (by rw [i6.n_byt]; rfl)
  rw [i6.n_byt] at k1
  rw [k1]
  simp only [asS_slv, Option.bind_some]
  rw [List.take_of_length_le (by rw [List.length_drop]; exact Nat.le_refl _)] at k3
  obtain ⟨g3, v, l1, l2, l3, l4⟩ := rrdI_l k (by omega) (show h.next < g0.next by omega) s C B' k (iN x) g2 s2 (x'.drop 1) sp NilS ps [] (by omega) cg2.wf k3 (fun z hz => i7 z (k4 z hz)) i3 i8 (by show 0 + iN x ≤ 255; omega)
  rw [l1]
  have cg3 : Ch0 h g3 := cg2.trans l2 fun z hz f => by omega
  have eI : itsP (iN x) (([] : ItS).map (·.1)) (x'.drop 1) false = iP x := by unfold iP; rw [xP, lP, tk, lackP_ge (by omega)]; rfl
  rw [eI] at l4
  rcases l4 with ⟨rfl, l5⟩ | ⟨x2', si, is, rfl, l5, l6, l7⟩
  · have hr := readRr_lack l5
    simp only [Option.bind_some]
    rw [no_exit cg3 hr l3]
    exact NO cg3 hr
  simp only [Option.bind_some]
  have lI : (iP x).2.2 = false := by rw [l5]
  generalize hQ : (⟨C, B', ps.map (·.1), is.map (·.1)⟩ : Rr) = Q
  have hQ2 : Q = parseRr x := by
    rw [← hQ]
    unfold parseRr
    rw [i5, l5, H1, H2]
    have H1' := (heads (x := x) (by omega)).1
    have H2' := (heads (x := x) (by omega)).2.1
    rw [H1', H2']
  rw [Is.rr l6.box, bindRr]
  dsimp only
  obtain ⟨g4, m1, m2⟩ := refRight_f k (by omega) cg3.wf C B' l6.pcr l6.itr (by omega) (by omega) Q hQ
  rw [m1]
  simp only [Option.bind_some]
  have B4 := l6.keep cg3.wf m2 (fun _ _ _ f => f)
  have cg4 := cg3.then m2
  have Z4 := l3.stay cg3.wf m2
  have hrp : readRr x = if Q.right = true ∧ layRr Q = x then some Q else none := by
    unfold readRr
    rw [← hQ2]
    by_cases cc : Q.right = true ∧ layRr Q = x
    · rw [if_pos cc, if_pos ⟨lI, cc⟩]
    · rw [if_neg cc, if_neg fun f => cc f.2]
  have G : ∃ g5 le ef, ((cond (!Q.right) (some (true, g4, [], []))
      ((asSt [(.int .i64), (.int .i64), .sl, .sl] (lda 4 g4 (some ⟨g0.next, 0, none⟩))).bind fun s60 =>
    (corbelref7_LayRep.f k (s60.1, s60.2.1, s60.2.2.1, s60.2.2.2) g4).bind fun q61 =>
    (asT (txt q61.2 (Value.slice q61.1.a q61.1.n q61.1.c))).bind fun s62 =>
    (asT (txt q61.2 (Value.slice s.a s.n s.c))).bind fun s63 =>
    some (!(s62.toList == s63.toList), q61.2, ([(7, none)] ++ [(8, (blkOf (some (Value.slice s.a s.n s.c))))]), [(5, g4, q61.2)])) : Option (Bool × H × LEs × EFs))) = some (!(readRr x).isSome, g5, le, ef) ∧ Ch0 g4 g5 ∧ dynL [(7, 5), (8, 5)] le ef = true := by
    cases hr : Q.right with
    | false =>
      refine ⟨g4, [], [], ?_, Ch.refl m2.wf, rfl⟩
      rw [hrp, hr, if_neg fun f => by cases f.1]; rfl
    | true =>
      rw [Bool.not_true, cond_false, Is.rr B4.box, bindRr]
      dsimp only
      obtain ⟨sl, g5, v1, v2, v3, v4⟩ := refLay_f k (by omega) m2.wf C B' B4.pcr B4.itr Q hQ hr
      rw [v1]
      simp only [Option.bind_some]
      have c5 := cg4.then v2
      rw [txt_sl v3.slr, txt_sl (r.stay w c5)]
      simp only [Option.bind_some, ba_eq]
      refine ⟨g5, [(7, none)] ++ [(8, blkOf (some (Value.slice s.a s.n s.c)))], [(5, g4, g5)], ?_, v2, ?_⟩
      rotate_left
      · obtain ⟨a, n, cc⟩ := s
        have hk : ∀ b, SlB ⟨a, n, cc⟩ b → sameVer g4 g5 b = true := fun b hb => sameVer_of (v2.keep b (Nat.lt_of_lt_of_le (r.blk w hb) cg4.le) fun f => f)
        rcases a with _ | ⟨b, o, _ | sp⟩
        · simp [dynL, blkOf]
        · simp [dynL, blkOf, hk b ⟨o, rfl⟩]
        · simp [dynL, blkOf]
      · rw [hrp, hr]
        by_cases e : layRr Q = x
        · rw [if_pos ⟨rfl, e⟩, decide_eq_true e]; rfl
        · rw [if_neg fun f => e f.2, decide_eq_false e]; rfl
  obtain ⟨g5, lev, efv, G1, G2, G3⟩ := G
  rw [G1]
  simp only [Option.bind_some]
  rw [G3, cond_true]
  have cg5 := cg4.then G2
  have Z5 := Z4.stay m2.wf G2
  have B5 := B4.keep m2.wf G2 (fun _ _ _ f => f)
  cases hs : (readRr x).isSome with
  | false =>
    have hr : readRr x = none := by cases q : readRr x with | none => rfl | some _ => rw [q] at hs; cases hs
    rw [hr] at NO
    simp only [Bool.not_false, cond_true]
    obtain ⟨g12, x1, x2, x3, x4⟩ := Is.whole cg5.wf Z5 rfl (repV 0 0 NilS NilS) rfl rfl
    rw [x1]
    simp only [Option.bind_some]
    have cg12 : Ch0 h g12 := Ch0.at cg5 x2 (Nat.le_refl _)
    rw [no_exit cg12 hr x4, hr]
    exact NO cg12 rfl
  | true =>
    have hp : (readRr x).getD Rr.zero = Q := by
      rw [hrp] at hs ⊢
      by_cases cc : Q.right = true ∧ layRr Q = x
      · rw [if_pos cc]; rfl
      · rw [if_neg cc] at hs; cases hs
    simp only [Bool.not_true, cond_false]
    rw [Is.rr B5.box, bindRr]
    dsimp only
    obtain ⟨g12, x1, x2, x3, x4⟩ := Is.whole cg5.wf Z5 rfl (repV C B' sp si) rfl rfl
    rw [show [Value.int .i64 C, Value.int .i64 B', Value.slice sp.a sp.n sp.c, Value.slice si.a si.n si.c] = repV C B' sp si from rfl, x1]
    simp only [Option.bind_some]
    rw [Is.rr x4, bindRr, hp]
    have B12 := B5.keep cg5.wf x2 (fun z hz _ f => by omega)
    exact ⟨C, B', sp, si, ps, is, g12, rfl, Ch0.at cg5 x2 (Nat.le_refl _), B12.pcr, B12.itr, hQ⟩

/-! ### Pc -/
theorem pcCSame_f (k : Nat) (hk : 1000 < k) {h : H} (w : WF h) (p q : Pc) (d e : Sl) (rp : SlR 1 h d (byt p.data)) (rq : SlR 1 h e (byt q.data)) (hl : p.data.length ≤ 1000) :
    ∃ h', chunk_Same.f k (p.tup d) (q.tup e) h = some (p.same q, h') ∧ Ch0 h h' := by
  unfold chunk_Same.f Pc.tup
  dsimp only
  rw [show [Value.int .i64 p.st, Value.int .i64 p.gn, Value.int .i64 p.ix, Value.slice d.a d.n d.c] = p.vs d from rfl, show [Value.int .i64 q.st, Value.int .i64 q.gn, Value.int .i64 q.ix, Value.slice e.a e.n e.c] = q.vs e from rfl]
  obtain ⟨z1, z2, z3⟩ := newR_ok w 69 4 (p.vs d)
  generalize newR h 69 4 (p.vs d) = g0 at z1 z2 z3 ⊢
  obtain ⟨y1, y2, y3⟩ := newR_ok z1.wf 69 4 (q.vs e)
  generalize newR g0 69 4 (q.vs e) = g1 at y1 y2 y3 ⊢
  have I := z3.stay z1.wf y1
  have c1 : Ch0 h g1 := z1.then y1
  refine ⟨g1, ?_, c1⟩
  have A0 : (p.vs d)[0]? = some (.int .i64 p.st) := rfl
  have B0 : (q.vs e)[0]? = some (.int .i64 q.st) := rfl
  have A1 : (p.vs d)[1]? = some (.int .i64 p.gn) := rfl
  have B1 : (q.vs e)[1]? = some (.int .i64 q.gn) := rfl
  have A2 : (p.vs d)[2]? = some (.int .i64 p.ix) := rfl
  have B2 : (q.vs e)[2]? = some (.int .i64 q.ix) := rfl
  have AD : (p.vs d)[3]? = some (slv d) := rfl
  have BD : (q.vs e)[3]? = some (slv e) := rfl
  have te := equal_f k (rp.stay w c1) (rq.stay w c1) (by omega) (by omega)
  unfold Pc.same
  simp only [I.ldc, y3.ldc, A0, B0, A1, B1, A2, B2, AD, BD, asI_int, asS_slv, Option.bind_some]
  cases (p.st == q.st) with
  | false => rfl
  | true =>
    simp only [cond_true, I.ldc, y3.ldc, A0, B0, A1, B1, A2, B2, AD, BD, asI_int, asS_slv, Option.bind_some]
    cases (p.gn == q.gn) with
    | false => rfl
    | true =>
      simp only [cond_true, I.ldc, y3.ldc, A0, B0, A1, B1, A2, B2, AD, BD, asI_int, asS_slv, Option.bind_some]
      cases (p.ix == q.ix) with
      | false => rfl
      | true =>
        simp only [cond_true, I.ldc, y3.ldc, A0, B0, A1, B1, A2, B2, AD, BD, asI_int, asS_slv, Option.bind_some]
        rw [te]
        simp only [Option.bind_some, Bool.true_and]
theorem pcCSames_l0 (k : Nat) (hk : 1000 < k) {h0 : H} (w0 : WF h0) {s t : Sl} {ps qs : PcS} (rp : PcR h0 s ps) (rq : PcR h0 t qs) (hl : ps.length = qs.length) (hl2 : ps.length ≤ 1000) (hd2 : ∀ p ∈ ps, p.1.data.length ≤ 1000) : ∀ n j h, ps.length - j < n → j ≤ ps.length → Ch0 h0 h →
    ∃ h' v, slices_EqualFunc_api_Piece_api_Piece_api_Piece_api_Piece_chunk_Same.l0 k n t () s (Int.ofNat ps.length) (Int.ofNat j) h = some (v, h') ∧ Ch0 h0 h' ∧ ((v = .inl false ∧ pcSames ((ps.drop j).map (·.1)) ((qs.drop j).map (·.1)) = false) ∨ (v = .inr () ∧ pcSames ((ps.drop j).map (·.1)) ((qs.drop j).map (·.1)) = true))
  | 0, j, h, hn, _, _ => by omega
  | n + 1, j, h, hn, hj, hc => by
    rw [slices_EqualFunc_api_Piece_api_Piece_api_Piece_api_Piece_chunk_Same.l0_succ]
    by_cases c : j < ps.length
    · have c' : j < qs.length := by omega
      rw [decide_eq_true (show Int.ofNat j < Int.ofNat ps.length by simp; omega), cond_true]
      obtain ⟨p, e1, e2⟩ := (rp.stay w0 hc).at c
      rw [e1]
      simp only [asP_ptr, Option.bind_some]
      have dp := (rp.stay w0 hc).da _ (List.getElem_mem c)
      have dl := hd2 _ (List.getElem_mem c)
      have hd : ps.drop j = ps[j] :: ps.drop (j + 1) := List.drop_eq_getElem_cons c
      generalize ps[j] = P at e2 dp dl hd
      rw [show P.1.vs P.2 = pcV P.1.st P.1.gn P.1.ix P.2 from rfl] at e2
      rw [e2, bindPc]
      dsimp only
      rw [show [Value.int .i64 (0 : Int), Value.int .i64 (0 : Int), Value.int .i64 (0 : Int), Value.slice none 0 0] = pcV 0 0 0 ⟨none, 0, 0⟩ from rfl, show [Value.int .i64 P.1.st, Value.int .i64 P.1.gn, Value.int .i64 P.1.ix, Value.slice P.2.a P.2.n P.2.c] = pcV P.1.st P.1.gn P.1.ix P.2 from rfl]
      obtain ⟨g0, z1, z2, z3, z4⟩ := box_ok hc.wf 69 4 (pcV 0 0 0 ⟨none, 0, 0⟩) (pcV P.1.st P.1.gn P.1.ix P.2) rfl rfl rfl
      rw [z1]
      simp only [Option.bind_some]
      have c0 := hc.then z2
      obtain ⟨p', f1, f2⟩ := (rq.stay w0 c0).at c'
      have dq := (rq.stay w0 c0).da _ (List.getElem_mem c')
      have hd' : qs.drop j = qs[j] :: qs.drop (j + 1) := List.drop_eq_getElem_cons c'
      generalize qs[j] = Q at f2 dq hd'
      rw [f1]
      simp only [asP_ptr, Option.bind_some]
      rw [show Q.1.vs Q.2 = pcV Q.1.st Q.1.gn Q.1.ix Q.2 from rfl] at f2
      rw [f2, bindPc]
      dsimp only
      rw [show [Value.int .i64 Q.1.st, Value.int .i64 Q.1.gn, Value.int .i64 Q.1.ix, Value.slice Q.2.a Q.2.n Q.2.c] = pcV Q.1.st Q.1.gn Q.1.ix Q.2 from rfl]
      obtain ⟨g1, y1, y2, y3, y4⟩ := box_ok z2.wf 69 4 (pcV 0 0 0 ⟨none, 0, 0⟩) (pcV Q.1.st Q.1.gn Q.1.ix Q.2) rfl rfl rfl
      rw [y1]
      simp only [Option.bind_some]
      rw [Is.pc (z4.stay z2.wf y2), bindPc]
      rw [Is.pc y4, bindPc]
      dsimp only
      obtain ⟨h1, a1, a2⟩ := pcCSame_f k hk y2.wf P.1 Q.1 P.2 Q.2 ((dp.stay hc.wf z2).stay z2.wf y2) (dq.stay z2.wf y2) dl
      rw [show ((P.1.st, P.1.gn, P.1.ix, P.2) : PcT) = P.1.tup P.2 from rfl, show ((Q.1.st, Q.1.gn, Q.1.ix, Q.2) : PcT) = Q.1.tup Q.2 from rfl, a1]
      simp only [Option.bind_some]
      have cc := (c0.then y2).then a2
      have un : pcSames ((ps.drop j).map (·.1)) ((qs.drop j).map (·.1)) = (P.1.same Q.1 && pcSames ((ps.drop (j + 1)).map (·.1)) ((qs.drop (j + 1)).map (·.1))) := by
        rw [hd, hd', List.map_cons, List.map_cons]; rfl
      rw [un]
      cases hr : P.1.same Q.1 with
      | false => exact ⟨h1, _, rfl, cc, .inl ⟨rfl, rfl⟩⟩
      | true =>
        simp only [Bool.not_true, cond_false, Bool.true_and]
        rw [wrap_succ (by omega)]
        exact pcCSames_l0 k hk w0 rp rq hl hl2 hd2 n (j + 1) h1 (by omega) (by omega) cc
    · rw [decide_eq_false (show ¬ Int.ofNat j < Int.ofNat ps.length by simp; omega), cond_false]
      exact ⟨h, _, rfl, hc, .inr ⟨rfl, by rw [List.drop_eq_nil_of_le (by omega), List.drop_eq_nil_of_le (by omega)]; rfl⟩⟩
theorem pcCSames_f (k : Nat) (hk : 1000 < k) {h : H} (w : WF h) {s t : Sl} {ps qs : PcS} (rp : PcR h s ps) (rq : PcR h t qs) (hl2 : ps.length ≤ 1000) (hd2 : ∀ p ∈ ps, p.1.data.length ≤ 1000) : ∃ h', slices_EqualFunc_api_Piece_api_Piece_api_Piece_api_Piece_chunk_Same.f k s t () h = some (pcSames (ps.map (·.1)) (qs.map (·.1)), h') ∧ Ch0 h h' := by
  unfold slices_EqualFunc_api_Piece_api_Piece_api_Piece_api_Piece_chunk_Same.f
  rw [rp.n, rq.n]
  by_cases c : ps.length = qs.length
  · rw [show (Int.ofNat ps.length != Int.ofNat qs.length) = false by rw [c]; simp, cond_false]
    obtain ⟨h', v, a1, a2, a3⟩ := pcCSames_l0 k hk w rp rq c hl2 hd2 k 0 h (by omega) (Nat.zero_le _) (Ch.refl w)
    rw [show (0 : Int) = Int.ofNat 0 from rfl, a1]
    rw [List.drop_zero, List.drop_zero] at a3
    rcases a3 with ⟨rfl, e⟩ | ⟨rfl, e⟩
    · rw [e]; exact ⟨h', rfl, a2⟩
    · rw [e]; exact ⟨h', rfl, a2⟩
  · have : (Int.ofNat ps.length != Int.ofNat qs.length) = true := by
      simp only [bne_iff_ne, ne_eq]
      intro f
      exact c (Int.ofNat.inj f)
    rw [this, cond_true, pcSames_len _ _ (by rw [List.length_map, List.length_map]; exact c)]
    exact ⟨h, rfl, Ch.refl w⟩

/-! ### It -/
theorem itCSame_f (k : Nat) (hk : 1000 < k) {h : H} (w : WF h) (p q : It) (d e : Sl) (rp : SlR 1 h d (byt p.data)) (rq : SlR 1 h e (byt q.data)) (hl : p.data.length ≤ 1000) :
    ∃ h', intent_Same.f k (p.tup d) (q.tup e) h = some (p.same q, h') ∧ Ch0 h h' := by
  unfold intent_Same.f It.tup
  dsimp only
  rw [show [Value.int .i64 p.st, Value.int .i64 p.gn, Value.slice d.a d.n d.c] = p.vs d from rfl, show [Value.int .i64 q.st, Value.int .i64 q.gn, Value.slice e.a e.n e.c] = q.vs e from rfl]
  obtain ⟨z1, z2, z3⟩ := newR_ok w 72 3 (p.vs d)
  generalize newR h 72 3 (p.vs d) = g0 at z1 z2 z3 ⊢
  obtain ⟨y1, y2, y3⟩ := newR_ok z1.wf 72 3 (q.vs e)
  generalize newR g0 72 3 (q.vs e) = g1 at y1 y2 y3 ⊢
  have I := z3.stay z1.wf y1
  have c1 : Ch0 h g1 := z1.then y1
  refine ⟨g1, ?_, c1⟩
  have A0 : (p.vs d)[0]? = some (.int .i64 p.st) := rfl
  have B0 : (q.vs e)[0]? = some (.int .i64 q.st) := rfl
  have A1 : (p.vs d)[1]? = some (.int .i64 p.gn) := rfl
  have B1 : (q.vs e)[1]? = some (.int .i64 q.gn) := rfl
  have AD : (p.vs d)[2]? = some (slv d) := rfl
  have BD : (q.vs e)[2]? = some (slv e) := rfl
  have te := equal_f k (rp.stay w c1) (rq.stay w c1) (by omega) (by omega)
  unfold It.same
  simp only [I.ldc, y3.ldc, A0, B0, A1, B1, AD, BD, asI_int, asS_slv, Option.bind_some]
  cases (p.st == q.st) with
  | false => rfl
  | true =>
    simp only [cond_true, I.ldc, y3.ldc, A0, B0, A1, B1, AD, BD, asI_int, asS_slv, Option.bind_some]
    cases (p.gn == q.gn) with
    | false => rfl
    | true =>
      simp only [cond_true, I.ldc, y3.ldc, A0, B0, A1, B1, AD, BD, asI_int, asS_slv, Option.bind_some]
      rw [te]
      simp only [Option.bind_some, Bool.true_and]
theorem itCSames_l0 (k : Nat) (hk : 1000 < k) {h0 : H} (w0 : WF h0) {s t : Sl} {ps qs : ItS} (rp : ItR h0 s ps) (rq : ItR h0 t qs) (hl : ps.length = qs.length) (hl2 : ps.length ≤ 1000) (hd2 : ∀ p ∈ ps, p.1.data.length ≤ 1000) : ∀ n j h, ps.length - j < n → j ≤ ps.length → Ch0 h0 h →
    ∃ h' v, slices_EqualFunc_api_Intent_api_Intent_api_Intent_api_Intent_intent_Same.l0 k n t () s (Int.ofNat ps.length) (Int.ofNat j) h = some (v, h') ∧ Ch0 h0 h' ∧ ((v = .inl false ∧ itSames ((ps.drop j).map (·.1)) ((qs.drop j).map (·.1)) = false) ∨ (v = .inr () ∧ itSames ((ps.drop j).map (·.1)) ((qs.drop j).map (·.1)) = true))
  | 0, j, h, hn, _, _ => by omega
  | n + 1, j, h, hn, hj, hc => by
    rw [slices_EqualFunc_api_Intent_api_Intent_api_Intent_api_Intent_intent_Same.l0_succ]
    by_cases c : j < ps.length
    · have c' : j < qs.length := by omega
      rw [decide_eq_true (show Int.ofNat j < Int.ofNat ps.length by simp; omega), cond_true]
      obtain ⟨p, e1, e2⟩ := (rp.stay w0 hc).at c
      rw [e1]
      simp only [asP_ptr, Option.bind_some]
      have dp := (rp.stay w0 hc).da _ (List.getElem_mem c)
      have dl := hd2 _ (List.getElem_mem c)
      have hd : ps.drop j = ps[j] :: ps.drop (j + 1) := List.drop_eq_getElem_cons c
      generalize ps[j] = P at e2 dp dl hd
      rw [show P.1.vs P.2 = itV P.1.st P.1.gn P.2 from rfl] at e2
      rw [e2, bindIt]
      dsimp only
      rw [show [Value.int .i64 (0 : Int), Value.int .i64 (0 : Int), Value.slice none 0 0] = itV 0 0 ⟨none, 0, 0⟩ from rfl, show [Value.int .i64 P.1.st, Value.int .i64 P.1.gn, Value.slice P.2.a P.2.n P.2.c] = itV P.1.st P.1.gn P.2 from rfl]
      obtain ⟨g0, z1, z2, z3, z4⟩ := box_ok hc.wf 72 3 (itV 0 0 ⟨none, 0, 0⟩) (itV P.1.st P.1.gn P.2) rfl rfl rfl
      rw [z1]
      simp only [Option.bind_some]
      have c0 := hc.then z2
      obtain ⟨p', f1, f2⟩ := (rq.stay w0 c0).at c'
      have dq := (rq.stay w0 c0).da _ (List.getElem_mem c')
      have hd' : qs.drop j = qs[j] :: qs.drop (j + 1) := List.drop_eq_getElem_cons c'
      generalize qs[j] = Q at f2 dq hd'
      rw [f1]
      simp only [asP_ptr, Option.bind_some]
      rw [show Q.1.vs Q.2 = itV Q.1.st Q.1.gn Q.2 from rfl] at f2
      rw [f2, bindIt]
      dsimp only
      rw [show [Value.int .i64 Q.1.st, Value.int .i64 Q.1.gn, Value.slice Q.2.a Q.2.n Q.2.c] = itV Q.1.st Q.1.gn Q.2 from rfl]
      obtain ⟨g1, y1, y2, y3, y4⟩ := box_ok z2.wf 72 3 (itV 0 0 ⟨none, 0, 0⟩) (itV Q.1.st Q.1.gn Q.2) rfl rfl rfl
      rw [y1]
      simp only [Option.bind_some]
      rw [Is.it (z4.stay z2.wf y2), bindIt]
      rw [Is.it y4, bindIt]
      dsimp only
      obtain ⟨h1, a1, a2⟩ := itCSame_f k hk y2.wf P.1 Q.1 P.2 Q.2 ((dp.stay hc.wf z2).stay z2.wf y2) (dq.stay z2.wf y2) dl
      rw [show ((P.1.st, P.1.gn, P.2) : ItT) = P.1.tup P.2 from rfl, show ((Q.1.st, Q.1.gn, Q.2) : ItT) = Q.1.tup Q.2 from rfl, a1]
      simp only [Option.bind_some]
      have cc := (c0.then y2).then a2
      have un : itSames ((ps.drop j).map (·.1)) ((qs.drop j).map (·.1)) = (P.1.same Q.1 && itSames ((ps.drop (j + 1)).map (·.1)) ((qs.drop (j + 1)).map (·.1))) := by
        rw [hd, hd', List.map_cons, List.map_cons]; rfl
      rw [un]
      cases hr : P.1.same Q.1 with
      | false => exact ⟨h1, _, rfl, cc, .inl ⟨rfl, rfl⟩⟩
      | true =>
        simp only [Bool.not_true, cond_false, Bool.true_and]
        rw [wrap_succ (by omega)]
        exact itCSames_l0 k hk w0 rp rq hl hl2 hd2 n (j + 1) h1 (by omega) (by omega) cc
    · rw [decide_eq_false (show ¬ Int.ofNat j < Int.ofNat ps.length by simp; omega), cond_false]
      exact ⟨h, _, rfl, hc, .inr ⟨rfl, by rw [List.drop_eq_nil_of_le (by omega), List.drop_eq_nil_of_le (by omega)]; rfl⟩⟩
theorem itCSames_f (k : Nat) (hk : 1000 < k) {h : H} (w : WF h) {s t : Sl} {ps qs : ItS} (rp : ItR h s ps) (rq : ItR h t qs) (hl2 : ps.length ≤ 1000) (hd2 : ∀ p ∈ ps, p.1.data.length ≤ 1000) : ∃ h', slices_EqualFunc_api_Intent_api_Intent_api_Intent_api_Intent_intent_Same.f k s t () h = some (itSames (ps.map (·.1)) (qs.map (·.1)), h') ∧ Ch0 h h' := by
  unfold slices_EqualFunc_api_Intent_api_Intent_api_Intent_api_Intent_intent_Same.f
  rw [rp.n, rq.n]
  by_cases c : ps.length = qs.length
  · rw [show (Int.ofNat ps.length != Int.ofNat qs.length) = false by rw [c]; simp, cond_false]
    obtain ⟨h', v, a1, a2, a3⟩ := itCSames_l0 k hk w rp rq c hl2 hd2 k 0 h (by omega) (Nat.zero_le _) (Ch.refl w)
    rw [show (0 : Int) = Int.ofNat 0 from rfl, a1]
    rw [List.drop_zero, List.drop_zero] at a3
    rcases a3 with ⟨rfl, e⟩ | ⟨rfl, e⟩
    · rw [e]; exact ⟨h', rfl, a2⟩
    · rw [e]; exact ⟨h', rfl, a2⟩
  · have : (Int.ofNat ps.length != Int.ofNat qs.length) = true := by
      simp only [bne_iff_ne, ne_eq]
      intro f
      exact c (Int.ofNat.inj f)
    rw [this, cond_true, itSames_len _ _ (by rw [List.length_map, List.length_map]; exact c)]
    exact ⟨h, rfl, Ch.refl w⟩

theorem rrCSame_f (k : Nat) (hk : 1000 < k) {h : H} (w : WF h) (c c' b b' : Int) {sp si tp ti : Sl} {ps qs : PcS} {is js : ItS} (rp : PcR h sp ps) (ri : ItR h si is) (rq : PcR h tp qs) (rj : ItR h ti js) (hp : ps.length ≤ 1000) (hi : is.length ≤ 1000) (hpd : ∀ p ∈ ps, p.1.data.length ≤ 1000) (hid : ∀ p ∈ is, p.1.data.length ≤ 1000) (P Q : Rr) (hP : (⟨c, b, ps.map (·.1), is.map (·.1)⟩ : Rr) = P) (hQ : (⟨c', b', qs.map (·.1), js.map (·.1)⟩ : Rr) = Q) :
    ∃ h', call_SameRep.f k (c, b, sp, si) (c', b', tp, ti) h = some (P.same Q, h') ∧ Ch0 h h' := by
  unfold call_SameRep.f
  dsimp only
  rw [show [Value.int .i64 c, Value.int .i64 b, Value.slice sp.a sp.n sp.c, Value.slice si.a si.n si.c] = repV c b sp si from rfl, show [Value.int .i64 c', Value.int .i64 b', Value.slice tp.a tp.n tp.c, Value.slice ti.a ti.n ti.c] = repV c' b' tp ti from rfl]
  obtain ⟨z1, z2, z3⟩ := newR_ok w 67 4 (repV c b sp si)
  generalize newR h 67 4 (repV c b sp si) = g0 at z1 z2 z3 ⊢
  obtain ⟨y1, y2, y3⟩ := newR_ok z1.wf 67 4 (repV c' b' tp ti)
  generalize newR g0 67 4 (repV c' b' tp ti) = g1 at y1 y2 y3 ⊢
  have I := z3.stay z1.wf y1
  have c1 : Ch0 h g1 := z1.then y1
  have A0 : (repV c b sp si)[0]? = some (.int .i64 c) := rfl
  have A1 : (repV c b sp si)[1]? = some (.int .i64 b) := rfl
  have A2 : (repV c b sp si)[2]? = some (slv sp) := rfl
  have A3 : (repV c b sp si)[3]? = some (slv si) := rfl
  have B0 : (repV c' b' tp ti)[0]? = some (.int .i64 c') := rfl
  have B1 : (repV c' b' tp ti)[1]? = some (.int .i64 b') := rfl
  have B2 : (repV c' b' tp ti)[2]? = some (slv tp) := rfl
  have B3 : (repV c' b' tp ti)[3]? = some (slv ti) := rfl
  have hS : P.same Q = ((c == c') && ((b == b') && (pcSames (ps.map (·.1)) (qs.map (·.1)) && itSames (is.map (·.1)) (js.map (·.1))))) := by rw [← hP, ← hQ]; rfl
  rw [hS]
  simp only [I.ldc, y3.ldc, A0, A1, A2, A3, B0, B1, B2, B3, asI_int, asS_slv, Option.bind_some]
  cases e1 : (c == c') with
  | false => exact ⟨g1, rfl, c1⟩
  | true =>
    simp only [cond_true, I.ldc, y3.ldc, A0, A1, A2, A3, B0, B1, B2, B3, asI_int, asS_slv, Option.bind_some]
    cases e2 : (b == b') with
    | false => exact ⟨g1, rfl, c1⟩
    | true =>
      simp only [cond_true, I.ldc, y3.ldc, A0, A1, A2, A3, B0, B1, B2, B3, asI_int, asS_slv, Option.bind_some]
      obtain ⟨g2, u1, u2⟩ := pcCSames_f k hk c1.wf (rp.stay w c1) (rq.stay w c1) hp hpd
      rw [u1]
      simp only [Option.bind_some]
      have c2 := c1.then u2
      have I2 := I.stay c1.wf u2
      have Y2 := y3.stay c1.wf u2
      cases e3 : pcSames (ps.map (·.1)) (qs.map (·.1)) with
      | false => exact ⟨g2, rfl, c2⟩
      | true =>
        simp only [cond_true, I2.ldc, Y2.ldc, A0, A1, A2, A3, B0, B1, B2, B3, asI_int, asS_slv, Option.bind_some]
        obtain ⟨g3, v1, v2⟩ := itCSames_f k hk c2.wf (ri.stay w c2) (rj.stay w c2) hi hid
        rw [v1]
        exact ⟨g3, by simp, c2.then v2⟩
end Go.Proofs.Ythpkhegoamhgeaa.Fw
