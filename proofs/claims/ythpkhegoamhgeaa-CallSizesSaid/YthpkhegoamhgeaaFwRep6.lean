/- call's replies: the same by the reference? No condition. -/
import Derived.Test.YthpkhegoamhgeaaFwRep5
namespace Go.Proofs.Ythpkhegoamhgeaa.Fw
open Go Den Fwd
set_option linter.unusedVariables false
set_option linter.unusedSimpArgs false

/-! ### Pc -/
def Pc.same (p q : Pc) : Bool := (p.st == q.st) && ((p.gn == q.gn) && ((p.ix == q.ix) && decide (p.data = q.data)))
theorem Pc.same_self (p : Pc) : p.same p = true := by unfold Pc.same; simp
theorem pcSame_f (k : Nat) {h : H} (w : WF h) (p q : Pc) (d e : Sl) (rp : SlR 1 h d (byt p.data)) (rq : SlR 1 h e (byt q.data)) :
    ∃ h', corbelref7_SamePiece.f k (p.tup d) (q.tup e) h = some (p.same q, h') ∧ Ch0 h h' := by
  unfold corbelref7_SamePiece.f Pc.tup
  dsimp only
  rw [show [Value.int .i64 p.st, Value.int .i64 p.gn, Value.int .i64 p.ix, Value.slice d.a d.n d.c] = p.vs d from rfl, show [Value.int .i64 q.st, Value.int .i64 q.gn, Value.int .i64 q.ix, Value.slice e.a e.n e.c] = q.vs e from rfl]
  obtain ⟨z1, z2, z3⟩ := newR_ok w 69 4 (p.vs d)
  generalize newR h 69 4 (p.vs d) = g0 at z1 z2 z3 ⊢
  obtain ⟨y1, y2, y3⟩ := newR_ok z1.wf 69 4 (q.vs e)
  generalize newR g0 69 4 (q.vs e) = g1 at y1 y2 y3 ⊢
  have I := z3.stay z1.wf y1
  have c1 : Ch0 h g1 := z1.then y1
  refine ⟨g1, ?_, c1⟩
  have A0 : (p.vs d)[0]? = some (.int .i64 p.st) := rfl
  have B0 : (q.vs e)[0]? = some (.int .i64 q.st) := rfl
  have A1 : (p.vs d)[1]? = some (.int .i64 p.gn) := rfl
  have B1 : (q.vs e)[1]? = some (.int .i64 q.gn) := rfl
  have A2 : (p.vs d)[2]? = some (.int .i64 p.ix) := rfl
  have B2 : (q.vs e)[2]? = some (.int .i64 q.ix) := rfl
  have AD : (p.vs d)[3]? = some (slv d) := rfl
  have BD : (q.vs e)[3]? = some (slv e) := rfl
  have td := txt_sl (rp.stay w c1)
  have te := txt_sl (rq.stay w c1)
  unfold Pc.same
  simp only [I.ldc, y3.ldc, A0, B0, A1, B1, A2, B2, AD, BD, asI_int, asS_slv, Option.bind_some]
  cases (p.st == q.st) with
  | false => rfl
  | true =>
    simp only [cond_true, I.ldc, y3.ldc, A0, B0, A1, B1, A2, B2, AD, BD, asI_int, asS_slv, Option.bind_some]
    cases (p.gn == q.gn) with
    | false => rfl
    | true =>
      simp only [cond_true, I.ldc, y3.ldc, A0, B0, A1, B1, A2, B2, AD, BD, asI_int, asS_slv, Option.bind_some]
      cases (p.ix == q.ix) with
      | false => rfl
      | true =>
        simp only [cond_true, I.ldc, y3.ldc, A0, B0, A1, B1, A2, B2, AD, BD, asI_int, asS_slv, Option.bind_some]
        rw [td, te]
        simp only [Option.bind_some, ba_eq, Bool.true_and]
/-- all of two lists -/
def pcSames : List Pc → List Pc → Bool
  | [], [] => true
  | p :: ps, q :: qs => p.same q && pcSames ps qs
  | _, _ => false
theorem pcSames_self : ∀ l, pcSames l l = true
  | [] => rfl
  | p :: l => by unfold pcSames; rw [Pc.same_self, pcSames_self l]; rfl
theorem pcSames_len : ∀ (l m : List Pc), l.length ≠ m.length → pcSames l m = false
  | [], [], h => absurd rfl h
  | [], _ :: _, _ => rfl
  | _ :: _, [], _ => rfl
  | p :: l, q :: m, h => by unfold pcSames; rw [pcSames_len l m (fun e => h (by rw [List.length_cons, List.length_cons, e])), Bool.and_false]
theorem pcSames_l0 (k : Nat) {h0 : H} (w0 : WF h0) {s t : Sl} {ps qs : PcS} (rp : PcR h0 s ps) (rq : PcR h0 t qs) (hl : ps.length = qs.length) (hl2 : ps.length ≤ 1000) : ∀ n j h, ps.length - j < n → j ≤ ps.length → Ch0 h0 h →
    ∃ h' v, corbelref7_SamePieces.l0 k n s t (Int.ofNat j) h = some (v, h') ∧ Ch0 h0 h' ∧ ((v = .inl false ∧ pcSames ((ps.drop j).map (·.1)) ((qs.drop j).map (·.1)) = false) ∨ (v = .inr () ∧ pcSames ((ps.drop j).map (·.1)) ((qs.drop j).map (·.1)) = true))
  | 0, j, h, hn, _, _ => by omega
  | n + 1, j, h, hn, hj, hc => by
    rw [corbelref7_SamePieces.l0_succ, rp.n]
    by_cases c : j < ps.length
    · have c' : j < qs.length := by omega
      rw [decide_eq_true (show Int.ofNat j < Int.ofNat ps.length by simp; omega), cond_true]
      obtain ⟨p, e1, e2⟩ := (rp.stay w0 hc).at c
      obtain ⟨p', f1, f2⟩ := (rq.stay w0 hc).at c'
      rw [rp.n] at e1
      rw [e1]
      simp only [asP_ptr, Option.bind_some]
      rw [show ps[j].1.vs ps[j].2 = pcV ps[j].1.st ps[j].1.gn ps[j].1.ix ps[j].2 from rfl] at e2
      rw [show qs[j].1.vs qs[j].2 = pcV qs[j].1.st qs[j].1.gn qs[j].1.ix qs[j].2 from rfl] at f2
      rw [e2, bindPc]
      dsimp only
      rw [f1]
      simp only [asP_ptr, Option.bind_some]
      rw [f2, bindPc]
      dsimp only
      obtain ⟨h1, a1, a2⟩ := pcSame_f k hc.wf ps[j].1 qs[j].1 ps[j].2 qs[j].2 ((rp.stay w0 hc).da _ (List.getElem_mem c)) ((rq.stay w0 hc).da _ (List.getElem_mem c'))
      rw [show ((ps[j].1.st, ps[j].1.gn, ps[j].1.ix, ps[j].2) : PcT) = ps[j].1.tup ps[j].2 from rfl, show ((qs[j].1.st, qs[j].1.gn, qs[j].1.ix, qs[j].2) : PcT) = qs[j].1.tup qs[j].2 from rfl, a1]
      simp only [Option.bind_some]
      have hd : ps.drop j = ps[j] :: ps.drop (j + 1) := List.drop_eq_getElem_cons c
      have hd' : qs.drop j = qs[j] :: qs.drop (j + 1) := List.drop_eq_getElem_cons c'
      have un : pcSames ((ps.drop j).map (·.1)) ((qs.drop j).map (·.1)) = (ps[j].1.same qs[j].1 && pcSames ((ps.drop (j + 1)).map (·.1)) ((qs.drop (j + 1)).map (·.1))) := by
        rw [hd, hd', List.map_cons, List.map_cons]; rfl
      rw [un]
      cases hr : ps[j].1.same qs[j].1 with
      | false => exact ⟨h1, _, rfl, hc.then a2, .inl ⟨rfl, rfl⟩⟩
      | true =>
        simp only [Bool.not_true, cond_false, Bool.true_and]
        rw [wrap_succ (by omega)]
        exact pcSames_l0 k w0 rp rq hl hl2 n (j + 1) h1 (by omega) (by omega) (hc.then a2)
    · rw [decide_eq_false (show ¬ Int.ofNat j < Int.ofNat ps.length by simp; omega), cond_false]
      exact ⟨h, _, rfl, hc, .inr ⟨rfl, by rw [List.drop_eq_nil_of_le (by omega), List.drop_eq_nil_of_le (by omega)]; rfl⟩⟩
theorem pcSames_f (k : Nat) (hk : 1000 < k) {h : H} (w : WF h) {s t : Sl} {ps qs : PcS} (rp : PcR h s ps) (rq : PcR h t qs) (hl2 : ps.length ≤ 1000) : ∃ h', corbelref7_SamePieces.f k s t h = some (pcSames (ps.map (·.1)) (qs.map (·.1)), h') ∧ Ch0 h h' := by
  unfold corbelref7_SamePieces.f
  rw [rp.n, rq.n]
  by_cases c : ps.length = qs.length
  · rw [c, show (Int.ofNat qs.length != Int.ofNat qs.length) = false by simp, cond_false]
    obtain ⟨h', v, a1, a2, a3⟩ := pcSames_l0 k w rp rq c hl2 k 0 h (by omega) (Nat.zero_le _) (Ch.refl w)
    rw [show (0 : Int) = Int.ofNat 0 from rfl, a1]
    rw [List.drop_zero, List.drop_zero] at a3
    rcases a3 with ⟨rfl, e⟩ | ⟨rfl, e⟩
    · rw [e]; exact ⟨h', rfl, a2⟩
    · rw [e]; exact ⟨h', rfl, a2⟩
  · have : (Int.ofNat ps.length != Int.ofNat qs.length) = true := by
      simp only [bne_iff_ne, ne_eq]
      intro f
      exact c (Int.ofNat.inj f)
    rw [this, cond_true, pcSames_len _ _ (by rw [List.length_map, List.length_map]; exact c)]
    exact ⟨h, rfl, Ch.refl w⟩

/-! ### It -/
def It.same (p q : It) : Bool := (p.st == q.st) && ((p.gn == q.gn) && decide (p.data = q.data))
theorem It.same_self (p : It) : p.same p = true := by unfold It.same; simp
theorem itSame_f (k : Nat) {h : H} (w : WF h) (p q : It) (d e : Sl) (rp : SlR 1 h d (byt p.data)) (rq : SlR 1 h e (byt q.data)) :
    ∃ h', corbelref7_SameIntent.f k (p.tup d) (q.tup e) h = some (p.same q, h') ∧ Ch0 h h' := by
  unfold corbelref7_SameIntent.f It.tup
  dsimp only
  rw [show [Value.int .i64 p.st, Value.int .i64 p.gn, Value.slice d.a d.n d.c] = p.vs d from rfl, show [Value.int .i64 q.st, Value.int .i64 q.gn, Value.slice e.a e.n e.c] = q.vs e from rfl]
  obtain ⟨z1, z2, z3⟩ := newR_ok w 72 3 (p.vs d)
  generalize newR h 72 3 (p.vs d) = g0 at z1 z2 z3 ⊢
  obtain ⟨y1, y2, y3⟩ := newR_ok z1.wf 72 3 (q.vs e)
  generalize newR g0 72 3 (q.vs e) = g1 at y1 y2 y3 ⊢
  have I := z3.stay z1.wf y1
  have c1 : Ch0 h g1 := z1.then y1
  refine ⟨g1, ?_, c1⟩
  have A0 : (p.vs d)[0]? = some (.int .i64 p.st) := rfl
  have B0 : (q.vs e)[0]? = some (.int .i64 q.st) := rfl
  have A1 : (p.vs d)[1]? = some (.int .i64 p.gn) := rfl
  have B1 : (q.vs e)[1]? = some (.int .i64 q.gn) := rfl
  have AD : (p.vs d)[2]? = some (slv d) := rfl
  have BD : (q.vs e)[2]? = some (slv e) := rfl
  have td := txt_sl (rp.stay w c1)
  have te := txt_sl (rq.stay w c1)
  unfold It.same
  simp only [I.ldc, y3.ldc, A0, B0, A1, B1, AD, BD, asI_int, asS_slv, Option.bind_some]
  cases (p.st == q.st) with
  | false => rfl
  | true =>
    simp only [cond_true, I.ldc, y3.ldc, A0, B0, A1, B1, AD, BD, asI_int, asS_slv, Option.bind_some]
    cases (p.gn == q.gn) with
    | false => rfl
    | true =>
      simp only [cond_true, I.ldc, y3.ldc, A0, B0, A1, B1, AD, BD, asI_int, asS_slv, Option.bind_some]
      rw [td, te]
      simp only [Option.bind_some, ba_eq, Bool.true_and]
/-- all of two lists -/
def itSames : List It → List It → Bool
  | [], [] => true
  | p :: ps, q :: qs => p.same q && itSames ps qs
  | _, _ => false
theorem itSames_self : ∀ l, itSames l l = true
  | [] => rfl
  | p :: l => by unfold itSames; rw [It.same_self, itSames_self l]; rfl
theorem itSames_len : ∀ (l m : List It), l.length ≠ m.length → itSames l m = false
  | [], [], h => absurd rfl h
  | [], _ :: _, _ => rfl
  | _ :: _, [], _ => rfl
  | p :: l, q :: m, h => by unfold itSames; rw [itSames_len l m (fun e => h (by rw [List.length_cons, List.length_cons, e])), Bool.and_false]
theorem itSames_l0 (k : Nat) {h0 : H} (w0 : WF h0) {s t : Sl} {ps qs : ItS} (rp : ItR h0 s ps) (rq : ItR h0 t qs) (hl : ps.length = qs.length) (hl2 : ps.length ≤ 1000) : ∀ n j h, ps.length - j < n → j ≤ ps.length → Ch0 h0 h →
    ∃ h' v, corbelref7_SameIntents.l0 k n s t (Int.ofNat j) h = some (v, h') ∧ Ch0 h0 h' ∧ ((v = .inl false ∧ itSames ((ps.drop j).map (·.1)) ((qs.drop j).map (·.1)) = false) ∨ (v = .inr () ∧ itSames ((ps.drop j).map (·.1)) ((qs.drop j).map (·.1)) = true))
  | 0, j, h, hn, _, _ => by omega
  | n + 1, j, h, hn, hj, hc => by
    rw [corbelref7_SameIntents.l0_succ, rp.n]
    by_cases c : j < ps.length
    · have c' : j < qs.length := by omega
      rw [decide_eq_true (show Int.ofNat j < Int.ofNat ps.length by simp; omega), cond_true]
      obtain ⟨p, e1, e2⟩ := (rp.stay w0 hc).at c
      obtain ⟨p', f1, f2⟩ := (rq.stay w0 hc).at c'
      rw [rp.n] at e1
      rw [e1]
      simp only [asP_ptr, Option.bind_some]
      rw [show ps[j].1.vs ps[j].2 = itV ps[j].1.st ps[j].1.gn ps[j].2 from rfl] at e2
      rw [show qs[j].1.vs qs[j].2 = itV qs[j].1.st qs[j].1.gn qs[j].2 from rfl] at f2
      rw [e2, bindIt]
      dsimp only
      rw [f1]
      simp only [asP_ptr, Option.bind_some]
      rw [f2, bindIt]
      dsimp only
      obtain ⟨h1, a1, a2⟩ := itSame_f k hc.wf ps[j].1 qs[j].1 ps[j].2 qs[j].2 ((rp.stay w0 hc).da _ (List.getElem_mem c)) ((rq.stay w0 hc).da _ (List.getElem_mem c'))
      rw [show ((ps[j].1.st, ps[j].1.gn, ps[j].2) : ItT) = ps[j].1.tup ps[j].2 from rfl, show ((qs[j].1.st, qs[j].1.gn, qs[j].2) : ItT) = qs[j].1.tup qs[j].2 from rfl, a1]
      simp only [Option.bind_some]
      have hd : ps.drop j = ps[j] :: ps.drop (j + 1) := List.drop_eq_getElem_cons c
      have hd' : qs.drop j = qs[j] :: qs.drop (j + 1) := List.drop_eq_getElem_cons c'
      have un : itSames ((ps.drop j).map (·.1)) ((qs.drop j).map (·.1)) = (ps[j].1.same qs[j].1 && itSames ((ps.drop (j + 1)).map (·.1)) ((qs.drop (j + 1)).map (·.1))) := by
        rw [hd, hd', List.map_cons, List.map_cons]; rfl
      rw [un]
      cases hr : ps[j].1.same qs[j].1 with
      | false => exact ⟨h1, _, rfl, hc.then a2, .inl ⟨rfl, rfl⟩⟩
      | true =>
        simp only [Bool.not_true, cond_false, Bool.true_and]
        rw [wrap_succ (by omega)]
        exact itSames_l0 k w0 rp rq hl hl2 n (j + 1) h1 (by omega) (by omega) (hc.then a2)
    · rw [decide_eq_false (show ¬ Int.ofNat j < Int.ofNat ps.length by simp; omega), cond_false]
      exact ⟨h, _, rfl, hc, .inr ⟨rfl, by rw [List.drop_eq_nil_of_le (by omega), List.drop_eq_nil_of_le (by omega)]; rfl⟩⟩
theorem itSames_f (k : Nat) (hk : 1000 < k) {h : H} (w : WF h) {s t : Sl} {ps qs : ItS} (rp : ItR h s ps) (rq : ItR h t qs) (hl2 : ps.length ≤ 1000) : ∃ h', corbelref7_SameIntents.f k s t h = some (itSames (ps.map (·.1)) (qs.map (·.1)), h') ∧ Ch0 h h' := by
  unfold corbelref7_SameIntents.f
  rw [rp.n, rq.n]
  by_cases c : ps.length = qs.length
  · rw [c, show (Int.ofNat qs.length != Int.ofNat qs.length) = false by simp, cond_false]
    obtain ⟨h', v, a1, a2, a3⟩ := itSames_l0 k w rp rq c hl2 k 0 h (by omega) (Nat.zero_le _) (Ch.refl w)
    rw [show (0 : Int) = Int.ofNat 0 from rfl, a1]
    rw [List.drop_zero, List.drop_zero] at a3
    rcases a3 with ⟨rfl, e⟩ | ⟨rfl, e⟩
    · rw [e]; exact ⟨h', rfl, a2⟩
    · rw [e]; exact ⟨h', rfl, a2⟩
  · have : (Int.ofNat ps.length != Int.ofNat qs.length) = true := by
      simp only [bne_iff_ne, ne_eq]
      intro f
      exact c (Int.ofNat.inj f)
    rw [this, cond_true, itSames_len _ _ (by rw [List.length_map, List.length_map]; exact c)]
    exact ⟨h, rfl, Ch.refl w⟩

def Rr.same (p q : Rr) : Bool := (p.code == q.code) && ((p.boot == q.boot) && (pcSames p.ps q.ps && itSames p.is q.is))
theorem Rr.same_self (p : Rr) : p.same p = true := by unfold Rr.same; rw [pcSames_self, itSames_self]; simp
theorem rrSame_f (k : Nat) (hk : 1000 < k) {h : H} (w : WF h) (c c' b b' : Int) {sp si tp ti : Sl} {ps qs : PcS} {is js : ItS} (rp : PcR h sp ps) (ri : ItR h si is) (rq : PcR h tp qs) (rj : ItR h ti js) (hp : ps.length ≤ 1000) (hi : is.length ≤ 1000) (P Q : Rr) (hP : (⟨c, b, ps.map (·.1), is.map (·.1)⟩ : Rr) = P) (hQ : (⟨c', b', qs.map (·.1), js.map (·.1)⟩ : Rr) = Q) :
    ∃ h', corbelref7_SameRep.f k (c, b, sp, si) (c', b', tp, ti) h = some (P.same Q, h') ∧ Ch0 h h' := by
  unfold corbelref7_SameRep.f
  dsimp only
  rw [show [Value.int .i64 c, Value.int .i64 b, Value.slice sp.a sp.n sp.c, Value.slice si.a si.n si.c] = repV c b sp si from rfl, show [Value.int .i64 c', Value.int .i64 b', Value.slice tp.a tp.n tp.c, Value.slice ti.a ti.n ti.c] = repV c' b' tp ti from rfl]
  obtain ⟨z1, z2, z3⟩ := newR_ok w 67 4 (repV c b sp si)
  generalize newR h 67 4 (repV c b sp si) = g0 at z1 z2 z3 ⊢
  obtain ⟨y1, y2, y3⟩ := newR_ok z1.wf 67 4 (repV c' b' tp ti)
  generalize newR g0 67 4 (repV c' b' tp ti) = g1 at y1 y2 y3 ⊢
  have I := z3.stay z1.wf y1
  have c1 : Ch0 h g1 := z1.then y1
  have A0 : (repV c b sp si)[0]? = some (.int .i64 c) := rfl
  have A1 : (repV c b sp si)[1]? = some (.int .i64 b) := rfl
  have A2 : (repV c b sp si)[2]? = some (slv sp) := rfl
  have A3 : (repV c b sp si)[3]? = some (slv si) := rfl
  have B0 : (repV c' b' tp ti)[0]? = some (.int .i64 c') := rfl
  have B1 : (repV c' b' tp ti)[1]? = some (.int .i64 b') := rfl
  have B2 : (repV c' b' tp ti)[2]? = some (slv tp) := rfl
  have B3 : (repV c' b' tp ti)[3]? = some (slv ti) := rfl
  have hS : P.same Q = ((c == c') && ((b == b') && (pcSames (ps.map (·.1)) (qs.map (·.1)) && itSames (is.map (·.1)) (js.map (·.1))))) := by rw [← hP, ← hQ]; rfl
  rw [hS]
  simp only [I.ldc, y3.ldc, A0, A1, A2, A3, B0, B1, B2, B3, asI_int, asS_slv, Option.bind_some]
  cases e1 : (c == c') with
  | false => exact ⟨g1, rfl, c1⟩
  | true =>
    simp only [cond_true, I.ldc, y3.ldc, A0, A1, A2, A3, B0, B1, B2, B3, asI_int, asS_slv, Option.bind_some]
    cases e2 : (b == b') with
    | false => exact ⟨g1, rfl, c1⟩
    | true =>
      simp only [cond_true, I.ldc, y3.ldc, A0, A1, A2, A3, B0, B1, B2, B3, asI_int, asS_slv, Option.bind_some]
      obtain ⟨g2, u1, u2⟩ := pcSames_f k hk c1.wf (rp.stay w c1) (rq.stay w c1) hp
      rw [u1]
      simp only [Option.bind_some]
      have c2 := c1.then u2
      have I2 := I.stay c1.wf u2
      have Y2 := y3.stay c1.wf u2
      cases e3 : pcSames (ps.map (·.1)) (qs.map (·.1)) with
      | false => exact ⟨g2, rfl, c2⟩
      | true =>
        simp only [cond_true, I2.ldc, Y2.ldc, A0, A1, A2, A3, B0, B1, B2, B3, asI_int, asS_slv, Option.bind_some]
        obtain ⟨g3, v1, v2⟩ := itSames_f k hk c2.wf (ri.stay w c2) (rj.stay w c2) hi
        rw [v1]
        exact ⟨g3, by simp, c2.then v2⟩
end Go.Proofs.Ythpkhegoamhgeaa.Fw
