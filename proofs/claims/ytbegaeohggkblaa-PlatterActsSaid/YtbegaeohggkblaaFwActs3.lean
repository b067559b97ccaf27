/- PlatterActs: its loops. No condition. -/
import Derived.Test.YtbegaeohggkblaaFwActs2
namespace Go.Proofs.Ytbegaeohggkblaa.Fw
open Go Den Fwd
set_option linter.unusedVariables false
set_option linter.unusedSimpArgs false
def keepOf (l : List Int) : List Int := (l.take 8).map fun x => x % 12 - 1
theorem acts_l1 (k : Nat) {h0 : H} (w0 : WF h0) (x24 x28 : Int) (x25 : Sl) (x26 x27 : Option Addr) {ab : Nat} {a b c : Int} {sK : Sl} (I : Is h0 ab 48 4 [.int .i64 a, .int .i64 b, .int .i64 c, slv sK]) {ks : List Int} (rk : SlR 1 h0 sK (ivs ks)) : ∀ n j h acc, 8 - j < n → j ≤ 8 → j ≤ ks.length → Ch0 h0 h → Ow 3 1 h acc (ivs ((ks.take j).map fun x => x % 12 - 1)) → (∀ x, SlB acc x → h0.next ≤ x) →
    ∃ s' h', corbellaw7_PlatterActs.l1 k n x24 x25 x26 x27 x28 (some ⟨ab, 0, none⟩) acc (Int.ofNat j) h = some (s', h') ∧ Ch0 h0 h' ∧ Ow 3 1 h' s' (ivs (keepOf ks)) ∧ ∀ x, SlB s' x → h0.next ≤ x
  | 0, j, h, acc, hn, _, _, _, _, _ => by omega
  | n + 1, j, h, acc, hn, hj, hj2, hc, ho, hb => by
    rw [corbellaw7_PlatterActs.l1_succ]
    have I' := I.stay w0 hc
    have rk' := rk.stay w0 hc
    have hl := rk.len
    rw [ivs_len, Nat.mul_one] at hl
    simp only [fadd, asP_ptr, Option.bind_some, I'.ldc]
    rw [show ([Value.int .i64 a, .int .i64 b, .int .i64 c, slv sK] : List Value)[0 + 3]? = some (slv sK) from rfl]
    simp only [asS_slv, Option.bind_some]
    by_cases d : j < ks.length ∧ j < 8
    · rw [← hl, decide_eq_true (show Int.ofNat j < Int.ofNat ks.length by simp; omega), cond_true, decide_eq_true (show Int.ofNat j < (8 : Int) by simp; omega)]
      simp only [Option.bind_some, cond_true, I'.ldc]
      rw [show ([Value.int .i64 a, .int .i64 b, .int .i64 c, slv sK] : List Value)[0 + 3]? = some (slv sK) from rfl]
      simp only [asS_slv, Option.bind_some]
      obtain ⟨p, e1, e2⟩ := SlR.int rk' (List.getElem?_eq_getElem d.1)
      rw [e1]
      simp only [asP_ptr, Option.bind_some, e2, asI_int]
      rw [pick_f k _ 12 h (by decide) (by decide)]
      simp only [Option.bind_some]
      have m0 := Int.emod_nonneg ks[j] (show (12 : Int) ≠ 0 by decide)
      have m1 := Int.emod_lt_of_pos ks[j] (show (0 : Int) < 12 by decide)
      rw [wrap_in (n := ks[j] % 12 - 1) (by omega) (by omega)]
      obtain ⟨s', h', f1, f2, f3, f4⟩ := push_int hc.wf ho (ks[j] % 12 - 1) (by rw [List.length_map, List.length_take]; omega)
      rw [f1]
      simp only [Option.bind_some]
      rw [wrap_succ (by omega)]
      have ht : (ks.take (j + 1)).map (fun x => x % 12 - 1) = (ks.take j).map (fun x => x % 12 - 1) ++ [ks[j] % 12 - 1] := by
        rw [show ks.take (j + 1) = ks.take j ++ [ks[j]] by simp, List.map_append, List.map_singleton]
      rw [← ht] at f3
      exact acts_l1 k w0 x24 x28 x25 x26 x27 I rk n (j + 1) h' s' (by omega) (by omega) (by omega) (Ch0.own hc f2 hb) f3 fun x hx => (f4 x hx).elim (hb x) fun f => by have := hc.le; omega
    · have hg : (cond (decide (Int.ofNat j < Int.ofNat sK.n)) (some (decide (Int.ofNat j < (8 : Int)), h)) (some (false, h)) : Option (Bool × H)) = some (false, h) := by
        by_cases q : j < ks.length
        · rw [← hl, decide_eq_true (show Int.ofNat j < Int.ofNat ks.length by simp; omega), decide_eq_false (show ¬ Int.ofNat j < (8 : Int) by simp; omega)]; rfl
        · rw [← hl, decide_eq_false (show ¬ Int.ofNat j < Int.ofNat ks.length by simp; omega)]; rfl
      rw [hg]
      simp only [Option.bind_some, cond_false]
      have e : (ks.take j).map (fun x => x % 12 - 1) = keepOf ks := by
        unfold keepOf
        by_cases q : j < ks.length
        · rw [show j = 8 by omega]
        · rw [List.take_of_length_le (show ks.length ≤ j by omega), List.take_of_length_le (show ks.length ≤ 8 by omega)]
      rw [e] at ho
      exact ⟨acc, h, rfl, hc, ho, hb⟩
theorem acts_l2 (k : Nat) {h0 : H} (w0 : WF h0) (x93 x97 : Int) (x94 : Sl) (x95 : Option Addr) {q : Nat} {Mr : Nat → Prop} {st : Rf} (r : RfR h0 q Mr st) (hp : st.pend.length ≤ 1000) : ∀ n j h acc, st.pend.length - j < n → j ≤ st.pend.length → Ch0 h0 h → Ow 3 1 h acc (ivs ((st.pend.map (·.1)).take j)) → (∀ x, SlB acc x → h0.next ≤ x) →
    ∃ s' h', corbellaw7_PlatterActs.l2 k n x93 x94 x95 (some ⟨q, 0, none⟩) x97 (Int.ofNat st.pend.length) acc (Int.ofNat j) h = some (s', h') ∧ Ch0 h0 h' ∧ Ow 3 1 h' s' (ivs (st.pend.map (·.1))) ∧ ∀ x, SlB s' x → h0.next ≤ x
  | 0, j, h, acc, hn, _, _, _, _ => by omega
  | n + 1, j, h, acc, hn, hj, hc, ho, hb => by
    rw [corbellaw7_PlatterActs.l2_succ]
    by_cases c : j < st.pend.length
    · rw [decide_eq_true (show Int.ofNat j < Int.ofNat st.pend.length by simp; omega), cond_true]
      obtain ⟨sD, sQ, r1, r2, r3, r4, r5⟩ := (r.keep hc fun _ _ f => f).ex
      simp only [nilA, asP_ptr, Option.bind_some, fadd, r1.ldc]
      simp only [Nat.zero_add, List.getElem?_cons_succ, List.getElem?_cons_zero, asS_slv, Option.bind_some]
      obtain ⟨b, o, e1, _, e3, _⟩ := qAt r3 c
      rw [e1]
      simp only [asP_ptr, Option.bind_some, fadd, Nat.add_zero, e3, asI_int]
      obtain ⟨s', h', f1, f2, f3, f4⟩ := push_int hc.wf ho st.pend[j].1 (by rw [List.length_take, List.length_map]; omega)
      rw [f1]
      simp only [Option.bind_some]
      rw [wrap_succ (by omega)]
      have hT : ∀ (l : List Int) (hj : j < l.length), l.take (j + 1) = l.take j ++ [l[j]] := fun l hj => by simp
      have ht : (st.pend.map (·.1)).take (j + 1) = (st.pend.map (·.1)).take j ++ [st.pend[j].1] := by
        rw [hT _ (by rw [List.length_map]; exact c), List.getElem_map]
      rw [← ht] at f3
      exact acts_l2 k w0 x93 x97 x94 x95 r hp n (j + 1) h' s' (by omega) (by omega) (Ch0.own hc f2 hb) f3 fun x hx => (f4 x hx).elim (hb x) fun f => by have := hc.le; omega
    · rw [decide_eq_false (show ¬ Int.ofNat j < Int.ofNat st.pend.length by simp; omega), cond_false]
      rw [List.take_of_length_le (by rw [List.length_map]; omega)] at ho
      exact ⟨acc, h, rfl, hc, ho, hb⟩
theorem applyAll_160 : ∀ (l : List (Int × List UInt8)) (d : List (List UInt8)), (∀ x ∈ l, x.2.length = 160) → (∀ x ∈ d, x.length = 160) → ∀ x ∈ applyAll l d, x.length = 160
  | [], d, _, hd, x, hx => hd x hx
  | y :: l, d, hl, hd, x, hx => applyAll_160 l (d.set y.1.toNat y.2) (fun z hz => hl z (List.mem_cons_of_mem _ hz)) (fun z hz => by
      rcases List.mem_or_eq_of_mem_set hz with f | f
      · exact hd z f
      · rw [f]; exact hl y List.mem_cons_self) x hx
theorem crashD_160 (keep : List Int) : ∀ (l : List (Int × List UInt8)) (i : Nat) (d : List (List UInt8)), (∀ x ∈ l, x.2.length = 160) → (∀ x ∈ d, x.length = 160) → ∀ x ∈ crashD keep i l d, x.length = 160
  | [], i, d, _, hd, x, hx => hd x hx
  | y :: l, i, d, hl, hd, x, hx => by
    rw [crashD] at hx
    refine crashD_160 keep l (i + 1) _ (fun z hz => hl z (List.mem_cons_of_mem _ hz)) (fun z hz => ?_) x hx
    split at hz
    · rcases List.mem_or_eq_of_mem_set hz with f | f
      · exact hd z f
      · rw [f]; exact hl y List.mem_cons_self
    · exact hd z hz
theorem acts_l3 (k : Nat) (hk : 2000 < k) {h0 : H} (x121 : Int) (x118 : Sl) {p q N : Nat} {M C Mr : Nat → Prop} {st : Plat} (hN : N ≤ 1000) (hnl : st.now.length = N) (hdl : st.done.length = N) (hnw : st.now = applyAll st.pend st.done) (hin : InR N st.pend) (hp : st.pend.length ≤ 1000) (h160 : ∀ x ∈ st.now, x.length = 160) : ∀ n j h, N - j < n → j ≤ N → Ch0 h0 h → PlatR h p M C st → RfR h q Mr ⟨st.done, st.pend, st.writes⟩ →
    ∃ h', corbellaw7_PlatterActs.l3 k n (Int.ofNat N) x118 (some ⟨p, 0, none⟩) (some ⟨q, 0, none⟩) x121 (Int.ofNat j) h = some (.inr (), h') ∧ Ch0 h0 h' ∧ PlatR h' p M C st ∧ RfR h' q Mr ⟨st.done, st.pend, st.writes⟩
  | 0, j, h, hn, _, _, _, _ => by omega
  | n + 1, j, h, hn, hj, hc, hpl, hrf => by
    rw [corbellaw7_PlatterActs.l3_succ]
    by_cases c : j < N
    · rw [decide_eq_true (show Int.ofNat j < Int.ofNat N by simp; omega), cond_true]
      have hx : st.now[j]? = some (st.now[j]'(by omega)) := List.getElem?_eq_getElem (by omega)
      have hxl := h160 _ (List.getElem_mem (show j < st.now.length by omega))
      obtain ⟨s1, h1, a1, a2, a3, a4, a5⟩ := read_f k hc.wf hpl hx (by omega)
      rw [a1]
      simp only [Option.bind_some, Bool.not_true, cond_false]
      have e0 := txt_ok a3.slr
      rw [show asT (txt h1 (Value.slice s1.a s1.n s1.c)) = some (ba (st.now[j]'(by omega))) by rw [e0]; rfl]
      simp only [Option.bind_some]
      have rf1 := hrf.keep a2 fun _ _ f => f
      obtain ⟨y, b1, b2⟩ := rread_f k hk rf1 (by show InR st.done.length st.pend; rw [hdl]; exact hin) hp (i := j) (by show j < st.done.length; omega)
      rw [b1]
      simp only [Option.bind_some]
      have b2 : (applyAll st.pend st.done)[j]? = some y := b2
      rw [← hnw, hx] at b2
      have hy := Option.some.inj b2
      rw [hy, ba_eq, decide_eq_true rfl]
      have hdyn : dynL [(3, 7), (4, 7)] ([(3, none)] ++ [(4, blkOf (some (Value.slice s1.a s1.n s1.c)))]) [(7, h1, h1)] = true := by
        generalize blkOf (some (Value.slice s1.a s1.n s1.c)) = bb
        cases bb with
        | none => simp [dynL]
        | some bb =>
          have := sameVer_of (h := h1) (h' := h1) (b := bb) rfl
          simp [dynL, this]
      rw [hdyn, cond_true, Bool.not_true, cond_false]
      -- what is told is its owner's
      rw [hy] at a3 hxl
      have hlen : 0 < y.length := by omega
      obtain ⟨pa, h2, d1, d2, d3, d4, d5⟩ := Ow.store a2.wf a3 (j := 0) (by rw [byt_len]; exact hlen) (.int .u8 (wrapA .u8 (Int.ofNat y[0].toNat + 1))) rfl
      obtain ⟨pb, e1, e2⟩ := a3.slr.elem1 (j := 0) (by rw [a4, hy]; exact hlen)
      rw [d1] at e1
      cases e1
      rw [byt_get, List.getElem?_eq_getElem hlen] at e2
      rw [show (0 : Int) = Int.ofNat 0 from rfl, d1]
      simp only [asP_ptr, Option.bind_some, e2, Option.map_some, asI_int]
      rw [d2]
      simp only [Option.bind_some]
      rw [wrap_succ (by omega)]
      have c02 : Ch0 h h2 := Ch0.own a2 d3 fun b hb => (a5 b hb).1
      exact acts_l3 k hk x121 x118 hN hnl hdl hnw hin hp h160 n (j + 1) h2 (by omega) (by omega) (hc.then c02) (hpl.keep c02 fun _ f => f.elim) (hrf.keep c02 fun _ _ f => f)
    · rw [decide_eq_false (show ¬ Int.ofNat j < Int.ofNat N by simp; omega), cond_false]
      exact ⟨h, rfl, hc, hpl, hrf⟩
structure AI (h0 h : H) (p q N : Nat) (M C Mr : Nat → Prop) (st : Plat) (i : Nat) : Prop where
  ch : Ch0 h0 h
  pl : PlatR h p M C st
  rf : RfR h q Mr ⟨st.done, st.pend, st.writes⟩
  nl : st.now.length = N
  dl : st.done.length = N
  nw : st.now = applyAll st.pend st.done
  inr : InR N st.pend
  pn : st.pend.length ≤ i
  wr : 0 ≤ st.writes ∧ st.writes ≤ Int.ofNat i
  d160 : ∀ x ∈ st.done, x.length = 160
  p160 : ∀ x ∈ st.pend, x.2.length = 160
  md : ∀ b, Mr b → ¬ M b ∧ ¬ C b ∧ h0.next ≤ b
  mn : ∀ b, M b → h0.next ≤ b
  cn : ∀ b, C b → h0.next ≤ b
theorem AI.more {h0 h h' : H} {p q N : Nat} {M C Mr : Nat → Prop} {st : Plat} {i j : Nat} (I : AI h0 h p q N M C Mr st i) (c : Ch0 h h') (hij : i ≤ j) : AI h0 h' p q N M C Mr st j :=
  ⟨I.ch.then c, I.pl.keep c fun _ f => f.elim, I.rf.keep c fun _ _ f => f, I.nl, I.dl, I.nw, I.inr, Nat.le_trans I.pn hij, ⟨I.wr.1, Int.le_trans I.wr.2 (by simp only [Int.ofNat_eq_natCast]; omega)⟩, I.d160, I.p160, I.md, I.mn, I.cn⟩
/-- an act of both: first the platter's, then the reference's -/
theorem AI.both {h0 h h1 h2 : H} {p q N : Nat} {M C Mr M' C' Mr' : Nat → Prop} {st st' : Plat} {i j : Nat} (I : AI h0 h p q N M C Mr st i) (c1 : Ch M h h1) (pl : PlatR h1 p M' C' st') (hM : ∀ b, M' b → M b ∨ h.next ≤ b) (hC : ∀ b, C' b → C b ∨ h.next ≤ b)
    (c2 : Ch (fun b => b = q) h1 h2) (rf : RfR h2 q Mr' ⟨st'.done, st'.pend, st'.writes⟩) (hMr : ∀ b, Mr' b → Mr b ∨ h1.next ≤ b)
    (nl : st'.now.length = N) (dl : st'.done.length = N) (nw : st'.now = applyAll st'.pend st'.done) (inr : InR N st'.pend) (pn : st'.pend.length ≤ j) (wr : 0 ≤ st'.writes ∧ st'.writes ≤ Int.ofNat j) (d160 : ∀ x ∈ st'.done, x.length = 160) (p160 : ∀ x ∈ st'.pend, x.2.length = 160) : AI h0 h2 p q N M' C' Mr' st' j := by
  have l0 := I.ch.le
  have l1 := c1.le
  obtain ⟨q1, q2, q3⟩ := I.md q I.rf.mq
  have ql := I.rf.lt q I.rf.mq
  have nq : ¬ M' q ∧ ¬ C' q := ⟨fun f => (hM q f).elim q1 (by omega), fun f => (hC q f).elim q2 (by omega)⟩
  refine ⟨⟨c2.wf, by have := c2.le; omega, fun b hb _ => (c2.keep b (by omega) (by omega)).trans ((c1.keep b (by omega) fun f => by have := I.mn b f; omega).trans (I.ch.keep b hb fun f => f))⟩, pl.keep c2 fun b f => by subst f; exact nq, rf, nl, dl, nw, inr, pn, wr, d160, p160, fun b hb => ?_, fun b hb => (hM b hb).elim (I.mn b) (by omega), fun b hb => (hC b hb).elim (I.cn b) (by omega)⟩
  rcases hMr b hb with f | f
  · obtain ⟨t1, t2, t3⟩ := I.md b f
    have tl := I.rf.lt b f
    exact ⟨fun g => (hM b g).elim t1 (by omega), fun g => (hC b g).elim t2 (by omega), t3⟩
  · exact ⟨fun g => by have := pl.mlt b g; omega, fun g => by have := pl.clt b g; omega, by omega⟩
end Go.Proofs.Ytbegaeohggkblaa.Fw
