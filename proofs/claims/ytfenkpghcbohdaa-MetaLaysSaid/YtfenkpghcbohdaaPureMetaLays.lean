/- MetaLays: the law's forward run comes to true. -/
import Derived.Test.YtfenkpghcbohdaaFwTreeD
import Derived.Test.YtfenkpghcbohdaaArMetaLays
namespace Go.Proofs.Ytfenkpghcbohdaa
open Go Den Fwd Fw
set_option linter.unusedVariables false
set_option linter.unusedSimpArgs false
theorem Pure.flat_set1 {es : Nat} : ∀ {gs : List (List Value)}, (∀ g ∈ gs, g.length = es) → ∀ (i : Nat) (hi : i < gs.length) (j : Nat), j < es → ∀ v : Value, gs.flatten.set (i * es + j) v = (gs.set i (gs[i].set j v)).flatten
  | g :: gs, h, 0, _, j, hj, v => by
    have hg := h g List.mem_cons_self
    rw [List.flatten_cons, Nat.zero_mul, Nat.zero_add, List.set_append_left _ _ (by omega), List.set_cons_zero, List.flatten_cons]; rfl
  | g :: gs, h, i + 1, hi, j, hj, v => by
    have hg := h g List.mem_cons_self
    have := Pure.flat_set1 (gs := gs) (fun x hx => h x (List.mem_cons_of_mem _ hx)) i (by rw [List.length_cons] at hi; omega) j hj v
    have e : (i + 1) * es + j = g.length + (i * es + j) := by rw [Nat.add_mul, Nat.one_mul, hg]; omega
    rw [List.flatten_cons, e, List.set_append_right _ _ (by omega), show g.length + (i * es + j) - g.length = i * es + j by omega, this, List.set_cons_succ, List.flatten_cons]; rfl
def Pure.setPa (q : Vs) (nm : List UInt8) : Vs := ({ q.1 with pa := nm }, q.2)
theorem Pure.set_pa {h : H} (w : WF h) {s : Sl} {vs : List Vs} (T : TreeO h s vs) {i : Nat} (hi : i < vs.length) (nm : List UInt8) :
    ∃ b h', ixs 5 s.a s.n (Int.ofNat i) = some (.pointer (some ⟨b, i * 5, none⟩)) ∧ stv 1 h (some ⟨b, i * 5 + 1, none⟩) [.string (ba nm)] = some (undef, h') ∧ Ch (SlB s) h h' ∧ TreeR h' s (vs.set i (Pure.setPa vs[i] nm)) := by
  have T2 := T
  obtain ⟨ow, mp, di, ne⟩ := T
  rcases ow with ⟨f, _⟩ | ⟨b, m, cc, rfl, hl, I, hc⟩
  · have := congrArg List.length f
    rw [vo_len] at this
    have this : vs.length * 5 = 0 := this
    omega
  · rw [vo_len] at hl
    obtain ⟨h', i1, i2, i3, i4⟩ := I.set w (i * 5 + 1) (.string (ba nm)) (by rw [vo_len]; omega) rfl
    have e0 : ixs 5 (some ⟨b, 0, none⟩) m (Int.ofNat i) = some (.pointer (some ⟨b, i * 5, none⟩)) := by
      have : ixs 5 (some ⟨b, 0, none⟩) m (Int.ofNat i) = some (.pointer (some ⟨b, 0 + i * 5, none⟩)) := cond_eta _ _ _ (Nat.ble_eq_true_of_le (by show i + 1 ≤ m; omega))
      rw [this, Nat.zero_add]
    have c : Ch (SlB ⟨some ⟨b, 0, none⟩, m, cc⟩) h h' := i2.mono fun x _ hx => by subst hx; exact ⟨0, rfl⟩
    have ev : (vs.map voL).flatten.set (i * 5 + 1) (.string (ba nm)) = ((vs.set i (Pure.setPa vs[i] nm)).map voL).flatten := by
      rw [Pure.flat_set1 (vo_es vs) i (by rw [List.length_map]; exact hi) 1 (by decide), List.getElem_map, List.map_set]; rfl
    rw [ev] at i4
    refine ⟨b, h', e0, i1, c, ⟨?_, fun q hq => ?_⟩⟩
    · have O : Ow 58 5 h' ⟨some ⟨b, 0, none⟩, m, cc⟩ ((vs.set i (Pure.setPa vs[i] nm)).map voL).flatten := .inr ⟨b, m, cc, rfl, by rw [vo_len, List.length_set]; exact hl, i4, hc⟩
      exact O.slr
    · have key : ∀ q ∈ vs, SlR 1 h' q.2 (ivs q.1.mp) := fun q hq => ((mp q hq).keep fun z hz => c.keep z ((mp q hq).lt w hz) fun f => ne q hq z f hz).slr
      rcases List.mem_or_eq_of_mem_set hq with e | e
      · exact key q e
      · rw [e]; exact key vs[i] (List.getElem_mem hi)
theorem Pure.odd_f (k : Nat) (n : Int) (h : H) : ∃ nm : List UInt8, corbelhand_Odd.f k n (⟨#[120]⟩ : ByteArray) h = some (ba nm, h) ∧ nm.length ≤ 1000 := by
  unfold corbelhand_Odd.f
  rw [pick_f k n 40 h (by decide) (by decide)]
  simp only [Option.bind_some]
  cases c1 : n % 40 == (38 : Int) with
  | true => exact ⟨[120], rfl, by decide⟩
  | false =>
    rw [cond_false]
    cases c2 : n % 40 == (39 : Int) with
    | true =>
      rw [cond_true]
      generalize wrapA .i64 (n.tdiv 40) = m
      rw [pick_f k m 4 h (by decide) (by decide)]
      simp only [Option.bind_some]
      obtain ⟨j, hj⟩ : ∃ j : Nat, m % 4 = Int.ofNat j := ⟨_, nn _ (Int.emod_nonneg m (by decide))⟩
      have hj2 : j < 4 := by have := Int.emod_lt_of_pos m (show (0 : Int) < 4 by decide); rw [hj] at this; simp only [Int.ofNat_eq_natCast] at this; omega
      rw [hj]
      rcases (show j = 0 ∨ j = 1 ∨ j = 2 ∨ j = 3 by omega) with rfl | rfl | rfl | rfl
      · exact ⟨[], rfl, by decide⟩
      · exact ⟨[85, 112, 112, 101, 114], rfl, by decide⟩
      · exact ⟨[116, 111, 111, 108, 111, 110, 103, 110, 97, 109, 101], rfl, by decide⟩
      · exact ⟨[97, 32, 98], rfl, by decide⟩
    | false =>
      rw [cond_false]
      obtain ⟨nm, e1, e2⟩ := name_f k n h
      rw [e1]
      exact ⟨nm, rfl, by have := nameLen e2; omega⟩
theorem Pure.setb {h : H} (w : WF h) {s : Sl} {x : List UInt8} (r : Ow 5 1 h s (byt x)) {j : Nat} (hj : j < x.length) (c : UInt8) :
    ∃ b h', ixs 1 s.a s.n (Int.ofNat j) = some (.pointer (some ⟨b, j, none⟩)) ∧ ldc h (some ⟨b, j, none⟩) = some (.int .u8 (Int.ofNat x[j].toNat)) ∧ stv 1 h (some ⟨b, j, none⟩) [.int .u8 (Int.ofNat c.toNat)] = some (undef, h') ∧ Ch (SlB s) h h' ∧ h'.next = h.next ∧ Ow 5 1 h' s (byt (x.set j c)) := by
  rcases r with ⟨f, _⟩ | ⟨b, m, cc, rfl, hl, I, hc⟩
  · have := congrArg List.length f
    rw [byt_len] at this
    have this : x.length = 0 := this
    omega
  · rw [byt_len, Nat.mul_one] at hl
    obtain ⟨h', i1, i2, i3, i4⟩ := I.set w j (.int .u8 (Int.ofNat c.toNat)) (by rw [byt_len]; exact hj) rfl
    have e0 : ixs 1 (some ⟨b, 0, none⟩) m (Int.ofNat j) = some (.pointer (some ⟨b, j, none⟩)) := by
      have : ixs 1 (some ⟨b, 0, none⟩) m (Int.ofNat j) = some (.pointer (some ⟨b, 0 + j * 1, none⟩)) := cond_eta _ _ _ (Nat.ble_eq_true_of_le (by show j + 1 ≤ m; omega))
      rw [this, Nat.zero_add, Nat.mul_one]
    refine ⟨b, h', e0, ?_, i1, i2.mono fun x _ hx => by subst hx; exact ⟨0, rfl⟩, i3, .inr ⟨b, m, cc, rfl, by rw [byt_len, List.length_set]; omega, ?_, hc⟩⟩
    · rw [I.ldc, byt_get, List.getElem?_eq_getElem hj]; rfl
    · have : (byt x).set j (.int .u8 (Int.ofNat c.toNat)) = byt (x.set j c) := by unfold byt; rw [List.map_set]
      rw [← this]; exact i4
theorem Pure.wf8 {n : Int} (h : (Lit.int .u8 n).wf = true) : ∃ m : UInt8, n = Int.ofNat m.toNat := by
  unfold Lit.wf at h
  simp only [Bool.and_eq_true, decide_eq_true_eq] at h
  have h0 : (0 : Int) ≤ n := h.1
  have h1 : n ≤ 255 := h.2
  exact ⟨UInt8.ofNat n.toNat, by simp; omega⟩
theorem Pure.asBytes : ∀ l : List Int, (∀ n ∈ l, (Lit.int .u8 n).wf = true) → ∃ x : List UInt8, l.map (fun n => Value.int .u8 n) = byt x ∧ x.length = l.length
  | [], _ => ⟨[], rfl, rfl⟩
  | n :: l, h => by
    obtain ⟨m, rfl⟩ := Pure.wf8 (h n List.mem_cons_self)
    obtain ⟨x, e1, e2⟩ := Pure.asBytes l fun n hn => h n (List.mem_cons_of_mem _ hn)
    exact ⟨m :: x, by rw [List.map_cons, e1]; rfl, by rw [List.length_cons, List.length_cons, e2]⟩
theorem Pure.lays_l0 (k : Nat) {h0 : H} (w0 : WF h0) {s : Sl} {l : List Int} (rs : SlR 1 h0 s (ivs l)) (by_ : UInt8) : ∀ n i h z x, 2 - i < n → i ≤ 2 → Ch0 h0 h → Ow 5 1 h z (byt x) → (∀ b, SlB z b → h0.next ≤ b) → 0 < x.length → x.length ≤ 100000 →
    ∃ h' x', corbellaw19_MetaLays.l0 k n s (Int.ofNat by_.toNat) z (Int.ofNat i) h = some ((), h') ∧ Ch0 h0 h' ∧ Ow 5 1 h' z (byt x') ∧ x'.length = x.length
  | 0, i, h, z, x, hn, _, _, _, _, _, _ => by omega
  | n + 1, i, h, z, x, hn, hi, hc, ho, hb, hx, hx2 => by
    rw [corbellaw19_MetaLays.l0_succ]
    have hl := rs.len
    rw [ivs_len, Nat.mul_one] at hl
    by_cases c : i < l.length ∧ i < 2
    · rw [← hl, decide_eq_true (show Int.ofNat i < Int.ofNat l.length by simp; omega), cond_true, decide_eq_true (show Int.ofNat i < (2 : Int) by simp; omega)]
      simp only [Option.bind_some, cond_true]
      obtain ⟨p, e1, e2⟩ := (rs.stay w0 hc).elem1 (j := i) (by omega)
      rw [ivs_get, List.getElem?_eq_getElem c.1] at e2
      rw [hl, e1]
      simp only [asP_ptr, Option.bind_some, e2, Option.map_some, asI_int]
      have zn : Int.ofNat z.n = Int.ofNat x.length := by rw [ho.slr.n_byt]
      rw [zn, pick_f k _ (Int.ofNat x.length) h (by simp only [Int.ofNat_eq_natCast]; omega) (by simp only [Int.ofNat_eq_natCast]; omega)]
      obtain ⟨j, hj⟩ : ∃ j : Nat, l[i] % Int.ofNat x.length = Int.ofNat j := ⟨_, nn _ (Int.emod_nonneg l[i] (b := Int.ofNat x.length) (by simp only [Int.ofNat_eq_natCast]; omega))⟩
      have hj2 : j < x.length := by have := Int.emod_lt_of_pos l[i] (b := Int.ofNat x.length) (by simp only [Int.ofNat_eq_natCast]; omega); rw [hj] at this; simp only [Int.ofNat_eq_natCast] at this; omega
      rw [hj]
      simp only [Option.bind_some]
      obtain ⟨b, h', f1, f2, f3, f4, f5, f6⟩ := Pure.setb hc.wf ho hj2 (x[j] ^^^ by_)
      rw [f1]
      simp only [asP_ptr, Option.bind_some, f2, asI_int]
      rw [xor_u8]
      simp only [asI_int, Option.bind_some]
      rw [f3]
      simp only [Option.bind_some]
      rw [wrap_succ (by omega)]
      obtain ⟨h2, x2, g1, g2, g3, g4⟩ := Pure.lays_l0 k w0 rs by_ n (i + 1) h' z (x.set j (x[j] ^^^ by_)) (by omega) (by omega) (Ch0.own hc f4 hb) f6 hb (by rw [List.length_set]; exact hx) (by rw [List.length_set]; exact hx2)
      exact ⟨h2, x2, g1, g2, g3, by rw [g4, List.length_set]⟩
    · have hg : (cond (decide (Int.ofNat i < Int.ofNat s.n)) (some (decide (Int.ofNat i < (2 : Int)), h)) (some (false, h)) : Option (Bool × H)) = some (false, h) := by
        by_cases q : i < l.length
        · rw [← hl, decide_eq_true (show Int.ofNat i < Int.ofNat l.length by simp; omega), decide_eq_false (show ¬ Int.ofNat i < (2 : Int) by simp; omega)]; rfl
        · rw [← hl, decide_eq_false (show ¬ Int.ofNat i < Int.ofNat l.length by simp; omega)]; rfl
      rw [hg]
      simp only [Option.bind_some, cond_false]
      exact ⟨h, x, rfl, hc, ho, rfl⟩
theorem Pure.lays_l1 (k : Nat) {h : H} {s t : Sl} {ps qs : Parts} (r : SlR 1 h s (ps.map fun p => slv p.1)) (u : SlR 1 h t (qs.map fun p => slv p.1)) (P : PartsR h ps) (Q : PartsR h qs) (e : ps.map (·.2) = qs.map (·.2)) (hl : ps.length < 9000000000000000000) : ∀ n i, ps.length - i < n → i ≤ ps.length → corbellaw19_MetaLays.l1 k n s t (Int.ofNat ps.length) (Int.ofNat i) h = some (.inr (), h)
  | 0, i, hf, _ => by omega
  | n + 1, i, hf, hi => by
    rw [corbellaw19_MetaLays.l1_succ]
    have ql : qs.length = ps.length := by have := congrArg List.length e; rw [List.length_map, List.length_map] at this; exact this.symm
    by_cases c : i < ps.length
    · rw [decLt c, cond_true]
      have sn : s.n = ps.length := by have := r.len; rw [List.length_map, Nat.mul_one] at this; exact this.symm
      have tn : t.n = qs.length := by have := u.len; rw [List.length_map, Nat.mul_one] at this; exact this.symm
      obtain ⟨p, e1, e2⟩ := r.elem1 (j := i) (by omega)
      rw [List.getElem?_map, List.getElem?_eq_getElem c] at e2
      rw [e1]
      simp only [asP_ptr, Option.bind_some, e2, Option.map_some, asS_slv]
      rw [txt_sl (P _ (List.getElem_mem c))]
      simp only [Option.bind_some]
      obtain ⟨p', f1, f2⟩ := u.elem1 (j := i) (by omega)
      have c' : i < qs.length := by omega
      rw [List.getElem?_map, List.getElem?_eq_getElem c'] at f2
      rw [f1]
      simp only [asP_ptr, Option.bind_some, f2, Option.map_some, asS_slv]
      rw [txt_sl (Q _ (List.getElem_mem c'))]
      simp only [Option.bind_some]
      have ev : ps[i].2 = qs[i].2 := by
        have h1 : (ps.map (·.2))[i]? = (qs.map (·.2))[i]? := by rw [e]
        rw [List.getElem?_map, List.getElem?_map, List.getElem?_eq_getElem c, List.getElem?_eq_getElem c'] at h1
        exact Option.some.inj h1
      rw [ba_eq, decide_eq_true ev, Bool.not_true, cond_false, wrap_succ (by omega)]
      exact Pure.lays_l1 k r u P Q e hl n (i + 1) (by omega) (by omega)
    · rw [decNlt c, cond_false]
theorem Pure.lays_f (k : Nat) (hk : 281474976710655 < k) {h : H} (w : WF h) {a : Sl} (A : RawsR h a) (bend : Int) {raw : Sl} {x : List UInt8} (rr : SlR 1 h raw (byt x)) (hx : x.length ≤ 140737488355328) (how : Int) {at_ : Sl} {l : List Int} (ra : SlR 1 h at_ (ivs l)) (by_ : UInt8) :
    ∃ h', corbellaw19_MetaLays.f k a bend raw how at_ (Int.ofNat by_.toNat) h = some (true, h') := by
  unfold corbellaw19_MetaLays.f
  obtain ⟨t, h1, vs, a1, a2, a3, a4, R⟩ := of_f k (by omega) w A
  rw [a1]
  simp only [Option.bind_some]
  have hn := R.le
  rw [vols_len] at hn
  have T1 := a3.read
  have B1 := R.b
  have J : ∃ h2 us, ((cond ((bend.tmod (7 : Int)) == (6 : Int)) (some (decide ((Int.ofNat t.n) > (0 : Int)), h1))
      (some (false, h1)) : Option (Bool × H)).bind fun g2 =>
    (cond g2.1
      ((corbelhand_Pick.f k bend (Int.ofNat t.n) g2.2).bind fun q3 =>
    (corbelhand_Odd.f k bend (⟨#[120]⟩ : ByteArray) q3.2).bind fun q4 =>
    (asP (ixs 5 t.a t.n q3.1)).bind fun p5 =>
    (asP (fadd 1 p5)).bind fun p6 =>
    (stv 1 q4.2 p6 [(Value.string q4.1)]).bind fun q7 =>
    some ((), q7.2))
      (some ((), g2.2)) : Option ((Unit) × H))) = some ((), h2) ∧ Ch0 h h2 ∧ TreeR h2 t us ∧ TreeB us := by
    cases c : (bend.tmod (7 : Int)) == (6 : Int) with
    | false => exact ⟨h1, vs, rfl, a2, T1, B1⟩
    | true =>
      rw [cond_true]
      simp only [Option.bind_some]
      by_cases z : 0 < vs.length
      rotate_left
      · rw [decide_eq_false (show ¬ Int.ofNat t.n > (0 : Int) by rw [T1.n]; simp only [Int.ofNat_eq_natCast]; omega)]
        exact ⟨h1, vs, rfl, a2, T1, B1⟩
      rw [decide_eq_true (show Int.ofNat t.n > (0 : Int) by rw [T1.n]; simp only [Int.ofNat_eq_natCast]; omega), cond_true]
      rw [pick_f k bend (Int.ofNat t.n) h1 (by rw [T1.n]; simp only [Int.ofNat_eq_natCast]; omega) (by rw [T1.n]; simp only [Int.ofNat_eq_natCast]; omega)]
      obtain ⟨j, hj⟩ : ∃ j : Nat, bend % Int.ofNat t.n = Int.ofNat j := ⟨_, nn _ (Int.emod_nonneg bend (b := Int.ofNat t.n) (by rw [T1.n]; simp only [Int.ofNat_eq_natCast]; omega))⟩
      have hj2 : j < vs.length := by have := Int.emod_lt_of_pos bend (b := Int.ofNat t.n) (by rw [T1.n]; simp only [Int.ofNat_eq_natCast]; omega); rw [hj, T1.n] at this; simp only [Int.ofNat_eq_natCast] at this; omega
      rw [hj]
      simp only [Option.bind_some]
      obtain ⟨nm, o1, o2⟩ := Pure.odd_f k bend h1
      rw [o1]
      simp only [Option.bind_some]
      obtain ⟨b, h2, p1, p2, p3, p4⟩ := Pure.set_pa a2.wf a3 hj2 nm
      rw [p1]
      simp only [asP_ptr, Option.bind_some, fadd]
      rw [p2]
      refine ⟨h2, _, rfl, Ch0.own a2 p3 a4.1, p4, by rw [List.length_set]; omega, fun q hq => ?_⟩
      rcases List.mem_or_eq_of_mem_set hq with e | e
      · exact B1.nm q e
      · rw [e]
        have := B1.nm _ (List.getElem_mem hj2)
        exact ⟨this.1, o2, this.2.2⟩
  obtain ⟨h2, us, j1, j2, T2, B2⟩ := J
  rw [← Option.bind_assoc, j1]
  simp only [Option.bind_some]
  obtain ⟨s3, h3, c1, c2, c3, c4⟩ := lay_f k (by omega) j2.wf T2 B2
  rw [c1]
  simp only [Option.bind_some]
  obtain ⟨s4, h4, d1, d2, d3, d4⟩ := rlayT_f k (by omega) c2.wf (T2.stay j2.wf c2) B2
  rw [d1]
  simp only [Option.bind_some]
  rw [txt_sl (c3.slr.stay c2.wf d2)]
  simp only [Option.bind_some]
  rw [txt_sl d3.slr]
  simp only [Option.bind_some, ba_eq, decide_true, Bool.not_true, cond_false]
  have c04 : Ch0 h h4 := (j2.then c2).then d2
  have G13 : (!(((if RightP (vols us) then (0 : Int) else 1) == (0 : Int)) == decide (RightP (vols us)))) = false := by
    by_cases q : RightP (vols us)
    · rw [if_pos q, decide_eq_true q]; rfl
    · rw [if_neg q, decide_eq_false q]; rfl
  rw [G13]
  simp only [cond_false]
  have G14 : (cond (!decide (RightP (vols us))) (some ((if RightP (vols us) then (0 : Int) else 1) != (1 : Int), h4)) (some (false, h4)) : Option (Bool × H)) = some (false, h4) := by
    by_cases q : RightP (vols us)
    · rw [if_pos q, decide_eq_true q]; rfl
    · rw [if_neg q, decide_eq_false q]; rfl
  rw [G14]
  simp only [Option.bind_some, cond_false]
  obtain ⟨s6, h6, e1, e2, e3, e4⟩ := few_f k c04.wf (rr.stay w c04) x.length (by omega) (Int.ofNat raw.n) (by rw [rr.n_byt])
  rw [e1]
  simp only [Option.bind_some]
  have c06 : Ch0 h h6 := c04.then e2
  rw [List.take_of_length_le (Nat.le_refl _)] at e3
  have K : ∃ z y h7, ((cond (decide (RightP (vols us))) (some (decide ((how.tmod (4 : Int)) > (0 : Int)), h6))
      (some (false, h6)) : Option (Bool × H)).bind fun g17 =>
    (cond g17.1
      ((corbelhand_Few.f k s4 (Int.ofNat s4.n) g17.2).bind fun q18 =>
    (corbellaw19_MetaLays.l0 k k at_ (Int.ofNat by_.toNat) q18.1 (0 : Int) q18.2).bind fun w33 =>
    some (q18.1, w33.2))
      (some (s6, g17.2)) : Option ((Sl) × H))) = some (z, h7) ∧ Ch0 h6 h7 ∧ SlR 1 h7 z (byt y) ∧ y.length ≤ 140737488355328 := by
    by_cases hr : RightP (vols us)
    rotate_left
    · rw [decide_eq_false hr]
      exact ⟨s6, x, h6, rfl, Ch.refl e2.wf, e3.slr, hx⟩
    · rw [decide_eq_true hr, cond_true]
      simp only [Option.bind_some]
      cases c : decide ((how.tmod (4 : Int)) > (0 : Int)) with
      | false => exact ⟨s6, x, h6, rfl, Ch.refl e2.wf, e3.slr, hx⟩
      | true =>
        have j36 := d3.stay d2.wf e2
        rw [if_pos hr] at j36
        have ll := hr.layLen
        have lp : 0 < (layP (vols us)).length := by unfold layP; rw [List.length_append, beN_len]; omega
        obtain ⟨z, h7, u1, u2, u3, u4⟩ := few_f k c06.wf j36.slr (layP (vols us)).length (by omega) (Int.ofNat s4.n) (by rw [j36.slr.n_byt])
        rw [cond_true, u1]
        simp only [Option.bind_some]
        rw [List.take_of_length_le (Nat.le_refl _)] at u3
        obtain ⟨h8, y, v1, v2, v3, v4⟩ := Pure.lays_l0 k c06.wf (ra.stay w c06) by_ k 0 h7 z (layP (vols us)) (by omega) (by omega) u2 u3 u4 lp (by omega)
        rw [show (0 : Int) = Int.ofNat 0 from rfl, v1]
        exact ⟨z, y, h8, rfl, v2, v3.slr, by omega⟩
  obtain ⟨z, y, h7, k1, k2, k3, k4⟩ := K
  rw [← Option.bind_assoc, k1]
  simp only [Option.bind_some]
  obtain ⟨r1, h8, qs, f1, f2, f3, f4⟩ := read_f k (by omega) k2.wf k3
  rw [f1]
  simp only [Option.bind_some]
  obtain ⟨r2, h9, ws, g1, g2, g3, g4⟩ := rread2_f k (by omega) f2.wf (k3.stay k2.wf f2)
  rw [g1]
  simp only [Option.bind_some]
  have K9 := k3.stay k2.wf (f2.then g2)
  obtain ⟨u1, ps, h10, m1, m2, m3, m4, m5⟩ := cut_f k g2.wf K9 k4 (by omega) (by omega)
  rw [m1]
  simp only [Option.bind_some]
  obtain ⟨u2, ps2, h11, n1, n2, n3, n4, n5⟩ := rcut_f k m2.wf (K9.stay g2.wf m2) k4 (by omega) (by omega)
  rw [n1]
  simp only [Option.bind_some]
  have e12 : ps.map (·.2) = ps2.map (·.2) := by rw [m5, n5]
  have un1 : u1.n = ps.length := by have := m3.len; rw [List.length_map, Nat.mul_one] at this; exact this.symm
  have un2 : u2.n = ps2.length := by have := n3.len; rw [List.length_map, Nat.mul_one] at this; exact this.symm
  have pl : ps2.length = ps.length := by have := congrArg List.length e12; rw [List.length_map, List.length_map] at this; exact this.symm
  rw [un1, un2, pl, show (Int.ofNat ps.length != Int.ofNat ps.length) = false by simp]
  simp only [cond_false, Option.bind_some]
  have G39 : (!(((if OkP y then (0 : Int) else 2) == (0 : Int)) == decide (OkP y))) = false := by
    by_cases q : OkP y
    · rw [if_pos q, decide_eq_true q]; rfl
    · rw [if_neg q, decide_eq_false q]; rfl
  rw [G39]
  simp only [cond_false]
  have G40 : (cond (!decide (OkP y)) (some ((if OkP y then (0 : Int) else 2) != (2 : Int), h11)) (some (false, h11)) : Option (Bool × H)) = some (false, h11) := by
    by_cases q : OkP y
    · rw [if_pos q, decide_eq_true q]; rfl
    · rw [if_neg q, decide_eq_false q]; rfl
  rw [G40]
  simp only [Option.bind_some, cond_false]
  have Bq : TreeB qs := by
    by_cases q : OkP y
    · rw [if_pos q] at f4
      exact RightP.b (by rw [f4]; exact q.1)
    · rw [if_neg q] at f4
      have : qs = [] := List.map_eq_nil_iff.1 f4
      rw [this]
      exact ⟨Nat.zero_le _, fun q hq => by cases hq⟩
  obtain ⟨h12, i1, i2⟩ := sameTree_f k (by omega) n2.wf (f3.stay f2.wf ((g2.then m2).then n2)) (g3.stay g2.wf (m2.then n2)) Bq
  rw [i1, f4, g4, decide_eq_true rfl]
  simp only [Option.bind_some, Bool.not_true, cond_false]
  have pb : ps.length < k ∧ ps.length < 9000000000000000000 := by
    have := congrArg List.length m5
    rw [List.length_map, cuts_len] at this
    exact ⟨by omega, by omega⟩
  rw [show (0 : Int) = Int.ofNat 0 from rfl, Pure.lays_l1 k (m3.stay m2.wf (n2.then i2)) (n3.stay n2.wf i2) (PartsR.stay m2.wf (n2.then i2) m4) (PartsR.stay n2.wf i2 n4) e12 pb.2 k 0 (by omega) (Nat.zero_le _)]
  exact ⟨h12, rfl⟩
theorem Pure.MetaLays : ∀ h x vs, Den.WF h → Den.Dead h → Ar.MetaLays.R h x vs → Ar.MetaLays.Q x → ∃ a, Den.encL [.sl, .int .i64, .sl, .int .i64, .sl, .int .u8] a = vs ∧ Den.toldB (Fwd.corbellaw19_MetaLays.f 281474976710656 a.1 a.2.1 a.2.2.1 a.2.2.2.1 a.2.2.2.2.1 a.2.2.2.2.2 h) = true := by
  rintro h ⟨l, bend, raw, how, at_, by_, _⟩ vs w _ ⟨va, vb, rfl, r1, vc, vd, rfl, r2, ve, vf, rfl, r3, vg, vh, rfl, r4, vi, vj, rfl, r5, vk, vl, rfl, r6, rfl⟩ ⟨_, _, ⟨q1, _, q2⟩, _, _, q3, _⟩
  obtain ⟨a, rfl, A⟩ := raws_arg w r1
  obtain rfl := r2
  obtain rfl := r4
  obtain rfl := r6
  obtain ⟨s, rfl, s1, s2, _⟩ := RSl.one (f := fun n => .int .u8 n) (fun _ _ _ e => e) w r3
  obtain ⟨t, rfl, t1, _⟩ := RSl.one (f := fun n => .int .i64 n) (fun _ _ _ e => e) w r5
  obtain ⟨bb, rfl⟩ := Pure.wf8 q3
  obtain ⟨x, e1, e2⟩ := Pure.asBytes raw q2
  rw [e1] at s1
  have hb : Try.prog.bytesOf 5 = 1 := by kernel_rfl
  have hlen : x.length ≤ 140737488355328 := by
    have q1 : raw.length * Try.prog.bytesOf 5 ≤ reachBytes := q1
    rw [hb] at q1
    have : reachBytes ≤ 140737488355328 := by unfold reachBytes; decide
    omega
  obtain ⟨h', e⟩ := Pure.lays_f 281474976710656 (by decide) w A bend s1 hlen how t1 bb
  exact ⟨(a, bend, s, how, t, Int.ofNat bb.toNat), rfl, (congrArg toldB e).trans rfl⟩
end Go.Proofs.Ytfenkpghcbohdaa
