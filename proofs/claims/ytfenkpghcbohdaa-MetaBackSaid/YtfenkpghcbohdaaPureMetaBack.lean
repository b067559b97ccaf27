/- MetaBack: the law's forward run comes to true. -/
import Derived.Test.YtfenkpghcbohdaaFwTreeC
import Derived.Test.YtfenkpghcbohdaaArMetaBack
namespace Go.Proofs.Ytfenkpghcbohdaa
open Go Den Fwd Fw
set_option linter.unusedVariables false
set_option linter.unusedSimpArgs false
theorem Pure.back_l0 (k : Nat) {h0 : H} (w0 : WF h0) {s : Sl} {ps : Parts} (r : SlR 1 h0 s (ps.map fun p => slv p.1)) (P : PartsR h0 ps) (hl : ps.length ≤ 1000) (h128 : ∀ p ∈ ps, p.2.length = 128) (x16 : Sl) : ∀ n i h t, ps.length - i < n → i ≤ ps.length → Ch0 h0 h → Ow 5 1 h t (byt ((ps.take i).map (·.2)).flatten) → (∀ x, SlB t x → h0.next ≤ x) →
    ∃ t' h', corbellaw19_MetaBack.l0 k n x16 s (Int.ofNat ps.length) t (Int.ofNat i) h = some (.inr t', h') ∧ Ch0 h0 h' ∧ Ow 5 1 h' t' (byt (ps.map (·.2)).flatten) ∧ ∀ x, SlB t' x → h0.next ≤ x
  | 0, i, h, t, hf, _, _, _, _ => by omega
  | n + 1, i, h, t, hf, hi, C, O, F => by
    rw [corbellaw19_MetaBack.l0_succ]
    by_cases c : i < ps.length
    · rw [decLt c, cond_true]
      have sn : s.n = ps.length := by have := r.len; rw [List.length_map, Nat.mul_one] at this; exact this.symm
      obtain ⟨p, e1, e2⟩ := (r.stay w0 C).elem1 (j := i) (by omega)
      rw [List.getElem?_map, List.getElem?_eq_getElem c] at e2
      rw [e1]
      simp only [asP_ptr, Option.bind_some, e2, Option.map_some, asS_slv]
      have hp := P _ (List.getElem_mem c)
      have h1 := h128 _ (List.getElem_mem c)
      rw [hp.n_byt, h1, show (Int.ofNat 128 != (128 : Int)) = false from rfl, cond_false]
      have tl : (((ps.take i).map (·.2)).flatten).length = i * 128 := by
        rw [List.length_flatten, List.map_map]
        have : ∀ y ∈ ps.take i, (List.length ∘ fun x : Sl × List UInt8 => x.2) y = 128 := fun y hy => h128 y (List.mem_of_mem_take hy)
        rw [List.map_congr_left this, List.map_const', List.sum_replicate_nat, List.length_take]
        rw [Nat.min_eq_left (by omega)]
      obtain ⟨t1, h2, a1, a2, a3, a4⟩ := app_b C.wf O (hp.stay w0 C) (by rw [tl, h1]; omega)
      rw [hp.n_byt, h1] at a1
      rw [a1]
      simp only [Option.bind_some]
      rw [wrap_succ (by omega)]
      refine Pure.back_l0 k w0 r P hl h128 x16 n (i + 1) h2 t1 (by omega) (by omega) (Ch0.own C a2 F) ?_ fun x hx => (a4 x hx).elim (F x) fun f => Nat.le_trans C.le f
      rw [List.take_succ_eq_append_getElem c, List.map_append, List.flatten_append]
      simpa using a3
    · rw [decNlt c, cond_false]
      rw [List.take_of_length_le (by omega)] at O
      exact ⟨t, h, rfl, C, O, F⟩
theorem Pure.back_l1 (k : Nat) {h : H} {s : Sl} {m : Nat} (r : SlR 1 h s (byt (List.replicate m 0))) (hm : m ≤ 1000) : ∀ n i, m - i < n → i ≤ m → corbellaw19_MetaBack.l1 k n s (Int.ofNat m) (Int.ofNat i) h = some (.inr (), h)
  | 0, i, hf, _ => by omega
  | n + 1, i, hf, hi => by
    rw [corbellaw19_MetaBack.l1_succ]
    by_cases c : i < m
    · rw [decLt c, cond_true]
      obtain ⟨p, e1, e2⟩ := r.byte (j := i) (c := 0) (by rw [List.getElem?_replicate, if_pos c])
      rw [e1]
      simp only [asP_ptr, Option.bind_some, e2]
      rw [show asI .u8 (some (Value.int .u8 (.ofNat (0 : UInt8).toNat))) = some 0 from asI_int _ _]
      simp only [Option.bind_some]
      rw [show ((0 : Int) != 0) = false from rfl, cond_false, wrap_succ (by omega)]
      exact Pure.back_l1 k r hm n (i + 1) (by omega) (by omega)
    · rw [decNlt c, cond_false]
theorem Pure.back_f (k : Nat) (hk : 1000000 < k) {h : H} (w : WF h) {a b : Sl} (A : RawsR h a) (B : RawsR h b) : ∃ h', corbellaw19_MetaBack.f k a b h = some (true, h') := by
  unfold corbellaw19_MetaBack.f
  obtain ⟨s, h1, vs, a1, a2, a3, a4, R⟩ := of_f k (by omega) w A
  rw [a1]
  simp only [Option.bind_some]
  obtain ⟨t, h2, us, b1, b2, b3, b4, S⟩ := of_f k (by omega) a2.wf (B.stay a2)
  rw [b1]
  simp only [Option.bind_some]
  have T1 := a3.read.stay a2.wf b2
  obtain ⟨x, h3, c1, c2, c3, c4⟩ := lay_f k (by omega) b2.wf T1 R.b
  rw [c1]
  simp only [Option.bind_some]
  rw [if_pos R] at c3
  have T2 := b3.read.stay b2.wf c2
  obtain ⟨y, h4, d1, d2, d3, d4⟩ := lay_f k (by omega) c2.wf T2 S.b
  rw [d1]
  simp only [Option.bind_some]
  rw [if_pos S] at d3
  have x4 := c3.slr.stay c2.wf d2
  obtain ⟨z, h5, qs, e1, e2, e3, e4⟩ := read_f k hk d2.wf x4
  rw [e1]
  simp only [Option.bind_some]
  have ok : OkP (layP (vols vs)) := OkP.lay R
  rw [if_pos ok, parse_lay R] at e4
  rw [if_pos R, if_pos S, if_pos ok]
  rw [show (!true) = false from rfl, show ((0 : Int) != 0) = false from rfl]
  simp only [cond_false, Option.bind_some]
  have T5 := T1.stay b2.wf ((c2.then d2).then e2)
  have U5 := T2.stay c2.wf (d2.then e2)
  have Bq : TreeB qs := RightP.b (by rw [e4]; exact R)
  obtain ⟨h6, f1, f2⟩ := sameTree_f k (by omega) e2.wf e3 T5 Bq
  rw [f1, e4, decide_eq_true rfl]
  simp only [Option.bind_some, Bool.not_true, cond_false]
  have x6 := x4.stay d2.wf (e2.then f2)
  have y6 := d3.slr.stay d2.wf (e2.then f2)
  rw [txt_sl x6]
  simp only [Option.bind_some]
  rw [txt_sl y6]
  simp only [Option.bind_some]
  obtain ⟨h7, g1, g2⟩ := sameTree_f k (by omega) f2.wf (T5.stay e2.wf f2) (U5.stay e2.wf f2) R.b
  rw [g1]
  simp only [Option.bind_some]
  rw [ba_eq, decide_eq_decide.2 (lay_inj R S), show (!(decide (vols vs = vols us) == decide (vols vs = vols us))) = false by simp]
  have kx : ∀ b, SlB x b → h7.get b = h6.get b := fun b hb => g2.keep b (x6.blk f2.wf hb) fun f => f
  have ky : ∀ b, SlB y b → h7.get b = h6.get b := fun b hb => g2.keep b (y6.blk f2.wf hb) fun f => f
  rw [dynL_ok _ _ _ (by
    intro p hp q hq b hb
    simp only [List.nil_append, List.append_nil, List.mem_append, List.mem_cons, List.not_mem_nil, or_false] at hp hq
    subst hq
    rcases hp with (((rfl | rfl) | rfl) | rfl) | rfl
    · cases hb
    · exact blk_same kx b hb
    · cases hb
    · exact blk_same ky b hb
    · cases hb)]
  simp only [cond_true, cond_false]
  have x7 := x6.stay f2.wf g2
  have ll := R.layLen
  obtain ⟨cs, ps, h8, i1, i2, i3, i4, i5⟩ := cut_f k g2.wf x7 (by omega) (by omega) (by omega)
  rw [i1]
  simp only [Option.bind_some]
  have pl : ps.length = ((layP (vols vs)).length + 127) / 128 := by
    have := congrArg List.length i5
    rw [List.length_map, cuts_len] at this
    exact this
  have cn : cs.n = ps.length := by have := i3.len; rw [List.length_map, Nat.mul_one] at this; exact this.symm
  obtain ⟨t9, h9, j1, j2, j3, j4⟩ := Pure.back_l0 k i2.wf i3 i4 (by omega) (fun p hp => by
    have : p.2 ∈ cuts (layP (vols vs)) := by rw [← i5]; exact List.mem_map.2 ⟨p, hp, rfl⟩
    unfold cuts at this
    obtain ⟨m, _, hm⟩ := List.mem_map.1 this
    rw [← hm]; exact pad128_len _) x k 0 h8 ⟨none, 0, 0⟩ (by omega) (Nat.zero_le _) (Ch.refl i2.wf) Ow.nil (fun x f => absurd f noSlB)
  rw [cn, show (0 : Int) = Int.ofNat 0 from rfl, j1]
  simp only [Option.bind_some]
  rw [i5, cuts_all] at j3
  have x9 := x7.stay g2.wf (i2.then j2)
  have xn := x9.n_byt
  have cl : (cutsAll (layP (vols vs))).length = ((layP (vols vs)).length + 127) / 128 * 128 := by
    unfold cutsAll
    rw [List.length_append, List.length_replicate]; omega
  have tn : t9.n = ((layP (vols vs)).length + 127) / 128 * 128 := by rw [j3.slr.n_byt, cl]
  rw [xn, tn]
  generalize hL : (layP (vols vs)).length = L at ll pl cl tn xn ⊢
  rw [decNlt (show ¬ (L + 127) / 128 * 128 < L by omega)]
  simp only [cond_false, Option.bind_some]
  rw [wrap_in (n := Int.ofNat ((L + 127) / 128 * 128) - Int.ofNat L) (by simp only [Int.ofNat_eq_natCast]; omega) (by simp only [Int.ofNat_eq_natCast]; omega), decide_eq_false (show ¬ Int.ofNat ((L + 127) / 128 * 128) - Int.ofNat L ≥ (128 : Int) by simp only [Int.ofNat_eq_natCast]; omega)]
  simp only [cond_false, Option.bind_some]
  obtain ⟨u1, m1, m2, m3, m4⟩ := subb_ok j3.slr (lo := 0) (hi := L) (Nat.zero_le _) (by omega) (xlo := none) (xhi := some (Int.ofNat L)) rfl rfl
  rw [tn] at m1
  rw [m1]
  simp only [asS_slv, Option.bind_some]
  have e10 : ((cutsAll (layP (vols vs))).drop 0).take (L - 0) = layP (vols vs) := by
    rw [List.drop_zero, Nat.sub_zero]
    unfold cutsAll
    rw [List.take_append_of_le_length (by omega), List.take_of_length_le (by omega)]
  rw [e10] at m3
  rw [txt_sl m3]
  simp only [Option.bind_some]
  have tx : asT (txt h9 (Value.slice x.a L x.c)) = some ⟨(layP (vols vs)).toArray⟩ := by
    have := txt_sl x9
    rw [xn] at this
    exact this
  rw [tx]
  simp only [Option.bind_some]
  rw [ba_eq, decide_eq_true rfl]
  simp only [Bool.not_true, cond_false]
  obtain ⟨u2, n1, n2, n3, n4⟩ := subb_ok j3.slr (lo := L) (hi := (L + 127) / 128 * 128) (by omega) (by omega) (xlo := some (Int.ofNat L)) (xhi := none) rfl (by rw [tn]; rfl)
  rw [tn] at n1
  rw [n1]
  simp only [asS_slv, Option.bind_some]
  have e11 : ((cutsAll (layP (vols vs))).drop L).take ((L + 127) / 128 * 128 - L) = List.replicate ((L + 127) / 128 * 128 - L) 0 := by
    unfold cutsAll
    rw [hL, ← hL, List.drop_left, List.take_of_length_le (by rw [List.length_replicate]; exact Nat.le_refl _)]
  rw [e11] at n3
  have un : u2.n = (L + 127) / 128 * 128 - L := by rw [n3.n_byt, List.length_replicate]
  rw [un, Pure.back_l1 k n3 (by omega) k 0 (by omega) (Nat.zero_le _)]
  exact ⟨h9, rfl⟩
theorem Pure.MetaBack : ∀ h x vs, Den.WF h → Den.Dead h → Ar.MetaBack.R h x vs → Ar.MetaBack.Q x → ∃ a, Den.encL [.sl, .sl] a = vs ∧ Den.toldB (Fwd.corbellaw19_MetaBack.f 2000000 a.1 a.2 h) = true := by
  rintro h ⟨l, m, _⟩ vs w _ ⟨va, vb, rfl, r1, vc, vd, rfl, r2, rfl⟩ _
  obtain ⟨a, rfl, A⟩ := raws_arg w r1
  obtain ⟨b, rfl, B⟩ := raws_arg w r2
  obtain ⟨h', e⟩ := Pure.back_f 2000000 (by decide) w A B
  exact ⟨(a, b), rfl, (congrArg toldB e).trans rfl⟩
end Go.Proofs.Ytfenkpghcbohdaa
