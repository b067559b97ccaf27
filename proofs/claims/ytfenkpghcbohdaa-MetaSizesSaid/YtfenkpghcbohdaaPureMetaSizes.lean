/- MetaSizes: the law's forward run comes to true. -/
import Derived.Test.YtfenkpghcbohdaaFwTreeC
import Derived.Test.YtfenkpghcbohdaaArMetaSizes
namespace Go.Proofs.Ytfenkpghcbohdaa
open Go Den Fwd Fw
set_option linter.unusedVariables false
set_option linter.unusedSimpArgs false
def Pure.size (t : List Vol) : Nat := (t.map fun v => 5 + v.nm.length + v.pa.length + v.mp.length).sum
theorem Pure.size_lay (t : List Vol) : (layP t).length = 1 + Pure.size t := by
  unfold layP Pure.size
  rw [List.length_append, beN_len, List.length_flatten, List.map_map]
  have : ∀ v ∈ t, (List.length ∘ layV) v = 5 + v.nm.length + v.pa.length + v.mp.length := fun v _ => layV_len v
  rw [List.map_congr_left this]
theorem Pure.sizes_l0 (k : Nat) {h0 : H} (w0 : WF h0) {s : Sl} {vs : List Vs} (T : TreeR h0 s vs) (R : RightP (vols vs)) (x3 : Int) (x4 x5 : Sl) (x6 : Int) : ∀ n i h, vs.length - i < n → i ≤ vs.length → Ch0 h0 h →
    ∃ h', corbellaw19_MetaSizes.l0 k n x3 x4 x5 x6 s (Int.ofNat vs.length) (Int.ofNat (1 + Pure.size ((vols vs).take i))) (Int.ofNat i) h = some (Int.ofNat (1 + Pure.size (vols vs)), h') ∧ Ch0 h0 h'
  | 0, i, h, hf, _, _ => by omega
  | n + 1, i, h, hf, hi, C => by
    rw [corbellaw19_MetaSizes.l0_succ]
    have hn := R.le
    rw [vols_len] at hn
    by_cases c : i < vs.length
    · rw [decLt c, cond_true]
      obtain ⟨b, o, e1, e2, e3⟩ := (T.stay w0 C).at c
      rw [e1]
      simp only [asP_ptr, Option.bind_some]
      rw [e2, bindVo]
      dsimp only [voT]
      have V := R.vb (mem_vols c)
      have hM := T.mp _ (List.getElem_mem c)
      have hd : (vols vs).take (i + 1) = (vols vs).take i ++ [vs[i].1] := by
        rw [List.take_succ_eq_append_getElem (by rw [vols_len]; exact c)]
        simp only [vols, List.getElem_map]
      generalize vs[i] = q at V hM hd
      rw [show [Value.string (ba q.1.nm), Value.string (ba q.1.pa), Value.bool q.1.sn, Value.int .i64 q.1.sz, Value.slice q.2.a q.2.n q.2.c] = voL q from rfl]
      obtain ⟨g, b1, b2, b3, b4⟩ := box_ok C.wf 58 5 [Value.string (⟨#[]⟩ : ByteArray), Value.string (⟨#[]⟩ : ByteArray), Value.bool false, Value.int .i64 (0 : Int), Value.slice none 0 0] (voL q) rfl rfl rfl
      rw [b1]
      simp only [Option.bind_some]
      have L0 : asT (ldc g (some ⟨h.next, 0, none⟩)) = some (ba q.1.nm) := by rw [b4.ldc]; exact asTs _
      have L1 : asT (ldc g (some ⟨h.next, 1, none⟩)) = some (ba q.1.pa) := by rw [b4.ldc]; exact asTs _
      have L4 : asS (ldc g (some ⟨h.next, 4, none⟩)) = some q.2 := by rw [b4.ldc]; exact asS_slv _
      rw [L0, L1, L4]
      simp only [Option.bind_some]
      rw [ba_data, ba_data, SlR.ivn hM]
      have V1 := V.nm
      have V2 := V.pa
      have V3 := V.mp
      have sl : Pure.size ((vols vs).take i) ≤ 53 * i := by
        have key : ∀ t : List Vol, (∀ v ∈ t, VolB v) → Pure.size t ≤ 53 * t.length := by
          intro t ht
          induction t with
          | nil => exact Nat.zero_le _
          | cons v t ih =>
            have := ih fun x hx => ht x (List.mem_cons_of_mem _ hx)
            have W := ht v List.mem_cons_self
            have := W.nm; have := W.pa; have := W.mp
            unfold Pure.size at *
            rw [List.map_cons, List.sum_cons, List.length_cons]
            omega
        have := key ((vols vs).take i) fun v hv => R.vb (List.mem_of_mem_take hv)
        rw [List.length_take] at this
        have : 53 * min i (vols vs).length ≤ 53 * i := Nat.mul_le_mul_left _ (Nat.min_le_left _ _)
        omega
      have sz : Pure.size ((vols vs).take (i + 1)) = Pure.size ((vols vs).take i) + (5 + q.1.nm.length + q.1.pa.length + q.1.mp.length) := by
        rw [hd]
        unfold Pure.size
        rw [List.map_append, List.sum_append]; simp
      generalize hX : Pure.size ((vols vs).take i) = X at sl sz ⊢
      rw [wrap_in (n := Int.ofNat (1 + X) + 5) (by simp only [Int.ofNat_eq_natCast]; omega) (by simp only [Int.ofNat_eq_natCast]; omega), wrap_in (n := Int.ofNat (1 + X) + 5 + Int.ofNat q.1.nm.length) (by simp only [Int.ofNat_eq_natCast]; omega) (by simp only [Int.ofNat_eq_natCast]; omega), wrap_in (n := Int.ofNat (1 + X) + 5 + Int.ofNat q.1.nm.length + Int.ofNat q.1.pa.length) (by simp only [Int.ofNat_eq_natCast]; omega) (by simp only [Int.ofNat_eq_natCast]; omega), wrap_in (n := Int.ofNat (1 + X) + 5 + Int.ofNat q.1.nm.length + Int.ofNat q.1.pa.length + Int.ofNat q.1.mp.length) (by simp only [Int.ofNat_eq_natCast]; omega) (by simp only [Int.ofNat_eq_natCast]; omega)]
      have es : Int.ofNat (1 + X) + 5 + Int.ofNat q.1.nm.length + Int.ofNat q.1.pa.length + Int.ofNat q.1.mp.length = Int.ofNat (1 + Pure.size ((vols vs).take (i + 1))) := by rw [sz]; simp only [Int.ofNat_eq_natCast]; omega
      rw [es, wrap_succ (by omega)]
      exact Pure.sizes_l0 k w0 T R x3 x4 x5 x6 n (i + 1) g (by omega) (by omega) (C.then b2)
    · rw [decNlt c, cond_false]
      rw [List.take_of_length_le (by rw [vols_len]; omega)]
      exact ⟨h, rfl, C⟩
theorem Pure.root_back (q : Rt) (h : q.right = true) : parseR (layR q) = q := by
  obtain ⟨h1, h2, h3, h4⟩ := (Rt.right_iff q).1 h
  unfold parseR
  have e1 : cutL (layR q) 0 6 = beN q.vr.toNat 6 := rfl
  have e2 : cutL (layR q) 6 7 = beN q.cp.toNat 1 := rfl
  have e3 : cutL (layR q) 7 9 = beN q.ln.toNat 2 := rfl
  have e4 : cutL (layR q) 9 13 = beN q.sm.toNat 4 := rfl
  rw [e1, e2, e3, e4, unbe_be (by omega), unbe_be (by omega), unbe_be (by omega), unbe_be (by omega), ← nn _ (by omega), ← nn _ (by omega), ← nn _ (by omega), ← nn _ (by omega)]
theorem Pure.root_res (q : Rt) (h : q.right = true) : resR (layR q) = q ∧ okR (layR q) = true := by
  have e := Pure.root_back q h
  have o : okR (layR q) = true := by
    unfold okR
    rw [e, h, decide_eq_true rfl]; rfl
  unfold resR
  rw [o, if_pos rfl, e]
  exact ⟨rfl, rfl⟩
theorem Pure.sizes_f (k : Nat) (hk : 1000000 < k) {h : H} (w : WF h) {a : Sl} (A : RawsR h a) (more : UInt8) : ∃ h', corbellaw19_MetaSizes.f k a (Int.ofNat more.toNat) h = some (true, h') := by
  unfold corbellaw19_MetaSizes.f
  rw [show (!true) = false from rfl, cond_false]
  obtain ⟨s, h1, vs, a1, a2, a3, a4, R⟩ := of_f k (by omega) w A
  rw [a1]
  simp only [Option.bind_some]
  have T1 := a3.read
  obtain ⟨x, h2, c1, c2, c3, c4⟩ := lay_f k (by omega) a2.wf T1 R.b
  rw [c1]
  simp only [Option.bind_some]
  rw [if_pos R] at c3 ⊢
  have T2 := T1.stay a2.wf c2
  have hn := R.le
  rw [vols_len] at hn
  obtain ⟨h3, d1, d2⟩ := Pure.sizes_l0 k c2.wf T2 R (Int.ofNat more.toNat) s x 0 k 0 h2 (by omega) (Nat.zero_le _) (Ch.refl c2.wf)
  rw [show Int.ofNat (1 + Pure.size ((vols vs).take 0)) = (1 : Int) from rfl] at d1
  rw [T2.n, show (0 : Int) = Int.ofNat 0 from rfl]
  have d1 : corbellaw19_MetaSizes.l0 k k (Int.ofNat more.toNat) s x (Int.ofNat 0) s (Int.ofNat vs.length) 1 (Int.ofNat 0) h2 = _ := d1
  rw [d1]
  simp only [Option.bind_some]
  rw [show (Int.ofNat 0 != Int.ofNat 0) = false from rfl]
  simp only [cond_false, Option.bind_some]
  have x3 := c3.slr.stay c2.wf d2
  have xn := x3.n_byt
  have sz := Pure.size_lay (vols vs)
  have ll := R.layLen
  have lay_s := lay_short R
  have lay_l := lay_long R more
  generalize hL : 1 + Pure.size (vols vs) = L at sz ⊢
  rw [sz] at xn ll
  rw [xn, show (Int.ofNat L != Int.ofNat L) = false by simp]
  simp only [cond_false, Option.bind_some]
  obtain ⟨cs, ps, h4, i1, i2, i3, i4, i5⟩ := cut_f k d2.wf x3 (by omega) (by omega) (by omega)
  rw [i1]
  simp only [Option.bind_some]
  have pl : ps.length = (L + 127) / 128 := by
    have := congrArg List.length i5
    rw [List.length_map, cuts_len, sz] at this
    exact this
  have cn : cs.n = ps.length := by have := i3.len; rw [List.length_map, Nat.mul_one] at this; exact this.symm
  have et : wrapA .i64 (((wrapA .i64 ((wrapA .i64 (Int.ofNat L + 128)) - 1))).tdiv 128) = Int.ofNat ((L + 127) / 128) := by
    rw [wrap_in (n := Int.ofNat L + 128) (by simp only [Int.ofNat_eq_natCast]; omega) (by simp only [Int.ofNat_eq_natCast]; omega), wrap_in (n := Int.ofNat L + 128 - 1) (by simp only [Int.ofNat_eq_natCast]; omega) (by simp only [Int.ofNat_eq_natCast]; omega)]
    rw [show Int.ofNat L + 128 - 1 = Int.ofNat (L + 127) by simp only [Int.ofNat_eq_natCast]; omega, Int.tdiv_eq_ediv_of_nonneg (show (0 : Int) ≤ Int.ofNat (L + 127) from Int.natCast_nonneg _)]
    have : (Int.ofNat (L + 127)) / 128 = Int.ofNat ((L + 127) / 128) := by simp only [Int.ofNat_eq_natCast]; omega
    rw [this, wrap_in (n := Int.ofNat ((L + 127) / 128)) (by simp only [Int.ofNat_eq_natCast]; omega) (by simp only [Int.ofNat_eq_natCast]; omega)]
  rw [et, cn, pl, show (Int.ofNat ((L + 127) / 128) != Int.ofNat ((L + 127) / 128)) = false by simp]
  simp only [cond_false, Option.bind_some]
  rw [decide_eq_false (show ¬ Int.ofNat vs.length > (12 : Int) by simp only [Int.ofNat_eq_natCast]; omega)]
  simp only [cond_false]
  have pos : 1 ≤ L := by omega
  rw [wrap_in (n := Int.ofNat L - 1) (by simp only [Int.ofNat_eq_natCast]; omega) (by simp only [Int.ofNat_eq_natCast]; omega), show Int.ofNat L - 1 = Int.ofNat (L - 1) by simp only [Int.ofNat_eq_natCast]; omega]
  have x4 := x3.stay d2.wf i2
  obtain ⟨u1, m1, m2, m3, m4⟩ := subb_ok x4 (lo := 0) (hi := L - 1) (Nat.zero_le _) (by omega) (xlo := none) (xhi := some (Int.ofNat (L - 1))) rfl rfl
  rw [xn] at m1
  rw [m1]
  simp only [asS_slv, Option.bind_some]
  rw [List.drop_zero, Nat.sub_zero] at m3
  obtain ⟨z, h5, qs, e1, e2, e3, e4⟩ := read_f k hk i2.wf m3
  rw [e1]
  simp only [Option.bind_some]
  rw [sz] at lay_s
  rw [if_neg lay_s]
  obtain ⟨n1, n2, n3⟩ := newR_ok e2.wf 5 1 []
  have ow : Ow 5 1 (newR h5 5 1 []) ⟨some ⟨h5.next, 0, none⟩, 0, 0⟩ (byt []) := Ow.of_is n3 rfl (by unfold unk; omega)
  have x5 := x4.stay i2.wf (e2.then n1)
  obtain ⟨t, h6, b1, b2, b3, b4⟩ := app_b n1.wf ow x5 (by rw [sz]; show 0 + _ ≤ _; omega)
  rw [xn] at b1
  have b1 : asS2 (apv 5 1 1 (Value.slice (some ⟨h5.next, 0, none⟩) 0 0) (Value.slice x.a L x.c) (newR h5 5 1 [])) = some (t, h6) := b1
  rw [b1]
  simp only [Option.bind_some]
  have hb : ∀ b, SlB ⟨some ⟨h5.next, 0, none⟩, 0, 0⟩ b → h5.next ≤ b := fun b hb => by obtain ⟨o, q⟩ := hb; have : h5.next = b := congrArg Addr.block (Option.some.inj q); omega
  have C6 : Ch0 h5 h6 := Ch0.own n1 b2 hb
  have b3 : Ow 5 1 h6 t (byt (layP (vols vs))) := b3
  obtain ⟨t2, h7, f1, f2, f3, f4⟩ := push_b C6.wf b3 more _ rfl (by omega)
  rw [f1]
  simp only [Option.bind_some]
  have C7 : Ch0 h5 h7 := Ch0.own C6 f2 fun b hb' => (b4 b hb').elim (hb b) fun f => by omega
  obtain ⟨z2, h8, qs2, g1, g2, g3, g4⟩ := read_f k hk C7.wf f3.slr
  rw [g1]
  simp only [Option.bind_some]
  rw [if_neg lay_l]
  let q : Rt := ⟨1, 0, Int.ofNat L, 0⟩
  obtain ⟨s9, h9, j1, j2, j3, j4⟩ := mlay_f k (by omega) g2.wf q
  have rr : q.right = true := by
    refine (Rt.right_iff _).2 ⟨⟨?_, ?_⟩, ⟨?_, ?_⟩, ⟨?_, ?_⟩, ?_, ?_⟩
    · show (1 : Int) ≤ 1; decide
    · show (1 : Int) ≤ 1099511627776; decide
    · show (0 : Int) ≤ 0; decide
    · show (0 : Int) ≤ 1; decide
    · show (1 : Int) ≤ Int.ofNat L; simp only [Int.ofNat_eq_natCast]; omega
    · show Int.ofNat L ≤ 1024; simp only [Int.ofNat_eq_natCast]; omega
    · show (0 : Int) ≤ 0; decide
    · show (0 : Int) ≤ 4294967290; decide
  rw [rr, if_pos rfl] at j1
  rw [rr, if_pos rfl] at j3
  have j1 : meta_LayRoot.f k ((1 : Int), Int.ofNat 0, Int.ofNat L, Int.ofNat 0) h8 = some ((s9, 0), h9) := j1
  rw [j1]
  simp only [Option.bind_some]
  obtain ⟨h10, p1, p2⟩ := mread_f k hk j2.wf j3.slr
  obtain ⟨q1, q2⟩ := Pure.root_res q rr
  rw [q1, q2, if_pos rfl] at p1
  rw [p1]
  simp only [Rt.tup, Option.bind_some]
  obtain ⟨h11, v1, v2, v3, v4⟩ := box_ok p2.wf 46 4 (rtV 0 0 0 0) (rtV q.vr q.cp q.ln q.sm) rfl rfl rfl
  rw [show [Value.int .i64 (Int.ofNat 0), Value.int .i64 (Int.ofNat 0), Value.int .i64 (Int.ofNat 0), Value.int .i64 (Int.ofNat 0)] = rtV 0 0 0 0 from rfl, show [Value.int .i64 q.vr, Value.int .i64 q.cp, Value.int .i64 q.ln, Value.int .i64 q.sm] = rtV q.vr q.cp q.ln q.sm from rfl, v1]
  simp only [Option.bind_some]
  rw [show ((2 : Int) == 2) = true from rfl, show ((0 : Int) == Int.ofNat 0) = true from rfl]
  simp only [cond_true, Option.bind_some]
  rw [show asI .i64 (ldc h11 (some ⟨h10.next, 2, none⟩)) = some (Int.ofNat L) by rw [v4.ldc]; exact asI_int _ _]
  simp only [Option.bind_some]
  rw [show (Int.ofNat L == Int.ofNat L) = true by simp]
  simp only [cond_true, Option.bind_some]
  have T11 := T2.stay c2.wf (((((((d2.then i2).then e2).then C7).then g2).then j2).then p2).then v2)
  obtain ⟨v, h12, w1, w2, w3⟩ := rtree_f k (by omega) v2.wf T11 R.b
  rw [w1, w3.2 R]
  simp only [cond_true, Option.bind_some]
  rw [decide_eq_true (show Int.ofNat L ≤ (1024 : Int) by simp only [Int.ofNat_eq_natCast]; omega)]
  exact ⟨h12, rfl⟩
theorem Pure.wf8 {n : Int} (h : (Lit.int .u8 n).wf = true) : ∃ m : UInt8, n = Int.ofNat m.toNat := by
  unfold Lit.wf at h
  simp only [Bool.and_eq_true, decide_eq_true_eq] at h
  have h0 : (0 : Int) ≤ n := h.1
  have h1 : n ≤ 255 := h.2
  exact ⟨UInt8.ofNat n.toNat, by simp; omega⟩
theorem Pure.MetaSizes : ∀ h x vs, Den.WF h → Den.Dead h → Ar.MetaSizes.R h x vs → Ar.MetaSizes.Q x → ∃ a, Den.encL [.sl, .int .u8] a = vs ∧ Den.toldB (Fwd.corbellaw19_MetaSizes.f 2000000 a.1 a.2 h) = true := by
  rintro h ⟨l, m, _⟩ vs w _ ⟨va, vb, rfl, r1, vc, vd, rfl, r2, rfl⟩ ⟨_, q2, _⟩
  obtain ⟨a, rfl, A⟩ := raws_arg w r1
  obtain rfl := r2
  obtain ⟨more, rfl⟩ := Pure.wf8 q2
  obtain ⟨h', e⟩ := Pure.sizes_f 2000000 (by decide) w A more
  exact ⟨(a, Int.ofNat more.toNat), rfl, (congrArg toldB e).trans rfl⟩
end Go.Proofs.Ytfenkpghcbohdaa
