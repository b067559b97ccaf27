/- The reference's Read of a tree's bytes. No condition. -/
import Derived.Test.YtfenkpghcbohdaaFwTreeC
namespace Go.Proofs.Ytfenkpghcbohdaa.Fw
open Go Den Fwd
set_option linter.unusedVariables false
set_option linter.unusedSimpArgs false
theorem take_no (k : Nat) {h : H} {s : Sl} {x : List UInt8} (r : SlR 1 h s (byt x)) {n : Nat} (c : x.length < n) : corbelref16_take.f k s (Int.ofNat n) h = some ((⟨none, 0, 0⟩, ⟨none, 0, 0⟩, false), h) := by
  unfold corbelref16_take.f
  rw [r.n_byt, decide_eq_true (show Int.ofNat n > Int.ofNat x.length by simp only [Int.ofNat_eq_natCast]; omega), cond_true]
theorem take_yes (k : Nat) {h : H} {s : Sl} {x : List UInt8} (r : SlR 1 h s (byt x)) {n : Nat} (c : n ≤ x.length) : ∃ s1 s2, corbelref16_take.f k s (Int.ofNat n) h = some ((s1, s2, true), h) ∧ SlR 1 h s1 (byt (x.take n)) ∧ SlR 1 h s2 (byt (x.drop n)) ∧ (∀ b, SlB s1 b → SlB s b) ∧ (∀ b, SlB s2 b → SlB s b) := by
  unfold corbelref16_take.f
  have e := r.n_byt
  rw [decide_eq_false (show ¬ Int.ofNat n > Int.ofNat s.n by rw [e]; simp only [Int.ofNat_eq_natCast]; omega), cond_false]
  obtain ⟨s1, a1, a2, a3, a4⟩ := subb_ok r (lo := 0) (hi := n) (Nat.zero_le _) c (xlo := none) (xhi := some (Int.ofNat n)) rfl rfl
  obtain ⟨s2, b1, b2, b3, b4⟩ := subb_ok r (lo := n) (hi := x.length) c (Nat.le_refl _) (xlo := some (Int.ofNat n)) (xhi := none) rfl (by rw [e]; rfl)
  rw [a1]
  simp only [asS_slv, Option.bind_some]
  rw [b1]
  simp only [asS_slv, Option.bind_some]
  rw [List.drop_zero, Nat.sub_zero] at a3
  rw [List.take_of_length_le (by rw [List.length_drop]; exact Nat.le_refl _)] at b3
  exact ⟨s1, s2, rfl, a3, b3, a4, b4⟩
/-- two names -/
theorem part_f (k n : Nat) {h : H} (w : WF h) {vb : Nat} {a0 a1 a2 a3 a4 : Value} {s : Sl} {x : List UInt8} (I : Is h vb 58 5 [a0, a1, a2, a3, a4]) (r : SlR 1 h s (byt x)) (ns : ¬ SlB s vb) (j : Nat) (hj : j = 0 ∨ j = 1) (x9 : Sl) (x10 : Int) (x11 : Sl) :
    (rNm x = none ∧ corbelref16_Read.l1 k (n + 1) x9 x10 x11 (some ⟨vb, 0, none⟩) s (Int.ofNat j) h = some (.inl (⟨none, 0, 0⟩, false), h)) ∨
    (∃ y s' h', rNm x = some y ∧ corbelref16_Read.l1 k (n + 1) x9 x10 x11 (some ⟨vb, 0, none⟩) s (Int.ofNat j) h = corbelref16_Read.l1 k n x9 x10 x11 (some ⟨vb, 0, none⟩) s' (Int.ofNat (j + 1)) h' ∧ Ch (fun b => b = vb) h h' ∧ Is h' vb 58 5 ([a0, a1, a2, a3, a4].set j (.string (ba y.1))) ∧ SlR 1 h' s' (byt y.2) ∧ ∀ b, SlB s' b → SlB s b) := by
  rw [corbelref16_Read.l1_succ, decide_eq_true (show Int.ofNat j < (2 : Int) by simp only [Int.ofNat_eq_natCast]; omega), cond_true, show (1 : Int) = Int.ofNat 1 from rfl]
  unfold rNm rTake
  by_cases c : 1 ≤ x.length
  rotate_left
  · refine .inl ⟨by rw [if_neg c]; rfl, ?_⟩
    rw [take_no k r (by omega)]
    rfl
  obtain ⟨s1, s2, b1, b2, b3, b4, b5⟩ := take_yes k r c
  rw [b1, if_pos c]
  simp only [Option.bind_some, Bool.not_true, cond_false]
  obtain ⟨c0, hc0⟩ : ∃ c0, x.take 1 = [c0] := by
    cases x with
    | nil => exact absurd c (by decide)
    | cons c0 x => exact ⟨c0, rfl⟩
  rw [hc0] at b2 ⊢
  obtain ⟨p, e1, e2⟩ := b2.byte (j := 0) (c := c0) rfl
  rw [show (0 : Int) = Int.ofNat 0 from rfl, e1]
  simp only [asP_ptr, Option.bind_some, e2, asI_int]
  have hc : c0.toNat < 256 := UInt8.toNat_lt _
  rw [wrap_in (n := Int.ofNat c0.toNat) (by simp only [Int.ofNat_eq_natCast]; omega) (by simp only [Int.ofNat_eq_natCast]; omega), unbe1]
  by_cases d : c0.toNat ≤ (x.drop 1).length
  rotate_left
  · refine .inl ⟨by rw [if_neg d], ?_⟩
    rw [take_no k b3 (by omega)]
    rfl
  refine .inr ?_
  obtain ⟨s3, s4, d1, d2, d3, d4, d5⟩ := take_yes k b3 d
  rw [d1, if_pos d]
  simp only [Option.bind_some, Bool.not_true, cond_false]
  rw [txt_sl d2]
  simp only [Option.bind_some]
  have n4 : ∀ b, SlB s4 b → SlB s b := fun b f => b5 b (d5 b f)
  rw [show wrapA .i64 (Int.ofNat j + Int.ofNat 1) = Int.ofNat (j + 1) from wrap_succ (by omega)]
  rcases hj with rfl | rfl
  · rw [show (Int.ofNat 0 == Int.ofNat 0) = true from rfl]
    simp only [cond_true, asP_ptr, Option.bind_some, fadd]
    obtain ⟨h', f1, f2, f3, f4⟩ := I.set w 0 (.string (ba ((x.drop 1).take c0.toNat))) (by show 0 < 5; decide) rfl
    have f1 : stv 1 h (some ⟨vb, 0 + 0, none⟩) [Value.string (⟨((x.drop 1).take c0.toNat).toArray⟩ : ByteArray)] = _ := f1
    rw [f1]
    exact ⟨_, s4, h', rfl, rfl, f2, f4, ch_slr w d3 f2 fun f => ns (n4 _ f), n4⟩
  · rw [show (Int.ofNat 1 == Int.ofNat 0) = false from rfl]
    simp only [cond_false, asP_ptr, Option.bind_some, fadd]
    obtain ⟨h', f1, f2, f3, f4⟩ := I.set w 1 (.string (ba ((x.drop 1).take c0.toNat))) (by show 1 < 5; decide) rfl
    have f1 : stv 1 h (some ⟨vb, 0 + 1, none⟩) [Value.string (⟨((x.drop 1).take c0.toNat).toArray⟩ : ByteArray)] = _ := f1
    rw [f1]
    exact ⟨_, s4, h', rfl, rfl, f2, f4, ch_slr w d3 f2 fun f => ns (n4 _ f), n4⟩
theorem names_f (k n : Nat) {h : H} (w : WF h) {vb : Nat} {a0 a1 a2 a3 a4 : Value} {s : Sl} {x : List UInt8} (I : Is h vb 58 5 [a0, a1, a2, a3, a4]) (r : SlR 1 h s (byt x)) (ns : ¬ SlB s vb) (x9 : Sl) (x10 : Int) (x11 : Sl) :
    (((rNm x).bind fun a => rNm a.2) = none ∧ ∃ h', corbelref16_Read.l1 k (n + 3) x9 x10 x11 (some ⟨vb, 0, none⟩) s 0 h = some (.inl (⟨none, 0, 0⟩, false), h') ∧ Ch (fun b => b = vb) h h') ∨
    (∃ y z s' h', rNm x = some y ∧ rNm y.2 = some z ∧ corbelref16_Read.l1 k (n + 3) x9 x10 x11 (some ⟨vb, 0, none⟩) s 0 h = some (.inr s', h') ∧ Ch (fun b => b = vb) h h' ∧ Is h' vb 58 5 [.string (ba y.1), .string (ba z.1), a2, a3, a4] ∧ SlR 1 h' s' (byt z.2) ∧ ∀ b, SlB s' b → SlB s b) := by
  rcases part_f k (n + 2) w I r ns 0 (.inl rfl) x9 x10 x11 with ⟨e1, e2⟩ | ⟨y, s1, h1, e1, e2, e3, e4, e5, e6⟩
  · exact .inl ⟨by rw [e1]; rfl, h, e2, Ch.refl w⟩
  · rcases part_f k (n + 1) e3.wf e4 e5 (fun f => ns (e6 _ f)) 1 (.inr rfl) x9 x10 x11 with ⟨f1, f2⟩ | ⟨z, s2, h2, f1, f2, f3, f4, f5, f6⟩
    · exact .inl ⟨by rw [e1]; exact f1, h1, e2.trans f2, e3⟩
    · refine .inr ⟨y, z, s2, h2, e1, f1, ?_, e3.trans f3 fun _ _ f => f, f4, f5, fun b f => e6 b (f6 b f)⟩
      refine (e2.trans f2).trans ?_
      rw [corbelref16_Read.l1_succ]; rfl
/-! ### the map -/
theorem rmap_l2 (k : Nat) {h0 : H} (w0 : WF h0) {s : Sl} {x : List UInt8} {vb : Nat} (hx : x.length ≤ 10000) {v0 v1 v2 v3 : Value} (r0 : SlR 1 h0 s (byt x)) (ns : ¬ SlB s vb) (hv : vb < h0.next) (x39 x40 : Sl) (x42 : Int) (x43 : Sl) : ∀ n i h m, x.length - i < n → i ≤ x.length → Ch (fun b => b = vb) h0 h → Is h vb 58 5 [v0, v1, v2, v3, slv m] → Ow 3 1 h m (ivs (mapI (x.take i))) → (∀ b, SlB m b → h0.next ≤ b) →
    ∃ m' h', corbelref16_Read.l2 k n x39 x40 s x42 x43 (some ⟨vb, 0, none⟩) (Int.ofNat i) h = some ((), h') ∧ Ch (fun b => b = vb) h0 h' ∧ Is h' vb 58 5 [v0, v1, v2, v3, slv m'] ∧ Ow 3 1 h' m' (ivs (mapI x)) ∧ ∀ b, SlB m' b → h0.next ≤ b
  | 0, i, h, m, hf, _, _, _, _, _ => by omega
  | n + 1, i, h, m, hf, hi, C, I, O, F => by
    have r : SlR 1 h s (byt x) := r0.keep fun b hb => C.keep b (r0.blk w0 hb) fun f => ns (by subst f; exact hb)
    rw [corbelref16_Read.l2_succ, r.n_byt]
    by_cases c : i < x.length
    · rw [decLt c, cond_true]
      obtain ⟨p, e1, e2⟩ := r.byte (List.getElem?_eq_getElem c)
      simp only [asP_ptr, Option.bind_some, fadd]
      have L4 : asS (ldc h (some ⟨vb, 0 + 4, none⟩)) = some m := by rw [I.ldc]; exact asS_slv _
      rw [L4]
      simp only [Option.bind_some]
      rw [r.n_byt] at e1
      rw [e1]
      simp only [asP_ptr, Option.bind_some, e2, asI_int]
      have hc : (x[i]).toNat < 256 := UInt8.toNat_lt _
      rw [wrap_in (n := Int.ofNat (x[i]).toNat) (by simp only [Int.ofNat_eq_natCast]; omega) (by simp only [Int.ofNat_eq_natCast]; omega)]
      obtain ⟨m1, h1, a1, a2, a3, a4⟩ := push_i C.wf O (Int.ofNat (x[i]).toNat) (by unfold mapI; rw [List.length_map, List.length_take]; omega)
      rw [a1]
      simp only [Option.bind_some]
      have nm : ¬ SlB m vb := fun f => by have := F _ f; omega
      have I1 := I.keep (a2.keep vb (I.lt C.wf) nm)
      obtain ⟨h2, b1, b2, b3, b4⟩ := I1.set a2.wf 4 (slv m1) (by show 4 < 5; decide) rfl
      rw [show [Value.slice m1.a m1.n m1.c] = [slv m1] from rfl, show (0 + 4 : Nat) = 4 from rfl, b1]
      simp only [Option.bind_some]
      rw [wrap_succ (by omega)]
      have F1 : ∀ b, SlB m1 b → h0.next ≤ b := fun b hb => (a4 b hb).elim (F b) fun f => Nat.le_trans C.le f
      have C2 : Ch (fun b => b = vb) h0 h2 := (C.trans a2 fun z hz f => by have := F z f; omega).trans b2 fun _ _ f => f
      refine rmap_l2 k w0 hx r0 ns hv x39 x40 x42 x43 n (i + 1) h2 m1 (by omega) (by omega) C2 b4 ?_ F1
      have ht : x.take (i + 1) = x.take i ++ [x[i]] := by simp
      rw [ht]
      unfold mapI at a3 ⊢
      rw [List.map_append]
      exact a3.keep fun b hb => b2.keep b (a3.lt a2.wf hb) fun f => by have := F1 b hb; omega
    · rw [decNlt c, cond_false]
      rw [List.take_of_length_le (by omega)] at O
      exact ⟨m, h, rfl, C, I, O, F⟩
/-! ### volumes -/
theorem rread_l0 (k : Nat) (hk : 20000 < k) {h0 : H} (w0 : WF h0) (x4 : Sl) : ∀ n j h t us s b, j < n → j ≤ 255 → Ch0 h0 h → SlR 1 h s (byt b) → (∀ z, SlB s z → z < h0.next) → TreeO h t us → Fresh h0.next t us → us.length + j ≤ 255 →
    ∃ v h', corbelref16_Read.l0 k n x4 s (Int.ofNat j) t h = some (v, h') ∧ Ch0 h0 h' ∧ ((rVols j b = none ∧ v = .inl (⟨none, 0, 0⟩, false)) ∨ (∃ y t' us', rVols j b = some y ∧ v = .inr t' ∧ TreeO h' t' us' ∧ Fresh h0.next t' us' ∧ vols us' = vols us ++ y.1))
  | 0, j, h, t, us, s, b, hf, _, _, _, _, _, _, _ => by omega
  | n + 1, 0, h, t, us, s, b, hf, hj, C, r, hs, O, F, ul => by
    rw [corbelref16_Read.l0_succ]
    exact ⟨_, h, rfl, C, .inr ⟨([], b), t, us, rfl, rfl, O, F, by rw [List.append_nil]⟩⟩
  | n + 1, j + 1, h, t, us, s, b, hf, hj, C, r, hs, O, F, ul => by
    rw [corbelref16_Read.l0_succ, decide_eq_true (show Int.ofNat (j + 1) > (0 : Int) by simp only [Int.ofNat_eq_natCast]; omega), cond_true]
    rw [show [Value.string (⟨#[]⟩ : ByteArray), Value.string (⟨#[]⟩ : ByteArray), Value.bool false, Value.int .i64 (0 : Int), Value.slice none 0 0] = zVo from rfl]
    obtain ⟨z1, z2, z3⟩ := newR_ok C.wf 58 5 zVo
    generalize newR h 58 5 zVo = g0 at z1 z2 z3 ⊢
    have r0 := r.stay C.wf z1
    have C0 := C.then z1
    have cl := C.le
    have nv : ∀ {u : Sl}, (∀ b, SlB u b → SlB s b) → ¬ SlB u h.next := fun hu f => by have := hs _ (hu _ f); omega
    obtain ⟨k', rfl⟩ : ∃ k', k = k' + 3 := ⟨k - 3, by omega⟩
    have nV : rVols (j + 1) b = (rVol b).bind fun x => (rVols j x.2).bind fun y => some (x.1 :: y.1, y.2) := rfl
    rcases names_f (k' + 3) k' z1.wf z3 r0 (nv fun _ f => f) x4 (Int.ofNat (j + 1)) t with ⟨e1, h1, e2, e3⟩ | ⟨y, z, s1, h1, e0, e1, e2, e3, e4, e5, e6⟩
    · rw [e2]
      refine ⟨_, h1, rfl, Ch0.at C0 e3 cl, .inl ⟨?_, rfl⟩⟩
      rw [nV]
      unfold rVol
      cases q : rNm b with
      | none => rfl
      | some a =>
        rw [q] at e1
        have e1 : rNm a.2 = none := e1
        simp only [Option.bind_some]
        rw [e1]; rfl
    rw [e2]
    simp only [Option.bind_some]
    have C1 := Ch0.at C0 e3 cl
    have RV : rVol b = (rTake z.2 3).bind fun d => (rTake d.2 (unbe (d.1.drop 1) / 8)).bind fun m => some (⟨y.1, z.1, decide (unbe (d.1.take 1) = 1), Int.ofNat (unbe (d.1.drop 1)), mapI m.1⟩, m.2) := by
      unfold rVol
      rw [e0]
      simp only [Option.bind_some]
      rw [e1]; rfl
    by_cases c3 : 3 ≤ z.2.length
    rotate_left
    · rw [show (3 : Int) = Int.ofNat 3 from rfl, take_no (k' + 3) e5 (by omega)]
      refine ⟨_, h1, rfl, C1, .inl ⟨?_, rfl⟩⟩
      rw [nV, RV]
      unfold rTake
      rw [if_neg c3]; rfl
    obtain ⟨t3, s3, a1, a2, a3, a4, a5⟩ := take_yes (k' + 3) e5 c3
    have T3 : rTake z.2 3 = some (z.2.take 3, z.2.drop 3) := by unfold rTake; rw [if_pos c3]
    rw [show (3 : Int) = Int.ofNat 3 from rfl, a1]
    simp only [Option.bind_some, Bool.not_true, cond_false]
    have n1 : ∀ b, SlB s1 b → SlB s b := e6
    have nt3 : ∀ b, SlB t3 b → SlB s b := fun b f => n1 b (a4 b f)
    have ns3 : ∀ b, SlB s3 b → SlB s b := fun b f => n1 b (a5 b f)
    obtain ⟨c0, c1, c2, hc⟩ : ∃ c0 c1 c2, z.2.take 3 = [c0, c1, c2] := by
      have l3 : (z.2.take 3).length = 3 := by rw [List.length_take]; omega
      match z.2.take 3, l3 with
      | [c0, c1, c2], _ => exact ⟨c0, c1, c2, rfl⟩
    rw [hc] at a2 T3
    obtain ⟨p, p1, p2⟩ := a2.byte (j := 0) (c := c0) rfl
    rw [show (0 : Int) = Int.ofNat 0 from rfl, p1]
    simp only [asP_ptr, Option.bind_some, p2, asI_int]
    obtain ⟨h2, b1, b2, b3, b4⟩ := e4.set e3.wf 2 (.bool (Int.ofNat c0.toNat == (1 : Int))) (by show 2 < 5; decide) rfl
    rw [b1]
    simp only [Option.bind_some]
    have t32 := ch_slr e3.wf a2 b2 (nv nt3)
    obtain ⟨u, m1, m2, m3, m4⟩ := subb_ok t32 (lo := 1) (hi := 3) (by decide) (by show 3 ≤ 3; decide) (xlo := some (1 : Int)) (xhi := none) rfl (by rw [t32.n_byt]; rfl)
    rw [m1]
    simp only [asS_slv, Option.bind_some]
    have m3 : SlR 1 h2 u (byt [c1, c2]) := m3
    rw [from_f (k' + 3) (by omega) m3 (by show 2 ≤ 7; decide)]
    simp only [Option.bind_some]
    obtain ⟨h3, d1, d2, d3, d4⟩ := b4.set b2.wf 3 (.int .i64 (Int.ofNat (unbe [c1, c2]))) (by show 3 < 5; decide) rfl
    rw [d1]
    simp only [Option.bind_some]
    rw [show asI .i64 (ldc h3 (some ⟨h.next, 3, none⟩)) = some (Int.ofNat (unbe [c1, c2])) by rw [d4.ldc]; exact asI_int _ _]
    simp only [Option.bind_some]
    have ub : unbe [c1, c2] ≤ 65535 := unbe2_le [c1, c2]
    have et : wrapA .i64 ((Int.ofNat (unbe [c1, c2])).tdiv 8) = Int.ofNat (unbe [c1, c2] / 8) := by
      rw [Int.tdiv_eq_ediv_of_nonneg (show (0 : Int) ≤ Int.ofNat (unbe [c1, c2]) from Int.natCast_nonneg _)]
      have : (Int.ofNat (unbe [c1, c2])) / 8 = Int.ofNat (unbe [c1, c2] / 8) := by simp only [Int.ofNat_eq_natCast]; omega
      rw [this, wrap_in (n := Int.ofNat (unbe [c1, c2] / 8)) (by simp only [Int.ofNat_eq_natCast]; omega) (by simp only [Int.ofNat_eq_natCast]; omega)]
    rw [et]
    have bd : Ch (fun b => b = h.next) h1 h3 := b2.trans d2 fun _ _ f => f
    have s33 := ch_slr e3.wf a3 bd (nv ns3)
    have C3 := Ch0.at C1 bd cl
    have RV2 : rVol b = (rTake (z.2.drop 3) (unbe [c1, c2] / 8)).bind fun m => some (⟨y.1, z.1, decide (unbe [c0] = 1), Int.ofNat (unbe [c1, c2]), mapI m.1⟩, m.2) := by
      rw [RV, T3]; rfl
    by_cases cm : unbe [c1, c2] / 8 ≤ (z.2.drop 3).length
    rotate_left
    · rw [take_no (k' + 3) s33 (by omega)]
      refine ⟨_, h3, rfl, C3, .inl ⟨?_, rfl⟩⟩
      rw [nV, RV2]
      unfold rTake
      rw [if_neg cm]; rfl
    obtain ⟨t4, s4, f1, f2, f3, f4, f5⟩ := take_yes (k' + 3) s33 cm
    rw [f1]
    simp only [Option.bind_some, Bool.not_true, cond_false]
    have nt4 : ∀ b, SlB t4 b → SlB s b := fun b f => ns3 b (f4 b f)
    have ns4 : ∀ b, SlB s4 b → SlB s b := fun b f => ns3 b (f5 b f)
    have lv : h.next < h3.next := by have := e3.le; have := bd.le; omega
    obtain ⟨mm, h4, g1, g2, g3, g4, g5⟩ := rmap_l2 (k' + 3) bd.wf (s := t4) (vb := h.next) (x := (z.2.drop 3).take (unbe [c1, c2] / 8)) (by rw [List.length_take]; omega) f2 (nv nt4) lv s4 x4 (Int.ofNat (j + 1)) t (k' + 3) 0 h3 ⟨none, 0, 0⟩ (by rw [List.length_take]; omega) (Nat.zero_le _) (Ch.refl bd.wf) d4 Ow.nil (fun b f => absurd f noSlB)
    rw [g1]
    simp only [Option.bind_some]
    have es : (Int.ofNat c0.toNat == (1 : Int)) = decide (unbe [c0] = 1) := by
      rw [unbe1]
      by_cases q : c0.toNat = 1
      · rw [q]; rfl
      · rw [decide_eq_false q, beq_eq_false_iff_ne]
        intro f; exact q (Int.ofNat.inj f)
    rw [es] at g3
    let q : Vs := (⟨y.1, z.1, decide (unbe [c0] = 1), Int.ofNat (unbe [c1, c2]), mapI ((z.2.drop 3).take (unbe [c1, c2] / 8))⟩, mm)
    have g3 : Is h4 h.next 58 5 (voL q) := g3
    rw [ldaIs (n := 5) g3 rfl, bindVo]
    dsimp only [voT]
    rw [show [Value.string (ba q.1.nm), Value.string (ba q.1.pa), Value.bool q.1.sn, Value.int .i64 q.1.sz, Value.slice q.2.a q.2.n q.2.c] = voL q from rfl]
    have C4 := Ch0.at C3 g2 cl
    have eg : Ch (fun b => b = h.next) g0 h4 := (e3.trans bd fun _ _ f => f).trans g2 fun _ _ f => f
    have O4 : TreeO h4 t us := (O.stay C.wf z1).keep fun x hx => eg.keep x (by have := O.lt C.wf hx; omega) fun f => by have := O.lt C.wf hx; omega
    obtain ⟨t1, h5, i1, i2, i3, i4⟩ := push_vo g2.wf O4.ow q (by omega)
    rw [i1]
    simp only [Option.bind_some]
    have mf : ∀ x, SlB q.2 x → h.next < x := fun x hx => by have := g5 x hx; omega
    have O5 := TreeO.push g2.wf O4 i2 q g4 (fun x hx f => by have := mf x f; have := O.lt C.wf (.inl hx); omega) (fun a ha x hx f => by have := mf x f; have := O.lt C.wf (.inr ⟨a, ha, hx⟩); omega) i3 i4
    have F5 : Fresh h0.next t1 (us ++ [q]) := by
      refine ⟨fun x hx => (i4 x hx).elim (F.1 x) fun f => Nat.le_trans C4.le f, fun a ha x hx => ?_⟩
      rcases List.mem_append.1 ha with v | v
      · exact F.2 a v x hx
      · rw [List.mem_singleton.1 v] at hx
        have := mf x hx
        omega
    rw [wrap_in (n := Int.ofNat (j + 1) - 1) (by simp only [Int.ofNat_eq_natCast]; omega) (by simp only [Int.ofNat_eq_natCast]; omega), show Int.ofNat (j + 1) - 1 = Int.ofNat j by simp only [Int.ofNat_eq_natCast]; omega]
    have s45 : SlR 1 h5 s4 (byt ((z.2.drop 3).drop (unbe [c1, c2] / 8))) := (ch_slr bd.wf f3 g2 (nv ns4)).keep fun b hb => i2.keep b (by have := hs b (ns4 b hb); have := C4.le; omega) fun f => by have := F.1 b f; have := hs b (ns4 b hb); omega
    obtain ⟨v, h6, v1, v2, v3⟩ := rread_l0 (k' + 3) hk w0 x4 n j h5 t1 (us ++ [q]) s4 _ (by omega) (by omega) (Ch0.own C4 i2 F.1) s45 (fun b hb => hs b (ns4 b hb)) O5 F5 (by rw [List.length_append, List.length_singleton]; omega)
    rw [v1]
    have RV3 : rVol b = some (q.1, (z.2.drop 3).drop (unbe [c1, c2] / 8)) := by
      rw [RV2]
      unfold rTake
      rw [if_pos cm]; rfl
    refine ⟨v, h6, rfl, v2, ?_⟩
    rw [nV, RV3]
    simp only [Option.bind_some]
    rcases v3 with ⟨u1, u2⟩ | ⟨yy, tt, uu, u1, u2, u3, u4, u5⟩
    · exact .inl ⟨by rw [u1]; rfl, u2⟩
    · refine .inr ⟨(q.1 :: yy.1, yy.2), tt, uu, by rw [u1]; rfl, u2, u3, u4, ?_⟩
      rw [u5]
      unfold vols
      rw [List.map_append, List.append_assoc]; rfl
theorem ok_parse {x : List UInt8} (h : OkP x) : rParse x = some (parseP x) := by
  have := rParse_lay h.1
  rw [h.2] at this
  exact this
theorem rread2_f (k : Nat) (hk : 1000000 < k) {h : H} (w : WF h) {s : Sl} {x : List UInt8} (r : SlR 1 h s (byt x)) :
    ∃ t h' us, corbelref16_Read.f k s h = some ((t, decide (OkP x)), h') ∧ Ch0 h h' ∧ TreeR h' t us ∧ vols us = if OkP x then parseP x else [] := by
  unfold corbelref16_Read.f
  have no : ∀ {h' : H}, Ch0 h h' → rParse x = none → ∃ t h'' us, some (((⟨none, 0, 0⟩ : Sl), false), h') = some ((t, decide (OkP x)), h'') ∧ Ch0 h h'' ∧ TreeR h'' t us ∧ vols us = if OkP x then parseP x else [] := fun {h'} c e => by
    have nok : ¬ OkP x := fun f => by rw [ok_parse f] at e; cases e
    rw [decide_eq_false nok, if_neg nok]
    exact ⟨_, h', [], rfl, c, (TreeO.nil (h := h')).read, rfl⟩
  by_cases c1 : 1 ≤ x.length
  rotate_left
  · rw [show (1 : Int) = Int.ofNat 1 from rfl, take_no k r (by omega)]
    refine no (Ch.refl w) ?_
    unfold rParse rTake
    rw [if_neg c1]; rfl
  obtain ⟨t1, s1, a1, a2, a3, a4, a5⟩ := take_yes k r c1
  rw [show (1 : Int) = Int.ofNat 1 from rfl, a1]
  simp only [Option.bind_some, Bool.not_true, cond_false]
  obtain ⟨c0, hc0⟩ : ∃ c0, x.take 1 = [c0] := by
    cases x with
    | nil => exact absurd c1 (by decide)
    | cons c0 x => exact ⟨c0, rfl⟩
  rw [hc0] at a2
  obtain ⟨p, e1, e2⟩ := a2.byte (j := 0) (c := c0) rfl
  rw [show (0 : Int) = Int.ofNat 0 from rfl, e1]
  simp only [asP_ptr, Option.bind_some, e2, asI_int]
  have hc : c0.toNat < 256 := UInt8.toNat_lt _
  rw [wrap_in (n := Int.ofNat c0.toNat) (by simp only [Int.ofNat_eq_natCast]; omega) (by simp only [Int.ofNat_eq_natCast]; omega)]
  obtain ⟨v, h1, b1, b2, b3⟩ := rread_l0 k (by omega) w s k c0.toNat h ⟨none, 0, 0⟩ [] s1 (x.drop 1) (by omega) (by omega) (Ch.refl w) a3 (fun z hz => r.blk w (a5 z hz)) TreeO.nil Fresh.nil (by show 0 + c0.toNat ≤ 255; omega)
  rw [b1]
  simp only [Option.bind_some]
  have RP : rParse x = (rVols c0.toNat (x.drop 1)).bind fun y => some y.1 := by
    unfold rParse rTake
    rw [if_pos c1, hc0]
    simp only [Option.bind_some]
    rw [unbe1]
  rcases b3 with ⟨u1, rfl⟩ | ⟨y, t, us, u1, rfl, u3, u4, u5⟩
  · exact no b2 (by rw [RP, u1]; rfl)
  have u5 : vols us = y.1 := u5
  have RP2 : rParse x = some y.1 := by rw [RP, u1]; rfl
  have pe := rParse_some RP2
  have B : TreeB us := treeB_of (n := unbe (x.take 1)) (b := x.drop 1) (by rw [u5, ← pe]; rfl) (unbe1_le x)
  obtain ⟨t2, h2, d1, d2, d3, d4⟩ := rlayT_f k (by omega) b2.wf u3.read B
  simp only
  rw [d1]
  simp only [Option.bind_some]
  rw [u5, ← pe] at d3 ⊢
  have C2 := b2.then d2
  have G : ((cond (!decide (RightP (parseP x))) (some (true, h2))
      ((asT (txt h2 (Value.slice t2.a t2.n t2.c))).bind fun s61 =>
    (asT (txt h2 (Value.slice s.a s.n s.c))).bind fun s62 =>
    some (!(s61.toList == s62.toList), h2))) : Option (Bool × H)) = some (!decide (OkP x), h2) := by
    by_cases R : RightP (parseP x)
    · rw [if_pos R] at d3
      rw [decide_eq_true R, Bool.not_true, cond_false, txt_sl d3.slr]
      simp only [Option.bind_some]
      rw [txt_sl (r.stay w C2)]
      simp only [Option.bind_some]
      rw [ba_eq]
      have : decide (OkP x) = decide (layP (parseP x) = x) := decide_eq_decide.2 ⟨fun f => f.2, fun f => ⟨R, f⟩⟩
      rw [this]
    · rw [decide_eq_false R, decide_eq_false (fun f : OkP x => R f.1)]; rfl
  rw [G]
  simp only [Option.bind_some]
  by_cases ok : OkP x
  · rw [decide_eq_true ok, if_pos ok]
    exact ⟨t, h2, us, rfl, C2, (u3.read).stay b2.wf d2, by rw [u5, ← pe]⟩
  · rw [decide_eq_false ok, if_neg ok]
    exact ⟨_, h2, [], rfl, C2, (TreeO.nil (h := h2)).read, rfl⟩
end Go.Proofs.Ytfenkpghcbohdaa.Fw
