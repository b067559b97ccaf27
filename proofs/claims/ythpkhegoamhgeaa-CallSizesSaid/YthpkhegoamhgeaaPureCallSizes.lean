/- CallSizes: the law's forward run comes to true. -/
import Derived.Test.YthpkhegoamhgeaaFwRep6
import Derived.Test.YthpkhegoamhgeaaArCallSizes
namespace Go.Proofs.Ythpkhegoamhgeaa
open Go Den Fwd Fw
set_option linter.unusedVariables false
set_option linter.unusedSimpArgs false
theorem Pure.bind6 {β : Type} (a b c d e f : Int) (g : FT [.int .i64, .int .i64, .int .i64, .int .i64, .int .i64, .int .i64] → Option β) : (asSt [(.int .i64), (.int .i64), (.int .i64), (.int .i64), (.int .i64), (.int .i64)] (some (Value.agg #[.int .i64 a, .int .i64 b, .int .i64 c, .int .i64 d, .int .i64 e, .int .i64 f]))).bind g = g (show FT [.int .i64, .int .i64, .int .i64, .int .i64, .int .i64, .int .i64] from ((a, b, c, d, e, f) : Int × Int × Int × Int × Int × Int)) := rfl
theorem Pure.wf8 {n : Int} (h : (Lit.int .u8 n).wf = true) : ∃ m : UInt8, n = Int.ofNat m.toNat := by
  unfold Lit.wf at h
  simp only [Bool.and_eq_true, decide_eq_true_eq] at h
  have h0 : (0 : Int) ≤ n := h.1
  have h1 : n ≤ 255 := h.2
  exact ⟨UInt8.ofNat n.toNat, by simp; omega⟩
theorem Pure.layC_pre {p q : Cr} (hp : p.right = true) (hq : q.right = true) {t : List UInt8} (h : layC p ++ t = layC q) : t = [] := by
  have P := ((Cr.right_iff p).1 hp).dl
  have Q := ((Cr.right_iff q).1 hq).dl
  unfold layC at h
  simp only [List.append_assoc] at h
  have h1 := (List.append_inj h (by simp only [beN_len])).2
  have h2 := (List.append_inj h1 (by simp only [beN_len])).2
  have h3 := (List.append_inj h2 (by simp only [beN_len])).2
  have h4 := (List.append_inj h3 (by simp only [beN_len])).2
  obtain ⟨h5, h6⟩ := List.append_inj h4 (by simp only [beN_len])
  have e1 := be_inj (s := 2) (by omega) (by omega) h5
  have := congrArg List.length h6
  rw [List.length_append, e1] at this
  exact List.length_eq_zero_iff.1 (by omega)
theorem Pure.readP_some {x : List UInt8} {q : Cr} (h : readP x = some q) : q.right = true ∧ layC q = x := by
  unfold readP at h
  split at h
  · rename_i c
    cases h
    exact c.2
  · cases h
theorem Pure.readP_short {q : Cr} (h : q.right = true) {n : Nat} (hn : n < (layC q).length) : readP ((layC q).take n) = none := by
  cases e : readP ((layC q).take n) with
  | none => rfl
  | some p =>
    obtain ⟨h1, h2⟩ := Pure.readP_some e
    have := Pure.layC_pre h1 h (t := (layC q).drop n) (by rw [h2, List.take_append_drop])
    have := congrArg List.length this
    rw [List.length_drop] at this
    simp at this
    omega
theorem Pure.readP_long {q : Cr} (h : q.right = true) (c : UInt8) : readP (layC q ++ [c]) = none := by
  cases e : readP (layC q ++ [c]) with
  | none => rfl
  | some p =>
    obtain ⟨h1, h2⟩ := Pure.readP_some e
    have := Pure.layC_pre h h1 (t := [c]) h2.symm
    cases this
theorem Pure.sizesP_l (k : Nat) (hk : 1000 < k) {pb : Nat} (a1 a2 a3 a4 : Int) (N : Nat) (hN : a1 % 3 = Int.ofNat N) (hN2 : N ≤ 2) : ∀ n j h sp si (ps : PcS) (is : ItS), N - j < n → j ≤ N → WF h → Bd h pb 0 0 sp si ps is → ps.length = j → (∀ p ∈ ps, p.1.right = true) →
    ∃ h' sp' ps', corbellaw11_CallSizes.l0 k n a1 a2 a3 a4 (some ⟨pb, 0, none⟩) (Int.ofNat j) h = some ((), h') ∧ Ch (fun z => pb ≤ z) h h' ∧ Bd h' pb 0 0 sp' si ps' is ∧ ps'.length = N ∧ ∀ p ∈ ps', p.1.right = true
  | 0, j, h, sp, si, ps, is, hn, _, _, _, _, _ => by omega
  | n + 1, j, h, sp, si, ps, is, hn, hj, w, B, hl, hr => by
    rw [corbellaw11_CallSizes.l0_succ, pick_f k a1 3 h (by decide) (by decide), hN]
    simp only [Option.bind_some]
    by_cases cj : j < N
    · rw [decide_eq_true (show Int.ofNat j < Int.ofNat N by simp; omega), cond_true]
      simp only [nilA, asP_ptr, Option.bind_some, fadd, Nat.zero_add]
      rw [B.box.ldc]
      rw [show asS ((repV 0 0 sp si)[2]?) = some sp from rfl]
      simp only [Option.bind_some]
      obtain ⟨q, d, h1, b1, b2, b3, b4, b5, b6⟩ := pcMake_f k hk w a3 (Int.ofNat j) (Int.ofNat j) a3 0
      rw [b1]
      simp only [Option.bind_some, Pc.tup]
      have B1 := B.keep w b2 (fun _ _ _ f => f)
      have pbl := B.box.lt w
      obtain ⟨sn, g1, g2, e1, e2, e3, e4⟩ := B1.addP b2.wf q d b3 (fun z hz => ⟨by have := b5 z hz; omega, fun f => by have := b5 z hz; have := B.op.lt w f; omega, fun f => by have := b5 z hz; have := B.oi.lt w f; omega⟩) (by omega)
      rw [show [Value.int .i64 q.st, Value.int .i64 q.gn, Value.int .i64 q.ix, Value.slice d.a d.n d.c] = q.vs d from rfl, e1]
      simp only [Option.bind_some]
      rw [e2]
      simp only [Option.bind_some]
      have m := same1_of (o := 2) (b2.keep pb pbl fun f => f)
      simp only [m, Bool.and_self, cond_true]
      rw [wrap_succ (by omega)]
      obtain ⟨h', sx, px, f1, f2, f3, f4, f5⟩ := Pure.sizesP_l k hk a1 a2 a3 a4 N hN hN2 n (j + 1) g2 sn si (ps ++ [(q, d)]) is (by omega) (by omega) e3.wf e4 (by rw [List.length_append, List.length_singleton, hl]) (fun p hp => (List.mem_append.1 hp).elim (hr p) fun f => by obtain rfl := List.mem_singleton.1 f; exact b6 rfl)
      exact ⟨h', sx, px, f1, ((b2.mono fun z _ f => f.elim).trans e3 fun z _ f => f).trans f2 fun z _ f => f, f3, f4, f5⟩
    · rw [decide_eq_false (show ¬ Int.ofNat j < Int.ofNat N by simp; omega), cond_false]
      exact ⟨h, sp, ps, rfl, Ch.refl w, B, by omega, hr⟩
theorem Pure.sizesI_l (k : Nat) (hk : 1000 < k) {pb : Nat} (a2 a3 a4 : Int) (N : Nat) (hN : a2 % 17 = Int.ofNat N) (hN2 : N ≤ 16) : ∀ n j h sp si (ps : PcS) (is : ItS), N - j < n → j ≤ N → WF h → Bd h pb 0 0 sp si ps is → is.length = j → (∀ p ∈ is, p.1.right = true) →
    ∃ h' si' is', corbellaw11_CallSizes.l1 k n a2 a3 a4 (some ⟨pb, 0, none⟩) (Int.ofNat j) h = some ((), h') ∧ Ch (fun z => pb ≤ z) h h' ∧ Bd h' pb 0 0 sp si' ps is' ∧ is'.length = N ∧ ∀ p ∈ is', p.1.right = true
  | 0, j, h, sp, si, ps, is, hn, _, _, _, _, _ => by omega
  | n + 1, j, h, sp, si, ps, is, hn, hj, w, B, hl, hr => by
    rw [corbellaw11_CallSizes.l1_succ, pick_f k a2 17 h (by decide) (by decide), hN]
    simp only [Option.bind_some]
    by_cases cj : j < N
    · rw [decide_eq_true (show Int.ofNat j < Int.ofNat N by simp; omega), cond_true]
      simp only [nilA, asP_ptr, Option.bind_some, fadd, Nat.zero_add]
      rw [B.box.ldc]
      rw [show asS ((repV 0 0 sp si)[3]?) = some si from rfl]
      simp only [Option.bind_some]
      obtain ⟨q, d, h1, b1, b2, b3, b4, b5, b6⟩ := itMake_f k hk w (Int.ofNat j) (Int.ofNat j) (wrapA .i64 (a3 + Int.ofNat j)) 0
      rw [b1]
      simp only [Option.bind_some, It.tup]
      have B1 := B.keep w b2 (fun _ _ _ f => f)
      have pbl := B.box.lt w
      obtain ⟨sn, g1, g2, e1, e2, e3, e4⟩ := B1.addI b2.wf q d b3 (fun z hz => ⟨by have := b5 z hz; omega, fun f => by have := b5 z hz; have := B.op.lt w f; omega, fun f => by have := b5 z hz; have := B.oi.lt w f; omega⟩) (by omega)
      rw [show [Value.int .i64 q.st, Value.int .i64 q.gn, Value.slice d.a d.n d.c] = q.vs d from rfl, e1]
      simp only [Option.bind_some]
      rw [e2]
      simp only [Option.bind_some]
      have m := same1_of (o := 3) (b2.keep pb pbl fun f => f)
      simp only [m, Bool.and_self, cond_true]
      rw [wrap_succ (by omega)]
      obtain ⟨h', sx, px, f1, f2, f3, f4, f5⟩ := Pure.sizesI_l k hk a2 a3 a4 N hN hN2 n (j + 1) g2 sp sn ps (is ++ [(q, d)]) (by omega) (by omega) e3.wf e4 (by rw [List.length_append, List.length_singleton, hl]) (fun p hp => (List.mem_append.1 hp).elim (hr p) fun f => by obtain rfl := List.mem_singleton.1 f; exact b6 rfl)
      exact ⟨h', sx, px, f1, ((b2.mono fun z _ f => f.elim).trans e3 fun z _ f => f).trans f2 fun z _ f => f, f3, f4, f5⟩
    · rw [decide_eq_false (show ¬ Int.ofNat j < Int.ofNat N by simp; omega), cond_false]
      exact ⟨h, si, is, rfl, Ch.refl w, B, by omega, hr⟩
/-- a copy with one byte more -/
theorem Pure.more {h : H} (w : WF h) {s : Sl} {x : List UInt8} (r : SlR 1 h s (byt x)) (hx : x.length ≤ 1000000) (m : UInt8) :
    ∃ t h1 u h2, asS2 (apv 5 1 1 (Value.slice (some ⟨h.next, 0, none⟩) 0 0) (Value.slice s.a s.n s.c) (newR h 5 1 [])) = some (t, h1) ∧ asS2 (apv 5 1 1 (Value.slice t.a t.n t.c) (Value.slice (some ⟨h1.next, 0, none⟩) 1 1) (newR h1 5 1 [Value.int .u8 (Int.ofNat m.toNat)])) = some (u, h2) ∧ Ch0 h h2 ∧ SlR 1 h2 u (byt (x ++ [m])) := by
  obtain ⟨n1, n2, n3⟩ := newR_ok w 5 1 []
  have ow : Ow 5 1 (newR h 5 1 []) ⟨some ⟨h.next, 0, none⟩, 0, 0⟩ (byt []) := Ow.of_is n3 rfl (by unfold unk; omega)
  obtain ⟨t, g2, f1, f2, f3, f4⟩ := app_b n1.wf ow (r.stay w n1) (by show 0 + _ ≤ _; omega)
  have hb : ∀ b, SlB ⟨some ⟨h.next, 0, none⟩, 0, 0⟩ b → h.next ≤ b := fun b hb => by obtain ⟨o, q⟩ := hb; have : h.next = b := congrArg Addr.block (Option.some.inj q); omega
  have c02 : Ch0 h g2 := Ch0.own n1 f2 hb
  have tb : ∀ b, SlB t b → h.next ≤ b := fun b hb' => (f4 b hb').elim (hb b) fun f => by omega
  rw [List.nil_append] at f3
  obtain ⟨u, h2, d1, d2, d3, d4⟩ := push_b f2.wf f3 m _ rfl hx
  exact ⟨t, g2, u, h2, f1, d1, Ch0.own c02 d2 tb, d3.slr⟩
set_option maxHeartbeats 4000000 in
theorem Pure.sizes_reply (k : Nat) (hk : 1000000 < k) {h6 : H} (w : WF h6) (n1 n2 n3 : Int) (m : UInt8) : ∃ h', (((corbellaw11_CallSizes.l0 k k n1 n2 n3 (Int.ofNat m.toNat) (some ⟨h6.next, 0, none⟩) (0 : Int) (newR h6 67 4 (repV 0 0 ⟨none, 0, 0⟩ ⟨none, 0, 0⟩))).bind fun w33 =>
    (corbellaw11_CallSizes.l1 k k n2 n3 (Int.ofNat m.toNat) (some ⟨h6.next, 0, none⟩) (0 : Int) w33.2).bind fun w47 =>
    (asSt [(.int .i64), (.int .i64), .sl, .sl] (lda 4 w47.2 (some ⟨h6.next, 0, none⟩))).bind fun s48 =>
    (call_LayRep.f k (s48.1, s48.2.1, s48.2.2.1, s48.2.2.2) w47.2).bind fun q49 =>
    (cond (q49.1.2 != (0 : Int)) (some (true, q49.2))
      ((asS (ldc q49.2 (some ⟨h6.next, 2, none⟩))).bind fun s50 =>
    (asS (ldc q49.2 (some ⟨h6.next, 3, none⟩))).bind fun s51 =>
    some ((Int.ofNat q49.1.1.n) != (wrapA .i64 ((wrapA .i64 ((7 : Int) + (wrapA .i64 ((40 : Int) * (Int.ofNat s50.n))))) + (wrapA .i64 ((135 : Int) * (Int.ofNat s51.n))))), q49.2))).bind fun g52 =>
    cond g52.1
      (some (false, g52.2))
      ((asS (subs 1 (Value.slice q49.1.1.a q49.1.1.n q49.1.1.c) none (some (wrapA .i64 ((Int.ofNat q49.1.1.n) - (1 : Int)))))).bind fun s53 =>
    (call_ReadRep.f k s53 g52.2).bind fun q54 =>
    (stv 4 (newR q54.2 67 4 (repV 0 0 ⟨none, 0, 0⟩ ⟨none, 0, 0⟩)) (some ⟨q54.2.next, 0, none⟩) [(Value.int .i64 q54.1.1.1), (Value.int .i64 q54.1.1.2.1), (Value.slice q54.1.1.2.2.1.a q54.1.1.2.2.1.n q54.1.1.2.2.1.c), (Value.slice q54.1.1.2.2.2.a q54.1.1.2.2.2.n q54.1.1.2.2.2.c)]).bind fun q55 =>
    (asS2 (apv 5 1 1 (Value.slice (some ⟨q55.2.next, 0, none⟩) 0 0) (Value.slice q49.1.1.a q49.1.1.n q49.1.1.c) (newR q55.2 5 1 []))).bind fun q56 =>
    (asS2 (apv 5 1 1 (Value.slice q56.1.a q56.1.n q56.1.c) (Value.slice (some ⟨q56.2.next, 0, none⟩) 1 1) (newR q56.2 5 1 [(Value.int .u8 (Int.ofNat m.toNat))]))).bind fun q57 =>
    (call_ReadRep.f k q57.1 q57.2).bind fun q58 =>
    (stv 4 (newR q58.2 67 4 (repV 0 0 ⟨none, 0, 0⟩ ⟨none, 0, 0⟩)) (some ⟨q58.2.next, 0, none⟩) [(Value.int .i64 q58.1.1.1), (Value.int .i64 q58.1.1.2.1), (Value.slice q58.1.1.2.2.1.a q58.1.1.2.2.1.n q58.1.1.2.2.1.c), (Value.slice q58.1.1.2.2.2.a q58.1.1.2.2.2.n q58.1.1.2.2.2.c)]).bind fun q59 =>
    (call_ReadRep.f k q49.1.1 q59.2).bind fun q60 =>
    (stv 4 (newR q60.2 67 4 (repV 0 0 ⟨none, 0, 0⟩ ⟨none, 0, 0⟩)) (some ⟨q60.2.next, 0, none⟩) [(Value.int .i64 q60.1.1.1), (Value.int .i64 q60.1.1.2.1), (Value.slice q60.1.1.2.2.1.a q60.1.1.2.2.1.n q60.1.1.2.2.1.c), (Value.slice q60.1.1.2.2.2.a q60.1.1.2.2.2.n q60.1.1.2.2.2.c)]).bind fun q61 =>
    (cond (q54.1.2 == (2 : Int)) (some (q58.1.2 == (2 : Int), q61.2))
      (some (false, q61.2))).bind fun g62 =>
    (cond g62.1 (some (q60.1.2 == (0 : Int), g62.2))
      (some (false, g62.2))).bind fun g63 =>
    (cond g63.1 ((asSt [(.int .i64), (.int .i64), .sl, .sl] (lda 4 g63.2 (some ⟨h6.next, 0, none⟩))).bind fun s64 =>
    (asSt [(.int .i64), (.int .i64), .sl, .sl] (lda 4 g63.2 (some ⟨q60.2.next, 0, none⟩))).bind fun s65 =>
    (corbelref7_SameRep.f k (s64.1, s64.2.1, s64.2.2.1, s64.2.2.2) (s65.1, s65.2.1, s65.2.2.1, s65.2.2.2) g63.2).bind fun q66 =>
    some (q66.1, q66.2))
      (some (false, g63.2))).bind fun g67 =>
    some (g67.1, g67.2))) : Option (Bool × H)) = some (true, h') := by
  -- a reply
  obtain ⟨y1, y2⟩ := Bd.new w 0 0
  obtain ⟨N, hN⟩ : ∃ N : Nat, n1 % 3 = Int.ofNat N := ⟨_, nn _ (Int.emod_nonneg _ (by decide))⟩
  have hN2 : N ≤ 2 := by have := Int.emod_lt_of_pos n1 (show (0 : Int) < 3 by decide); rw [hN] at this; simp only [Int.ofNat_eq_natCast] at this; omega
  obtain ⟨M, hM⟩ : ∃ N : Nat, n2 % 17 = Int.ofNat N := ⟨_, nn _ (Int.emod_nonneg _ (by decide))⟩
  have hM2 : M ≤ 16 := by have := Int.emod_lt_of_pos n2 (show (0 : Int) < 17 by decide); rw [hM] at this; simp only [Int.ofNat_eq_natCast] at this; omega
  obtain ⟨g7, sp, ps, u1, u2, u3, u4, u5⟩ := Pure.sizesP_l k (by omega) n1 n2 n3 (Int.ofNat m.toNat) N hN hN2 k 0 _ _ _ [] [] (by omega) (Nat.zero_le _) y1.wf y2 rfl (fun p hp => by cases hp)
  rw [show (0 : Int) = Int.ofNat 0 from rfl]
  rw [show repV (Int.ofNat 0) (Int.ofNat 0) ⟨none, 0, 0⟩ ⟨none, 0, 0⟩ = repV 0 0 ⟨none, 0, 0⟩ ⟨none, 0, 0⟩ from rfl]
  rw [u1]
  simp only [Option.bind_some]
  obtain ⟨g8, si, is, v1, v2, v3, v4, v5⟩ := Pure.sizesI_l k (by omega) n2 n3 (Int.ofNat m.toNat) M hM hM2 k 0 _ _ _ ps [] (by omega) (Nat.zero_le _) u2.wf u3 rfl (fun p hp => by cases hp)
  rw [v1]
  simp only [Option.bind_some]
  rw [Is.rr v3.box, bindRr]
  dsimp only
  generalize hQ : (⟨0, 0, ps.map (·.1), is.map (·.1)⟩ : Rr) = Q
  have hr : Q.right = true := (Rr.right_iff Q).2 (by
    rw [← hQ]
    exact ⟨Int.le_refl _, by show (0 : Int) ≤ 255; omega, Int.le_refl _, by show (0 : Int) ≤ 2147483647; omega, by show (ps.map (·.1)).length ≤ 2; rw [List.length_map]; omega, by show (is.map (·.1)).length ≤ 16; rw [List.length_map]; omega, fun p hp => by obtain ⟨x, hx, rfl⟩ := List.mem_map.1 hp; exact u5 x hx, fun p hp => by obtain ⟨x, hx, rfl⟩ := List.mem_map.1 hp; exact v5 x hx⟩)
  have RR := (Rr.right_iff Q).1 hr
  have ll := layRr_len Q RR
  have Qp : Q.ps.length = ps.length := by rw [← hQ]; exact List.length_map _
  have Qi : Q.is.length = is.length := by rw [← hQ]; exact List.length_map _
  rw [Qp, Qi] at ll
  obtain ⟨s9, g9, w1, w2, w3, w4⟩ := rrLay_f k (by omega) v2.wf 0 0 v3.pcr v3.itr (by omega) (by omega) Q hQ
  rw [hr] at w1 w3
  rw [if_pos rfl] at w1 w3
  rw [w1]
  simp only [Option.bind_some]
  have B9 := v3.keep v2.wf w2 (fun _ _ _ f => f)
  rw [show ((0 : Int) != Int.ofNat 0) = false from rfl]
  simp only [cond_false]
  rw [B9.box.ldc, B9.box.ldc]
  rw [show asS ((repV 0 0 sp si)[2]?) = some sp from rfl, show asS ((repV 0 0 sp si)[3]?) = some si from rfl]
  simp only [Option.bind_some, v3.pcr.n, v3.itr.n]
  have sn : s9.n = (layRr Q).length := w3.slr.n_byt
  rw [wrap_in (n := 40 * Int.ofNat ps.length) (by simp only [Int.ofNat_eq_natCast]; omega) (by simp only [Int.ofNat_eq_natCast]; omega), wrap_in (n := 7 + 40 * Int.ofNat ps.length) (by simp only [Int.ofNat_eq_natCast]; omega) (by simp only [Int.ofNat_eq_natCast]; omega), wrap_in (n := 135 * Int.ofNat is.length) (by simp only [Int.ofNat_eq_natCast]; omega) (by simp only [Int.ofNat_eq_natCast]; omega), wrap_in (n := 7 + 40 * Int.ofNat ps.length + 135 * Int.ofNat is.length) (by simp only [Int.ofNat_eq_natCast]; omega) (by simp only [Int.ofNat_eq_natCast]; omega)]
  rw [show (Int.ofNat s9.n != 7 + 40 * Int.ofNat ps.length + 135 * Int.ofNat is.length) = false by rw [sn, ll]; simp]
  simp only [cond_false]
  rw [wrap_in (n := Int.ofNat s9.n - 1) (by rw [sn, ll]; simp only [Int.ofNat_eq_natCast]; omega) (by rw [sn, ll]; simp only [Int.ofNat_eq_natCast]; omega)]
  rw [show Int.ofNat s9.n - 1 = Int.ofNat ((layRr Q).length - 1) by rw [sn, ll]; simp only [Int.ofNat_eq_natCast]; omega]
  obtain ⟨t, j1, j2, j3, j4⟩ := subb_ok w3.slr (lo := 0) (hi := (layRr Q).length - 1) (Nat.zero_le _) (by omega) (xlo := none) (xhi := some (Int.ofNat ((layRr Q).length - 1))) rfl rfl
  rw [j1]
  simp only [asS_slv, Option.bind_some]
  rw [List.drop_zero, Nat.sub_zero] at j3
  obtain ⟨c1, b1', sp1, si1, ps1, is1, g10, e1, e2, e3, e4, e5⟩ := rrRead_f k hk w2.wf j3 (by rw [List.length_take]; omega)
  rw [readRr_short hr (by omega), show (if (none : Option Rr).isSome = true then (0 : Int) else 2) = 2 from rfl] at e1
  rw [e1]
  simp only [Option.bind_some]
  rw [show [Value.int .i64 c1, Value.int .i64 b1', Value.slice sp1.a sp1.n sp1.c, Value.slice si1.a si1.n si1.c] = repV c1 b1' sp1 si1 from rfl]
  obtain ⟨g11, f1, f2, f3, f4⟩ := box_ok e2.wf 67 4 (repV 0 0 ⟨none, 0, 0⟩ ⟨none, 0, 0⟩) (repV c1 b1' sp1 si1) rfl rfl rfl
  rw [f1]
  simp only [Option.bind_some]
  have c11 : Ch0 g9 g11 := e2.then f2
  obtain ⟨t12, g12, t13, g13, m1, m2, m3, m4⟩ := Pure.more c11.wf (w3.slr.stay w2.wf c11) (by omega) m
  rw [m1]
  simp only [Option.bind_some]
  rw [m2]
  simp only [Option.bind_some]
  obtain ⟨c2, b2', sp2, si2, ps2, is2, g14, o1, o2, o3, o4, o5⟩ := rrRead_f k hk m3.wf m4 (by rw [List.length_append, List.length_singleton]; omega)
  rw [readRr_long hr, show (if (none : Option Rr).isSome = true then (0 : Int) else 2) = 2 from rfl] at o1
  rw [o1]
  simp only [Option.bind_some]
  rw [show [Value.int .i64 c2, Value.int .i64 b2', Value.slice sp2.a sp2.n sp2.c, Value.slice si2.a si2.n si2.c] = repV c2 b2' sp2 si2 from rfl]
  obtain ⟨g15, r1, r2, r3, r4⟩ := box_ok o2.wf 67 4 (repV 0 0 ⟨none, 0, 0⟩ ⟨none, 0, 0⟩) (repV c2 b2' sp2 si2) rfl rfl rfl
  rw [r1]
  simp only [Option.bind_some]
  have c15 : Ch0 g9 g15 := ((c11.then m3).then o2).then r2
  obtain ⟨c3, b3', sp3, si3, ps3, is3, g16, x1, x2, x3, x4, x5⟩ := rrRead_f k hk c15.wf (w3.slr.stay w2.wf c15) (by omega)
  rw [readRr_lay Q hr] at x1 x5
  rw [show (if (some Q).isSome = true then (0 : Int) else 2) = 0 from rfl] at x1
  rw [x1]
  simp only [Option.bind_some]
  rw [show [Value.int .i64 c3, Value.int .i64 b3', Value.slice sp3.a sp3.n sp3.c, Value.slice si3.a si3.n si3.c] = repV c3 b3' sp3 si3 from rfl]
  obtain ⟨g17, k1, k2, k3, k4⟩ := box_ok x2.wf 67 4 (repV 0 0 ⟨none, 0, 0⟩ ⟨none, 0, 0⟩) (repV c3 b3' sp3 si3) rfl rfl rfl
  rw [k1]
  simp only [Option.bind_some]
  rw [show ((2 : Int) == (2 : Int)) = true from rfl, show ((0 : Int) == Int.ofNat 0) = true from rfl]
  simp only [Option.bind_some, cond_true]
  have c17 : Ch0 g9 g17 := (c15.then x2).then k2
  have B17 := B9.keep w2.wf c17 (fun _ _ _ f => f)
  rw [Is.rr B17.box, bindRr, Is.rr k4, bindRr]
  dsimp only
  have er : (some Q).getD Rr.zero = Q := rfl
  rw [er] at x5
  obtain ⟨g18, q1, q2⟩ := rrSame_f k (by omega) c17.wf 0 c3 0 b3' B17.pcr B17.itr (x3.stay x2.wf k2) (x4.stay x2.wf k2) (by omega) (by omega) Q Q hQ x5
  rw [q1, Rr.same_self]
  simp only [Option.bind_some]
  exact ⟨g18, rfl⟩
set_option maxHeartbeats 4000000 in
theorem Pure.sizes_f (k : Nat) (hk : 1000000 < k) {h : H} (w : WF h) (a b c d e f n1 n2 n3 : Int) (m : UInt8) :
    ∃ h', corbellaw11_CallSizes.f k (a, b, c, d, e, f) n1 n2 n3 (Int.ofNat m.toNat) h = some (true, h') := by
  unfold corbellaw11_CallSizes.f
  dsimp only
  rw [show [Value.int .i64 (0 : Int), Value.int .i64 0, Value.int .i64 0, Value.int .i64 0, Value.slice none 0 0] = crV 0 0 0 0 ⟨none, 0, 0⟩ from rfl, show [Value.int .i64 (0 : Int), Value.int .i64 0, Value.slice none 0 0, Value.slice none 0 0] = repV 0 0 ⟨none, 0, 0⟩ ⟨none, 0, 0⟩ from rfl]
  obtain ⟨z1, z2, z3⟩ := newR_ok w 46 6 [Value.int IntKind.i64 a, Value.int IntKind.i64 b, Value.int IntKind.i64 c, Value.int IntKind.i64 d, Value.int IntKind.i64 e, Value.int IntKind.i64 f]
  generalize newR h 46 6 [Value.int IntKind.i64 a, Value.int IntKind.i64 b, Value.int IntKind.i64 c, Value.int IntKind.i64 d, Value.int IntKind.i64 e, Value.int IntKind.i64 f] = g0 at z1 z2 z3 ⊢
  rw [Bool.not_true, cond_false, z3.lda (o := 0) (n := 6) (Nat.le_refl _)]
  rw [show ((([Value.int IntKind.i64 a, Value.int IntKind.i64 b, Value.int IntKind.i64 c, Value.int IntKind.i64 d, Value.int IntKind.i64 e, Value.int IntKind.i64 f] : List Value).drop 0).take 6).toArray = #[.int .i64 a, .int .i64 b, .int .i64 c, .int .i64 d, .int .i64 e, .int .i64 f] from rfl, Pure.bind6]
  dsimp only
  obtain ⟨p, dp, h1, a1, a2, a3, a4⟩ := req_f k (by omega) z1.wf a b c d e f
  rw [a1]
  simp only [Cr.tup, Option.bind_some]
  rw [show [Value.int .i64 p.kd, Value.int .i64 p.st, Value.int .i64 p.gn, Value.int .i64 p.ix, Value.slice dp.a dp.n dp.c] = crV p.kd p.st p.gn p.ix dp from rfl]
  obtain ⟨h2, b1, b2, b3, b4⟩ := box_ok a2.wf 48 5 (crV 0 0 0 0 ⟨none, 0, 0⟩) (crV p.kd p.st p.gn p.ix dp) rfl rfl rfl
  rw [b1]
  simp only [Option.bind_some]
  rw [Is.cr b4, bindCr]
  dsimp only
  rw [show ((p.kd, p.st, p.gn, p.ix, dp) : CrT) = p.tup dp from rfl]
  have rp := a3.stay a2.wf b2
  obtain ⟨s5, h5, i1, i2, i3, i4⟩ := clay_f k (by omega) b2.wf p dp rp
  rw [i1]
  simp only [Option.bind_some]
  -- a request
  have J : ∃ h6, ((cond ((if p.right = true then (0 : Int) else 1) == (0 : Int))
      ((asS (subs 1 (Value.slice s5.a s5.n s5.c) none (some (cond (decide ((wrapA .i64 ((Int.ofNat s5.n) - (1 : Int))) > (0 : Int))) (wrapA .i64 ((Int.ofNat s5.n) - (1 : Int))) (0 : Int))))).bind fun s6 =>
    (call_ReadReq.f k s6 h5).bind fun q7 =>
    (stv 5 (newR q7.2 48 5 (crV 0 0 0 0 ⟨none, 0, 0⟩)) (some ⟨q7.2.next, 0, none⟩) [(Value.int .i64 q7.1.1.1), (Value.int .i64 q7.1.1.2.1), (Value.int .i64 q7.1.1.2.2.1), (Value.int .i64 q7.1.1.2.2.2.1), (Value.slice q7.1.1.2.2.2.2.a q7.1.1.2.2.2.2.n q7.1.1.2.2.2.2.c)]).bind fun q8 =>
    (asS2 (apv 5 1 1 (Value.slice (some ⟨q8.2.next, 0, none⟩) 0 0) (Value.slice s5.a s5.n s5.c) (newR q8.2 5 1 []))).bind fun q9 =>
    (asS2 (apv 5 1 1 (Value.slice q9.1.a q9.1.n q9.1.c) (Value.slice (some ⟨q9.2.next, 0, none⟩) 1 1) (newR q9.2 5 1 [(Value.int .u8 (Int.ofNat m.toNat))]))).bind fun q10 =>
    (call_ReadReq.f k q10.1 q10.2).bind fun q11 =>
    (stv 5 (newR q11.2 48 5 (crV 0 0 0 0 ⟨none, 0, 0⟩)) (some ⟨q11.2.next, 0, none⟩) [(Value.int .i64 q11.1.1.1), (Value.int .i64 q11.1.1.2.1), (Value.int .i64 q11.1.1.2.2.1), (Value.int .i64 q11.1.1.2.2.2.1), (Value.slice q11.1.1.2.2.2.2.a q11.1.1.2.2.2.2.n q11.1.1.2.2.2.2.c)]).bind fun q12 =>
    (asS (ldc q12.2 (some ⟨h1.next, 4, none⟩))).bind fun s13 =>
    (cond ((Int.ofNat s5.n) != (wrapA .i64 ((12 : Int) + (Int.ofNat s13.n)))) (some (true, q12.2))
      (some (q7.1.2 != (2 : Int), q12.2))).bind fun g14 =>
    (cond g14.1 (some (true, g14.2))
      (some (q11.1.2 != (2 : Int), g14.2))).bind fun g15 =>
    cond g15.1
      (some (Sum.inl false, g15.2))
      (some (Sum.inr (), g15.2)))
      (some (Sum.inr (), h5)) : Option (((Bool) ⊕ (Unit)) × H))) = some (.inr (), h6) ∧ Ch0 h5 h6 := by
    cases hr : p.right with
    | false => exact ⟨h5, rfl, Ch.refl i2.wf⟩
    | true =>
      rw [hr, if_pos rfl] at i3
      have hl : (layC p).length ≤ 200 := by
        rw [layC_len]
        have := ((Cr.right_iff p).1 hr).dl
        omega
      have hl2 : 12 ≤ (layC p).length := by rw [layC_len]; omega
      have sn : s5.n = (layC p).length := i3.slr.n_byt
      rw [show ((if true = true then (0 : Int) else 1) == (0 : Int)) = true from rfl, cond_true]
      rw [wrap_in (n := Int.ofNat s5.n - 1) (by rw [sn]; simp only [Int.ofNat_eq_natCast]; omega) (by rw [sn]; simp only [Int.ofNat_eq_natCast]; omega)]
      rw [show Int.ofNat s5.n - 1 = Int.ofNat ((layC p).length - 1) by rw [sn]; simp only [Int.ofNat_eq_natCast]; omega]
      rw [decide_eq_true (show Int.ofNat ((layC p).length - 1) > (0 : Int) by simp; omega), cond_true]
      obtain ⟨t, j1, j2, j3, j4⟩ := subb_ok i3.slr (lo := 0) (hi := (layC p).length - 1) (Nat.zero_le _) (by omega) (xlo := none) (xhi := some (Int.ofNat ((layC p).length - 1))) rfl rfl
      rw [j1]
      simp only [asS_slv, Option.bind_some]
      rw [List.drop_zero, Nat.sub_zero] at j3
      obtain ⟨d7, h7, k1, k2, k3⟩ := cread_f k hk i2.wf j3 (by rw [List.length_take]; omega)
      rw [Pure.readP_short hr (by omega)] at k1
      rw [k1]
      simp only [Cr.tup, Option.bind_some]
      generalize resP ((layC p).take ((layC p).length - 1)) = u
      rw [show [Value.int .i64 u.kd, Value.int .i64 u.st, Value.int .i64 u.gn, Value.int .i64 u.ix, Value.slice d7.a d7.n d7.c] = crV u.kd u.st u.gn u.ix d7 from rfl]
      obtain ⟨h8, l1, l2, l3, l4⟩ := box_ok k2.wf 48 5 (crV 0 0 0 0 ⟨none, 0, 0⟩) (crV u.kd u.st u.gn u.ix d7) rfl rfl rfl
      rw [l1]
      simp only [Option.bind_some]
      have c8 : Ch0 h5 h8 := k2.then l2
      obtain ⟨t9, h9, t10, h10, m1, m2, m3, m4⟩ := Pure.more c8.wf (i3.slr.stay i2.wf c8) (by omega) m
      rw [m1]
      simp only [Option.bind_some]
      rw [m2]
      simp only [Option.bind_some]
      obtain ⟨d11, h11, o1, o2, o3⟩ := cread_f k hk m3.wf m4 (by rw [List.length_append, List.length_singleton]; omega)
      rw [Pure.readP_long hr] at o1
      rw [o1]
      simp only [Cr.tup, Option.bind_some]
      generalize resP (layC p ++ [m]) = v
      rw [show [Value.int .i64 v.kd, Value.int .i64 v.st, Value.int .i64 v.gn, Value.int .i64 v.ix, Value.slice d11.a d11.n d11.c] = crV v.kd v.st v.gn v.ix d11 from rfl]
      obtain ⟨h12, r1, r2, r3, r4⟩ := box_ok o2.wf 48 5 (crV 0 0 0 0 ⟨none, 0, 0⟩) (crV v.kd v.st v.gn v.ix d11) rfl rfl rfl
      rw [r1]
      simp only [Option.bind_some]
      have c12 : Ch0 h5 h12 := ((c8.then m3).then o2).then r2
      rw [(b4.stay b2.wf (i2.then c12)).ldc 4, show asS ((crV p.kd p.st p.gn p.ix dp)[4]?) = some dp from rfl]
      simp only [Option.bind_some, rp.n_byt]
      rw [wrap_in (n := 12 + Int.ofNat p.data.length) (by simp only [Int.ofNat_eq_natCast]; omega) (by rw [layC_len] at hl; simp only [Int.ofNat_eq_natCast]; omega)]
      rw [show (Int.ofNat s5.n != 12 + Int.ofNat p.data.length) = false by rw [sn, layC_len]; simp]
      exact ⟨h12, rfl, c12⟩
  obtain ⟨h6, J1, J2⟩ := J
  refine Exists.imp (fun h' e => (congrArg (fun o => Option.bind o _) J1).trans e) ?_
  dsimp only [Option.bind_some]
  exact Pure.sizes_reply k hk J2.wf n1 n2 n3 m
theorem Pure.CallSizes : ∀ h x vs, Den.WF h → Den.Dead h → Ar.CallSizes.R h x vs → Ar.CallSizes.Q x → ∃ a, Den.encL [.st [.int .i64, .int .i64, .int .i64, .int .i64, .int .i64, .int .i64], .int .i64, .int .i64, .int .i64, .int .u8] a = vs ∧ Den.toldB (Fwd.corbellaw11_CallSizes.f 2000000 a.1 a.2.1 a.2.2.1 a.2.2.2.1 a.2.2.2.2 h) = true := by
  rintro h ⟨⟨a, b, c, d, e, f⟩, n1, n2, n3, m, _⟩ vs w _ ⟨va, vb, rfl, ⟨ll, rfl, x1, y1, rfl, r1, x2, y2, rfl, r2, x3, y3, rfl, r3, x4, y4, rfl, r4, x5, y5, rfl, r5, r6⟩, vc, vd, rfl, r7, ve, vf, rfl, r8, vg, vh, rfl, r9, vi, vj, rfl, r10, rfl⟩ ⟨_, _, _, _, q3, _⟩
  obtain rfl := r1
  obtain rfl := r2
  obtain rfl := r3
  obtain rfl := r4
  obtain rfl := r5
  obtain rfl := r6
  obtain rfl := r7
  obtain rfl := r8
  obtain rfl := r9
  obtain rfl := r10
  obtain ⟨m, rfl⟩ := Pure.wf8 q3
  obtain ⟨h', g⟩ := Pure.sizes_f 2000000 (by decide) w a b c d e f n1 n2 n3 m
  exact ⟨((a, b, c, d, e, f), n1, n2, n3, Int.ofNat m.toNat), rfl, (congrArg toldB g).trans rfl⟩
end Go.Proofs.Ythpkhegoamhgeaa
