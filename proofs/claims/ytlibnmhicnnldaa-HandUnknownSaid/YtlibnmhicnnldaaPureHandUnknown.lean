/- HandUnknown: the law's forward run comes to true. -/
import Derived.Test.YtlibnmhicnnldaaFwHand
import Derived.Test.YtlibnmhicnnldaaArHandUnknown
namespace Go.Proofs.Ytlibnmhicnnldaa
open Go Den Fwd Fw
set_option linter.unusedVariables false
set_option linter.unusedSimpArgs false
theorem Pure.eqptr22 (p : Addr) : binO1 Try.prog .eql 22 (.pointer (some p)) (.pointer none) = some (.bool false) := by
  simp [binO1, binB, binA, Try.underlying22, eqA]
theorem Pure.nilOw {h : H} : Ow 5 1 h ⟨none, 0, 0⟩ (byt []) := Ow.nil
/-- the flags are taken -/
theorem Pure.feedFlags (k : Nat) (hk : 1000 < k) {h : H} (w : WF h) {p : Nat} (r : HdR h p ⟨[], false, false, [], false, false⟩) {b l : Sl} (rb : SlR 1 h b (byt [0, 0, 0, 1])) :
    ∃ h', hand_Hand_Feed.f k (some ⟨p, 0, none⟩) b l h = some ((⟨none, 0, 0⟩, ⟨none, 0, 0⟩), h') ∧ Ch (fun b => b = p) h h' ∧ HdR h' p ⟨[], true, false, [], false, false⟩ := by
  obtain ⟨m, rfl⟩ : ∃ m, k = m + 3 := ⟨k - 3, by omega⟩
  obtain ⟨h1, a1, a2, a3⟩ := feed_in (m + 3) hk w r rfl rfl (l := l) rb (by decide)
  rw [a1]
  rw [loopGo (m + 3) (m + 2) a3 rfl rfl]
  obtain ⟨h2, b1, b2, b3⟩ := stepGreet (m + 3) hk a2.wf a3 rfl (by decide) l
  rw [b1]
  simp only [Option.bind_some, Bool.not_true, cond_false]
  rw [apNil ⟨none, 0, 0⟩ b2.wf Pure.nilOw (by decide)]
  simp only [Option.bind_some]
  have u : unbe ((([] ++ [0, 0, 0, 1] : List UInt8)).take 4) = 1 := by
    unfold unbe
    simp [unbeA]
  have e : greetP ⟨[] ++ [0, 0, 0, 1], false, false, [], false, false⟩ = ⟨[], true, false, [], false, false⟩ := by
    unfold greetP
    simp only [u]
    rfl
  rw [e] at b3
  rw [loopGo (m + 3) (m + 1) b3 rfl rfl, stepFew (m + 3) b3 rfl (by decide)]
  exact ⟨h2, rfl, a2.trans b2 fun _ _ f => f, b3⟩
theorem Pure.cutOpt (o : Nat) (d y : List UInt8) (ho : o < 4294967296) (hd : d.length < 4294967296) : cutL (optB o d ++ y) 0 8 = magicB ∧ unbe (cutL (optB o d ++ y) 8 12) = o ∧ unbe (cutL (optB o d ++ y) 12 16) = d.length ∧ cutL (optB o d ++ y) 16 (16 + d.length) = d ∧ (optB o d ++ y).drop (16 + d.length) = y := by
  have e : optB o d ++ y = (magicB ++ beN o 4 ++ beN d.length 4) ++ (d ++ y) := by unfold optB; simp only [List.append_assoc]
  have hl : (magicB ++ beN o 4 ++ beN d.length 4).length = 16 := rfl
  have c : ∀ {lo hi : Nat}, hi ≤ 16 → cutL (optB o d ++ y) lo hi = cutL (magicB ++ beN o 4 ++ beN d.length 4) lo hi := fun {lo hi} h => by rw [e, cutL_app (by rw [hl]; exact h)]
  have p4 : (256 : Nat) ^ 4 = 4294967296 := rfl
  refine ⟨by rw [c (by decide)]; rfl, ?_, ?_, ?_, ?_⟩
  · rw [c (by decide), show cutL (magicB ++ beN o 4 ++ beN d.length 4) 8 12 = beN o 4 from rfl, unbe_be (by rw [p4]; exact ho)]
  · rw [c (by decide), show cutL (magicB ++ beN o 4 ++ beN d.length 4) 12 16 = beN d.length 4 from rfl, unbe_be (by rw [p4]; exact hd)]
  · unfold cutL
    rw [e, List.drop_append_of_le_length (by rw [hl]; exact Nat.le_refl _), List.drop_eq_nil_of_le (by rw [hl]; exact Nat.le_refl _), List.nil_append, List.take_append_of_le_length (by omega), List.take_of_length_le (by omega)]
  · rw [List.drop_append_of_le_length (by rw [optB_len]; exact Nat.le_refl _), List.drop_eq_nil_of_le (by rw [optB_len]; exact Nat.le_refl _), List.nil_append]
theorem Pure.optGood (o : Nat) (d y : List UInt8) (ho : o < 4294967296) (hd : d.length ≤ 4096) : badHead (optB o d ++ y) = false := by
  obtain ⟨e1, e2, e3, _⟩ := Pure.cutOpt o d y ho (by omega)
  unfold badHead
  rw [e1, e3, decide_eq_true rfl, decide_eq_false (by omega)]; rfl
/-- an option that nobody knows -/
theorem Pure.feedUnknown (k : Nat) (hk : 1000 < k) {h : H} (w : WF h) {p : Nat} (r : HdR h p ⟨[], true, false, [], false, false⟩) {b l : Sl} (o : Nat) (ho : 8 ≤ o) (ho2 : o < 4294967296) (d : List UInt8) (hd : d.length ≤ 4096) (rb : SlR 1 h b (byt (optB o d))) :
    ∃ s' h', hand_Hand_Feed.f k (some ⟨p, 0, none⟩) b l h = some ((s', ⟨none, 0, 0⟩), h') ∧ Ch (fun b => b = p) h h' ∧ HdR h' p ⟨[], true, false, [], false, false⟩ ∧ Ow 5 1 h' s' (byt (replyB o 2147483649 [])) ∧ ∀ b, SlB s' b → h.next ≤ b := by
  obtain ⟨m, rfl⟩ : ∃ m, k = m + 3 := ⟨k - 3, by omega⟩
  obtain ⟨h1, a1, a2, a3⟩ := feed_in (m + 3) hk w r rfl rfl (l := l) rb (by rw [optB_len]; show 0 + _ ≤ _; omega)
  rw [a1]
  rw [loopGo (m + 3) (m + 2) a3 rfl rfl]
  have e0 : ([] : List UInt8) ++ optB o d = optB o d ++ [] := by simp
  have a3 : HdR h1 p ⟨optB o d ++ [], true, false, [], false, false⟩ := by rw [← e0]; exact a3
  obtain ⟨c1, c2, c3, c4, c5⟩ := Pure.cutOpt o d [] ho2 (by omega)
  obtain ⟨sd, h2, b1, b2, b3, b4⟩ := stepOpt (m + 3) hk a2.wf a3 rfl (Pure.optGood o d [] ho2 hd) (by show 16 + unbe (cutL (optB o d ++ []) 12 16) ≤ (optB o d ++ []).length; rw [c3, List.append_nil, optB_len]; exact Nat.le_refl _) l
  simp only [c2, c3, c4, c5] at b1 b3 b4
  rw [b1]
  unfold hand_Hand_option.f
  have ne : ∀ j : Nat, j < 8 → (Int.ofNat o == Int.ofNat j) = false := fun j hj => by
    rw [beq_eq_false_iff_ne]
    intro f
    have := Int.ofNat.inj f
    omega
  rw [show (1 : Int) = Int.ofNat 1 from rfl, ne 1 (by decide), cond_false, show (2 : Int) = Int.ofNat 2 from rfl, ne 2 (by decide), cond_false, show (3 : Int) = Int.ofNat 3 from rfl, ne 3 (by decide), cond_false, show (6 : Int) = Int.ofNat 6 from rfl, ne 6 (by decide), show (7 : Int) = Int.ofNat 7 from rfl, ne 7 (by decide)]
  simp only [cond_false, Option.bind_some]
  obtain ⟨s3, h3, d1, d2, d3, d4⟩ := reply_f (m + 3) hk b2.wf o 2147483649 (Int.ofNat o) 2147483649 rfl rfl (s := ⟨none, 0, 0⟩) (d := []) (.inl ⟨rfl, .inl rfl⟩) (by decide)
  rw [d1]
  simp only [Option.bind_some, Bool.not_true, cond_false]
  obtain ⟨s4, h4, f1, f2, f3, f4⟩ := app_b d2.wf (Pure.nilOw (h := h3)) d3.slr (by unfold replyB; simp only [List.length_append, beN_len]; decide)
  rw [f1]
  simp only [Option.bind_some]
  have nb : ∀ x, ¬ SlB ⟨none, 0, 0⟩ x := fun x hx => by obtain ⟨o, q⟩ := hx; cases q
  have c24 : Ch0 h2 h4 := d2.then (f2.mono fun x _ f => nb x f)
  have r4 := b3.stay b2.wf c24
  rw [loopGo (m + 3) (m + 1) r4 rfl rfl, stepFew (m + 3) r4 rfl (by decide)]
  have c02 := a2.trans b2 fun _ _ f => f
  refine ⟨s4, h4, rfl, c02.trans c24 fun _ _ f => f.elim, r4, by simpa using f3, fun x hx => ?_⟩
  have l2 := c02.le
  have l3 := d2.le
  rcases f4 x hx with f | f
  · exact absurd f (nb x)
  · omega
/-- what cannot be goes to its end -/
theorem Pure.feedBad (k : Nat) (hk : 1000 < k) {h : H} (w : WF h) {p : Nat} (r : HdR h p ⟨[], true, false, [], false, false⟩) {b l : Sl} {x : List UInt8} (hx : 16 ≤ x.length) (hx2 : x.length ≤ 1000000) (hb : badHead x = true) (rb : SlR 1 h b (byt x)) :
    ∃ h', hand_Hand_Feed.f k (some ⟨p, 0, none⟩) b l h = some ((⟨none, 0, 0⟩, ⟨none, 0, 0⟩), h') ∧ Ch (fun b => b = p) h h' ∧ HdR h' p ⟨[], true, false, [], false, true⟩ := by
  obtain ⟨m, rfl⟩ : ∃ m, k = m + 3 := ⟨k - 3, by omega⟩
  obtain ⟨h1, a1, a2, a3⟩ := feed_in (m + 3) hk w r rfl rfl (l := l) rb (by show 0 + _ ≤ _; omega)
  rw [a1]
  rw [loopGo (m + 3) (m + 2) a3 rfl rfl]
  obtain ⟨h2, b1, b2, b3⟩ := stepBad (m + 3) hk a2.wf a3 rfl (by simpa using hx) (by simpa using hb) l
  rw [b1]
  simp only [Option.bind_some, Bool.not_true, cond_false]
  rw [apNil ⟨none, 0, 0⟩ b2.wf Pure.nilOw (by decide)]
  simp only [Option.bind_some]
  rw [loopStop (m + 3) (m + 1) b3 (.inl rfl)]
  obtain ⟨sl, I, r1, r2⟩ := b3.ex
  simp only [nilA, asP_ptr, Option.bind_some, fadd, I.ldc]
  rw [show (hsV sl ⟨[] ++ x, true, false, [], false, true⟩)[0 + 0]? = some (slv sl) from rfl]
  simp only [asS_slv, Option.bind_some]
  obtain ⟨h3, c1, c2, c3⟩ := HdR.put b2.wf I 0 (by decide) (slv ⟨none, 0, 0⟩) rfl
  rw [show [Value.slice none 0 0] = [slv ⟨none, 0, 0⟩] from rfl, show (0 + 0 : Nat) = 0 from rfl, c1]
  simp only [Option.bind_some, c3.ldc]
  exact ⟨h3, rfl, (a2.trans b2 fun _ _ f => f).trans c2 fun _ _ f => f, ⟨none, 0, 0⟩, c3, .inl ⟨rfl, .inl rfl⟩, fun f => by obtain ⟨o, q⟩ := f; cases q⟩
/-- b[lo:] of what is its own -/
theorem Pure.subOwn {h : H} {s : Sl} {x : List UInt8} (r : Ow 5 1 h s (byt x)) {lo : Nat} (h0 : lo < x.length) : ∃ b c', subs 1 (.slice s.a s.n s.c) (some (Int.ofNat lo)) none = some (.slice (some ⟨b, lo, none⟩) (x.length - lo) c') ∧ SlB s b ∧ Is h b 5 1 (byt x) ∧ ∀ h' y, Is h' b 5 1 (byt y) → y.length = x.length → Ow 5 1 h' s (byt y) := by
  rcases r with ⟨f, _⟩ | ⟨b, m, c, rfl, hl, I, hc⟩
  · have := congrArg List.length f
    rw [byt_len] at this
    have this : x.length = 0 := this
    omega
  · rw [byt_len, Nat.mul_one] at hl
    have e0 : subs 1 (.slice (some ⟨b, 0, none⟩) m c) (some (Int.ofNat lo)) none = slice2 b 0 1 m c lo m := by
      unfold subs
      split
      · rename_i e; cases e
      · rename_i e; cases e; rfl
      · rename_i e; cases e
      · rename_i a1 a2 a3; exact (a2 _ _ _ _ rfl).elim
    have back : ∀ h' y, Is h' b 5 1 (byt y) → y.length = x.length → Ow 5 1 h' ⟨some ⟨b, 0, none⟩, m, c⟩ (byt y) := fun h' y I' e => .inr ⟨b, m, c, rfl, by rw [byt_len]; omega, I', hc⟩
    rcases hc with ⟨rfl, hc⟩ | rfl
    · refine ⟨b, c - lo, ?_, ⟨0, rfl⟩, I, back⟩
      show subs 1 (.slice (some ⟨b, 0, none⟩) c c) (some (Int.ofNat lo)) none = _
      rw [e0]
      unfold slice2
      rw [isUnk_of hc, cond_false, cond_eta _ _ _ (by simp only [Bool.and_eq_true, Nat.ble_eq]; omega), beq_false (show c ≠ lo by omega), cond_false, Nat.zero_add, Nat.mul_one, hl]
    · refine ⟨b, unkOf 1, ?_, ⟨0, rfl⟩, I, back⟩
      show subs 1 (.slice (some ⟨b, 0, none⟩) m (unkOf 1)) (some (Int.ofNat lo)) none = _
      rw [e0]
      unfold slice2
      rw [isUnk_unkOf, cond_true, cond_eta _ _ _ (by simp only [Bool.and_eq_true, Nat.ble_eq, Nat.beq_refl, true_and]; omega), beq_false (show lo ≠ m by omega), cond_false, Nat.zero_add, Nat.mul_one, hl]
theorem Pure.setb {h : H} (w : WF h) {s : Sl} {x : List UInt8} (r : Ow 5 1 h s (byt x)) {j : Nat} (hj : j < x.length) (c : UInt8) :
    ∃ b h', ixs 1 s.a s.n (Int.ofNat j) = some (.pointer (some ⟨b, j, none⟩)) ∧ ldc h (some ⟨b, j, none⟩) = some (.int .u8 (Int.ofNat x[j].toNat)) ∧ stv 1 h (some ⟨b, j, none⟩) [.int .u8 (Int.ofNat c.toNat)] = some (undef, h') ∧ Ch (SlB s) h h' ∧ h'.next = h.next ∧ Ow 5 1 h' s (byt (x.set j c)) := by
  rcases r with ⟨f, _⟩ | ⟨b, m, cc, rfl, hl, I, hc⟩
  · have := congrArg List.length f
    rw [byt_len] at this
    have this : x.length = 0 := this
    omega
  · rw [byt_len, Nat.mul_one] at hl
    obtain ⟨h', i1, i2, i3, i4⟩ := I.set w j (.int .u8 (Int.ofNat c.toNat)) (by rw [byt_len]; exact hj) rfl
    have e0 : ixs 1 (some ⟨b, 0, none⟩) m (Int.ofNat j) = some (.pointer (some ⟨b, j, none⟩)) := by
      have : ixs 1 (some ⟨b, 0, none⟩) m (Int.ofNat j) = some (.pointer (some ⟨b, 0 + j * 1, none⟩)) := cond_eta _ _ _ (Nat.ble_eq_true_of_le (by show j + 1 ≤ m; omega))
      rw [this, Nat.zero_add, Nat.mul_one]
    refine ⟨b, h', e0, ?_, i1, i2.mono fun x _ hx => by subst hx; exact ⟨0, rfl⟩, i3, .inr ⟨b, m, cc, rfl, by rw [byt_len, List.length_set]; omega, ?_, hc⟩⟩
    · rw [I.ldc, byt_get, List.getElem?_eq_getElem hj]; rfl
    · have : (byt x).set j (.int .u8 (Int.ofNat c.toNat)) = byt (x.set j c) := by unfold byt; rw [List.map_set]
      rw [← this]; exact i4
theorem Pure.add_ba (a b : List UInt8) (h : a.length + b.length ≤ 1000000) : asT (strA .add (⟨a.toArray⟩ : ByteArray) ⟨b.toArray⟩) = some ⟨(a ++ b).toArray⟩ := by
  have e : (⟨a.toArray⟩ : ByteArray) ++ ⟨b.toArray⟩ = ⟨(a ++ b).toArray⟩ := by
    apply ByteArray.ext
    simp
  show asT (cond (Nat.blt (a.toArray.size + b.toArray.size) 9223372036854775807) (some (.string ((⟨a.toArray⟩ : ByteArray) ++ ⟨b.toArray⟩))) none) = _
  rw [cond_eta _ _ _ (show Nat.blt (a.toArray.size + b.toArray.size) 9223372036854775807 = true from Nat.ble_eq_true_of_le (by simp; omega)), e]; rfl
theorem Pure.dynSl {h h' : H} (w : WF h) (c : Ch0 h h') {s : Sl} {x : List UInt8} (r : SlR 1 h s (byt x)) : ∀ b, blkOf (some (Value.slice s.a s.n s.c)) = some b → sameVer h h' b = true := fun b hb => by
  obtain ⟨sa, sn, sc⟩ := s
  rcases sa with _ | ⟨bb, o, _ | sp⟩
  · cases hb
  · cases hb
    exact sameVer_of (c.keep b (r.blk w ⟨o, rfl⟩) fun f => f)
  · cases hb
theorem Pure.unknown_f (k : Nat) (hk : 1000000 < k) {h : H} (w : WF h) (kind : Int) {raw : Sl} {x : List UInt8} (rr : SlR 1 h raw (byt x)) (hx : x.length ≤ 140737488355328) (long : Int) (mg : UInt8) (at_ : Int) :
    ∃ h', corbellaw23_HandUnknown.f k kind raw long (Int.ofNat mg.toNat) at_ h = some (true, h') := by
  unfold corbellaw23_HandUnknown.f
  obtain ⟨h1, a1, a2, a3⟩ := new_f k w
  rw [a1]
  simp only [Option.bind_some, Bool.not_true, cond_false, Pure.eqptr22, asB]
  generalize hp : h.next = p at a3 ⊢
  have P : ∀ (n m : Int) (h0 : 0 < m) (h1 : m ≤ 4611686018427387904) (g : H), corbelhand_Pick.f k n m g = some (n % m, g) := fun n m h0 h1 g => pick_f k n m g h0 h1
  rw [P kind 2147483648 (by decide) (by decide)]
  obtain ⟨K0, hK⟩ : ∃ T : Nat, kind % 2147483648 = Int.ofNat T := ⟨_, nn _ (Int.emod_nonneg kind (by decide))⟩
  have K1 : K0 < 2147483648 := by have := Int.emod_lt_of_pos kind (show (0 : Int) < 2147483648 by decide); rw [hK] at this; simp only [Int.ofNat_eq_natCast] at this; omega
  rw [hK]
  simp only [Option.bind_some]
  rw [wrap_in (n := (8 : Int) + Int.ofNat K0) (by simp only [Int.ofNat_eq_natCast]; omega) (by simp only [Int.ofNat_eq_natCast]; omega), show (8 : Int) + Int.ofNat K0 = Int.ofNat (8 + K0) from rfl]
  generalize hKK : 8 + K0 = K
  rw [show [Value.int .u8 (0 : Int), Value.int .u8 (0 : Int), Value.int .u8 (0 : Int), Value.int .u8 (1 : Int)] = byt [0, 0, 0, 1] from rfl]
  obtain ⟨z1, z2, z3⟩ := newR_ok a2.wf 5 1 (byt [0, 0, 0, 1])
  obtain ⟨sv, h3, b1, b2, b3, b4⟩ := two_f k z1.wf
  rw [b1]
  simp only [Option.bind_some]
  have c13 := z1.then b2
  have fl := (SlR.of_is z3 (n := 4) rfl (by unfold unk; omega)).stay z1.wf b2
  obtain ⟨h4, c1, c2, c3⟩ := Pure.feedFlags k (by omega) c13.wf (a3.stay a2.wf c13) (l := sv) fl
  rw [c1]
  simp only [Option.bind_some]
  have hp4 : h.next ≤ p := by omega
  have c04 : Ch0 h h4 := Ch0.at (a2.then c13) c2 hp4
  obtain ⟨sd, h5, d1, d2, d3, d4⟩ := few_f k c04.wf (rr.stay w c04) 4000 (by decide) 4000 rfl
  rw [d1]
  simp only [Option.bind_some]
  have dl : (x.take 4000).length ≤ 4000 := by rw [List.length_take]; omega
  generalize hd : x.take 4000 = d at d3 dl
  obtain ⟨so, h6, e1, e2, e3, e4⟩ := option_f k (by omega) d2.wf K (Int.ofNat K) rfl d3.slr (by omega)
  rw [e1]
  simp only [Option.bind_some]
  obtain ⟨sv2, h7, f1, f2, f3, f4⟩ := two_f k e2.wf
  rw [f1]
  simp only [Option.bind_some]
  have c47 := (d2.then e2).then f2
  obtain ⟨sa, h8, g1, g2, g3, g4, g5⟩ := Pure.feedUnknown k (by omega) c47.wf (c3.stay c2.wf c47) (l := sv2) K (by omega) (by omega) d (by omega) (e3.slr.stay e2.wf f2)
  rw [g1]
  simp only [Option.bind_some]
  have c08 : Ch0 h h8 := Ch0.at (c04.then c47) g2 hp4
  rw [txt_sl g4.slr]
  simp only [Option.bind_some]
  obtain ⟨sb, h9, i1, i2, i3, i4⟩ := big_f k (by omega) K 4 (by decide) g2.wf (Int.ofNat K) rfl 4 rfl
  rw [i1]
  simp only [Option.bind_some]
  rw [txt_sl i3.slr]
  simp only [Option.bind_some]
  rw [show (⟨#[0, 3, 232, 137, 4, 85, 101, 169]⟩ : ByteArray) = ⟨([0, 3, 232, 137, 4, 85, 101, 169] : List UInt8).toArray⟩ from rfl, Pure.add_ba _ _ (by rw [beN_len]; decide)]
  simp only [Option.bind_some]
  rw [show (⟨#[128, 0, 0, 1, 0, 0, 0, 0]⟩ : ByteArray) = ⟨([128, 0, 0, 1, 0, 0, 0, 0] : List UInt8).toArray⟩ from rfl, Pure.add_ba _ _ (by rw [List.length_append, beN_len]; decide)]
  simp only [Option.bind_some, ba_eq]
  have hw : replyB K 2147483649 [] = [0, 3, 232, 137, 4, 85, 101, 169] ++ beN K 4 ++ [128, 0, 0, 1, 0, 0, 0, 0] := by
    unfold replyB
    have q1 : beN 2147483649 4 = [128, 0, 0, 1] := by decide
    have q2 : beN ([] : List UInt8).length 4 = [0, 0, 0, 0] := by decide
    rw [q1, q2]
    simp only [List.append_assoc, List.append_nil]
    rfl
  rw [decide_eq_true hw]
  simp only [Bool.not_true, cond_false, Option.bind_some]
  rw [show decide (Int.ofNat 0 > (0 : Int)) = false from rfl]
  simp only [cond_false, Option.bind_some]
  have r9 := g3.stay g2.wf i2
  rw [ended_f k r9]
  simp only [Option.bind_some]
  have hdyn : dynL [(0, 3), (1, 3)] ((([(0, none)] ++ [(1, blkOf (some (Value.slice sa.a sa.n sa.c)))]) ++ []) ++ []) (([(3, h8, h9)] ++ []) ++ []) = true := by
    have v := Pure.dynSl g2.wf i2 g4.slr
    generalize blkOf (some (Value.slice sa.a sa.n sa.c)) = b1 at v ⊢
    cases b1 with
    | none => simp [dynL]
    | some b1 => simp [dynL, v b1 rfl]
  rw [hdyn, cond_true, cond_false]
  -- what cannot be
  have c09 := c08.then i2
  obtain ⟨sq, h10, j1, j2, j3, j4⟩ := option_f k (by omega) i2.wf 3 3 rfl (s := ⟨none, 0, 0⟩) (d := []) (.inl ⟨rfl, .inl rfl⟩) (by decide)
  rw [j1]
  simp only [Option.bind_some]
  have ol : (optB 3 []).length = 16 := by rw [optB_len]; rfl
  have c0a := c09.then j2
  have J : ∃ h11 X, (cond (Int.ofNat mg.toNat == (0 : Int))
      ((asS (subs 1 (Value.slice sq.a sq.n sq.c) (some (12 : Int)) none)).bind fun s20 =>
    (corbelhand_Pick.f k long (2147483648 : Int) h10).bind fun q21 =>
    (corbelref7_Big.f k (wrapA .i64 ((4097 : Int) + q21.1)) (4 : Int) q21.2).bind fun q22 =>
    (asI2 .i64 (cpy 1 (Value.slice s20.a s20.n s20.c) (Value.slice q22.1.a q22.1.n q22.1.c) q22.2)).bind fun q23 =>
    some ((), q23.2))
      ((corbelhand_Pick.f k at_ (8 : Int) h10).bind fun q24 =>
    (asP (ixs 1 sq.a sq.n q24.1)).bind fun p25 =>
    (asI .u8 (ldc q24.2 p25)).bind fun n26 =>
    (asI .u8 (intA .xor .u8 n26 (Int.ofNat mg.toNat))).bind fun n27 =>
    (asP (ixs 1 sq.a sq.n q24.1)).bind fun p28 =>
    (stv 1 q24.2 p28 [(Value.int .u8 n27)]).bind fun q29 =>
    some ((), q29.2)) : Option ((Unit) × H)) = some ((), h11) ∧ Ch0 h9 h11 ∧ Ow 5 1 h11 sq (byt X) ∧ X.length = 16 ∧ ∀ y, badHead (X ++ y) = true := by
    by_cases z : mg = 0
    · rw [show (Int.ofNat mg.toNat == (0 : Int)) = true by rw [z]; rfl, cond_true]
      obtain ⟨b, c', s1, s2, s3, s4⟩ := Pure.subOwn j3 (lo := 12) (by rw [ol]; decide)
      rw [show some (12 : Int) = some (Int.ofNat 12) from rfl, s1]
      rw [show asS (some (Value.slice (some ⟨b, 12, none⟩) ((optB 3 []).length - 12) c')) = some (⟨some ⟨b, 12, none⟩, (optB 3 []).length - 12, c'⟩ : Sl) from rfl]
      simp only [Option.bind_some]
      rw [P long 2147483648 (by decide) (by decide)]
      obtain ⟨L0, hL⟩ : ∃ T : Nat, long % 2147483648 = Int.ofNat T := ⟨_, nn _ (Int.emod_nonneg long (by decide))⟩
      have L1 : L0 < 2147483648 := by have := Int.emod_lt_of_pos long (show (0 : Int) < 2147483648 by decide); rw [hL] at this; simp only [Int.ofNat_eq_natCast] at this; omega
      rw [hL]
      simp only [Option.bind_some]
      rw [wrap_in (n := (4097 : Int) + Int.ofNat L0) (by simp only [Int.ofNat_eq_natCast]; omega) (by simp only [Int.ofNat_eq_natCast]; omega), show (4097 : Int) + Int.ofNat L0 = Int.ofNat (4097 + L0) from rfl]
      obtain ⟨sg, h11, t1, t2, t3, t4⟩ := big_f k (by omega) (4097 + L0) 4 (by decide) j2.wf (Int.ofNat (4097 + L0)) rfl 4 rfl
      rw [t1]
      simp only [Option.bind_some]
      obtain ⟨h12, u1, u2, u3, u4⟩ := cpy_ok (l := []) t2.wf (es := 1) (d := ⟨some ⟨b, 12, none⟩, (optB 3 []).length - 12, c'⟩) rfl (s3.stay j2.wf t2) (by rw [byt_len, ol]; show 12 + (16 - 12) * 1 ≤ 16; decide) t3.slr (byt_one _)
      rw [u1]
      have sgn : sg.n = 4 := by rw [t3.slr.n_byt, beN_len]
      rw [show asI2 .i64 (some (Value.int .i64 (Int.ofNat (min sg.n ((optB 3 []).length - 12))), h12)) = some (Int.ofNat (min sg.n ((optB 3 []).length - 12)), h12) from rfl]
      simp only [Option.bind_some]
      have hX : over (byt (optB 3 [])) 12 ((byt (beN (4097 + L0) 4)).take (min sg.n ((optB 3 []).length - 12) * 1)) = byt (magicB ++ beN 3 4 ++ beN (4097 + L0) 4) := by
        rw [sgn, ol, show min 4 (16 - 12) * 1 = 4 from rfl, List.take_of_length_le (by rw [byt_len, beN_len]; exact Nat.le_refl _), over_byt]
        unfold ovb
        rw [beN_len, List.drop_eq_nil_of_le (by rw [ol]; exact Nat.le_refl _), List.append_nil]
        rfl
      rw [hX] at u4
      have Xl : (magicB ++ beN 3 4 ++ beN (4097 + L0) 4).length = 16 := rfl
      refine ⟨h12, _, rfl, Ch0.at (j2.then t2) u2 (by obtain ⟨o, e⟩ := s2; have := j4 b ⟨o, e⟩; omega), s4 h12 _ u4 (by rw [Xl, ol]), Xl, fun y => ?_⟩
      unfold badHead
      have q : cutL (magicB ++ beN 3 4 ++ beN (4097 + L0) 4 ++ y) 12 16 = beN (4097 + L0) 4 := by rw [cutL_app (by rw [Xl]; exact Nat.le_refl _)]; rfl
      have p4 : (256 : Nat) ^ 4 = 4294967296 := rfl
      rw [q, unbe_be (by rw [p4]; omega), decide_eq_true (show 4096 < 4097 + L0 by omega), Bool.or_true]
    · have hz : (Int.ofNat mg.toNat == (0 : Int)) = false := by
        rw [beq_eq_false_iff_ne]
        intro f
        have : mg.toNat = 0 := Int.ofNat.inj f
        exact z (UInt8.toNat_inj.1 this)
      rw [hz, cond_false, P at_ 8 (by decide) (by decide)]
      obtain ⟨ai, hai⟩ : ∃ T : Nat, at_ % 8 = Int.ofNat T := ⟨_, nn _ (Int.emod_nonneg at_ (by decide))⟩
      have a8 : ai < 8 := by have := Int.emod_lt_of_pos at_ (show (0 : Int) < 8 by decide); rw [hai] at this; simp only [Int.ofNat_eq_natCast] at this; omega
      rw [hai]
      simp only [Option.bind_some]
      have hlt : ai < (optB 3 []).length := by omega
      obtain ⟨b, h11, t1, t2, t3, t4, t5, t6⟩ := Pure.setb j2.wf j3 hlt ((optB 3 [])[ai] ^^^ mg)
      rw [t1]
      simp only [asP_ptr, Option.bind_some, t2, asI_int]
      rw [xor_u8]
      simp only [asI_int, Option.bind_some]
      rw [t3]
      refine ⟨h11, _, rfl, Ch0.own j2 t4 j4, t6, by rw [List.length_set, ol], fun y => ?_⟩
      unfold badHead
      have e1 : cutL ((optB 3 []).set ai ((optB 3 [])[ai] ^^^ mg) ++ y) 0 8 = (cutL (optB 3 []) 0 8).set ai ((optB 3 [])[ai] ^^^ mg) := by
        rw [cutL_app (by rw [List.length_set, ol]; decide)]
        unfold cutL
        rw [List.drop_zero, List.drop_zero, List.take_set]
      have e2 : cutL (optB 3 []) 0 8 = magicB := rfl
      rw [e1, e2, decide_eq_false, Bool.not_false, Bool.true_or]
      intro f
      have e3 : magicB[ai]? = some ((optB 3 [])[ai]) := by
        rw [← e2]
        unfold cutL
        rw [List.drop_zero, List.getElem?_take, if_pos (by omega), List.getElem?_eq_getElem hlt]
      have e4 : (magicB.set ai ((optB 3 [])[ai] ^^^ mg))[ai]? = some ((optB 3 [])[ai] ^^^ mg) := List.getElem?_set_self (by show ai < 8; exact a8)
      rw [f, e3] at e4
      have e5 := Option.some.inj e4
      apply z
      have : (optB 3 [])[ai] ^^^ ((optB 3 [])[ai] ^^^ mg) = (optB 3 [])[ai] ^^^ (optB 3 [])[ai] := by rw [← e5]
      rw [← UInt8.xor_assoc, UInt8.xor_self, UInt8.zero_xor] at this
      exact this
  obtain ⟨h11, X, k1, k2, k3, k4, k5⟩ := J
  rw [k1]
  simp only [Option.bind_some]
  obtain ⟨sz, h12, l1, l2, l3, l4⟩ := option_f k (by omega) k2.wf 2 2 rfl (s := ⟨none, 0, 0⟩) (d := []) (.inl ⟨rfl, .inl rfl⟩) (by decide)
  rw [l1]
  simp only [Option.bind_some]
  have ol2 : (optB 2 []).length = 16 := by rw [optB_len]; rfl
  obtain ⟨sw, h13, m1, m2, m3, m4⟩ := app_b l2.wf (k3.stay k2.wf l2) l3.slr (by rw [k4, ol2]; decide)
  rw [m1]
  simp only [Option.bind_some]
  have c9c := k2.then l2
  have c9d : Ch0 h9 h13 := Ch0.own c9c m2 j4
  obtain ⟨sv3, h14, n1, n2, n3, n4⟩ := two_f k m2.wf
  rw [n1]
  simp only [Option.bind_some]
  have c9e := c9d.then n2
  obtain ⟨h15, o1, o2, o3⟩ := Pure.feedBad k (by omega) c9e.wf (r9.stay i2.wf c9e) (l := sv3) (x := X ++ optB 2 []) (by rw [List.length_append, k4]; omega) (by rw [List.length_append, k4, ol2]; decide) (k5 _) (m3.slr.stay m2.wf n2)
  rw [o1]
  simp only [Option.bind_some]
  rw [chosen_f k o3]
  simp only [Option.bind_some]
  obtain ⟨sy, h16, p1, p2, p3, p4⟩ := option_f k (by omega) o2.wf 3 3 rfl (s := ⟨none, 0, 0⟩) (d := []) (.inl ⟨rfl, .inl rfl⟩) (by decide)
  rw [p1]
  simp only [Option.bind_some]
  obtain ⟨sv4, h17, q1, q2, q3, q4⟩ := two_f k p2.wf
  rw [q1]
  simp only [Option.bind_some]
  have c15 := p2.then q2
  obtain ⟨st, h18, r1, r2, r3⟩ := feed_closed k c15.wf (o3.stay o2.wf c15) rfl (l := sv4) (p3.slr.stay p2.wf q2) (by rw [ol]; decide)
  rw [r1]
  simp only [Option.bind_some]
  rw [show (Int.ofNat (⟨none, 0, 0⟩ : Sl).n == (0 : Int)) = true from rfl]
  have c18 := c15.then r2
  simp only [cond_true]
  rw [ended_f k (o3.stay o2.wf c18)]
  simp only [Option.bind_some, cond_true, Bool.not_false]
  rw [txt_sl r3.slr]
  simp only [Option.bind_some]
  obtain ⟨su, h19, s1, s2, s3, s4⟩ := option_f k (by omega) r2.wf 3 3 rfl (s := ⟨none, 0, 0⟩) (d := []) (.inl ⟨rfl, .inl rfl⟩) (by decide)
  rw [s1]
  simp only [Option.bind_some]
  rw [txt_sl s3.slr]
  simp only [Option.bind_some, ba_eq, decide_true]
  have hdyn2 : dynL [(17, 19), (18, 19)] (((([] ++ []) ++ []) ++ ([(17, none)] ++ [(18, blkOf (some (Value.slice st.a st.n st.c)))]))) (((([] ++ []) ++ []) ++ [(19, h18, h19)])) = true := by
    have v := Pure.dynSl r2.wf s2 r3.slr
    generalize blkOf (some (Value.slice st.a st.n st.c)) = b1 at v ⊢
    cases b1 with
    | none => simp [dynL]
    | some b1 => simp [dynL, v b1 rfl]
  rw [hdyn2]
  exact ⟨h19, rfl⟩
theorem Pure.wf8 {n : Int} (h : (Lit.int .u8 n).wf = true) : ∃ m : UInt8, n = Int.ofNat m.toNat := by
  unfold Lit.wf at h
  simp only [Bool.and_eq_true, decide_eq_true_eq] at h
  have h0 : (0 : Int) ≤ n := h.1
  have h1 : n ≤ 255 := h.2
  exact ⟨UInt8.ofNat n.toNat, by simp; omega⟩
theorem Pure.asBytes : ∀ l : List Int, (∀ n ∈ l, (Lit.int .u8 n).wf = true) → ∃ x : List UInt8, l.map (fun n => Value.int .u8 n) = byt x ∧ x.length = l.length
  | [], _ => ⟨[], rfl, rfl⟩
  | n :: l, h => by
    obtain ⟨m, rfl⟩ := Pure.wf8 (h n List.mem_cons_self)
    obtain ⟨x, e1, e2⟩ := Pure.asBytes l fun n hn => h n (List.mem_cons_of_mem _ hn)
    exact ⟨m :: x, by rw [List.map_cons, e1]; rfl, by rw [List.length_cons, List.length_cons, e2]⟩
theorem Pure.HandUnknown : ∀ h x vs, Den.WF h → Den.Dead h → Ar.HandUnknown.R h x vs → Ar.HandUnknown.Q x → ∃ a, Den.encL [.int .i64, .sl, .int .i64, .int .u8, .int .i64] a = vs ∧ Den.toldB (Fwd.corbellaw23_HandUnknown.f 2000000 a.1 a.2.1 a.2.2.1 a.2.2.2.1 a.2.2.2.2 h) = true := by
  rintro h ⟨kind, raw, long, mg, at_, _⟩ vs w _ ⟨va, vb, rfl, r1, vc, vd, rfl, r2, ve, vf, rfl, r3, vg, vh, rfl, r4, vi, vj, rfl, r5, rfl⟩ ⟨_, ⟨q1, _, q2⟩, _, q3, _⟩
  obtain rfl := r1
  obtain rfl := r3
  obtain rfl := r4
  obtain rfl := r5
  obtain ⟨s, rfl, s1, s2, _⟩ := RSl.one (f := fun n => .int .u8 n) (fun _ _ _ e => e) w r2
  obtain ⟨mg, rfl⟩ := Pure.wf8 q3
  obtain ⟨x, e1, e2⟩ := Pure.asBytes raw q2
  rw [e1] at s1
  have hb : Try.prog.bytesOf 5 = 1 := by kernel_rfl
  have hlen : x.length ≤ 140737488355328 := by
    have q1 : raw.length * Try.prog.bytesOf 5 ≤ reachBytes := q1
    rw [hb] at q1
    have : reachBytes ≤ 140737488355328 := by unfold reachBytes; decide
    omega
  obtain ⟨h', g⟩ := Pure.unknown_f 2000000 (by decide) w kind s1 hlen long mg at_
  exact ⟨(kind, s, long, Int.ofNat mg.toNat, at_), rfl, (congrArg toldB g).trans rfl⟩
end Go.Proofs.Ytlibnmhicnnldaa
