/- a server's hand, as plain lists. No condition. -/
import Derived.Test.YtlibnmhicnnldaaFwHandA
namespace Go.Proofs.Ytlibnmhicnnldaa.Fw
open Go Den Fwd
set_option linter.unusedVariables false
set_option linter.unusedSimpArgs false
structure Hs where
  left : List UInt8
  gr : Bool
  nz : Bool
  ch : List UInt8
  cs : Bool
  en : Bool
def ba (l : List UInt8) : ByteArray := ⟨l.toArray⟩
def hsV (sl : Sl) (st : Hs) : List Value := [slv sl, .bool st.gr, .bool st.nz, .string (ba st.ch), .bool st.cs, .bool st.en]
structure HdR (h : H) (p : Nat) (st : Hs) : Prop where
  ex : ∃ sl, Is h p 47 6 (hsV sl st) ∧ SlR 1 h sl (byt st.left) ∧ ¬ SlB sl p
theorem HdR.stay {h h' : H} {p : Nat} {st : Hs} (w : WF h) (c : Ch0 h h') (r : HdR h p st) : HdR h' p st := by
  obtain ⟨sl, I, r1, r2⟩ := r.ex
  exact ⟨sl, I.stay w c, r1.stay w c, r2⟩
theorem HdR.lt {h : H} {p : Nat} {st : Hs} (w : WF h) (r : HdR h p st) : p < h.next := by
  obtain ⟨sl, I, r1, r2⟩ := r.ex
  exact I.lt w
theorem new_f (k : Nat) {h : H} (w : WF h) : ∃ h', hand_New.f k h = some (some ⟨h.next, 0, none⟩, h') ∧ Ch0 h h' ∧ HdR h' h.next ⟨[], false, false, [], false, false⟩ := by
  obtain ⟨z1, z2, z3⟩ := newR_ok w 47 6 (hsV ⟨none, 0, 0⟩ ⟨[], false, false, [], false, false⟩)
  exact ⟨_, rfl, z1, ⟨none, 0, 0⟩, z3, .inl ⟨rfl, .inl rfl⟩, fun f => by obtain ⟨o, q⟩ := f; cases q⟩
theorem two_f (k : Nat) {h : H} (w : WF h) : ∃ s h', corbellaw23_two.f k h = some (s, h') ∧ Ch0 h h' ∧ SlR 3 h' s [.string ⟨#[97]⟩, .int .i64 16, .bool false, .string ⟨#[115]⟩, .int .i64 8, .bool true] ∧ s.n = 2 := by
  obtain ⟨z1, z2, z3⟩ := newR_ok w 35 3 [Value.string (⟨#[97]⟩ : ByteArray), Value.int .i64 (16 : Int), Value.bool false, Value.string (⟨#[115]⟩ : ByteArray), Value.int .i64 (8 : Int), Value.bool true]
  exact ⟨_, _, rfl, z1, SlR.of_is z3 (n := 2) rfl (by unfold unk; omega), rfl⟩
theorem ended_f (k : Nat) {h : H} {p : Nat} {st : Hs} (r : HdR h p st) : hand_Hand_Ended.f k (some ⟨p, 0, none⟩) h = some (st.en, h) := by
  obtain ⟨sl, I, r1, r2⟩ := r.ex
  unfold hand_Hand_Ended.f
  simp only [nilA, asP_ptr, Option.bind_some, fadd, I.ldc]
  rfl
theorem chosen_f (k : Nat) {h : H} {p : Nat} {st : Hs} (r : HdR h p st) : hand_Hand_Chosen.f k (some ⟨p, 0, none⟩) h = some ((ba st.ch, st.cs), h) := by
  obtain ⟨sl, I, r1, r2⟩ := r.ex
  unfold hand_Hand_Chosen.f
  simp only [nilA, asP_ptr, Option.bind_some, fadd, I.ldc]
  rfl
theorem hnumber_f (k : Nat) (hk : 1000 < k) {h : H} {s : Sl} {x : List UInt8} (r : SlR 1 h s (byt x)) (hx : x.length ≤ 7) : hand_number.f k s h = some (Int.ofNat (unbe x), h) := by
  unfold hand_number.f
  have := cnumber_l0 k r hx k 0 0 (by omega) (Nat.zero_le _) rfl
  rw [r.n_byt, show (0 : Int) = Int.ofNat 0 from rfl, this]; rfl
/-- a field stored -/
theorem HdR.put {h : H} (w : WF h) {p : Nat} {sl : Sl} {st : Hs} (I : Is h p 47 6 (hsV sl st)) (i : Nat) (hi : i < 6) (v : Value) (h1 : Den.one v = true) : ∃ h', stv 1 h (some ⟨p, i, none⟩) [v] = some (undef, h') ∧ Ch (fun b => b = p) h h' ∧ Is h' p 47 6 ((hsV sl st).set i v) := by
  obtain ⟨h', e1, e2, e3, e4⟩ := I.set w i v (by show i < 6; exact hi) h1
  exact ⟨h', e1, e2, e4⟩
theorem and2 {n : Nat} (hn : n < 4294967296) : intA .and .i64 (Int.ofNat n) 2 = some (.int .i64 (Int.ofNat (Nat.land n 2))) := by
  have hl : Nat.land n 2 ≤ 2 := Nat.and_le_right
  show cond (Nat.blt n (2 ^ 64) && Nat.blt 2 (2 ^ 64)) (some (Value.int .i64 (wrapA .i64 (.ofNat (Nat.land n 2))))) none = _
  rw [cond_eta _ _ _ (by rw [Bool.and_eq_true]; exact ⟨Nat.ble_eq_true_of_le (by omega), Nat.ble_eq_true_of_le (by omega)⟩), wrap_in (by simp only [Int.ofNat_eq_natCast]; omega) (by simp only [Int.ofNat_eq_natCast]; omega)]
def greetP (st : Hs) : Hs := ⟨st.left.drop 4, true, decide (0 < Nat.land (unbe (st.left.take 4)) 2), st.ch, st.cs, decide (3 < unbe (st.left.take 4))⟩
theorem greet_f (k : Nat) (hk : 1000 < k) {h : H} (w : WF h) {p : Nat} {st : Hs} (r : HdR h p st) (hl : 4 ≤ st.left.length) :
    ∃ h', hand_Hand_greet.f k (some ⟨p, 0, none⟩) h = some ((), h') ∧ Ch (fun b => b = p) h h' ∧ HdR h' p (greetP st) := by
  obtain ⟨sl, I, r1, r2⟩ := r.ex
  unfold hand_Hand_greet.f
  simp only [nilA, asP_ptr, Option.bind_some, fadd, I.ldc]
  rw [show (hsV sl st)[0 + 0]? = some (slv sl) from rfl]
  simp only [asS_slv, Option.bind_some]
  obtain ⟨s1, a1, a2, a3, a4⟩ := subb_ok r1 (lo := 0) (hi := 4) (by decide) hl (xlo := none) (xhi := some (Int.ofNat 4)) rfl rfl
  rw [show some (4 : Int) = some (Int.ofNat 4) from rfl, a1]
  simp only [asS_slv, Option.bind_some]
  rw [List.drop_zero, Nat.sub_zero] at a3
  rw [hnumber_f k hk a3 (by rw [List.length_take]; omega)]
  simp only [Option.bind_some, I.ldc]
  rw [show (hsV sl st)[0 + 0]? = some (slv sl) from rfl]
  simp only [asS_slv, Option.bind_some]
  obtain ⟨s2, b1, b2, b3, b4⟩ := subb_ok r1 (lo := 4) (hi := st.left.length) hl (Nat.le_refl _) (xlo := some (Int.ofNat 4)) (xhi := none) rfl (by rw [r1.n_byt]; rfl)
  rw [b1]
  simp only [asS_slv, Option.bind_some]
  rw [List.take_of_length_le (by rw [List.length_drop]; exact Nat.le_refl _)] at b3
  have hn : unbe (st.left.take 4) < 4294967296 := unbe_lt (s := 4) (by rw [List.length_take]; omega) (by decide)
  obtain ⟨h1, c1, c2, c3⟩ := HdR.put w I 0 (by decide) (slv s2) rfl
  rw [show [Value.slice s2.a s2.n s2.c] = [slv s2] from rfl, c1]
  simp only [Option.bind_some]
  rw [and2 hn]
  simp only [asI_int, Option.bind_some]
  obtain ⟨h2, d1, d2, d3, d4⟩ := c3.set c2.wf 1 (.bool true) (by show 1 < 6; decide) rfl
  rw [show (0 + 1 : Nat) = 1 from rfl, d1]
  simp only [Option.bind_some]
  have e1 : decide (Int.ofNat (Nat.land (unbe (st.left.take 4)) 2) > (0 : Int)) = decide (0 < Nat.land (unbe (st.left.take 4)) 2) := by
    by_cases c : 0 < Nat.land (unbe (st.left.take 4)) 2
    · rw [decide_eq_true c, decide_eq_true (show Int.ofNat (Nat.land (unbe (st.left.take 4)) 2) > (0 : Int) by simp only [Int.ofNat_eq_natCast]; omega)]
    · rw [decide_eq_false c, decide_eq_false (show ¬ Int.ofNat (Nat.land (unbe (st.left.take 4)) 2) > (0 : Int) by simp only [Int.ofNat_eq_natCast]; omega)]
  have e2 : decide (Int.ofNat (unbe (st.left.take 4)) > (3 : Int)) = decide (3 < unbe (st.left.take 4)) := by
    by_cases c : 3 < unbe (st.left.take 4)
    · rw [decide_eq_true c, decide_eq_true (show Int.ofNat (unbe (st.left.take 4)) > (3 : Int) by simp only [Int.ofNat_eq_natCast]; omega)]
    · rw [decide_eq_false c, decide_eq_false (show ¬ Int.ofNat (unbe (st.left.take 4)) > (3 : Int) by simp only [Int.ofNat_eq_natCast]; omega)]
  rw [e1, e2]
  obtain ⟨h3, f1, f2, f3, f4⟩ := d4.set d2.wf 2 (.bool (decide (0 < Nat.land (unbe (st.left.take 4)) 2))) (by show 2 < 6; decide) rfl
  rw [show (0 + 2 : Nat) = 2 from rfl, f1]
  simp only [Option.bind_some]
  obtain ⟨h4, g1, g2, g3, g4⟩ := f4.set f2.wf 5 (.bool (decide (3 < unbe (st.left.take 4)))) (by show 5 < 6; decide) rfl
  rw [show (0 + 5 : Nat) = 5 from rfl, g1]
  have T : Ch (fun b => b = p) h h4 := ((c2.trans d2 fun _ _ f => f).trans f2 fun _ _ f => f).trans g2 fun _ _ f => f
  exact ⟨h4, rfl, T, s2, g4, b3.keep fun b hb => T.keep b (b3.blk w hb) fun f => r2 (by subst f; exact b4 _ hb), fun f => r2 (b4 _ f)⟩
/-! ### a step -/
theorem stepGreet (k : Nat) (hk : 1000 < k) {h : H} (w : WF h) {p : Nat} {st : Hs} (r : HdR h p st) (hg : st.gr = false) (hl : 4 ≤ st.left.length) (l : Sl) :
    ∃ h', hand_Hand_step.f k (some ⟨p, 0, none⟩) l h = some ((⟨none, 0, 0⟩, true), h') ∧ Ch (fun b => b = p) h h' ∧ HdR h' p (greetP st) := by
  obtain ⟨h', a1, a2, a3⟩ := greet_f k hk w r hl
  obtain ⟨sl, I, r1, r2⟩ := r.ex
  unfold hand_Hand_step.f
  simp only [nilA, asP_ptr, Option.bind_some, fadd, I.ldc]
  rw [show (hsV sl st)[0 + 1]? = some (.bool st.gr) from rfl, hg]
  simp only [asB, Option.bind_some, Bool.not_false, cond_true]
  rw [show (hsV sl st)[0 + 0]? = some (slv sl) from rfl]
  simp only [asS_slv, Option.bind_some, r1.n_byt]
  rw [decide_eq_false (show ¬ Int.ofNat st.left.length < (4 : Int) by simp; omega), cond_false, a1]
  exact ⟨h', rfl, a2, a3⟩
theorem stepFew (k : Nat) {h : H} {p : Nat} {st : Hs} (r : HdR h p st) (hg : st.gr = true) (hl : st.left.length < 16) (l : Sl) :
    hand_Hand_step.f k (some ⟨p, 0, none⟩) l h = some ((⟨none, 0, 0⟩, false), h) := by
  obtain ⟨sl, I, r1, r2⟩ := r.ex
  unfold hand_Hand_step.f
  simp only [nilA, asP_ptr, Option.bind_some, fadd, I.ldc]
  rw [show (hsV sl st)[0 + 1]? = some (.bool st.gr) from rfl, hg]
  simp only [asB, Option.bind_some, Bool.not_true, cond_false]
  rw [show (hsV sl st)[0 + 0]? = some (slv sl) from rfl]
  simp only [asS_slv, Option.bind_some, r1.n_byt]
  rw [decide_eq_true (show Int.ofNat st.left.length < (16 : Int) by simp; omega), cond_true]
def magicB : List UInt8 := [73, 72, 65, 86, 69, 79, 80, 84]
/-- the head is bad -/
def badHead (b : List UInt8) : Bool := !decide (cutL b 0 8 = magicB) || decide (4096 < unbe (cutL b 12 16))
theorem headGuard {h : H} (b : List UInt8) : ((cond (!decide (cutL b 0 8 = magicB)) (some (true, h)) (some (decide (Int.ofNat (unbe (cutL b 12 16)) > (4096 : Int)), h))) : Option (Bool × H)) = some (badHead b, h) := by
  unfold badHead
  have e : decide (Int.ofNat (unbe (cutL b 12 16)) > (4096 : Int)) = decide (4096 < unbe (cutL b 12 16)) := by
    by_cases c : 4096 < unbe (cutL b 12 16)
    · rw [decide_eq_true c, decide_eq_true (show Int.ofNat (unbe (cutL b 12 16)) > (4096 : Int) by simp only [Int.ofNat_eq_natCast]; omega)]
    · rw [decide_eq_false c, decide_eq_false (show ¬ Int.ofNat (unbe (cutL b 12 16)) > (4096 : Int) by simp only [Int.ofNat_eq_natCast]; omega)]
  rw [e]
  cases decide (cutL b 0 8 = magicB) <;> rfl
theorem stepBad (k : Nat) (hk : 1000 < k) {h : H} (w : WF h) {p : Nat} {st : Hs} (r : HdR h p st) (hg : st.gr = true) (hl : 16 ≤ st.left.length) (hb : badHead st.left = true) (l : Sl) :
    ∃ h', hand_Hand_step.f k (some ⟨p, 0, none⟩) l h = some ((⟨none, 0, 0⟩, true), h') ∧ Ch (fun b => b = p) h h' ∧ HdR h' p { st with en := true } := by
  obtain ⟨sl, I, r1, r2⟩ := r.ex
  unfold hand_Hand_step.f
  simp only [nilA, asP_ptr, Option.bind_some, fadd, I.ldc]
  rw [show (hsV sl st)[0 + 1]? = some (.bool st.gr) from rfl, hg]
  simp only [asB, Option.bind_some, Bool.not_true, cond_false]
  rw [show (hsV sl st)[0 + 0]? = some (slv sl) from rfl]
  simp only [asS_slv, Option.bind_some]
  rw [show Int.ofNat sl.n = Int.ofNat st.left.length by rw [r1.n_byt], decide_eq_false (show ¬ Int.ofNat st.left.length < (16 : Int) by simp; omega), cond_false]
  obtain ⟨s1, a1, a2, a3, a4⟩ := subb_ok r1 (lo := 12) (hi := 16) (by decide) hl (xlo := some (Int.ofNat 12)) (xhi := some (Int.ofNat 16)) rfl rfl
  rw [show some (12 : Int) = some (Int.ofNat 12) from rfl, show some (16 : Int) = some (Int.ofNat 16) from rfl, a1]
  simp only [asS_slv, Option.bind_some]
  rw [hnumber_f k hk a3 (by rw [List.length_take]; omega)]
  simp only [Option.bind_some, I.ldc]
  rw [show (hsV sl st)[0 + 0]? = some (slv sl) from rfl]
  simp only [asS_slv, Option.bind_some]
  obtain ⟨s2, b1, b2, b3, b4⟩ := subb_ok r1 (lo := 0) (hi := 8) (by decide) (by omega) (xlo := none) (xhi := some (Int.ofNat 8)) rfl rfl
  rw [show some (8 : Int) = some (Int.ofNat 8) from rfl, b1]
  simp only [asS_slv, Option.bind_some]
  rw [txt_sl b3]
  simp only [Option.bind_some]
  rw [show (⟨#[73, 72, 65, 86, 69, 79, 80, 84]⟩ : ByteArray) = ⟨magicB.toArray⟩ from rfl, ba_eq]
  have hG := headGuard (h := h) st.left
  rw [show (st.left.drop 0).take (8 - 0) = cutL st.left 0 8 from rfl, show (st.left.drop 12).take (16 - 12) = cutL st.left 12 16 from rfl, hG, hb]
  simp only [Option.bind_some, cond_true]
  obtain ⟨h', c1, c2, c3⟩ := HdR.put w I 5 (by decide) (.bool true) rfl
  rw [show (0 + 5 : Nat) = 5 from rfl, c1]
  exact ⟨h', rfl, c2, sl, (by have q := c3; simp only [hsV, List.set_cons_succ, List.set_cons_zero, hg] at q ⊢; exact q), r1.keep fun b hb => c2.keep b (r1.blk w hb) fun f => r2 (by subst f; exact hb), r2⟩
/-- an option is whole: it is answered -/
theorem stepOpt (k : Nat) (hk : 1000 < k) {h : H} (w : WF h) {p : Nat} {st : Hs} (r : HdR h p st) (hg : st.gr = true) (hb : badHead st.left = false) (hl : 16 + unbe (cutL st.left 12 16) ≤ st.left.length) (l : Sl) :
    ∃ sd h', hand_Hand_step.f k (some ⟨p, 0, none⟩) l h = ((hand_Hand_option.f k (some ⟨p, 0, none⟩) (Int.ofNat (unbe (cutL st.left 8 12))) sd l h').bind fun q => some ((q.1, true), q.2)) ∧ Ch (fun b => b = p) h h' ∧ HdR h' p { st with left := st.left.drop (16 + unbe (cutL st.left 12 16)) } ∧ SlR 1 h' sd (byt (cutL st.left 16 (16 + unbe (cutL st.left 12 16)))) := by
  obtain ⟨sl, I, r1, r2⟩ := r.ex
  unfold hand_Hand_step.f
  simp only [nilA, asP_ptr, Option.bind_some, fadd, I.ldc]
  rw [show (hsV sl st)[0 + 1]? = some (.bool st.gr) from rfl, hg]
  simp only [asB, Option.bind_some, Bool.not_true, cond_false]
  rw [show (hsV sl st)[0 + 0]? = some (slv sl) from rfl]
  simp only [asS_slv, Option.bind_some]
  rw [show Int.ofNat sl.n = Int.ofNat st.left.length by rw [r1.n_byt], decide_eq_false (show ¬ Int.ofNat st.left.length < (16 : Int) by simp; omega), cond_false]
  obtain ⟨s1, a1, a2, a3, a4⟩ := subb_ok r1 (lo := 12) (hi := 16) (by decide) (by omega) (xlo := some (Int.ofNat 12)) (xhi := some (Int.ofNat 16)) rfl rfl
  rw [show some (12 : Int) = some (Int.ofNat 12) from rfl, show some (16 : Int) = some (Int.ofNat 16) from rfl, a1]
  simp only [asS_slv, Option.bind_some]
  rw [hnumber_f k hk a3 (by rw [List.length_take]; omega)]
  simp only [Option.bind_some, I.ldc]
  rw [show (hsV sl st)[0 + 0]? = some (slv sl) from rfl]
  simp only [asS_slv, Option.bind_some]
  obtain ⟨s2, b1, b2, b3, b4⟩ := subb_ok r1 (lo := 0) (hi := 8) (by decide) (by omega) (xlo := none) (xhi := some (Int.ofNat 8)) rfl rfl
  rw [show some (8 : Int) = some (Int.ofNat 8) from rfl, b1]
  simp only [asS_slv, Option.bind_some]
  rw [txt_sl b3]
  simp only [Option.bind_some]
  rw [show (⟨#[73, 72, 65, 86, 69, 79, 80, 84]⟩ : ByteArray) = ⟨magicB.toArray⟩ from rfl, ba_eq]
  have hG := headGuard (h := h) st.left
  rw [show (st.left.drop 0).take (8 - 0) = cutL st.left 0 8 from rfl, show (st.left.drop 12).take (16 - 12) = cutL st.left 12 16 from rfl, hG, hb]
  simp only [Option.bind_some, cond_false, I.ldc]
  rw [show (hsV sl st)[0 + 0]? = some (slv sl) from rfl]
  simp only [asS_slv, Option.bind_some]
  have hn : unbe (cutL st.left 12 16) < 4294967296 := unbe_lt (cutL_len (by omega)) (by decide)
  generalize hN : unbe (cutL st.left 12 16) = N at hl hn ⊢
  rw [wrap_in (n := (16 : Int) + Int.ofNat N) (by simp only [Int.ofNat_eq_natCast]; omega) (by simp only [Int.ofNat_eq_natCast]; omega), show (16 : Int) + Int.ofNat N = Int.ofNat (16 + N) from rfl]
  rw [show Int.ofNat sl.n = Int.ofNat st.left.length by rw [r1.n_byt], decide_eq_false (show ¬ Int.ofNat st.left.length < Int.ofNat (16 + N) by simp; omega), cond_false]
  obtain ⟨s3, d1, d2, d3, d4⟩ := subb_ok r1 (lo := 8) (hi := 12) (by decide) (by omega) (xlo := some (Int.ofNat 8)) (xhi := some (Int.ofNat 12)) rfl rfl
  rw [d1]
  simp only [asS_slv, Option.bind_some]
  rw [hnumber_f k hk d3 (by rw [List.length_take]; omega)]
  simp only [Option.bind_some, I.ldc]
  rw [show (hsV sl st)[0 + 0]? = some (slv sl) from rfl]
  simp only [asS_slv, Option.bind_some]
  obtain ⟨s4, e1, e2, e3, e4⟩ := subb_ok r1 (lo := 16) (hi := 16 + N) (by omega) hl (xlo := some (Int.ofNat 16)) (xhi := some (Int.ofNat (16 + N))) rfl rfl
  rw [e1]
  simp only [asS_slv, Option.bind_some]
  rw [show same1 h h (some (Value.pointer (some ⟨p, 0 + 0, none⟩))) = true from same1_of rfl, Bool.true_and, cond_true]
  obtain ⟨s5, f1, f2, f3, f4⟩ := subb_ok r1 (lo := 16 + N) (hi := st.left.length) hl (Nat.le_refl _) (xlo := some (Int.ofNat (16 + N))) (xhi := none) rfl (by rw [r1.n_byt]; rfl)
  rw [f1]
  simp only [asS_slv, Option.bind_some]
  rw [List.take_of_length_le (by rw [List.length_drop]; exact Nat.le_refl _)] at f3
  obtain ⟨h', c1, c2, c3⟩ := HdR.put w I 0 (by decide) (slv s5) rfl
  rw [show [Value.slice s5.a s5.n s5.c] = [slv s5] from rfl, show (0 + 0 : Nat) = 0 from rfl, c1]
  simp only [Option.bind_some]
  refine ⟨s4, h', rfl, c2, ⟨s5, (by have q := c3; simp only [hsV, List.set_cons_succ, List.set_cons_zero, hg] at q ⊢; exact q), f3.keep fun b hb => c2.keep b (f3.blk w hb) fun f => r2 (by subst f; exact f4 _ hb), fun f => r2 (f4 _ f)⟩, e3.keep fun b hb => c2.keep b (e3.blk w hb) fun f => r2 (by subst f; exact e4 _ hb)⟩
/-! ### the loop of Feed -/
theorem loopStop (k n : Nat) {h : H} {p : Nat} {st : Hs} (r : HdR h p st) (hs : st.en = true ∨ st.cs = true) (l out : Sl) : hand_Hand_Feed.l0 k (n + 1) (some ⟨p, 0, none⟩) l out h = some (.inr out, h) := by
  obtain ⟨sl, I, r1, r2⟩ := r.ex
  rw [hand_Hand_Feed.l0_succ]
  simp only [nilA, asP_ptr, Option.bind_some, fadd, I.ldc]
  rw [show (hsV sl st)[0 + 5]? = some (.bool st.en) from rfl, show (hsV sl st)[0 + 4]? = some (.bool st.cs) from rfl]
  simp only [asB, Option.bind_some]
  rcases hs with e | e
  · rw [e]; rfl
  · rw [e]
    cases st.en <;> rfl
theorem loopGo (k n : Nat) {h : H} {p : Nat} {st : Hs} (r : HdR h p st) (h1 : st.en = false) (h2 : st.cs = false) (l out : Sl) : hand_Hand_Feed.l0 k (n + 1) (some ⟨p, 0, none⟩) l out h = ((hand_Hand_step.f k (some ⟨p, 0, none⟩) l h).bind fun q27 =>
    cond (!q27.1.2)
      (some (Sum.inl (out, (⟨none, 0, 0⟩ : Sl)), q27.2))
      ((asS2 (apv 5 1 1 (Value.slice out.a out.n out.c) (Value.slice q27.1.1.a q27.1.1.n q27.1.1.c) q27.2)).bind fun q28 =>
    hand_Hand_Feed.l0 k n (some ⟨p, 0, none⟩) l q28.1 q28.2)) := by
  obtain ⟨sl, I, r1, r2⟩ := r.ex
  rw [hand_Hand_Feed.l0_succ]
  simp only [nilA, asP_ptr, Option.bind_some, fadd, I.ldc]
  rw [show (hsV sl st)[0 + 5]? = some (.bool st.en) from rfl, show (hsV sl st)[0 + 4]? = some (.bool st.cs) from rfl, h1, h2]
  rfl
theorem apNil (s : Sl) {h : H} (w : WF h) {x : List UInt8} (r : Ow 5 1 h s (byt x)) (hx : x.length ≤ 1000000) : asS2 (apv 5 1 1 (Value.slice s.a s.n s.c) (Value.slice none 0 0) h) = some (s, h) := by
  have hn := r.slr.n_byt
  rw [apv_eq (x := ⟨none, 0, 0⟩) (new := []) _ _ _ _ (.inl ⟨rfl, .inl rfl⟩)]
  have hg := apN_guard (l := s.n) (n := 0) (by_ := 1) (sz := 1) (new := []) (by omega) rfl rfl
  rcases r with ⟨_, rfl⟩ | ⟨b, m, c, rfl, hl, I, hc⟩
  · rfl
  · simp only at hg
    obtain ⟨B, hB, k2, k3, k4, k5⟩ := I.rowAt
    simp only [apN, hg, cond_false, hB, growA, k4, Nat.beq_refl, cond_true]
    rcases hc with ⟨rfl, hc⟩ | rfl
    · rw [isUnk_of hc]
      have e1 : Nat.ble (c + 0) c = true := by rw [Nat.ble_eq]; omega
      simp only [cond_false, e1, cond_true, storeA]; rfl
    · rw [isUnk_unkOf]
      have e1 : Nat.ble (0 + (m + 0) * 1) B.n = true := by rw [Nat.ble_eq, k2, hl, Nat.zero_add, Nat.add_zero]; exact Nat.le_refl _
      simp only [cond_true, Nat.beq_refl, e1, storeA]; rfl
/-- what Feed does first -/
theorem feed_in (k : Nat) (hk : 1000 < k) {h : H} (w : WF h) {p : Nat} {st : Hs} (r : HdR h p st) (h1 : st.en = false) (h2 : st.cs = false) {b l : Sl} {x : List UInt8} (rb : SlR 1 h b (byt x)) (hx : st.left.length + x.length ≤ 140737488355328) :
    ∃ h', hand_Hand_Feed.f k (some ⟨p, 0, none⟩) b l h = ((hand_Hand_Feed.l0 k k (some ⟨p, 0, none⟩) l ⟨none, 0, 0⟩ h').bind fun w29 =>
    match w29.1 with
    | .inl r30 => some ((r30.1, r30.2), w29.2)
    | .inr o31 => (asP (nilA (Value.pointer (some ⟨p, 0, none⟩)))).bind fun p32 =>
    (asP (fadd 0 p32)).bind fun p33 =>
    (asS (ldc w29.2 p33)).bind fun s34 =>
    (asP (nilA (Value.pointer (some ⟨p, 0, none⟩)))).bind fun p35 =>
    (asP (fadd 0 p35)).bind fun p36 =>
    (stv 1 w29.2 p36 [(Value.slice none 0 0)]).bind fun q37 =>
    (asP (nilA (Value.pointer (some ⟨p, 0, none⟩)))).bind fun p38 =>
    (asP (fadd 5 p38)).bind fun p39 =>
    (asB (ldc q37.2 p39)).bind fun b40 =>
    cond b40
      (some ((o31, (⟨none, 0, 0⟩ : Sl)), q37.2))
      ((slices_Clone_byte_byte.f k s34 q37.2).bind fun q41 =>
    some ((o31, q41.1), q41.2))) ∧ Ch (fun b => b = p) h h' ∧ HdR h' p { st with left := st.left ++ x } := by
  obtain ⟨sl, I, r1, r2⟩ := r.ex
  unfold hand_Hand_Feed.f
  simp only [nilA, asP_ptr, Option.bind_some, fadd, I.ldc]
  rw [show (hsV sl st)[0 + 5]? = some (.bool st.en) from rfl, show (hsV sl st)[0 + 4]? = some (.bool st.cs) from rfl, h1, h2]
  simp only [asB, Option.bind_some, cond_false, I.ldc]
  rw [show (hsV sl st)[0 + 0]? = some (slv sl) from rfl]
  simp only [asS_slv, Option.bind_some]
  let ps : Parts := [(sl, st.left), (b, x)]
  rw [show [Value.slice sl.a sl.n sl.c, Value.slice b.a b.n b.c] = ps.map fun p => slv p.1 from rfl]
  obtain ⟨y1, y2, y3⟩ := newR_ok w 25 1 (ps.map fun p => slv p.1)
  have hps : PartsR h ps := by
    intro q hq
    simp only [ps, List.mem_cons, List.not_mem_nil, or_false] at hq
    rcases hq with rfl | rfl
    · exact r1
    · exact rb
  obtain ⟨s', h', v1, v2, v3, v4⟩ := concat_f k hk y1.wf (ps := ps) (SlR.of_is y3 (n := 2) rfl (by unfold unk; omega)) (hps.stay w y1) (by show 2 < 1000; decide) (by show st.left.length + (x.length + 0) ≤ _; omega)
  rw [v1]
  simp only [Option.bind_some]
  have cc : Ch0 h h' := y1.then v2
  have I' := I.stay w cc
  have pl := I.lt w
  obtain ⟨h'', c1, c2, c3⟩ := HdR.put cc.wf I' 0 (by decide) (slv s') rfl
  rw [show [Value.slice s'.a s'.n s'.c] = [slv s'] from rfl, show (0 + 0 : Nat) = 0 from rfl, c1]
  simp only [Option.bind_some]
  have hj : joined ps = st.left ++ x := by
    unfold joined
    simp only [ps, List.map_cons, List.map_nil, List.flatten_cons, List.flatten_nil, List.append_nil]
  rw [hj] at v3
  refine ⟨h'', rfl, (cc.mono fun _ _ f => f.elim).trans c2 fun _ _ f => f, s', (by have q := c3; simp only [hsV, List.set_cons_succ, List.set_cons_zero, h1, h2] at q ⊢; exact q), (v3.keep fun x hx => c2.keep x (v3.lt v2.wf hx) (by have := v4 x hx; omega)).slr, fun f => by have := v4 _ f; omega⟩
/-- .. it is closed already -/
theorem feed_closed (k : Nat) {h : H} (w : WF h) {p : Nat} {st : Hs} (r : HdR h p st) (h1 : st.en = true) {b l : Sl} {x : List UInt8} (rb : SlR 1 h b (byt x)) (hx : x.length ≤ 140737488355328) :
    ∃ s' h', hand_Hand_Feed.f k (some ⟨p, 0, none⟩) b l h = some ((⟨none, 0, 0⟩, s'), h') ∧ Ch0 h h' ∧ Ow 5 1 h' s' (byt x) := by
  obtain ⟨sl, I, r1, r2⟩ := r.ex
  unfold hand_Hand_Feed.f
  simp only [nilA, asP_ptr, Option.bind_some, fadd, I.ldc]
  rw [show (hsV sl st)[0 + 5]? = some (.bool st.en) from rfl, h1]
  simp only [asB, Option.bind_some, cond_true]
  obtain ⟨s', h', a1, a2, a3, a4, a5⟩ := clone_f k w rb hx
  rw [a1]
  exact ⟨s', h', rfl, a2, a3⟩
/-! ### replies -/
def replyB (o t : Nat) (d : List UInt8) : List UInt8 := [0, 3, 232, 137, 4, 85, 101, 169] ++ beN o 4 ++ beN t 4 ++ beN d.length 4 ++ d
theorem reply_f (k : Nat) (hk : 1000 < k) {h : H} (w : WF h) (o t : Nat) (oi ti : Int) (ho : oi = Int.ofNat o) (ht : ti = Int.ofNat t) {s : Sl} {d : List UInt8} (r : SlR 1 h s (byt d)) (hd : d.length ≤ 16777216) :
    ∃ s' h', hand_reply.f k oi ti s h = some (s', h') ∧ Ch0 h h' ∧ Ow 5 1 h' s' (byt (replyB o t d)) ∧ ∀ b, SlB s' b → h.next ≤ b := by
  unfold hand_reply.f
  rw [show [Value.int .u8 (0 : Int), Value.int .u8 (3 : Int), Value.int .u8 (232 : Int), Value.int .u8 (137 : Int), Value.int .u8 (4 : Int), Value.int .u8 (85 : Int), Value.int .u8 (101 : Int), Value.int .u8 (169 : Int)] = byt [0, 3, 232, 137, 4, 85, 101, 169] from rfl]
  obtain ⟨z1, z2, z3⟩ := newR_ok w 5 1 (byt [0, 3, 232, 137, 4, 85, 101, 169])
  generalize newR h 5 1 (byt [0, 3, 232, 137, 4, 85, 101, 169]) = g0 at z1 z2 z3 ⊢
  obtain ⟨s1, g1, a1, a2, a3, a4⟩ := cbytes_f k hk o 4 (by decide) z1.wf oi ho 4 rfl
  rw [a1]
  simp only [Option.bind_some]
  obtain ⟨s2, g2, b1, b2, b3, b4⟩ := cbytes_f k hk t 4 (by decide) a2.wf ti ht 4 rfl
  rw [b1]
  simp only [Option.bind_some]
  obtain ⟨s3, g3, c1, c2, c3, c4⟩ := cbytes_f k hk d.length 4 (by decide) b2.wf (Int.ofNat s.n) (by rw [r.n_byt]) 4 rfl
  rw [c1]
  simp only [Option.bind_some]
  let ps : Parts := [(⟨some ⟨h.next, 0, none⟩, 8, 8⟩, [0, 3, 232, 137, 4, 85, 101, 169]), (s1, beN o 4), (s2, beN t 4), (s3, beN d.length 4), (s, d)]
  rw [show [Value.slice (some ⟨h.next, 0, none⟩) 8 8, Value.slice s1.a s1.n s1.c, Value.slice s2.a s2.n s2.c, Value.slice s3.a s3.n s3.c, Value.slice s.a s.n s.c] = ps.map fun p => slv p.1 from rfl]
  obtain ⟨y1, y2, y3⟩ := newR_ok c2.wf 25 1 (ps.map fun p => slv p.1)
  have c13 : Ch0 g1 g3 := b2.then c2
  have hps : PartsR g3 ps := by
    intro q hq
    simp only [ps, List.mem_cons, List.not_mem_nil, or_false] at hq
    rcases hq with rfl | rfl | rfl | rfl | rfl
    · exact (SlR.of_is z3 (n := 8) rfl (by unfold unk; omega)).stay z1.wf (a2.then c13)
    · exact a3.slr.stay a2.wf c13
    · exact b3.slr.stay b2.wf c2
    · exact c3.slr
    · exact r.stay w ((z1.then a2).then c13)
  obtain ⟨s', h', v1, v2, v3, v4⟩ := concat_f k hk y1.wf (ps := ps) (SlR.of_is y3 (n := 5) rfl (by unfold unk; omega)) (hps.stay c2.wf y1) (by show 5 < 1000; decide) (by
    show 8 + ((beN o 4).length + ((beN t 4).length + ((beN d.length 4).length + (d.length + 0)))) ≤ _
    simp only [beN_len]; omega)
  rw [v1]
  have l1 := a2.le
  have l2 := c13.le
  refine ⟨s', h', rfl, (((z1.then a2).then c13).then y1).then v2, ?_, fun b hb => by have := v4 b hb; omega⟩
  have : joined ps = replyB o t d := by
    unfold joined replyB
    simp only [ps, List.map_cons, List.map_nil, List.flatten_cons, List.flatten_nil, List.append_nil, List.append_assoc]
  rw [← this]; exact v3
/-- an option's bytes -/
def optB (o : Nat) (d : List UInt8) : List UInt8 := magicB ++ beN o 4 ++ beN d.length 4 ++ d
theorem optB_len (o : Nat) (d : List UInt8) : (optB o d).length = 16 + d.length := by
  unfold optB
  simp only [List.length_append, beN_len]; rfl
theorem option_f (k : Nat) (hk : 1000 < k) {h : H} (w : WF h) (o : Nat) (oi : Int) (ho : oi = Int.ofNat o) {s : Sl} {d : List UInt8} (r : SlR 1 h s (byt d)) (hd : d.length ≤ 1000000) :
    ∃ s' h', corbellaw23_option.f k oi s h = some (s', h') ∧ Ch0 h h' ∧ Ow 5 1 h' s' (byt (optB o d)) ∧ ∀ b, SlB s' b → h.next ≤ b := by
  unfold corbellaw23_option.f
  rw [show [Value.int .u8 (73 : Int), Value.int .u8 (72 : Int), Value.int .u8 (65 : Int), Value.int .u8 (86 : Int), Value.int .u8 (69 : Int), Value.int .u8 (79 : Int), Value.int .u8 (80 : Int), Value.int .u8 (84 : Int)] = byt magicB from rfl]
  obtain ⟨z1, z2, z3⟩ := newR_ok w 5 1 (byt magicB)
  generalize newR h 5 1 (byt magicB) = g0 at z1 z2 z3 ⊢
  have e0 : asS2 (cvs g0 (Value.slice (some ⟨h.next, 0, none⟩) 8 8)) = some ((⟨some ⟨h.next, 0, none⟩, 8, 8⟩ : Sl), g0) := by
    obtain ⟨B, hB, _⟩ := z3.rowAt
    unfold cvs
    simp only [hB]; rfl
  rw [e0]
  simp only [Option.bind_some]
  have o0 : Ow 5 1 g0 ⟨some ⟨h.next, 0, none⟩, 8, 8⟩ (byt magicB) := Ow.of_is z3 rfl (by unfold unk; omega)
  have f0 : ∀ b, SlB ⟨some ⟨h.next, 0, none⟩, 8, 8⟩ b → h.next ≤ b := fun b hb => by obtain ⟨x, q⟩ := hb; have : h.next = b := congrArg Addr.block (Option.some.inj q); omega
  obtain ⟨s1, g1, a1, a2, a3, a4⟩ := big_f k hk o 4 (by decide) z1.wf oi ho 4 rfl
  rw [a1]
  simp only [Option.bind_some]
  have c01 := z1.then a2
  obtain ⟨t1, g2, b1, b2, b3, b4⟩ := app_b a2.wf (o0.stay z1.wf a2) a3.slr (by rw [beN_len]; show 8 + 4 ≤ _; decide)
  rw [b1]
  simp only [Option.bind_some]
  have c02 : Ch0 h g2 := Ch0.own c01 b2 f0
  have l1 := c01.le
  have f1 : ∀ b, SlB t1 b → h.next ≤ b := fun b hb => (b4 b hb).elim (f0 b) fun f => by omega
  obtain ⟨s2, g3, d1, d2, d3, d4⟩ := big_f k hk d.length 4 (by decide) c02.wf (Int.ofNat s.n) (by rw [r.n_byt]) 4 rfl
  rw [d1]
  simp only [Option.bind_some]
  have c03 := c02.then d2
  have l3 := c03.le
  obtain ⟨t2, g4, e1, e2, e3, e4⟩ := app_b d2.wf (b3.stay b2.wf d2) d3.slr (by simp only [List.length_append, beN_len]; show 8 + 4 + 4 ≤ _; decide)
  rw [e1]
  simp only [Option.bind_some]
  have c04 : Ch0 h g4 := Ch0.own c03 e2 f1
  have f2 : ∀ b, SlB t2 b → h.next ≤ b := fun b hb => (e4 b hb).elim (f1 b) fun f => by omega
  have l4 := c04.le
  obtain ⟨t3, g5, m1, m2, m3, m4⟩ := app_b e2.wf e3 (r.stay w c04) (by simp only [List.length_append, beN_len]; show 8 + 4 + 4 + d.length ≤ _; omega)
  rw [m1]
  exact ⟨t3, g5, rfl, Ch0.own c04 m2 f2, m3, fun b hb => (m4 b hb).elim (f2 b) fun f => by omega⟩
end Go.Proofs.Ytlibnmhicnnldaa.Fw
