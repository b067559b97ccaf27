/- HandLists: the law's forward run comes to true. -/
import Derived.Test.YtlibnmhicnnldaaFwList
import Derived.Test.YtlibnmhicnnldaaArHandLists
namespace Go.Proofs.Ytlibnmhicnnldaa
open Go Den Fwd Fw
set_option linter.unusedVariables false
set_option linter.unusedSimpArgs false
/-- the other hand is changed -/
theorem Lists.keep2 {h h' : H} {p q : Nat} {sp sq : Hs} (w : WF h) (rp : HdR h p sp) (hl : sp.left = []) (c : Ch (fun b => b = q) h h') (hpq : p ≠ q) (rq : HdR h' q sq) : HdR h' p sp := by
  obtain ⟨sl, I, r1, r2⟩ := rp.ex
  obtain ⟨sl', I', _, _⟩ := rq.ex
  refine ⟨sl, I.keep (c.keep p (I.lt w) hpq), ?_, r2⟩
  by_cases e : SlB sl q
  · rw [hl] at r1 ⊢
    rcases r1 with r1 | ⟨b, o, x1, x2, x3, x4⟩
    · exact .inl r1
    · obtain ⟨o', y⟩ := e
      rw [x1] at y
      have eb : b = q := congrArg Addr.block (Option.some.inj y)
      subst eb
      obtain ⟨B, k1, _⟩ := I'
      have n0 : sl.n * 1 = 0 := by rw [← x2]; rfl
      refine .inr ⟨b, o, x1, x2, ?_, x4⟩
      rw [n0]
      unfold H.gets
      rw [k1]
      exact Row.gets_of 0 o [] rfl fun i hi => by omega
  · exact r1.keep fun b hb => c.keep b (r1.blk w hb) fun f => e (by subst f; exact hb)
theorem Lists.add_ba (a b : List UInt8) (h : a.length + b.length ≤ 1000000000) : asT (strA .add (⟨a.toArray⟩ : ByteArray) ⟨b.toArray⟩) = some ⟨(a ++ b).toArray⟩ := by
  have e : (⟨a.toArray⟩ : ByteArray) ++ ⟨b.toArray⟩ = ⟨(a ++ b).toArray⟩ := by
    apply ByteArray.ext
    simp
  show asT (cond (Nat.blt (a.toArray.size + b.toArray.size) 9223372036854775807) (some (.string ((⟨a.toArray⟩ : ByteArray) ++ ⟨b.toArray⟩))) none) = _
  rw [cond_eta _ _ _ (show Nat.blt (a.toArray.size + b.toArray.size) 9223372036854775807 = true from Nat.ble_eq_true_of_le (by simp; omega)), e]; rfl
/-! ### the export of that name -/
theorem Lists.find1 (k : Nat) {g : H} (w : WF g) (e : Xpo) {nb : Nat} {nm : List UInt8} (I : Is g nb 9 1 [Value.string (ba nm)]) : ∃ g', hand_find_1.f k (ba e.1, e.2.1, e.2.2) (some ⟨nb, 0, none⟩) g = some (decide (e.1 = nm), g') ∧ Ch0 g g' := by
  unfold hand_find_1.f
  dsimp only
  obtain ⟨x1, x2, x3⟩ := newR_ok w 35 3 (exL e)
  rw [show [Value.string (ba e.1), Value.int .i64 e.2.1, Value.bool e.2.2] = exL e from rfl, x3.ldc, (I.stay w x1).ldc]
  refine ⟨_, ?_, x1⟩
  show some ((ba e.1).toList == (ba nm).toList, _) = _
  rw [baeq]
theorem Lists.find_s (k : Nat) (hk : 1000 < k) {h : H} (w : WF h) {sx : Sl} {es : List Xpo} (R : ExR h sx es) (E : ExOk es) : ∃ h', hand_find.f k sx (ba [115]) h = some (((ba [115], (8 : Int), true), true), h') ∧ Ch0 h h' := by
  obtain ⟨rest, he⟩ := E.tw
  have el : 2 ≤ es.length := by rw [he]; simp only [List.length_cons]; omega
  unfold hand_find.f
  obtain ⟨z1, z2, z3⟩ := newR_ok w 9 1 [Value.string (ba [115])]
  generalize newR h 9 1 [Value.string (ba [115])] = g0 at z1 z2 z3 ⊢
  obtain ⟨y1, y2, y3⟩ := newR_ok z1.wf 35 3 [Value.string (⟨#[]⟩ : ByteArray), Value.int .i64 (0 : Int), Value.bool false]
  generalize newR g0 35 3 [Value.string (⟨#[]⟩ : ByteArray), Value.int .i64 (0 : Int), Value.bool false] = g1 at y1 y2 y3 ⊢
  have c01 := z1.then y1
  have z4 := z3.stay z1.wf y1
  have e0 : es[0]'(by omega) = ([97], (16, false)) := by subst he; rfl
  have e1 : es[1]'(by omega) = ([115], (8, true)) := by subst he; rfl
  obtain ⟨g2, a1, a2⟩ := Lists.find1 k y1.wf ([97], (16, false)) z4
  obtain ⟨g3, b1, b2⟩ := Lists.find1 k a2.wf ([115], (8, true)) (z4.stay y1.wf a2)
  rw [decide_eq_false (by decide)] at a1
  rw [decide_eq_true rfl] at b1
  have c12 := c01.then a2
  have c13 := c12.then b2
  obtain ⟨x0, o0, p1, p2, _⟩ := ExR.at (R.stay w c01) (i := 0) (by omega)
  obtain ⟨x1, o1, q1, q2, _⟩ := ExR.at (R.stay w c12) (i := 1) (by omega)
  obtain ⟨x1', o1', r1, r2, _⟩ := ExR.at (R.stay w c13) (i := 1) (by omega)
  rw [e0] at p2
  rw [e1] at q2 r2
  rw [q1] at r1
  cases r1
  have fi : slices_IndexFunc_hand_Export_hand_Export_hand_find_1.f k sx (some ⟨h.next, 0, none⟩) g1 = some ((1 : Int), g3) := by
    unfold slices_IndexFunc_hand_Export_hand_Export_hand_find_1.f
    obtain ⟨m, rfl⟩ : ∃ m, k = m + 2 := ⟨k - 2, by omega⟩
    rw [slices_IndexFunc_hand_Export_hand_Export_hand_find_1.l0_succ]
    rw [decide_eq_true (show (0 : Int) < Int.ofNat sx.n by rw [R.n]; simp only [Int.ofNat_eq_natCast]; omega), cond_true]
    rw [show (0 : Int) = Int.ofNat 0 from rfl, p1]
    simp only [asP_ptr, Option.bind_some]
    rw [p2, Pure.bindEx]
    dsimp only
    rw [a1]
    simp only [Option.bind_some, cond_false]
    rw [wrap_succ (by omega), slices_IndexFunc_hand_Export_hand_Export_hand_find_1.l0_succ]
    rw [decide_eq_true (show Int.ofNat (0 + 1) < Int.ofNat sx.n by rw [R.n]; simp only [Int.ofNat_eq_natCast]; omega), cond_true, show (0 + 1 : Nat) = 1 from rfl, q1]
    simp only [asP_ptr, Option.bind_some]
    rw [q2, Pure.bindEx]
    dsimp only
    rw [b1]; rfl
  rw [fi]
  simp only [Option.bind_some]
  rw [show decide ((1 : Int) < 0) = false from rfl, cond_false]
  rw [show (1 : Int) = Int.ofNat 1 from rfl, q1]
  simp only [asP_ptr, Option.bind_some]
  rw [r2, Pure.bindEx]
  dsimp only
  have y4 := (y3.stay y1.wf a2).stay a2.wf b2
  obtain ⟨h', u1, u2, u3, u4⟩ := Is.whole b2.wf y4 rfl (Pure.exV [115] 8 true) rfl rfl
  rw [show [Value.string (ba [115]), Value.int .i64 (8 : Int), Value.bool true] = Pure.exV [115] 8 true from rfl, u1]
  simp only [Option.bind_some]
  rw [Pure.isEx u4, Pure.bindEx]
  exact ⟨h', rfl, Ch0.at c13 u2 z1.le⟩
theorem Lists.named_s (k : Nat) (hk : 1000 < k) {h : H} (w : WF h) {p : Nat} {lf : List UInt8} (r : HdR h p ⟨lf, true, true, [], false, false⟩) {sx : Sl} {es : List Xpo} (R : ExR h sx es) (E : ExOk es) :
    ∃ s' h', hand_Hand_named.f k (some ⟨p, 0, none⟩) sx (ba [115]) h = some (s', h') ∧ Ch (fun b => b = p) h h' ∧ HdR h' p ⟨lf, true, true, [115], true, false⟩ ∧ Ow 5 1 h' s' (byt (Pure.about 8 true)) ∧ ∀ b, SlB s' b → h.next ≤ b := by
  unfold hand_Hand_named.f
  obtain ⟨h2, a1, a2⟩ := Lists.find_s k hk w R E
  rw [a1]
  simp only [Option.bind_some]
  rw [show [Value.string (ba [115]), Value.int .i64 (8 : Int), Value.bool true] = Pure.exV [115] 8 true from rfl]
  obtain ⟨h3, b1, b2, b3, b4⟩ := box_ok a2.wf 35 3 [Value.string (⟨#[]⟩ : ByteArray), Value.int .i64 (0 : Int), Value.bool false] (Pure.exV [115] 8 true) rfl rfl rfl
  rw [b1]
  simp only [Option.bind_some, Bool.not_true, cond_false]
  have c3 := a2.then b2
  have pl := r.lt w
  obtain ⟨sl, J0, q1, q2⟩ := r.ex
  obtain ⟨h4, d1, d2, d3⟩ := Pure.choose_f k c3.wf (J0.stay w c3) [115]
  rw [d1]
  simp only [Option.bind_some]
  have l2 := a2.le
  have B4 := b4.keep (d2.keep h2.next (by omega) (by omega))
  rw [Pure.isEx B4, Pure.bindEx]
  dsimp only
  obtain ⟨s5, h5, e1, e2, e3, e4⟩ := Pure.sized_f k hk d2.wf [115] 8 true (by decide) (by decide)
  rw [e1]
  simp only [nilA, asP_ptr, Option.bind_some, fadd]
  have J := d3.stay d2.wf e2
  have C5 : Ch (fun b => b = p) h h5 := ((c3.mono fun _ _ f => f.elim).trans d2 fun _ _ f => f).trans e2 fun _ _ f => f.elim
  have Q5 : SlR 1 h5 sl (byt lf) := q1.keep fun x hx => C5.keep x (q1.blk w hx) fun f => q2 (by subst f; exact hx)
  rw [J.ldc]
  have l3 := c3.le
  have l4 := d2.le
  exact ⟨s5, h5, rfl, C5, ⟨sl, J, Q5, q2⟩, e3, fun x hx => by have := e4 x hx; omega⟩
/-! ### what is fed -/
theorem Lists.feedFlags (k : Nat) (hk : 1000 < k) {h : H} (w : WF h) {p : Nat} (r : HdR h p ⟨[], false, false, [], false, false⟩) {b l : Sl} (rb : SlR 1 h b (byt [0, 0, 0, 3])) :
    ∃ h', hand_Hand_Feed.f k (some ⟨p, 0, none⟩) b l h = some ((⟨none, 0, 0⟩, ⟨none, 0, 0⟩), h') ∧ Ch (fun b => b = p) h h' ∧ HdR h' p ⟨[], true, true, [], false, false⟩ := by
  obtain ⟨m, rfl⟩ : ∃ m, k = m + 3 := ⟨k - 3, by omega⟩
  obtain ⟨h1, a1, a2, a3⟩ := feed_in (m + 3) hk w r rfl rfl (l := l) rb (by decide)
  rw [a1]
  rw [loopGo (m + 3) (m + 2) a3 rfl rfl]
  obtain ⟨h2, b1, b2, b3⟩ := stepGreet (m + 3) hk a2.wf a3 rfl (by decide) l
  rw [b1]
  simp only [Option.bind_some, Bool.not_true, cond_false]
  rw [apNil ⟨none, 0, 0⟩ b2.wf Pure.nilOw (by decide)]
  simp only [Option.bind_some]
  have e : greetP ⟨[] ++ [0, 0, 0, 3], false, false, [], false, false⟩ = ⟨[], true, true, [], false, false⟩ := by
    have := Pure.greetOf 3 (by decide) []
    rw [show (beN 3 4 ++ [] : List UInt8) = [0, 0, 0, 3] from rfl] at this
    exact this
  rw [e] at b3
  rw [loopGo (m + 3) (m + 1) b3 rfl rfl, stepFew (m + 3) b3 rfl (by decide)]
  exact ⟨h2, rfl, a2.trans b2 fun _ _ f => f, b3⟩
theorem Lists.feedList (k : Nat) (hk : 1000 < k) {h : H} (w : WF h) {p : Nat} (r : HdR h p ⟨[], true, true, [], false, false⟩) {b sx : Sl} {es : List Xpo} (R : ExR h sx es) (E : ExOk es) (hxp : ∀ b, SlB sx b → b ≠ p) (rb : SlR 1 h b (byt (optB 3 []))) :
    ∃ s' h', hand_Hand_Feed.f k (some ⟨p, 0, none⟩) b sx h = some ((s', ⟨none, 0, 0⟩), h') ∧ Ch (fun b => b = p) h h' ∧ HdR h' p ⟨[], true, true, [], false, false⟩ ∧ Ow 5 1 h' s' (byt (toldL es)) ∧ ∀ b, SlB s' b → h.next ≤ b := by
  obtain ⟨m, rfl⟩ : ∃ m, k = m + 3 := ⟨k - 3, by omega⟩
  obtain ⟨h1, a1, a2, a3⟩ := feed_in (m + 3) hk w r rfl rfl (l := sx) rb (by decide)
  rw [a1]
  rw [loopGo (m + 3) (m + 2) a3 rfl rfl]
  have e0 : ([] : List UInt8) ++ optB 3 [] = optB 3 [] ++ [] := by simp
  have a3 : HdR h1 p ⟨optB 3 [] ++ [], true, true, [], false, false⟩ := by rw [← e0]; exact a3
  obtain ⟨c1, c2, c3, c4, c5⟩ := Pure.cutOpt 3 [] [] (by decide) (by decide)
  obtain ⟨sd, h2, b1, b2, b3, b4⟩ := stepOpt (m + 3) hk a2.wf a3 rfl (Pure.optGood 3 [] [] (by decide) (by decide)) (by show 16 + unbe (cutL (optB 3 [] ++ []) 12 16) ≤ (optB 3 [] ++ []).length; rw [c3, List.append_nil, optB_len]; exact Nat.le_refl _) sx
  simp only [c2, c3, c4, c5] at b1 b3 b4
  rw [b1]
  unfold hand_Hand_option.f
  rw [show (Int.ofNat 3 == (1 : Int)) = false from rfl, cond_false, show (Int.ofNat 3 == (2 : Int)) = false from rfl, cond_false, show (Int.ofNat 3 == (3 : Int)) = true from rfl, cond_true]
  have C2 := a2.trans b2 fun _ _ f => f
  have R2 : ExR h2 sx es := SlR.keep (fun x hx => C2.keep x (SlR.blk w R hx) (hxp x hx)) R
  obtain ⟨s3, h3, d1, d2, d3, d4⟩ := told_f (m + 3) hk b2.wf R2 E (sd := sd) (by rw [b4.n_byt]; rfl)
  rw [d1]
  simp only [Option.bind_some, Bool.not_true, cond_false]
  have tl : (toldL es).length ≤ 10000000 := by
    unfold toldL
    have h1 := tellsB_le es E.nm
    have h2 := E.le
    rw [List.length_append, show (replyB 3 1 []).length = 20 from rfl]
    have : es.length * 1048600 ≤ 5 * 1048600 := Nat.mul_le_mul_right _ h2
    omega
  obtain ⟨s4, h4, f1, f2, f3, f4⟩ := app_b d2.wf (Pure.nilOw (h := h3)) d3.slr (by show 0 + _ ≤ _; omega)
  rw [f1]
  simp only [Option.bind_some]
  have nb : ∀ x, ¬ SlB ⟨none, 0, 0⟩ x := fun x hx => by obtain ⟨o, q⟩ := hx; cases q
  have c24 : Ch0 h2 h4 := d2.then (f2.mono fun x _ f => nb x f)
  have r4 := b3.stay b2.wf c24
  rw [loopGo (m + 3) (m + 1) r4 rfl rfl, stepFew (m + 3) r4 rfl (by decide)]
  refine ⟨s4, h4, rfl, C2.trans c24 fun _ _ f => f.elim, r4, by simpa using f3, fun x hx => ?_⟩
  have l2 := C2.le
  have l3 := d2.le
  rcases f4 x hx with f | f
  · exact absurd f (nb x)
  · omega
theorem Lists.feedS (k : Nat) (hk : 1000 < k) {h : H} (w : WF h) {p : Nat} (r : HdR h p ⟨[], true, true, [], false, false⟩) {b sx : Sl} {es : List Xpo} (R : ExR h sx es) (E : ExOk es) (hxp : ∀ b, SlB sx b → b ≠ p) (rb : SlR 1 h b (byt (optB 1 [115]))) :
    ∃ s' t' h', hand_Hand_Feed.f k (some ⟨p, 0, none⟩) b sx h = some ((s', t'), h') ∧ Ch (fun b => b = p) h h' ∧ HdR h' p ⟨[], true, true, [115], true, false⟩ ∧ Ow 5 1 h' s' (byt (Pure.about 8 true)) ∧ ∀ b, SlB s' b → h.next ≤ b := by
  obtain ⟨m, rfl⟩ : ∃ m, k = m + 3 := ⟨k - 3, by omega⟩
  obtain ⟨h1, a1, a2, a3⟩ := feed_in (m + 3) hk w r rfl rfl (l := sx) rb (by decide)
  rw [a1]
  rw [loopGo (m + 3) (m + 2) a3 rfl rfl]
  have e0 : ([] : List UInt8) ++ optB 1 [115] = optB 1 [115] ++ [] := by simp
  have a3 : HdR h1 p ⟨optB 1 [115] ++ [], true, true, [], false, false⟩ := by rw [← e0]; exact a3
  obtain ⟨c1, c2, c3, c4, c5⟩ := Pure.cutOpt 1 [115] [] (by decide) (by decide)
  obtain ⟨sd, h2, b1, b2, b3, b4⟩ := stepOpt (m + 3) hk a2.wf a3 rfl (Pure.optGood 1 [115] [] (by decide) (by decide)) (by show 16 + unbe (cutL (optB 1 [115] ++ []) 12 16) ≤ (optB 1 [115] ++ []).length; rw [c3, List.append_nil, optB_len]; exact Nat.le_refl _) sx
  simp only [c2, c3, c4, c5] at b1 b3 b4
  rw [b1]
  unfold hand_Hand_option.f
  rw [show (Int.ofNat 1 == (1 : Int)) = true from rfl, cond_true, txt_sl b4]
  simp only [Option.bind_some]
  have C2 := a2.trans b2 fun _ _ f => f
  have R2 : ExR h2 sx es := SlR.keep (fun x hx => C2.keep x (SlR.blk w R hx) (hxp x hx)) R
  obtain ⟨s3, h3, d1, d2, d3, d4, d5⟩ := Lists.named_s (m + 3) hk b2.wf b3 R2 E
  rw [show (⟨([115] : List UInt8).toArray⟩ : ByteArray) = ba [115] from rfl, d1]
  simp only [Option.bind_some, Bool.not_true, cond_false]
  obtain ⟨s4, h4, f1, f2, f3, f4⟩ := app_b d2.wf (Pure.nilOw (h := h3)) d4.slr (by
    show 0 + (Pure.about 8 true).length ≤ _
    unfold Pure.about
    simp only [List.length_append, beN_len]; omega)
  rw [f1]
  simp only [Option.bind_some]
  have nb : ∀ x, ¬ SlB ⟨none, 0, 0⟩ x := fun x hx => by obtain ⟨o, q⟩ := hx; cases q
  have c34 : Ch0 h3 h4 := f2.mono fun x _ f => nb x f
  have r4 := d3.stay d2.wf c34
  rw [List.nil_append] at f3
  rw [loopStop (m + 3) (m + 1) r4 (.inr rfl)]
  simp only [Option.bind_some]
  have pl := r.lt w
  have l2 := C2.le
  have l3 := d2.le
  have s4n : ∀ x, SlB s4 x → h3.next ≤ x := fun x hx => (f4 x hx).elim (fun f => absurd f (nb x)) fun f => by omega
  obtain ⟨t', h5, g1, g2, g3, g4, g5⟩ := Pure.feedTail (m + 3) c34.wf r4 rfl (by decide) s4 f3 (fun x hx => by have := s4n x hx; omega)
  rw [g1]
  exact ⟨s4, t', h5, rfl, ((C2.trans d2 fun _ _ f => f).trans c34 fun _ _ f => f.elim).trans g2 fun _ _ f => f, g3, g4, fun x hx => by have := s4n x hx; omega⟩
/-! ### what is wanted -/
def Lists.hdB : List UInt8 := [0, 3, 232, 137, 4, 85, 101, 169, 0, 0, 0, 3, 0, 0, 0]
theorem Lists.want_l0 (k : Nat) (hk : 1000 < k) {h0 : H} (w0 : WF h0) {sx : Sl} {es : List Xpo} (R : ExR h0 sx es) (E : ExOk es) (x8 : Int) (x9 : Sl) (x10 x11 : Option Addr) : ∀ n i h, es.length - i < n → i ≤ es.length → Ch0 h0 h →
    ∃ h', corbellaw23_HandLists.l0 k n x8 x9 x10 x11 (ba Lists.hdB) sx (Int.ofNat es.length) (ba (tellsB (es.take i))) (Int.ofNat i) h = some (ba (tellsB es), h') ∧ Ch0 h0 h'
  | 0, i, h, hn, _, _ => by omega
  | n + 1, i, h, hn, hi, c0 => by
    rw [corbellaw23_HandLists.l0_succ]
    have el := E.le
    by_cases c : i < es.length
    · rw [decide_eq_true (show Int.ofNat i < Int.ofNat es.length by simp only [Int.ofNat_eq_natCast]; omega), cond_true]
      obtain ⟨b, o, p1, p2, _⟩ := ExR.at (R.stay w0 c0) c
      rw [p1]
      simp only [asP_ptr, Option.bind_some]
      rw [p2, Pure.bindEx]
      dsimp only
      have hnm := E.nm _ (List.getElem_mem c)
      generalize he : es[i] = e at hnm
      rw [show [Value.string (ba e.1), Value.int .i64 e.2.1, Value.bool e.2.2] = exL e from rfl]
      obtain ⟨h1, b1, b2, b3, b4⟩ := box_ok c0.wf 35 3 [Value.string (⟨#[]⟩ : ByteArray), Value.int .i64 (0 : Int), Value.bool false] (exL e) rfl rfl rfl
      rw [b1]
      simp only [Option.bind_some]
      have I1 : ldc h1 (some ⟨h.next, 0, none⟩) = some (.string (ba e.1)) := by rw [b4.ldc]; rfl
      rw [I1]
      simp only [asTs, Option.bind_some]
      have lb : (ba e.1).data.toList.length = e.1.length := by rw [show (ba e.1).data.toList = e.1 from List.toList_toArray]
      have hle := tellsB_le (es.take i) fun x hx => E.nm x (List.mem_of_mem_take hx)
      rw [List.length_take] at hle
      have hle2 : min i es.length * 1048600 ≤ 5 * 1048600 := Nat.mul_le_mul_right _ (by omega)
      rw [lb]
      show ∃ h', ((asT (strA .add (⟨(tellsB (es.take i)).toArray⟩ : ByteArray) ⟨Lists.hdB.toArray⟩)).bind _) = _ ∧ _
      rw [Lists.add_ba _ _ (by show (tellsB (es.take i)).length + 15 ≤ _; omega)]
      simp only [Option.bind_some]
      rw [show (⟨#[2]⟩ : ByteArray) = ⟨([2] : List UInt8).toArray⟩ from rfl, Lists.add_ba _ _ (by rw [List.length_append]; show (tellsB (es.take i)).length + 15 + 1 ≤ _; omega)]
      simp only [Option.bind_some]
      rw [wrap_in (n := Int.ofNat e.1.length + (4 : Int)) (by simp only [Int.ofNat_eq_natCast]; omega) (by simp only [Int.ofNat_eq_natCast]; omega), show Int.ofNat e.1.length + (4 : Int) = Int.ofNat (e.1.length + 4) from rfl]
      obtain ⟨s2, h2, d1, d2, d3, d4⟩ := big_f k hk (e.1.length + 4) 4 (by decide) b2.wf (Int.ofNat (e.1.length + 4)) rfl 4 rfl
      rw [d1]
      simp only [Option.bind_some]
      rw [txt_sl d3.slr]
      simp only [Option.bind_some]
      rw [Lists.add_ba _ _ (by rw [List.length_append, List.length_append, beN_len]; show (tellsB (es.take i)).length + 15 + 1 + 4 ≤ _; omega)]
      simp only [Option.bind_some]
      obtain ⟨s3, h3, f1, f2, f3, f4⟩ := big_f k hk e.1.length 4 (by decide) d2.wf (Int.ofNat e.1.length) rfl 4 rfl
      rw [f1]
      simp only [Option.bind_some]
      rw [txt_sl f3.slr]
      simp only [Option.bind_some]
      rw [Lists.add_ba _ _ (by rw [List.length_append, List.length_append, List.length_append, beN_len, beN_len]; show (tellsB (es.take i)).length + 15 + 1 + 4 + 4 ≤ _; omega)]
      simp only [Option.bind_some]
      have I3 : ldc h3 (some ⟨h.next, 0, none⟩) = some (.string (ba e.1)) := by rw [((b4.stay b2.wf d2).stay d2.wf f2).ldc]; rfl
      rw [I3]
      simp only [asTs, Option.bind_some]
      rw [show (ba e.1) = ⟨e.1.toArray⟩ from rfl]
      have fin := Lists.add_ba (tellsB (es.take i) ++ Lists.hdB ++ [2] ++ beN (e.1.length + 4) 4 ++ beN e.1.length 4) e.1 (by rw [List.length_append, List.length_append, List.length_append, List.length_append, beN_len, beN_len]; show (tellsB (es.take i)).length + 15 + 1 + 4 + 4 + e.1.length ≤ _; omega)
      rw [fin]
      simp only [Option.bind_some]
      rw [same1_of (d2.keep h.next (by omega) fun f => f), same1_of (f2.keep h.next (by have := d2.le; omega) fun f => f), same1_sl (fun b hb => f2.keep b (d3.lt d2.wf hb) fun f => f)]
      simp only [Bool.and_self, cond_true]
      rw [wrap_succ (by omega)]
      have e1 : tellsB (es.take i) ++ Lists.hdB ++ [2] ++ beN (e.1.length + 4) 4 ++ beN e.1.length 4 ++ e.1 = tellsB (es.take (i + 1)) := by
        have : tellsB (es.take (i + 1)) = tellsB (es.take i) ++ tellB e := by
          unfold tellsB
          rw [List.take_add_one, List.getElem?_eq_getElem c, he, List.map_append, List.flatten_append]
          show _ ++ (tellB e ++ []) = _
          rw [List.append_nil]
        rw [this]
        unfold tellB replyB
        rw [List.length_append, beN_len, show 4 + e.1.length = e.1.length + 4 by omega]
        have h1 : Lists.hdB ++ [2] = [0, 3, 232, 137, 4, 85, 101, 169] ++ beN 3 4 ++ beN 2 4 := rfl
        simp only [List.append_assoc] at h1 ⊢
        rw [← List.append_assoc Lists.hdB, h1]
        simp only [List.append_assoc]
      rw [e1]
      exact Lists.want_l0 k hk w0 R E x8 x9 x10 x11 n (i + 1) h3 (by omega) (by omega) (c0.then (b2.then (d2.then f2)))
    · rw [decide_eq_false (show ¬ Int.ofNat i < Int.ofNat es.length by simp only [Int.ofNat_eq_natCast]; omega), cond_false]
      rw [List.take_of_length_le (by omega)]
      exact ⟨h, rfl, c0⟩
/-- asked again and again -/
theorem Lists.ask_l1 (k : Nat) (hk : 1000 < k) {h0 : H} (w0 : WF h0) {sx : Sl} {es : List Xpo} (R : ExR h0 sx es) (E : ExOk es) {p : Nat} (hxp : ∀ b, SlB sx b → b ≠ p) (times : Int) (t : Nat) (ht : times % 4 = Int.ofNat t) (t4 : t < 4) (x40 : Option Addr) : ∀ n i h, t + 1 - i < n → i ≤ t + 1 → Ch (fun b => b = p) h0 h → HdR h p ⟨[], true, true, [], false, false⟩ →
    ∃ h', corbellaw23_HandLists.l1 k n times sx (some ⟨p, 0, none⟩) x40 (ba (toldL es)) (Int.ofNat i) h = some (.inr (), h') ∧ Ch (fun b => b = p) h0 h' ∧ HdR h' p ⟨[], true, true, [], false, false⟩
  | 0, i, h, hn, _, _, _ => by omega
  | n + 1, i, h, hn, hi, c0, r => by
    rw [corbellaw23_HandLists.l1_succ]
    rw [pick_f k times 4 h (by decide) (by decide), ht]
    simp only [Option.bind_some]
    by_cases c : i ≤ t
    · rw [decide_eq_true (show Int.ofNat i ≤ Int.ofNat t by simp only [Int.ofNat_eq_natCast]; omega), cond_true]
      obtain ⟨s1, h1, a1, a2, a3, a4⟩ := option_f k hk c0.wf 3 3 rfl (s := ⟨none, 0, 0⟩) (d := []) (.inl ⟨rfl, .inl rfl⟩) (by decide)
      rw [a1]
      simp only [Option.bind_some]
      have R0 : ExR h sx es := SlR.keep (fun x hx => c0.keep x (SlR.blk w0 R hx) (hxp x hx)) R
      obtain ⟨s2, h2, b1, b2, b3, b4, b5⟩ := Lists.feedList k hk a2.wf (r.stay c0.wf a2) (SlR.stay c0.wf a2 R0) E hxp a3.slr
      rw [b1]
      simp only [Option.bind_some]
      rw [txt_sl b4.slr]
      simp only [Option.bind_some]
      rw [show (⟨(toldL es).toArray⟩ : ByteArray) = ba (toldL es) from rfl, baeq, decide_eq_true rfl]
      simp only [Bool.not_true, cond_false, Option.bind_some]
      rw [show decide (Int.ofNat 0 > (0 : Int)) = false from rfl]
      simp only [cond_false, Option.bind_some]
      rw [ended_f k b3]
      simp only [Option.bind_some, cond_false]
      rw [wrap_succ (by omega)]
      exact Lists.ask_l1 k hk w0 R E hxp times t ht t4 x40 n (i + 1) h2 (by omega) (by omega) ((c0.trans a2 fun _ _ f => f.elim).trans b2 fun _ _ f => f) b3
    · rw [decide_eq_false (show ¬ Int.ofNat i ≤ Int.ofNat t by simp only [Int.ofNat_eq_natCast]; omega), cond_false]
      exact ⟨h, rfl, c0, r⟩
theorem Lists.oneB (g : H) (w : WF g) : ∃ g', asS2 (cvs (newR g 5 1 [Value.int .u8 (115 : Int)]) (Value.slice (some ⟨g.next, 0, none⟩) 1 1)) = some ((⟨some ⟨g.next, 0, none⟩, 1, 1⟩ : Sl), g') ∧ Ch0 g g' ∧ SlR 1 g' ⟨some ⟨g.next, 0, none⟩, 1, 1⟩ (byt [115]) := by
  rw [show [Value.int .u8 (115 : Int)] = byt [115] from rfl]
  obtain ⟨z1, z2, z3⟩ := newR_ok w 5 1 (byt [115])
  generalize newR g 5 1 (byt [115]) = g0 at z1 z2 z3 ⊢
  refine ⟨g0, ?_, z1, SlR.of_is z3 (n := 1) rfl (by unfold unk; omega)⟩
  obtain ⟨B, hB, _⟩ := z3.rowAt
  unfold cvs
  simp only [hB]; rfl
theorem Lists.lists_f (k : Nat) (hk : 1000 < k) {h : H} (w : WF h) {sl : Sl} {ls : List (List Value)} (L : SlR 5 h sl ls.flatten) (hn5 : sl.n = ls.length) (hl5 : ∀ l ∈ ls, l.length = 5) (hls : ∀ (i : Nat) (l : List Value), ls[i]? = some l → ∃ (a b c : Int) (d : Value) (s : List UInt8), l = [.int .i64 a, .int .i64 b, .int .i64 c, d, .string (ba s)] ∧ s.length ≤ 1048576) (times : Int) :
    ∃ h', corbellaw23_HandLists.f k sl times h = some (true, h') := by
  unfold corbellaw23_HandLists.f
  obtain ⟨sx, es, h1, a1, a2, R1, E, a5⟩ := exports_f k hk w L hn5 hl5 hls
  rw [a1]
  simp only [Option.bind_some]
  obtain ⟨h2, b1, b2, b3⟩ := new_f k a2.wf
  rw [b1]
  simp only [Option.bind_some]
  obtain ⟨h3, c1, c2, c3⟩ := new_f k b2.wf
  rw [c1]
  simp only [Option.bind_some, Bool.not_true, cond_false, Pure.eqptr22, asB]
  have R3 : ExR h3 sx es := SlR.stay a2.wf (b2.then c2) R1
  have el := E.le
  have hxp : ∀ b, SlB sx b → b ≠ h1.next := fun b hb => by have := SlR.blk a2.wf R1 hb; omega
  have hxq : ∀ b, SlB sx b → b ≠ h2.next := fun b hb => by have := SlR.blk a2.wf R1 hb; have := b2.le; omega
  have P3 := b3.stay b2.wf c2
  have pl := b3.lt b2.wf
  have ql := c3.lt c2.wf
  generalize h1.next = p at hxp P3 pl ⊢
  generalize h2.next = q at hxq c3 pl ql ⊢
  have hpq : p ≠ q := by omega
  obtain ⟨h4, d1, d2⟩ := Lists.want_l0 k hk c2.wf R3 E times sx (some ⟨p, 0, none⟩) (some ⟨q, 0, none⟩) k 0 h3 (by omega) (Nat.zero_le _) (Ch.refl c2.wf)
  rw [R3.n, show (0 : Int) = Int.ofNat 0 from rfl]
  have d1 : corbellaw23_HandLists.l0 k k times sx (some ⟨p, 0, none⟩) (some ⟨q, 0, none⟩) (⟨#[0, 3, 232, 137, 4, 85, 101, 169, 0, 0, 0, 3, 0, 0, 0]⟩ : ByteArray) sx (Int.ofNat es.length) (⟨#[]⟩ : ByteArray) (Int.ofNat 0) h3 = some (ba (tellsB es), h4) := d1
  rw [d1]
  simp only [Option.bind_some]
  have hle := tellsB_le es E.nm
  have hle2 : es.length * 1048600 ≤ 5 * 1048600 := Nat.mul_le_mul_right _ el
  rw [show (⟨#[0, 3, 232, 137, 4, 85, 101, 169, 0, 0, 0, 3, 0, 0, 0]⟩ : ByteArray) = ⟨Lists.hdB.toArray⟩ from rfl]
  have s33 := Lists.add_ba (tellsB es) Lists.hdB (by show (tellsB es).length + 15 ≤ _; omega)
  rw [show (ba (tellsB es)) = ⟨(tellsB es).toArray⟩ from rfl, s33]
  simp only [Option.bind_some]
  rw [show (⟨#[1, 0, 0, 0, 0]⟩ : ByteArray) = ⟨([1, 0, 0, 0, 0] : List UInt8).toArray⟩ from rfl, Lists.add_ba _ _ (by rw [List.length_append]; show (tellsB es).length + 15 + 5 ≤ _; omega)]
  simp only [Option.bind_some]
  have et : tellsB es ++ Lists.hdB ++ [1, 0, 0, 0, 0] = toldL es := by
    unfold toldL
    rw [List.append_assoc]; rfl
  rw [et, show (⟨(toldL es).toArray⟩ : ByteArray) = ba (toldL es) from rfl]
  rw [show [Value.int .u8 (Int.ofNat 0), Value.int .u8 (Int.ofNat 0), Value.int .u8 (Int.ofNat 0), Value.int .u8 (3 : Int)] = byt [0, 0, 0, 3] from rfl]
  -- the flags, twice
  have P4 := P3.stay c2.wf d2
  have Q4 := c3.stay c2.wf d2
  have R4 : ExR h4 sx es := SlR.stay c2.wf d2 R3
  obtain ⟨z1, z2, z3⟩ := newR_ok d2.wf 5 1 (byt [0, 0, 0, 3])
  obtain ⟨h5, e1, e2, e3⟩ := Lists.feedFlags k hk z1.wf (P4.stay d2.wf z1) (l := sx) (SlR.of_is z3 (n := 4) rfl (by unfold unk; omega))
  rw [e1]
  simp only [Option.bind_some]
  have C5 : Ch (fun b => b = p) h4 h5 := (z1.mono fun _ _ f => f.elim).trans e2 fun _ _ f => f
  have Q5 := Lists.keep2 d2.wf Q4 rfl C5 (Ne.symm hpq) e3
  have R5 : ExR h5 sx es := SlR.keep (fun x hx => C5.keep x (SlR.blk d2.wf R4 hx) (hxp x hx)) R4
  obtain ⟨y1, y2, y3⟩ := newR_ok e2.wf 5 1 (byt [0, 0, 0, 3])
  obtain ⟨h6, f1, f2, f3⟩ := Lists.feedFlags k hk y1.wf (Q5.stay e2.wf y1) (l := sx) (SlR.of_is y3 (n := 4) rfl (by unfold unk; omega))
  rw [f1]
  simp only [Option.bind_some]
  have C6 : Ch (fun b => b = q) h5 h6 := (y1.mono fun _ _ f => f.elim).trans f2 fun _ _ f => f
  have P6 := Lists.keep2 e2.wf e3 rfl C6 hpq f3
  have R6 : ExR h6 sx es := SlR.keep (fun x hx => C6.keep x (SlR.blk e2.wf R5 hx) (hxq x hx)) R5
  -- again and again
  obtain ⟨t, hT⟩ : ∃ T : Nat, times % 4 = Int.ofNat T := ⟨_, nn _ (Int.emod_nonneg times (by decide))⟩
  have t4 : t < 4 := by have := Int.emod_lt_of_pos times (show (0 : Int) < 4 by decide); rw [hT] at this; simp only [Int.ofNat_eq_natCast] at this; omega
  obtain ⟨h7, g1, g2, g3⟩ := Lists.ask_l1 k hk f2.wf R6 E hxp times t hT t4 (some ⟨q, 0, none⟩) k 0 h6 (by omega) (Nat.zero_le _) (Ch.refl f2.wf) P6
  rw [g1]
  simp only [Option.bind_some]
  have Q7 := Lists.keep2 f2.wf f3 rfl g2 (Ne.symm hpq) g3
  have R7 : ExR h7 sx es := SlR.keep (fun x hx => g2.keep x (SlR.blk f2.wf R6 hx) (hxp x hx)) R6
  -- the name
  obtain ⟨h8, i1, i2, i3⟩ := Lists.oneB h7 g2.wf
  rw [i1]
  simp only [Option.bind_some]
  obtain ⟨s9, h9, j1, j2, j3, j4⟩ := option_f k hk i2.wf 1 1 rfl i3 (by decide)
  rw [j1]
  simp only [Option.bind_some]
  have c79 := i2.then j2
  obtain ⟨sa, ta, ha, k1, k2, k3, k4, k5⟩ := Lists.feedS k hk j2.wf (g3.stay g2.wf c79) (SlR.stay g2.wf c79 R7) E hxp j3.slr
  rw [k1]
  simp only [Option.bind_some]
  have C7a : Ch (fun b => b = p) h7 ha := (c79.mono fun _ _ f => f.elim).trans k2 fun _ _ f => f
  have Qa := Lists.keep2 g2.wf Q7 rfl C7a (Ne.symm hpq) k3
  have Ra : ExR ha sx es := SlR.keep (fun x hx => C7a.keep x (SlR.blk g2.wf R7 hx) (hxp x hx)) R7
  obtain ⟨hb, l1, l2, l3⟩ := Lists.oneB ha k2.wf
  rw [l1]
  simp only [Option.bind_some]
  obtain ⟨sc, hc, m1, m2, m3, m4⟩ := option_f k hk l2.wf 1 1 rfl l3 (by decide)
  rw [m1]
  simp only [Option.bind_some]
  have cac := l2.then m2
  obtain ⟨sd, td, hd, n1, n2, n3, n4, n5⟩ := Lists.feedS k hk m2.wf (Qa.stay k2.wf cac) (SlR.stay k2.wf cac Ra) E hxq m3.slr
  rw [n1]
  simp only [Option.bind_some]
  have Cad : Ch (fun b => b = q) ha hd := (cac.mono fun _ _ f => f.elim).trans n2 fun _ _ f => f
  have Pd := Lists.keep2 k2.wf k3 rfl Cad hpq n3
  rw [chosen_f k Pd]
  simp only [Option.bind_some]
  rw [chosen_f k n3]
  simp only [Option.bind_some]
  have q7 : q < h9.next := Nat.lt_of_lt_of_le (Q7.lt g2.wf) c79.le
  have kd : Ow 5 1 hd sa (byt (Pure.about 8 true)) := k4.keep fun x hx => Cad.keep x (k4.lt k2.wf hx) fun f => by have := k5 x hx; omega
  rw [txt_sl kd.slr, txt_sl n4.slr]
  simp only [Option.bind_some]
  rw [ba_eq, decide_eq_true rfl, kd.slr.n_byt]
  simp only [cond_true, Option.bind_some]
  rw [show (Int.ofNat (Pure.about 8 true).length == (10 : Int)) = true from rfl]
  simp only [cond_true, Option.bind_some]
  rw [baeq, decide_eq_true rfl]
  simp only [cond_true, Option.bind_some]
  exact ⟨hd, rfl⟩
theorem Pure.HandLists : ∀ h x vs, Den.WF h → Den.Dead h → Ar.HandLists.R h x vs → Ar.HandLists.Q x → ∃ a, Den.encL [.sl, .int .i64] a = vs ∧ Den.toldB (Fwd.corbellaw23_HandLists.f 2000000 a.1 a.2 h) = true := by
  rintro h ⟨l, times, _⟩ vs w _ ⟨va, vb, rfl, r1, vc, vd, rfl, r2, rfl⟩ ⟨⟨_, _, q1⟩, _⟩
  obtain rfl := r2
  obtain ⟨s, ls, rfl, s1, s2, s3, s4, s5, s6⟩ := RSl.many w (by decide) r1
  have s3 : ls.length = l.length := s3
  have q1 : ∀ x0 ∈ l, _ := q1
  have s1 : s.n = l.length := s1
  obtain ⟨h', g⟩ := Lists.lists_f 2000000 (by decide) w s2 (by rw [s1, s3]) s4 (fun i l' hl => by
    have hi : i < ls.length := by
      rcases Nat.lt_or_ge i ls.length with z | z
      · exact z
      · rw [List.getElem?_eq_none z] at hl; cases hl
    have hx : l[i]? = some (l[i]'(by omega)) := List.getElem?_eq_getElem (by omega)
    have hq := q1 _ (List.getElem_mem (show i < l.length by omega))
    obtain ⟨va, vb, e1, t1, va2, vb2, e2, t2, va3, vb3, e3, t3, va4, vb4, e4, t4, t5⟩ := s5 i _ l' hx hl
    obtain ⟨sb, e5, _⟩ := t4
    refine ⟨(l[i]'(by omega)).1, (l[i]'(by omega)).2.1, (l[i]'(by omega)).2.2.1, sb.v, (l[i]'(by omega)).2.2.2.2.data.toList, ?_, ?_⟩
    · rw [← ba_of, e1, e2, e3, e4, e5, show va = [Value.int .i64 _] from t1, show va2 = [Value.int .i64 _] from t2, show va3 = [Value.int .i64 _] from t3, show vb4 = [Value.string _] from t5]; rfl
    · have := hq.2.2.2.2
      rw [Array.length_toList]; exact this) times
  exact ⟨(s, times), rfl, (congrArg toldB g).trans rfl⟩
end Go.Proofs.Ytlibnmhicnnldaa
