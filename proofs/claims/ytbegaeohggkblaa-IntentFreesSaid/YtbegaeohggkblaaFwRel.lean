/- A ring of intents: full, released, opened. No condition. -/
import Derived.Test.YtbegaeohggkblaaFwLog
namespace Go.Proofs.Ytbegaeohggkblaa.Fw
open Go Den Fwd
set_option linter.unusedVariables false
set_option linter.unusedSimpArgs false
theorem eqptr42 (p : Addr) : binO1 Try.prog .eql 42 (.pointer (some p)) (.pointer none) = some (.bool false) := by
  simp [binO1, binB, binA, Try.underlying42, eqA]
/-- no room -/
theorem logFull_f (k : Nat) (hk : 1000 < k) {h : H} (w : WF h) {rb : Nat} {W : Nat → Prop} {ss : List Sd} {next : Int} (R : RingR h rb W ss next) (c : It) {x : List UInt8} (X : SlR 1 h c.2.2 (byt x)) (hx : x.length = 128) (s0 : 0 ≤ c.1) (s1 : c.1 < 40) (g0 : 1 ≤ c.2.1) (g1 : c.2.1 ≤ 1000) (hno : ∀ q ∈ ss, q.1.1 = true → ¬ (q.1.2.2.1 = c.1 ∧ q.1.2.2.2.1 = c.2.1)) (hall : ∀ q ∈ ss, q.1.1 = true) :
    ∃ h', intent_Ring_Log.f k (some ⟨rb, 0, none⟩) (c.1, c.2.1, c.2.2) h = some (6, h') ∧ Ch0 h h' := by
  unfold intent_Ring_Log.f
  dsimp only
  rw [show [Value.int .i64 c.1, Value.int .i64 c.2.1, Value.slice c.2.2.a c.2.2.n c.2.2.c] = itL c from rfl]
  obtain ⟨y1, y2, y3⟩ := newR_ok w 75 3 (itL c)
  generalize newR h 75 3 (itL c) = h1 at y1 y2 y3 ⊢
  rw [ldaIs (n := 3) y3 rfl, bindIt]
  dsimp only
  obtain ⟨h2, a1, a2⟩ := iright_f k y1.wf c s0 s1 g0 (by omega) (by rw [X.n_byt, hx])
  rw [a1]
  simp only [Option.bind_some, Bool.not_true, cond_false, nilA, asP_ptr, fadd, Nat.zero_add]
  rw [ring_sub]
  simp only [Option.bind_some]
  have c2 := y1.then a2
  have R2 := R.stay c2
  have I2 := y3.stay y1.wf a2
  obtain ⟨h3, b1, b2⟩ := cont_l0 k hk a2.wf R2 I2 (X.stay w c2) hno k 0 h2 (by omega) (by omega) (Ch.refl a2.wf)
  unfold slices_ContainsFunc_intent_slot_intent_slot_intent_Ring_Log_1.f slices_IndexFunc_intent_slot_intent_slot_intent_Ring_Log_1.f
  dsimp only
  rw [show (0 : Int) = Int.ofNat 0 from rfl, b1]
  simp only [Option.bind_some]
  rw [show decide ((-1 : Int) ≥ Int.ofNat 0) = false from rfl]
  simp only [cond_false]
  have c3 := c2.then b2
  obtain ⟨v, h4, d1, d2, d3⟩ := dead_l0 k b2.wf (R.stay c3) k 0 h3 (by omega) (by omega) (Ch.refl b2.wf) (fun j hj f => by omega)
  unfold slices_IndexFunc_intent_slot_intent_slot_intent_Ring_Log_2.f
  dsimp only
  rw [show (0 : Int) = Int.ofNat 0 from rfl, d1]
  rcases d3 with ⟨j, rfl, hj, hdj⟩ | ⟨rfl, _⟩
  · rw [hall _ (List.getElem_mem hj)] at hdj
    cases hdj
  · exact ⟨h4, rfl, c3.then d2⟩
/-! ### the array of slots -/
theorem ring_arr {h : H} {rb : Nat} {W : Nat → Prop} {ss : List Sd} {next : Int} (R : RingR h rb W ss next) : asA (lda 80 h (some ⟨rb, 1, none⟩)) = some (ringG ss).flatten.toArray := by
  obtain ⟨p, M, C, st, r1, _⟩ := R.ex
  have fl := flat_len (ringG_es ss)
  rw [ringG_len, R.len] at fl
  rw [r1.lda (o := 1) (n := 80) (by rw [ringV_len p R.len]; decide)]
  have e1 : (ringV p ss next).drop 1 = (ringG ss).flatten ++ [.int .i64 next] := rfl
  have : ((ringV p ss next).drop 1).take 80 = (ringG ss).flatten := by
    rw [e1, List.take_append_of_le_length (by omega), List.take_of_length_le (by omega)]
  rw [this]; rfl
theorem arr_at (ss : List Sd) (hl : ss.length = 16) {i : Nat} (hi : i < ss.length) : ixg 16 5 (ringG ss).flatten.toArray (Int.ofNat i) = some (.agg (scL ss[i].1).toArray) := by
  have fl := flat_len (ringG_es ss)
  rw [ringG_len, hl] at fl
  have e := flat_at (ringG_es ss) i (by rw [ringG_len]; exact hi)
  rw [show (ringG ss)[i]'(by rw [ringG_len]; exact hi) = scL ss[i].1 by simp only [ringG, List.getElem_map]] at e
  show cond (Nat.blt i 16) (cond (Nat.ble (i * 5 + 5) (ringG ss).flatten.toArray.size) (some (Value.agg ((ringG ss).flatten.toArray.extract (i * 5) (i * 5 + 5)))) none) none = _
  rw [cond_eta _ _ _ (show Nat.blt i 16 = true from Nat.ble_eq_true_of_le (show i + 1 ≤ 16 by omega)), cond_eta _ _ _ (Nat.ble_eq_true_of_le (by rw [List.size_toArray]; omega))]
  have : (ringG ss).flatten.toArray.extract (i * 5) (i * 5 + 5) = (scL ss[i].1).toArray := by
    rw [← e]
    simp
  rw [this]
def zSd : Sd := ((false, 0, 0, 0, ⟨none, 0, 0⟩), [])
theorem RingR.zero {h : H} (w : WF h) {rb : Nat} {W : Nat → Prop} {ss : List Sd} {next : Int} (R : RingR h rb W ss next) {j : Nat} (hj : j < ss.length) : ∃ h', stv 5 h (some ⟨rb, 1 + j * 5, none⟩) (scL zSd.1) = some (undef, h') ∧ Ch W h h' ∧ RingR h' rb W (ss.set j zSd) next := by
  obtain ⟨⟨p, M, C, st, r1, r2, r3, r4, r5, r6, r7, r8, r9, r10⟩, l, d, wr, wl⟩ := R
  obtain ⟨h', a1, a2, a3⟩ := RingR.setSlot w r1 hj zSd
  have ms : ∀ q ∈ ss.set j zSd, q ∈ ss ∨ q = zSd := fun q hq => List.mem_or_eq_of_mem_set hq
  refine ⟨h', a1, a2.mono fun b _ hb => by rw [hb]; exact wr, ⟨p, M, C, st, a3, r2.keep a2 (fun b hb => by rw [hb]; exact ⟨r6, r7⟩), r3, r4, r5, r6, r7, r8, r9, fun q hq b hb => ?_⟩, by rw [List.length_set]; exact l, fun q hq => ?_, wr, fun b hb => Nat.lt_of_lt_of_le (wl b hb) a2.le⟩
  · rcases ms q hq with e | e
    · exact r10 q e b hb
    · rw [e] at hb
      obtain ⟨o, f⟩ := hb
      cases f
  · rcases ms q hq with e | e
    · exact ⟨(d q e).1.keep fun b hb => a2.keep b (wl b (r10 q e b hb).2.2) (r10 q e b hb).2.1, (d q e).2⟩
    · rw [e]; exact ⟨.inl ⟨rfl, .inl rfl⟩, Nat.zero_le _⟩
/-! ### released -/
def hit (s g : Int) (q : Sd) : Bool := q.1.1 && (q.1.2.2.1 == s && q.1.2.2.2.1 == g)
def relS (s g : Int) (q : Sd) : Sd := if hit s g q then zSd else q
theorem relS_step (s g : Int) {ss : List Sd} {i : Nat} (hi : i < ss.length) : (ss.take (i + 1)).map (relS s g) ++ ss.drop (i + 1) = (((ss.take i).map (relS s g) ++ ss.drop i).set i (relS s g ss[i])) := by
  have l : ((ss.take i).map (relS s g)).length = i := by rw [List.length_map, List.length_take]; omega
  rw [List.set_append_right _ _ (by omega), l, Nat.sub_self, List.drop_eq_getElem_cons hi, List.set_cons_zero, List.take_add_one, List.getElem?_eq_getElem hi, List.map_append]
  simp
theorem rel_l0 (k : Nat) {h0 : H} (w0 : WF h0) {rb : Nat} {W : Nat → Prop} {ss : List Sd} {next : Int} (hl : ss.length = 16) (s g : Int) : ∀ n i h cnt, 16 - i < n → i ≤ 16 → Ch W h0 h → RingR h rb W ((ss.take i).map (relS s g) ++ ss.drop i) next → cnt = ((ss.take i).filter (hit s g)).length →
    ∃ h', intent_Ring_Release.l0 k n (some ⟨rb, 0, none⟩) s g (ringG ss).flatten.toArray (Int.ofNat cnt) (Int.ofNat i) h = some (Int.ofNat (ss.filter (hit s g)).length, h') ∧ Ch W h0 h' ∧ RingR h' rb W (ss.map (relS s g)) next
  | 0, i, h, cnt, hn, _, _, _, _ => by omega
  | n + 1, i, h, cnt, hn, hi, c0, R, hc => by
    rw [intent_Ring_Release.l0_succ]
    by_cases e : i < 16
    · rw [decide_eq_true (show Int.ofNat i < (16 : Int) by simp only [Int.ofNat_eq_natCast]; omega), cond_true]
      have il : i < ss.length := by omega
      rw [arr_at ss hl il, bindSc]
      dsimp only
      generalize hq : ss[i] = q
      rw [show [Value.bool q.1.1, Value.int .i64 q.1.2.1, Value.int .i64 q.1.2.2.1, Value.int .i64 q.1.2.2.2.1, Value.slice q.1.2.2.2.2.a q.1.2.2.2.2.n q.1.2.2.2.2.c] = scL q.1 from rfl]
      obtain ⟨h1, b1, b2, b3, b4⟩ := box_ok c0.wf 96 5 [Value.bool false, Value.int .i64 (0 : Int), Value.int .i64 (0 : Int), Value.int .i64 (0 : Int), Value.slice none 0 0] (scL q.1) rfl rfl rfl
      rw [b1]
      simp only [Option.bind_some]
      rw [b4.ldc, show asB ((scL q.1)[0]?) = some q.1.1 from rfl]
      simp only [Option.bind_some]
      have c1 : Ch W h0 h1 := c0.trans b2 fun _ _ f => f.elim
      have R1 := R.stay b2
      have hlen : ((ss.take i).map (relS s g) ++ ss.drop i).length = 16 := R.len
      have g1 : (cond q.1.1 ((asI .i64 (ldc h1 (some ⟨h.next, 2, none⟩))).bind fun n14 => some (n14 == s, h1)) (some (false, h1)) : Option (Bool × H)) = some (q.1.1 && q.1.2.2.1 == s, h1) := by
        cases q.1.1 with
        | false => rfl
        | true => rw [b4.ldc, show asI .i64 ((scL q.1)[2]?) = some q.1.2.2.1 from asI_int _ _]; rfl
      rw [g1]
      simp only [Option.bind_some]
      have g2 : (cond (q.1.1 && q.1.2.2.1 == s) ((asI .i64 (ldc h1 (some ⟨h.next, 3, none⟩))).bind fun n16 => some (n16 == g, h1)) (some (false, h1)) : Option (Bool × H)) = some (hit s g q, h1) := by
        unfold hit
        cases q.1.1 with
        | false => rfl
        | true =>
          rw [Bool.true_and, Bool.true_and]
          cases q.1.2.2.1 == s with
          | false => rfl
          | true => rw [b4.ldc, show asI .i64 ((scL q.1)[3]?) = some q.1.2.2.2.1 from asI_int _ _]; rfl
      rw [g2]
      simp only [Option.bind_some]
      have cn : cnt ≤ 16 := by
        rw [hc]
        have := List.length_filter_le (hit s g) (ss.take i)
        rw [List.length_take] at this
        omega
      have ct : ((ss.take (i + 1)).filter (hit s g)).length = cnt + (if hit s g q then 1 else 0) := by
        rw [List.take_add_one, List.getElem?_eq_getElem il, hq, List.filter_append, List.length_append, ← hc]
        show cnt + (List.filter (hit s g) [q]).length = _
        cases hz : hit s g q with
        | true => rw [List.filter_cons_of_pos hz]; rfl
        | false => rw [List.filter_cons_of_neg (by rw [hz]; decide)]; rfl
      have rs := relS_step s g il
      rw [hq] at rs
      cases hz : hit s g q with
      | true =>
        simp only [cond_true, nilA, asP_ptr, fadd, Nat.zero_add, Option.bind_some]
        rw [ixsG e]
        simp only [asP_ptr, Option.bind_some]
        obtain ⟨h2, d1, d2, d3⟩ := R1.zero b2.wf (j := i) (by omega)
        rw [show [Value.bool false, Value.int .i64 (0 : Int), Value.int .i64 (0 : Int), Value.int .i64 (0 : Int), Value.slice none 0 0] = scL zSd.1 from rfl, d1]
        simp only [Option.bind_some]
        rw [wrap_succ (by omega), wrap_succ (by omega)]
        rw [hz, if_pos rfl] at ct
        refine rel_l0 k w0 hl s g n (i + 1) h2 (cnt + 1) (by omega) (by omega) (c1.trans d2 fun b _ f => f) ?_ ct.symm
        rw [rs, show relS s g q = zSd by unfold relS; rw [hz, if_pos rfl]]
        exact d3
      | false =>
        simp only [cond_false, Option.bind_some]
        rw [wrap_succ (by omega)]
        rw [hz, if_neg (by decide), Nat.add_zero] at ct
        refine rel_l0 k w0 hl s g n (i + 1) h1 cnt (by omega) (by omega) c1 ?_ ct.symm
        have : ((ss.take i).map (relS s g) ++ ss.drop i).set i q = (ss.take i).map (relS s g) ++ ss.drop i := by
          have l : ((ss.take i).map (relS s g)).length = i := by rw [List.length_map, List.length_take]; omega
          rw [List.set_append_right _ _ (by omega), l, Nat.sub_self, List.drop_eq_getElem_cons il, hq, List.set_cons_zero]
        rw [rs, show relS s g q = q by unfold relS; rw [hz, if_neg (by decide)], this]
        exact R1
    · rw [decide_eq_false (show ¬ Int.ofNat i < (16 : Int) by simp only [Int.ofNat_eq_natCast]; omega), cond_false]
      rw [List.take_of_length_le (by omega)] at hc
      rw [List.take_of_length_le (by omega), List.drop_eq_nil_of_le (by omega), List.append_nil] at R
      rw [hc]
      exact ⟨h, rfl, c0, R⟩
theorem rel_f (k : Nat) (hk : 1000 < k) {h : H} (w : WF h) {rb : Nat} {W : Nat → Prop} {ss : List Sd} {next : Int} (R : RingR h rb W ss next) (s g : Int) :
    ∃ h', intent_Ring_Release.f k (some ⟨rb, 0, none⟩) s g h = some (Int.ofNat (ss.filter (hit s g)).length, h') ∧ Ch W h h' ∧ RingR h' rb W (ss.map (relS s g)) next := by
  unfold intent_Ring_Release.f
  simp only [nilA, asP_ptr, fadd, Nat.zero_add, Option.bind_some]
  rw [ring_arr R]
  simp only [Option.bind_some]
  obtain ⟨h', a1, a2, a3⟩ := rel_l0 k w (W := W) R.len s g k 0 h 0 (by omega) (by omega) (Ch.refl w) (by rw [List.take_zero, List.drop_zero]; exact R) rfl
  rw [show (0 : Int) = Int.ofNat 0 from rfl, a1]
  exact ⟨h', rfl, a2, a3⟩
/-! ### a new ring -/
def sm : Nat → Int → Int
  | 0, a => a
  | n + 1, a => sm n ((wrapA .i64 ((wrapA .i64 ((wrapA .i64 (a * (31 : Int))) + (wrapA .i64 ((wrapA .i64 (Int.ofNat (0 : UInt8).toNat)) * (wrapA .i64 (Int.ofNat (0 : UInt8).toNat)))))) + (7 : Int))).tmod (4294967291 : Int))
theorem sm_ne : sm 156 1 ≠ 0 := by decide +kernel
theorem zsum_l0 (k : Nat) {h : H} {s : Sl} (r : SlR 1 h s (byt (List.replicate 156 0))) : ∀ n j acc, 156 - j < n → j ≤ 156 → mark_Sum.l0 k n s (Int.ofNat 156) acc (Int.ofNat j) h = some (sm (156 - j) acc, h)
  | 0, j, acc, hn, _ => by omega
  | n + 1, j, acc, hn, hj => by
    rw [mark_Sum.l0_succ]
    by_cases c : j < 156
    · rw [decLt c, cond_true]
      obtain ⟨p, e1, e2⟩ := r.byte (c := 0) (j := j) (by rw [List.getElem?_replicate, if_pos c])
      rw [e1]
      simp only [asP_ptr, Option.bind_some, e2, asI_int]
      rw [wrap_succ (by omega), zsum_l0 k r n (j + 1) _ (by omega) (by omega), show 156 - j = (156 - (j + 1)) + 1 by omega]; rfl
    · rw [decNlt c, cond_false, show 156 - j = 0 by omega]; rfl
theorem zopen_f (k : Nat) (hk : 1000 < k) {h : H} {s : Sl} (r : SlR 1 h s (byt zeros160)) : mark_Open.f k s h = some ((0, ⟨none, 0, 0⟩, 3), h) := by
  unfold mark_Open.f
  have hn : s.n = 160 := by rw [r.n_byt]; rfl
  rw [show (Int.ofNat s.n != (160 : Int)) = false by rw [hn]; rfl, cond_false]
  have Z : ∀ j : Nat, j < 160 → ∃ p, ixs 1 s.a s.n (Int.ofNat j) = some (.pointer p) ∧ ldc h p = some (.int .u8 (Int.ofNat (0 : UInt8).toNat)) := fun j hj => r.byte (c := 0) (by unfold zeros160; rw [List.getElem?_replicate, if_pos hj])
  obtain ⟨p1, a1, a2⟩ := Z 156 (by decide)
  obtain ⟨p2, b1, b2⟩ := Z 157 (by decide)
  obtain ⟨p3, c1, c2⟩ := Z 158 (by decide)
  obtain ⟨p4, d1, d2⟩ := Z 159 (by decide)
  rw [show wrapA .i64 ((156 : Int) + 1) = Int.ofNat 157 from rfl, show wrapA .i64 ((156 : Int) + 2) = Int.ofNat 158 from rfl, show wrapA .i64 ((156 : Int) + 3) = Int.ofNat 159 from rfl, show (156 : Int) = Int.ofNat 156 from rfl, a1, b1, c1, d1]
  simp only [asP_ptr, Option.bind_some, a2, b2, c2, d2, asI_int]
  rw [show asI .i64 (intA .or .i64 (wrapA .i64 ((wrapA .i64 (Int.ofNat (0 : UInt8).toNat)) * 2 ^ 24)) (wrapA .i64 ((wrapA .i64 (Int.ofNat (0 : UInt8).toNat)) * 2 ^ 16))) = some (0 : Int) by decide +kernel]
  simp only [Option.bind_some]
  rw [show asI .i64 (intA .or .i64 (0 : Int) (wrapA .i64 ((wrapA .i64 (Int.ofNat (0 : UInt8).toNat)) * 2 ^ 8))) = some (0 : Int) by decide +kernel]
  simp only [Option.bind_some]
  rw [show asI .i64 (intA .or .i64 (0 : Int) (wrapA .i64 (Int.ofNat (0 : UInt8).toNat))) = some (0 : Int) by decide +kernel]
  simp only [Option.bind_some]
  obtain ⟨s', e1, e2, e3, e4⟩ := subb_ok r (lo := 0) (hi := 156) (by decide) (by show 156 ≤ (List.replicate 160 (0 : UInt8)).length; rw [List.length_replicate]; omega) (xlo := none) (xhi := some (Int.ofNat 156)) rfl rfl
  rw [e1]
  simp only [asS_slv, Option.bind_some]
  have r3 : SlR 1 h s' (byt (List.replicate 156 0)) := e3
  unfold mark_Sum.f
  have hs := zsum_l0 k r3 k 0 1 (by omega) (by omega)
  rw [r3.n_byt, List.length_replicate, show (0 : Int) = Int.ofNat 0 from rfl, hs]
  simp only [Option.bind_some]
  rw [show (sm (156 - 0) 1 != Int.ofNat 0) = true by rw [bne_iff_ne]; exact sm_ne]; rfl
theorem zread_f (k : Nat) (hk : 1000 < k) {h : H} (w : WF h) {s : Sl} (r : SlR 1 h s (byt zeros160)) : ∃ h', intent_read.f k s h = some ((false, 0, 0, 0, ⟨none, 0, 0⟩), h') ∧ Ch0 h h' := by
  unfold intent_read.f
  rw [show [Value.bool false, Value.int .i64 (0 : Int), Value.int .i64 (0 : Int), Value.int .i64 (0 : Int), Value.slice none 0 0] = scL zSd.1 from rfl]
  obtain ⟨y1, y2, y3⟩ := newR_ok w 96 5 (scL zSd.1)
  generalize newR h 96 5 (scL zSd.1) = g at y1 y2 y3 ⊢
  rw [zopen_f k hk (r.stay w y1)]
  simp only [Option.bind_some]
  rw [show ((3 : Int) != 0) = true from rfl]
  simp only [cond_true, Option.bind_some]
  obtain ⟨h', u1, u2, u3, u4⟩ := Is.whole y1.wf y3 rfl (scL zSd.1) rfl rfl
  rw [u1]
  simp only [Option.bind_some]
  rw [ldaIs (n := 5) u4 rfl, bindSc]
  exact ⟨h', rfl, Ch0.at y1 u2 (Nat.le_refl _)⟩
theorem iopen_l0 (k : Nat) (hk : 1000 < k) {h0 : H} (w0 : WF h0) {rb p : Nat} {M C : Nat → Prop} {st : Plat} (P : PlatR h0 p M C st) (hst : st.now = List.replicate 96 zeros160) (hrb : h0.next ≤ rb) : ∀ n i h, 16 - i < n → i ≤ 16 → Ch0 h0 h → Is h rb 99 82 (ringV p (List.replicate 16 zSd) 1) →
    ∃ h', intent_Open.l0 k n (some ⟨p, 0, none⟩) (some ⟨rb, 0, none⟩) (Int.ofNat i) h = some ((), h') ∧ Ch0 h0 h' ∧ Is h' rb 99 82 (ringV p (List.replicate 16 zSd) 1)
  | 0, i, h, hn, _, _, _ => by omega
  | n + 1, i, h, hn, hi, c0, I => by
    rw [intent_Open.l0_succ]
    by_cases e : i < 16
    · rw [decide_eq_true (show Int.ofNat i < (16 : Int) by simp only [Int.ofNat_eq_natCast]; omega), cond_true]
      unfold intent_block.f
      rw [wrap_in (n := (80 : Int) + Int.ofNat i) (by simp only [Int.ofNat_eq_natCast]; omega) (by simp only [Int.ofNat_eq_natCast]; omega), show (80 : Int) + Int.ofNat i = Int.ofNat (80 + i) from rfl]
      simp only [Option.bind_some]
      obtain ⟨s', h1, a1, a2, a3, a4, a5⟩ := read_f k c0.wf (P.keep c0 (fun b f => f.elim)) (i := 80 + i) (x := zeros160) (by rw [hst, List.getElem?_replicate, if_pos (by omega)]) (by show (List.replicate 160 (0 : UInt8)).length ≤ _; rw [List.length_replicate]; omega)
      rw [a1]
      simp only [Option.bind_some]
      obtain ⟨h2, b1, b2⟩ := zread_f k hk a2.wf a3.slr
      rw [b1]
      simp only [Option.bind_some, nilA, asP_ptr, fadd, Nat.zero_add]
      rw [ixsG e]
      simp only [asP_ptr, Option.bind_some]
      have I2 := (I.stay c0.wf a2).stay a2.wf b2
      obtain ⟨h3, d1, d2, d3⟩ := RingR.setSlot b2.wf I2 (j := i) (by rw [List.length_replicate]; exact e) zSd
      have hz : (List.replicate 16 zSd).set i zSd = List.replicate 16 zSd := by
        apply List.ext_getElem?
        intro j
        rw [List.getElem?_set]
        by_cases q : i = j
        · subst q
          rw [if_pos rfl, List.length_replicate, if_pos e, List.getElem?_replicate, if_pos e]
        · rw [if_neg q]
      rw [hz] at d3
      rw [show [Value.bool false, Value.int .i64 (0 : Int), Value.int .i64 (0 : Int), Value.int .i64 (0 : Int), Value.slice none 0 0] = scL zSd.1 from rfl, d1]
      simp only [Option.bind_some]
      rw [d3.ldc, ringV_next p (by rw [List.length_replicate]), asI_int]
      simp only [Option.bind_some]
      have hsl : ldc h3 (some ⟨rb, 1 + i * 5 + 1, none⟩) = some (.int .i64 0) := by
        have g1 := (Is.grp (pre := [.pointer (some ⟨p, 0, none⟩)]) (post := [.int .i64 1]) d3 (ringG_es _) (i := i) (by rw [ringG_len, List.length_replicate]; exact e)).1
        have g2 := gets_cell g1 (i := 1) (by decide)
        show h3.cell rb (1 + i * 5 + 1) = _
        have g2 : h3.cell rb (1 + i * 5 + 1) = _ := g2
        rw [g2]
        simp only [ringG, List.getElem_map, List.getElem_replicate]; rfl
      rw [hsl, asI_int]
      simp only [Option.bind_some]
      rw [show cond (decide (wrapA .i64 ((0 : Int) + 1) > (1 : Int))) (wrapA .i64 ((0 : Int) + 1)) (1 : Int) = (1 : Int) from rfl]
      obtain ⟨h4, e1, e2, e3⟩ := RingR.setNext d2.wf d3 (by rw [List.length_replicate]) 1
      rw [e1]
      simp only [Option.bind_some]
      rw [wrap_succ (by omega)]
      exact iopen_l0 k hk w0 P hst hrb n (i + 1) h4 (by omega) (by omega) (Ch0.at (Ch0.at ((c0.then a2).then b2) d2 hrb) e2 hrb) e3
    · rw [decide_eq_false (show ¬ Int.ofNat i < (16 : Int) by simp only [Int.ofNat_eq_natCast]; omega), cond_false]
      exact ⟨h, rfl, c0, I⟩
/-- a ring on a new platter -/
theorem iopen_f (k : Nat) (hk : 1000 < k) {h : H} (w : WF h) {p : Nat} {M C : Nat → Prop} (P : PlatR h p M C ⟨List.replicate 96 zeros160, List.replicate 96 zeros160, [], 0⟩) :
    ∃ rb W h', intent_Open.f k (some ⟨p, 0, none⟩) h = some ((some ⟨rb, 0, none⟩, 0), h') ∧ Ch0 h h' ∧ RingR h' rb W (List.replicate 16 zSd) 1 ∧ ∀ b, W b → M b ∨ C b ∨ h.next ≤ b := by
  unfold intent_Open.f
  rw [eqptr42, show asB (some (Value.bool false)) = some false from rfl]
  simp only [Option.bind_some, cond_false]
  obtain ⟨sD, sN, sQ, lD, lN, lQ, r1, r2, r3, r4, r5, r6, r7, r8, _⟩ := P.ex
  have hb : platter_Platter_Blocks.f k (some ⟨p, 0, none⟩) h = some (96, h) := by
    unfold platter_Platter_Blocks.f
    simp only [nilA, asP_ptr, fadd, Nat.zero_add, Option.bind_some]
    rw [r1.ldc]
    simp only [List.getElem?_cons_succ, List.getElem?_cons_zero, asS_slv, Option.bind_some]
    have := r3.slr.len
    rw [r6.1, List.length_replicate, Nat.mul_one] at this
    rw [← this]; rfl
  rw [hb]
  simp only [Option.bind_some]
  rw [show ((96 : Int) != 96) = false from rfl]
  simp only [cond_false]
  have e : ∀ l : List Value, l = ringV p (List.replicate 16 zSd) 1 → ∃ rb W h', ((intent_Open.l0 k k (some ⟨p, 0, none⟩) (some ⟨h.next, 0, none⟩) (0 : Int) (newR h 99 82 l)).bind fun w26 => some (((some ⟨h.next, 0, none⟩ : Option Addr), (0 : Int)), w26.2)) = some ((some ⟨rb, 0, none⟩, 0), h') ∧ Ch0 h h' ∧ RingR h' rb W (List.replicate 16 zSd) 1 ∧ ∀ b, W b → M b ∨ C b ∨ h.next ≤ b := by
    rintro l rfl
    obtain ⟨y1, y2, y3⟩ := newR_ok w 99 82 (ringV p (List.replicate 16 zSd) 1)
    generalize newR h 99 82 (ringV p (List.replicate 16 zSd) 1) = g at y1 y2 y3 ⊢
    obtain ⟨h', a1, a2, a3⟩ := iopen_l0 k hk w P rfl (Nat.le_refl _) k 0 g (by omega) (by omega) y1 y3
    rw [show (0 : Int) = Int.ofNat 0 from rfl, a1]
    have hlt := a3.lt a2.wf
    have l2 := a2.le
    refine ⟨h.next, fun b => M b ∨ C b ∨ b = h.next, h', rfl, a2, ⟨⟨p, M, C, _, a3, P.keep a2 (fun b f => f.elim), by rw [List.length_replicate], rfl, rfl, fun f => by have := P.mlt _ f; omega, fun f => by have := P.clt _ f; omega, fun b f => .inl f, fun b f => .inr (.inl f), fun q hq b hb => ?_⟩, List.length_replicate, fun q hq => ?_, .inr (.inr rfl), fun b hb => ?_⟩, fun b hb => hb.imp id fun f => f.imp id fun f => by omega⟩
    · rw [List.eq_of_mem_replicate hq] at hb
      obtain ⟨o, f⟩ := hb
      cases f
    · rw [List.eq_of_mem_replicate hq]
      exact ⟨.inl ⟨rfl, .inl rfl⟩, Nat.zero_le _⟩
    · rcases hb with f | f | f
      · have := P.mlt b f; omega
      · have := P.clt b f; omega
      · omega
  exact e _ rfl
end Go.Proofs.Ytbegaeohggkblaa.Fw
