/- A ring of intents: its cells, what is asked of them. No condition. -/
import Derived.Test.YtbegaeohggkblaaFwGrp
namespace Go.Proofs.Ytbegaeohggkblaa.Fw
open Go Den Fwd
set_option linter.unusedVariables false
set_option linter.unusedSimpArgs false
abbrev Sc := Bool × Int × Int × Int × Sl
abbrev Sd := Sc × List UInt8
abbrev It := Int × Int × Sl
def scL (c : Sc) : List Value := [.bool c.1, .int .i64 c.2.1, .int .i64 c.2.2.1, .int .i64 c.2.2.2.1, slv c.2.2.2.2]
def itL (c : It) : List Value := [.int .i64 c.1, .int .i64 c.2.1, slv c.2.2]
theorem bindSc {β : Type} (c : Sc) (f : FT [.bool, .int .i64, .int .i64, .int .i64, .sl] → Option β) : (asSt [.bool, (.int .i64), (.int .i64), (.int .i64), .sl] (some (Value.agg (scL c).toArray))).bind f = f (show FT [.bool, .int .i64, .int .i64, .int .i64, .sl] from c) := rfl
theorem bindIt {β : Type} (c : It) (f : FT [.int .i64, .int .i64, .sl] → Option β) : (asSt [(.int .i64), (.int .i64), .sl] (some (Value.agg (itL c).toArray))).bind f = f (show FT [.int .i64, .int .i64, .sl] from c) := rfl
theorem ldaIs {h : H} {b e es n : Nat} {l : List Value} (I : Is h b e es l) (hl : l.length = n) : lda n h (some ⟨b, 0, none⟩) = some (.agg l.toArray) := by
  rw [I.lda (o := 0) (n := n) (by omega), List.drop_zero, List.take_of_length_le (by omega)]
theorem ixsG {b o m es j : Nat} (h : j < m) : ixs es (some ⟨b, o, none⟩) m (Int.ofNat j) = some (.pointer (some ⟨b, o + j * es, none⟩)) := by
  exact cond_eta _ _ _ (Nat.ble_eq_true_of_le (show j + 1 ≤ m by omega))
/-! ### the same intents; right ones -/
theorem isame_f (k : Nat) {h : H} (w : WF h) (a b : It) {x y : List UInt8} (A : SlR 1 h a.2.2 (byt x)) (B : SlR 1 h b.2.2 (byt y)) (hx : x.length < k) (hx2 : x.length < 9223372036854775807) :
    ∃ h', intent_Same.f k (a.1, a.2.1, a.2.2) (b.1, b.2.1, b.2.2) h = some (decide (a.1 = b.1 ∧ a.2.1 = b.2.1 ∧ x = y), h') ∧ Ch0 h h' := by
  unfold intent_Same.f
  dsimp only
  rw [show [Value.int .i64 a.1, Value.int .i64 a.2.1, Value.slice a.2.2.a a.2.2.n a.2.2.c] = itL a from rfl, show [Value.int .i64 b.1, Value.int .i64 b.2.1, Value.slice b.2.2.a b.2.2.n b.2.2.c] = itL b from rfl]
  obtain ⟨y1, y2, y3⟩ := newR_ok w 75 3 (itL a)
  generalize newR h 75 3 (itL a) = g at y1 y2 y3 ⊢
  obtain ⟨z1, z2, z3⟩ := newR_ok y1.wf 75 3 (itL b)
  generalize newR g 75 3 (itL b) = g' at z1 z2 z3 ⊢
  have c := y1.then z1
  have Y := y3.stay y1.wf z1
  rw [Y.ldc, z3.ldc]
  simp only [itL, List.getElem?_cons_zero, asI_int, Option.bind_some]
  refine ⟨g', ?_, c⟩
  by_cases e1 : a.1 = b.1
  · rw [show (a.1 == b.1) = true by rw [e1]; simp]
    simp only [cond_true, Y.ldc, z3.ldc, itL, List.getElem?_cons_succ, List.getElem?_cons_zero, asI_int, Option.bind_some]
    by_cases e2 : a.2.1 = b.2.1
    · rw [show (a.2.1 == b.2.1) = true by rw [e2]; simp]
      simp only [cond_true, Y.ldc, z3.ldc, itL, List.getElem?_cons_succ, List.getElem?_cons_zero, asS_slv, Option.bind_some]
      rw [equal_f k (A.stay w c) (B.stay w c) hx hx2]
      simp only [Option.bind_some]
      rw [show decide (a.1 = b.1 ∧ a.2.1 = b.2.1 ∧ x = y) = decide (x = y) from decide_eq_decide.2 ⟨fun f => f.2.2, fun f => ⟨e1, e2, f⟩⟩]
    · rw [show (a.2.1 == b.2.1) = false by rw [beq_eq_false_iff_ne]; exact e2]
      simp only [cond_false, Option.bind_some]
      rw [decide_eq_false (fun f => e2 f.2.1)]
  · rw [show (a.1 == b.1) = false by rw [beq_eq_false_iff_ne]; exact e1]
    simp only [cond_false, Option.bind_some]
    rw [decide_eq_false (fun f => e1 f.1)]
theorem iright_f (k : Nat) {h : H} (w : WF h) (a : It) (h1 : 0 ≤ a.1) (h2 : a.1 < 40) (h3 : 1 ≤ a.2.1) (h4 : a.2.1 ≤ 1099511627776) (h5 : a.2.2.n = 128) :
    ∃ h', intent_Right.f k (a.1, a.2.1, a.2.2) h = some (true, h') ∧ Ch0 h h' := by
  unfold intent_Right.f
  dsimp only
  rw [show [Value.int .i64 a.1, Value.int .i64 a.2.1, Value.slice a.2.2.a a.2.2.n a.2.2.c] = itL a from rfl]
  obtain ⟨y1, y2, y3⟩ := newR_ok w 75 3 (itL a)
  generalize newR h 75 3 (itL a) = g at y1 y2 y3 ⊢
  refine ⟨g, ?_, y1⟩
  simp only [y3.ldc, itL, List.getElem?_cons_zero, List.getElem?_cons_succ, asI_int, Option.bind_some]
  rw [decide_eq_true (show a.1 ≥ 0 from h1)]
  simp only [cond_true, Option.bind_some]
  rw [decide_eq_true h2]
  simp only [cond_true, Option.bind_some, y3.ldc, itL, List.getElem?_cons_succ, List.getElem?_cons_zero, asI_int]
  rw [decide_eq_true (show a.2.1 ≥ 1 from h3)]
  simp only [cond_true, Option.bind_some]
  rw [decide_eq_true h4]
  simp only [cond_true, Option.bind_some, y3.ldc, itL, List.getElem?_cons_succ, List.getElem?_cons_zero, asS_slv]
  rw [h5]; rfl
/-! ### a block is sealed -/
theorem isum_l0 (k : Nat) {h : H} {s : Sl} {x : List UInt8} (r : SlR 1 h s (byt x)) (hx : x.length ≤ 1000) : ∀ n j acc, x.length - j < n → j ≤ x.length → ∃ v, mark_Sum.l0 k n s (Int.ofNat x.length) acc (Int.ofNat j) h = some (v, h)
  | 0, j, acc, hn, _ => by omega
  | n + 1, j, acc, hn, hj => by
    rw [mark_Sum.l0_succ]
    by_cases c : j < x.length
    · rw [decLt c, cond_true]
      obtain ⟨p, e1, e2⟩ := r.byte (List.getElem?_eq_getElem c)
      rw [e1]
      simp only [asP_ptr, Option.bind_some, e2, asI_int]
      rw [wrap_succ (by omega)]
      exact isum_l0 k r hx n (j + 1) _ (by omega) (by omega)
    · rw [decNlt c, cond_false]
      exact ⟨acc, rfl⟩
theorem isum_f (k : Nat) (hk : 1000 < k) {h : H} {s : Sl} {x : List UInt8} (r : SlR 1 h s (byt x)) (hx : x.length ≤ 900) : ∃ v, mark_Sum.f k s h = some (v, h) := by
  unfold mark_Sum.f
  obtain ⟨v, e⟩ := isum_l0 k r (by omega) k 0 1 (by omega) (Nat.zero_le _)
  rw [r.n_byt, show (0 : Int) = Int.ofNat 0 from rfl, e]
  exact ⟨v, rfl⟩
theorem iseal_f (k : Nat) (hk : 1000 < k) {h : H} (w : WF h) {s : Sl} {x : List UInt8} (r : SlR 1 h s (byt x)) (hx : x.length = 141) :
    ∃ s' x' h', mark_Seal.f k (2 : Int) s h = some ((s', 0), h') ∧ Ch0 h h' ∧ SlR 1 h' s' (byt x') ∧ x'.length = 160 := by
  unfold mark_Seal.f
  rw [show decide ((2 : Int) < 1) = false from rfl, cond_false, show decide ((2 : Int) > 255) = false from rfl]
  simp only [Option.bind_some, cond_false]
  have hn := r.n_byt
  rw [hx] at hn
  have hnI : Int.ofNat s.n = Int.ofNat 141 := by rw [hn]
  rw [hnI, show decide (Int.ofNat 141 > (153 : Int)) = false from rfl]
  simp only [cond_false]
  obtain ⟨z1, z2, z3⟩ := newZ_ok w 5 1 (.int .u8 (0 : Int)) 156
  rw [byt_rep, Nat.mul_one] at z3
  generalize newZ h 5 1 [Value.int .u8 (0 : Int)] 156 = g at z1 z2 z3 ⊢
  have hb : h.next ≤ h.next := Nat.le_refl _
  rw [show ixs 1 (some ⟨h.next, 0, none⟩) 156 (0 : Int) = some (.pointer (some ⟨h.next, 0, none⟩)) from rfl]
  simp only [asP_ptr, Option.bind_some]
  rw [wrap_u8]
  obtain ⟨g1, a1, a2, a3, a4⟩ := cell_set z1.wf z3 (j := 0) (by rw [List.length_replicate]; decide) (u8 2)
  rw [a1]
  simp only [Option.bind_some]
  rw [show ixs 1 (some ⟨h.next, 0, none⟩) 156 (1 : Int) = some (.pointer (some ⟨h.next, 1, none⟩)) from rfl]
  simp only [asP_ptr, Option.bind_some]
  rw [wrap_u8]
  obtain ⟨g2, b1, b2, b3, b4⟩ := cell_set a2.wf a4 (j := 1) (by rw [List.length_set, List.length_replicate]; decide) (u8 ((Int.ofNat 141).fdiv (2 ^ 8)))
  rw [b1]
  simp only [Option.bind_some]
  rw [show ixs 1 (some ⟨h.next, 0, none⟩) 156 (2 : Int) = some (.pointer (some ⟨h.next, 2, none⟩)) from rfl]
  simp only [asP_ptr, Option.bind_some]
  rw [wrap_u8]
  obtain ⟨g3, d1, d2, d3, d4⟩ := cell_set b2.wf b4 (j := 2) (by rw [List.length_set, List.length_set, List.length_replicate]; decide) (u8 (Int.ofNat 141))
  rw [d1]
  simp only [Option.bind_some]
  have c3 : Ch0 h g3 := Ch0.at (Ch0.at (Ch0.at z1 a2 hb) b2 hb) d2 hb
  have l3 : ((((List.replicate 156 (0 : UInt8)).set 0 (u8 2)).set 1 (u8 ((Int.ofNat 141).fdiv (2 ^ 8)))).set 2 (u8 (Int.ofNat 141))).length = 156 := by
    rw [List.length_set, List.length_set, List.length_set, List.length_replicate]
  generalize ((((List.replicate 156 (0 : UInt8)).set 0 (u8 2)).set 1 (u8 ((Int.ofNat 141).fdiv (2 ^ 8)))).set 2 (u8 (Int.ofNat 141))) = y at d4 l3
  rw [show asS (subs 1 (Value.slice (some ⟨h.next, 0, none⟩) 156 156) (some (3 : Int)) none) = some (⟨some ⟨h.next, 3, none⟩, 153, 153⟩ : Sl) from rfl]
  simp only [Option.bind_some]
  obtain ⟨g4, e1, e2, e3, e4⟩ := cpy_ok (l := []) d2.wf (es := 1) (d := ⟨some ⟨h.next, 3, none⟩, 153, 153⟩) rfl d4 (by rw [byt_len, l3]; show 3 + 153 * 1 ≤ 156; omega) (r.stay w c3) (byt_one _)
  rw [e1]
  simp only [asI2, asI_int, Option.bind_some]
  have e4 : Is g4 h.next 5 1 (over (byt y) 3 ((byt x).take (min s.n 153 * 1))) := e4
  rw [hn, show min 141 153 * 1 = 141 from rfl, byt_take, List.take_of_length_le (by omega), over_byt] at e4
  have l4 : (ovb y 3 x).length = 156 := by rw [ovb_len (by omega)]; exact l3
  have c4 : Ch0 h g4 := Ch0.at c3 e2 hb
  have S4 : SlR 1 g4 ⟨some ⟨h.next, 0, none⟩, 156, 156⟩ (byt (ovb y 3 x)) := SlR.of_is e4 (n := 156) (by rw [byt_len, l4]) (by unfold unk; omega)
  obtain ⟨v, f1⟩ := isum_f k hk S4 (by omega)
  rw [f1]
  simp only [Option.bind_some]
  rw [wrap_u8, wrap_u8, wrap_u8, wrap_u8]
  have O4 : Ow 5 1 g4 ⟨some ⟨h.next, 0, none⟩, 156, 156⟩ (byt (ovb y 3 x)) := Ow.of_is e4 (by rw [byt_len, l4]) (by unfold unk; omega)
  rw [show [Value.int .u8 (Int.ofNat (u8 (v.fdiv (2 ^ 24))).toNat), Value.int .u8 (Int.ofNat (u8 (v.fdiv (2 ^ 16))).toNat), Value.int .u8 (Int.ofNat (u8 (v.fdiv (2 ^ 8))).toNat), Value.int .u8 (Int.ofNat (u8 v).toNat)] = byt [u8 (v.fdiv (2 ^ 24)), u8 (v.fdiv (2 ^ 16)), u8 (v.fdiv (2 ^ 8)), u8 v] from rfl]
  obtain ⟨y1, y2, y3⟩ := newR_ok e2.wf 5 1 (byt [u8 (v.fdiv (2 ^ 24)), u8 (v.fdiv (2 ^ 16)), u8 (v.fdiv (2 ^ 8)), u8 v])
  obtain ⟨s5, g5, i1, i2, i3, i4⟩ := app_b y1.wf (O4.stay e2.wf y1) (SlR.of_is y3 (n := 4) rfl (by unfold unk; omega)) (by rw [l4]; show 156 + 4 ≤ _; omega)
  rw [i1]
  have c5 := c4.then y1
  exact ⟨s5, _, g5, rfl, Ch0.own c5 i2 (fun b hb' => by obtain ⟨o, q⟩ := hb'; have : h.next = b := congrArg Addr.block (Option.some.inj q); omega), i3.slr, by rw [List.length_append, l4]; rfl⟩
/-! ### the ring -/
def ringG (ss : List Sd) : List (List Value) := ss.map fun q => scL q.1
def ringV (p : Nat) (ss : List Sd) (next : Int) : List Value := [.pointer (some ⟨p, 0, none⟩)] ++ (ringG ss).flatten ++ [.int .i64 next]
theorem ringG_es (ss : List Sd) : ∀ g ∈ ringG ss, g.length = 5 := fun g hg => by
  obtain ⟨q, _, rfl⟩ := List.mem_map.1 hg
  rfl
theorem ringG_len (ss : List Sd) : (ringG ss).length = ss.length := List.length_map _
structure RingR (h : H) (rb : Nat) (W : Nat → Prop) (ss : List Sd) (next : Int) : Prop where
  ex : ∃ p M C st, Is h rb 99 82 (ringV p ss next) ∧ PlatR h p M C st ∧ st.now.length = 96 ∧ (st.pend.length : Int) + 1 = next ∧ st.writes + 1 = next ∧ ¬ M rb ∧ ¬ C rb ∧ (∀ b, M b → W b) ∧ (∀ b, C b → W b) ∧ ∀ q ∈ ss, ∀ b, SlB q.1.2.2.2.2 b → ¬ M b ∧ b ≠ rb ∧ W b
  len : ss.length = 16
  dat : ∀ q ∈ ss, SlR 1 h q.1.2.2.2.2 (byt q.2) ∧ q.2.length ≤ 128
  wrb : W rb
  wlt : ∀ b, W b → b < h.next
theorem RingR.keep {h h' : H} {rb : Nat} {W : Nat → Prop} {ss : List Sd} {next : Int} (R : RingR h rb W ss next) {G : Nat → Prop} (c : Ch G h h') (hG : ∀ b, G b → ¬ W b) : RingR h' rb W ss next := by
  obtain ⟨⟨p, M, C, st, r1, r2, r3, r4, r5, r6, r7, r8, r9, r10⟩, l, d, wr, wl⟩ := R
  refine ⟨⟨p, M, C, st, r1.keep (c.keep rb (wl rb wr) fun f => hG rb f wr), r2.keep c (fun b hb => ⟨fun f => hG b hb (r8 b f), fun f => hG b hb (r9 b f)⟩), r3, r4, r5, r6, r7, r8, r9, r10⟩, l, fun q hq => ⟨(d q hq).1.keep fun b hb => c.keep b (wl b (r10 q hq b hb).2.2) fun f => hG b f (r10 q hq b hb).2.2, (d q hq).2⟩, wr, fun b hb => Nat.lt_of_lt_of_le (wl b hb) c.le⟩
theorem RingR.stay {h h' : H} {rb : Nat} {W : Nat → Prop} {ss : List Sd} {next : Int} (R : RingR h rb W ss next) (c : Ch0 h h') : RingR h' rb W ss next := R.keep c fun b f => f.elim
theorem RingR.at {h : H} {rb : Nat} {W : Nat → Prop} {ss : List Sd} {next : Int} (R : RingR h rb W ss next) {i : Nat} (hi : i < ss.length) : lda 5 h (some ⟨rb, 1 + i * 5, none⟩) = some (.agg (scL ss[i].1).toArray) := by
  obtain ⟨p, M, C, st, r1, _⟩ := R.ex
  have := (Is.grp (pre := [.pointer (some ⟨p, 0, none⟩)]) (post := [.int .i64 next]) r1 (ringG_es ss) (i := i) (by rw [ringG_len]; exact hi)).2
  rw [show ([.pointer (some ⟨p, 0, none⟩)] : List Value).length = 1 from rfl] at this
  rw [this]
  simp only [ringG, List.getElem_map]
theorem ringV_next (p : Nat) {ss : List Sd} (hl : ss.length = 16) (next : Int) : (ringV p ss next)[81]? = some (.int .i64 next) := by
  unfold ringV
  have fl := flat_len (ringG_es ss)
  rw [ringG_len, hl] at fl
  rw [List.getElem?_append_right (by rw [List.length_append, fl]; show 1 + 16 * 5 ≤ 81; omega), List.length_append, fl]; rfl
theorem ringV_len (p : Nat) {ss : List Sd} (hl : ss.length = 16) (next : Int) : (ringV p ss next).length = 82 := by
  unfold ringV
  have fl := flat_len (ringG_es ss)
  rw [ringG_len, hl] at fl
  rw [List.length_append, List.length_append, fl]; rfl
theorem RingR.nx {h : H} {rb : Nat} {W : Nat → Prop} {ss : List Sd} {next : Int} (R : RingR h rb W ss next) : asI .i64 (ldc h (some ⟨rb, 81, none⟩)) = some next := by
  obtain ⟨p, M, C, st, r1, _⟩ := R.ex
  rw [r1.ldc, ringV_next p R.len, asI_int]
/-! ### is it there already; where is there room -/
theorem log1_f (k : Nat) (hk : 1000 < k) {h : H} (w : WF h) (q : Sd) (Q : SlR 1 h q.1.2.2.2.2 (byt q.2)) (hq : q.2.length ≤ 128) {ib : Nat} {c : It} {y : List UInt8} (I : Is h ib 75 3 (itL c)) (Y : SlR 1 h c.2.2 (byt y)) (hno : q.1.1 = true → ¬ (q.1.2.2.1 = c.1 ∧ q.1.2.2.2.1 = c.2.1)) :
    ∃ h', intent_Ring_Log_1.f k (q.1.1, q.1.2.1, q.1.2.2.1, q.1.2.2.2.1, q.1.2.2.2.2) (some ⟨ib, 0, none⟩) h = some (false, h') ∧ Ch0 h h' := by
  unfold intent_Ring_Log_1.f
  dsimp only
  rw [show [Value.bool q.1.1, Value.int .i64 q.1.2.1, Value.int .i64 q.1.2.2.1, Value.int .i64 q.1.2.2.2.1, Value.slice q.1.2.2.2.2.a q.1.2.2.2.2.n q.1.2.2.2.2.c] = scL q.1 from rfl]
  obtain ⟨y1, y2, y3⟩ := newR_ok w 96 5 (scL q.1)
  generalize newR h 96 5 (scL q.1) = g at y1 y2 y3 ⊢
  rw [y3.ldc, show asB ((scL q.1)[0]?) = some q.1.1 from rfl]
  simp only [Option.bind_some]
  cases e : q.1.1 with
  | false => exact ⟨g, rfl, y1⟩
  | true =>
    simp only [cond_true]
    rw [y3.lda (o := 2) (n := 3) (Nat.le_refl _), show (((scL q.1).drop 2).take 3) = itL q.1.2.2 from rfl, bindIt, ldaIs (n := 3) (I.stay w y1) rfl, bindIt]
    dsimp only
    obtain ⟨g', f1, f2⟩ := isame_f k y1.wf q.1.2.2 c (Q.stay w y1) (Y.stay w y1) (by omega) (by omega)
    rw [f1, decide_eq_false (fun f => hno e ⟨f.1, f.2.1⟩)]
    exact ⟨g', rfl, y1.then f2⟩
theorem cont_l0 (k : Nat) (hk : 1000 < k) {h0 : H} (w0 : WF h0) {rb : Nat} {W : Nat → Prop} {ss : List Sd} {next : Int} (R : RingR h0 rb W ss next) {ib : Nat} {c : It} {y : List UInt8} (I : Is h0 ib 75 3 (itL c)) (Y : SlR 1 h0 c.2.2 (byt y)) (hno : ∀ q ∈ ss, q.1.1 = true → ¬ (q.1.2.2.1 = c.1 ∧ q.1.2.2.2.1 = c.2.1)) : ∀ n i h, 16 - i < n → i ≤ 16 → Ch0 h0 h →
    ∃ h', slices_IndexFunc_intent_slot_intent_slot_intent_Ring_Log_1.l0 k n ⟨some ⟨rb, 1, none⟩, 16, 16⟩ (some ⟨ib, 0, none⟩) (Int.ofNat 16) (Int.ofNat i) h = some (.inr (), h') ∧ Ch0 h0 h'
  | 0, i, h, hn, _, _ => by omega
  | n + 1, i, h, hn, hi, c0 => by
    rw [slices_IndexFunc_intent_slot_intent_slot_intent_Ring_Log_1.l0_succ]
    by_cases e : i < 16
    · rw [decLt e, cond_true]
      have il : i < ss.length := by rw [R.len]; exact e
      rw [ixsG e]
      simp only [asP_ptr, Option.bind_some]
      rw [(R.stay c0).at il, bindSc]
      have hm := List.getElem_mem il
      obtain ⟨h1, f1, f2⟩ := log1_f k hk c0.wf ss[i] ((R.dat _ hm).1.stay w0 c0) (R.dat _ hm).2 (I.stay w0 c0) (Y.stay w0 c0) (hno _ hm)
      dsimp only
      rw [f1]
      simp only [Option.bind_some, cond_false]
      rw [wrap_succ (by omega)]
      exact cont_l0 k hk w0 R I Y hno n (i + 1) h1 (by omega) (by omega) (c0.then f2)
    · rw [decNlt e, cond_false]
      exact ⟨h, rfl, c0⟩
theorem dead_l0 (k : Nat) {h0 : H} (w0 : WF h0) {rb : Nat} {W : Nat → Prop} {ss : List Sd} {next : Int} (R : RingR h0 rb W ss next) : ∀ n i h, 16 - i < n → i ≤ 16 → Ch0 h0 h → (∀ j (hj : j < ss.length), j < i → ss[j].1.1 = true) →
    ∃ v h', slices_IndexFunc_intent_slot_intent_slot_intent_Ring_Log_2.l0 k n ⟨some ⟨rb, 1, none⟩, 16, 16⟩ () (Int.ofNat 16) (Int.ofNat i) h = some (v, h') ∧ Ch0 h0 h' ∧ ((∃ j : Nat, v = .inl (Int.ofNat j) ∧ ∃ hj : j < ss.length, ss[j].1.1 = false) ∨ (v = .inr () ∧ ∀ q ∈ ss, q.1.1 = true))
  | 0, i, h, hn, _, _, _ => by omega
  | n + 1, i, h, hn, hi, c0, ha => by
    rw [slices_IndexFunc_intent_slot_intent_slot_intent_Ring_Log_2.l0_succ]
    by_cases e : i < 16
    · rw [decLt e, cond_true]
      have il : i < ss.length := by rw [R.len]; exact e
      rw [ixsG e]
      simp only [asP_ptr, Option.bind_some]
      rw [(R.stay c0).at il, bindSc]
      unfold intent_Ring_Log_2.f
      dsimp only
      rw [show [Value.bool ss[i].1.1, Value.int .i64 ss[i].1.2.1, Value.int .i64 ss[i].1.2.2.1, Value.int .i64 ss[i].1.2.2.2.1, Value.slice ss[i].1.2.2.2.2.a ss[i].1.2.2.2.2.n ss[i].1.2.2.2.2.c] = scL ss[i].1 from rfl]
      obtain ⟨y1, y2, y3⟩ := newR_ok c0.wf 96 5 (scL ss[i].1)
      generalize newR h 96 5 (scL ss[i].1) = g at y1 y2 y3 ⊢
      rw [y3.ldc, show asB ((scL ss[i].1)[0]?) = some ss[i].1.1 from rfl]
      simp only [Option.bind_some]
      cases q : ss[i].1.1 with
      | false => exact ⟨_, g, rfl, c0.then y1, .inl ⟨i, rfl, il, q⟩⟩
      | true =>
        simp only [Bool.not_true, cond_false]
        rw [wrap_succ (by omega)]
        exact dead_l0 k w0 R n (i + 1) g (by omega) (by omega) (c0.then y1) fun j hj hji => by
          by_cases z : j = i
          · subst z; exact q
          · exact ha j hj (by omega)
    · rw [decNlt e, cond_false]
      exact ⟨_, h, rfl, c0, .inr ⟨rfl, fun q hq => by
        obtain ⟨j, hj, rfl⟩ := List.mem_iff_getElem.1 hq
        exact ha j hj (by have := R.len; omega)⟩⟩
end Go.Proofs.Ytbegaeohggkblaa.Fw
