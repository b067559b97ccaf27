/- Exports, and what a list of them is told. No condition. -/
import Derived.Test.YtlibnmhicnnldaaPureHandChooses
namespace Go.Proofs.Ytlibnmhicnnldaa.Fw
open Go Den Fwd
set_option linter.unusedVariables false
set_option linter.unusedSimpArgs false
abbrev Xpo := List UInt8 × Int × Bool
def exL (e : Xpo) : List Value := Pure.exV e.1 e.2.1 e.2.2
def exF (es : List Xpo) : List Value := (es.map exL).flatten
def ExR (h : H) (s : Sl) (es : List Xpo) : Prop := SlR 3 h s (exF es)
theorem exF_len : ∀ es : List Xpo, (exF es).length = es.length * 3
  | [] => rfl
  | e :: es => by
    unfold exF
    rw [List.map_cons, List.flatten_cons, List.length_append, show ((es.map exL).flatten).length = es.length * 3 from exF_len es, List.length_cons]
    show 3 + _ = _
    omega
theorem exF_at : ∀ (es : List Xpo) (i : Nat) (hi : i < es.length), ((exF es).drop (i * 3)).take 3 = exL es[i]
  | e :: es, 0, _ => by
    unfold exF
    rw [List.map_cons, List.flatten_cons, Nat.zero_mul, List.drop_zero, List.take_append_of_le_length (show 3 ≤ (exL e).length from Nat.le_refl 3)]; rfl
  | e :: es, i + 1, hi => by
    have h := exF_at es i (by rw [List.length_cons] at hi; omega)
    unfold exF at h ⊢
    rw [List.map_cons, List.flatten_cons, show (i + 1) * 3 = (exL e).length + i * 3 by show _ = 3 + _; omega, List.drop_append, List.drop_eq_nil_of_le (by omega), List.nil_append, show (exL e).length + i * 3 - (exL e).length = i * 3 by omega, h]; rfl
theorem exF_app (a b : List Xpo) : exF (a ++ b) = exF a ++ exF b := by unfold exF; rw [List.map_append, List.flatten_append]
theorem exF_one : ∀ es : List Xpo, (exF es).all Den.one = true
  | [] => rfl
  | e :: es => by
    unfold exF
    rw [List.map_cons, List.flatten_cons, List.all_append, show ((es.map exL).flatten).all Den.one = true from exF_one es]; rfl
theorem ExR.n {h : H} {s : Sl} {es : List Xpo} (r : ExR h s es) : s.n = es.length := by
  have := SlR.len r
  rw [exF_len] at this
  omega
theorem ExR.at {h : H} {s : Sl} {es : List Xpo} (r : ExR h s es) {i : Nat} (hi : i < es.length) :
    ∃ b o, ixs 3 s.a s.n (Int.ofNat i) = some (.pointer (some ⟨b, o, none⟩)) ∧ lda 3 h (some ⟨b, o, none⟩) = some (.agg #[.string (ba es[i].1), .int .i64 es[i].2.1, .bool es[i].2.2]) ∧ ldc h (some ⟨b, o, none⟩) = some (.string (ba es[i].1)) := by
  obtain ⟨b, o, e1, e2⟩ := SlR.elem r (j := i) (by rw [r.n]; exact hi)
  rw [exF_at es i hi] at e2
  refine ⟨b, o, e1, ?_, ?_⟩
  · show (match h.gets b o 3 with | some vs => some (Value.agg vs.toArray) | none => none) = _
    rw [e2]; rfl
  · have := gets_cell e2 (i := 0) (by omega)
    rw [Nat.add_zero] at this
    show h.cell b o = _
    rw [this]; rfl
theorem asTs (s : ByteArray) : asT (some (.string s)) = some s := rfl
theorem ba_of (s : ByteArray) : s = ba s.data.toList := by
  apply ByteArray.ext
  unfold ba
  exact (Array.toArray_toList).symm
theorem baeq (a b : List UInt8) : ((ba a).toList == (ba b).toList) = decide (a = b) := ba_eq a b
theorem odd_f (k : Nat) (n : Int) (s : List UInt8) (hs : s.length ≤ 1048576) (h : H) : ∃ nm : List UInt8, corbelhand_Odd.f k n (ba s) h = some (ba nm, h) ∧ nm.length ≤ 1048576 := by
  unfold corbelhand_Odd.f
  rw [pick_f k n 40 h (by decide) (by decide)]
  simp only [Option.bind_some]
  cases (n % 40 == (38 : Int)) with
  | true => exact ⟨s, rfl, hs⟩
  | false =>
    simp only [cond_false]
    cases (n % 40 == (39 : Int)) with
    | true =>
      simp only [cond_true]
      rw [pick_f k _ 4 h (by decide) (by decide)]
      simp only [Option.bind_some]
      generalize wrapA .i64 (n.tdiv 40) = m
      have h0 := Int.emod_nonneg m (show (4 : Int) ≠ 0 by decide)
      have h1 := Int.emod_lt_of_pos m (show (0 : Int) < 4 by decide)
      generalize m % 4 = j at h0 h1
      have : j = 0 ∨ j = 1 ∨ j = 2 ∨ j = 3 := by omega
      rcases this with rfl | rfl | rfl | rfl
      · exact ⟨[], rfl, by decide⟩
      · exact ⟨[85, 112, 112, 101, 114], rfl, by decide⟩
      · exact ⟨[116, 111, 111, 108, 111, 110, 103, 110, 97, 109, 101], rfl, by decide⟩
      · exact ⟨[97, 32, 98], rfl, by decide⟩
    | false =>
      simp only [cond_false]
      obtain ⟨nm, e, l⟩ := Pure.name_f k n h
      rw [e]
      exact ⟨nm, rfl, by omega⟩
theorem exp_l1 (k : Nat) {h : H} {s : Sl} {es : List Xpo} (r : ExR h s es) (hl : es.length ≤ 1000) (x14 : Sl) (x16 : Int) (nm : List UInt8) : ∀ n j had, es.length - j < n → j ≤ es.length →
    ∃ v, corbellaw23_exports.l1 k n x14 s x16 (ba nm) (Int.ofNat es.length) had (Int.ofNat j) h = some (v, h)
  | 0, j, had, hn, _ => by omega
  | n + 1, j, had, hn, hj => by
    rw [corbellaw23_exports.l1_succ]
    by_cases c : j < es.length
    · rw [decide_eq_true (show Int.ofNat j < Int.ofNat es.length by simp only [Int.ofNat_eq_natCast]; omega), cond_true]
      obtain ⟨b, o, e1, e2, e3⟩ := r.at c
      rw [e1]
      simp only [asP_ptr, Option.bind_some, fadd, Nat.add_zero]
      rw [e3]
      cases had
      · simp only [cond_false, asT, Option.bind_some]
        rw [wrap_succ (by omega)]
        exact exp_l1 k r hl x14 x16 nm n (j + 1) _ (by omega) (by omega)
      · simp only [cond_true, Option.bind_some]
        rw [wrap_succ (by omega)]
        exact exp_l1 k r hl x14 x16 nm n (j + 1) _ (by omega) (by omega)
    · rw [decide_eq_false (show ¬ Int.ofNat j < Int.ofNat es.length by simp only [Int.ofNat_eq_natCast]; omega), cond_false]
      exact ⟨had, rfl⟩
/-- what is known of exports -/
structure ExOk (es : List Xpo) : Prop where
  tw : ∃ rest, es = ([97], (16, false)) :: ([115], (8, true)) :: rest
  nm : ∀ e ∈ es, e.1.length ≤ 1048576
  le : es.length ≤ 5
theorem exp_l0 (k : Nat) (hk : 1000 < k) {h0 : H} (w0 : WF h0) {sl : Sl} {ls : List (List Value)} (L : SlR 5 h0 sl ls.flatten) (hn5 : sl.n = ls.length) (hl5 : ∀ l ∈ ls, l.length = 5) (hls : ∀ (i : Nat) (l : List Value), ls[i]? = some l → ∃ (a b c : Int) (d : Value) (s : List UInt8), l = [.int .i64 a, .int .i64 b, .int .i64 c, d, .string (ba s)] ∧ s.length ≤ 1048576) : ∀ n i h s es, 3 - i < n → i ≤ 3 → Ch0 h0 h → Ow 35 3 h s (exF es) → (∀ b, SlB s b → h0.next ≤ b) → ExOk es → es.length ≤ 2 + i →
    ∃ s' es' h', corbellaw23_exports.l0 k n sl s (Int.ofNat i) h = some (s', h') ∧ Ch0 h0 h' ∧ Ow 35 3 h' s' (exF es') ∧ ExOk es' ∧ ∀ b, SlB s' b → h0.next ≤ b
  | 0, i, h, s, es, hn, _, _, _, _, _, _ => by omega
  | n + 1, i, h, s, es, hn, hi, c0, O, fr, E, le => by
    rw [corbellaw23_exports.l0_succ]
    by_cases c : i < ls.length ∧ i < 3
    · rw [hn5, decide_eq_true (show Int.ofNat i < Int.ofNat ls.length by simp only [Int.ofNat_eq_natCast]; omega), decide_eq_true (show Int.ofNat i < (3 : Int) by simp only [Int.ofNat_eq_natCast]; omega)]
      simp only [cond_true, Option.bind_some]
      obtain ⟨va, vb, vc, vd, nm0, hl, hnm0⟩ := hls i ls[i] (List.getElem?_eq_getElem c.1)
      have P : ∀ (g : H), Ch0 h0 g → ∃ b o, ixs 5 sl.a ls.length (Int.ofNat i) = some (.pointer (some ⟨b, o, none⟩)) ∧ ∀ j, j < 5 → ldc g (some ⟨b, o + j, none⟩) = ls[i][j]? := fun g cg => by
        obtain ⟨b, o, x1, _⟩ := (L.stay w0 cg).cellOf (by decide) hl5 (List.getElem?_eq_getElem c.1) (j := 0) (by decide) (by omega)
        rw [hn5] at x1
        refine ⟨b, o, x1, fun j hj => ?_⟩
        obtain ⟨b', o', x3, x4⟩ := (L.stay w0 cg).cellOf (by decide) hl5 (List.getElem?_eq_getElem c.1) (j := j) hj (by omega)
        rw [hn5, x1] at x3
        cases x3
        exact x4
      obtain ⟨b, o, p1, p2⟩ := P h c0
      rw [p1]
      simp only [asP_ptr, Option.bind_some, fadd]
      rw [p2 1 (by decide), p2 4 (by decide), hl]
      simp only [List.getElem?_cons_succ, List.getElem?_cons_zero, asI_int, asT, Option.bind_some]
      obtain ⟨nm, a1, a2⟩ := odd_f k vb nm0 hnm0 h
      rw [a1]
      simp only [Option.bind_some]
      have R : ExR h s es := O.slr
      have el := E.le
      obtain ⟨v, b1⟩ := exp_l1 k R (by omega) sl (Int.ofNat i) nm k 0 false (by omega) (Nat.zero_le _)
      rw [R.n, show (0 : Int) = Int.ofNat 0 from rfl, b1]
      simp only [Option.bind_some]
      cases v with
      | true =>
        simp only [Bool.not_true, cond_false, Option.bind_some]
        rw [wrap_succ (by omega)]
        exact exp_l0 k hk w0 L hn5 hl5 hls n (i + 1) h s es (by omega) (by omega) c0 O fr E (by omega)
      | false =>
        simp only [Bool.not_false, cond_true]
        rw [p2 2 (by decide), hl]
        simp only [List.getElem?_cons_succ, List.getElem?_cons_zero, asI_int, Option.bind_some]
        rw [pick_f k vc 300 h (by decide) (by decide)]
        simp only [Option.bind_some]
        rw [p2 0 (by decide), hl]
        simp only [List.getElem?_cons_succ, List.getElem?_cons_zero, asI_int, Option.bind_some]
        generalize (va.tmod (2 : Int) == Int.ofNat 0) = ro
        rw [show [Value.string (ba nm), Value.int .i64 (vc % 300), Value.bool ro] = exF [(nm, (vc % 300, ro))] from rfl]
        obtain ⟨n1, n2, n3⟩ := newR_ok c0.wf 35 3 (exF [(nm, (vc % 300, ro))])
        obtain ⟨s', h', e1, e2, e3, e4, e5⟩ := apv_ok (by_ := 32) n1.wf (O.stay c0.wf n1) (by decide) (SlR.of_is n3 (n := 1) rfl (by unfold unk; omega)) (by rw [R.n]; show (es.length + 1) * 32 ≤ _; omega) (exF_one _)
        rw [← R.n, e1]
        simp only [Option.bind_some]
        rw [show same1 h h (some (Value.pointer (some ⟨b, o + Nat.zero, none⟩))) = true from same1_of rfl]
        simp only [Bool.and_self, cond_true, Option.bind_some]
        rw [wrap_succ (by omega)]
        have c1 := c0.then n1
        rw [← exF_app] at e3
        obtain ⟨rest, hr⟩ := E.tw
        exact exp_l0 k hk w0 L hn5 hl5 hls n (i + 1) h' s' (es ++ [(nm, (vc % 300, ro))]) (by omega) (by omega) (Ch0.own c1 e2 fr) e3 (fun b hb => (e5 b hb).elim (fr b) fun f => by have := c1.le; omega)
          ⟨⟨rest ++ [(nm, (vc % 300, ro))], by rw [hr]; rfl⟩, fun e he => by
            rcases List.mem_append.1 he with q | q
            · exact E.nm e q
            · obtain rfl := List.mem_singleton.1 q
              exact a2, by rw [List.length_append]; simp only [List.length_cons, List.length_nil]; omega⟩ (by rw [List.length_append]; simp only [List.length_cons, List.length_nil]; omega)
    · have : (cond (decide (Int.ofNat i < Int.ofNat sl.n)) (some (decide (Int.ofNat i < (3 : Int)), h)) (some (false, h)) : Option (Bool × H)) = some (false, h) := by
        rw [hn5]
        by_cases d : i < ls.length
        · rw [decide_eq_true (show Int.ofNat i < Int.ofNat ls.length by simp only [Int.ofNat_eq_natCast]; omega), decide_eq_false (show ¬ Int.ofNat i < (3 : Int) by simp only [Int.ofNat_eq_natCast]; omega)]; rfl
        · rw [decide_eq_false (show ¬ Int.ofNat i < Int.ofNat ls.length by simp only [Int.ofNat_eq_natCast]; omega)]; rfl
      rw [this]
      exact ⟨s, es, h, rfl, c0, O, E, fr⟩
theorem exports_f (k : Nat) (hk : 1000 < k) {h : H} (w : WF h) {sl : Sl} {ls : List (List Value)} (L : SlR 5 h sl ls.flatten) (hn5 : sl.n = ls.length) (hl5 : ∀ l ∈ ls, l.length = 5) (hls : ∀ (i : Nat) (l : List Value), ls[i]? = some l → ∃ (a b c : Int) (d : Value) (s : List UInt8), l = [.int .i64 a, .int .i64 b, .int .i64 c, d, .string (ba s)] ∧ s.length ≤ 1048576) :
    ∃ s es h', corbellaw23_exports.f k sl h = some (s, h') ∧ Ch0 h h' ∧ ExR h' s es ∧ ExOk es ∧ ∀ b, SlB s b → h.next ≤ b := by
  unfold corbellaw23_exports.f corbellaw23_two.f
  rw [show [Value.string (⟨#[97]⟩ : ByteArray), Value.int .i64 (16 : Int), Value.bool false, Value.string (⟨#[115]⟩ : ByteArray), Value.int .i64 (8 : Int), Value.bool true] = exF [([97], (16, false)), ([115], (8, true))] from rfl]
  obtain ⟨z1, z2, z3⟩ := newR_ok w 35 3 (exF [([97], (16, false)), ([115], (8, true))])
  simp only [Option.bind_some]
  obtain ⟨s', es', h', a1, a2, a3, a4, a5⟩ := exp_l0 k hk w L hn5 hl5 hls k 0 _ ⟨some ⟨h.next, 0, none⟩, 2, 2⟩ _ (by omega) (by omega) z1 (Ow.of_is z3 rfl (by unfold unk; omega)) (fun b hb => by obtain ⟨o, q⟩ := hb; have : h.next = b := congrArg Addr.block (Option.some.inj q); omega) ⟨⟨[], rfl⟩, fun e he => by
    simp only [List.mem_cons, List.not_mem_nil, or_false] at he
    rcases he with rfl | rfl <;> decide, by decide⟩ (by decide)
  rw [show (0 : Int) = Int.ofNat 0 from rfl, a1]
  exact ⟨s', es', h', rfl, a2, a3.slr, a4, a5⟩
/-! ### what is told -/
def tellB (e : Xpo) : List UInt8 := replyB 3 2 (beN e.1.length 4 ++ e.1)
def tellsB (es : List Xpo) : List UInt8 := (es.map tellB).flatten
theorem tellB_len (e : Xpo) : (tellB e).length = 24 + e.1.length := by
  unfold tellB replyB
  simp only [List.length_append, beN_len, List.length_cons, List.length_nil]; omega
theorem tellsB_le : ∀ (es : List Xpo), (∀ e ∈ es, e.1.length ≤ 1048576) → (tellsB es).length ≤ es.length * 1048600
  | [], _ => Nat.le_refl _
  | e :: es, h => by
    unfold tellsB
    rw [List.map_cons, List.flatten_cons, List.length_append, tellB_len, List.length_cons]
    have h1 := h e List.mem_cons_self
    have h2 : ((es.map tellB).flatten).length ≤ es.length * 1048600 := tellsB_le es fun x hx => h x (List.mem_cons_of_mem _ hx)
    omega
theorem told_l0 (k : Nat) (hk : 1000 < k) {h0 : H} (w0 : WF h0) {sx : Sl} {es : List Xpo} (R : ExR h0 sx es) (E : ExOk es) : ∀ n i h out, es.length - i < n → i ≤ es.length → Ch0 h0 h → Ow 5 1 h out (byt (tellsB (es.take i))) → (∀ b, SlB out b → h0.next ≤ b) →
    ∃ out' h', hand_told.l0 k n sx (Int.ofNat es.length) out (Int.ofNat i) h = some (out', h') ∧ Ch0 h0 h' ∧ Ow 5 1 h' out' (byt (tellsB es)) ∧ ∀ b, SlB out' b → h0.next ≤ b
  | 0, i, h, out, hn, _, _, _, _ => by omega
  | n + 1, i, h, out, hn, hi, c0, O, fr => by
    rw [hand_told.l0_succ]
    have el := E.le
    by_cases c : i < es.length
    · rw [decide_eq_true (show Int.ofNat i < Int.ofNat es.length by simp only [Int.ofNat_eq_natCast]; omega), cond_true]
      obtain ⟨b, o, p1, p2, _⟩ := ExR.at (R.stay w0 c0) c
      rw [p1]
      simp only [asP_ptr, Option.bind_some]
      rw [p2, Pure.bindEx]
      dsimp only
      have hnm := E.nm _ (List.getElem_mem c)
      generalize he : es[i] = e at hnm
      rw [show [Value.string (ba e.1), Value.int .i64 e.2.1, Value.bool e.2.2] = exL e from rfl]
      obtain ⟨h1, b1, b2, b3, b4⟩ := box_ok c0.wf 35 3 [Value.string (⟨#[]⟩ : ByteArray), Value.int .i64 (0 : Int), Value.bool false] (exL e) rfl rfl rfl
      rw [b1]
      simp only [Option.bind_some]
      have I1 : ldc h1 (some ⟨h.next, 0, none⟩) = some (.string (ba e.1)) := by rw [b4.ldc]; rfl
      rw [I1]
      simp only [asT, Option.bind_some]
      have lb : (ba e.1).data.toList.length = e.1.length := by rw [show (ba e.1).data.toList = e.1 from List.toList_toArray]
      rw [lb]
      obtain ⟨s2, h2, d1, d2, d3, d4⟩ := cbytes_f k hk e.1.length 4 (by decide) b2.wf (Int.ofNat e.1.length) rfl 4 rfl
      rw [d1]
      simp only [Option.bind_some]
      have I2 : ldc h2 (some ⟨h.next, 0, none⟩) = some (.string (ba e.1)) := by rw [(b4.stay b2.wf d2).ldc]; rfl
      rw [I2]
      simp only [asT, Option.bind_some, lb]
      obtain ⟨t1, t2, t3⟩ := Pure.newT_ok d2.wf e.1
      let ps : Parts := [(s2, beN e.1.length 4), (⟨some ⟨h2.next, 0, none⟩, e.1.length, unkOf 1⟩, e.1)]
      rw [show [Value.slice s2.a s2.n s2.c, Value.slice (some ⟨h2.next, 0, none⟩) e.1.length (unkOf 1)] = ps.map fun p => slv p.1 from rfl]
      generalize newT h2 5 (ba e.1) = h3 at t1 t2 t3 ⊢
      obtain ⟨y1, y2, y3⟩ := newR_ok t1.wf 25 1 (ps.map fun p => slv p.1)
      have hps : PartsR h3 ps := by
        intro q hq
        simp only [ps, List.mem_cons, List.not_mem_nil, or_false] at hq
        rcases hq with rfl | rfl
        · exact d3.slr.stay d2.wf t1
        · refine .inr ⟨h2.next, 0, rfl, by rw [byt_len]; exact (Nat.mul_one _).symm, ?_, .inr rfl⟩
          have := t3.gets (o := 0) (n := e.1.length * 1) (by rw [byt_len]; omega)
          show h3.gets h2.next 0 (e.1.length * 1) = _
          rw [this, List.drop_zero, List.take_of_length_le (by rw [byt_len]; omega)]
      obtain ⟨s4, h4, v1, v2, v3, v4⟩ := concat_f k hk y1.wf (ps := ps) (SlR.of_is y3 (n := 2) rfl (by unfold unk; omega)) (hps.stay t1.wf y1) (by show 2 < 1000; decide) (by
        show (beN e.1.length 4).length + (e.1.length + 0) ≤ _
        simp only [beN_len]; omega)
      rw [v1]
      simp only [Option.bind_some]
      have hj : joined ps = beN e.1.length 4 ++ e.1 := by
        unfold joined
        simp only [ps, List.map_cons, List.map_nil, List.flatten_cons, List.flatten_nil, List.append_nil]
      rw [hj] at v3
      obtain ⟨s5, h5, f1, f2, f3, f4⟩ := reply_f k hk v2.wf 3 2 3 2 rfl rfl v3.slr (by rw [List.length_append, beN_len]; omega)
      rw [f1]
      simp only [Option.bind_some]
      have c15 : Ch0 h h5 := (b2.then d2).then ((t1.then y1).then (v2.then f2))
      have hle := tellsB_le (es.take i) fun x hx => E.nm x (List.mem_of_mem_take hx)
      rw [List.length_take] at hle
      have tl := tellB_len e
      obtain ⟨s6, h6, g1, g2, g3, g4⟩ := app_b f2.wf (O.stay c0.wf c15) f3.slr (by
        show (tellsB (es.take i)).length + (tellB e).length ≤ _
        have : min i es.length * 1048600 ≤ 5 * 1048600 := Nat.mul_le_mul_right _ (by omega)
        omega)
      rw [g1]
      simp only [Option.bind_some]
      rw [same1_of (d2.keep h.next (by omega) fun f => f)]
      simp only [Bool.and_self, cond_true]
      rw [wrap_succ (by omega)]
      have c2 := c0.then c15
      refine told_l0 k hk w0 R E n (i + 1) h6 s6 (by omega) (by omega) (Ch0.own c2 g2 fr) ?_ (fun b hb => (g4 b hb).elim (fr b) fun f => by have := c2.le; omega)
      have : tellsB (es.take (i + 1)) = tellsB (es.take i) ++ replyB 3 2 (beN e.1.length 4 ++ e.1) := by
        unfold tellsB
        rw [List.take_add_one, List.getElem?_eq_getElem c, he, List.map_append, List.flatten_append]
        show _ ++ (tellB e ++ []) = _
        rw [List.append_nil]; rfl
      rw [this]; exact g3
    · rw [decide_eq_false (show ¬ Int.ofNat i < Int.ofNat es.length by simp only [Int.ofNat_eq_natCast]; omega), cond_false]
      rw [List.take_of_length_le (by omega)] at O
      exact ⟨out, h, rfl, c0, O, fr⟩
def toldL (es : List Xpo) : List UInt8 := tellsB es ++ replyB 3 1 []
theorem told_f (k : Nat) (hk : 1000 < k) {h : H} (w : WF h) {sx sd : Sl} {es : List Xpo} (R : ExR h sx es) (E : ExOk es) (hd : sd.n = 0) :
    ∃ s' h', hand_told.f k sx sd h = some (s', h') ∧ Ch0 h h' ∧ Ow 5 1 h' s' (byt (toldL es)) ∧ ∀ b, SlB s' b → h.next ≤ b := by
  unfold hand_told.f
  have el := E.le
  rw [hd, show decide (Int.ofNat 0 > (0 : Int)) = false from rfl, cond_false]
  obtain ⟨s1, h1, a1, a2, a3, a4⟩ := told_l0 k hk w R E k 0 h ⟨none, 0, 0⟩ (by omega) (Nat.zero_le _) (Ch.refl w) Ow.nil (fun b hb => by obtain ⟨o, q⟩ := hb; cases q)
  rw [R.n, show (0 : Int) = Int.ofNat 0 from rfl, a1]
  simp only [Option.bind_some]
  obtain ⟨s2, h2, b1, b2, b3, b4⟩ := reply_f k hk a2.wf 3 1 3 1 rfl rfl (s := ⟨none, 0, 0⟩) (d := []) (.inl ⟨rfl, .inl rfl⟩) (by decide)
  rw [b1]
  simp only [Option.bind_some]
  have hle := tellsB_le es E.nm
  obtain ⟨s3, h3, c1, c2, c3, c4⟩ := app_b b2.wf (a3.stay a2.wf b2) b3.slr (by
    show (tellsB es).length + 20 ≤ _
    have : es.length * 1048600 ≤ 5 * 1048600 := Nat.mul_le_mul_right _ el
    omega)
  rw [c1]
  have c12 := a2.then b2
  exact ⟨s3, h3, rfl, Ch0.own c12 c2 a4, c3, fun b hb => (c4 b hb).elim (a4 b) fun f => by have := c12.le; omega⟩
end Go.Proofs.Ytlibnmhicnnldaa.Fw
