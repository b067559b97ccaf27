/- ask, as plain lists. No condition. -/
import Derived.Test.YthpkhegoamhgeaaFwAsk
namespace Go.Proofs.Ythpkhegoamhgeaa.Fw
open Go Den Fwd
set_option linter.unusedVariables false
set_option linter.unusedSimpArgs false

theorem wrap_u64 {n : Int} (h0 : 0 ≤ n) (h1 : n < 18446744073709551616) : wrapA .u64 n = n := by
  rw [wrapA_eq]
  show n % 18446744073709551616 = n
  exact Int.emod_eq_of_lt h0 h1
theorem wrap_u8n (n : Nat) : wrapA .u8 (Int.ofNat n) = Int.ofNat (UInt8.ofNat n).toNat := by rw [wrap_u8, u8_nat]
theorem Ch0.own {h0 h h' : H} {s : Sl} (c : Ch0 h0 h) (d : Ch (SlB s) h h') (hs : ∀ b, SlB s b → h0.next ≤ b) : Ch0 h0 h' :=
  c.trans d fun x hx f => by have := hs x f; omega
/-- one byte more -/
theorem push_b {h : H} (w : WF h) {s : Sl} {x : List UInt8} (r : Ow 5 1 h s (byt x)) (c : UInt8) (v : Int) (hv : v = Int.ofNat c.toNat) (hb : x.length ≤ 1000000) :
    ∃ s' h', asS2 (apv 5 1 1 (.slice s.a s.n s.c) (.slice (some ⟨h.next, 0, none⟩) 1 1) (newR h 5 1 [.int .u8 v])) = some (s', h') ∧ Ch (SlB s) h h' ∧ Ow 5 1 h' s' (byt (x ++ [c])) ∧ ∀ b, SlB s' b → SlB s b ∨ h.next ≤ b := by
  subst hv
  obtain ⟨n1, n2, n3⟩ := newR_ok w 5 1 [.int .u8 (Int.ofNat c.toNat)]
  have hs := r.slr.n_byt
  obtain ⟨s', h', e1, e2, e3, e4, e5⟩ := apv_ok (by_ := 1) n1.wf (r.stay w n1) (by decide) (SlR.of_is n3 (n := 1) rfl (by unfold unk; omega)) (by rw [hs]; show (x.length + 1) * 1 ≤ _; omega) rfl
  refine ⟨s', h', e1, (n1.mono fun _ _ f => f.elim).trans e2 fun _ _ f => f, by rw [← byt_app]; exact e3, fun b hb => (e5 b hb).imp id fun f => ?_⟩
  omega
/-- bytes behind bytes -/
theorem app_b {h : H} (w : WF h) {s t : Sl} {x y : List UInt8} (r : Ow 5 1 h s (byt x)) (q : SlR 1 h t (byt y)) (hb : x.length + y.length ≤ 140737488355328) :
    ∃ s' h', asS2 (apv 5 1 1 (.slice s.a s.n s.c) (.slice t.a t.n t.c) h) = some (s', h') ∧ Ch (SlB s) h h' ∧ Ow 5 1 h' s' (byt (x ++ y)) ∧ ∀ b, SlB s' b → SlB s b ∨ h.next ≤ b := by
  have hs := r.slr.n_byt
  have ht := q.n_byt
  obtain ⟨s', h', e1, e2, e3, e4, e5⟩ := apv_ok (by_ := 1) w r (by decide) q (by rw [hs, ht]; omega) (byt_one y)
  exact ⟨s', h', e1, e2, by rw [← byt_app]; exact e3, fun b hb => (e5 b hb).imp id fun f => f.1⟩
theorem bytes_l0 (k : Nat) (n : Nat) {h0 : H} : ∀ f s h acc (pre : List UInt8), s < f → s ≤ 8 → pre.length + s ≤ 1000 → Ch0 h0 h → Ow 5 1 h acc (byt pre) → (∀ b, SlB acc b → h0.next ≤ b) →
    ∃ acc' h', ask_bytes.l0 k f (Int.ofNat n) acc (Int.ofNat s - 1) h = some (acc', h') ∧ Ch0 h0 h' ∧ Ow 5 1 h' acc' (byt (pre ++ beN n s)) ∧ ∀ b, SlB acc' b → h0.next ≤ b
  | 0, s, h, acc, pre, hf, _, _, _, _, _ => by omega
  | f + 1, 0, h, acc, pre, hf, _, _, hc, ho, hb => by
    rw [ask_bytes.l0_succ, decide_eq_false (show ¬ Int.ofNat 0 - 1 ≥ (0 : Int) by decide), cond_false]
    exact ⟨acc, h, rfl, hc, by rw [beN, List.append_nil]; exact ho, hb⟩
  | f + 1, s + 1, h, acc, pre, hf, hs, hp, hc, ho, hb => by
    rw [ask_bytes.l0_succ, show Int.ofNat (s + 1) - 1 = Int.ofNat s by simp only [Int.ofNat_eq_natCast]; omega, decide_eq_true (show Int.ofNat s ≥ (0 : Int) from Int.natCast_nonneg s), cond_true]
    rw [wrap_in (n := (8 : Int) * Int.ofNat s) (by simp only [Int.ofNat_eq_natCast]; omega) (by simp only [Int.ofNat_eq_natCast]; omega), show (8 : Int) * Int.ofNat s = Int.ofNat (8 * s) from rfl]
    rw [show binA Try.prog .shr 27 (Value.int .u64 (Int.ofNat n)) (Value.int .i64 (Int.ofNat (8 * s))) = some (.int .u64 ((Int.ofNat n).fdiv (2 ^ min (8 * s) 64))) from rfl, Nat.min_eq_left (by omega), fdiv_pow]
    simp only [asI_int, Option.bind_some]
    obtain ⟨s', h', e1, e2, e3, e4⟩ := push_b hc.wf ho (UInt8.ofNat (n / 256 ^ s)) _ (wrap_u8n _) (by omega)
    rw [e1]
    simp only [Option.bind_some]
    rw [wrap_in (n := Int.ofNat s - 1) (by simp only [Int.ofNat_eq_natCast]; omega) (by simp only [Int.ofNat_eq_natCast]; omega)]
    obtain ⟨acc', h2, f1, f2, f3, f4⟩ := bytes_l0 k n f s h' s' (pre ++ [UInt8.ofNat (n / 256 ^ s)]) (by omega) (by omega) (by rw [List.length_append, List.length_singleton]; omega) (Ch0.own hc e2 hb) e3 fun b hb' => (e4 b hb').elim (hb b) fun q => Nat.le_trans hc.le q
    exact ⟨acc', h2, f1, f2, by rw [List.append_assoc] at f3; exact f3, f4⟩
theorem bytes_f (k : Nat) (hk : 1000 < k) (n s : Nat) (hs : s ≤ 8) {h : H} (w : WF h) (m : Int) (hm : m = Int.ofNat n) (t : Int) (ht : t = Int.ofNat s) :
    ∃ s' h', ask_bytes.f k m t h = some (s', h') ∧ Ch0 h h' ∧ Ow 5 1 h' s' (byt (beN n s)) ∧ ∀ b, SlB s' b → h.next ≤ b := by
  subst hm; subst ht
  unfold ask_bytes.f
  rw [wrap_in (n := Int.ofNat s - 1) (by simp only [Int.ofNat_eq_natCast]; omega) (by simp only [Int.ofNat_eq_natCast]; omega)]
  obtain ⟨a, h', e1, e2, e3, e4⟩ := bytes_l0 k n (h0 := h) k s h ⟨none, 0, 0⟩ [] (by omega) hs (by show 0 + s ≤ 1000; omega) (Ch.refl w) Ow.nil fun b hb => by obtain ⟨o, q⟩ := hb; cases q
  rw [e1]
  exact ⟨a, h', rfl, e2, e3, e4⟩
theorem number_l0 (k : Nat) {h : H} {s : Sl} {x : List UInt8} (r : SlR 1 h s (byt x)) (hx : x.length ≤ 8) : ∀ f j acc, x.length - j < f → j ≤ x.length → acc = unbe (x.take j) →
    ask_number.l0 k f s (Int.ofNat x.length) (Int.ofNat acc) (Int.ofNat j) h = some (Int.ofNat (unbe x), h)
  | 0, j, acc, hf, _, _ => by omega
  | f + 1, j, acc, hf, hj, ha => by
    rw [ask_number.l0_succ]
    by_cases c : j < x.length
    · rw [decide_eq_true (show Int.ofNat j < Int.ofNat x.length by simp; omega), cond_true]
      obtain ⟨p, e1, e2⟩ := r.byte (List.getElem?_eq_getElem c)
      rw [r.n_byt] at e1 ⊢
      rw [e1]
      simp only [asP_ptr, Option.bind_some, e2, asI_int]
      have hc := x[j].toNat_lt
      have hb : acc < 256 ^ j := by
        rw [ha]
        have := unbe_bound (x.take j)
        rw [List.length_take, Nat.min_eq_left (by omega)] at this
        exact this
      have hb2 : (256 : Nat) ^ j ≤ 256 ^ 7 := Nat.pow_le_pow_right (by decide) (by omega)
      have hb3 : acc < 72057594037927936 := Nat.lt_of_lt_of_le hb hb2
      rw [wrap_u64 (n := Int.ofNat acc * 2 ^ 8) (by simp only [Int.ofNat_eq_natCast]; omega) (by simp only [Int.ofNat_eq_natCast]; omega), wrap_u64 (n := Int.ofNat x[j].toNat) (by simp only [Int.ofNat_eq_natCast]; omega) (by simp only [Int.ofNat_eq_natCast]; omega)]
      rw [show Int.ofNat acc * 2 ^ 8 = Int.ofNat (acc * 2 ^ 8) from rfl]
      rw [show intA .or .u64 (Int.ofNat (acc * 2 ^ 8)) (Int.ofNat x[j].toNat) = cond (Nat.blt (acc * 2 ^ 8) (2 ^ 64) && Nat.blt x[j].toNat (2 ^ 64)) (some (.int .u64 (wrapA .u64 (Int.ofNat (Nat.lor (acc * 2 ^ 8) x[j].toNat))))) none from rfl]
      rw [cond_eta _ _ _ (by rw [Bool.and_eq_true]; exact ⟨Nat.ble_eq_true_of_le (by omega), Nat.ble_eq_true_of_le (by omega)⟩), or_byte _ _ hc]
      rw [wrap_u64 (n := Int.ofNat (acc * 256 + x[j].toNat)) (by simp only [Int.ofNat_eq_natCast]; omega) (by simp only [Int.ofNat_eq_natCast]; omega)]
      simp only [asI_int, Option.bind_some]
      rw [wrap_succ (by omega)]
      have ht : x.take (j + 1) = x.take j ++ [x[j]] := by simp
      exact number_l0 k r hx f (j + 1) _ (by omega) (by omega) (by rw [ht, unbe_snoc, ha])
    · rw [decide_eq_false (show ¬ Int.ofNat j < Int.ofNat x.length by simp; omega), cond_false]
      rw [List.take_of_length_le (by omega)] at ha
      rw [ha]
theorem number_f (k : Nat) (hk : 1000 < k) {h : H} {s : Sl} {x : List UInt8} (r : SlR 1 h s (byt x)) (hx : x.length ≤ 8) : ask_number.f k s h = some (Int.ofNat (unbe x), h) := by
  unfold ask_number.f
  have := number_l0 k r hx k 0 0 (by omega) (Nat.zero_le _) rfl
  rw [r.n_byt, show (0 : Int) = Int.ofNat 0 from rfl, this]; rfl

/-! ### requests -/
structure Rq where
  fl : Nat
  ty : Nat
  ck : Nat
  off : Nat
  le : Nat
  data : List UInt8
def Rq.zero : Rq := ⟨0, 0, 0, 0, 0, []⟩
def rqV (fl ty ck off le : Int) (d : Sl) : List Value := [.int .i64 fl, .int .i64 ty, .int .u64 ck, .int .u64 off, .int .i64 le, slv d]
abbrev RqT : Type := Int × Int × Int × Int × Int × Sl
def Rq.tup (q : Rq) (d : Sl) : RqT := (Int.ofNat q.fl, Int.ofNat q.ty, Int.ofNat q.ck, Int.ofNat q.off, Int.ofNat q.le, d)
def Rq.vs (q : Rq) (d : Sl) : List Value := rqV (Int.ofNat q.fl) (Int.ofNat q.ty) (Int.ofNat q.ck) (Int.ofNat q.off) (Int.ofNat q.le) d
theorem bindRq {β : Type} (fl ty ck off le : Int) (d : Sl) (f : FT [.int .i64, .int .i64, .int .u64, .int .u64, .int .i64, .sl] → Option β) : (asSt [(.int .i64), (.int .i64), (.int .u64), (.int .u64), (.int .i64), .sl] (some (Value.agg (rqV fl ty ck off le d).toArray))).bind f = f (show FT [.int .i64, .int .i64, .int .u64, .int .u64, .int .i64, .sl] from ((fl, ty, ck, off, le, d) : RqT)) := rfl
theorem Is.rq {h : H} {b e es : Nat} {fl ty ck off le : Int} {d : Sl} (I : Is h b e es (rqV fl ty ck off le d)) : lda 6 h (some ⟨b, 0, none⟩) = some (.agg (rqV fl ty ck off le d).toArray) := by
  rw [I.lda (o := 0) (n := 6) (Nat.le_refl _)]; rfl
def layP (q : Rq) : List UInt8 := beN 627086611 4 ++ beN q.fl 2 ++ beN q.ty 2 ++ beN q.ck 8 ++ beN q.off 8 ++ beN q.le 4 ++ q.data
theorem lay_f (k : Nat) (hk : 1000 < k) {h : H} (w : WF h) (q : Rq) (d : Sl) (r : SlR 1 h d (byt q.data)) (hf : q.fl < 9223372036854775808) (ht : q.ty < 9223372036854775808) (hl : q.le < 9223372036854775808) (hd : q.data.length ≤ 1000000) :
    ∃ s' h', ask_Lay.f k (q.tup d) h = some (s', h') ∧ Ch0 h h' ∧ Ow 5 1 h' s' (byt (layP q)) ∧ ∀ b, SlB s' b → h.next ≤ b := by
  unfold ask_Lay.f Rq.tup
  dsimp only
  rw [show [Value.int .i64 (Int.ofNat q.fl), Value.int .i64 (Int.ofNat q.ty), Value.int .u64 (Int.ofNat q.ck), Value.int .u64 (Int.ofNat q.off), Value.int .i64 (Int.ofNat q.le), Value.slice d.a d.n d.c] = q.vs d from rfl]
  obtain ⟨z1, z2, z3⟩ := newR_ok w 29 6 (q.vs d)
  generalize newR h 29 6 (q.vs d) = g0 at z1 z2 z3 ⊢
  obtain ⟨s1, g1, a1, a2, a3, a4⟩ := bytes_f k hk 627086611 4 (by decide) z1.wf 627086611 rfl 4 rfl
  rw [a1]
  have I1 := z3.stay z1.wf a2
  simp only [Option.bind_some, I1.ldc]
  simp only [Rq.vs, rqV, List.getElem?_cons_zero, asI_int, Option.bind_some]
  rw [wrap_u64 (n := Int.ofNat q.fl) (by simp only [Int.ofNat_eq_natCast]; omega) (by simp only [Int.ofNat_eq_natCast]; omega)]
  obtain ⟨s2, g2, b1, b2, b3, b4⟩ := bytes_f k hk q.fl 2 (by decide) a2.wf (Int.ofNat q.fl) rfl 2 rfl
  rw [b1]
  have I2 := I1.stay a2.wf b2
  simp only [Option.bind_some, I2.ldc]
  simp only [Rq.vs, rqV, List.getElem?_cons_succ, List.getElem?_cons_zero, asI_int, Option.bind_some]
  rw [wrap_u64 (n := Int.ofNat q.ty) (by simp only [Int.ofNat_eq_natCast]; omega) (by simp only [Int.ofNat_eq_natCast]; omega)]
  obtain ⟨s3, g3, c1, c2, c3, c4⟩ := bytes_f k hk q.ty 2 (by decide) b2.wf (Int.ofNat q.ty) rfl 2 rfl
  rw [c1]
  have I3 := I2.stay b2.wf c2
  simp only [Option.bind_some, I3.ldc]
  simp only [Rq.vs, rqV, List.getElem?_cons_succ, List.getElem?_cons_zero, asI_int, Option.bind_some]
  obtain ⟨s4, g4, d1, d2, d3, d4⟩ := bytes_f k hk q.ck 8 (by decide) c2.wf (Int.ofNat q.ck) rfl 8 rfl
  rw [d1]
  have I4 := I3.stay c2.wf d2
  simp only [Option.bind_some, I4.ldc]
  simp only [Rq.vs, rqV, List.getElem?_cons_succ, List.getElem?_cons_zero, asI_int, Option.bind_some]
  obtain ⟨s5, g5, e1, e2, e3, e4⟩ := bytes_f k hk q.off 8 (by decide) d2.wf (Int.ofNat q.off) rfl 8 rfl
  rw [e1]
  have I5 := I4.stay d2.wf e2
  simp only [Option.bind_some, I5.ldc]
  simp only [Rq.vs, rqV, List.getElem?_cons_succ, List.getElem?_cons_zero, asI_int, Option.bind_some]
  rw [wrap_u64 (n := Int.ofNat q.le) (by simp only [Int.ofNat_eq_natCast]; omega) (by simp only [Int.ofNat_eq_natCast]; omega)]
  obtain ⟨s6, g6, f1, f2, f3, f4⟩ := bytes_f k hk q.le 4 (by decide) e2.wf (Int.ofNat q.le) rfl 4 rfl
  rw [f1]
  have I6 := I5.stay e2.wf f2
  simp only [Option.bind_some, I6.ldc]
  simp only [Rq.vs, rqV, List.getElem?_cons_succ, List.getElem?_cons_zero, asS_slv, Option.bind_some]
  let ps : Parts := [(s1, beN 627086611 4), (s2, beN q.fl 2), (s3, beN q.ty 2), (s4, beN q.ck 8), (s5, beN q.off 8), (s6, beN q.le 4), (d, q.data)]
  rw [show [Value.slice s1.a s1.n s1.c, Value.slice s2.a s2.n s2.c, Value.slice s3.a s3.n s3.c, Value.slice s4.a s4.n s4.c, Value.slice s5.a s5.n s5.c, Value.slice s6.a s6.n s6.c, Value.slice d.a d.n d.c] = ps.map fun p => slv p.1 from rfl]
  obtain ⟨y1, y2, y3⟩ := newR_ok f2.wf 25 1 (ps.map fun p => slv p.1)
  have c16 : Ch0 g1 g6 := (((b2.then c2).then d2).then e2).then f2
  have hps : PartsR g6 ps := by
    intro p hp
    simp only [ps, List.mem_cons, List.not_mem_nil, or_false] at hp
    rcases hp with rfl | rfl | rfl | rfl | rfl | rfl | rfl
    · exact a3.slr.stay a2.wf c16
    · exact b3.slr.stay b2.wf (((c2.then d2).then e2).then f2)
    · exact c3.slr.stay c2.wf ((d2.then e2).then f2)
    · exact d3.slr.stay d2.wf (e2.then f2)
    · exact e3.slr.stay e2.wf f2
    · exact f3.slr
    · exact r.stay w ((z1.then a2).then c16)
  obtain ⟨s', h', v1, v2, v3, v4⟩ := concat_f k hk y1.wf (ps := ps) (SlR.of_is y3 (n := 7) rfl (by unfold unk; omega)) (hps.stay f2.wf y1) (by show 7 < 1000; decide) (by
    show (beN 627086611 4).length + ((beN q.fl 2).length + ((beN q.ty 2).length + ((beN q.ck 8).length + ((beN q.off 8).length + ((beN q.le 4).length + (q.data.length + 0)))))) ≤ _
    simp only [beN_len]; omega)
  rw [v1]
  simp only [Option.bind_some]
  have bz : h.next < g0.next := by omega
  have k1 := a2.keep h.next bz fun f => f
  have l1 := a2.le
  have k2 := b2.keep h.next (by omega) fun f => f
  have l2 := b2.le
  have k3 := c2.keep h.next (by omega) fun f => f
  have l3 := c2.le
  have k4 := d2.keep h.next (by omega) fun f => f
  have l4 := d2.le
  have k5 := e2.keep h.next (by omega) fun f => f
  have l5 := e2.le
  have k6 := f2.keep h.next (by omega) fun f => f
  have l6 := f2.le
  simp only [same1_of k1, same1_of k2, same1_of k3, same1_of k4, same1_of k5, same1_of k6, Bool.and_self, cond_true]
  refine ⟨s', h', rfl, (((z1.then a2).then c16).then y1).then v2, ?_, fun b hb => by have := v4 b hb; omega⟩
  have : joined ps = layP q := by
    unfold joined layP
    simp only [ps, List.map_cons, List.map_nil, List.flatten_cons, List.flatten_nil, List.append_nil, List.append_assoc]
  rw [← this]; exact v3
end Go.Proofs.Ythpkhegoamhgeaa.Fw
