/- chapter 7's platter, said plainly: the reference. No condition. -/
import Derived.Test.YtbegaeohggkblaaFwPlat2
import Derived.Test.YtbegaeohggkblaaDenHq
import Derived.Lib.Strings
namespace Go.Proofs.Ytbegaeohggkblaa.Fw
open Go Den Fwd
set_option linter.unusedVariables false
set_option linter.unusedSimpArgs false
def ba (l : List UInt8) : ByteArray := ⟨l.toArray⟩
theorem ba_eq (a b : List UInt8) : ((ba a).toList == (ba b).toList) = decide (a = b) := by
  have e : ∀ l : List UInt8, (ba l).toList = l := fun l => by
    rw [Lib.toList_data]; rfl
  rw [e, e]
  by_cases c : a = b
  · subst c; simp
  · rw [decide_eq_false c]; exact beq_eq_false_iff_ne.2 c
theorem Ch0.at {h0 h h' : H} {r : Nat} (c : Ch0 h0 h) (d : Ch (fun b => b = r) h h') (hr : h0.next ≤ r) : Ch0 h0 h' := c.trans d fun x hx f => by omega
theorem Ch0.own {h0 h h' : H} {s : Sl} (c : Ch0 h0 h) (d : Ch (SlB s) h h') (hs : ∀ b, SlB s b → h0.next ≤ b) : Ch0 h0 h' :=
  c.trans d fun x hx f => by have := hs x f; omega
structure Rf where
  done : List (List UInt8)
  pend : List (Int × List UInt8)
  writes : Int
def strs (l : List (List UInt8)) : List Value := l.map fun x => .string (ba x)
def qcs (l : List (Int × List UInt8)) : List Value := (l.map fun x => [Value.int .i64 x.1, .string (ba x.2)]).flatten
theorem strs_len (l : List (List UInt8)) : (strs l).length = l.length := List.length_map _
theorem strs_get (l : List (List UInt8)) (i : Nat) : (strs l)[i]? = (l[i]?).map fun x => .string (ba x) := by unfold strs; rw [List.getElem?_map]
theorem strs_one (l : List (List UInt8)) : (strs l).all Den.one = true := by unfold strs; rw [List.all_map, List.all_eq_true]; intro x _; rfl
theorem qcs_len (l : List (Int × List UInt8)) : (qcs l).length = l.length * 2 := by
  unfold qcs
  rw [flatten_len (es := 2) _ (fun x hx => by obtain ⟨p, _, rfl⟩ := List.mem_map.1 hx; rfl), List.length_map]
theorem qcs_one (l : List (Int × List UInt8)) : (qcs l).all Den.one = true := by
  unfold qcs
  rw [List.all_eq_true]
  intro v hv
  obtain ⟨x, hx, hv⟩ := List.mem_flatten.1 hv
  obtain ⟨p, _, rfl⟩ := List.mem_map.1 hx
  simp only [List.mem_cons, List.not_mem_nil, or_false] at hv
  rcases hv with rfl | rfl <;> rfl
theorem qcs_snoc (l : List (Int × List UInt8)) (x : Int × List UInt8) : qcs (l ++ [x]) = qcs l ++ [.int .i64 x.1, .string (ba x.2)] := by unfold qcs; simp
theorem qcs_at (l : List (Int × List UInt8)) {k : Nat} (hk : k < l.length) : ((qcs l).drop (k * 2)).take 2 = [.int .i64 l[k].1, .string (ba l[k].2)] := by
  induction l generalizing k with
  | nil => simp at hk
  | cons p ps ih =>
    have e : qcs (p :: ps) = [.int .i64 p.1, .string (ba p.2)] ++ qcs ps := by unfold qcs; simp
    cases k with
    | zero => rw [e]; rfl
    | succ k =>
      rw [e, show (k + 1) * 2 = 2 + k * 2 by omega, ← List.drop_drop]
      exact ih (by simpa using hk)
structure RfR (h : H) (q : Nat) (Mr : Nat → Prop) (st : Rf) : Prop where
  ex : ∃ sD sQ, Is h q 65 3 [slv sD, slv sQ, .int .i64 st.writes] ∧ SlR 1 h sD (strs st.done) ∧ SlR 2 h sQ (qcs st.pend) ∧ (∀ b, SlB sD b → Mr b ∧ b ≠ q) ∧ (∀ b, SlB sQ b → Mr b ∧ b ≠ q)
  mq : Mr q
  lt : ∀ b, Mr b → b < h.next
theorem RfR.keep {h h' : H} {q : Nat} {Mr : Nat → Prop} {st : Rf} {F : Nat → Prop} (r : RfR h q Mr st) (c : Ch F h h') (hF : ∀ b, Mr b → ¬ F b) : RfR h' q Mr st := by
  obtain ⟨sD, sQ, r1, r2, r3, r4, r5⟩ := r.ex
  have k : ∀ b, Mr b → h'.get b = h.get b := fun b hb => c.keep b (r.lt b hb) (hF b hb)
  exact ⟨⟨sD, sQ, r1.keep (k q r.mq), r2.keep fun b hb => k b (r4 b hb).1, r3.keep fun b hb => k b (r5 b hb).1, r4, r5⟩, r.mq, fun b hb => Nat.lt_of_lt_of_le (r.lt b hb) c.le⟩
/-- a pending write, read -/
theorem qAt {h : H} {s : Sl} {l : List (Int × List UInt8)} (r : SlR 2 h s (qcs l)) {j : Nat} (hj : j < l.length) : ∃ b o, ixs 2 s.a s.n (Int.ofNat j) = some (.pointer (some ⟨b, o, none⟩)) ∧ lda 2 h (some ⟨b, o, none⟩) = some (.agg #[.int .i64 l[j].1, .string (ba l[j].2)]) ∧ ldc h (some ⟨b, o, none⟩) = some (.int .i64 l[j].1) ∧ ldc h (some ⟨b, o + 1, none⟩) = some (.string (ba l[j].2)) := by
  have hn : s.n = l.length := by have := r.len; rw [qcs_len] at this; omega
  obtain ⟨b, o, h1, h2⟩ := r.elem (j := j) (by omega)
  rw [qcs_at l hj] at h2
  refine ⟨b, o, h1, ?_, ?_, ?_⟩
  · show (match h.gets b o 2 with | some vs => some (Value.agg vs.toArray) | none => none) = _
    rw [h2]
  · have := gets_cell h2 (i := 0) (by omega)
    rw [Nat.add_zero] at this
    exact this
  · exact gets_cell h2 (i := 1) (by omega)
theorem bindQ {β : Type} (a : Int) (s : ByteArray) (f : FT [.int .i64, .str] → Option β) : (asSt [(.int .i64), .str] (some (Value.agg #[.int .i64 a, .string s]))).bind f = f (show FT [.int .i64, .str] from ((a, s) : Int × ByteArray)) := rfl
/-- a block set -/
theorem rset_f (k : Nat) {h : H} (w : WF h) {q : Nat} {Mr : Nat → Prop} {st : Rf} (r : RfR h q Mr st) {j : Nat} (hj : j < st.done.length) (hd : st.done.length ≤ 1000) (x : List UInt8) :
    ∃ h' Mr', corbelref7_Platter_set.f k (some ⟨q, 0, none⟩) (Int.ofNat j, ba x) h = some ((), h') ∧ Ch (fun b => b = q) h h' ∧ RfR h' q Mr' ⟨st.done.set j x, st.pend, st.writes⟩ ∧ ∀ b, Mr' b → Mr b ∨ h.next ≤ b := by
  obtain ⟨sD, sQ, r1, r2, r3, r4, r5⟩ := r.ex
  unfold corbelref7_Platter_set.f
  dsimp only
  obtain ⟨z1, z2, z3⟩ := newR_ok w 67 2 [Value.int .i64 (Int.ofNat j), Value.string (ba x)]
  generalize newR h 67 2 [Value.int .i64 (Int.ofNat j), Value.string (ba x)] = g0 at z1 z2 z3 ⊢
  obtain ⟨y1, y2, y3⟩ := newR_ok z1.wf 9 1 []
  generalize newR g0 9 1 [] = g1 at y1 y2 y3 ⊢
  have c1 := z1.then y1
  have I1 := r1.stay w c1
  simp only [nilA, asP_ptr, Option.bind_some, fadd, I1.ldc, List.getElem?_cons_zero, Nat.add_zero, asS_slv]
  have ow : Ow 9 1 g1 ⟨some ⟨g0.next, 0, none⟩, 0, 0⟩ [] := Ow.of_is y3 rfl (by unfold unk; omega)
  have hn : sD.n = st.done.length := by have := r2.len; rw [strs_len] at this; omega
  obtain ⟨s', g2, e1, e2, e3, e4, e5⟩ := apv_ok (by_ := 16) y1.wf ow (by decide) (r2.stay w c1) (by rw [hn]; show (0 + st.done.length) * 16 ≤ _; omega) (strs_one _)
  rw [e1]
  simp only [Option.bind_some]
  have fb : ∀ b, SlB ⟨some ⟨g0.next, 0, none⟩, 0, 0⟩ b → g0.next ≤ b := fun b hb => by obtain ⟨o, f⟩ := hb; have : g0.next = b := congrArg Addr.block (Option.some.inj f); omega
  have c2 : Ch0 g0 g2 := Ch0.own y1 e2 fb
  have f2 : ∀ b, SlB s' b → g0.next ≤ b := fun b hb => (e5 b hb).elim (fb b) fun f => by omega
  have Z2 := z3.stay z1.wf c2
  rw [Z2.ldc, Z2.ldc]
  rw [show ([Value.int .i64 (Int.ofNat j), Value.string (ba x)] : List Value)[0]? = some (.int .i64 (Int.ofNat j)) from rfl, show asT (([Value.int .i64 (Int.ofNat j), Value.string (ba x)] : List Value)[1]?) = some (ba x) from rfl]
  simp only [asI_int, Option.bind_some]
  rw [List.nil_append] at e3
  obtain ⟨pa, g3, a1, a2, a3, a4, a5⟩ := Ow.store e2.wf e3 (j := j) (by rw [strs_len]; exact hj) (.string (ba x)) rfl
  rw [a1]
  simp only [asP_ptr, Option.bind_some, a2]
  have ql := r.lt q r.mq
  have I3 := (r1.stay w (z1.then c2)).keep (a3.keep q (by have := z1.le; have := c2.le; omega) fun f => by have := f2 q f; omega)
  obtain ⟨g4, b1, b2, b3, b4⟩ := I3.set a3.wf 0 (slv s') (by show 0 < 3; decide) rfl
  rw [show [Value.slice s'.a s'.n s'.c] = [slv s'] from rfl, b1]
  have l0 := z1.le
  have l2 := c2.le
  have C : Ch (fun b => b = q) h g4 := by
    refine ⟨b2.wf, by omega, fun b hb hq => (b2.keep b (by omega) hq).trans ((a3.keep b (by omega) fun f => by have := f2 b f; omega).trans ((z1.then c2).keep b hb fun f => f))⟩
  have hover : over (strs st.done) j [.string (ba x)] = strs (st.done.set j x) := by
    apply List.ext_getElem?
    intro i
    rw [over_get (by rw [strs_len]; simp; omega), strs_get, strs_get, List.getElem?_set]
    by_cases c : j = i
    · subst c
      rw [if_pos ⟨Nat.le_refl _, by simp⟩, Nat.sub_self, if_pos rfl, if_pos hj]; rfl
    · rw [if_neg (by simp; omega), if_neg c]
  rw [hover] at a5
  refine ⟨g4, fun b => Mr b ∨ SlB s' b, rfl, C, ⟨⟨s', sQ, b4, (a5.keep fun b hb => b2.keep b (a5.lt a3.wf hb) (by have := f2 b hb; omega)).slr, r3.keep fun b hb => C.keep b (r3.blk w hb) (r5 b hb).2, fun b hb => ⟨.inr hb, by have := f2 b hb; omega⟩, fun b hb => ⟨.inl (r5 b hb).1, (r5 b hb).2⟩⟩, .inl r.mq, fun b hb => ?_⟩, fun b hb => ?_⟩
  · rcases hb with hb | hb
    · exact Nat.lt_of_lt_of_le (r.lt b hb) C.le
    · have := a5.lt a3.wf hb; omega
  · rcases hb with hb | hb
    · exact .inl hb
    · have := f2 b hb; exact .inr (by omega)
def applyAll (l : List (Int × List UInt8)) (d : List (List UInt8)) : List (List UInt8) := l.foldl (fun d x => d.set x.1.toNat x.2) d
theorem applyAll_len : ∀ (l : List (Int × List UInt8)) (d : List (List UInt8)), (applyAll l d).length = d.length
  | [], _ => rfl
  | x :: l, d => by
    show (applyAll l (d.set x.1.toNat x.2)).length = _
    rw [applyAll_len l]; simp
theorem applyAll_snoc (l : List (Int × List UInt8)) (x : Int × List UInt8) (d : List (List UInt8)) : applyAll (l ++ [x]) d = (applyAll l d).set x.1.toNat x.2 := by unfold applyAll; rw [List.foldl_append]; rfl
def InR (N : Nat) (l : List (Int × List UInt8)) : Prop := ∀ x ∈ l, ∃ a : Nat, a < N ∧ x.1 = Int.ofNat a
theorem rflush_l0 (k : Nat) {q : Nat} {h0 : H} {st0 : Rf} (hin : InR st0.done.length st0.pend) (hd : st0.done.length ≤ 1000) (hp : st0.pend.length ≤ 1000) {Mr0 : Nat → Prop} : ∀ n j h Mr, st0.pend.length - j < n → j ≤ st0.pend.length → Ch (fun b => b = q) h0 h → RfR h q Mr ⟨applyAll (st0.pend.take j) st0.done, st0.pend, st0.writes⟩ → (∀ b, Mr b → Mr0 b ∨ h0.next ≤ b) →
    ∃ h' Mr', corbelref7_Platter_Flush.l0 k n (some ⟨q, 0, none⟩) (Int.ofNat j) h = some ((), h') ∧ Ch (fun b => b = q) h0 h' ∧ RfR h' q Mr' ⟨applyAll st0.pend st0.done, st0.pend, st0.writes⟩ ∧ ∀ b, Mr' b → Mr0 b ∨ h0.next ≤ b
  | 0, j, h, Mr, hn, _, _, _, _ => by omega
  | n + 1, j, h, Mr, hn, hj, hc, r, hm => by
    rw [corbelref7_Platter_Flush.l0_succ]
    obtain ⟨sD, sQ, r1, r2, r3, r4, r5⟩ := r.ex
    simp only [nilA, asP_ptr, Option.bind_some, fadd, r1.ldc]
    simp only [Nat.zero_add, List.getElem?_cons_succ, List.getElem?_cons_zero, asS_slv, Option.bind_some]
    have r3 : SlR 2 h sQ (qcs st0.pend) := r3
    have hn2 : sQ.n = st0.pend.length := by have := r3.len; rw [qcs_len] at this; omega
    rw [hn2]
    by_cases c : j < st0.pend.length
    · rw [decide_eq_true (show Int.ofNat j < Int.ofNat st0.pend.length by simp; omega), cond_true]
      obtain ⟨b, o, e1, e2, _, _⟩ := qAt r3 c
      rw [hn2] at e1
      rw [e1]
      simp only [asP_ptr, Option.bind_some]
      rw [e2, bindQ]
      dsimp only
      obtain ⟨a, ha, ha2⟩ := hin _ (List.getElem_mem c)
      rw [ha2]
      obtain ⟨h1, Mr1, s1, s2, s3, s4⟩ := rset_f k hc.wf r (j := a) (by show a < (applyAll _ _).length; rw [applyAll_len]; exact ha) (by show (applyAll _ _).length ≤ _; rw [applyAll_len]; exact hd) st0.pend[j].2
      rw [s1]
      simp only [Option.bind_some]
      rw [wrap_succ (by omega)]
      have ht : st0.pend.take (j + 1) = st0.pend.take j ++ [st0.pend[j]] := by simp
      have e : applyAll (st0.pend.take (j + 1)) st0.done = (applyAll (st0.pend.take j) st0.done).set a st0.pend[j].2 := by
        rw [ht, applyAll_snoc, ha2]; rfl
      rw [← e] at s3
      exact rflush_l0 k hin hd hp n (j + 1) h1 Mr1 (by omega) (by omega) (hc.trans s2 fun _ _ f => f) s3 fun b hb => (s4 b hb).elim (hm b) fun f => .inr (Nat.le_trans hc.le f)
    · rw [decide_eq_false (show ¬ Int.ofNat j < Int.ofNat st0.pend.length by simp; omega), cond_false]
      rw [List.take_of_length_le (by omega)] at r
      exact ⟨h, Mr, rfl, hc, r, hm⟩
/-- nothing pends any more -/
theorem rclear {h : H} (w : WF h) {q : Nat} {Mr : Nat → Prop} {st : Rf} (r : RfR h q Mr st) : ∃ h', stv 1 h (some ⟨q, 1, none⟩) [Value.slice none 0 0] = some (undef, h') ∧ Ch (fun b => b = q) h h' ∧ RfR h' q Mr ⟨st.done, [], st.writes⟩ := by
  obtain ⟨sD, sQ, r1, r2, r3, r4, r5⟩ := r.ex
  obtain ⟨h', b1, b2, b3, b4⟩ := r1.set w 1 (slv ⟨none, 0, 0⟩) (by show 1 < 3; decide) rfl
  exact ⟨h', b1, b2, ⟨sD, ⟨none, 0, 0⟩, b4, r2.keep fun b hb => b2.keep b (r2.blk w hb) (r4 b hb).2, .inl ⟨rfl, .inl rfl⟩, r4, fun b hb => by obtain ⟨o, f⟩ := hb; cases f⟩, r.mq, fun b hb => Nat.lt_of_lt_of_le (r.lt b hb) b2.le⟩
theorem rflush_f (k : Nat) (hk : 2000 < k) {h : H} (w : WF h) {q : Nat} {Mr : Nat → Prop} {st : Rf} (r : RfR h q Mr st) (hin : InR st.done.length st.pend) (hd : st.done.length ≤ 1000) (hp : st.pend.length ≤ 1000) :
    ∃ h' Mr', corbelref7_Platter_Flush.f k (some ⟨q, 0, none⟩) h = some ((), h') ∧ Ch (fun b => b = q) h h' ∧ RfR h' q Mr' ⟨applyAll st.pend st.done, [], st.writes⟩ ∧ ∀ b, Mr' b → Mr b ∨ h.next ≤ b := by
  unfold corbelref7_Platter_Flush.f
  obtain ⟨h1, Mr1, a1, a2, a3, a4⟩ := rflush_l0 k (q := q) hin hd hp k 0 h Mr (by omega) (Nat.zero_le _) (Ch.refl w) r fun b hb => .inl hb
  rw [show (0 : Int) = Int.ofNat 0 from rfl, a1]
  simp only [nilA, asP_ptr, Option.bind_some, fadd]
  obtain ⟨h2, b1, b2, b3⟩ := rclear a2.wf a3
  rw [show (0 + 1 : Nat) = 1 from rfl, b1]
  exact ⟨h2, Mr1, rfl, a2.trans b2 fun _ _ f => f, b3, a4⟩
theorem rin_l0 (k : Nat) {h : H} {s : Sl} {l : List Int} (r : SlR 1 h s (ivs l)) (hb : l.length < 9223372036854775807) (x : Int) : ∀ n j, l.length - j < n → j ≤ l.length → (∀ i, i < j → l[i]? ≠ some x) →
    corbelref7_in.l0 k n s x (Int.ofNat j) h = some (if x ∈ l then .inl true else .inr (), h)
  | 0, j, hn, _, _ => by omega
  | n + 1, j, hn, hj, hno => by
    rw [corbelref7_in.l0_succ]
    have hl := r.len
    rw [ivs_len, Nat.mul_one] at hl
    rw [← hl]
    by_cases c : j < l.length
    · rw [decide_eq_true (show Int.ofNat j < Int.ofNat l.length by simp; omega), cond_true]
      obtain ⟨p, h1, h2⟩ := SlR.int r (List.getElem?_eq_getElem c)
      rw [hl, h1]
      simp only [asP_ptr, Option.bind_some, h2, asI_int]
      by_cases q : l[j] = x
      · rw [show (l[j] == x) = true from beq_iff_eq.2 q, cond_true, if_pos (by rw [← q]; exact List.getElem_mem c)]
      · rw [show (l[j] == x) = false from beq_eq_false_iff_ne.2 q, cond_false, wrap_succ (by omega)]
        refine rin_l0 k r hb x n (j + 1) (by omega) (by omega) fun i hi => ?_
        by_cases e : i = j
        · subst e
          rw [List.getElem?_eq_getElem c]
          intro h; cases h; exact q rfl
        · exact hno i (by omega)
    · rw [decide_eq_false (show ¬ Int.ofNat j < Int.ofNat l.length by simp; omega), cond_false, if_neg]
      intro hm
      obtain ⟨i, hi, rfl⟩ := List.mem_iff_getElem.1 hm
      exact hno i (by omega) (List.getElem?_eq_getElem hi)
theorem rin_f (k : Nat) {h : H} {s : Sl} {l : List Int} (r : SlR 1 h s (ivs l)) (hk : l.length < k) (hb : l.length < 9223372036854775807) (x : Int) : corbelref7_in.f k s x h = some (decide (x ∈ l), h) := by
  unfold corbelref7_in.f
  have := rin_l0 k r hb x k 0 (by omega) (Nat.zero_le _) fun i hi => by omega
  rw [show (0 : Int) = Int.ofNat 0 from rfl, this]
  by_cases c : x ∈ l
  · rw [if_pos c, decide_eq_true c]; rfl
  · rw [if_neg c, decide_eq_false c]; rfl
theorem crashD_take (keep : List Int) (q : Int × List UInt8) (l : List (Int × List UInt8)) : ∀ (i : Nat) (d : List (List UInt8)), crashD keep i (l ++ [q]) d = if Int.ofNat (i + l.length) ∈ keep then (crashD keep i l d).set q.1.toNat q.2 else crashD keep i l d := by
  induction l with
  | nil => intro i d; rfl
  | cons x l ih => intro i d; rw [List.cons_append, crashD, ih, crashD, List.length_cons, show i + 1 + l.length = i + (l.length + 1) by omega]
theorem rcrash_l0 (k : Nat) {q : Nat} {h0 : H} (w0 : WF h0) {ks : Sl} {keep : List Int} (rk : SlR 1 h0 ks (ivs keep)) (hkq : ¬ SlB ks q) (hkl : keep.length < k) (hkl2 : keep.length < 9223372036854775807) {st0 : Rf} (hin : InR st0.done.length st0.pend) (hd : st0.done.length ≤ 1000) (hp : st0.pend.length ≤ 1000) {Mr0 : Nat → Prop} : ∀ n j h Mr, st0.pend.length - j < n → j ≤ st0.pend.length → Ch (fun b => b = q) h0 h → RfR h q Mr ⟨crashD keep 0 (st0.pend.take j) st0.done, st0.pend, st0.writes⟩ → (∀ b, Mr b → Mr0 b ∨ h0.next ≤ b) →
    ∃ h' Mr', corbelref7_Platter_Crash.l0 k n (some ⟨q, 0, none⟩) ks (Int.ofNat j) h = some ((), h') ∧ Ch (fun b => b = q) h0 h' ∧ RfR h' q Mr' ⟨crashD keep 0 st0.pend st0.done, st0.pend, st0.writes⟩ ∧ ∀ b, Mr' b → Mr0 b ∨ h0.next ≤ b
  | 0, j, h, Mr, hn, _, _, _, _ => by omega
  | n + 1, j, h, Mr, hn, hj, hc, r, hm => by
    rw [corbelref7_Platter_Crash.l0_succ]
    obtain ⟨sD, sQ, r1, r2, r3, r4, r5⟩ := r.ex
    simp only [nilA, asP_ptr, Option.bind_some, fadd, r1.ldc]
    simp only [Nat.zero_add, List.getElem?_cons_succ, List.getElem?_cons_zero, asS_slv, Option.bind_some]
    have r3 : SlR 2 h sQ (qcs st0.pend) := r3
    have hn2 : sQ.n = st0.pend.length := by have := r3.len; rw [qcs_len] at this; omega
    rw [show Int.ofNat sQ.n = Int.ofNat st0.pend.length by rw [hn2]]
    by_cases c : j < st0.pend.length
    · rw [decide_eq_true (show Int.ofNat j < Int.ofNat st0.pend.length by simp; omega), cond_true]
      have rk' := rk.keep (h' := h) fun b hb => hc.keep b (rk.blk w0 hb) fun f => hkq (by subst f; exact hb)
      rw [rin_f k rk' hkl hkl2]
      simp only [Option.bind_some]
      have ht : st0.pend.take (j + 1) = st0.pend.take j ++ [st0.pend[j]] := by simp
      have htl : (st0.pend.take j).length = j := by rw [List.length_take]; omega
      have e : crashD keep 0 (st0.pend.take (j + 1)) st0.done = if Int.ofNat j ∈ keep then (crashD keep 0 (st0.pend.take j) st0.done).set st0.pend[j].1.toNat st0.pend[j].2 else crashD keep 0 (st0.pend.take j) st0.done := by
        rw [ht, crashD_take, htl, Nat.zero_add]
      by_cases d : Int.ofNat j ∈ keep
      · rw [decide_eq_true d, cond_true]
        simp only [r1.ldc]
        simp only [Nat.zero_add, List.getElem?_cons_succ, List.getElem?_cons_zero, asS_slv, Option.bind_some]
        obtain ⟨b, o, e1, e2, _, _⟩ := qAt r3 c
        rw [e1]
        simp only [asP_ptr, Option.bind_some]
        rw [e2, bindQ]
        dsimp only
        obtain ⟨a, ha, ha2⟩ := hin _ (List.getElem_mem c)
        rw [if_pos d, ha2] at e
        rw [ha2]
        obtain ⟨h1, Mr1, s1, s2, s3, s4⟩ := rset_f k hc.wf r (j := a) (by show a < (crashD _ _ _ _).length; rw [crashD_len]; exact ha) (by show (crashD _ _ _ _).length ≤ _; rw [crashD_len]; exact hd) st0.pend[j].2
        rw [s1]
        simp only [Option.bind_some]
        rw [wrap_succ (by omega)]
        have e' : crashD keep 0 (st0.pend.take (j + 1)) st0.done = (crashD keep 0 (st0.pend.take j) st0.done).set a st0.pend[j].2 := e
        rw [← e'] at s3
        exact rcrash_l0 k w0 rk hkq hkl hkl2 hin hd hp n (j + 1) h1 Mr1 (by omega) (by omega) (hc.trans s2 fun _ _ f => f) s3 fun b hb => (s4 b hb).elim (hm b) fun f => .inr (Nat.le_trans hc.le f)
      · rw [decide_eq_false d, cond_false]
        simp only [Option.bind_some]
        rw [wrap_succ (by omega)]
        rw [if_neg d] at e
        rw [← e] at r
        exact rcrash_l0 k w0 rk hkq hkl hkl2 hin hd hp n (j + 1) h Mr (by omega) (by omega) hc r hm
    · rw [decide_eq_false (show ¬ Int.ofNat j < Int.ofNat st0.pend.length by simp; omega), cond_false]
      rw [List.take_of_length_le (by omega)] at r
      exact ⟨h, Mr, rfl, hc, r, hm⟩
theorem rcrash_f (k : Nat) (hk : 2000 < k) {h : H} (w : WF h) {q : Nat} {Mr : Nat → Prop} {st : Rf} (r : RfR h q Mr st) {ks : Sl} {keep : List Int} (rk : SlR 1 h ks (ivs keep)) (hkq : ¬ SlB ks q) (hkl : keep.length < 1000) (hin : InR st.done.length st.pend) (hd : st.done.length ≤ 1000) (hp : st.pend.length ≤ 1000) :
    ∃ h' Mr', corbelref7_Platter_Crash.f k (some ⟨q, 0, none⟩) ks h = some ((), h') ∧ Ch (fun b => b = q) h h' ∧ RfR h' q Mr' ⟨crashD keep 0 st.pend st.done, [], st.writes⟩ ∧ ∀ b, Mr' b → Mr b ∨ h.next ≤ b := by
  unfold corbelref7_Platter_Crash.f
  obtain ⟨h1, Mr1, a1, a2, a3, a4⟩ := rcrash_l0 k (q := q) w rk hkq (by omega) (by omega) hin hd hp k 0 h Mr (by omega) (Nat.zero_le _) (Ch.refl w) r fun b hb => .inl hb
  rw [show (0 : Int) = Int.ofNat 0 from rfl, a1]
  simp only [nilA, asP_ptr, Option.bind_some, fadd]
  obtain ⟨h2, b1, b2, b3⟩ := rclear a2.wf a3
  rw [show (0 + 1 : Nat) = 1 from rfl, b1]
  exact ⟨h2, Mr1, rfl, a2.trans b2 fun _ _ f => f, b3, a4⟩
/-- 160 zeroes, as a string -/
theorem zeroStr {h : H} (w : WF h) : Ch0 h (newZ h 5 1 [Value.int .u8 (0 : Int)] 160) ∧ (newZ h 5 1 [Value.int .u8 (0 : Int)] 160).next = h.next + 1 ∧ asT (txt (newZ h 5 1 [Value.int .u8 (0 : Int)] 160) (Value.slice (some ⟨h.next, 0, none⟩) 160 160)) = some (ba zeros160) := by
  obtain ⟨z1, z2, z3⟩ := newZ_ok w 5 1 (.int .u8 0) 160
  rw [← byt_zeros] at z3
  have rz : SlR 1 (newZ h 5 1 [Value.int .u8 (0 : Int)] 160) ⟨some ⟨h.next, 0, none⟩, 160, 160⟩ (byt zeros160) := SlR.of_is z3 (by rw [byt_len]; rfl) (by unfold unk; omega)
  have e := txt_ok rz
  refine ⟨z1, z2, ?_⟩
  rw [show txt (newZ h 5 1 [Value.int .u8 (0 : Int)] 160) (Value.slice (some ⟨h.next, 0, none⟩) 160 160) = _ from e]; rfl
theorem rwipe_l0 (k : Nat) {q : Nat} {h0 : H} {st0 : Rf} (hd : st0.done.length ≤ 1000) {Mr0 : Nat → Prop} : ∀ n j h Mr, st0.done.length - j < n → j ≤ st0.done.length → Ch (fun b => b = q) h0 h → RfR h q Mr ⟨List.replicate j zeros160 ++ st0.done.drop j, st0.pend, st0.writes⟩ → (∀ b, Mr b → Mr0 b ∨ h0.next ≤ b) →
    ∃ h' Mr', corbelref7_Platter_Wipe.l0 k n (some ⟨q, 0, none⟩) (Int.ofNat j) h = some ((), h') ∧ Ch (fun b => b = q) h0 h' ∧ RfR h' q Mr' ⟨List.replicate st0.done.length zeros160, st0.pend, st0.writes⟩ ∧ ∀ b, Mr' b → Mr0 b ∨ h0.next ≤ b
  | 0, j, h, Mr, hn, _, _, _, _ => by omega
  | n + 1, j, h, Mr, hn, hj, hc, r, hm => by
    rw [corbelref7_Platter_Wipe.l0_succ]
    obtain ⟨sD, sQ, r1, r2, r3, r4, r5⟩ := r.ex
    have dl : (List.replicate j zeros160 ++ st0.done.drop j).length = st0.done.length := by rw [List.length_append, List.length_replicate, List.length_drop]; omega
    have hn2 : sD.n = st0.done.length := by have := r2.len; rw [strs_len] at this; have this : (List.replicate j zeros160 ++ st0.done.drop j).length = sD.n * 1 := this; omega
    simp only [nilA, asP_ptr, Option.bind_some, fadd, r1.ldc]
    simp only [Nat.zero_add, List.getElem?_cons_zero, asS_slv, Option.bind_some, hn2]
    by_cases c : j < st0.done.length
    · rw [decide_eq_true (show Int.ofNat j < Int.ofNat st0.done.length by simp; omega), cond_true]
      obtain ⟨z1, z2, z3⟩ := zeroStr hc.wf
      rw [z3]
      simp only [Option.bind_some]
      have r' := r.keep z1 fun _ _ f => f
      obtain ⟨h1, Mr1, s1, s2, s3, s4⟩ := rset_f k z1.wf r' (j := j) (by show j < (_ : List (List UInt8)).length; rw [dl]; exact c) (by show (_ : List (List UInt8)).length ≤ _; rw [dl]; exact hd) zeros160
      rw [s1]
      simp only [Option.bind_some]
      rw [wrap_succ (by omega)]
      have e : (List.replicate j zeros160 ++ st0.done.drop j).set j zeros160 = List.replicate (j + 1) zeros160 ++ st0.done.drop (j + 1) := by
        rw [List.set_append_right _ _ (by rw [List.length_replicate]; exact Nat.le_refl _), List.length_replicate, Nat.sub_self, List.drop_eq_getElem_cons c, List.set_cons_zero, List.replicate_succ', List.append_assoc]; rfl
      have s3 : RfR h1 q Mr1 ⟨(List.replicate j zeros160 ++ st0.done.drop j).set j zeros160, st0.pend, st0.writes⟩ := s3
      rw [e] at s3
      exact rwipe_l0 k hd n (j + 1) h1 Mr1 (by omega) (by omega) (hc.trans ((z1.mono fun _ _ f => f.elim).trans s2 fun _ _ f => f) fun _ _ f => f) s3 fun b hb => (s4 b hb).elim (hm b) fun f => .inr (by have := hc.le; have := z1.le; omega)
    · rw [decide_eq_false (show ¬ Int.ofNat j < Int.ofNat st0.done.length by simp; omega), cond_false]
      have : j = st0.done.length := by omega
      subst this
      rw [List.drop_length, List.append_nil] at r
      exact ⟨h, Mr, rfl, hc, r, hm⟩
theorem rwipe_f (k : Nat) (hk : 2000 < k) {h : H} (w : WF h) {q : Nat} {Mr : Nat → Prop} {st : Rf} (r : RfR h q Mr st) (hd : st.done.length ≤ 1000) :
    ∃ h' Mr', corbelref7_Platter_Wipe.f k (some ⟨q, 0, none⟩) h = some ((), h') ∧ Ch (fun b => b = q) h h' ∧ RfR h' q Mr' ⟨List.replicate st.done.length zeros160, [], st.writes⟩ ∧ ∀ b, Mr' b → Mr b ∨ h.next ≤ b := by
  unfold corbelref7_Platter_Wipe.f
  obtain ⟨h1, Mr1, a1, a2, a3, a4⟩ := rwipe_l0 k (q := q) hd k 0 h Mr (by omega) (Nat.zero_le _) (Ch.refl w) r fun b hb => .inl hb
  rw [show (0 : Int) = Int.ofNat 0 from rfl, a1]
  simp only [nilA, asP_ptr, Option.bind_some, fadd]
  obtain ⟨h2, b1, b2, b3⟩ := rclear a2.wf a3
  rw [show (0 + 1 : Nat) = 1 from rfl, b1]
  exact ⟨h2, Mr1, rfl, a2.trans b2 fun _ _ f => f, b3, a4⟩
end Go.Proofs.Ytbegaeohggkblaa.Fw
