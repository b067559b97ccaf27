/- call's replies, as plain lists: pieces, intents. No condition. -/
import Derived.Test.YthpkhegoamhgeaaFwCall4
import Derived.Test.YthpkhegoamhgeaaFRep
namespace Go.Proofs.Ythpkhegoamhgeaa.Fw
open Go Den Fwd
set_option linter.unusedVariables false
set_option linter.unusedSimpArgs false
/-- an element put behind a slice's -/
theorem push_el {h : H} (w : WF h) {e es by_ : Nat} {s : Sl} {l : List Value} (r : Ow e es h s l) (hes : 0 < es) (vs : List Value) (hv : vs.length = es) (h1 : vs.all Den.one = true) (hb : (s.n + 1) * by_ ≤ 140737488355328) :
    ∃ s' h', asS2 (apv e es by_ (.slice s.a s.n s.c) (.slice (some ⟨h.next, 0, none⟩) 1 1) (newR h e es vs)) = some (s', h') ∧ Ch (SlB s) h h' ∧ Ow e es h' s' (l ++ vs) ∧ ∀ b, SlB s' b → SlB s b ∨ h.next ≤ b := by
  obtain ⟨n1, n2, n3⟩ := newR_ok w e es vs
  obtain ⟨s', h', e1, e2, e3, e4, e5⟩ := apv_ok (by_ := by_) n1.wf (r.stay w n1) hes (SlR.of_is n3 (n := 1) (by rw [hv, Nat.one_mul]) (by unfold unk; omega)) hb h1
  exact ⟨s', h', e1, (n1.mono fun _ _ f => f.elim).trans e2 fun _ _ f => f, e3, fun b hb => (e5 b hb).imp id fun f => by omega⟩

/-! ### Pc -/
structure Pc where
  st : Int
  gn : Int
  ix : Int
  data : List UInt8
abbrev PcT : Type := Int × Int × Int × Sl
def Pc.tup (q : Pc) (d : Sl) : PcT := (q.st, q.gn, q.ix, d)
def pcV (a b c : Int) (d : Sl) : List Value := [.int .i64 a, .int .i64 b, .int .i64 c, slv d]
def Pc.vs (q : Pc) (d : Sl) : List Value := pcV q.st q.gn q.ix d
abbrev PcS := List (Pc × Sl)
def pccells (ps : PcS) : List Value := (ps.map fun p => p.1.vs p.2).flatten
theorem pccells_len (ps : PcS) : (pccells ps).length = ps.length * 4 := by
  unfold pccells
  rw [flatten_len (es := 4) _ (fun l hl => by obtain ⟨p, _, rfl⟩ := List.mem_map.1 hl; rfl), List.length_map]
theorem pccells_snoc (ps : PcS) (p : Pc × Sl) : pccells (ps ++ [p]) = pccells ps ++ p.1.vs p.2 := by unfold pccells; simp
theorem pccells_at (ps : PcS) {k : Nat} (hk : k < ps.length) : ((pccells ps).drop (k * 4)).take 4 = ps[k].1.vs ps[k].2 := by
  induction ps generalizing k with
  | nil => simp at hk
  | cons p ps ih =>
    have e : pccells (p :: ps) = p.1.vs p.2 ++ pccells ps := by unfold pccells; simp
    have hl : (p.1.vs p.2).length = 4 := rfl
    cases k with
    | zero => rw [e, Nat.zero_mul, List.drop_zero, List.take_append_of_le_length (by omega), List.take_of_length_le (by omega)]; rfl
    | succ k =>
      rw [e, show (k + 1) * 4 = (p.1.vs p.2).length + k * 4 by rw [hl]; omega, ← List.drop_drop, List.drop_left]
      exact ih (by simpa using hk)
theorem bindPc {β : Type} (a b c : Int) (d : Sl) (f : FT [.int .i64, .int .i64, .int .i64, .sl] → Option β) : (asSt [(.int .i64), (.int .i64), (.int .i64), .sl] (some (Value.agg (pcV a b c d).toArray))).bind f = f (show FT [.int .i64, .int .i64, .int .i64, .sl] from ((a, b, c, d) : PcT)) := rfl
theorem Is.pc {h : H} {bb e es : Nat} {a b c : Int} {d : Sl} (I : Is h bb e es (pcV a b c d)) : lda 4 h (some ⟨bb, 0, none⟩) = some (.agg (pcV a b c d).toArray) := by
  rw [I.lda (o := 0) (n := 4) (Nat.le_refl _)]; rfl
/-- a slice of them, read -/
structure PcR (h : H) (s : Sl) (ps : PcS) : Prop where
  sl : SlR 4 h s (pccells ps)
  da : ∀ p ∈ ps, SlR 1 h p.2 (byt p.1.data)
theorem PcR.stay {h h' : H} {s : Sl} {ps : PcS} (w : WF h) (c : Ch0 h h') (r : PcR h s ps) : PcR h' s ps := ⟨r.sl.stay w c, fun p hp => (r.da p hp).stay w c⟩
theorem PcR.n {h : H} {s : Sl} {ps : PcS} (r : PcR h s ps) : s.n = ps.length := by have := r.sl.len; rw [pccells_len] at this; omega
theorem PcR.at {h : H} {s : Sl} {ps : PcS} (r : PcR h s ps) {j : Nat} (hj : j < ps.length) : ∃ p, ixs 4 s.a s.n (Int.ofNat j) = some (.pointer p) ∧ lda 4 h p = some (.agg (ps[j].1.vs ps[j].2).toArray) := by
  obtain ⟨b, o, h1, h2⟩ := r.sl.elem (j := j) (by rw [r.n]; exact hj)
  rw [pccells_at ps hj] at h2
  refine ⟨some ⟨b, o, none⟩, h1, ?_⟩
  show (match h.gets b o 4 with | some vs => some (Value.agg vs.toArray) | none => none) = _
  rw [h2]
def Pc.right (q : Pc) : Bool := decide (0 ≤ q.st ∧ q.st < 40) && (decide (1 ≤ q.gn ∧ q.gn ≤ 1099511627776) && (decide (0 ≤ q.ix ∧ q.ix < 6) && (decide (q.data.length = 32))))
structure Pc.Rt (q : Pc) : Prop where
  s0 : 0 ≤ q.st
  s1 : q.st < 40
  g0 : 1 ≤ q.gn
  g1 : q.gn ≤ 1099511627776
  i0 : 0 ≤ q.ix
  i1 : q.ix < 6
  dl : q.data.length = 32
theorem Pc.right_iff (q : Pc) : q.right = true ↔ q.Rt := by
  unfold Pc.right
  simp only [Bool.and_eq_true, decide_eq_true_eq]
  exact ⟨fun ⟨⟨a, b⟩, ⟨c, d⟩, ⟨e, f⟩, g⟩ => ⟨a, b, c, d, e, f, g⟩, fun ⟨a, b, c, d, e, f, g⟩ => ⟨⟨a, b⟩, ⟨c, d⟩, ⟨e, f⟩, g⟩⟩
def layPc (q : Pc) : List UInt8 := beN q.st.toNat 1 ++ beN q.gn.toNat 6 ++ beN q.ix.toNat 1 ++ q.data
def laysPc (l : List Pc) : List UInt8 := (l.map layPc).flatten
theorem laysPc_cons (q : Pc) (l : List Pc) : laysPc (q :: l) = layPc q ++ laysPc l := by unfold laysPc; simp
theorem layPc_len (q : Pc) : (layPc q).length = 8 + q.data.length := by unfold layPc; simp only [List.length_append, beN_len]
theorem laysPc_len (l : List Pc) (h : ∀ q ∈ l, q.right = true) : (laysPc l).length = 40 * l.length := by
  induction l with
  | nil => rfl
  | cons q l ih =>
    rw [laysPc_cons, List.length_append, layPc_len, ih fun p hp => h p (List.mem_cons_of_mem _ hp), List.length_cons]
    have := ((Pc.right_iff q).1 (h q List.mem_cons_self)).dl
    omega
/-! right? -/
theorem pcRight_f (k : Nat) {h : H} (w : WF h) (q : Pc) (d : Sl) (r : SlR 1 h d (byt q.data)) : ∃ h', chunk_Right.f k (q.tup d) h = some (q.right, h') ∧ Ch0 h h' := by
  unfold chunk_Right.f Pc.tup
  dsimp only
  rw [show [Value.int .i64 q.st, Value.int .i64 q.gn, Value.int .i64 q.ix, Value.slice d.a d.n d.c] = q.vs d from rfl]
  obtain ⟨z1, z2, z3⟩ := newR_ok w 69 4 (q.vs d)
  generalize newR h 69 4 (q.vs d) = g0 at z1 z2 z3 ⊢
  refine ⟨g0, ?_, z1⟩
  have V0 : (q.vs d)[0]? = some (.int .i64 q.st) := rfl
  have V1 : (q.vs d)[1]? = some (.int .i64 q.gn) := rfl
  have V2 : (q.vs d)[2]? = some (.int .i64 q.ix) := rfl
  have VD : (q.vs d)[3]? = some (slv d) := rfl
  have bad : ∀ b : Bool, q.right = b → some (b, g0) = some (q.right, g0) := fun b e => by rw [e]
  simp only [z3.ldc, V0, V1, V2, VD, asI_int, asS_slv, Option.bind_some]
  by_cases c1 : 0 ≤ q.st
  rotate_left
  · simp only [decide_eq_false (show ¬ q.st ≥ 0 from c1), cond_false, Option.bind_some]
    exact bad _ (by unfold Pc.right; rw [decide_eq_false (p := 0 ≤ q.st ∧ q.st < 40) (fun f => c1 f.1)]; rfl)
  simp only [decide_eq_true (show q.st ≥ 0 from c1), cond_true, z3.ldc, V0, V1, V2, VD, asI_int, asS_slv, Option.bind_some]
  by_cases c2 : q.st < 40
  rotate_left
  · simp only [decide_eq_false c2, cond_false, Option.bind_some]
    exact bad _ (by unfold Pc.right; rw [decide_eq_false (p := 0 ≤ q.st ∧ q.st < 40) (fun f => c2 f.2)]; rfl)
  simp only [decide_eq_true c2, cond_true, z3.ldc, V0, V1, V2, VD, asI_int, asS_slv, Option.bind_some]
  by_cases c3 : 1 ≤ q.gn
  rotate_left
  · simp only [decide_eq_false (show ¬ q.gn ≥ 1 from c3), cond_false, Option.bind_some]
    exact bad _ (by unfold Pc.right; rw [decide_eq_false (p := 1 ≤ q.gn ∧ q.gn ≤ 1099511627776) (fun f => c3 f.1)]; simp)
  simp only [decide_eq_true (show q.gn ≥ 1 from c3), cond_true, z3.ldc, V0, V1, V2, VD, asI_int, asS_slv, Option.bind_some]
  by_cases c4 : q.gn ≤ 1099511627776
  rotate_left
  · simp only [decide_eq_false c4, cond_false, Option.bind_some]
    exact bad _ (by unfold Pc.right; rw [decide_eq_false (p := 1 ≤ q.gn ∧ q.gn ≤ 1099511627776) (fun f => c4 f.2)]; simp)
  simp only [decide_eq_true c4, cond_true, z3.ldc, V0, V1, V2, VD, asI_int, asS_slv, Option.bind_some]
  by_cases c5 : 0 ≤ q.ix
  rotate_left
  · simp only [decide_eq_false (show ¬ q.ix ≥ 0 from c5), cond_false, Option.bind_some]
    exact bad _ (by unfold Pc.right; rw [decide_eq_false (p := 0 ≤ q.ix ∧ q.ix < 6) (fun f => c5 f.1)]; simp)
  simp only [decide_eq_true (show q.ix ≥ 0 from c5), cond_true, z3.ldc, V0, V1, V2, VD, asI_int, asS_slv, Option.bind_some]
  by_cases c6 : q.ix < 6
  rotate_left
  · simp only [decide_eq_false c6, cond_false, Option.bind_some]
    exact bad _ (by unfold Pc.right; rw [decide_eq_false (p := 0 ≤ q.ix ∧ q.ix < 6) (fun f => c6 f.2)]; simp)
  simp only [decide_eq_true c6, cond_true, z3.ldc, V0, V1, V2, VD, asI_int, asS_slv, Option.bind_some]
  rw [r.n_byt]
  have e : (Int.ofNat q.data.length == (32 : Int)) = decide (q.data.length = 32) := by
    by_cases c : q.data.length = 32
    · rw [decide_eq_true c, c]; rfl
    · rw [decide_eq_false c, beq_eq_false_iff_ne]
      intro f; exact c (Int.ofNat.inj f)
  rw [e]
  refine bad _ ?_
  unfold Pc.right
  simp [c1, c2, c3, c4, c5, c6]
theorem pcOne_f (k : Nat) {h : H} (w : WF h) (q : Pc) (d : Sl) (r : SlR 1 h d (byt q.data)) : ∃ h', call_right_1.f k (q.tup d) h = some (!q.right, h') ∧ Ch0 h h' := by
  unfold call_right_1.f Pc.tup
  dsimp only
  rw [show [Value.int .i64 q.st, Value.int .i64 q.gn, Value.int .i64 q.ix, Value.slice d.a d.n d.c] = pcV q.st q.gn q.ix d from rfl]
  obtain ⟨z1, z2, z3⟩ := newR_ok w 69 4 (pcV q.st q.gn q.ix d)
  rw [Is.pc z3, bindPc]
  dsimp only
  obtain ⟨h', a1, a2⟩ := pcRight_f k z1.wf q d (r.stay w z1)
  rw [show ((q.st, q.gn, q.ix, d) : PcT) = q.tup d from rfl, a1]
  exact ⟨h', rfl, z1.then a2⟩
theorem pcIdx_l0 (k : Nat) {h0 : H} (w0 : WF h0) {s : Sl} {ps : PcS} (r : PcR h0 s ps) (hl : ps.length ≤ 1000) : ∀ n j h, ps.length - j < n → j ≤ ps.length → Ch0 h0 h →
    ∃ h' v, slices_IndexFunc_api_Piece_api_Piece_call_right_1.l0 k n s () (Int.ofNat ps.length) (Int.ofNat j) h = some (v, h') ∧ Ch0 h0 h' ∧ ((∃ i : Nat, v = .inl (Int.ofNat i) ∧ (ps.drop j).all (fun p => p.1.right) = false) ∨ (v = .inr () ∧ (ps.drop j).all (fun p => p.1.right) = true))
  | 0, j, h, hn, _, _ => by omega
  | n + 1, j, h, hn, hj, hc => by
    rw [slices_IndexFunc_api_Piece_api_Piece_call_right_1.l0_succ]
    by_cases c : j < ps.length
    · rw [decide_eq_true (show Int.ofNat j < Int.ofNat ps.length by simp; omega), cond_true]
      obtain ⟨p, e1, e2⟩ := (r.stay w0 hc).at c
      rw [e1]
      simp only [asP_ptr, Option.bind_some]
      rw [show ps[j].1.vs ps[j].2 = pcV ps[j].1.st ps[j].1.gn ps[j].1.ix ps[j].2 from rfl] at e2
      rw [e2, bindPc]
      dsimp only
      obtain ⟨h1, a1, a2⟩ := pcOne_f k hc.wf ps[j].1 ps[j].2 (((r.stay w0 hc).da _ (List.getElem_mem c)))
      rw [show ((ps[j].1.st, ps[j].1.gn, ps[j].1.ix, ps[j].2) : PcT) = ps[j].1.tup ps[j].2 from rfl, a1]
      simp only [Option.bind_some]
      have hd : ps.drop j = ps[j] :: ps.drop (j + 1) := List.drop_eq_getElem_cons c
      cases hr : ps[j].1.right with
      | false => exact ⟨h1, _, rfl, hc.then a2, .inl ⟨j, rfl, by rw [hd, List.all_cons, hr]; rfl⟩⟩
      | true =>
        simp only [Bool.not_true, cond_false]
        rw [wrap_succ (by omega)]
        obtain ⟨h2, v, b1, b2, b3⟩ := pcIdx_l0 k w0 r hl n (j + 1) h1 (by omega) (by omega) (hc.then a2)
        have e3 : (ps.drop j).all (fun p => p.1.right) = (ps.drop (j + 1)).all (fun p => p.1.right) := by rw [hd, List.all_cons, hr, Bool.true_and]
        exact ⟨h2, v, b1, b2, by rw [e3]; exact b3⟩
    · rw [decide_eq_false (show ¬ Int.ofNat j < Int.ofNat ps.length by simp; omega), cond_false]
      exact ⟨h, _, rfl, hc, .inr ⟨rfl, by rw [List.drop_eq_nil_of_le (by omega)]; rfl⟩⟩
theorem pcAny_f (k : Nat) (hk : 1000 < k) {h : H} (w : WF h) {s : Sl} {ps : PcS} (r : PcR h s ps) (hl : ps.length ≤ 1000) : ∃ h', slices_ContainsFunc_api_Piece_api_Piece_call_right_1.f k s () h = some (!(ps.all fun p => p.1.right), h') ∧ Ch0 h h' := by
  unfold slices_ContainsFunc_api_Piece_api_Piece_call_right_1.f slices_IndexFunc_api_Piece_api_Piece_call_right_1.f
  obtain ⟨h', v, a1, a2, a3⟩ := pcIdx_l0 k w r hl k 0 h (by omega) (Nat.zero_le _) (Ch.refl w)
  rw [r.n, show (0 : Int) = Int.ofNat 0 from rfl, a1]
  rw [List.drop_zero] at a3
  rcases a3 with ⟨i, rfl, e⟩ | ⟨rfl, e⟩
  · rw [e]
    refine ⟨h', ?_, a2⟩
    show some (decide (Int.ofNat i ≥ Int.ofNat 0), h') = _
    rw [decide_eq_true (show Int.ofNat i ≥ Int.ofNat 0 by simp)]; rfl
  · rw [e]
    exact ⟨h', rfl, a2⟩
/-! the bytes of all -/
theorem pcLay_l (k : Nat) (hk : 1000 < k) {h0 : H} (w0 : WF h0) (xp : Option Addr) {s : Sl} {ps : PcS} (r : PcR h0 s ps) (hl : ps.length ≤ 20) (hr : ∀ p ∈ ps, p.1.right = true) : ∀ n j h out (pre : List UInt8), ps.length - j < n → j ≤ ps.length → Ch0 h0 h → Ow 5 1 h out (byt pre) → (∀ b, SlB out b → h0.next ≤ b) → pre.length ≤ 1000 + 40 * j →
    ∃ out' h', call_LayRep.l0 k n xp s (Int.ofNat ps.length) out (Int.ofNat j) h = some (out', h') ∧ Ch0 h0 h' ∧ Ow 5 1 h' out' (byt (pre ++ laysPc ((ps.drop j).map (·.1)))) ∧ ∀ b, SlB out' b → h0.next ≤ b
  | 0, j, h, out, pre, hn, _, _, _, _, _ => by omega
  | n + 1, j, h, out, pre, hn, hj, hc, ho, hb, hp => by
    rw [call_LayRep.l0_succ]
    by_cases c : j < ps.length
    · rw [decide_eq_true (show Int.ofNat j < Int.ofNat ps.length by simp; omega), cond_true]
      have r' := r.stay w0 hc
      obtain ⟨p, e1, e2⟩ := r'.at c
      rw [e1]
      simp only [asP_ptr, Option.bind_some]
      have rt := (Pc.right_iff _).1 (hr _ (List.getElem_mem c))
      have da := r'.da _ (List.getElem_mem c)
      have hd : ps.drop j = ps[j] :: ps.drop (j + 1) := List.drop_eq_getElem_cons c
      generalize hq : ps[j] = q at e2 rt da hd
      rw [show q.1.vs q.2 = pcV q.1.st q.1.gn q.1.ix q.2 from rfl] at e2
      rw [e2, bindPc]
      dsimp only
      rw [show [Value.int .i64 (0 : Int), Value.int .i64 (0 : Int), Value.int .i64 (0 : Int), Value.slice none 0 0] = pcV 0 0 0 ⟨none, 0, 0⟩ from rfl, show [Value.int .i64 q.1.st, Value.int .i64 q.1.gn, Value.int .i64 q.1.ix, Value.slice q.2.a q.2.n q.2.c] = q.1.vs q.2 from rfl]
      obtain ⟨g0, z1, z2, z3, z4⟩ := box_ok hc.wf 69 4 (pcV 0 0 0 ⟨none, 0, 0⟩) (q.1.vs q.2) rfl rfl rfl
      rw [z1]
      have V0 : (q.1.vs q.2)[0]? = some (.int .i64 q.1.st) := rfl
      have V1 : (q.1.vs q.2)[1]? = some (.int .i64 q.1.gn) := rfl
      have V2 : (q.1.vs q.2)[2]? = some (.int .i64 q.1.ix) := rfl
      have VD : (q.1.vs q.2)[3]? = some (slv q.2) := rfl
      simp only [Option.bind_some, z4.ldc, V0, asI_int]
      have q0 := rt.s0
      have q1 := rt.g0
      obtain ⟨s1, g1, a1, a2, a3, a4⟩ := cbytes_f k hk q.1.st.toNat 1 (by decide) z2.wf q.1.st (nn _ q0) 1 rfl
      rw [a1]
      have I1 := z4.stay z2.wf a2
      simp only [Option.bind_some, I1.ldc, V1, asI_int]
      obtain ⟨s2, g2, b1, b2, b3, b4⟩ := cbytes_f k hk q.1.gn.toNat 6 (by decide) a2.wf q.1.gn (nn _ (by omega)) 6 rfl
      rw [b1]
      have I2 := I1.stay a2.wf b2
      have q2 := rt.i0
      simp only [Option.bind_some, I2.ldc, V2, asI_int]
      obtain ⟨s3, g3, d1, d2, d3, d4⟩ := cbytes_f k hk q.1.ix.toNat 1 (by decide) b2.wf q.1.ix (nn _ q2) 1 rfl
      rw [d1]
      have I3 := I2.stay b2.wf d2
      simp only [Option.bind_some, I3.ldc, VD]
      rw [show asS (some (slv q.2)) = some q.2 from rfl]
      simp only [Option.bind_some]
      let pp : Parts := [(out, pre), (s1, beN q.1.st.toNat 1), (s2, beN q.1.gn.toNat 6), (s3, beN q.1.ix.toNat 1), (q.2, q.1.data)]
      rw [show [Value.slice out.a out.n out.c, Value.slice s1.a s1.n s1.c, Value.slice s2.a s2.n s2.c, Value.slice s3.a s3.n s3.c, Value.slice q.2.a q.2.n q.2.c] = pp.map fun p => slv p.1 from rfl]
      obtain ⟨y1, y2, y3⟩ := newR_ok d2.wf 25 1 (pp.map fun p => slv p.1)
      have c1 : Ch0 h g1 := z2.then a2
      have c2 := c1.then b2
      have c3 := c2.then d2
      have dl := rt.dl
      have hpp : PartsR g3 pp := by
        intro x hx
        simp only [pp, List.mem_cons, List.not_mem_nil, or_false] at hx
        rcases hx with rfl | rfl | rfl | rfl | rfl
        · exact ho.slr.stay hc.wf c3
        · exact a3.slr.stay a2.wf (b2.then d2)
        · exact b3.slr.stay b2.wf d2
        · exact d3.slr
        · exact da.stay hc.wf c3
      obtain ⟨s', h', v1, v2, v3, v4⟩ := concat_f k hk y1.wf (ps := pp) (SlR.of_is y3 (n := 5) rfl (by unfold unk; omega)) (hpp.stay d2.wf y1) (by show 5 < 1000; decide) (by
        show pre.length + ((beN q.1.st.toNat 1).length + ((beN q.1.gn.toNat 6).length + ((beN q.1.ix.toNat 1).length + ((q.1.data.length + 0))))) ≤ _
        simp only [beN_len]
        have : 40 * j ≤ 40 * 20 := Nat.mul_le_mul_left _ (by omega)
        omega)
      rw [v1]
      simp only [Option.bind_some]
      have bz : h.next < g0.next := by omega
      have k1 := a2.keep h.next bz fun f => f
      have l1 := a2.le
      have k2 := b2.keep h.next (by omega) fun f => f
      have l2 := b2.le
      have k3 := d2.keep h.next (by omega) fun f => f
      simp only [same1_of k1, same1_of k2, same1_of k3, Bool.and_self, cond_true]
      rw [wrap_succ (by omega)]
      have hj' : joined pp = pre ++ layPc q.1 := by
        unfold joined layPc
        simp only [pp, List.map_cons, List.map_nil, List.flatten_cons, List.flatten_nil, List.append_nil, List.append_assoc]
      rw [hj'] at v3
      have cc : Ch0 h h' := (c3.then y1).then v2
      have lc := c3.le
      have ly := y1.le
      obtain ⟨o2, h2, w1, w2, w3, w4⟩ := pcLay_l k hk w0 xp r hl hr n (j + 1) h' s' (pre ++ layPc q.1) (by omega) (by omega) (hc.then cc) v3 (fun b hb => by have := v4 b hb; have := hc.le; omega) (by rw [List.length_append, layPc_len]; omega)
      refine ⟨o2, h2, w1, w2, ?_, w4⟩
      rw [hd, List.map_cons, laysPc_cons, ← List.append_assoc]; exact w3
    · rw [decide_eq_false (show ¬ Int.ofNat j < Int.ofNat ps.length by simp; omega), cond_false]
      refine ⟨out, h, rfl, hc, ?_, hb⟩
      rw [List.drop_eq_nil_of_le (by omega)]
      show Ow 5 1 h out (byt (pre ++ []))
      rw [List.append_nil]; exact ho

/-! ### It -/
structure It where
  st : Int
  gn : Int
  data : List UInt8
abbrev ItT : Type := Int × Int × Sl
def It.tup (q : It) (d : Sl) : ItT := (q.st, q.gn, d)
def itV (a b : Int) (d : Sl) : List Value := [.int .i64 a, .int .i64 b, slv d]
def It.vs (q : It) (d : Sl) : List Value := itV q.st q.gn d
abbrev ItS := List (It × Sl)
def itcells (ps : ItS) : List Value := (ps.map fun p => p.1.vs p.2).flatten
theorem itcells_len (ps : ItS) : (itcells ps).length = ps.length * 3 := by
  unfold itcells
  rw [flatten_len (es := 3) _ (fun l hl => by obtain ⟨p, _, rfl⟩ := List.mem_map.1 hl; rfl), List.length_map]
theorem itcells_snoc (ps : ItS) (p : It × Sl) : itcells (ps ++ [p]) = itcells ps ++ p.1.vs p.2 := by unfold itcells; simp
theorem itcells_at (ps : ItS) {k : Nat} (hk : k < ps.length) : ((itcells ps).drop (k * 3)).take 3 = ps[k].1.vs ps[k].2 := by
  induction ps generalizing k with
  | nil => simp at hk
  | cons p ps ih =>
    have e : itcells (p :: ps) = p.1.vs p.2 ++ itcells ps := by unfold itcells; simp
    have hl : (p.1.vs p.2).length = 3 := rfl
    cases k with
    | zero => rw [e, Nat.zero_mul, List.drop_zero, List.take_append_of_le_length (by omega), List.take_of_length_le (by omega)]; rfl
    | succ k =>
      rw [e, show (k + 1) * 3 = (p.1.vs p.2).length + k * 3 by rw [hl]; omega, ← List.drop_drop, List.drop_left]
      exact ih (by simpa using hk)
theorem bindIt {β : Type} (a b : Int) (d : Sl) (f : FT [.int .i64, .int .i64, .sl] → Option β) : (asSt [(.int .i64), (.int .i64), .sl] (some (Value.agg (itV a b d).toArray))).bind f = f (show FT [.int .i64, .int .i64, .sl] from ((a, b, d) : ItT)) := rfl
theorem Is.it {h : H} {bb e es : Nat} {a b : Int} {d : Sl} (I : Is h bb e es (itV a b d)) : lda 3 h (some ⟨bb, 0, none⟩) = some (.agg (itV a b d).toArray) := by
  rw [I.lda (o := 0) (n := 3) (Nat.le_refl _)]; rfl
/-- a slice of them, read -/
structure ItR (h : H) (s : Sl) (ps : ItS) : Prop where
  sl : SlR 3 h s (itcells ps)
  da : ∀ p ∈ ps, SlR 1 h p.2 (byt p.1.data)
theorem ItR.stay {h h' : H} {s : Sl} {ps : ItS} (w : WF h) (c : Ch0 h h') (r : ItR h s ps) : ItR h' s ps := ⟨r.sl.stay w c, fun p hp => (r.da p hp).stay w c⟩
theorem ItR.n {h : H} {s : Sl} {ps : ItS} (r : ItR h s ps) : s.n = ps.length := by have := r.sl.len; rw [itcells_len] at this; omega
theorem ItR.at {h : H} {s : Sl} {ps : ItS} (r : ItR h s ps) {j : Nat} (hj : j < ps.length) : ∃ p, ixs 3 s.a s.n (Int.ofNat j) = some (.pointer p) ∧ lda 3 h p = some (.agg (ps[j].1.vs ps[j].2).toArray) := by
  obtain ⟨b, o, h1, h2⟩ := r.sl.elem (j := j) (by rw [r.n]; exact hj)
  rw [itcells_at ps hj] at h2
  refine ⟨some ⟨b, o, none⟩, h1, ?_⟩
  show (match h.gets b o 3 with | some vs => some (Value.agg vs.toArray) | none => none) = _
  rw [h2]
def It.right (q : It) : Bool := decide (0 ≤ q.st ∧ q.st < 40) && (decide (1 ≤ q.gn ∧ q.gn ≤ 1099511627776) && (decide (q.data.length = 128)))
structure It.Rt (q : It) : Prop where
  s0 : 0 ≤ q.st
  s1 : q.st < 40
  g0 : 1 ≤ q.gn
  g1 : q.gn ≤ 1099511627776
  dl : q.data.length = 128
theorem It.right_iff (q : It) : q.right = true ↔ q.Rt := by
  unfold It.right
  simp only [Bool.and_eq_true, decide_eq_true_eq]
  exact ⟨fun ⟨⟨a, b⟩, ⟨c, d⟩, g⟩ => ⟨a, b, c, d, g⟩, fun ⟨a, b, c, d, g⟩ => ⟨⟨a, b⟩, ⟨c, d⟩, g⟩⟩
def layIt (q : It) : List UInt8 := beN q.st.toNat 1 ++ beN q.gn.toNat 6 ++ q.data
def laysIt (l : List It) : List UInt8 := (l.map layIt).flatten
theorem laysIt_cons (q : It) (l : List It) : laysIt (q :: l) = layIt q ++ laysIt l := by unfold laysIt; simp
theorem layIt_len (q : It) : (layIt q).length = 7 + q.data.length := by unfold layIt; simp only [List.length_append, beN_len]
theorem laysIt_len (l : List It) (h : ∀ q ∈ l, q.right = true) : (laysIt l).length = 135 * l.length := by
  induction l with
  | nil => rfl
  | cons q l ih =>
    rw [laysIt_cons, List.length_append, layIt_len, ih fun p hp => h p (List.mem_cons_of_mem _ hp), List.length_cons]
    have := ((It.right_iff q).1 (h q List.mem_cons_self)).dl
    omega
/-! right? -/
theorem itRight_f (k : Nat) {h : H} (w : WF h) (q : It) (d : Sl) (r : SlR 1 h d (byt q.data)) : ∃ h', intent_Right.f k (q.tup d) h = some (q.right, h') ∧ Ch0 h h' := by
  unfold intent_Right.f It.tup
  dsimp only
  rw [show [Value.int .i64 q.st, Value.int .i64 q.gn, Value.slice d.a d.n d.c] = q.vs d from rfl]
  obtain ⟨z1, z2, z3⟩ := newR_ok w 72 3 (q.vs d)
  generalize newR h 72 3 (q.vs d) = g0 at z1 z2 z3 ⊢
  refine ⟨g0, ?_, z1⟩
  have V0 : (q.vs d)[0]? = some (.int .i64 q.st) := rfl
  have V1 : (q.vs d)[1]? = some (.int .i64 q.gn) := rfl
  have VD : (q.vs d)[2]? = some (slv d) := rfl
  have bad : ∀ b : Bool, q.right = b → some (b, g0) = some (q.right, g0) := fun b e => by rw [e]
  simp only [z3.ldc, V0, V1, VD, asI_int, asS_slv, Option.bind_some]
  by_cases c1 : 0 ≤ q.st
  rotate_left
  · simp only [decide_eq_false (show ¬ q.st ≥ 0 from c1), cond_false, Option.bind_some]
    exact bad _ (by unfold It.right; rw [decide_eq_false (p := 0 ≤ q.st ∧ q.st < 40) (fun f => c1 f.1)]; rfl)
  simp only [decide_eq_true (show q.st ≥ 0 from c1), cond_true, z3.ldc, V0, V1, VD, asI_int, asS_slv, Option.bind_some]
  by_cases c2 : q.st < 40
  rotate_left
  · simp only [decide_eq_false c2, cond_false, Option.bind_some]
    exact bad _ (by unfold It.right; rw [decide_eq_false (p := 0 ≤ q.st ∧ q.st < 40) (fun f => c2 f.2)]; rfl)
  simp only [decide_eq_true c2, cond_true, z3.ldc, V0, V1, VD, asI_int, asS_slv, Option.bind_some]
  by_cases c3 : 1 ≤ q.gn
  rotate_left
  · simp only [decide_eq_false (show ¬ q.gn ≥ 1 from c3), cond_false, Option.bind_some]
    exact bad _ (by unfold It.right; rw [decide_eq_false (p := 1 ≤ q.gn ∧ q.gn ≤ 1099511627776) (fun f => c3 f.1)]; simp)
  simp only [decide_eq_true (show q.gn ≥ 1 from c3), cond_true, z3.ldc, V0, V1, VD, asI_int, asS_slv, Option.bind_some]
  by_cases c4 : q.gn ≤ 1099511627776
  rotate_left
  · simp only [decide_eq_false c4, cond_false, Option.bind_some]
    exact bad _ (by unfold It.right; rw [decide_eq_false (p := 1 ≤ q.gn ∧ q.gn ≤ 1099511627776) (fun f => c4 f.2)]; simp)
  simp only [decide_eq_true c4, cond_true, z3.ldc, V0, V1, VD, asI_int, asS_slv, Option.bind_some]
  rw [r.n_byt]
  have e : (Int.ofNat q.data.length == (128 : Int)) = decide (q.data.length = 128) := by
    by_cases c : q.data.length = 128
    · rw [decide_eq_true c, c]; rfl
    · rw [decide_eq_false c, beq_eq_false_iff_ne]
      intro f; exact c (Int.ofNat.inj f)
  rw [e]
  refine bad _ ?_
  unfold It.right
  simp [c1, c2, c3, c4]
theorem itOne_f (k : Nat) {h : H} (w : WF h) (q : It) (d : Sl) (r : SlR 1 h d (byt q.data)) : ∃ h', call_right_2.f k (q.tup d) h = some (!q.right, h') ∧ Ch0 h h' := by
  unfold call_right_2.f It.tup
  dsimp only
  rw [show [Value.int .i64 q.st, Value.int .i64 q.gn, Value.slice d.a d.n d.c] = itV q.st q.gn d from rfl]
  obtain ⟨z1, z2, z3⟩ := newR_ok w 72 3 (itV q.st q.gn d)
  rw [Is.it z3, bindIt]
  dsimp only
  obtain ⟨h', a1, a2⟩ := itRight_f k z1.wf q d (r.stay w z1)
  rw [show ((q.st, q.gn, d) : ItT) = q.tup d from rfl, a1]
  exact ⟨h', rfl, z1.then a2⟩
theorem itIdx_l0 (k : Nat) {h0 : H} (w0 : WF h0) {s : Sl} {ps : ItS} (r : ItR h0 s ps) (hl : ps.length ≤ 1000) : ∀ n j h, ps.length - j < n → j ≤ ps.length → Ch0 h0 h →
    ∃ h' v, slices_IndexFunc_api_Intent_api_Intent_call_right_2.l0 k n s () (Int.ofNat ps.length) (Int.ofNat j) h = some (v, h') ∧ Ch0 h0 h' ∧ ((∃ i : Nat, v = .inl (Int.ofNat i) ∧ (ps.drop j).all (fun p => p.1.right) = false) ∨ (v = .inr () ∧ (ps.drop j).all (fun p => p.1.right) = true))
  | 0, j, h, hn, _, _ => by omega
  | n + 1, j, h, hn, hj, hc => by
    rw [slices_IndexFunc_api_Intent_api_Intent_call_right_2.l0_succ]
    by_cases c : j < ps.length
    · rw [decide_eq_true (show Int.ofNat j < Int.ofNat ps.length by simp; omega), cond_true]
      obtain ⟨p, e1, e2⟩ := (r.stay w0 hc).at c
      rw [e1]
      simp only [asP_ptr, Option.bind_some]
      rw [show ps[j].1.vs ps[j].2 = itV ps[j].1.st ps[j].1.gn ps[j].2 from rfl] at e2
      rw [e2, bindIt]
      dsimp only
      obtain ⟨h1, a1, a2⟩ := itOne_f k hc.wf ps[j].1 ps[j].2 (((r.stay w0 hc).da _ (List.getElem_mem c)))
      rw [show ((ps[j].1.st, ps[j].1.gn, ps[j].2) : ItT) = ps[j].1.tup ps[j].2 from rfl, a1]
      simp only [Option.bind_some]
      have hd : ps.drop j = ps[j] :: ps.drop (j + 1) := List.drop_eq_getElem_cons c
      cases hr : ps[j].1.right with
      | false => exact ⟨h1, _, rfl, hc.then a2, .inl ⟨j, rfl, by rw [hd, List.all_cons, hr]; rfl⟩⟩
      | true =>
        simp only [Bool.not_true, cond_false]
        rw [wrap_succ (by omega)]
        obtain ⟨h2, v, b1, b2, b3⟩ := itIdx_l0 k w0 r hl n (j + 1) h1 (by omega) (by omega) (hc.then a2)
        have e3 : (ps.drop j).all (fun p => p.1.right) = (ps.drop (j + 1)).all (fun p => p.1.right) := by rw [hd, List.all_cons, hr, Bool.true_and]
        exact ⟨h2, v, b1, b2, by rw [e3]; exact b3⟩
    · rw [decide_eq_false (show ¬ Int.ofNat j < Int.ofNat ps.length by simp; omega), cond_false]
      exact ⟨h, _, rfl, hc, .inr ⟨rfl, by rw [List.drop_eq_nil_of_le (by omega)]; rfl⟩⟩
theorem itAny_f (k : Nat) (hk : 1000 < k) {h : H} (w : WF h) {s : Sl} {ps : ItS} (r : ItR h s ps) (hl : ps.length ≤ 1000) : ∃ h', slices_ContainsFunc_api_Intent_api_Intent_call_right_2.f k s () h = some (!(ps.all fun p => p.1.right), h') ∧ Ch0 h h' := by
  unfold slices_ContainsFunc_api_Intent_api_Intent_call_right_2.f slices_IndexFunc_api_Intent_api_Intent_call_right_2.f
  obtain ⟨h', v, a1, a2, a3⟩ := itIdx_l0 k w r hl k 0 h (by omega) (Nat.zero_le _) (Ch.refl w)
  rw [r.n, show (0 : Int) = Int.ofNat 0 from rfl, a1]
  rw [List.drop_zero] at a3
  rcases a3 with ⟨i, rfl, e⟩ | ⟨rfl, e⟩
  · rw [e]
    refine ⟨h', ?_, a2⟩
    show some (decide (Int.ofNat i ≥ Int.ofNat 0), h') = _
    rw [decide_eq_true (show Int.ofNat i ≥ Int.ofNat 0 by simp)]; rfl
  · rw [e]
    exact ⟨h', rfl, a2⟩
/-! the bytes of all -/
theorem itLay_l (k : Nat) (hk : 1000 < k) {h0 : H} (w0 : WF h0) {s : Sl} {ps : ItS} (r : ItR h0 s ps) (hl : ps.length ≤ 20) (hr : ∀ p ∈ ps, p.1.right = true) : ∀ n j h out (pre : List UInt8), ps.length - j < n → j ≤ ps.length → Ch0 h0 h → Ow 5 1 h out (byt pre) → (∀ b, SlB out b → h0.next ≤ b) → pre.length ≤ 1000 + 135 * j →
    ∃ out' h', call_LayRep.l1 k n s (Int.ofNat ps.length) out (Int.ofNat j) h = some (out', h') ∧ Ch0 h0 h' ∧ Ow 5 1 h' out' (byt (pre ++ laysIt ((ps.drop j).map (·.1)))) ∧ ∀ b, SlB out' b → h0.next ≤ b
  | 0, j, h, out, pre, hn, _, _, _, _, _ => by omega
  | n + 1, j, h, out, pre, hn, hj, hc, ho, hb, hp => by
    rw [call_LayRep.l1_succ]
    by_cases c : j < ps.length
    · rw [decide_eq_true (show Int.ofNat j < Int.ofNat ps.length by simp; omega), cond_true]
      have r' := r.stay w0 hc
      obtain ⟨p, e1, e2⟩ := r'.at c
      rw [e1]
      simp only [asP_ptr, Option.bind_some]
      have rt := (It.right_iff _).1 (hr _ (List.getElem_mem c))
      have da := r'.da _ (List.getElem_mem c)
      have hd : ps.drop j = ps[j] :: ps.drop (j + 1) := List.drop_eq_getElem_cons c
      generalize hq : ps[j] = q at e2 rt da hd
      rw [show q.1.vs q.2 = itV q.1.st q.1.gn q.2 from rfl] at e2
      rw [e2, bindIt]
      dsimp only
      rw [show [Value.int .i64 (0 : Int), Value.int .i64 (0 : Int), Value.slice none 0 0] = itV 0 0 ⟨none, 0, 0⟩ from rfl, show [Value.int .i64 q.1.st, Value.int .i64 q.1.gn, Value.slice q.2.a q.2.n q.2.c] = q.1.vs q.2 from rfl]
      obtain ⟨g0, z1, z2, z3, z4⟩ := box_ok hc.wf 72 3 (itV 0 0 ⟨none, 0, 0⟩) (q.1.vs q.2) rfl rfl rfl
      rw [z1]
      have V0 : (q.1.vs q.2)[0]? = some (.int .i64 q.1.st) := rfl
      have V1 : (q.1.vs q.2)[1]? = some (.int .i64 q.1.gn) := rfl
      have VD : (q.1.vs q.2)[2]? = some (slv q.2) := rfl
      simp only [Option.bind_some, z4.ldc, V0, asI_int]
      have q0 := rt.s0
      have q1 := rt.g0
      obtain ⟨s1, g1, a1, a2, a3, a4⟩ := cbytes_f k hk q.1.st.toNat 1 (by decide) z2.wf q.1.st (nn _ q0) 1 rfl
      rw [a1]
      have I1 := z4.stay z2.wf a2
      simp only [Option.bind_some, I1.ldc, V1, asI_int]
      obtain ⟨s2, g2, b1, b2, b3, b4⟩ := cbytes_f k hk q.1.gn.toNat 6 (by decide) a2.wf q.1.gn (nn _ (by omega)) 6 rfl
      rw [b1]
      have I2 := I1.stay a2.wf b2
      simp only [Option.bind_some, I2.ldc, VD]
      rw [show asS (some (slv q.2)) = some q.2 from rfl]
      simp only [Option.bind_some]
      let pp : Parts := [(out, pre), (s1, beN q.1.st.toNat 1), (s2, beN q.1.gn.toNat 6), (q.2, q.1.data)]
      rw [show [Value.slice out.a out.n out.c, Value.slice s1.a s1.n s1.c, Value.slice s2.a s2.n s2.c, Value.slice q.2.a q.2.n q.2.c] = pp.map fun p => slv p.1 from rfl]
      obtain ⟨y1, y2, y3⟩ := newR_ok b2.wf 25 1 (pp.map fun p => slv p.1)
      have c1 : Ch0 h g1 := z2.then a2
      have c2 := c1.then b2
      have dl := rt.dl
      have hpp : PartsR g2 pp := by
        intro x hx
        simp only [pp, List.mem_cons, List.not_mem_nil, or_false] at hx
        rcases hx with rfl | rfl | rfl | rfl
        · exact ho.slr.stay hc.wf c2
        · exact a3.slr.stay a2.wf b2
        · exact b3.slr
        · exact da.stay hc.wf c2
      obtain ⟨s', h', v1, v2, v3, v4⟩ := concat_f k hk y1.wf (ps := pp) (SlR.of_is y3 (n := 4) rfl (by unfold unk; omega)) (hpp.stay b2.wf y1) (by show 4 < 1000; decide) (by
        show pre.length + ((beN q.1.st.toNat 1).length + ((beN q.1.gn.toNat 6).length + ((q.1.data.length + 0)))) ≤ _
        simp only [beN_len]
        have : 135 * j ≤ 135 * 20 := Nat.mul_le_mul_left _ (by omega)
        omega)
      rw [v1]
      simp only [Option.bind_some]
      have bz : h.next < g0.next := by omega
      have k1 := a2.keep h.next bz fun f => f
      have l1 := a2.le
      have k2 := b2.keep h.next (by omega) fun f => f
      simp only [same1_of k1, same1_of k2, Bool.and_self, cond_true]
      rw [wrap_succ (by omega)]
      have hj' : joined pp = pre ++ layIt q.1 := by
        unfold joined layIt
        simp only [pp, List.map_cons, List.map_nil, List.flatten_cons, List.flatten_nil, List.append_nil, List.append_assoc]
      rw [hj'] at v3
      have cc : Ch0 h h' := (c2.then y1).then v2
      have lc := c2.le
      have ly := y1.le
      obtain ⟨o2, h2, w1, w2, w3, w4⟩ := itLay_l k hk w0 r hl hr n (j + 1) h' s' (pre ++ layIt q.1) (by omega) (by omega) (hc.then cc) v3 (fun b hb => by have := v4 b hb; have := hc.le; omega) (by rw [List.length_append, layIt_len]; omega)
      refine ⟨o2, h2, w1, w2, ?_, w4⟩
      rw [hd, List.map_cons, laysIt_cons, ← List.append_assoc]; exact w3
    · rw [decide_eq_false (show ¬ Int.ofNat j < Int.ofNat ps.length by simp; omega), cond_false]
      refine ⟨out, h, rfl, hc, ?_, hb⟩
      rw [List.drop_eq_nil_of_le (by omega)]
      show Ow 5 1 h out (byt (pre ++ []))
      rw [List.append_nil]; exact ho
structure Rr where
  code : Int
  boot : Int
  ps : List Pc
  is : List It
def repV (a b : Int) (sp si : Sl) : List Value := [.int .i64 a, .int .i64 b, slv sp, slv si]
abbrev RrT : Type := Int × Int × Sl × Sl
theorem bindRr {β : Type} (a b : Int) (sp si : Sl) (f : FT [.int .i64, .int .i64, .sl, .sl] → Option β) : (asSt [(.int .i64), (.int .i64), .sl, .sl] (some (Value.agg (repV a b sp si).toArray))).bind f = f (show FT [.int .i64, .int .i64, .sl, .sl] from ((a, b, sp, si) : RrT)) := rfl
theorem Is.rr {h : H} {bb e es : Nat} {a b : Int} {sp si : Sl} (I : Is h bb e es (repV a b sp si)) : lda 4 h (some ⟨bb, 0, none⟩) = some (.agg (repV a b sp si).toArray) := by
  rw [I.lda (o := 0) (n := 4) (Nat.le_refl _)]; rfl
def Rr.wrong (q : Rr) : Bool := !(q.ps.all fun p => p.right) || !(q.is.all fun p => p.right)
def Rr.right (q : Rr) : Bool := decide (0 ≤ q.code ∧ q.code ≤ 255) && (decide (0 ≤ q.boot ∧ q.boot ≤ 2147483647) && (decide (q.ps.length ≤ 2) && (decide (q.is.length ≤ 16) && !q.wrong)))
structure Rr.Rt (q : Rr) : Prop where
  c0 : 0 ≤ q.code
  c1 : q.code ≤ 255
  b0 : 0 ≤ q.boot
  b1 : q.boot ≤ 2147483647
  pl : q.ps.length ≤ 2
  il : q.is.length ≤ 16
  pr : ∀ p ∈ q.ps, p.right = true
  ir : ∀ p ∈ q.is, p.right = true
theorem Rr.right_iff (q : Rr) : q.right = true ↔ q.Rt := by
  unfold Rr.right Rr.wrong
  simp only [Bool.and_eq_true, decide_eq_true_eq, Bool.not_eq_true', Bool.or_eq_false_iff, Bool.not_eq_false', List.all_eq_true]
  exact ⟨fun ⟨⟨a, b⟩, ⟨c, d⟩, e, f, g, i⟩ => ⟨a, b, c, d, e, f, g, i⟩, fun ⟨a, b, c, d, e, f, g, i⟩ => ⟨⟨a, b⟩, ⟨c, d⟩, e, f, g, i⟩⟩
def layRr (q : Rr) : List UInt8 := beN q.code.toNat 1 ++ (beN q.boot.toNat 4 ++ (beN q.ps.length 1 ++ (laysPc q.ps ++ (beN q.is.length 1 ++ laysIt q.is))))
theorem layRr_len (q : Rr) (r : q.Rt) : (layRr q).length = 7 + 40 * q.ps.length + 135 * q.is.length := by
  unfold layRr
  simp only [List.length_append, beN_len, laysPc_len _ r.pr, laysIt_len _ r.ir]
  omega
theorem map_all {α β : Type} (f : α → β) (p : β → Bool) (l : List α) : (l.map f).all p = l.all fun x => p (f x) := by
  induction l with
  | nil => rfl
  | cons a l ih => rw [List.map_cons, List.all_cons, List.all_cons, ih]
theorem rrRight_f (k : Nat) (hk : 1000 < k) {h : H} (w : WF h) (c b : Int) {sp si : Sl} {ps : PcS} {is : ItS} (rp : PcR h sp ps) (ri : ItR h si is) (hp : ps.length ≤ 1000) (hi : is.length ≤ 1000) :
    ∃ h', call_right.f k (c, b, sp, si) h = some ((⟨c, b, ps.map (·.1), is.map (·.1)⟩ : Rr).right, h') ∧ Ch0 h h' := by
  generalize hQ : (⟨c, b, ps.map (·.1), is.map (·.1)⟩ : Rr) = Q
  unfold call_right.f
  dsimp only
  rw [show [Value.int .i64 c, Value.int .i64 b, Value.slice sp.a sp.n sp.c, Value.slice si.a si.n si.c] = repV c b sp si from rfl]
  obtain ⟨z1, z2, z3⟩ := newR_ok w 67 4 (repV c b sp si)
  generalize newR h 67 4 (repV c b sp si) = g0 at z1 z2 z3 ⊢
  have V0 : (repV c b sp si)[0]? = some (.int .i64 c) := rfl
  have V1 : (repV c b sp si)[1]? = some (.int .i64 b) := rfl
  have V2 : (repV c b sp si)[2]? = some (slv sp) := rfl
  have V3 : (repV c b sp si)[3]? = some (slv si) := rfl
  simp only [z3.ldc, V0, V1, V2, V3, asI_int, asS_slv, Option.bind_some]
  obtain ⟨g1, a1, a2⟩ := pcAny_f k hk z1.wf (rp.stay w z1) hp
  rw [a1]
  simp only [Option.bind_some]
  have I1 := z3.stay z1.wf a2
  have W : ∃ g2, ((cond (!(ps.all fun p => p.1.right)) (some (true, g1))
      ((asS (ldc g1 (some ⟨h.next, 3, none⟩))).bind fun s3 =>
    (slices_ContainsFunc_api_Intent_api_Intent_call_right_2.f k s3 () g1).bind fun q4 =>
    some (q4.1, q4.2))) : Option (Bool × H)) = some (Q.wrong, g2) ∧ Ch0 g1 g2 := by
    have hw : Q.wrong = (!(ps.all fun p => p.1.right) || !(is.all fun p => p.1.right)) := by
      rw [← hQ]
      unfold Rr.wrong
      rw [map_all, map_all]
    rw [hw]
    cases ha : ps.all fun p => p.1.right with
    | false => exact ⟨g1, rfl, Ch.refl a2.wf⟩
    | true =>
      rw [Bool.not_true, cond_false, I1.ldc, V3]
      simp only [asS_slv, Option.bind_some]
      obtain ⟨g2, b1, b2⟩ := itAny_f k hk a2.wf ((ri.stay w z1).stay z1.wf a2) hi
      rw [b1]
      exact ⟨g2, rfl, b2⟩
  obtain ⟨g2, b1, b2⟩ := W
  rw [b1]
  have I2 := I1.stay a2.wf b2
  refine ⟨g2, ?_, (z1.then a2).then b2⟩
  have P := rp.n
  have Pi := ri.n
  have Qc : Q.code = c := by rw [← hQ]
  have Qb : Q.boot = b := by rw [← hQ]
  have Qp : Q.ps.length = ps.length := by rw [← hQ]; exact List.length_map _
  have Qi : Q.is.length = is.length := by rw [← hQ]; exact List.length_map _
  have bad : ∀ x : Bool, Q.right = x → some (x, g2) = some (Q.right, g2) := fun x e => by rw [e]
  simp only [Option.bind_some, I2.ldc, V0, V1, V2, V3, asI_int, asS_slv, within_f]
  by_cases c1 : 0 ≤ c ∧ c ≤ 255
  rotate_left
  · simp only [decide_eq_false c1, cond_false, Option.bind_some]
    exact bad _ (by unfold Rr.right; rw [Qc, decide_eq_false c1]; rfl)
  simp only [decide_eq_true c1, cond_true, I2.ldc, V0, V1, V2, V3, asI_int, asS_slv, Option.bind_some, within_f]
  by_cases c2 : 0 ≤ b ∧ b ≤ 2147483647
  rotate_left
  · simp only [decide_eq_false c2, cond_false, Option.bind_some]
    exact bad _ (by unfold Rr.right; rw [Qb, decide_eq_false c2]; simp)
  simp only [decide_eq_true c2, cond_true, I2.ldc, V0, V1, V2, V3, asI_int, asS_slv, Option.bind_some, within_f]
  rw [P]
  by_cases c3 : ps.length ≤ 2
  rotate_left
  · simp only [decide_eq_false (show ¬ Int.ofNat ps.length ≤ (2 : Int) by simp; omega), cond_false, Option.bind_some]
    exact bad _ (by unfold Rr.right; rw [Qp, decide_eq_false c3]; simp)
  simp only [decide_eq_true (show Int.ofNat ps.length ≤ (2 : Int) by simp; omega), cond_true, I2.ldc, V0, V1, V2, V3, asI_int, asS_slv, Option.bind_some, within_f]
  rw [Pi]
  by_cases c4 : is.length ≤ 16
  rotate_left
  · simp only [decide_eq_false (show ¬ Int.ofNat is.length ≤ (16 : Int) by simp; omega), cond_false, Option.bind_some]
    exact bad _ (by unfold Rr.right; rw [Qi, decide_eq_false c4]; simp)
  simp only [decide_eq_true (show Int.ofNat is.length ≤ (16 : Int) by simp; omega), cond_true, Option.bind_some]
  refine bad _ ?_
  unfold Rr.right
  rw [Qc, Qb, Qp, Qi]
  simp [c1, c2, c3, c4]
theorem laysPc_mem {ps : PcS} {q : Pc} (h : q ∈ ps.map (·.1)) : ∃ p ∈ ps, p.1 = q := by
  obtain ⟨p, hp, e⟩ := List.mem_map.1 h
  exact ⟨p, hp, e⟩
theorem rrLay_f (k : Nat) (hk : 1000 < k) {h : H} (w : WF h) (c b : Int) {sp si : Sl} {ps : PcS} {is : ItS} (rp : PcR h sp ps) (ri : ItR h si is) (hp : ps.length ≤ 1000) (hi : is.length ≤ 1000) (Q : Rr) (hQ : (⟨c, b, ps.map (·.1), is.map (·.1)⟩ : Rr) = Q) :
    ∃ s' h', call_LayRep.f k (c, b, sp, si) h = some ((s', if Q.right then 0 else 1), h') ∧ Ch0 h h' ∧ Ow 5 1 h' s' (byt (if Q.right then layRr Q else [])) ∧ ∀ b, SlB s' b → h.next ≤ b := by
  unfold call_LayRep.f
  dsimp only
  rw [show [Value.int .i64 c, Value.int .i64 b, Value.slice sp.a sp.n sp.c, Value.slice si.a si.n si.c] = repV c b sp si from rfl]
  obtain ⟨z1, z2, z3⟩ := newR_ok w 67 4 (repV c b sp si)
  generalize newR h 67 4 (repV c b sp si) = g0 at z1 z2 z3 ⊢
  rw [Is.rr z3, bindRr]
  dsimp only
  have V0 : (repV c b sp si)[0]? = some (.int .i64 c) := rfl
  have V1 : (repV c b sp si)[1]? = some (.int .i64 b) := rfl
  have V2 : (repV c b sp si)[2]? = some (slv sp) := rfl
  have V3 : (repV c b sp si)[3]? = some (slv si) := rfl
  obtain ⟨g1, a1, a2⟩ := rrRight_f k hk z1.wf c b (rp.stay w z1) (ri.stay w z1) hp hi
  rw [a1, hQ]
  simp only [Option.bind_some]
  have c1 := z1.then a2
  have I1 := z3.stay z1.wf a2
  cases hr : Q.right with
  | false =>
    simp only [Bool.not_false, cond_true]
    exact ⟨⟨none, 0, 0⟩, g1, rfl, c1, Ow.nil, fun b hb => by obtain ⟨o, f⟩ := hb; cases f⟩
  | true =>
    have R := (Rr.right_iff Q).1 hr
    have Qc : Q.code = c := by rw [← hQ]
    have Qb : Q.boot = b := by rw [← hQ]
    have Qps : Q.ps = ps.map (·.1) := by rw [← hQ]
    have Qis : Q.is = is.map (·.1) := by rw [← hQ]
    have Qp : Q.ps.length = ps.length := by rw [Qps]; exact List.length_map _
    have Qi : Q.is.length = is.length := by rw [Qis]; exact List.length_map _
    have RC0 := R.c0
    have RB0 := R.b0
    have Rpl := R.pl
    have Ril := R.il
    rw [Qc] at RC0
    rw [Qb] at RB0
    rw [Qp] at Rpl
    rw [Qi] at Ril
    simp only [Bool.not_true, cond_false, I1.ldc, V0, asI_int, Option.bind_some]
    obtain ⟨s1, g2, b1, b2, b3, b4⟩ := cbytes_f k hk c.toNat 1 (by decide) a2.wf c (nn _ RC0) 1 rfl
    rw [b1]
    have I2 := I1.stay a2.wf b2
    simp only [I2.ldc, V1, asI_int, Option.bind_some]
    obtain ⟨s2, g3, d1, d2, d3, d4⟩ := cbytes_f k hk b.toNat 4 (by decide) b2.wf b (nn _ RB0) 4 rfl
    rw [d1]
    have I3 := I2.stay b2.wf d2
    simp only [I3.ldc, V2, asS_slv, Option.bind_some, rp.n]
    obtain ⟨s3, g4, e1, e2, e3, e4⟩ := cbytes_f k hk ps.length 1 (by decide) d2.wf (Int.ofNat ps.length) rfl 1 rfl
    rw [e1]
    have I4 := I3.stay d2.wf e2
    simp only [Option.bind_some]
    let pp : Parts := [(s1, beN c.toNat 1), (s2, beN b.toNat 4), (s3, beN ps.length 1)]
    rw [show [Value.slice s1.a s1.n s1.c, Value.slice s2.a s2.n s2.c, Value.slice s3.a s3.n s3.c] = pp.map fun p => slv p.1 from rfl]
    obtain ⟨y1, y2, y3⟩ := newR_ok e2.wf 25 1 (pp.map fun p => slv p.1)
    have hpp : PartsR g4 pp := by
      intro x hx
      simp only [pp, List.mem_cons, List.not_mem_nil, or_false] at hx
      rcases hx with rfl | rfl | rfl
      · exact b3.slr.stay b2.wf (d2.then e2)
      · exact d3.slr.stay d2.wf e2
      · exact e3.slr
    obtain ⟨s4, g5, f1, f2, f3, f4⟩ := concat_f k hk y1.wf (ps := pp) (SlR.of_is y3 (n := 3) rfl (by unfold unk; omega)) (hpp.stay e2.wf y1) (by show 3 < 1000; decide) (by
      show (beN c.toNat 1).length + ((beN b.toNat 4).length + ((beN ps.length 1).length + 0)) ≤ _
      simp only [beN_len]; omega)
    rw [f1]
    simp only [Option.bind_some]
    have bz : h.next < g1.next := by have := a2.le; omega
    have k2 := b2.keep h.next bz fun f => f
    have l2 := b2.le
    have k3 := d2.keep h.next (by omega) fun f => f
    have l3 := d2.le
    have k4 := e2.keep h.next (by omega) fun f => f
    have l4 := e2.le
    have m1 : same1 g1 g2 (some (.slice sp.a ps.length sp.c)) = true := by rw [← rp.n]; exact same1_sl fun x hx => b2.keep x (by have := rp.sl.blk w hx; omega) fun f => f
    have m2 : same1 g2 g3 (some (.slice sp.a ps.length sp.c)) = true := by rw [← rp.n]; exact same1_sl fun x hx => d2.keep x (by have := rp.sl.blk w hx; omega) fun f => f
    simp only [same1_of k2, same1_of k3, same1_of k4, m1, m2, Bool.and_self, cond_true]
    have y5 := y1.then f2
    have l5 := y5.le
    have I5 := I4.stay e2.wf y5
    simp only [I5.ldc, V2, asS_slv, Option.bind_some, rp.n]
    have c5 : Ch0 h g5 := ((((c1.then b2).then d2).then e2).then y5)
    have c05 : Ch0 g0 g5 := ((((a2.then b2).then d2).then e2).then y5)
    have rp5 := rp.stay w c5
    have ri5 := ri.stay w c5
    have hj4 : joined pp = beN c.toNat 1 ++ (beN b.toNat 4 ++ beN ps.length 1) := by
      unfold joined
      simp only [pp, List.map_cons, List.map_nil, List.flatten_cons, List.flatten_nil, List.append_nil, List.append_assoc]
    rw [hj4] at f3
    have prr : ∀ p ∈ ps, p.1.right = true := fun p hp => R.pr _ (by rw [Qps]; exact List.mem_map.2 ⟨p, hp, rfl⟩)
    have irr : ∀ p ∈ is, p.1.right = true := fun p hp => R.ir _ (by rw [Qis]; exact List.mem_map.2 ⟨p, hp, rfl⟩)
    have rp0 := rp.stay w z1
    have ri0 := ri.stay w z1
    have LE1 := a2.le
    obtain ⟨o1, g6, p1, p2, p3, p4⟩ := pcLay_l k hk z1.wf (some ⟨h.next, 0, none⟩) rp0 (by omega) prr k 0 g5 s4 _ (by omega) (Nat.zero_le _) c05 f3 (fun x hx => by have := f4 x hx; omega) (by simp only [List.length_append, beN_len]; omega)
    rw [show (0 : Int) = Int.ofNat 0 from rfl, p1]
    have I6 := z3.stay z1.wf p2
    simp only [Option.bind_some, I6.ldc, V3, asS_slv, ri.n]
    have plen : (laysPc (ps.map (·.1))).length = 40 * ps.length := by
      rw [← Qps, laysPc_len _ R.pr, Qp]
    rw [List.drop_zero] at p3
    obtain ⟨o2, g7, q1, q2, q3, q4⟩ := push_b p2.wf p3 (UInt8.ofNat is.length) (wrapA .u8 (Int.ofNat is.length)) (wrap_u8n _) (by simp only [List.length_append, beN_len, plen]; omega)
    rw [q1]
    have c7 := Ch0.own p2 q2 p4
    have hb7 : ∀ x, SlB o2 x → g0.next ≤ x := fun x hx => (q4 x hx).elim (p4 x) fun f => Nat.le_trans p2.le f
    have I7 := z3.stay z1.wf c7
    simp only [Option.bind_some, I7.ldc, V3, asS_slv, ri.n]
    obtain ⟨o3, g8, u1, u2, u3, u4⟩ := itLay_l k hk z1.wf ri0 (by omega) irr k 0 g7 o2 _ (by omega) (Nat.zero_le _) c7 q3 hb7 (by simp only [List.length_append, beN_len, plen, List.length_singleton]; omega)
    rw [u1]
    refine ⟨o3, g8, rfl, z1.then u2, ?_, fun x hx => by have := u4 x hx; omega⟩
    rw [List.drop_zero] at u3
    rw [if_pos trivial]
    have : layRr Q = beN c.toNat 1 ++ (beN b.toNat 4 ++ beN ps.length 1) ++ laysPc (ps.map (·.1)) ++ [UInt8.ofNat is.length] ++ laysIt (is.map (·.1)) := by
      unfold layRr
      rw [Qc, Qb, Qp, Qi, Qps, Qis]
      have b1 : beN is.length 1 = [UInt8.ofNat is.length] := by
        show [UInt8.ofNat (is.length / 256 ^ 0)] = _
        rw [Nat.pow_zero, Nat.div_one]
      rw [b1]
      simp only [List.append_assoc]
    rw [this]; exact u3
/-- what a reply's box has -/
structure Bd (h : H) (pb : Nat) (c b : Int) (sp si : Sl) (ps : PcS) (is : ItS) : Prop where
  box : Is h pb 67 4 (repV c b sp si)
  op : Ow 69 4 h sp (pccells ps)
  oi : Ow 72 3 h si (itcells is)
  dp : ∀ p ∈ ps, SlR 1 h p.2 (byt p.1.data)
  di : ∀ p ∈ is, SlR 1 h p.2 (byt p.1.data)
  bp : ∀ x, SlB sp x → pb < x ∧ ¬ SlB si x
  bi : ∀ x, SlB si x → pb < x
  xp : ∀ p ∈ ps, ∀ x, SlB p.2 x → pb < x ∧ ¬ SlB sp x ∧ ¬ SlB si x
  xi : ∀ p ∈ is, ∀ x, SlB p.2 x → pb < x ∧ ¬ SlB sp x ∧ ¬ SlB si x
theorem Bd.keep {h h' : H} {pb : Nat} {c b : Int} {sp si : Sl} {ps : PcS} {is : ItS} (w : WF h) (B : Bd h pb c b sp si ps is) {F : Nat → Prop} (k : Ch F h h') (hf : ∀ x, pb ≤ x → x < h.next → ¬ F x) : Bd h' pb c b sp si ps is where
  box := B.box.keep (k.keep pb (B.box.lt w) (hf pb (Nat.le_refl _) (B.box.lt w)))
  op := B.op.keep fun x hx => k.keep x (B.op.lt w hx) (hf x (Nat.le_of_lt (B.bp x hx).1) (B.op.lt w hx))
  oi := B.oi.keep fun x hx => k.keep x (B.oi.lt w hx) (hf x (Nat.le_of_lt (B.bi x hx)) (B.oi.lt w hx))
  dp := fun p hp => (B.dp p hp).keep fun x hx => k.keep x ((B.dp p hp).blk w hx) (hf x (Nat.le_of_lt (B.xp p hp x hx).1) ((B.dp p hp).blk w hx))
  di := fun p hp => (B.di p hp).keep fun x hx => k.keep x ((B.di p hp).blk w hx) (hf x (Nat.le_of_lt (B.xi p hp x hx).1) ((B.di p hp).blk w hx))
  bp := B.bp
  bi := B.bi
  xp := B.xp
  xi := B.xi
theorem Bd.pcr {h : H} {pb : Nat} {c b : Int} {sp si : Sl} {ps : PcS} {is : ItS} (B : Bd h pb c b sp si ps is) : PcR h sp ps := ⟨B.op.slr, B.dp⟩
theorem Bd.itr {h : H} {pb : Nat} {c b : Int} {sp si : Sl} {ps : PcS} {is : ItS} (B : Bd h pb c b sp si ps is) : ItR h si is := ⟨B.oi.slr, B.di⟩
theorem Bd.new {h : H} (w : WF h) (c b : Int) : Ch0 h (newR h 67 4 (repV c b ⟨none, 0, 0⟩ ⟨none, 0, 0⟩)) ∧ Bd (newR h 67 4 (repV c b ⟨none, 0, 0⟩ ⟨none, 0, 0⟩)) h.next c b ⟨none, 0, 0⟩ ⟨none, 0, 0⟩ [] [] := by
  obtain ⟨z1, z2, z3⟩ := newR_ok w 67 4 (repV c b ⟨none, 0, 0⟩ ⟨none, 0, 0⟩)
  exact ⟨z1, ⟨z3, Ow.nil, Ow.nil, (fun p hp => by cases hp), (fun p hp => by cases hp), (fun x hx => by obtain ⟨o, f⟩ := hx; cases f), (fun x hx => by obtain ⟨o, f⟩ := hx; cases f), (fun p hp => by cases hp), (fun p hp => by cases hp)⟩⟩
theorem Bd.of_is {h : H} {pb : Nat} {c b : Int} (z3 : Is h pb 67 4 (repV c b ⟨none, 0, 0⟩ ⟨none, 0, 0⟩)) : Bd h pb c b ⟨none, 0, 0⟩ ⟨none, 0, 0⟩ [] [] :=
  ⟨z3, Ow.nil, Ow.nil, (fun p hp => by cases hp), (fun p hp => by cases hp), (fun x hx => by obtain ⟨o, f⟩ := hx; cases f), (fun x hx => by obtain ⟨o, f⟩ := hx; cases f), (fun p hp => by cases hp), (fun p hp => by cases hp)⟩
theorem Bd.addP {h : H} (w : WF h) {pb : Nat} {c b : Int} {sp si : Sl} {ps : PcS} {is : ItS} (B : Bd h pb c b sp si ps is) (q : Pc) (d : Sl) (hd : SlR 1 h d (byt q.data)) (hb : ∀ x, SlB d x → pb < x ∧ ¬ SlB sp x ∧ ¬ SlB si x) (hl : ps.length ≤ 1000) :
    ∃ s' g1 g2, asS2 (apv 69 4 48 (.slice sp.a sp.n sp.c) (.slice (some ⟨h.next, 0, none⟩) 1 1) (newR h 69 4 (q.vs d))) = some (s', g1) ∧ stv 1 g1 (some ⟨pb, 2, none⟩) [.slice s'.a s'.n s'.c] = some (undef, g2) ∧ Ch (fun x => pb ≤ x) h g2 ∧ Bd g2 pb c b s' si (ps ++ [(q, d)]) is := by
  have hn : sp.n = ps.length := B.pcr.n
  obtain ⟨s', g1, a1, a2, a3, a4⟩ := push_el (by_ := 48) w B.op (by decide) (q.vs d) rfl rfl (by rw [hn]; omega)
  have pbl := B.box.lt w
  have I1 := B.box.keep (a2.keep pb pbl fun f => absurd (B.bp pb f).1 (by omega))
  obtain ⟨g2, b1, b2, b3, b4⟩ := I1.set a2.wf 2 (slv s') (by show 2 < 4; decide) rfl
  have hs' : ∀ x, SlB s' x → pb < x ∧ ¬ SlB si x := fun x hx => (a4 x hx).elim (fun f => B.bp x f) fun f => ⟨by omega, fun g => by have := B.oi.lt w g; omega⟩
  have dk : ∀ (d' : Sl) (l : List Value), SlR 1 h d' l → (∀ x, SlB d' x → pb < x ∧ ¬ SlB sp x ∧ ¬ SlB si x) → SlR 1 g2 d' l := fun d' l r hx => (r.keep fun x hx' => a2.keep x (r.blk w hx') (hx x hx').2.1).keep fun x hx' => b2.keep x (Nat.lt_of_lt_of_le (r.blk w hx') a2.le) (by have := (hx x hx').1; omega)
  have xk : ∀ (d' : Sl) (l : List Value), SlR 1 h d' l → (∀ x, SlB d' x → pb < x ∧ ¬ SlB sp x ∧ ¬ SlB si x) → ∀ x, SlB d' x → pb < x ∧ ¬ SlB s' x ∧ ¬ SlB si x := fun d' l r hx x hx' => ⟨(hx x hx').1, fun f => (a4 x f).elim (hx x hx').2.1 fun g => by have := r.blk w hx'; omega, (hx x hx').2.2⟩
  refine ⟨s', g1, g2, a1, b1, (a2.mono fun x _ f => Nat.le_of_lt (B.bp x f).1).trans b2 fun x _ f => by omega, ⟨b4, ?_, ?_, ?_, ?_, hs', B.bi, ?_, ?_⟩⟩
  · rw [pccells_snoc]
    exact a3.keep fun x hx => b2.keep x (a3.lt a2.wf hx) (by have := (hs' x hx).1; omega)
  · exact (B.oi.keep fun x hx => a2.keep x (B.oi.lt w hx) fun f => (B.bp x f).2 hx).keep fun x hx => b2.keep x (Nat.lt_of_lt_of_le (B.oi.lt w hx) a2.le) (by have := B.bi x hx; omega)
  · intro p hp
    rcases List.mem_append.1 hp with hp | hp
    · exact dk _ _ (B.dp p hp) (B.xp p hp)
    · obtain rfl := List.mem_singleton.1 hp
      exact dk _ _ hd hb
  · exact fun p hp => dk _ _ (B.di p hp) (B.xi p hp)
  · intro p hp
    rcases List.mem_append.1 hp with hp | hp
    · exact xk _ _ (B.dp p hp) (B.xp p hp)
    · obtain rfl := List.mem_singleton.1 hp
      exact xk _ _ hd hb
  · exact fun p hp => xk _ _ (B.di p hp) (B.xi p hp)
theorem Bd.addI {h : H} (w : WF h) {pb : Nat} {c b : Int} {sp si : Sl} {ps : PcS} {is : ItS} (B : Bd h pb c b sp si ps is) (q : It) (d : Sl) (hd : SlR 1 h d (byt q.data)) (hb : ∀ x, SlB d x → pb < x ∧ ¬ SlB sp x ∧ ¬ SlB si x) (hl : is.length ≤ 1000) :
    ∃ s' g1 g2, asS2 (apv 72 3 40 (.slice si.a si.n si.c) (.slice (some ⟨h.next, 0, none⟩) 1 1) (newR h 72 3 (q.vs d))) = some (s', g1) ∧ stv 1 g1 (some ⟨pb, 3, none⟩) [.slice s'.a s'.n s'.c] = some (undef, g2) ∧ Ch (fun x => pb ≤ x) h g2 ∧ Bd g2 pb c b sp s' ps (is ++ [(q, d)]) := by
  have hn : si.n = is.length := B.itr.n
  obtain ⟨s', g1, a1, a2, a3, a4⟩ := push_el (by_ := 40) w B.oi (by decide) (q.vs d) rfl rfl (by rw [hn]; omega)
  have pbl := B.box.lt w
  have I1 := B.box.keep (a2.keep pb pbl fun f => absurd (B.bi pb f) (by omega))
  obtain ⟨g2, b1, b2, b3, b4⟩ := I1.set a2.wf 3 (slv s') (by show 3 < 4; decide) rfl
  have hs' : ∀ x, SlB s' x → pb < x ∧ ¬ SlB sp x := fun x hx => (a4 x hx).elim (fun f => ⟨B.bi x f, fun g => (B.bp x g).2 f⟩) fun f => ⟨by omega, fun g => by have := B.op.lt w g; omega⟩
  have dk : ∀ (d' : Sl) (l : List Value), SlR 1 h d' l → (∀ x, SlB d' x → pb < x ∧ ¬ SlB sp x ∧ ¬ SlB si x) → SlR 1 g2 d' l := fun d' l r hx => (r.keep fun x hx' => a2.keep x (r.blk w hx') (hx x hx').2.2).keep fun x hx' => b2.keep x (Nat.lt_of_lt_of_le (r.blk w hx') a2.le) (by have := (hx x hx').1; omega)
  have xk : ∀ (d' : Sl) (l : List Value), SlR 1 h d' l → (∀ x, SlB d' x → pb < x ∧ ¬ SlB sp x ∧ ¬ SlB si x) → ∀ x, SlB d' x → pb < x ∧ ¬ SlB sp x ∧ ¬ SlB s' x := fun d' l r hx x hx' => ⟨(hx x hx').1, (hx x hx').2.1, fun f => (a4 x f).elim (hx x hx').2.2 fun g => by have := r.blk w hx'; omega⟩
  refine ⟨s', g1, g2, a1, b1, (a2.mono fun x _ f => Nat.le_of_lt (B.bi x f)).trans b2 fun x _ f => by omega, ⟨b4, ?_, ?_, ?_, ?_, (fun x hx => ⟨(B.bp x hx).1, fun f => (hs' x f).2 hx⟩), (fun x hx => (hs' x hx).1), ?_, ?_⟩⟩
  · exact (B.op.keep fun x hx => a2.keep x (B.op.lt w hx) fun f => (B.bp x hx).2 f).keep fun x hx => b2.keep x (Nat.lt_of_lt_of_le (B.op.lt w hx) a2.le) (by have := (B.bp x hx).1; omega)
  · rw [itcells_snoc]
    exact a3.keep fun x hx => b2.keep x (a3.lt a2.wf hx) (by have := (hs' x hx).1; omega)
  · exact fun p hp => dk _ _ (B.dp p hp) (B.xp p hp)
  · intro p hp
    rcases List.mem_append.1 hp with hp | hp
    · exact dk _ _ (B.di p hp) (B.xi p hp)
    · obtain rfl := List.mem_singleton.1 hp
      exact dk _ _ hd hb
  · exact fun p hp => xk _ _ (B.dp p hp) (B.xp p hp)
  · intro p hp
    rcases List.mem_append.1 hp with hp | hp
    · exact xk _ _ (B.di p hp) (B.xi p hp)
    · obtain rfl := List.mem_singleton.1 hp
      exact xk _ _ hd hb

/-! ### Pc made -/
structure PcBx (R : Prop) (g0 g h : H) : Prop where
  ch : Ch0 g0 h
  gl : g0.next ≤ g.next
  lt : g.next < h.next
  box : ∃ (q : Pc) (d : Sl), Is h g.next 69 4 (q.vs d) ∧ SlR 1 h d (byt q.data) ∧ q.data.length ≤ 200 ∧ (∀ b, SlB d b → g0.next ≤ b ∧ b ≠ g.next) ∧ (R → q.right = true)
theorem PcBx.put {R : Prop} {g0 g h : H} (B : PcBx R g0 g h) (hR : ¬ R) (i : Nat) (hi : i < 3) (v : Int) : ∃ h', stv 1 h (some ⟨g.next, i, none⟩) [.int .i64 v] = some (undef, h') ∧ PcBx R g0 g h' := by
  obtain ⟨q, d, I, h1, h2, h3, h4⟩ := B.box
  obtain ⟨h', e1, e2, e3, e4⟩ := I.set B.ch.wf i (.int .i64 v) (by show i < 4; omega) rfl
  have k : SlR 1 h' d (byt q.data) := h1.keep fun b hb => e2.keep b (h1.blk B.ch.wf hb) (h3 b hb).2
  refine ⟨h', e1, Ch0.at B.ch e2 B.gl, B.gl, by rw [e3]; exact B.lt, ?_⟩
  have : i = 0 ∨ i = 1 ∨ i = 2 := by omega
  rcases this with rfl | rfl | rfl
  · exact ⟨⟨v, q.gn, q.ix, q.data⟩, d, e4, k, h2, h3, fun f => absurd f hR⟩
  · exact ⟨⟨q.st, v, q.ix, q.data⟩, d, e4, k, h2, h3, fun f => absurd f hR⟩
  · exact ⟨⟨q.st, q.gn, v, q.data⟩, d, e4, k, h2, h3, fun f => absurd f hR⟩
theorem PcBx.dat {R : Prop} {g0 g h : H} (B : PcBx R g0 g h) (hR : ¬ R) {d : Sl} {x : List UInt8} (r : SlR 1 h d (byt x)) (hx : x.length ≤ 200) (hb : ∀ b, SlB d b → g.next < b) : ∃ h', stv 1 h (some ⟨g.next, 3, none⟩) [.slice d.a d.n d.c] = some (undef, h') ∧ PcBx R g0 g h' := by
  obtain ⟨q, d', I, h1, h2, h3, h4⟩ := B.box
  obtain ⟨h', e1, e2, e3, e4⟩ := I.set B.ch.wf 3 (slv d) (by show 3 < 4; decide) rfl
  exact ⟨h', e1, Ch0.at B.ch e2 B.gl, B.gl, by rw [e3]; exact B.lt, ⟨q.st, q.gn, q.ix, x⟩, d, e4, r.keep fun b hb' => e2.keep b (r.blk B.ch.wf hb') (by have := hb b hb'; omega), hx, (fun b hb' => by have := hb b hb'; have := B.gl; omega), fun f => absurd f hR⟩
theorem PcBx.more {R : Prop} {g0 g h h' : H} (B : PcBx R g0 g h) (c : Ch0 h h') : PcBx R g0 g h' := by
  obtain ⟨q, d, I, h1, h2, h3, h4⟩ := B.box
  exact ⟨B.ch.then c, B.gl, Nat.lt_of_lt_of_le B.lt c.le, q, d, I.stay B.ch.wf c, h1.stay B.ch.wf c, h2, h3, h4⟩
theorem PcBx.bytes {R : Prop} (k : Nat) (hk : 1000 < k) {g0 g h : H} (B : PcBx R g0 g h) (hR : ¬ R) (a : Int) (m : Nat) (hm : m ≤ 200) (n : Int) (hn : n = Int.ofNat m) :
    ∃ d h1 h2, corbelhand_Bytes.f k a n h = some (d, h1) ∧ stv 1 h1 (some ⟨g.next, 3, none⟩) [.slice d.a d.n d.c] = some (undef, h2) ∧ PcBx R g0 g h2 := by
  subst hn
  obtain ⟨d, x, h1, f1, f2, f3, f4, f5⟩ := hbytes_f k a m (by omega) (by omega) B.ch.wf
  obtain ⟨h2, u1, u2⟩ := (B.more f2).dat hR f4.slr (by omega) fun b hb => by have := f5 b hb; have := B.lt; omega
  exact ⟨d, h1, h2, f1, u1, u2⟩
theorem pcMake_f (k : Nat) (hk : 1000 < k) {h : H} (w : WF h) (at_ ag ai sd bd : Int) :
    ∃ (q : Pc) (d : Sl) (h' : H), corbelhand_Piece.f k at_ ag ai sd bd h = some (q.tup d, h') ∧ Ch0 h h' ∧ SlR 1 h' d (byt q.data) ∧ q.data.length ≤ 200 ∧ (∀ b, SlB d b → h.next ≤ b) ∧ (bd = 0 → q.right = true) := by
  unfold corbelhand_Piece.f
  rw [show [Value.int .i64 (0 : Int), Value.int .i64 (0 : Int), Value.int .i64 (0 : Int), Value.slice none 0 0] = pcV 0 0 0 ⟨none, 0, 0⟩ from rfl]
  obtain ⟨z1, z2, z3⟩ := newR_ok w 69 4 (pcV 0 0 0 ⟨none, 0, 0⟩)
  generalize newR h 69 4 (pcV 0 0 0 ⟨none, 0, 0⟩) = g0 at z1 z2 z3 ⊢
  have P : ∀ (n m : Int) (h0 : 0 < m) (h1 : m ≤ 4611686018427387904) (g : H), corbelhand_Pick.f k n m g = some (n % m, g) := fun n m h0 h1 g => pick_f k n m g h0 h1
  simp only [P at_ 40 (by decide) (by decide), P ag 9 (by decide) (by decide), P ai 6 (by decide) (by decide), Option.bind_some]
  obtain ⟨dd, x, g, f1, f2, f3, f4, f5⟩ := hbytes_f k sd 32 (by decide) (by omega) z1.wf
  rw [show (32 : Int) = Int.ofNat 32 from rfl, f1]
  have G9 : 0 ≤ ag % 9 ∧ ag % 9 < 9 := ⟨Int.emod_nonneg _ (by decide), Int.emod_lt_of_pos _ (by decide)⟩
  have G40 : 0 ≤ at_ % 40 ∧ at_ % 40 < 40 := ⟨Int.emod_nonneg _ (by decide), Int.emod_lt_of_pos _ (by decide)⟩
  have G6 : 0 ≤ ai % 6 ∧ ai % 6 < 6 := ⟨Int.emod_nonneg _ (by decide), Int.emod_lt_of_pos _ (by decide)⟩
  rw [wrap_in (n := 1 + ag % 9) (by omega) (by omega)]
  simp only [Option.bind_some]
  rw [show [Value.int .i64 (at_ % 40), Value.int .i64 (1 + ag % 9), Value.int .i64 (ai % 6), Value.slice dd.a dd.n dd.c] = pcV (at_ % 40) (1 + ag % 9) (ai % 6) dd from rfl]
  obtain ⟨g2, p1, p2, p3, p4⟩ := box_ok f2.wf 69 4 (pcV 0 0 0 ⟨none, 0, 0⟩) (pcV (at_ % 40) (1 + ag % 9) (ai % 6) dd) rfl rfl rfl
  rw [p1]
  simp only [Option.bind_some, P bd 24 (by decide) (by decide)]
  have B2 : PcBx (bd = 0) g0 g g2 := ⟨f2.then p2, f2.le, by omega, ⟨at_ % 40, 1 + ag % 9, ai % 6, x⟩, dd, p4, f4.slr.stay f2.wf p2, by show x.length ≤ 200; omega, fun b hb => ⟨by have := f5 b hb; omega, by have := f4.lt f2.wf hb; omega⟩, fun _ => (Pc.right_iff _).2 ⟨G40.1, G40.2, by show 1 ≤ 1 + ag % 9; omega, by show 1 + ag % 9 ≤ _; omega, G6.1, G6.2, f3⟩⟩
  have J : ∃ h3, (cond (bd % 24 == (19 : Int)) ((stv 1 g2 (some ⟨g.next, 0, none⟩) [(Value.int .i64 at_)]).bind fun q7 => some ((), q7.2)) ((cond (bd % 24 == (20 : Int)) ((stv 1 g2 (some ⟨g.next, 1, none⟩) [(Value.int .i64 ag)]).bind fun q7 => some ((), q7.2)) ((cond (bd % 24 == (21 : Int)) ((stv 1 g2 (some ⟨g.next, 2, none⟩) [(Value.int .i64 ai)]).bind fun q7 => some ((), q7.2)) ((cond (bd % 24 == (22 : Int)) ((corbelhand_Pick.f k (wrapA .i64 (bd.tdiv (24 : Int))) (40 : Int) g2).bind fun q10 => (corbelhand_Bytes.f k sd q10.1 q10.2).bind fun q11 => (stv 1 q11.2 (some ⟨g.next, 3, none⟩) [(Value.slice q11.1.a q11.1.n q11.1.c)]).bind fun q12 => some ((), q12.2)) ((cond (bd % 24 == (23 : Int)) ((corbelhand_Pick.f k ag (1099511627776 : Int) g2).bind fun q13 => (stv 1 q13.2 (some ⟨g.next, 1, none⟩) [(Value.int .i64 (wrapA .i64 ((1 : Int) + q13.1)))]).bind fun q14 => some ((), q14.2)) (some ((), g2)) : Option (Unit × H)).bind fun j => some ((), j.2)) : Option (Unit × H)).bind fun j => some ((), j.2)) : Option (Unit × H)).bind fun j => some ((), j.2)) : Option (Unit × H)).bind fun j => some ((), j.2)) : Option (Unit × H)) = some ((), h3) ∧ PcBx (bd = 0) g0 g h3 := by
    by_cases hR : bd = 0
    · subst hR
      exact ⟨g2, rfl, B2⟩
    obtain ⟨m, hm⟩ : ∃ m : Nat, wrapA .i64 (bd.tdiv 24) % 40 = Int.ofNat m := ⟨_, nn _ (Int.emod_nonneg _ (by decide))⟩
    have hm2 : m < 40 := by have := Int.emod_lt_of_pos (wrapA .i64 (bd.tdiv 24)) (show (0 : Int) < 40 by decide); rw [hm] at this; simp only [Int.ofNat_eq_natCast] at this; omega
    obtain ⟨x1, u1, v1⟩ := B2.put hR 0 (by decide) at_
    obtain ⟨x2, u2, v2⟩ := B2.put hR 1 (by decide) ag
    obtain ⟨x3, u3, v3⟩ := B2.put hR 2 (by decide) ai
    obtain ⟨d5, x5', x5, u5, u5', v5⟩ := B2.bytes k hk hR sd m (by omega) (wrapA .i64 (bd.tdiv 24) % 40) hm
    obtain ⟨x6, u6, v6⟩ := B2.put hR 1 (by decide) (wrapA .i64 (1 + ag % 1099511627776))
    simp only [P (wrapA .i64 (bd.tdiv 24)) 40 (by decide) (by decide), P ag 1099511627776 (by decide) (by decide), Option.bind_some]
    rw [u1, u2, u3, u5, u6]
    simp only [Option.bind_some]
    rw [u5']
    simp only [Option.bind_some]
    cases (bd % 24 == (19 : Int)) with
    | true => exact ⟨x1, rfl, v1⟩
    | false =>
      cases (bd % 24 == (20 : Int)) with
      | true => exact ⟨x2, rfl, v2⟩
      | false =>
        cases (bd % 24 == (21 : Int)) with
        | true => exact ⟨x3, rfl, v3⟩
        | false =>
          cases (bd % 24 == (22 : Int)) with
          | true => exact ⟨x5, rfl, v5⟩
          | false =>
            cases (bd % 24 == (23 : Int)) with
            | true => exact ⟨x6, rfl, v6⟩
            | false =>
              exact ⟨g2, rfl, B2⟩
  obtain ⟨h3, j1, B3⟩ := J
  rw [j1]
  simp only [Option.bind_some]
  obtain ⟨q, d, I, h1, h2, h3', h4⟩ := B3.box
  rw [show q.vs d = pcV q.st q.gn q.ix d from rfl] at I
  rw [Is.pc I, bindPc]
  dsimp only
  obtain ⟨h5, x1, x2, x3, x4⟩ := Is.whole B3.ch.wf (z3.stay z1.wf B3.ch) rfl (pcV q.st q.gn q.ix d) rfl rfl
  rw [show [Value.int .i64 q.st, Value.int .i64 q.gn, Value.int .i64 q.ix, Value.slice d.a d.n d.c] = pcV q.st q.gn q.ix d from rfl, x1]
  simp only [Option.bind_some]
  rw [Is.pc x4, bindPc]
  exact ⟨q, d, h5, rfl, Ch0.at (z1.then B3.ch) x2 (Nat.le_refl _), h1.keep fun b hb => x2.keep b (h1.blk B3.ch.wf hb) (by have := (h3' b hb).1; omega), h2, (fun b hb => by have := (h3' b hb).1; omega), h4⟩

/-! ### It made -/
structure ItBx (R : Prop) (g0 g h : H) : Prop where
  ch : Ch0 g0 h
  gl : g0.next ≤ g.next
  lt : g.next < h.next
  box : ∃ (q : It) (d : Sl), Is h g.next 72 3 (q.vs d) ∧ SlR 1 h d (byt q.data) ∧ q.data.length ≤ 200 ∧ (∀ b, SlB d b → g0.next ≤ b ∧ b ≠ g.next) ∧ (R → q.right = true)
theorem ItBx.put {R : Prop} {g0 g h : H} (B : ItBx R g0 g h) (hR : ¬ R) (i : Nat) (hi : i < 2) (v : Int) : ∃ h', stv 1 h (some ⟨g.next, i, none⟩) [.int .i64 v] = some (undef, h') ∧ ItBx R g0 g h' := by
  obtain ⟨q, d, I, h1, h2, h3, h4⟩ := B.box
  obtain ⟨h', e1, e2, e3, e4⟩ := I.set B.ch.wf i (.int .i64 v) (by show i < 3; omega) rfl
  have k : SlR 1 h' d (byt q.data) := h1.keep fun b hb => e2.keep b (h1.blk B.ch.wf hb) (h3 b hb).2
  refine ⟨h', e1, Ch0.at B.ch e2 B.gl, B.gl, by rw [e3]; exact B.lt, ?_⟩
  have : i = 0 ∨ i = 1 := by omega
  rcases this with rfl | rfl
  · exact ⟨⟨v, q.gn, q.data⟩, d, e4, k, h2, h3, fun f => absurd f hR⟩
  · exact ⟨⟨q.st, v, q.data⟩, d, e4, k, h2, h3, fun f => absurd f hR⟩
theorem ItBx.dat {R : Prop} {g0 g h : H} (B : ItBx R g0 g h) (hR : ¬ R) {d : Sl} {x : List UInt8} (r : SlR 1 h d (byt x)) (hx : x.length ≤ 200) (hb : ∀ b, SlB d b → g.next < b) : ∃ h', stv 1 h (some ⟨g.next, 2, none⟩) [.slice d.a d.n d.c] = some (undef, h') ∧ ItBx R g0 g h' := by
  obtain ⟨q, d', I, h1, h2, h3, h4⟩ := B.box
  obtain ⟨h', e1, e2, e3, e4⟩ := I.set B.ch.wf 2 (slv d) (by show 2 < 3; decide) rfl
  exact ⟨h', e1, Ch0.at B.ch e2 B.gl, B.gl, by rw [e3]; exact B.lt, ⟨q.st, q.gn, x⟩, d, e4, r.keep fun b hb' => e2.keep b (r.blk B.ch.wf hb') (by have := hb b hb'; omega), hx, (fun b hb' => by have := hb b hb'; have := B.gl; omega), fun f => absurd f hR⟩
theorem ItBx.more {R : Prop} {g0 g h h' : H} (B : ItBx R g0 g h) (c : Ch0 h h') : ItBx R g0 g h' := by
  obtain ⟨q, d, I, h1, h2, h3, h4⟩ := B.box
  exact ⟨B.ch.then c, B.gl, Nat.lt_of_lt_of_le B.lt c.le, q, d, I.stay B.ch.wf c, h1.stay B.ch.wf c, h2, h3, h4⟩
theorem ItBx.bytes {R : Prop} (k : Nat) (hk : 1000 < k) {g0 g h : H} (B : ItBx R g0 g h) (hR : ¬ R) (a : Int) (m : Nat) (hm : m ≤ 200) (n : Int) (hn : n = Int.ofNat m) :
    ∃ d h1 h2, corbelhand_Bytes.f k a n h = some (d, h1) ∧ stv 1 h1 (some ⟨g.next, 2, none⟩) [.slice d.a d.n d.c] = some (undef, h2) ∧ ItBx R g0 g h2 := by
  subst hn
  obtain ⟨d, x, h1, f1, f2, f3, f4, f5⟩ := hbytes_f k a m (by omega) (by omega) B.ch.wf
  obtain ⟨h2, u1, u2⟩ := (B.more f2).dat hR f4.slr (by omega) fun b hb => by have := f5 b hb; have := B.lt; omega
  exact ⟨d, h1, h2, f1, u1, u2⟩
theorem itMake_f (k : Nat) (hk : 1000 < k) {h : H} (w : WF h) (at_ ag sd bd : Int) :
    ∃ (q : It) (d : Sl) (h' : H), corbelhand_Intent.f k at_ ag sd bd h = some (q.tup d, h') ∧ Ch0 h h' ∧ SlR 1 h' d (byt q.data) ∧ q.data.length ≤ 200 ∧ (∀ b, SlB d b → h.next ≤ b) ∧ (bd = 0 → q.right = true) := by
  unfold corbelhand_Intent.f
  rw [show [Value.int .i64 (0 : Int), Value.int .i64 (0 : Int), Value.slice none 0 0] = itV 0 0 ⟨none, 0, 0⟩ from rfl]
  obtain ⟨z1, z2, z3⟩ := newR_ok w 72 3 (itV 0 0 ⟨none, 0, 0⟩)
  generalize newR h 72 3 (itV 0 0 ⟨none, 0, 0⟩) = g0 at z1 z2 z3 ⊢
  have P : ∀ (n m : Int) (h0 : 0 < m) (h1 : m ≤ 4611686018427387904) (g : H), corbelhand_Pick.f k n m g = some (n % m, g) := fun n m h0 h1 g => pick_f k n m g h0 h1
  simp only [P at_ 40 (by decide) (by decide), P ag 9 (by decide) (by decide), Option.bind_some]
  obtain ⟨dd, x, g, f1, f2, f3, f4, f5⟩ := hbytes_f k sd 128 (by decide) (by omega) z1.wf
  rw [show (128 : Int) = Int.ofNat 128 from rfl, f1]
  have G9 : 0 ≤ ag % 9 ∧ ag % 9 < 9 := ⟨Int.emod_nonneg _ (by decide), Int.emod_lt_of_pos _ (by decide)⟩
  have G40 : 0 ≤ at_ % 40 ∧ at_ % 40 < 40 := ⟨Int.emod_nonneg _ (by decide), Int.emod_lt_of_pos _ (by decide)⟩
  rw [wrap_in (n := 1 + ag % 9) (by omega) (by omega)]
  simp only [Option.bind_some]
  rw [show [Value.int .i64 (at_ % 40), Value.int .i64 (1 + ag % 9), Value.slice dd.a dd.n dd.c] = itV (at_ % 40) (1 + ag % 9) dd from rfl]
  obtain ⟨g2, p1, p2, p3, p4⟩ := box_ok f2.wf 72 3 (itV 0 0 ⟨none, 0, 0⟩) (itV (at_ % 40) (1 + ag % 9) dd) rfl rfl rfl
  rw [p1]
  simp only [Option.bind_some, P bd 24 (by decide) (by decide)]
  have B2 : ItBx (bd = 0) g0 g g2 := ⟨f2.then p2, f2.le, by omega, ⟨at_ % 40, 1 + ag % 9, x⟩, dd, p4, f4.slr.stay f2.wf p2, by show x.length ≤ 200; omega, fun b hb => ⟨by have := f5 b hb; omega, by have := f4.lt f2.wf hb; omega⟩, fun _ => (It.right_iff _).2 ⟨G40.1, G40.2, by show 1 ≤ 1 + ag % 9; omega, by show 1 + ag % 9 ≤ _; omega, f3⟩⟩
  have J : ∃ h3, (cond (bd % 24 == (20 : Int)) ((stv 1 g2 (some ⟨g.next, 0, none⟩) [(Value.int .i64 at_)]).bind fun q7 => some ((), q7.2)) ((cond (bd % 24 == (21 : Int)) ((stv 1 g2 (some ⟨g.next, 1, none⟩) [(Value.int .i64 ag)]).bind fun q7 => some ((), q7.2)) ((cond (bd % 24 == (22 : Int)) ((corbelhand_Pick.f k (wrapA .i64 (bd.tdiv (24 : Int))) (140 : Int) g2).bind fun q10 => (corbelhand_Bytes.f k sd q10.1 q10.2).bind fun q11 => (stv 1 q11.2 (some ⟨g.next, 2, none⟩) [(Value.slice q11.1.a q11.1.n q11.1.c)]).bind fun q12 => some ((), q12.2)) ((cond (bd % 24 == (23 : Int)) ((corbelhand_Pick.f k ag (1099511627776 : Int) g2).bind fun q13 => (stv 1 q13.2 (some ⟨g.next, 1, none⟩) [(Value.int .i64 (wrapA .i64 ((1 : Int) + q13.1)))]).bind fun q14 => some ((), q14.2)) (some ((), g2)) : Option (Unit × H)).bind fun j => some ((), j.2)) : Option (Unit × H)).bind fun j => some ((), j.2)) : Option (Unit × H)).bind fun j => some ((), j.2)) : Option (Unit × H)) = some ((), h3) ∧ ItBx (bd = 0) g0 g h3 := by
    by_cases hR : bd = 0
    · subst hR
      exact ⟨g2, rfl, B2⟩
    obtain ⟨m, hm⟩ : ∃ m : Nat, wrapA .i64 (bd.tdiv 24) % 140 = Int.ofNat m := ⟨_, nn _ (Int.emod_nonneg _ (by decide))⟩
    have hm2 : m < 140 := by have := Int.emod_lt_of_pos (wrapA .i64 (bd.tdiv 24)) (show (0 : Int) < 140 by decide); rw [hm] at this; simp only [Int.ofNat_eq_natCast] at this; omega
    obtain ⟨x1, u1, v1⟩ := B2.put hR 0 (by decide) at_
    obtain ⟨x2, u2, v2⟩ := B2.put hR 1 (by decide) ag
    obtain ⟨d5, x5', x5, u5, u5', v5⟩ := B2.bytes k hk hR sd m (by omega) (wrapA .i64 (bd.tdiv 24) % 140) hm
    obtain ⟨x6, u6, v6⟩ := B2.put hR 1 (by decide) (wrapA .i64 (1 + ag % 1099511627776))
    simp only [P (wrapA .i64 (bd.tdiv 24)) 140 (by decide) (by decide), P ag 1099511627776 (by decide) (by decide), Option.bind_some]
    rw [u1, u2, u5, u6]
    simp only [Option.bind_some]
    rw [u5']
    simp only [Option.bind_some]
    cases (bd % 24 == (20 : Int)) with
    | true => exact ⟨x1, rfl, v1⟩
    | false =>
      cases (bd % 24 == (21 : Int)) with
      | true => exact ⟨x2, rfl, v2⟩
      | false =>
        cases (bd % 24 == (22 : Int)) with
        | true => exact ⟨x5, rfl, v5⟩
        | false =>
          cases (bd % 24 == (23 : Int)) with
          | true => exact ⟨x6, rfl, v6⟩
          | false =>
            exact ⟨g2, rfl, B2⟩
  obtain ⟨h3, j1, B3⟩ := J
  rw [j1]
  simp only [Option.bind_some]
  obtain ⟨q, d, I, h1, h2, h3', h4⟩ := B3.box
  rw [show q.vs d = itV q.st q.gn d from rfl] at I
  rw [Is.it I, bindIt]
  dsimp only
  obtain ⟨h5, x1, x2, x3, x4⟩ := Is.whole B3.ch.wf (z3.stay z1.wf B3.ch) rfl (itV q.st q.gn d) rfl rfl
  rw [show [Value.int .i64 q.st, Value.int .i64 q.gn, Value.slice d.a d.n d.c] = itV q.st q.gn d from rfl, x1]
  simp only [Option.bind_some]
  rw [Is.it x4, bindIt]
  exact ⟨q, d, h5, rfl, Ch0.at (z1.then B3.ch) x2 (Nat.le_refl _), h1.keep fun b hb => x2.keep b (h1.blk B3.ch.wf hb) (by have := (h3' b hb).1; omega), h2, (fun b hb => by have := (h3' b hb).1; omega), h4⟩
theorem takeP_app {a : List UInt8} {n : Nat} (h : a.length = n) (r : List UInt8) : takeP (a ++ r) n = (a, r) ∧ ¬ (a ++ r).length < n := by
  subst h
  have : ¬ (a ++ r).length < a.length := by rw [List.length_append]; omega
  refine ⟨?_, this⟩
  unfold takeP
  rw [if_neg this, List.take_left, List.drop_left]
def numP (x : List UInt8) (n : Nat) : Int := Int.ofNat (unbe (takeP x n).1)
theorem numP_be {n s : Nat} (h : n < 256 ^ s) (r : List UInt8) : numP (beN n s ++ r) s = Int.ofNat n := by
  unfold numP
  rw [(takeP_app (beN_len n s) r).1, unbe_be h]
def lackP (l : Bool) (x : List UInt8) (n : Nat) : Bool := l || decide (x.length < n)
theorem lackP_app {a : List UInt8} {n : Nat} (h : a.length = n) (r : List UInt8) : lackP false (a ++ r) n = false := by
  unfold lackP
  rw [decide_eq_false (takeP_app h r).2]; rfl
structure RdS (h : H) (rb : Nat) (s : Sl) (lk : Bool) (x : List UInt8) : Prop where
  box : Is h rb 92 2 [slv s, .bool lk]
  sl : SlR 1 h s (byt x)
  lt : ∀ b, SlB s b → b < rb
  len : x.length ≤ 140737488355328
theorem RdS.keep {h h' : H} {rb : Nat} {s : Sl} {lk : Bool} {x : List UInt8} (w : WF h) (R : RdS h rb s lk x) {F : Nat → Prop} (c : Ch F h h') (hF : ∀ z, z ≤ rb → ¬ F z) : RdS h' rb s lk x :=
  ⟨R.box.keep (c.keep rb (R.box.lt w) (hF rb (Nat.le_refl _))), R.sl.keep fun b hb => c.keep b (R.sl.blk w hb) (hF b (Nat.le_of_lt (R.lt b hb))), R.lt, R.len⟩
theorem RdS.num (k : Nat) (hk : 1000 < k) {h : H} (w : WF h) {rb : Nat} {s : Sl} {lk : Bool} {x : List UInt8} (R : RdS h rb s lk x) (n : Nat) (hn : n ≤ 7) (m : Int) (hm : m = Int.ofNat n) :
    ∃ s' h', call_reader_number.f k (some ⟨rb, 0, none⟩) m h = some (numP x n, h') ∧ Ch (fun b => b = rb) h h' ∧ RdS h' rb s' (lackP lk x n) (takeP x n).2 := by
  obtain ⟨s', h', a1, a2, a3, a4, a5⟩ := cnumber_f k hk w R.box R.sl (fun f => by have := R.lt _ f; omega) R.len n hn m hm
  exact ⟨s', h', a1, a2, a3, a4, fun b hb => R.lt b (a5 b hb), by have := (takeP_len x n).1; have := R.len; omega⟩
theorem RdS.tak (k : Nat) {h : H} (w : WF h) {rb : Nat} {s : Sl} {lk : Bool} {x : List UInt8} (R : RdS h rb s lk x) (n : Nat) (m : Int) (hm : m = Int.ofNat n) :
    ∃ s' t h', call_reader_take.f k (some ⟨rb, 0, none⟩) m h = some (t, h') ∧ Ch (fun b => b = rb) h h' ∧ RdS h' rb s' (lackP lk x n) (takeP x n).2 ∧ SlR 1 h' t (byt (takeP x n).1) ∧ (∀ b, SlB t b → h.next ≤ b) := by
  subst hm
  obtain ⟨s', t, h', a1, a2, a3, a4, a5, a6, a7⟩ := take_f k w R.box R.sl (fun f => by have := R.lt _ f; omega) R.len n
  exact ⟨s', t, h', a1, a2, ⟨a3, a4, fun b hb => R.lt b (a6 b hb), by have := (takeP_len x n).1; have := R.len; omega⟩, a5, a7⟩
def pcsP : Nat → List Pc → List UInt8 → Bool → List Pc × List UInt8 × Bool
  | 0, a, x, l => (a, x, l)
  | n + 1, a, x, l =>
    let x1 := (takeP x 1).2
    let x2 := (takeP x1 6).2
    let x3 := (takeP x2 1).2
    pcsP n (a ++ [⟨numP x 1, numP x1 6, numP x2 1, (takeP x3 32).1⟩]) (takeP x3 32).2 (lackP (lackP (lackP (lackP l x 1) x1 6) x2 1) x3 32)
def itsP : Nat → List It → List UInt8 → Bool → List It × List UInt8 × Bool
  | 0, a, x, l => (a, x, l)
  | n + 1, a, x, l =>
    let x1 := (takeP x 1).2
    let x2 := (takeP x1 6).2
    itsP n (a ++ [⟨numP x 1, numP x1 6, (takeP x2 128).1⟩]) (takeP x2 128).2 (lackP (lackP (lackP l x 1) x1 6) x2 128)
theorem pcsP_lay : ∀ (l acc : List Pc) (r : List UInt8), (∀ q ∈ l, q.right = true) → pcsP l.length acc (laysPc l ++ r) false = (acc ++ l, r, false)
  | [], acc, r, _ => by show (acc, r, false) = _; rw [List.append_nil]
  | q :: l, acc, r, h => by
    have R := (Pc.right_iff q).1 (h q List.mem_cons_self)
    have r0 := R.s0
    have r1 := R.s1
    have r2 := R.g0
    have r3 := R.g1
    have r4 := R.i0
    have r5 := R.i1
    have e : laysPc (q :: l) ++ r = beN q.st.toNat 1 ++ (beN q.gn.toNat 6 ++ (beN q.ix.toNat 1 ++ (q.data ++ (laysPc l ++ r)))) := by
      rw [laysPc_cons]; unfold layPc; simp only [List.append_assoc]
    rw [e, List.length_cons]
    unfold pcsP
    dsimp only
    rw [(takeP_app (beN_len _ 1) _).1]
    dsimp only
    rw [(takeP_app (beN_len _ 6) _).1]
    dsimp only
    rw [(takeP_app (beN_len _ 1) _).1]
    dsimp only
    rw [(takeP_app R.dl _).1]
    dsimp only
    rw [lackP_app (beN_len _ 1), lackP_app (beN_len _ 6), lackP_app (beN_len _ 1), lackP_app R.dl]
    rw [numP_be (show q.st.toNat < 256 ^ 1 by omega), numP_be (show q.gn.toNat < 256 ^ 6 by omega), numP_be (show q.ix.toNat < 256 ^ 1 by omega)]
    rw [← nn _ r0, ← nn _ (show 0 ≤ q.gn by omega), ← nn _ r4]
    rw [pcsP_lay l _ r fun p hp => h p (List.mem_cons_of_mem _ hp)]
    simp
theorem itsP_lay : ∀ (l acc : List It) (r : List UInt8), (∀ q ∈ l, q.right = true) → itsP l.length acc (laysIt l ++ r) false = (acc ++ l, r, false)
  | [], acc, r, _ => by show (acc, r, false) = _; rw [List.append_nil]
  | q :: l, acc, r, h => by
    have R := (It.right_iff q).1 (h q List.mem_cons_self)
    have r0 := R.s0
    have r1 := R.s1
    have r2 := R.g0
    have r3 := R.g1
    have e : laysIt (q :: l) ++ r = beN q.st.toNat 1 ++ (beN q.gn.toNat 6 ++ (q.data ++ (laysIt l ++ r))) := by
      rw [laysIt_cons]; unfold layIt; simp only [List.append_assoc]
    rw [e, List.length_cons]
    unfold itsP
    dsimp only
    rw [(takeP_app (beN_len _ 1) _).1]
    dsimp only
    rw [(takeP_app (beN_len _ 6) _).1]
    dsimp only
    rw [(takeP_app R.dl _).1]
    dsimp only
    rw [lackP_app (beN_len _ 1), lackP_app (beN_len _ 6), lackP_app R.dl]
    rw [numP_be (show q.st.toNat < 256 ^ 1 by omega), numP_be (show q.gn.toNat < 256 ^ 6 by omega)]
    rw [← nn _ r0, ← nn _ (show 0 ≤ q.gn by omega)]
    rw [itsP_lay l _ r fun p hp => h p (List.mem_cons_of_mem _ hp)]
    simp
/-- what stands behind code, boot, count -/
def pst1 (x : List UInt8) : List UInt8 := (takeP (takeP (takeP x 1).2 4).2 1).2
def plk1 (x : List UInt8) : Bool := lackP (lackP (lackP false x 1) (takeP x 1).2 4) (takeP (takeP x 1).2 4).2 1
def pN (x : List UInt8) : Nat := unbe (takeP (takeP (takeP x 1).2 4).2 1).1
def pP (x : List UInt8) : List Pc × List UInt8 × Bool := pcsP (pN x) [] (pst1 x) (plk1 x)
def iN (x : List UInt8) : Nat := unbe (takeP (pP x).2.1 1).1
def iP (x : List UInt8) : List It × List UInt8 × Bool := itsP (iN x) [] (takeP (pP x).2.1 1).2 (lackP (pP x).2.2 (pP x).2.1 1)
def parseRr (x : List UInt8) : Rr := ⟨numP x 1, numP (takeP x 1).2 4, (pP x).1, (iP x).1⟩
def readRr (x : List UInt8) : Option Rr := if (iP x).2.2 = false ∧ (parseRr x).right = true ∧ layRr (parseRr x) = x then some (parseRr x) else none
def Rr.zero : Rr := ⟨0, 0, [], []⟩
theorem readRr_lay (q : Rr) (h : q.right = true) : readRr (layRr q) = some q := by
  have R := (Rr.right_iff q).1 h
  have c0 := R.c0
  have c1 := R.c1
  have b0 := R.b0
  have b1 := R.b1
  have pl := R.pl
  have il := R.il
  have e1 : takeP (layRr q) 1 = (beN q.code.toNat 1, beN q.boot.toNat 4 ++ (beN q.ps.length 1 ++ (laysPc q.ps ++ (beN q.is.length 1 ++ laysIt q.is)))) := (takeP_app (beN_len _ 1) _).1
  have l1 : lackP false (layRr q) 1 = false := lackP_app (beN_len _ 1) _
  have n1 : numP (layRr q) 1 = q.code := by
    have := numP_be (show q.code.toNat < 256 ^ 1 by omega) (beN q.boot.toNat 4 ++ (beN q.ps.length 1 ++ (laysPc q.ps ++ (beN q.is.length 1 ++ laysIt q.is))))
    rw [← nn _ c0] at this; exact this
  have e2 := (takeP_app (beN_len q.boot.toNat 4) (beN q.ps.length 1 ++ (laysPc q.ps ++ (beN q.is.length 1 ++ laysIt q.is)))).1
  have n2 := numP_be (show q.boot.toNat < 256 ^ 4 by omega) (beN q.ps.length 1 ++ (laysPc q.ps ++ (beN q.is.length 1 ++ laysIt q.is)))
  rw [← nn _ b0] at n2
  have e3 := (takeP_app (beN_len q.ps.length 1) (laysPc q.ps ++ (beN q.is.length 1 ++ laysIt q.is))).1
  have hN : pN (layRr q) = q.ps.length := by unfold pN; rw [e1, e2, e3]; exact unbe_be (by omega)
  have hP : pP (layRr q) = (q.ps, beN q.is.length 1 ++ laysIt q.is, false) := by
    unfold pP
    rw [hN, show pst1 (layRr q) = laysPc q.ps ++ (beN q.is.length 1 ++ laysIt q.is) by unfold pst1; rw [e1, e2, e3], show plk1 (layRr q) = false by unfold plk1; rw [l1, e1]; dsimp only; rw [lackP_app (beN_len _ 4), e2]; dsimp only; rw [lackP_app (beN_len _ 1)]]
    rw [pcsP_lay _ _ _ R.pr]; rfl
  have hM : iN (layRr q) = q.is.length := by unfold iN; rw [hP]; dsimp only; rw [(takeP_app (beN_len _ 1) _).1]; exact unbe_be (by omega)
  have hI : iP (layRr q) = (q.is, [], false) := by
    unfold iP
    rw [hM, hP]
    dsimp only
    rw [(takeP_app (beN_len _ 1) _).1, lackP_app (beN_len _ 1)]
    dsimp only
    have := itsP_lay q.is [] [] R.ir
    rw [List.append_nil] at this
    rw [this]; rfl
  have hq : parseRr (layRr q) = q := by
    unfold parseRr
    rw [n1, hP, hI, e1]
    dsimp only
    rw [n2]
  unfold readRr
  rw [hI, hq, if_pos ⟨rfl, h, rfl⟩]
theorem readRr_some {x : List UInt8} {q : Rr} (h : readRr x = some q) : q.right = true ∧ layRr q = x := by
  unfold readRr at h
  split at h
  · rename_i c
    cases h
    exact c.2
  · cases h
/-- one is no beginning of another -/
theorem layRr_pre {p q : Rr} (hp : p.right = true) (hq : q.right = true) {t : List UInt8} (h : layRr p ++ t = layRr q) : t = [] := by
  have P := (Rr.right_iff p).1 hp
  have Q := (Rr.right_iff q).1 hq
  have p1 := P.pl
  have p2 := P.il
  have q1 := Q.pl
  have q2 := Q.il
  unfold layRr at h
  simp only [List.append_assoc] at h
  have h1 := (List.append_inj h (by simp only [beN_len])).2
  have h2 := (List.append_inj h1 (by simp only [beN_len])).2
  obtain ⟨h3, h4⟩ := List.append_inj h2 (by simp only [beN_len])
  have e1 := be_inj (s := 1) (by omega) (by omega) h3
  have h5 := (List.append_inj h4 (by rw [laysPc_len _ P.pr, laysPc_len _ Q.pr, e1])).2
  obtain ⟨h6, h7⟩ := List.append_inj h5 (by simp only [beN_len])
  have e2 := be_inj (s := 1) (by omega) (by omega) h6
  have := congrArg List.length h7
  rw [List.length_append, laysIt_len _ P.ir, laysIt_len _ Q.ir, e2] at this
  exact List.length_eq_zero_iff.1 (by omega)
theorem readRr_short {q : Rr} (h : q.right = true) {n : Nat} (hn : n < (layRr q).length) : readRr ((layRr q).take n) = none := by
  cases e : readRr ((layRr q).take n) with
  | none => rfl
  | some p =>
    obtain ⟨h1, h2⟩ := readRr_some e
    have := layRr_pre h1 h (t := (layRr q).drop n) (by rw [h2, List.take_append_drop])
    have := congrArg List.length this
    rw [List.length_drop] at this
    simp at this
    omega
theorem readRr_long {q : Rr} (h : q.right = true) (c : UInt8) : readRr (layRr q ++ [c]) = none := by
  cases e : readRr (layRr q ++ [c]) with
  | none => rfl
  | some p =>
    obtain ⟨h1, h2⟩ := readRr_some e
    have := layRr_pre h h1 (t := [c]) h2.symm
    cases this

theorem rdPc_l (k : Nat) (hk : 1000 < k) {rb pb : Nat} (hrp : rb < pb) (a0 : Sl) (x7 : Option Addr) (c b : Int) (N : Nat) (hN : N ≤ 255) : ∀ n j h s lk x sp si (ps : PcS) (is : ItS), N - j < n → j ≤ N → WF h → RdS h rb s lk x → Bd h pb c b sp si ps is → ps.length ≤ j →
    ∃ h' s' sp' ps', call_ReadRep.l0 k n a0 x7 (some ⟨rb, 0, none⟩) (some ⟨pb, 0, none⟩) (Int.ofNat N) (Int.ofNat j) h = some ((), h') ∧ Ch (fun z => rb ≤ z) h h' ∧ RdS h' rb s' (pcsP (N - j) (ps.map (·.1)) x lk).2.2 (pcsP (N - j) (ps.map (·.1)) x lk).2.1 ∧ Bd h' pb c b sp' si ps' is ∧ ps'.map (·.1) = (pcsP (N - j) (ps.map (·.1)) x lk).1 ∧ ps'.length ≤ N
  | 0, j, h, s, lk, x, sp, si, ps, is, hn, _, _, _, _, _ => by omega
  | n + 1, j, h, s, lk, x, sp, si, ps, is, hn, hj, w, R, B, hl => by
    rw [call_ReadRep.l0_succ]
    by_cases cj : j < N
    · rw [decide_eq_true (show Int.ofNat j < Int.ofNat N by simp; omega), cond_true]
      simp only [nilA, asP_ptr, Option.bind_some, fadd, Nat.zero_add]
      rw [B.box.ldc]
      rw [show asS ((repV c b sp si)[2]?) = some sp from rfl]
      simp only [Option.bind_some]
      obtain ⟨s1, h1, a1, b1, R1⟩ := R.num k hk w 1 (by decide) 1 rfl
      rw [a1]
      simp only [Option.bind_some]
      have w1 := b1.wf
      have B1 := B.keep w b1 (fun z hz _ f => by omega)
      have m1 := same1_of (o := 2) (b1.keep pb (B.box.lt w) (by omega))
      obtain ⟨s2, h2, a2, b2, R2⟩ := R1.num k hk w1 6 (by decide) 6 rfl
      rw [a2]
      simp only [Option.bind_some]
      have w2 := b2.wf
      have B2 := B1.keep w1 b2 (fun z hz _ f => by omega)
      have m2 := same1_of (o := 2) (b2.keep pb (B1.box.lt w1) (by omega))
      obtain ⟨s3, h3, a3, b3, R3⟩ := R2.num k hk w2 1 (by decide) 1 rfl
      rw [a3]
      simp only [Option.bind_some]
      have w3 := b3.wf
      have B3 := B2.keep w2 b3 (fun z hz _ f => by omega)
      have m3 := same1_of (o := 2) (b3.keep pb (B2.box.lt w2) (by omega))
      obtain ⟨s4, t, h4, d1, d2, R4, d4, d5⟩ := R3.tak k w3 32 32 rfl
      rw [d1]
      simp only [Option.bind_some]
      have w4 := d2.wf
      have B4 := B3.keep w3 d2 (fun z hz _ f => by omega)
      have pbl := B.box.lt w
      have le3 : h.next ≤ h3.next := Nat.le_trans b1.le (Nat.le_trans b2.le b3.le)
      let q : Pc := ⟨numP x 1, numP (takeP x 1).2 6, numP (takeP (takeP x 1).2 6).2 1, (takeP (takeP (takeP (takeP x 1).2 6).2 1).2 32).1⟩
      have hb : ∀ z, SlB t z → pb < z ∧ ¬ SlB sp z ∧ ¬ SlB si z := fun z hz => ⟨by have := d5 z hz; omega, fun f => by have := d5 z hz; have := B3.op.lt w3 f; omega, fun f => by have := d5 z hz; have := B3.oi.lt w3 f; omega⟩
      obtain ⟨sn, g1, g2, e1, e2, e3, e4⟩ := B4.addP w4 q t d4 hb (by omega)
      rw [show [Value.int .i64 (numP x 1), Value.int .i64 (numP (takeP x 1).2 6), Value.int .i64 (numP (takeP (takeP x 1).2 6).2 1), Value.slice t.a t.n t.c] = q.vs t from rfl, e1]
      simp only [Option.bind_some]
      rw [e2]
      simp only [Option.bind_some]
      have m4 := same1_of (o := 2) (d2.keep pb (B3.box.lt w3) (by omega))
      simp only [m1, m2, m3, m4, Bool.and_self, cond_true]
      rw [wrap_succ (by omega)]
      have R5 := R4.keep w4 e3 (fun z hz => by omega)
      obtain ⟨h', s', sx, px, f1, f2, f3, f4, f5, f6⟩ := rdPc_l k hk hrp a0 x7 c b N hN n (j + 1) g2 s4 _ _ sn si (ps ++ [(q, t)]) is (by omega) (by omega) e3.wf R5 e4 (by rw [List.length_append, List.length_singleton]; omega)
      have un : pcsP (N - j) (ps.map (·.1)) x lk = pcsP (N - (j + 1)) ((ps ++ [(q, t)]).map (·.1)) (takeP (takeP (takeP (takeP x 1).2 6).2 1).2 32).2 (lackP (lackP (lackP (lackP lk x 1) (takeP x 1).2 6) (takeP (takeP x 1).2 6).2 1) (takeP (takeP (takeP x 1).2 6).2 1).2 32) := by
        rw [show N - j = (N - (j + 1)) + 1 by omega, List.map_append]; rfl
      rw [un]
      refine ⟨h', s', sx, px, f1, ?_, f3, f4, f5, f6⟩
      exact (((((b1.mono fun z _ f => by omega).trans b2 fun z _ f => by omega).trans b3 fun z _ f => by omega).trans d2 fun z _ f => by omega).trans e3 fun z _ f => by omega).trans f2 fun z _ f => f
    · rw [decide_eq_false (show ¬ Int.ofNat j < Int.ofNat N by simp; omega), cond_false]
      rw [show N - j = 0 by omega]
      exact ⟨h, s, sp, ps, rfl, Ch.refl w, R, B, rfl, by omega⟩

theorem rdIt_l (k : Nat) (hk : 1000 < k) {rb pb : Nat} (hrp : rb < pb) (a0 : Sl) (x7 : Option Addr) (c b : Int) (N : Nat) (hN : N ≤ 255) : ∀ n j h s lk x sp si (ps : PcS) (is : ItS), N - j < n → j ≤ N → WF h → RdS h rb s lk x → Bd h pb c b sp si ps is → is.length ≤ j →
    ∃ h' s' si' is', call_ReadRep.l1 k n a0 x7 (some ⟨rb, 0, none⟩) (some ⟨pb, 0, none⟩) (Int.ofNat N) (Int.ofNat j) h = some ((), h') ∧ Ch (fun z => rb ≤ z) h h' ∧ RdS h' rb s' (itsP (N - j) (is.map (·.1)) x lk).2.2 (itsP (N - j) (is.map (·.1)) x lk).2.1 ∧ Bd h' pb c b sp si' ps is' ∧ is'.map (·.1) = (itsP (N - j) (is.map (·.1)) x lk).1 ∧ is'.length ≤ N
  | 0, j, h, s, lk, x, sp, si, ps, is, hn, _, _, _, _, _ => by omega
  | n + 1, j, h, s, lk, x, sp, si, ps, is, hn, hj, w, R, B, hl => by
    rw [call_ReadRep.l1_succ]
    by_cases cj : j < N
    · rw [decide_eq_true (show Int.ofNat j < Int.ofNat N by simp; omega), cond_true]
      simp only [nilA, asP_ptr, Option.bind_some, fadd, Nat.zero_add]
      rw [B.box.ldc]
      rw [show asS ((repV c b sp si)[3]?) = some si from rfl]
      simp only [Option.bind_some]
      obtain ⟨s1, h1, a1, b1, R1⟩ := R.num k hk w 1 (by decide) 1 rfl
      rw [a1]
      simp only [Option.bind_some]
      have w1 := b1.wf
      have B1 := B.keep w b1 (fun z hz _ f => by omega)
      have m1 := same1_of (o := 3) (b1.keep pb (B.box.lt w) (by omega))
      obtain ⟨s2, h3, a2, b2, R3⟩ := R1.num k hk w1 6 (by decide) 6 rfl
      rw [a2]
      simp only [Option.bind_some]
      have w3 := b2.wf
      have B3 := B1.keep w1 b2 (fun z hz _ f => by omega)
      have m2 := same1_of (o := 3) (b2.keep pb (B1.box.lt w1) (by omega))
      obtain ⟨s4, t, h4, d1, d2, R4, d4, d5⟩ := R3.tak k w3 128 128 rfl
      rw [d1]
      simp only [Option.bind_some]
      have w4 := d2.wf
      have B4 := B3.keep w3 d2 (fun z hz _ f => by omega)
      have pbl := B.box.lt w
      have le3 : h.next ≤ h3.next := Nat.le_trans b1.le b2.le
      let q : It := ⟨numP x 1, numP (takeP x 1).2 6, (takeP (takeP (takeP x 1).2 6).2 128).1⟩
      have hb : ∀ z, SlB t z → pb < z ∧ ¬ SlB sp z ∧ ¬ SlB si z := fun z hz => ⟨by have := d5 z hz; omega, fun f => by have := d5 z hz; have := B3.op.lt w3 f; omega, fun f => by have := d5 z hz; have := B3.oi.lt w3 f; omega⟩
      obtain ⟨sn, g1, g2, e1, e2, e3, e4⟩ := B4.addI w4 q t d4 hb (by omega)
      rw [show [Value.int .i64 (numP x 1), Value.int .i64 (numP (takeP x 1).2 6), Value.slice t.a t.n t.c] = q.vs t from rfl, e1]
      simp only [Option.bind_some]
      rw [e2]
      simp only [Option.bind_some]
      have m4 := same1_of (o := 3) (d2.keep pb (B3.box.lt w3) (by omega))
      simp only [m1, m2, m4, Bool.and_self, cond_true]
      rw [wrap_succ (by omega)]
      have R5 := R4.keep w4 e3 (fun z hz => by omega)
      obtain ⟨h', s', sx, px, f1, f2, f3, f4, f5, f6⟩ := rdIt_l k hk hrp a0 x7 c b N hN n (j + 1) g2 s4 _ _ sp sn ps (is ++ [(q, t)]) (by omega) (by omega) e3.wf R5 e4 (by rw [List.length_append, List.length_singleton]; omega)
      have un : itsP (N - j) (is.map (·.1)) x lk = itsP (N - (j + 1)) ((is ++ [(q, t)]).map (·.1)) (takeP (takeP (takeP x 1).2 6).2 128).2 (lackP (lackP (lackP lk x 1) (takeP x 1).2 6) (takeP (takeP x 1).2 6).2 128) := by
        rw [show N - j = (N - (j + 1)) + 1 by omega, List.map_append]; rfl
      rw [un]
      refine ⟨h', s', sx, px, f1, ?_, f3, f4, f5, f6⟩
      exact ((((b1.mono fun z _ f => by omega).trans b2 fun z _ f => by omega).trans d2 fun z _ f => by omega).trans e3 fun z _ f => by omega).trans f2 fun z _ f => f
    · rw [decide_eq_false (show ¬ Int.ofNat j < Int.ofNat N by simp; omega), cond_false]
      rw [show N - j = 0 by omega]
      exact ⟨h, s, si, is, rfl, Ch.refl w, R, B, rfl, by omega⟩
theorem numP_lt {x : List UInt8} {n : Nat} (h : n ≤ 7) : unbe (takeP x n).1 < 256 ^ n := by
  have h1 := unbe_bound (takeP x n).1
  have h2 : (takeP x n).1.length ≤ n := by
    unfold takeP
    split
    · exact Nat.zero_le _
    · show (x.take n).length ≤ n; rw [List.length_take]; omega
  exact Nat.lt_of_lt_of_le h1 (Nat.pow_le_pow_right (by decide) h2)
set_option maxHeartbeats 4000000 in
theorem rrRead_f (k : Nat) (hk : 1000000 < k) {h : H} (w : WF h) {s : Sl} {x : List UInt8} (r : SlR 1 h s (byt x)) (hx : x.length ≤ 140737488355328) :
    ∃ c b sp si ps is h', call_ReadRep.f k s h = some (((c, b, sp, si), if (readRr x).isSome then 0 else 2), h') ∧ Ch0 h h' ∧ PcR h' sp ps ∧ ItR h' si is ∧ (⟨c, b, ps.map (·.1), is.map (·.1)⟩ : Rr) = (readRr x).getD Rr.zero := by
  unfold call_ReadRep.f
  rw [show [Value.int .i64 (0 : Int), Value.int .i64 0, Value.slice none 0 0, Value.slice none 0 0] = repV 0 0 ⟨none, 0, 0⟩ ⟨none, 0, 0⟩ from rfl]
  obtain ⟨z1, z2, z3⟩ := newR_ok w 67 4 (repV 0 0 ⟨none, 0, 0⟩ ⟨none, 0, 0⟩)
  generalize newR h 67 4 (repV 0 0 ⟨none, 0, 0⟩ ⟨none, 0, 0⟩) = g0 at z1 z2 z3 ⊢
  obtain ⟨s1, g1, a1, a2, a3, a4, a5⟩ := clone_f k z1.wf (r.stay w z1) hx
  rw [a1]
  simp only [Option.bind_some]
  rw [show [Value.slice s1.a s1.n s1.c, Value.bool false] = [slv s1, .bool false] from rfl]
  obtain ⟨y1, y2, y3⟩ := newR_ok a2.wf 92 2 [slv s1, .bool false]
  generalize newR g1 92 2 [slv s1, .bool false] = g2 at y1 y2 y3 ⊢
  have rb0 : g0.next ≤ g1.next := a2.le
  have R0 : RdS g2 g1.next s1 false x := ⟨y3, a3.slr.stay a2.wf y1, fun z hz => a3.lt a2.wf hz, hx⟩
  have c2 : Ch0 g0 g2 := a2.then y1
  obtain ⟨s2, g3, b1, b2, R1⟩ := R0.num k (by omega) c2.wf 1 (by decide) 1 rfl
  rw [b1]
  simp only [Option.bind_some]
  have c3 : Ch0 g0 g3 := Ch0.at c2 b2 rb0
  obtain ⟨s3, g4, d1, d2, R2⟩ := R1.num k (by omega) c3.wf 4 (by decide) 4 rfl
  rw [d1]
  simp only [Option.bind_some]
  have c4 : Ch0 g0 g4 := Ch0.at c3 d2 rb0
  have l4 : g1.next < g4.next := by have := b2.le; have := d2.le; omega
  rw [show [Value.int .i64 (numP x 1), Value.int .i64 (numP (takeP x 1).2 4), Value.slice none 0 0, Value.slice none 0 0] = repV (numP x 1) (numP (takeP x 1).2 4) ⟨none, 0, 0⟩ ⟨none, 0, 0⟩ from rfl]
  obtain ⟨g5, e1, e2, e3, e4⟩ := box_ok c4.wf 67 4 (repV 0 0 ⟨none, 0, 0⟩ ⟨none, 0, 0⟩) (repV (numP x 1) (numP (takeP x 1).2 4) ⟨none, 0, 0⟩ ⟨none, 0, 0⟩) rfl rfl rfl
  rw [e1]
  simp only [Option.bind_some]
  have B5 := Bd.of_is e4
  have R5 := R2.keep c4.wf e2 (fun _ _ f => f)
  have c5 : Ch0 g0 g5 := c4.then e2
  obtain ⟨s4, g6, f1, f2, R6⟩ := R5.num k (by omega) c5.wf 1 (by decide) 1 rfl
  rw [f1]
  simp only [Option.bind_some]
  have c6 : Ch0 g0 g6 := Ch0.at c5 f2 rb0
  have B6 := B5.keep c5.wf f2 (fun z hz _ f => by omega)
  obtain ⟨g7, s5, sp, ps, i1, i2, R7, B7, i5, i6⟩ := rdPc_l k (by omega) l4 s (some ⟨h.next, 0, none⟩) (numP x 1) (numP (takeP x 1).2 4) (pN x) (Nat.le_of_lt_succ (numP_lt (n := 1) (by decide))) k 0 g6 s4 _ _ _ _ [] [] (by have := numP_lt (x := (takeP (takeP x 1).2 4).2) (n := 1) (by decide); show pN x - 0 < k; unfold pN; omega) (Nat.zero_le _) c6.wf R6 B6 (Nat.zero_le _)
  rw [show numP (takeP (takeP x 1).2 4).2 1 = Int.ofNat (pN x) from rfl, show (0 : Int) = Int.ofNat 0 from rfl, i1]
  simp only [Option.bind_some]
  have c7 : Ch0 g0 g7 := c6.trans i2 fun z hz f => by omega
  have eP : pcsP (pN x - 0) (([] : PcS).map (·.1)) (takeP (takeP (takeP x 1).2 4).2 1).2 (lackP (lackP (lackP false x 1) (takeP x 1).2 4) (takeP (takeP x 1).2 4).2 1) = pP x := rfl
  rw [eP] at R7 i5
  obtain ⟨s6, g8, j1, j2, R8⟩ := R7.num k (by omega) c7.wf 1 (by decide) 1 rfl
  rw [j1]
  simp only [Option.bind_some]
  have c8 : Ch0 g0 g8 := Ch0.at c7 j2 rb0
  have B8 := B7.keep c7.wf j2 (fun z hz _ f => by omega)
  obtain ⟨g9, s7, si, is, k1, k2, R9, B9, k5, k6⟩ := rdIt_l k (by omega) l4 s (some ⟨h.next, 0, none⟩) (numP x 1) (numP (takeP x 1).2 4) (iN x) (Nat.le_of_lt_succ (numP_lt (n := 1) (by decide))) k 0 g8 s6 _ _ _ _ ps [] (by have := numP_lt (x := (pP x).2.1) (n := 1) (by decide); show iN x - 0 < k; unfold iN; omega) (Nat.zero_le _) c8.wf R8 B8 (Nat.zero_le _)
  rw [show numP (pP x).2.1 1 = Int.ofNat (iN x) from rfl, k1]
  simp only [Option.bind_some]
  have c9 : Ch0 g0 g9 := c8.trans k2 fun z hz f => by omega
  have eI : itsP (iN x - 0) (([] : ItS).map (·.1)) (takeP (pP x).2.1 1).2 (lackP (pP x).2.2 (pP x).2.1 1) = iP x := rfl
  rw [eI] at R9 k5
  rw [Is.rr B9.box, bindRr]
  dsimp only
  have hpn : pN x ≤ 255 := Nat.le_of_lt_succ (numP_lt (n := 1) (by decide))
  have hin : iN x ≤ 255 := Nat.le_of_lt_succ (numP_lt (n := 1) (by decide))
  have hQ : (⟨numP x 1, numP (takeP x 1).2 4, ps.map (·.1), is.map (·.1)⟩ : Rr) = parseRr x := by rw [i5, k5]; rfl
  obtain ⟨s8, g10, l1, l2, l3, l5⟩ := rrLay_f k (by omega) c9.wf (numP x 1) (numP (takeP x 1).2 4) B9.pcr B9.itr (by omega) (by omega) _ hQ
  rw [l1]
  have R10 := R9.keep c9.wf l2 (fun _ _ f => f)
  have B10 := B9.keep c9.wf l2 (fun _ _ _ f => f)
  simp only [Option.bind_some, R10.box.ldc]
  rw [show asB ([slv s7, Value.bool (iP x).2.2][1]?) = some (iP x).2.2 from rfl]
  simp only [Option.bind_some]
  have c10 := z1.then (c9.then l2)
  have G : (((cond (iP x).2.2 (some (true, g10))
      (some ((if (parseRr x).right = true then (0 : Int) else 1) != Int.ofNat 0, g10)) : Option (Bool × H)).bind fun g43 =>
    (cond g43.1 (some (true, g43.2))
      ((slices_Equal_byte_byte.f k s8 s g43.2).bind fun q44 =>
    some (!q44.1, q44.2)))) : Option (Bool × H)) = some (!(readRr x).isSome, g10) := by
    cases hl : (iP x).2.2 with
    | true =>
      have e : readRr x = none := by unfold readRr; exact if_neg fun f => by rw [hl] at f; cases f.1
      rw [e]; rfl
    | false =>
      cases hr : (parseRr x).right with
      | false =>
        have e : readRr x = none := by unfold readRr; exact if_neg fun f => by rw [hr] at f; cases f.2.1
        rw [e]; rfl
      | true =>
        rw [hr] at l3
        rw [if_pos rfl] at l3
        have RR := (Rr.right_iff _).1 hr
        have RP := RR.pl
        have RI := RR.il
        have hl2 : (layRr (parseRr x)).length < 3000 := by
          rw [layRr_len _ RR]; omega
        rw [show (cond false (some (true, g10)) (some ((if true = true then (0 : Int) else 1) != Int.ofNat 0, g10)) : Option (Bool × H)) = some (false, g10) from rfl]
        simp only [Option.bind_some, cond_false]
        rw [equal_f k l3.slr (r.stay w c10) (by omega) (by omega)]
        by_cases e : layRr (parseRr x) = x
        · have e2 : readRr x = some (parseRr x) := by unfold readRr; exact if_pos ⟨hl, hr, e⟩
          rw [decide_eq_true e, e2]; rfl
        · have e2 : readRr x = none := by unfold readRr; exact if_neg fun f => e f.2.2
          rw [decide_eq_false e, e2]; rfl
  have Z10 := z3.stay z1.wf (c9.then l2)
  cases hs : (readRr x).isSome with
  | false =>
    have hr : readRr x = none := by cases q : readRr x with | none => rfl | some _ => rw [q] at hs; cases hs
    obtain ⟨g12, x1, x2, x3, x4⟩ := Is.whole c10.wf Z10 rfl (repV 0 0 ⟨none, 0, 0⟩ ⟨none, 0, 0⟩) rfl rfl
    rw [hs] at G
    refine ⟨0, 0, ⟨none, 0, 0⟩, ⟨none, 0, 0⟩, [], [], g12, ?_, Ch0.at c10 x2 (Nat.le_refl _), ⟨.inl ⟨rfl, .inl rfl⟩, fun p hp => by cases hp⟩, ⟨.inl ⟨rfl, .inl rfl⟩, fun p hp => by cases hp⟩, by rw [hr]; rfl⟩
    rw [← Option.bind_assoc, G]
    simp only [Option.bind_some, Bool.not_false, cond_true]
    rw [show repV (Int.ofNat 0) (Int.ofNat 0) ⟨none, 0, 0⟩ ⟨none, 0, 0⟩ = repV 0 0 ⟨none, 0, 0⟩ ⟨none, 0, 0⟩ from rfl, x1]
    simp only [Option.bind_some]
    rw [Is.rr x4, bindRr]; rfl
  | true =>
    have hp : (readRr x).getD Rr.zero = parseRr x := by
      unfold readRr at hs ⊢
      split
      · rfl
      · rename_i c; rw [if_neg c] at hs; cases hs
    obtain ⟨g12, x1, x2, x3, x4⟩ := Is.whole c10.wf Z10 rfl (repV (numP x 1) (numP (takeP x 1).2 4) sp si) rfl rfl
    rw [hs] at G
    have hlt : h.next < g4.next := by omega
    have B12 := B10.keep c10.wf x2 (fun z hz _ f => by omega)
    refine ⟨numP x 1, numP (takeP x 1).2 4, sp, si, ps, is, g12, ?_, Ch0.at c10 x2 (Nat.le_refl _), B12.pcr, B12.itr, by rw [hp]; exact hQ⟩
    rw [← Option.bind_assoc, G]
    simp only [Option.bind_some, Bool.not_true, cond_false]
    rw [Is.rr B10.box, bindRr]
    dsimp only
    rw [show [Value.int .i64 (numP x 1), Value.int .i64 (numP (takeP x 1).2 4), Value.slice sp.a sp.n sp.c, Value.slice si.a si.n si.c] = repV (numP x 1) (numP (takeP x 1).2 4) sp si from rfl, x1]
    simp only [Option.bind_some]
    rw [Is.rr x4, bindRr]; rfl
end Go.Proofs.Ythpkhegoamhgeaa.Fw
