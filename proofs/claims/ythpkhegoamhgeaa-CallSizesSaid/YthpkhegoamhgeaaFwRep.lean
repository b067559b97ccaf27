/- call's replies, as plain lists: pieces, intents. No condition. -/
import Derived.Test.YthpkhegoamhgeaaFwCall4
import Derived.Test.YthpkhegoamhgeaaFRep
namespace Go.Proofs.Ythpkhegoamhgeaa.Fw
open Go Den Fwd
set_option linter.unusedVariables false
set_option linter.unusedSimpArgs false
/-- an element put behind a slice's -/
theorem push_el {h : H} (w : WF h) {e es by_ : Nat} {s : Sl} {l : List Value} (r : Ow e es h s l) (hes : 0 < es) (vs : List Value) (hv : vs.length = es) (h1 : vs.all Den.one = true) (hb : (s.n + 1) * by_ ≤ 140737488355328) :
    ∃ s' h', asS2 (apv e es by_ (.slice s.a s.n s.c) (.slice (some ⟨h.next, 0, none⟩) 1 1) (newR h e es vs)) = some (s', h') ∧ Ch (SlB s) h h' ∧ Ow e es h' s' (l ++ vs) ∧ ∀ b, SlB s' b → SlB s b ∨ h.next ≤ b := by
  obtain ⟨n1, n2, n3⟩ := newR_ok w e es vs
  obtain ⟨s', h', e1, e2, e3, e4, e5⟩ := apv_ok (by_ := by_) n1.wf (r.stay w n1) hes (SlR.of_is n3 (n := 1) (by rw [hv, Nat.one_mul]) (by unfold unk; omega)) hb h1
  exact ⟨s', h', e1, (n1.mono fun _ _ f => f.elim).trans e2 fun _ _ f => f, e3, fun b hb => (e5 b hb).imp id fun f => by omega⟩

/-! ### Pc -/
structure Pc where
  st : Int
  gn : Int
  ix : Int
  data : List UInt8
abbrev PcT : Type := Int × Int × Int × Sl
def Pc.tup (q : Pc) (d : Sl) : PcT := (q.st, q.gn, q.ix, d)
def pcV (a b c : Int) (d : Sl) : List Value := [.int .i64 a, .int .i64 b, .int .i64 c, slv d]
def Pc.vs (q : Pc) (d : Sl) : List Value := pcV q.st q.gn q.ix d
abbrev PcS := List (Pc × Sl)
def pccells (ps : PcS) : List Value := (ps.map fun p => p.1.vs p.2).flatten
theorem pccells_len (ps : PcS) : (pccells ps).length = ps.length * 4 := by
  unfold pccells
  rw [flatten_len (es := 4) _ (fun l hl => by obtain ⟨p, _, rfl⟩ := List.mem_map.1 hl; rfl), List.length_map]
theorem pccells_snoc (ps : PcS) (p : Pc × Sl) : pccells (ps ++ [p]) = pccells ps ++ p.1.vs p.2 := by unfold pccells; simp
theorem pccells_at (ps : PcS) {k : Nat} (hk : k < ps.length) : ((pccells ps).drop (k * 4)).take 4 = ps[k].1.vs ps[k].2 := by
  induction ps generalizing k with
  | nil => simp at hk
  | cons p ps ih =>
    have e : pccells (p :: ps) = p.1.vs p.2 ++ pccells ps := by unfold pccells; simp
    have hl : (p.1.vs p.2).length = 4 := rfl
    cases k with
    | zero => rw [e, Nat.zero_mul, List.drop_zero, List.take_append_of_le_length (by omega), List.take_of_length_le (by omega)]; rfl
    | succ k =>
      rw [e, show (k + 1) * 4 = (p.1.vs p.2).length + k * 4 by rw [hl]; omega, ← List.drop_drop, List.drop_left]
      exact ih (by simpa using hk)
theorem bindPc {β : Type} (a b c : Int) (d : Sl) (f : FT [.int .i64, .int .i64, .int .i64, .sl] → Option β) : (asSt [(.int .i64), (.int .i64), (.int .i64), .sl] (some (Value.agg (pcV a b c d).toArray))).bind f = f (show FT [.int .i64, .int .i64, .int .i64, .sl] from ((a, b, c, d) : PcT)) := rfl
theorem Is.pc {h : H} {bb e es : Nat} {a b c : Int} {d : Sl} (I : Is h bb e es (pcV a b c d)) : lda 4 h (some ⟨bb, 0, none⟩) = some (.agg (pcV a b c d).toArray) := by
  rw [I.lda (o := 0) (n := 4) (Nat.le_refl _)]; rfl
/-- a slice of them, read -/
structure PcR (h : H) (s : Sl) (ps : PcS) : Prop where
  sl : SlR 4 h s (pccells ps)
  da : ∀ p ∈ ps, SlR 1 h p.2 (byt p.1.data)
theorem PcR.stay {h h' : H} {s : Sl} {ps : PcS} (w : WF h) (c : Ch0 h h') (r : PcR h s ps) : PcR h' s ps := ⟨r.sl.stay w c, fun p hp => (r.da p hp).stay w c⟩
theorem PcR.n {h : H} {s : Sl} {ps : PcS} (r : PcR h s ps) : s.n = ps.length := by have := r.sl.len; rw [pccells_len] at this; omega
theorem PcR.at {h : H} {s : Sl} {ps : PcS} (r : PcR h s ps) {j : Nat} (hj : j < ps.length) : ∃ p, ixs 4 s.a s.n (Int.ofNat j) = some (.pointer p) ∧ lda 4 h p = some (.agg (ps[j].1.vs ps[j].2).toArray) := by
  obtain ⟨b, o, h1, h2⟩ := r.sl.elem (j := j) (by rw [r.n]; exact hj)
  rw [pccells_at ps hj] at h2
  refine ⟨some ⟨b, o, none⟩, h1, ?_⟩
  show (match h.gets b o 4 with | some vs => some (Value.agg vs.toArray) | none => none) = _
  rw [h2]
def Pc.right (q : Pc) : Bool := decide (0 ≤ q.st ∧ q.st < 40) && (decide (1 ≤ q.gn ∧ q.gn ≤ 1099511627776) && (decide (0 ≤ q.ix ∧ q.ix < 6) && (decide (q.data.length = 32))))
structure Pc.Rt (q : Pc) : Prop where
  s0 : 0 ≤ q.st
  s1 : q.st < 40
  g0 : 1 ≤ q.gn
  g1 : q.gn ≤ 1099511627776
  i0 : 0 ≤ q.ix
  i1 : q.ix < 6
  dl : q.data.length = 32
theorem Pc.right_iff (q : Pc) : q.right = true ↔ q.Rt := by
  unfold Pc.right
  simp only [Bool.and_eq_true, decide_eq_true_eq]
  exact ⟨fun ⟨⟨a, b⟩, ⟨c, d⟩, ⟨e, f⟩, g⟩ => ⟨a, b, c, d, e, f, g⟩, fun ⟨a, b, c, d, e, f, g⟩ => ⟨⟨a, b⟩, ⟨c, d⟩, ⟨e, f⟩, g⟩⟩
def layPc (q : Pc) : List UInt8 := beN q.st.toNat 1 ++ beN q.gn.toNat 6 ++ beN q.ix.toNat 1 ++ q.data
def laysPc (l : List Pc) : List UInt8 := (l.map layPc).flatten
theorem laysPc_cons (q : Pc) (l : List Pc) : laysPc (q :: l) = layPc q ++ laysPc l := by unfold laysPc; simp
theorem layPc_len (q : Pc) : (layPc q).length = 8 + q.data.length := by unfold layPc; simp only [List.length_append, beN_len]
theorem laysPc_len (l : List Pc) (h : ∀ q ∈ l, q.right = true) : (laysPc l).length = 40 * l.length := by
  induction l with
  | nil => rfl
  | cons q l ih =>
    rw [laysPc_cons, List.length_append, layPc_len, ih fun p hp => h p (List.mem_cons_of_mem _ hp), List.length_cons]
    have := ((Pc.right_iff q).1 (h q List.mem_cons_self)).dl
    omega
/-! right? -/
theorem pcRight_f (k : Nat) {h : H} (w : WF h) (q : Pc) (d : Sl) (r : SlR 1 h d (byt q.data)) : ∃ h', chunk_Right.f k (q.tup d) h = some (q.right, h') ∧ Ch0 h h' := by
  unfold chunk_Right.f Pc.tup
  dsimp only
  rw [show [Value.int .i64 q.st, Value.int .i64 q.gn, Value.int .i64 q.ix, Value.slice d.a d.n d.c] = q.vs d from rfl]
  obtain ⟨z1, z2, z3⟩ := newR_ok w 69 4 (q.vs d)
  generalize newR h 69 4 (q.vs d) = g0 at z1 z2 z3 ⊢
  refine ⟨g0, ?_, z1⟩
  have V0 : (q.vs d)[0]? = some (.int .i64 q.st) := rfl
  have V1 : (q.vs d)[1]? = some (.int .i64 q.gn) := rfl
  have V2 : (q.vs d)[2]? = some (.int .i64 q.ix) := rfl
  have VD : (q.vs d)[3]? = some (slv d) := rfl
  have bad : ∀ b : Bool, q.right = b → some (b, g0) = some (q.right, g0) := fun b e => by rw [e]
  simp only [z3.ldc, V0, V1, V2, VD, asI_int, asS_slv, Option.bind_some]
  by_cases c1 : 0 ≤ q.st
  rotate_left
  · simp only [decide_eq_false (show ¬ q.st ≥ 0 from c1), cond_false, Option.bind_some]
    exact bad _ (by unfold Pc.right; rw [decide_eq_false (p := 0 ≤ q.st ∧ q.st < 40) (fun f => c1 f.1)]; rfl)
  simp only [decide_eq_true (show q.st ≥ 0 from c1), cond_true, z3.ldc, V0, V1, V2, VD, asI_int, asS_slv, Option.bind_some]
  by_cases c2 : q.st < 40
  rotate_left
  · simp only [decide_eq_false c2, cond_false, Option.bind_some]
    exact bad _ (by unfold Pc.right; rw [decide_eq_false (p := 0 ≤ q.st ∧ q.st < 40) (fun f => c2 f.2)]; rfl)
  simp only [decide_eq_true c2, cond_true, z3.ldc, V0, V1, V2, VD, asI_int, asS_slv, Option.bind_some]
  by_cases c3 : 1 ≤ q.gn
  rotate_left
  · simp only [decide_eq_false (show ¬ q.gn ≥ 1 from c3), cond_false, Option.bind_some]
    exact bad _ (by unfold Pc.right; rw [decide_eq_false (p := 1 ≤ q.gn ∧ q.gn ≤ 1099511627776) (fun f => c3 f.1)]; simp)
  simp only [decide_eq_true (show q.gn ≥ 1 from c3), cond_true, z3.ldc, V0, V1, V2, VD, asI_int, asS_slv, Option.bind_some]
  by_cases c4 : q.gn ≤ 1099511627776
  rotate_left
  · simp only [decide_eq_false c4, cond_false, Option.bind_some]
    exact bad _ (by unfold Pc.right; rw [decide_eq_false (p := 1 ≤ q.gn ∧ q.gn ≤ 1099511627776) (fun f => c4 f.2)]; simp)
  simp only [decide_eq_true c4, cond_true, z3.ldc, V0, V1, V2, VD, asI_int, asS_slv, Option.bind_some]
  by_cases c5 : 0 ≤ q.ix
  rotate_left
  · simp only [decide_eq_false (show ¬ q.ix ≥ 0 from c5), cond_false, Option.bind_some]
    exact bad _ (by unfold Pc.right; rw [decide_eq_false (p := 0 ≤ q.ix ∧ q.ix < 6) (fun f => c5 f.1)]; simp)
  simp only [decide_eq_true (show q.ix ≥ 0 from c5), cond_true, z3.ldc, V0, V1, V2, VD, asI_int, asS_slv, Option.bind_some]
  by_cases c6 : q.ix < 6
  rotate_left
  · simp only [decide_eq_false c6, cond_false, Option.bind_some]
    exact bad _ (by unfold Pc.right; rw [decide_eq_false (p := 0 ≤ q.ix ∧ q.ix < 6) (fun f => c6 f.2)]; simp)
  simp only [decide_eq_true c6, cond_true, z3.ldc, V0, V1, V2, VD, asI_int, asS_slv, Option.bind_some]
  rw [r.n_byt]
  have e : (Int.ofNat q.data.length == (32 : Int)) = decide (q.data.length = 32) := by
    by_cases c : q.data.length = 32
    · rw [decide_eq_true c, c]; rfl
    · rw [decide_eq_false c, beq_eq_false_iff_ne]
      intro f; exact c (Int.ofNat.inj f)
  rw [e]
  refine bad _ ?_
  unfold Pc.right
  simp [c1, c2, c3, c4, c5, c6]
theorem pcOne_f (k : Nat) {h : H} (w : WF h) (q : Pc) (d : Sl) (r : SlR 1 h d (byt q.data)) : ∃ h', call_right_1.f k (q.tup d) h = some (!q.right, h') ∧ Ch0 h h' := by
  unfold call_right_1.f Pc.tup
  dsimp only
  rw [show [Value.int .i64 q.st, Value.int .i64 q.gn, Value.int .i64 q.ix, Value.slice d.a d.n d.c] = pcV q.st q.gn q.ix d from rfl]
  obtain ⟨z1, z2, z3⟩ := newR_ok w 69 4 (pcV q.st q.gn q.ix d)
  rw [Is.pc z3, bindPc]
  dsimp only
  obtain ⟨h', a1, a2⟩ := pcRight_f k z1.wf q d (r.stay w z1)
  rw [show ((q.st, q.gn, q.ix, d) : PcT) = q.tup d from rfl, a1]
  exact ⟨h', rfl, z1.then a2⟩
theorem pcIdx_l0 (k : Nat) {h0 : H} (w0 : WF h0) {s : Sl} {ps : PcS} (r : PcR h0 s ps) (hl : ps.length ≤ 1000) : ∀ n j h, ps.length - j < n → j ≤ ps.length → Ch0 h0 h →
    ∃ h' v, slices_IndexFunc_api_Piece_api_Piece_call_right_1.l0 k n s () (Int.ofNat ps.length) (Int.ofNat j) h = some (v, h') ∧ Ch0 h0 h' ∧ ((∃ i : Nat, v = .inl (Int.ofNat i) ∧ (ps.drop j).all (fun p => p.1.right) = false) ∨ (v = .inr () ∧ (ps.drop j).all (fun p => p.1.right) = true))
  | 0, j, h, hn, _, _ => by omega
  | n + 1, j, h, hn, hj, hc => by
    rw [slices_IndexFunc_api_Piece_api_Piece_call_right_1.l0_succ]
    by_cases c : j < ps.length
    · rw [decide_eq_true (show Int.ofNat j < Int.ofNat ps.length by simp; omega), cond_true]
      obtain ⟨p, e1, e2⟩ := (r.stay w0 hc).at c
      rw [e1]
      simp only [asP_ptr, Option.bind_some]
      rw [show ps[j].1.vs ps[j].2 = pcV ps[j].1.st ps[j].1.gn ps[j].1.ix ps[j].2 from rfl] at e2
      rw [e2, bindPc]
      dsimp only
      obtain ⟨h1, a1, a2⟩ := pcOne_f k hc.wf ps[j].1 ps[j].2 (((r.stay w0 hc).da _ (List.getElem_mem c)))
      rw [show ((ps[j].1.st, ps[j].1.gn, ps[j].1.ix, ps[j].2) : PcT) = ps[j].1.tup ps[j].2 from rfl, a1]
      simp only [Option.bind_some]
      have hd : ps.drop j = ps[j] :: ps.drop (j + 1) := List.drop_eq_getElem_cons c
      cases hr : ps[j].1.right with
      | false => exact ⟨h1, _, rfl, hc.then a2, .inl ⟨j, rfl, by rw [hd, List.all_cons, hr]; rfl⟩⟩
      | true =>
        simp only [Bool.not_true, cond_false]
        rw [wrap_succ (by omega)]
        obtain ⟨h2, v, b1, b2, b3⟩ := pcIdx_l0 k w0 r hl n (j + 1) h1 (by omega) (by omega) (hc.then a2)
        have e3 : (ps.drop j).all (fun p => p.1.right) = (ps.drop (j + 1)).all (fun p => p.1.right) := by rw [hd, List.all_cons, hr, Bool.true_and]
        exact ⟨h2, v, b1, b2, by rw [e3]; exact b3⟩
    · rw [decide_eq_false (show ¬ Int.ofNat j < Int.ofNat ps.length by simp; omega), cond_false]
      exact ⟨h, _, rfl, hc, .inr ⟨rfl, by rw [List.drop_eq_nil_of_le (by omega)]; rfl⟩⟩
theorem pcAny_f (k : Nat) (hk : 1000 < k) {h : H} (w : WF h) {s : Sl} {ps : PcS} (r : PcR h s ps) (hl : ps.length ≤ 1000) : ∃ h', slices_ContainsFunc_api_Piece_api_Piece_call_right_1.f k s () h = some (!(ps.all fun p => p.1.right), h') ∧ Ch0 h h' := by
  unfold slices_ContainsFunc_api_Piece_api_Piece_call_right_1.f slices_IndexFunc_api_Piece_api_Piece_call_right_1.f
  obtain ⟨h', v, a1, a2, a3⟩ := pcIdx_l0 k w r hl k 0 h (by omega) (Nat.zero_le _) (Ch.refl w)
  rw [r.n, show (0 : Int) = Int.ofNat 0 from rfl, a1]
  rw [List.drop_zero] at a3
  rcases a3 with ⟨i, rfl, e⟩ | ⟨rfl, e⟩
  · rw [e]
    refine ⟨h', ?_, a2⟩
    show some (decide (Int.ofNat i ≥ Int.ofNat 0), h') = _
    rw [decide_eq_true (show Int.ofNat i ≥ Int.ofNat 0 by simp)]; rfl
  · rw [e]
    exact ⟨h', rfl, a2⟩
/-! the bytes of all -/
theorem pcLay_l (k : Nat) (hk : 1000 < k) {h0 : H} (w0 : WF h0) (xp : Option Addr) {s : Sl} {ps : PcS} (r : PcR h0 s ps) (hl : ps.length ≤ 20) (hr : ∀ p ∈ ps, p.1.right = true) : ∀ n j h out (pre : List UInt8), ps.length - j < n → j ≤ ps.length → Ch0 h0 h → Ow 5 1 h out (byt pre) → (∀ b, SlB out b → h0.next ≤ b) → pre.length ≤ 1000 + 40 * j →
    ∃ out' h', call_LayRep.l0 k n xp s (Int.ofNat ps.length) out (Int.ofNat j) h = some (out', h') ∧ Ch0 h0 h' ∧ Ow 5 1 h' out' (byt (pre ++ laysPc ((ps.drop j).map (·.1)))) ∧ ∀ b, SlB out' b → h0.next ≤ b
  | 0, j, h, out, pre, hn, _, _, _, _, _ => by omega
  | n + 1, j, h, out, pre, hn, hj, hc, ho, hb, hp => by
    rw [call_LayRep.l0_succ]
    by_cases c : j < ps.length
    · rw [decide_eq_true (show Int.ofNat j < Int.ofNat ps.length by simp; omega), cond_true]
      have r' := r.stay w0 hc
      obtain ⟨p, e1, e2⟩ := r'.at c
      rw [e1]
      simp only [asP_ptr, Option.bind_some]
      have rt := (Pc.right_iff _).1 (hr _ (List.getElem_mem c))
      have da := r'.da _ (List.getElem_mem c)
      have hd : ps.drop j = ps[j] :: ps.drop (j + 1) := List.drop_eq_getElem_cons c
      generalize hq : ps[j] = q at e2 rt da hd
      rw [show q.1.vs q.2 = pcV q.1.st q.1.gn q.1.ix q.2 from rfl] at e2
      rw [e2, bindPc]
      dsimp only
      rw [show [Value.int .i64 (0 : Int), Value.int .i64 (0 : Int), Value.int .i64 (0 : Int), Value.slice none 0 0] = pcV 0 0 0 ⟨none, 0, 0⟩ from rfl, show [Value.int .i64 q.1.st, Value.int .i64 q.1.gn, Value.int .i64 q.1.ix, Value.slice q.2.a q.2.n q.2.c] = q.1.vs q.2 from rfl]
      obtain ⟨g0, z1, z2, z3, z4⟩ := box_ok hc.wf 69 4 (pcV 0 0 0 ⟨none, 0, 0⟩) (q.1.vs q.2) rfl rfl rfl
      rw [z1]
      have V0 : (q.1.vs q.2)[0]? = some (.int .i64 q.1.st) := rfl
      have V1 : (q.1.vs q.2)[1]? = some (.int .i64 q.1.gn) := rfl
      have V2 : (q.1.vs q.2)[2]? = some (.int .i64 q.1.ix) := rfl
      have VD : (q.1.vs q.2)[3]? = some (slv q.2) := rfl
      simp only [Option.bind_some, z4.ldc, V0, asI_int]
      have q0 := rt.s0
      have q1 := rt.g0
      obtain ⟨s1, g1, a1, a2, a3, a4⟩ := cbytes_f k hk q.1.st.toNat 1 (by decide) z2.wf q.1.st (nn _ q0) 1 rfl
      rw [a1]
      have I1 := z4.stay z2.wf a2
      simp only [Option.bind_some, I1.ldc, V1, asI_int]
      obtain ⟨s2, g2, b1, b2, b3, b4⟩ := cbytes_f k hk q.1.gn.toNat 6 (by decide) a2.wf q.1.gn (nn _ (by omega)) 6 rfl
      rw [b1]
      have I2 := I1.stay a2.wf b2
      have q2 := rt.i0
      simp only [Option.bind_some, I2.ldc, V2, asI_int]
      obtain ⟨s3, g3, d1, d2, d3, d4⟩ := cbytes_f k hk q.1.ix.toNat 1 (by decide) b2.wf q.1.ix (nn _ q2) 1 rfl
      rw [d1]
      have I3 := I2.stay b2.wf d2
      simp only [Option.bind_some, I3.ldc, VD]
      rw [show asS (some (slv q.2)) = some q.2 from rfl]
      simp only [Option.bind_some]
      let pp : Parts := [(out, pre), (s1, beN q.1.st.toNat 1), (s2, beN q.1.gn.toNat 6), (s3, beN q.1.ix.toNat 1), (q.2, q.1.data)]
      rw [show [Value.slice out.a out.n out.c, Value.slice s1.a s1.n s1.c, Value.slice s2.a s2.n s2.c, Value.slice s3.a s3.n s3.c, Value.slice q.2.a q.2.n q.2.c] = pp.map fun p => slv p.1 from rfl]
      obtain ⟨y1, y2, y3⟩ := newR_ok d2.wf 25 1 (pp.map fun p => slv p.1)
      have c1 : Ch0 h g1 := z2.then a2
      have c2 := c1.then b2
      have c3 := c2.then d2
      have dl := rt.dl
      have hpp : PartsR g3 pp := by
        intro x hx
        simp only [pp, List.mem_cons, List.not_mem_nil, or_false] at hx
        rcases hx with rfl | rfl | rfl | rfl | rfl
        · exact ho.slr.stay hc.wf c3
        · exact a3.slr.stay a2.wf (b2.then d2)
        · exact b3.slr.stay b2.wf d2
        · exact d3.slr
        · exact da.stay hc.wf c3
      obtain ⟨s', h', v1, v2, v3, v4⟩ := concat_f k hk y1.wf (ps := pp) (SlR.of_is y3 (n := 5) rfl (by unfold unk; omega)) (hpp.stay d2.wf y1) (by show 5 < 1000; decide) (by
        show pre.length + ((beN q.1.st.toNat 1).length + ((beN q.1.gn.toNat 6).length + ((beN q.1.ix.toNat 1).length + ((q.1.data.length + 0))))) ≤ _
        simp only [beN_len]
        have : 40 * j ≤ 40 * 20 := Nat.mul_le_mul_left _ (by omega)
        omega)
      rw [v1]
      simp only [Option.bind_some]
      have bz : h.next < g0.next := by omega
      have k1 := a2.keep h.next bz fun f => f
      have l1 := a2.le
      have k2 := b2.keep h.next (by omega) fun f => f
      have l2 := b2.le
      have k3 := d2.keep h.next (by omega) fun f => f
      simp only [same1_of k1, same1_of k2, same1_of k3, Bool.and_self, cond_true]
      rw [wrap_succ (by omega)]
      have hj' : joined pp = pre ++ layPc q.1 := by
        unfold joined layPc
        simp only [pp, List.map_cons, List.map_nil, List.flatten_cons, List.flatten_nil, List.append_nil, List.append_assoc]
      rw [hj'] at v3
      have cc : Ch0 h h' := (c3.then y1).then v2
      have lc := c3.le
      have ly := y1.le
      obtain ⟨o2, h2, w1, w2, w3, w4⟩ := pcLay_l k hk w0 xp r hl hr n (j + 1) h' s' (pre ++ layPc q.1) (by omega) (by omega) (hc.then cc) v3 (fun b hb => by have := v4 b hb; have := hc.le; omega) (by rw [List.length_append, layPc_len]; omega)
      refine ⟨o2, h2, w1, w2, ?_, w4⟩
      rw [hd, List.map_cons, laysPc_cons, ← List.append_assoc]; exact w3
    · rw [decide_eq_false (show ¬ Int.ofNat j < Int.ofNat ps.length by simp; omega), cond_false]
      refine ⟨out, h, rfl, hc, ?_, hb⟩
      rw [List.drop_eq_nil_of_le (by omega)]
      show Ow 5 1 h out (byt (pre ++ []))
      rw [List.append_nil]; exact ho

/-! ### It -/
structure It where
  st : Int
  gn : Int
  data : List UInt8
abbrev ItT : Type := Int × Int × Sl
def It.tup (q : It) (d : Sl) : ItT := (q.st, q.gn, d)
def itV (a b : Int) (d : Sl) : List Value := [.int .i64 a, .int .i64 b, slv d]
def It.vs (q : It) (d : Sl) : List Value := itV q.st q.gn d
abbrev ItS := List (It × Sl)
def itcells (ps : ItS) : List Value := (ps.map fun p => p.1.vs p.2).flatten
theorem itcells_len (ps : ItS) : (itcells ps).length = ps.length * 3 := by
  unfold itcells
  rw [flatten_len (es := 3) _ (fun l hl => by obtain ⟨p, _, rfl⟩ := List.mem_map.1 hl; rfl), List.length_map]
theorem itcells_snoc (ps : ItS) (p : It × Sl) : itcells (ps ++ [p]) = itcells ps ++ p.1.vs p.2 := by unfold itcells; simp
theorem itcells_at (ps : ItS) {k : Nat} (hk : k < ps.length) : ((itcells ps).drop (k * 3)).take 3 = ps[k].1.vs ps[k].2 := by
  induction ps generalizing k with
  | nil => simp at hk
  | cons p ps ih =>
    have e : itcells (p :: ps) = p.1.vs p.2 ++ itcells ps := by unfold itcells; simp
    have hl : (p.1.vs p.2).length = 3 := rfl
    cases k with
    | zero => rw [e, Nat.zero_mul, List.drop_zero, List.take_append_of_le_length (by omega), List.take_of_length_le (by omega)]; rfl
    | succ k =>
      rw [e, show (k + 1) * 3 = (p.1.vs p.2).length + k * 3 by rw [hl]; omega, ← List.drop_drop, List.drop_left]
      exact ih (by simpa using hk)
theorem bindIt {β : Type} (a b : Int) (d : Sl) (f : FT [.int .i64, .int .i64, .sl] → Option β) : (asSt [(.int .i64), (.int .i64), .sl] (some (Value.agg (itV a b d).toArray))).bind f = f (show FT [.int .i64, .int .i64, .sl] from ((a, b, d) : ItT)) := rfl
theorem Is.it {h : H} {bb e es : Nat} {a b : Int} {d : Sl} (I : Is h bb e es (itV a b d)) : lda 3 h (some ⟨bb, 0, none⟩) = some (.agg (itV a b d).toArray) := by
  rw [I.lda (o := 0) (n := 3) (Nat.le_refl _)]; rfl
/-- a slice of them, read -/
structure ItR (h : H) (s : Sl) (ps : ItS) : Prop where
  sl : SlR 3 h s (itcells ps)
  da : ∀ p ∈ ps, SlR 1 h p.2 (byt p.1.data)
theorem ItR.stay {h h' : H} {s : Sl} {ps : ItS} (w : WF h) (c : Ch0 h h') (r : ItR h s ps) : ItR h' s ps := ⟨r.sl.stay w c, fun p hp => (r.da p hp).stay w c⟩
theorem ItR.n {h : H} {s : Sl} {ps : ItS} (r : ItR h s ps) : s.n = ps.length := by have := r.sl.len; rw [itcells_len] at this; omega
theorem ItR.at {h : H} {s : Sl} {ps : ItS} (r : ItR h s ps) {j : Nat} (hj : j < ps.length) : ∃ p, ixs 3 s.a s.n (Int.ofNat j) = some (.pointer p) ∧ lda 3 h p = some (.agg (ps[j].1.vs ps[j].2).toArray) := by
  obtain ⟨b, o, h1, h2⟩ := r.sl.elem (j := j) (by rw [r.n]; exact hj)
  rw [itcells_at ps hj] at h2
  refine ⟨some ⟨b, o, none⟩, h1, ?_⟩
  show (match h.gets b o 3 with | some vs => some (Value.agg vs.toArray) | none => none) = _
  rw [h2]
def It.right (q : It) : Bool := decide (0 ≤ q.st ∧ q.st < 40) && (decide (1 ≤ q.gn ∧ q.gn ≤ 1099511627776) && (decide (q.data.length = 128)))
structure It.Rt (q : It) : Prop where
  s0 : 0 ≤ q.st
  s1 : q.st < 40
  g0 : 1 ≤ q.gn
  g1 : q.gn ≤ 1099511627776
  dl : q.data.length = 128
theorem It.right_iff (q : It) : q.right = true ↔ q.Rt := by
  unfold It.right
  simp only [Bool.and_eq_true, decide_eq_true_eq]
  exact ⟨fun ⟨⟨a, b⟩, ⟨c, d⟩, g⟩ => ⟨a, b, c, d, g⟩, fun ⟨a, b, c, d, g⟩ => ⟨⟨a, b⟩, ⟨c, d⟩, g⟩⟩
def layIt (q : It) : List UInt8 := beN q.st.toNat 1 ++ beN q.gn.toNat 6 ++ q.data
def laysIt (l : List It) : List UInt8 := (l.map layIt).flatten
theorem laysIt_cons (q : It) (l : List It) : laysIt (q :: l) = layIt q ++ laysIt l := by unfold laysIt; simp
theorem layIt_len (q : It) : (layIt q).length = 7 + q.data.length := by unfold layIt; simp only [List.length_append, beN_len]
theorem laysIt_len (l : List It) (h : ∀ q ∈ l, q.right = true) : (laysIt l).length = 135 * l.length := by
  induction l with
  | nil => rfl
  | cons q l ih =>
    rw [laysIt_cons, List.length_append, layIt_len, ih fun p hp => h p (List.mem_cons_of_mem _ hp), List.length_cons]
    have := ((It.right_iff q).1 (h q List.mem_cons_self)).dl
    omega
/-! right? -/
theorem itRight_f (k : Nat) {h : H} (w : WF h) (q : It) (d : Sl) (r : SlR 1 h d (byt q.data)) : ∃ h', intent_Right.f k (q.tup d) h = some (q.right, h') ∧ Ch0 h h' := by
  unfold intent_Right.f It.tup
  dsimp only
  rw [show [Value.int .i64 q.st, Value.int .i64 q.gn, Value.slice d.a d.n d.c] = q.vs d from rfl]
  obtain ⟨z1, z2, z3⟩ := newR_ok w 72 3 (q.vs d)
  generalize newR h 72 3 (q.vs d) = g0 at z1 z2 z3 ⊢
  refine ⟨g0, ?_, z1⟩
  have V0 : (q.vs d)[0]? = some (.int .i64 q.st) := rfl
  have V1 : (q.vs d)[1]? = some (.int .i64 q.gn) := rfl
  have VD : (q.vs d)[2]? = some (slv d) := rfl
  have bad : ∀ b : Bool, q.right = b → some (b, g0) = some (q.right, g0) := fun b e => by rw [e]
  simp only [z3.ldc, V0, V1, VD, asI_int, asS_slv, Option.bind_some]
  by_cases c1 : 0 ≤ q.st
  rotate_left
  · simp only [decide_eq_false (show ¬ q.st ≥ 0 from c1), cond_false, Option.bind_some]
    exact bad _ (by unfold It.right; rw [decide_eq_false (p := 0 ≤ q.st ∧ q.st < 40) (fun f => c1 f.1)]; rfl)
  simp only [decide_eq_true (show q.st ≥ 0 from c1), cond_true, z3.ldc, V0, V1, VD, asI_int, asS_slv, Option.bind_some]
  by_cases c2 : q.st < 40
  rotate_left
  · simp only [decide_eq_false c2, cond_false, Option.bind_some]
    exact bad _ (by unfold It.right; rw [decide_eq_false (p := 0 ≤ q.st ∧ q.st < 40) (fun f => c2 f.2)]; rfl)
  simp only [decide_eq_true c2, cond_true, z3.ldc, V0, V1, VD, asI_int, asS_slv, Option.bind_some]
  by_cases c3 : 1 ≤ q.gn
  rotate_left
  · simp only [decide_eq_false (show ¬ q.gn ≥ 1 from c3), cond_false, Option.bind_some]
    exact bad _ (by unfold It.right; rw [decide_eq_false (p := 1 ≤ q.gn ∧ q.gn ≤ 1099511627776) (fun f => c3 f.1)]; simp)
  simp only [decide_eq_true (show q.gn ≥ 1 from c3), cond_true, z3.ldc, V0, V1, VD, asI_int, asS_slv, Option.bind_some]
  by_cases c4 : q.gn ≤ 1099511627776
  rotate_left
  · simp only [decide_eq_false c4, cond_false, Option.bind_some]
    exact bad _ (by unfold It.right; rw [decide_eq_false (p := 1 ≤ q.gn ∧ q.gn ≤ 1099511627776) (fun f => c4 f.2)]; simp)
  simp only [decide_eq_true c4, cond_true, z3.ldc, V0, V1, VD, asI_int, asS_slv, Option.bind_some]
  rw [r.n_byt]
  have e : (Int.ofNat q.data.length == (128 : Int)) = decide (q.data.length = 128) := by
    by_cases c : q.data.length = 128
    · rw [decide_eq_true c, c]; rfl
    · rw [decide_eq_false c, beq_eq_false_iff_ne]
      intro f; exact c (Int.ofNat.inj f)
  rw [e]
  refine bad _ ?_
  unfold It.right
  simp [c1, c2, c3, c4]
theorem itOne_f (k : Nat) {h : H} (w : WF h) (q : It) (d : Sl) (r : SlR 1 h d (byt q.data)) : ∃ h', call_right_2.f k (q.tup d) h = some (!q.right, h') ∧ Ch0 h h' := by
  unfold call_right_2.f It.tup
  dsimp only
  rw [show [Value.int .i64 q.st, Value.int .i64 q.gn, Value.slice d.a d.n d.c] = itV q.st q.gn d from rfl]
  obtain ⟨z1, z2, z3⟩ := newR_ok w 72 3 (itV q.st q.gn d)
  rw [Is.it z3, bindIt]
  dsimp only
  obtain ⟨h', a1, a2⟩ := itRight_f k z1.wf q d (r.stay w z1)
  rw [show ((q.st, q.gn, d) : ItT) = q.tup d from rfl, a1]
  exact ⟨h', rfl, z1.then a2⟩
theorem itIdx_l0 (k : Nat) {h0 : H} (w0 : WF h0) {s : Sl} {ps : ItS} (r : ItR h0 s ps) (hl : ps.length ≤ 1000) : ∀ n j h, ps.length - j < n → j ≤ ps.length → Ch0 h0 h →
    ∃ h' v, slices_IndexFunc_api_Intent_api_Intent_call_right_2.l0 k n s () (Int.ofNat ps.length) (Int.ofNat j) h = some (v, h') ∧ Ch0 h0 h' ∧ ((∃ i : Nat, v = .inl (Int.ofNat i) ∧ (ps.drop j).all (fun p => p.1.right) = false) ∨ (v = .inr () ∧ (ps.drop j).all (fun p => p.1.right) = true))
  | 0, j, h, hn, _, _ => by omega
  | n + 1, j, h, hn, hj, hc => by
    rw [slices_IndexFunc_api_Intent_api_Intent_call_right_2.l0_succ]
    by_cases c : j < ps.length
    · rw [decide_eq_true (show Int.ofNat j < Int.ofNat ps.length by simp; omega), cond_true]
      obtain ⟨p, e1, e2⟩ := (r.stay w0 hc).at c
      rw [e1]
      simp only [asP_ptr, Option.bind_some]
      rw [show ps[j].1.vs ps[j].2 = itV ps[j].1.st ps[j].1.gn ps[j].2 from rfl] at e2
      rw [e2, bindIt]
      dsimp only
      obtain ⟨h1, a1, a2⟩ := itOne_f k hc.wf ps[j].1 ps[j].2 (((r.stay w0 hc).da _ (List.getElem_mem c)))
      rw [show ((ps[j].1.st, ps[j].1.gn, ps[j].2) : ItT) = ps[j].1.tup ps[j].2 from rfl, a1]
      simp only [Option.bind_some]
      have hd : ps.drop j = ps[j] :: ps.drop (j + 1) := List.drop_eq_getElem_cons c
      cases hr : ps[j].1.right with
      | false => exact ⟨h1, _, rfl, hc.then a2, .inl ⟨j, rfl, by rw [hd, List.all_cons, hr]; rfl⟩⟩
      | true =>
        simp only [Bool.not_true, cond_false]
        rw [wrap_succ (by omega)]
        obtain ⟨h2, v, b1, b2, b3⟩ := itIdx_l0 k w0 r hl n (j + 1) h1 (by omega) (by omega) (hc.then a2)
        have e3 : (ps.drop j).all (fun p => p.1.right) = (ps.drop (j + 1)).all (fun p => p.1.right) := by rw [hd, List.all_cons, hr, Bool.true_and]
        exact ⟨h2, v, b1, b2, by rw [e3]; exact b3⟩
    · rw [decide_eq_false (show ¬ Int.ofNat j < Int.ofNat ps.length by simp; omega), cond_false]
      exact ⟨h, _, rfl, hc, .inr ⟨rfl, by rw [List.drop_eq_nil_of_le (by omega)]; rfl⟩⟩
theorem itAny_f (k : Nat) (hk : 1000 < k) {h : H} (w : WF h) {s : Sl} {ps : ItS} (r : ItR h s ps) (hl : ps.length ≤ 1000) : ∃ h', slices_ContainsFunc_api_Intent_api_Intent_call_right_2.f k s () h = some (!(ps.all fun p => p.1.right), h') ∧ Ch0 h h' := by
  unfold slices_ContainsFunc_api_Intent_api_Intent_call_right_2.f slices_IndexFunc_api_Intent_api_Intent_call_right_2.f
  obtain ⟨h', v, a1, a2, a3⟩ := itIdx_l0 k w r hl k 0 h (by omega) (Nat.zero_le _) (Ch.refl w)
  rw [r.n, show (0 : Int) = Int.ofNat 0 from rfl, a1]
  rw [List.drop_zero] at a3
  rcases a3 with ⟨i, rfl, e⟩ | ⟨rfl, e⟩
  · rw [e]
    refine ⟨h', ?_, a2⟩
    show some (decide (Int.ofNat i ≥ Int.ofNat 0), h') = _
    rw [decide_eq_true (show Int.ofNat i ≥ Int.ofNat 0 by simp)]; rfl
  · rw [e]
    exact ⟨h', rfl, a2⟩
/-! the bytes of all -/
theorem itLay_l (k : Nat) (hk : 1000 < k) {h0 : H} (w0 : WF h0) {s : Sl} {ps : ItS} (r : ItR h0 s ps) (hl : ps.length ≤ 20) (hr : ∀ p ∈ ps, p.1.right = true) : ∀ n j h out (pre : List UInt8), ps.length - j < n → j ≤ ps.length → Ch0 h0 h → Ow 5 1 h out (byt pre) → (∀ b, SlB out b → h0.next ≤ b) → pre.length ≤ 1000 + 135 * j →
    ∃ out' h', call_LayRep.l1 k n s (Int.ofNat ps.length) out (Int.ofNat j) h = some (out', h') ∧ Ch0 h0 h' ∧ Ow 5 1 h' out' (byt (pre ++ laysIt ((ps.drop j).map (·.1)))) ∧ ∀ b, SlB out' b → h0.next ≤ b
  | 0, j, h, out, pre, hn, _, _, _, _, _ => by omega
  | n + 1, j, h, out, pre, hn, hj, hc, ho, hb, hp => by
    rw [call_LayRep.l1_succ]
    by_cases c : j < ps.length
    · rw [decide_eq_true (show Int.ofNat j < Int.ofNat ps.length by simp; omega), cond_true]
      have r' := r.stay w0 hc
      obtain ⟨p, e1, e2⟩ := r'.at c
      rw [e1]
      simp only [asP_ptr, Option.bind_some]
      have rt := (It.right_iff _).1 (hr _ (List.getElem_mem c))
      have da := r'.da _ (List.getElem_mem c)
      have hd : ps.drop j = ps[j] :: ps.drop (j + 1) := List.drop_eq_getElem_cons c
      generalize hq : ps[j] = q at e2 rt da hd
      rw [show q.1.vs q.2 = itV q.1.st q.1.gn q.2 from rfl] at e2
      rw [e2, bindIt]
      dsimp only
      rw [show [Value.int .i64 (0 : Int), Value.int .i64 (0 : Int), Value.slice none 0 0] = itV 0 0 ⟨none, 0, 0⟩ from rfl, show [Value.int .i64 q.1.st, Value.int .i64 q.1.gn, Value.slice q.2.a q.2.n q.2.c] = q.1.vs q.2 from rfl]
      obtain ⟨g0, z1, z2, z3, z4⟩ := box_ok hc.wf 72 3 (itV 0 0 ⟨none, 0, 0⟩) (q.1.vs q.2) rfl rfl rfl
      rw [z1]
      have V0 : (q.1.vs q.2)[0]? = some (.int .i64 q.1.st) := rfl
      have V1 : (q.1.vs q.2)[1]? = some (.int .i64 q.1.gn) := rfl
      have VD : (q.1.vs q.2)[2]? = some (slv q.2) := rfl
      simp only [Option.bind_some, z4.ldc, V0, asI_int]
      have q0 := rt.s0
      have q1 := rt.g0
      obtain ⟨s1, g1, a1, a2, a3, a4⟩ := cbytes_f k hk q.1.st.toNat 1 (by decide) z2.wf q.1.st (nn _ q0) 1 rfl
      rw [a1]
      have I1 := z4.stay z2.wf a2
      simp only [Option.bind_some, I1.ldc, V1, asI_int]
      obtain ⟨s2, g2, b1, b2, b3, b4⟩ := cbytes_f k hk q.1.gn.toNat 6 (by decide) a2.wf q.1.gn (nn _ (by omega)) 6 rfl
      rw [b1]
      have I2 := I1.stay a2.wf b2
      simp only [Option.bind_some, I2.ldc, VD]
      rw [show asS (some (slv q.2)) = some q.2 from rfl]
      simp only [Option.bind_some]
      let pp : Parts := [(out, pre), (s1, beN q.1.st.toNat 1), (s2, beN q.1.gn.toNat 6), (q.2, q.1.data)]
      rw [show [Value.slice out.a out.n out.c, Value.slice s1.a s1.n s1.c, Value.slice s2.a s2.n s2.c, Value.slice q.2.a q.2.n q.2.c] = pp.map fun p => slv p.1 from rfl]
      obtain ⟨y1, y2, y3⟩ := newR_ok b2.wf 25 1 (pp.map fun p => slv p.1)
      have c1 : Ch0 h g1 := z2.then a2
      have c2 := c1.then b2
      have dl := rt.dl
      have hpp : PartsR g2 pp := by
        intro x hx
        simp only [pp, List.mem_cons, List.not_mem_nil, or_false] at hx
        rcases hx with rfl | rfl | rfl | rfl
        · exact ho.slr.stay hc.wf c2
        · exact a3.slr.stay a2.wf b2
        · exact b3.slr
        · exact da.stay hc.wf c2
      obtain ⟨s', h', v1, v2, v3, v4⟩ := concat_f k hk y1.wf (ps := pp) (SlR.of_is y3 (n := 4) rfl (by unfold unk; omega)) (hpp.stay b2.wf y1) (by show 4 < 1000; decide) (by
        show pre.length + ((beN q.1.st.toNat 1).length + ((beN q.1.gn.toNat 6).length + ((q.1.data.length + 0)))) ≤ _
        simp only [beN_len]
        have : 135 * j ≤ 135 * 20 := Nat.mul_le_mul_left _ (by omega)
        omega)
      rw [v1]
      simp only [Option.bind_some]
      have bz : h.next < g0.next := by omega
      have k1 := a2.keep h.next bz fun f => f
      have l1 := a2.le
      have k2 := b2.keep h.next (by omega) fun f => f
      simp only [same1_of k1, same1_of k2, Bool.and_self, cond_true]
      rw [wrap_succ (by omega)]
      have hj' : joined pp = pre ++ layIt q.1 := by
        unfold joined layIt
        simp only [pp, List.map_cons, List.map_nil, List.flatten_cons, List.flatten_nil, List.append_nil, List.append_assoc]
      rw [hj'] at v3
      have cc : Ch0 h h' := (c2.then y1).then v2
      have lc := c2.le
      have ly := y1.le
      obtain ⟨o2, h2, w1, w2, w3, w4⟩ := itLay_l k hk w0 r hl hr n (j + 1) h' s' (pre ++ layIt q.1) (by omega) (by omega) (hc.then cc) v3 (fun b hb => by have := v4 b hb; have := hc.le; omega) (by rw [List.length_append, layIt_len]; omega)
      refine ⟨o2, h2, w1, w2, ?_, w4⟩
      rw [hd, List.map_cons, laysIt_cons, ← List.append_assoc]; exact w3
    · rw [decide_eq_false (show ¬ Int.ofNat j < Int.ofNat ps.length by simp; omega), cond_false]
      refine ⟨out, h, rfl, hc, ?_, hb⟩
      rw [List.drop_eq_nil_of_le (by omega)]
      show Ow 5 1 h out (byt (pre ++ []))
      rw [List.append_nil]; exact ho
end Go.Proofs.Ythpkhegoamhgeaa.Fw
