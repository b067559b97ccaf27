/- CoderTells: the law's forward run comes to true. -/
import Derived.Test.YtnjeafdbifcfhaaPbFwTelA
import Derived.Test.YtnjeafdbifcfhaaPbArCoderTells
namespace Go.Proofs.Ytnjeafdbifcfhaa
open Go Den Fwd Fw GF
set_option linter.unusedVariables false
set_option linter.unusedSimpArgs false
/-! ### a stripe's chunks, by the reference -/
def Pure.dot (r x : List UInt8) (t : Nat) : Nat → UInt8 := fun q => mulB (r.getD q 0) (x.getD (q * 32 + t) 0)
theorem Pure.renc_l2 (k : Nat) (hk : 1000 < k) {h0 : H} (w0 : WF h0) {sx sr : Sl} {x r : List UInt8} (X : SlR 1 h0 sx (byt x)) (hx : x.length = 128) (R : SlR 1 h0 sr (byt r)) (hr : r.length = 4) {ob : Nat} (hob : h0.next ≤ ob) (t : Nat) (ht : t < 32) (x14 : Sl) (x15 : Int) : ∀ f j h cur, 4 - j < f → j ≤ 4 → Ch0 h0 h → Is h ob 5 1 (byt cur) → cur.length = 32 → cur.getD t 0 = S j (Pure.dot r x t) →
    ∃ h', corbelref3_Encode.l2 k f sx x14 x15 sr ⟨some ⟨ob, 0, none⟩, 32, 32⟩ (Int.ofNat t) (Int.ofNat j) h = some ((), h') ∧ Ch0 h0 h' ∧ Is h' ob 5 1 (byt (cur.set t (S 4 (Pure.dot r x t))))
  | 0, j, h, cur, hf, _, _, _, _, _ => by omega
  | f + 1, j, h, cur, hf, hj, C, I, cl, e => by
    rw [corbelref3_Encode.l2_succ]
    have ht' : t < cur.length := by omega
    by_cases q : j < 4
    rotate_left
    · obtain rfl : j = 4 := by omega
      rw [show decide (Int.ofNat 4 < (4 : Int)) = false from rfl, cond_false]
      refine ⟨h, rfl, C, ?_⟩
      have : S 4 (Pure.dot r x t) = cur[t] := by rw [← bytD ht', e]
      rw [this, List.set_getElem_self]; exact I
    rw [show decide (Int.ofNat j < (4 : Int)) = true from decLt (b := 4) q, cond_true, ixs_ptr (show t < 32 from ht)]
    simp only [asP_ptr, Option.bind_some, Nat.zero_add]
    rw [cell_get I ht', asI_int]
    simp only [Option.bind_some]
    obtain ⟨p, e1, e2⟩ := (R.stay w0 C).byte (bytD' (show j < r.length by omega))
    rw [e1]
    simp only [asP_ptr, Option.bind_some]
    rw [e2, asI_int]
    simp only [Option.bind_some]
    have ei : wrapA .i64 (wrapA .i64 (Int.ofNat j * 32) + Int.ofNat t) = Int.ofNat (j * 32 + t) := by
      rw [wrap_in (n := Int.ofNat j * 32) (by simp only [Int.ofNat_eq_natCast]; omega) (by simp only [Int.ofNat_eq_natCast]; omega), wrap_in (n := Int.ofNat j * 32 + Int.ofNat t) (by simp only [Int.ofNat_eq_natCast]; omega) (by simp only [Int.ofNat_eq_natCast]; omega)]
      simp only [Int.ofNat_eq_natCast]; omega
    rw [ei]
    obtain ⟨p', f1, f2⟩ := (X.stay w0 C).byte (bytD' (show j * 32 + t < x.length by omega))
    rw [f1]
    simp only [asP_ptr, Option.bind_some]
    rw [f2, asI_int]
    simp only [Option.bind_some]
    rw [rmul_f k (by omega)]
    simp only [Option.bind_some]
    rw [xor_u8, asI_int]
    simp only [Option.bind_some]
    obtain ⟨h1, g1, g2, g3, g4⟩ := cell_set C.wf I ht' (cur[t] ^^^ mulB (r.getD j 0) (x.getD (j * 32 + t) 0))
    rw [g1]
    simp only [Option.bind_some]
    rw [same1_of rfl]
    simp only [Bool.and_self, cond_true]
    rw [wrap_succ (by omega)]
    obtain ⟨h', x1, x2, x3⟩ := Pure.renc_l2 k hk w0 X hx R hr hob t ht x14 x15 f (j + 1) h1 _ (by omega) q (Ch0.at C g2 hob) g4 (by rw [List.length_set]; exact cl) (by
      rw [List.getD_eq_getElem?_getD, List.getElem?_set, if_pos rfl, if_pos ht']
      show cur[t] ^^^ _ = S j _ ^^^ _
      rw [← e, bytD ht']; rfl)
    rw [List.set_set] at x3
    exact ⟨h', x1, x2, x3⟩
theorem Pure.renc_l1 (k : Nat) (hk : 1000 < k) {h0 : H} (w0 : WF h0) {sx sr : Sl} {x r : List UInt8} (X : SlR 1 h0 sx (byt x)) (hx : x.length = 128) (R : SlR 1 h0 sr (byt r)) (hr : r.length = 4) {ob : Nat} (hob : h0.next ≤ ob) (x14 : Sl) (x15 : Int) : ∀ f t h cur, 32 - t < f → t ≤ 32 → Ch0 h0 h → Is h ob 5 1 (byt cur) → cur.length = 32 → (∀ q, q < 32 → cur.getD q 0 = if q < t then S 4 (Pure.dot r x q) else 0) →
    ∃ h' cur', corbelref3_Encode.l1 k f sx x14 x15 sr ⟨some ⟨ob, 0, none⟩, 32, 32⟩ (Int.ofNat t) h = some ((), h') ∧ Ch0 h0 h' ∧ Is h' ob 5 1 (byt cur') ∧ cur'.length = 32 ∧ ∀ q, q < 32 → cur'.getD q 0 = S 4 (Pure.dot r x q)
  | 0, t, h, cur, hf, _, _, _, _, _ => by omega
  | f + 1, t, h, cur, hf, hj, C, I, cl, e => by
    rw [corbelref3_Encode.l1_succ]
    by_cases q : t < 32
    rotate_left
    · rw [show decide (Int.ofNat t < (32 : Int)) = false from decNlt (b := 32) q, cond_false]
      exact ⟨h, cur, rfl, C, I, cl, fun q hq => by rw [e q hq, if_pos (by omega)]⟩
    rw [show decide (Int.ofNat t < (32 : Int)) = true from decLt (b := 32) q, cond_true]
    obtain ⟨h1, x1, x2, x3⟩ := Pure.renc_l2 k hk w0 X hx R hr hob t q x14 x15 k 0 h cur (by omega) (Nat.zero_le _) C I cl (by rw [e t q, if_neg (Nat.lt_irrefl _)]; rfl)
    rw [show (0 : Int) = Int.ofNat 0 from rfl, x1]
    simp only [Option.bind_some]
    rw [wrap_succ (by omega)]
    refine Pure.renc_l1 k hk w0 X hx R hr hob x14 x15 f (t + 1) h1 _ (by omega) q x2 x3 (by rw [List.length_set]; exact cl) fun p hp => ?_
    rw [List.getD_eq_getElem?_getD, List.getElem?_set]
    by_cases z : t = p
    · rw [if_pos z, if_pos (by omega), z, if_pos (Nat.lt_succ_self p)]; rfl
    · rw [if_neg z, ← List.getD_eq_getElem?_getD, e p hp]
      by_cases y : p < t
      · rw [if_pos y, if_pos (by omega)]
      · rw [if_neg y, if_neg (by omega)]
theorem Pure.renc_l0 (k : Nat) (hk : 1000 < k) {h0 : H} (w0 : WF h0) {sx : Sl} {x : List UInt8} (X : SlR 1 h0 sx (byt x)) (hx : x.length = 128) : ∀ f i h out os, 6 - i < f → i ≤ 6 → MxO h0 h out os → Dim i 32 (mxv os) → (∀ p t, p < i → t < 32 → ent (mxv os) p t = S 4 (Pure.dot (cRows.getD p []) x t)) →
    ∃ out' os' h', corbelref3_Encode.l0 k f sx out (Int.ofNat i) h = some (out', h') ∧ MxO h0 h' out' os' ∧ Dim 6 32 (mxv os') ∧ ∀ p t, p < 6 → t < 32 → ent (mxv os') p t = S 4 (Pure.dot (cRows.getD p []) x t)
  | 0, i, h, out, os, hf, _, _, _, _ => by omega
  | f + 1, i, h, out, os, hf, hi, O, d, e => by
    rw [corbelref3_Encode.l0_succ]
    by_cases q : i < 6
    rotate_left
    · obtain rfl : i = 6 := by omega
      rw [show decide (Int.ofNat 6 < (6 : Int)) = false from rfl, cond_false]
      exact ⟨out, os, h, rfl, O, d, e⟩
    rw [show decide (Int.ofNat i < (6 : Int)) = true from decLt (b := 6) q, cond_true]
    obtain ⟨sr, h1, a1, a2, a3, a4⟩ := rrow_f k O.ch.wf i q
    rw [a1]
    simp only [Option.bind_some]
    obtain ⟨z1, z2, z3⟩ := newZ_ok a2.wf 5 1 (.int .u8 (0 : Int)) 32
    rw [Nat.mul_one, byt_rep] at z3
    generalize newZ h1 5 1 [Value.int .u8 (0 : Int)] 32 = g at z1 z2 z3 ⊢
    have rl : (cRows.getD i []).length = 4 := by rcases (show i = 0 ∨ i = 1 ∨ i = 2 ∨ i = 3 ∨ i = 4 ∨ i = 5 by omega) with rfl | rfl | rfl | rfl | rfl | rfl <;> rfl
    obtain ⟨h2, cur, x1, x2, x3, x4, x5⟩ := Pure.renc_l1 k hk a2.wf (X.stay w0 (O.ch.then a2)) hx a3 rl (Nat.le_refl _) out (Int.ofNat i) k 0 g (List.replicate 32 0) (by omega) (Nat.zero_le _) z1 z3 List.length_replicate (fun t ht => by rw [if_neg (by omega), List.getD_eq_getElem?_getD, List.getElem?_replicate, if_pos ht]; rfl)
    rw [show (0 : Int) = Int.ofNat 0 from rfl, x1]
    simp only [Option.bind_some]
    have ol : os.length = i := by rw [← mxv_len, d.n]
    obtain ⟨s', h3, g1, g2⟩ := ((O.more a2).more x2).push ⟨some ⟨h1.next, 0, none⟩, 32, 32⟩ cur (SlR.of_is x3 (n := 32) (by rw [byt_len, x4]) (by unfold unk; omega)) (fun z hz f => by obtain ⟨o, e⟩ := hz; have : h1.next = z := congrArg Addr.block (Option.some.inj e); have := O.ow.lt O.ch.wf f; have := a2.le; omega) (by omega)
    rw [g1]
    simp only [Option.bind_some]
    rw [wrap_succ (by omega)]
    have em : mxv (os ++ [((⟨some ⟨h1.next, 0, none⟩, 32, 32⟩ : Sl), cur)]) = mxv os ++ [cur] := by unfold mxv; rw [List.map_append]; rfl
    refine Pure.renc_l0 k hk w0 X hx f (i + 1) h3 s' _ (by omega) q g2 ⟨by rw [em, List.length_append, d.n]; rfl, fun y hy => ?_⟩ fun p t hp ht => ?_
    · rw [em] at hy
      rcases List.mem_append.1 hy with z | z
      · exact d.w y z
      · rw [List.mem_singleton.1 z]; exact x4
    · rw [em]
      unfold ent
      by_cases z : p < i
      · rw [show (mxv os ++ [cur]).getD p [] = (mxv os).getD p [] by rw [List.getD_eq_getElem?_getD, List.getElem?_append_left (by rw [d.n]; exact z), ← List.getD_eq_getElem?_getD]]
        exact e p t z ht
      · obtain rfl : p = i := by omega
        rw [show (mxv os ++ [cur]).getD p [] = cur by rw [List.getD_eq_getElem?_getD, List.getElem?_append_right (by rw [d.n]; exact Nat.le_refl _), d.n, Nat.sub_self]; rfl]
        exact x5 t ht
theorem Pure.chunk_ent {x : List UInt8} (hx : x.length = 128) {j t : Nat} (hj : j < 4) (ht : t < 32) : ent (chunks x) j t = x.getD (j * 32 + t) 0 := by
  unfold ent chunks
  have key : ∀ o, ((x.drop o).take 32).getD t 0 = x.getD (o + t) 0 := fun o => by
    rw [List.getD_eq_getElem?_getD, List.getElem?_take, if_pos ht, List.getElem?_drop, ← List.getD_eq_getElem?_getD]
  rcases (show j = 0 ∨ j = 1 ∨ j = 2 ∨ j = 3 by omega) with rfl | rfl | rfl | rfl
  · exact key 0
  · exact key 32
  · exact key 64
  · exact key 96
theorem Pure.renc_f (k : Nat) (hk : 1000 < k) {h : H} (w : WF h) {sx : Sl} {x : List UInt8} (X : SlR 1 h sx (byt x)) (hx : x.length = 128) : ∃ s os h', corbelref3_Encode.f k sx h = some (s, h') ∧ MxO h h' s os ∧ mxv os = encP x := by
  unfold corbelref3_Encode.f
  obtain ⟨s, os, h', a1, a2, a3, a4⟩ := Pure.renc_l0 k hk w X hx k 0 h ⟨none, 0, 0⟩ [] (by omega) (Nat.zero_le _) (MxO.nil w) ⟨rfl, fun y hy => by cases hy⟩ (fun p q hp => by omega)
  rw [show (0 : Int) = Int.ofNat 0 from rfl, a1]
  refine ⟨s, os, h', rfl, a2, a3.ext (enc_dim hx) fun i j hi hj => ?_⟩
  rw [a4 i j hi hj, show ent (encP x) i j = mm 4 (ent cRows) (ent (chunks x)) i j from mulM_ent cRows_dim (chunks_dim hx) (by decide) hi j]
  exact S_congr fun t ht => by rw [Pure.chunk_ent hx ht hj]; rfl
/-! ### the same -/
theorem Pure.same5_l0 (k : Nat) {h : H} {s t : Sl} {ps qs : Parts} (A : MxR h s ps) (B : MxR h t qs) (hl : ps.length = qs.length) (h6 : ps.length ≤ 1000) : ∀ n j, ps.length - j < n → j ≤ ps.length → (mxv ps).take j = (mxv qs).take j →
    ∃ v, corbellaw5_same.l0 k n s t (Int.ofNat ps.length) (Int.ofNat j) h = some (v, h) ∧ ((v = .inr () ∧ mxv ps = mxv qs) ∨ (v = .inl false ∧ mxv ps ≠ mxv qs))
  | 0, j, hn, _, _ => by omega
  | n + 1, j, hn, hj, e => by
    rw [corbellaw5_same.l0_succ]
    have pl : (mxv ps).length = ps.length := List.length_map _
    have ql : (mxv qs).length = qs.length := List.length_map _
    by_cases c : j < ps.length
    rotate_left
    · rw [decNlt c, cond_false]
      rw [List.take_of_length_le (by omega), List.take_of_length_le (by omega)] at e
      exact ⟨_, rfl, .inl ⟨rfl, e⟩⟩
    rw [decLt c, cond_true]
    have c' : j < qs.length := by omega
    obtain ⟨p, e1, e2⟩ := A.at c
    rw [e1]
    simp only [asP_ptr, Option.bind_some]
    rw [e2]
    simp only [Option.bind_some]
    rw [txt_sl (A.row c)]
    simp only [Option.bind_some]
    obtain ⟨p', f1, f2⟩ := B.at c'
    rw [f1]
    simp only [asP_ptr, Option.bind_some]
    rw [f2]
    simp only [Option.bind_some]
    rw [txt_sl (B.row c')]
    simp only [Option.bind_some]
    rw [ba_eq]
    have ep : (mxv ps)[j]'(by omega) = ps[j].2 := by simp only [mxv, List.getElem_map]
    have eq : (mxv qs)[j]'(by omega) = qs[j].2 := by simp only [mxv, List.getElem_map]
    by_cases d : ps[j].2 = qs[j].2
    · rw [decide_eq_true d, Bool.not_true, cond_false, wrap_succ (by omega)]
      refine Pure.same5_l0 k A B hl h6 n (j + 1) (by omega) c ?_
      rw [List.take_succ_eq_append_getElem (by omega), List.take_succ_eq_append_getElem (by omega), e, ep, eq, d]
    · rw [decide_eq_false d, Bool.not_false, cond_true]
      exact ⟨_, rfl, .inr ⟨rfl, fun f => d (by rw [← ep, ← eq]; simp only [f])⟩⟩
theorem Pure.same5_f (k : Nat) (hk : 2000 < k) {h : H} {s t : Sl} {ps qs : Parts} (A : MxR h s ps) (B : MxR h t qs) (h6 : ps.length ≤ 1000) : corbellaw5_same.f k s t h = some (decide (mxv ps = mxv qs), h) := by
  unfold corbellaw5_same.f
  rw [A.n, B.n]
  by_cases c : ps.length = qs.length
  · rw [show (Int.ofNat ps.length != Int.ofNat qs.length) = false by rw [c]; simp, cond_false]
    obtain ⟨v, a1, a2⟩ := Pure.same5_l0 k A B c h6 k 0 (by omega) (Nat.zero_le _) rfl
    rw [show (0 : Int) = Int.ofNat 0 from rfl, a1]
    rcases a2 with ⟨rfl, e⟩ | ⟨rfl, e⟩
    · rw [decide_eq_true e]; rfl
    · rw [decide_eq_false e]; rfl
  · rw [show (Int.ofNat ps.length != Int.ofNat qs.length) = true by rw [bne_iff_ne]; exact fun f => c (Int.ofNat.inj f), cond_true, decide_eq_false (fun f => c (by have := congrArg List.length f; rw [mxv_len, mxv_len] at this; exact this))]
theorem Pure.chkAny_f (k : Nat) (hk : 1000 < k) {h : H} (w : WF h) {cb : Nat} (C : CodR h cb) {sc : Sl} {cs : Parts} (A : MxR h sc cs) (hl : cs.length ≤ 900) :
    ∃ h', coder_Coder_Check.f k (some ⟨cb, 0, none⟩) sc h = some (decide (GoodC (mxv cs)) && decide (encP (decP (mxv cs)) = mxv cs), h') ∧ Ch0 h h' := by
  unfold coder_Coder_Check.f
  obtain ⟨s, h1, a1, a2, a3⟩ := decAny_f k hk w C A hl
  rw [a1]
  simp only [Option.bind_some]
  rcases a3 with ⟨g, b1, b2⟩ | ⟨g, rfl⟩
  · rw [decide_eq_true g]
    simp only [Bool.not_true, cond_false, Bool.true_and]
    obtain ⟨t, ps, h2, c1, c2, c3⟩ := enc_f k hk a2.wf (C.stay w a2) b1 b2
    rw [c1]
    simp only [Option.bind_some]
    have d := enc_dim b2
    have pl : ps.length = 6 := by rw [← mxv_len, c3, d.n]
    rw [msame_f k hk c2.mxr (A.stay w (a2.then c2.ch)) (by omega) (fun p hp => by have := d.w p.2 (by rw [← c3]; exact List.mem_map.2 ⟨p, hp, rfl⟩); omega), c3]
    exact ⟨h2, rfl, a2.then c2.ch⟩
  · rw [decide_eq_false g]
    exact ⟨h1, rfl, a2⟩
/-! ### what is lost -/
theorem Pure.slr_nil {h : H} : SlR 1 h ⟨none, 0, 0⟩ (byt []) := .inl ⟨rfl, .inl rfl⟩
theorem Pure.lost_l0 (k : Nat) (hk : 1000 < k) {h0 : H} (w0 : WF h0) (raw at_ by_ : Int) (x13 : Int) (x14 : Option Addr) {sl : Sl} {bs : List Bool} (L : SlR 1 h0 sl (bs.map fun b => Value.bool b)) (nl : sl.n = bs.length) {sb : Sl} {ps : Parts} (B : MxR h0 sb ps) (l6 : ps.length = 6) (hw : ∀ p ∈ ps, p.2.length ≤ 64) : ∀ n i h out os, 6 - i < n → i ≤ 6 → MxO h0 h out os → os.length = i → (∀ p ∈ os, p.2.length ≤ 64) →
    ∃ out' os' h', corbellaw5_CoderTells.l0 k n raw sl at_ by_ x13 x14 sb (Int.ofNat 6) out (Int.ofNat i) h = some (out', h') ∧ MxO h0 h' out' os' ∧ os'.length = 6 ∧ ∀ p ∈ os', p.2.length ≤ 64
  | 0, i, h, out, os, hf, _, _, _, _ => by omega
  | n + 1, i, h, out, os, hf, hi, O, ol, ow => by
    rw [corbellaw5_CoderTells.l0_succ]
    by_cases c : i < 6
    rotate_left
    · rw [show decide (Int.ofNat i < Int.ofNat 6) = false from decNlt c, cond_false]
      exact ⟨out, os, h, rfl, O, by omega, ow⟩
    rw [show decide (Int.ofNat i < Int.ofNat 6) = true from decLt c, cond_true]
    have ci : i < ps.length := by omega
    obtain ⟨p, e1, e2⟩ := (B.stay w0 O.ch).at ci
    rw [e1]
    simp only [asP_ptr, Option.bind_some]
    rw [e2]
    simp only [Option.bind_some]
    have hc := hw _ (List.getElem_mem ci)
    have Bi := (B.row ci).stay w0 O.ch
    have bl : ∀ b, SlB ps[i].1 b → b < h0.next := fun b hb => (B.row ci).blk w0 hb
    have J1 : ∃ lb, (cond (decide (Int.ofNat i < Int.ofNat sl.n)) ((asP (ixs 1 sl.a sl.n (Int.ofNat i))).bind fun p22 => (asB (ldc h p22)).bind fun b23 => some (b23, h)) (some (false, h)) : Option (Bool × H)) = some (lb, h) := by
      rw [nl]
      by_cases d : i < bs.length
      · rw [decLt d, cond_true]
        obtain ⟨q, f1, f2⟩ := (L.stay w0 O.ch).elem1 (j := i) (by rw [nl]; exact d)
        rw [nl] at f1
        rw [f1]
        simp only [asP_ptr, Option.bind_some]
        rw [f2, List.getElem?_map, List.getElem?_eq_getElem d]
        exact ⟨_, rfl⟩
      · rw [decNlt d, cond_false]
        exact ⟨_, rfl⟩
    obtain ⟨lb, J1⟩ := J1
    rw [J1]
    simp only [Option.bind_some]
    -- the slice that it is, and where it stands
    have J2 : ∃ s x, (cond lb (some ((⟨none, 0, 0⟩ : Sl), h)) (some (ps[i].1, h)) : Option (Sl × H)) = some (s, h) ∧ SlR 1 h s (byt x) ∧ x.length ≤ 64 ∧ ∀ b, SlB s b → b < h0.next := by
      cases lb with
      | true => exact ⟨_, [], rfl, Pure.slr_nil, Nat.zero_le _, fun b hb => by obtain ⟨o, q⟩ := hb; cases q⟩
      | false => exact ⟨_, _, rfl, Bi, hc, bl⟩
    obtain ⟨s, x, J2, sx, lx, bx⟩ := J2
    rw [J2]
    simp only [Option.bind_some]
    rw [pick_f k at_ 9 h (by decide) (by decide)]
    simp only [Option.bind_some]
    have J3 : ∃ t y h1, (cond (Int.ofNat i == at_ % 9) ((corbelhand_Bytes.f k raw (32 : Int) h).bind fun q27 => (cond ((by_.tmod (5 : Int)) == (4 : Int)) ((corbelhand_Pick.f k by_ (40 : Int) q27.2).bind fun q28 => (corbelhand_Bytes.f k raw q28.1 q28.2).bind fun q29 => some (q29.1, q29.2)) (some (q27.1, q27.2)) : Option ((Sl) × H)).bind fun j30 => some (j30.1, j30.2)) (some (s, h)) : Option ((Sl) × H)) = some (t, h1) ∧ Ch0 h h1 ∧ SlR 1 h1 t (byt y) ∧ y.length ≤ 64 ∧ ∀ b, SlB t b → b < h0.next ∨ h.next ≤ b := by
      cases d : (Int.ofNat i == at_ % 9) with
      | false => exact ⟨s, x, h, rfl, Ch.refl O.ch.wf, sx, lx, fun b hb => .inl (bx b hb)⟩
      | true =>
        rw [cond_true]
        obtain ⟨t1, y1, h1, a1, a2, a3, a4, a5⟩ := hbytes_f k raw 32 (by decide) (by omega) O.ch.wf
        have a1 : corbelhand_Bytes.f k raw (32 : Int) h = some (t1, h1) := a1
        rw [a1]
        simp only [Option.bind_some]
        cases z : (by_.tmod 5 == (4 : Int)) with
        | false => exact ⟨t1, y1, h1, rfl, a2, a4.slr, by omega, fun b hb => .inr (a5 b hb)⟩
        | true =>
          rw [cond_true, pick_f k by_ 40 h1 (by decide) (by decide)]
          simp only [Option.bind_some]
          have w1 := Int.emod_nonneg by_ (show (40 : Int) ≠ 0 by decide)
          have w2 := Int.emod_lt_of_pos by_ (show (0 : Int) < 40 by decide)
          obtain ⟨m, hm⟩ : ∃ m : Nat, by_ % 40 = Int.ofNat m := ⟨_, nn _ w1⟩
          rw [hm] at w2 ⊢
          simp only [Int.ofNat_eq_natCast] at w2
          obtain ⟨t2, y2, h2, b1, b2, b3, b4, b5⟩ := hbytes_f k raw m (by omega) (by omega) a2.wf
          rw [b1]
          exact ⟨t2, y2, h2, rfl, a2.then b2, b4.slr, by omega, fun b hb => .inr (Nat.le_trans a2.le (b5 b hb))⟩
    obtain ⟨t, y, h1, J3, c1, st, ly, bt⟩ := J3
    rw [J3]
    simp only [Option.bind_some]
    obtain ⟨out', h2, g1, g2⟩ := (O.more c1).push t y st (fun b hb f => by
      have := O.ow.lt O.ch.wf f
      have := O.fr b f
      rcases bt b hb with q | q <;> omega) (by omega)
    rw [g1]
    simp only [Option.bind_some]
    rw [wrap_succ (by omega)]
    refine Pure.lost_l0 k hk w0 raw at_ by_ x13 x14 L nl B l6 hw n (i + 1) h2 out' _ (by omega) c g2 (by rw [List.length_append, List.length_singleton, ol]) fun q hq => ?_
    rcases List.mem_append.1 hq with z | z
    · exact ow q z
    · rw [List.mem_singleton.1 z]; exact ly
theorem Pure.whole_l1 (k : Nat) {h : H} {sh : Sl} {ps : Parts} (A : MxR h sh ps) (hl : ps.length ≤ 1000) (x39 : Option Addr) (x41 : Sl) (x42 : Bool) (x43 : Sl) (x44 : Bool) (b0 : Bool) : ∀ n i b, ps.length - i < n → i ≤ ps.length → b = (b0 && decide (∀ p ∈ ps.take i, p.2.length = 32)) →
    corbellaw5_CoderTells.l1 k n x39 sh x41 x42 x43 x44 (Int.ofNat ps.length) b (Int.ofNat i) h = some (b0 && decide (∀ p ∈ ps, p.2.length = 32), h)
  | 0, i, b, hf, _, _ => by omega
  | n + 1, i, b, hf, hi, e => by
    rw [corbellaw5_CoderTells.l1_succ]
    by_cases c : i < ps.length
    rotate_left
    · rw [decNlt c, cond_false, e, List.take_of_length_le (by omega)]
    rw [decLt c, cond_true]
    obtain ⟨p, e1, e2⟩ := A.at c
    have ht : ps.take (i + 1) = ps.take i ++ [ps[i]] := List.take_succ_eq_append_getElem c
    have es0 : ∀ q : Sl × List UInt8, decide (∀ p ∈ ps.take i ++ [q], p.2.length = 32) = (decide (∀ p ∈ ps.take i, p.2.length = 32) && decide (q.2.length = 32)) := fun q => by
      by_cases u : ∀ p ∈ ps.take i, p.2.length = 32
      · by_cases r : q.2.length = 32
        · rw [decide_eq_true u, decide_eq_true r, decide_eq_true]
          · rfl
          · intro y hy
            rcases List.mem_append.1 hy with z | z
            · exact u y z
            · rw [List.mem_singleton.1 z]; exact r
        · rw [decide_eq_false r, Bool.and_false, decide_eq_false (fun f => r (f _ (List.mem_append.2 (.inr (List.mem_singleton.2 rfl)))))]
      · rw [decide_eq_false u, Bool.false_and, decide_eq_false (fun f => u fun y hy => f y (List.mem_append.2 (.inl hy)))]
    have es := es0 ps[i]
    rw [← ht] at es
    have J : (cond b ((asP (ixs 1 sh.a sh.n (Int.ofNat i))).bind fun p49 => (asS (ldc h p49)).bind fun s50 => some ((Int.ofNat s50.n) == (32 : Int), h)) (some (false, h)) : Option (Bool × H)) = some (b && decide (ps[i].2.length = 32), h) := by
      cases b with
      | false => rfl
      | true =>
        rw [cond_true, e1]
        simp only [asP_ptr, Option.bind_some]
        rw [e2]
        simp only [Option.bind_some]
        rw [(A.row c).n_byt, Bool.true_and]
        by_cases r : ps[i].2.length = 32
        · rw [decide_eq_true r, r]; rfl
        · rw [decide_eq_false r, show (Int.ofNat ps[i].2.length == (32 : Int)) = false by rw [beq_eq_false_iff_ne]; exact fun f => r (Int.ofNat.inj f)]
    rw [J]
    simp only [Option.bind_some]
    rw [wrap_succ (by omega)]
    exact Pure.whole_l1 k A hl x39 x41 x42 x43 x44 b0 n (i + 1) _ (by omega) c (by rw [es, e, Bool.and_assoc])
theorem Pure.ctells_f (k : Nat) (hk : 2000 < k) {h : H} (w : WF h) (seed raw at_ by_ cut : Int) {sl : Sl} {bs : List Bool} (L : SlR 1 h sl (bs.map fun b => Value.bool b)) (nl : sl.n = bs.length) :
    ∃ h', corbellaw5_CoderTells.f k seed raw sl at_ by_ cut h = some (true, h') := by
  unfold corbellaw5_CoderTells.f
  obtain ⟨cb, h1, a1, a2, a3⟩ := cnew_f k (by omega) w
  rw [a1]
  simp only [Option.bind_some, Bool.not_true, cond_false]
  rw [show asB (binO1 Try.prog .eql 53 (Value.pointer (some ⟨cb, 0, none⟩)) (Value.pointer none)) = some false from rfl]
  simp only [Option.bind_some, cond_false]
  obtain ⟨sx, x, h2, b1, b2, b3, b4, b5⟩ := hbytes_f k seed 128 (by decide) (by omega) a2.wf
  have b1 : corbelhand_Bytes.f k seed (128 : Int) h1 = some (sx, h2) := b1
  rw [b1]
  simp only [Option.bind_some]
  have C2 := a2.then b2
  obtain ⟨se, es, h3, c1, c2, c3⟩ := enc_f k (by omega) b2.wf (a3.stay a2.wf b2) b4.slr b3
  rw [c1]
  simp only [Option.bind_some]
  have C3 := C2.then c2.ch
  obtain ⟨sr, rs, h4, d1, d2, d3⟩ := Pure.renc_f k (by omega) c2.ch.wf (b4.slr.stay b2.wf c2.ch) b3
  rw [d1]
  simp only [Option.bind_some]
  rw [show ((0 : Int) != 0) = false from rfl, cond_false]
  have E4 := c2.mxr.stay c2.ch.wf d2.ch
  have el : es.length = 6 := by rw [← mxv_len, c3]; rfl
  rw [Pure.same5_f k hk E4 d2.mxr (by omega), decide_eq_true (show mxv es = mxv rs by rw [c3, d3])]
  simp only [Option.bind_some, Bool.not_true, cond_false]
  have C4 := C3.then d2.ch
  have rl : rs.length = 6 := by rw [← mxv_len, d3]; rfl
  have K4 := (((a3.stay a2.wf b2).stay b2.wf c2.ch).stay c2.ch.wf d2.ch)
  obtain ⟨sh, hs, h5, f1, f2, f3, f4⟩ := Pure.lost_l0 k (by omega) d2.ch.wf raw at_ by_ cut (some ⟨cb, 0, none⟩) (L.stay w C4) nl d2.mxr rl (fun p hp => by have := enc_row b3 p.2 (by rw [← d3]; exact List.mem_map.2 ⟨p, hp, rfl⟩); omega) k 0 h4 ⟨none, 0, 0⟩ [] (by omega) (by omega) (MxO.nil d2.ch.wf) rfl (fun p hp => by cases hp)
  rw [d2.mxr.n, rl, show (0 : Int) = Int.ofNat 0 from rfl, f1]
  simp only [Option.bind_some]
  have K5 := K4.stay d2.ch.wf f2.ch
  have J : ∃ sj ps, (cond ((cut.tmod (17 : Int)) == (16 : Int)) ((corbelhand_Pick.f k (wrapA .i64 (cut.tdiv (17 : Int))) (6 : Int) h5).bind fun q34 => (asS (subs 1 (Value.slice sh.a sh.n sh.c) none (some q34.1))).bind fun s35 => some (s35, q34.2)) (some (sh, h5)) : Option ((Sl) × H)) = some (sj, h5) ∧ MxR h5 sj ps ∧ ps.length ≤ 6 ∧ ∀ p ∈ ps, p.2.length ≤ 64 := by
    cases z : (cut.tmod 17 == (16 : Int)) with
    | false => exact ⟨sh, hs, rfl, f2.mxr, by omega, f4⟩
    | true =>
      rw [cond_true, pick_f k _ 6 h5 (by decide) (by decide)]
      simp only [Option.bind_some]
      generalize wrapA .i64 (cut.tdiv (17 : Int)) = v
      have w1 := Int.emod_nonneg v (show (6 : Int) ≠ 0 by decide)
      have w2 := Int.emod_lt_of_pos v (show (0 : Int) < 6 by decide)
      obtain ⟨m, hm⟩ : ∃ m : Nat, v % 6 = Int.ofNat m := ⟨_, nn _ w1⟩
      rw [hm] at w2 ⊢
      simp only [Int.ofNat_eq_natCast] at w2
      obtain ⟨s', g1, g2, g3⟩ := MxR.sub f2.mxr (lo := 0) (hi := m) (Nat.zero_le _) (by omega) (xlo := none) (xhi := some (Int.ofNat m)) rfl rfl
      rw [g1]
      refine ⟨s', _, rfl, g2, by rw [List.length_take, List.drop_zero]; omega, fun p hp => f4 p (List.mem_of_mem_drop (List.mem_of_mem_take hp))⟩
  obtain ⟨sj, ps, j1, P5, pl, pw⟩ := J
  rw [j1]
  simp only [Option.bind_some]
  obtain ⟨sp, h6, m1, m2, m3⟩ := decAny_f k (by omega) f2.ch.wf K5 P5 (by omega)
  rw [m1]
  simp only [Option.bind_some]
  obtain ⟨sq, h7, n1, n2, n3⟩ := rdecAny_f k (by omega) m2.wf (P5.stay f2.ch.wf m2)
  rw [n1]
  simp only [Option.bind_some]
  have P7 := (P5.stay f2.ch.wf m2).stay m2.wf n2
  have K7 := (K5.stay f2.ch.wf m2).stay m2.wf n2
  rw [P7.n]
  have W := Pure.whole_l1 k P7 (by omega) (some ⟨cb, 0, none⟩) sp (decide (GoodC (mxv ps))) sq (decide (GoodC (mxv ps))) (Int.ofNat ps.length == (6 : Int)) k 0 (Int.ofNat ps.length == (6 : Int)) (by omega) (Nat.zero_le _) (by
    rw [show decide (∀ p ∈ ps.take 0, p.2.length = 32) = true from decide_eq_true fun p hp => (by cases hp), Bool.and_true])
  rw [W]
  simp only [Option.bind_some]
  rw [show ∀ b : Bool, (b == b) = true from fun b => by simp]
  simp only [cond_true]
  -- the bytes are the same
  have JT : ∃ y, SlR 1 h7 sp (byt y) ∧ SlR 1 h7 sq (byt y) := by
    rcases m3 with ⟨g, m3, _⟩ | ⟨g, rfl⟩
    · rcases n3 with ⟨_, n3⟩ | ⟨g', _⟩
      · exact ⟨_, m3.stay m2.wf n2, n3⟩
      · exact absurd g g'
    · rcases n3 with ⟨g', _⟩ | ⟨_, rfl⟩
      · exact absurd g' g
      · exact ⟨[], Pure.slr_nil, Pure.slr_nil⟩
  obtain ⟨y, y1, y2⟩ := JT
  rw [txt_sl y1]
  simp only [Option.bind_some]
  rw [txt_sl y2]
  simp only [Option.bind_some]
  rw [ba_eq, decide_eq_true rfl]
  simp only [cond_true]
  obtain ⟨h8, o1, o2⟩ := Pure.chkAny_f k (by omega) n2.wf K7 P7 (by omega)
  rw [o1]
  simp only [Option.bind_some]
  have ewl : (Int.ofNat ps.length == (6 : Int)) = decide (ps.length = 6) := by
    by_cases z : ps.length = 6
    · rw [decide_eq_true z, z]; rfl
    · rw [decide_eq_false z, beq_eq_false_iff_ne]; exact fun f => z (Int.ofNat.inj f)
  rw [ewl]
  have P8 := P7.stay n2.wf o2
  by_cases g : GoodC (mxv ps)
  rotate_left
  · rw [decide_eq_false g, Bool.false_and]
    cases (decide (ps.length = 6) && decide (∀ p ∈ ps, p.2.length = 32)) with
    | true => exact ⟨h8, rfl⟩
    | false => exact ⟨h8, rfl⟩
  rw [decide_eq_true g, Bool.true_and]
  have l6 : ps.length = 6 := by rw [← mxv_len]; exact g.n
  rw [decide_eq_true l6, Bool.true_and]
  obtain ⟨_, _, g3⟩ : GoodC (mxv ps) ∧ SlR 1 h6 sp (byt (decP (mxv ps))) ∧ (decP (mxv ps)).length = 128 := m3.resolve_right fun f => f.1 g
  by_cases wl : ∀ p ∈ ps, p.2.length = 32
  rotate_left
  · rw [decide_eq_false wl, decide_eq_false (show ¬ encP (decP (mxv ps)) = mxv ps from fun f => wl fun p hp => by
      exact enc_row g3 p.2 (by rw [f]; exact List.mem_map.2 ⟨p, hp, rfl⟩))]
    exact ⟨h8, rfl⟩
  rw [decide_eq_true wl]
  simp only [cond_true, Option.bind_some]
  have q3 : SlR 1 h7 sq (byt (decP (mxv ps))) := (n3.resolve_right fun f => f.1 g).2
  obtain ⟨st, ts, h9, u1, u2, u3⟩ := Pure.renc_f k (by omega) o2.wf (q3.stay n2.wf o2) g3
  rw [u1]
  simp only [Option.bind_some]
  have tl : ts.length = 6 := by rw [← mxv_len, u3]; rfl
  rw [Pure.same5_f k hk u2.mxr (P8.stay o2.wf u2.ch) (by omega), u3]
  simp only [Option.bind_some]
  exact ⟨h9, by rw [show ∀ b : Bool, (b == b) = true from fun b => by simp]⟩
theorem Pure.CoderTells : ∀ h x vs, Den.WF h → Den.Dead h → Ar.CoderTells.R h x vs → Ar.CoderTells.Q x → ∃ a, Den.encL [.int .i64, .int .i64, .sl, .int .i64, .int .i64, .int .i64] a = vs ∧ Den.toldB (Fwd.corbellaw5_CoderTells.f 2000000 a.1 a.2.1 a.2.2.1 a.2.2.2.1 a.2.2.2.2.1 a.2.2.2.2.2 h) = true := by
  rintro h ⟨seed, raw, l, at_, by_, cut, _⟩ vs w _ ⟨va, vb, rfl, r1, vc, vd, rfl, r2, ve, vf, rfl, r3, vg, vh, rfl, r4, vi, vj, rfl, r5, vk, vl, rfl, r6, rfl⟩ q
  obtain rfl := r1
  obtain rfl := r2
  obtain rfl := r4
  obtain rfl := r5
  obtain rfl := r6
  obtain ⟨s, rfl, s1, s2, _⟩ := RSl.one (f := fun b : Bool => Value.bool b) (fun h x l r => r) w r3
  obtain ⟨h', e⟩ := Pure.ctells_f 2000000 (by decide) w seed raw at_ by_ cut (sl := s) s1 s2
  exact ⟨(seed, raw, s, at_, by_, cut), rfl, (congrArg toldB e).trans rfl⟩
end Go.Proofs.Ytnjeafdbifcfhaa
