/- Matrices: right, products, the same. No condition. -/
import Derived.Test.YtnjeafdbifcfhaaPbFwCodA
namespace Go.Proofs.Ytnjeafdbifcfhaa.Fw
open Go Den Fwd
set_option linter.unusedVariables false
set_option linter.unusedSimpArgs false
abbrev Mx := List (List UInt8)
theorem same1_refl (h : H) (v : Option Value) : same1 h h v = true := by
  unfold same1
  split
  · rfl
  · exact sameVer_of rfl
theorem decLt {a b : Nat} (h : a < b) : decide (Int.ofNat a < Int.ofNat b) = true := decide_eq_true (by simp only [Int.ofNat_eq_natCast]; omega)
theorem decNlt {a b : Nat} (h : ¬ a < b) : decide (Int.ofNat a < Int.ofNat b) = false := decide_eq_false (by simp only [Int.ofNat_eq_natCast]; omega)
/-- a slice of slices of bytes, read -/
structure MxR (h : H) (s : Sl) (ps : Parts) : Prop where
  sl : SlR 1 h s (ps.map fun p => slv p.1)
  rs : PartsR h ps
theorem MxR.stay {h h' : H} {s : Sl} {ps : Parts} (w : WF h) (c : Ch0 h h') (r : MxR h s ps) : MxR h' s ps := ⟨r.sl.stay w c, r.rs.stay w c⟩
theorem MxR.n {h : H} {s : Sl} {ps : Parts} (r : MxR h s ps) : s.n = ps.length := by have := r.sl.len; rw [List.length_map, Nat.mul_one] at this; exact this.symm
theorem MxR.at {h : H} {s : Sl} {ps : Parts} (r : MxR h s ps) {j : Nat} (hj : j < ps.length) : ∃ p, ixs 1 s.a s.n (Int.ofNat j) = some (.pointer p) ∧ asS (ldc h p) = some ps[j].1 := by
  obtain ⟨p, h1, h2⟩ := r.sl.elem1 (j := j) (by rw [r.n]; exact hj)
  refine ⟨p, h1, ?_⟩
  rw [h2, List.getElem?_map, List.getElem?_eq_getElem hj]; rfl
theorem MxR.row {h : H} {s : Sl} {ps : Parts} (r : MxR h s ps) {j : Nat} (hj : j < ps.length) : SlR 1 h ps[j].1 (byt ps[j].2) := r.rs _ (List.getElem_mem hj)
theorem MxR.nil {h : H} : MxR h ⟨none, 0, 0⟩ [] := ⟨.inl ⟨rfl, .inl rfl⟩, fun p hp => by cases hp⟩
def mxv (ps : Parts) : Mx := ps.map (·.2)
/-! ### right? -/
def hd (m : Mx) : List UInt8 := m.headD []
def rightM (m : Mx) : Bool := decide (1 ≤ m.length) && (decide (m.length ≤ 64) && (decide (1 ≤ (hd m).length) && (decide ((hd m).length ≤ 64) && m.all fun r => decide (r.length = (hd m).length))))
structure RtM (m : Mx) : Prop where
  n0 : 1 ≤ m.length
  n1 : m.length ≤ 64
  c0 : 1 ≤ (hd m).length
  c1 : (hd m).length ≤ 64
  al : ∀ r ∈ m, r.length = (hd m).length
theorem rightM_iff (m : Mx) : rightM m = true ↔ RtM m := by
  unfold rightM
  simp only [Bool.and_eq_true, decide_eq_true_eq, List.all_eq_true]
  exact ⟨fun ⟨a, b, c, d, e⟩ => ⟨a, b, c, d, e⟩, fun ⟨a, b, c, d, e⟩ => ⟨a, b, c, d, e⟩⟩
theorem right_l0 (k : Nat) {h : H} {s t : Sl} {bb : Nat} (I : Is h bb 37 1 [slv s]) {ps : Parts} (r : MxR h s ps) (hp : 0 < ps.length) (hl : ps.length ≤ 1000) : ∀ n j, ps.length - j < n → j ≤ ps.length →
    ∃ v, slices_IndexFunc_byte_byte_matrix_Right_1.l0 k n s (some ⟨bb, 0, none⟩) (Int.ofNat ps.length) (Int.ofNat j) h = some (v, h) ∧ ((∃ i : Nat, v = .inl (Int.ofNat i) ∧ ((mxv ps).drop j).all (fun r => decide (r.length = (hd (mxv ps)).length)) = false) ∨ (v = .inr () ∧ ((mxv ps).drop j).all (fun r => decide (r.length = (hd (mxv ps)).length)) = true))
  | 0, j, hn, _ => by omega
  | n + 1, j, hn, hj => by
    rw [slices_IndexFunc_byte_byte_matrix_Right_1.l0_succ]
    have hlen : (mxv ps).length = ps.length := List.length_map _
    by_cases c : j < ps.length
    · rw [decLt c, cond_true]
      obtain ⟨p, e1, e2⟩ := r.at c
      rw [e1]
      simp only [asP_ptr, Option.bind_some]
      rw [e2]
      simp only [Option.bind_some]
      unfold matrix_Right_1.f
      rw [I.ldc, show asS (([slv s] : List Value)[0]?) = some s from rfl]
      simp only [Option.bind_some]
      obtain ⟨p0, f1, f2⟩ := r.at hp
      rw [show (0 : Int) = Int.ofNat 0 from rfl, f1]
      simp only [asP_ptr, Option.bind_some]
      rw [f2]
      simp only [Option.bind_some, (r.row c).n_byt, (r.row hp).n_byt]
      have hh : hd (mxv ps) = ps[0].2 := by
        unfold hd mxv
        cases ps with
        | nil => simp at hp
        | cons a l => rfl
      have hd' : (mxv ps).drop j = ps[j].2 :: (mxv ps).drop (j + 1) := by
        rw [List.drop_eq_getElem_cons (by rw [hlen]; exact c)]
        simp only [mxv, List.getElem_map]
      rw [hd', List.all_cons, hh]
      by_cases e : ps[j].2.length = ps[0].2.length
      · rw [decide_eq_true e, show (Int.ofNat ps[j].2.length != Int.ofNat ps[0].2.length) = false by rw [e]; simp, cond_false, wrap_succ (by omega), Bool.true_and]
        obtain ⟨v, g1, g2⟩ := right_l0 k (t := t) I r hp hl n (j + 1) (by omega) (by omega)
        rw [hh] at g2
        exact ⟨v, g1, g2⟩
      · rw [decide_eq_false e, show (Int.ofNat ps[j].2.length != Int.ofNat ps[0].2.length) = true by simp only [bne_iff_ne, ne_eq]; exact fun f => e (Int.ofNat.inj f), cond_true]
        exact ⟨_, rfl, .inl ⟨j, rfl, rfl⟩⟩
    · rw [decNlt c, cond_false]
      exact ⟨_, rfl, .inr ⟨rfl, by rw [List.drop_eq_nil_of_le (by rw [hlen]; omega)]; rfl⟩⟩
theorem mright_f (k : Nat) (hk : 1000 < k) {h : H} (w : WF h) {s : Sl} {ps : Parts} (r : MxR h s ps) : ∃ h', matrix_Right.f k s h = some (rightM (mxv ps), h') ∧ Ch0 h h' := by
  unfold matrix_Right.f
  rw [show [Value.slice s.a s.n s.c] = [slv s] from rfl]
  obtain ⟨z1, z2, z3⟩ := newR_ok w 37 1 [slv s]
  generalize newR h 37 1 [slv s] = g at z1 z2 z3 ⊢
  refine ⟨g, ?_, z1⟩
  have L : asS (ldc g (some ⟨h.next, 0, none⟩)) = some s := by rw [z3.ldc]; rfl
  have hlen : (mxv ps).length = ps.length := List.length_map _
  have r1 := r.stay w z1
  simp only [L, Option.bind_some, r.n]
  have bad : ∀ b : Bool, rightM (mxv ps) = b → some (b, g) = some (rightM (mxv ps), g) := fun b e => by rw [e]
  by_cases c1 : 1 ≤ ps.length
  rotate_left
  · rw [decide_eq_true (show Int.ofNat ps.length < (1 : Int) by simp only [Int.ofNat_eq_natCast]; omega)]
    simp only [cond_true, Option.bind_some]
    exact bad _ (by unfold rightM; rw [hlen, decide_eq_false c1]; rfl)
  rw [decide_eq_false (show ¬ Int.ofNat ps.length < (1 : Int) by simp only [Int.ofNat_eq_natCast]; omega)]
  simp only [cond_false, L, Option.bind_some]
  by_cases c2 : ps.length ≤ 64
  rotate_left
  · rw [r.n, decide_eq_true (show Int.ofNat ps.length > (64 : Int) by simp only [Int.ofNat_eq_natCast]; omega)]
    simp only [cond_true, Option.bind_some]
    exact bad _ (by unfold rightM; rw [hlen, decide_eq_false c2]; simp)
  rw [r.n, decide_eq_false (show ¬ Int.ofNat ps.length > (64 : Int) by simp only [Int.ofNat_eq_natCast]; omega)]
  simp only [cond_false, L, Option.bind_some]
  obtain ⟨p0, f1, f2⟩ := r1.at (j := 0) (by omega)
  have f1' := f1
  rw [r1.n] at f1'
  rw [show (0 : Int) = Int.ofNat 0 from rfl]
  simp only [f1, f1', asP_ptr, Option.bind_some]
  rw [f2]
  simp only [Option.bind_some, (r.row (j := 0) (by omega)).n_byt]
  have hh : hd (mxv ps) = ps[0].2 := by
    unfold hd mxv
    cases ps with
    | nil => simp at c1
    | cons a l => rfl
  by_cases c3 : 1 ≤ ps[0].2.length
  rotate_left
  · rw [decide_eq_true (show Int.ofNat ps[0].2.length < (1 : Int) by simp only [Int.ofNat_eq_natCast]; omega)]
    simp only [cond_true, Option.bind_some]
    exact bad _ (by unfold rightM; rw [hh, decide_eq_false c3]; simp)
  rw [decide_eq_false (show ¬ Int.ofNat ps[0].2.length < (1 : Int) by simp only [Int.ofNat_eq_natCast]; omega)]
  simp only [cond_false, L, Option.bind_some]
  simp only [f1, f1', asP_ptr, Option.bind_some]
  rw [f2]
  simp only [Option.bind_some, (r.row (j := 0) (by omega)).n_byt]
  by_cases c4 : ps[0].2.length ≤ 64
  rotate_left
  · rw [decide_eq_true (show Int.ofNat ps[0].2.length > (64 : Int) by simp only [Int.ofNat_eq_natCast]; omega)]
    simp only [cond_true, Option.bind_some]
    exact bad _ (by unfold rightM; rw [hh, decide_eq_false c4]; simp)
  rw [decide_eq_false (show ¬ Int.ofNat ps[0].2.length > (64 : Int) by simp only [Int.ofNat_eq_natCast]; omega)]
  simp only [cond_false, L, Option.bind_some]
  unfold slices_ContainsFunc_byte_byte_matrix_Right_1.f slices_IndexFunc_byte_byte_matrix_Right_1.f
  obtain ⟨v, g1, g2⟩ := right_l0 k (t := s) z3 r1 (by omega) (by omega) k 0 (by omega) (Nat.zero_le _)
  rw [r.n, show (0 : Int) = Int.ofNat 0 from rfl, g1]
  rw [List.drop_zero, hh] at g2
  rcases g2 with ⟨i, rfl, e⟩ | ⟨rfl, e⟩
  · have x := bad false (by unfold rightM; rw [hh, e]; simp)
    rw [← x]
    show some (!decide (Int.ofNat i ≥ Int.ofNat 0), g) = _
    rw [decide_eq_true (show Int.ofNat i ≥ Int.ofNat 0 by simp)]; rfl
  · have x := bad true (by unfold rightM; rw [hlen, hh, e, decide_eq_true c1, decide_eq_true c2, decide_eq_true c3, decide_eq_true c4]; rfl)
    rw [← x]; rfl
/-! ### a row of a product -/
def addRow (x : UInt8) (out r : List UInt8) : List UInt8 := List.zipWith (fun o y => o ^^^ mulB x y) out r
def rowP : List UInt8 → List UInt8 → Mx → List UInt8
  | out, x :: xs, r :: rs => rowP (addRow x out r) xs rs
  | out, _, _ => out
theorem addRow_len {x : UInt8} {out r : List UInt8} (h : out.length = r.length) : (addRow x out r).length = out.length := by unfold addRow; rw [List.length_zipWith]; omega
theorem addRow_get {x : UInt8} {out r : List UInt8} {i : Nat} (h1 : i < out.length) (h2 : i < r.length) : (addRow x out r)[i]? = some (out[i] ^^^ mulB x r[i]) := by
  unfold addRow
  rw [List.getElem?_zipWith, List.getElem?_eq_getElem h1, List.getElem?_eq_getElem h2]
theorem cell_set {h : H} (w : WF h) {b : Nat} {x : List UInt8} (I : Is h b 5 1 (byt x)) {j : Nat} (hj : j < x.length) (c : UInt8) :
    ∃ h', stv 1 h (some ⟨b, j, none⟩) [.int .u8 (Int.ofNat c.toNat)] = some (undef, h') ∧ Ch (fun z => z = b) h h' ∧ h'.next = h.next ∧ Is h' b 5 1 (byt (x.set j c)) := by
  obtain ⟨h', i1, i2, i3, i4⟩ := I.set w j (.int .u8 (Int.ofNat c.toNat)) (by rw [byt_len]; exact hj) rfl
  refine ⟨h', i1, i2, i3, ?_⟩
  have : (byt x).set j (.int .u8 (Int.ofNat c.toNat)) = byt (x.set j c) := by unfold byt; rw [List.map_set]
  rw [← this]; exact i4
theorem cell_get {h : H} {b : Nat} {x : List UInt8} (I : Is h b 5 1 (byt x)) {j : Nat} (hj : j < x.length) : ldc h (some ⟨b, j, none⟩) = some (.int .u8 (Int.ofNat x[j].toNat)) := by
  rw [I.ldc, byt_get, List.getElem?_eq_getElem hj]; rfl
theorem row_l1 (k : Nat) {fb ob : Nat} {h0 : H} (w0 : WF h0) (F : FldR h0 fb) (hob : h0.next ≤ ob) (x17' x19 : Sl) (x : UInt8) (x20 x21 : Int) {s : Sl} {r : List UInt8} (R : SlR 1 h0 s (byt r)) (m : Nat) (hm : m = r.length) (hc : m ≤ 1000) (out : List UInt8) (ho : out.length = m) (b : Sl) : ∀ n i h cur, m - i < n → i ≤ m → Ch0 h0 h → Is h ob 5 1 (byt cur) → cur.length = m → (∀ j, cur[j]? = if j < i then (addRow x out r)[j]? else out[j]?) →
    ∃ h', matrix_row.l1 k n (some ⟨fb, 0, none⟩) b ⟨some ⟨ob, 0, none⟩, m, m⟩ (Int.ofNat x.toNat) x19 x20 x21 s (Int.ofNat m) (Int.ofNat i) h = some ((), h') ∧ Ch0 h0 h' ∧ Is h' ob 5 1 (byt (addRow x out r))
  | 0, i, h, cur, hn, _, _, _, _, _ => by omega
  | n + 1, i, h, cur, hn, hi, hc0, I, hl, hg => by
    rw [matrix_row.l1_succ]
    by_cases c : i < m
    · rw [decLt c, cond_true]
      obtain ⟨p, e1, e2⟩ := (R.stay w0 hc0).byte (List.getElem?_eq_getElem (show i < r.length by omega))
      rw [e1]
      simp only [asP_ptr, Option.bind_some, e2, asI_int]
      rw [ixs_ptr c]
      simp only [asP_ptr, Option.bind_some, Nat.zero_add]
      rw [cell_get I (show i < cur.length by omega)]
      simp only [asI_int, Option.bind_some]
      rw [mul_f k (F.stay w0 hc0)]
      simp only [Option.bind_some]
      rw [add_f]
      simp only [Option.bind_some]
      obtain ⟨h', f1, f2, f3, f4⟩ := cell_set hc0.wf I (show i < cur.length by omega) (cur[i]'(by omega) ^^^ mulB x (r[i]'(by omega)))
      rw [f1]
      simp only [Option.bind_some, same1_refl, Bool.true_and, cond_true]
      rw [wrap_succ (by omega)]
      have ci : cur[i]'(by omega) = out[i]'(by omega) := by
        have := hg i
        rw [if_neg (by omega), List.getElem?_eq_getElem (by omega), List.getElem?_eq_getElem (by omega)] at this
        exact Option.some.inj this
      refine row_l1 k w0 F hob x17' x19 x x20 x21 R m hm hc out ho b n (i + 1) h' _ (by omega) (by omega) (hc0.trans f2 fun z hz f => by omega) f4 (by rw [List.length_set]; exact hl) ?_
      intro j
      rw [List.getElem?_set]
      by_cases e : i = j
      · subst e
        rw [if_pos rfl, if_pos (show i < cur.length by omega), if_pos (by omega), addRow_get (by omega) (by omega), ci]
      · rw [if_neg e, hg j]
        by_cases q : j < i
        · rw [if_pos q, if_pos (by omega)]
        · rw [if_neg q, if_neg (by omega)]
    · rw [decNlt c, cond_false]
      have : cur = addRow x out r := by
        apply List.ext_getElem?
        intro j
        rw [hg j]
        by_cases q : j < i
        · rw [if_pos q]
        · rw [if_neg q, List.getElem?_eq_none (by omega), List.getElem?_eq_none (by rw [addRow_len (by omega)]; omega)]
      rw [← this]
      exact ⟨h, rfl, hc0, I⟩
theorem row_l0 (k : Nat) (hk : 1000 < k) {fb ob : Nat} {h0 : H} (w0 : WF h0) (F : FldR h0 fb) (hob : h0.next ≤ ob) {sa : Sl} {x : List UInt8} (A : SlR 1 h0 sa (byt x)) {sb : Sl} {ps : Parts} (B : MxR h0 sb ps) (hx : x.length ≤ ps.length) (hx2 : x.length ≤ 1000) (m : Nat) (hc : m ≤ 1000) (hm : ∀ p ∈ ps, p.2.length = m) : ∀ n i h out, x.length - i < n → i ≤ x.length → Ch0 h0 h → Is h ob 5 1 (byt out) → out.length = m →
    ∃ h', matrix_row.l0 k n (some ⟨fb, 0, none⟩) sb ⟨some ⟨ob, 0, none⟩, m, m⟩ sa (Int.ofNat x.length) (Int.ofNat i) h = some ((), h') ∧ Ch0 h0 h' ∧ Is h' ob 5 1 (byt (rowP out (x.drop i) ((mxv ps).drop i)))
  | 0, i, h, out, hn, _, _, _, _ => by omega
  | n + 1, i, h, out, hn, hi, hc0, I, hl => by
    rw [matrix_row.l0_succ]
    by_cases c : i < x.length
    · rw [decLt c, cond_true]
      obtain ⟨p, e1, e2⟩ := (A.stay w0 hc0).byte (List.getElem?_eq_getElem c)
      rw [e1]
      simp only [asP_ptr, Option.bind_some, e2, asI_int]
      have cp : i < ps.length := by omega
      obtain ⟨q, f1, f2⟩ := (B.stay w0 hc0).at cp
      rw [f1]
      simp only [asP_ptr, Option.bind_some]
      rw [f2]
      simp only [Option.bind_some, (B.row cp).n_byt]
      have rl : ps[i].2.length = m := hm _ (List.getElem_mem cp)
      rw [rl]
      obtain ⟨h1, g1, g2, g3⟩ := row_l1 k w0 F hob sb sa x[i] (Int.ofNat x.length) (Int.ofNat i) (B.row cp) m rl.symm hc out hl sb k 0 h out (by omega) (Nat.zero_le _) hc0 I hl (fun j => by rw [if_neg (by omega)])
      rw [show (0 : Int) = Int.ofNat 0 from rfl, g1]
      simp only [Option.bind_some]
      rw [wrap_succ (by omega)]
      obtain ⟨h2, u1, u2, u3⟩ := row_l0 k hk w0 F hob A B hx hx2 m hc hm n (i + 1) h1 (addRow x[i] out ps[i].2) (by omega) (by omega) g2 g3 (by rw [addRow_len (by omega)]; exact hl)
      refine ⟨h2, u1, u2, ?_⟩
      have d1 : x.drop i = x[i] :: x.drop (i + 1) := List.drop_eq_getElem_cons c
      have d2 : (mxv ps).drop i = ps[i].2 :: (mxv ps).drop (i + 1) := by
        rw [List.drop_eq_getElem_cons (show i < (mxv ps).length by unfold mxv; rw [List.length_map]; exact cp)]
        simp only [mxv, List.getElem_map]
      rw [d1, d2]
      exact u3
    · rw [decNlt c, cond_false]
      refine ⟨h, rfl, hc0, ?_⟩
      rw [List.drop_eq_nil_of_le (by omega)]
      show Is h ob 5 1 (byt (rowP out [] _))
      unfold rowP; exact I
theorem rowP_len : ∀ (x : List UInt8) (m : Mx) (out : List UInt8), (∀ r ∈ m, r.length = out.length) → (rowP out x m).length = out.length
  | [], m, out, _ => by unfold rowP; rfl
  | x :: xs, [], out, _ => by unfold rowP; rfl
  | x :: xs, r :: rs, out, h => by
    have h1 : out.length = r.length := (h r List.mem_cons_self).symm
    unfold rowP
    rw [rowP_len xs rs _ (fun p hp => by rw [addRow_len h1]; exact h p (List.mem_cons_of_mem _ hp)), addRow_len h1]
theorem row_f (k : Nat) (hk : 1000 < k) {fb : Nat} {h : H} (w : WF h) (F : FldR h fb) {sa : Sl} {x : List UInt8} (A : SlR 1 h sa (byt x)) {sb : Sl} {ps : Parts} (B : MxR h sb ps) (hp : 0 < ps.length) (hx : x.length ≤ ps.length) (hx2 : x.length ≤ 1000) (m : Nat) (hc : m ≤ 1000) (hm : ∀ p ∈ ps, p.2.length = m) :
    ∃ h', matrix_row.f k (some ⟨fb, 0, none⟩) sa sb h = some (⟨some ⟨h.next, 0, none⟩, m, m⟩, h') ∧ Ch0 h h' ∧ Is h' h.next 5 1 (byt (rowP (List.replicate m 0) x (mxv ps))) := by
  unfold matrix_row.f
  obtain ⟨p0, f1, f2⟩ := B.at hp
  rw [show (0 : Int) = Int.ofNat 0 from rfl, f1]
  simp only [asP_ptr, Option.bind_some]
  rw [f2]
  simp only [Option.bind_some, (B.row hp).n_byt]
  rw [hm _ (List.getElem_mem hp)]
  rw [mkz_ok _ rfl (by omega) (by omega)]
  obtain ⟨z1, z2, z3⟩ := newZ_ok w 5 1 (.int .u8 (Int.ofNat 0)) m
  rw [show asS2 (some (Value.slice (some ⟨h.next, 0, none⟩) m m, newZ h 5 1 [Value.int .u8 (Int.ofNat 0)] m)) = some ((⟨some ⟨h.next, 0, none⟩, m, m⟩ : Sl), newZ h 5 1 [Value.int .u8 (Int.ofNat 0)] m) from rfl]
  simp only [Option.bind_some]
  rw [Nat.mul_one] at z3
  have zb : List.replicate m (Value.int .u8 (Int.ofNat 0)) = byt (List.replicate m 0) := byt_rep m
  rw [zb] at z3
  have xn : sa.n = x.length := A.n_byt
  obtain ⟨h2, u1, u2, u3⟩ := row_l0 k hk w F (Nat.le_refl _) A B hx hx2 m hc hm k 0 _ (List.replicate m 0) (by omega) (Nat.zero_le _) z1 z3 (List.length_replicate)
  rw [xn, u1]
  rw [List.drop_zero, List.drop_zero] at u3
  exact ⟨h2, rfl, u2, u3⟩
def mulM (a b : Mx) : Mx := a.map fun x => rowP (List.replicate (hd b).length 0) x b
/-! ### products -/
/-- rows that are piled up: all new -/
structure MxO (g0 h : H) (s : Sl) (ps : Parts) : Prop where
  ch : Ch0 g0 h
  ow : Ow 40 1 h s (ps.map fun p => slv p.1)
  rs : PartsR h ps
  fr : ∀ b, SlB s b → g0.next ≤ b
  ds : ∀ p ∈ ps, ∀ b, SlB p.1 b → ¬ SlB s b
theorem MxO.mxr {g0 h : H} {s : Sl} {ps : Parts} (o : MxO g0 h s ps) : MxR h s ps := ⟨o.ow.slr, o.rs⟩
theorem MxO.more {g0 h h' : H} {s : Sl} {ps : Parts} (o : MxO g0 h s ps) (c : Ch0 h h') : MxO g0 h' s ps := ⟨o.ch.then c, o.ow.stay o.ch.wf c, o.rs.stay o.ch.wf c, o.fr, o.ds⟩
theorem MxO.nil {h : H} (w : WF h) : MxO h h ⟨none, 0, 0⟩ [] := ⟨Ch.refl w, Ow.nil, (fun p hp => by cases hp), (fun b hb => by obtain ⟨o, q⟩ := hb; cases q), fun p hp => by cases hp⟩
theorem MxO.push2 {g0 h : H} {s : Sl} {ps : Parts} (o : MxO g0 h s ps) (d : Sl) (x : List UInt8) (r : SlR 1 h d (byt x)) (hd' : ∀ b, SlB d b → ¬ SlB s b) (hl : ps.length ≤ 1000) :
    ∃ s' h', asS2 (apv 40 1 24 (.slice s.a s.n s.c) (.slice (some ⟨h.next, 0, none⟩) 1 1) (newR h 40 1 [.slice d.a d.n d.c])) = some (s', h') ∧ MxO g0 h' s' (ps ++ [(d, x)]) ∧ Ch (SlB s) h h' ∧ ∀ b, SlB s' b → SlB s b ∨ h.next ≤ b := by
  have w := o.ch.wf
  obtain ⟨n1, n2, n3⟩ := newR_ok w 40 1 [slv d]
  have hn : s.n = ps.length := o.mxr.n
  obtain ⟨s', h', e1, e2, e3, e4, e5⟩ := apv_ok (by_ := 24) n1.wf (o.ow.stay w n1) (by decide) (SlR.of_is n3 (n := 1) rfl (by unfold unk; omega)) (by rw [hn]; show (ps.length + 1) * 24 ≤ _; omega) rfl
  have hk : ∀ (q : Sl) (y : List UInt8), SlR 1 h q (byt y) → (∀ b, SlB q b → ¬ SlB s b) → SlR 1 h' q (byt y) := fun q y rq hq => (rq.stay w n1).keep fun b hb => e2.keep b (by have := rq.blk w hb; omega) (hq b hb)
  refine ⟨s', h', e1, ⟨Ch0.own (o.ch.then n1) e2 o.fr, ?_, ?_, ?_, ?_⟩, (n1.mono fun _ _ f => f.elim).trans e2 fun _ _ f => f, fun b hb => (e5 b hb).imp id fun f => by omega⟩
  · rw [List.map_append]; exact e3
  · intro p hp
    rcases List.mem_append.1 hp with hp | hp
    · exact hk _ _ (o.rs p hp) (o.ds p hp)
    · obtain rfl := List.mem_singleton.1 hp
      exact hk _ _ r hd'
  · exact fun b hb => (e5 b hb).elim (o.fr b) fun f => by have := o.ch.le; omega
  · intro p hp b hb f
    rcases List.mem_append.1 hp with hp | hp
    · exact (e5 b f).elim (o.ds p hp b hb) fun g => by have := (o.rs p hp).blk w hb; omega
    · obtain rfl := List.mem_singleton.1 hp
      exact (e5 b f).elim (hd' b hb) fun g => by have := r.blk w hb; omega
theorem MxO.push {g0 h : H} {s : Sl} {ps : Parts} (o : MxO g0 h s ps) (d : Sl) (x : List UInt8) (r : SlR 1 h d (byt x)) (hd' : ∀ b, SlB d b → ¬ SlB s b) (hl : ps.length ≤ 1000) :
    ∃ s' h', asS2 (apv 40 1 24 (.slice s.a s.n s.c) (.slice (some ⟨h.next, 0, none⟩) 1 1) (newR h 40 1 [.slice d.a d.n d.c])) = some (s', h') ∧ MxO g0 h' s' (ps ++ [(d, x)]) := by
  obtain ⟨s', h', a, b, _⟩ := o.push2 d x r hd' hl
  exact ⟨s', h', a, b⟩
theorem mul_l0 (k : Nat) (hk : 1000 < k) {fb : Nat} {h0 : H} (w0 : WF h0) (F : FldR h0 fb) {sa : Sl} {qs : Parts} (A : MxR h0 sa qs) {sb : Sl} {ps : Parts} (B : MxR h0 sb ps) (hp : 0 < ps.length) (hq2 : qs.length ≤ 1000) (m : Nat) (hc : m ≤ 1000) (hm : ∀ p ∈ ps, p.2.length = m) (hq : ∀ q ∈ qs, q.2.length ≤ ps.length ∧ q.2.length ≤ 1000) : ∀ n i h out os, qs.length - i < n → i ≤ qs.length → MxO h0 h out os → mxv os = (((mxv qs).take i).map fun x => rowP (List.replicate m 0) x (mxv ps)) →
    ∃ out' os' h', matrix_Mul.l0 k n (some ⟨fb, 0, none⟩) sb sa (Int.ofNat qs.length) out (Int.ofNat i) h = some (out', h') ∧ MxO h0 h' out' os' ∧ mxv os' = (mxv qs).map fun x => rowP (List.replicate m 0) x (mxv ps)
  | 0, i, h, out, os, hn, _, _, _ => by omega
  | n + 1, i, h, out, os, hn, hi, O, he => by
    rw [matrix_Mul.l0_succ]
    have ql : (mxv qs).length = qs.length := List.length_map _
    by_cases c : i < qs.length
    · rw [decLt c, cond_true]
      obtain ⟨p, e1, e2⟩ := (A.stay w0 O.ch).at c
      rw [e1]
      simp only [asP_ptr, Option.bind_some]
      rw [e2]
      simp only [Option.bind_some]
      have hqi := hq _ (List.getElem_mem c)
      obtain ⟨h1, f1, f2, f3⟩ := row_f k hk O.ch.wf (F.stay w0 O.ch) ((A.row c).stay w0 O.ch) (B.stay w0 O.ch) hp hqi.1 hqi.2 m hc hm
      rw [f1]
      simp only [Option.bind_some]
      have osl : os.length = i := by
        have := congrArg List.length he
        rw [List.length_map, List.length_take, ql] at this
        unfold mxv at this
        rw [List.length_map] at this
        omega
      have rl : (rowP (List.replicate m 0) qs[i].2 (mxv ps)).length = m := by
        rw [rowP_len, List.length_replicate]
        intro r hr
        obtain ⟨p, hp', rfl⟩ := List.mem_map.1 hr
        rw [List.length_replicate]; exact hm p hp'
      obtain ⟨s', h2, g1, g2⟩ := (O.more f2).push ⟨some ⟨h.next, 0, none⟩, m, m⟩ (rowP (List.replicate m 0) qs[i].2 (mxv ps)) (SlR.of_is f3 (n := m) (by rw [byt_len, rl, Nat.mul_one]) (by unfold unk; omega)) (fun b hb f => by obtain ⟨o, e⟩ := hb; have : h.next = b := congrArg Addr.block (Option.some.inj e); have := O.ow.lt O.ch.wf f; omega) (by omega)
      rw [g1]
      simp only [Option.bind_some]
      rw [wrap_succ (by omega)]
      refine mul_l0 k hk w0 F A B hp hq2 m hc hm hq n (i + 1) h2 s' _ (by omega) (by omega) g2 ?_
      unfold mxv at he ⊢
      rw [List.map_append, he]
      have tk : (qs.map (·.2)).take (i + 1) = (qs.map (·.2)).take i ++ [qs[i].2] := by
        rw [List.take_add_one, List.getElem?_map, List.getElem?_eq_getElem c]; rfl
      rw [tk, List.map_append]; rfl
    · rw [decNlt c, cond_false]
      refine ⟨out, os, h, rfl, O, ?_⟩
      rw [he, List.take_of_length_le (by rw [ql]; omega)]
theorem mmul_f (k : Nat) (hk : 1000 < k) {fb : Nat} {h : H} (w : WF h) (F : FldR h fb) {sa : Sl} {qs : Parts} (A : MxR h sa qs) {sb : Sl} {ps : Parts} (B : MxR h sb ps) (ra : RtM (mxv qs)) (rb : RtM (mxv ps)) (hab : (hd (mxv qs)).length = (mxv ps).length) :
    ∃ out os h', matrix_Mul.f k (some ⟨fb, 0, none⟩) sa sb h = some (out, h') ∧ MxO h h' out os ∧ mxv os = mulM (mxv qs) (mxv ps) := by
  unfold matrix_Mul.f
  rw [show binO1 Try.prog .eql 22 (Value.pointer (some ⟨fb, 0, none⟩)) (Value.pointer none) = some (.bool false) from rfl]
  rw [show asB (some (Value.bool false)) = some false from rfl]
  simp only [Option.bind_some, cond_false]
  obtain ⟨h1, a1, a2⟩ := mright_f k hk w A
  rw [a1, (rightM_iff _).2 ra]
  simp only [Option.bind_some, Bool.not_true, cond_false]
  obtain ⟨h2, b1, b2⟩ := mright_f k hk a2.wf (B.stay w a2)
  rw [b1, (rightM_iff _).2 rb]
  simp only [Option.bind_some, Bool.not_true, cond_false]
  have c2 := a2.then b2
  have ql : (mxv qs).length = qs.length := List.length_map _
  have pl : (mxv ps).length = ps.length := List.length_map _
  have q0 : 0 < qs.length := by have := ra.n0; omega
  have p0 : 0 < ps.length := by have := rb.n0; omega
  have hh : hd (mxv qs) = qs[0].2 := by
    unfold hd mxv
    cases qs with
    | nil => simp at q0
    | cons a l => rfl
  obtain ⟨p, f1, f2⟩ := (A.stay w c2).at q0
  rw [show (0 : Int) = Int.ofNat 0 from rfl, f1]
  simp only [asP_ptr, Option.bind_some]
  rw [f2]
  simp only [Option.bind_some, (A.row q0).n_byt, B.n, A.n]
  rw [← hh, hab, pl, show (Int.ofNat ps.length != Int.ofNat ps.length) = false by simp]
  simp only [cond_false]
  have R1 := ra.n1
  have R2 := rb.n1
  have R3 := rb.c1
  obtain ⟨out, os, h3, g1, g2, g3⟩ := mul_l0 k hk b2.wf (F.stay w c2) (A.stay w c2) (B.stay w c2) p0 (by omega) (hd (mxv ps)).length (by omega) (fun p hp => rb.al _ (List.mem_map.2 ⟨p, hp, rfl⟩)) (fun q hq => by have := ra.al _ (List.mem_map.2 ⟨q, hq, rfl⟩); rw [hab] at this; exact ⟨by omega, by omega⟩) k 0 h2 ⟨none, 0, 0⟩ [] (by omega) (Nat.zero_le _) (MxO.nil b2.wf) (by rw [List.take_zero]; rfl)
  rw [g1]
  refine ⟨out, os, h3, rfl, ⟨c2.then g2.ch, g2.ow, g2.rs, fun b hb => Nat.le_trans c2.le (g2.fr b hb), g2.ds⟩, g3⟩
/-! ### the same -/
theorem same_l0 (k : Nat) {h : H} {s t : Sl} {ps qs : Parts} (A : MxR h s ps) (B : MxR h t qs) (hl : ps.length = qs.length) (hl2 : ps.length ≤ 1000) (hr : ∀ p ∈ ps, p.2.length < k ∧ p.2.length < 9223372036854775807) : ∀ n j, ps.length - j < n → j ≤ ps.length →
    ∃ v, slices_EqualFunc_byte_byte_byte_byte_matrix_Same_1.l0 k n t () s (Int.ofNat ps.length) (Int.ofNat j) h = some (v, h) ∧ ((v = .inl false ∧ (mxv ps).drop j ≠ (mxv qs).drop j) ∨ (v = .inr () ∧ (mxv ps).drop j = (mxv qs).drop j))
  | 0, j, hn, _ => by omega
  | n + 1, j, hn, hj => by
    rw [slices_EqualFunc_byte_byte_byte_byte_matrix_Same_1.l0_succ]
    have pl : (mxv ps).length = ps.length := List.length_map _
    have ql : (mxv qs).length = qs.length := List.length_map _
    by_cases c : j < ps.length
    · have c' : j < qs.length := by omega
      rw [decLt c, cond_true]
      obtain ⟨p, e1, e2⟩ := A.at c
      obtain ⟨p', f1, f2⟩ := B.at c'
      rw [e1]
      simp only [asP_ptr, Option.bind_some]
      rw [e2]
      simp only [Option.bind_some]
      rw [f1]
      simp only [asP_ptr, Option.bind_some]
      rw [f2]
      simp only [Option.bind_some]
      unfold matrix_Same_1.f
      have hb := hr _ (List.getElem_mem c)
      rw [equal_f k (A.row c) (B.row c') hb.1 hb.2]
      simp only [Option.bind_some]
      have d1 : (mxv ps).drop j = ps[j].2 :: (mxv ps).drop (j + 1) := by
        rw [List.drop_eq_getElem_cons (by rw [pl]; exact c)]
        simp only [mxv, List.getElem_map]
      have d2 : (mxv qs).drop j = qs[j].2 :: (mxv qs).drop (j + 1) := by
        rw [List.drop_eq_getElem_cons (by rw [ql]; exact c')]
        simp only [mxv, List.getElem_map]
      rw [d1, d2]
      by_cases e : ps[j].2 = qs[j].2
      · rw [decide_eq_true e, Bool.not_true, cond_false, wrap_succ (by omega)]
        obtain ⟨v, g1, g2⟩ := same_l0 k A B hl hl2 hr n (j + 1) (by omega) (by omega)
        refine ⟨v, g1, g2.imp (fun ⟨u, x⟩ => ⟨u, fun y => x (List.cons.inj y).2⟩) fun ⟨u, x⟩ => ⟨u, by rw [e, x]⟩⟩
      · rw [decide_eq_false e, Bool.not_false, cond_true]
        exact ⟨_, rfl, .inl ⟨rfl, fun y => e (List.cons.inj y).1⟩⟩
    · rw [decNlt c, cond_false]
      exact ⟨_, rfl, .inr ⟨rfl, by rw [List.drop_eq_nil_of_le (by omega), List.drop_eq_nil_of_le (by omega)]⟩⟩
theorem msame_f (k : Nat) (hk : 1000 < k) {h : H} {s t : Sl} {ps qs : Parts} (A : MxR h s ps) (B : MxR h t qs) (hl2 : ps.length ≤ 1000) (hr : ∀ p ∈ ps, p.2.length < k ∧ p.2.length < 9223372036854775807) : matrix_Same.f k s t h = some (decide (mxv ps = mxv qs), h) := by
  unfold matrix_Same.f slices_EqualFunc_byte_byte_byte_byte_matrix_Same_1.f
  rw [A.n, B.n]
  by_cases c : ps.length = qs.length
  · rw [show (Int.ofNat ps.length != Int.ofNat qs.length) = false by rw [c]; simp, cond_false]
    obtain ⟨v, a1, a2⟩ := same_l0 k A B c hl2 hr k 0 (by omega) (Nat.zero_le _)
    rw [show (0 : Int) = Int.ofNat 0 from rfl, a1]
    rw [List.drop_zero, List.drop_zero] at a2
    rcases a2 with ⟨rfl, e⟩ | ⟨rfl, e⟩
    · rw [decide_eq_false e]; rfl
    · rw [decide_eq_true e]; rfl
  · have : (Int.ofNat ps.length != Int.ofNat qs.length) = true := by
      simp only [bne_iff_ne, ne_eq]
      intro f
      exact c (Int.ofNat.inj f)
    rw [this, cond_true, decide_eq_false]; rfl
    intro f
    have := congrArg List.length f
    unfold mxv at this
    rw [List.length_map, List.length_map] at this
    exact c this
end Go.Proofs.Ytnjeafdbifcfhaa.Fw
