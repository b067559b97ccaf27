/- Matrices: inverses, by rows. No condition. -/
import Derived.Test.YtnjeafdbifcfhaaPbFwCod4
namespace Go.Proofs.Ytnjeafdbifcfhaa.Fw
open Go Den Fwd GF
set_option linter.unusedVariables false
set_option linter.unusedSimpArgs false
/-! ### in plain lists -/
def fnd (at_ : Nat) : Mx → Nat → Option Nat
  | [], _ => none
  | r :: rs, j => if r.getD at_ 0 = 0 then fnd at_ rs (j + 1) else some j
def swapP (m : Mx) (i j : Nat) : Mx := (m.set i (m.getD j [])).set j (m.getD i [])
def scaleP (c : UInt8) (r : List UInt8) : List UInt8 := r.map fun y => mulB y c
def elim (at_ : Nat) (piv : List UInt8) (k : Nat) (r : List UInt8) : List UInt8 := if k = at_ ∨ r.getD at_ 0 = 0 then r else addRow (r.getD at_ 0) r piv
def elimAll (at_ : Nat) (piv : List UInt8) : Nat → Mx → Mx
  | _, [] => []
  | k, r :: rs => elim at_ piv k r :: elimAll at_ piv (k + 1) rs
def clearM (at_ f : Nat) (m : Mx) : Mx :=
  let m1 := swapP m at_ (at_ + f)
  let piv := scaleP (invB ((m1.getD at_ []).getD at_ 0)) (m1.getD at_ [])
  elimAll at_ piv 0 (m1.set at_ piv)
def clearP (at_ : Nat) (m : Mx) : Option Mx := (fnd at_ (m.drop at_) 0).map fun f => clearM at_ f m
def clearsP : Nat → Nat → Mx → Option Mx
  | 0, _, m => some m
  | n + 1, at_, m => (clearP at_ m).bind fun m' => clearsP n (at_ + 1) m'
def bothP (m : Mx) : Mx := List.zipWith (fun a b => a ++ b) m (idM m.length)
def invP (m : Mx) : Option Mx := (clearsP m.length 0 (bothP m)).map fun r => r.map fun x => x.drop m.length
theorem elimAll_get (at_ : Nat) (piv : List UInt8) : ∀ (m : Mx) (k i : Nat), (elimAll at_ piv k m)[i]? = (m[i]?).map (elim at_ piv (k + i))
  | [], k, i => by unfold elimAll; simp
  | r :: rs, k, i => by
    unfold elimAll
    cases i with
    | zero => rfl
    | succ i =>
      rw [List.getElem?_cons_succ, List.getElem?_cons_succ, elimAll_get at_ piv rs, show k + 1 + i = k + (i + 1) by omega]
theorem elimAll_len (at_ : Nat) (piv : List UInt8) : ∀ (m : Mx) (k : Nat), (elimAll at_ piv k m).length = m.length
  | [], k => rfl
  | r :: rs, k => by unfold elimAll; rw [List.length_cons, List.length_cons, elimAll_len at_ piv rs]
theorem elim_len (at_ : Nat) (piv : List UInt8) (k : Nat) (r : List UInt8) (h : r.length = piv.length) : (elim at_ piv k r).length = r.length := by
  unfold elim
  split
  · rfl
  · exact addRow_len h
theorem fnd_some {at_ : Nat} : ∀ {m : Mx} {j f : Nat}, fnd at_ m j = some f → j ≤ f ∧ f - j < m.length ∧ (m.getD (f - j) []).getD at_ 0 ≠ 0
  | [], j, f, h => by cases h
  | r :: rs, j, f, h => by
    unfold fnd at h
    split at h
    · obtain ⟨a, b, c⟩ := fnd_some h
      refine ⟨by omega, by rw [List.length_cons]; omega, ?_⟩
      have : f - j = (f - (j + 1)) + 1 := by omega
      rw [this, List.getD_cons_succ]
      exact c
    · rename_i hc
      cases h
      exact ⟨Nat.le_refl _, by rw [Nat.sub_self, List.length_cons]; omega, by rw [Nat.sub_self]; exact hc⟩
/-! ### rows of one's own -/
structure MxW (g0 h : H) (lb c : Nat) (ps : Parts) : Prop where
  ch : Ch0 g0 h
  box : Is h lb 40 1 (ps.map fun p => slv p.1)
  lbg : g0.next ≤ lb
  rows : ∀ p ∈ ps, ∃ b n c, p.1 = ⟨some ⟨b, 0, none⟩, n, c⟩ ∧ Is h b 5 1 (byt p.2) ∧ g0.next ≤ b ∧ b ≠ lb ∧ n = p.2.length ∧ CapOk 1 p.1
  dist : ∀ i j (hi : i < ps.length) (hj : j < ps.length), i ≠ j → ∀ b, SlB ps[i].1 b → ¬ SlB ps[j].1 b
theorem MxW.at {g0 h : H} {lb c : Nat} {ps : Parts} (W : MxW g0 h lb c ps) {i : Nat} (hi : i < ps.length) : asS (ldc h (some ⟨lb, i, none⟩)) = some ps[i].1 := by
  rw [W.box.ldc, List.getElem?_map, List.getElem?_eq_getElem hi]; rfl
theorem MxW.more {g0 h h' : H} {lb c : Nat} {ps : Parts} (W : MxW g0 h lb c ps) (k : Ch0 h h') : MxW g0 h' lb c ps where
  ch := W.ch.then k
  box := W.box.stay W.ch.wf k
  lbg := W.lbg
  rows := fun p hp => by obtain ⟨b, n, c, e, I, x⟩ := W.rows p hp; exact ⟨b, n, c, e, I.stay W.ch.wf k, x⟩
  dist := W.dist
theorem MxW.slr {g0 h : H} {lb c : Nat} {ps : Parts} (W : MxW g0 h lb c ps) {p : Sl × List UInt8} (hp : p ∈ ps) : SlR 1 h p.1 (byt p.2) := by
  obtain ⟨b, n, c, e, I, _, _, hn, hc⟩ := W.rows p hp
  refine .inr ⟨b, 0, by rw [e], by rw [byt_len, e, hn, Nat.mul_one], ?_, hc⟩
  have := I.gets (o := 0) (n := n * 1) (by rw [byt_len, hn]; omega)
  rw [e]
  show h.gets b 0 (n * 1) = _
  rw [this, List.drop_zero, List.take_of_length_le (by rw [byt_len, hn]; omega)]
/-- a cell of a row is set -/
theorem MxW.set {g0 h : H} {lb c : Nat} {ps : Parts} (W : MxW g0 h lb c ps) {i : Nat} (hi : i < ps.length) {j : Nat} (hj : j < ps[i].2.length) (v : UInt8) :
    ∃ b h', ixs 1 ps[i].1.a ps[i].1.n (Int.ofNat j) = some (.pointer (some ⟨b, j, none⟩)) ∧ stv 1 h (some ⟨b, j, none⟩) [.int .u8 (Int.ofNat v.toNat)] = some (undef, h') ∧ Ch (fun z => z = b) h h' ∧ g0.next ≤ b ∧ SlB ps[i].1 b ∧ MxW g0 h' lb c (ps.set i (ps[i].1, ps[i].2.set j v)) := by
  obtain ⟨b, n, c', e, I, x1, x2, hn, hc⟩ := W.rows _ (List.getElem_mem hi)
  obtain ⟨h', a1, a2, a3, a4⟩ := cell_set W.ch.wf I hj v
  refine ⟨b, h', ?_, a1, a2, x1, by rw [e]; exact ⟨0, rfl⟩, ⟨W.ch.trans a2 fun z hz f => by omega, ?_, W.lbg, ?_, ?_⟩⟩
  · rw [e]
    show ixs 1 (some ⟨b, 0, none⟩) n (Int.ofNat j) = _
    rw [ixs_ptr (by omega), Nat.zero_add]
  · rw [List.map_set]
    have : (ps.map fun p => slv p.1).set i (slv ps[i].1) = ps.map fun p => slv p.1 := by
      apply List.ext_getElem?
      intro t
      rw [List.getElem?_set]
      by_cases q : i = t
      · subst q
        rw [if_pos rfl, if_pos (by rw [List.length_map]; exact hi), List.getElem?_map, List.getElem?_eq_getElem hi]; rfl
      · rw [if_neg q]
    rw [this]
    exact W.box.keep (a2.keep lb (W.box.lt W.ch.wf) fun f => x2 f.symm)
  · intro p hp
    obtain ⟨t, ht, et⟩ := List.mem_iff_getElem.1 hp
    rw [List.length_set] at ht
    by_cases q : i = t
    · subst q
      rw [List.getElem_set_self] at et
      rw [← et]
      exact ⟨b, n, c', e, a4, x1, x2, by rw [List.length_set]; exact hn, hc⟩
    · rw [List.getElem_set_ne q] at et
      rw [← et]
      obtain ⟨b', n', c'', e', I', y1, y2, hn', hc'⟩ := W.rows _ (List.getElem_mem ht)
      refine ⟨b', n', c'', e', I'.keep (a2.keep b' (I'.lt W.ch.wf) fun f => ?_), y1, y2, hn', hc'⟩
      subst f
      exact W.dist i t hi ht q b' (by rw [e]; exact ⟨0, rfl⟩) (by rw [e']; exact ⟨0, rfl⟩)
  · intro s t hs ht hst b hb f
    have L : (ps.set i (ps[i].1, ps[i].2.set j v)).length = ps.length := List.length_set
    have G : ∀ (r : Nat) (hr : r < (ps.set i (ps[i].1, ps[i].2.set j v)).length), ((ps.set i (ps[i].1, ps[i].2.set j v))[r]).1 = (ps[r]'(by omega)).1 := fun r hr => by
      rw [List.getElem_set]
      split
      · rename_i q; subst q; rfl
      · rfl
    rw [G] at hb f
    exact W.dist s t (by omega) (by omega) hst b hb f
/-- two rows change places -/
theorem MxW.swap {g0 h : H} {lb c : Nat} {ps : Parts} (W : MxW g0 h lb c ps) {i j : Nat} (hi : i < ps.length) (hj : j < ps.length) :
    ∃ h1 h2, stv 1 h (some ⟨lb, i, none⟩) [slv ps[j].1] = some (undef, h1) ∧ stv 1 h1 (some ⟨lb, j, none⟩) [slv ps[i].1] = some (undef, h2) ∧ Ch (fun z => z = lb) h h1 ∧ Ch (fun z => z = lb) h1 h2 ∧ MxW g0 h2 lb c ((ps.set i ps[j]).set j ps[i]) := by
  obtain ⟨h1, a1, a2, a3, a4⟩ := W.box.set W.ch.wf i (slv ps[j].1) (by rw [List.length_map]; exact hi) rfl
  obtain ⟨h2, b1, b2, b3, b4⟩ := a4.set a2.wf j (slv ps[i].1) (by rw [List.length_set, List.length_map]; exact hj) rfl
  have lbg := W.lbg
  have G : ∀ (r : Nat) (hr : r < ps.length) (hr' : r < ((ps.set i ps[j]).set j ps[i]).length), ((ps.set i ps[j]).set j ps[i])[r] = if r = j then ps[i] else if r = i then ps[j] else ps[r] := fun r hr hr' => by
    rw [List.getElem_set]
    by_cases q : j = r
    · rw [if_pos q, if_pos q.symm]
    · rw [if_neg q, if_neg (Ne.symm q), List.getElem_set]
      by_cases q2 : i = r
      · rw [if_pos q2, if_pos q2.symm]
      · rw [if_neg q2, if_neg (Ne.symm q2)]
  have L : ((ps.set i ps[j]).set j ps[i]).length = ps.length := by rw [List.length_set, List.length_set]
  refine ⟨h1, h2, a1, b1, a2, b2, ⟨(W.ch.trans a2 fun z hz f => by omega).trans b2 fun z hz f => by omega, ?_, lbg, ?_, ?_⟩⟩
  · rw [List.map_set, List.map_set]; exact b4
  · intro p hp
    obtain ⟨t, ht, et⟩ := List.mem_iff_getElem.1 hp
    rw [L] at ht
    rw [G t ht] at et
    have : p ∈ ps := by
      rw [← et]
      split
      · exact List.getElem_mem hi
      · split
        · exact List.getElem_mem hj
        · exact List.getElem_mem ht
    obtain ⟨b, n, c', e, I, x1, x2, x3⟩ := W.rows p this
    exact ⟨b, n, c', e, (I.keep (a2.keep b (I.lt W.ch.wf) x2)).keep (b2.keep b (by have := I.lt W.ch.wf; omega) x2), x1, x2, x3⟩
  · intro s t hs ht hst b hb f
    rw [L] at hs ht
    rw [G s hs] at hb
    rw [G t ht] at f
    have key : ∀ (u v : Nat) (hu : u < ps.length) (hv : v < ps.length), u ≠ v → SlB ps[u].1 b → SlB ps[v].1 b → False := fun u v hu hv huv x y => W.dist u v hu hv huv b x y
    by_cases s1 : s = j
    · rw [if_pos s1] at hb
      by_cases t1 : t = j
      · omega
      · rw [if_neg t1] at f
        by_cases t2 : t = i
        · rw [if_pos t2] at f
          exact key i j hi hj (by omega) hb f
        · rw [if_neg t2] at f
          exact key i t hi ht (by omega) hb f
    · rw [if_neg s1] at hb
      by_cases s2 : s = i
      · rw [if_pos s2] at hb
        by_cases t1 : t = j
        · rw [if_pos t1] at f
          exact key j i hj hi (by omega) hb f
        · rw [if_neg t1] at f
          by_cases t2 : t = i
          · omega
          · rw [if_neg t2] at f
            exact key j t hj ht (by omega) hb f
      · rw [if_neg s2] at hb
        by_cases t1 : t = j
        · rw [if_pos t1] at f
          exact key s i hs hi (by omega) hb f
        · rw [if_neg t1] at f
          by_cases t2 : t = i
          · rw [if_pos t2] at f
            exact key s j hs hj (by omega) hb f
          · rw [if_neg t2] at f
            exact key s t hs ht hst hb f
structure AtB (h : H) (ab lb at_ : Nat) (ps : Parts) : Prop where
  box : Is h ab 3 1 [.int .i64 (Int.ofNat at_)]
  ne : ab ≠ lb
  no : ∀ p ∈ ps, ¬ SlB p.1 ab
theorem AtB.n {h : H} {ab lb at_ : Nat} {ps : Parts} (B : AtB h ab lb at_ ps) : asI .i64 (ldc h (some ⟨ab, 0, none⟩)) = some (Int.ofNat at_) := by
  rw [B.box.ldc]; exact asI_int _ _
theorem AtB.keep {h h' : H} {ab lb at_ : Nat} {ps ps' : Parts} (w : WF h) (B : AtB h ab lb at_ ps) {F : Nat → Prop} (c : Ch F h h') (hF : ¬ F ab) (hp : ∀ p ∈ ps', ∃ q ∈ ps, p.1 = q.1) : AtB h' ab lb at_ ps' :=
  ⟨B.box.keep (c.keep ab (B.box.lt w) hF), B.ne, fun p hp' f => by obtain ⟨q, hq, e⟩ := hp p hp'; rw [e] at f; exact B.no q hq f⟩
theorem set_fst {ps : Parts} {i : Nat} (hi : i < ps.length) (x : List UInt8) : ∀ p ∈ ps.set i (ps[i].1, x), ∃ q ∈ ps, p.1 = q.1 := by
  intro p hp
  rcases List.mem_or_eq_of_mem_set hp with h | h
  · exact ⟨p, h, rfl⟩
  · exact ⟨ps[i], List.getElem_mem hi, by rw [h]⟩
theorem ixs_row {g0 h : H} {lb c : Nat} {ps : Parts} (W : MxW g0 h lb c ps) {i : Nat} (hi : i < ps.length) {j : Nat} (hj : j < ps[i].2.length) : ∃ b, ixs 1 ps[i].1.a ps[i].1.n (Int.ofNat j) = some (.pointer (some ⟨b, j, none⟩)) ∧ ldc h (some ⟨b, j, none⟩) = some (.int .u8 (Int.ofNat ps[i].2[j].toNat)) := by
  obtain ⟨b, n, c', e, I, x1, x2, hn, hc⟩ := W.rows _ (List.getElem_mem hi)
  refine ⟨b, ?_, cell_get I hj⟩
  rw [e]
  show ixs 1 (some ⟨b, 0, none⟩) n (Int.ofNat j) = _
  rw [ixs_ptr (by omega), Nat.zero_add]
theorem nz_eq (x : UInt8) : (Int.ofNat x.toNat != (0 : Int)) = !decide (x = 0) := by
  show (!(Int.ofNat x.toNat == (0 : Int))) = _
  rw [z_eq]
theorem cidx_l0 (k : Nat) {h : H} {ab at_ : Nat} (I : Is h ab 3 1 [.int .i64 (Int.ofNat at_)]) {s2 : Sl} {qs : Parts} (X : MxR h s2 qs) (hc : ∀ q ∈ qs, at_ < q.2.length) (hl : qs.length ≤ 1000) : ∀ n j, qs.length - j < n → j ≤ qs.length →
    ∃ v, slices_IndexFunc_byte_byte_matrix_clear_1.l0 k n s2 (some ⟨ab, 0, none⟩) (Int.ofNat qs.length) (Int.ofNat j) h = some (v, h) ∧ ((∃ i : Nat, v = .inl (Int.ofNat i) ∧ fnd at_ ((mxv qs).drop j) j = some i) ∨ (v = .inr () ∧ fnd at_ ((mxv qs).drop j) j = none))
  | 0, j, hn, _ => by omega
  | n + 1, j, hn, hj => by
    rw [slices_IndexFunc_byte_byte_matrix_clear_1.l0_succ]
    have ql : (mxv qs).length = qs.length := List.length_map _
    by_cases c : j < qs.length
    · rw [decLt c, cond_true]
      obtain ⟨p, e1, e2⟩ := X.at c
      rw [e1]
      simp only [asP_ptr, Option.bind_some]
      rw [e2]
      simp only [Option.bind_some]
      unfold matrix_clear_1.f
      rw [I.ldc, show asI .i64 (([.int .i64 (Int.ofNat at_)] : List Value)[0]?) = some (Int.ofNat at_) from asI_int _ _]
      simp only [Option.bind_some]
      have ha := hc _ (List.getElem_mem c)
      obtain ⟨p2, f1, f2⟩ := (X.row c).byte (List.getElem?_eq_getElem ha)
      rw [f1]
      simp only [asP_ptr, Option.bind_some, f2, asI_int]
      rw [nz_eq]
      have hd' : (mxv qs).drop j = qs[j].2 :: (mxv qs).drop (j + 1) := by
        rw [List.drop_eq_getElem_cons (by rw [ql]; exact c)]
        simp only [mxv, List.getElem_map]
      have gd : qs[j].2.getD at_ 0 = qs[j].2[at_] := by rw [List.getD_eq_getElem?_getD, List.getElem?_eq_getElem ha]; rfl
      rw [hd']
      unfold fnd
      rw [gd]
      by_cases z : qs[j].2[at_] = 0
      · rw [decide_eq_true z, Bool.not_true, cond_false, if_pos z, wrap_succ (by omega)]
        exact cidx_l0 k I X hc hl n (j + 1) (by omega) (by omega)
      · rw [decide_eq_false z, Bool.not_false, cond_true, if_neg z]
        exact ⟨_, rfl, .inl ⟨j, rfl, rfl⟩⟩
    · rw [decNlt c, cond_false]
      exact ⟨_, rfl, .inr ⟨rfl, by rw [List.drop_eq_nil_of_le (by rw [ql]; omega)]; rfl⟩⟩
theorem scaleP_get {c : UInt8} {r : List UInt8} {i : Nat} (h : i < r.length) : (scaleP c r)[i]? = some (mulB r[i] c) := by
  unfold scaleP
  rw [List.getElem?_map, List.getElem?_eq_getElem h]; rfl
theorem scaleP_len (c : UInt8) (r : List UInt8) : (scaleP c r).length = r.length := List.length_map _
theorem scale_l0 (k : Nat) {g0 : H} (wg : WF g0) {fb lb c ab at_ : Nat} (F : FldR g0 fb) (ps : Parts) (ha : at_ < ps.length) (v : UInt8) (m : Nat) (hm : ps[at_].2.length = m) (hm2 : m ≤ 1000) (nn_ : Nat) (hnn : ps.length = nn_) : ∀ n i h cur, m - i < n → i ≤ m → MxW g0 h lb c (ps.set at_ (ps[at_].1, cur)) → AtB h ab lb at_ ps → cur.length = m → (∀ j, cur[j]? = if j < i then (scaleP v ps[at_].2)[j]? else ps[at_].2[j]?) →
    ∃ h', matrix_clear.l0 k n (some ⟨fb, 0, none⟩) ⟨some ⟨lb, 0, none⟩, nn_, c⟩ (some ⟨ab, 0, none⟩) (Int.ofNat v.toNat) (Int.ofNat m) (Int.ofNat i) h = some ((), h') ∧ MxW g0 h' lb c (ps.set at_ (ps[at_].1, scaleP v ps[at_].2)) ∧ AtB h' ab lb at_ ps
  | 0, i, h, cur, hn, _, _, _, _, _ => by omega
  | n + 1, i, h, cur, hn, hi, W, B, hl, hg => by
    rw [matrix_clear.l0_succ]
    by_cases ci : i < m
    · rw [decLt ci, cond_true]
      have L : at_ < (ps.set at_ (ps[at_].1, cur)).length := by rw [List.length_set]; exact ha
      have G : (ps.set at_ (ps[at_].1, cur))[at_] = (ps[at_].1, cur) := List.getElem_set_self _
      rw [B.n]
      simp only [Option.bind_some]
      rw [ixs_ptr (show at_ < nn_ by omega)]
      simp only [asP_ptr, Option.bind_some, Nat.zero_add]
      have WA := W.at L
      rw [G] at WA
      rw [WA]
      simp only [Option.bind_some]
      obtain ⟨b, e1, e2⟩ := ixs_row W L (j := i) (by rw [G]; show i < cur.length; omega)
      have e1' : ixs 1 ps[at_].1.a ps[at_].1.n (Int.ofNat i) = some (.pointer (some ⟨b, i, none⟩)) := by rw [G] at e1; exact e1
      have e2' : ldc h (some ⟨b, i, none⟩) = some (.int .u8 (Int.ofNat (cur[i]'(by omega)).toNat)) := by rw [e2]; congr 3; simp only [G]
      rw [e1']
      simp only [asP_ptr, Option.bind_some, e2', asI_int]
      rw [mul_f k (F.stay wg W.ch)]
      simp only [Option.bind_some]
      obtain ⟨b2, h1, f1, f2, f3, f4, f5, f6⟩ := W.set L (j := i) (by rw [G]; show i < cur.length; omega) (mulB (cur[i]'(by omega)) v)
      have f1' : ixs 1 ps[at_].1.a ps[at_].1.n (Int.ofNat i) = some (.pointer (some ⟨b2, i, none⟩)) := by rw [G] at f1; exact f1
      rw [e1'] at f1'
      have bb : b = b2 := by cases f1'; rfl
      subst bb
      rw [f2]
      simp only [Option.bind_some, same1_refl, Bool.and_self, cond_true]
      rw [wrap_succ (by omega)]
      have e6 : (ps.set at_ (ps[at_].1, cur)).set at_ ((ps.set at_ (ps[at_].1, cur))[at_].1, (ps.set at_ (ps[at_].1, cur))[at_].2.set i (mulB (cur[i]'(by omega)) v)) = ps.set at_ (ps[at_].1, cur.set i (mulB (cur[i]'(by omega)) v)) := by
        rw [List.set_set]; simp only [G]
      rw [e6] at f6
      have nb : ¬ ab = b := fun f => by
        rw [G] at f5
        subst f
        exact B.no _ (List.getElem_mem ha) f5
      have ce : cur[i]'(by omega) = ps[at_].2[i]'(by omega) := by
        have := hg i
        rw [if_neg (by omega), List.getElem?_eq_getElem (by omega), List.getElem?_eq_getElem (by omega)] at this
        exact Option.some.inj this
      refine scale_l0 k wg F ps ha v m hm hm2 nn_ hnn n (i + 1) h1 _ (by omega) (by omega) f6 (B.keep W.ch.wf f3 nb fun p hp => ⟨p, hp, rfl⟩) (by rw [List.length_set]; exact hl) ?_
      intro j
      rw [List.getElem?_set]
      by_cases e : i = j
      · subst e
        rw [if_pos rfl, if_pos (by omega), if_pos (by omega), scaleP_get (by omega), ce]
      · rw [if_neg e, hg j]
        by_cases q : j < i
        · rw [if_pos q, if_pos (by omega)]
        · rw [if_neg q, if_neg (by omega)]
    · rw [decNlt ci, cond_false]
      have : cur = scaleP v ps[at_].2 := by
        apply List.ext_getElem?
        intro j
        rw [hg j]
        by_cases q : j < i
        · rw [if_pos q]
        · rw [if_neg q, List.getElem?_eq_none (by omega), List.getElem?_eq_none (by rw [scaleP_len]; omega)]
      rw [← this]
      exact ⟨h, rfl, W, B⟩
theorem elim_l2 (k : Nat) {g0 : H} (wg : WF g0) {fb lb c ab at_ : Nat} (F : FldR g0 fb) (ps : Parts) (ha : at_ < ps.length) {kk : Nat} (hk : kk < ps.length) (hne : kk ≠ at_) (v : UInt8) (m : Nat) (hm : ps[at_].2.length = m) (hm' : ps[kk].2.length = m) (hm2 : m ≤ 1000) (nn_ : Nat) (hnn : ps.length = nn_) (x64 : Sl) (x65 x66 : Int) : ∀ n i h cur, m - i < n → i ≤ m → MxW g0 h lb c (ps.set kk (ps[kk].1, cur)) → AtB h ab lb at_ ps → cur.length = m → (∀ j, cur[j]? = if j < i then (addRow v ps[kk].2 ps[at_].2)[j]? else ps[kk].2[j]?) →
    ∃ h', matrix_clear.l2 k n (some ⟨fb, 0, none⟩) ⟨some ⟨lb, 0, none⟩, nn_, c⟩ (some ⟨ab, 0, none⟩) ps[kk].1 (Int.ofNat v.toNat) x64 x65 x66 (Int.ofNat m) (Int.ofNat i) h = some ((), h') ∧ MxW g0 h' lb c (ps.set kk (ps[kk].1, addRow v ps[kk].2 ps[at_].2)) ∧ AtB h' ab lb at_ ps
  | 0, i, h, cur, hn, _, _, _, _, _ => by omega
  | n + 1, i, h, cur, hn, hi, W, B, hl, hg => by
    rw [matrix_clear.l2_succ]
    by_cases ci : i < m
    · rw [decLt ci, cond_true]
      have L : kk < (ps.set kk (ps[kk].1, cur)).length := by rw [List.length_set]; exact hk
      have LA : at_ < (ps.set kk (ps[kk].1, cur)).length := by rw [List.length_set]; exact ha
      have G : (ps.set kk (ps[kk].1, cur))[kk] = (ps[kk].1, cur) := List.getElem_set_self _
      have GA : (ps.set kk (ps[kk].1, cur))[at_] = ps[at_] := List.getElem_set_ne hne _
      obtain ⟨b, e1, e2⟩ := ixs_row W L (j := i) (by rw [G]; show i < cur.length; omega)
      have e1' : ixs 1 ps[kk].1.a ps[kk].1.n (Int.ofNat i) = some (.pointer (some ⟨b, i, none⟩)) := by rw [G] at e1; exact e1
      have e2' : ldc h (some ⟨b, i, none⟩) = some (.int .u8 (Int.ofNat (cur[i]'(by omega)).toNat)) := by rw [e2]; congr 3; simp only [G]
      rw [e1']
      simp only [asP_ptr, Option.bind_some, e2', asI_int]
      rw [B.n]
      simp only [Option.bind_some]
      rw [ixs_ptr (show at_ < nn_ by omega)]
      simp only [asP_ptr, Option.bind_some, Nat.zero_add]
      have WA := W.at LA
      rw [GA] at WA
      rw [WA]
      simp only [Option.bind_some]
      obtain ⟨ba, u1, u2⟩ := ixs_row W LA (j := i) (by rw [GA]; omega)
      have u1' : ixs 1 ps[at_].1.a ps[at_].1.n (Int.ofNat i) = some (.pointer (some ⟨ba, i, none⟩)) := by rw [GA] at u1; exact u1
      have u2' : ldc h (some ⟨ba, i, none⟩) = some (.int .u8 (Int.ofNat (ps[at_].2[i]'(by omega)).toNat)) := by rw [u2]; congr 3; simp only [GA]
      rw [u1']
      simp only [asP_ptr, Option.bind_some, u2', asI_int]
      rw [mul_f k (F.stay wg W.ch)]
      simp only [Option.bind_some]
      rw [add_f]
      simp only [Option.bind_some]
      obtain ⟨b2, h1, f1, f2, f3, f4, f5, f6⟩ := W.set L (j := i) (by rw [G]; show i < cur.length; omega) ((cur[i]'(by omega)) ^^^ mulB v (ps[at_].2[i]'(by omega)))
      have f1' : ixs 1 ps[kk].1.a ps[kk].1.n (Int.ofNat i) = some (.pointer (some ⟨b2, i, none⟩)) := by rw [G] at f1; exact f1
      rw [e1'] at f1'
      have bb : b = b2 := by cases f1'; rfl
      subst bb
      rw [f2]
      simp only [Option.bind_some, same1_refl, Bool.and_self, cond_true]
      rw [wrap_succ (by omega)]
      have e6 : (ps.set kk (ps[kk].1, cur)).set kk ((ps.set kk (ps[kk].1, cur))[kk].1, (ps.set kk (ps[kk].1, cur))[kk].2.set i ((cur[i]'(by omega)) ^^^ mulB v (ps[at_].2[i]'(by omega)))) = ps.set kk (ps[kk].1, cur.set i ((cur[i]'(by omega)) ^^^ mulB v (ps[at_].2[i]'(by omega)))) := by
        rw [List.set_set]; simp only [G]
      rw [e6] at f6
      have nb : ¬ ab = b := fun f => by
        rw [G] at f5
        subst f
        exact B.no _ (List.getElem_mem hk) f5
      have ce : cur[i]'(by omega) = ps[kk].2[i]'(by omega) := by
        have := hg i
        rw [if_neg (by omega), List.getElem?_eq_getElem (by omega), List.getElem?_eq_getElem (by omega)] at this
        exact Option.some.inj this
      refine elim_l2 k wg F ps ha hk hne v m hm hm' hm2 nn_ hnn x64 x65 x66 n (i + 1) h1 _ (by omega) (by omega) f6 (B.keep W.ch.wf f3 nb fun p hp => ⟨p, hp, rfl⟩) (by rw [List.length_set]; exact hl) ?_
      intro j
      rw [List.getElem?_set]
      by_cases e : i = j
      · subst e
        rw [if_pos rfl, if_pos (by omega), if_pos (by omega), addRow_get (by omega) (by omega), ce]
      · rw [if_neg e, hg j]
        by_cases q : j < i
        · rw [if_pos q, if_pos (by omega)]
        · rw [if_neg q, if_neg (by omega)]
    · rw [decNlt ci, cond_false]
      have : cur = addRow v ps[kk].2 ps[at_].2 := by
        apply List.ext_getElem?
        intro j
        rw [hg j]
        by_cases q : j < i
        · rw [if_pos q]
        · rw [if_neg q, List.getElem?_eq_none (by omega), List.getElem?_eq_none (by rw [addRow_len (by omega)]; omega)]
      rw [← this]
      exact ⟨h, rfl, W, B⟩
theorem elim_l1 (k : Nat) {g0 : H} (hkk : 1000 < k) (wg : WF g0) {fb lb c ab at_ : Nat} (F : FldR g0 fb) (m : Nat) (hm2 : m ≤ 1000) (ham : at_ < m) (nn_ : Nat) (ha : at_ < nn_) (hn2 : nn_ ≤ 1000) (M : Mx) (piv : List UInt8) (hM : M.length = nn_) : ∀ n kk h (ps : Parts), nn_ - kk < n → kk ≤ nn_ → MxW g0 h lb c ps → AtB h ab lb at_ ps → ps.length = nn_ → (∀ p ∈ ps, p.2.length = m) → (∀ (hh : at_ < ps.length), ps[at_].2 = piv) → (∀ t, (mxv ps)[t]? = if t < kk then (elimAll at_ piv 0 M)[t]? else M[t]?) →
    ∃ h' ps', matrix_clear.l1 k n (some ⟨fb, 0, none⟩) ⟨some ⟨lb, 0, none⟩, nn_, c⟩ (some ⟨ab, 0, none⟩) ⟨some ⟨lb, 0, none⟩, nn_, c⟩ (Int.ofNat nn_) (Int.ofNat kk) h = some ((), h') ∧ MxW g0 h' lb c ps' ∧ mxv ps' = elimAll at_ piv 0 M
  | 0, kk, h, ps, hn, _, _, _, _, _, _, _ => by omega
  | n + 1, kk, h, ps, hn, hi, W, B, hl, hr, hp, hg => by
    rw [matrix_clear.l1_succ]
    have pl : (mxv ps).length = ps.length := List.length_map _
    by_cases ck : kk < nn_
    · rw [decLt ck, cond_true]
      have ip : kk < ps.length := by omega
      have ap : at_ < ps.length := by omega
      rw [ixs_ptr ck]
      simp only [asP_ptr, Option.bind_some, Nat.zero_add]
      rw [W.at ip]
      simp only [Option.bind_some]
      rw [B.n]
      simp only [Option.bind_some]
      have rk := hr _ (List.getElem_mem ip)
      have ra := hr _ (List.getElem_mem ap)
      obtain ⟨b, e1, e2⟩ := ixs_row W ip (j := at_) (by omega)
      rw [e1]
      simp only [asP_ptr, Option.bind_some, e2, asI_int]
      have mk : M[kk]? = some ps[kk].2 := by
        have := hg kk
        rw [if_neg (by omega)] at this
        rw [← this]
        unfold mxv
        rw [List.getElem?_map, List.getElem?_eq_getElem ip]; rfl
      have gd : ps[kk].2.getD at_ 0 = ps[kk].2[at_]'(by omega) := by rw [List.getD_eq_getElem?_getD, List.getElem?_eq_getElem (by omega)]; rfl
      have step : ∀ ps' : Parts, ps'.length = nn_ → (∀ t, (mxv ps')[t]? = if t = kk then some (elim at_ piv kk ps[kk].2) else (mxv ps)[t]?) → ∀ t, (mxv ps')[t]? = if t < kk + 1 then (elimAll at_ piv 0 M)[t]? else M[t]? := fun ps' hl' hq t => by
        rw [hq t]
        by_cases q : t = kk
        · subst q
          rw [if_pos rfl, if_pos (by omega), elimAll_get, mk, Nat.zero_add]; rfl
        · rw [if_neg q, hg t]
          by_cases q2 : t < kk
          · rw [if_pos q2, if_pos (by omega)]
          · rw [if_neg q2, if_neg (by omega)]
      have skip : elim at_ piv kk ps[kk].2 = ps[kk].2 → ∃ h' ps', matrix_clear.l1 k n (some ⟨fb, 0, none⟩) ⟨some ⟨lb, 0, none⟩, nn_, c⟩ (some ⟨ab, 0, none⟩) ⟨some ⟨lb, 0, none⟩, nn_, c⟩ (Int.ofNat nn_) (Int.ofNat (kk + 1)) h = some ((), h') ∧ MxW g0 h' lb c ps' ∧ mxv ps' = elimAll at_ piv 0 M := fun e =>
        elim_l1 k hkk wg F m hm2 ham nn_ ha hn2 M piv hM n (kk + 1) h ps (by omega) (by omega) W B hl hr hp (step ps hl fun t => by
          by_cases q : t = kk
          · subst q
            rw [if_pos rfl, e]
            unfold mxv
            rw [List.getElem?_map, List.getElem?_eq_getElem ip]; rfl
          · rw [if_neg q])
      rw [wrap_succ (by omega)]
      by_cases ce : kk = at_
      · rw [show (Int.ofNat kk == Int.ofNat at_) = true by rw [ce]; simp]
        simp only [cond_true, Option.bind_some]
        exact skip (by unfold elim; rw [if_pos (.inl ce)])
      · rw [show (Int.ofNat kk == Int.ofNat at_) = false by rw [beq_eq_false_iff_ne]; exact fun f => ce (Int.ofNat.inj f)]
        simp only [cond_false]
        rw [z_eq]
        by_cases cz : ps[kk].2[at_]'(by omega) = 0
        · rw [decide_eq_true cz]
          simp only [cond_true, Option.bind_some]
          exact skip (by unfold elim; rw [gd, if_pos (.inr cz)])
        · rw [decide_eq_false cz]
          simp only [cond_false, Option.bind_some]
          have sn : ps[kk].1.n = m := by rw [(W.slr (List.getElem_mem ip)).n_byt]; exact rk
          rw [sn]
          have ce' : kk ≠ at_ := ce
          have W0 : MxW g0 h lb c (ps.set kk (ps[kk].1, ps[kk].2)) := by rw [show (ps[kk].1, ps[kk].2) = ps[kk] from rfl, List.set_getElem_self]; exact W
          obtain ⟨h1, f1, f2, f3⟩ := elim_l2 k wg F ps ap ip ce' (ps[kk].2[at_]'(by omega)) m ra rk hm2 nn_ hl ⟨some ⟨lb, 0, none⟩, nn_, c⟩ (Int.ofNat nn_) (Int.ofNat kk) k 0 h ps[kk].2 (by omega) (by omega) W0 B rk (fun j => by rw [if_neg (by omega)])
          rw [show (0 : Int) = Int.ofNat 0 from rfl, f1]
          simp only [Option.bind_some]
          have pe := hp ap
          have ee : addRow (ps[kk].2[at_]'(by omega)) ps[kk].2 ps[at_].2 = elim at_ piv kk ps[kk].2 := by
            unfold elim
            rw [gd, if_neg (by intro f; rcases f with f | f; exact ce f; exact cz f), pe]
          rw [ee] at f2
          refine elim_l1 k hkk wg F m hm2 ham nn_ ha hn2 M piv hM n (kk + 1) h1 _ (by omega) (by omega) f2 (f3.keep (F := fun _ => False) f2.ch.wf (Ch.refl f2.ch.wf) (fun f => f) (set_fst ip _)) (by rw [List.length_set]; exact hl) ?_ ?_ (step _ (by rw [List.length_set]; exact hl) fun t => ?_)
          · intro p hp'
            rcases List.mem_or_eq_of_mem_set hp' with q | q
            · exact hr p q
            · rw [q]
              show (elim at_ piv kk ps[kk].2).length = m
              rw [elim_len _ _ _ _ (by rw [← pe]; omega)]; exact rk
          · intro hh
            rw [List.getElem_set_ne ce']
            exact pe
          · unfold mxv
            rw [List.map_set, List.getElem?_set]
            by_cases q : kk = t
            · subst q
              rw [if_pos rfl, if_pos (by rw [List.length_map]; exact ip), if_pos rfl]
            · rw [if_neg q, if_neg (Ne.symm q)]
    · rw [decNlt ck, cond_false]
      refine ⟨h, ps, rfl, W, ?_⟩
      apply List.ext_getElem?
      intro t
      rw [hg t]
      by_cases q : t < kk
      · rw [if_pos q]
      · rw [if_neg q, List.getElem?_eq_none (by omega), List.getElem?_eq_none (by rw [elimAll_len]; omega)]
theorem MxW.mxr {g0 h : H} {lb c : Nat} {ps : Parts} (W : MxW g0 h lb c ps) (hc : CapOk 1 ⟨some ⟨lb, 0, none⟩, ps.length, c⟩) : MxR h ⟨some ⟨lb, 0, none⟩, ps.length, c⟩ ps := by
  refine ⟨.inr ⟨lb, 0, rfl, by rw [List.length_map]; exact (Nat.mul_one _).symm, ?_, hc⟩, fun p hp => W.slr hp⟩
  have := W.box.gets (o := 0) (n := ps.length * 1) (by rw [List.length_map]; omega)
  show h.gets lb 0 (ps.length * 1) = _
  rw [this, List.drop_zero, List.take_of_length_le (by rw [List.length_map]; omega)]
theorem mxv_len (ps : Parts) : (mxv ps).length = ps.length := List.length_map _
theorem mxv_getD {ps : Parts} {i : Nat} (hi : i < ps.length) : (mxv ps).getD i [] = ps[i].2 := by
  unfold mxv
  rw [List.getD_eq_getElem?_getD, List.getElem?_map, List.getElem?_eq_getElem hi]; rfl
theorem bytD {x : List UInt8} {i : Nat} (hi : i < x.length) : x.getD i 0 = x[i] := by rw [List.getD_eq_getElem?_getD, List.getElem?_eq_getElem hi]; rfl
set_option maxHeartbeats 1000000 in
theorem clear_f (k : Nat) (hk : 1000 < k) {g0 h : H} (wg : WF g0) {fb lb c : Nat} (F : FldR g0 fb) {ps : Parts} (W : MxW g0 h lb c ps) (hc : CapOk 1 ⟨some ⟨lb, 0, none⟩, ps.length, c⟩) {at_ : Nat} (ha : at_ < ps.length) (m : Nat) (hm : ∀ p ∈ ps, p.2.length = m) (ham : at_ < m) (hm2 : m ≤ 1000) (hn2 : ps.length ≤ 1000) :
    ∃ b h', matrix_clear.f k (some ⟨fb, 0, none⟩) ⟨some ⟨lb, 0, none⟩, ps.length, c⟩ (Int.ofNat at_) h = some (b, h') ∧ Ch0 g0 h' ∧ ((b = false ∧ clearP at_ (mxv ps) = none) ∨ ∃ ps', b = true ∧ clearP at_ (mxv ps) = some (mxv ps') ∧ MxW g0 h' lb c ps' ∧ ps'.length = ps.length ∧ ∀ p ∈ ps', p.2.length = m) := by
  unfold matrix_clear.f
  obtain ⟨z1, z2, z3⟩ := newR_ok W.ch.wf 3 1 [Value.int .i64 (Int.ofNat at_)]
  generalize newR h 3 1 [Value.int .i64 (Int.ofNat at_)] = g at z1 z2 z3 ⊢
  have W1 := W.more z1
  have R1 := W1.mxr hc
  have A : ∀ {h' : H}, Is h' h.next 3 1 [Value.int .i64 (Int.ofNat at_)] → asI .i64 (ldc h' (some ⟨h.next, 0, none⟩)) = some (Int.ofNat at_) := fun {h'} I => by rw [I.ldc]; exact asI_int _ _
  rw [A z3]
  simp only [Option.bind_some]
  obtain ⟨s2, e1, e2, e3⟩ := R1.sub (lo := at_) (hi := ps.length) (by omega) (Nat.le_refl _) (xlo := some (Int.ofNat at_)) (xhi := none) rfl rfl
  rw [e1]
  simp only [Option.bind_some]
  rw [List.take_of_length_le (by rw [List.length_drop]; exact Nat.le_refl _)] at e2
  unfold slices_IndexFunc_byte_byte_matrix_clear_1.f
  have dl : (ps.drop at_).length = ps.length - at_ := List.length_drop
  obtain ⟨v, f1, f2⟩ := cidx_l0 k z3 e2 (fun q hq => by rw [hm q (List.mem_of_mem_drop hq)]; exact ham) (by omega) k 0 (by omega) (Nat.zero_le _)
  rw [e2.n, show (0 : Int) = Int.ofNat 0 from rfl, f1]
  have dm : mxv (ps.drop at_) = (mxv ps).drop at_ := by unfold mxv; rw [List.map_drop]
  rw [List.drop_zero, dm] at f2
  rcases f2 with ⟨f, rfl, f3⟩ | ⟨rfl, f3⟩
  rotate_left
  · refine ⟨false, g, rfl, W1.ch, .inl ⟨rfl, ?_⟩⟩
    unfold clearP
    rw [f3]; rfl
  simp only [Option.bind_some]
  rw [decide_eq_false (show ¬ Int.ofNat f < Int.ofNat 0 by simp only [Int.ofNat_eq_natCast]; omega)]
  simp only [cond_false]
  obtain ⟨_, f4, f5⟩ := fnd_some f3
  rw [Nat.sub_zero, List.length_drop, mxv_len] at f4
  rw [Nat.sub_zero] at f5
  have hf : at_ + f < ps.length := by omega
  have f5' : (ps[at_ + f].2[at_]'(by rw [hm _ (List.getElem_mem hf)]; exact ham)) ≠ 0 := by
    have e : ((mxv ps).drop at_).getD f [] = ps[at_ + f].2 := by
      rw [List.getD_eq_getElem?_getD, List.getElem?_drop, ← List.getD_eq_getElem?_getD, mxv_getD hf]
    rw [e, bytD (by rw [hm _ (List.getElem_mem hf)]; exact ham)] at f5
    exact f5
  rw [A z3]
  simp only [Option.bind_some]
  rw [wrap_in (n := Int.ofNat at_ + Int.ofNat f) (by simp only [Int.ofNat_eq_natCast]; omega) (by simp only [Int.ofNat_eq_natCast]; omega), show Int.ofNat at_ + Int.ofNat f = Int.ofNat (at_ + f) from rfl]
  rw [ixs_ptr hf, ixs_ptr ha]
  simp only [asP_ptr, Option.bind_some, Nat.zero_add]
  rw [W1.at hf]
  simp only [Option.bind_some]
  rw [W1.at ha]
  simp only [Option.bind_some]
  obtain ⟨h1, h2, a1, a2, a3, a4, W2⟩ := W1.swap ha hf
  rw [show [Value.slice ps[at_ + f].1.a ps[at_ + f].1.n ps[at_ + f].1.c] = [slv ps[at_ + f].1] from rfl, a1]
  simp only [Option.bind_some]
  rw [show [Value.slice ps[at_].1.a ps[at_].1.n ps[at_].1.c] = [slv ps[at_].1] from rfl, a2]
  simp only [Option.bind_some]
  have lbl : lb < h.next := W.box.lt W.ch.wf
  have Z1 := z3.keep (a3.keep h.next (by omega) (by omega))
  have Z2 := Z1.keep (a4.keep h.next (by have := a3.le; omega) (by omega))
  have S1 : ∀ o, same1 g h1 (some (.pointer (some ⟨h.next, o, none⟩))) = true := fun o => same1_of (a3.keep h.next (by omega) (by omega))
  have S2 : ∀ o, same1 g h2 (some (.pointer (some ⟨h.next, o, none⟩))) = true := fun o => same1_of ((a4.keep h.next (by have := a3.le; omega) (by omega)).trans (a3.keep h.next (by omega) (by omega)))
  simp only [S1, S2, Bool.and_self, cond_true]
  generalize hq : ((ps.set at_ ps[at_ + f]).set (at_ + f) ps[at_]) = qs at W2
  have ql : qs.length = ps.length := by rw [← hq, List.length_set, List.length_set]
  have qa : ∃ hh : at_ < qs.length, qs[at_] = ps[at_ + f] := by
    refine ⟨by omega, ?_⟩
    subst hq
    rw [List.getElem_set]
    by_cases q : at_ + f = at_
    · rw [if_pos q]
      have : f = 0 := by omega
      subst this; rfl
    · rw [if_neg q, List.getElem_set_self]
  obtain ⟨hqa, qa⟩ := qa
  have qr : ∀ p ∈ qs, p.2.length = m := fun p hp => by
    subst hq
    rcases List.mem_or_eq_of_mem_set hp with q | q
    · rcases List.mem_or_eq_of_mem_set q with q | q
      · exact hm p q
      · rw [q]; exact hm _ (List.getElem_mem hf)
    · rw [q]; exact hm _ (List.getElem_mem ha)
  have qm : mxv qs = swapP (mxv ps) at_ (at_ + f) := by
    subst hq
    unfold swapP
    rw [mxv_getD ha, mxv_getD hf]
    unfold mxv
    rw [List.map_set, List.map_set]
  have ra : qs[at_].2.length = m := qr _ (List.getElem_mem hqa)
  rw [A Z2]
  simp only [Option.bind_some]
  rw [ixs_ptr ha]
  simp only [asP_ptr, Option.bind_some, Nat.zero_add]
  rw [W2.at hqa]
  simp only [Option.bind_some]
  obtain ⟨b, g1, g2⟩ := ixs_row W2 hqa (j := at_) (by omega)
  rw [g1]
  simp only [asP_ptr, Option.bind_some, g2, asI_int]
  have pv : qs[at_].2[at_]'(by omega) ≠ 0 := by simp only [qa]; exact f5'
  rw [inv_f k (F.stay wg W2.ch) _ pv]
  simp only [Option.bind_some]
  rw [A Z2]
  simp only [Option.bind_some]
  rw [ixs_ptr ha]
  simp only [asP_ptr, Option.bind_some, Nat.zero_add]
  rw [W2.at hqa]
  simp only [Option.bind_some]
  rw [show qs[at_].1.n = m by rw [(W2.slr (List.getElem_mem hqa)).n_byt]; exact ra]
  have B2 : AtB h2 h.next lb at_ qs := ⟨Z2, by omega, fun p hp hb => by
    obtain ⟨b, n, c', e, I, x1, x2, x3⟩ := W2.rows p hp
    rw [e] at hb
    obtain ⟨o, eo⟩ := hb
    have e2 : b = h.next := congrArg Addr.block (Option.some.inj eo)
    subst hq
    have pm : p ∈ ps := by
      rcases List.mem_or_eq_of_mem_set hp with q | q
      · rcases List.mem_or_eq_of_mem_set q with q | q
        · exact q
        · rw [q]; exact List.getElem_mem hf
      · rw [q]; exact List.getElem_mem ha
    obtain ⟨b', n', c'', e', I', _⟩ := W.rows p pm
    rw [e] at e'
    have e3 : b = b' := by cases e'; rfl
    have := I'.lt W.ch.wf
    omega⟩
  have W0 : MxW g0 h2 lb c (qs.set at_ (qs[at_].1, qs[at_].2)) := by rw [show (qs[at_].1, qs[at_].2) = qs[at_] from rfl, List.set_getElem_self]; exact W2
  obtain ⟨h3, u1, W3, B3⟩ := scale_l0 k wg F qs hqa (invB (qs[at_].2[at_]'(by omega))) m ra hm2 ps.length ql k 0 h2 qs[at_].2 (by omega) (by omega) W0 B2 ra (fun j => by rw [if_neg (by omega)])
  rw [u1]
  simp only [Option.bind_some]
  generalize hp : scaleP (invB (qs[at_].2[at_]'(by omega))) qs[at_].2 = piv at W3
  have pl : piv.length = m := by rw [← hp, scaleP_len]; exact ra
  have B3' : AtB h3 h.next lb at_ (qs.set at_ (qs[at_].1, piv)) := B3.keep (F := fun _ => False) W3.ch.wf (Ch.refl W3.ch.wf) (fun f => f) (set_fst hqa _)
  obtain ⟨h4, ps', v1, v2, v3⟩ := elim_l1 k hk wg F m hm2 ham ps.length ha hn2 (mxv (qs.set at_ (qs[at_].1, piv))) piv (by rw [mxv_len, List.length_set]; exact ql) k 0 h3 _ (by omega) (by omega) W3 B3' (by rw [List.length_set]; exact ql) (fun p hp' => by
    rcases List.mem_or_eq_of_mem_set hp' with q | q
    · exact qr p q
    · rw [q]; exact pl) (fun hh => by rw [List.getElem_set_self]) (fun t => by rw [if_neg (by omega)])
  rw [v1]
  simp only [Option.bind_some]
  refine ⟨true, h4, rfl, v2.ch, .inr ⟨ps', rfl, ?_, v2, ?_, ?_⟩⟩
  · unfold clearP
    rw [f3, v3]
    show some (clearM at_ f (mxv ps)) = _
    unfold clearM
    dsimp only
    rw [← qm, mxv_getD hqa, bytD (by omega), hp]
    congr 2
    unfold mxv
    rw [List.map_set]
  · have := congrArg List.length v3
    rw [elimAll_len, mxv_len, mxv_len, List.length_set] at this
    omega
  · intro p hp'
    obtain ⟨t, ht, et⟩ := List.mem_iff_getElem.1 hp'
    have h1 : (mxv ps')[t]? = some p.2 := by
      unfold mxv
      rw [List.getElem?_map, List.getElem?_eq_getElem ht, et]; rfl
    rw [v3, elimAll_get] at h1
    obtain ⟨r, hr1, hr2⟩ := Option.map_eq_some_iff.1 h1
    have : r.length = m := by
      unfold mxv at hr1
      rw [List.getElem?_map] at hr1
      obtain ⟨q, hq1, hq2⟩ := Option.map_eq_some_iff.1 hr1
      rcases List.mem_or_eq_of_mem_set (List.mem_of_getElem? hq1) with q' | q'
      · rw [← hq2]; exact qr _ q'
      · rw [← hq2, q']; exact pl
    rw [← hr2, elim_len _ _ _ _ (by rw [this, pl])]
    exact this
structure MxP (g0 h : H) (ps : Parts) : Prop where
  rows : ∀ p ∈ ps, ∃ b n c, p.1 = ⟨some ⟨b, 0, none⟩, n, c⟩ ∧ Is h b 5 1 (byt p.2) ∧ g0.next ≤ b ∧ n = p.2.length ∧ CapOk 1 p.1
  dist : ∀ i j (hi : i < ps.length) (hj : j < ps.length), i ≠ j → ∀ b, SlB ps[i].1 b → ¬ SlB ps[j].1 b
theorem MxP.nil {g0 h : H} : MxP g0 h [] := ⟨(fun p hp => by cases hp), (fun i j hi => absurd hi (Nat.not_lt_zero _))⟩
theorem MxP.keep {g0 h h' : H} {ps : Parts} (w : WF h) (P : MxP g0 h ps) {F : Nat → Prop} (c : Ch F h h') (hF : ∀ p ∈ ps, ∀ b, SlB p.1 b → ¬ F b) : MxP g0 h' ps :=
  ⟨fun p hp => by obtain ⟨b, n, c', e, I, x⟩ := P.rows p hp; exact ⟨b, n, c', e, I.keep (c.keep b (I.lt w) (hF p hp b (by rw [e]; exact ⟨0, rfl⟩))), x⟩, P.dist⟩
theorem MxP.push {g0 h : H} {ps : Parts} (w : WF h) (P : MxP g0 h ps) {s : Sl} {x : List UInt8} (O : Ow 5 1 h s (byt x)) (hx : 0 < x.length) (hs : ∀ b, SlB s b → g0.next ≤ b) (hd' : ∀ p ∈ ps, ∀ b, SlB p.1 b → ¬ SlB s b) : MxP g0 h (ps ++ [(s, x)]) := by
  refine ⟨fun p hp => ?_, fun i j hi hj hij b hb f => ?_⟩
  · rcases List.mem_append.1 hp with hp | hp
    · exact P.rows p hp
    · obtain rfl := List.mem_singleton.1 hp
      rcases O with ⟨e, _⟩ | ⟨b, n, c, e, hl, I, hc⟩
      · have := congrArg List.length e
        rw [byt_len] at this
        have : x.length = 0 := this
        omega
      · rw [byt_len, Nat.mul_one] at hl
        refine ⟨b, n, c, e, I, hs b (by rw [e]; exact ⟨0, rfl⟩), hl.symm, ?_⟩
        show CapOk 1 s
        rw [e]
        rcases hc with ⟨q, q2⟩ | q
        · exact .inl ⟨by show n ≤ c; omega, by show c < unk; omega⟩
        · exact .inr q
  · rw [List.length_append, List.length_singleton] at hi hj
    by_cases ci : i < ps.length
    · rw [List.getElem_append_left ci] at hb
      by_cases cj : j < ps.length
      · rw [List.getElem_append_left cj] at f
        exact P.dist i j ci cj hij b hb f
      · rw [List.getElem_append_right (by omega)] at f
        have e : j - ps.length = 0 := by omega
        simp only [e, List.getElem_cons_zero] at f
        exact hd' _ (List.getElem_mem ci) b hb f
    · rw [List.getElem_append_right (by omega)] at hb
      have e : i - ps.length = 0 := by omega
      simp only [e, List.getElem_cons_zero] at hb
      by_cases cj : j < ps.length
      · rw [List.getElem_append_left cj] at f
        exact hd' _ (List.getElem_mem cj) b f hb
      · omega
theorem both_l0 (k : Nat) (hk : 1000 < k) {h0 : H} (w0 : WF h0) {sa si : Sl} {ps is : Parts} (A : MxR h0 sa ps) (I : MxR h0 si is) (hl : ps.length = is.length) (hl2 : ps.length ≤ 64) (hp : ∀ p ∈ ps, p.2.length ≤ 64 ∧ 0 < p.2.length) (hi2 : ∀ p ∈ is, p.2.length ≤ 64) : ∀ n i h out os, is.length - i < n → i ≤ is.length → MxO h0 h out os → MxP h0 h os → mxv os = (List.zipWith (fun a b => a ++ b) (mxv ps) (mxv is)).take i →
    ∃ out' os' h', matrix_both.l0 k n sa si (Int.ofNat is.length) out (Int.ofNat i) h = some (out', h') ∧ MxO h0 h' out' os' ∧ MxP h0 h' os' ∧ mxv os' = List.zipWith (fun a b => a ++ b) (mxv ps) (mxv is)
  | 0, i, h, out, os, hn, _, _, _, _ => by omega
  | n + 1, i, h, out, os, hn, hi, O, P, he => by
    rw [matrix_both.l0_succ]
    have zl : (List.zipWith (fun a b => a ++ b) (mxv ps) (mxv is)).length = is.length := by rw [List.length_zipWith, mxv_len, mxv_len]; omega
    by_cases c : i < is.length
    · have c' : i < ps.length := by omega
      rw [decLt c, cond_true]
      obtain ⟨p, e1, e2⟩ := (I.stay w0 O.ch).at c
      rw [e1]
      simp only [asP_ptr, Option.bind_some]
      rw [e2]
      simp only [Option.bind_some]
      obtain ⟨q, f1, f2⟩ := (A.stay w0 O.ch).at c'
      rw [f1]
      simp only [asP_ptr, Option.bind_some]
      rw [f2]
      simp only [Option.bind_some]
      let pp : Parts := [(ps[i].1, ps[i].2), (is[i].1, is[i].2)]
      rw [show [Value.slice ps[i].1.a ps[i].1.n ps[i].1.c, Value.slice is[i].1.a is[i].1.n is[i].1.c] = pp.map fun p => slv p.1 from rfl]
      obtain ⟨y1, y2, y3⟩ := newR_ok O.ch.wf 40 1 (pp.map fun p => slv p.1)
      have hpp : PartsR h pp := by
        intro x hx
        simp only [pp, List.mem_cons, List.not_mem_nil, or_false] at hx
        rcases hx with rfl | rfl
        · exact (A.row c').stay w0 O.ch
        · exact (I.row c).stay w0 O.ch
      have l1 := hp _ (List.getElem_mem c')
      have l2 := hi2 _ (List.getElem_mem c)
      obtain ⟨s', h1, v1, v2, v3, v4⟩ := concat_f k hk y1.wf (ps := pp) (SlR.of_is y3 (n := 2) rfl (by unfold unk; omega)) (hpp.stay O.ch.wf y1) (by show 2 < 1000; decide) (by show ps[i].2.length + (is[i].2.length + 0) ≤ _; omega)
      rw [v1]
      simp only [Option.bind_some]
      have hj : joined pp = ps[i].2 ++ is[i].2 := by
        unfold joined
        simp only [pp, List.map_cons, List.map_nil, List.flatten_cons, List.flatten_nil, List.append_nil]
      rw [hj] at v3
      have c1 : Ch0 h h1 := y1.then v2
      have O1 := O.more c1
      have P1 := P.keep O.ch.wf c1 (fun _ _ _ _ f => f)
      have sf : ∀ b, SlB s' b → h.next ≤ b := fun b hb => by have := v4 b hb; omega
      have old : ∀ p ∈ os, ∀ b, SlB p.1 b → b < h.next := fun p hp b hb => by
        obtain ⟨b', n', c', e, I', _⟩ := P.rows p hp
        rw [e] at hb
        obtain ⟨o, eo⟩ := hb
        have : b' = b := congrArg Addr.block (Option.some.inj eo)
        have := I'.lt O.ch.wf
        omega
      have lo := O.ch.le
      have P2 := P1.push c1.wf v3 (by rw [List.length_append]; omega) (fun b hb => by have := sf b hb; omega) (fun p hp b hb f => by have := old p hp b hb; have := sf b f; omega)
      have osl : os.length = i := by
        have := congrArg List.length he
        rw [List.length_take, zl, mxv_len] at this
        omega
      obtain ⟨t, h2, g1, g2, g3, g4⟩ := O1.push2 s' (ps[i].2 ++ is[i].2) v3.slr (fun b hb f => by have := sf b hb; have := O.ow.lt O.ch.wf f; omega) (by omega)
      rw [g1]
      simp only [Option.bind_some]
      rw [wrap_succ (by omega)]
      have P3 := P2.keep c1.wf g3 (fun p hp b hb f => by
        rcases List.mem_append.1 hp with hp | hp
        · exact O.ds p hp b hb f
        · obtain rfl := List.mem_singleton.1 hp
          have := sf b hb
          have := O.ow.lt O.ch.wf f
          omega)
      refine both_l0 k hk w0 A I hl hl2 hp hi2 n (i + 1) h2 t _ (by omega) (by omega) g2 P3 ?_
      have zi : (List.zipWith (fun a b => a ++ b) (mxv ps) (mxv is))[i]? = some (ps[i].2 ++ is[i].2) := by
        rw [List.getElem?_zipWith]
        unfold mxv
        rw [List.getElem?_map, List.getElem?_map, List.getElem?_eq_getElem c, List.getElem?_eq_getElem c']; rfl
      rw [List.take_add_one, zi, ← he]
      unfold mxv
      rw [List.map_append]; rfl
    · rw [decNlt c, cond_false]
      exact ⟨out, os, h, rfl, O, P, by rw [he, List.take_of_length_le (by rw [zl]; omega)]⟩
theorem idM_len (n : Nat) : (idM n).length = n := by unfold idM; rw [List.length_map, List.length_range]
theorem idM_row {n : Nat} : ∀ r ∈ idM n, r.length = n := fun r hr => by
  obtain ⟨i, _, rfl⟩ := List.mem_map.1 hr
  show ((List.replicate n (0 : UInt8)).set i 1).length = n
  rw [List.length_set, List.length_replicate]
theorem both_f (k : Nat) (hk : 1000 < k) {h : H} (w : WF h) {sa : Sl} {ps : Parts} (A : MxR h sa ps) (R : RtM (mxv ps)) :
    ∃ lb c os h', matrix_both.f k sa h = some (⟨some ⟨lb, 0, none⟩, os.length, c⟩, h') ∧ MxW h h' lb c os ∧ CapOk 1 ⟨some ⟨lb, 0, none⟩, os.length, c⟩ ∧ mxv os = bothP (mxv ps) := by
  unfold matrix_both.f
  have R0 := R.n0
  have R1 := R.n1
  have R2 := R.c0
  have R3 := R.c1
  rw [mxv_len] at R0 R1
  obtain ⟨si, is, h1, a1, a2, a3, a4⟩ := mid_f k hk w ps.length R0 R1
  rw [A.n, a1]
  simp only [Option.bind_some]
  have il : is.length = ps.length := by
    have := congrArg List.length a3
    rw [mxv_len, idM_len] at this
    exact this
  obtain ⟨out, os, h2, b1, b2, b3, b4⟩ := both_l0 k hk a2.ch.wf (A.stay w a2.ch) a2.mxr il.symm R1 (fun p hp => by have := R.al _ (List.mem_map.2 ⟨p, hp, rfl⟩); omega) (fun p hp => by have := idM_row p.2 (by rw [← a3]; exact List.mem_map.2 ⟨p, hp, rfl⟩); omega) k 0 h1 ⟨none, 0, 0⟩ [] (by omega) (Nat.zero_le _) (MxO.nil a2.ch.wf) MxP.nil (by rw [List.take_zero]; rfl)
  rw [a2.mxr.n, show (0 : Int) = Int.ofNat 0 from rfl, b1]
  simp only [Option.bind_some]
  have osl : os.length = ps.length := by
    have := congrArg List.length b4
    rw [List.length_zipWith, mxv_len, mxv_len, mxv_len] at this
    omega
  rcases b2.ow with ⟨e, _⟩ | ⟨lb, n, c, e, hl, I, hc⟩
  · have := congrArg List.length e
    rw [List.length_map] at this
    have : os.length = 0 := this
    omega
  · rw [List.length_map, Nat.mul_one] at hl
    subst hl
    have l1 := a2.ch.le
    refine ⟨lb, c, os, h2, by rw [e], ⟨a2.ch.then b2.ch, I, ?_, ?_, b3.dist⟩, ?_, ?_⟩
    · have := b2.fr lb (by rw [e]; exact ⟨0, rfl⟩)
      omega
    · intro p hp
      obtain ⟨b, n', c', e', I', x1, x2, x3⟩ := b3.rows p hp
      refine ⟨b, n', c', e', I', by omega, ?_, x2, x3⟩
      intro f
      subst f
      exact b2.ds p hp b (by rw [e']; exact ⟨0, rfl⟩) (by rw [e]; exact ⟨0, rfl⟩)
    · rcases hc with ⟨q, q2⟩ | q
      · exact .inl ⟨by show os.length ≤ c; omega, by show c < unk; omega⟩
      · exact .inr q
    · rw [b4, a3]
      unfold bothP
      rw [mxv_len]
theorem clears_l0 (k : Nat) (hk : 1000 < k) {g0 : H} (wg : WF g0) {fb lb c nn_ : Nat} (F : FldR g0 fb) (sa : Sl) (m : Nat) (hm2 : m ≤ 1000) (hn2 : nn_ ≤ 1000) (hnm : nn_ ≤ m) (hc : CapOk 1 ⟨some ⟨lb, 0, none⟩, nn_, c⟩) : ∀ n i h (ps : Parts), nn_ - i < n → i ≤ nn_ → MxW g0 h lb c ps → ps.length = nn_ → (∀ p ∈ ps, p.2.length = m) →
    ∃ v h', matrix_Inverse.l0 k n (some ⟨fb, 0, none⟩) sa ⟨some ⟨lb, 0, none⟩, nn_, c⟩ (Int.ofNat nn_) (Int.ofNat i) h = some (v, h') ∧ Ch0 g0 h' ∧ ((∃ s, v = .inl (s, false) ∧ clearsP (nn_ - i) i (mxv ps) = none) ∨ ∃ ps', v = .inr () ∧ clearsP (nn_ - i) i (mxv ps) = some (mxv ps') ∧ MxW g0 h' lb c ps' ∧ ps'.length = nn_ ∧ ∀ p ∈ ps', p.2.length = m)
  | 0, i, h, ps, hn, _, _, _, _ => by omega
  | n + 1, i, h, ps, hn, hi, W, hl, hr => by
    rw [matrix_Inverse.l0_succ]
    by_cases ci : i < nn_
    · rw [decLt ci, cond_true]
      have hc' : CapOk 1 ⟨some ⟨lb, 0, none⟩, ps.length, c⟩ := by rw [hl]; exact hc
      obtain ⟨b, h1, a1, ac, a2⟩ := clear_f k hk wg F W hc' (at_ := i) (by omega) m hr (by omega) hm2 (by omega)
      rw [hl] at a1
      rw [a1]
      simp only [Option.bind_some]
      have un : clearsP (nn_ - i) i (mxv ps) = (clearP i (mxv ps)).bind fun m' => clearsP (nn_ - (i + 1)) (i + 1) m' := by
        rw [show nn_ - i = (nn_ - (i + 1)) + 1 by omega]; rfl
      rw [un]
      rcases a2 with ⟨rfl, e⟩ | ⟨ps', rfl, e, W', hl', hr'⟩
      · rw [e]
        exact ⟨_, h1, rfl, ac, .inl ⟨_, rfl, rfl⟩⟩
      · rw [e]
        simp only [Bool.not_true, cond_false, Option.bind_some]
        rw [wrap_succ (by omega)]
        exact clears_l0 k hk wg F sa m hm2 hn2 hnm hc n (i + 1) h1 ps' (by omega) (by omega) W' (by omega) hr'
    · rw [decNlt ci, cond_false]
      exact ⟨_, h, rfl, W.ch, .inr ⟨ps, rfl, by rw [show nn_ - i = 0 by omega]; rfl, W, hl, hr⟩⟩
theorem outs_l1 (k : Nat) (hk : 1000 < k) {h0 : H} (w0 : WF h0) {sa sl : Sl} {ps : Parts} (L : MxR h0 sl ps) (nn_ : Nat) (hs : sa.n = nn_) (m : Nat) (hr : ∀ p ∈ ps, p.2.length = m) (hnm : nn_ ≤ m) (hm2 : m ≤ 1000) (hn2 : ps.length ≤ 1000) : ∀ n i h out os, ps.length - i < n → i ≤ ps.length → MxO h0 h out os → mxv os = ((mxv ps).take i).map (fun x => x.drop nn_) →
    ∃ out' os' h', matrix_Inverse.l1 k n sa sl (Int.ofNat ps.length) out (Int.ofNat i) h = some (out', h') ∧ MxO h0 h' out' os' ∧ mxv os' = (mxv ps).map fun x => x.drop nn_
  | 0, i, h, out, os, hn, _, _, _ => by omega
  | n + 1, i, h, out, os, hn, hi, O, he => by
    rw [matrix_Inverse.l1_succ]
    by_cases c : i < ps.length
    · rw [decLt c, cond_true]
      obtain ⟨p, e1, e2⟩ := (L.stay w0 O.ch).at c
      rw [e1]
      simp only [asP_ptr, Option.bind_some]
      rw [e2]
      simp only [Option.bind_some]
      have R := (L.row c).stay w0 O.ch
      have rl := hr _ (List.getElem_mem c)
      rw [hs]
      obtain ⟨s1, f1, f2, f3, f4⟩ := subb_ok R (lo := nn_) (hi := ps[i].2.length) (by omega) (Nat.le_refl _) (xlo := some (Int.ofNat nn_)) (xhi := none) rfl (by rw [R.n_byt]; rfl)
      rw [f1]
      simp only [asS_slv, Option.bind_some]
      rw [List.take_of_length_le (by rw [List.length_drop]; exact Nat.le_refl _)] at f3
      obtain ⟨t, h1, b1, b2, b3, b4, b5⟩ := clone_f k O.ch.wf f3 (by rw [List.length_drop]; omega)
      rw [b1]
      simp only [Option.bind_some]
      have osl : os.length = i := by
        have := congrArg List.length he
        rw [List.length_map, List.length_take, mxv_len, mxv_len] at this
        omega
      obtain ⟨s', h2, g1, g2⟩ := (O.more b2).push t (ps[i].2.drop nn_) b3.slr (fun z hz f => by have := b5 z hz; have := O.ow.lt O.ch.wf f; omega) (by omega)
      rw [g1]
      simp only [Option.bind_some]
      rw [wrap_succ (by omega)]
      refine outs_l1 k hk w0 L nn_ hs m hr hnm hm2 hn2 n (i + 1) h2 s' _ (by omega) (by omega) g2 ?_
      have tk : (mxv ps).take (i + 1) = (mxv ps).take i ++ [ps[i].2] := by
        rw [List.take_add_one, show (mxv ps)[i]? = some ps[i].2 by unfold mxv; rw [List.getElem?_map, List.getElem?_eq_getElem c]; rfl]; rfl
      rw [tk, List.map_append, ← he]
      unfold mxv
      rw [List.map_append]; rfl
    · rw [decNlt c, cond_false]
      exact ⟨out, os, h, rfl, O, by rw [he, List.take_of_length_le (by rw [mxv_len]; omega)]⟩
theorem bothP_len (m : Mx) : (bothP m).length = m.length := by unfold bothP; rw [List.length_zipWith, idM_len]; omega
theorem bothP_row {m : Mx} {c : Nat} (h : ∀ r ∈ m, r.length = c) : ∀ r ∈ bothP m, r.length = c + m.length := fun r hr => by
  obtain ⟨i, hi, e⟩ := List.mem_iff_getElem.1 hr
  unfold bothP at e hi
  rw [List.getElem_zipWith] at e
  rw [← e, List.length_append, h _ (List.getElem_mem _), idM_row _ (List.getElem_mem _)]
theorem inv_sq_f (k : Nat) (hk : 1000 < k) {fb : Nat} {h : H} (w : WF h) (F : FldR h fb) {sa : Sl} {ps : Parts} (A : MxR h sa ps) (R : RtM (mxv ps)) (hsq : (hd (mxv ps)).length = ps.length) :
    ∃ out ok h', matrix_Inverse.f k (some ⟨fb, 0, none⟩) sa h = some ((out, ok), h') ∧ Ch0 h h' ∧ ((ok = false ∧ invP (mxv ps) = none) ∨ ∃ os, ok = true ∧ invP (mxv ps) = some (mxv os) ∧ MxR h' out os) := by
  unfold matrix_Inverse.f
  rw [show binO1 Try.prog .eql 22 (Value.pointer (some ⟨fb, 0, none⟩)) (Value.pointer none) = some (.bool false) from rfl]
  rw [show asB (some (Value.bool false)) = some false from rfl]
  simp only [Option.bind_some, cond_false]
  obtain ⟨h1, a1, a2⟩ := mright_f k hk w A
  rw [a1, (rightM_iff _).2 R]
  simp only [Option.bind_some, Bool.not_true, cond_false]
  have R0 := R.n0
  have R1 := R.n1
  rw [mxv_len] at R0 R1
  have p0 : 0 < ps.length := R0
  have A1 := A.stay w a2
  obtain ⟨p, f1, f2⟩ := A1.at p0
  rw [show (0 : Int) = Int.ofNat 0 from rfl, f1]
  simp only [asP_ptr, Option.bind_some]
  rw [f2]
  have hh : hd (mxv ps) = ps[0].2 := by
    unfold hd mxv
    cases ps with
    | nil => simp at p0
    | cons a l => rfl
  simp only [Option.bind_some, (A1.row p0).n_byt, A.n]
  rw [← hh, hsq, show (Int.ofNat ps.length != Int.ofNat ps.length) = false by simp]
  simp only [cond_false]
  obtain ⟨lb, c, os, h2, b1, b2, b3, b4⟩ := both_f k hk a2.wf A1 R
  rw [b1]
  simp only [Option.bind_some]
  have osl : os.length = ps.length := by
    have := congrArg List.length b4
    rw [bothP_len, mxv_len, mxv_len] at this
    exact this
  have orr : ∀ q ∈ os, q.2.length = ps.length + ps.length := fun q hq => by
    have := bothP_row (m := mxv ps) (c := ps.length) (fun r hr => by rw [R.al r hr, hsq]) q.2 (by rw [← b4]; exact List.mem_map.2 ⟨q, hq, rfl⟩)
    rw [mxv_len] at this
    exact this
  rw [osl] at b3
  obtain ⟨v, h3, d1, d2, d3⟩ := clears_l0 k hk a2.wf (F.stay w a2) sa (ps.length + ps.length) (by omega) (by omega) (by omega) b3 k 0 h2 os (by omega) (Nat.zero_le _) b2 osl orr
  rw [osl, d1]
  simp only [Option.bind_some]
  rw [b4, Nat.sub_zero] at d3
  have iv : invP (mxv ps) = (clearsP ps.length 0 (bothP (mxv ps))).map fun r => r.map fun x => x.drop ps.length := by unfold invP; rw [mxv_len]
  rw [iv]
  have c3 := a2.then d2
  rcases d3 with ⟨s, rfl, e⟩ | ⟨ps', rfl, e, W, hl', hr'⟩
  · rw [e]
    exact ⟨s, false, h3, rfl, c3, .inl ⟨rfl, rfl⟩⟩
  · rw [e]
    have hc' : CapOk 1 ⟨some ⟨lb, 0, none⟩, ps'.length, c⟩ := by rw [hl']; exact b3
    have L := W.mxr hc'
    rw [hl'] at L
    obtain ⟨out, os', h4, g1, g2, g3⟩ := outs_l1 k hk W.ch.wf (sa := sa) L ps.length A.n (ps.length + ps.length) hr' (by omega) (by omega) (by omega) k 0 h3 ⟨none, 0, 0⟩ [] (by omega) (Nat.zero_le _) (MxO.nil W.ch.wf) rfl
    rw [hl'] at g1
    rw [g1]
    exact ⟨out, true, h4, rfl, c3.then g2.ch, .inr ⟨os', rfl, by rw [g3]; rfl, g2.mxr⟩⟩
end Go.Proofs.Ytnjeafdbifcfhaa.Fw
/- Matrices of bytes, as functions: products, inverses, elimination. No program, no condition. -/
namespace Go.Proofs.Ytnjeafdbifcfhaa.Fw
open Go Den GF
set_option linter.unusedVariables false
set_option linter.unusedSimpArgs false
abbrev Fm := Nat → Nat → UInt8
def S : Nat → (Nat → UInt8) → UInt8
  | 0, _ => 0
  | n + 1, f => S n f ^^^ f n
theorem S_congr : ∀ {n : Nat} {f g : Nat → UInt8}, (∀ t, t < n → f t = g t) → S n f = S n g
  | 0, _, _, _ => rfl
  | n + 1, f, g, h => by unfold S; rw [S_congr (n := n) (fun t ht => h t (by omega)), h n (by omega)]
theorem S_zero : ∀ n : Nat, S n (fun _ => 0) = 0
  | 0 => rfl
  | n + 1 => by unfold S; rw [S_zero n, UInt8.xor_self]
theorem S_add : ∀ (n : Nat) (f g : Nat → UInt8), S n (fun t => f t ^^^ g t) = S n f ^^^ S n g
  | 0, _, _ => UInt8.xor_self.symm
  | n + 1, f, g => by
    unfold S
    rw [S_add n f g]
    exact xor4 _ _ _ _
theorem S_mul (c : UInt8) : ∀ (n : Nat) (f : Nat → UInt8), mulB c (S n f) = S n (fun t => mulB c (f t))
  | 0, _ => mulB_zero c
  | n + 1, f => by unfold S; rw [mulB_add, S_mul c n f]
theorem mul_S (c : UInt8) (n : Nat) (f : Nat → UInt8) : mulB (S n f) c = S n (fun t => mulB (f t) c) := by
  rw [mulB_comm, S_mul]
  exact S_congr fun t _ => mulB_comm _ _
theorem S_swap (m : Nat) (f : Fm) : ∀ n : Nat, S n (fun i => S m (fun j => f i j)) = S m (fun j => S n (fun i => f i j))
  | 0 => (S_zero m).symm
  | n + 1 => by
    show S n (fun i => S m (fun j => f i j)) ^^^ S m (fun j => f n j) = S m (fun j => S n (fun i => f i j) ^^^ f n j)
    rw [S_swap m f n, S_add]
theorem S_one : ∀ {n i : Nat} {f : Nat → UInt8}, i < n → (∀ t, t < n → t ≠ i → f t = 0) → S n f = f i
  | 0, i, f, h, _ => by omega
  | n + 1, i, f, h, h0 => by
    unfold S
    by_cases c : i = n
    · subst c
      rw [S_congr (n := i) (g := fun _ => 0) (fun t ht => h0 t (by omega) (by omega)), S_zero, UInt8.zero_xor]
    · rw [S_one (i := i) (by omega) (fun t ht hne => h0 t (by omega) hne), h0 n (by omega) (by omega), UInt8.xor_zero]
def dl (i j : Nat) : UInt8 := if i = j then 1 else 0
theorem dl_self (i : Nat) : dl i i = 1 := if_pos rfl
theorem dl_ne {i j : Nat} (h : i ≠ j) : dl i j = 0 := if_neg h
theorem S_dl {n i : Nat} (h : i < n) (f : Nat → UInt8) : S n (fun t => mulB (dl i t) (f t)) = f i := by
  rw [S_one h (fun t _ hne => by rw [dl_ne (Ne.symm hne), zero_mulB]), dl_self, one_mulB]
theorem S_dr {n j : Nat} (h : j < n) (f : Nat → UInt8) : S n (fun t => mulB (f t) (dl t j)) = f j := by
  rw [S_one h (fun t _ hne => by rw [dl_ne hne, mulB_zero]), dl_self, mulB_one]
def mm (n : Nat) (A B : Fm) : Fm := fun i j => S n (fun t => mulB (A i t) (B t j))
theorem mm_assoc (n m : Nat) (A B C : Fm) (i j : Nat) : mm m (mm n A B) C i j = mm n A (mm m B C) i j := by
  unfold mm
  have e1 : S m (fun t => mulB (S n (fun u => mulB (A i u) (B u t))) (C t j)) = S m (fun t => S n (fun u => mulB (mulB (A i u) (B u t)) (C t j))) := S_congr fun t _ => mul_S _ _ _
  have e2 : S n (fun u => mulB (A i u) (S m (fun t => mulB (B u t) (C t j)))) = S n (fun u => S m (fun t => mulB (A i u) (mulB (B u t) (C t j)))) := S_congr fun u _ => S_mul _ _ _
  rw [e1, e2, S_swap n (fun t u => mulB (mulB (A i u) (B u t)) (C t j)) m]
  exact S_congr fun u _ => S_congr fun t _ => (mulB_assoc _ _ _).symm
theorem mm_congr {n : Nat} {A A' B B' : Fm} {i j : Nat} (h1 : ∀ t, t < n → A i t = A' i t) (h2 : ∀ t, t < n → B t j = B' t j) : mm n A B i j = mm n A' B' i j := S_congr fun t ht => by rw [h1 t ht, h2 t ht]
theorem dl_mm {n i : Nat} (h : i < n) (A : Fm) (j : Nat) : mm n dl A i j = A i j := S_dl h fun t => A t j
theorem mm_dl {n j : Nat} (h : j < n) (A : Fm) (i : Nat) : mm n A dl i j = A i j := S_dr h fun t => A i t
def Eqm (n : Nat) (A B : Fm) : Prop := ∀ i j, i < n → j < n → A i j = B i j
structure Inv2 (n : Nat) (A B : Fm) : Prop where
  l : Eqm n (mm n A B) dl
  r : Eqm n (mm n B A) dl
theorem Inv2.symm {n : Nat} {A B : Fm} (h : Inv2 n A B) : Inv2 n B A := ⟨h.r, h.l⟩
/-- (A B)(B' A') = I -/
theorem inv_prod_l {n : Nat} {A A' B B' : Fm} (a : Eqm n (mm n A A') dl) (b : Eqm n (mm n B B') dl) : Eqm n (mm n (mm n A B) (mm n B' A')) dl := fun i j hi hj => by
  rw [mm_assoc, mm_congr (B' := A') (fun t _ => rfl) (fun t ht => by
    rw [← mm_assoc, mm_congr (A' := dl) (fun u hu => b t u ht hu) (fun u _ => rfl), dl_mm ht])]
  exact a i j hi hj
theorem Inv2.mul {n : Nat} {A A' B B' : Fm} (a : Inv2 n A A') (b : Inv2 n B B') : Inv2 n (mm n A B) (mm n B' A') := ⟨inv_prod_l a.l b.l, inv_prod_l b.r a.r⟩
theorem Inv2.uniq {n : Nat} {A X Y : Fm} (hx : Eqm n (mm n X A) dl) (hy : Eqm n (mm n A Y) dl) : Eqm n X Y := fun i j hi hj => by
  rw [← mm_dl hj X i, ← mm_congr (n := n) (A := X) (i := i) (j := j) (fun t _ => rfl) (fun t ht => hy t j ht hj), ← mm_assoc, mm_congr (A' := dl) (fun t ht => hx i t hi ht) (fun t _ => rfl), dl_mm hi]
/-! ### elimination -/
structure GI (n : Nat) (A R : Fm) : Prop where
  eq : ∀ i c, i < n → c < n → R i c = mm n (fun i j => R i (n + j)) A i c
  iv : ∃ Q', Inv2 n (fun i j => R i (n + j)) Q'
theorem GI.start {n : Nat} {A R : Fm} (h1 : ∀ i c, i < n → c < n → R i c = A i c) (h2 : ∀ i j, i < n → j < n → R i (n + j) = dl i j) : GI n A R where
  eq := fun i c hi hc => by
    rw [h1 i c hi hc, mm_congr (A' := dl) (fun t ht => h2 i t hi ht) (fun t _ => rfl), dl_mm hi]
  iv := ⟨dl, fun i j hi hj => by rw [mm_dl hj]; exact h2 i j hi hj, fun i j hi hj => by rw [dl_mm hi]; exact h2 i j hi hj⟩
theorem GI.step {n : Nat} {A R R' T T' : Fm} (g : GI n A R) (hT : Inv2 n T T') (h : ∀ i c, i < n → c < n + n → R' i c = mm n T R i c) : GI n A R' where
  eq := fun i c hi hc => by
    rw [h i c hi (by omega)]
    rw [mm_congr (B' := mm n (fun i j => R i (n + j)) A) (fun t _ => rfl) (fun t ht => g.eq t c ht hc), ← mm_assoc]
    exact mm_congr (fun t ht => (h i (n + t) hi (by omega)).symm) fun t _ => rfl
  iv := by
    obtain ⟨Q', q⟩ := g.iv
    have m := hT.mul q
    exact ⟨mm n Q' T', fun i j hi hj => by
      rw [← m.l i j hi hj]
      exact mm_congr (fun t ht => h i (n + t) hi (by omega)) fun t _ => rfl, fun i j hi hj => by
      rw [← m.r i j hi hj]
      exact mm_congr (fun t _ => rfl) fun t ht => h t (n + j) ht (by omega)⟩
/-- the columns ahead are done -/
def Unit_ (n a : Nat) (R : Fm) : Prop := ∀ i t, i < n → t < a → R i t = dl i t
/-! the three steps -/
def sw (a b i : Nat) : Nat := if i = b then a else if i = a then b else i
theorem sw_sw (a b i : Nat) : sw a b (sw a b i) = i := by unfold sw; split <;> split <;> (try split) <;> omega
theorem sw_lt {a b n i : Nat} (ha : a < n) (hb : b < n) (hi : i < n) : sw a b i < n := by unfold sw; split <;> (try split) <;> omega
theorem sw_inv {n a b : Nat} (ha : a < n) (hb : b < n) : Inv2 n (fun i t => dl (sw a b i) t) (fun i t => dl (sw a b i) t) := by
  have : Eqm n (mm n (fun i t => dl (sw a b i) t) (fun i t => dl (sw a b i) t)) dl := fun i j hi hj => by
    show S n (fun t => mulB (dl (sw a b i) t) (dl (sw a b t) j)) = _
    rw [S_dl (sw_lt ha hb hi) (fun t => dl (sw a b t) j), sw_sw]
  exact ⟨this, this⟩
theorem sw_mm {n a b : Nat} (ha : a < n) (hb : b < n) (R : Fm) {i : Nat} (hi : i < n) (c : Nat) : mm n (fun i t => dl (sw a b i) t) R i c = R (sw a b i) c := S_dl (sw_lt ha hb hi) fun t => R t c
def sc (a : Nat) (v : UInt8) : Fm := fun i t => mulB (if i = a then v else 1) (dl i t)
theorem sc_mm {n a : Nat} (v : UInt8) (R : Fm) {i : Nat} (hi : i < n) (c : Nat) : mm n (sc a v) R i c = mulB (if i = a then v else 1) (R i c) := by
  unfold mm sc
  rw [S_congr (g := fun t => mulB (if i = a then v else 1) (mulB (dl i t) (R t c))) (fun t _ => (mulB_assoc _ _ _).symm), ← S_mul, S_dl hi fun t => R t c]
theorem sc_inv {n a : Nat} {v w : UInt8} (h : mulB v w = 1) : Inv2 n (sc a v) (sc a w) := by
  have key : ∀ v w : UInt8, mulB v w = 1 → Eqm n (mm n (sc a v) (sc a w)) dl := fun v w h i j hi hj => by
    rw [sc_mm v _ hi]
    unfold sc
    rw [mulB_assoc]
    split
    · rw [h, one_mulB]
    · rw [one_mulB, one_mulB]
  exact ⟨key v w h, key w v (by rw [mulB_comm]; exact h)⟩
def el (a : Nat) (f : Nat → UInt8) : Fm := fun i t => dl i t ^^^ mulB (if i = a then 0 else f i) (dl a t)
theorem el_mm {n a : Nat} (ha : a < n) (f : Nat → UInt8) (R : Fm) {i : Nat} (hi : i < n) (c : Nat) : mm n (el a f) R i c = R i c ^^^ mulB (if i = a then 0 else f i) (R a c) := by
  unfold mm el
  rw [S_congr (g := fun t => mulB (dl i t) (R t c) ^^^ mulB (if i = a then 0 else f i) (mulB (dl a t) (R t c))) (fun t _ => by rw [add_mulB, mulB_assoc]), S_add, S_dl hi fun t => R t c, ← S_mul, S_dl ha fun t => R t c]
theorem el_inv {n a : Nat} (ha : a < n) (f : Nat → UInt8) : Inv2 n (el a f) (el a f) := by
  have : Eqm n (mm n (el a f) (el a f)) dl := fun i j hi hj => by
    rw [el_mm ha f _ hi]
    unfold el
    rw [if_pos rfl, zero_mulB, UInt8.xor_zero, UInt8.xor_assoc, UInt8.xor_self, UInt8.xor_zero]
  exact ⟨this, this⟩
/-- a column without a pivot: a vector that is led to nothing -/
theorem GI.sing {n a : Nat} {A R : Fm} (g : GI n A R) (ha : a < n) (u : Unit_ n a R) (h0 : ∀ i, a ≤ i → i < n → R i a = 0) : ∃ v : Nat → UInt8, v a = 1 ∧ ∀ i, i < n → S n (fun t => mulB (A i t) (v t)) = 0 := by
  obtain ⟨Q', q⟩ := g.iv
  let v : Nat → UInt8 := fun t => if t < a then R t a else if t = a then 1 else 0
  have va : v a = 1 := by show (if a < a then R a a else if a = a then 1 else 0) = _; rw [if_neg (by omega), if_pos rfl]
  have Rv : ∀ i, i < n → S n (fun t => mulB (R i t) (v t)) = 0 := fun i hi => by
    have split : S n (fun t => mulB (R i t) (v t)) = S n (fun t => mulB (if t < a then dl i t else 0) (R t a)) ^^^ S n (fun t => mulB (R i t) (dl t a)) := by
      rw [← S_add]
      refine S_congr fun t ht => ?_
      show mulB (R i t) (if t < a then R t a else if t = a then 1 else 0) = _
      by_cases c : t < a
      · rw [if_pos c, if_pos c, u i t hi c, dl_ne (show t ≠ a by omega), mulB_zero, UInt8.xor_zero]
      · rw [if_neg c, if_neg c, zero_mulB, UInt8.zero_xor]; rfl
    rw [split, S_dr ha fun t => R i t]
    by_cases c : i < a
    · rw [S_one hi (fun t _ hne => by
        by_cases q : t < a
        · rw [if_pos q, dl_ne (Ne.symm hne), zero_mulB]
        · rw [if_neg q, zero_mulB]), if_pos c, dl_self, one_mulB, UInt8.xor_self]
    · rw [h0 i (by omega) hi, UInt8.xor_zero]
      rw [S_congr (g := fun _ => 0) (fun t _ => by
        by_cases q : t < a
        · rw [if_pos q, dl_ne (show i ≠ t by omega), zero_mulB]
        · rw [if_neg q, zero_mulB]), S_zero]
  refine ⟨v, va, fun i hi => ?_⟩
  -- A = Q' R on the first columns
  have e : ∀ t, t < n → A i t = mm n Q' R i t := fun t ht => by
    rw [mm_congr (B' := mm n (fun i j => R i (n + j)) A) (fun u _ => rfl) (fun u hu => g.eq u t hu ht), ← mm_assoc, mm_congr (A' := dl) (fun u hu => q.r i u hi hu) (fun u _ => rfl), dl_mm hi]
  have e2 : S n (fun t => mulB (A i t) (v t)) = mm n (mm n Q' R) (fun t _ => v t) i 0 := S_congr fun t ht => by rw [e t ht]
  rw [e2, mm_assoc]
  show S n (fun u => mulB (Q' i u) (S n (fun t => mulB (R u t) (v t)))) = 0
  rw [S_congr (g := fun _ => 0) (fun u hu => by rw [Rv u hu, mulB_zero]), S_zero]
/-- all columns done: an inverse -/
theorem GI.done {n : Nat} {A R : Fm} (g : GI n A R) (u : Unit_ n n R) : Inv2 n (fun i j => R i (n + j)) A := by
  obtain ⟨Q', q⟩ := g.iv
  have l : Eqm n (mm n (fun i j => R i (n + j)) A) dl := fun i j hi hj => by rw [← g.eq i j hi hj]; exact u i j hi hj
  refine ⟨l, fun i j hi hj => ?_⟩
  have e := Inv2.uniq (n := n) (A := fun i j => R i (n + j)) (X := Q') (Y := A) q.r l
  rw [← q.r i j hi hj]
  exact mm_congr (fun t ht => (e i t hi ht).symm) fun t _ => rfl
def ent (m : Mx) : Fm := fun i j => (m.getD i []).getD j 0
/-- so many rows of that length -/
structure Dim (r c : Nat) (m : Mx) : Prop where
  n : m.length = r
  w : ∀ x ∈ m, x.length = c
theorem Dim.row {r c i : Nat} {m : Mx} (d : Dim r c m) (hi : i < r) : (m.getD i []).length = c := by
  rw [List.getD_eq_getElem?_getD, List.getElem?_eq_getElem (by rw [d.n]; exact hi)]
  exact d.w _ (List.getElem_mem _)
theorem mxD {m : Mx} {i : Nat} (h : i < m.length) : m.getD i [] = m[i] := by rw [List.getD_eq_getElem?_getD, List.getElem?_eq_getElem h]; rfl
theorem Dim.ext {r c : Nat} {a b : Mx} (da : Dim r c a) (db : Dim r c b) (h : ∀ i j, i < r → j < c → ent a i j = ent b i j) : a = b := by
  apply List.ext_getElem (by rw [da.n, db.n])
  intro i h1 h2
  have hi : i < r := by rw [← da.n]; exact h1
  have la : a[i].length = c := da.w _ (List.getElem_mem h1)
  have lb : b[i].length = c := db.w _ (List.getElem_mem h2)
  apply List.ext_getElem (by rw [la, lb])
  intro j h3 h4
  have := h i j hi (by omega)
  unfold ent at this
  rw [mxD h1, mxD h2, bytD h3, bytD h4] at this
  exact this
theorem getD_set {m : Mx} {a i : Nat} (ha : a < m.length) (x : List UInt8) : (m.set a x).getD i [] = if i = a then x else m.getD i [] := by
  rw [List.getD_eq_getElem?_getD, List.getElem?_set]
  by_cases c : a = i
  · rw [if_pos c, if_pos c.symm, if_pos (by omega)]; rfl
  · rw [if_neg c, if_neg (Ne.symm c), List.getD_eq_getElem?_getD]
theorem ent_swap {m : Mx} {a b : Nat} (ha : a < m.length) (hb : b < m.length) (i c : Nat) : ent (swapP m a b) i c = ent m (sw a b i) c := by
  unfold ent swapP sw
  rw [getD_set (by rw [List.length_set]; exact hb), getD_set ha]
  split
  · rfl
  · split <;> rfl
theorem scale_getD (v : UInt8) (r : List UInt8) (c : Nat) : (scaleP v r).getD c 0 = mulB (r.getD c 0) v := by
  unfold scaleP
  rw [List.getD_eq_getElem?_getD, List.getElem?_map, List.getD_eq_getElem?_getD]
  cases r[c]? with
  | none => exact (zero_mulB v).symm
  | some x => rfl
theorem ent_scale {m : Mx} {a : Nat} (ha : a < m.length) (v : UInt8) (i c : Nat) : ent (m.set a (scaleP v (m.getD a []))) i c = mulB (if i = a then v else 1) (ent m i c) := by
  unfold ent
  rw [getD_set ha]
  by_cases q : i = a
  · subst q
    rw [if_pos rfl, if_pos rfl, scale_getD, mulB_comm]
  · rw [if_neg q, if_neg q, one_mulB]
theorem addRow_getD {x : UInt8} {r p : List UInt8} (h : r.length = p.length) (c : Nat) : (addRow x r p).getD c 0 = r.getD c 0 ^^^ mulB x (p.getD c 0) := by
  by_cases hc : c < r.length
  · rw [List.getD_eq_getElem?_getD, addRow_get hc (by omega), bytD hc, bytD (x := p) (by omega)]; rfl
  · rw [List.getD_eq_getElem?_getD, List.getElem?_eq_none (by rw [addRow_len h]; omega), List.getD_eq_getElem?_getD, List.getElem?_eq_none (by omega), List.getD_eq_getElem?_getD, List.getElem?_eq_none (by omega)]
    show (0 : UInt8) = 0 ^^^ mulB x 0
    rw [mulB_zero, UInt8.xor_self]
theorem ent_elim {m : Mx} {n w a : Nat} (d : Dim n w m) (ha : a < n) {i : Nat} (hi : i < n) (c : Nat) : ent (elimAll a (m.getD a []) 0 m) i c = ent m i c ^^^ mulB (if i = a then 0 else ent m i a) (ent m a c) := by
  unfold ent
  have hm : i < m.length := by rw [d.n]; exact hi
  have e : (elimAll a (m.getD a []) 0 m).getD i [] = elim a (m.getD a []) i (m.getD i []) := by
    rw [List.getD_eq_getElem?_getD, elimAll_get, List.getElem?_eq_getElem hm, Nat.zero_add, List.getD_eq_getElem?_getD (l := m) (i := i), List.getElem?_eq_getElem hm]; rfl
  rw [e]
  unfold elim
  by_cases q : i = a
  · rw [if_pos (.inl q), if_pos q, zero_mulB, UInt8.xor_zero]
  · rw [if_neg q]
    by_cases z : (m.getD i []).getD a 0 = 0
    · rw [if_pos (.inr z), z, zero_mulB, UInt8.xor_zero]
    · rw [if_neg (fun f => f.elim q z), addRow_getD (by rw [d.row hi, d.row ha])]
theorem Dim.swap {m : Mx} {n w a b : Nat} (d : Dim n w m) (ha : a < n) (hb : b < n) : Dim n w (swapP m a b) := ⟨by unfold swapP; rw [List.length_set, List.length_set]; exact d.n, fun x hx => by
  unfold swapP at hx
  rcases List.mem_or_eq_of_mem_set hx with q | q
  · rcases List.mem_or_eq_of_mem_set q with q | q
    · exact d.w x q
    · rw [q]; exact d.row hb
  · rw [q]; exact d.row ha⟩
theorem Dim.set {m : Mx} {n w a : Nat} (d : Dim n w m) {x : List UInt8} (hx : x.length = w) : Dim n w (m.set a x) := ⟨by rw [List.length_set]; exact d.n, fun y hy => by
  rcases List.mem_or_eq_of_mem_set hy with q | q
  · exact d.w y q
  · rw [q]; exact hx⟩
theorem Dim.elim {m : Mx} {n w a : Nat} {piv : List UInt8} (d : Dim n w m) (hp : piv.length = w) : Dim n w (elimAll a piv 0 m) := ⟨by rw [elimAll_len]; exact d.n, fun y hy => by
  obtain ⟨i, hi, e⟩ := List.mem_iff_getElem.1 hy
  have h1 : (elimAll a piv 0 m)[i]? = some y := by rw [List.getElem?_eq_getElem hi, e]
  rw [elimAll_get] at h1
  obtain ⟨r, r1, r2⟩ := Option.map_eq_some_iff.1 h1
  have := d.w r (List.mem_of_getElem? r1)
  rw [← r2, elim_len _ _ _ _ (by omega)]; exact this⟩
theorem fnd_none {a : Nat} : ∀ {m : Mx} {j : Nat}, fnd a m j = none → ∀ i, i < m.length → (m.getD i []).getD a 0 = 0
  | [], j, _, i, hi => by cases hi
  | r :: rs, j, h, i, hi => by
    unfold fnd at h
    split at h
    · rename_i c
      cases i with
      | zero => exact c
      | succ i => rw [List.getD_cons_succ]; exact fnd_none h i (by rw [List.length_cons] at hi; omega)
    · cases h
/-- one column -/
theorem clear_ok {n a f : Nat} {A : Fm} {m : Mx} (d : Dim n (n + n) m) (ha : a < n) (hf : a + f < n) (hp : ent m (a + f) a ≠ 0) (g : GI n A (ent m)) (u : Unit_ n a (ent m)) :
    Dim n (n + n) (clearM a f m) ∧ GI n A (ent (clearM a f m)) ∧ Unit_ n (a + 1) (ent (clearM a f m)) := by
  unfold clearM
  dsimp only
  have d1 := d.swap ha hf
  have E1 : ∀ i c, ent (swapP m a (a + f)) i c = ent m (sw a (a + f) i) c := fun i c => ent_swap (by rw [d.n]; exact ha) (by rw [d.n]; exact hf) i c
  have g1 : GI n A (ent (swapP m a (a + f))) := g.step (sw_inv ha hf) fun i c hi hc => by rw [E1, sw_mm ha hf _ hi]
  have u1 : Unit_ n a (ent (swapP m a (a + f))) := fun i t hi ht => by
    rw [E1, u _ t (sw_lt ha hf hi) ht]
    unfold sw
    split
    · rw [dl_ne (by omega), dl_ne (by omega)]
    · split
      · rw [dl_ne (by omega), dl_ne (by omega)]
      · rfl
  have p1 : ent (swapP m a (a + f)) a a ≠ 0 := by
    rw [E1]
    unfold sw
    by_cases q : a = a + f
    · rw [if_pos q]; rw [← q] at hp; exact hp
    · rw [if_neg q, if_pos rfl]; exact hp
  generalize swapP m a (a + f) = m1 at d1 g1 u1 p1 ⊢
  have e1 : (m1.getD a []).getD a 0 = ent m1 a a := rfl
  rw [e1]
  have hv : mulB (invB (ent m1 a a)) (ent m1 a a) = 1 := by rw [mulB_comm]; exact mulB_inv _ p1
  generalize hV : invB (ent m1 a a) = v at hv
  have ha1 : a < m1.length := by rw [d1.n]; exact ha
  have E2 : ∀ i c, ent (m1.set a (scaleP v (m1.getD a []))) i c = mulB (if i = a then v else 1) (ent m1 i c) := fun i c => ent_scale ha1 v i c
  have d2 : Dim n (n + n) (m1.set a (scaleP v (m1.getD a []))) := d1.set (by rw [scaleP_len]; exact d1.row ha)
  generalize scaleP v (m1.getD a []) = piv at E2 d2 ⊢
  obtain ⟨m2, hm2⟩ : ∃ m2, m2 = m1.set a piv := ⟨_, rfl⟩
  have r3 : piv = m2.getD a [] := by rw [hm2, getD_set ha1, if_pos rfl]
  rw [← hm2] at E2 d2 ⊢
  rw [r3]
  have g2 : GI n A (ent m2) := g1.step (sc_inv (a := a) hv) fun i c hi hc => by rw [E2, sc_mm v _ hi]
  have u2 : Unit_ n a (ent m2) := fun i t hi ht => by
    rw [E2, u1 i t hi ht]
    by_cases q : i = a
    · rw [dl_ne (by omega), mulB_zero]
    · rw [if_neg q, one_mulB]
  have p2 : ent m2 a a = 1 := by rw [E2, if_pos rfl]; exact hv
  have E3 : ∀ i c, i < n → ent (elimAll a (m2.getD a []) 0 m2) i c = ent m2 i c ^^^ mulB (if i = a then 0 else ent m2 i a) (ent m2 a c) := fun i c hi => ent_elim d2 ha hi c
  refine ⟨d2.elim (d2.row ha), g2.step (el_inv ha fun i => ent m2 i a) fun i c hi hc => by rw [E3 i c hi, el_mm ha _ _ hi], fun i t hi ht => ?_⟩
  rw [E3 i t hi]
  by_cases q : t < a
  · rw [u2 a t ha q, dl_ne (show a ≠ t by omega), mulB_zero, UInt8.xor_zero, u2 i t hi q]
  · have e : t = a := by omega
    subst e
    rw [p2, mulB_one]
    by_cases q2 : i = t
    · rw [if_pos q2, UInt8.xor_zero, q2, p2, dl_self]
    · rw [if_neg q2, UInt8.xor_self, dl_ne q2]
theorem clears_ok {n : Nat} {A : Fm} : ∀ (k a : Nat) (m : Mx), a + k = n → Dim n (n + n) m → GI n A (ent m) → Unit_ n a (ent m) →
    (∃ m', clearsP k a m = some m' ∧ Dim n (n + n) m' ∧ GI n A (ent m') ∧ Unit_ n n (ent m')) ∨ (clearsP k a m = none ∧ ∃ (b : Nat) (v : Nat → UInt8), b < n ∧ v b = 1 ∧ ∀ i, i < n → S n (fun t => mulB (A i t) (v t)) = 0)
  | 0, a, m, hk, d, g, u => .inl ⟨m, rfl, d, g, by have : a = n := by omega
                                                   subst this; exact u⟩
  | k + 1, a, m, hk, d, g, u => by
    unfold clearsP clearP
    cases e : fnd a (m.drop a) 0 with
    | none =>
      refine .inr ⟨rfl, ?_⟩
      have h0 := fnd_none e
      obtain ⟨v, v1, v2⟩ := g.sing (show a < n by omega) u fun i h1 h2 => by
        have := h0 (i - a) (by rw [List.length_drop, d.n]; omega)
        rw [List.getD_eq_getElem?_getD (l := m.drop a), List.getElem?_drop, ← List.getD_eq_getElem?_getD, show a + (i - a) = i by omega] at this
        exact this
      exact ⟨a, v, by omega, v1, v2⟩
    | some f =>
      obtain ⟨_, f1, f2⟩ := fnd_some e
      rw [Nat.sub_zero, List.length_drop, d.n] at f1
      rw [Nat.sub_zero, List.getD_eq_getElem?_getD (l := m.drop a), List.getElem?_drop, ← List.getD_eq_getElem?_getD] at f2
      obtain ⟨d', g', u'⟩ := clear_ok d (show a < n by omega) (show a + f < n by omega) f2 g u
      exact clears_ok k (a + 1) _ (by omega) d' g' u'
theorem idM_ent {n i j : Nat} (hi : i < n) (hj : j < n) : ((idM n).getD i []).getD j 0 = dl i j := by
  have e : (idM n).getD i [] = idRow n i := by
    unfold idM
    rw [List.getD_eq_getElem?_getD, List.getElem?_map, List.getElem?_range hi]; rfl
  rw [e]
  unfold idRow dl
  rw [List.getD_eq_getElem?_getD, List.getElem?_set]
  by_cases c : i = j
  · rw [if_pos c, if_pos c, if_pos (by rw [List.length_replicate]; omega)]; rfl
  · rw [if_neg c, if_neg c, List.getElem?_replicate, if_pos hj]; rfl
theorem idM_dim (n : Nat) : Dim n n (idM n) := ⟨idM_len n, idM_row⟩
theorem both_row {n : Nat} {m : Mx} (d : Dim n n m) {i : Nat} (hi : i < n) : (bothP m).getD i [] = m.getD i [] ++ (idM n).getD i [] := by
  unfold bothP
  rw [d.n, List.getD_eq_getElem?_getD, List.getElem?_zipWith, List.getElem?_eq_getElem (by rw [d.n]; exact hi), List.getElem?_eq_getElem (by rw [idM_len]; exact hi), List.getD_eq_getElem?_getD, List.getD_eq_getElem?_getD, List.getElem?_eq_getElem (by rw [d.n]; exact hi), List.getElem?_eq_getElem (by rw [idM_len]; exact hi)]; rfl
theorem both_dim {n : Nat} {m : Mx} (d : Dim n n m) : Dim n (n + n) (bothP m) := ⟨by rw [bothP_len]; exact d.n, fun r hr => by have := bothP_row d.w r hr; rw [d.n] at this; exact this⟩
theorem both_GI {n : Nat} {m : Mx} (d : Dim n n m) : GI n (ent m) (ent (bothP m)) := GI.start (fun i c hi hc => by
    unfold ent
    rw [both_row d hi, List.getD_eq_getElem?_getD, List.getElem?_append_left (by rw [d.row hi]; exact hc), ← List.getD_eq_getElem?_getD]) fun i j hi hj => by
    unfold ent
    rw [both_row d hi, List.getD_eq_getElem?_getD, List.getElem?_append_right (by rw [d.row hi]; omega), d.row hi, Nat.add_sub_cancel_left, ← List.getD_eq_getElem?_getD]
    exact idM_ent hi hj
/-- what is found is an inverse; where none is found there is none -/
theorem invP_ok {n : Nat} {m : Mx} (d : Dim n n m) : (∃ x, invP m = some x ∧ Dim n n x ∧ Inv2 n (ent x) (ent m)) ∨ (invP m = none ∧ ∃ (b : Nat) (v : Nat → UInt8), b < n ∧ v b = 1 ∧ ∀ i, i < n → S n (fun t => mulB (ent m i t) (v t)) = 0) := by
  unfold invP
  rw [d.n]
  rcases clears_ok n 0 (bothP m) (by omega) (both_dim d) (both_GI d) (fun i t hi ht => by omega) with ⟨m', e, d', g, u⟩ | ⟨e, x⟩
  · refine .inl ⟨m'.map fun x => x.drop n, by rw [e]; rfl, ⟨by rw [List.length_map]; exact d'.n, fun r hr => ?_⟩, ?_⟩
    · obtain ⟨q, hq, rfl⟩ := List.mem_map.1 hr
      rw [List.length_drop, d'.w q hq]; omega
    · have h := g.done u
      have E : ∀ i j, i < n → ent (m'.map fun x => x.drop n) i j = ent m' i (n + j) := fun i j hi => by
        unfold ent
        have : (m'.map fun x => x.drop n).getD i [] = (m'.getD i []).drop n := by
          rw [List.getD_eq_getElem?_getD, List.getElem?_map, List.getD_eq_getElem?_getD, List.getElem?_eq_getElem (by rw [d'.n]; exact hi)]; rfl
        rw [this, List.getD_eq_getElem?_getD, List.getElem?_drop, ← List.getD_eq_getElem?_getD]
      exact ⟨fun i j hi hj => by
        rw [← h.l i j hi hj]
        exact mm_congr (fun t ht => E i t hi) fun t _ => rfl, fun i j hi hj => by
        rw [← h.r i j hi hj]
        exact mm_congr (fun t _ => rfl) fun t ht => E t j ht⟩
  · exact .inr ⟨by rw [e]; rfl, x⟩
/-! ### products of lists -/
theorem S_left : ∀ (n : Nat) (f : Nat → UInt8), S (n + 1) f = f 0 ^^^ S n (fun t => f (t + 1))
  | 0, f => by unfold S S; rw [UInt8.zero_xor, UInt8.xor_zero]
  | n + 1, f => by
    rw [show S (n + 1 + 1) f = S (n + 1) f ^^^ f (n + 1) from rfl, S_left n f, UInt8.xor_assoc]; rfl
theorem rowP_getD : ∀ (x : List UInt8) (m : Mx) (out : List UInt8) (j : Nat), x.length = m.length → (∀ r ∈ m, r.length = out.length) → (rowP out x m).getD j 0 = out.getD j 0 ^^^ S x.length (fun t => mulB (x.getD t 0) ((m.getD t []).getD j 0))
  | [], m, out, j, _, _ => by unfold rowP S; exact UInt8.xor_zero.symm
  | a :: x, [], out, j, h, _ => by cases h
  | a :: x, r :: m, out, j, h, hr => by
    have h1 : out.length = r.length := (hr r List.mem_cons_self).symm
    show (rowP (addRow a out r) x m).getD j 0 = _
    rw [rowP_getD x m _ j (by simpa using h) (fun q hq => by rw [addRow_len h1]; exact hr q (List.mem_cons_of_mem _ hq)), addRow_getD h1, List.length_cons, S_left, UInt8.xor_assoc]; rfl
theorem mulM_ent {r n c : Nat} {a b : Mx} (da : Dim r n a) (db : Dim n c b) (hn : 0 < n) {i : Nat} (hi : i < r) (j : Nat) : ent (mulM a b) i j = mm n (ent a) (ent b) i j := by
  have hc : (hd b).length = c := by
    cases b with
    | nil => have := db.n; simp at this; omega
    | cons x l => exact db.w x List.mem_cons_self
  have hl : i < a.length := by rw [da.n]; exact hi
  have e : (mulM a b).getD i [] = rowP (List.replicate c 0) (a.getD i []) b := by
    unfold mulM
    rw [List.getD_eq_getElem?_getD, List.getElem?_map, List.getElem?_eq_getElem hl, mxD hl, hc]; rfl
  show ((mulM a b).getD i []).getD j 0 = _
  rw [e, rowP_getD _ _ _ _ (by rw [da.row hi, db.n]) (fun q hq => by rw [List.length_replicate]; exact db.w q hq), da.row hi]
  have z : (List.replicate c (0 : UInt8)).getD j 0 = 0 := by
    rw [List.getD_eq_getElem?_getD, List.getElem?_replicate]
    split <;> rfl
  rw [z, UInt8.zero_xor]; rfl
theorem mulM_dim {r n c : Nat} {a b : Mx} (da : Dim r n a) (db : Dim n c b) (hn : 0 < n) : Dim r c (mulM a b) := by
  have hc : (hd b).length = c := by
    cases b with
    | nil => have := db.n; simp at this; omega
    | cons x l => exact db.w x List.mem_cons_self
  refine ⟨by unfold mulM; rw [List.length_map]; exact da.n, fun q hq => ?_⟩
  obtain ⟨x, hx, rfl⟩ := List.mem_map.1 hq
  rw [rowP_len _ _ _ (fun p hp => by rw [List.length_replicate, hc]; exact db.w p hp), List.length_replicate, hc]
theorem mulM_assoc {r n m c : Nat} {a b d : Mx} (da : Dim r n a) (db : Dim n m b) (dd : Dim m c d) (hn : 0 < n) (hm : 0 < m) : mulM (mulM a b) d = mulM a (mulM b d) := by
  refine (mulM_dim (mulM_dim da db hn) dd hm).ext (mulM_dim da (mulM_dim db dd hm) hn) fun i j hi hj => ?_
  rw [mulM_ent (mulM_dim da db hn) dd hm hi, mulM_ent da (mulM_dim db dd hm) hn hi]
  rw [mm_congr (A' := mm n (ent a) (ent b)) (fun t _ => mulM_ent da db hn hi t) (fun t _ => rfl), mm_assoc]
  exact mm_congr (fun t _ => rfl) fun t ht => (mulM_ent db dd hm ht j).symm
theorem one_mulM {n c : Nat} {a : Mx} (da : Dim n c a) (hn : 0 < n) : mulM (idM n) a = a := by
  refine (mulM_dim (idM_dim n) da hn).ext da fun i j hi hj => ?_
  rw [mulM_ent (idM_dim n) da hn hi, mm_congr (A' := dl) (fun t ht => idM_ent hi ht) (fun t _ => rfl), dl_mm hi]
theorem mulM_one {n : Nat} {r : Nat} {a : Mx} (da : Dim r n a) (hn : 0 < n) : mulM a (idM n) = a := by
  refine (mulM_dim da (idM_dim n) hn).ext da fun i j hi hj => ?_
  rw [mulM_ent da (idM_dim n) hn hi, mm_congr (B' := dl) (fun t _ => rfl) (fun t ht => idM_ent ht hj), mm_dl hj]
theorem inv2_mulM {n : Nat} {x a : Mx} (dx : Dim n n x) (da : Dim n n a) (hn : 0 < n) (h : Inv2 n (ent x) (ent a)) : mulM x a = idM n ∧ mulM a x = idM n :=
  ⟨(mulM_dim dx da hn).ext (idM_dim n) fun i j hi hj => by rw [mulM_ent dx da hn hi, h.l i j hi hj]; exact (idM_ent hi hj).symm,
   (mulM_dim da dx hn).ext (idM_dim n) fun i j hi hj => by rw [mulM_ent da dx hn hi, h.r i j hi hj]; exact (idM_ent hi hj).symm⟩
theorem invP_left {n : Nat} {m x : Mx} (d : Dim n n m) (dx : Dim n n x) (hn : 0 < n) (h : mulM x m = idM n) : ∃ y, invP m = some y ∧ Dim n n y ∧ mulM y m = idM n ∧ mulM m y = idM n := by
  rcases invP_ok d with ⟨y, e, dy, i⟩ | ⟨e, b, v, hb, hv, h0⟩
  · exact ⟨y, e, dy, inv2_mulM dy d hn i⟩
  · exfalso
    have h1 : mm n (mm n (ent x) (ent m)) (fun t _ => v t) b 0 = v b := by
      rw [mm_congr (A' := dl) (B' := fun t _ => v t) (fun t ht => by rw [← mulM_ent dx d hn hb t, h]; exact idM_ent hb ht) (fun _ _ => rfl), dl_mm hb]
    rw [mm_assoc, mm_congr (A' := ent x) (B' := fun _ _ => 0) (fun _ _ => rfl) (fun t ht => h0 t ht), hv] at h1
    have h2 : mm n (ent x) (fun _ _ => 0) b 0 = 0 := by
      unfold mm
      rw [S_congr (g := fun _ => 0) (fun t _ => mulB_zero _), S_zero]
    rw [h2] at h1
    exact absurd h1 (by decide)
theorem invP_cases {n : Nat} {m : Mx} (d : Dim n n m) (hn : 0 < n) : (∃ y, invP m = some y ∧ Dim n n y ∧ mulM y m = idM n ∧ mulM m y = idM n) ∨ (invP m = none ∧ ∀ x, Dim n n x → mulM x m ≠ idM n) := by
  cases e : invP m with
  | some y =>
    rcases invP_ok d with ⟨y', e', dy, i⟩ | ⟨e', _⟩
    · rw [e] at e'
      cases e'
      exact .inl ⟨y, rfl, dy, inv2_mulM dy d hn i⟩
    · rw [e] at e'; cases e'
  | none => exact .inr ⟨rfl, fun x dx h => by
      obtain ⟨y, e', _⟩ := invP_left d dx hn h
      rw [e] at e'; cases e'⟩
theorem mulM_uniq {n : Nat} {m x y : Mx} (d : Dim n n m) (dx : Dim n n x) (dy : Dim n n y) (hn : 0 < n) (h1 : mulM x m = idM n) (h2 : mulM m y = idM n) : x = y := by
  have h := mulM_assoc dx d dy hn hn
  rw [h1, h2, one_mulM dy hn, mulM_one dx hn] at h
  exact h.symm
/-- the first four that are there, of the first j -/
def selI (ch : Mx) (j : Nat) : List Nat := ((List.range j).filter fun i => decide (0 < (ch.getD i []).length)).take 4
theorem selI_succ (ch : Mx) (j : Nat) : selI ch (j + 1) = if 0 < (ch.getD j []).length ∧ (selI ch j).length < 4 then selI ch j ++ [j] else selI ch j := by
  unfold selI
  rw [List.range_succ, List.filter_append]
  generalize (List.range j).filter (fun i => decide (0 < (ch.getD i []).length)) = A
  by_cases c : 0 < (ch.getD j []).length
  · rw [List.filter_cons_of_pos (by rw [decide_eq_true c]), List.filter_nil]
    by_cases d : (A.take 4).length < 4
    · rw [if_pos ⟨c, d⟩]
      rw [List.length_take] at d
      rw [List.take_append, List.take_of_length_le (l := [j]) (by simp only [List.length_cons, List.length_nil]; omega)]
    · rw [if_neg (fun f => d f.2)]
      rw [List.length_take] at d
      rw [List.take_append_of_le_length (by omega)]
  · rw [List.filter_cons_of_neg (by rw [decide_eq_false c]; decide), List.filter_nil, List.append_nil, if_neg (fun f => c f.1)]
theorem selI_len (ch : Mx) (j : Nat) : (selI ch j).length ≤ 4 := by unfold selI; rw [List.length_take]; omega
def rowsI (I : List Nat) : Mx := I.map fun i => cRows.getD i []
theorem cRows_dim : Dim 6 4 cRows := ⟨rfl, fun r hr => by
  simp only [cRows, List.mem_cons, List.not_mem_nil, or_false] at hr
  rcases hr with e | e | e | e | e | e <;> rw [e] <;> rfl⟩
theorem rowsI_dim {I : List Nat} (h : ∀ i ∈ I, i < 6) : Dim I.length 4 (rowsI I) := ⟨List.length_map _, fun r hr => by
  obtain ⟨i, hi, rfl⟩ := List.mem_map.1 hr
  exact cRows_dim.row (h i hi)⟩
theorem chunks_dim {x : List UInt8} (hx : x.length = 128) : Dim 4 32 (chunks x) := ⟨rfl, fun r hr => by
  have e := (chunks_rt hx).al r hr
  rw [e]
  show (x.take 32).length = 32
  rw [List.length_take]; omega⟩
theorem enc_dim {x : List UInt8} (hx : x.length = 128) : Dim 6 32 (encP x) := mulM_dim cRows_dim (chunks_dim hx) (by decide)
theorem chunks_of {m : Mx} (d : Dim 4 32 m) : chunks m.flatten = m ∧ m.flatten.length = 128 := by
  obtain ⟨n, w⟩ := d
  match m, n with
  | [a, b, c, e], _ =>
    have la := w a (by simp)
    have lb := w b (by simp)
    have lc := w c (by simp)
    have le := w e (by simp)
    constructor
    · unfold chunks
      simp only [List.flatten_cons, List.flatten_nil, List.append_nil]
      have t1 : (a ++ (b ++ (c ++ e))).take 32 = a := by rw [List.take_append_of_le_length (by omega), List.take_of_length_le (by omega)]
      have d1 : (a ++ (b ++ (c ++ e))).drop 32 = b ++ (c ++ e) := by rw [← la, List.drop_left]
      have d2 : (a ++ (b ++ (c ++ e))).drop 64 = c ++ e := by rw [show (64 : Nat) = 32 + 32 from rfl, ← List.drop_drop, d1, ← lb, List.drop_left]
      have d3 : (a ++ (b ++ (c ++ e))).drop 96 = e := by rw [show (96 : Nat) = 64 + 32 from rfl, ← List.drop_drop, d2, ← lc, List.drop_left]
      rw [t1, d1, d2, d3, List.take_append_of_le_length (by omega), List.take_of_length_le (by omega), List.take_append_of_le_length (by omega), List.take_of_length_le (l := c) (by omega), List.take_of_length_le (l := e) (by omega)]
    · simp only [List.flatten_cons, List.flatten_nil, List.append_nil, List.length_append]
      omega
end Go.Proofs.Ytnjeafdbifcfhaa.Fw
