/- Matrices of bytes, as functions: products, inverses, elimination. No program, no condition. -/
import Derived.Test.YtnjeafdbifcfhaaPaFwInvP
namespace Go.Proofs.Ytnjeafdbifcfhaa.Fw
open Go Den GF
set_option linter.unusedVariables false
set_option linter.unusedSimpArgs false
abbrev Fm := Nat → Nat → UInt8
def S : Nat → (Nat → UInt8) → UInt8
  | 0, _ => 0
  | n + 1, f => S n f ^^^ f n
theorem S_congr : ∀ {n : Nat} {f g : Nat → UInt8}, (∀ t, t < n → f t = g t) → S n f = S n g
  | 0, _, _, _ => rfl
  | n + 1, f, g, h => by unfold S; rw [S_congr (n := n) (fun t ht => h t (by omega)), h n (by omega)]
theorem S_zero : ∀ n : Nat, S n (fun _ => 0) = 0
  | 0 => rfl
  | n + 1 => by unfold S; rw [S_zero n, UInt8.xor_self]
theorem S_add : ∀ (n : Nat) (f g : Nat → UInt8), S n (fun t => f t ^^^ g t) = S n f ^^^ S n g
  | 0, _, _ => UInt8.xor_self.symm
  | n + 1, f, g => by
    unfold S
    rw [S_add n f g]
    exact xor4 _ _ _ _
theorem S_mul (c : UInt8) : ∀ (n : Nat) (f : Nat → UInt8), mulB c (S n f) = S n (fun t => mulB c (f t))
  | 0, _ => mulB_zero c
  | n + 1, f => by unfold S; rw [mulB_add, S_mul c n f]
theorem mul_S (c : UInt8) (n : Nat) (f : Nat → UInt8) : mulB (S n f) c = S n (fun t => mulB (f t) c) := by
  rw [mulB_comm, S_mul]
  exact S_congr fun t _ => mulB_comm _ _
theorem S_swap (m : Nat) (f : Fm) : ∀ n : Nat, S n (fun i => S m (fun j => f i j)) = S m (fun j => S n (fun i => f i j))
  | 0 => (S_zero m).symm
  | n + 1 => by
    show S n (fun i => S m (fun j => f i j)) ^^^ S m (fun j => f n j) = S m (fun j => S n (fun i => f i j) ^^^ f n j)
    rw [S_swap m f n, S_add]
theorem S_one : ∀ {n i : Nat} {f : Nat → UInt8}, i < n → (∀ t, t < n → t ≠ i → f t = 0) → S n f = f i
  | 0, i, f, h, _ => by omega
  | n + 1, i, f, h, h0 => by
    unfold S
    by_cases c : i = n
    · subst c
      rw [S_congr (n := i) (g := fun _ => 0) (fun t ht => h0 t (by omega) (by omega)), S_zero, UInt8.zero_xor]
    · rw [S_one (i := i) (by omega) (fun t ht hne => h0 t (by omega) hne), h0 n (by omega) (by omega), UInt8.xor_zero]
def dl (i j : Nat) : UInt8 := if i = j then 1 else 0
theorem dl_self (i : Nat) : dl i i = 1 := if_pos rfl
theorem dl_ne {i j : Nat} (h : i ≠ j) : dl i j = 0 := if_neg h
theorem S_dl {n i : Nat} (h : i < n) (f : Nat → UInt8) : S n (fun t => mulB (dl i t) (f t)) = f i := by
  rw [S_one h (fun t _ hne => by rw [dl_ne (Ne.symm hne), zero_mulB]), dl_self, one_mulB]
theorem S_dr {n j : Nat} (h : j < n) (f : Nat → UInt8) : S n (fun t => mulB (f t) (dl t j)) = f j := by
  rw [S_one h (fun t _ hne => by rw [dl_ne hne, mulB_zero]), dl_self, mulB_one]
def mm (n : Nat) (A B : Fm) : Fm := fun i j => S n (fun t => mulB (A i t) (B t j))
theorem mm_assoc (n m : Nat) (A B C : Fm) (i j : Nat) : mm m (mm n A B) C i j = mm n A (mm m B C) i j := by
  unfold mm
  have e1 : S m (fun t => mulB (S n (fun u => mulB (A i u) (B u t))) (C t j)) = S m (fun t => S n (fun u => mulB (mulB (A i u) (B u t)) (C t j))) := S_congr fun t _ => mul_S _ _ _
  have e2 : S n (fun u => mulB (A i u) (S m (fun t => mulB (B u t) (C t j)))) = S n (fun u => S m (fun t => mulB (A i u) (mulB (B u t) (C t j)))) := S_congr fun u _ => S_mul _ _ _
  rw [e1, e2, S_swap n (fun t u => mulB (mulB (A i u) (B u t)) (C t j)) m]
  exact S_congr fun u _ => S_congr fun t _ => (mulB_assoc _ _ _).symm
theorem mm_congr {n : Nat} {A A' B B' : Fm} {i j : Nat} (h1 : ∀ t, t < n → A i t = A' i t) (h2 : ∀ t, t < n → B t j = B' t j) : mm n A B i j = mm n A' B' i j := S_congr fun t ht => by rw [h1 t ht, h2 t ht]
theorem dl_mm {n i : Nat} (h : i < n) (A : Fm) (j : Nat) : mm n dl A i j = A i j := S_dl h fun t => A t j
theorem mm_dl {n j : Nat} (h : j < n) (A : Fm) (i : Nat) : mm n A dl i j = A i j := S_dr h fun t => A i t
def Eqm (n : Nat) (A B : Fm) : Prop := ∀ i j, i < n → j < n → A i j = B i j
structure Inv2 (n : Nat) (A B : Fm) : Prop where
  l : Eqm n (mm n A B) dl
  r : Eqm n (mm n B A) dl
theorem Inv2.symm {n : Nat} {A B : Fm} (h : Inv2 n A B) : Inv2 n B A := ⟨h.r, h.l⟩
/-- (A B)(B' A') = I -/
theorem inv_prod_l {n : Nat} {A A' B B' : Fm} (a : Eqm n (mm n A A') dl) (b : Eqm n (mm n B B') dl) : Eqm n (mm n (mm n A B) (mm n B' A')) dl := fun i j hi hj => by
  rw [mm_assoc, mm_congr (B' := A') (fun t _ => rfl) (fun t ht => by
    rw [← mm_assoc, mm_congr (A' := dl) (fun u hu => b t u ht hu) (fun u _ => rfl), dl_mm ht])]
  exact a i j hi hj
theorem Inv2.mul {n : Nat} {A A' B B' : Fm} (a : Inv2 n A A') (b : Inv2 n B B') : Inv2 n (mm n A B) (mm n B' A') := ⟨inv_prod_l a.l b.l, inv_prod_l b.r a.r⟩
theorem Inv2.uniq {n : Nat} {A X Y : Fm} (hx : Eqm n (mm n X A) dl) (hy : Eqm n (mm n A Y) dl) : Eqm n X Y := fun i j hi hj => by
  rw [← mm_dl hj X i, ← mm_congr (n := n) (A := X) (i := i) (j := j) (fun t _ => rfl) (fun t ht => hy t j ht hj), ← mm_assoc, mm_congr (A' := dl) (fun t ht => hx i t hi ht) (fun t _ => rfl), dl_mm hi]
/-! ### elimination -/
structure GI (n : Nat) (A R : Fm) : Prop where
  eq : ∀ i c, i < n → c < n → R i c = mm n (fun i j => R i (n + j)) A i c
  iv : ∃ Q', Inv2 n (fun i j => R i (n + j)) Q'
theorem GI.start {n : Nat} {A R : Fm} (h1 : ∀ i c, i < n → c < n → R i c = A i c) (h2 : ∀ i j, i < n → j < n → R i (n + j) = dl i j) : GI n A R where
  eq := fun i c hi hc => by
    rw [h1 i c hi hc, mm_congr (A' := dl) (fun t ht => h2 i t hi ht) (fun t _ => rfl), dl_mm hi]
  iv := ⟨dl, fun i j hi hj => by rw [mm_dl hj]; exact h2 i j hi hj, fun i j hi hj => by rw [dl_mm hi]; exact h2 i j hi hj⟩
theorem GI.step {n : Nat} {A R R' T T' : Fm} (g : GI n A R) (hT : Inv2 n T T') (h : ∀ i c, i < n → c < n + n → R' i c = mm n T R i c) : GI n A R' where
  eq := fun i c hi hc => by
    rw [h i c hi (by omega)]
    rw [mm_congr (B' := mm n (fun i j => R i (n + j)) A) (fun t _ => rfl) (fun t ht => g.eq t c ht hc), ← mm_assoc]
    exact mm_congr (fun t ht => (h i (n + t) hi (by omega)).symm) fun t _ => rfl
  iv := by
    obtain ⟨Q', q⟩ := g.iv
    have m := hT.mul q
    exact ⟨mm n Q' T', fun i j hi hj => by
      rw [← m.l i j hi hj]
      exact mm_congr (fun t ht => h i (n + t) hi (by omega)) fun t _ => rfl, fun i j hi hj => by
      rw [← m.r i j hi hj]
      exact mm_congr (fun t _ => rfl) fun t ht => h t (n + j) ht (by omega)⟩
/-- the columns ahead are done -/
def Unit_ (n a : Nat) (R : Fm) : Prop := ∀ i t, i < n → t < a → R i t = dl i t
/-! the three steps -/
def sw (a b i : Nat) : Nat := if i = b then a else if i = a then b else i
theorem sw_sw (a b i : Nat) : sw a b (sw a b i) = i := by unfold sw; split <;> split <;> (try split) <;> omega
theorem sw_lt {a b n i : Nat} (ha : a < n) (hb : b < n) (hi : i < n) : sw a b i < n := by unfold sw; split <;> (try split) <;> omega
theorem sw_inv {n a b : Nat} (ha : a < n) (hb : b < n) : Inv2 n (fun i t => dl (sw a b i) t) (fun i t => dl (sw a b i) t) := by
  have : Eqm n (mm n (fun i t => dl (sw a b i) t) (fun i t => dl (sw a b i) t)) dl := fun i j hi hj => by
    show S n (fun t => mulB (dl (sw a b i) t) (dl (sw a b t) j)) = _
    rw [S_dl (sw_lt ha hb hi) (fun t => dl (sw a b t) j), sw_sw]
  exact ⟨this, this⟩
theorem sw_mm {n a b : Nat} (ha : a < n) (hb : b < n) (R : Fm) {i : Nat} (hi : i < n) (c : Nat) : mm n (fun i t => dl (sw a b i) t) R i c = R (sw a b i) c := S_dl (sw_lt ha hb hi) fun t => R t c
def sc (a : Nat) (v : UInt8) : Fm := fun i t => mulB (if i = a then v else 1) (dl i t)
theorem sc_mm {n a : Nat} (v : UInt8) (R : Fm) {i : Nat} (hi : i < n) (c : Nat) : mm n (sc a v) R i c = mulB (if i = a then v else 1) (R i c) := by
  unfold mm sc
  rw [S_congr (g := fun t => mulB (if i = a then v else 1) (mulB (dl i t) (R t c))) (fun t _ => (mulB_assoc _ _ _).symm), ← S_mul, S_dl hi fun t => R t c]
theorem sc_inv {n a : Nat} {v w : UInt8} (h : mulB v w = 1) : Inv2 n (sc a v) (sc a w) := by
  have key : ∀ v w : UInt8, mulB v w = 1 → Eqm n (mm n (sc a v) (sc a w)) dl := fun v w h i j hi hj => by
    rw [sc_mm v _ hi]
    unfold sc
    rw [mulB_assoc]
    split
    · rw [h, one_mulB]
    · rw [one_mulB, one_mulB]
  exact ⟨key v w h, key w v (by rw [mulB_comm]; exact h)⟩
def el (a : Nat) (f : Nat → UInt8) : Fm := fun i t => dl i t ^^^ mulB (if i = a then 0 else f i) (dl a t)
theorem el_mm {n a : Nat} (ha : a < n) (f : Nat → UInt8) (R : Fm) {i : Nat} (hi : i < n) (c : Nat) : mm n (el a f) R i c = R i c ^^^ mulB (if i = a then 0 else f i) (R a c) := by
  unfold mm el
  rw [S_congr (g := fun t => mulB (dl i t) (R t c) ^^^ mulB (if i = a then 0 else f i) (mulB (dl a t) (R t c))) (fun t _ => by rw [add_mulB, mulB_assoc]), S_add, S_dl hi fun t => R t c, ← S_mul, S_dl ha fun t => R t c]
theorem el_inv {n a : Nat} (ha : a < n) (f : Nat → UInt8) : Inv2 n (el a f) (el a f) := by
  have : Eqm n (mm n (el a f) (el a f)) dl := fun i j hi hj => by
    rw [el_mm ha f _ hi]
    unfold el
    rw [if_pos rfl, zero_mulB, UInt8.xor_zero, UInt8.xor_assoc, UInt8.xor_self, UInt8.xor_zero]
  exact ⟨this, this⟩
/-- a column without a pivot: a vector that is led to nothing -/
theorem GI.sing {n a : Nat} {A R : Fm} (g : GI n A R) (ha : a < n) (u : Unit_ n a R) (h0 : ∀ i, a ≤ i → i < n → R i a = 0) : ∃ v : Nat → UInt8, v a = 1 ∧ ∀ i, i < n → S n (fun t => mulB (A i t) (v t)) = 0 := by
  obtain ⟨Q', q⟩ := g.iv
  let v : Nat → UInt8 := fun t => if t < a then R t a else if t = a then 1 else 0
  have va : v a = 1 := by show (if a < a then R a a else if a = a then 1 else 0) = _; rw [if_neg (by omega), if_pos rfl]
  have Rv : ∀ i, i < n → S n (fun t => mulB (R i t) (v t)) = 0 := fun i hi => by
    have split : S n (fun t => mulB (R i t) (v t)) = S n (fun t => mulB (if t < a then dl i t else 0) (R t a)) ^^^ S n (fun t => mulB (R i t) (dl t a)) := by
      rw [← S_add]
      refine S_congr fun t ht => ?_
      show mulB (R i t) (if t < a then R t a else if t = a then 1 else 0) = _
      by_cases c : t < a
      · rw [if_pos c, if_pos c, u i t hi c, dl_ne (show t ≠ a by omega), mulB_zero, UInt8.xor_zero]
      · rw [if_neg c, if_neg c, zero_mulB, UInt8.zero_xor]; rfl
    rw [split, S_dr ha fun t => R i t]
    by_cases c : i < a
    · rw [S_one hi (fun t _ hne => by
        by_cases q : t < a
        · rw [if_pos q, dl_ne (Ne.symm hne), zero_mulB]
        · rw [if_neg q, zero_mulB]), if_pos c, dl_self, one_mulB, UInt8.xor_self]
    · rw [h0 i (by omega) hi, UInt8.xor_zero]
      rw [S_congr (g := fun _ => 0) (fun t _ => by
        by_cases q : t < a
        · rw [if_pos q, dl_ne (show i ≠ t by omega), zero_mulB]
        · rw [if_neg q, zero_mulB]), S_zero]
  refine ⟨v, va, fun i hi => ?_⟩
  -- A = Q' R on the first columns
  have e : ∀ t, t < n → A i t = mm n Q' R i t := fun t ht => by
    rw [mm_congr (B' := mm n (fun i j => R i (n + j)) A) (fun u _ => rfl) (fun u hu => g.eq u t hu ht), ← mm_assoc, mm_congr (A' := dl) (fun u hu => q.r i u hi hu) (fun u _ => rfl), dl_mm hi]
  have e2 : S n (fun t => mulB (A i t) (v t)) = mm n (mm n Q' R) (fun t _ => v t) i 0 := S_congr fun t ht => by rw [e t ht]
  rw [e2, mm_assoc]
  show S n (fun u => mulB (Q' i u) (S n (fun t => mulB (R u t) (v t)))) = 0
  rw [S_congr (g := fun _ => 0) (fun u hu => by rw [Rv u hu, mulB_zero]), S_zero]
/-- all columns done: an inverse -/
theorem GI.done {n : Nat} {A R : Fm} (g : GI n A R) (u : Unit_ n n R) : Inv2 n (fun i j => R i (n + j)) A := by
  obtain ⟨Q', q⟩ := g.iv
  have l : Eqm n (mm n (fun i j => R i (n + j)) A) dl := fun i j hi hj => by rw [← g.eq i j hi hj]; exact u i j hi hj
  refine ⟨l, fun i j hi hj => ?_⟩
  have e := Inv2.uniq (n := n) (A := fun i j => R i (n + j)) (X := Q') (Y := A) q.r l
  rw [← q.r i j hi hj]
  exact mm_congr (fun t ht => (e i t hi ht).symm) fun t _ => rfl
def ent (m : Mx) : Fm := fun i j => (m.getD i []).getD j 0
/-- so many rows of that length -/
structure Dim (r c : Nat) (m : Mx) : Prop where
  n : m.length = r
  w : ∀ x ∈ m, x.length = c
theorem Dim.row {r c i : Nat} {m : Mx} (d : Dim r c m) (hi : i < r) : (m.getD i []).length = c := by
  rw [List.getD_eq_getElem?_getD, List.getElem?_eq_getElem (by rw [d.n]; exact hi)]
  exact d.w _ (List.getElem_mem _)
theorem mxD {m : Mx} {i : Nat} (h : i < m.length) : m.getD i [] = m[i] := by rw [List.getD_eq_getElem?_getD, List.getElem?_eq_getElem h]; rfl
theorem Dim.ext {r c : Nat} {a b : Mx} (da : Dim r c a) (db : Dim r c b) (h : ∀ i j, i < r → j < c → ent a i j = ent b i j) : a = b := by
  apply List.ext_getElem (by rw [da.n, db.n])
  intro i h1 h2
  have hi : i < r := by rw [← da.n]; exact h1
  have la : a[i].length = c := da.w _ (List.getElem_mem h1)
  have lb : b[i].length = c := db.w _ (List.getElem_mem h2)
  apply List.ext_getElem (by rw [la, lb])
  intro j h3 h4
  have := h i j hi (by omega)
  unfold ent at this
  rw [mxD h1, mxD h2, bytD h3, bytD h4] at this
  exact this
theorem getD_set {m : Mx} {a i : Nat} (ha : a < m.length) (x : List UInt8) : (m.set a x).getD i [] = if i = a then x else m.getD i [] := by
  rw [List.getD_eq_getElem?_getD, List.getElem?_set]
  by_cases c : a = i
  · rw [if_pos c, if_pos c.symm, if_pos (by omega)]; rfl
  · rw [if_neg c, if_neg (Ne.symm c), List.getD_eq_getElem?_getD]
theorem ent_swap {m : Mx} {a b : Nat} (ha : a < m.length) (hb : b < m.length) (i c : Nat) : ent (swapP m a b) i c = ent m (sw a b i) c := by
  unfold ent swapP sw
  rw [getD_set (by rw [List.length_set]; exact hb), getD_set ha]
  split
  · rfl
  · split <;> rfl
theorem scale_getD (v : UInt8) (r : List UInt8) (c : Nat) : (scaleP v r).getD c 0 = mulB (r.getD c 0) v := by
  unfold scaleP
  rw [List.getD_eq_getElem?_getD, List.getElem?_map, List.getD_eq_getElem?_getD]
  cases r[c]? with
  | none => exact (zero_mulB v).symm
  | some x => rfl
theorem ent_scale {m : Mx} {a : Nat} (ha : a < m.length) (v : UInt8) (i c : Nat) : ent (m.set a (scaleP v (m.getD a []))) i c = mulB (if i = a then v else 1) (ent m i c) := by
  unfold ent
  rw [getD_set ha]
  by_cases q : i = a
  · subst q
    rw [if_pos rfl, if_pos rfl, scale_getD, mulB_comm]
  · rw [if_neg q, if_neg q, one_mulB]
theorem addRow_getD {x : UInt8} {r p : List UInt8} (h : r.length = p.length) (c : Nat) : (addRow x r p).getD c 0 = r.getD c 0 ^^^ mulB x (p.getD c 0) := by
  by_cases hc : c < r.length
  · rw [List.getD_eq_getElem?_getD, addRow_get hc (by omega), bytD hc, bytD (x := p) (by omega)]; rfl
  · rw [List.getD_eq_getElem?_getD, List.getElem?_eq_none (by rw [addRow_len h]; omega), List.getD_eq_getElem?_getD, List.getElem?_eq_none (by omega), List.getD_eq_getElem?_getD, List.getElem?_eq_none (by omega)]
    show (0 : UInt8) = 0 ^^^ mulB x 0
    rw [mulB_zero, UInt8.xor_self]
theorem ent_elim {m : Mx} {n w a : Nat} (d : Dim n w m) (ha : a < n) {i : Nat} (hi : i < n) (c : Nat) : ent (elimAll a (m.getD a []) 0 m) i c = ent m i c ^^^ mulB (if i = a then 0 else ent m i a) (ent m a c) := by
  unfold ent
  have hm : i < m.length := by rw [d.n]; exact hi
  have e : (elimAll a (m.getD a []) 0 m).getD i [] = elim a (m.getD a []) i (m.getD i []) := by
    rw [List.getD_eq_getElem?_getD, elimAll_get, List.getElem?_eq_getElem hm, Nat.zero_add, List.getD_eq_getElem?_getD (l := m) (i := i), List.getElem?_eq_getElem hm]; rfl
  rw [e]
  unfold elim
  by_cases q : i = a
  · rw [if_pos (.inl q), if_pos q, zero_mulB, UInt8.xor_zero]
  · rw [if_neg q]
    by_cases z : (m.getD i []).getD a 0 = 0
    · rw [if_pos (.inr z), z, zero_mulB, UInt8.xor_zero]
    · rw [if_neg (fun f => f.elim q z), addRow_getD (by rw [d.row hi, d.row ha])]
theorem Dim.swap {m : Mx} {n w a b : Nat} (d : Dim n w m) (ha : a < n) (hb : b < n) : Dim n w (swapP m a b) := ⟨by unfold swapP; rw [List.length_set, List.length_set]; exact d.n, fun x hx => by
  unfold swapP at hx
  rcases List.mem_or_eq_of_mem_set hx with q | q
  · rcases List.mem_or_eq_of_mem_set q with q | q
    · exact d.w x q
    · rw [q]; exact d.row hb
  · rw [q]; exact d.row ha⟩
theorem Dim.set {m : Mx} {n w a : Nat} (d : Dim n w m) {x : List UInt8} (hx : x.length = w) : Dim n w (m.set a x) := ⟨by rw [List.length_set]; exact d.n, fun y hy => by
  rcases List.mem_or_eq_of_mem_set hy with q | q
  · exact d.w y q
  · rw [q]; exact hx⟩
theorem Dim.elim {m : Mx} {n w a : Nat} {piv : List UInt8} (d : Dim n w m) (hp : piv.length = w) : Dim n w (elimAll a piv 0 m) := ⟨by rw [elimAll_len]; exact d.n, fun y hy => by
  obtain ⟨i, hi, e⟩ := List.mem_iff_getElem.1 hy
  have h1 : (elimAll a piv 0 m)[i]? = some y := by rw [List.getElem?_eq_getElem hi, e]
  rw [elimAll_get] at h1
  obtain ⟨r, r1, r2⟩ := Option.map_eq_some_iff.1 h1
  have := d.w r (List.mem_of_getElem? r1)
  rw [← r2, elim_len _ _ _ _ (by omega)]; exact this⟩
theorem fnd_none {a : Nat} : ∀ {m : Mx} {j : Nat}, fnd a m j = none → ∀ i, i < m.length → (m.getD i []).getD a 0 = 0
  | [], j, _, i, hi => by cases hi
  | r :: rs, j, h, i, hi => by
    unfold fnd at h
    split at h
    · rename_i c
      cases i with
      | zero => exact c
      | succ i => rw [List.getD_cons_succ]; exact fnd_none h i (by rw [List.length_cons] at hi; omega)
    · cases h
/-- one column -/
theorem clear_ok {n a f : Nat} {A : Fm} {m : Mx} (d : Dim n (n + n) m) (ha : a < n) (hf : a + f < n) (hp : ent m (a + f) a ≠ 0) (g : GI n A (ent m)) (u : Unit_ n a (ent m)) :
    Dim n (n + n) (clearM a f m) ∧ GI n A (ent (clearM a f m)) ∧ Unit_ n (a + 1) (ent (clearM a f m)) := by
  unfold clearM
  dsimp only
  have d1 := d.swap ha hf
  have E1 : ∀ i c, ent (swapP m a (a + f)) i c = ent m (sw a (a + f) i) c := fun i c => ent_swap (by rw [d.n]; exact ha) (by rw [d.n]; exact hf) i c
  have g1 : GI n A (ent (swapP m a (a + f))) := g.step (sw_inv ha hf) fun i c hi hc => by rw [E1, sw_mm ha hf _ hi]
  have u1 : Unit_ n a (ent (swapP m a (a + f))) := fun i t hi ht => by
    rw [E1, u _ t (sw_lt ha hf hi) ht]
    unfold sw
    split
    · rw [dl_ne (by omega), dl_ne (by omega)]
    · split
      · rw [dl_ne (by omega), dl_ne (by omega)]
      · rfl
  have p1 : ent (swapP m a (a + f)) a a ≠ 0 := by
    rw [E1]
    unfold sw
    by_cases q : a = a + f
    · rw [if_pos q]; rw [← q] at hp; exact hp
    · rw [if_neg q, if_pos rfl]; exact hp
  generalize swapP m a (a + f) = m1 at d1 g1 u1 p1 ⊢
  have e1 : (m1.getD a []).getD a 0 = ent m1 a a := rfl
  rw [e1]
  have hv : mulB (invB (ent m1 a a)) (ent m1 a a) = 1 := by rw [mulB_comm]; exact mulB_inv _ p1
  generalize hV : invB (ent m1 a a) = v at hv
  have ha1 : a < m1.length := by rw [d1.n]; exact ha
  have E2 : ∀ i c, ent (m1.set a (scaleP v (m1.getD a []))) i c = mulB (if i = a then v else 1) (ent m1 i c) := fun i c => ent_scale ha1 v i c
  have d2 : Dim n (n + n) (m1.set a (scaleP v (m1.getD a []))) := d1.set (by rw [scaleP_len]; exact d1.row ha)
  generalize scaleP v (m1.getD a []) = piv at E2 d2 ⊢
  obtain ⟨m2, hm2⟩ : ∃ m2, m2 = m1.set a piv := ⟨_, rfl⟩
  have r3 : piv = m2.getD a [] := by rw [hm2, getD_set ha1, if_pos rfl]
  rw [← hm2] at E2 d2 ⊢
  rw [r3]
  have g2 : GI n A (ent m2) := g1.step (sc_inv (a := a) hv) fun i c hi hc => by rw [E2, sc_mm v _ hi]
  have u2 : Unit_ n a (ent m2) := fun i t hi ht => by
    rw [E2, u1 i t hi ht]
    by_cases q : i = a
    · rw [dl_ne (by omega), mulB_zero]
    · rw [if_neg q, one_mulB]
  have p2 : ent m2 a a = 1 := by rw [E2, if_pos rfl]; exact hv
  have E3 : ∀ i c, i < n → ent (elimAll a (m2.getD a []) 0 m2) i c = ent m2 i c ^^^ mulB (if i = a then 0 else ent m2 i a) (ent m2 a c) := fun i c hi => ent_elim d2 ha hi c
  refine ⟨d2.elim (d2.row ha), g2.step (el_inv ha fun i => ent m2 i a) fun i c hi hc => by rw [E3 i c hi, el_mm ha _ _ hi], fun i t hi ht => ?_⟩
  rw [E3 i t hi]
  by_cases q : t < a
  · rw [u2 a t ha q, dl_ne (show a ≠ t by omega), mulB_zero, UInt8.xor_zero, u2 i t hi q]
  · have e : t = a := by omega
    subst e
    rw [p2, mulB_one]
    by_cases q2 : i = t
    · rw [if_pos q2, UInt8.xor_zero, q2, p2, dl_self]
    · rw [if_neg q2, UInt8.xor_self, dl_ne q2]
theorem clears_ok {n : Nat} {A : Fm} : ∀ (k a : Nat) (m : Mx), a + k = n → Dim n (n + n) m → GI n A (ent m) → Unit_ n a (ent m) →
    (∃ m', clearsP k a m = some m' ∧ Dim n (n + n) m' ∧ GI n A (ent m') ∧ Unit_ n n (ent m')) ∨ (clearsP k a m = none ∧ ∃ (b : Nat) (v : Nat → UInt8), b < n ∧ v b = 1 ∧ ∀ i, i < n → S n (fun t => mulB (A i t) (v t)) = 0)
  | 0, a, m, hk, d, g, u => .inl ⟨m, rfl, d, g, by have : a = n := by omega
                                                   subst this; exact u⟩
  | k + 1, a, m, hk, d, g, u => by
    unfold clearsP clearP
    cases e : fnd a (m.drop a) 0 with
    | none =>
      refine .inr ⟨rfl, ?_⟩
      have h0 := fnd_none e
      obtain ⟨v, v1, v2⟩ := g.sing (show a < n by omega) u fun i h1 h2 => by
        have := h0 (i - a) (by rw [List.length_drop, d.n]; omega)
        rw [List.getD_eq_getElem?_getD (l := m.drop a), List.getElem?_drop, ← List.getD_eq_getElem?_getD, show a + (i - a) = i by omega] at this
        exact this
      exact ⟨a, v, by omega, v1, v2⟩
    | some f =>
      obtain ⟨_, f1, f2⟩ := fnd_some e
      rw [Nat.sub_zero, List.length_drop, d.n] at f1
      rw [Nat.sub_zero, List.getD_eq_getElem?_getD (l := m.drop a), List.getElem?_drop, ← List.getD_eq_getElem?_getD] at f2
      obtain ⟨d', g', u'⟩ := clear_ok d (show a < n by omega) (show a + f < n by omega) f2 g u
      exact clears_ok k (a + 1) _ (by omega) d' g' u'
theorem idM_ent {n i j : Nat} (hi : i < n) (hj : j < n) : ((idM n).getD i []).getD j 0 = dl i j := by
  have e : (idM n).getD i [] = idRow n i := by
    unfold idM
    rw [List.getD_eq_getElem?_getD, List.getElem?_map, List.getElem?_range hi]; rfl
  rw [e]
  unfold idRow dl
  rw [List.getD_eq_getElem?_getD, List.getElem?_set]
  by_cases c : i = j
  · rw [if_pos c, if_pos c, if_pos (by rw [List.length_replicate]; omega)]; rfl
  · rw [if_neg c, if_neg c, List.getElem?_replicate, if_pos hj]; rfl
theorem idM_dim (n : Nat) : Dim n n (idM n) := ⟨idM_len n, idM_row⟩
theorem both_row {n : Nat} {m : Mx} (d : Dim n n m) {i : Nat} (hi : i < n) : (bothP m).getD i [] = m.getD i [] ++ (idM n).getD i [] := by
  unfold bothP
  rw [d.n, List.getD_eq_getElem?_getD, List.getElem?_zipWith, List.getElem?_eq_getElem (by rw [d.n]; exact hi), List.getElem?_eq_getElem (by rw [idM_len]; exact hi), List.getD_eq_getElem?_getD, List.getD_eq_getElem?_getD, List.getElem?_eq_getElem (by rw [d.n]; exact hi), List.getElem?_eq_getElem (by rw [idM_len]; exact hi)]; rfl
theorem both_dim {n : Nat} {m : Mx} (d : Dim n n m) : Dim n (n + n) (bothP m) := ⟨by rw [bothP_len]; exact d.n, fun r hr => by have := bothP_row d.w r hr; rw [d.n] at this; exact this⟩
theorem both_GI {n : Nat} {m : Mx} (d : Dim n n m) : GI n (ent m) (ent (bothP m)) := GI.start (fun i c hi hc => by
    unfold ent
    rw [both_row d hi, List.getD_eq_getElem?_getD, List.getElem?_append_left (by rw [d.row hi]; exact hc), ← List.getD_eq_getElem?_getD]) fun i j hi hj => by
    unfold ent
    rw [both_row d hi, List.getD_eq_getElem?_getD, List.getElem?_append_right (by rw [d.row hi]; omega), d.row hi, Nat.add_sub_cancel_left, ← List.getD_eq_getElem?_getD]
    exact idM_ent hi hj
/-- what is found is an inverse; where none is found there is none -/
theorem invP_ok {n : Nat} {m : Mx} (d : Dim n n m) : (∃ x, invP m = some x ∧ Dim n n x ∧ Inv2 n (ent x) (ent m)) ∨ (invP m = none ∧ ∃ (b : Nat) (v : Nat → UInt8), b < n ∧ v b = 1 ∧ ∀ i, i < n → S n (fun t => mulB (ent m i t) (v t)) = 0) := by
  unfold invP
  rw [d.n]
  rcases clears_ok n 0 (bothP m) (by omega) (both_dim d) (both_GI d) (fun i t hi ht => by omega) with ⟨m', e, d', g, u⟩ | ⟨e, x⟩
  · refine .inl ⟨m'.map fun x => x.drop n, by rw [e]; rfl, ⟨by rw [List.length_map]; exact d'.n, fun r hr => ?_⟩, ?_⟩
    · obtain ⟨q, hq, rfl⟩ := List.mem_map.1 hr
      rw [List.length_drop, d'.w q hq]; omega
    · have h := g.done u
      have E : ∀ i j, i < n → ent (m'.map fun x => x.drop n) i j = ent m' i (n + j) := fun i j hi => by
        unfold ent
        have : (m'.map fun x => x.drop n).getD i [] = (m'.getD i []).drop n := by
          rw [List.getD_eq_getElem?_getD, List.getElem?_map, List.getD_eq_getElem?_getD, List.getElem?_eq_getElem (by rw [d'.n]; exact hi)]; rfl
        rw [this, List.getD_eq_getElem?_getD, List.getElem?_drop, ← List.getD_eq_getElem?_getD]
      exact ⟨fun i j hi hj => by
        rw [← h.l i j hi hj]
        exact mm_congr (fun t ht => E i t hi) fun t _ => rfl, fun i j hi hj => by
        rw [← h.r i j hi hj]
        exact mm_congr (fun t _ => rfl) fun t ht => E t j ht⟩
  · exact .inr ⟨by rw [e]; rfl, x⟩
/-! ### products of lists -/
theorem S_left : ∀ (n : Nat) (f : Nat → UInt8), S (n + 1) f = f 0 ^^^ S n (fun t => f (t + 1))
  | 0, f => by unfold S S; rw [UInt8.zero_xor, UInt8.xor_zero]
  | n + 1, f => by
    rw [show S (n + 1 + 1) f = S (n + 1) f ^^^ f (n + 1) from rfl, S_left n f, UInt8.xor_assoc]; rfl
theorem rowP_getD : ∀ (x : List UInt8) (m : Mx) (out : List UInt8) (j : Nat), x.length = m.length → (∀ r ∈ m, r.length = out.length) → (rowP out x m).getD j 0 = out.getD j 0 ^^^ S x.length (fun t => mulB (x.getD t 0) ((m.getD t []).getD j 0))
  | [], m, out, j, _, _ => by unfold rowP S; exact UInt8.xor_zero.symm
  | a :: x, [], out, j, h, _ => by cases h
  | a :: x, r :: m, out, j, h, hr => by
    have h1 : out.length = r.length := (hr r List.mem_cons_self).symm
    show (rowP (addRow a out r) x m).getD j 0 = _
    rw [rowP_getD x m _ j (by simpa using h) (fun q hq => by rw [addRow_len h1]; exact hr q (List.mem_cons_of_mem _ hq)), addRow_getD h1, List.length_cons, S_left, UInt8.xor_assoc]; rfl
theorem mulM_ent {r n c : Nat} {a b : Mx} (da : Dim r n a) (db : Dim n c b) (hn : 0 < n) {i : Nat} (hi : i < r) (j : Nat) : ent (mulM a b) i j = mm n (ent a) (ent b) i j := by
  have hc : (hd b).length = c := by
    cases b with
    | nil => have := db.n; simp at this; omega
    | cons x l => exact db.w x List.mem_cons_self
  have hl : i < a.length := by rw [da.n]; exact hi
  have e : (mulM a b).getD i [] = rowP (List.replicate c 0) (a.getD i []) b := by
    unfold mulM
    rw [List.getD_eq_getElem?_getD, List.getElem?_map, List.getElem?_eq_getElem hl, mxD hl, hc]; rfl
  show ((mulM a b).getD i []).getD j 0 = _
  rw [e, rowP_getD _ _ _ _ (by rw [da.row hi, db.n]) (fun q hq => by rw [List.length_replicate]; exact db.w q hq), da.row hi]
  have z : (List.replicate c (0 : UInt8)).getD j 0 = 0 := by
    rw [List.getD_eq_getElem?_getD, List.getElem?_replicate]
    split <;> rfl
  rw [z, UInt8.zero_xor]; rfl
theorem mulM_dim {r n c : Nat} {a b : Mx} (da : Dim r n a) (db : Dim n c b) (hn : 0 < n) : Dim r c (mulM a b) := by
  have hc : (hd b).length = c := by
    cases b with
    | nil => have := db.n; simp at this; omega
    | cons x l => exact db.w x List.mem_cons_self
  refine ⟨by unfold mulM; rw [List.length_map]; exact da.n, fun q hq => ?_⟩
  obtain ⟨x, hx, rfl⟩ := List.mem_map.1 hq
  rw [rowP_len _ _ _ (fun p hp => by rw [List.length_replicate, hc]; exact db.w p hp), List.length_replicate, hc]
theorem mulM_assoc {r n m c : Nat} {a b d : Mx} (da : Dim r n a) (db : Dim n m b) (dd : Dim m c d) (hn : 0 < n) (hm : 0 < m) : mulM (mulM a b) d = mulM a (mulM b d) := by
  refine (mulM_dim (mulM_dim da db hn) dd hm).ext (mulM_dim da (mulM_dim db dd hm) hn) fun i j hi hj => ?_
  rw [mulM_ent (mulM_dim da db hn) dd hm hi, mulM_ent da (mulM_dim db dd hm) hn hi]
  rw [mm_congr (A' := mm n (ent a) (ent b)) (fun t _ => mulM_ent da db hn hi t) (fun t _ => rfl), mm_assoc]
  exact mm_congr (fun t _ => rfl) fun t ht => (mulM_ent db dd hm ht j).symm
theorem one_mulM {n c : Nat} {a : Mx} (da : Dim n c a) (hn : 0 < n) : mulM (idM n) a = a := by
  refine (mulM_dim (idM_dim n) da hn).ext da fun i j hi hj => ?_
  rw [mulM_ent (idM_dim n) da hn hi, mm_congr (A' := dl) (fun t ht => idM_ent hi ht) (fun t _ => rfl), dl_mm hi]
theorem mulM_one {n : Nat} {r : Nat} {a : Mx} (da : Dim r n a) (hn : 0 < n) : mulM a (idM n) = a := by
  refine (mulM_dim da (idM_dim n) hn).ext da fun i j hi hj => ?_
  rw [mulM_ent da (idM_dim n) hn hi, mm_congr (B' := dl) (fun t _ => rfl) (fun t ht => idM_ent ht hj), mm_dl hj]
theorem inv2_mulM {n : Nat} {x a : Mx} (dx : Dim n n x) (da : Dim n n a) (hn : 0 < n) (h : Inv2 n (ent x) (ent a)) : mulM x a = idM n ∧ mulM a x = idM n :=
  ⟨(mulM_dim dx da hn).ext (idM_dim n) fun i j hi hj => by rw [mulM_ent dx da hn hi, h.l i j hi hj]; exact (idM_ent hi hj).symm,
   (mulM_dim da dx hn).ext (idM_dim n) fun i j hi hj => by rw [mulM_ent da dx hn hi, h.r i j hi hj]; exact (idM_ent hi hj).symm⟩
theorem invP_left {n : Nat} {m x : Mx} (d : Dim n n m) (dx : Dim n n x) (hn : 0 < n) (h : mulM x m = idM n) : ∃ y, invP m = some y ∧ Dim n n y ∧ mulM y m = idM n ∧ mulM m y = idM n := by
  rcases invP_ok d with ⟨y, e, dy, i⟩ | ⟨e, b, v, hb, hv, h0⟩
  · exact ⟨y, e, dy, inv2_mulM dy d hn i⟩
  · exfalso
    have h1 : mm n (mm n (ent x) (ent m)) (fun t _ => v t) b 0 = v b := by
      rw [mm_congr (A' := dl) (B' := fun t _ => v t) (fun t ht => by rw [← mulM_ent dx d hn hb t, h]; exact idM_ent hb ht) (fun _ _ => rfl), dl_mm hb]
    rw [mm_assoc, mm_congr (A' := ent x) (B' := fun _ _ => 0) (fun _ _ => rfl) (fun t ht => h0 t ht), hv] at h1
    have h2 : mm n (ent x) (fun _ _ => 0) b 0 = 0 := by
      unfold mm
      rw [S_congr (g := fun _ => 0) (fun t _ => mulB_zero _), S_zero]
    rw [h2] at h1
    exact absurd h1 (by decide)
theorem invP_cases {n : Nat} {m : Mx} (d : Dim n n m) (hn : 0 < n) : (∃ y, invP m = some y ∧ Dim n n y ∧ mulM y m = idM n ∧ mulM m y = idM n) ∨ (invP m = none ∧ ∀ x, Dim n n x → mulM x m ≠ idM n) := by
  cases e : invP m with
  | some y =>
    rcases invP_ok d with ⟨y', e', dy, i⟩ | ⟨e', _⟩
    · rw [e] at e'
      cases e'
      exact .inl ⟨y, rfl, dy, inv2_mulM dy d hn i⟩
    · rw [e] at e'; cases e'
  | none => exact .inr ⟨rfl, fun x dx h => by
      obtain ⟨y, e', _⟩ := invP_left d dx hn h
      rw [e] at e'; cases e'⟩
theorem mulM_uniq {n : Nat} {m x y : Mx} (d : Dim n n m) (dx : Dim n n x) (dy : Dim n n y) (hn : 0 < n) (h1 : mulM x m = idM n) (h2 : mulM m y = idM n) : x = y := by
  have h := mulM_assoc dx d dy hn hn
  rw [h1, h2, one_mulM dy hn, mulM_one dx hn] at h
  exact h.symm
end Go.Proofs.Ytnjeafdbifcfhaa.Fw
