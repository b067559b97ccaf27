/- The field's tables, products, inverses. No condition. -/
import Derived.Test.YtnjeafdbifcfhaaDenHq
import Derived.Test.YtnjeafdbifcfhaaPbFF
import Derived.Test.YtnjeafdbifcfhaaPbFwGF
import Derived.KernelRfl
namespace Go.Proofs.Ytnjeafdbifcfhaa.Fw
open Go Den Fwd GF
set_option linter.unusedVariables false
set_option linter.unusedSimpArgs false
def fzero : List Value := List.replicate 255 (.int .u8 0) ++ List.replicate 256 (.int .i64 0)
def fcells : List Value := powL.map (fun n => .int .u8 (Int.ofNat n)) ++ logL.map (fun n => .int .i64 (Int.ofNat n))
def steps : Nat → Nat → Nat → List Value → List Value
  | 0, _, _, l => l
  | m + 1, x, n, l => steps m (xt x) (n + 1) ((l.set n (.int .u8 (Int.ofNat x))).set (255 + x) (.int .i64 (Int.ofNat n)))
theorem steps_all : steps 255 1 0 fzero = fcells := by kernel_rfl
theorem new_eq (k : Nat) (h : H) : field_New.f k h = (field_New.l0 k k (some ⟨h.next, 0, none⟩) (1 : Int) (0 : Int) (newR h 72 511 fzero)).bind fun w15 => some ((some ⟨h.next, 0, none⟩), w15.2) := by kernel_rfl
theorem ixs_ptr {b o m j : Nat} (h : j < m) : ixs 1 (some ⟨b, o, none⟩) m (Int.ofNat j) = some (.pointer (some ⟨b, o + j, none⟩)) := by
  have : ixs 1 (some ⟨b, o, none⟩) m (Int.ofNat j) = some (.pointer (some ⟨b, o + j * 1, none⟩)) := cond_eta _ _ _ (Nat.ble_eq_true_of_le (by show j + 1 ≤ m; omega))
  rw [this, Nat.mul_one]
theorem xor_i64 (a c : Nat) (ha : a < 65536) (hc : c < 65536) : intA .xor .i64 (Int.ofNat a) (Int.ofNat c) = some (.int .i64 (Int.ofNat (a ^^^ c))) := by
  rw [show intA .xor .i64 (Int.ofNat a) (Int.ofNat c) = cond (Nat.blt a (2 ^ 64) && Nat.blt c (2 ^ 64)) (some (.int .i64 (wrapA .i64 (Int.ofNat (Nat.xor a c))))) none from rfl]
  rw [cond_eta _ _ _ (by rw [Bool.and_eq_true]; exact ⟨Nat.ble_eq_true_of_le (by omega), Nat.ble_eq_true_of_le (by omega)⟩)]
  have : a ^^^ c < 2 ^ 16 := Nat.xor_lt_two_pow (by omega) (by omega)
  rw [wrap_in (n := Int.ofNat (Nat.xor a c)) (by show _ ≤ Int.ofNat (a ^^^ c); simp only [Int.ofNat_eq_natCast]; omega) (by show Int.ofNat (a ^^^ c) ≤ _; simp only [Int.ofNat_eq_natCast]; omega)]
  rfl
theorem xor_u8 (a b : UInt8) : intA .xor .u8 (Int.ofNat a.toNat) (Int.ofNat b.toNat) = some (.int .u8 (Int.ofNat (a ^^^ b).toNat)) := by
  have ha := a.toNat_lt
  have hb := b.toNat_lt
  show cond (Nat.blt a.toNat (2 ^ 8) && Nat.blt b.toNat (2 ^ 8)) (some (Value.int .u8 (wrapA .u8 (Int.ofNat (Nat.xor a.toNat b.toNat))))) none = _
  rw [cond_eta _ _ _ (by rw [Bool.and_eq_true]; exact ⟨Nat.ble_eq_true_of_le (by omega), Nat.ble_eq_true_of_le (by omega)⟩)]
  have e : Nat.xor a.toNat b.toNat = (a ^^^ b).toNat := by rw [UInt8.toNat_xor]; rfl
  have hc := (a ^^^ b).toNat_lt
  rw [e, wrap_u8_in (by simp) (by simp only [Int.ofNat_eq_natCast]; omega)]
def FldR (h : H) (fb : Nat) : Prop := Is h fb 72 511 fcells
theorem new_l0 (k : Nat) {fb : Nat} : ∀ m n x h l fuel, m + n = 255 → m < fuel → x < 256 → WF h → Is h fb 72 511 l → l.length = 511 →
    ∃ h', field_New.l0 k fuel (some ⟨fb, 0, none⟩) (Int.ofNat x) (Int.ofNat n) h = some ((), h') ∧ Ch (fun b => b = fb) h h' ∧ Is h' fb 72 511 (steps m x n l)
  | 0, n, x, h, l, 0, hm, hf, _, _, _, _ => by omega
  | 0, n, x, h, l, fuel + 1, hm, hf, hx, w, I, hl => by
    rw [field_New.l0_succ, decide_eq_false (show ¬ Int.ofNat n < (255 : Int) by simp only [Int.ofNat_eq_natCast]; omega), cond_false]
    exact ⟨h, rfl, Ch.refl w, I⟩
  | m + 1, n, x, h, l, 0, hm, hf, _, _, _, _ => by omega
  | m + 1, n, x, h, l, fuel + 1, hm, hf, hx, w, I, hl => by
    rw [field_New.l0_succ, decide_eq_true (show Int.ofNat n < (255 : Int) by simp only [Int.ofNat_eq_natCast]; omega), cond_true]
    simp only [nilA, asP_ptr, Option.bind_some, fadd, Nat.zero_add]
    rw [ixs_ptr (show n < 255 by omega)]
    simp only [asP_ptr, Option.bind_some, Nat.zero_add]
    rw [wrap_u8_in (n := Int.ofNat x) (by simp) (by simp only [Int.ofNat_eq_natCast]; omega)]
    obtain ⟨h1, a1, a2, a3, a4⟩ := I.set w n (.int .u8 (Int.ofNat x)) (by omega) rfl
    rw [a1]
    simp only [Option.bind_some]
    rw [ixs_ptr (show x < 256 by omega)]
    simp only [asP_ptr, Option.bind_some]
    obtain ⟨h2, b1, b2, b3, b4⟩ := a4.set a2.wf (255 + x) (.int .i64 (Int.ofNat n)) (by rw [List.length_set]; omega) rfl
    rw [b1]
    simp only [Option.bind_some]
    rw [show wrapA .i64 (Int.ofNat x * 2 ^ 1) = Int.ofNat (2 * x) by rw [wrap_in (by simp only [Int.ofNat_eq_natCast]; omega) (by simp only [Int.ofNat_eq_natCast]; omega)]; simp only [Int.ofNat_eq_natCast]; omega]
    have J : ((cond (decide (Int.ofNat (2 * x) > (255 : Int))) ((asI .i64 (intA .xor .i64 (Int.ofNat (2 * x)) (285 : Int))).bind fun n13 => some (n13, h2)) (some (Int.ofNat (2 * x), h2)) : Option (Int × H))) = some (Int.ofNat (xt x), h2) := by
      unfold xt
      by_cases c : 2 * x > 255
      · rw [decide_eq_true (show Int.ofNat (2 * x) > (255 : Int) by simp only [Int.ofNat_eq_natCast]; omega), cond_true, if_pos c, show (285 : Int) = Int.ofNat 285 from rfl, xor_i64 _ _ (by omega) (by omega), asI_int]; rfl
      · rw [decide_eq_false (show ¬ Int.ofNat (2 * x) > (255 : Int) by simp only [Int.ofNat_eq_natCast]; omega), cond_false, if_neg c]
    rw [J]
    simp only [Option.bind_some]
    rw [wrap_succ (by omega)]
    obtain ⟨h3, c1, c2, c3⟩ := new_l0 k m (n + 1) (xt x) h2 _ fuel (by omega) (by omega) (xt_lt x hx) b2.wf b4 (by rw [List.length_set, List.length_set]; exact hl)
    exact ⟨h3, c1, (a2.trans b2 fun _ _ f => f).trans c2 fun _ _ f => f, c3⟩
theorem new_f (k : Nat) (hk : 1000 < k) {h : H} (w : WF h) : ∃ h', field_New.f k h = some (some ⟨h.next, 0, none⟩, h') ∧ Ch0 h h' ∧ FldR h' h.next := by
  rw [new_eq]
  obtain ⟨z1, z2, z3⟩ := newR_ok w 72 511 fzero
  obtain ⟨h', a1, a2, a3⟩ := new_l0 k 255 0 1 _ fzero k rfl (by omega) (by decide) z1.wf z3 (by unfold fzero; rw [List.length_append, List.length_replicate, List.length_replicate])
  rw [show (1 : Int) = Int.ofNat 1 from rfl, show (0 : Int) = Int.ofNat 0 from rfl, a1]
  rw [steps_all] at a3
  exact ⟨h', rfl, z1.trans a2 fun x hx f => by omega, a3⟩
theorem FldR.keep {h h' : H} {fb : Nat} (k : h'.get fb = h.get fb) (r : FldR h fb) : FldR h' fb := Is.keep k r
theorem FldR.stay {h h' : H} {fb : Nat} (w : WF h) (c : Ch0 h h') (r : FldR h fb) : FldR h' fb := Is.stay w c r
theorem FldR.exp {h : H} {fb : Nat} (r : FldR h fb) {n : Nat} (hn : n < 255) : ldc h (some ⟨fb, n, none⟩) = some (.int .u8 (Int.ofNat (X n))) := by
  rw [Is.ldc r]
  unfold fcells
  rw [List.getElem?_append_left (by rw [List.length_map, powL_len]; exact hn), List.getElem?_map]
  have : powL[n]? = some (X n) := by
    unfold X
    rw [List.getD_eq_getElem?_getD, List.getElem?_eq_getElem (by rw [powL_len]; exact hn)]; rfl
  rw [this]; rfl
theorem FldR.log {h : H} {fb : Nat} (r : FldR h fb) {a : Nat} (ha : a < 256) : ldc h (some ⟨fb, 255 + a, none⟩) = some (.int .i64 (Int.ofNat (L a))) := by
  rw [Is.ldc r]
  unfold fcells
  have hp : (powL.map fun n => Value.int .u8 (Int.ofNat n)).length = 255 := by rw [List.length_map, powL_len]
  rw [List.getElem?_append_right (by rw [hp]; omega), hp, Nat.add_sub_cancel_left, List.getElem?_map]
  have : logL[a]? = some (L a) := by
    unfold L
    rw [List.getD_eq_getElem?_getD, List.getElem?_eq_getElem (by rw [logL_len]; exact ha)]; rfl
  rw [this]; rfl
/-! ### bytes -/
def mulB (x y : UInt8) : UInt8 := UInt8.ofNat (gm x.toNat y.toNat)
theorem mulB_nat (x y : UInt8) : (mulB x y).toNat = gm x.toNat y.toNat := by
  unfold mulB
  rw [UInt8.toNat_ofNat']
  exact Nat.mod_eq_of_lt (gm_lt _ _)
def invB (x : UInt8) : UInt8 := UInt8.ofNat (gi x.toNat)
theorem invB_nat (x : UInt8) : (invB x).toNat = gi x.toNat := by
  unfold invB
  rw [UInt8.toNat_ofNat']
  exact Nat.mod_eq_of_lt (gi_bd _).2
theorem nz (x : UInt8) (h : x ≠ 0) : 0 < x.toNat := by
  rcases Nat.eq_zero_or_pos x.toNat with e | e
  · exact absurd (UInt8.toNat_inj.1 (by rw [e]; rfl)) h
  · exact e
theorem mulB_comm (x y : UInt8) : mulB x y = mulB y x := by unfold mulB; rw [gm_comm]
theorem mulB_assoc (x y z : UInt8) : mulB x (mulB y z) = mulB (mulB x y) z := by
  apply UInt8.toNat_inj.1
  rw [mulB_nat, mulB_nat, mulB_nat, mulB_nat, gm_assoc _ _ _ x.toNat_lt y.toNat_lt z.toNat_lt]
theorem mulB_add (x y z : UInt8) : mulB x (y ^^^ z) = mulB x y ^^^ mulB x z := by
  apply UInt8.toNat_inj.1
  rw [mulB_nat, UInt8.toNat_xor, UInt8.toNat_xor, mulB_nat, mulB_nat, gm_add _ _ _ x.toNat_lt y.toNat_lt z.toNat_lt]
theorem add_mulB (x y z : UInt8) : mulB (x ^^^ y) z = mulB x z ^^^ mulB y z := by rw [mulB_comm, mulB_add, mulB_comm z x, mulB_comm z y]
theorem mulB_zero (x : UInt8) : mulB x 0 = 0 := by
  apply UInt8.toNat_inj.1
  rw [mulB_nat]; exact gm_zero_r _
theorem zero_mulB (x : UInt8) : mulB 0 x = 0 := by rw [mulB_comm, mulB_zero]
theorem mulB_one (x : UInt8) : mulB x 1 = x := by
  apply UInt8.toNat_inj.1
  rw [mulB_nat]; exact gm_one _ x.toNat_lt
theorem one_mulB (x : UInt8) : mulB 1 x = x := by rw [mulB_comm, mulB_one]
theorem mulB_inv (x : UInt8) (h : x ≠ 0) : mulB x (invB x) = 1 := by
  apply UInt8.toNat_inj.1
  rw [mulB_nat, invB_nat]; exact gm_gi _ (nz x h) x.toNat_lt
/-! ### the functions -/
theorem add_f (k : Nat) (p : Option Addr) (x y : UInt8) (h : H) : field_Field_Add.f k p (Int.ofNat x.toNat) (Int.ofNat y.toNat) h = some (Int.ofNat (x ^^^ y).toNat, h) := by
  unfold field_Field_Add.f
  rw [xor_u8, asI_int]; rfl
theorem z_eq (x : UInt8) : (Int.ofNat x.toNat == (0 : Int)) = decide (x = 0) := by
  by_cases c : x = 0
  · subst c; rfl
  · have := nz x c
    rw [decide_eq_false c, beq_eq_false_iff_ne]
    simp only [Int.ofNat_eq_natCast]; omega
theorem mul_f (k : Nat) {h : H} {fb : Nat} (r : FldR h fb) (x y : UInt8) : field_Field_Mul.f k (some ⟨fb, 0, none⟩) (Int.ofNat x.toNat) (Int.ofNat y.toNat) h = some (Int.ofNat (mulB x y).toNat, h) := by
  unfold field_Field_Mul.f
  rw [z_eq, z_eq]
  by_cases cx : x = 0
  · subst cx
    rw [zero_mulB]; rfl
  rw [decide_eq_false cx, cond_false]
  by_cases cy : y = 0
  · subst cy
    rw [mulB_zero]; rfl
  rw [decide_eq_false cy]
  simp only [Option.bind_some, cond_false, nilA, asP_ptr, fadd, Nat.zero_add]
  have hx := L_bd _ (nz x cx) x.toNat_lt
  have hy := L_bd _ (nz y cy) y.toNat_lt
  rw [ixs_ptr (show x.toNat < 256 from x.toNat_lt)]
  simp only [Option.bind_some, asP_ptr]
  rw [r.log x.toNat_lt]
  simp only [asI_int, Option.bind_some]
  rw [ixs_ptr (show y.toNat < 256 from y.toNat_lt)]
  simp only [Option.bind_some, asP_ptr]
  rw [r.log y.toNat_lt]
  simp only [asI_int, Option.bind_some]
  rw [wrap_in (n := Int.ofNat (L x.toNat) + Int.ofNat (L y.toNat)) (by simp only [Int.ofNat_eq_natCast]; omega) (by simp only [Int.ofNat_eq_natCast]; omega)]
  rw [show (Int.ofNat (L x.toNat) + Int.ofNat (L y.toNat)).tmod (255 : Int) = Int.ofNat ((L x.toNat + L y.toNat) % 255) from rfl]
  have hm : (L x.toNat + L y.toNat) % 255 < 255 := Nat.mod_lt _ (by decide)
  rw [ixs_ptr hm]
  simp only [Option.bind_some, asP_ptr, Nat.zero_add]
  rw [r.exp hm, asI_int]
  have : mulB x y = UInt8.ofNat (X ((L x.toNat + L y.toNat) % 255)) := by
    unfold mulB gm
    rw [if_neg]
    intro f
    have h1 := nz x cx
    have h2 := nz y cy
    omega
  have e2 : (mulB x y).toNat = X ((L x.toNat + L y.toNat) % 255) := by
    rw [this, UInt8.toNat_ofNat']
    exact Nat.mod_eq_of_lt (X_bd _ hm).2.1
  rw [e2]; rfl
theorem inv_f (k : Nat) {h : H} {fb : Nat} (r : FldR h fb) (x : UInt8) (hx : x ≠ 0) : field_Field_Inv.f k (some ⟨fb, 0, none⟩) (Int.ofNat x.toNat) h = some ((Int.ofNat (invB x).toNat, true), h) := by
  unfold field_Field_Inv.f
  rw [z_eq, decide_eq_false hx, cond_false]
  simp only [nilA, asP_ptr, Option.bind_some, fadd, Nat.zero_add]
  have hL := L_bd _ (nz x hx) x.toNat_lt
  rw [ixs_ptr (show x.toNat < 256 from x.toNat_lt)]
  simp only [Option.bind_some, asP_ptr]
  rw [r.log x.toNat_lt]
  simp only [asI_int, Option.bind_some]
  rw [wrap_in (n := (255 : Int) - Int.ofNat (L x.toNat)) (by simp only [Int.ofNat_eq_natCast]; omega) (by simp only [Int.ofNat_eq_natCast]; omega)]
  rw [show ((255 : Int) - Int.ofNat (L x.toNat)) = Int.ofNat (255 - L x.toNat) by simp only [Int.ofNat_eq_natCast]; omega]
  rw [show (Int.ofNat (255 - L x.toNat)).tmod (255 : Int) = Int.ofNat ((255 - L x.toNat) % 255) from rfl]
  have hm : (255 - L x.toNat) % 255 < 255 := Nat.mod_lt _ (by decide)
  rw [ixs_ptr hm]
  simp only [Option.bind_some, asP_ptr, Nat.zero_add]
  rw [r.exp hm, asI_int]
  have e2 : (invB x).toNat = X ((255 - L x.toNat) % 255) := by rw [invB_nat]; rfl
  rw [e2]; rfl
end Go.Proofs.Ytnjeafdbifcfhaa.Fw
