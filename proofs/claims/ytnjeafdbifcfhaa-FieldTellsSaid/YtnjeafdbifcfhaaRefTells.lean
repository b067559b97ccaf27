/- The reference's products, inverses, powers and logarithms, as printed, are those of YtnjeafdbifcfhaaGF. No condition. -/
import Derived.Test.YtnjeafdbifcfhaaPFieldTellsx9
import Derived.Test.YtnjeafdbifcfhaaPFieldTellsx10
import Derived.Test.YtnjeafdbifcfhaaPFieldTellsx11
import Derived.Test.YtnjeafdbifcfhaaPFieldTellsx12
import Derived.Test.YtnjeafdbifcfhaaFld
import Derived.Laws.Bits64
namespace Go.Proofs.Ytnjeafdbifcfhaa.RefTells
open Go.RowKit Go.Proofs.Ytnjeafdbifcfhaa.GF Go.Proofs.Ytnjeafdbifcfhaa.Fld Go.Proofs.Ytnjeafdbifcfhaa.PFieldTells Go.Proofs.YtnjeafdbifcfhaaW.PrintWords Go.Proofs.YtnjeafdbifcfhaaW.PrintLast Go.Proofs.YtnjeafdbifcfhaaW.PrintMore
set_option linter.unusedVariables false
set_option linter.unusedSimpArgs false

theorem wrap_in {n : Int} (h0 : -9223372036854775808 ≤ n) (h1 : n ≤ 9223372036854775807) : wrap64 n = n := by
  unfold wrap64
  omega
theorem bit_split : (List.range 256).all (fun b => (List.range 8).all (fun j => b % 2 ^ (j + 1) == (b % 2 ^ j) ^^^ (if b / 2 ^ j % 2 = 1 then 2 ^ j else 0) && decide (b % 2 ^ j < 256))) = true := by decide +kernel
theorem split_at (b j : Nat) (hb : b < 256) (hj : j < 8) : b % 2 ^ (j + 1) = (b % 2 ^ j) ^^^ (if b / 2 ^ j % 2 = 1 then 2 ^ j else 0) := by
  have := List.all_eq_true.1 (List.all_eq_true.1 bit_split b (List.mem_range.2 hb)) j (List.mem_range.2 hj)
  simp only [Bool.and_eq_true, beq_iff_eq] at this
  exact this.1
theorem pow_ok : (List.range 8).all (fun j => decide (0 < 2 ^ j ∧ 2 ^ j < 256) && L (2 ^ j) == j) = true := by decide +kernel
theorem pow_at (j : Nat) (hj : j < 8) : 0 < 2 ^ j ∧ 2 ^ j < 256 ∧ L (2 ^ j) = j := by
  have := List.all_eq_true.1 pow_ok j (List.mem_range.2 hj)
  simp only [Bool.and_eq_true, decide_eq_true_eq, beq_iff_eq] at this
  exact ⟨this.1.1, this.1.2, this.2⟩
theorem gm_pow (a j : Nat) (ha : a < 256) (hj : j < 8) : gm a (2 ^ j) = xs j a := by
  have h := pow_at j hj
  rw [gm_comm, gm_xs (2 ^ j) a h.1 h.2.1 ha, h.2.2]
theorem acc_next (a b j : Nat) (ha : a < 256) (hb : b < 256) (hj : j < 8) : gm a (b % 2 ^ (j + 1)) = if b / 2 ^ j % 2 = 1 then gm a (b % 2 ^ j) ^^^ xs j a else gm a (b % 2 ^ j) := by
  have hlt : b % 2 ^ j < 256 := Nat.lt_of_le_of_lt (Nat.mod_le _ _) hb
  rw [split_at b j hb hj]
  split
  · rw [gm_add a _ _ ha hlt (pow_at j hj).2.1, gm_pow a j ha hj]
  · rw [Nat.xor_zero]
theorem bit_eq (b j : Nat) (hb : b < 256) (hj : j < 8) : Go.bits .and .u8 (shr .u8 (b : Int) (IntKind.u64.wrap (j : Int))) 1 = ((b / 2 ^ j % 2 : Nat) : Int) := by
  have h1 : IntKind.u64.wrap (j : Int) = (j : Int) := by rw [IntKind.wrap_u64]; omega
  rw [h1]
  unfold shr
  rw [Int.toNat_natCast, Nat.min_eq_left (by simp only [IntKind.bits]; omega)]
  rw [show (b : Int) / 2 ^ j = ((b / 2 ^ j : Nat) : Int) by simp]
  have h2 : b / 2 ^ j < 256 := Nat.lt_of_le_of_lt (Nat.div_le_self _ _) hb
  have h3 := u8_and_nat (b / 2 ^ j) 1 h2 (by omega)
  rw [show (1 : Int) = ((1 : Nat) : Int) from rfl, h3, Nat.and_one_is_mod]
theorem mul_l0 (a b : Nat) (ha : a < 256) (hb : b < 256) (d : Nat) : ∀ (k j : Nat), j ≤ 8 → 8 - j = d → d < k →
    corbelref3_Mul.l0 k (b : Int) ((xs j a : Nat) : Int) ((gm a (b % 2 ^ j) : Nat) : Int) (j : Int) = some ((gm a b : Nat) : Int) := by
  induction d with
  | zero =>
    intro k j hj hd hk
    obtain ⟨k, rfl⟩ : ∃ m, k = m + 1 := ⟨k - 1, by omega⟩
    obtain rfl : j = 8 := by omega
    simp only [corbelref3_Mul.l0]
    rw [if_neg (by omega), Nat.mod_eq_of_lt (show b < 2 ^ 8 by omega)]
    congr 1
    have := gm_lt a b
    omega
  | succ d ih =>
    intro k j hj hd hk
    obtain ⟨k, rfl⟩ : ∃ m, k = m + 1 := ⟨k - 1, by omega⟩
    have hj8 : j < 8 := by omega
    have hx := xs_lt j a ha
    have hg := gm_lt a (b % 2 ^ j)
    have hu : IntKind.u64.wrap (j : Int) = (j : Int) := by rw [IntKind.wrap_u64]; omega
    have step := ih k (j + 1) (by omega) (by omega) (by omega)
    rw [acc_next a b j ha hb hj8] at step
    have hw : wrap64 ((j : Int) + 1) = ((j + 1 : Nat) : Int) := by rw [wrap_in (by omega) (by omega)]; omega
    have hw2 : wrap64 (((xs j a : Nat) : Int) * 2) = ((2 * xs j a : Nat) : Int) := by rw [wrap_in (by omega) (by omega)]; omega
    have hxt : ((xs (j + 1) a : Nat) : Int) = if ((2 * xs j a : Nat) : Int) > 255 then Go.bits .xor .i64 ((2 * xs j a : Nat) : Int) 285 else ((2 * xs j a : Nat) : Int) := by
      rw [xs, xt]
      by_cases h : 2 * xs j a > 255
      · rw [if_pos h, if_pos (by omega), show (285 : Int) = ((285 : Nat) : Int) from rfl, xor_i64 _ _ (by omega) (by omega)]
      · rw [if_neg h, if_neg (by omega)]
    simp only [corbelref3_Mul.l0]
    rw [if_pos (by omega), if_pos (by rw [hu]; omega), bit_eq b j hb hj8, hw, hw2]
    by_cases hbit : b / 2 ^ j % 2 = 1
    · rw [if_pos hbit] at step
      rw [if_pos (by omega), xor_i64 _ _ (by omega) (by omega)]
      by_cases h : ((2 * xs j a : Nat) : Int) > 255
      · rw [if_pos h] at hxt ⊢
        rw [← hxt]
        exact step
      · rw [if_neg h] at hxt ⊢
        rw [← hxt]
        exact step
    · rw [if_neg hbit] at step
      rw [if_neg (by omega)]
      by_cases h : ((2 * xs j a : Nat) : Int) > 255
      · rw [if_pos h] at hxt ⊢
        rw [← hxt]
        exact step
      · rw [if_neg h] at hxt ⊢
        rw [← hxt]
        exact step
theorem mul_f (k a b : Nat) (ha : a < 256) (hb : b < 256) (hk : 8 < k) : corbelref3_Mul.f k (a : Int) (b : Int) = some ((gm a b : Nat) : Int) := by
  have h := mul_l0 a b ha hb 8 k 0 (by omega) (by omega) hk
  unfold corbelref3_Mul.f
  rw [wrap_in (by omega) (by omega)]
  simp only [xs, Nat.pow_zero, Nat.mod_one, gm_zero_r] at h
  exact h
theorem inv_l0 (a : Nat) (h0 : 0 < a) (ha : a < 256) (d : Nat) : ∀ (k j : Nat), 1 ≤ j → j ≤ gi a → gi a - j = d → d + 9 < k →
    corbelref3_Inv.l0 k (a : Int) (j : Int) = some (((gi a : Nat) : Int), true) := by
  have hg := gi_bd a
  induction d with
  | zero =>
    intro k j h1 h2 hd hk
    obtain ⟨k, rfl⟩ : ∃ m, k = m + 1 := ⟨k - 1, by omega⟩
    have e : j = gi a := by omega
    rw [e]
    simp only [corbelref3_Inv.l0]
    rw [if_pos (by omega), show ((gi a : Nat) : Int) % 256 = ((gi a : Nat) : Int) by omega, mul_f k a (gi a) ha hg.2 (by omega), gm_gi a h0 ha]
    simp
  | succ d ih =>
    intro k j h1 h2 hd hk
    obtain ⟨k, rfl⟩ : ∃ m, k = m + 1 := ⟨k - 1, by omega⟩
    simp only [corbelref3_Inv.l0]
    rw [if_pos (by omega), show (j : Int) % 256 = (j : Int) by omega, mul_f k a j ha (by omega) (by omega)]
    simp only [Option.bind_some]
    rw [if_neg, wrap_in (by omega) (by omega)]
    · exact ih k (j + 1) (by omega) (by omega) (by omega) (by omega)
    · intro h
      have := gi_unique a j h0 ha (by omega) (by omega)
      omega
theorem inv_f (a : Nat) (h0 : 0 < a) (ha : a < 256) : corbelref3_Inv.f 300 (a : Int) = some (((gi a : Nat) : Int), true) := by
  have hg := gi_bd a
  have h := inv_l0 a h0 ha (gi a - 1) 300 1 (by omega) (by omega) (by omega) (by omega)
  rw [show ((1 : Nat) : Int) = 1 from rfl] at h
  unfold corbelref3_Inv.f
  exact h
theorem inv_f0 : corbelref3_Inv.f 300 0 = some (0, false) := by
  have h : ∀ (d k j : Nat), 1 ≤ j → j ≤ 256 → 256 - j = d → d + 9 < k → corbelref3_Inv.l0 k 0 (j : Int) = some (0, false) := by
    intro d
    induction d with
    | zero =>
      intro k j h1 h2 hd hk
      obtain ⟨k, rfl⟩ : ∃ m, k = m + 1 := ⟨k - 1, by omega⟩
      simp only [corbelref3_Inv.l0]
      rw [if_neg (by omega)]
    | succ d ih =>
      intro k j h1 h2 hd hk
      obtain ⟨k, rfl⟩ : ∃ m, k = m + 1 := ⟨k - 1, by omega⟩
      have hm := mul_f k 0 j (by omega) (by omega) (by omega)
      rw [gm_zero_l] at hm
      simp only [corbelref3_Inv.l0]
      rw [if_pos (by omega), show (j : Int) % 256 = (j : Int) by omega]
      rw [show ((0 : Nat) : Int) = 0 from rfl] at hm
      rw [hm]
      simp only [Option.bind_some]
      rw [if_neg (by omega), wrap_in (by omega) (by omega)]
      exact ih k (j + 1) (by omega) (by omega) (by omega) (by omega)
  have h2 := h 255 300 1 (by omega) (by omega) (by omega) (by omega)
  rw [show ((1 : Nat) : Int) = 1 from rfl] at h2
  unfold corbelref3_Inv.f
  exact h2
theorem gm_two' (n : Nat) (h : n < 255) : gm (X n) 2 = X ((n + 1) % 255) := by
  have h1 : X 1 = 2 := by decide +kernel
  rw [← h1, gm_X n 1 h (by omega)]
theorem log_l0 (a : Nat) (h0 : 0 < a) (ha : a < 256) (d : Nat) : ∀ (k j : Nat), j ≤ L a → L a - j = d → d + 9 < k →
    corbelref3_Log.l0 k (a : Int) ((X j : Nat) : Int) (j : Int) = some (((L a : Nat) : Int), true) := by
  have hl := L_bd a h0 ha
  induction d with
  | zero =>
    intro k j h2 hd hk
    obtain ⟨k, rfl⟩ : ∃ m, k = m + 1 := ⟨k - 1, by omega⟩
    have e : j = L a := by omega
    rw [e]
    simp only [corbelref3_Log.l0]
    rw [if_pos (by omega), hl.1, if_pos rfl]
  | succ d ih =>
    intro k j h2 hd hk
    obtain ⟨k, rfl⟩ : ∃ m, k = m + 1 := ⟨k - 1, by omega⟩
    have hx := X_bd j (by omega)
    have hm := mul_f k (X j) 2 hx.2.1 (by omega) (by omega)
    rw [gm_two' j (by omega), Nat.mod_eq_of_lt (show j + 1 < 255 by omega)] at hm
    simp only [corbelref3_Log.l0]
    rw [if_pos (by omega), if_neg]
    · rw [show ((2 : Nat) : Int) = 2 from rfl] at hm
      rw [hm]
      simp only [Option.bind_some]
      rw [wrap_in (by omega) (by omega)]
      exact ih k (j + 1) (by omega) (by omega) (by omega)
    · intro h
      have h3 : X j = a := by omega
      rw [h3] at hx
      omega
theorem log_f (a : Nat) (h0 : 0 < a) (ha : a < 256) : corbelref3_Log.f 300 (a : Int) = some (((L a : Nat) : Int), true) := by
  have h1 : X 0 = 1 := by decide +kernel
  have h := log_l0 a h0 ha (L a) 300 0 (by omega) (by omega) (by have := (L_bd a h0 ha).2; omega)
  rw [h1, show ((1 : Nat) : Int) = 1 from rfl, show ((0 : Nat) : Int) = 0 from rfl] at h
  unfold corbelref3_Log.f
  exact h
theorem log_f0 : corbelref3_Log.f 300 0 = some (0, false) := by
  have h : ∀ (d k j : Nat), j ≤ 255 → 255 - j = d → d + 9 < k → corbelref3_Log.l0 k 0 ((X (j % 255) : Nat) : Int) (j : Int) = some (0, false) := by
    intro d
    induction d with
    | zero =>
      intro k j h2 hd hk
      obtain ⟨k, rfl⟩ : ∃ m, k = m + 1 := ⟨k - 1, by omega⟩
      simp only [corbelref3_Log.l0]
      rw [if_neg (by omega)]
    | succ d ih =>
      intro k j h2 hd hk
      obtain ⟨k, rfl⟩ : ∃ m, k = m + 1 := ⟨k - 1, by omega⟩
      rw [Nat.mod_eq_of_lt (show j < 255 by omega)]
      have hx := X_bd j (by omega)
      have hm := mul_f k (X j) 2 hx.2.1 (by omega) (by omega)
      rw [gm_two' j (by omega), show ((2 : Nat) : Int) = 2 from rfl] at hm
      simp only [corbelref3_Log.l0]
      rw [if_pos (by omega), if_neg (by omega), hm]
      simp only [Option.bind_some]
      rw [wrap_in (by omega) (by omega)]
      exact ih k (j + 1) (by omega) (by omega) (by omega)
  have h1 : X 0 = 1 := by decide +kernel
  have := h 255 300 0 (by omega) (by omega) (by omega)
  rw [Nat.zero_mod, h1, show ((1 : Nat) : Int) = 1 from rfl, show ((0 : Nat) : Int) = 0 from rfl] at this
  unfold corbelref3_Log.f
  exact this
theorem exp_l0 (n : Nat) (hn : n < 255) (d : Nat) : ∀ (k j : Nat), j ≤ n → n - j = d → d + 9 < k →
    corbelref3_Exp.l0 k (n : Int) ((X j : Nat) : Int) (j : Int) = some ((X n : Nat) : Int) := by
  induction d with
  | zero =>
    intro k j h2 hd hk
    obtain ⟨k, rfl⟩ : ∃ m, k = m + 1 := ⟨k - 1, by omega⟩
    obtain rfl : j = n := by omega
    simp only [corbelref3_Exp.l0]
    rw [if_neg (by omega)]
  | succ d ih =>
    intro k j h2 hd hk
    obtain ⟨k, rfl⟩ : ∃ m, k = m + 1 := ⟨k - 1, by omega⟩
    have hx := X_bd j (by omega)
    have hm := mul_f k (X j) 2 hx.2.1 (by omega) (by omega)
    rw [gm_two' j (by omega), Nat.mod_eq_of_lt (show j + 1 < 255 by omega), show ((2 : Nat) : Int) = 2 from rfl] at hm
    simp only [corbelref3_Exp.l0]
    rw [if_pos (by omega), hm]
    simp only [Option.bind_some]
    rw [wrap_in (by omega) (by omega)]
    exact ih k (j + 1) (by omega) (by omega) (by omega)
theorem exp_f (n : Int) : corbelref3_Exp.f 301 n = some (eI n) := by
  have h1 : X 0 = 1 := by decide +kernel
  have key : ∀ m : Nat, m < 255 → corbelref3_Exp.j0 301 (m : Int) = some ((X m : Nat) : Int) := by
    intro m hm
    simp only [corbelref3_Exp.j0]
    have h := exp_l0 m hm m 300 0 (by omega) (by omega) (by omega)
    rw [h1, show ((1 : Nat) : Int) = 1 from rfl, show ((0 : Nat) : Int) = 0 from rfl] at h
    exact h
  have t1 := Int.tmod_lt_of_pos n (show (0 : Int) < 255 by omega)
  have t2 : -255 < n.tmod 255 := by have := Int.lt_tmod_of_pos n (show (0 : Int) < 255 by omega); omega
  have t3 := tmod_emod n
  unfold corbelref3_Exp.f eI
  rw [ep_eq]
  split
  · rename_i hneg
    have h := key (n.tmod 255 + 255).toNat (by omega)
    rw [Int.toNat_of_nonneg (by omega)] at h
    rw [wrap_in (by omega) (by omega), h, show (n.tmod 255 + 255).toNat = (n % 255).toNat by omega]
  · rename_i hpos
    have h := key (n.tmod 255).toNat (by omega)
    rw [Int.toNat_of_nonneg (by omega)] at h
    rw [h, show (n.tmod 255).toNat = (n % 255).toNat by omega]
theorem refInv (a : Int) (w : World) (ha : By a) (h0 : a ≠ 0) : Calls Try.prog 25 #[.int .u8 a] w fun e w' => e = .returned (.tuple #[.int .u8 (iI a), .bool true]) ∧ Drawn0 w w' := by
  obtain ⟨x, rfl, hx⟩ := ha.nat
  have h := inv_f x (by omega) hx
  rw [← iI_nat] at h
  exact corbelref3_Inv.calls 300 (x : Int) _ _ w h
theorem refInv0 (w : World) : Calls Try.prog 25 #[.int .u8 0] w fun e w' => e = .returned (.tuple #[.int .u8 0, .bool false]) ∧ Drawn0 w w' :=
  corbelref3_Inv.calls 300 0 _ _ w inv_f0
theorem refLog (a : Int) (w : World) (ha : By a) (h0 : a ≠ 0) : Calls Try.prog 27 #[.int .u8 a] w fun e w' => e = .returned (.tuple #[.int .i64 (lI a), .bool true]) ∧ Drawn0 w w' := by
  obtain ⟨x, rfl, hx⟩ := ha.nat
  have h := log_f x (by omega) hx
  rw [← lI_nat] at h
  exact corbelref3_Log.calls 300 (x : Int) _ _ w h
theorem refLog0 (w : World) : Calls Try.prog 27 #[.int .u8 0] w fun e w' => e = .returned (.tuple #[.int .i64 0, .bool false]) ∧ Drawn0 w w' :=
  corbelref3_Log.calls 300 0 _ _ w log_f0
theorem refMul (a b : Int) (w : World) (ha : By a) (hb : By b) : Calls Try.prog 26 #[.int .u8 a, .int .u8 b] w fun e w' => e = .returned (.int .u8 (gI a b)) ∧ Drawn0 w w' := by
  obtain ⟨x, rfl, hx⟩ := ha.nat
  obtain ⟨y, rfl, hy⟩ := hb.nat
  have h := mul_f 20 x y hx hy (by omega)
  rw [← gI_nat] at h
  exact corbelref3_Mul.calls 20 (x : Int) (y : Int) _ w h
theorem refExp (n : Int) (w : World) : Calls Try.prog 29 #[.int .i64 n] w fun e w' => e = .returned (.int .u8 (eI n)) ∧ Drawn0 w w' :=
  corbelref3_Exp.calls 301 n _ w (exp_f n)
theorem xor_bits {a b : Int} (ha : By a) (hb : By b) : Go.bits .xor .u8 a b = xI a b := by
  obtain ⟨x, rfl, hx⟩ := ha.nat
  obtain ⟨y, rfl, hy⟩ := hb.nat
  rw [xI_nat, u8_xor_nat x y hx hy]
end Go.Proofs.Ytnjeafdbifcfhaa.RefTells
