/- The field of 256 bytes, in plain numbers: powers of 2, logarithms, products; what holds of them. No program, no condition. -/
namespace Go.Proofs.Ytnjeafdbifcfhaa.GF

/-- Once times 2. -/
def xt (x : Nat) : Nat := if 2 * x > 255 then (2 * x) ^^^ 0x11d else 2 * x
def E : Nat → Nat
  | 0 => 1
  | n + 1 => xt (E n)
/-- The powers, laid out, by one walk. -/
def pows : Nat → Nat → List Nat
  | 0, _ => []
  | n + 1, x => x :: pows n (xt x)
def powL : List Nat := pows 255 1
def fill : List Nat → Nat → List Nat → List Nat
  | [], _, l => l
  | x :: r, n, l => fill r (n + 1) (l.set x n)
def logL : List Nat := fill powL 0 (List.replicate 256 0)
def X (n : Nat) : Nat := powL.getD n 0
def L (a : Nat) : Nat := logL.getD a 0

theorem pows_get (n : Nat) : ∀ (x i : Nat), i < n → ∀ (m : Nat), E m = x → (pows n x).getD i 0 = E (m + i) := by
  induction n with
  | zero => intro x i h; omega
  | succ n ih =>
    intro x i h m hm
    cases i with
    | zero => simp [pows, hm]
    | succ i =>
      have := ih (xt x) i (by omega) (m + 1) (by simp [E, hm])
      simp only [pows, List.getD_cons_succ]
      rw [this, Nat.add_right_comm, Nat.add_assoc]
theorem X_eq (n : Nat) (h : n < 255) : X n = E n := by
  have := pows_get 255 1 n h 0 rfl
  rw [Nat.zero_add] at this
  exact this
theorem powL_len : powL.length = 255 := by decide +kernel
theorem logL_len : logL.length = 256 := by decide +kernel
theorem all_ok : (List.range 255).all (fun n => 0 < X n && X n < 256 && L (X n) == n) = true := by decide +kernel
theorem all_logs : (List.range 256).all (fun a => a == 0 || (X (L a) == a && decide (L a < 255))) = true := by decide +kernel
theorem X_bd (n : Nat) (h : n < 255) : 0 < X n ∧ X n < 256 ∧ L (X n) = n := by
  have := List.all_eq_true.1 all_ok n (List.mem_range.2 h)
  simp only [Bool.and_eq_true, decide_eq_true_eq, beq_iff_eq] at this
  exact ⟨this.1.1, this.1.2, this.2⟩
theorem L_bd (a : Nat) (h0 : 0 < a) (h : a < 256) : X (L a) = a ∧ L a < 255 := by
  have := List.all_eq_true.1 all_logs a (List.mem_range.2 h)
  simp only [Bool.or_eq_true, Bool.and_eq_true, decide_eq_true_eq, beq_iff_eq] at this
  rcases this with h1 | h1
  · omega
  · exact h1
theorem E_255 : E 255 = 1 := by
  have : xt (X 254) = 1 := by decide +kernel
  rw [X_eq 254 (by omega)] at this
  exact this
theorem E_add (n m : Nat) (h : E n = E m) (k : Nat) : E (n + k) = E (m + k) := by
  induction k with
  | zero => exact h
  | succ k ih => rw [← Nat.add_assoc, ← Nat.add_assoc, E, E, ih]
theorem E_period (n : Nat) : E (n + 255) = E n := by
  have := E_add 255 0 E_255 n
  rwa [Nat.zero_add, Nat.add_comm] at this
theorem E_mod (n : Nat) : E n = X (n % 255) := by
  rw [X_eq _ (Nat.mod_lt _ (by omega))]
  have h : ∀ q r, E (r + 255 * q) = E r := by
    intro q
    induction q with
    | zero => intro r; rfl
    | succ q ih => intro r; rw [Nat.mul_succ, ← Nat.add_assoc, E_period, ih]
  have h2 := h (n / 255) (n % 255)
  rw [Nat.mod_add_div] at h2
  exact h2
/-- So often times 2. -/
def xs : Nat → Nat → Nat
  | 0, b => b
  | n + 1, b => xt (xs n b)
theorem xs_E (n m : Nat) : xs n (E m) = E (m + n) := by
  induction n with
  | zero => rfl
  | succ n ih => rw [xs, ih, ← Nat.add_assoc, E]
theorem xs_zero (n : Nat) : xs n 0 = 0 := by
  induction n with
  | zero => rfl
  | succ n ih => rw [xs, ih]; rfl
theorem xt_lin_all : (List.range 256).all (fun a => (List.range 256).all (fun b => xt (a ^^^ b) == xt a ^^^ xt b)) = true := by decide +kernel
theorem xt_lt_all : (List.range 256).all (fun a => xt a < 256) = true := by decide +kernel
theorem xt_lt (a : Nat) (h : a < 256) : xt a < 256 := by
  have := List.all_eq_true.1 xt_lt_all a (List.mem_range.2 h)
  simpa using this
theorem xt_lin (a b : Nat) (ha : a < 256) (hb : b < 256) : xt (a ^^^ b) = xt a ^^^ xt b := by
  have := List.all_eq_true.1 (List.all_eq_true.1 xt_lin_all a (List.mem_range.2 ha)) b (List.mem_range.2 hb)
  simpa using this
theorem xor_lt (a b : Nat) (ha : a < 256) (hb : b < 256) : a ^^^ b < 256 := Nat.xor_lt_two_pow (n := 8) ha hb
theorem xs_lt (n a : Nat) (h : a < 256) : xs n a < 256 := by
  induction n with
  | zero => exact h
  | succ n ih => exact xt_lt _ ih
theorem xs_lin (n a b : Nat) (ha : a < 256) (hb : b < 256) : xs n (a ^^^ b) = xs n a ^^^ xs n b := by
  induction n with
  | zero => rfl
  | succ n ih => rw [xs, ih, xt_lin _ _ (xs_lt n a ha) (xs_lt n b hb)]; rfl
/-- The product, by logarithms. -/
def gm (a b : Nat) : Nat := if a = 0 ∨ b = 0 then 0 else X ((L a + L b) % 255)
theorem gm_zero_l (b : Nat) : gm 0 b = 0 := by simp [gm]
theorem gm_zero_r (a : Nat) : gm a 0 = 0 := by simp [gm]
theorem gm_comm (a b : Nat) : gm a b = gm b a := by unfold gm; rw [Nat.add_comm]; simp only [or_comm]
theorem gm_xs (a b : Nat) (ha0 : 0 < a) (ha : a < 256) (hb : b < 256) : gm a b = xs (L a) b := by
  by_cases h0 : b = 0
  · subst h0
    rw [gm_zero_r, xs_zero]
  · unfold gm
    rw [if_neg (by omega), ← E_mod]
    have hb1 := L_bd b (by omega) hb
    have : b = E (L b) := by rw [E_mod, Nat.mod_eq_of_lt hb1.2, hb1.1]
    conv => rhs; rw [this]
    rw [xs_E, Nat.add_comm]
theorem gm_lt (a b : Nat) : gm a b < 256 := by
  unfold gm
  split
  · omega
  · exact (X_bd _ (Nat.mod_lt _ (by omega))).2.1
theorem gm_ne (a b : Nat) (ha : 0 < a) (hb : 0 < b) : 0 < gm a b := by
  unfold gm
  rw [if_neg (by omega)]
  exact (X_bd _ (Nat.mod_lt _ (by omega))).1
theorem L_gm (a b : Nat) (ha : 0 < a) (hb : 0 < b) : L (gm a b) = (L a + L b) % 255 := by
  unfold gm
  rw [if_neg (by omega)]
  exact (X_bd _ (Nat.mod_lt _ (by omega))).2.2
theorem gm_add (a b c : Nat) (ha : a < 256) (hb : b < 256) (hc : c < 256) : gm a (b ^^^ c) = gm a b ^^^ gm a c := by
  by_cases h0 : a = 0
  · subst h0
    simp [gm_zero_l]
  · rw [gm_xs a _ (by omega) ha (xor_lt b c hb hc), gm_xs a b (by omega) ha hb, gm_xs a c (by omega) ha hc, xs_lin _ _ _ hb hc]
theorem gm_assoc (a b c : Nat) (ha : a < 256) (hb : b < 256) (hc : c < 256) : gm a (gm b c) = gm (gm a b) c := by
  by_cases h0 : a = 0
  · subst h0
    simp [gm_zero_l]
  · by_cases h1 : b = 0
    · subst h1
      simp [gm_zero_l, gm_zero_r]
    · by_cases h2 : c = 0
      · subst h2
        simp [gm_zero_r]
      · have e1 := gm_ne b c (by omega) (by omega)
        have e2 := gm_ne a b (by omega) (by omega)
        have e3 := L_gm b c (by omega) (by omega)
        have e4 := L_gm a b (by omega) (by omega)
        have u : gm a (gm b c) = X ((L a + L (gm b c)) % 255) := by
          show (if a = 0 ∨ gm b c = 0 then 0 else _) = _
          rw [if_neg (by omega)]
        have v : gm (gm a b) c = X ((L (gm a b) + L c) % 255) := by
          show (if gm a b = 0 ∨ c = 0 then 0 else _) = _
          rw [if_neg (by omega)]
        have e5 : (L a + (L b + L c) % 255) % 255 = ((L a + L b) % 255 + L c) % 255 := by omega
        rw [u, v, e3, e4, e5]
theorem gm_one (a : Nat) (ha : a < 256) : gm a 1 = a := by
  by_cases h0 : a = 0
  · subst h0
    exact gm_zero_l 1
  · have h1 : L 1 = 0 := by decide +kernel
    have h2 := L_bd a (by omega) ha
    have h3 : gm a 1 = X ((L a + L 1) % 255) := by
      show (if a = 0 ∨ 1 = 0 then 0 else _) = _
      rw [if_neg (by omega)]
    rw [h3, h1, Nat.add_zero, Nat.mod_eq_of_lt h2.2, h2.1]
/-- What is multiplied with it gives 1. -/
def gi (a : Nat) : Nat := X ((255 - L a) % 255)
theorem gi_bd (a : Nat) : 0 < gi a ∧ gi a < 256 := by
  have := X_bd ((255 - L a) % 255) (Nat.mod_lt _ (by omega))
  exact ⟨this.1, this.2.1⟩
theorem gm_gi (a : Nat) (h0 : 0 < a) (ha : a < 256) : gm a (gi a) = 1 := by
  have h2 := L_bd a h0 ha
  have h3 := gi_bd a
  have h4 : L (gi a) = (255 - L a) % 255 := (X_bd _ (Nat.mod_lt _ (by omega))).2.2
  have h5 : X 0 = 1 := by decide +kernel
  unfold gm
  rw [if_neg (by omega), h4, show (L a + (255 - L a) % 255) % 255 = 0 by omega]
  exact h5
theorem gm_cancel (a b c : Nat) (h0 : 0 < a) (ha : a < 256) (hb : b < 256) (hc : c < 256) (h : gm a b = gm a c) : b = c := by
  have h1 : ∀ d, d < 256 → gm (gi a) (gm a d) = d := by
    intro d hd
    rw [gm_assoc _ _ _ (gi_bd a).2 ha hd, gm_comm (gi a) a, gm_gi a h0 ha, gm_comm, gm_one d hd]
  rw [← h1 b hb, ← h1 c hc, h]
theorem gi_unique (a b : Nat) (h0 : 0 < a) (ha : a < 256) (hb : b < 256) (h : gm a b = 1) : b = gi a :=
  gm_cancel a b (gi a) h0 ha hb (gi_bd a).2 (by rw [h, gm_gi a h0 ha])
end Go.Proofs.Ytnjeafdbifcfhaa.GF
