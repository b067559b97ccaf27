/- Determinants of bytes by the first row: any row does; two rows alike make nothing; what has an inverse has one that is not 0. No program, no condition. -/
import Derived.Test.YtnjeafdbifcfhaaPbFwLinP
import Derived.Test.YtnjeafdbifcfhaaPbFwLaw4
import Derived.Test.YtnjeafdbifcfhaaPbFTel
namespace Go.Proofs.Ytnjeafdbifcfhaa.Fw
open Go Den GF
set_option linter.unusedVariables false
set_option linter.unusedSimpArgs false
/-- all but one -/
def sk (r i : Nat) : Nat := if i < r then i else i + 1
def us (r i : Nat) : Nat := if i < r then i else i - 1
def mnr (A : Fm) (r c : Nat) : Fm := fun i j => A (sk r i) (sk c j)
def D : Nat → Fm → UInt8
  | 0, _ => 1
  | n + 1, A => S (n + 1) fun k => mulB (A 0 k) (D n (mnr A 0 k))
theorem sk_is (r i : Nat) : (i < r ∧ sk r i = i) ∨ (r ≤ i ∧ sk r i = i + 1) := by
  unfold sk
  by_cases h : i < r
  · rw [if_pos h]; exact .inl ⟨h, rfl⟩
  · rw [if_neg h]; exact .inr ⟨by omega, rfl⟩
theorem us_is (r i : Nat) : (i < r ∧ us r i = i) ∨ (r ≤ i ∧ us r i = i - 1) := by
  unfold us
  by_cases h : i < r
  · rw [if_pos h]; exact .inl ⟨h, rfl⟩
  · rw [if_neg h]; exact .inr ⟨by omega, rfl⟩
theorem sk_lt {n r i : Nat} (hi : i < n) : sk r i < n + 1 := by have := sk_is r i; omega
theorem D_congr : ∀ {n : Nat} {A B : Fm}, (∀ i j, i < n → j < n → A i j = B i j) → D n A = D n B
  | 0, _, _, _ => rfl
  | n + 1, A, B, h => S_congr fun k hk => by
    rw [h 0 k (Nat.succ_pos n) hk]
    congr 1
    exact D_congr (n := n) fun i j hi hj => h _ _ (sk_lt hi) (sk_lt hj)
theorem sk_sum : ∀ (m k : Nat) (f : Nat → UInt8), k ≤ m → S (m + 1) f = f k ^^^ S m (fun j => f (sk k j))
  | m, k, f, h => by
    by_cases c : k = m
    · subst c
      have : S k (fun j => f (sk k j)) = S k f := S_congr fun t ht => by unfold sk; rw [if_pos ht]
      rw [this]
      show S k f ^^^ f k = _
      exact UInt8.xor_comm _ _
    · obtain ⟨m, rfl⟩ : ∃ q, m = q + 1 := ⟨m - 1, by omega⟩
      show S (m + 1) f ^^^ f (m + 1) = f k ^^^ (S m (fun j => f (sk k j)) ^^^ f (sk k m))
      rw [sk_sum m k f (by omega), show sk k m = m + 1 by unfold sk; rw [if_neg (by omega)], UInt8.xor_assoc]
theorem us_sk (k j : Nat) : us k (sk k j) = j := by have := sk_is k j; have := us_is k (sk k j); omega
theorem sk_us {k j : Nat} (h : j ≠ k) : sk k (us k j) = j := by have := us_is k j; have := sk_is k (us k j); omega
theorem sk_ne (k j : Nat) : sk k j ≠ k := by have := sk_is k j; omega
theorem sk_sk {k j c : Nat} (h : j ≠ k) : sk k (sk (us k j) c) = sk j (sk (us j k) c) := by
  have := us_is k j; have := us_is j k; have := sk_is (us k j) c; have := sk_is (us j k) c; have := sk_is k (sk (us k j) c); have := sk_is j (sk (us j k) c)
  omega
/-- a sum over all but k, as one over all -/
theorem off_sum {m k : Nat} (hk : k ≤ m) (G : Nat → UInt8) : S m G = S (m + 1) (fun j => if j = k then 0 else G (us k j)) := by
  rw [sk_sum m k _ hk, if_pos rfl, UInt8.zero_xor]
  exact S_congr fun t _ => by rw [if_neg (sk_ne k t), us_sk]
/-- pairs, either way -/
theorem pair_sum (m : Nat) (G G' : Nat → Nat → UInt8) (h : ∀ k j, k < m + 1 → j < m + 1 → j ≠ k → G k (us k j) = G' j (us j k)) : S (m + 1) (fun k => S m (G k)) = S (m + 1) (fun j => S m (G' j)) := by
  have e1 : S (m + 1) (fun k => S m (G k)) = S (m + 1) (fun k => S (m + 1) (fun j => if j = k then 0 else G k (us k j))) := S_congr fun k hk => off_sum (by omega) (G k)
  have e2 : S (m + 1) (fun j => S m (G' j)) = S (m + 1) (fun j => S (m + 1) (fun k => if k = j then 0 else G' j (us j k))) := S_congr fun j hj => off_sum (by omega) (G' j)
  rw [e1, e2, S_swap (m + 1) (fun k j => if j = k then 0 else G k (us k j)) (m + 1)]
  refine S_congr fun j hj => S_congr fun k hk => ?_
  by_cases c : j = k
  · rw [if_pos c, if_pos c.symm]
  · rw [if_neg c, if_neg (fun f => c f.symm), h k j hk hj c]
theorem sym_sum : ∀ (n : Nat) (U : Nat → Nat → UInt8), (∀ j k, j < n → k < n → U j k = U k j) → (∀ j, j < n → U j j = 0) → S n (fun j => S n (U j)) = 0
  | 0, _, _, _ => rfl
  | n + 1, U, hs, hd => by
    show S n (fun j => S n (U j) ^^^ U j n) ^^^ (S n (U n) ^^^ U n n) = 0
    rw [S_add, sym_sum n U (fun j k hj hk => hs j k (by omega) (by omega)) (fun j hj => hd j (by omega)), hd n (Nat.lt_succ_self n), UInt8.xor_zero, UInt8.zero_xor,
      S_congr (n := n) (f := fun t => U t n) (g := U n) fun t ht => hs t n (by omega) (Nat.lt_succ_self n), UInt8.xor_self]
/-- any row does -/
theorem D_row : ∀ (n p : Nat) (A : Fm), p ≤ n → D (n + 1) A = S (n + 1) (fun j => mulB (A p j) (D n (mnr A p j)))
  | n, 0, A, _ => rfl
  | 0, p + 1, A, h => by omega
  | m + 1, p + 1, A, h => by
    have e1 : D (m + 2) A = S (m + 2) (fun k => S (m + 1) (fun j => mulB (A 0 k) (mulB (A (p + 1) (sk k j)) (D m (mnr (mnr A 0 k) p j))))) := S_congr fun k hk => by
      rw [D_row m p (mnr A 0 k) (by omega), S_mul]
      rfl
    have e2 : S (m + 2) (fun j => mulB (A (p + 1) j) (D (m + 1) (mnr A (p + 1) j))) = S (m + 2) (fun j => S (m + 1) (fun k => mulB (A (p + 1) j) (mulB (A 0 (sk j k)) (D m (mnr (mnr A (p + 1) j) 0 k))))) := S_congr fun j hj => by
      show mulB (A (p + 1) j) (S (m + 1) fun k => mulB (mnr A (p + 1) j 0 k) (D m (mnr (mnr A (p + 1) j) 0 k))) = _
      rw [S_mul]
      exact S_congr fun k _ => by
        rw [show mnr A (p + 1) j 0 k = A 0 (sk j k) from by unfold mnr; rw [show sk (p + 1) 0 = 0 from rfl]]
    rw [e1, e2]
    refine pair_sum (m + 1) _ _ fun k j hk hj hne => ?_
    rw [sk_us hne, sk_us (fun f => hne f.symm)]
    have e3 : D m (mnr (mnr A 0 k) p (us k j)) = D m (mnr (mnr A (p + 1) j) 0 (us j k)) := D_congr fun i c hi hc => by
      unfold mnr
      rw [sk_sk hne, show sk 0 (sk p i) = sk (p + 1) (sk 0 i) by have := sk_is p i; have := sk_is 0 (sk p i); have := sk_is 0 i; have := sk_is (p + 1) (sk 0 i); omega]
    rw [e3, mulB_assoc, mulB_assoc, mulB_comm (A 0 k)]
/-- two rows that are neighbours and alike -/
theorem D_near {m p : Nat} (A : Fm) (hp : p + 1 < m + 2) (h : ∀ j, j < m + 2 → A p j = A (p + 1) j) : D (m + 2) A = 0 := by
  rw [D_row (m + 1) p A (by omega)]
  have e1 : S (m + 2) (fun j => mulB (A p j) (D (m + 1) (mnr A p j))) = S (m + 2) (fun j => S (m + 2) (fun k => if k = j then 0 else mulB (A p j) (mulB (A (p + 1) k) (D m (mnr (mnr A p j) p (us j k)))))) := S_congr fun j hj => by
    rw [D_row m p (mnr A p j) (by omega), S_mul, off_sum (m := m + 1) (k := j) (by omega)]
    refine S_congr fun k hk => ?_
    by_cases c : k = j
    · rw [if_pos c, if_pos c]
    · rw [if_neg c, if_neg c]
      rw [show mnr A p j p (us j k) = A (p + 1) k from by
        unfold mnr
        rw [sk_us c, show sk p p = p + 1 by unfold sk; rw [if_neg (by omega)]]]
  rw [e1]
  refine sym_sum (m + 2) _ (fun j k hj hk => ?_) (fun j hj => if_pos rfl)
  by_cases c : k = j
  · subst c; rfl
  · rw [if_neg c, if_neg (fun f => c f.symm)]
    have e3 : D m (mnr (mnr A p j) p (us j k)) = D m (mnr (mnr A p k) p (us k j)) := D_congr fun i q hi hq => by
      unfold mnr
      rw [sk_sk c]
    rw [e3, mulB_assoc, mulB_assoc, h j hj, ← h k hk, mulB_comm (A (p + 1) j)]
theorem D_twice : ∀ (d m p q : Nat) (A : Fm), q = p + 1 + d → q < m + 2 → (∀ j, j < m + 2 → A p j = A q j) → D (m + 2) A = 0
  | 0, m, p, q, A, e, hq, h => by
    subst e
    exact D_near A hq h
  | d + 1, m, p, q, A, e, hq, h => by
    subst e
    obtain ⟨m, rfl⟩ : ∃ t, m = t + 1 := ⟨m - 1, by omega⟩
    rw [D_row (m + 2) (p + 1) A (by omega)]
    rw [S_congr (g := fun _ => 0) fun j hj => by
      rw [D_twice d m p (p + 1 + d) (mnr A (p + 1) j) rfl (by omega) (fun c hc => by
        unfold mnr
        rw [show sk (p + 1) p = p by unfold sk; rw [if_pos (by omega)], show sk (p + 1) (p + 1 + d) = p + 1 + (d + 1) by unfold sk; rw [if_neg (by omega)]; omega]
        exact h _ (sk_lt hc)), mulB_zero], S_zero]
/-- another row's bytes against a row's minors -/
theorem D_other {n r c : Nat} (A : Fm) (hr : r < n + 1) (hc : c < n + 1) : S (n + 1) (fun i => mulB (A r i) (D n (mnr A c i))) = if r = c then D (n + 1) A else 0 := by
  by_cases e : r = c
  · subst e
    rw [if_pos rfl, ← D_row n r A (by omega)]
  · rw [if_neg e]
    obtain ⟨m, rfl⟩ : ∃ t, n = t + 1 := ⟨n - 1, by omega⟩
    -- the matrix with row r in the place of row c
    have e1 : S (m + 2) (fun i => mulB (A r i) (D (m + 1) (mnr A c i))) = D (m + 2) (fun i j => if i = c then A r j else A i j) := by
      rw [D_row (m + 1) c _ (by omega)]
      refine S_congr fun i hi => ?_
      rw [if_pos rfl]
      congr 1
      exact D_congr fun a b _ _ => by unfold mnr; exact (if_neg (sk_ne c a)).symm
    rw [e1]
    rcases Nat.lt_or_gt_of_ne e with g | g
    · exact D_twice (c - r - 1) m r c _ (by omega) (by omega) fun j _ => by rw [if_pos rfl, if_neg e]
    · exact D_twice (r - c - 1) m c r _ (by omega) (by omega) fun j _ => by rw [if_pos rfl, if_neg e]
/-! ### what has an inverse -/
/-- a place for one more -/
theorem place (f : Nat → Nat) (c : Nat) : ∀ k, (∀ i j, i < j → j < k → f i < f j) → ∃ q, q ≤ k ∧ (∀ i, i < q → f i < c) ∧ (∀ i, q ≤ i → i < k → c ≤ f i)
  | 0, _ => ⟨0, Nat.le_refl _, (fun i h => by omega), (fun i h g => by omega)⟩
  | k + 1, h => by
    obtain ⟨q, h1, h2, h3⟩ := place f c k fun i j hij hj => h i j hij (by omega)
    by_cases e : q = k
    · subst e
      by_cases g : f q < c
      · exact ⟨q + 1, Nat.le_refl _, (fun i hi => by
          by_cases z : i = q
          · rw [z]; exact g
          · exact h2 i (by omega)), (fun i a b => by omega)⟩
      · exact ⟨q, by omega, h2, fun i a b => by
          obtain rfl : i = q := by omega
          omega⟩
    · exact ⟨q, by omega, h2, fun i a b => by
        by_cases z : i = k
        · rw [z]
          have := h3 q (Nat.le_refl _) (by omega)
          have := h q k (by omega) (Nat.lt_succ_self k)
          omega
        · exact h3 i a (by omega)⟩
def ins (f : Nat → Nat) (q c : Nat) : Nat → Nat := fun i => if i = q then c else f (us q i)
theorem ins_sk (f : Nat → Nat) (q c i : Nat) : ins f q c (sk q i) = f i := by unfold ins; rw [if_neg (sk_ne q i), us_sk]
theorem ins_at (f : Nat → Nat) (q c : Nat) : ins f q c q = c := if_pos rfl
theorem ins_mono {f : Nat → Nat} {q c k : Nat} (h : ∀ i j, i < j → j < k → f i < f j) (hq : q ≤ k) (h1 : ∀ i, i < q → f i < c) (h2 : ∀ i, q ≤ i → i < k → c < f i) : ∀ i j, i < j → j < k + 1 → ins f q c i < ins f q c j := fun i j hij hj => by
  unfold ins us
  by_cases a : i = q
  · rw [if_pos a, if_neg (by omega), if_neg (by omega)]
    exact h2 (j - 1) (by omega) (by omega)
  · rw [if_neg a]
    by_cases b : j = q
    · rw [if_pos b, if_pos (by omega)]
      exact h1 i (by omega)
    · rw [if_neg b]
      by_cases e : i < q
      · rw [if_pos e]
        by_cases g : j < q
        · rw [if_pos g]; exact h i j hij (by omega)
        · rw [if_neg g]; exact h i (j - 1) (by omega) (by omega)
      · rw [if_neg e, if_neg (by omega)]
        exact h (i - 1) (j - 1) (by omega) (by omega)
theorem ins_lt {f : Nat → Nat} {q c k n : Nat} (h : ∀ i, i < k → f i < n) (hq : q ≤ k) (hc : c < n) : ∀ i, i < k + 1 → ins f q c i < n := fun i hi => by
  unfold ins us
  by_cases a : i = q
  · rw [if_pos a]; exact hc
  · rw [if_neg a]
    by_cases b : i < q
    · rw [if_pos b]; exact h i (by omega)
    · rw [if_neg b]; exact h (i - 1) (by omega)
/-- one that is not taken -/
theorem free (f : Nat → Nat) {k n : Nat} (hk : k < n) (h : ∀ i j, i < j → j < k → f i < f j) : ∃ c, c < n ∧ ∀ i, i < k → f i ≠ c := by
  -- the first that is not its own place
  have key : ∀ m, m ≤ k → (∀ i, i < m → f i = i) ∨ ∃ c, c < n ∧ ∀ i, i < k → f i ≠ c := by
    intro m
    induction m with
    | zero => exact fun _ => .inl fun i h => by omega
    | succ m ih =>
      intro hm
      rcases ih (by omega) with g | g
      · by_cases e : f m = m
        · exact .inl fun i hi => by
            by_cases z : i = m
            · rw [z]; exact e
            · exact g i (by omega)
        · have ge : m ≤ f m := by
            by_cases z : m = 0
            · omega
            · have := h (m - 1) m (by omega) (by omega)
              rw [g (m - 1) (by omega)] at this
              omega
          refine .inr ⟨m, by omega, fun i hi q => ?_⟩
          rcases Nat.lt_trichotomy i m with z | z | z
          · rw [g i z] at q; omega
          · subst z; exact e q
          · have := h m i z hi; omega
      · exact .inr g
  rcases key k (Nat.le_refl _) with g | g
  · exact ⟨k, hk, fun i hi q => by rw [g i hi] at q; omega⟩
  · exact g
structure Mono (k n : Nat) (f : Nat → Nat) : Prop where
  lt : ∀ i, i < k → f i < n
  mo : ∀ i j, i < j → j < k → f i < f j
def sub (A : Fm) (r c : Nat → Nat) : Fm := fun i j => A (r i) (c j)
theorem minors_down {n : Nat} {A : Fm} (hA : ∀ x : Nat → UInt8, (∀ r, r < n → S n (fun t => mulB (A r t) (x t)) = 0) → ∀ t, t < n → x t = 0) {k : Nat} (hk : k < n)
    (P : ∀ r c, Mono (k + 1) n r → Mono (k + 1) n c → D (k + 1) (sub A r c) = 0) : ∀ r c, Mono k n r → Mono k n c → D k (sub A r c) = 0 := fun ρ κ hρ hκ => by
  obtain ⟨c, hc, hf⟩ := free κ hk hκ.mo
  obtain ⟨q, q1, q2, q3⟩ := place κ c k hκ.mo
  have q4 : ∀ i, q ≤ i → i < k → c < κ i := fun i a b => by
    have := q3 i a b
    have := hf i b
    omega
  have K : Mono (k + 1) n (ins κ q c) := ⟨ins_lt hκ.lt q1 hc, ins_mono hκ.mo q1 q2 q4⟩
  -- the vector of the minors
  have hx := hA (fun t => S (k + 1) (fun j => if ins κ q c j = t then D k (sub A ρ (fun i => ins κ q c (sk j i))) else 0)) (fun r hr => by
    have e1 : S n (fun t => mulB (A r t) (S (k + 1) (fun j => if ins κ q c j = t then D k (sub A ρ (fun i => ins κ q c (sk j i))) else 0))) = S (k + 1) (fun j => mulB (A r (ins κ q c j)) (D k (sub A ρ (fun i => ins κ q c (sk j i))))) := by
      rw [S_congr fun t _ => S_mul (A r t) (k + 1) _, S_swap (k + 1) (fun t j => mulB (A r t) (if ins κ q c j = t then D k (sub A ρ (fun i => ins κ q c (sk j i))) else 0)) n]
      refine S_congr fun j hj => ?_
      rw [S_one (i := ins κ q c j) (K.lt j hj) (fun t _ hne => by rw [if_neg (fun f => hne f.symm), mulB_zero]), if_pos rfl]
    rw [e1]
    obtain ⟨p, p1, p2, p3⟩ := place ρ r k hρ.mo
    have e2 : S (k + 1) (fun j => mulB (A r (ins κ q c j)) (D k (sub A ρ (fun i => ins κ q c (sk j i))))) = D (k + 1) (sub A (ins ρ p r) (ins κ q c)) := by
      rw [D_row k p _ p1]
      refine S_congr fun j hj => ?_
      rw [show sub A (ins ρ p r) (ins κ q c) p j = A r (ins κ q c j) from by unfold sub; rw [ins_at]]
      congr 1
      exact D_congr fun a b _ _ => by unfold mnr sub; rw [ins_sk]
    rw [e2]
    by_cases e : p < k ∧ ρ p = r
    · obtain ⟨m, rfl⟩ : ∃ t, k = t + 1 := ⟨k - 1, by omega⟩
      refine D_near _ (p := p) (by omega) fun j _ => ?_
      unfold sub
      rw [ins_at, show ins ρ p r (p + 1) = ρ p from by unfold ins us; rw [if_neg (by omega), if_neg (by omega)]; rfl, e.2]
    · refine P _ _ ⟨ins_lt hρ.lt p1 hr, ins_mono hρ.mo p1 p2 fun i a b => ?_⟩ K
      have h1 := p3 i a b
      by_cases z : i = p
      · subst z
        rcases Nat.lt_or_eq_of_le h1 with g | g
        · exact g
        · exact absurd ⟨b, g.symm⟩ e
      · have := p3 p (Nat.le_refl _) (by omega)
        have := hρ.mo p i (by omega) b
        omega) c hc
  rw [S_one (i := q) (by omega) (fun t ht hne => by
    rw [if_neg]
    intro f
    unfold ins at f
    rw [if_neg hne] at f
    exact hf _ (by have := us_is q t; omega) f), if_pos (ins_at κ q c)] at hx
  rw [← hx]
  exact D_congr fun a b _ _ => by unfold sub; exact congrArg (A (ρ a)) (ins_sk κ q c b).symm
theorem D_ne {n : Nat} {A X : Fm} (h : Eqm n (mm n X A) dl) : D n A ≠ 0 := fun e => by
  have hA : ∀ x : Nat → UInt8, (∀ r, r < n → S n (fun t => mulB (A r t) (x t)) = 0) → ∀ t, t < n → x t = 0 := fun x hx t ht => by
    have e1 : mm n (mm n X A) (fun i _ => x i) t 0 = mm n X (mm n A (fun i _ => x i)) t 0 := mm_assoc _ _ _ _ _ _ _
    have e2 : mm n (mm n X A) (fun i _ => x i) t 0 = x t := by
      rw [mm_congr (A' := dl) (B' := fun i _ => x i) (fun u hu => h t u ht hu) (fun u _ => rfl), dl_mm ht]
    have e3 : mm n X (mm n A (fun i _ => x i)) t 0 = 0 := by
      show S n (fun u => mulB (X t u) (S n (fun v => mulB (A u v) (x v)))) = 0
      rw [S_congr (g := fun _ => 0) fun u hu => by rw [hx u hu, mulB_zero], S_zero]
    rw [← e2, e1, e3]
  have down : ∀ d, d ≤ n → ∀ r c, Mono (n - d) n r → Mono (n - d) n c → D (n - d) (sub A r c) = 0 := by
    intro d
    induction d with
    | zero =>
      intro _ r c hr hc
      have id_ : ∀ f, Mono n n f → ∀ i, i < n → f i = i := fun f hf i hi => by
        have lo : ∀ i, i < n → i ≤ f i := by
          intro i
          induction i with
          | zero => exact fun _ => Nat.zero_le _
          | succ i ih => intro h; have := ih (by omega); have := hf.mo i (i + 1) (Nat.lt_succ_self _) h; omega
        have hi2 : ∀ d, d < n → f (n - 1 - d) ≤ n - 1 - d := by
          intro d
          induction d with
          | zero => intro h; have := hf.lt (n - 1) (by omega); show f (n - 1) ≤ n - 1; omega
          | succ d ih => intro h; have := ih (by omega); have := hf.mo (n - 1 - (d + 1)) (n - 1 - d) (by omega) (by omega); omega
        have a := lo i hi
        have b := hi2 (n - 1 - i) (by omega)
        rw [show n - 1 - (n - 1 - i) = i by omega] at b
        omega
      rw [← e]
      exact D_congr fun i j hi hj => by
        have hi : i < n := hi
        have hj : j < n := hj
        unfold sub
        rw [id_ r hr i hi, id_ c hc j hj]
    | succ d ih =>
      intro hd
      have := ih (by omega)
      rw [show n - d = (n - (d + 1)) + 1 by omega] at this
      exact minors_down hA (by omega) this
  have := down n (Nat.le_refl _) id id
  rw [Nat.sub_self] at this
  have := this ⟨fun i h => by omega, fun i j _ h => by omega⟩ ⟨fun i h => by omega, fun i j _ h => by omega⟩
  exact absurd (show (1 : UInt8) = 0 from this) (by decide)
/-! ### the inverse by minors -/
def mxOf (n : Nat) (B : Fm) : Mx := (List.range n).map fun i => (List.range n).map fun k => B i k
theorem mxOf_dim (n : Nat) (B : Fm) : Dim n n (mxOf n B) := ⟨by unfold mxOf; rw [List.length_map, List.length_range], fun r hr => by
  obtain ⟨i, _, rfl⟩ := List.mem_map.1 hr
  rw [List.length_map, List.length_range]⟩
theorem mxOf_ent {n i j : Nat} (B : Fm) (hi : i < n) (hj : j < n) : ent (mxOf n B) i j = B i j := by
  unfold ent mxOf
  rw [mxD (by rw [List.length_map, List.length_range]; exact hi), List.getElem_map, List.getElem_range, List.getD_eq_getElem?_getD, List.getElem?_map, List.getElem?_range hj]
  rfl
def adj (n : Nat) (A : Fm) : Fm := fun i k => mulB (invB (D n A)) (D (n - 1) (mnr A k i))
theorem adj_right {n : Nat} {A : Fm} (hn : 0 < n) (hd : D n A ≠ 0) : Eqm n (mm n A (adj n A)) dl := fun r c hr hc => by
  obtain ⟨m, rfl⟩ : ∃ t, n = t + 1 := ⟨n - 1, by omega⟩
  show S (m + 1) (fun i => mulB (A r i) (mulB (invB (D (m + 1) A)) (D m (mnr A c i)))) = dl r c
  have e : S (m + 1) (fun i => mulB (A r i) (mulB (invB (D (m + 1) A)) (D m (mnr A c i)))) = mulB (invB (D (m + 1) A)) (S (m + 1) (fun i => mulB (A r i) (D m (mnr A c i)))) := by
    rw [S_mul]
    exact S_congr fun i _ => by rw [mulB_assoc, mulB_comm (A r i), mulB_assoc]
  rw [e, D_other A hr hc]
  by_cases z : r = c
  · rw [if_pos z, z, dl_self, mulB_comm, mulB_inv _ hd]
  · rw [if_neg z, mulB_zero, dl_ne z]
theorem invP_det {n : Nat} {m : Mx} (d : Dim n n m) (hn : 0 < n) : (D n (ent m) ≠ 0 ∧ invP m = some (mxOf n (adj n (ent m)))) ∨ (D n (ent m) = 0 ∧ invP m = none) := by
  by_cases h : D n (ent m) = 0
  · refine .inr ⟨h, ?_⟩
    rcases invP_ok d with ⟨x, _, _, i⟩ | ⟨e, _⟩
    · exact absurd h (D_ne i.l)
    · exact e
  · refine .inl ⟨h, ?_⟩
    have dX := mxOf_dim n (adj n (ent m))
    have h1 : mulM m (mxOf n (adj n (ent m))) = idM n := by
      refine (mulM_dim d dX hn).ext (idM_dim n) fun i j hi hj => ?_
      rw [mulM_ent d dX hn hi j, show ent (idM n) i j = dl i j from idM_ent hi hj, ← adj_right hn h i j hi hj]
      exact mm_congr (fun t _ => rfl) fun t ht => mxOf_ent _ ht hj
    obtain ⟨y, _, y2, y3, y4⟩ := invP_left dX d hn h1
    have ey := mulM_uniq dX d y2 hn h1 y4
    subst ey
    obtain ⟨z, z1, z2, z3, z4⟩ := invP_left d dX hn y4
    rw [z1, mulM_uniq d z2 dX hn z3 h1]
end Go.Proofs.Ytnjeafdbifcfhaa.Fw
/- The reference's products bit by bit, determinants, minors, by the program of the reference. No condition. -/
namespace Go.Proofs.Ytnjeafdbifcfhaa.Fw
open Go Den Fwd GF
set_option linter.unusedVariables false
set_option linter.unusedSimpArgs false
/-! ### products bit by bit -/
theorem bit_split : (List.range 256).all (fun b => (List.range 8).all (fun j => b % 2 ^ (j + 1) == (b % 2 ^ j) ^^^ (if b / 2 ^ j % 2 = 1 then 2 ^ j else 0) && decide (b % 2 ^ j < 256))) = true := by decide +kernel
theorem split_at (b j : Nat) (hb : b < 256) (hj : j < 8) : b % 2 ^ (j + 1) = (b % 2 ^ j) ^^^ (if b / 2 ^ j % 2 = 1 then 2 ^ j else 0) := by
  have := List.all_eq_true.1 (List.all_eq_true.1 bit_split b (List.mem_range.2 hb)) j (List.mem_range.2 hj)
  simp only [Bool.and_eq_true, beq_iff_eq] at this
  exact this.1
theorem pow_ok : (List.range 8).all (fun j => decide (0 < 2 ^ j ∧ 2 ^ j < 256) && L (2 ^ j) == j) = true := by decide +kernel
theorem pow_at (j : Nat) (hj : j < 8) : 0 < 2 ^ j ∧ 2 ^ j < 256 ∧ L (2 ^ j) = j := by
  have := List.all_eq_true.1 pow_ok j (List.mem_range.2 hj)
  simp only [Bool.and_eq_true, decide_eq_true_eq, beq_iff_eq] at this
  exact ⟨this.1.1, this.1.2, this.2⟩
theorem gm_pow (a j : Nat) (ha : a < 256) (hj : j < 8) : gm a (2 ^ j) = xs j a := by
  have h := pow_at j hj
  rw [gm_comm, gm_xs (2 ^ j) a h.1 h.2.1 ha, h.2.2]
theorem acc_next (a b j : Nat) (ha : a < 256) (hb : b < 256) (hj : j < 8) : gm a (b % 2 ^ (j + 1)) = if b / 2 ^ j % 2 = 1 then gm a (b % 2 ^ j) ^^^ xs j a else gm a (b % 2 ^ j) := by
  have hlt : b % 2 ^ j < 256 := Nat.lt_of_le_of_lt (Nat.mod_le _ _) hb
  rw [split_at b j hb hj]
  split
  · rw [gm_add a _ _ ha hlt (pow_at j hj).2.1, gm_pow a j ha hj]
  · rw [Nat.xor_zero]
theorem bits_all : ((List.range 256).all fun b => (List.range 8).all fun j => decide (((asI .u8 (binA Try.prog .shr 5 (Value.int .u8 (Int.ofNat b)) (Value.int .u64 (wrapA .u64 (Int.ofNat j))))).bind fun n6 => asI .u8 (intA .and .u8 n6 (1 : Int))) = some (Int.ofNat (b / 2 ^ j % 2)))) = true := by kernel_rfl
theorem bits_at {b j : Nat} (hb : b < 256) (hj : j < 8) : ∃ n6, asI .u8 (binA Try.prog .shr 5 (Value.int .u8 (Int.ofNat b)) (Value.int .u64 (wrapA .u64 (Int.ofNat j)))) = some n6 ∧ asI .u8 (intA .and .u8 n6 (1 : Int)) = some (Int.ofNat (b / 2 ^ j % 2)) := by
  have := List.all_eq_true.1 (List.all_eq_true.1 bits_all b (List.mem_range.2 hb)) j (List.mem_range.2 hj)
  exact Option.bind_eq_some_iff.1 (of_decide_eq_true this)
theorem rmul_l0 (k : Nat) {a b : Nat} (ha : a < 256) (hb : b < 256) (h : H) : ∀ n j, 8 - j < n → j ≤ 8 →
    corbelref3_Mul.l0 k n (Int.ofNat b) (Int.ofNat (xs j a)) (Int.ofNat (gm a (b % 2 ^ j))) (Int.ofNat j) h = some (Int.ofNat (gm a b), h)
  | 0, j, hf, _ => by omega
  | n + 1, j, hf, hj => by
    rw [corbelref3_Mul.l0_succ]
    by_cases c : j < 8
    rotate_left
    · obtain rfl : j = 8 := by omega
      rw [show decide (Int.ofNat 8 < (8 : Int)) = false from rfl, cond_false, Nat.mod_eq_of_lt (show b < 2 ^ 8 by omega)]
    rw [show decide (Int.ofNat j < (8 : Int)) = true from decLt (b := 8) c, cond_true]
    obtain ⟨n6, e1, e2⟩ := bits_at hb c
    rw [e1]
    simp only [Option.bind_some]
    rw [e2]
    simp only [Option.bind_some]
    have hx := xs_lt j a ha
    have hg := gm_lt a (b % 2 ^ j)
    have J1 : ((cond (Int.ofNat (b / 2 ^ j % 2) == (1 : Int)) ((asI .i64 (intA .xor .i64 (Int.ofNat (gm a (b % 2 ^ j))) (Int.ofNat (xs j a)))).bind fun n8 => some (n8, h)) (some (Int.ofNat (gm a (b % 2 ^ j)), h))) : Option (Int × H)) = some (Int.ofNat (gm a (b % 2 ^ (j + 1))), h) := by
      rw [acc_next a b j ha hb c]
      by_cases d : b / 2 ^ j % 2 = 1
      · rw [d, if_pos rfl, show (Int.ofNat 1 == (1 : Int)) = true from rfl, cond_true, xor_i64 _ _ (by omega) (by omega), asI_int]
        rfl
      · rw [if_neg d, show (Int.ofNat (b / 2 ^ j % 2) == (1 : Int)) = false by rw [beq_eq_false_iff_ne]; intro f; exact d (Int.ofNat.inj f), cond_false]
    rw [J1]
    simp only [Option.bind_some]
    have ew : wrapA .i64 (Int.ofNat (xs j a) * 2 ^ 1) = Int.ofNat (2 * xs j a) := by
      rw [wrap_in (n := Int.ofNat (xs j a) * 2 ^ 1) (by simp only [Int.ofNat_eq_natCast]; omega) (by simp only [Int.ofNat_eq_natCast]; omega)]
      simp only [Int.ofNat_eq_natCast]; omega
    rw [ew]
    have J2 : ((cond (decide (Int.ofNat (2 * xs j a) > (255 : Int))) ((asI .i64 (intA .xor .i64 (Int.ofNat (2 * xs j a)) (285 : Int))).bind fun n10 => some (n10, h)) (some (Int.ofNat (2 * xs j a), h))) : Option (Int × H)) = some (Int.ofNat (xs (j + 1) a), h) := by
      rw [xs, xt]
      by_cases d : 2 * xs j a > 255
      · rw [if_pos d, show decide (Int.ofNat (2 * xs j a) > (255 : Int)) = true from decLt (a := 255) d, cond_true, show (285 : Int) = Int.ofNat 285 from rfl, xor_i64 _ _ (by omega) (by omega), asI_int]
        rfl
      · rw [if_neg d, show decide (Int.ofNat (2 * xs j a) > (255 : Int)) = false from decNlt (a := 255) d, cond_false]
    rw [J2]
    simp only [Option.bind_some]
    rw [wrap_succ (by omega)]
    exact rmul_l0 k ha hb h n (j + 1) (by omega) (by omega)
theorem rmulN (k : Nat) (hk : 8 < k) {a b : Nat} (ha : a < 256) (hb : b < 256) (h : H) : corbelref3_Mul.f k (Int.ofNat a) (Int.ofNat b) h = some (Int.ofNat (gm a b), h) := by
  unfold corbelref3_Mul.f
  have := rmul_l0 k ha hb h k 0 (by omega) (by omega)
  rw [show xs 0 a = a from rfl, Nat.pow_zero, Nat.mod_one, gm_zero_r] at this
  have g := gm_lt a b
  rw [wrap_in (n := Int.ofNat a) (by simp only [Int.ofNat_eq_natCast]; omega) (by simp only [Int.ofNat_eq_natCast]; omega), show (0 : Int) = Int.ofNat 0 from rfl, this]
  simp only [Option.bind_some]
  rw [wrap_u8_in (by simp only [Int.ofNat_eq_natCast]; omega) (by simp only [Int.ofNat_eq_natCast]; omega)]
theorem rmul_f (k : Nat) (hk : 8 < k) (x y : UInt8) (h : H) : corbelref3_Mul.f k (Int.ofNat x.toNat) (Int.ofNat y.toNat) h = some (Int.ofNat (mulB x y).toNat, h) := by
  rw [rmulN k hk x.toNat_lt y.toNat_lt, mulB_nat]
/-! ### inverses by trying -/
theorem rinv_l0 (k : Nat) (hk : 8 < k) {a : Nat} (h0 : 0 < a) (ha : a < 256) (h : H) : ∀ n j, 256 - j < n → 1 ≤ j → j ≤ gi a →
    corbelref3_Inv.l0 k n (Int.ofNat a) (Int.ofNat j) h = some (.inl (Int.ofNat (gi a), true), h)
  | 0, j, hf, _, h2 => by have := gi_bd a; omega
  | n + 1, j, hf, h1, h2 => by
    rw [corbelref3_Inv.l0_succ]
    have hg := gi_bd a
    have hj : j < 256 := by omega
    rw [show decide (Int.ofNat j < (256 : Int)) = true from decLt (b := 256) hj, cond_true, wrap_u8_in (by simp only [Int.ofNat_eq_natCast]; omega) (by simp only [Int.ofNat_eq_natCast]; omega), rmulN k hk ha hj]
    simp only [Option.bind_some]
    by_cases e : j = gi a
    · rw [e, gm_gi a h0 ha, show (Int.ofNat 1 == (1 : Int)) = true from rfl, cond_true]
    · rw [show (Int.ofNat (gm a j) == (1 : Int)) = false by
        rw [beq_eq_false_iff_ne]
        intro f
        exact e (gi_unique a j h0 ha hj (Int.ofNat.inj f)), cond_false, wrap_succ (by omega)]
      exact rinv_l0 k hk h0 ha h n (j + 1) (by omega) (by omega) (by omega)
theorem rinv0_l0 (k : Nat) (hk : 8 < k) (h : H) : ∀ n j, 256 - j < n → j ≤ 256 →
    corbelref3_Inv.l0 k n (Int.ofNat 0) (Int.ofNat j) h = some (.inr (), h)
  | 0, j, hf, _ => by omega
  | n + 1, j, hf, h2 => by
    rw [corbelref3_Inv.l0_succ]
    by_cases hj : j < 256
    rotate_left
    · rw [show decide (Int.ofNat j < (256 : Int)) = false from decNlt (b := 256) hj, cond_false]
    rw [show decide (Int.ofNat j < (256 : Int)) = true from decLt (b := 256) hj, cond_true, wrap_u8_in (by simp only [Int.ofNat_eq_natCast]; omega) (by simp only [Int.ofNat_eq_natCast]; omega), rmulN k hk (by decide) hj, gm_zero_l]
    simp only [Option.bind_some]
    rw [show (Int.ofNat 0 == (1 : Int)) = false from rfl, cond_false, wrap_succ (by omega)]
    exact rinv0_l0 k hk h n (j + 1) (by omega) hj
theorem rinv_f (k : Nat) (hk : 300 < k) (x : UInt8) (h : H) : corbelref3_Inv.f k (Int.ofNat x.toNat) h = some (if x = 0 then ((0 : Int), false) else (Int.ofNat (invB x).toNat, true), h) := by
  unfold corbelref3_Inv.f
  by_cases c : x = 0
  · subst c
    have := rinv0_l0 k (by omega) h k 1 (by omega) (by omega)
    rw [if_pos rfl, show (1 : Int) = Int.ofNat 1 from rfl, show (0 : UInt8).toNat = 0 from rfl, this]
    rfl
  · have hx := nz x c
    have := rinv_l0 k (by omega) hx x.toNat_lt h k 1 (by omega) (by omega) (gi_bd _).1
    rw [if_neg c, show (1 : Int) = Int.ofNat 1 from rfl, this, invB_nat]
    rfl
/-! ### less a row and a column -/
theorem MxR.at3 {h : H} (w : WF h) {s : Sl} {ps : Parts} (r : MxR h s ps) {j : Nat} (hj : j < ps.length) : ∃ b o, ixs 1 s.a s.n (Int.ofNat j) = some (.pointer (some ⟨b, o, none⟩)) ∧ (∀ h', Ch0 h h' → asS (ldc h' (some ⟨b, o, none⟩)) = some ps[j].1) ∧ b < h.next := by
  obtain ⟨b, o, e1, e2⟩ := r.sl.elem (j := j) (by rw [r.n]; exact hj)
  have e3 : ldc h (some ⟨b, o, none⟩) = some (slv ps[j].1) := by
    have : h.cell b (o + 0) = _ := gets_cell e2 (Nat.zero_lt_one)
    show h.cell b o = _
    rw [Nat.add_zero] at this
    rw [this, List.getElem?_take, if_pos Nat.zero_lt_one, List.getElem?_drop, Nat.mul_one, Nat.add_zero, List.getElem?_map, List.getElem?_eq_getElem hj]
    rfl
  have lt : b < h.next := by
    rcases Nat.lt_or_ge b h.next with q | q
    · exact q
    · have e3 : h.cell b o = some (slv ps[j].1) := e3
      unfold H.cell at e3
      rw [w.dom b q] at e3
      cases e3
  refine ⟨b, o, e1, fun h' c => ?_, lt⟩
  have : ldc h' (some ⟨b, o, none⟩) = ldc h (some ⟨b, o, none⟩) := cell_keep (c.keep b lt fun f => f) o
  rw [this, e3]; rfl
def wo (m : Mx) (r c : Nat) : Mx := (m.eraseIdx r).map fun x => x.eraseIdx c
theorem take_erase {α : Type} {l : List α} {r i : Nat} (hi : i < l.length) : (l.take (i + 1)).eraseIdx r = if i = r then (l.take i).eraseIdx r else (l.take i).eraseIdx r ++ [l[i]] := by
  have e : l.take (i + 1) = l.take i ++ [l[i]] := List.take_succ_eq_append_getElem hi
  have hl : (l.take i).length = i := by rw [List.length_take]; omega
  rw [e]
  by_cases c : i = r
  · rw [if_pos c]
    subst c
    rw [List.eraseIdx_append_of_length_le (by omega), hl, Nat.sub_self, List.eraseIdx_of_length_le (by omega : (l.take i).length ≤ i)]
    simp
  · rw [if_neg c]
    by_cases d : r < i
    · rw [List.eraseIdx_append_of_lt_length (by omega)]
    · rw [List.eraseIdx_append_of_length_le (by omega), List.eraseIdx_of_length_le (by omega : (l.take i).length ≤ r), hl, List.eraseIdx_of_length_le (by simp; omega)]
theorem erase_cut (x : List UInt8) {c : Nat} : x.take c ++ x.drop (c + 1) = x.eraseIdx c := (List.eraseIdx_eq_take_drop_succ x c).symm
theorem wo_l0 (k : Nat) {h0 : H} (w0 : WF h0) {s : Sl} {ps : Parts} (A : MxR h0 s ps) (hl : ps.length ≤ 64) {r c : Nat} (hw : ∀ p ∈ ps, c < p.2.length ∧ p.2.length ≤ 64) : ∀ n i h out os, ps.length - i < n → i ≤ ps.length → MxO h0 h out os → mxv os = wo ((mxv ps).take i) r c → os.length ≤ i →
    ∃ out' os' h', corbelref3_without.l0 k n s (Int.ofNat r) (Int.ofNat c) out (Int.ofNat i) h = some (out', h') ∧ MxO h0 h' out' os' ∧ mxv os' = wo (mxv ps) r c
  | 0, i, h, out, os, hf, _, _, _, _ => by omega
  | n + 1, i, h, out, os, hf, hi, O, e, ol => by
    rw [corbelref3_without.l0_succ, A.n]
    have pl : (mxv ps).length = ps.length := List.length_map _
    by_cases q : i < ps.length
    rotate_left
    · rw [decNlt q, cond_false]
      rw [List.take_of_length_le (by omega)] at e
      exact ⟨out, os, h, rfl, O, e⟩
    rw [decLt q, cond_true]
    have q' : i < (mxv ps).length := by omega
    have ei : (mxv ps)[i] = ps[i].2 := by simp only [mxv, List.getElem_map]
    have et := take_erase (l := mxv ps) (r := r) q'
    by_cases z : i = r
    · rw [show (Int.ofNat i != Int.ofNat r) = false by rw [z]; simp, cond_false]
      simp only [Option.bind_some]
      rw [wrap_succ (by omega)]
      exact wo_l0 k w0 A hl (r := r) (c := c) hw n (i + 1) h out os (by omega) (by omega) O (by rw [e]; unfold wo; rw [et, if_pos z]) (by omega)
    · rw [show (Int.ofNat i != Int.ofNat r) = true by rw [bne_iff_ne]; exact fun f => z (Int.ofNat.inj f), cond_true]
      obtain ⟨b, o, x1, x2, x3⟩ := A.at3 w0 q
      rw [A.n] at x1
      rw [x1]
      simp only [asP_ptr, Option.bind_some]
      obtain ⟨n1, n2, n3⟩ := newR_ok O.ch.wf 5 1 []
      have Cn := O.ch.then n1
      rw [x2 _ Cn]
      simp only [Option.bind_some]
      have hp := hw _ (List.getElem_mem q)
      have R := (A.row q).stay w0 Cn
      have rn := R.n_byt
      obtain ⟨s1, a1, a2, a3, a4⟩ := subb_ok R (lo := 0) (hi := c) (Nat.zero_le _) (by omega) (xlo := none) (xhi := some (Int.ofNat c)) rfl rfl
      rw [a1, asS_slv]
      simp only [Option.bind_some]
      rw [List.drop_zero, Nat.sub_zero] at a3
      have W1 : Ow 5 1 (newR h 5 1 []) ⟨some ⟨h.next, 0, none⟩, 0, 0⟩ (byt []) := Ow.of_is n3 (n := 0) rfl (by unfold unk; omega)
      obtain ⟨s2, h2, b1, b2, b3, b4⟩ := app_b n1.wf W1 a3 (by rw [List.length_nil, List.length_take]; omega)
      have b1 : asS2 (apv 5 1 1 (.slice (some ⟨h.next, 0, none⟩) 0 0) (.slice s1.a s1.n s1.c) (newR h 5 1 [])) = some (s2, h2) := b1
      rw [b1]
      simp only [Option.bind_some]
      rw [List.nil_append] at b3
      have own : ∀ y, SlB (⟨some ⟨h.next, 0, none⟩, 0, 0⟩ : Sl) y → h.next ≤ y := fun y ⟨oo, f⟩ => by
        have : h.next = y := congrArg Addr.block (Option.some.inj f)
        omega
      have own2 : ∀ y, SlB s2 y → h.next ≤ y := fun y hy => (b4 y hy).elim (own y) fun f => by omega
      have c2 : Ch0 h h2 := Ch0.own n1 b2 own
      rw [x2 _ (O.ch.then c2)]
      simp only [Option.bind_some]
      rw [wrap_succ (by omega)]
      obtain ⟨s3, d1, d2, d3, d4⟩ := subb_ok ((A.row q).stay w0 (O.ch.then c2)) (lo := c + 1) (hi := ps[i].2.length) (by omega) (Nat.le_refl _) (xlo := some (Int.ofNat (c + 1))) (xhi := none) rfl (by rw [rn]; rfl)
      rw [d1, asS_slv]
      simp only [Option.bind_some]
      rw [List.take_of_length_le (by rw [List.length_drop]; exact Nat.le_refl _)] at d3
      obtain ⟨s4, h3, f1, f2, f3, f4⟩ := app_b b2.wf b3 d3 (by rw [List.length_take, List.length_drop]; omega)
      rw [f1]
      simp only [Option.bind_some]
      rw [erase_cut] at f3
      have own4 : ∀ y, SlB s4 y → h.next ≤ y := fun y hy => (f4 y hy).elim (own2 y) fun g => by have := c2.le; omega
      have c3 : Ch0 h h3 := Ch0.own c2 f2 own2
      obtain ⟨s5, h4, g1, g2⟩ := (O.more c3).push s4 _ f3.slr (fun y hy g => by have := own4 y hy; have := O.ow.lt O.ch.wf g; omega) (by omega)
      rw [g1]
      simp only [Option.bind_some]
      rw [same1_of (show h2.get b = (newR h 5 1 []).get b by
        have hb : b < h.next := by have := O.ch.le; omega
        rw [n1.keep b hb fun f => f]
        exact c2.keep b hb fun f => f)]
      simp only [Bool.and_self, cond_true, Option.bind_some]
      rw [wrap_succ (by omega)]
      exact wo_l0 k w0 A hl (r := r) (c := c) hw n (i + 1) h4 s5 _ (by omega) (by omega) g2 (by
        have e' : mxv (os ++ [(s4, ps[i].2.eraseIdx c)]) = mxv os ++ [ps[i].2.eraseIdx c] := by unfold mxv; rw [List.map_append]; rfl
        rw [e', e]
        unfold wo
        rw [et, if_neg z, List.map_append, ei]; rfl) (by rw [List.length_append, List.length_singleton]; omega)
theorem wo_dim {n : Nat} {m : Mx} (d : Dim (n + 1) (n + 1) m) {r c : Nat} (hr : r < n + 1) (hc : c < n + 1) : Dim n n (wo m r c) := ⟨by
    unfold wo
    rw [List.length_map, List.length_eraseIdx, if_pos (by rw [d.n]; exact hr), d.n]; rfl, fun x hx => by
    unfold wo at hx
    obtain ⟨y, hy, rfl⟩ := List.mem_map.1 hx
    have := d.w y (List.mem_of_mem_eraseIdx hy)
    rw [List.length_eraseIdx, if_pos (by omega), this]; rfl⟩
theorem wo_ent {n : Nat} {m : Mx} (d : Dim (n + 1) (n + 1) m) {r c i j : Nat} (hi : i < n) (hj : j < n) : ent (wo m r c) i j = mnr (ent m) r c i j := by
  unfold ent wo mnr sk
  have e0 : ((m.eraseIdx r).map fun x => x.eraseIdx c).getD i [] = (((m.eraseIdx r)[i]?).map fun x => x.eraseIdx c).getD [] := by rw [List.getD_eq_getElem?_getD, List.getElem?_map]
  rw [e0, List.getElem?_eraseIdx]
  have row : ∀ t, t < n + 1 → (((m[t]?).map fun x => x.eraseIdx c).getD []).getD j 0 = (m.getD t []).getD (if j < c then j else j + 1) 0 := fun t ht => by
    have ht' : t < m.length := by rw [d.n]; exact ht
    rw [List.getElem?_eq_getElem ht', mxD ht']
    show (m[t].eraseIdx c).getD j 0 = _
    rw [List.getD_eq_getElem?_getD, List.getElem?_eraseIdx, List.getD_eq_getElem?_getD]
    by_cases e : j < c
    · rw [if_pos e, if_pos e]
    · rw [if_neg e, if_neg e]
  by_cases e : i < r
  · rw [if_pos e, if_pos e]
    exact row i (by omega)
  · rw [if_neg e, if_neg e]
    exact row (i + 1) (by omega)
theorem without_f (k : Nat) (hk : 1000 < k) {h : H} (w : WF h) {s : Sl} {n : Nat} {m : Mx} (A : MxI h s (n + 1) (n + 1) m) (hn : n < 64) {r c : Nat} (hr : r < n + 1) (hc : c < n + 1) :
    ∃ t h', corbelref3_without.f k s (Int.ofNat r) (Int.ofNat c) h = some (t, h') ∧ Ch0 h h' ∧ MxI h' t n n (wo m r c) := by
  unfold corbelref3_without.f
  obtain ⟨ps, a1, rfl, a3⟩ := A
  have pl : ps.length = n + 1 := by rw [← mxv_len, a3.n]
  obtain ⟨t, os, h', b1, b2, b3⟩ := wo_l0 k w a1 (by omega) (r := r) (c := c) (fun p hp => by have := a3.w p.2 (List.mem_map.2 ⟨p, hp, rfl⟩); omega) k 0 h ⟨none, 0, 0⟩ [] (by omega) (Nat.zero_le _) (MxO.nil w) rfl (Nat.le_refl _)
  rw [show (0 : Int) = Int.ofNat 0 from rfl, b1]
  exact ⟨t, h', rfl, b2.ch, os, b2.mxr, b3, wo_dim a3 hr hc⟩
/-! ### determinants -/
theorem MxI.cellAt {h : H} (w : WF h) {s : Sl} {r c : Nat} {m : Mx} (A : MxI h s r c m) {i j : Nat} (hi : i < r) (hj : j < c) : ∃ b o t b' o', ixs 1 s.a s.n (Int.ofNat i) = some (.pointer (some ⟨b, o, none⟩)) ∧ (∀ h', Ch0 h h' → asS (ldc h' (some ⟨b, o, none⟩)) = some t) ∧ b < h.next ∧ t.n = c ∧ ixs 1 t.a t.n (Int.ofNat j) = some (.pointer (some ⟨b', o', none⟩)) ∧ b' < h.next ∧ ∀ h', Ch0 h h' → ldc h' (some ⟨b', o', none⟩) = some (.int .u8 (Int.ofNat (ent m i j).toNat)) := by
  obtain ⟨ps, a1, rfl, a3⟩ := A
  have pl : ps.length = r := by rw [← mxv_len, a3.n]
  have hi' : i < ps.length := by omega
  obtain ⟨b, o, e1, e2, e3⟩ := a1.at3 w hi'
  have R := a1.row hi'
  have lr : ps[i].2.length = c := a3.w _ (List.mem_map.2 ⟨_, List.getElem_mem hi', rfl⟩)
  have tn := R.n_byt
  obtain ⟨b', o', f1, f2⟩ := R.elem (j := j) (by omega)
  have f3 : h.cell b' o' = some (.int .u8 (Int.ofNat (ent (mxv ps) i j).toNat)) := by
    have : h.cell b' (o' + 0) = _ := gets_cell f2 Nat.zero_lt_one
    rw [Nat.add_zero] at this
    rw [this, List.getElem?_take, if_pos Nat.zero_lt_one, List.getElem?_drop, Nat.mul_one, Nat.add_zero, byt_get, List.getElem?_eq_getElem (by omega)]
    unfold ent
    rw [mxv_getD hi', bytD (by omega)]
    rfl
  have lt : b' < h.next := by
    rcases Nat.lt_or_ge b' h.next with q | q
    · exact q
    · unfold H.cell at f3
      rw [w.dom b' q] at f3
      cases f3
  exact ⟨b, o, ps[i].1, b', o', e1, e2, e3, by omega, f1, lt, fun h' cc => by
    show h'.cell b' o' = _
    rw [cell_keep (cc.keep b' lt fun f => f) o', f3]⟩
theorem det_l0 (k : Nat) (hk : 1000 < k) {g : Sl → H → Option (Int × H)} {n : Nat} (hn : n < 64) (hg : ∀ h s m, WF h → MxI h s n n m → ∃ h', g s h = some (Int.ofNat (D n (ent m)).toNat, h') ∧ Ch0 h h') {h0 : H} (w0 : WF h0) {s : Sl} {m : Mx} (A : MxI h0 s (n + 1) (n + 1) m) : ∀ f i h, n + 1 - i < f → i ≤ n + 1 → Ch0 h0 h →
    ∃ h', corbelref3_Det.l0 k g f s (Int.ofNat (S i (fun t => mulB (ent m 0 t) (D n (mnr (ent m) 0 t)))).toNat) (Int.ofNat i) h = some (Int.ofNat (D (n + 1) (ent m)).toNat, h') ∧ Ch0 h0 h'
  | 0, i, h, hf, _, _ => by omega
  | f + 1, i, h, hf, hi, C => by
    rw [corbelref3_Det.l0_succ, A.n]
    by_cases c : i < n + 1
    rotate_left
    · obtain rfl : i = n + 1 := by omega
      rw [decNlt c, cond_false]
      exact ⟨h, rfl, C⟩
    rw [decLt c, cond_true]
    obtain ⟨b, o, t, b', o', e1, e2, e3, e4, e5, e6, e7⟩ := A.cellAt w0 (i := 0) (j := i) (Nat.succ_pos n) c
    have en := A.n
    rw [en] at e1
    rw [show (0 : Int) = Int.ofNat 0 from rfl, e1]
    simp only [asP_ptr, Option.bind_some]
    rw [e2 h C]
    simp only [Option.bind_some]
    rw [e5]
    simp only [asP_ptr, Option.bind_some]
    rw [e7 h C, asI_int]
    simp only [Option.bind_some]
    have st : S (i + 1) (fun t => mulB (ent m 0 t) (D n (mnr (ent m) 0 t))) = S i (fun t => mulB (ent m 0 t) (D n (mnr (ent m) 0 t))) ^^^ mulB (ent m 0 i) (D n (mnr (ent m) 0 i)) := rfl
    by_cases z : ent m 0 i = 0
    · rw [show (Int.ofNat (ent m 0 i).toNat != Int.ofNat 0) = false by rw [z]; rfl, cond_false]
      simp only [Option.bind_some]
      rw [wrap_succ (by omega)]
      rw [z, zero_mulB, UInt8.xor_zero] at st
      obtain ⟨h', x1, x2⟩ := det_l0 k hk hn hg w0 A f (i + 1) h (by omega) c C
      rw [st] at x1
      exact ⟨h', x1, x2⟩
    · rw [show (Int.ofNat (ent m 0 i).toNat != Int.ofNat 0) = true by
        rw [bne_iff_ne]
        intro q
        exact z (UInt8.toNat_inj.1 (Int.ofNat.inj q)), cond_true]
      obtain ⟨u, h1, a1, a2, a3⟩ := without_f k hk C.wf (A.stay w0 C) hn (r := 0) (c := i) (Nat.succ_pos n) c
      rw [a1]
      simp only [Option.bind_some]
      obtain ⟨h2, b1, b2⟩ := hg h1 u _ a2.wf a3
      rw [b1]
      simp only [Option.bind_some]
      obtain ⟨ps, _, rfl, dm⟩ := A
      have ed : D n (ent (wo (mxv ps) 0 i)) = D n (mnr (ent (mxv ps)) 0 i) := D_congr fun p q hp hq => wo_ent dm hp hq
      rw [ed, rmul_f k (by omega)]
      simp only [Option.bind_some]
      rw [xor_u8, asI_int]
      simp only [Option.bind_some]
      have le := C.le
      have k1 : ∀ y, y < h0.next → h1.get y = h.get y := fun y hy => a2.keep y (by omega) fun f => f
      have k2 : ∀ y, y < h0.next → h2.get y = h1.get y := fun y hy => b2.keep y (by have := a2.le; omega) fun f => f
      rw [same1_of (k1 b e3), same1_of (k2 b e3), same1_of (k1 b' e6), same1_of (k2 b' e6)]
      simp only [Bool.and_self, cond_true, Option.bind_some]
      rw [wrap_succ (by omega), ← st]
      exact det_l0 k hk hn hg w0 ⟨ps, by assumption, rfl, dm⟩ f (i + 1) h2 (by omega) c ((C.then a2).then b2)
theorem rdet_fr (k : Nat) (hk : 1000 < k) : ∀ d n h s m, n < d → n ≤ 64 → WF h → MxI h s n n m → ∃ h', corbelref3_Det.fr k d s h = some (Int.ofNat (D n (ent m)).toNat, h') ∧ Ch0 h h'
  | 0, n, h, s, m, hd, _, _, _ => by omega
  | d + 1, n, h, s, m, hd, hn, w, A => by
    rw [corbelref3_Det.fr_succ]
    unfold corbelref3_Det.f1
    rw [A.n]
    cases n with
    | zero => exact ⟨h, rfl, Ch.refl w⟩
    | succ n =>
      rw [show (Int.ofNat (n + 1) == (0 : Int)) = false by rw [beq_eq_false_iff_ne]; simp only [Int.ofNat_eq_natCast]; omega, cond_false]
      obtain ⟨h', a1, a2⟩ := det_l0 k hk (by omega) (fun h s m w A => rdet_fr k hk d n h s m (by omega) (by omega) w A) w A k 0 h (by omega) (Nat.zero_le _) (Ch.refl w)
      rw [show (0 : Int) = Int.ofNat 0 from rfl]
      rw [show Int.ofNat (S 0 (fun t => mulB (ent m 0 t) (D n (mnr (ent m) 0 t)))).toNat = Int.ofNat 0 from rfl] at a1
      rw [a1]
      exact ⟨h', rfl, a2⟩
theorem rdet_f (k : Nat) (hk : 1000 < k) {n : Nat} {h : H} {s : Sl} {m : Mx} (hn : n ≤ 64) (w : WF h) (A : MxI h s n n m) : ∃ h', corbelref3_Det.f k s h = some (Int.ofNat (D n (ent m)).toNat, h') ∧ Ch0 h h' := by
  unfold corbelref3_Det.f
  exact rdet_fr k hk k n h s m (by omega) hn w A
end Go.Proofs.Ytnjeafdbifcfhaa.Fw
/- The reference's matrices: right ones, the identity, products, inverses. No condition. -/
namespace Go.Proofs.Ytnjeafdbifcfhaa.Fw
open Go Den Fwd GF
set_option linter.unusedVariables false
set_option linter.unusedSimpArgs false
/-! ### right? -/
theorem mxv_hd {ps : Parts} (h : 0 < ps.length) : hd (mxv ps) = ps[0].2 := by
  unfold hd mxv
  cases ps with
  | nil => simp at h
  | cons a l => rfl
theorem rright_l0 (k : Nat) {h : H} (w : WF h) {s : Sl} {ps : Parts} (r : MxR h s ps) (hp : 0 < ps.length) (hl : ps.length ≤ 1000) : ∀ n j, ps.length - j < n → j ≤ ps.length → (∀ i (hi : i < ps.length), i < j → ps[i].2.length = (hd (mxv ps)).length) →
    ∃ v, corbelref3_RightMatrix.l0 k n s (Int.ofNat j) h = some (v, h) ∧ ((v = .inr () ∧ ∀ p ∈ ps, p.2.length = (hd (mxv ps)).length) ∨ (v = .inl false ∧ ∃ p ∈ ps, p.2.length ≠ (hd (mxv ps)).length))
  | 0, j, hf, _, _ => by omega
  | n + 1, j, hf, hj, hA => by
    rw [corbelref3_RightMatrix.l0_succ, r.n]
    by_cases c : j < ps.length
    rotate_left
    · rw [decNlt c, cond_false]
      exact ⟨_, rfl, .inl ⟨rfl, fun p hp => by
        obtain ⟨i, hi, rfl⟩ := List.mem_iff_getElem.1 hp
        exact hA i hi (by omega)⟩⟩
    rw [decLt c, cond_true]
    obtain ⟨p, e1, e2⟩ := r.at c
    obtain ⟨p0, f1, f2⟩ := r.at hp
    rw [r.n] at e1 f1
    rw [e1]
    simp only [asP_ptr, Option.bind_some]
    rw [e2]
    simp only [Option.bind_some]
    rw [show (0 : Int) = Int.ofNat 0 from rfl, f1]
    simp only [asP_ptr, Option.bind_some]
    rw [f2]
    simp only [Option.bind_some]
    rw [(r.row c).n_byt, (r.row hp).n_byt, ← mxv_hd hp]
    by_cases d : ps[j].2.length = (hd (mxv ps)).length
    · rw [d, show ∀ q : Nat, (Int.ofNat q != Int.ofNat q) = false from fun q => by simp, cond_false, wrap_succ (by omega)]
      exact rright_l0 k w r hp hl n (j + 1) (by omega) c fun i hi hij => by
        by_cases z : i = j
        · subst z; exact d
        · exact hA i hi (by omega)
    · rw [show (Int.ofNat ps[j].2.length != Int.ofNat (hd (mxv ps)).length) = true by rw [bne_iff_ne]; exact fun f => d (Int.ofNat.inj f), cond_true]
      exact ⟨_, rfl, .inr ⟨rfl, _, List.getElem_mem c, d⟩⟩
theorem rright_f (k : Nat) (hk : 1000 < k) {h : H} (w : WF h) {s : Sl} {ps : Parts} (r : MxR h s ps) : corbelref3_RightMatrix.f k s h = some (rightM (mxv ps), h) := by
  unfold corbelref3_RightMatrix.f rightM
  rw [r.n, mxv_len]
  by_cases c0 : 1 ≤ ps.length
  rotate_left
  · rw [decide_eq_true (show Int.ofNat ps.length < (1 : Int) by simp only [Int.ofNat_eq_natCast]; omega), decide_eq_false c0]
    rfl
  rw [decide_eq_false (show ¬ Int.ofNat ps.length < (1 : Int) by simp only [Int.ofNat_eq_natCast]; omega), decide_eq_true c0]
  simp only [cond_false, Option.bind_some, Bool.true_and]
  by_cases c1 : ps.length ≤ 64
  rotate_left
  · rw [show decide (Int.ofNat ps.length > (64 : Int)) = true from decLt (a := 64) (by omega), decide_eq_false c1]
    rfl
  rw [show decide (Int.ofNat ps.length > (64 : Int)) = false from decNlt (a := 64) (by omega), decide_eq_true c1]
  simp only [cond_false, Option.bind_some, Bool.true_and]
  have p0 : 0 < ps.length := c0
  obtain ⟨q, f1, f2⟩ := r.at p0
  rw [r.n] at f1
  rw [show (0 : Int) = Int.ofNat 0 from rfl, f1]
  simp only [asP_ptr, Option.bind_some]
  rw [f2]
  simp only [Option.bind_some]
  have ln : ps[0].1.n = (hd (mxv ps)).length := by rw [(r.row p0).n_byt, ← mxv_hd p0]
  rw [ln]
  generalize hq : (hd (mxv ps)).length = m at ln
  by_cases c2 : 1 ≤ m
  rotate_left
  · rw [decide_eq_true (show Int.ofNat m < (1 : Int) by simp only [Int.ofNat_eq_natCast]; omega), decide_eq_false c2]
    rfl
  rw [decide_eq_false (show ¬ Int.ofNat m < (1 : Int) by simp only [Int.ofNat_eq_natCast]; omega), decide_eq_true c2]
  simp only [cond_false, Option.bind_some, Bool.true_and]
  rw [f2]
  simp only [Option.bind_some]
  rw [ln]
  by_cases c3 : m ≤ 64
  rotate_left
  · rw [show decide (Int.ofNat m > (64 : Int)) = true from decLt (a := 64) (by omega), decide_eq_false c3]
    rfl
  rw [show decide (Int.ofNat m > (64 : Int)) = false from decNlt (a := 64) (by omega), decide_eq_true c3]
  simp only [cond_false, Option.bind_some, Bool.true_and]
  obtain ⟨v, a1, a2⟩ := rright_l0 k w r p0 (by omega) k 0 (by omega) (Nat.zero_le _) (fun i hi f => by omega)
  rw [hq] at a2
  rw [a1]
  rcases a2 with ⟨rfl, a2⟩ | ⟨rfl, p, hp, a2⟩
  · have : ((mxv ps).all fun r => decide (r.length = m)) = true := by
      rw [List.all_eq_true]
      intro x hx
      obtain ⟨p, hp, rfl⟩ := List.mem_map.1 hx
      exact decide_eq_true (a2 p hp)
    rw [this]; rfl
  · have : ((mxv ps).all fun r => decide (r.length = m)) = false := by
      rw [List.all_eq_false]
      exact ⟨p.2, List.mem_map.2 ⟨p, hp, rfl⟩, by simpa using a2⟩
    rw [this]; rfl
/-! ### the identity -/
/-! ### products -/
theorem bytD' {x : List UInt8} {i : Nat} (hi : i < x.length) : x[i]? = some (x.getD i 0) := by rw [bytD hi, List.getElem?_eq_getElem hi]
theorem rmulm_l2 (k : Nat) (hk : 1000 < k) {h0 : H} (w0 : WF h0) {sa sb : Sl} {r n c : Nat} {a b : Mx} (A : MxI h0 sa r n a) (B : MxI h0 sb n c b) (hn : n ≤ 64) {ob : Nat} (hob : h0.next ≤ ob) (m i t : Nat) (hi : i < r) (ht : t < c) (x24 : Sl) : ∀ f j h cur, n - j < f → j ≤ n → Ch0 h0 h → Is h ob 5 1 (byt cur) → cur.length = c → cur.getD t 0 = S j (fun q => mulB (ent a i q) (ent b q t)) →
    ∃ h' cur', corbelref3_MulMatrix.l2 k f sa sb x24 (Int.ofNat i) ⟨some ⟨ob, 0, none⟩, c, c⟩ (Int.ofNat t) (Int.ofNat j) h = some ((), h') ∧ Ch0 h0 h' ∧ Is h' ob 5 1 (byt cur') ∧ cur' = cur.set t (mm n (ent a) (ent b) i t)
  | 0, j, h, cur, hf, _, _, _, _, _ => by omega
  | f + 1, j, h, cur, hf, hj, C, I, cl, e => by
    rw [corbelref3_MulMatrix.l2_succ, B.n]
    have ht' : t < cur.length := by omega
    by_cases q : j < n
    rotate_left
    · obtain rfl : j = n := by omega
      rw [decNlt q, cond_false]
      refine ⟨h, cur, rfl, C, I, ?_⟩
      have : mm j (ent a) (ent b) i t = cur[t] := by rw [← bytD ht', e]; rfl
      rw [this, List.set_getElem_self]
    rw [decLt q, cond_true]
    rw [ixs_ptr (show t < c from ht)]
    simp only [asP_ptr, Option.bind_some, Nat.zero_add]
    rw [cell_get I ht', asI_int]
    simp only [Option.bind_some]
    obtain ⟨b1, o1, t1, b1', o1', e1, e2, _, e4, e5, _, e7⟩ := A.cellAt w0 hi q
    rw [e1]
    simp only [asP_ptr, Option.bind_some]
    rw [e2 h C]
    simp only [Option.bind_some]
    rw [e5]
    simp only [asP_ptr, Option.bind_some]
    rw [e7 h C, asI_int]
    simp only [Option.bind_some]
    obtain ⟨b2, o2, t2, b2', o2', f1, f2, _, f4, f5, _, f7⟩ := B.cellAt w0 q ht
    rw [B.n] at f1
    rw [f1]
    simp only [asP_ptr, Option.bind_some]
    rw [f2 h C]
    simp only [Option.bind_some]
    rw [f5]
    simp only [asP_ptr, Option.bind_some]
    rw [f7 h C, asI_int]
    simp only [Option.bind_some]
    rw [rmul_f k (by omega)]
    simp only [Option.bind_some]
    rw [xor_u8, asI_int]
    simp only [Option.bind_some]
    obtain ⟨h1, g1, g2, g3, g4⟩ := cell_set C.wf I ht' (cur[t] ^^^ mulB (ent a i j) (ent b j t))
    rw [g1]
    simp only [Option.bind_some]
    rw [same1_of rfl]
    simp only [Bool.and_self, cond_true]
    rw [wrap_succ (by omega)]
    obtain ⟨h', cur', x1, x2, x3, x4⟩ := rmulm_l2 k hk w0 A B hn hob m i t hi ht x24 f (j + 1) h1 _ (by omega) q (Ch0.at C g2 hob) g4 (by rw [List.length_set]; exact cl) (by
      rw [List.getD_eq_getElem?_getD, List.getElem?_set, if_pos rfl, if_pos ht']
      show cur[t] ^^^ _ = S j _ ^^^ _
      rw [← e, bytD ht'])
    exact ⟨h', cur', x1, x2, x3, by rw [x4, List.set_set]⟩
theorem rmulm_l1 (k : Nat) (hk : 1000 < k) {h0 : H} (w0 : WF h0) {sa sb : Sl} {r n c : Nat} {a b : Mx} (A : MxI h0 sa r n a) (B : MxI h0 sb n c b) (hn : n ≤ 64) (hc : c ≤ 64) {ob : Nat} (hob : h0.next ≤ ob) (i : Nat) (hi : i < r) (x24 : Sl) : ∀ f t h cur, c - t < f → t ≤ c → Ch0 h0 h → Is h ob 5 1 (byt cur) → cur.length = c → (∀ q, q < c → cur.getD q 0 = if q < t then mm n (ent a) (ent b) i q else 0) →
    ∃ h' cur', corbelref3_MulMatrix.l1 k f sa sb x24 (Int.ofNat i) ⟨some ⟨ob, 0, none⟩, c, c⟩ (Int.ofNat t) h = some ((), h') ∧ Ch0 h0 h' ∧ Is h' ob 5 1 (byt cur') ∧ cur'.length = c ∧ ∀ q, q < c → cur'.getD q 0 = mm n (ent a) (ent b) i q
  | 0, t, h, cur, hf, _, _, _, _, _ => by omega
  | f + 1, t, h, cur, hf, hj, C, I, cl, e => by
    rw [corbelref3_MulMatrix.l1_succ]
    by_cases q : t < c
    rotate_left
    · rw [show decide (Int.ofNat t < Int.ofNat c) = false from decNlt q, cond_false]
      exact ⟨h, cur, rfl, C, I, cl, fun q hq => by rw [e q hq, if_pos (by omega)]⟩
    rw [show decide (Int.ofNat t < Int.ofNat c) = true from decLt q, cond_true]
    obtain ⟨h1, cur1, x1, x2, x3, x4⟩ := rmulm_l2 k hk w0 A B hn hob 0 i t hi q x24 k 0 h cur (by omega) (Nat.zero_le _) C I cl (by rw [e t q, if_neg (Nat.lt_irrefl _)]; rfl)
    rw [show (0 : Int) = Int.ofNat 0 from rfl, x1]
    simp only [Option.bind_some]
    rw [wrap_succ (by omega)]
    refine rmulm_l1 k hk w0 A B hn hc hob i hi x24 f (t + 1) h1 cur1 (by omega) q x2 x3 (by rw [x4, List.length_set]; exact cl) fun p hp => ?_
    rw [x4, List.getD_eq_getElem?_getD, List.getElem?_set]
    by_cases z : t = p
    · rw [if_pos z, if_pos (by omega), z, if_pos (Nat.lt_succ_self p)]; rfl
    · rw [if_neg z, ← List.getD_eq_getElem?_getD, e p hp]
      by_cases y : p < t
      · rw [if_pos y, if_pos (by omega)]
      · rw [if_neg y, if_neg (by omega)]
theorem rmulm_l0 (k : Nat) (hk : 1000 < k) {h0 : H} (w0 : WF h0) {sa sb : Sl} {r n c : Nat} {a b : Mx} (A : MxI h0 sa r n a) (B : MxI h0 sb n c b) (hr : r ≤ 64) (hn0 : 0 < n) (hn : n ≤ 64) (hc : c ≤ 64) : ∀ f i h out os, r - i < f → i ≤ r → MxO h0 h out os → Dim i c (mxv os) → (∀ p q, p < i → q < c → ent (mxv os) p q = mm n (ent a) (ent b) p q) →
    ∃ out' os' h', corbelref3_MulMatrix.l0 k f sa sb out (Int.ofNat i) h = some (out', h') ∧ MxO h0 h' out' os' ∧ Dim r c (mxv os') ∧ ∀ p q, p < r → q < c → ent (mxv os') p q = mm n (ent a) (ent b) p q
  | 0, i, h, out, os, hf, _, _, _, _ => by omega
  | f + 1, i, h, out, os, hf, hi, O, d, e => by
    rw [corbelref3_MulMatrix.l0_succ, A.n]
    by_cases q : i < r
    rotate_left
    · obtain rfl : i = r := by omega
      rw [decNlt q, cond_false]
      exact ⟨out, os, h, rfl, O, d, e⟩
    rw [decLt q, cond_true]
    obtain ⟨qs, b1, b2, b3⟩ := B
    have ql : qs.length = n := by rw [← mxv_len, b2, b3.n]
    have q0 : 0 < qs.length := by omega
    obtain ⟨p, f1, f2⟩ := (b1.stay w0 O.ch).at q0
    rw [show (0 : Int) = Int.ofNat 0 from rfl, f1]
    simp only [asP_ptr, Option.bind_some]
    rw [f2]
    simp only [Option.bind_some]
    have l0 : qs[0].1.n = c := by
      rw [(b1.row q0).n_byt]
      exact b3.w _ (by rw [← b2]; exact List.mem_map.2 ⟨_, List.getElem_mem q0, rfl⟩)
    rw [l0, mkz_ok _ rfl (by omega) (by omega)]
    obtain ⟨z1, z2, z3⟩ := newZ_ok O.ch.wf 5 1 (.int .u8 (Int.ofNat 0)) c
    rw [show asS2 (some (Value.slice (some ⟨h.next, 0, none⟩) c c, newZ h 5 1 [Value.int .u8 (Int.ofNat 0)] c)) = some ((⟨some ⟨h.next, 0, none⟩, c, c⟩ : Sl), newZ h 5 1 [Value.int .u8 (Int.ofNat 0)] c) from rfl]
    simp only [Option.bind_some]
    have zb : List.replicate c (Value.int .u8 (Int.ofNat 0)) = byt (List.replicate c 0) := byt_rep c
    rw [Nat.mul_one, zb] at z3
    generalize newZ h 5 1 [Value.int .u8 (Int.ofNat 0)] c = g at z1 z2 z3 ⊢
    have hob : h.next ≤ h.next := Nat.le_refl _
    have A1 := A.stay w0 O.ch
    have B1 : MxI h sb n c b := ⟨qs, b1.stay w0 O.ch, b2, b3⟩
    obtain ⟨h1, cur, x1, x2, x3, x4, x5⟩ := rmulm_l1 k hk O.ch.wf A1 B1 hn hc hob i q out k 0 g (List.replicate c 0) (by omega) (Nat.zero_le _) z1 z3 List.length_replicate (fun t ht => by rw [if_neg (by omega), List.getD_eq_getElem?_getD, List.getElem?_replicate, if_pos ht]; rfl)
    rw [x1]
    simp only [Option.bind_some]
    have ol : os.length = i := by rw [← mxv_len, d.n]
    obtain ⟨s', h2, g1, g2⟩ := (O.more x2).push ⟨some ⟨h.next, 0, none⟩, c, c⟩ cur (SlR.of_is x3 (n := c) (by rw [byt_len, x4, Nat.mul_one]) (by unfold unk; omega)) (fun z hz f => by obtain ⟨o, e⟩ := hz; have : h.next = z := congrArg Addr.block (Option.some.inj e); have := O.ow.lt O.ch.wf f; omega) (by omega)
    rw [g1]
    simp only [Option.bind_some]
    rw [wrap_succ (by omega)]
    have em : mxv (os ++ [((⟨some ⟨h.next, 0, none⟩, c, c⟩ : Sl), cur)]) = mxv os ++ [cur] := by unfold mxv; rw [List.map_append]; rfl
    refine rmulm_l0 k hk w0 A ⟨qs, b1, b2, b3⟩ hr hn0 hn hc f (i + 1) h2 s' _ (by omega) q g2 ⟨by rw [em, List.length_append, d.n]; rfl, fun y hy => ?_⟩ fun p t hp ht => ?_
    · rw [em] at hy
      rcases List.mem_append.1 hy with z | z
      · exact d.w y z
      · rw [List.mem_singleton.1 z]; exact x4
    · rw [em]
      unfold ent
      by_cases z : p < i
      · rw [show (mxv os ++ [cur]).getD p [] = (mxv os).getD p [] by rw [List.getD_eq_getElem?_getD, List.getElem?_append_left (by rw [d.n]; exact z), ← List.getD_eq_getElem?_getD]]
        exact e p t z ht
      · obtain rfl : p = i := by omega
        rw [show (mxv os ++ [cur]).getD p [] = cur by rw [List.getD_eq_getElem?_getD, List.getElem?_append_right (by rw [d.n]; exact Nat.le_refl _), d.n, Nat.sub_self]; rfl]
        exact x5 t ht
theorem rmulm_f (k : Nat) (hk : 1000 < k) {h : H} (w : WF h) {sa sb : Sl} {r n c : Nat} {a b : Mx} (A : MxI h sa r n a) (B : MxI h sb n c b) (h1 : 0 < r) (h2 : r ≤ 64) (h3 : 0 < n) (h4 : n ≤ 64) (h5 : 0 < c) (h6 : c ≤ 64) :
    ∃ s h', corbelref3_MulMatrix.f k sa sb h = some (s, h') ∧ Ch0 h h' ∧ MxI h' s r c (mulM a b) := by
  unfold corbelref3_MulMatrix.f
  obtain ⟨ps, a1, a2, a3⟩ := A
  obtain ⟨qs, b1, b2, b3⟩ := B
  rw [rright_f k hk w a1, a2, (rightM_iff _).2 (a3.rt h1 h2 h3 h4)]
  simp only [Option.bind_some, Bool.not_true, cond_false]
  rw [rright_f k hk w b1, b2, (rightM_iff _).2 (b3.rt h3 h4 h5 h6)]
  simp only [Option.bind_some, Bool.not_true, cond_false]
  have pl : ps.length = r := by rw [← mxv_len, a2, a3.n]
  have ql : qs.length = n := by rw [← mxv_len, b2, b3.n]
  have p0 : 0 < ps.length := by omega
  obtain ⟨p, f1, f2⟩ := a1.at p0
  rw [show (0 : Int) = Int.ofNat 0 from rfl, f1]
  simp only [asP_ptr, Option.bind_some]
  rw [f2]
  simp only [Option.bind_some]
  have l0 : ps[0].1.n = n := by
    rw [(a1.row p0).n_byt]
    exact a3.w _ (by rw [← a2]; exact List.mem_map.2 ⟨_, List.getElem_mem p0, rfl⟩)
  rw [l0, b1.n, ql, show (Int.ofNat n != Int.ofNat n) = false by simp, cond_false]
  obtain ⟨s, os, h', x1, x2, x3, x4⟩ := rmulm_l0 k hk w ⟨ps, a1, a2, a3⟩ ⟨qs, b1, b2, b3⟩ h2 h3 h4 h6 k 0 h ⟨none, 0, 0⟩ [] (by omega) (Nat.zero_le _) (MxO.nil w) ⟨rfl, fun y hy => by cases hy⟩ (fun p q hp => by omega)
  rw [x1]
  refine ⟨s, h', rfl, x2.ch, os, x2.mxr, ?_, mulM_dim a3 b3 h3⟩
  exact x3.ext (mulM_dim a3 b3 h3) fun i j hi hj => by rw [x4 i j hi hj, mulM_ent a3 b3 h3 hi j]
/-! ### inverses -/
theorem rinvm_l1 (k : Nat) (hk : 1000 < k) {h0 : H} (w0 : WF h0) {s : Sl} {n : Nat} {m : Mx} (A : MxI h0 s (n + 1) (n + 1) m) (hn : n < 64) (d : UInt8) {ob : Nat} (hob : h0.next ≤ ob) (i : Nat) (hi : i < n + 1) (x15 : Sl) : ∀ f t h cur, n + 1 - t < f → t ≤ n + 1 → Ch0 h0 h → Is h ob 5 1 (byt cur) → cur.length = n + 1 → (∀ q, q < t → cur.getD q 0 = mulB d (D n (mnr (ent m) q i))) →
    ∃ h' cur', corbelref3_Inverse.l1 k f s (Int.ofNat d.toNat) x15 (Int.ofNat i) ⟨some ⟨ob, 0, none⟩, n + 1, n + 1⟩ (Int.ofNat t) h = some ((), h') ∧ Ch0 h0 h' ∧ Is h' ob 5 1 (byt cur') ∧ cur'.length = n + 1 ∧ ∀ q, q < n + 1 → cur'.getD q 0 = mulB d (D n (mnr (ent m) q i))
  | 0, t, h, cur, hf, _, _, _, _, _ => by omega
  | f + 1, t, h, cur, hf, ht, C, I, cl, e => by
    rw [corbelref3_Inverse.l1_succ, A.n]
    by_cases q : t < n + 1
    rotate_left
    · rw [decNlt q, cond_false]
      exact ⟨h, cur, rfl, C, I, cl, fun q hq => e q (by omega)⟩
    rw [decLt q, cond_true]
    obtain ⟨u, h1, a1, a2, a3⟩ := without_f k hk C.wf (A.stay w0 C) hn q hi
    rw [a1]
    simp only [Option.bind_some]
    obtain ⟨h2, b1, b2⟩ := rdet_f k hk (by omega) a2.wf a3
    rw [b1]
    simp only [Option.bind_some]
    obtain ⟨ps, p1, rfl, dm⟩ := A
    have ed : D n (ent (wo (mxv ps) t i)) = D n (mnr (ent (mxv ps)) t i) := D_congr fun p q hp hq => wo_ent dm hp hq
    rw [ed, rmul_f k (by omega)]
    simp only [Option.bind_some]
    rw [ixs_ptr (show t < n + 1 from q)]
    simp only [asP_ptr, Option.bind_some, Nat.zero_add]
    have c2 := (C.then a2).then b2
    obtain ⟨h3, g1, g2, g3, g4⟩ := cell_set b2.wf ((I.stay C.wf a2).stay a2.wf b2) (j := t) (by omega) (mulB d (D n (mnr (ent (mxv ps)) t i)))
    rw [g1]
    simp only [Option.bind_some]
    rw [wrap_succ (by omega)]
    refine rinvm_l1 k hk w0 ⟨ps, p1, rfl, dm⟩ hn d hob i hi x15 f (t + 1) h3 _ (by omega) q (Ch0.at c2 g2 hob) g4 (by rw [List.length_set]; exact cl) fun p hp => ?_
    rw [List.getD_eq_getElem?_getD, List.getElem?_set]
    by_cases z : t = p
    · rw [if_pos z, if_pos (by omega), z]; rfl
    · rw [if_neg z, ← List.getD_eq_getElem?_getD]
      exact e p (by omega)
theorem rinvm_l0 (k : Nat) (hk : 1000 < k) {h0 : H} (w0 : WF h0) {s : Sl} {n : Nat} {m : Mx} (A : MxI h0 s (n + 1) (n + 1) m) (hn : n < 64) (d : UInt8) : ∀ f i h out os, n + 1 - i < f → i ≤ n + 1 → MxO h0 h out os → Dim i (n + 1) (mxv os) → (∀ p q, p < i → q < n + 1 → ent (mxv os) p q = mulB d (D n (mnr (ent m) q p))) →
    ∃ out' os' h', corbelref3_Inverse.l0 k f s (Int.ofNat d.toNat) out (Int.ofNat i) h = some (out', h') ∧ MxO h0 h' out' os' ∧ Dim (n + 1) (n + 1) (mxv os') ∧ ∀ p q, p < n + 1 → q < n + 1 → ent (mxv os') p q = mulB d (D n (mnr (ent m) q p))
  | 0, i, h, out, os, hf, _, _, _, _ => by omega
  | f + 1, i, h, out, os, hf, hi, O, dd, e => by
    rw [corbelref3_Inverse.l0_succ, A.n]
    by_cases q : i < n + 1
    rotate_left
    · obtain rfl : i = n + 1 := by omega
      rw [decNlt q, cond_false]
      exact ⟨out, os, h, rfl, O, dd, e⟩
    rw [decLt q, cond_true, mkz_ok _ rfl (by omega) (by omega)]
    obtain ⟨z1, z2, z3⟩ := newZ_ok O.ch.wf 5 1 (.int .u8 (0 : Int)) (n + 1)
    rw [show asS2 (some (Value.slice (some ⟨h.next, 0, none⟩) (n + 1) (n + 1), newZ h 5 1 [Value.int .u8 (0 : Int)] (n + 1))) = some ((⟨some ⟨h.next, 0, none⟩, n + 1, n + 1⟩ : Sl), newZ h 5 1 [Value.int .u8 (0 : Int)] (n + 1)) from rfl]
    simp only [Option.bind_some]
    rw [Nat.mul_one, byt_rep] at z3
    generalize newZ h 5 1 [Value.int .u8 (0 : Int)] (n + 1) = g at z1 z2 z3 ⊢
    obtain ⟨h1, cur, x1, x2, x3, x4, x5⟩ := rinvm_l1 k hk O.ch.wf (A.stay w0 O.ch) hn d (Nat.le_refl _) i q out k 0 g (List.replicate (n + 1) 0) (by omega) (Nat.zero_le _) z1 z3 List.length_replicate (fun t ht => by omega)
    rw [show (0 : Int) = Int.ofNat 0 from rfl, x1]
    simp only [Option.bind_some]
    have ol : os.length = i := by rw [← mxv_len, dd.n]
    obtain ⟨s', h2, g1, g2⟩ := (O.more x2).push ⟨some ⟨h.next, 0, none⟩, n + 1, n + 1⟩ cur (SlR.of_is x3 (n := n + 1) (by rw [byt_len, x4, Nat.mul_one]) (by unfold unk; omega)) (fun z hz f => by obtain ⟨o, e⟩ := hz; have : h.next = z := congrArg Addr.block (Option.some.inj e); have := O.ow.lt O.ch.wf f; omega) (by omega)
    rw [g1]
    simp only [Option.bind_some]
    rw [wrap_succ (by omega)]
    have em : mxv (os ++ [((⟨some ⟨h.next, 0, none⟩, n + 1, n + 1⟩ : Sl), cur)]) = mxv os ++ [cur] := by unfold mxv; rw [List.map_append]; rfl
    refine rinvm_l0 k hk w0 A hn d f (i + 1) h2 s' _ (by omega) q g2 ⟨by rw [em, List.length_append, dd.n]; rfl, fun y hy => ?_⟩ fun p t hp ht => ?_
    · rw [em] at hy
      rcases List.mem_append.1 hy with z | z
      · exact dd.w y z
      · rw [List.mem_singleton.1 z]; exact x4
    · rw [em]
      unfold ent
      by_cases z : p < i
      · rw [show (mxv os ++ [cur]).getD p [] = (mxv os).getD p [] by rw [List.getD_eq_getElem?_getD, List.getElem?_append_left (by rw [dd.n]; exact z), ← List.getD_eq_getElem?_getD]]
        exact e p t z ht
      · obtain rfl : p = i := by omega
        rw [show (mxv os ++ [cur]).getD p [] = cur by rw [List.getD_eq_getElem?_getD, List.getElem?_append_right (by rw [dd.n]; exact Nat.le_refl _), dd.n, Nat.sub_self]; rfl]
        exact x5 t ht
/-- the reference's inverse is the program's -/
theorem rinvm_f (k : Nat) (hk : 1000 < k) {h : H} (w : WF h) {s : Sl} {n : Nat} {m : Mx} (A : MxI h s n n m) (h1 : 0 < n) (h2 : n ≤ 64) :
    ∃ t ok h', corbelref3_Inverse.f k s h = some ((t, ok), h') ∧ Ch0 h h' ∧ ((ok = false ∧ t = ⟨none, 0, 0⟩ ∧ invP m = none) ∨ ∃ x, ok = true ∧ invP m = some x ∧ MxI h' t n n x) := by
  unfold corbelref3_Inverse.f
  obtain ⟨n, rfl⟩ : ∃ q, n = q + 1 := ⟨n - 1, by omega⟩
  have A0 := A
  obtain ⟨ps, a1, a2, a3⟩ := A
  have pl : ps.length = n + 1 := by rw [← mxv_len, a2, a3.n]
  rw [rright_f k hk w a1, a2, (rightM_iff _).2 (a3.rt h1 h2 h1 h2)]
  simp only [Option.bind_some, Bool.not_true, cond_false]
  have p0 : 0 < ps.length := by omega
  obtain ⟨p, f1, f2⟩ := a1.at p0
  rw [show (0 : Int) = Int.ofNat 0 from rfl, f1]
  simp only [asP_ptr, Option.bind_some]
  rw [f2]
  simp only [Option.bind_some]
  have l0 : ps[0].1.n = n + 1 := by
    rw [(a1.row p0).n_byt]
    exact a3.w _ (by rw [← a2]; exact List.mem_map.2 ⟨_, List.getElem_mem p0, rfl⟩)
  rw [l0, a1.n, pl, show (Int.ofNat (n + 1) != Int.ofNat (n + 1)) = false by simp, cond_false]
  obtain ⟨h3, b1, b2⟩ := rdet_f k hk h2 w A0
  rw [b1]
  simp only [Option.bind_some]
  rw [rinv_f k (by omega)]
  simp only [Option.bind_some]
  rcases invP_det a3 h1 with ⟨z, e⟩ | ⟨z, e⟩
  · rw [if_neg z]
    simp only [Bool.not_true, cond_false]
    obtain ⟨t, os, h', x1, x2, x3, x4⟩ := rinvm_l0 k hk b2.wf (A0.stay w b2) (by omega) (invB (D (n + 1) (ent m))) k 0 h3 ⟨none, 0, 0⟩ [] (by omega) (Nat.zero_le _) (MxO.nil b2.wf) ⟨rfl, fun y hy => by cases hy⟩ (fun p q hp => by omega)
    rw [x1]
    refine ⟨t, true, h', rfl, b2.then x2.ch, .inr ⟨_, rfl, e, os, x2.mxr, ?_, mxOf_dim _ _⟩⟩
    exact x3.ext (mxOf_dim _ _) fun i j hi hj => by
      rw [x4 i j hi hj, mxOf_ent _ hi hj]
      rfl
  · rw [if_pos z]
    exact ⟨_, false, h3, rfl, b2, .inl ⟨rfl, rfl, e⟩⟩
end Go.Proofs.Ytnjeafdbifcfhaa.Fw
