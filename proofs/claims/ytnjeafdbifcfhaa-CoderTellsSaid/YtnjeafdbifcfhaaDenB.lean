/- A small machine for closed runs: what ties its heap to the real one. No condition. -/
import Derived.Test.YtnjeafdbifcfhaaDenA
namespace Go.Proofs.Ytnjeafdbifcfhaa.Den
open Go
set_option linter.unusedSimpArgs false
set_option linter.unusedVariables false

theorem beq_dec (a b : Nat) : Nat.beq a b = decide (a = b) := by rw [Bool.eq_iff_iff, Nat.beq_eq]; simp
theorem T.get_eq {α : Type} (t : T α) (m : Nat) : t.get m = if m = 0 then t.val else if m % 2 = 1 then t.lft.get (m / 2) else t.rgt.get (m / 2 - 1) := by
  cases t with
  | nil => simp [T.get, T.val, T.lft, T.rgt]
  | node v l r =>
    cases m with
    | zero => rfl
    | succ m =>
      show Bool.rec (motive := fun _ => Option α) (T.get r (Nat.pred ((m + 1) / 2))) (T.get l ((m + 1) / 2)) (Nat.beq ((m + 1) % 2) 1) = _
      rw [beq_dec, if_neg (Nat.succ_ne_zero m)]
      by_cases h2 : (m + 1) % 2 = 1
      · rw [decide_eq_true h2, if_pos h2]; rfl
      · rw [decide_eq_false h2, if_neg h2]; rfl

theorem T.set_eq {α : Type} (f : Nat) (t : T α) (n : Nat) (x : α) : T.set (f + 1) t n x = if n = 0 then .node (some x) t.lft t.rgt else if n % 2 = 1 then .node t.val (T.set f t.lft (n / 2) x) t.rgt else .node t.val t.lft (T.set f t.rgt (n / 2 - 1) x) := by
  cases n with
  | zero => cases t <;> rfl
  | succ n =>
    rw [if_neg (Nat.succ_ne_zero n)]
    cases t with
    | nil =>
      show Bool.rec (motive := fun _ => T α) (T.node none .nil (T.set f .nil (Nat.pred ((n + 1) / 2)) x)) (.node none (T.set f .nil ((n + 1) / 2) x) .nil) (Nat.beq ((n + 1) % 2) 1) = _
      rw [beq_dec]
      by_cases h2 : (n + 1) % 2 = 1
      · rw [decide_eq_true h2, if_pos h2]; rfl
      · rw [decide_eq_false h2, if_neg h2]; rfl
    | node v l r =>
      show Bool.rec (motive := fun _ => T α) (T.node v l (T.set f r (Nat.pred ((n + 1) / 2)) x)) (.node v (T.set f l ((n + 1) / 2) x) r) (Nat.beq ((n + 1) % 2) 1) = _
      rw [beq_dec]
      by_cases h2 : (n + 1) % 2 = 1
      · rw [decide_eq_true h2, if_pos h2]; rfl
      · rw [decide_eq_false h2, if_neg h2]; rfl

theorem T.get_set {α : Type} (x : α) : ∀ (f : Nat) (t : T α) (n m : Nat), n < f → (T.set f t n x).get m = if m = n then some x else t.get m
  | 0, _, _, _, h => absurd h (Nat.not_lt_zero _)
  | f + 1, t, n, m, h => by
    rw [T.set_eq]
    by_cases hn : n = 0
    · subst hn
      rw [if_pos rfl, T.get_eq]
      by_cases hm : m = 0
      · simp [hm, T.val]
      · rw [if_neg hm, if_neg hm, T.get_eq t m, if_neg hm]; rfl
    · by_cases hn2 : n % 2 = 1
      · rw [if_neg hn, if_pos hn2, T.get_eq, T.get_eq t m]
        by_cases hm : m = 0
        · rw [if_pos hm, if_pos hm, if_neg (by omega)]; rfl
        · by_cases hm2 : m % 2 = 1
          · rw [if_neg hm, if_pos hm2, if_neg hm, if_pos hm2]
            show (T.set f t.lft (n / 2) x).get (m / 2) = _
            rw [T.get_set x f t.lft (n / 2) (m / 2) (by omega)]
            by_cases hk : m / 2 = n / 2
            · rw [if_pos hk, if_pos (by omega)]
            · rw [if_neg hk, if_neg (by omega)]
          · rw [if_neg hm, if_neg hm2, if_neg hm, if_neg hm2, if_neg (by omega)]; rfl
      · rw [if_neg hn, if_neg hn2, T.get_eq, T.get_eq t m]
        by_cases hm : m = 0
        · rw [if_pos hm, if_pos hm, if_neg (by omega)]; rfl
        · by_cases hm2 : m % 2 = 1
          · rw [if_neg hm, if_pos hm2, if_neg hm, if_pos hm2, if_neg (by omega)]; rfl
          · rw [if_neg hm, if_neg hm2, if_neg hm, if_neg hm2]
            show (T.set f t.rgt (n / 2 - 1) x).get (m / 2 - 1) = _
            rw [T.get_set x f t.rgt (n / 2 - 1) (m / 2 - 1) (by omega)]
            by_cases hk : m / 2 - 1 = n / 2 - 1
            · rw [if_pos hk, if_pos (by omega)]
            · rw [if_neg hk, if_neg (by omega)]
theorem T.get_put {α : Type} (t : T α) (n m : Nat) (x : α) : (t.put n x).get m = if m = n then some x else t.get m := T.get_set x (n + 1) t n m (Nat.lt_succ_self n)
theorem T.get_put_self {α : Type} (t : T α) (n : Nat) (x : α) : (t.put n x).get n = some x := by rw [T.get_put, if_pos rfl]
theorem T.get_put_ne {α : Type} (t : T α) {n m : Nat} (x : α) (h : m ≠ n) : (t.put n x).get m = t.get m := by rw [T.get_put, if_neg h]
theorem T.get_nil {α : Type} (m : Nat) : (T.nil : T α).get m = none := rfl

/-! ### where a block of the machine lies -/
structure Sg where
  j : Nat → Option Nat
  rs : Nat → Nat
  es : Nat → Nat

def CapR (σ : Sg) (b o len cap cap' : Nat) : Prop := (cap < unk ∧ cap' = cap) ∨ (cap = unkOf (σ.es b) ∧ len ≤ cap' ∧ o + cap' * σ.es b = σ.rs b)

inductive VR (σ : Sg) : Value → Value → Prop where
  | bool (b : Bool) : VR σ (.bool b) (.bool b)
  | int (k : IntKind) (n : Int) : VR σ (.int k n) (.int k n)
  | string (s : ByteArray) : VR σ (.string s) (.string s)
  | nilp : VR σ (.pointer none) (.pointer none)
  | ptr {b r : Nat} (o : Nat) (h : σ.j b = some r) : VR σ (.pointer (some ⟨b, o, none⟩)) (.pointer (some ⟨r, o, none⟩))
  | nils : VR σ (.slice none 0 0) (.slice none 0 0)
  | slice {b r : Nat} (o len : Nat) {cap cap' : Nat} (h : σ.j b = some r) (hc : CapR σ b o len cap cap') : VR σ (.slice (some ⟨b, o, none⟩) len cap) (.slice (some ⟨r, o, none⟩) len cap')
  | emp (a : Addr) (c : Nat) : VR σ emptyV (.slice (some a) 0 c)
  | nilm : VR σ (.map none) (.map none)
  | map {b r : Nat} (h : σ.j b = some r) : VR σ (.map (some b)) (.map (some r))
  | nilf : VR σ .nilFunc .nilFunc
  | nili : VR σ .nilIface .nilIface
  | func (f : Fn) {a a' c c' : Array Value} (ha : a.size = a'.size) (hc : c.size = c'.size) (va : ∀ (i : Nat) (v v' : Value), a[i]? = some v → a'[i]? = some v' → VR σ v v')
      (vc : ∀ (i : Nat) (v v' : Value), c[i]? = some v → c'[i]? = some v' → VR σ v v') : VR σ (.func f a c) (.func f a' c')
  | agg {a a' : Array Value} (ha : a.size = a'.size) (va : ∀ (i : Nat) (v v' : Value), a[i]? = some v → a'[i]? = some v' → VR σ v v') : VR σ (.agg a) (.agg a')
  | tuple {a a' : Array Value} (ha : a.size = a'.size) (va : ∀ (i : Nat) (v v' : Value), a[i]? = some v → a'[i]? = some v' → VR σ v v') : VR σ (.tuple a) (.tuple a')

/-- lists, value by value -/
inductive VRs (σ : Sg) : List Value → List Value → Prop where
  | nil : VRs σ [] []
  | cons {v v' : Value} {l l' : List Value} (h : VR σ v v') (hl : VRs σ l l') : VRs σ (v :: l) (v' :: l')

theorem VRs.length {σ : Sg} {l l' : List Value} (h : VRs σ l l') : l.length = l'.length := by
  induction h with
  | nil => rfl
  | cons _ _ ih => simp [ih]
theorem VRs.get {σ : Sg} {l l' : List Value} (h : VRs σ l l') : ∀ (i : Nat) {v : Value}, l[i]? = some v → ∃ v', l'[i]? = some v' ∧ VR σ v v' := by
  induction h with
  | nil => intro i v h; simp at h
  | cons hv _ ih =>
    intro i v h
    cases i with
    | zero => simp at h; subst h; exact ⟨_, by simp, hv⟩
    | succ i => simp at h; obtain ⟨v', h1, h2⟩ := ih i h; exact ⟨v', by simpa using h1, h2⟩
theorem VRs.of_get {σ : Sg} : ∀ {l l' : List Value}, l.length = l'.length → (∀ (i : Nat) (v v' : Value), l[i]? = some v → l'[i]? = some v' → VR σ v v') → VRs σ l l'
  | [], [], _, _ => .nil
  | [], _ :: _, h, _ => by simp at h
  | _ :: _, [], h, _ => by simp at h
  | v :: l, v' :: l', h, hv => .cons (hv 0 v v' (by simp) (by simp)) (VRs.of_get (by simpa using h) fun i a a' h1 h2 => hv (i + 1) a a' (by simpa using h1) (by simpa using h2))
theorem VRs.append {σ : Sg} {l l' m m' : List Value} (h : VRs σ l l') (hm : VRs σ m m') : VRs σ (l ++ m) (l' ++ m') := by
  induction h with
  | nil => exact hm
  | cons hv _ ih => exact .cons hv ih
theorem VRs.of_arrays {σ : Sg} {a a' : Array Value} (h : a.size = a'.size) (va : ∀ (i : Nat) (v v' : Value), a[i]? = some v → a'[i]? = some v' → VR σ v v') : VRs σ a.toList a'.toList :=
  VRs.of_get (by simpa using h) fun i v v' h1 h2 => va i v v' (by simpa using h1) (by simpa using h2)
theorem VRs.arrays {σ : Sg} {l l' : List Value} (h : VRs σ l l') : ∀ (i : Nat) (v v' : Value), l.toArray[i]? = some v → l'.toArray[i]? = some v' → VR σ v v' := by
  intro i v v' h1 h2
  obtain ⟨u, hu, hv⟩ := h.get i (v := v) (by simpa using h1)
  have : l'[i]? = some v' := by simpa using h2
  rw [this] at hu; cases hu; exact hv
theorem VRs.agg {σ : Sg} {l l' : List Value} (h : VRs σ l l') : VR σ (.agg l.toArray) (.agg l'.toArray) := .agg (by simpa using h.length) h.arrays
theorem VRs.tuple {σ : Sg} {l l' : List Value} (h : VRs σ l l') : VR σ (.tuple l.toArray) (.tuple l'.toArray) := .tuple (by simpa using h.length) h.arrays

theorem VR.cells {σ : Sg} {v v' : Value} (h : VR σ v v') : VRs σ v.cells.toList v'.cells.toList := by
  cases h with
  | agg ha va => exact VRs.of_arrays ha va
  | _ => exact .cons (by constructor <;> assumption) .nil
theorem VR.undef (σ : Sg) : VR σ undef undef := .tuple rfl (fun i v v' h _ => by simp at h)

theorem plain1_VR (σ : Sg) {v : Value} (h : plain1 v = true) : VR σ v v := by
  cases v <;> simp [plain1] at h
  case bool b => exact .bool b
  case int k n => exact .int k n
  case string s => exact .string s
  case pointer a => cases a with
    | none => exact .nilp
    | some a => simp at h
  case slice a n c => cases a with
    | none => simp at h; obtain ⟨rfl, rfl⟩ := h; exact .nils
    | some a => simp at h
  case map a => cases a with
    | none => exact .nilm
    | some a => simp at h
  case nilFunc => exact .nilf
  case nilIface => exact .nili
theorem plain_VR (σ : Sg) {v : Value} (h : plain v = true) : VR σ v v := by
  cases v
  case agg cs =>
    refine .agg rfl fun i v v' h1 h2 => ?_
    rw [h1] at h2; cases h2
    have : v ∈ cs.toList := by
      rw [← Array.getElem?_toList] at h1
      exact List.mem_of_getElem? h1
    exact plain1_VR σ (List.all_eq_true.1 h v this)
  all_goals exact plain1_VR σ h

/-- the same places, and more -/
structure Sg.le (σ σ' : Sg) : Prop where
  j : ∀ b r, σ.j b = some r → σ'.j b = some r
  rs : ∀ b r, σ.j b = some r → σ'.rs b = σ.rs b
  es : ∀ b r, σ.j b = some r → σ'.es b = σ.es b
theorem Sg.le.refl (σ : Sg) : σ.le σ := ⟨fun _ _ h => h, fun _ _ _ => rfl, fun _ _ _ => rfl⟩
theorem Sg.le.trans {a b c : Sg} (h : a.le b) (k : b.le c) : a.le c :=
  ⟨fun x r hx => k.j x r (h.j x r hx), fun x r hx => (k.rs x r (h.j x r hx)).trans (h.rs x r hx), fun x r hx => (k.es x r (h.j x r hx)).trans (h.es x r hx)⟩
theorem VR.mono {σ σ' : Sg} (h : σ.le σ') {v v' : Value} (hv : VR σ v v') : VR σ' v v' := by
  induction hv with
  | bool b => exact .bool b
  | int k n => exact .int k n
  | string s => exact .string s
  | nilp => exact .nilp
  | ptr o hj => exact .ptr o (h.j _ _ hj)
  | nils => exact .nils
  | slice o len hj hc =>
    refine .slice o len (h.j _ _ hj) ?_
    rcases hc with hc | ⟨h1, h2, h3⟩
    · exact .inl hc
    · exact .inr ⟨by rw [h.es _ _ hj]; exact h1, h2, by rw [h.es _ _ hj, h.rs _ _ hj]; exact h3⟩
  | emp a c => exact .emp a c
  | nilm => exact .nilm
  | map hj => exact .map (h.j _ _ hj)
  | nilf => exact .nilf
  | nili => exact .nili
  | func f ha hc _ _ iha ihc => exact .func f ha hc iha ihc
  | agg ha _ ih => exact .agg ha ih
  | tuple ha _ ih => exact .tuple ha ih
theorem VRs.mono {σ σ' : Sg} (h : σ.le σ') {l l' : List Value} (hl : VRs σ l l') : VRs σ' l l' := by
  induction hl with
  | nil => exact .nil
  | cons hv _ ih => exact .cons (hv.mono h) ih

theorem VR.one {σ : Sg} {v v' : Value} (h : VR σ v v') : one v' = one v := by cases h <;> rfl
end Go.Proofs.Ytnjeafdbifcfhaa.Den
