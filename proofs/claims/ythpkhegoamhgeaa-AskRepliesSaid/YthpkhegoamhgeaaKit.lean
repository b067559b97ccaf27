/- Small words for the pure statements: from some number of rounds on; whole numbers; lists. No condition. -/
import Derived.Test.YthpkhegoamhgeaaWMore
import Derived.Laws.BitsLemmas
import Derived.Laws.BitsAllLaws
import Derived.Lib.Bytes
namespace Go.Proofs.Ythpkhegoamhgeaa.Kit
open Go.RowKit Go.Proofs.YthpkhegoamhgeaaW.PrintWords Go.Proofs.YthpkhegoamhgeaaW.PrintLast Go.Proofs.YthpkhegoamhgeaaW.PrintMore
set_option linter.unusedVariables false
set_option linter.unusedSimpArgs false

theorem ev_pos {α : Type} {c : Prop} [Decidable c] {a b : Nat → Option α} {r : α} (h : c) (k : Ev a r) : Ev (fun n => if c then a n else b n) r :=
  Ev.congr (fun n => if_pos h) k
theorem ev_neg {α : Type} {c : Prop} [Decidable c] {a b : Nat → Option α} {r : α} (h : ¬ c) (k : Ev b r) : Ev (fun n => if c then a n else b n) r :=
  Ev.congr (fun n => if_neg h) k
theorem ev_ite {α : Type} {c : Prop} [Decidable c] {a b : Nat → Option α} {r : α} (h : c → Ev a r) (k : ¬ c → Ev b r) : Ev (fun n => if c then a n else b n) r := by
  by_cases q : c
  · exact ev_pos q (h q)
  · exact ev_neg q (k q)
theorem ev_bind1 {α β : Type} {a : Option α} {x : α} {f : Nat → α → Option β} {r : β} (h : a = some x) (k : Ev (fun n => f n x) r) : Ev (fun n => a.bind (f n)) r := by
  subst h; exact k
theorem ev_bind0 {α β : Type} {x : α} {f : Nat → α → Option β} {r : β} (k : Ev (fun n => f n x) r) : Ev (fun n => (some x).bind (f n)) r := k
theorem ev_eq {α : Type} {g : Nat → Option α} {r q : α} (h : Ev g r) (e : r = q) : Ev g q := e ▸ h
theorem ev_some {α : Type} {r q : α} (e : r = q) : Ev (fun _ => some r) q := e ▸ Ev.now r
theorem ev_const {α : Type} {a : Option α} {r : α} (h : a = some r) : Ev (fun _ => a) r := ⟨0, fun _ _ => h⟩

theorem wrap_in {x : Int} (h1 : -9223372036854775808 ≤ x) (h2 : x ≤ 9223372036854775807) : wrap64 x = x := by unfold wrap64; omega
theorem wrap_succ {n : Nat} (h : n < 4611686018427387904) : wrap64 ((n : Int) + 1) = ((n + 1 : Nat) : Int) := by unfold wrap64; omega
theorem wf_i64 {x : Int} (h : (Lit.int .i64 x).wf = true) : -9223372036854775808 ≤ x ∧ x ≤ 9223372036854775807 := by
  simp [Lit.wf] at h
  exact h
theorem rd_nat (xs : List Int) (n : Nat) (h : n < xs.length) : rd xs (n : Int) = xs[n] := by
  unfold rd; rw [Int.toNat_natCast, List.getD_eq_getElem?_getD, List.getElem?_eq_getElem h]; rfl
theorem drop_rd (xs : List Int) (n : Nat) (h : n < xs.length) : xs.drop n = rd xs (n : Int) :: xs.drop (n + 1) := by
  rw [rd_nat xs n h]; exact List.drop_eq_getElem_cons h
theorem take_rd (xs : List Int) (n : Nat) (h : n < xs.length) : xs.take (n + 1) = xs.take n ++ [rd xs (n : Int)] := by
  rw [rd_nat xs n h, List.take_succ_eq_append_getElem h]
theorem rd_mem (xs : List Int) (n : Nat) (h : n < xs.length) : rd xs (n : Int) ∈ xs := by
  rw [rd_nat xs n h]; exact List.getElem_mem h
theorem tmod_nn {a b : Int} (h : 0 ≤ a) : Int.tmod a b = a % b := Int.tmod_eq_emod_of_nonneg h
theorem tdiv_nn {a b : Int} (h : 0 ≤ a) : Int.tdiv a b = a / b := Int.tdiv_eq_ediv_of_nonneg h
theorem ite_dec {c : Prop} [Decidable c] : (if c then true else false) = decide c := by by_cases h : c <;> simp [h]

/-! whole numbers as bits -/
theorem wrap_i64_in (n : Int) (h0 : 0 ≤ n) (h1 : n < 2 ^ 62) : IntKind.i64.wrap n = n := by
  have : n < 4611686018427387904 := by simpa using h1
  rw [IntKind.wrap_i64]; omega
theorem or8 (x y : Int) (h0 : 0 ≤ x) (h1 : x % 256 = 0) (h2 : x < 4611686018427387904) (h3 : 0 ≤ y) (h4 : y < 256) : Go.bits .or .i64 x y = x + y :=
  Go.bits_join .i64 62 (by decide) wrap_i64_in 8 x y h0 (by simpa using h1) (by simpa using h2) h3 (by simpa using h4) (by simp; omega)
theorem or16 (x y : Int) (h0 : 0 ≤ x) (h1 : x % 65536 = 0) (h2 : x < 4611686018427387904) (h3 : 0 ≤ y) (h4 : y < 65536) : Go.bits .or .i64 x y = x + y :=
  Go.bits_join .i64 62 (by decide) wrap_i64_in 16 x y h0 (by simpa using h1) (by simpa using h2) h3 (by simpa using h4) (by simp; omega)
theorem or24 (x y : Int) (h0 : 0 ≤ x) (h1 : x % 16777216 = 0) (h2 : x < 4611686018427387904) (h3 : 0 ≤ y) (h4 : y < 16777216) : Go.bits .or .i64 x y = x + y :=
  Go.bits_join .i64 62 (by decide) wrap_i64_in 24 x y h0 (by simpa using h1) (by simpa using h2) h3 (by simpa using h4) (by simp; omega)
theorem xor8 (a b : Int) (h1 : 0 ≤ a) (h2 : a < 256) (h3 : 0 ≤ b) (h4 : b < 256) : 0 ≤ Go.bits .xor .u8 a b ∧ Go.bits .xor .u8 a b < 256 ∧ (Go.bits .xor .u8 a b = a ↔ b = 0) := by
  rw [Go.u8_xor a b h1 h2 h3 h4]
  have hx : a.toNat ^^^ b.toNat < 2 ^ 8 := Nat.xor_lt_two_pow (by omega) (by omega)
  refine ⟨by omega, by omega, fun h => ?_, fun h => ?_⟩
  · have h5 : a.toNat ^^^ b.toNat = a.toNat := by omega
    have h6 : a.toNat ^^^ (a.toNat ^^^ b.toNat) = a.toNat ^^^ a.toNat := by rw [h5]
    rw [← Nat.xor_assoc, Nat.xor_self, Nat.zero_xor] at h6
    omega
  · subst h; simp; omega

/-! lists of bytes -/
def isBytes (l : List Int) : Prop := ∀ x ∈ l, 0 ≤ x ∧ x ≤ 255
theorem wf_u8 {x : Int} (h : (Lit.int .u8 x).wf = true) : 0 ≤ x ∧ x ≤ 255 := by
  simp [Lit.wf] at h
  exact h
theorem bytes_wf {l : List Int} (h : ∀ x ∈ l, (Lit.int .u8 x).wf = true) : isBytes l := fun x hx => wf_u8 (h x hx)
theorem bytes_nil : isBytes [] := fun x h => by cases h
theorem bytes_cons {x : Int} {l : List Int} (h0 : 0 ≤ x) (h1 : x ≤ 255) (h : isBytes l) : isBytes (x :: l) := fun y hy => by
  cases hy with
  | head => exact ⟨h0, h1⟩
  | tail _ hy => exact h y hy
theorem bytes_app {a b : List Int} (h : isBytes a) (k : isBytes b) : isBytes (a ++ b) := fun x hx => (List.mem_append.1 hx).elim (h x) (k x)
theorem bytes_take {l : List Int} (n : Nat) (h : isBytes l) : isBytes (l.take n) := fun x hx => h x (List.mem_of_mem_take hx)
theorem bytes_drop {l : List Int} (n : Nat) (h : isBytes l) : isBytes (l.drop n) := fun x hx => h x (List.mem_of_mem_drop hx)
theorem bytes_set {l : List Int} (n : Nat) (v : Int) (h : isBytes l) (h0 : 0 ≤ v) (h1 : v ≤ 255) : isBytes (l.set n v) := fun x hx => by
  rcases List.mem_or_eq_of_mem_set hx with q | q
  · exact h x q
  · subst q; exact ⟨h0, h1⟩
theorem bytes_rep (n : Nat) (v : Int) (h0 : 0 ≤ v) (h1 : v ≤ 255) : isBytes (List.replicate n v) := fun x hx => by
  rw [List.eq_of_mem_replicate hx]; exact ⟨h0, h1⟩
theorem bytes_rd {l : List Int} (n : Nat) (h : isBytes l) : 0 ≤ rd l (n : Int) ∧ rd l (n : Int) ≤ 255 := by
  by_cases hn : n < l.length
  · exact h _ (rd_mem l n hn)
  · unfold rd; rw [Int.toNat_natCast, List.getD_eq_getElem?_getD, List.getElem?_eq_none (by omega)]; exact ⟨by decide, by decide⟩
theorem rd_set (l : List Int) (i j : Nat) (v : Int) (h : j < l.length) : rd (l.set i v) (j : Int) = if i = j then v else rd l (j : Int) := by
  rw [rd_nat _ _ (by rw [List.length_set]; exact h), rd_nat _ _ h, List.getElem_set]
theorem rd_app_l (a b : List Int) (i : Nat) (h : i < a.length) : rd (a ++ b) (i : Int) = rd a (i : Int) := by
  rw [rd_nat _ _ (by rw [List.length_append]; omega), rd_nat _ _ h, List.getElem_append_left h]
theorem rd_app_r (a b : List Int) (i : Nat) (h : a.length ≤ i) (h2 : i < a.length + b.length) : rd (a ++ b) (i : Int) = rd b ((i - a.length : Nat) : Int) := by
  rw [rd_nat _ _ (by rw [List.length_append]; omega), rd_nat _ _ (by omega), List.getElem_append_right h]
theorem rd_drop (l : List Int) (n i : Nat) : rd (l.drop n) (i : Int) = rd l ((n + i : Nat) : Int) := by
  unfold rd; simp only [Int.toNat_natCast, List.getD_eq_getElem?_getD, List.getElem?_drop]
theorem rd_take (l : List Int) (n i : Nat) (h : i < n) : rd (l.take n) (i : Int) = rd l (i : Int) := by
  unfold rd; simp [List.getD_eq_getElem?_getD, List.getElem?_take, h]
theorem ext_rd {a b : List Int} (hl : a.length = b.length) (h : ∀ i : Nat, i < a.length → rd a (i : Int) = rd b (i : Int)) : a = b := by
  apply List.ext_getElem hl
  intro i h1 h2
  have := h i h1
  rwa [rd_nat _ _ h1, rd_nat _ _ h2] at this
theorem str_eq {a b : List Int} (ha : isBytes a) (hb : isBytes b) : (strOfNums a).toList = (strOfNums b).toList ↔ a = b := by
  constructor
  · intro h
    rw [Go.Lib.strOfNums_toList, Go.Lib.strOfNums_toList] at h
    unfold Go.Lib.bytesOf at h
    have hl : a.length = b.length := by have := congrArg List.length h; simpa using this
    apply List.ext_getElem hl
    intro i h1 h2
    have h3 : (List.map (fun n : Int => UInt8.ofNat n.toNat) a)[i]'(by simpa using h1) = (List.map (fun n : Int => UInt8.ofNat n.toNat) b)[i]'(by simpa using h2) := by simp only [h]
    rw [List.getElem_map, List.getElem_map] at h3
    have h4 := congrArg UInt8.toNat h3
    have ba := ha _ (List.getElem_mem h1)
    have bb := hb _ (List.getElem_mem h2)
    simp only [UInt8.toNat_ofNat'] at h4
    rw [Nat.mod_eq_of_lt (by omega), Nat.mod_eq_of_lt (by omega)] at h4
    omega
  · intro h; rw [h]
theorem str_beq {a b : List Int} (ha : isBytes a) (hb : isBytes b) : ((strOfNums a).toList == (strOfNums b).toList) = decide (a = b) := by
  rw [Bool.eq_iff_iff]; simp only [beq_iff_eq, decide_eq_true_eq]; exact str_eq ha hb
end Go.Proofs.Ythpkhegoamhgeaa.Kit
