/- ask's requests as bytes: what Next tells of them. No condition. -/
import Derived.Test.YthpkhegoamhgeaaFwAsk4
namespace Go.Proofs.Ythpkhegoamhgeaa.Fw
open Go Den Fwd
set_option linter.unusedVariables false
set_option linter.unusedSimpArgs false
structure Rq.Ok (q : Rq) : Prop where
  fl : q.fl < 65536
  ty : q.ty < 65536
  ck : q.ck < 18446744073709551616
  off : q.off < 18446744073709551616
  le : q.le < 4294967296
  one : q.ty = 1 → q.data.length = q.le ∧ q.le ≤ 32768
  none : q.ty ≠ 1 → q.data = []
def headP (q : Rq) : List UInt8 := beN 627086611 4 ++ beN q.fl 2 ++ beN q.ty 2 ++ beN q.ck 8 ++ beN q.off 8 ++ beN q.le 4
theorem headP_len (q : Rq) : (headP q).length = 28 := rfl
theorem layP_eq (q : Rq) : layP q = headP q ++ q.data := rfl
theorem layP_len (q : Rq) : (layP q).length = 28 + q.data.length := by rw [layP_eq, List.length_append, headP_len]
theorem cutL_app {x y : List UInt8} {lo hi : Nat} (h : hi ≤ x.length) : cutL (x ++ y) lo hi = cutL x lo hi := by
  unfold cutL
  by_cases c : lo ≤ x.length
  · rw [List.drop_append_of_le_length c, List.take_append_of_le_length (by rw [List.length_drop]; omega)]
  · have : hi - lo = 0 := by omega
    rw [this]; simp
theorem cutL_take {x : List UInt8} {lo hi k : Nat} (h : hi ≤ k) : cutL (x.take k) lo hi = cutL x lo hi := by
  unfold cutL
  rw [List.drop_take, List.take_take, Nat.min_eq_left (by omega)]
theorem cutH (q : Rq) (y : List UInt8) {lo hi : Nat} (h : hi ≤ 28) : cutL (headP q ++ y) lo hi = cutL (headP q) lo hi := cutL_app (by rw [headP_len]; exact h)
theorem rqOf_head {q : Rq} (o : q.Ok) (y : List UInt8) : rqOf (headP q ++ y) = { q with data := [] } := by
  unfold rqOf
  rw [cutH q y (by decide), cutH q y (by decide), cutH q y (by decide), cutH q y (by decide), cutH q y (by decide)]
  rw [show cutL (headP q) 4 6 = beN q.fl 2 from rfl, show cutL (headP q) 6 8 = beN q.ty 2 from rfl, show cutL (headP q) 8 16 = beN q.ck 8 from rfl, show cutL (headP q) 16 24 = beN q.off 8 from rfl, show cutL (headP q) 24 28 = beN q.le 4 from rfl]
  rw [unbe_be (by have := o.fl; simpa using this), unbe_be (by have := o.ty; simpa using this), unbe_be (by have := o.ck; simpa using this), unbe_be (by have := o.off; simpa using this), unbe_be (by have := o.le; simpa using this)]
theorem magic_head (q : Rq) (y : List UInt8) : unbe (cutL (headP q ++ y) 0 4) = 627086611 := by
  rw [cutH q y (by decide), show cutL (headP q) 0 4 = beN 627086611 4 from rfl, unbe_be (by decide)]
theorem rqOf_take {x : List UInt8} {k : Nat} (h : 28 ≤ k) : rqOf (x.take k) = rqOf x := by
  unfold rqOf
  rw [cutL_take (by omega), cutL_take (by omega), cutL_take (by omega), cutL_take (by omega), cutL_take (by omega)]
/-- cut off, there is none -/
theorem nextP_short {q : Rq} (o : q.Ok) (y : List UInt8) {k : Nat} (hk : k < (layP q).length) : nextP ((layP q ++ y).take k) = (Rq.zero, 0, 7) := by
  rw [layP_len] at hk
  rw [layP_eq, List.append_assoc]
  have hl : ((headP q ++ (q.data ++ y)).take k).length = k := by rw [List.length_take, List.length_append, List.length_append, headP_len]; omega
  unfold nextP
  rw [if_neg, hl]
  · by_cases c : k < 28
    · rw [if_pos c]
    · rw [if_neg c, rqOf_take (by omega), rqOf_head o]
      have t1 : q.ty = 1 := Decidable.of_not_not fun f => by have := o.none f; rw [this] at hk; simp at hk; omega
      obtain ⟨d1, d2⟩ := o.one t1
      rw [if_neg (fun f => f t1), if_neg (by show ¬ 32768 < q.le; omega), if_pos (by show k < 28 + q.le; omega)]
  · rintro ⟨f1, f2⟩
    rw [hl] at f1
    rw [cutL_take (by omega), magic_head] at f2
    exact f2 rfl
/-- whole, it is told, and its bytes -/
theorem nextP_whole {q : Rq} (o : q.Ok) (y : List UInt8) : nextP (layP q ++ y) = (q, (layP q).length, 0) := by
  have hl : (headP q ++ (q.data ++ y)).length = 28 + q.data.length + y.length := by rw [List.length_append, List.length_append, headP_len, Nat.add_assoc]
  rw [layP_len, layP_eq, List.append_assoc]
  unfold nextP
  rw [if_neg (fun f => f.2 (magic_head q _)), if_neg (by omega), rqOf_head o, hl]
  by_cases c : q.ty = 1
  · obtain ⟨d1, d2⟩ := o.one c
    rw [if_neg (fun f => f c), if_neg (by show ¬ 32768 < q.le; omega), if_neg (by show ¬ _ < 28 + q.le; omega)]
    have : cutL (headP q ++ (q.data ++ y)) 28 (28 + q.le) = q.data := by
      unfold cutL
      rw [List.drop_append_of_le_length (by rw [headP_len]; exact Nat.le_refl _), List.drop_eq_nil_of_le (by rw [headP_len]; exact Nat.le_refl _), List.nil_append, List.take_append_of_le_length (by omega), List.take_of_length_le (by omega)]
    show ((⟨q.fl, q.ty, q.ck, q.off, q.le, cutL (headP q ++ (q.data ++ y)) 28 (28 + q.le)⟩ : Rq), 28 + q.le, 0) = _
    rw [this, d1]
  · rw [if_pos c]
    have e := o.none c
    obtain ⟨fl, ty, ck, off, le, data⟩ := q
    have e : data = [] := e
    subst e
    rfl
/-- another magic -/
theorem nextP_bad {x : List UInt8} (h : 4 ≤ x.length) (hm : cutL x 0 4 ≠ beN 627086611 4) : nextP x = (Rq.zero, 0, 2) := by
  have c : unbe (cutL x 0 4) ≠ 627086611 := fun f => by
    have := be_unbe (cutL x 0 4)
    rw [cutL_len h, f] at this
    exact hm this.symm
  unfold nextP
  rw [if_pos ⟨h, c⟩]
theorem nextP_few {x : List UInt8} (h : x.length < 4) : nextP x = (Rq.zero, 0, 7) := by
  unfold nextP
  rw [if_neg (fun f => by omega), if_pos (by omega)]
theorem beN_set (m : Nat) (hm : m < 4) (v : UInt8) (hv : (beN 627086611 4)[m]? ≠ some v) : (beN 627086611 4).set m v ≠ beN 627086611 4 := by
  intro e
  apply hv
  rw [← e, List.getElem?_set_self (by rw [beN_len]; exact hm)]
theorem xor_ne (a b : UInt8) (h : b ≠ 0) : a ^^^ b ≠ a := by
  intro e
  apply h
  have : a ^^^ (a ^^^ b) = a ^^^ a := by rw [e]
  rw [← UInt8.xor_assoc, UInt8.xor_self, UInt8.zero_xor] at this
  exact this
theorem xor_u8 (a b : UInt8) : intA .xor .u8 (Int.ofNat a.toNat) (Int.ofNat b.toNat) = some (.int .u8 (Int.ofNat (a ^^^ b).toNat)) := by
  have ha := a.toNat_lt
  have hb := b.toNat_lt
  show cond (Nat.blt a.toNat (2 ^ 8) && Nat.blt b.toNat (2 ^ 8)) (some (Value.int .u8 (wrapA .u8 (Int.ofNat (Nat.xor a.toNat b.toNat))))) none = _
  rw [cond_eta _ _ _ (by rw [Bool.and_eq_true]; exact ⟨Nat.ble_eq_true_of_le (by omega), Nat.ble_eq_true_of_le (by omega)⟩)]
  have e : Nat.xor a.toNat b.toNat = (a ^^^ b).toNat := by rw [UInt8.toNat_xor]; rfl
  have hc := (a ^^^ b).toNat_lt
  rw [e, wrap_u8_in (by simp) (by simp only [Int.ofNat_eq_natCast]; omega)]
end Go.Proofs.Ythpkhegoamhgeaa.Fw
