/- More of the memory of forward runs: boxes, slices with room, numbers as bytes. No condition. -/
import Derived.Test.YtnjeafdbifcfhaaDenHm
namespace Go.Proofs.Ytnjeafdbifcfhaa.Den
open Go
set_option linter.unusedVariables false
set_option linter.unusedSimpArgs false
/-- nothing but new blocks -/
abbrev Ch0 (h h' : H) : Prop := Ch (fun _ => False) h h'
theorem Ch0.then {h h1 h2 : H} (a : Ch0 h h1) (b : Ch0 h1 h2) : Ch0 h h2 := a.trans b fun _ _ f => f
theorem Ch.then {h h1 h2 : H} (a : Ch (fun _ => False) h h1) (b : Ch0 h1 h2) : Ch0 h h2 := a.trans b fun _ _ f => f
theorem Is.stay {h h' : H} {b e es : Nat} {l : List Value} (w : WF h) (c : Ch0 h h') (i : Is h b e es l) : Is h' b e es l := i.keep (c.keep b (i.lt w) fun f => f)
theorem SlR.blk {es : Nat} {h : H} (w : WF h) {s : Sl} {l : List Value} (r : SlR es h s l) {b : Nat} (hb : SlB s b) : b < h.next := by
  rcases r with ⟨rfl, rfl | rfl⟩ | ⟨c, o, r1, r2, r3, r4⟩
  · obtain ⟨o', h1⟩ := hb; cases h1
  · obtain ⟨o', h1⟩ := hb; cases h1
  · obtain ⟨o', h1⟩ := hb
    rw [r1] at h1; cases h1
    rcases Nat.lt_or_ge b h.next with q | q
    · exact q
    · unfold H.gets at r3; rw [w.dom b q] at r3; cases r3
theorem SlR.stay {es : Nat} {h h' : H} {s : Sl} {l : List Value} (w : WF h) (c : Ch0 h h') (r : SlR es h s l) : SlR es h' s l := r.keep fun b hb => c.keep b (r.blk w hb) fun f => f
theorem Ow.stay {e es : Nat} {h h' : H} {s : Sl} {l : List Value} (w : WF h) (c : Ch0 h h') (r : Ow e es h s l) : Ow e es h' s l := r.keep fun b hb => c.keep b (r.lt w hb) fun f => f
/-- a new box with these cells -/
theorem box_ok {h : H} (w : WF h) (e n : Nat) (zs vs : List Value) (hz : zs.length = n) (hn : vs.length = n) (h1 : vs.all one = true) :
    ∃ h', stv n (newR h e n zs) (some ⟨h.next, 0, none⟩) vs = some (undef, h') ∧ Ch0 h h' ∧ h'.next = h.next + 1 ∧ Is h' h.next e n vs := by
  obtain ⟨c1, c2, c3⟩ := newR_ok w e n zs
  obtain ⟨h', d1, d2, d3, d4⟩ := stv_ok c1.wf c3 (o := 0) vs (by omega) h1
  rw [hn] at d1
  refine ⟨h', d1, ⟨d2.wf, by omega, fun b hb _ => (d2.keep b (by omega) (by omega)).trans (c1.keep b hb fun f => f)⟩, by omega, ?_⟩
  have : over zs 0 vs = vs := by
    unfold over
    rw [List.take_zero, List.nil_append, Nat.zero_add, List.drop_eq_nil_of_le (by omega), List.append_nil]
  rw [← this]; exact d4
/-- a store into a box -/
theorem Is.set {h : H} (w : WF h) {b e es : Nat} {l : List Value} (I : Is h b e es l) (o : Nat) (v : Value) (ho : o < l.length) (h1 : one v = true) :
    ∃ h', stv 1 h (some ⟨b, o, none⟩) [v] = some (undef, h') ∧ Ch (fun c => c = b) h h' ∧ h'.next = h.next ∧ Is h' b e es (l.set o v) := by
  obtain ⟨h', e1, e2, e3, e4⟩ := stv_ok w I (o := o) [v] (by simp; omega) (by simp [h1])
  refine ⟨h', e1, e2, e3, ?_⟩
  have : over l o [v] = l.set o v := by
    apply List.ext_getElem?
    intro i
    rw [over_get (by simp; omega), List.getElem?_set]
    by_cases c : o = i
    · subst c
      rw [if_pos ⟨Nat.le_refl _, by simp⟩, Nat.sub_self, if_pos rfl, if_pos ho]; rfl
    · rw [if_neg (by simp; omega), if_neg c]
  rw [← this]; exact e4
theorem same1_of {h h' : H} {b o : Nat} (e : h'.get b = h.get b) : same1 h h' (some (.pointer (some ⟨b, o, none⟩))) = true := sameVer_of e

/-! ### append into room -/
theorem apR_ok {h : H} (w : WF h) {e es by_ b n : Nat} {l rest new : List Value} {m : Nat} (I : Is h b e es (l ++ rest)) (hl : l.length = n * es) (hr : m * es ≤ rest.length) (hb : (n + m) * by_ ≤ 140737488355328) (h1 : new.all one = true) (hn : new.length = m * es) :
    ∃ h', apN e es by_ (.slice (some ⟨b, 0, none⟩) n (unkOf es)) m new h = some (.slice (some ⟨b, 0, none⟩) (n + m) (unkOf es), h') ∧ Ch (fun c => c = b) h h' ∧ h'.next = h.next ∧ Is h' b e es (l ++ new ++ rest.drop (m * es)) := by
  have hg := apN_guard (by_ := by_) (sz := es) hb h1 hn
  obtain ⟨B, hB, k2, k3, k4, k5⟩ := I.rowAt
  have hle : (n + m) * es ≤ (l ++ rest).length := by rw [List.length_append, Nat.add_mul, hl]; omega
  obtain ⟨h', e1, e2, e3, e4⟩ := storeA_ok w I (o := 0 + n * es) (vs := new) (by rw [hn, List.length_append, hl]; omega) h1
  refine ⟨h', ?_, e2, e3, ?_⟩
  · have e0 : Nat.ble (0 + (n + m) * es) B.n = true := by rw [Nat.ble_eq, k2]; omega
    simp only [apN, hg, cond_false, hB, growA, k4, Nat.beq_refl, cond_true, isUnk_unkOf, e0, e1]
  · have : over (l ++ rest) (0 + n * es) new = l ++ new ++ rest.drop (m * es) := by
      unfold over
      rw [Nat.zero_add, ← hl, List.take_left, hn, ← List.drop_drop, List.drop_left]
    rw [← this]; exact e4
theorem apv_eq (e es by_ : Nat) (s : Value) {h : H} {x : Sl} {new : List Value} (rx : SlR es h x new) : apv e es by_ s (.slice x.a x.n x.c) h = apN e es by_ s x.n new h := by
  simp only [apv, lenV, rx.first]

/-! ### numbers as bytes -/
/-- the lowest bytes of a number, the highest first -/
def beN (n : Nat) : Nat → List UInt8
  | 0 => []
  | s + 1 => UInt8.ofNat (n / 256 ^ s) :: beN n s
theorem beN_len (n : Nat) : ∀ s, (beN n s).length = s
  | 0 => rfl
  | s + 1 => by rw [beN, List.length_cons, beN_len n s]
def unbeA (a : Nat) : List UInt8 → Nat
  | [] => a
  | c :: l => unbeA (a * 256 + c.toNat) l
def unbe (l : List UInt8) : Nat := unbeA 0 l
theorem unbeA_be (n : Nat) : ∀ (s a : Nat), unbeA a (beN n s) = a * 256 ^ s + n % 256 ^ s
  | 0, a => by simp [beN, unbeA, Nat.mod_one]
  | s + 1, a => by
    rw [beN, unbeA, unbeA_be n s]
    have h : (UInt8.ofNat (n / 256 ^ s)).toNat = n / 256 ^ s % 256 := by simp
    rw [h, Nat.pow_succ, Nat.mod_mul, Nat.add_mul, Nat.mul_assoc, Nat.mul_comm 256 (256 ^ s), Nat.add_assoc, Nat.mul_comm (n / 256 ^ s % 256)]
    congr 1
    rw [Nat.add_comm]
theorem unbe_be {n s : Nat} (h : n < 256 ^ s) : unbe (beN n s) = n := by
  unfold unbe
  rw [unbeA_be, Nat.zero_mul, Nat.zero_add, Nat.mod_eq_of_lt h]
theorem unbeA_bound : ∀ (l : List UInt8) (a : Nat), unbeA a l < (a + 1) * 256 ^ l.length
  | [], a => by simp [unbeA]
  | c :: l, a => by
    rw [unbeA, List.length_cons]
    refine Nat.lt_of_lt_of_le (unbeA_bound l _) ?_
    rw [Nat.pow_succ, Nat.mul_comm (256 ^ l.length), ← Nat.mul_assoc]
    refine Nat.mul_le_mul_right _ ?_
    have := c.toNat_lt
    omega
theorem unbe_bound (l : List UInt8) : unbe l < 256 ^ l.length := by
  have := unbeA_bound l 0
  rw [Nat.zero_add, Nat.one_mul] at this; exact this
theorem be_unbeA : ∀ (l : List UInt8) (a : Nat), beN (unbeA a l) l.length = l ∧ unbeA a l / 256 ^ l.length = a
  | [], a => by simp [beN, unbeA]
  | c :: l, a => by
    obtain ⟨h1, h2⟩ := be_unbeA l (a * 256 + c.toNat)
    have hc := c.toNat_lt
    rw [unbeA, List.length_cons, beN, h1, h2]
    constructor
    · congr 1
      apply UInt8.toNat_inj.1
      simp
    · rw [Nat.pow_succ, ← Nat.div_div_eq_div_mul, h2]; omega
theorem be_unbe (l : List UInt8) : beN (unbe l) l.length = l := (be_unbeA l 0).1
theorem be_mod (n : Nat) : ∀ s t, s ≤ t → beN (n % 256 ^ t) s = beN n s
  | 0, _, _ => rfl
  | s + 1, t, h => by
    rw [beN, beN, be_mod n s t (by omega)]
    congr 1
    apply UInt8.toNat_inj.1
    have e : (256 : Nat) ^ t = 256 ^ s * 256 ^ (t - s) := by rw [← Nat.pow_add]; congr 1; omega
    have e2 : (256 : Nat) ^ (t - s) = 256 * 256 ^ (t - s - 1) := by rw [← Nat.pow_succ']; congr 1; omega
    simp only [UInt8.toNat_ofNat']
    rw [e, Nat.mod_mul_right_div_self, e2, Nat.mod_mul_right_mod]
theorem be_inj {n m s : Nat} (hn : n < 256 ^ s) (hm : m < 256 ^ s) (h : beN n s = beN m s) : n = m := by rw [← unbe_be hn, ← unbe_be hm, h]
/-- one step of reading a number -/
theorem or_byte (a c : Nat) (h : c < 256) : Nat.lor (a * 2 ^ 8) c = a * 256 + c := by
  have := Nat.two_pow_add_eq_or_of_lt (i := 8) (b := c) (by omega) a
  rw [Nat.mul_comm (2 ^ 8) a] at this
  exact this.symm.trans (by omega)
theorem unbeA_snoc : ∀ (l : List UInt8) (a : Nat) (c : UInt8), unbeA a (l ++ [c]) = unbeA a l * 256 + c.toNat
  | [], a, c => rfl
  | d :: l, a, c => by rw [List.cons_append, unbeA, unbeA, unbeA_snoc l]
theorem unbe_snoc (l : List UInt8) (c : UInt8) : unbe (l ++ [c]) = unbe l * 256 + c.toNat := unbeA_snoc l 0 c
theorem u8_nat (n : Nat) : u8 (Int.ofNat n) = UInt8.ofNat n := by
  unfold u8
  apply UInt8.toNat_inj.1
  simp
  omega
theorem fdiv_pow (n s : Nat) : (Int.ofNat n).fdiv (2 ^ (8 * s)) = Int.ofNat (n / 256 ^ s) := by
  have e : (2 : Int) ^ (8 * s) = ((256 ^ s : Nat) : Int) := by
    rw [Int.pow_mul]
    simp
  rw [e, Int.fdiv_eq_ediv_of_nonneg (Int.ofNat n) (Int.natCast_nonneg _)]; rfl
/-- what stands is as long as it is told -/
theorem SlR.n_byt {h : H} {s : Sl} {x : List UInt8} (r : SlR 1 h s (byt x)) : s.n = x.length := by
  have := r.len
  rw [byt_len, Nat.mul_one] at this; exact this.symm
theorem SlR.byte {h : H} {s : Sl} {x : List UInt8} (r : SlR 1 h s (byt x)) {j : Nat} {c : UInt8} (hj : x[j]? = some c) : ∃ p, ixs 1 s.a s.n (Int.ofNat j) = some (.pointer p) ∧ ldc h p = some (.int .u8 (.ofNat c.toNat)) := by
  have hl : j < x.length := by
    rcases Nat.lt_or_ge j x.length with q | q
    · exact q
    · rw [List.getElem?_eq_none q] at hj; cases hj
  obtain ⟨p, h1, h2⟩ := r.elem1 (j := j) (by rw [r.n_byt]; exact hl)
  exact ⟨p, h1, by rw [h2, byt_get, hj]; rfl⟩
theorem byt_take (x : List UInt8) (n : Nat) : (byt x).take n = byt (x.take n) := by unfold byt; rw [List.map_take]
theorem byt_drop (x : List UInt8) (n : Nat) : (byt x).drop n = byt (x.drop n) := by unfold byt; rw [List.map_drop]
theorem byt_app (x y : List UInt8) : byt x ++ byt y = byt (x ++ y) := by unfold byt; rw [List.map_append]
theorem byt_rep (n : Nat) : List.replicate n (Value.int .u8 0) = byt (List.replicate n 0) := by unfold byt; rw [List.map_replicate]; rfl
/-- b[lo:hi] of bytes -/
theorem subb_ok {h : H} {s : Sl} {x : List UInt8} (r : SlR 1 h s (byt x)) {lo hi : Nat} (h1 : lo ≤ hi) (h2 : hi ≤ x.length) {xlo xhi : Option Int} (hlo : bnd xlo 0 = some lo) (hhi : bnd xhi s.n = some hi) :
    ∃ s' : Sl, subs 1 (.slice s.a s.n s.c) xlo xhi = some (slv s') ∧ s'.n = hi - lo ∧ SlR 1 h s' (byt ((x.drop lo).take (hi - lo))) ∧ ∀ b, SlB s' b → SlB s b := by
  obtain ⟨s', e1, e2, e3, e4⟩ := subs_ok r h1 (by rw [r.n_byt]; exact h2) hlo hhi
  rw [Nat.mul_one, Nat.mul_one, byt_drop, byt_take] at e3
  exact ⟨s', e1, e2, e3, e4⟩
end Go.Proofs.Ytnjeafdbifcfhaa.Den
