/- chapter 17's sectors over a stripe's bytes. No condition. -/
import Derived.Test.YtfenkpghcbohdaaDenHm
import Derived.Test.YtfenkpghcbohdaaFExt
namespace Go.Proofs.Ytfenkpghcbohdaa.Fw
open Go Den Fwd
set_option linter.unusedVariables false
set_option linter.unusedSimpArgs false
theorem pick_f (k : Nat) (n m : Int) (h : H) (h0 : 0 < m) (h1 : m ≤ 4611686018427387904) : corbelhand_Pick.f k n m h = some (n % m, h) := by
  unfold corbelhand_Pick.f
  have e0 : (m == 0) = false := by simp; omega
  have e := Int.tmod_eq_emod (a := n) (b := m)
  have b1 := Int.emod_nonneg n (show m ≠ 0 by omega)
  have b2 := Int.emod_lt_of_pos n h0
  have hm : (m.natAbs : Int) = m := by omega
  have r0 : intA .rem .i64 n m = some (.int .i64 (n.tmod m)) := by
    show cond (m == 0) none (some (Value.int .i64 (n.tmod m))) = _
    rw [e0]; rfl
  rw [r0]
  simp only [asI, if_true, Option.bind_some]
  by_cases hc : 0 ≤ n ∨ m ∣ n
  · rw [if_pos hc] at e
    have hd : decide (n.tmod m < 0) = false := decide_eq_false (by omega)
    rw [hd, cond_false, Option.bind_some, e]; simp
  · rw [if_neg hc, hm] at e
    have hne : n % m ≠ 0 := fun q => hc (.inr (Int.dvd_of_emod_eq_zero q))
    have hd : decide (n.tmod m < 0) = true := decide_eq_true (by omega)
    rw [hd, cond_true, Option.bind_some, wrap_in (by omega) (by omega), e]
    simp
/-- a store of a byte -/
theorem store_byte {h : H} (w : WF h) {b n : Nat} {x : List UInt8} (I : Is h b 5 1 (byt x)) (hn : x.length = n) {j : Nat} (hj : j < n) (c : UInt8) :
    ∃ a h', ixs 1 (some ⟨b, 0, none⟩) n (Int.ofNat j) = some (.pointer a) ∧ stv 1 h a [.int .u8 (.ofNat c.toNat)] = some (undef, h') ∧ Ch (fun y => y = b) h h' ∧ h'.next = h.next ∧ Is h' b 5 1 (byt (ovb x j [c])) := by
  obtain ⟨h', e1, e2, e3, e4⟩ := stv_ok w I (o := 0 + j * 1) [.int .u8 (.ofNat c.toNat)] (by rw [byt_len]; simp only [List.length_cons, List.length_nil]; omega) rfl
  refine ⟨_, h', cond_eta _ _ _ (Nat.ble_eq_true_of_le hj), e1, e2, e3, ?_⟩
  rw [Nat.zero_add, Nat.mul_one] at e4
  rw [← over_byt]; exact e4
theorem bytes_l0 (k : Nat) (N : Nat) (hN : N ≤ 1000) (b : Nat) {h0 : H} : ∀ n j h sd x, N - j < n → j ≤ N → Ch (fun y => y = b) h0 h → h.next = h0.next → Is h b 5 1 (byt x) → x.length = N →
    ∃ h' x', corbelhand_Bytes.l0 k n (Int.ofNat N) ⟨some ⟨b, 0, none⟩, N, N⟩ sd (Int.ofNat j) h = some ((), h') ∧ Ch (fun y => y = b) h0 h' ∧ h'.next = h0.next ∧ Is h' b 5 1 (byt x') ∧ x'.length = N
  | 0, j, h, sd, x, hn, _, _, _, _, _ => by omega
  | n + 1, j, h, sd, x, hn, hj, hc, hx, I, hl => by
    rw [corbelhand_Bytes.l0_succ]
    by_cases c : j < N
    · rw [decide_eq_true (show Int.ofNat j < Int.ofNat N by simp; omega), cond_true]
      rw [wrap_u8]
      obtain ⟨a, h', e1, e2, e3, e4, e5⟩ := store_byte hc.wf I hl c (u8 ((wrapA .u64 ((wrapA .u64 (sd * (6364136223846793005 : Int))) + (1442695040888963407 : Int))).fdiv (2 ^ 56)))
      rw [e1]
      simp only [asP_ptr, Option.bind_some, e2]
      rw [wrap_succ (by omega)]
      exact bytes_l0 k N hN b n (j + 1) h' _ _ (by omega) (by omega) (hc.trans e3 fun _ _ f => f) (by omega) e5 (by rw [ovb_len (by simp only [List.length_cons, List.length_nil]; omega)]; exact hl)
    · rw [decide_eq_false (show ¬ Int.ofNat j < Int.ofNat N by simp; omega), cond_false]
      exact ⟨h, x, rfl, hc, hx, I, hl⟩
theorem byt_rep (n : Nat) (c : UInt8) : byt (List.replicate n c) = List.replicate n (.int .u8 (.ofNat c.toNat)) := by unfold byt; rw [List.map_replicate]
theorem bytes_f (k : Nat) (hk : 1000 < k) (sd : Int) (N : Nat) (hN : N ≤ 1000) {h : H} (w : WF h) :
    ∃ h' x, corbelhand_Bytes.f k sd (Int.ofNat N) h = some (⟨some ⟨h.next, 0, none⟩, N, N⟩, h') ∧ Ch (fun _ => False) h h' ∧ h'.next = h.next + 1 ∧ Is h' h.next 5 1 (byt x) ∧ x.length = N := by
  unfold corbelhand_Bytes.f
  rw [mkz_ok (.int .u8 0) rfl (by omega) (by omega)]
  obtain ⟨z1, z2, z3⟩ := newZ_ok w 5 1 (.int .u8 0) N
  have z3' : Is (newZ h 5 1 [.int .u8 0] N) h.next 5 1 (byt (List.replicate N 0)) := by rw [byt_rep]; rw [Nat.mul_one] at z3; exact z3
  simp only [asS2, asS, Option.bind_some]
  rw [pick_f k sd 7 _ (by decide) (by decide)]
  simp only [Option.bind_some]
  cases q : (sd % 7 == 6)
  · rw [cond_false]
    obtain ⟨h', x', e1, e2, e3, e4, e5⟩ := bytes_l0 k N hN h.next (h0 := newZ h 5 1 [.int .u8 0] N) k 0 _ (wrapA .u64 ((wrapA .u64 ((wrapA .u64 sd) * (2654435761 : Int))) + (12345 : Int))) _ (by omega) (Nat.zero_le _) (Ch.refl z1.wf) rfl z3' List.length_replicate
    rw [show (0 : Int) = Int.ofNat 0 from rfl]
    rw [show (Value.int IntKind.u8 (Int.ofNat 0)) = Value.int .u8 0 from rfl, e1]
    exact ⟨h', x', rfl, ⟨e2.wf, by omega, fun b hb _ => (e2.keep b (by omega) (by omega)).trans (z1.keep b hb fun f => f)⟩, by omega, e4, e5⟩
  · rw [cond_true]
    exact ⟨_, _, rfl, z1, z2, z3', List.length_replicate⟩

/-! ### pieces of sixteen bytes -/
def piece (l : List UInt8) (k : Nat) : List UInt8 := (l.drop (16 * k)).take 16
theorem piece_get (l : List UInt8) (k i : Nat) : (piece l k)[i]? = if i < 16 then l[16 * k + i]? else none := by
  unfold piece
  rw [List.getElem?_take]
  split
  · rw [List.getElem?_drop]
  · rfl
theorem piece_ovb {l d : List UInt8} (hl : l.length = 128) (hd : d.length = 16) {j : Nat} (hj : j < 8) (k : Nat) : piece (ovb l (16 * j) d) k = if k = j then d else piece l k := by
  apply List.ext_getElem?
  intro i
  rw [piece_get]
  by_cases c : k = j
  · subst c
    rw [if_pos rfl]
    by_cases q : i < 16
    · rw [if_pos q, ovb_get (by omega), if_pos (by omega)]
      congr 1; omega
    · rw [if_neg q, List.getElem?_eq_none (by omega)]
  · rw [if_neg c, piece_get]
    by_cases q : i < 16
    · rw [if_pos q, if_pos q, ovb_get (by omega), if_neg (by omega)]
    · rw [if_neg q, if_neg q]
/-- a map of slices of bytes -/
def MapD (h : H) (b : Nat) (C : Nat → Prop) (DB : Int → Option (List UInt8)) : Prop := ∃ D, MapI .i64 h b D ∧ ∀ n, (DB n = none ∧ D n = none) ∨ ∃ s x, DB n = some x ∧ D n = some (slv s) ∧ SlR 1 h s (byt x) ∧ ∀ c, SlB s c → C c
theorem MapD.keep {h h' : H} {b : Nat} {C C' : Nat → Prop} {DB : Int → Option (List UInt8)} (k : h'.get b = h.get b) (kc : ∀ c, C c → h'.get c = h.get c ∧ C' c) (r : MapD h b C DB) : MapD h' b C' DB := by
  obtain ⟨D, h1, h2⟩ := r
  refine ⟨D, h1.keep k, fun n => (h2 n).imp id ?_⟩
  rintro ⟨s, x, e1, e2, e3, e4⟩
  exact ⟨s, x, e1, e2, e3.keep fun c hc => (kc c (e4 c hc)).1, fun c hc => (kc c (e4 c hc)).2⟩
def baseP (ob : List UInt8) (k : Nat) : List UInt8 := if ob.length = 128 then piece ob k else List.replicate 16 0
def wantP (ob : List UInt8) (DB : Int → Option (List UInt8)) (x : Int) (k : Nat) : List UInt8 := match DB (x * 8 + k) with
  | some d => if d.length = 16 then d else baseP ob k
  | none => baseP ob k
theorem subs128 (O : Nat) {j : Nat} (hj : j < 8) : subs 1 (.slice (some ⟨O, 0, none⟩) 128 128) (some (Int.ofNat (16 * j))) none = some (.slice (some ⟨O, 16 * j, none⟩) (128 - 16 * j) (128 - 16 * j)) := by
  rcases (show j = 0 ∨ j = 1 ∨ j = 2 ∨ j = 3 ∨ j = 4 ∨ j = 5 ∨ j = 6 ∨ j = 7 by omega) with rfl | rfl | rfl | rfl | rfl | rfl | rfl | rfl <;> rfl
theorem overlay_l0 (k : Nat) {h0 : H} {mb O : Nat} {C : Nat → Prop} {DB : Int → Option (List UInt8)} {x : Nat} (hx : x < 30) (ob : List UInt8) (hmb : mb ≠ O) (hC : ∀ c, C c → c < h0.next ∧ c ≠ O) (hmlt : mb < h0.next) :
    ∀ n j h cur, 8 - j < n → j ≤ 8 → Ch (fun y => y = O) h0 h → h.next = h0.next → MapD h0 mb C DB → Is h O 5 1 (byt cur) → cur.length = 128 → (∀ q, q < 8 → piece cur q = if q < j then wantP ob DB (Int.ofNat x) q else baseP ob q) →
    ∃ h' cur', extent_Overlay.l0 k n (some mb) (Int.ofNat x) ⟨some ⟨O, 0, none⟩, 128, 128⟩ (Int.ofNat j) h = some ((), h') ∧ Ch (fun y => y = O) h0 h' ∧ h'.next = h0.next ∧ Is h' O 5 1 (byt cur') ∧ cur'.length = 128 ∧ ∀ q, q < 8 → piece cur' q = wantP ob DB (Int.ofNat x) q
  | 0, j, h, cur, hn, _, _, _, _, _, _, _ => by omega
  | n + 1, j, h, cur, hn, hj, hc, hnx, hm, I, hl, hp => by
    rw [extent_Overlay.l0_succ]
    by_cases c : j < 8
    · rw [decide_eq_true (show Int.ofNat j < (8 : Int) by simp; omega), cond_true]
      have hm' : MapD h mb C DB := hm.keep (hc.keep mb hmlt hmb) fun q hq => ⟨hc.keep q (hC q hq).1 (hC q hq).2, hq⟩
      obtain ⟨D, m1, m2⟩ := hm'
      have hkey : wrapA .i64 (wrapA .i64 (Int.ofNat x * 8) + Int.ofNat j) = Int.ofNat x * 8 + j := by
        rw [wrap_in (n := Int.ofNat x * 8) (by simp; omega) (by simp; omega), wrap_in (by simp; omega) (by simp; omega)]; rfl
      rw [hkey, mlook_ok m1]
      rcases m2 (Int.ofNat x * 8 + j) with ⟨d1, d2⟩ | ⟨s, d, d1, d2, d3, d4⟩
      · rw [d2]
        simp only [Option.getD_none, asS, Option.bind_some]
        rw [show ((Int.ofNat 0 == (16 : Int)) = false) from rfl, cond_false]
        simp only [Option.bind_some]
        rw [wrap_succ (by omega)]
        refine overlay_l0 k hx ob hmb hC hmlt n (j + 1) h cur (by omega) (by omega) hc hnx hm I hl fun q hq => ?_
        rw [hp q hq]
        by_cases e : q = j
        · subst e
          rw [if_neg (Nat.lt_irrefl _), if_pos (Nat.lt_succ_self _)]
          unfold wantP; rw [d1]
        · by_cases e2 : q < j
          · rw [if_pos e2, if_pos (by omega)]
          · rw [if_neg e2, if_neg (by omega)]
      · rw [d2]
        simp only [Option.getD_some, asS_slv, Option.bind_some]
        have hs := d3.len
        rw [byt_len, Nat.mul_one] at hs
        by_cases g : d.length = 16
        · rw [← hs, g, show ((Int.ofNat 16 == (16 : Int)) = true) from rfl, cond_true]
          rw [show wrapA .i64 (Int.ofNat j * 16) = Int.ofNat (16 * j) by rw [wrap_in (by simp; omega) (by simp; omega)]; simp; omega, subs128 O c]
          simp only [asS, Option.bind_some]
          obtain ⟨h', e1, e2, e3, e4⟩ := cpy_ok (l := []) (d := ⟨some ⟨O, 16 * j, none⟩, 128 - 16 * j, 128 - 16 * j⟩) hc.wf rfl I (by rw [byt_len, hl]; simp only; omega) d3 (byt_one d)
          have hmin : min s.n (128 - 16 * j) = 16 := by omega
          simp only [hmin] at e1 e4
          have hst : s.n = 16 := by omega
          rw [hst] at e1
          rw [e1]
          simp only [asI2, asI_int, Option.bind_some]
          rw [wrap_succ (by omega)]
          rw [Nat.mul_one, List.take_of_length_le (by rw [byt_len]; omega), over_byt] at e4
          refine overlay_l0 k hx ob hmb hC hmlt n (j + 1) h' _ (by omega) (by omega) (hc.trans e2 fun _ _ f => f) (by omega) hm e4 (by rw [ovb_len (by omega)]; exact hl) fun q hq => ?_
          rw [piece_ovb hl g c]
          by_cases e : q = j
          · subst e
            rw [if_pos rfl, if_pos (Nat.lt_succ_self _)]
            unfold wantP; rw [d1]; simp only [g, if_true]
          · rw [if_neg e, hp q hq]
            by_cases e2 : q < j
            · rw [if_pos e2, if_pos (by omega)]
            · rw [if_neg e2, if_neg (by omega)]
        · rw [← hs, show ((Int.ofNat d.length == (16 : Int)) = false) by rw [beq_eq_false_iff_ne]; simp; omega, cond_false]
          simp only [Option.bind_some]
          rw [wrap_succ (by omega)]
          refine overlay_l0 k hx ob hmb hC hmlt n (j + 1) h cur (by omega) (by omega) hc hnx hm I hl fun q hq => ?_
          rw [hp q hq]
          by_cases e : q = j
          · subst e
            rw [if_neg (Nat.lt_irrefl _), if_pos (Nat.lt_succ_self _)]
            unfold wantP; rw [d1]; simp only [g, if_false]
          · by_cases e2 : q < j
            · rw [if_pos e2, if_pos (by omega)]
            · rw [if_neg e2, if_neg (by omega)]
    · rw [decide_eq_false (show ¬ Int.ofNat j < (8 : Int) by simp; omega), cond_false]
      refine ⟨h, cur, rfl, hc, hnx, I, hl, fun q hq => ?_⟩
      rw [hp q hq, if_pos (by omega)]

theorem piece_zeros (k : Nat) (hk : k < 8) : piece (List.replicate 128 (0 : UInt8)) k = List.replicate 16 0 := by
  unfold piece
  rw [List.drop_replicate, List.take_replicate, Nat.min_eq_left (by omega)]
theorem overlay_f (k : Nat) (hk : 1000 < k) {h : H} (w : WF h) {s : Sl} {ob : List UInt8} (rs : SlR 1 h s (byt ob)) (hsb : ∀ b, SlB s b → b < h.next) {mb : Nat} {C : Nat → Prop} {DB : Int → Option (List UInt8)} {x : Nat} (hx : x < 30) (hm : MapD h mb C DB) (hC : ∀ c, C c → c < h.next) (hmlt : mb < h.next) :
    ∃ h' cur, extent_Overlay.f k s (some mb) (Int.ofNat x) h = some (⟨some ⟨h.next, 0, none⟩, 128, 128⟩, h') ∧ Ch (fun _ => False) h h' ∧ h'.next = h.next + 1 ∧ Is h' h.next 5 1 (byt cur) ∧ cur.length = 128 ∧ ∀ q, q < 8 → piece cur q = wantP ob DB (Int.ofNat x) q := by
  unfold extent_Overlay.f
  obtain ⟨z1, z2, z3⟩ := newZ_ok w 5 1 (.int .u8 0) 128
  have z3' : Is (newZ h 5 1 [.int .u8 0] 128) h.next 5 1 (byt (List.replicate 128 0)) := by rw [byt_rep]; rw [Nat.mul_one] at z3; exact z3
  have hs := rs.len
  rw [byt_len, Nat.mul_one] at hs
  have hm1 : MapD (newZ h 5 1 [.int .u8 0] 128) mb C DB := hm.keep (z1.keep mb hmlt fun f => f) fun c hc => ⟨z1.keep c (hC c hc) fun f => f, hc⟩
  have start : ∃ h1 cur, ((cond ((Int.ofNat s.n) == (128 : Int))
      ((asI2 .i64 (cpy 1 (Value.slice (some ⟨h.next, 0, none⟩) 128 128) (Value.slice s.a s.n s.c) (newZ h 5 1 [(Value.int .u8 (0 : Int))] 128))).bind fun q1 =>
    some ((), q1.2))
      (some ((), (newZ h 5 1 [(Value.int .u8 (0 : Int))] 128))) : Option ((Unit) × H))) = some ((), h1) ∧ Ch (fun y => y = h.next) (newZ h 5 1 [.int .u8 0] 128) h1 ∧ h1.next = h.next + 1 ∧ Is h1 h.next 5 1 (byt cur) ∧ cur.length = 128 ∧ ∀ q, q < 8 → piece cur q = baseP ob q := by
    by_cases g : ob.length = 128
    · rw [show ((Int.ofNat s.n == (128 : Int)) = true) by rw [← hs, g]; rfl, cond_true]
      obtain ⟨h', e1, e2, e3, e4⟩ := cpy_ok (l := []) (d := ⟨some ⟨h.next, 0, none⟩, 128, 128⟩) (x := s) z1.wf rfl z3' (by rw [byt_len, List.length_replicate]; exact Nat.le_refl _) (rs.keep fun b hb => z1.keep b (hsb b hb) fun f => f) (byt_one ob)
      have hst : s.n = 128 := by omega
      simp only [hst] at e1 e4
      rw [hst, e1]
      refine ⟨h', ob, rfl, e2, by omega, ?_, g, fun q hq => by unfold baseP; rw [if_pos g]⟩
      rw [show min 128 128 * 1 = 128 from rfl, List.take_of_length_le (by rw [byt_len]; omega), over_byt] at e4
      have : ovb (List.replicate 128 0) 0 ob = ob := by unfold ovb; rw [List.take_zero, List.nil_append, List.drop_eq_nil_of_le (by rw [List.length_replicate]; omega), List.append_nil]
      rw [this] at e4; exact e4
    · rw [show ((Int.ofNat s.n == (128 : Int)) = false) by rw [beq_eq_false_iff_ne, ← hs]; simp; omega, cond_false]
      exact ⟨_, _, rfl, Ch.refl z1.wf, z2, z3', List.length_replicate, fun q hq => by rw [piece_zeros q hq]; unfold baseP; rw [if_neg g]⟩
  obtain ⟨h1, cur, e1, e2, e3, e4, e5, e6⟩ := start
  rw [e1]
  simp only [Option.bind_some]
  have hm2 : MapD h1 mb C DB := hm1.keep (e2.keep mb (by omega) (by omega)) fun c hc => ⟨e2.keep c (by have := hC c hc; omega) (by have := hC c hc; omega), hc⟩
  obtain ⟨h2, cur', f1, f2, f3, f4, f5, f6⟩ := overlay_l0 k (h0 := h1) (O := h.next) hx ob (by omega) (fun c hc => ⟨by have := hC c hc; omega, by have := hC c hc; omega⟩) (by omega) k 0 h1 cur (by omega) (Nat.zero_le _) (Ch.refl e2.wf) rfl hm2 e4 e5 fun q hq => by rw [if_neg (Nat.not_lt_zero _)]; exact e6 q hq
  rw [show (0 : Int) = Int.ofNat 0 from rfl, f1]
  refine ⟨h2, cur', rfl, ⟨f2.wf, by omega, fun b hb _ => ?_⟩, by omega, f4, f5, f6⟩
  exact (f2.keep b (by omega) (by omega)).trans ((e2.keep b (by omega) (by omega)).trans (z1.keep b hb fun f => f))
/-- all zero? -/
theorem empty_l0 (k : Nat) {h : H} {s : Sl} {x : List UInt8} (r : SlR 1 h s (byt x)) (hb : x.length ≤ 1000) : ∀ n j, x.length - j < n → j ≤ x.length → (∀ i, i < j → x[i]? = some 0) →
    (∃ i : Nat, x.all (· == 0) = false ∧ slices_IndexFunc_byte_byte_extent_Empty_1.l0 k n s () (Int.ofNat s.n) (Int.ofNat j) h = some (.inl (Int.ofNat i), h)) ∨ (x.all (· == 0) = true ∧ slices_IndexFunc_byte_byte_extent_Empty_1.l0 k n s () (Int.ofNat s.n) (Int.ofNat j) h = some (.inr (), h))
  | 0, j, hn, _, _ => by omega
  | n + 1, j, hn, hj, hz => by
    rw [slices_IndexFunc_byte_byte_extent_Empty_1.l0_succ]
    have hl := r.len
    rw [byt_len, Nat.mul_one] at hl
    rw [← hl]
    by_cases c : j < x.length
    · rw [decide_eq_true (show Int.ofNat j < Int.ofNat x.length by simp; omega)]
      simp only [cond_true]
      obtain ⟨p, h1, h2⟩ := r.elem1 (j := j) (by omega)
      rw [byt_get, List.getElem?_eq_getElem c] at h2
      rw [hl, h1]
      simp only [asP_ptr, Option.bind_some, h2, Option.map_some, asI_int, extent_Empty_1.f]
      by_cases q : x[j] = 0
      · rw [q]
        simp only [show (Int.ofNat (0 : UInt8).toNat != (0 : Int)) = false from rfl, cond_false]
        rw [wrap_succ (by omega), ← hl]
        have := empty_l0 k r hb n (j + 1) (by omega) (by omega) fun i hi => by
          by_cases e : i = j
          · subst e; rw [List.getElem?_eq_getElem c, q]
          · exact hz i (by omega)
        rw [← hl] at this
        exact this
      · refine .inl ⟨j, ?_, ?_⟩
        · rw [List.all_eq_false]
          exact ⟨x[j], List.getElem_mem c, by simpa using q⟩
        · have : (Int.ofNat x[j].toNat != (0 : Int)) = true := by
            rw [bne_iff_ne]
            intro e
            apply q
            have e2 : x[j].toNat = 0 := by simpa using e
            exact UInt8.toNat_inj.1 (by rw [e2]; rfl)
          simp only [this, cond_true]
    · rw [decide_eq_false (show ¬ Int.ofNat j < Int.ofNat x.length by simp; omega)]
      refine .inr ⟨?_, rfl⟩
      rw [List.all_eq_true]
      intro v hv
      obtain ⟨i, hi, rfl⟩ := List.mem_iff_getElem.1 hv
      have := hz i (by omega)
      rw [List.getElem?_eq_getElem hi] at this
      have e : x[i] = 0 := Option.some.inj this
      rw [e]; rfl
theorem empty_f (k : Nat) (hk : 1000 < k) {h : H} {s : Sl} {x : List UInt8} (r : SlR 1 h s (byt x)) (hb : x.length ≤ 1000) : extent_Empty.f k s h = some (x.all (· == 0), h) := by
  unfold extent_Empty.f slices_ContainsFunc_byte_byte_extent_Empty_1.f slices_IndexFunc_byte_byte_extent_Empty_1.f
  rw [show (0 : Int) = Int.ofNat 0 from rfl]
  rcases empty_l0 k r hb k 0 (by omega) (Nat.zero_le _) (fun i hi => by omega) with ⟨i, h1, h2⟩ | ⟨h1, h2⟩
  · rw [h2, h1]
    simp only [Option.bind_some]
    rw [decide_eq_true (show Int.ofNat i ≥ Int.ofNat 0 by simp)]; rfl
  · rw [h2, h1]; rfl
end Go.Proofs.Ytfenkpghcbohdaa.Fw
