/- The pure statement of MarkTells: what the printed functions answer. No condition beyond its own. -/
import Derived.Test.YtbegaeohggkblaaPMarkTellsx4
import Derived.Test.YtbegaeohggkblaaKit
import Derived.Test.YtbegaeohggkblaaCopy
namespace Go.Proofs.Ytbegaeohggkblaa.Pure
open Go.RowKit Go.Proofs.Ytbegaeohggkblaa.PMarkTells Go.Proofs.YtbegaeohggkblaaW.PrintWords Go.Proofs.YtbegaeohggkblaaW.PrintLast Go.Proofs.YtbegaeohggkblaaW.PrintMore Go.Proofs.Ytbegaeohggkblaa.Kit
set_option linter.unusedVariables false
set_option linter.unusedSimpArgs false

theorem pick_f (n m : Int) (h0 : 0 < m) (h1 : m ≤ 4611686018427387904) : corbelhand_Pick.f n m = some (n % m) := by
  unfold corbelhand_Pick.f
  rw [if_neg (by omega)]
  have e := Int.tmod_eq_emod (a := n) (b := m)
  have b1 := Int.emod_nonneg n (show m ≠ 0 by omega)
  have b2 := Int.emod_lt_of_pos n h0
  have hm : (m.natAbs : Int) = m := by omega
  by_cases hc : 0 ≤ n ∨ m ∣ n
  · rw [if_pos hc] at e
    rw [if_neg (by omega), e]; congr 1; omega
  · rw [if_neg hc, hm] at e
    have hne : n % m ≠ 0 := fun q => hc (.inr (Int.dvd_of_emod_eq_zero q))
    rw [if_pos (by omega), wrap_in (by omega) (by omega), e]; congr 1; omega
theorem pick_nn (n m : Int) (h0 : 0 < m) : 0 ≤ n % m := Int.emod_nonneg n (by omega)
theorem pick_lt (n m : Int) (h0 : 0 < m) : n % m < m := Int.emod_lt_of_pos n h0

/-! chapter 6: sums, blocks -/
def stepS (h c : Int) : Int := (h * 31 + c * c + 7) % 4294967291
def sumFrom (h : Int) (l : List Int) : Int := l.foldl stepS h
theorem stepS_bd (h c : Int) : 0 ≤ stepS h c ∧ stepS h c < 4294967291 := by unfold stepS; omega
theorem sumFrom_bd : ∀ (l : List Int) (h : Int), 0 ≤ h → h < 4294967291 → 0 ≤ sumFrom h l ∧ sumFrom h l < 4294967291
  | [], h, h0, h1 => ⟨h0, h1⟩
  | c :: l, h, _, _ => sumFrom_bd l (stepS h c) (stepS_bd h c).1 (stepS_bd h c).2
theorem sum_bd (l : List Int) : 0 ≤ sumFrom 1 l ∧ sumFrom 1 l < 4294967291 := sumFrom_bd l 1 (by decide) (by decide)
theorem sq_bd (c : Int) (h0 : 0 ≤ c) (h1 : c ≤ 255) : 0 ≤ c * c ∧ c * c ≤ 65025 :=
  ⟨Int.mul_nonneg h0 h0, Int.le_trans (Int.mul_le_mul h1 h1 h0 (by decide)) (by decide)⟩
theorem step_eq (h c : Int) (h0 : 0 ≤ h) (h1 : h < 4294967291) (c0 : 0 ≤ c) (c1 : c ≤ 255) :
    Int.tmod (wrap64 ((wrap64 ((wrap64 (h * 31)) + (wrap64 ((wrap64 c) * (wrap64 c))))) + 7)) 4294967291 = stepS h c := by
  have q := sq_bd c c0 c1
  rw [wrap_in (x := c) (by omega) (by omega)]
  unfold stepS
  generalize c * c = s at q ⊢
  rw [wrap_in (x := s) (by omega) (by omega), wrap_in (x := h * 31) (by omega) (by omega), wrap_in (x := h * 31 + s) (by omega) (by omega), wrap_in (by omega) (by omega), tmod_nn (by omega)]
theorem sum_l0 (xs : List Int) (hb : isBytes xs) (hl : xs.length < 4611686018427387904) : ∀ (d i : Nat) (h : Int), xs.length - i = d → i ≤ xs.length → 0 ≤ h → h < 4294967291 →
    Ev (fun k => mark_Sum.l0 k h xs (xs.length : Int) (i : Int)) (sumFrom h (xs.drop i))
  | 0, i, h, hd, hi, h0, h1 => by
    refine Ev.step (fun _ => mark_Sum.l0.eq_2 ..) (ev_neg (by omega) (ev_some ?_))
    rw [List.drop_eq_nil_of_le (by omega)]; rfl
  | d + 1, i, h, hd, hi, h0, h1 => by
    have b := bytes_rd i hb
    refine Ev.step (fun _ => mark_Sum.l0.eq_2 ..) (ev_pos (by omega) (ev_pos (by omega) (ev_pos (by omega) ?_)))
    rw [step_eq h _ h0 h1 b.1 b.2, wrap_succ (by omega), drop_rd xs i (by omega)]
    exact sum_l0 xs hb hl d (i + 1) _ (by omega) (by omega) (stepS_bd _ _).1 (stepS_bd _ _).2
theorem sum_f (xs : List Int) (hb : isBytes xs) (hl : xs.length < 4611686018427387904) : Ev (fun k => mark_Sum.f k xs) (sumFrom 1 xs) := by
  unfold mark_Sum.f
  exact sum_l0 xs hb hl xs.length 0 1 (by omega) (by omega) (by decide) (by decide)
theorem clone_f (xs : List Int) (hl : xs.length < 140737488355328) : slices_Clone_byte_byte.f xs = some xs := by
  unfold slices_Clone_byte_byte.f
  simp only [Option.bind_some, List.length_nil, Nat.zero_add, List.nil_append]
  rw [if_pos hl]
theorem eq_l0 (xs ys : List Int) (hl : xs.length = ys.length) (hb : xs.length < 4611686018427387904) : ∀ (d i : Nat), xs.length - i = d → i ≤ xs.length →
    Ev (fun k => slices_Equal_byte_byte.l0 k xs ys (xs.length : Int) (i : Int)) (decide (xs.drop i = ys.drop i))
  | 0, i, hd, hi => by
    refine Ev.step (fun _ => slices_Equal_byte_byte.l0.eq_2 ..) (ev_neg (by omega) (ev_some ?_))
    rw [List.drop_eq_nil_of_le (by omega), List.drop_eq_nil_of_le (by omega)]; rfl
  | d + 1, i, hd, hi => by
    refine Ev.step (fun _ => slices_Equal_byte_byte.l0.eq_2 ..) (ev_pos (by omega) (ev_pos (by omega) (ev_pos (by omega) (ev_pos (by omega) ?_))))
    rw [drop_rd xs i (by omega), drop_rd ys i (by omega)]
    by_cases h : rd xs (i : Int) = rd ys (i : Int)
    · refine ev_pos h (ev_eq (r := decide (xs.drop (i + 1) = ys.drop (i + 1))) ?_ ?_)
      · rw [wrap_succ (by omega)]; exact eq_l0 xs ys hl hb d (i + 1) (by omega) (by omega)
      · simp [h]
    · exact ev_neg h (ev_some (by simp [h]))
theorem equal_f (xs ys : List Int) (hb : xs.length < 4611686018427387904) : Ev (fun k => slices_Equal_byte_byte.f k xs ys) (decide (xs = ys)) := by
  unfold slices_Equal_byte_byte.f
  by_cases h : xs.length = ys.length
  · exact ev_pos (by omega) (ev_eq (eq_l0 xs ys h hb xs.length 0 (by omega) (by omega)) (by simp))
  · refine ev_neg (by omega) (ev_some ?_)
    symm; rw [decide_eq_false_iff_not]; intro e; exact h (by rw [e])
def be4 (n : Int) : List Int := [(n / 16777216) % 256, (n / 65536) % 256, (n / 256) % 256, n % 256]
theorem be4_bytes (n : Int) : isBytes (be4 n) := by
  unfold be4
  exact bytes_cons (by omega) (by omega) (bytes_cons (by omega) (by omega) (bytes_cons (by omega) (by omega) (bytes_cons (by omega) (by omega) bytes_nil)))
def sealHead (kind : Int) (body : List Int) : List Int := [kind, (body.length : Int) / 256, (body.length : Int) % 256] ++ (body ++ List.replicate (153 - body.length) 0)
theorem head_len (kind : Int) (body : List Int) (h : body.length ≤ 153) : (sealHead kind body).length = 156 := by
  unfold sealHead; simp; omega
theorem head_bytes (kind : Int) (body : List Int) (h0 : 0 ≤ kind) (h1 : kind ≤ 255) (hb : isBytes body) (h : body.length ≤ 153) : isBytes (sealHead kind body) := by
  unfold sealHead
  exact bytes_app (bytes_cons h0 h1 (bytes_cons (by omega) (by omega) (bytes_cons (by omega) (by omega) bytes_nil))) (bytes_app hb (bytes_rep _ _ (by decide) (by decide)))
def sealB (kind : Int) (body : List Int) : List Int := sealHead kind body ++ be4 (sumFrom 1 (sealHead kind body))
theorem seal_len (kind : Int) (body : List Int) (h : body.length ≤ 153) : (sealB kind body).length = 160 := by
  unfold sealB; rw [List.length_append, head_len kind body h]; rfl
theorem seal_bytes (kind : Int) (body : List Int) (h0 : 0 ≤ kind) (h1 : kind ≤ 255) (hb : isBytes body) (h : body.length ≤ 153) : isBytes (sealB kind body) :=
  bytes_app (head_bytes kind body h0 h1 hb h) (be4_bytes _)
def okSeal (kind : Int) (body : List Int) : Bool := decide (1 ≤ kind ∧ kind ≤ 255 ∧ body.length ≤ 153)
theorem seal_f (kind : Int) (body : List Int) (hb : isBytes body) (hl : body.length < 4611686018427387904) :
    Ev (fun k => mark_Seal.f k kind body) (if okSeal kind body then (sealB kind body, 0) else ([], 1)) := by
  unfold mark_Seal.f
  by_cases h1 : kind < 1
  · exact ev_pos h1 (ev_some (by rw [if_neg]; unfold okSeal; simp; omega))
  · refine ev_neg h1 ?_
    by_cases h2 : kind > 255
    · exact ev_pos h2 (ev_some (by rw [if_neg]; unfold okSeal; simp; omega))
    · refine ev_neg h2 ?_
      by_cases h3 : (body.length : Int) > 153
      · exact ev_pos h3 (ev_some (by rw [if_neg]; unfold okSeal; simp; omega))
      · have ok : okSeal kind body = true := by unfold okSeal; simp; omega
        have hl3 : body.length ≤ 153 := by omega
        rw [if_pos ok]
        refine ev_neg h3 (ev_pos (by decide) (ev_bind0 (ev_pos (by rw [List.length_replicate]; decide) (ev_pos (by rw [List.length_replicate]; decide) (ev_pos (by rw [List.length_replicate]; decide) (ev_bind0 (ev_pos (by rw [List.length_replicate]; decide) (ev_bind0 ?_))))))))
        have e : (((List.replicate 156 (0 : Int)).set (0 : Int).toNat (kind % 256)).set (1 : Int).toNat (((body.length : Int) / 256) % 256)).set (2 : Int).toNat ((body.length : Int) % 256) = [kind, (body.length : Int) / 256, (body.length : Int) % 256] ++ List.replicate 153 0 := by
          rw [show kind % 256 = kind by omega, show ((body.length : Int) / 256) % 256 = (body.length : Int) / 256 by omega]
          rfl
        rw [e]
        have e2 : Copy.lay ([kind, (body.length : Int) / 256, (body.length : Int) % 256] ++ List.replicate 153 0) 3 (body.take (([kind, (body.length : Int) / 256, (body.length : Int) % 256] ++ List.replicate 153 (0 : Int)).length - 3)) = sealHead kind body := by
          rw [List.take_of_length_le (by simp; omega), Copy.lay_eq _ _ _ (by simp; omega)]
          unfold sealHead
          rw [show ([kind, (body.length : Int) / 256, (body.length : Int) % 256] ++ List.replicate 153 (0 : Int)).take 3 = [kind, (body.length : Int) / 256, (body.length : Int) % 256] from rfl, List.drop_append, List.drop_eq_nil_of_le (by simp only [List.length_cons, List.length_nil]; omega), List.nil_append, List.drop_replicate]
          simp only [List.length_cons, List.length_nil]
          rw [show 153 - (3 + body.length - (0 + 1 + 1 + 1)) = 153 - body.length by omega]
        rw [e2]
        refine Ev.bind (sum_f _ (head_bytes kind body (by omega) (by omega) hb hl3) (by rw [head_len _ _ hl3]; decide)) (ev_bind0 (ev_pos (by rw [head_len _ _ hl3]; simp only [List.length_cons, List.length_nil]; omega) (ev_some rfl)))
theorem word4 (a b c d : Int) (a0 : 0 ≤ a) (a1 : a ≤ 255) (b0 : 0 ≤ b) (b1 : b ≤ 255) (c0 : 0 ≤ c) (c1 : c ≤ 255) (d0 : 0 ≤ d) (d1 : d ≤ 255) :
    Go.bits .or .i64 (Go.bits .or .i64 (Go.bits .or .i64 (wrap64 ((wrap64 a) * 16777216)) (wrap64 ((wrap64 b) * 65536))) (wrap64 ((wrap64 c) * 256))) (wrap64 d) = a * 16777216 + b * 65536 + c * 256 + d := by
  rw [wrap_in (x := a) (by omega) (by omega), wrap_in (x := b) (by omega) (by omega), wrap_in (x := c) (by omega) (by omega), wrap_in (x := d) (by omega) (by omega),
    wrap_in (x := a * 16777216) (by omega) (by omega), wrap_in (x := b * 65536) (by omega) (by omega), wrap_in (x := c * 256) (by omega) (by omega)]
  rw [or24 (a * 16777216) (b * 65536) (by omega) (by omega) (by omega) (by omega) (by omega), or16 (a * 16777216 + b * 65536) (c * 256) (by omega) (by omega) (by omega) (by omega) (by omega), or8 (a * 16777216 + b * 65536 + c * 256) d (by omega) (by omega) (by omega) (by omega) (by omega)]
theorem word2 (a b : Int) (a0 : 0 ≤ a) (a1 : a ≤ 255) (b0 : 0 ≤ b) (b1 : b ≤ 255) : Go.bits .or .i64 (wrap64 ((wrap64 a) * 256)) (wrap64 b) = a * 256 + b := by
  rw [wrap_in (x := a) (by omega) (by omega), wrap_in (x := b) (by omega) (by omega), wrap_in (x := a * 256) (by omega) (by omega)]
  rw [or8 _ _ (by omega) (by omega) (by omega) (by omega) (by omega)]
theorem be4_word (n : Int) (h0 : 0 ≤ n) (h1 : n < 4294967296) : (n / 16777216) % 256 * 16777216 + (n / 65536) % 256 * 65536 + (n / 256) % 256 * 256 + n % 256 = n := by omega
def bodyOf (l : List Int) : List Int := (l.drop 3).take (min (rd l 1 * 256 + rd l 2) 153).toNat
def openB (l : List Int) : Int × List Int × Int :=
  if l.length = 160 then
    if sumFrom 1 (l.take 156) = rd l 156 * 16777216 + rd l 157 * 65536 + rd l 158 * 256 + rd l 159 then
      if okSeal (rd l 0) (bodyOf l) = true ∧ sealB (rd l 0) (bodyOf l) = l then (rd l 0, bodyOf l, 0) else (0, [], 2)
    else (0, [], 3)
  else (0, [], 2)
theorem body_bytes (l : List Int) (hb : isBytes l) : isBytes (bodyOf l) := bytes_take _ (bytes_drop _ hb)
theorem rd_b (l : List Int) (hb : isBytes l) (n : Nat) : 0 ≤ rd l (n : Int) ∧ rd l (n : Int) ≤ 255 := bytes_rd n hb
theorem open_f (l : List Int) (hb : isBytes l) (hl : l.length < 4611686018427387904) : Ev (fun k => mark_Open.f k l) (openB l) := by
  unfold mark_Open.f openB
  by_cases h : l.length = 160
  · rw [if_pos h]
    have b0 : 0 ≤ rd l 0 ∧ rd l 0 ≤ 255 := rd_b l hb 0
    have b1 : 0 ≤ rd l 1 ∧ rd l 1 ≤ 255 := rd_b l hb 1
    have b2 : 0 ≤ rd l 2 ∧ rd l 2 ≤ 255 := rd_b l hb 2
    have b6 : 0 ≤ rd l 156 ∧ rd l 156 ≤ 255 := rd_b l hb 156
    have b7 : 0 ≤ rd l 157 ∧ rd l 157 ≤ 255 := rd_b l hb 157
    have b8 : 0 ≤ rd l 158 ∧ rd l 158 ≤ 255 := rd_b l hb 158
    have b9 : 0 ≤ rd l 159 ∧ rd l 159 ≤ 255 := rd_b l hb 159
    refine ev_pos (by omega) (ev_pos (by omega) (ev_pos (by omega) (ev_pos (by omega) (ev_pos (by omega) (ev_pos (by omega) (Ev.bind (sum_f _ (bytes_take _ hb) (by rw [List.length_take]; omega)) ?_))))))
    have w4 := word4 (rd l 156) (rd l 157) (rd l 158) (rd l 159) b6.1 b6.2 b7.1 b7.2 b8.1 b8.2 b9.1 b9.2
    have w2 := word2 (rd l 1) (rd l 2) b1.1 b1.2 b2.1 b2.2
    rw [w4, w2]
    by_cases hs : sumFrom 1 (l.take 156) = rd l 156 * 16777216 + rd l 157 * 65536 + rd l 158 * 256 + rd l 159
    · rw [if_pos hs]
      have hm : mn (rd l 1 * 256 + rd l 2) 153 = min (rd l 1 * 256 + rd l 2) 153 := by unfold mn; split <;> omega
      obtain ⟨n, hn⟩ : ∃ n : Nat, min (rd l 1 * 256 + rd l 2) 153 = (n : Int) := ⟨(min (rd l 1 * 256 + rd l 2) 153).toNat, by have := b1.1; have := b2.1; omega⟩
      have hn153 : n ≤ 153 := by omega
      rw [hm, hn, wrap_in (x := 3 + (n : Int)) (by omega) (by omega)]
      have hbody : (l.take (3 + (n : Int)).toNat).drop 3 = bodyOf l := by
        unfold bodyOf; rw [hn, Int.toNat_natCast, show (3 + (n : Int)).toNat = 3 + n by omega, List.drop_take, show 3 + n - 3 = n by omega]
      rw [hbody]
      have hbl : (bodyOf l).length < 140737488355328 := by unfold bodyOf; rw [List.length_take, List.length_drop]; omega
      refine ev_pos hs (ev_pos (by omega) (ev_pos (by omega) (ev_pos (by omega) (ev_pos (by omega) (ev_pos (by omega) (ev_bind1 (clone_f _ hbl) ?_))))))
      rw [wrap_in (x := rd l 0) (by omega) (by omega)]
      have hsl := seal_f (rd l 0) (bodyOf l) (body_bytes l hb) (by omega)
      by_cases ok : okSeal (rd l 0) (bodyOf l) = true
      · rw [if_pos ok] at hsl
        have ok3 : (bodyOf l).length ≤ 153 := (of_decide_eq_true ok).2.2
        refine Ev.bind hsl (ev_pos rfl (Ev.bind (equal_f _ _ (by rw [seal_len _ _ ok3]; decide)) ?_))
        by_cases e : sealB (rd l 0) (bodyOf l) = l
        · exact ev_eq (r := (rd l 0, bodyOf l, 0)) (ev_pos (by simp [e]) (ev_some rfl)) (if_pos ⟨ok, e⟩).symm
        · exact ev_eq (r := (0, [], 2)) (ev_neg (by simp [e]) (ev_some rfl)) (if_neg (fun q => e q.2)).symm
      · rw [if_neg ok] at hsl
        exact ev_eq (r := (0, [], 2)) (Ev.bind hsl (ev_neg (by decide) (ev_some rfl))) (if_neg (fun q => ok q.1)).symm
    · rw [if_neg hs]
      exact ev_neg hs (ev_some rfl)
  · rw [if_neg h]
    exact ev_neg (by omega) (ev_some rfl)
theorem known_f : Ev (fun k => corbellaw6_known.f k) true := Ev.of (fun k => corbellaw6_known.mono k) (k := 200) (by kernel_rfl)

/-! a sum goes on; two that change places -/
theorem sumFrom_app (h : Int) (a b : List Int) : sumFrom h (a ++ b) = sumFrom (sumFrom h a) b := by unfold sumFrom; rw [List.foldl_append]
theorem stepS_inj (h g c : Int) (h0 : 0 ≤ h) (h1 : h < 4294967291) (g0 : 0 ≤ g) (g1 : g < 4294967291) (e : stepS h c = stepS g c) : h = g := by
  unfold stepS at e
  generalize c * c = s at e
  obtain ⟨q, hq⟩ := Int.dvd_of_emod_eq_zero (Int.emod_eq_emod_iff_emod_sub_eq_zero.1 e)
  omega
theorem sumFrom_inj : ∀ (l : List Int) (h g : Int), 0 ≤ h → h < 4294967291 → 0 ≤ g → g < 4294967291 → sumFrom h l = sumFrom g l → h = g
  | [], h, g, _, _, _, _, e => e
  | c :: l, h, g, h0, h1, g0, g1, e =>
    stepS_inj h g c h0 h1 g0 g1 (sumFrom_inj l _ _ (stepS_bd _ _).1 (stepS_bd _ _).2 (stepS_bd _ _).1 (stepS_bd _ _).2 e)
theorem sq_inj (a b : Int) (a0 : 0 ≤ a) (b0 : 0 ≤ b) (e : a * a = b * b) : a = b := by
  rcases Int.lt_trichotomy a b with h | h | h
  · have := Int.mul_lt_mul' (Int.le_of_lt h) h a0 (by omega)
    omega
  · exact h
  · have := Int.mul_lt_mul' (Int.le_of_lt h) h b0 (by omega)
    omega
theorem swap_step (h a b : Int) (a0 : 0 ≤ a) (a1 : a ≤ 255) (b0 : 0 ≤ b) (b1 : b ≤ 255) (e : stepS (stepS h a) b = stepS (stepS h b) a) : a = b := by
  unfold stepS at e
  have qa := sq_bd a a0 a1
  have qb := sq_bd b b0 b1
  have hs : a * a = b * b := by
    generalize a * a = s at e qa ⊢
    generalize b * b = t at e qb ⊢
    obtain ⟨q, hq⟩ := Int.dvd_of_emod_eq_zero (Int.emod_eq_emod_iff_emod_sub_eq_zero.1 e)
    rw [Int.emod_def (h * 31 + s + 7), Int.emod_def (h * 31 + t + 7)] at hq
    generalize (h * 31 + s + 7) / 4294967291 = m at hq
    generalize (h * 31 + t + 7) / 4294967291 = m' at hq
    clear e
    have hz : 4294967291 * q + 31 * (4294967291 * m) - 31 * (4294967291 * m') = 4294967291 * (q + 31 * m - 31 * m') := by omega
    generalize q + 31 * m - 31 * m' = z at hz
    generalize 4294967291 * m = u at hq hz
    generalize 4294967291 * m' = v at hq hz
    generalize 4294967291 * q = w at hq hz
    have h30 : 30 * (s - t) = w + 31 * u - 31 * v := by omega
    rw [hz] at h30
    clear hq hz
    omega
  exact sq_inj a b a0 b0 hs
theorem swap_set (l : List Int) (n : Nat) (h : n + 1 < l.length) : (l.set n (rd l ((n + 1 : Nat) : Int))).set (n + 1) (rd l (n : Int)) = l.take n ++ [rd l ((n + 1 : Nat) : Int), rd l (n : Int)] ++ l.drop (n + 2) := by
  apply ext_rd
  · simp; omega
  · intro i hi
    have hil : i < l.length := by simpa using hi
    rw [rd_set _ _ _ _ (by rw [List.length_set]; exact hil), rd_set _ _ _ _ hil]
    have e3 : (l.take n ++ [rd l ((n + 1 : Nat) : Int), rd l (n : Int)]).length = n + 2 := by simp; omega
    by_cases h1 : n + 1 = i
    · subst h1
      rw [if_pos rfl, rd_app_l _ _ _ (by omega), rd_app_r _ _ _ (by rw [List.length_take]; omega) (by rw [List.length_take]; simp; omega), List.length_take]
      rw [show n + 1 - min n l.length = 1 by omega]; rfl
    · rw [if_neg h1]
      by_cases h2 : n = i
      · subst h2
        rw [if_pos rfl, rd_app_l _ _ _ (by omega), rd_app_r _ _ _ (by rw [List.length_take]; omega) (by rw [List.length_take]; simp; omega), List.length_take]
        rw [show n - min n l.length = 0 by omega]; rfl
      · rw [if_neg h2]
        by_cases h3 : i < n
        · rw [rd_app_l _ _ _ (by omega), rd_app_l _ _ _ (by rw [List.length_take]; omega), rd_take _ _ _ h3]
        · rw [rd_app_r _ _ _ (by omega) (by rw [e3, List.length_drop]; omega), e3, rd_drop, show n + 2 + (i - (n + 2)) = i by omega]
theorem swap_sum (l : List Int) (hb : isBytes l) (n : Nat) (h : n + 1 < l.length) :
    (sumFrom 1 ((l.set n (rd l ((n + 1 : Nat) : Int))).set (n + 1) (rd l (n : Int))) == sumFrom 1 l) = (rd l (n : Int) == rd l ((n + 1 : Nat) : Int)) := by
  have a := bytes_rd n hb
  have b := bytes_rd (n + 1) hb
  have e1 : l = l.take n ++ [rd l (n : Int), rd l ((n + 1 : Nat) : Int)] ++ l.drop (n + 2) := by
    have h1 := drop_rd l n (by omega)
    have h2 := drop_rd l (n + 1) h
    rw [h2] at h1
    have h3 := List.take_append_drop n l
    rw [h1] at h3
    rw [List.append_assoc]
    exact h3.symm
  rw [swap_set l n h]
  have e2 : sumFrom 1 l = sumFrom 1 (l.take n ++ [rd l (n : Int), rd l ((n + 1 : Nat) : Int)] ++ l.drop (n + 2)) := congrArg _ e1
  rw [e2, sumFrom_app, sumFrom_app, sumFrom_app, sumFrom_app]
  generalize sumFrom 1 (l.take n) = s
  generalize rd l (n : Int) = x at a ⊢
  generalize rd l ((n + 1 : Nat) : Int) = y at b ⊢
  show (sumFrom (stepS (stepS s y) x) _ == sumFrom (stepS (stepS s x) y) _) = _
  rw [Bool.eq_iff_iff]
  simp only [beq_iff_eq]
  constructor
  · intro e
    exact swap_step s x y a.1 a.2 b.1 b.2 (sumFrom_inj _ _ _ (stepS_bd _ _).1 (stepS_bd _ _).2 (stepS_bd _ _).1 (stepS_bd _ _).2 e).symm
  · intro e; rw [e]

theorem few_f (l : List Int) (n : Nat) (hl : l.length < 140737488355328) (hn : n < 4611686018427387904) : corbelhand_Few.f l (n : Int) = some (l.take n) := by
  unfold corbelhand_Few.f
  have hm : mn (l.length : Int) (n : Int) = ((min l.length n : Nat) : Int) := by unfold mn; split <;> omega
  rw [hm]
  simp only [Option.bind_some, Int.toNat_natCast, List.length_nil, Nat.zero_add, List.nil_append]
  have e : l.take (min l.length n) = l.take n := by
    by_cases h : n ≤ l.length
    · rw [Nat.min_eq_right h]
    · rw [Nat.min_eq_left (by omega), List.take_length, List.take_of_length_le (by omega)]
  rw [if_pos (by omega), if_pos (by omega), e, if_pos (by rw [List.length_take]; omega)]

theorem seal_take (kind : Int) (body : List Int) (h : body.length ≤ 153) : (sealB kind body).take 156 = sealHead kind body := by
  unfold sealB; rw [List.take_append_of_le_length (by rw [head_len kind body h]; omega), List.take_of_length_le (by rw [head_len kind body h]; omega)]
theorem rd_head (kind : Int) (body : List Int) (h : body.length ≤ 153) (i : Nat) (hi : i < 156) : rd (sealB kind body) (i : Int) = rd (sealHead kind body) (i : Int) := by
  unfold sealB; exact rd_app_l _ _ _ (by rw [head_len kind body h]; exact hi)
theorem rd_tail (kind : Int) (body : List Int) (h : body.length ≤ 153) (i : Nat) (hi : i < 4) : rd (sealB kind body) ((156 + i : Nat) : Int) = rd (be4 (sumFrom 1 (sealHead kind body))) (i : Int) := by
  unfold sealB
  rw [rd_app_r _ _ _ (by rw [head_len kind body h]; omega) (by rw [head_len kind body h]; show 156 + i < 156 + 4; omega), head_len kind body h, show 156 + i - 156 = i by omega]
theorem seal_rd0 (kind : Int) (body : List Int) (h : body.length ≤ 153) : rd (sealB kind body) 0 = kind := (rd_head kind body h 0 (by decide)).trans rfl
theorem seal_rd1 (kind : Int) (body : List Int) (h : body.length ≤ 153) : rd (sealB kind body) 1 = (body.length : Int) / 256 := (rd_head kind body h 1 (by decide)).trans rfl
theorem seal_rd2 (kind : Int) (body : List Int) (h : body.length ≤ 153) : rd (sealB kind body) 2 = (body.length : Int) % 256 := (rd_head kind body h 2 (by decide)).trans rfl
theorem seal_word (kind : Int) (body : List Int) (h : body.length ≤ 153) : rd (sealB kind body) 156 * 16777216 + rd (sealB kind body) 157 * 65536 + rd (sealB kind body) 158 * 256 + rd (sealB kind body) 159 = sumFrom 1 (sealHead kind body) := by
  have b := sum_bd (sealHead kind body)
  have e0 : rd (sealB kind body) 156 = (sumFrom 1 (sealHead kind body) / 16777216) % 256 := (rd_tail kind body h 0 (by decide)).trans rfl
  have e1 : rd (sealB kind body) 157 = (sumFrom 1 (sealHead kind body) / 65536) % 256 := (rd_tail kind body h 1 (by decide)).trans rfl
  have e2 : rd (sealB kind body) 158 = (sumFrom 1 (sealHead kind body) / 256) % 256 := (rd_tail kind body h 2 (by decide)).trans rfl
  have e3 : rd (sealB kind body) 159 = sumFrom 1 (sealHead kind body) % 256 := (rd_tail kind body h 3 (by decide)).trans rfl
  rw [e0, e1, e2, e3]
  exact be4_word _ b.1 (by omega)
theorem seal_body (kind : Int) (body : List Int) (h : body.length ≤ 153) : bodyOf (sealB kind body) = body := by
  unfold bodyOf
  rw [seal_rd1 kind body h, seal_rd2 kind body h, show min ((body.length : Int) / 256 * 256 + (body.length : Int) % 256) 153 = (body.length : Int) by omega, Int.toNat_natCast]
  unfold sealB sealHead
  show List.take body.length (List.drop 3 (kind :: ((body.length : Int) / 256) :: ((body.length : Int) % 256) :: (body ++ List.replicate (153 - body.length) 0 ++ _))) = body
  simp
theorem open_seal (kind : Int) (body : List Int) (ok : okSeal kind body = true) : openB (sealB kind body) = (kind, body, 0) := by
  have o := of_decide_eq_true ok
  unfold openB
  rw [if_pos (seal_len kind body o.2.2), seal_take kind body o.2.2, seal_word kind body o.2.2, if_pos rfl, seal_rd0 kind body o.2.2, seal_body kind body o.2.2, if_pos ⟨ok, rfl⟩]
theorem head_inj (k1 k2 : Int) (b1 b2 : List Int) (h1 : b1.length ≤ 153) (h2 : b2.length ≤ 153) (e : sealB k1 b1 = sealB k2 b2) : k1 = k2 ∧ b1 = b2 := by
  have e1 := seal_rd0 k1 b1 h1
  have e2 := seal_body k1 b1 h1
  rw [e, seal_rd0 k2 b2 h2] at e1
  rw [e, seal_body k2 b2 h2] at e2
  exact ⟨e1.symm, e2.symm⟩

theorem rsum_l0 (xs : List Int) (hb : isBytes xs) (hl : xs.length < 4611686018427387904) : ∀ (d i : Nat) (h : Int), xs.length - i = d → i ≤ xs.length → 0 ≤ h → h < 4294967291 →
    Ev (fun k => corbelref3_Sum.l0 k xs h (i : Int)) (sumFrom h (xs.drop i))
  | 0, i, h, hd, hi, h0, h1 => by
    refine Ev.step (fun _ => corbelref3_Sum.l0.eq_2 ..) (ev_neg (by omega) (ev_some ?_))
    rw [List.drop_eq_nil_of_le (by omega)]; rfl
  | d + 1, i, h, hd, hi, h0, h1 => by
    have b := bytes_rd i hb
    refine Ev.step (fun _ => corbelref3_Sum.l0.eq_2 ..) (ev_pos (by omega) (ev_pos (by omega) ?_))
    rw [step_eq h _ h0 h1 b.1 b.2, wrap_succ (by omega), drop_rd xs i (by omega)]
    exact rsum_l0 xs hb hl d (i + 1) _ (by omega) (by omega) (stepS_bd _ _).1 (stepS_bd _ _).2
theorem rsum_f (xs : List Int) (hb : isBytes xs) (hl : xs.length < 4611686018427387904) : Ev (fun k => corbelref3_Sum.f k xs) (sumFrom 1 xs) := by
  unfold corbelref3_Sum.f
  exact rsum_l0 xs hb hl xs.length 0 1 (by omega) (by omega) (by decide) (by decide)
theorem rseal_l0 : ∀ (d : Nat) (x : List Int), 156 - x.length = d → x.length ≤ 156 → isBytes x →
    Ev (fun k => corbelref3_Seal.l0 k x) ((x ++ List.replicate d 0) ++ be4 (sumFrom 1 (x ++ List.replicate d 0)), true)
  | 0, x, hd, hl, hb => by
    refine Ev.step (fun _ => corbelref3_Seal.l0.eq_2 ..) (ev_neg (by omega) (Ev.bind (rsum_f x hb (by omega)) (ev_bind0 (ev_pos (by simp only [List.length_cons, List.length_nil]; omega) (ev_some ?_)))))
    rw [List.replicate_zero, List.append_nil]; rfl
  | d + 1, x, hd, hl, hb => by
    refine Ev.step (fun _ => corbelref3_Seal.l0.eq_2 ..) (ev_pos (by omega) (ev_pos (by omega) ?_))
    have next := rseal_l0 d (x ++ [0]) (by simp; omega) (by simp; omega) (bytes_app hb (bytes_cons (by decide) (by decide) bytes_nil))
    have e : x ++ [0] ++ List.replicate d (0 : Int) = x ++ List.replicate (d + 1) 0 := by rw [List.append_assoc]; rfl
    rw [e] at next
    exact next
theorem rseal_f (kind : Int) (body : List Int) (hb : isBytes body) (hl : body.length < 140737488355000) :
    Ev (fun k => corbelref3_Seal.f k kind body) (if okSeal kind body then (sealB kind body, true) else ([], false)) := by
  unfold corbelref3_Seal.f
  have no : okSeal kind body = false → Ev (fun k => corbelref3_Seal.j0 k kind body true) (if okSeal kind body then (sealB kind body, true) else ([], false)) := by
    intro h
    rw [h]
    exact Ev.step (fun _ => corbelref3_Seal.j0.eq_2 ..) (ev_pos rfl (ev_some rfl))
  by_cases h1 : kind < 1
  · exact ev_pos h1 (no (by unfold okSeal; simp; omega))
  · refine ev_neg h1 ?_
    by_cases h2 : kind > 255
    · exact ev_pos h2 (no (by unfold okSeal; simp; omega))
    · refine ev_neg h2 ?_
      by_cases h3 : (body.length : Int) > 153
      · rw [show decide ((body.length : Int) > 153) = true by simp; omega]
        exact no (by unfold okSeal; simp; omega)
      · rw [show decide ((body.length : Int) > 153) = false by simp; omega]
        have ok : okSeal kind body = true := by unfold okSeal; simp; omega
        rw [if_pos ok]
        refine Ev.step (fun _ => corbelref3_Seal.j0.eq_2 ..) (ev_neg (by simp) (ev_bind0 (ev_pos (by simp only [List.length_cons, List.length_nil]; omega) ?_)))
        have e : [kind % 256, ((body.length : Int) / 256) % 256, (body.length : Int) % 256] = [kind, (body.length : Int) / 256, (body.length : Int) % 256] := by
          rw [show kind % 256 = kind by omega, show ((body.length : Int) / 256) % 256 = (body.length : Int) / 256 by omega]
        rw [e]
        have hx : isBytes ([kind, (body.length : Int) / 256, (body.length : Int) % 256] ++ body) :=
          bytes_app (bytes_cons (by omega) (by omega) (bytes_cons (by omega) (by omega) (bytes_cons (by omega) (by omega) bytes_nil))) hb
        have next := rseal_l0 (153 - body.length) ([kind, (body.length : Int) / 256, (body.length : Int) % 256] ++ body) (by simp only [List.length_append, List.length_cons, List.length_nil]; omega) (by simp only [List.length_append, List.length_cons, List.length_nil]; omega) hx
        have e : [kind, (body.length : Int) / 256, (body.length : Int) % 256] ++ body ++ List.replicate (153 - body.length) 0 = sealHead kind body := by rw [List.append_assoc]; rfl
        rw [e] at next
        exact next
theorem ropen_l0 (l : List Int) (hb : isBytes l) (h : l.length = 160) : Ev (fun k => corbelref3_Open.l0 k l 156 (rd l 156 * 16777216 + rd l 157 * 65536 + rd l 158 * 256 + rd l 159) 160) (openB l) := by
  unfold openB
  have b0 : 0 ≤ rd l 0 ∧ rd l 0 ≤ 255 := rd_b l hb 0
  have b1 : 0 ≤ rd l 1 ∧ rd l 1 ≤ 255 := rd_b l hb 1
  have b2 : 0 ≤ rd l 2 ∧ rd l 2 ≤ 255 := rd_b l hb 2
  rw [if_pos h]
  refine Ev.step (fun _ => corbelref3_Open.l0.eq_2 ..) (ev_neg (by omega) (ev_pos (by omega) (ev_pos (by omega) (Ev.bind (rsum_f _ (bytes_take _ hb) (by rw [List.length_take]; omega)) ?_))))
  rw [show (156 : Int).toNat = 156 from rfl]
  by_cases hs : sumFrom 1 (l.take 156) = rd l 156 * 16777216 + rd l 157 * 65536 + rd l 158 * 256 + rd l 159
  · rw [if_pos hs]
    refine ev_pos hs (ev_pos (by omega) (ev_pos (by omega) ?_))
    rw [word2 (rd l 1) (rd l 2) b1.1 b1.2 b2.1 b2.2]
    by_cases hn : rd l 1 * 256 + rd l 2 > 153
    · refine ev_pos hn (ev_some ?_)
      symm
      rw [if_neg]
      rintro ⟨ok, e⟩
      have o := of_decide_eq_true ok
      have e1 := seal_rd1 (rd l 0) (bodyOf l) o.2.2
      have e2 := seal_rd2 (rd l 0) (bodyOf l) o.2.2
      rw [e] at e1 e2
      omega
    · refine ev_neg hn (ev_bind0 ?_)
      obtain ⟨n, hn'⟩ : ∃ n : Nat, rd l 1 * 256 + rd l 2 = (n : Int) := ⟨(rd l 1 * 256 + rd l 2).toNat, by omega⟩
      rw [hn', wrap_in (x := 3 + (n : Int)) (by omega) (by omega)]
      have hbody : (l.take (3 + (n : Int)).toNat).drop 3 = bodyOf l := by
        unfold bodyOf; rw [hn', show (min (n : Int) 153).toNat = n by omega, show (3 + (n : Int)).toNat = 3 + n by omega, List.drop_take, show 3 + n - 3 = n by omega]
      rw [hbody]
      have hbl : (bodyOf l).length ≤ 160 := by unfold bodyOf; rw [List.length_take, List.length_drop]; omega
      simp only [List.nil_append, List.length_nil, Nat.zero_add]
      refine ev_pos (by omega) (ev_pos (by omega) (ev_pos (by omega) (ev_bind0 (ev_pos (by omega) ?_))))
      rw [wrap_in (x := rd l 0) (by omega) (by omega)]
      have hsl := rseal_f (rd l 0) (bodyOf l) (body_bytes l hb) (by omega)
      by_cases ok : okSeal (rd l 0) (bodyOf l) = true
      · rw [if_pos ok] at hsl
        have o := of_decide_eq_true ok
        refine Ev.bind hsl (ev_pos rfl ?_)
        have hsb := seal_bytes (rd l 0) (bodyOf l) b0.1 b0.2 (body_bytes l hb) o.2.2
        by_cases e : sealB (rd l 0) (bodyOf l) = l
        · exact ev_eq (r := (rd l 0, bodyOf l, 0)) (ev_pos ((str_eq hsb hb).2 e) (Ev.now _)) (if_pos ⟨ok, e⟩).symm
        · exact ev_eq (r := (0, [], 2)) (ev_neg (fun q => e ((str_eq hsb hb).1 q)) (Ev.now _)) (if_neg (fun q => e q.2)).symm
      · rw [if_neg ok] at hsl
        exact ev_eq (r := (0, [], 2)) (Ev.bind hsl (ev_neg (by decide) (Ev.now _))) (if_neg (fun q => ok q.1)).symm
  · rw [if_neg hs]
    exact ev_neg hs (ev_some rfl)
theorem or_step (x b : Int) (h0 : 0 ≤ x) (h1 : x < 16777216) (b0 : 0 ≤ b) (b1 : b ≤ 255) : Go.bits .or .i64 (wrap64 (x * 256)) (wrap64 b) = x * 256 + b := by
  rw [wrap_in (x := x * 256) (by omega) (by omega), wrap_in (x := b) (by omega) (by omega), or8 _ _ (by omega) (by omega) (by omega) (by omega) (by omega)]
theorem ropen_f (l : List Int) (hb : isBytes l) : Ev (fun k => corbelref3_Open.f k l) (openB l) := by
  unfold corbelref3_Open.f
  by_cases h : l.length = 160
  · refine ev_pos (by omega) ?_
    have b6 : 0 ≤ rd l 156 ∧ rd l 156 ≤ 255 := rd_b l hb 156
    have b7 : 0 ≤ rd l 157 ∧ rd l 157 ≤ 255 := rd_b l hb 157
    have b8 : 0 ≤ rd l 158 ∧ rd l 158 ≤ 255 := rd_b l hb 158
    have b9 : 0 ≤ rd l 159 ∧ rd l 159 ≤ 255 := rd_b l hb 159
    refine Ev.step (fun _ => corbelref3_Open.l0.eq_2 ..) (ev_pos (by omega) (ev_pos (by omega) (ev_pos (by omega) ?_)))
    rw [or_step 0 _ (by omega) (by omega) b6.1 b6.2, show (0 : Int) * 256 + rd l 156 = rd l 156 by omega, wrap_in (x := 156 + 1) (by omega) (by omega), show (156 : Int) + 1 = 157 from rfl]
    refine Ev.step (fun _ => corbelref3_Open.l0.eq_2 ..) (ev_pos (by omega) (ev_pos (by omega) (ev_pos (by omega) ?_)))
    rw [or_step _ _ (by omega) (by omega) b7.1 b7.2, wrap_in (x := 157 + 1) (by omega) (by omega), show (157 : Int) + 1 = 158 from rfl]
    refine Ev.step (fun _ => corbelref3_Open.l0.eq_2 ..) (ev_pos (by omega) (ev_pos (by omega) (ev_pos (by omega) ?_)))
    rw [or_step _ _ (by omega) (by omega) b8.1 b8.2, wrap_in (x := 158 + 1) (by omega) (by omega), show (158 : Int) + 1 = 159 from rfl]
    refine Ev.step (fun _ => corbelref3_Open.l0.eq_2 ..) (ev_pos (by omega) (ev_pos (by omega) (ev_pos (by omega) ?_)))
    rw [or_step _ _ (by omega) (by omega) b9.1 b9.2, wrap_in (x := 159 + 1) (by omega) (by omega), show (159 : Int) + 1 = 160 from rfl]
    rw [show ((rd l 156 * 256 + rd l 157) * 256 + rd l 158) * 256 + rd l 159 = rd l 156 * 16777216 + rd l 157 * 65536 + rd l 158 * 256 + rd l 159 by omega]
    exact ropen_l0 l hb h
  · refine ev_neg (by omega) (ev_some ?_)
    unfold openB; rw [if_neg h]
theorem tells_j3 (body z : List Int) (hb : isBytes body) (hl : body.length < 140737488355000) (hz : isBytes z) (hzl : z.length < 140737488355000) : Ev (fun k => corbellaw6_MarkTells.j3 k body z) true := by
  refine Ev.step (fun _ => corbellaw6_MarkTells.j3.eq_2 ..) (Ev.bind (open_f z hz (by omega)) (Ev.bind (ropen_f z hz) (Ev.bind known_f (ev_pos rfl (Ev.bind (sum_f body hb (by omega)) (Ev.bind (rsum_f body hb (by omega)) (ev_pos rfl (ev_pos rfl (ev_pos rfl (ev_some (by simp))))))))))) 
theorem tells_end (body : List Int) (how : Int) (at_ : List Int) (by_ : Int) (z : List Int) (i : Int) (hb : isBytes body) (hl : body.length < 140737488355000) (hz : isBytes z) (hzl : z.length = 160) :
    Ev (fun k => if (Int.tmod how 4) > 1 then (if 156 ≤ (z.length : Int) then ((corbelref3_Sum.f k (z.take 156)).bind fun t231 => ((some (z.take (156 : Int).toNat : List Int)).bind fun y232 => ((some (([(t231 / 16777216) % 256, (t231 / 65536) % 256, (t231 / 256) % 256, (t231) % 256] : List Int) : List Int)).bind fun y235 => (if y232.length + y235.length < 140737488355328 then (corbellaw6_MarkTells.j3 k body (y232 ++ y235)) else (none))))) else (none)) else (corbellaw6_MarkTells.j3 k body z)) true := by
  by_cases h : (Int.tmod how 4) > 1
  · refine ev_pos h (ev_pos (by omega) (Ev.bind (rsum_f _ (bytes_take _ hz) (by rw [List.length_take]; omega)) (ev_bind0 (ev_bind0 (ev_pos ?_ ?_)))))
    · rw [List.length_take]; simp only [List.length_cons, List.length_nil]; omega
    · refine tells_j3 body _ hb hl (bytes_app (bytes_take _ hz) (be4_bytes _)) ?_
      rw [List.length_append, List.length_take]; simp only [List.length_cons, List.length_nil]; omega
  · exact ev_neg h (tells_j3 body z hb hl hz (by omega))
theorem tells_l0 (body : List Int) (how : Int) (at_ : List Int) (by_ : Int) (hb : isBytes body) (hl : body.length < 140737488355000) (b0 : 0 ≤ by_) (b1 : by_ ≤ 255) : ∀ (d i : Nat) (z : List Int), 2 - i = d → i ≤ 2 → isBytes z → z.length = 160 →
    Ev (fun k => corbellaw6_MarkTells.l0 k body how at_ by_ z (i : Int)) true
  | d, i, z, hd, hi, hz, hzl => by
    refine Ev.step (fun _ => corbellaw6_MarkTells.l0.eq_2 ..) ?_
    by_cases h1 : (i : Int) < (at_.length : Int)
    · refine ev_pos h1 ?_
      by_cases h2 : (i : Int) < 2
      · obtain ⟨d, rfl⟩ : ∃ e, d = e + 1 := ⟨d - 1, by omega⟩
        refine ev_pos h2 (ev_pos (by omega) (ev_bind1 (pick_f _ _ (by omega) (by omega)) ?_))
        have p0 := pick_nn (rd at_ (i : Int)) (z.length : Int) (by omega)
        have p1 := pick_lt (rd at_ (i : Int)) (z.length : Int) (by omega)
        obtain ⟨n, hn⟩ : ∃ n : Nat, rd at_ (i : Int) % (z.length : Int) = (n : Int) := ⟨(rd at_ (i : Int) % (z.length : Int)).toNat, by omega⟩
        rw [hn] at p0 p1 ⊢
        refine ev_pos (by omega) (ev_pos (by omega) ?_)
        rw [wrap_succ (by omega)]
        have rb := bytes_rd n hz
        have x := xor8 (rd z (n : Int)) by_ rb.1 (by omega) b0 (by omega)
        exact tells_l0 body how at_ by_ hb hl b0 b1 d (i + 1) _ (by omega) (by omega) (bytes_set _ _ hz x.1 (by omega)) (by rw [List.length_set]; exact hzl)
      · exact ev_neg h2 (tells_end body how at_ by_ z i hb hl hz hzl)
    · exact ev_neg h1 (tells_end body how at_ by_ z i hb hl hz hzl)
theorem MarkTells : corbellaw6_MarkTells.Pure := by
  intro k1 body raw how at_ by_ wk1 l1 l1' w1 l2 l2' w2 wh la la' wa wb
  refine Ev.rounds ?_
  unfold corbellaw6_MarkTells.f
  have h1 := bytes_wf w1
  have h2 := bytes_wf w2
  have hy := wf_u8 wb
  refine ev_bind1 (pick_f k1 260 (by omega) (by omega)) ?_
  have p0 := pick_nn k1 260 (by omega)
  have p1 := pick_lt k1 260 (by omega)
  rw [wrap_in (x := k1 % 260 - 1) (by omega) (by omega)]
  generalize k1 % 260 - 1 = kind
  refine Ev.bind (seal_f kind body h1 (by omega)) (Ev.bind (rseal_f kind body h1 (by omega)) ?_)
  have hj3 := tells_j3 body raw h1 (by omega) h2 (by omega)
  have few : corbelhand_Few.f raw (raw.length : Int) = some raw := by
    rw [few_f raw raw.length (by omega) (by omega), List.take_length]
  by_cases ok : okSeal kind body = true
  · rw [if_pos ok, if_pos ok]
    have o := of_decide_eq_true ok
    have hsb := seal_bytes kind body (by omega) o.2.1 h1 o.2.2
    have hsl := seal_len kind body o.2.2
    have fewb : corbelhand_Few.f (sealB kind body) ((sealB kind body).length : Int) = some (sealB kind body) := by
      rw [few_f _ _ (by omega) (by omega), List.take_length]
    refine ev_pos rfl (ev_neg (by simp) (ev_pos rfl (Ev.step (fun _ => corbellaw6_MarkTells.j0.eq_2 ..) (ev_neg (by simp) (ev_bind1 few (ev_pos rfl ?_))))))
    by_cases hw : (Int.tmod how 4) > 0
    · rw [show decide ((Int.tmod how 4) > 0) = true from decide_eq_true hw]
      refine Ev.step (fun _ => corbellaw6_MarkTells.j1.eq_2 ..) (ev_pos rfl (ev_bind1 fewb ?_))
      exact tells_l0 body how at_ by_ h1 (by omega) hy.1 hy.2 2 0 _ rfl (by omega) hsb hsl
    · rw [show decide ((Int.tmod how 4) > 0) = false from decide_eq_false hw]
      exact Ev.step (fun _ => corbellaw6_MarkTells.j1.eq_2 ..) (ev_neg (by simp) hj3)
  · rw [if_neg ok, if_neg ok]
    refine ev_pos rfl (ev_neg (by simp) (ev_neg (by simp) (Ev.step (fun _ => corbellaw6_MarkTells.j0.eq_2 ..) (ev_neg (by simp) (ev_bind1 few (ev_neg (by simp) ?_))))))
    exact Ev.step (fun _ => corbellaw6_MarkTells.j1.eq_2 ..) (ev_neg (by simp) hj3)

end Go.Proofs.Ytbegaeohggkblaa.Pure
