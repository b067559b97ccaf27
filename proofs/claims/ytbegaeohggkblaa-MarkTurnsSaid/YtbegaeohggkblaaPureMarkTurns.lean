/- The pure statement of MarkTurns: what the printed functions answer. No condition beyond its own. -/
import Derived.Test.YtbegaeohggkblaaPMarkTurnsx3
import Derived.Test.YtbegaeohggkblaaKit
import Derived.Test.YtbegaeohggkblaaCopy
namespace Go.Proofs.Ytbegaeohggkblaa.Pure
open Go.RowKit Go.Proofs.Ytbegaeohggkblaa.PMarkTurns Go.Proofs.YtbegaeohggkblaaW.PrintWords Go.Proofs.YtbegaeohggkblaaW.PrintLast Go.Proofs.YtbegaeohggkblaaW.PrintMore Go.Proofs.Ytbegaeohggkblaa.Kit
set_option linter.unusedVariables false
set_option linter.unusedSimpArgs false

theorem pick_f (n m : Int) (h0 : 0 < m) (h1 : m ≤ 4611686018427387904) : corbelhand_Pick.f n m = some (n % m) := by
  unfold corbelhand_Pick.f
  rw [if_neg (by omega)]
  have e := Int.tmod_eq_emod (a := n) (b := m)
  have b1 := Int.emod_nonneg n (show m ≠ 0 by omega)
  have b2 := Int.emod_lt_of_pos n h0
  have hm : (m.natAbs : Int) = m := by omega
  by_cases hc : 0 ≤ n ∨ m ∣ n
  · rw [if_pos hc] at e
    rw [if_neg (by omega), e]; congr 1; omega
  · rw [if_neg hc, hm] at e
    have hne : n % m ≠ 0 := fun q => hc (.inr (Int.dvd_of_emod_eq_zero q))
    rw [if_pos (by omega), wrap_in (by omega) (by omega), e]; congr 1; omega
theorem pick_nn (n m : Int) (h0 : 0 < m) : 0 ≤ n % m := Int.emod_nonneg n (by omega)
theorem pick_lt (n m : Int) (h0 : 0 < m) : n % m < m := Int.emod_lt_of_pos n h0

/-! chapter 6: sums, blocks -/
def stepS (h c : Int) : Int := (h * 31 + c * c + 7) % 4294967291
def sumFrom (h : Int) (l : List Int) : Int := l.foldl stepS h
theorem stepS_bd (h c : Int) : 0 ≤ stepS h c ∧ stepS h c < 4294967291 := by unfold stepS; omega
theorem sumFrom_bd : ∀ (l : List Int) (h : Int), 0 ≤ h → h < 4294967291 → 0 ≤ sumFrom h l ∧ sumFrom h l < 4294967291
  | [], h, h0, h1 => ⟨h0, h1⟩
  | c :: l, h, _, _ => sumFrom_bd l (stepS h c) (stepS_bd h c).1 (stepS_bd h c).2
theorem sum_bd (l : List Int) : 0 ≤ sumFrom 1 l ∧ sumFrom 1 l < 4294967291 := sumFrom_bd l 1 (by decide) (by decide)
theorem sq_bd (c : Int) (h0 : 0 ≤ c) (h1 : c ≤ 255) : 0 ≤ c * c ∧ c * c ≤ 65025 :=
  ⟨Int.mul_nonneg h0 h0, Int.le_trans (Int.mul_le_mul h1 h1 h0 (by decide)) (by decide)⟩
theorem step_eq (h c : Int) (h0 : 0 ≤ h) (h1 : h < 4294967291) (c0 : 0 ≤ c) (c1 : c ≤ 255) :
    Int.tmod (wrap64 ((wrap64 ((wrap64 (h * 31)) + (wrap64 ((wrap64 c) * (wrap64 c))))) + 7)) 4294967291 = stepS h c := by
  have q := sq_bd c c0 c1
  rw [wrap_in (x := c) (by omega) (by omega)]
  unfold stepS
  generalize c * c = s at q ⊢
  rw [wrap_in (x := s) (by omega) (by omega), wrap_in (x := h * 31) (by omega) (by omega), wrap_in (x := h * 31 + s) (by omega) (by omega), wrap_in (by omega) (by omega), tmod_nn (by omega)]
theorem sum_l0 (xs : List Int) (hb : isBytes xs) (hl : xs.length < 4611686018427387904) : ∀ (d i : Nat) (h : Int), xs.length - i = d → i ≤ xs.length → 0 ≤ h → h < 4294967291 →
    Ev (fun k => mark_Sum.l0 k h xs (xs.length : Int) (i : Int)) (sumFrom h (xs.drop i))
  | 0, i, h, hd, hi, h0, h1 => by
    refine Ev.step (fun _ => mark_Sum.l0.eq_2 ..) (ev_neg (by omega) (ev_some ?_))
    rw [List.drop_eq_nil_of_le (by omega)]; rfl
  | d + 1, i, h, hd, hi, h0, h1 => by
    have b := bytes_rd i hb
    refine Ev.step (fun _ => mark_Sum.l0.eq_2 ..) (ev_pos (by omega) (ev_pos (by omega) (ev_pos (by omega) ?_)))
    rw [step_eq h _ h0 h1 b.1 b.2, wrap_succ (by omega), drop_rd xs i (by omega)]
    exact sum_l0 xs hb hl d (i + 1) _ (by omega) (by omega) (stepS_bd _ _).1 (stepS_bd _ _).2
theorem sum_f (xs : List Int) (hb : isBytes xs) (hl : xs.length < 4611686018427387904) : Ev (fun k => mark_Sum.f k xs) (sumFrom 1 xs) := by
  unfold mark_Sum.f
  exact sum_l0 xs hb hl xs.length 0 1 (by omega) (by omega) (by decide) (by decide)
theorem clone_f (xs : List Int) (hl : xs.length < 140737488355328) : slices_Clone_byte_byte.f xs = some xs := by
  unfold slices_Clone_byte_byte.f
  simp only [Option.bind_some, List.length_nil, Nat.zero_add, List.nil_append]
  rw [if_pos hl]
theorem eq_l0 (xs ys : List Int) (hl : xs.length = ys.length) (hb : xs.length < 4611686018427387904) : ∀ (d i : Nat), xs.length - i = d → i ≤ xs.length →
    Ev (fun k => slices_Equal_byte_byte.l0 k xs ys (xs.length : Int) (i : Int)) (decide (xs.drop i = ys.drop i))
  | 0, i, hd, hi => by
    refine Ev.step (fun _ => slices_Equal_byte_byte.l0.eq_2 ..) (ev_neg (by omega) (ev_some ?_))
    rw [List.drop_eq_nil_of_le (by omega), List.drop_eq_nil_of_le (by omega)]; rfl
  | d + 1, i, hd, hi => by
    refine Ev.step (fun _ => slices_Equal_byte_byte.l0.eq_2 ..) (ev_pos (by omega) (ev_pos (by omega) (ev_pos (by omega) (ev_pos (by omega) ?_))))
    rw [drop_rd xs i (by omega), drop_rd ys i (by omega)]
    by_cases h : rd xs (i : Int) = rd ys (i : Int)
    · refine ev_pos h (ev_eq (r := decide (xs.drop (i + 1) = ys.drop (i + 1))) ?_ ?_)
      · rw [wrap_succ (by omega)]; exact eq_l0 xs ys hl hb d (i + 1) (by omega) (by omega)
      · simp [h]
    · exact ev_neg h (ev_some (by simp [h]))
theorem equal_f (xs ys : List Int) (hb : xs.length < 4611686018427387904) : Ev (fun k => slices_Equal_byte_byte.f k xs ys) (decide (xs = ys)) := by
  unfold slices_Equal_byte_byte.f
  by_cases h : xs.length = ys.length
  · exact ev_pos (by omega) (ev_eq (eq_l0 xs ys h hb xs.length 0 (by omega) (by omega)) (by simp))
  · refine ev_neg (by omega) (ev_some ?_)
    symm; rw [decide_eq_false_iff_not]; intro e; exact h (by rw [e])
def be4 (n : Int) : List Int := [(n / 16777216) % 256, (n / 65536) % 256, (n / 256) % 256, n % 256]
theorem be4_bytes (n : Int) : isBytes (be4 n) := by
  unfold be4
  exact bytes_cons (by omega) (by omega) (bytes_cons (by omega) (by omega) (bytes_cons (by omega) (by omega) (bytes_cons (by omega) (by omega) bytes_nil)))
def sealHead (kind : Int) (body : List Int) : List Int := [kind, (body.length : Int) / 256, (body.length : Int) % 256] ++ (body ++ List.replicate (153 - body.length) 0)
theorem head_len (kind : Int) (body : List Int) (h : body.length ≤ 153) : (sealHead kind body).length = 156 := by
  unfold sealHead; simp; omega
theorem head_bytes (kind : Int) (body : List Int) (h0 : 0 ≤ kind) (h1 : kind ≤ 255) (hb : isBytes body) (h : body.length ≤ 153) : isBytes (sealHead kind body) := by
  unfold sealHead
  exact bytes_app (bytes_cons h0 h1 (bytes_cons (by omega) (by omega) (bytes_cons (by omega) (by omega) bytes_nil))) (bytes_app hb (bytes_rep _ _ (by decide) (by decide)))
def sealB (kind : Int) (body : List Int) : List Int := sealHead kind body ++ be4 (sumFrom 1 (sealHead kind body))
theorem seal_len (kind : Int) (body : List Int) (h : body.length ≤ 153) : (sealB kind body).length = 160 := by
  unfold sealB; rw [List.length_append, head_len kind body h]; rfl
theorem seal_bytes (kind : Int) (body : List Int) (h0 : 0 ≤ kind) (h1 : kind ≤ 255) (hb : isBytes body) (h : body.length ≤ 153) : isBytes (sealB kind body) :=
  bytes_app (head_bytes kind body h0 h1 hb h) (be4_bytes _)
def okSeal (kind : Int) (body : List Int) : Bool := decide (1 ≤ kind ∧ kind ≤ 255 ∧ body.length ≤ 153)
theorem seal_f (kind : Int) (body : List Int) (hb : isBytes body) (hl : body.length < 4611686018427387904) :
    Ev (fun k => mark_Seal.f k kind body) (if okSeal kind body then (sealB kind body, 0) else ([], 1)) := by
  unfold mark_Seal.f
  by_cases h1 : kind < 1
  · exact ev_pos h1 (ev_some (by rw [if_neg]; unfold okSeal; simp; omega))
  · refine ev_neg h1 ?_
    by_cases h2 : kind > 255
    · exact ev_pos h2 (ev_some (by rw [if_neg]; unfold okSeal; simp; omega))
    · refine ev_neg h2 ?_
      by_cases h3 : (body.length : Int) > 153
      · exact ev_pos h3 (ev_some (by rw [if_neg]; unfold okSeal; simp; omega))
      · have ok : okSeal kind body = true := by unfold okSeal; simp; omega
        have hl3 : body.length ≤ 153 := by omega
        rw [if_pos ok]
        refine ev_neg h3 (ev_pos (by decide) (ev_bind0 (ev_pos (by rw [List.length_replicate]; decide) (ev_pos (by rw [List.length_replicate]; decide) (ev_pos (by rw [List.length_replicate]; decide) (ev_bind0 (ev_pos (by rw [List.length_replicate]; decide) (ev_bind0 ?_))))))))
        have e : (((List.replicate 156 (0 : Int)).set (0 : Int).toNat (kind % 256)).set (1 : Int).toNat (((body.length : Int) / 256) % 256)).set (2 : Int).toNat ((body.length : Int) % 256) = [kind, (body.length : Int) / 256, (body.length : Int) % 256] ++ List.replicate 153 0 := by
          rw [show kind % 256 = kind by omega, show ((body.length : Int) / 256) % 256 = (body.length : Int) / 256 by omega]
          rfl
        rw [e]
        have e2 : Copy.lay ([kind, (body.length : Int) / 256, (body.length : Int) % 256] ++ List.replicate 153 0) 3 (body.take (([kind, (body.length : Int) / 256, (body.length : Int) % 256] ++ List.replicate 153 (0 : Int)).length - 3)) = sealHead kind body := by
          rw [List.take_of_length_le (by simp; omega), Copy.lay_eq _ _ _ (by simp; omega)]
          unfold sealHead
          rw [show ([kind, (body.length : Int) / 256, (body.length : Int) % 256] ++ List.replicate 153 (0 : Int)).take 3 = [kind, (body.length : Int) / 256, (body.length : Int) % 256] from rfl, List.drop_append, List.drop_eq_nil_of_le (by simp only [List.length_cons, List.length_nil]; omega), List.nil_append, List.drop_replicate]
          simp only [List.length_cons, List.length_nil]
          rw [show 153 - (3 + body.length - (0 + 1 + 1 + 1)) = 153 - body.length by omega]
        rw [e2]
        refine Ev.bind (sum_f _ (head_bytes kind body (by omega) (by omega) hb hl3) (by rw [head_len _ _ hl3]; decide)) (ev_bind0 (ev_pos (by rw [head_len _ _ hl3]; simp only [List.length_cons, List.length_nil]; omega) (ev_some rfl)))
theorem word4 (a b c d : Int) (a0 : 0 ≤ a) (a1 : a ≤ 255) (b0 : 0 ≤ b) (b1 : b ≤ 255) (c0 : 0 ≤ c) (c1 : c ≤ 255) (d0 : 0 ≤ d) (d1 : d ≤ 255) :
    Go.bits .or .i64 (Go.bits .or .i64 (Go.bits .or .i64 (wrap64 ((wrap64 a) * 16777216)) (wrap64 ((wrap64 b) * 65536))) (wrap64 ((wrap64 c) * 256))) (wrap64 d) = a * 16777216 + b * 65536 + c * 256 + d := by
  rw [wrap_in (x := a) (by omega) (by omega), wrap_in (x := b) (by omega) (by omega), wrap_in (x := c) (by omega) (by omega), wrap_in (x := d) (by omega) (by omega),
    wrap_in (x := a * 16777216) (by omega) (by omega), wrap_in (x := b * 65536) (by omega) (by omega), wrap_in (x := c * 256) (by omega) (by omega)]
  rw [or24 (a * 16777216) (b * 65536) (by omega) (by omega) (by omega) (by omega) (by omega), or16 (a * 16777216 + b * 65536) (c * 256) (by omega) (by omega) (by omega) (by omega) (by omega), or8 (a * 16777216 + b * 65536 + c * 256) d (by omega) (by omega) (by omega) (by omega) (by omega)]
theorem word2 (a b : Int) (a0 : 0 ≤ a) (a1 : a ≤ 255) (b0 : 0 ≤ b) (b1 : b ≤ 255) : Go.bits .or .i64 (wrap64 ((wrap64 a) * 256)) (wrap64 b) = a * 256 + b := by
  rw [wrap_in (x := a) (by omega) (by omega), wrap_in (x := b) (by omega) (by omega), wrap_in (x := a * 256) (by omega) (by omega)]
  rw [or8 _ _ (by omega) (by omega) (by omega) (by omega) (by omega)]
theorem be4_word (n : Int) (h0 : 0 ≤ n) (h1 : n < 4294967296) : (n / 16777216) % 256 * 16777216 + (n / 65536) % 256 * 65536 + (n / 256) % 256 * 256 + n % 256 = n := by omega
def bodyOf (l : List Int) : List Int := (l.drop 3).take (min (rd l 1 * 256 + rd l 2) 153).toNat
def openB (l : List Int) : Int × List Int × Int :=
  if l.length = 160 then
    if sumFrom 1 (l.take 156) = rd l 156 * 16777216 + rd l 157 * 65536 + rd l 158 * 256 + rd l 159 then
      if okSeal (rd l 0) (bodyOf l) = true ∧ sealB (rd l 0) (bodyOf l) = l then (rd l 0, bodyOf l, 0) else (0, [], 2)
    else (0, [], 3)
  else (0, [], 2)
theorem body_bytes (l : List Int) (hb : isBytes l) : isBytes (bodyOf l) := bytes_take _ (bytes_drop _ hb)
theorem rd_b (l : List Int) (hb : isBytes l) (n : Nat) : 0 ≤ rd l (n : Int) ∧ rd l (n : Int) ≤ 255 := bytes_rd n hb
theorem open_f (l : List Int) (hb : isBytes l) (hl : l.length < 4611686018427387904) : Ev (fun k => mark_Open.f k l) (openB l) := by
  unfold mark_Open.f openB
  by_cases h : l.length = 160
  · rw [if_pos h]
    have b0 : 0 ≤ rd l 0 ∧ rd l 0 ≤ 255 := rd_b l hb 0
    have b1 : 0 ≤ rd l 1 ∧ rd l 1 ≤ 255 := rd_b l hb 1
    have b2 : 0 ≤ rd l 2 ∧ rd l 2 ≤ 255 := rd_b l hb 2
    have b6 : 0 ≤ rd l 156 ∧ rd l 156 ≤ 255 := rd_b l hb 156
    have b7 : 0 ≤ rd l 157 ∧ rd l 157 ≤ 255 := rd_b l hb 157
    have b8 : 0 ≤ rd l 158 ∧ rd l 158 ≤ 255 := rd_b l hb 158
    have b9 : 0 ≤ rd l 159 ∧ rd l 159 ≤ 255 := rd_b l hb 159
    refine ev_pos (by omega) (ev_pos (by omega) (ev_pos (by omega) (ev_pos (by omega) (ev_pos (by omega) (ev_pos (by omega) (Ev.bind (sum_f _ (bytes_take _ hb) (by rw [List.length_take]; omega)) ?_))))))
    have w4 := word4 (rd l 156) (rd l 157) (rd l 158) (rd l 159) b6.1 b6.2 b7.1 b7.2 b8.1 b8.2 b9.1 b9.2
    have w2 := word2 (rd l 1) (rd l 2) b1.1 b1.2 b2.1 b2.2
    rw [w4, w2]
    by_cases hs : sumFrom 1 (l.take 156) = rd l 156 * 16777216 + rd l 157 * 65536 + rd l 158 * 256 + rd l 159
    · rw [if_pos hs]
      have hm : mn (rd l 1 * 256 + rd l 2) 153 = min (rd l 1 * 256 + rd l 2) 153 := by unfold mn; split <;> omega
      obtain ⟨n, hn⟩ : ∃ n : Nat, min (rd l 1 * 256 + rd l 2) 153 = (n : Int) := ⟨(min (rd l 1 * 256 + rd l 2) 153).toNat, by have := b1.1; have := b2.1; omega⟩
      have hn153 : n ≤ 153 := by omega
      rw [hm, hn, wrap_in (x := 3 + (n : Int)) (by omega) (by omega)]
      have hbody : (l.take (3 + (n : Int)).toNat).drop 3 = bodyOf l := by
        unfold bodyOf; rw [hn, Int.toNat_natCast, show (3 + (n : Int)).toNat = 3 + n by omega, List.drop_take, show 3 + n - 3 = n by omega]
      rw [hbody]
      have hbl : (bodyOf l).length < 140737488355328 := by unfold bodyOf; rw [List.length_take, List.length_drop]; omega
      refine ev_pos hs (ev_pos (by omega) (ev_pos (by omega) (ev_pos (by omega) (ev_pos (by omega) (ev_pos (by omega) (ev_bind1 (clone_f _ hbl) ?_))))))
      rw [wrap_in (x := rd l 0) (by omega) (by omega)]
      have hsl := seal_f (rd l 0) (bodyOf l) (body_bytes l hb) (by omega)
      by_cases ok : okSeal (rd l 0) (bodyOf l) = true
      · rw [if_pos ok] at hsl
        have ok3 : (bodyOf l).length ≤ 153 := (of_decide_eq_true ok).2.2
        refine Ev.bind hsl (ev_pos rfl (Ev.bind (equal_f _ _ (by rw [seal_len _ _ ok3]; decide)) ?_))
        by_cases e : sealB (rd l 0) (bodyOf l) = l
        · exact ev_eq (r := (rd l 0, bodyOf l, 0)) (ev_pos (by simp [e]) (ev_some rfl)) (if_pos ⟨ok, e⟩).symm
        · exact ev_eq (r := (0, [], 2)) (ev_neg (by simp [e]) (ev_some rfl)) (if_neg (fun q => e q.2)).symm
      · rw [if_neg ok] at hsl
        exact ev_eq (r := (0, [], 2)) (Ev.bind hsl (ev_neg (by decide) (ev_some rfl))) (if_neg (fun q => ok q.1)).symm
    · rw [if_neg hs]
      exact ev_neg hs (ev_some rfl)
  · rw [if_neg h]
    exact ev_neg (by omega) (ev_some rfl)
theorem known_f : Ev (fun k => corbellaw6_known.f k) true := Ev.of (fun k => corbellaw6_known.mono k) (k := 200) (by kernel_rfl)

/-! a sum goes on; two that change places -/
theorem sumFrom_app (h : Int) (a b : List Int) : sumFrom h (a ++ b) = sumFrom (sumFrom h a) b := by unfold sumFrom; rw [List.foldl_append]
theorem stepS_inj (h g c : Int) (h0 : 0 ≤ h) (h1 : h < 4294967291) (g0 : 0 ≤ g) (g1 : g < 4294967291) (e : stepS h c = stepS g c) : h = g := by
  unfold stepS at e
  generalize c * c = s at e
  obtain ⟨q, hq⟩ := Int.dvd_of_emod_eq_zero (Int.emod_eq_emod_iff_emod_sub_eq_zero.1 e)
  omega
theorem sumFrom_inj : ∀ (l : List Int) (h g : Int), 0 ≤ h → h < 4294967291 → 0 ≤ g → g < 4294967291 → sumFrom h l = sumFrom g l → h = g
  | [], h, g, _, _, _, _, e => e
  | c :: l, h, g, h0, h1, g0, g1, e =>
    stepS_inj h g c h0 h1 g0 g1 (sumFrom_inj l _ _ (stepS_bd _ _).1 (stepS_bd _ _).2 (stepS_bd _ _).1 (stepS_bd _ _).2 e)
theorem sq_inj (a b : Int) (a0 : 0 ≤ a) (b0 : 0 ≤ b) (e : a * a = b * b) : a = b := by
  rcases Int.lt_trichotomy a b with h | h | h
  · have := Int.mul_lt_mul' (Int.le_of_lt h) h a0 (by omega)
    omega
  · exact h
  · have := Int.mul_lt_mul' (Int.le_of_lt h) h b0 (by omega)
    omega
theorem swap_step (h a b : Int) (a0 : 0 ≤ a) (a1 : a ≤ 255) (b0 : 0 ≤ b) (b1 : b ≤ 255) (e : stepS (stepS h a) b = stepS (stepS h b) a) : a = b := by
  unfold stepS at e
  have qa := sq_bd a a0 a1
  have qb := sq_bd b b0 b1
  have hs : a * a = b * b := by
    generalize a * a = s at e qa ⊢
    generalize b * b = t at e qb ⊢
    obtain ⟨q, hq⟩ := Int.dvd_of_emod_eq_zero (Int.emod_eq_emod_iff_emod_sub_eq_zero.1 e)
    rw [Int.emod_def (h * 31 + s + 7), Int.emod_def (h * 31 + t + 7)] at hq
    generalize (h * 31 + s + 7) / 4294967291 = m at hq
    generalize (h * 31 + t + 7) / 4294967291 = m' at hq
    clear e
    have hz : 4294967291 * q + 31 * (4294967291 * m) - 31 * (4294967291 * m') = 4294967291 * (q + 31 * m - 31 * m') := by omega
    generalize q + 31 * m - 31 * m' = z at hz
    generalize 4294967291 * m = u at hq hz
    generalize 4294967291 * m' = v at hq hz
    generalize 4294967291 * q = w at hq hz
    have h30 : 30 * (s - t) = w + 31 * u - 31 * v := by omega
    rw [hz] at h30
    clear hq hz
    omega
  exact sq_inj a b a0 b0 hs
theorem swap_set (l : List Int) (n : Nat) (h : n + 1 < l.length) : (l.set n (rd l ((n + 1 : Nat) : Int))).set (n + 1) (rd l (n : Int)) = l.take n ++ [rd l ((n + 1 : Nat) : Int), rd l (n : Int)] ++ l.drop (n + 2) := by
  apply ext_rd
  · simp; omega
  · intro i hi
    have hil : i < l.length := by simpa using hi
    rw [rd_set _ _ _ _ (by rw [List.length_set]; exact hil), rd_set _ _ _ _ hil]
    have e3 : (l.take n ++ [rd l ((n + 1 : Nat) : Int), rd l (n : Int)]).length = n + 2 := by simp; omega
    by_cases h1 : n + 1 = i
    · subst h1
      rw [if_pos rfl, rd_app_l _ _ _ (by omega), rd_app_r _ _ _ (by rw [List.length_take]; omega) (by rw [List.length_take]; simp; omega), List.length_take]
      rw [show n + 1 - min n l.length = 1 by omega]; rfl
    · rw [if_neg h1]
      by_cases h2 : n = i
      · subst h2
        rw [if_pos rfl, rd_app_l _ _ _ (by omega), rd_app_r _ _ _ (by rw [List.length_take]; omega) (by rw [List.length_take]; simp; omega), List.length_take]
        rw [show n - min n l.length = 0 by omega]; rfl
      · rw [if_neg h2]
        by_cases h3 : i < n
        · rw [rd_app_l _ _ _ (by omega), rd_app_l _ _ _ (by rw [List.length_take]; omega), rd_take _ _ _ h3]
        · rw [rd_app_r _ _ _ (by omega) (by rw [e3, List.length_drop]; omega), e3, rd_drop, show n + 2 + (i - (n + 2)) = i by omega]
theorem swap_sum (l : List Int) (hb : isBytes l) (n : Nat) (h : n + 1 < l.length) :
    (sumFrom 1 ((l.set n (rd l ((n + 1 : Nat) : Int))).set (n + 1) (rd l (n : Int))) == sumFrom 1 l) = (rd l (n : Int) == rd l ((n + 1 : Nat) : Int)) := by
  have a := bytes_rd n hb
  have b := bytes_rd (n + 1) hb
  have e1 : l = l.take n ++ [rd l (n : Int), rd l ((n + 1 : Nat) : Int)] ++ l.drop (n + 2) := by
    have h1 := drop_rd l n (by omega)
    have h2 := drop_rd l (n + 1) h
    rw [h2] at h1
    have h3 := List.take_append_drop n l
    rw [h1] at h3
    rw [List.append_assoc]
    exact h3.symm
  rw [swap_set l n h]
  have e2 : sumFrom 1 l = sumFrom 1 (l.take n ++ [rd l (n : Int), rd l ((n + 1 : Nat) : Int)] ++ l.drop (n + 2)) := congrArg _ e1
  rw [e2, sumFrom_app, sumFrom_app, sumFrom_app, sumFrom_app]
  generalize sumFrom 1 (l.take n) = s
  generalize rd l (n : Int) = x at a ⊢
  generalize rd l ((n + 1 : Nat) : Int) = y at b ⊢
  show (sumFrom (stepS (stepS s y) x) _ == sumFrom (stepS (stepS s x) y) _) = _
  rw [Bool.eq_iff_iff]
  simp only [beq_iff_eq]
  constructor
  · intro e
    exact swap_step s x y a.1 a.2 b.1 b.2 (sumFrom_inj _ _ _ (stepS_bd _ _).1 (stepS_bd _ _).2 (stepS_bd _ _).1 (stepS_bd _ _).2 e).symm
  · intro e; rw [e]

theorem few_f (l : List Int) (n : Nat) (hl : l.length < 140737488355328) (hn : n < 4611686018427387904) : corbelhand_Few.f l (n : Int) = some (l.take n) := by
  unfold corbelhand_Few.f
  have hm : mn (l.length : Int) (n : Int) = ((min l.length n : Nat) : Int) := by unfold mn; split <;> omega
  rw [hm]
  simp only [Option.bind_some, Int.toNat_natCast, List.length_nil, Nat.zero_add, List.nil_append]
  have e : l.take (min l.length n) = l.take n := by
    by_cases h : n ≤ l.length
    · rw [Nat.min_eq_right h]
    · rw [Nat.min_eq_left (by omega), List.take_length, List.take_of_length_le (by omega)]
  rw [if_pos (by omega), if_pos (by omega), e, if_pos (by rw [List.length_take]; omega)]

theorem seal_take (kind : Int) (body : List Int) (h : body.length ≤ 153) : (sealB kind body).take 156 = sealHead kind body := by
  unfold sealB; rw [List.take_append_of_le_length (by rw [head_len kind body h]; omega), List.take_of_length_le (by rw [head_len kind body h]; omega)]
theorem rd_head (kind : Int) (body : List Int) (h : body.length ≤ 153) (i : Nat) (hi : i < 156) : rd (sealB kind body) (i : Int) = rd (sealHead kind body) (i : Int) := by
  unfold sealB; exact rd_app_l _ _ _ (by rw [head_len kind body h]; exact hi)
theorem rd_tail (kind : Int) (body : List Int) (h : body.length ≤ 153) (i : Nat) (hi : i < 4) : rd (sealB kind body) ((156 + i : Nat) : Int) = rd (be4 (sumFrom 1 (sealHead kind body))) (i : Int) := by
  unfold sealB
  rw [rd_app_r _ _ _ (by rw [head_len kind body h]; omega) (by rw [head_len kind body h]; show 156 + i < 156 + 4; omega), head_len kind body h, show 156 + i - 156 = i by omega]
theorem seal_rd0 (kind : Int) (body : List Int) (h : body.length ≤ 153) : rd (sealB kind body) 0 = kind := (rd_head kind body h 0 (by decide)).trans rfl
theorem seal_rd1 (kind : Int) (body : List Int) (h : body.length ≤ 153) : rd (sealB kind body) 1 = (body.length : Int) / 256 := (rd_head kind body h 1 (by decide)).trans rfl
theorem seal_rd2 (kind : Int) (body : List Int) (h : body.length ≤ 153) : rd (sealB kind body) 2 = (body.length : Int) % 256 := (rd_head kind body h 2 (by decide)).trans rfl
theorem seal_word (kind : Int) (body : List Int) (h : body.length ≤ 153) : rd (sealB kind body) 156 * 16777216 + rd (sealB kind body) 157 * 65536 + rd (sealB kind body) 158 * 256 + rd (sealB kind body) 159 = sumFrom 1 (sealHead kind body) := by
  have b := sum_bd (sealHead kind body)
  have e0 : rd (sealB kind body) 156 = (sumFrom 1 (sealHead kind body) / 16777216) % 256 := (rd_tail kind body h 0 (by decide)).trans rfl
  have e1 : rd (sealB kind body) 157 = (sumFrom 1 (sealHead kind body) / 65536) % 256 := (rd_tail kind body h 1 (by decide)).trans rfl
  have e2 : rd (sealB kind body) 158 = (sumFrom 1 (sealHead kind body) / 256) % 256 := (rd_tail kind body h 2 (by decide)).trans rfl
  have e3 : rd (sealB kind body) 159 = sumFrom 1 (sealHead kind body) % 256 := (rd_tail kind body h 3 (by decide)).trans rfl
  rw [e0, e1, e2, e3]
  exact be4_word _ b.1 (by omega)
theorem seal_body (kind : Int) (body : List Int) (h : body.length ≤ 153) : bodyOf (sealB kind body) = body := by
  unfold bodyOf
  rw [seal_rd1 kind body h, seal_rd2 kind body h, show min ((body.length : Int) / 256 * 256 + (body.length : Int) % 256) 153 = (body.length : Int) by omega, Int.toNat_natCast]
  unfold sealB sealHead
  show List.take body.length (List.drop 3 (kind :: ((body.length : Int) / 256) :: ((body.length : Int) % 256) :: (body ++ List.replicate (153 - body.length) 0 ++ _))) = body
  simp
theorem open_seal (kind : Int) (body : List Int) (ok : okSeal kind body = true) : openB (sealB kind body) = (kind, body, 0) := by
  have o := of_decide_eq_true ok
  unfold openB
  rw [if_pos (seal_len kind body o.2.2), seal_take kind body o.2.2, seal_word kind body o.2.2, if_pos rfl, seal_rd0 kind body o.2.2, seal_body kind body o.2.2, if_pos ⟨ok, rfl⟩]
theorem head_inj (k1 k2 : Int) (b1 b2 : List Int) (h1 : b1.length ≤ 153) (h2 : b2.length ≤ 153) (e : sealB k1 b1 = sealB k2 b2) : k1 = k2 ∧ b1 = b2 := by
  have e1 := seal_rd0 k1 b1 h1
  have e2 := seal_body k1 b1 h1
  rw [e, seal_rd0 k2 b2 h2] at e1
  rw [e, seal_body k2 b2 h2] at e2
  exact ⟨e1.symm, e2.symm⟩

theorem sum_turn (a b c : List Int) (x y : Int) (x0 : 0 ≤ x) (x1 : x ≤ 255) (y0 : 0 ≤ y) (y1 : y ≤ 255) (e : sumFrom 1 (a ++ x :: b) = sumFrom 1 (a ++ y :: b)) : x = y := by
  rw [sumFrom_app, sumFrom_app] at e
  have e2 := sumFrom_inj b _ _ (stepS_bd (sumFrom 1 a) x).1 (stepS_bd _ _).2 (stepS_bd (sumFrom 1 a) y).1 (stepS_bd _ _).2 e
  generalize sumFrom 1 a = s at e2
  unfold stepS at e2
  apply sq_inj x y x0 y0
  have qx := sq_bd x x0 x1
  have qy := sq_bd y y0 y1
  generalize x * x = u at e2 qx ⊢
  generalize y * y = v at e2 qy ⊢
  obtain ⟨q, hq⟩ := Int.dvd_of_emod_eq_zero (Int.emod_eq_emod_iff_emod_sub_eq_zero.1 e2)
  clear e2 e
  omega
theorem set_split (l : List Int) (n : Nat) (v : Int) (h : n < l.length) : l.set n v = l.take n ++ v :: l.drop (n + 1) := by
  rw [List.set_eq_take_append_cons_drop, if_pos h]
theorem self_split (l : List Int) (n : Nat) (h : n < l.length) : l = l.take n ++ rd l (n : Int) :: l.drop (n + 1) := by
  have h3 := List.take_append_drop n l
  rw [drop_rd l n h] at h3
  exact h3.symm
/-- a block with one byte turned: its mark does not fit -/
theorem turned (l : List Int) (hb : isBytes l) (hl : l.length = 160) (hs : sumFrom 1 (l.take 156) = rd l 156 * 16777216 + rd l 157 * 65536 + rd l 158 * 256 + rd l 159) (n : Nat) (hn : n < 160) (v : Int) (v0 : 0 ≤ v) (v1 : v ≤ 255) (hv : v ≠ rd l (n : Int)) :
    openB (l.set n v) = (0, [], 3) := by
  unfold openB
  rw [if_pos (by rw [List.length_set]; exact hl)]
  rw [if_neg]
  intro e
  have r6 : rd (l.set n v) ((156 : Nat) : Int) = if n = 156 then v else rd l ((156 : Nat) : Int) := rd_set l n 156 v (by omega)
  have r7 : rd (l.set n v) ((157 : Nat) : Int) = if n = 157 then v else rd l ((157 : Nat) : Int) := rd_set l n 157 v (by omega)
  have r8 : rd (l.set n v) ((158 : Nat) : Int) = if n = 158 then v else rd l ((158 : Nat) : Int) := rd_set l n 158 v (by omega)
  have r9 : rd (l.set n v) ((159 : Nat) : Int) = if n = 159 then v else rd l ((159 : Nat) : Int) := rd_set l n 159 v (by omega)
  have r6' : rd (l.set n v) 156 = if n = 156 then v else rd l 156 := r6
  have r7' : rd (l.set n v) 157 = if n = 157 then v else rd l 157 := r7
  have r8' : rd (l.set n v) 158 = if n = 158 then v else rd l 158 := r8
  have r9' : rd (l.set n v) 159 = if n = 159 then v else rd l 159 := r9
  by_cases hp : n < 156
  · rw [r6', r7', r8', r9', if_neg (by omega), if_neg (by omega), if_neg (by omega), if_neg (by omega), ← hs, List.take_set] at e
    have ht : n < (l.take 156).length := by rw [List.length_take]; omega
    rw [set_split _ n v ht] at e
    have hself := self_split (l.take 156) n ht
    rw [rd_take l 156 n hp] at hself
    have e2 : sumFrom 1 (l.take 156) = sumFrom 1 ((l.take 156).take n ++ rd l (n : Int) :: (l.take 156).drop (n + 1)) := congrArg _ hself
    rw [e2] at e
    exact hv (sum_turn _ _ [] v (rd l (n : Int)) v0 v1 (bytes_rd n hb).1 (bytes_rd n hb).2 e)
  · have ht : (l.set n v).take 156 = l.take 156 := by
      rw [List.take_set, List.set_eq_of_length_le (by rw [List.length_take]; omega)]
    rw [ht, hs, r6', r7', r8', r9'] at e
    have b6 : 0 ≤ rd l 156 ∧ rd l 156 ≤ 255 := rd_b l hb 156
    have b7 : 0 ≤ rd l 157 ∧ rd l 157 ≤ 255 := rd_b l hb 157
    have b8 : 0 ≤ rd l 158 ∧ rd l 158 ≤ 255 := rd_b l hb 158
    have b9 : 0 ≤ rd l 159 ∧ rd l 159 ≤ 255 := rd_b l hb 159
    have hc : n = 156 ∨ n = 157 ∨ n = 158 ∨ n = 159 := by omega
    rcases hc with q | q | q | q
    · subst q
      have hv' : v ≠ rd l 156 := hv
      rw [if_pos rfl, if_neg (by decide), if_neg (by decide), if_neg (by decide)] at e
      omega
    · subst q
      have hv' : v ≠ rd l 157 := hv
      rw [if_neg (by decide), if_pos rfl, if_neg (by decide), if_neg (by decide)] at e
      omega
    · subst q
      have hv' : v ≠ rd l 158 := hv
      rw [if_neg (by decide), if_neg (by decide), if_pos rfl, if_neg (by decide)] at e
      omega
    · subst q
      have hv' : v ≠ rd l 159 := hv
      rw [if_neg (by decide), if_neg (by decide), if_neg (by decide), if_pos rfl] at e
      omega
theorem turns_j1 (kind : Int) (body : List Int) (ok : okSeal kind body = true) (hb : isBytes body) (at_ by_ : Int) (b0 : 0 ≤ by_) (b1 : by_ ≤ 255) :
    Ev (fun k => corbellaw6_MarkTurns.j1 k at_ by_ (sealB kind body) false) true := by
  have o := of_decide_eq_true ok
  have hl := seal_len kind body o.2.2
  have hsb := seal_bytes kind body (by omega) o.2.1 hb o.2.2
  refine Ev.step (fun _ => corbellaw6_MarkTurns.j1.eq_2 ..) (ev_neg (by simp) (ev_bind1 (pick_f at_ 160 (by omega) (by omega)) ?_))
  have p0 := pick_nn at_ 160 (by omega)
  have p1 := pick_lt at_ 160 (by omega)
  obtain ⟨n, hn⟩ : ∃ n : Nat, at_ % 160 = (n : Int) := ⟨(at_ % 160).toNat, by omega⟩
  rw [hn] at p0 p1 ⊢
  refine ev_pos (by omega) (ev_pos (by omega) ?_)
  simp only [Int.toNat_natCast]
  have rb := bytes_rd n hsb
  have x := xor8 (rd (sealB kind body) (n : Int)) by_ rb.1 (by omega) b0 (by omega)
  have hset := bytes_set n _ hsb x.1 (by omega)
  refine Ev.bind (open_f _ hset (by rw [List.length_set, hl]; decide)) ?_
  by_cases hz : by_ = 0
  · have e : (sealB kind body).set n (Go.bits .xor .u8 (rd (sealB kind body) (n : Int)) by_) = sealB kind body := by
      rw [x.2.2.2 hz, rd_nat _ _ (by omega), List.set_getElem_self]
    rw [e, open_seal kind body ok]
    exact ev_pos (by simp [hz]) (ev_pos rfl (Ev.now _))
  · have ht := turned (sealB kind body) hsb hl (by rw [seal_take _ _ o.2.2, seal_word _ _ o.2.2]) n (by omega) _ x.1 (by omega) (fun q => hz (x.2.2.1 q))
    rw [ht]
    exact ev_pos (by simp [hz]) (ev_neg (by decide) (ev_some rfl))
theorem MarkTurns : corbellaw6_MarkTurns.Pure := by
  intro k1 k2 b1 b2 at_ by_ wk1 wk2 l1 l1' w1 l2 l2' w2 wa wb
  refine Ev.rounds ?_
  unfold corbellaw6_MarkTurns.f
  have h1 := bytes_wf w1
  have h2 := bytes_wf w2
  have hy := wf_u8 wb
  refine ev_bind1 (pick_f k1 255 (by omega) (by omega)) (ev_bind1 (pick_f k2 255 (by omega) (by omega)) (ev_bind1 (few_f b1 153 (by omega) (by omega)) (ev_bind1 (few_f b2 153 (by omega) (by omega)) ?_)))
  have p0 := pick_nn k1 255 (by omega)
  have p1 := pick_lt k1 255 (by omega)
  have q0 := pick_nn k2 255 (by omega)
  have q1 := pick_lt k2 255 (by omega)
  rw [wrap_in (x := 1 + k1 % 255) (by omega) (by omega), wrap_in (x := 1 + k2 % 255) (by omega) (by omega)]
  have t1 : (b1.take 153).length ≤ 153 := by rw [List.length_take]; omega
  have t2 : (b2.take 153).length ≤ 153 := by rw [List.length_take]; omega
  have y1 := bytes_take 153 h1
  have y2 := bytes_take 153 h2
  generalize b1.take 153 = c1 at t1 y1
  generalize b2.take 153 = c2 at t2 y2
  have ok1 : okSeal (1 + k1 % 255) c1 = true := by unfold okSeal; simp; omega
  have ok2 : okSeal (1 + k2 % 255) c2 = true := by unfold okSeal; simp; omega
  have s1 := seal_f (1 + k1 % 255) c1 y1 (by omega)
  have s2 := seal_f (1 + k2 % 255) c2 y2 (by omega)
  rw [if_pos ok1] at s1
  rw [if_pos ok2] at s2
  generalize 1 + k1 % 255 = m1 at p0 p1 ok1 s1
  generalize 1 + k2 % 255 = m2 at q0 q1 ok2 s2
  have o1 := of_decide_eq_true ok1
  have o2 := of_decide_eq_true ok2
  have x1 := seal_bytes m1 c1 (by omega) o1.2.1 y1 t1
  have x2 := seal_bytes m2 c2 (by omega) o2.2.1 y2 t2
  refine Ev.bind s1 (Ev.bind s2 (Ev.bind known_f (ev_pos rfl (ev_pos rfl (ev_pos rfl (Ev.step (fun _ => corbellaw6_MarkTurns.j0.eq_2 ..) (ev_neg (by rw [seal_len _ _ t1]; decide) (Ev.bind (open_f _ x1 (by rw [seal_len _ _ t1]; decide)) ?_))))))))
  rw [open_seal _ _ ok1]
  refine ev_pos rfl (ev_pos rfl (ev_pos rfl ?_))
  rw [str_beq x1 x2, str_beq y1 y2]
  have go := turns_j1 m1 c1 ok1 y1 at_ by_ hy.1 hy.2
  by_cases hm : m1 = m2
  · refine ev_pos hm ?_
    subst hm
    have e : (decide (sealB m1 c1 = sealB m1 c2) != decide (c1 = c2)) = false := by
      by_cases hc : c1 = c2
      · simp [hc]
      · have : ¬ sealB m1 c1 = sealB m1 c2 := fun q => hc (head_inj _ _ _ _ t1 t2 q).2
        simp [hc, this]
    rw [e]; exact go
  · refine ev_neg hm ?_
    have e : (decide (sealB m1 c1 = sealB m2 c2) != false) = false := by
      have : ¬ sealB m1 c1 = sealB m2 c2 := fun q => hm (head_inj _ _ _ _ t1 t2 q).1
      simp [this]
    rw [e]; exact go

end Go.Proofs.Ytbegaeohggkblaa.Pure
