/- The pure statement of MarkSizes: what the printed functions answer. No condition beyond its own. -/
import Derived.Test.YtbegaeohggkblaaPMarkSizesx4
import Derived.Test.YtbegaeohggkblaaKit
import Derived.Test.YtbegaeohggkblaaCopy
namespace Go.Proofs.Ytbegaeohggkblaa.Pure
open Go.RowKit Go.Proofs.Ytbegaeohggkblaa.PMarkSizes Go.Proofs.YtbegaeohggkblaaW.PrintWords Go.Proofs.YtbegaeohggkblaaW.PrintLast Go.Proofs.YtbegaeohggkblaaW.PrintMore Go.Proofs.Ytbegaeohggkblaa.Kit
set_option linter.unusedVariables false
set_option linter.unusedSimpArgs false

theorem pick_f (n m : Int) (h0 : 0 < m) (h1 : m ≤ 4611686018427387904) : corbelhand_Pick.f n m = some (n % m) := by
  unfold corbelhand_Pick.f
  rw [if_neg (by omega)]
  have e := Int.tmod_eq_emod (a := n) (b := m)
  have b1 := Int.emod_nonneg n (show m ≠ 0 by omega)
  have b2 := Int.emod_lt_of_pos n h0
  have hm : (m.natAbs : Int) = m := by omega
  by_cases hc : 0 ≤ n ∨ m ∣ n
  · rw [if_pos hc] at e
    rw [if_neg (by omega), e]; congr 1; omega
  · rw [if_neg hc, hm] at e
    have hne : n % m ≠ 0 := fun q => hc (.inr (Int.dvd_of_emod_eq_zero q))
    rw [if_pos (by omega), wrap_in (by omega) (by omega), e]; congr 1; omega
theorem pick_nn (n m : Int) (h0 : 0 < m) : 0 ≤ n % m := Int.emod_nonneg n (by omega)
theorem pick_lt (n m : Int) (h0 : 0 < m) : n % m < m := Int.emod_lt_of_pos n h0

/-! chapter 6: sums, blocks -/
def stepS (h c : Int) : Int := (h * 31 + c * c + 7) % 4294967291
def sumFrom (h : Int) (l : List Int) : Int := l.foldl stepS h
theorem stepS_bd (h c : Int) : 0 ≤ stepS h c ∧ stepS h c < 4294967291 := by unfold stepS; omega
theorem sumFrom_bd : ∀ (l : List Int) (h : Int), 0 ≤ h → h < 4294967291 → 0 ≤ sumFrom h l ∧ sumFrom h l < 4294967291
  | [], h, h0, h1 => ⟨h0, h1⟩
  | c :: l, h, _, _ => sumFrom_bd l (stepS h c) (stepS_bd h c).1 (stepS_bd h c).2
theorem sum_bd (l : List Int) : 0 ≤ sumFrom 1 l ∧ sumFrom 1 l < 4294967291 := sumFrom_bd l 1 (by decide) (by decide)
theorem sq_bd (c : Int) (h0 : 0 ≤ c) (h1 : c ≤ 255) : 0 ≤ c * c ∧ c * c ≤ 65025 :=
  ⟨Int.mul_nonneg h0 h0, Int.le_trans (Int.mul_le_mul h1 h1 h0 (by decide)) (by decide)⟩
theorem step_eq (h c : Int) (h0 : 0 ≤ h) (h1 : h < 4294967291) (c0 : 0 ≤ c) (c1 : c ≤ 255) :
    Int.tmod (wrap64 ((wrap64 ((wrap64 (h * 31)) + (wrap64 ((wrap64 c) * (wrap64 c))))) + 7)) 4294967291 = stepS h c := by
  have q := sq_bd c c0 c1
  rw [wrap_in (x := c) (by omega) (by omega)]
  unfold stepS
  generalize c * c = s at q ⊢
  rw [wrap_in (x := s) (by omega) (by omega), wrap_in (x := h * 31) (by omega) (by omega), wrap_in (x := h * 31 + s) (by omega) (by omega), wrap_in (by omega) (by omega), tmod_nn (by omega)]
theorem sum_l0 (xs : List Int) (hb : isBytes xs) (hl : xs.length < 4611686018427387904) : ∀ (d i : Nat) (h : Int), xs.length - i = d → i ≤ xs.length → 0 ≤ h → h < 4294967291 →
    Ev (fun k => mark_Sum.l0 k h xs (xs.length : Int) (i : Int)) (sumFrom h (xs.drop i))
  | 0, i, h, hd, hi, h0, h1 => by
    refine Ev.step (fun _ => mark_Sum.l0.eq_2 ..) (ev_neg (by omega) (ev_some ?_))
    rw [List.drop_eq_nil_of_le (by omega)]; rfl
  | d + 1, i, h, hd, hi, h0, h1 => by
    have b := bytes_rd i hb
    refine Ev.step (fun _ => mark_Sum.l0.eq_2 ..) (ev_pos (by omega) (ev_pos (by omega) (ev_pos (by omega) ?_)))
    rw [step_eq h _ h0 h1 b.1 b.2, wrap_succ (by omega), drop_rd xs i (by omega)]
    exact sum_l0 xs hb hl d (i + 1) _ (by omega) (by omega) (stepS_bd _ _).1 (stepS_bd _ _).2
theorem sum_f (xs : List Int) (hb : isBytes xs) (hl : xs.length < 4611686018427387904) : Ev (fun k => mark_Sum.f k xs) (sumFrom 1 xs) := by
  unfold mark_Sum.f
  exact sum_l0 xs hb hl xs.length 0 1 (by omega) (by omega) (by decide) (by decide)
theorem clone_f (xs : List Int) (hl : xs.length < 140737488355328) : slices_Clone_byte_byte.f xs = some xs := by
  unfold slices_Clone_byte_byte.f
  simp only [Option.bind_some, List.length_nil, Nat.zero_add, List.nil_append]
  rw [if_pos hl]
theorem eq_l0 (xs ys : List Int) (hl : xs.length = ys.length) (hb : xs.length < 4611686018427387904) : ∀ (d i : Nat), xs.length - i = d → i ≤ xs.length →
    Ev (fun k => slices_Equal_byte_byte.l0 k xs ys (xs.length : Int) (i : Int)) (decide (xs.drop i = ys.drop i))
  | 0, i, hd, hi => by
    refine Ev.step (fun _ => slices_Equal_byte_byte.l0.eq_2 ..) (ev_neg (by omega) (ev_some ?_))
    rw [List.drop_eq_nil_of_le (by omega), List.drop_eq_nil_of_le (by omega)]; rfl
  | d + 1, i, hd, hi => by
    refine Ev.step (fun _ => slices_Equal_byte_byte.l0.eq_2 ..) (ev_pos (by omega) (ev_pos (by omega) (ev_pos (by omega) (ev_pos (by omega) ?_))))
    rw [drop_rd xs i (by omega), drop_rd ys i (by omega)]
    by_cases h : rd xs (i : Int) = rd ys (i : Int)
    · refine ev_pos h (ev_eq (r := decide (xs.drop (i + 1) = ys.drop (i + 1))) ?_ ?_)
      · rw [wrap_succ (by omega)]; exact eq_l0 xs ys hl hb d (i + 1) (by omega) (by omega)
      · simp [h]
    · exact ev_neg h (ev_some (by simp [h]))
theorem equal_f (xs ys : List Int) (hb : xs.length < 4611686018427387904) : Ev (fun k => slices_Equal_byte_byte.f k xs ys) (decide (xs = ys)) := by
  unfold slices_Equal_byte_byte.f
  by_cases h : xs.length = ys.length
  · exact ev_pos (by omega) (ev_eq (eq_l0 xs ys h hb xs.length 0 (by omega) (by omega)) (by simp))
  · refine ev_neg (by omega) (ev_some ?_)
    symm; rw [decide_eq_false_iff_not]; intro e; exact h (by rw [e])
def be4 (n : Int) : List Int := [(n / 16777216) % 256, (n / 65536) % 256, (n / 256) % 256, n % 256]
theorem be4_bytes (n : Int) : isBytes (be4 n) := by
  unfold be4
  exact bytes_cons (by omega) (by omega) (bytes_cons (by omega) (by omega) (bytes_cons (by omega) (by omega) (bytes_cons (by omega) (by omega) bytes_nil)))
def sealHead (kind : Int) (body : List Int) : List Int := [kind, (body.length : Int) / 256, (body.length : Int) % 256] ++ (body ++ List.replicate (153 - body.length) 0)
theorem head_len (kind : Int) (body : List Int) (h : body.length ≤ 153) : (sealHead kind body).length = 156 := by
  unfold sealHead; simp; omega
theorem head_bytes (kind : Int) (body : List Int) (h0 : 0 ≤ kind) (h1 : kind ≤ 255) (hb : isBytes body) (h : body.length ≤ 153) : isBytes (sealHead kind body) := by
  unfold sealHead
  exact bytes_app (bytes_cons h0 h1 (bytes_cons (by omega) (by omega) (bytes_cons (by omega) (by omega) bytes_nil))) (bytes_app hb (bytes_rep _ _ (by decide) (by decide)))
def sealB (kind : Int) (body : List Int) : List Int := sealHead kind body ++ be4 (sumFrom 1 (sealHead kind body))
theorem seal_len (kind : Int) (body : List Int) (h : body.length ≤ 153) : (sealB kind body).length = 160 := by
  unfold sealB; rw [List.length_append, head_len kind body h]; rfl
theorem seal_bytes (kind : Int) (body : List Int) (h0 : 0 ≤ kind) (h1 : kind ≤ 255) (hb : isBytes body) (h : body.length ≤ 153) : isBytes (sealB kind body) :=
  bytes_app (head_bytes kind body h0 h1 hb h) (be4_bytes _)
def okSeal (kind : Int) (body : List Int) : Bool := decide (1 ≤ kind ∧ kind ≤ 255 ∧ body.length ≤ 153)
theorem seal_f (kind : Int) (body : List Int) (hb : isBytes body) (hl : body.length < 4611686018427387904) :
    Ev (fun k => mark_Seal.f k kind body) (if okSeal kind body then (sealB kind body, 0) else ([], 1)) := by
  unfold mark_Seal.f
  by_cases h1 : kind < 1
  · exact ev_pos h1 (ev_some (by rw [if_neg]; unfold okSeal; simp; omega))
  · refine ev_neg h1 ?_
    by_cases h2 : kind > 255
    · exact ev_pos h2 (ev_some (by rw [if_neg]; unfold okSeal; simp; omega))
    · refine ev_neg h2 ?_
      by_cases h3 : (body.length : Int) > 153
      · exact ev_pos h3 (ev_some (by rw [if_neg]; unfold okSeal; simp; omega))
      · have ok : okSeal kind body = true := by unfold okSeal; simp; omega
        have hl3 : body.length ≤ 153 := by omega
        rw [if_pos ok]
        refine ev_neg h3 (ev_pos (by decide) (ev_bind0 (ev_pos (by rw [List.length_replicate]; decide) (ev_pos (by rw [List.length_replicate]; decide) (ev_pos (by rw [List.length_replicate]; decide) (ev_bind0 (ev_pos (by rw [List.length_replicate]; decide) (ev_bind0 ?_))))))))
        have e : (((List.replicate 156 (0 : Int)).set (0 : Int).toNat (kind % 256)).set (1 : Int).toNat (((body.length : Int) / 256) % 256)).set (2 : Int).toNat ((body.length : Int) % 256) = [kind, (body.length : Int) / 256, (body.length : Int) % 256] ++ List.replicate 153 0 := by
          rw [show kind % 256 = kind by omega, show ((body.length : Int) / 256) % 256 = (body.length : Int) / 256 by omega]
          rfl
        rw [e]
        have e2 : Copy.lay ([kind, (body.length : Int) / 256, (body.length : Int) % 256] ++ List.replicate 153 0) 3 (body.take (([kind, (body.length : Int) / 256, (body.length : Int) % 256] ++ List.replicate 153 (0 : Int)).length - 3)) = sealHead kind body := by
          rw [List.take_of_length_le (by simp; omega), Copy.lay_eq _ _ _ (by simp; omega)]
          unfold sealHead
          rw [show ([kind, (body.length : Int) / 256, (body.length : Int) % 256] ++ List.replicate 153 (0 : Int)).take 3 = [kind, (body.length : Int) / 256, (body.length : Int) % 256] from rfl, List.drop_append, List.drop_eq_nil_of_le (by simp only [List.length_cons, List.length_nil]; omega), List.nil_append, List.drop_replicate]
          simp only [List.length_cons, List.length_nil]
          rw [show 153 - (3 + body.length - (0 + 1 + 1 + 1)) = 153 - body.length by omega]
        rw [e2]
        refine Ev.bind (sum_f _ (head_bytes kind body (by omega) (by omega) hb hl3) (by rw [head_len _ _ hl3]; decide)) (ev_bind0 (ev_pos (by rw [head_len _ _ hl3]; simp only [List.length_cons, List.length_nil]; omega) (ev_some rfl)))
theorem word4 (a b c d : Int) (a0 : 0 ≤ a) (a1 : a ≤ 255) (b0 : 0 ≤ b) (b1 : b ≤ 255) (c0 : 0 ≤ c) (c1 : c ≤ 255) (d0 : 0 ≤ d) (d1 : d ≤ 255) :
    Go.bits .or .i64 (Go.bits .or .i64 (Go.bits .or .i64 (wrap64 ((wrap64 a) * 16777216)) (wrap64 ((wrap64 b) * 65536))) (wrap64 ((wrap64 c) * 256))) (wrap64 d) = a * 16777216 + b * 65536 + c * 256 + d := by
  rw [wrap_in (x := a) (by omega) (by omega), wrap_in (x := b) (by omega) (by omega), wrap_in (x := c) (by omega) (by omega), wrap_in (x := d) (by omega) (by omega),
    wrap_in (x := a * 16777216) (by omega) (by omega), wrap_in (x := b * 65536) (by omega) (by omega), wrap_in (x := c * 256) (by omega) (by omega)]
  rw [or24 (a * 16777216) (b * 65536) (by omega) (by omega) (by omega) (by omega) (by omega), or16 (a * 16777216 + b * 65536) (c * 256) (by omega) (by omega) (by omega) (by omega) (by omega), or8 (a * 16777216 + b * 65536 + c * 256) d (by omega) (by omega) (by omega) (by omega) (by omega)]
theorem word2 (a b : Int) (a0 : 0 ≤ a) (a1 : a ≤ 255) (b0 : 0 ≤ b) (b1 : b ≤ 255) : Go.bits .or .i64 (wrap64 ((wrap64 a) * 256)) (wrap64 b) = a * 256 + b := by
  rw [wrap_in (x := a) (by omega) (by omega), wrap_in (x := b) (by omega) (by omega), wrap_in (x := a * 256) (by omega) (by omega)]
  rw [or8 _ _ (by omega) (by omega) (by omega) (by omega) (by omega)]
theorem be4_word (n : Int) (h0 : 0 ≤ n) (h1 : n < 4294967296) : (n / 16777216) % 256 * 16777216 + (n / 65536) % 256 * 65536 + (n / 256) % 256 * 256 + n % 256 = n := by omega
def bodyOf (l : List Int) : List Int := (l.drop 3).take (min (rd l 1 * 256 + rd l 2) 153).toNat
def openB (l : List Int) : Int × List Int × Int :=
  if l.length = 160 then
    if sumFrom 1 (l.take 156) = rd l 156 * 16777216 + rd l 157 * 65536 + rd l 158 * 256 + rd l 159 then
      if okSeal (rd l 0) (bodyOf l) = true ∧ sealB (rd l 0) (bodyOf l) = l then (rd l 0, bodyOf l, 0) else (0, [], 2)
    else (0, [], 3)
  else (0, [], 2)
theorem body_bytes (l : List Int) (hb : isBytes l) : isBytes (bodyOf l) := bytes_take _ (bytes_drop _ hb)
theorem rd_b (l : List Int) (hb : isBytes l) (n : Nat) : 0 ≤ rd l (n : Int) ∧ rd l (n : Int) ≤ 255 := bytes_rd n hb
theorem open_f (l : List Int) (hb : isBytes l) (hl : l.length < 4611686018427387904) : Ev (fun k => mark_Open.f k l) (openB l) := by
  unfold mark_Open.f openB
  by_cases h : l.length = 160
  · rw [if_pos h]
    have b0 : 0 ≤ rd l 0 ∧ rd l 0 ≤ 255 := rd_b l hb 0
    have b1 : 0 ≤ rd l 1 ∧ rd l 1 ≤ 255 := rd_b l hb 1
    have b2 : 0 ≤ rd l 2 ∧ rd l 2 ≤ 255 := rd_b l hb 2
    have b6 : 0 ≤ rd l 156 ∧ rd l 156 ≤ 255 := rd_b l hb 156
    have b7 : 0 ≤ rd l 157 ∧ rd l 157 ≤ 255 := rd_b l hb 157
    have b8 : 0 ≤ rd l 158 ∧ rd l 158 ≤ 255 := rd_b l hb 158
    have b9 : 0 ≤ rd l 159 ∧ rd l 159 ≤ 255 := rd_b l hb 159
    refine ev_pos (by omega) (ev_pos (by omega) (ev_pos (by omega) (ev_pos (by omega) (ev_pos (by omega) (ev_pos (by omega) (Ev.bind (sum_f _ (bytes_take _ hb) (by rw [List.length_take]; omega)) ?_))))))
    have w4 := word4 (rd l 156) (rd l 157) (rd l 158) (rd l 159) b6.1 b6.2 b7.1 b7.2 b8.1 b8.2 b9.1 b9.2
    have w2 := word2 (rd l 1) (rd l 2) b1.1 b1.2 b2.1 b2.2
    rw [w4, w2]
    by_cases hs : sumFrom 1 (l.take 156) = rd l 156 * 16777216 + rd l 157 * 65536 + rd l 158 * 256 + rd l 159
    · rw [if_pos hs]
      have hm : mn (rd l 1 * 256 + rd l 2) 153 = min (rd l 1 * 256 + rd l 2) 153 := by unfold mn; split <;> omega
      obtain ⟨n, hn⟩ : ∃ n : Nat, min (rd l 1 * 256 + rd l 2) 153 = (n : Int) := ⟨(min (rd l 1 * 256 + rd l 2) 153).toNat, by have := b1.1; have := b2.1; omega⟩
      have hn153 : n ≤ 153 := by omega
      rw [hm, hn, wrap_in (x := 3 + (n : Int)) (by omega) (by omega)]
      have hbody : (l.take (3 + (n : Int)).toNat).drop 3 = bodyOf l := by
        unfold bodyOf; rw [hn, Int.toNat_natCast, show (3 + (n : Int)).toNat = 3 + n by omega, List.drop_take, show 3 + n - 3 = n by omega]
      rw [hbody]
      have hbl : (bodyOf l).length < 140737488355328 := by unfold bodyOf; rw [List.length_take, List.length_drop]; omega
      refine ev_pos hs (ev_pos (by omega) (ev_pos (by omega) (ev_pos (by omega) (ev_pos (by omega) (ev_pos (by omega) (ev_bind1 (clone_f _ hbl) ?_))))))
      rw [wrap_in (x := rd l 0) (by omega) (by omega)]
      have hsl := seal_f (rd l 0) (bodyOf l) (body_bytes l hb) (by omega)
      by_cases ok : okSeal (rd l 0) (bodyOf l) = true
      · rw [if_pos ok] at hsl
        have ok3 : (bodyOf l).length ≤ 153 := (of_decide_eq_true ok).2.2
        refine Ev.bind hsl (ev_pos rfl (Ev.bind (equal_f _ _ (by rw [seal_len _ _ ok3]; decide)) ?_))
        by_cases e : sealB (rd l 0) (bodyOf l) = l
        · exact ev_eq (r := (rd l 0, bodyOf l, 0)) (ev_pos (by simp [e]) (ev_some rfl)) (if_pos ⟨ok, e⟩).symm
        · exact ev_eq (r := (0, [], 2)) (ev_neg (by simp [e]) (ev_some rfl)) (if_neg (fun q => e q.2)).symm
      · rw [if_neg ok] at hsl
        exact ev_eq (r := (0, [], 2)) (Ev.bind hsl (ev_neg (by decide) (ev_some rfl))) (if_neg (fun q => ok q.1)).symm
    · rw [if_neg hs]
      exact ev_neg hs (ev_some rfl)
  · rw [if_neg h]
    exact ev_neg (by omega) (ev_some rfl)
theorem known_f : Ev (fun k => corbellaw6_known.f k) true := Ev.of (fun k => corbellaw6_known.mono k) (k := 200) (by kernel_rfl)

theorem seal_take (kind : Int) (body : List Int) (h : body.length ≤ 153) : (sealB kind body).take 156 = sealHead kind body := by
  unfold sealB; rw [List.take_append_of_le_length (by rw [head_len kind body h]; omega), List.take_of_length_le (by rw [head_len kind body h]; omega)]
theorem rd_head (kind : Int) (body : List Int) (h : body.length ≤ 153) (i : Nat) (hi : i < 156) : rd (sealB kind body) (i : Int) = rd (sealHead kind body) (i : Int) := by
  unfold sealB; exact rd_app_l _ _ _ (by rw [head_len kind body h]; exact hi)
theorem rd_tail (kind : Int) (body : List Int) (h : body.length ≤ 153) (i : Nat) (hi : i < 4) : rd (sealB kind body) ((156 + i : Nat) : Int) = rd (be4 (sumFrom 1 (sealHead kind body))) (i : Int) := by
  unfold sealB
  rw [rd_app_r _ _ _ (by rw [head_len kind body h]; omega) (by rw [head_len kind body h]; show 156 + i < 156 + 4; omega), head_len kind body h, show 156 + i - 156 = i by omega]
theorem seal_rd0 (kind : Int) (body : List Int) (h : body.length ≤ 153) : rd (sealB kind body) 0 = kind := (rd_head kind body h 0 (by decide)).trans rfl
theorem seal_rd1 (kind : Int) (body : List Int) (h : body.length ≤ 153) : rd (sealB kind body) 1 = (body.length : Int) / 256 := (rd_head kind body h 1 (by decide)).trans rfl
theorem seal_rd2 (kind : Int) (body : List Int) (h : body.length ≤ 153) : rd (sealB kind body) 2 = (body.length : Int) % 256 := (rd_head kind body h 2 (by decide)).trans rfl
theorem seal_word (kind : Int) (body : List Int) (h : body.length ≤ 153) : rd (sealB kind body) 156 * 16777216 + rd (sealB kind body) 157 * 65536 + rd (sealB kind body) 158 * 256 + rd (sealB kind body) 159 = sumFrom 1 (sealHead kind body) := by
  have b := sum_bd (sealHead kind body)
  have e0 : rd (sealB kind body) 156 = (sumFrom 1 (sealHead kind body) / 16777216) % 256 := (rd_tail kind body h 0 (by decide)).trans rfl
  have e1 : rd (sealB kind body) 157 = (sumFrom 1 (sealHead kind body) / 65536) % 256 := (rd_tail kind body h 1 (by decide)).trans rfl
  have e2 : rd (sealB kind body) 158 = (sumFrom 1 (sealHead kind body) / 256) % 256 := (rd_tail kind body h 2 (by decide)).trans rfl
  have e3 : rd (sealB kind body) 159 = sumFrom 1 (sealHead kind body) % 256 := (rd_tail kind body h 3 (by decide)).trans rfl
  rw [e0, e1, e2, e3]
  exact be4_word _ b.1 (by omega)
theorem seal_body (kind : Int) (body : List Int) (h : body.length ≤ 153) : bodyOf (sealB kind body) = body := by
  unfold bodyOf
  rw [seal_rd1 kind body h, seal_rd2 kind body h, show min ((body.length : Int) / 256 * 256 + (body.length : Int) % 256) 153 = (body.length : Int) by omega, Int.toNat_natCast]
  unfold sealB sealHead
  show List.take body.length (List.drop 3 (kind :: ((body.length : Int) / 256) :: ((body.length : Int) % 256) :: (body ++ List.replicate (153 - body.length) 0 ++ _))) = body
  simp
theorem open_seal (kind : Int) (body : List Int) (ok : okSeal kind body = true) : openB (sealB kind body) = (kind, body, 0) := by
  have o := of_decide_eq_true ok
  unfold openB
  rw [if_pos (seal_len kind body o.2.2), seal_take kind body o.2.2, seal_word kind body o.2.2, if_pos rfl, seal_rd0 kind body o.2.2, seal_body kind body o.2.2, if_pos ⟨ok, rfl⟩]
theorem head_inj (k1 k2 : Int) (b1 b2 : List Int) (h1 : b1.length ≤ 153) (h2 : b2.length ≤ 153) (e : sealB k1 b1 = sealB k2 b2) : k1 = k2 ∧ b1 = b2 := by
  have e1 := seal_rd0 k1 b1 h1
  have e2 := seal_body k1 b1 h1
  rw [e, seal_rd0 k2 b2 h2] at e1
  rw [e, seal_body k2 b2 h2] at e2
  exact ⟨e1.symm, e2.symm⟩

/-! bytes told by a number -/
theorem hb_go (n : Int) (hn : n ≤ 281474976710656) : ∀ (d i : Nat) (acc : List Int) (x : Int), (i : Int) + d = n → (acc.length : Int) = n → isBytes acc → ∃ l, Ev (fun k => corbelhand_Bytes.l0 k n acc x (i : Int)) l ∧ (l.length : Int) = n ∧ isBytes l
  | 0, i, acc, x, h, hl, hb => ⟨acc, Ev.step (fun _ => corbelhand_Bytes.l0.eq_2 ..) (ev_neg (by omega) (Ev.now _)), hl, hb⟩
  | d + 1, i, acc, x, h, hl, hb => by
    obtain ⟨l, q, e⟩ := hb_go n hn d (i + 1) (acc.set i (((IntKind.u64.wrap ((IntKind.u64.wrap (x * 6364136223846793005)) + 1442695040888963407)) / 72057594037927936) % 256)) (IntKind.u64.wrap ((IntKind.u64.wrap (x * 6364136223846793005)) + 1442695040888963407)) (by omega) (by rw [List.length_set]; exact hl) (bytes_set _ _ hb (by omega) (by omega))
    refine ⟨l, Ev.step (fun _ => corbelhand_Bytes.l0.eq_2 ..) (ev_pos (by omega) (ev_pos (by omega) (ev_pos (by omega) ?_))), e⟩
    rw [show wrap64 ((i : Int) + 1) = ((i + 1 : Nat) : Int) by unfold wrap64; omega]
    exact q
theorem hb_f (s n : Int) (h0 : 0 ≤ n) (h1 : n ≤ 281474976710656) : ∃ l, Ev (fun k => corbelhand_Bytes.f k s n) l ∧ (l.length : Int) = n ∧ isBytes l := by
  unfold corbelhand_Bytes.f
  by_cases h6 : s % 7 = 6
  · exact ⟨_, ev_pos h0 (ev_pos (by omega) (ev_bind0 (ev_bind1 (pick_f s 7 (by omega) (by omega)) (ev_pos h6 (Ev.now _))))), by simp; omega, bytes_rep _ _ (by omega) (by omega)⟩
  · obtain ⟨l, q, e⟩ := hb_go n h1 n.toNat 0 (List.replicate n.toNat 0) (IntKind.u64.wrap ((IntKind.u64.wrap ((IntKind.u64.wrap (s)) * 2654435761)) + 12345)) (by omega) (by simp; omega) (bytes_rep _ _ (by omega) (by omega))
    exact ⟨l, ev_pos h0 (ev_pos (by omega) (ev_bind0 (ev_bind1 (pick_f s 7 (by omega) (by omega)) (ev_neg h6 q)))), e⟩

theorem seal_zero (kind : Int) (body : List Int) (h : body.length ≤ 153) : ((sealB kind body).take 156).drop (3 + body.length) = List.replicate (153 - body.length) 0 := by
  rw [seal_take _ _ h]
  have e : sealHead kind body = ([kind, (body.length : Int) / 256, (body.length : Int) % 256] ++ body) ++ List.replicate (153 - body.length) 0 := by simp [sealHead]
  rw [e, List.drop_left' (by simp; omega)]
theorem seal_mid (kind : Int) (body : List Int) (h : body.length ≤ 153) : ((sealB kind body).take (3 + body.length)).drop 3 = body := by
  have e : sealB kind body = [kind, (body.length : Int) / 256, (body.length : Int) % 256] ++ (body ++ (List.replicate (153 - body.length) 0 ++ be4 (sumFrom 1 (sealHead kind body)))) := by simp [sealB, sealHead]
  rw [e, List.take_append, List.drop_append_of_le_length (by simp)]
  simp
theorem zero_go (kind : Int) (body : List Int) (b : List Int) (hb : isBytes b) (h1 : b.length ≤ 153) (hk0 : 0 ≤ kind) (hk1 : kind ≤ 255) (m : Nat) (hm : m ≤ 160) :
    ∀ (d i : Nat), i + d = m → Ev (fun k => corbellaw6_MarkSizes.l0 k (sealB kind b) (List.replicate m 0) ((List.replicate m (0 : Int)).length : Int) (i : Int)) true
  | 0, i, h => by
    have hl := seal_len kind b h1
    have w := seal_word kind b h1
    have bd := sum_bd (sealHead kind b)
    have r0 : 0 ≤ rd (sealB kind b) 156 ∧ rd (sealB kind b) 156 ≤ 255 := rd_b _ (seal_bytes kind b hk0 hk1 hb h1) 156
    have r1 : 0 ≤ rd (sealB kind b) 157 ∧ rd (sealB kind b) 157 ≤ 255 := rd_b _ (seal_bytes kind b hk0 hk1 hb h1) 157
    have r2 : 0 ≤ rd (sealB kind b) 158 ∧ rd (sealB kind b) 158 ≤ 255 := rd_b _ (seal_bytes kind b hk0 hk1 hb h1) 158
    have r3 : 0 ≤ rd (sealB kind b) 159 ∧ rd (sealB kind b) 159 ≤ 255 := rd_b _ (seal_bytes kind b hk0 hk1 hb h1) 159
    refine Ev.step (fun _ => corbellaw6_MarkSizes.l0.eq_2 ..) (ev_neg (by simp; omega) (ev_pos (by omega) (ev_pos (by omega) (ev_pos (by omega) (ev_pos (by omega) (ev_pos (by omega) (Ev.bind (sum_f _ (bytes_take _ (seal_bytes kind b hk0 hk1 hb h1)) (by rw [List.length_take]; omega)) (ev_some ?_))))))))
    rw [seal_take _ _ h1, beq_iff_eq]
    have e : ∀ x : Int, 0 ≤ x → x ≤ 4611686018427387904 → wrap64 x = x := fun x a b => wrap_in (by omega) (by omega)
    rw [e (rd (sealB kind b) 156) (by omega) (by omega), e (rd (sealB kind b) 157) (by omega) (by omega), e (rd (sealB kind b) 158) (by omega) (by omega), e (rd (sealB kind b) 159) (by omega) (by omega)]
    rw [e (rd (sealB kind b) 156 * 16777216) (by omega) (by omega), e (rd (sealB kind b) 157 * 65536) (by omega) (by omega), e (rd (sealB kind b) 158 * 256) (by omega) (by omega)]
    rw [e (rd (sealB kind b) 156 * 16777216 + rd (sealB kind b) 157 * 65536) (by omega) (by omega), e (rd (sealB kind b) 156 * 16777216 + rd (sealB kind b) 157 * 65536 + rd (sealB kind b) 158 * 256) (by omega) (by omega), e _ (by omega) (by omega)]
    exact w
  | d + 1, i, h => by
    have hl : (List.replicate m (0 : Int)).length = m := by simp
    have e : rd (List.replicate m (0 : Int)) (i : Int) = 0 := by rw [rd_nat _ _ (by omega)]; simp
    refine Ev.step (fun _ => corbellaw6_MarkSizes.l0.eq_2 ..) (ev_pos (by omega) (ev_pos (by omega) (ev_pos (by omega) (ev_pos e ?_))))
    rw [wrap_succ (by omega)]
    exact zero_go kind body b hb h1 hk0 hk1 m hm d (i + 1) (by omega)
theorem MarkSizes : corbellaw6_MarkSizes.Pure := by
  intro a0 a1 a2 _ _ _
  suffices h : Ev (fun k => corbellaw6_MarkSizes.f k a0 a1 a2) true by
    obtain ⟨K, hK⟩ := h; exact ⟨K, hK K (Nat.le_refl K)⟩
  have c0 := pick_nn a0 255 (by omega)
  have c1 := pick_lt a0 255 (by omega)
  have n0 := pick_nn a1 173 (by omega)
  have n1 := pick_lt a1 173 (by omega)
  obtain ⟨b, eb, lb, bb⟩ := hb_f a2 (a1 % 173) n0 (by omega)
  have ew : wrap64 (1 + a0 % 255) = 1 + a0 % 255 := wrap_in (by omega) (by omega)
  refine ev_bind1 (pick_f a0 255 (by omega) (by omega)) (ev_bind1 (pick_f a1 173 (by omega) (by omega)) (Ev.bind eb ?_))
  rw [ew]
  refine Ev.bind (seal_f (1 + a0 % 255) b bb (by omega)) (Ev.bind known_f (ev_pos rfl ?_))
  generalize a0 % 255 = z at *
  generalize a1 % 173 = n at *
  by_cases h : b.length ≤ 153
  · have ok : okSeal (1 + z) b = true := by simp [okSeal]; omega
    rw [if_pos ok]
    dsimp only
    have hl := seal_len (1 + z) b h
    have e3 : wrap64 (3 + n) = ((3 + b.length : Nat) : Int) := by unfold wrap64; omega
    refine Ev.step (fun _ => corbellaw6_MarkSizes.j0.eq_2 ..) (ev_neg (by simp; omega) (ev_pos rfl (ev_pos (by omega) (ev_pos (by omega) (ev_pos ?_ (ev_pos (by omega) (ev_pos (by omega) (ev_pos ?_ (ev_pos (by omega) (ev_pos (by omega) ?_))))))))))
    · rw [seal_rd0 _ _ h]; exact wrap_in (by omega) (by omega)
    · rw [seal_rd1 _ _ h, seal_rd2 _ _ h, wrap_in (x := (b.length : Int) / 256) (by omega) (by omega), wrap_in (x := (b.length : Int) % 256) (by omega) (by omega), wrap_in (x := (b.length : Int) / 256 * 256) (by omega) (by omega), wrap_in (by omega) (by omega)]; omega
    · rw [e3, Int.toNat_natCast, seal_mid _ _ h]
      refine Ev.step (fun _ => corbellaw6_MarkSizes.j1.eq_2 ..) (ev_neg (by simp) (ev_pos (by omega) (ev_pos (by omega) (ev_pos (by omega) (ev_bind0 ?_)))))
      rw [e3, Int.toNat_natCast, seal_zero _ _ h]
      exact zero_go (1 + z) b b bb h (by omega) (by omega) _ (by omega) (153 - b.length) 0 (by omega)
  · have ok : okSeal (1 + z) b = false := by simp [okSeal]; omega
    rw [ok]
    refine Ev.step (fun _ => corbellaw6_MarkSizes.j0.eq_2 ..) (ev_neg (by simp; omega) (ev_neg (by simp) (ev_pos rfl (ev_some rfl))))

end Go.Proofs.Ytbegaeohggkblaa.Pure
