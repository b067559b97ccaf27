/- The pure statement of ExtentTells: what the printed functions answer. No condition beyond its own. -/
import Derived.Test.YtfenkpghcbohdaaPExtentTellsx4
import Derived.Test.YtfenkpghcbohdaaKit
import Derived.Test.YtfenkpghcbohdaaCopy
namespace Go.Proofs.Ytfenkpghcbohdaa.Pure
open Go.RowKit Go.Proofs.Ytfenkpghcbohdaa.PExtentTells Go.Proofs.YtfenkpghcbohdaaW.PrintWords Go.Proofs.YtfenkpghcbohdaaW.PrintLast Go.Proofs.YtfenkpghcbohdaaW.PrintMore Go.Proofs.Ytfenkpghcbohdaa.Kit
set_option linter.unusedVariables false
set_option linter.unusedSimpArgs false

theorem where_f (a b : Int) (ha : a ≤ 9223372036854775807) : extent_Where.f a b = some (if 0 ≤ b ∧ b < a then (b / 8, b % 8, true) else (0, 0, false)) := by
  unfold extent_Where.f
  by_cases h1 : b < 0
  · rw [if_pos h1, if_neg (by omega)]
  · rw [if_neg h1]
    by_cases h2 : b ≥ a
    · rw [if_pos h2, if_neg (by omega)]
    · rw [if_neg h2, if_pos (by omega), tdiv_nn (by omega), tmod_nn (by omega), wrap_in (by omega) (by omega)]
def okSize (a : Int) : Bool := decide (0 ≤ a ∧ a ≤ 256 ∧ a % 8 = 0)
theorem sized_f (a : Int) : extent_sized.f a = some (okSize a) := by
  unfold extent_sized.f okSize
  by_cases h1 : a ≥ 0
  · rw [if_pos h1]
    by_cases h2 : a ≤ 256
    · rw [if_pos h2, tmod_nn h1]
      congr 1
      by_cases h3 : a % 8 = 0 <;> simp [h1, h2, h3]
    · rw [if_neg h2]; simp [h2]
  · rw [if_neg h1]; simp [h1]
def okStripe (x : Int) : Bool := x == 0 || decide (17 ≤ x ∧ x < 40)
theorem right1_f (a : Int) : extent_Right_1.f a = some (!okStripe a) := by
  unfold extent_Right_1.f okStripe
  by_cases h1 : a = 0
  · rw [if_pos h1]; simp [h1]
  · rw [if_neg h1]
    by_cases h2 : a < 17
    · rw [if_pos h2]; simp [h1]; omega
    · rw [if_neg h2]; congr 1; rw [Bool.eq_iff_iff]; simp [h1]; omega
theorem index_l0 (xs : List Int) (hb : xs.length < 4611686018427387904) : ∀ (d i : Nat), xs.length - i = d → i ≤ xs.length →
    ∃ r, Ev (fun k => slices_IndexFunc_int_int_extent_Right_1.l0 k xs (xs.length : Int) (i : Int)) r ∧ (decide (r ≥ 0)) = !(xs.drop i).all okStripe
  | 0, i, hd, hi => by
    refine ⟨-1, Ev.step (fun _ => slices_IndexFunc_int_int_extent_Right_1.l0.eq_2 ..) (ev_neg (by omega) (Ev.now _)), ?_⟩
    rw [List.drop_eq_nil_of_le (by omega)]; rfl
  | d + 1, i, hd, hi => by
    by_cases hr : okStripe (rd xs (i : Int)) = true
    · obtain ⟨r, h1, h2⟩ := index_l0 xs hb d (i + 1) (by omega) (by omega)
      refine ⟨r, Ev.step (fun _ => slices_IndexFunc_int_int_extent_Right_1.l0.eq_2 ..) (ev_pos (by omega) (ev_pos (by omega) (ev_pos (by omega) (ev_bind1 (right1_f _) (ev_neg (by rw [hr]; simp) ?_))))), ?_⟩
      · rw [wrap_succ (by omega)]; exact h1
      · rw [h2, drop_rd xs i (by omega), List.all_cons, hr, Bool.true_and]
    · refine ⟨i, Ev.step (fun _ => slices_IndexFunc_int_int_extent_Right_1.l0.eq_2 ..) (ev_pos (by omega) (ev_pos (by omega) (ev_pos (by omega) (ev_bind1 (right1_f _) (ev_pos (by simp at hr; rw [hr]; rfl) (Ev.now _)))))), ?_⟩
      rw [drop_rd xs i (by omega), List.all_cons]
      simp at hr; rw [hr]; simp
theorem contains_f (xs : List Int) (hb : xs.length < 4611686018427387904) : Ev (fun k => slices_ContainsFunc_int_int_extent_Right_1.f k xs) (!xs.all okStripe) := by
  obtain ⟨r, h1, h2⟩ := index_l0 xs hb xs.length 0 (by omega) (by omega)
  unfold slices_ContainsFunc_int_int_extent_Right_1.f slices_IndexFunc_int_int_extent_Right_1.f
  exact Ev.bind h1 (ev_some h2)
def okMap (a : Int) (xs : List Int) : Bool := okSize a && (decide ((xs.length : Int) = a / 8) && xs.all okStripe)
theorem right_f (a : Int) (xs : List Int) (hb : xs.length < 4611686018427387904) : Ev (fun k => extent_Right.f k a xs) (okMap a xs) := by
  unfold extent_Right.f okMap
  refine Ev.bind (contains_f xs hb) (ev_bind1 (sized_f a) ?_)
  by_cases h : okSize a = true
  · refine ev_pos h ?_
    rw [h, Bool.true_and]
    have ha : 0 ≤ a ∧ a ≤ 256 ∧ a % 8 = 0 := of_decide_eq_true h
    rw [tdiv_nn (by omega), wrap_in (by omega) (by omega)]
    by_cases h2 : (xs.length : Int) = a / 8
    · exact ev_pos h2 (ev_some (by simp [h2]))
    · exact ev_neg h2 (ev_some (by simp [h2]))
  · refine ev_neg h (ev_some ?_)
    simp at h; rw [h]; rfl
theorem known_f : Ev (fun k => corbellaw17_known.f k) true := by
  unfold corbellaw17_known.f
  refine ev_bind1 (where_f 16 9 (by omega)) ?_
  refine ev_pos (by decide) (ev_pos (by decide) (ev_pos (by decide) ?_))
  exact Ev.bind (right_f 16 [0, 17] (by decide)) (ev_some (by decide))

theorem pick_f (n m : Int) (h0 : 0 < m) (h1 : m ≤ 4611686018427387904) : corbelhand_Pick.f n m = some (n % m) := by
  unfold corbelhand_Pick.f
  rw [if_neg (by omega)]
  have e := Int.tmod_eq_emod (a := n) (b := m)
  have b1 := Int.emod_nonneg n (show m ≠ 0 by omega)
  have b2 := Int.emod_lt_of_pos n h0
  have hm : (m.natAbs : Int) = m := by omega
  by_cases hc : 0 ≤ n ∨ m ∣ n
  · rw [if_pos hc] at e
    rw [if_neg (by omega), e]; congr 1; omega
  · rw [if_neg hc, hm] at e
    have hne : n % m ≠ 0 := fun q => hc (.inr (Int.dvd_of_emod_eq_zero q))
    rw [if_pos (by omega), wrap_in (by omega) (by omega), e]; congr 1; omega
theorem pick_nn (n m : Int) (h0 : 0 < m) : 0 ≤ n % m := Int.emod_nonneg n (by omega)
theorem pick_lt (n m : Int) (h0 : 0 < m) : n % m < m := Int.emod_lt_of_pos n h0

theorem same_l0 (xs ys : List Int) (hl : xs.length = ys.length) (hb : xs.length < 4611686018427387904) : ∀ (d i : Nat), xs.length - i = d → i ≤ xs.length →
    Ev (fun k => corbelref7_SameInts.l0 k xs ys (i : Int)) (decide (xs.drop i = ys.drop i))
  | 0, i, hd, hi => by
    refine Ev.step (fun _ => corbelref7_SameInts.l0.eq_2 ..) (ev_neg (by omega) (ev_some ?_))
    rw [List.drop_eq_nil_of_le (by omega), List.drop_eq_nil_of_le (by omega)]; rfl
  | d + 1, i, hd, hi => by
    refine Ev.step (fun _ => corbelref7_SameInts.l0.eq_2 ..) (ev_pos (by omega) (ev_pos (by omega) (ev_pos (by omega) ?_)))
    rw [drop_rd xs i (by omega), drop_rd ys i (by omega)]
    by_cases h : rd xs (i : Int) = rd ys (i : Int)
    · refine ev_pos h (ev_eq (r := decide (xs.drop (i + 1) = ys.drop (i + 1))) ?_ ?_)
      · rw [wrap_succ (by omega)]; exact same_l0 xs ys hl hb d (i + 1) (by omega) (by omega)
      · simp [h]
    · exact ev_neg h (ev_some (by simp [h]))
theorem same_f (xs ys : List Int) (hb : xs.length < 4611686018427387904) : Ev (fun k => corbelref7_SameInts.f k xs ys) (decide (xs = ys)) := by
  unfold corbelref7_SameInts.f
  by_cases h : xs.length = ys.length
  · exact ev_pos (by omega) (ev_eq (same_l0 xs ys h hb xs.length 0 (by omega) (by omega)) (by simp))
  · refine ev_neg (by omega) (ev_some ?_)
    symm; rw [decide_eq_false_iff_not]; intro e; exact h (by rw [e])

theorem maps_l0 (l : List Int) (hl : l.length < 4611686018427387904) : ∀ (d i : Nat) (acc : List Int), 40 - i = d → i ≤ 40 → i ≤ l.length → acc.length = i →
    ∃ m, Ev (fun k => corbellaw17_maps.l0 k l acc (i : Int)) m ∧ m.length ≤ 40
  | d, i, acc, hd, h40, hi, ha => by
    by_cases h1 : i < l.length
    · by_cases h2 : i < 40
      · obtain ⟨d, rfl⟩ : ∃ e, d = e + 1 := ⟨d - 1, by omega⟩
        have go := fun (v : Int) => maps_l0 l hl d (i + 1) (acc ++ [v]) (by omega) (by omega) (by omega) (by simp [ha])
        have e2 : decide ((i : Int) < 40) = true := by simp; omega
        by_cases h3 : (Int.tmod (rd l i) 3) > 0
        · by_cases h22 : (Int.tmod (rd l i) 23) = 22
          · obtain ⟨m, hm, hml⟩ := go (rd l i)
            refine ⟨m, Ev.step (fun _ => corbellaw17_maps.l0.eq_2 ..) (ev_pos (by omega) (Ev.step (fun _ => corbellaw17_maps.j1.eq_2 ..) (ev_pos e2 (ev_pos (by omega) (ev_pos (by omega) (ev_pos h3 (ev_bind1 (pick_f _ 23 (by omega) (by omega)) (ev_pos h22 (ev_pos (by omega) ?_))))))))), hml⟩
            rw [wrap_succ (by omega)]; exact hm
          · obtain ⟨m, hm, hml⟩ := go (wrap64 (17 + rd l i % 23))
            refine ⟨m, Ev.step (fun _ => corbellaw17_maps.l0.eq_2 ..) (ev_pos (by omega) (Ev.step (fun _ => corbellaw17_maps.j1.eq_2 ..) (ev_pos e2 (ev_pos (by omega) (ev_pos (by omega) (ev_pos h3 (ev_bind1 (pick_f _ 23 (by omega) (by omega)) (ev_neg h22 (ev_pos (by omega) ?_))))))))), hml⟩
            rw [wrap_succ (by omega)]; exact hm
        · by_cases h22 : (Int.tmod (rd l i) 23) = 22
          · obtain ⟨m, hm, hml⟩ := go (rd l i)
            refine ⟨m, Ev.step (fun _ => corbellaw17_maps.l0.eq_2 ..) (ev_pos (by omega) (Ev.step (fun _ => corbellaw17_maps.j1.eq_2 ..) (ev_pos e2 (ev_pos (by omega) (ev_pos (by omega) (ev_neg h3 (ev_pos h22 (ev_pos (by omega) ?_)))))))), hml⟩
            rw [wrap_succ (by omega)]; exact hm
          · obtain ⟨m, hm, hml⟩ := go 0
            refine ⟨m, Ev.step (fun _ => corbellaw17_maps.l0.eq_2 ..) (ev_pos (by omega) (Ev.step (fun _ => corbellaw17_maps.j1.eq_2 ..) (ev_pos e2 (ev_pos (by omega) (ev_pos (by omega) (ev_neg h3 (ev_neg h22 (ev_pos (by omega) ?_)))))))), hml⟩
            rw [wrap_succ (by omega)]; exact hm
      · have e2 : decide ((i : Int) < 40) = false := by simp; omega
        exact ⟨acc, Ev.step (fun _ => corbellaw17_maps.l0.eq_2 ..) (ev_pos (by omega) (Ev.step (fun _ => corbellaw17_maps.j1.eq_2 ..) (ev_neg (by rw [e2]; simp) (Ev.now _)))), by omega⟩
    · exact ⟨acc, Ev.step (fun _ => corbellaw17_maps.l0.eq_2 ..) (ev_neg (by omega) (Ev.step (fun _ => corbellaw17_maps.j1.eq_2 ..) (ev_neg (by simp) (Ev.now _)))), by omega⟩
theorem maps_f (l : List Int) (hl : l.length < 4611686018427387904) : ∃ m, Ev (fun k => corbellaw17_maps.f k l) m ∧ m.length ≤ 40 := by
  unfold corbellaw17_maps.f
  exact maps_l0 l hl 40 0 [] rfl (by omega) (by omega) rfl

def cutOf (m : List Int) (n : Nat) : List Int := (m.drop n).filter (fun x => x != 0)
def fitTo (m : List Int) (n : Nat) : List Int := m.take n ++ List.replicate (n - m.length) 0
theorem fit_len (m : List Int) (n : Nat) : (fitTo m n).length = n := by unfold fitTo; rw [List.length_append, List.length_take, List.length_replicate]; omega
theorem fit_rd (m : List Int) (n i : Nat) (h : i < n) : rd (fitTo m n) (i : Int) = if i < m.length then rd m (i : Int) else 0 := by
  rw [rd_nat _ _ (by rw [fit_len]; exact h)]
  unfold fitTo
  by_cases q : i < m.length
  · rw [if_pos q, rd_nat _ _ q, List.getElem_append_left (by rw [List.length_take]; omega), List.getElem_take]
  · rw [if_neg q, List.getElem_append_right (by rw [List.length_take]; omega), List.getElem_replicate]
theorem fit_id (m : List Int) (n : Nat) (h : m.length = n) : fitTo m n = m := by
  subst h; unfold fitTo; rw [List.take_length, Nat.sub_self, List.replicate_zero, List.append_nil]
theorem cut_id (m : List Int) (n : Nat) (h : m.length = n) : cutOf m n = [] := by
  subst h; unfold cutOf; rw [List.drop_length]; rfl
theorem filter_step (p : Int → Bool) (ys : List Int) (i : Nat) (h : i < ys.length) : (ys.drop i).filter p = if p (rd ys (i : Int)) then rd ys (i : Int) :: (ys.drop (i + 1)).filter p else (ys.drop (i + 1)).filter p := by
  rw [drop_rd ys i h, List.filter_cons]
theorem sized_l0 (x7 ys : List Int) (hb : ys.length < 17592186044416) : ∀ (d i : Nat) (acc : List Int), ys.length - i = d → i ≤ ys.length → acc.length ≤ i →
    Ev (fun k => extent_Sized.l0 k x7 acc ys (ys.length : Int) (i : Int)) (x7, acc ++ (ys.drop i).filter (fun x => x != 0))
  | 0, i, acc, hd, hi, ha => by
    refine Ev.step (fun _ => extent_Sized.l0.eq_2 ..) (ev_neg (by omega) (ev_some ?_))
    rw [List.drop_eq_nil_of_le (by omega)]; simp
  | d + 1, i, acc, hd, hi, ha => by
    refine Ev.step (fun _ => extent_Sized.l0.eq_2 ..) (ev_pos (by omega) (ev_pos (by omega) (ev_pos (by omega) ?_)))
    rw [filter_step _ ys i (by omega), wrap_succ (by omega)]
    by_cases h : rd ys (i : Int) = 0
    · refine ev_pos h (ev_eq (sized_l0 x7 ys hb d (i + 1) acc (by omega) (by omega) (by omega)) ?_)
      simp [h]
    · refine ev_neg h (ev_pos (by omega) (ev_eq (sized_l0 x7 ys hb d (i + 1) _ (by omega) (by omega) (by simp; omega)) ?_))
      simp [h]
theorem drop_mn (m : List Int) (n : Nat) : m.drop (min n m.length) = m.drop n := by
  by_cases h : n ≤ m.length
  · rw [Nat.min_eq_left h]
  · rw [Nat.min_eq_right (by omega), List.drop_length, List.drop_eq_nil_of_le (by omega)]
theorem Sized_f (m : List Int) (a : Int) (hb : m.length < 17592186044416) : Ev (fun k => extent_Sized.f k m a) (if okSize a then (fitTo m (a / 8).toNat, cutOf m (a / 8).toNat) else ([], [])) := by
  unfold extent_Sized.f
  refine ev_bind1 (sized_f a) ?_
  by_cases h : okSize a = true
  · have ha : 0 ≤ a ∧ a ≤ 256 ∧ a % 8 = 0 := of_decide_eq_true h
    obtain ⟨n, hn⟩ : ∃ n : Nat, a / 8 = (n : Int) := ⟨(a / 8).toNat, by omega⟩
    have hn32 : n ≤ 32 := by omega
    rw [if_pos h]
    refine ev_pos h ?_
    rw [tdiv_nn (by omega), hn, wrap_in (by omega) (by omega)]
    simp only [Int.toNat_natCast]
    have hmn : mn (n : Int) (m.length : Int) = ((min n m.length : Nat) : Int) := by unfold mn; split <;> omega
    rw [hmn]
    refine ev_pos (by omega) (ev_pos (by omega) (ev_bind0 (ev_pos (by omega) (ev_pos (by omega) ?_))))
    simp only [Int.toNat_natCast, drop_mn]
    rw [List.length_replicate]
    refine ev_eq (sized_l0 _ (m.drop n) (by rw [List.length_drop]; omega) _ 0 [] rfl (by omega) (by simp)) ?_
    rw [Copy.lay_eq _ _ _ (by rw [List.length_take, List.length_replicate]; omega)]
    simp [fitTo, cutOf, List.length_take]
    omega
  · rw [if_neg h]
    exact ev_neg h (ev_some rfl)

theorem rsize_f (a : Int) : corbelref16_RightSize.f a = some (okSize a) := by
  have h := sized_f a
  unfold extent_sized.f at h
  unfold corbelref16_RightSize.f
  exact h
theorem spans_f (a b c : Int) (ha : a ≤ 9223372036854775807) (hb : b ≤ 9223372036854775807) (hc : c ≤ 9223372036854775807) : extent_Spans.f a b c = some (decide (1 ≤ c ∧ 0 ≤ b ∧ b + c ≤ a)) := by
  unfold extent_Spans.f
  by_cases h1 : c ≥ 1
  · rw [if_pos h1]
    by_cases h2 : b ≥ 0
    · rw [if_pos h2]
      by_cases h3 : b < a
      · rw [if_pos h3, wrap_in (by omega) (by omega)]; congr 1; rw [Bool.eq_iff_iff]; simp; omega
      · rw [if_neg h3]; congr 1; symm; simp; omega
    · rw [if_neg h2]; congr 1; symm; simp; omega
  · rw [if_neg h1]; congr 1; symm; simp; omega
theorem rspans_f (a b c : Int) (ha : a ≤ 9223372036854775807) (hb : b ≤ 9223372036854775807) (hc : c ≤ 9223372036854775807) : corbelref16_Spans.f a b c = some (decide (1 ≤ c ∧ 0 ≤ b ∧ b + c ≤ a)) := by
  unfold corbelref16_Spans.f
  by_cases h1 : c ≥ 1
  · rw [if_pos h1]
    by_cases h2 : b ≥ 0
    · rw [if_pos h2]
      by_cases h3 : c ≤ a
      · rw [if_pos h3, wrap_in (by omega) (by omega)]; congr 1; rw [Bool.eq_iff_iff]; simp; omega
      · rw [if_neg h3]; congr 1; symm; simp; omega
    · rw [if_neg h2]; congr 1; symm; simp; omega
  · rw [if_neg h1]; congr 1; symm; simp; omega
theorem rmap_l0 (xs : List Int) (hb : xs.length < 4611686018427387904) : ∀ (d i : Nat), xs.length - i = d → i ≤ xs.length →
    Ev (fun k => corbelref16_RightMap.l0 k xs (i : Int)) ((xs.drop i).all okStripe)
  | 0, i, hd, hi => by
    refine Ev.step (fun _ => corbelref16_RightMap.l0.eq_2 ..) (ev_neg (by omega) (ev_some ?_))
    rw [List.drop_eq_nil_of_le (by omega)]; rfl
  | d + 1, i, hd, hi => by
    refine Ev.step (fun _ => corbelref16_RightMap.l0.eq_2 ..) (ev_pos (by omega) (ev_pos (by omega) ?_))
    have next := rmap_l0 xs hb d (i + 1) (by omega) (by omega)
    rw [drop_rd xs i (by omega), wrap_succ (by omega), List.all_cons]
    by_cases h1 : rd xs (i : Int) = 0
    · refine ev_pos h1 (ev_eq next ?_)
      simp [okStripe, h1]
    · refine ev_neg h1 ?_
      by_cases h2 : rd xs (i : Int) < 17
      · refine ev_pos h2 (ev_some ?_)
        symm; rw [Bool.and_eq_false_iff]; left; unfold okStripe; simp [h1]; omega
      · refine ev_neg h2 ?_
        by_cases h3 : rd xs (i : Int) ≥ 40
        · refine ev_pos h3 (ev_some ?_)
          symm; rw [Bool.and_eq_false_iff]; left; unfold okStripe; simp [h1]; omega
        · refine ev_neg h3 (ev_eq next ?_)
          have : okStripe (rd xs (i : Int)) = true := by unfold okStripe; simp; omega
          rw [this, Bool.true_and]
theorem rmap_f (a : Int) (xs : List Int) (hb : xs.length < 4611686018427387904) : Ev (fun k => corbelref16_RightMap.f k a xs) (okMap a xs) := by
  unfold corbelref16_RightMap.f okMap
  have no : okSize a = false → Ev (fun k => corbelref16_RightMap.j0 k xs true) (okSize a && (decide ((xs.length : Int) = a / 8) && xs.all okStripe)) := by
    intro h
    refine Ev.step (fun _ => corbelref16_RightMap.j0.eq_2 ..) (ev_pos rfl (ev_some ?_))
    rw [h]; rfl
  by_cases h1 : a < 0
  · exact ev_pos h1 (no (by unfold okSize; simp; omega))
  · refine ev_neg h1 ?_
    by_cases h2 : a > 256
    · exact ev_pos h2 (no (by unfold okSize; simp; omega))
    · refine ev_neg h2 ?_
      rw [tmod_nn (by omega), tdiv_nn (by omega), wrap_in (by omega) (by omega)]
      by_cases h3 : a % 8 = 0
      · refine ev_pos h3 (Ev.step (fun _ => corbelref16_RightMap.j0.eq_2 ..) ?_)
        have ok : okSize a = true := by unfold okSize; simp; omega
        rw [ok, Bool.true_and]
        by_cases h4 : (xs.length : Int) = a / 8
        · refine ev_neg (by simp [h4]) (ev_eq (rmap_l0 xs hb xs.length 0 (by omega) (by omega)) ?_)
          simp [h4]
        · exact ev_pos (by simp [h4]) (ev_some (by simp [h4]))
      · exact ev_neg h3 (no (by unfold okSize; simp; omega))
theorem rsized_l1 (m x7 : List Int) (hb : m.length < 17592186044416) : ∀ (d i : Nat) (acc : List Int), m.length - i = d → acc.length ≤ i →
    Ev (fun k => corbelref16_Sized.l1 k m x7 acc (i : Int)) (x7, acc ++ (m.drop i).filter (fun x => x != 0))
  | 0, i, acc, hd, ha => by
    refine Ev.step (fun _ => corbelref16_Sized.l1.eq_2 ..) (ev_neg (by omega) (ev_some ?_))
    rw [List.drop_eq_nil_of_le (by omega)]; simp
  | d + 1, i, acc, hd, ha => by
    refine Ev.step (fun _ => corbelref16_Sized.l1.eq_2 ..) (ev_pos (by omega) (ev_pos (by omega) ?_))
    rw [filter_step _ m i (by omega), wrap_succ (by omega)]
    by_cases h : rd m (i : Int) = 0
    · refine ev_pos h (ev_eq (rsized_l1 m x7 hb d (i + 1) acc (by omega) (by omega)) ?_)
      simp [h]
    · refine ev_neg h (ev_pos (by omega) (ev_eq (rsized_l1 m x7 hb d (i + 1) _ (by omega) (by simp; omega)) ?_))
      simp [h]
theorem fit_succ (m : List Int) (n : Nat) : fitTo m (n + 1) = fitTo m n ++ [if n < m.length then rd m (n : Int) else 0] := by
  unfold fitTo
  by_cases h : n < m.length
  · rw [if_pos h, take_rd m n h, show n + 1 - m.length = 0 by omega, show n - m.length = 0 by omega]; simp
  · rw [if_neg h, show n + 1 - m.length = (n - m.length) + 1 by omega, List.replicate_succ', List.take_of_length_le (by omega), List.take_of_length_le (by omega), List.append_assoc]
theorem rsized_l0 (m : List Int) (n : Nat) (hn : n ≤ 32) (hb : m.length < 17592186044416) : ∀ (d i : Nat), n - i = d → i ≤ n →
    Ev (fun k => corbelref16_Sized.l0 k m (n : Int) (fitTo m i) (i : Int)) (fitTo m n, cutOf m n)
  | 0, i, hd, hi => by
    obtain rfl : i = n := by omega
    refine Ev.step (fun _ => corbelref16_Sized.l0.eq_2 ..) (ev_neg (by omega) (ev_eq (rsized_l1 m _ hb _ i [] rfl (by simp)) ?_))
    simp [cutOf]
  | d + 1, i, hd, hi => by
    have next := rsized_l0 m n hn hb d (i + 1) (by omega) (by omega)
    refine Ev.step (fun _ => corbelref16_Sized.l0.eq_2 ..) (ev_pos (by omega) ?_)
    rw [wrap_succ (by omega)]
    rw [fit_succ] at next
    by_cases h : i < m.length
    · rw [if_pos h] at next
      exact ev_pos (by omega) (ev_pos (by omega) (ev_pos (by rw [fit_len]; omega) next))
    · rw [if_neg h] at next
      exact ev_neg (by omega) (ev_pos (by rw [fit_len]; omega) next)
theorem rSized_f (m : List Int) (a : Int) (hb : m.length < 17592186044416) : Ev (fun k => corbelref16_Sized.f k m a) (if okSize a then (fitTo m (a / 8).toNat, cutOf m (a / 8).toNat) else ([], [])) := by
  unfold corbelref16_Sized.f
  refine ev_bind1 (rsize_f a) ?_
  by_cases h : okSize a = true
  · have ha : 0 ≤ a ∧ a ≤ 256 ∧ a % 8 = 0 := of_decide_eq_true h
    obtain ⟨n, hn⟩ : ∃ n : Nat, a / 8 = (n : Int) := ⟨(a / 8).toNat, by omega⟩
    rw [if_pos h]
    refine ev_pos h ?_
    rw [tdiv_nn (by omega), hn, wrap_in (by omega) (by omega)]
    simp only [Int.toNat_natCast]
    have h0 := rsized_l0 m n (by omega) hb n 0 (by omega) (by omega)
    rw [show fitTo m 0 = [] from List.eq_nil_of_length_eq_zero (fit_len m 0)] at h0
    exact h0
  · rw [if_neg h]
    exact ev_neg h (ev_some rfl)
theorem size_f (a : Int) (h1 : -9223372036854775808 ≤ a) (h2 : a ≤ 9223372036854775807) : ∃ r, corbelhand_Size.f a = some r := by
  unfold corbelhand_Size.f
  rw [pick_f a 17 (by omega) (by omega), Option.bind_some]
  by_cases h : a % 17 = 16
  · rw [if_pos h]; exact ⟨_, rfl⟩
  · rw [if_neg h, pick_f a 5 (by omega) (by omega)]; exact ⟨_, rfl⟩
theorem tells_j2 (a o b c : Int) (m : List Int) (hm : m.length ≤ 40) (ha : a ≤ 9223372036854775807) (hb : b ≤ 9223372036854775807) (hc : c ≤ 9223372036854775807) :
    Ev (fun k => corbellaw17_ExtentTells.j2 k a o b c m false) true := by
  refine Ev.step (fun _ => corbellaw17_ExtentTells.j2.eq_2 ..) (ev_neg (by simp) (Ev.bind (Sized_f m o (by omega)) (Ev.bind (rSized_f m o (by omega)) (Ev.bind known_f (ev_pos rfl (Ev.bind (right_f a m (by omega)) (Ev.bind (rmap_f a m (by omega)) (ev_pos (by simp) ?_))))))))
  generalize hr : (if okSize o = true then (fitTo m (o / 8).toNat, cutOf m (o / 8).toNat) else ([], [])) = r
  have h1 : r.1.length < 4611686018427387904 := by
    subst hr; split
    · rename_i ok
      have ha : 0 ≤ o ∧ o ≤ 256 ∧ o % 8 = 0 := of_decide_eq_true ok
      simp only [fit_len]; omega
    · simp
  have h2 : r.2.length < 4611686018427387904 := by
    subst hr; split
    · have : (cutOf m (o / 8).toNat).length ≤ m.length := Nat.le_trans (List.length_filter_le _ _) (by rw [List.length_drop]; exact Nat.sub_le _ _)
      simp only; omega
    · simp
  refine Ev.bind (same_f _ _ h1) (ev_pos (by simp) (Ev.bind (same_f _ _ h2) (ev_pos (by simp) (ev_bind1 (spans_f a b c ha hb hc) (ev_bind1 (rspans_f a b c ha hb hc) (ev_some (by simp)))))))
theorem tells_j0 (a o b c : Int) (m : List Int) (hm : m.length ≤ 40) (ha : a ≤ 9223372036854775807) (hb : b ≤ 9223372036854775807) (hc : c ≤ 9223372036854775807) (ho1 : -9223372036854775808 ≤ o) (ho2 : o ≤ 9223372036854775807) :
    Ev (fun k => corbellaw17_ExtentTells.j0 k a o b c m) true := by
  obtain ⟨s, hs⟩ := size_f o ho1 ho2
  refine Ev.step (fun _ => corbellaw17_ExtentTells.j0.eq_2 ..) (ev_bind1 hs (ev_bind1 (where_f a b ha) ?_))
  have go := tells_j2 a s b c m hm ha hb hc
  by_cases h0 : b ≥ 0
  · refine ev_pos h0 ?_
    by_cases h1 : b < a
    · rw [if_pos (by omega)]
      refine Ev.step (fun _ => corbellaw17_ExtentTells.j1.eq_2 ..) (ev_neg (by simp [h1]) (ev_pos (by simp [h1]) (ev_pos ?_ (ev_pos ?_ go))))
      · rw [tdiv_nn h0, wrap_in (by omega) (by omega)]
      · rw [tmod_nn h0]
    · rw [if_neg (by omega)]
      exact Ev.step (fun _ => corbellaw17_ExtentTells.j1.eq_2 ..) (ev_neg (by simp [h1]) (ev_neg (by simp [h1]) (ev_pos rfl go)))
  · refine ev_neg h0 ?_
    rw [if_neg (by omega)]
    exact Ev.step (fun _ => corbellaw17_ExtentTells.j1.eq_2 ..) (ev_neg (by simp) (ev_neg (by simp) (ev_pos rfl go)))
theorem ExtentTells : corbellaw17_ExtentTells.Pure := by
  intro a o b c l near wa wo wb wc hl hl8 hw
  obtain ⟨a1, a2⟩ := wf_i64 wa
  obtain ⟨o1, o2⟩ := wf_i64 wo
  obtain ⟨b1, b2⟩ := wf_i64 wb
  obtain ⟨c1, c2⟩ := wf_i64 wc
  unfold maxLen at hl
  refine Ev.rounds ?_
  unfold corbellaw17_ExtentTells.f
  obtain ⟨m, hm, hml⟩ := maps_f l (by omega)
  refine Ev.bind hm ?_
  cases near
  · exact ev_neg (by simp) (tells_j0 a o b c m hml a2 b2 c2 o1 o2)
  · refine ev_pos rfl ?_
    have hb := pick_lt b 300 (by omega)
    have hc := pick_lt c 300 (by omega)
    have hb0 := pick_nn b 300 (by omega)
    have hc0 := pick_nn c 300 (by omega)
    have ho := pick_lt o 3 (by omega)
    have ho0 := pick_nn o 3 (by omega)
    rw [wrap_in (by omega) (by omega)]
    refine ev_ite (fun h => ?_) (fun h => ?_)
    · refine ev_bind1 (pick_f o 3 (by omega) (by omega)) (ev_bind1 (pick_f b 300 (by omega) (by omega)) (ev_bind1 (pick_f c 300 (by omega) (by omega)) ?_))
      rw [wrap_in (x := (m.length : Int) * 8 + o % 3) (by omega) (by omega), wrap_in (x := (m.length : Int) * 8 + o % 3 - 1) (by omega) (by omega), wrap_in (x := b % 300 - 5) (by omega) (by omega), wrap_in (x := c % 300 - 5) (by omega) (by omega)]
      exact tells_j0 _ o _ _ m hml (by omega) (by omega) (by omega) o1 o2
    · refine ev_bind1 (pick_f b 300 (by omega) (by omega)) (ev_bind1 (pick_f c 300 (by omega) (by omega)) ?_)
      rw [wrap_in (x := b % 300 - 5) (by omega) (by omega), wrap_in (x := c % 300 - 5) (by omega) (by omega)]
      exact tells_j0 _ o _ _ m hml (by omega) (by omega) (by omega) o1 o2

end Go.Proofs.Ytfenkpghcbohdaa.Pure
