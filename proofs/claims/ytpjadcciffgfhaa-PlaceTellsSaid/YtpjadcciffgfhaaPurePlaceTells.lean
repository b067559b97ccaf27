/- The pure statement of PlaceTells holds: whatever stripe, index and node, the program's functions and the document's agree. No condition. -/
import Derived.Test.YtpjadcciffgfhaaPPlaceTellsx2
namespace Go.Proofs.Ytpjadcciffgfhaa.Pure
open Go.RowKit Go.Proofs.Ytpjadcciffgfhaa.PPlaceTells Go.Proofs.YtpjadcciffgfhaaW.PrintWords Go.Proofs.YtpjadcciffgfhaaW.PrintLast

theorem wrap_in {n : Int} (h0 : -9223372036854775808 ≤ n) (h1 : n ≤ 9223372036854775807) : wrap64 n = n := by
  unfold wrap64
  omega

theorem right_eq (s : Int) : place_Right.f s = some (decide (0 ≤ s ∧ s < 40)) := by
  unfold place_Right.f
  split
  · congr 1; simp only [decide_eq_decide]; omega
  · congr 1; symm; simp only [decide_eq_false_iff_not]; omega

theorem node_on (s i : Int) : corbelref7_On.f s i = place_Node.f s i := by
  unfold corbelref7_On.f place_Node.f
  rw [right_eq]
  simp only [Option.bind_some, decide_eq_true_eq]
  by_cases h : 0 ≤ s ∧ s < 40
  · rw [if_pos h, if_neg (by omega), if_neg (by omega)]
  · rw [if_neg h]
    by_cases h1 : s < 0
    · rw [if_pos h1]
    · rw [if_neg h1, if_pos (by omega)]

theorem node_some (s i : Int) : ∃ r, place_Node.f s i = some r ∧ -1 ≤ r := by
  unfold place_Node.f
  rw [right_eq]
  simp only [Option.bind_some, decide_eq_true_eq]
  split
  · rename_i hs
    split
    · exact ⟨_, rfl, by omega⟩
    · split
      · exact ⟨_, rfl, by omega⟩
      · refine ⟨_, rfl, ?_⟩
        rw [wrap_in (by omega) (by omega), Int.tmod_eq_emod_of_nonneg (by omega)]
        omega
  · exact ⟨_, rfl, by omega⟩

theorem index_eq (s n : Int) (k : Nat) : ∀ i, corbelref7_Index.l0 k s n i = place_Index.l0 k s n i := by
  induction k with
  | zero => intro i; rfl
  | succ k ih =>
    intro i
    simp only [corbelref7_Index.l0, place_Index.l0]
    split
    · obtain ⟨r, hr, h0⟩ := node_some s i
      rw [node_on, hr]
      simp only [Option.bind_some]
      by_cases hn : n ≥ 0
      · rw [if_pos hn]
        by_cases hrn : r = n
        · rw [if_pos hrn, if_pos (by omega), if_pos hrn]
        · rw [if_neg hrn, ih]
          split <;> rfl
      · rw [if_neg hn, ih]
        by_cases hr0 : r ≥ 0
        · rw [if_pos hr0, if_neg (by omega)]
        · rw [if_neg hr0]
    · rfl

theorem index_some (s n : Int) (d : Nat) : ∀ (k : Nat) (i : Int), 0 ≤ i → i ≤ 6 → (6 - i).toNat = d → d < k → ∃ r, place_Index.l0 k s n i = some r := by
  induction d with
  | zero =>
    intro k i h0 h1 hd hk
    obtain ⟨k, rfl⟩ : ∃ m, k = m + 1 := ⟨k - 1, by omega⟩
    exact ⟨-1, by simp only [place_Index.l0]; rw [if_neg (by omega)]⟩
  | succ d ih =>
    intro k i h0 h1 hd hk
    obtain ⟨k, rfl⟩ : ∃ m, k = m + 1 := ⟨k - 1, by omega⟩
    obtain ⟨r, hr, _⟩ := node_some s i
    obtain ⟨q, hq⟩ := ih k (i + 1) (by omega) (by omega) (by omega) (by omega)
    simp only [place_Index.l0]
    rw [if_pos (by omega), hr, wrap_in (n := i + 1) (by omega) (by omega), hq]
    simp only [Option.bind_some]
    split
    · split <;> exact ⟨_, rfl⟩
    · exact ⟨_, rfl⟩

theorem logs_eq (s : Int) (k : Nat) : ∀ l i, corbelref7_Logs.l0 k s l i = place_Logs.l0 k s l i := by
  induction k with
  | zero => intro l i; simp only [corbelref7_Logs.l0, place_Logs.l0]
  | succ k ih =>
    intro l i
    simp only [corbelref7_Logs.l0, place_Logs.l0]
    rw [ih]

theorem logs_some (s : Int) (d : Nat) : ∀ (k : Nat) (l : List Int) (i : Int), 0 ≤ i → i ≤ 8 → (8 - i).toNat = d → d < k → (l.length : Int) ≤ i → ∃ r, place_Logs.l0 k s l i = some r ∧ r.length ≤ 8 := by
  induction d with
  | zero =>
    intro k l i h0 h1 hd hk hl
    obtain ⟨k, rfl⟩ : ∃ m, k = m + 1 := ⟨k - 1, by omega⟩
    exact ⟨l, by simp only [place_Logs.l0]; rw [if_neg (by omega)], by omega⟩
  | succ d ih =>
    intro k l i h0 h1 hd hk hl
    obtain ⟨k, rfl⟩ : ∃ m, k = m + 1 := ⟨k - 1, by omega⟩
    simp only [place_Logs.l0]
    rw [if_pos (by omega), if_pos (by omega), wrap_in (n := i + 1) (by omega) (by omega)]
    exact ih k _ (i + 1) (by omega) (by omega) (by omega) (by omega) (by simp only [List.length_append, List.length_cons, List.length_nil]; omega)

theorem same_refl (l : List Int) (hl : l.length ≤ 1000) (d : Nat) : ∀ (k : Nat) (i : Int), 0 ≤ i → i ≤ l.length → ((l.length : Int) - i).toNat = d → d < k → corbelref7_SameInts.l0 k l l i = some true := by
  induction d with
  | zero =>
    intro k i h0 h1 hd hk
    obtain ⟨k, rfl⟩ : ∃ m, k = m + 1 := ⟨k - 1, by omega⟩
    simp only [corbelref7_SameInts.l0]; rw [if_neg (by omega)]
  | succ d ih =>
    intro k i h0 h1 hd hk
    obtain ⟨k, rfl⟩ : ∃ m, k = m + 1 := ⟨k - 1, by omega⟩
    simp only [corbelref7_SameInts.l0]
    rw [if_pos (by omega), if_pos h0, if_pos (by omega), wrap_in (n := i + 1) (by omega) (by omega)]
    simp only [if_true]
    exact ih k (i + 1) (by omega) (by omega) (by omega) (by omega)

theorem known_true : corbellaw13_known.f 20 = some true := by decide +kernel

theorem tells (s i n : Int) : corbellaw13_PlaceTells.j0 21 s i n = some true := by
  obtain ⟨r, hr, _⟩ := node_some s i
  obtain ⟨q, hq⟩ := index_some s n 6 20 0 (by omega) (by omega) (by omega) (by omega)
  simp only [corbellaw13_PlaceTells.j0]
  rw [known_true]
  simp only [Option.bind_some, if_true]
  rw [node_on, hr]
  simp only [Option.bind_some, if_true]
  unfold place_Index.f corbelref7_Index.f
  rw [index_eq, hq]
  simp only [Option.bind_some, if_true]
  have hlog : ∃ l, place_Logs.f 20 s = some l ∧ corbelref7_Logs.f 20 s = some l ∧ l.length ≤ 8 := by
    unfold place_Logs.f corbelref7_Logs.f
    rw [right_eq]
    simp only [Option.bind_some, decide_eq_true_eq]
    by_cases h : 0 ≤ s ∧ s < 40
    · obtain ⟨l, hl, h8⟩ := logs_some s 8 19 [] 0 (by omega) (by omega) (by omega) (by omega) (by simp)
      refine ⟨l, ?_, ?_, h8⟩
      · rw [if_pos h]
        exact place_Logs.mono_l 19 s [] 0 l hl
      · rw [if_neg (by omega)]
        simp only [corbelref7_Logs.j0]
        rw [if_neg (by simp only [decide_eq_true_eq]; omega), logs_eq, hl]
    · refine ⟨[], by rw [if_neg h], ?_, by simp⟩
      by_cases h1 : s < 0
      · rw [if_pos h1]
        simp only [corbelref7_Logs.j0, if_true]
      · rw [if_neg h1]
        simp only [corbelref7_Logs.j0]
        rw [if_pos (by simp only [decide_eq_true_eq]; omega)]
  obtain ⟨l, h1, h2, h8⟩ := hlog
  rw [h1, h2]
  simp only [Option.bind_some]
  have hs : corbelref7_SameInts.f 20 l l = some true := by
    unfold corbelref7_SameInts.f
    rw [if_pos rfl]
    exact same_refl l (by omega) l.length 20 0 (by omega) (by omega) (by omega) (by omega)
  rw [hs]
  simp only [Option.bind_some, if_true]
  rw [right_eq]
  simp only [Option.bind_some]
  by_cases h0 : s ≥ 0
  · rw [if_pos h0]
    congr 1
    rw [beq_iff_eq, decide_eq_decide]
    omega
  · rw [if_neg h0]
    congr 1
    rw [beq_iff_eq, decide_eq_false_iff_not]
    omega

theorem pick_some (a m : Int) (h : 0 < m) : ∃ r, corbelhand_Pick.f a m = some r := by
  unfold corbelhand_Pick.f
  rw [if_neg (by omega)]
  split <;> exact ⟨_, rfl⟩

theorem PlaceTells : corbellaw13_PlaceTells.Pure := by
  intro a0 a1 a2 a3 _ _ _
  refine ⟨21, ?_⟩
  unfold corbellaw13_PlaceTells.f
  obtain ⟨p, hp⟩ := pick_some a0 42 (by omega)
  obtain ⟨q, hq⟩ := pick_some a1 8 (by omega)
  obtain ⟨r, hr⟩ := pick_some a2 10 (by omega)
  rw [hp, hq, hr]
  simp only [Option.bind_some]
  split <;> exact tells _ _ _

end Go.Proofs.Ytpjadcciffgfhaa.Pure
