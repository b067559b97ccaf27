-- Written by fk.py (a program of this session) over the kit's print: functions with a contract of our own among them.
import Derived.BigQuiet
import Derived.Deep.QuietTactic
import Derived.Test.YtpjadcciffgfhaaPPlaceEvenx0
import Derived.Test.YtpjadcciffgfhaaPPlaceEvenx1
namespace Go.Proofs.Ytpjadcciffgfhaa.PPlaceEven
open Go.RowKit Go.Proofs.YtpjadcciffgfhaaW.PrintWords Go.Proofs.YtpjadcciffgfhaaW.PrintLast Go.Proofs.YtpjadcciffgfhaaW.PrintMore
attribute [local go_sem] max2_int min2_int max_two min_two max_three min_three max_four min_four   -- for this text's walks alone
set_option linter.unusedVariables false
set_option linter.unusedSimpArgs false

/-! ### corbellaw13_PlaceEven: function 6 -/
-- IMPORT Derived.Deep.QuietTactic
-- IMPORT Derived.BigQuiet
namespace HandPlaceEven
theorem wrap_in {n : Int} (h0 : -9223372036854775808 ≤ n) (h1 : n ≤ 9223372036854775807) : wrap64 n = n := by
  unfold wrap64
  omega
theorem right_eq (s : Int) : place_Right.f s = some (decide (0 ≤ s ∧ s < 40)) := by
  unfold place_Right.f
  split
  · congr 1; simp only [decide_eq_decide]; omega
  · congr 1; symm; simp only [decide_eq_false_iff_not]; omega
theorem node_eq (s i : Int) (hs : 0 ≤ s ∧ s < 40) (hi : 0 ≤ i ∧ i < 6) : place_Node.f s i = some ((s + i) % 8) := by
  unfold place_Node.f
  rw [right_eq]
  simp only [Option.bind_some, decide_eq_true_eq]
  rw [if_pos hs, if_neg (by omega), if_neg (by omega), wrap_in (by omega) (by omega), Int.tmod_eq_emod_of_nonneg (by omega)]
theorem logs_f (s : Int) (hs : 0 ≤ s ∧ s < 40) : place_Logs.f 20 s = some [(s + 5) % 8, (s + 6) % 8, (s + 7) % 8, s % 8, (s + 1) % 8, (s + 2) % 8, (s + 3) % 8, (s + 4) % 8] := by
  have h : ∀ t : Fin 40, place_Logs.f 20 (t.1 : Int) = some [((t.1 : Int) + 5) % 8, ((t.1 : Int) + 6) % 8, ((t.1 : Int) + 7) % 8, (t.1 : Int) % 8, ((t.1 : Int) + 1) % 8, ((t.1 : Int) + 2) % 8, ((t.1 : Int) + 3) % 8, ((t.1 : Int) + 4) % 8] := by decide +kernel
  have := h ⟨s.toNat, by omega⟩
  rwa [show ((⟨s.toNat, by omega⟩ : Fin 40).1 : Int) = s from by simp; omega] at this
theorem known_true : corbellaw13_known.f 20 = some true := by decide +kernel
def lst (s : Int) : List Int := [(s + 5) % 8, (s + 6) % 8, (s + 7) % 8, s % 8, (s + 1) % 8, (s + 2) % 8, (s + 3) % 8, (s + 4) % 8]
theorem lst_at (s x : Int) (h0 : 0 ≤ x) (h1 : x < 8) : rd (lst s) x = (s + 5 + x) % 8 := by
  have : x = 0 ∨ x = 1 ∨ x = 2 ∨ x = 3 ∨ x = 4 ∨ x = 5 ∨ x = 6 ∨ x = 7 := by omega
  rcases this with rfl | rfl | rfl | rfl | rfl | rfl | rfl | rfl <;> simp [rd, lst] <;> omega
def bump (l : List Int) (n : Int) : List Int := l.set n.toNat (rd l n + 1)
def inn (l : List Int) (s : Int) : Nat → List Int
  | 0 => l
  | i + 1 => bump (inn l s i) ((s + i) % 8)
def stC (f : Int) : Nat → List Int
  | 0 => [0, 0, 0, 0, 0, 0, 0, 0]
  | j + 1 => inn (stC f j) (f + j) 6
def stF (f : Int) : Nat → List Int
  | 0 => [0, 0, 0, 0, 0, 0, 0, 0]
  | j + 1 => bump (stF f j) ((f + j + 5) % 8)
def Fits (l : List Int) (B : Int) : Prop := l.length = 8 ∧ ∀ i, 0 ≤ rd l i ∧ rd l i ≤ B
theorem rd_zero (i : Int) : rd [0, 0, 0, 0, 0, 0, 0, 0] i = 0 := by
  unfold rd
  rw [List.getD_eq_getElem?_getD]
  rcases Nat.lt_or_ge i.toNat 8 with h | h
  · have : i.toNat = 0 ∨ i.toNat = 1 ∨ i.toNat = 2 ∨ i.toNat = 3 ∨ i.toNat = 4 ∨ i.toNat = 5 ∨ i.toNat = 6 ∨ i.toNat = 7 := by omega
    rcases this with e | e | e | e | e | e | e | e <;> rw [e] <;> rfl
  · rw [List.getElem?_eq_none (by simpa using h)]
    rfl
theorem fits_zero : Fits [0, 0, 0, 0, 0, 0, 0, 0] 0 := ⟨rfl, fun i => by rw [rd_zero]; omega⟩
theorem fits_bump {l : List Int} {B : Int} (h : Fits l B) (n : Int) : Fits (bump l n) (B + 1) := by
  refine ⟨by rw [bump, List.length_set, h.1], fun i => ?_⟩
  have hi := h.2 i
  have hn := h.2 n
  unfold bump
  unfold rd at *
  rw [List.getD_eq_getElem?_getD, List.getElem?_set]
  split
  · split
    · simp only [Option.getD_some]; omega
    · simp only [Option.getD_none]; omega
  · rw [← List.getD_eq_getElem?_getD]; omega
theorem fits_inn {l : List Int} {B : Int} (h : Fits l B) (s : Int) : ∀ i : Nat, Fits (inn l s i) (B + i)
  | 0 => by simpa [inn] using h
  | i + 1 => by
    have := fits_bump (fits_inn h s i) ((s + i) % 8)
    simp only [inn]
    rwa [show B + ((i + 1 : Nat) : Int) = B + i + 1 by omega]
theorem fits_C (f : Int) : ∀ j : Nat, Fits (stC f j) (6 * j)
  | 0 => fits_zero
  | j + 1 => by
    have := fits_inn (fits_C f j) (f + j) 6
    simp only [stC]
    rwa [show 6 * ((j + 1 : Nat) : Int) = 6 * j + (6 : Nat) by omega]
theorem fits_F (f : Int) : ∀ j : Nat, Fits (stF f j) j
  | 0 => fits_zero
  | j + 1 => by
    have := fits_bump (fits_F f j) ((f + j + 5) % 8)
    simp only [stF]
    rwa [show ((j + 1 : Nat) : Int) = (j : Int) + 1 by omega]
theorem endC (f : Int) (hf : 0 ≤ f ∧ f < 33) : stC f 8 = [6, 6, 6, 6, 6, 6, 6, 6] ∧ stF f 8 = [1, 1, 1, 1, 1, 1, 1, 1] := by
  have h : ∀ t : Fin 33, stC (t.1 : Int) 8 = [6, 6, 6, 6, 6, 6, 6, 6] ∧ stF (t.1 : Int) 8 = [1, 1, 1, 1, 1, 1, 1, 1] := by decide +kernel
  have := h ⟨f.toNat, by omega⟩
  simp only [Int.toNat_of_nonneg hf.1] at this
  exact this
theorem rd_same (c : Int) (x : Nat) (h : x < 8) : rd [c, c, c, c, c, c, c, c] (x : Int) = c := by
  have : x = 0 ∨ x = 1 ∨ x = 2 ∨ x = 3 ∨ x = 4 ∨ x = 5 ∨ x = 6 ∨ x = 7 := by omega
  rcases this with rfl | rfl | rfl | rfl | rfl | rfl | rfl | rfl <;> rfl
theorem ends (f : Int) (hf : 0 ≤ f ∧ f < 33) : corbelref7_Logs.f 20 f = some (lst f) ∧ corbelref7_SameInts.f 20 (lst f) (lst f) = some true := by
  have h : ∀ t : Fin 33, corbelref7_Logs.f 20 (t.1 : Int) = some (lst (t.1 : Int)) ∧ corbelref7_SameInts.f 20 (lst (t.1 : Int)) (lst (t.1 : Int)) = some true := by decide +kernel
  have := h ⟨f.toNat, by omega⟩
  simp only [Int.toNat_of_nonneg hf.1] at this
  exact this
def arr (l : List Int) : Array Value := (nums .i64 l).toArray
theorem arr_zero : arr [0, 0, 0, 0, 0, 0, 0, 0] = #[.int .i64 0, .int .i64 0, .int .i64 0, .int .i64 0, .int .i64 0, .int .i64 0, .int .i64 0, .int .i64 0] := rfl
theorem arr_at {l : List Int} {B : Int} (h : Fits l B) (n : Int) (h0 : 0 ≤ n) (h1 : n < 8) : (arr l)[n.toNat]? = some (.int .i64 (rd l n)) := by
  have hl : n.toNat < l.length := by rw [h.1]; omega
  simp [arr, nums, rd, List.getElem?_eq_getElem hl, List.getD_eq_getElem?_getD]
theorem arr_set (l : List Int) (n : Int) (v : Int) : (arr l).setIfInBounds n.toNat (.int .i64 v) = arr (l.set n.toNat v) := by
  simp [arr, nums, List.map_set]
theorem cell_far {w : World} {a p : Addr} (h : a.block ≠ p.block) (u : Value) : (w.setCell p u).cell? a = w.cell? a := by
  unfold World.cell?
  rw [Below.heap_setCell w p u a.block h]
theorem add_block (a : Addr) (k : Nat) : (a.add k).block = a.block := by unfold Addr.add; split <;> rfl
def Lst (w : World) (ad : Addr) (l : List Int) : Prop := ∀ k : Nat, k < 8 → w.cell? (ad.add k) = some (.int .i64 (rd l k))
theorem Lst.far {w : World} {ad : Addr} {l : List Int} (h : Lst w ad l) {p : Addr} (hp : ad.block ≠ p.block) (u : Value) : Lst (w.setCell p u) ad l :=
  fun k hk => by rw [cell_far (by rw [add_block]; exact hp)]; exact h k hk
theorem lst_next (s : Int) (k : Nat) (h0 : 0 < k) (h1 : k < 8) : rd (lst s) (k : Int) = (rd (lst s) ((k : Int) - 1) + 1) % 8 ∧ 0 ≤ rd (lst s) ((k : Int) - 1) ∧ rd (lst s) ((k : Int) - 1) < 8 := by
  rw [lst_at s k (by omega) (by omega), lst_at s ((k : Int) - 1) (by omega) (by omega)]
  omega
theorem rem_bd (a : Int) : ∃ f, f = (if Int.tmod a 33 < 0 then Int.tmod a 33 + 33 else Int.tmod a 33) ∧ 0 ≤ f ∧ f < 33 := by
  have h1 := Int.tmod_lt_of_pos a (show (0 : Int) < 33 by omega)
  have h2 : -33 < Int.tmod a 33 := by have := Int.lt_tmod_of_pos a (show (0 : Int) < 33 by omega); omega
  refine ⟨_, rfl, ?_, ?_⟩ <;> split <;> omega

set_option maxHeartbeats 4000000 in
set_option maxRecDepth 100000 in
theorem walk (a0 : Int) (w : World) : Calls Try.prog 6 #[.int .i64 a0] w fun e w' => e = .returned (.bool true) ∧ Below w.heap.size w w' := by
  have h1 := Int.tmod_lt_of_pos a0 (show (0 : Int) < 33 by omega)
  have h2 : -33 < Int.tmod a0 33 := by have := Int.lt_tmod_of_pos a0 (show (0 : Int) < 33 by omega); omega
  have HB := Aside0.mk (Below.refl w.heap.size w)
  go_enter Try.func6, Try.ntmps6
  go_wp2_with fail
  refine (corbellaw13_known.calls 20 true _ known_true).mono ?_
  rintro e w3 ⟨rfl, hb3⟩
  have HB3 := Aside0.mk (below_step HB.out hb3)
  clear hb3 HB
  obtain ⟨g, hg⟩ : ∃ g, g = w3.heap.size := ⟨_, rfl⟩
  have G := Aside0.mk hg
  clear hg
  by_cases ht0 : Int.tmod a0 33 < 0
  focus
    obtain ⟨f, hf⟩ : ∃ f, f = Int.tmod a0 33 + 33 := ⟨_, rfl⟩
    have hf0 : 0 ≤ f := by omega
    have hf1 : f < 33 := by omega
    have hwf := Aside0.mk (show wrap64 (Int.tmod a0 33 + 33) = f by rw [wrap_in (by omega) (by omega), hf])
    have hb0 : decide (Int.tmod a0 33 < 0) = true := decide_eq_true ht0
    clear ht0 h1 h2 hf
    go_wp2_with fail
    rw [hwf.out]
  rotate_left
  focus
    obtain ⟨f, hf⟩ : ∃ f, f = Int.tmod a0 33 := ⟨_, rfl⟩
    have hf0 : 0 ≤ f := by omega
    have hf1 : f < 33 := by omega
    have hb0 : decide (Int.tmod a0 33 < 0) = false := decide_eq_false ht0
    have hwf := Aside0.mk hf
    clear ht0 h1 h2 hf
    go_wp2_with fail
    rw [← hwf.out]
  all_goals
    rw [← G.out]
    clear hb0 hwf
    go_loopw [5] (fun i wr => ∃ j : Nat, i = .int .i64 (f + j) ∧ Aside0 (j ≤ 8) ∧ Aside0 (wr.heap[g]? = some (.cells (arr (stC f j)) 31 (0, 0))) ∧ Aside0 (wr.heap[g + 1]? = some (.cells (arr (stF f j)) 31 (0, 0))) ∧ Aside0 (Below w3.heap.size w3 wr)) (fun i _ => (f + 8 - intOf i).toNat)
    case atStart =>
      refine ⟨0, by simp, ⟨by omega⟩, ⟨?_⟩, ⟨?_⟩, ⟨((Below.refl _ _).alloc (Nat.le_refl _) _).alloc (by simp) _⟩⟩
      · rw [show stC f 0 = [0, 0, 0, 0, 0, 0, 0, 0] from rfl, arr_zero, G.out]
        exact blk_alloc (blk_new _ _) _
      · rw [show stF f 0 = [0, 0, 0, 0, 0, 0, 0, 0] from rfl, arr_zero, G.out]
        have := blk_new (w3.alloc (.cells #[.int .i64 0, .int .i64 0, .int .i64 0, .int .i64 0, .int .i64 0, .int .i64 0, .int .i64 0, .int .i64 0] 31)) (.cells #[.int .i64 0, .int .i64 0, .int .i64 0, .int .i64 0, .int .i64 0, .int .i64 0, .int .i64 0, .int .i64 0] 31)
        simpa using this
    case round =>
      obtain ⟨j, rfl, HJ, B3, B4, HW⟩ := hrel
      have hj := HJ.out
      by_cases hlt : j < 8
      · obtain ⟨s, hs⟩ : ∃ s, s = f + (j : Int) := ⟨_, rfl⟩
        have hs0 : 0 ≤ s := by omega
        have hs1 : s < 40 := by omega
        have hlb : decide (s < f + 8) = true := by rw [decide_eq_true_eq]; omega
        have LOGS := Aside0.mk (logs_f s ⟨hs0, hs1⟩)
        have HG1 := Aside0.mk (blk_lt B4.out)
        have RIGHT := Aside0.mk (show place_Right.f s = some true by rw [right_eq, decide_eq_true ⟨hs0, hs1⟩])
        have HS := Aside0.mk hs
        have HLT := Aside0.mk hlt
        rw [← hs]
        clear hj hlt hs
        go_wp2_with fail
        refine (place_Logs.calls 20 s _ _ LOGS.out).mono ?_
        rintro e w4 ⟨vl, rfl, hol, hb4⟩
        have HOL := Aside0.mk (Kd.R_reads hol)
        obtain ⟨inner, hown⟩ := Kd.R_own hol
        have hbase := own_base hown
        clear hown hol
        obtain ⟨AL, cL, rfl, hcl, hC⟩ := HOL.out
        have HC := Aside0.mk hC
        have B3' := Aside0.mk (blk_below B3.out hb4)
        have B4' := Aside0.mk (blk_below B4.out hb4)
        have HW' := Aside0.mk (below_step HW.out hb4)
        clear hC hcl HOL hb4 B3 B4 HW
        go_wp2_with fail
        refine (place_Right.calls s true _ RIGHT.out).mono ?_
        rintro e w5 ⟨rfl, ⟨n5, rfl⟩⟩
        obtain ⟨n, hn⟩ : ∃ n, n = (s + 5) % 8 := ⟨_, rfl⟩
        have hn0 : 0 ≤ n := by omega
        have hn1 : n < 8 := by omega
        have hneg : decide (n < 0) = false := by rw [decide_eq_false_iff_not]; omega
        have hge : decide (8 ≤ n) = false := by rw [decide_eq_false_iff_not]; omega
        obtain ⟨ad, hA, he0⟩ := Kd.at_int HC.out 0 (by omega) (by simp)
        cases hA
        rw [show rd [(s + 5) % 8, (s + 6) % 8, (s + 7) % 8, s % 8, (s + 1) % 8, (s + 2) % 8, (s + 3) % 8, (s + 4) % 8] 0 = n by rw [hn]; rfl] at he0
        have he0' : w4.cell? ad = some (.int .i64 n) := he0
        have hadb : wr.heap.size ≤ ad.block := hbase ad.block rfl
        have hg1 : g + 1 < wr.heap.size := HG1.out
        have NE := Aside0.mk (show ad.block ≠ g ∧ ad.block ≠ g + 1 by omega)
        have LS := Aside0.mk (show Lst w4 ad (lst s) from fun k hk => by
          obtain ⟨ad', hA', h⟩ := Kd.at_int HC.out (k : Int) (by omega) (by simp; omega)
          cases hA'
          rwa [Int.toNat_natCast] at h)
        clear hadb hg1 hbase
        have fF := fits_F f j
        have hq := (fF.2 n).1
        have hq1 := (fF.2 n).2
        have hcell : (w4.drewN n5).cell? ⟨g + 1, n.toNat, none⟩ = some (.int .i64 (rd (stF f j) n)) := by
          rw [blk_cell (blk_drewN B4'.out n5), arr_at fF n hn0 hn1]
        have hfz := blk_frozen (blk_drewN B4'.out n5) n.toNat
        have HN := Aside0.mk hn
        have hjj := HLT.out
        clear hn he0
        go_wp2_with fail
        have HF1 := Aside0.mk (show stF f (j + 1) = bump (stF f j) n by rw [HN.out, HS.out]; rfl)
        go_loopw [7] (fun v wr => ∃ i : Nat, v = .int .i64 i ∧ Aside0 (i ≤ 6) ∧ Aside0 (wr.heap[g]? = some (.cells (arr (inn (stC f j) s i)) 31 (0, 0))) ∧ Aside0 (wr.heap[g + 1]? = some (.cells (arr (stF f (j + 1))) 31 (0, 0))) ∧ Aside0 (Lst wr ad (lst s)) ∧ Aside0 (Below w3.heap.size w3 wr)) (fun v _ => 6 - (intOf v).toNat)
        case atStart =>
          refine ⟨0, rfl, ⟨by omega⟩, ⟨blk_far (blk_drewN B3'.out _) (by simp) _⟩, ⟨?_⟩, ⟨Lst.far (w := w4.drewN n5) LS.out NE.out.2 _⟩, ⟨(pw_below_drewN HW'.out _).setCell (by rw [G.out]; simp) _⟩⟩
          rw [HF1.out, bump, ← arr_set]
          exact blk_set (blk_drewN B4'.out _) _ _
        case round =>
          clear hcell hfz he0' LS
          obtain ⟨i, rfl, HI, B3, B4, LS, HW⟩ := hrel
          have hi := HI.out
          by_cases hlt : i < 6
          · obtain ⟨m, hm⟩ : ∃ m, m = (s + (i : Int)) % 8 := ⟨_, rfl⟩
            have hm0 : 0 ≤ m := by omega
            have hm1 : m < 8 := by omega
            have hneg : decide (m < 0) = false := by rw [decide_eq_false_iff_not]; omega
            have hge : decide (8 ≤ m) = false := by rw [decide_eq_false_iff_not]; omega
            have hlb2 : decide ((i : Int) < 6) = true := by rw [decide_eq_true_eq]; omega
            have NODE := Aside0.mk (show place_Node.f s (i : Int) = some m by rw [hm]; exact node_eq s i ⟨hs0, hs1⟩ ⟨by omega, by omega⟩)
            have fC := fits_inn (fits_C f j) s i
            have hq2 := (fC.2 m).1
            have hq3 := (fC.2 m).2
            have hcell2 := blk_cell B3.out m.toNat
            rw [arr_at fC m hm0 hm1] at hcell2
            have hfz2 := blk_frozen B3.out m.toNat
            have HM := Aside0.mk (show inn (stC f j) s (i + 1) = bump (inn (stC f j) s i) m by rw [hm]; rfl)
            clear hm
            go_wp2_with (go_at_call 9; refine (place_Node.calls s i m _ NODE.out).mono ?_; rintro e w' ⟨rfl, ⟨n2, rfl⟩⟩)
            go_roundw
            case rel =>
              refine ⟨i + 1, by go_num, ⟨by omega⟩, ⟨?_⟩, ⟨blk_far (blk_drewN B4.out _) (by simp) _⟩, ⟨Lst.far (w := World.drewN _ _) LS.out NE.out.1 _⟩, ⟨(pw_below_drewN HW.out _).setCell (by rw [G.out]; simp) _⟩⟩
              rw [HM.out, bump, ← arr_set]
              exact blk_set (blk_drewN B3.out _) _ _
            case measure => simp [intOf]; omega
          · obtain rfl : i = 6 := by omega
            clear hlt hi HI
            have hlen : (lst s).length = 8 := rfl
            obtain ⟨wo, rfl⟩ : ∃ wo : World, wo = wr := ⟨_, rfl⟩
            go_wp2_with fail
            go_loopw [9] (fun v wr => ∃ k m : Nat, v = .int .i64 k ∧ Aside0 (1 ≤ k ∧ k ≤ 8) ∧ wr = wo.drewN m) (fun v _ => 8 - (intOf v).toNat)
            case atStart => exact ⟨1, 0, rfl, ⟨by omega, by omega⟩, rfl⟩
            case round =>
              obtain ⟨k, mm, rfl, HK, rfl⟩ := hrel
              have hk := HK.out
              by_cases hlt : k < 8
              · have hlb3 : decide ((k : Int) < 8) = true := by rw [decide_eq_true_eq]; omega
                obtain ⟨e1, e2, e3⟩ := lst_next s k (by omega) hlt
                have hc1 := LS.out k hlt
                have hc0 := LS.out (k - 1) (by omega)
                rw [show ((k - 1 : Nat) : Int) = (k : Int) - 1 by omega] at hc0
                generalize rd (lst s) ((k : Int) - 1) = p0 at *
                rw [e1] at hc1
                have hk1 : ((k : Int) - 1).toNat = k - 1 := by omega
                have w1 : IntKind.i64.wrap ((k : Int) - 1) = (k : Int) - 1 := IntWalk.i64_in _ (by omega)
                have w2 : IntKind.i64.wrap (p0 + 1) = p0 + 1 := IntWalk.i64_in _ (by omega)
                have w3 : (p0 + 1).tmod 8 = (p0 + 1) % 8 := Int.tmod_eq_emod_of_nonneg (by omega)
                have b1 : 0 ≤ (k : Int) - 1 := by omega
                have b2 : (k : Int) - 1 < 8 := by omega
                have b3 : (k : Int) < 8 := by omega
                clear e1
                go_wp2_with fail
                go_quiet (fail)
                clear w1 w2 w3 hc0 hc1
                go_wp2
                go_roundw
                case rel => exact ⟨k + 1, mm + nq, by go_num, ⟨by omega, by omega⟩, by simp⟩
                case measure => simp [intOf]; omega
              · obtain rfl : k = 8 := by omega
                clear hlt hk HK
                go_wp2
                go_roundw
                case rel =>
                  have hs9 := HS.out
                  refine ⟨j + 1, ?_, ⟨by omega⟩, ⟨?_⟩, ⟨blk_drewN B4.out _⟩, ⟨pw_below_drewN HW.out _⟩⟩
                  · first | rw [wrap_in (by omega) (by omega)] | skip
                    rw [hs9]
                    simp only [Value.int.injEq, true_and]
                    omega
                  · rw [show stC f (j + 1) = inn (stC f j) s 6 by rw [hs9]; rfl]
                    exact blk_drewN B3.out _
                case measure =>
                  have hs9 := HS.out
                  first | rw [wrap_in (by omega) (by omega)] | skip
                  simp [intOf]
                  omega
      · obtain rfl : j = 8 := by omega
        obtain ⟨eC, eF⟩ := endC f ⟨hf0, hf1⟩
        have hlb : decide (f + 8 < f + 8) = false := by rw [decide_eq_false_iff_not]; omega
        have B3' := Aside0.mk B3.out
        have B4' := Aside0.mk B4.out
        clear hj hlt HJ
        go_wp2_with fail
        go_loop [91] (fun v => ∃ k : Nat, v = .int .i64 k ∧ Aside0 (k ≤ 8)) (fun v => 8 - (intOf v).toNat)
        case atStart => exact ⟨0, rfl, ⟨by omega⟩⟩
        case round =>
          obtain ⟨k, rfl, HK⟩ := hrel
          have hk := HK.out
          by_cases hlt : k < 8
          · have hlb3 : decide ((k : Int) < 8) = true := by rw [decide_eq_true_eq]; omega
            have hc3 := blk_cell B3.out ((k : Int).toNat)
            rw [arr_at (fits_C f 8) k (by omega) (by omega), eC, rd_same 6 k hlt, Int.toNat_natCast] at hc3
            have hc4 := blk_cell B4.out ((k : Int).toNat)
            rw [arr_at (fits_F f 8) k (by omega) (by omega), eF, rd_same 1 k hlt, Int.toNat_natCast] at hc4
            clear eC eF
            go_wp2
            go_round
            case rel => exact ⟨k + 1, by go_num, ⟨by omega⟩⟩
            case measure => simp [intOf]; omega
          · obtain rfl : k = 8 := by omega
            obtain ⟨eL, eS⟩ := ends f ⟨hf0, hf1⟩
            have EL := Aside0.mk eL
            have ES := Aside0.mk eS
            have LG := Aside0.mk (logs_f f ⟨hf0, by omega⟩)
            clear eC eF eL eS hlt hk HK B3' B4'
            go_wp2_with fail
            refine (place_Logs.calls 20 f _ _ LG.out).mono ?_
            rintro e w4 ⟨vl, rfl, hol, hb4⟩
            have HOL := Aside0.mk hol
            have HW4 := Aside0.mk (below_step HW.out hb4)
            clear hol hb4
            go_wp2_with fail
            refine (corbelref7_Logs.calls 20 f _ _ EL.out).mono ?_
            rintro e w5 ⟨vm, rfl, hol2, hb5⟩
            obtain ⟨A1, c1, rfl, hl1, hC1⟩ := Kd.R_reads HOL.out
            obtain ⟨A2, c2, rfl, hl2, hC2⟩ := Kd.R_reads hol2
            have HC1 := Aside0.mk (Kd.C_below hC1 hb5)
            have HC2 := Aside0.mk hC2
            have HL1 := Aside0.mk hl1
            have HL2 := Aside0.mk hl2
            have HW5 := Aside0.mk (below_step HW4.out hb5)
            clear hC1 hC2 hl1 hl2 hol2 hb5 HOL
            go_wp2_with fail
            refine (corbelref7_SameInts.calls 20 A1 c1 (lst f) A2 c2 (lst f) true _ HC1.out HL1.out HC2.out HL2.out ES.out).mono ?_
            rintro e w6 ⟨rfl, ⟨n6, rfl⟩⟩
            go_wp2
            go_ret
            exact ⟨rfl, below_step HB3.out (pw_below_drewN HW5.out _)⟩
end HandPlaceEven
def corbellaw13_PlaceEven.Pure : Prop := True
theorem corbellaw13_PlaceEven.walk (P : corbellaw13_PlaceEven.Pure) (a0 : Int) (w : World) (w0 : (Lit.int .i64 a0).wf = true) :
    Calls Try.prog 6 #[.int .i64 a0] w fun e w' => e = .returned (.bool true) ∧ Below w.heap.size w w' := HandPlaceEven.walk a0 w

end Go.Proofs.Ytpjadcciffgfhaa.PPlaceEven
