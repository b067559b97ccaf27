/- The field's functions as the machine runs them: each answers by the tables of YtnjeafdbifcfhaaGF. No condition. -/
import Derived.Test.YtnjeafdbifcfhaaProg
import Derived.Test.YtnjeafdbifcfhaaGF
import Derived.Test.YtnjeafdbifcfhaaWWords
import Derived.Test.YtnjeafdbifcfhaaWLast
import Derived.Test.YtnjeafdbifcfhaaWMore
import Derived.Laws.BitsLemmas
import Derived.Laws.BitsAllLaws
import Derived.RegionTactic
import Derived.BigRegion
import Derived.ChangeAlike
import Derived.Outline
import Derived.Deep.QuietTactic
import Derived.BigQuiet
namespace Go.Proofs.Ytnjeafdbifcfhaa.Fld
open Go.RowKit Go.Proofs.Ytnjeafdbifcfhaa.GF Go.Proofs.YtnjeafdbifcfhaaW.PrintWords Go.Proofs.YtnjeafdbifcfhaaW.PrintLast Go.Proofs.YtnjeafdbifcfhaaW.PrintMore
set_option linter.unusedVariables false
set_option linter.unusedSimpArgs false
/-- The cells of a field whose tables hold these. -/
def fc (ex lg : List Nat) : Array Value := (ex.map (fun x : Nat => Value.int .u8 (x : Int)) ++ lg.map (fun x : Nat => Value.int .i64 (x : Int))).toArray
theorem exL_len (n : Nat) : (exL n).length = 255 := by
  induction n with
  | zero => exact List.length_replicate
  | succ n ih => rw [exL, List.length_set, ih]
theorem lgL_len (n : Nat) : (lgL n).length = 256 := by
  induction n with
  | zero => exact List.length_replicate
  | succ n ih => rw [lgL, List.length_set, ih]
theorem fc_ex {ex lg : List Nat} (h : ex.length = 255) (i : Nat) (hi : i < 255) : (fc ex lg)[i]? = some (.int .u8 ((ex.getD i 0 : Nat) : Int)) := by
  have h1 : i < ex.length := by omega
  simp [fc, List.getElem?_append_left, h1, List.getElem?_eq_getElem, List.getD_eq_getElem?_getD]
theorem fc_lg {ex lg : List Nat} (h : ex.length = 255) (h' : lg.length = 256) (i : Nat) (hi : i < 256) : (fc ex lg)[255 + i]? = some (.int .i64 ((lg.getD i 0 : Nat) : Int)) := by
  have h1 : i < lg.length := by omega
  simp [fc, List.getElem?_append_right, h, h1, List.getElem?_eq_getElem, List.getD_eq_getElem?_getD]
theorem fc_set_ex {ex lg : List Nat} (h : ex.length = 255) (i x : Nat) (hi : i < 255) : (fc ex lg).setIfInBounds i (.int .u8 (x : Int)) = fc (ex.set i x) lg := by
  simp [fc, List.set_append, h, hi, List.map_set]
theorem fc_set_lg {ex lg : List Nat} (h : ex.length = 255) (i x : Nat) : (fc ex lg).setIfInBounds (255 + i) (.int .i64 (x : Int)) = fc ex (lg.set i x) := by
  simp [fc, List.set_append, h, List.map_set]
theorem zero_fc : Try.zeroCells72 = fc (exL 0) (lgL 0) := by kernel_rfl
theorem last_fc : exL 255 = powL ∧ lgL 255 = logL := by decide +kernel
theorem xor_i64 (a b : Nat) (ha : a < 512) (hb : b < 512) : Go.bits .xor .i64 (a : Int) (b : Int) = ((a ^^^ b : Nat) : Int) := by
  have hx : a ^^^ b < 2 ^ 9 := Nat.xor_lt_two_pow (by omega) (by omega)
  have h64 : ∀ n : Nat, n < 512 → n % 2 ^ IntKind.i64.bits = n := fun n h => Nat.mod_eq_of_lt (Nat.lt_of_lt_of_le h (by decide))
  simp only [bits, BitVec.ofInt_natCast, BitVec.toNat_xor, BitVec.toNat_ofNat, h64 a ha, h64 b hb]
  rw [IntKind.wrap_i64]
  omega
theorem both_set {wr : World} {g n x : Nat} (hn : n < 255) (h : wr.heap[g]? = some (.cells (fc (exL n) (lgL n)) 72 (0, 0))) (hx : x = E n) :
    ((wr.setCell ⟨g, n, none⟩ (.int .u8 (x : Int))).setCell ⟨g, 255 + x, none⟩ (.int .i64 (n : Int))).drew.heap[g]? = some (.cells (fc (exL (n + 1)) (lgL (n + 1))) 72 (0, 0)) := by
  have h1 := blk_set h n (.int .u8 (x : Int))
  rw [fc_set_ex (exL_len n) n x hn] at h1
  have h2 := blk_set h1 (255 + x) (.int .i64 (n : Int))
  rw [fc_set_lg (by rw [List.length_set]; exact exL_len n) x n] at h2
  rw [exL, lgL, ← hx]
  exact h2
theorem E_bd (n : Nat) (h : n < 255) : 0 < E n ∧ E n < 256 := by
  rw [← X_eq n h]
  exact ⟨(X_bd n h).1, (X_bd n h).2.1⟩

set_option maxHeartbeats 4000000 in
set_option maxRecDepth 100000 in
theorem new_calls (w : World) : Calls Try.prog 18 #[] w fun e w' => ∃ g, e = .returned (.pointer (some ⟨g, 0, none⟩)) ∧ w.heap.size ≤ g ∧ w'.heap[g]? = some (.cells (fc powL logL) 72 (0, 0)) ∧ Below w.heap.size w w' := by
  go_enter Try.func18, Try.ntmps18
  go_wp2
  obtain ⟨g, hg⟩ : ∃ g, g = w.heap.size := ⟨_, rfl⟩
  have G := Aside0.mk hg
  rw [← hg]
  clear hg
  go_loopw [2, 6] (fun v i wr => ∃ n : Nat, i = .int .i64 n ∧ v = .int .i64 (E n : Nat) ∧ Aside0 (n ≤ 255) ∧ Aside0 (wr.heap[g]? = some (.cells (fc (exL n) (lgL n)) 72 (0, 0))) ∧ Aside0 (Below w.heap.size w wr)) (fun _ i _ => 255 - (intOf i).toNat)
  case atStart =>
    refine ⟨0, rfl, rfl, ⟨by omega⟩, ⟨?_⟩, ⟨(Below.refl _ _).alloc (Nat.le_refl _) _⟩⟩
    rw [← zero_fc, G.out]
    exact blk_new _ _
  case round =>
    obtain ⟨n, rfl, rfl, HN, BK, HB⟩ := hrel
    have hn := HN.out
    by_cases hlt : n < 255
    · obtain ⟨x, hx⟩ : ∃ x : Nat, x = E n := ⟨_, rfl⟩
      have hxb := E_bd n hlt
      rw [← hx] at hxb ⊢
      have hx0 : 0 < x := hxb.1
      have hx1 : x < 256 := hxb.2
      have hlb : decide ((n : Int) < 255) = true := by rw [decide_eq_true_eq]; omega
      have c1 : wr.cell? ⟨g, n, none⟩ = some (.int .u8 (((exL n).getD n 0 : Nat) : Int)) := by rw [blk_cell BK.out, fc_ex (exL_len n) n hlt]
      have c2 : wr.cell? ⟨g, 255 + x, none⟩ = some (.int .i64 (((lgL n).getD x 0 : Nat) : Int)) := by rw [blk_cell BK.out, fc_lg (exL_len n) (lgL_len n) x hx1]
      have f1 := blk_frozen BK.out n
      have f2 := blk_frozen BK.out (255 + x)
      have HX := Aside0.mk hx
      have HLT := Aside0.mk hlt
      have wx : IntKind.u8.wrap (x : Int) = (x : Int) := by rw [IntKind.wrap_u8]; omega
      generalize (((exL n).getD n 0 : Nat) : Int) = o1 at c1
      generalize (((lgL n).getD x 0 : Nat) : Int) = o2 at c2
      clear hx hxb
      go_wp2_with fail
      go_region
      have hs0 : 0 ≤ (x : Int) * 2 := by omega
      have hs1 : (x : Int) * 2 < 512 := by omega
      by_cases hbig : 255 < 2 * x
      · have hbb : decide (255 < (x : Int) * 2) = true := by rw [decide_eq_true_eq]; omega
        go_wp2
        go_roundw
        case rel =>
          refine ⟨n + 1, by go_num, ?_, ⟨by have := HLT.out; omega⟩, ⟨?_⟩, ⟨?_⟩⟩
          · rw [E, ← HX.out, xt, if_pos (by omega), show ((x : Int) * 2) = ((2 * x : Nat) : Int) by omega, show (285 : Int) = ((285 : Nat) : Int) from rfl, xor_i64 (2 * x) 285 (by omega) (by omega)]
          · exact both_set HLT.out BK.out HX.out
          · exact below_drew ((HB.out.setCell (by rw [G.out]; exact Nat.le_refl _) _).setCell (by rw [G.out]; exact Nat.le_refl _) _)
        case measure => simp [intOf]; have := HLT.out; omega
      · have hbb : decide (255 < (x : Int) * 2) = false := by rw [decide_eq_false_iff_not]; omega
        go_wp2
        go_roundw
        case rel =>
          refine ⟨n + 1, by go_num, ?_, ⟨by have := HLT.out; omega⟩, ⟨?_⟩, ⟨?_⟩⟩
          · rw [E, ← HX.out, xt, if_neg (by omega), show ((x : Int) * 2) = ((2 * x : Nat) : Int) by omega]
          · exact both_set HLT.out BK.out HX.out
          · exact below_drew ((HB.out.setCell (by rw [G.out]; exact Nat.le_refl _) _).setCell (by rw [G.out]; exact Nat.le_refl _) _)
        case measure => simp [intOf]; have := HLT.out; omega
    · obtain rfl : n = 255 := by omega
      obtain ⟨l1, l2⟩ := last_fc
      have BK' := BK.out
      rw [l1, l2] at BK'
      have BK2 := Aside0.mk BK'
      clear BK BK' l1 l2 hn HN hlt
      go_wp2
      go_ret
      exact ⟨g, rfl, by rw [G.out]; exact Nat.le_refl _, BK2.out, HB.out⟩

/-- A field lies there. -/
structure FieldAt (w : World) (g : Nat) : Prop where mk :: (out : w.heap[g]? = some (.cells (fc powL logL) 72 (0, 0)))
theorem FieldAt.drewN {w : World} {g : Nat} (h : FieldAt w g) (n : Nat) : FieldAt (w.drewN n) g := ⟨h.out⟩
theorem FieldAt.below {w w1 : World} {g : Nat} (h : FieldAt w g) (hb : Below w.heap.size w w1) : FieldAt w1 g := ⟨blk_below h.out hb⟩
theorem FieldAt.ex {w : World} {g : Nat} (h : FieldAt w g) (i : Nat) (hi : i < 255) : w.cell? ⟨g, i, none⟩ = some (.int .u8 ((X i : Nat) : Int)) := by
  rw [blk_cell h.out, fc_ex powL_len i hi]
  rfl
theorem FieldAt.lg {w : World} {g : Nat} (h : FieldAt w g) (a : Nat) (ha : a < 256) : w.cell? ⟨g, 255 + a, none⟩ = some (.int .i64 ((L a : Nat) : Int)) := by
  rw [blk_cell h.out, fc_lg powL_len logL_len a ha]
  rfl
theorem L_lt (a : Nat) (h : a < 256) : L a < 255 := by
  by_cases h0 : a = 0
  · rw [h0, L_zero]; omega
  · exact (L_bd a (by omega) h).2

set_option maxHeartbeats 4000000 in
set_option maxRecDepth 100000 in
theorem mul_calls (g a b : Nat) (w : World) (ha : a < 256) (hb : b < 256) (HF : FieldAt w g) :
    Calls Try.prog 21 #[.pointer (some ⟨g, 0, none⟩), .int .u8 (a : Int), .int .u8 (b : Int)] w fun e w' => e = .returned (.int .u8 ((gm a b : Nat) : Int)) ∧ Drawn0 w w' := by
  by_cases h0 : a = 0
  · have e1 : ((a : Int) == 0) = true := by rw [beq_iff_eq]; omega
    have hz : gm a b = 0 := by rw [h0, gm_zero_l]
    rw [hz]
    clear h0 hz
    go_enter Try.func21, Try.ntmps21
    go_wp2
    go_ret
    exact ⟨rfl, by repeat (first | exact Drawn0.refl _ | apply Drawn0.step)⟩
  · have e1 : ((a : Int) == 0) = false := by rw [beq_eq_false_iff_ne]; omega
    by_cases h1 : b = 0
    · have e2 : ((b : Int) == 0) = true := by rw [beq_iff_eq]; omega
      have hz : gm a b = 0 := by rw [h1, gm_zero_r]
      rw [hz]
      clear h0 h1 hz
      go_enter Try.func21, Try.ntmps21
      go_wp2
      go_ret
      exact ⟨rfl, by repeat (first | exact Drawn0.refl _ | apply Drawn0.step)⟩
    · have e2 : ((b : Int) == 0) = false := by rw [beq_eq_false_iff_ne]; omega
      have hz : gm a b = X ((L a + L b) % 255) := by unfold gm; rw [if_neg (by omega)]
      rw [hz]
      have c1 := HF.lg a ha
      have c2 := HF.lg b hb
      have c3 := HF.ex ((L a + L b) % 255) (Nat.mod_lt _ (by omega))
      have l1 := L_lt a ha
      have l2 := L_lt b hb
      generalize X ((L a + L b) % 255) = v at *
      generalize L a = la at *
      generalize L b = lb at *
      have w1 : IntKind.i64.wrap ((la : Int) + (lb : Int)) = (la : Int) + (lb : Int) := IntWalk.i64_in _ (by omega)
      have w2 : ((la : Int) + (lb : Int)).tmod 255 = ((la : Int) + (lb : Int)) % 255 := Int.tmod_eq_emod_of_nonneg (by omega)
      have w3 : (((la : Int) + (lb : Int)) % 255).toNat = (la + lb) % 255 := by omega
      have b1 : 0 ≤ ((la : Int) + (lb : Int)) % 255 := by omega
      have b2 : ((la : Int) + (lb : Int)) % 255 < 255 := by omega
      clear h0 h1 hz HF
      go_enter Try.func21, Try.ntmps21
      go_wp2_with fail
      go_quiet (fail)
      clear w1 w2 w3 c1 c2 c3
      go_wp2
      go_ret
      exact ⟨rfl, by repeat (first | exact Drawn0.refl _ | apply Drawn0.step)⟩

/-- 2, so many times. -/
def ep (n : Int) : Nat := X (n.tmod 255 % 255).toNat
set_option maxHeartbeats 4000000 in
set_option maxRecDepth 100000 in
theorem exp_calls (g : Nat) (n : Int) (w : World) (HF : FieldAt w g) :
    Calls Try.prog 20 #[.pointer (some ⟨g, 0, none⟩), .int .i64 n] w fun e w' => e = .returned (.int .u8 ((ep n : Nat) : Int)) ∧ Drawn0 w w' := by
  have h1 := Int.tmod_lt_of_pos n (show (0 : Int) < 255 by omega)
  have h2 : -255 < Int.tmod n 255 := by have := Int.lt_tmod_of_pos n (show (0 : Int) < 255 by omega); omega
  unfold ep
  have c1 := HF.ex (n.tmod 255 % 255).toNat (by omega)
  generalize X (n.tmod 255 % 255).toNat = v at *
  have b1 : 0 ≤ (n.tmod 255 + 255) % 255 := by omega
  have b2 : (n.tmod 255 + 255) % 255 < 255 := by omega
  clear HF
  go_enter Try.func20, Try.ntmps20
  go_wp2
  go_ret
  exact ⟨rfl, by repeat (first | exact Drawn0.refl _ | apply Drawn0.step)⟩
set_option maxHeartbeats 4000000 in
set_option maxRecDepth 100000 in
theorem inv_calls (g a : Nat) (w : World) (ha : a < 256) (HF : FieldAt w g) :
    Calls Try.prog 22 #[.pointer (some ⟨g, 0, none⟩), .int .u8 (a : Int)] w fun e w' => e = .returned (.tuple #[.int .u8 ((if a = 0 then 0 else gi a : Nat) : Int), .bool (decide (a ≠ 0))]) ∧ Drawn0 w w' := by
  by_cases h0 : a = 0
  · have e1 : ((a : Int) == 0) = true := by rw [beq_iff_eq]; omega
    rw [if_pos h0, decide_eq_false (by omega)]
    clear h0
    go_enter Try.func22, Try.ntmps22
    go_wp2
    go_ret2
    exact ⟨rfl, by repeat (first | exact Drawn0.refl _ | apply Drawn0.step)⟩
  · have e1 : ((a : Int) == 0) = false := by rw [beq_eq_false_iff_ne]; omega
    rw [if_neg h0, decide_eq_true h0]
    have c1 := HF.lg a ha
    have c3 := HF.ex ((255 - L a) % 255) (Nat.mod_lt _ (by omega))
    have l1 := L_lt a ha
    unfold gi
    generalize X ((255 - L a) % 255) = v at *
    generalize L a = la at *
    have w1 : IntKind.i64.wrap (255 - (la : Int)) = 255 - (la : Int) := IntWalk.i64_in _ (by omega)
    have w2 : (255 - (la : Int)).tmod 255 = (255 - (la : Int)) % 255 := Int.tmod_eq_emod_of_nonneg (by omega)
    have w3 : (-(la : Int) % 255).toNat = (255 - la) % 255 := by omega
    have b1 : 0 ≤ -(la : Int) % 255 := by omega
    have b2 : -(la : Int) % 255 < 255 := by omega
    have b3 : (a : Int) < 256 := by omega
    clear h0 HF
    go_enter Try.func22, Try.ntmps22
    go_wp2_with fail
    go_quiet (fail)
    clear w1 w2 w3 c1 c3
    go_wp2
    go_ret2
    exact ⟨rfl, by repeat (first | exact Drawn0.refl _ | apply Drawn0.step)⟩
set_option maxHeartbeats 4000000 in
set_option maxRecDepth 100000 in
theorem log_calls (g a : Nat) (w : World) (ha : a < 256) (HF : FieldAt w g) :
    Calls Try.prog 24 #[.pointer (some ⟨g, 0, none⟩), .int .u8 (a : Int)] w fun e w' => e = .returned (.tuple #[.int .i64 ((L a : Nat) : Int), .bool (decide (a ≠ 0))]) ∧ Drawn0 w w' := by
  by_cases h0 : a = 0
  · have e1 : ((a : Int) == 0) = true := by rw [beq_iff_eq]; omega
    rw [decide_eq_false (by omega)]
    have hz : L a = 0 := by rw [h0, L_zero]
    rw [hz]
    clear h0 hz
    go_enter Try.func24, Try.ntmps24
    go_wp2
    go_ret2
    exact ⟨rfl, by repeat (first | exact Drawn0.refl _ | apply Drawn0.step)⟩
  · have e1 : ((a : Int) == 0) = false := by rw [beq_eq_false_iff_ne]; omega
    rw [decide_eq_true h0]
    have c1 := HF.lg a ha
    generalize L a = la at *
    clear h0 HF
    go_enter Try.func24, Try.ntmps24
    go_wp2
    go_ret2
    exact ⟨rfl, by repeat (first | exact Drawn0.refl _ | apply Drawn0.step)⟩
set_option maxHeartbeats 4000000 in
set_option maxRecDepth 100000 in
theorem add_calls (p : Value) (a b : Nat) (w : World) (ha : a < 256) (hb : b < 256) :
    Calls Try.prog 28 #[p, .int .u8 (a : Int), .int .u8 (b : Int)] w fun e w' => e = .returned (.int .u8 ((a ^^^ b : Nat) : Int)) ∧ Drawn0 w w' := by
  have hx := u8_xor_nat a b ha hb
  go_enter Try.func28, Try.ntmps28
  go_wp2
  go_ret
  exact ⟨by rw [← hx]; rfl, by repeat (first | exact Drawn0.refl _ | apply Drawn0.step)⟩
/-- One by another one; 0 where there is none. -/
def qd (a b : Nat) : Nat := if b = 0 then 0 else gm a (gi b)
set_option maxHeartbeats 4000000 in
set_option maxRecDepth 100000 in
theorem div_calls (g a b : Nat) (w : World) (ha : a < 256) (hb : b < 256) (HF : FieldAt w g) :
    Calls Try.prog 23 #[.pointer (some ⟨g, 0, none⟩), .int .u8 (a : Int), .int .u8 (b : Int)] w fun e w' => e = .returned (.tuple #[.int .u8 ((qd a b : Nat) : Int), .bool (decide (b ≠ 0))]) ∧ Drawn0 w w' := by
  have hq : qd a b = gm a (if b = 0 then 0 else gi b) := by
    unfold qd
    split
    · rw [gm_zero_r]
    · rfl
  have hi : (if b = 0 then 0 else gi b) < 256 := by
    split
    · omega
    · exact (gi_bd b).2
  rw [hq]
  have HI := Aside0.mk (inv_calls g b · hb)
  generalize (if b = 0 then 0 else gi b) = iv at *
  have HF' := Aside0.mk HF
  clear hq HF
  go_enter Try.func23, Try.ntmps23
  go_wp2_with (first | (go_at_call 22; refine (HI.out _ HF'.out).mono ?_; rintro e w' ⟨rfl, ⟨n1, rfl⟩⟩) | (go_at_call 21; refine (mul_calls g a iv _ ha hi (HF'.out.drewN _)).mono ?_; rintro e w' ⟨rfl, ⟨n2, rfl⟩⟩))
  go_ret2
  exact ⟨by first | rfl | (simp; done), by repeat (first | exact Drawn0.refl _ | apply Drawn0.step)⟩

/-! The same over Ints. -/
def gI (a b : Int) : Int := ((gm a.toNat b.toNat : Nat) : Int)
def iI (a : Int) : Int := ((gi a.toNat : Nat) : Int)
def eI (n : Int) : Int := ((ep n : Nat) : Int)
def lI (a : Int) : Int := ((L a.toNat : Nat) : Int)
def qI (a b : Int) : Int := ((qd a.toNat b.toNat : Nat) : Int)
def xI (a b : Int) : Int := ((a.toNat ^^^ b.toNat : Nat) : Int)
def By (a : Int) : Prop := 0 ≤ a ∧ a < 256
theorem gI_by (a b : Int) : By (gI a b) := by unfold By gI; have := gm_lt a.toNat b.toNat; omega
theorem iI_by (a : Int) : By (iI a) := by unfold By iI; have := gi_bd a.toNat; omega
theorem ep_bd (n : Int) : 0 < ep n ∧ ep n < 256 := by
  unfold ep
  have := X_bd (n.tmod 255 % 255).toNat (by omega)
  exact ⟨this.1, this.2.1⟩
theorem eI_by (n : Int) : By (eI n) := by unfold By eI; have := ep_bd n; omega
theorem qd_lt (a b : Nat) : qd a b < 256 := by unfold qd; split; omega; exact gm_lt _ _
theorem qI_by (a b : Int) : By (qI a b) := by unfold By qI; have := qd_lt a.toNat b.toNat; omega
theorem xI_by (a b : Int) (ha : By a) (hb : By b) : By (xI a b) := by unfold By at *; unfold xI; have := xor_lt a.toNat b.toNat (by omega) (by omega); omega
theorem mulI (g : Nat) (a b : Int) (w : World) (ha : By a) (hb : By b) (HF : FieldAt w g) :
    Calls Try.prog 21 #[.pointer (some ⟨g, 0, none⟩), .int .u8 a, .int .u8 b] w fun e w' => e = .returned (.int .u8 (gI a b)) ∧ Drawn0 w w' := by
  obtain ⟨x, rfl⟩ := Int.eq_ofNat_of_zero_le ha.1
  obtain ⟨y, rfl⟩ := Int.eq_ofNat_of_zero_le hb.1
  exact mul_calls g x y w (by have := ha.2; omega) (by have := hb.2; omega) HF
theorem addI (p : Value) (a b : Int) (w : World) (ha : By a) (hb : By b) :
    Calls Try.prog 28 #[p, .int .u8 a, .int .u8 b] w fun e w' => e = .returned (.int .u8 (xI a b)) ∧ Drawn0 w w' := by
  obtain ⟨x, rfl⟩ := Int.eq_ofNat_of_zero_le ha.1
  obtain ⟨y, rfl⟩ := Int.eq_ofNat_of_zero_le hb.1
  exact add_calls p x y w (by have := ha.2; omega) (by have := hb.2; omega)
theorem expI (g : Nat) (n : Int) (w : World) (HF : FieldAt w g) :
    Calls Try.prog 20 #[.pointer (some ⟨g, 0, none⟩), .int .i64 n] w fun e w' => e = .returned (.int .u8 (eI n)) ∧ Drawn0 w w' := exp_calls g n w HF
theorem invI (g : Nat) (a : Int) (w : World) (ha : By a) (h0 : a ≠ 0) (HF : FieldAt w g) :
    Calls Try.prog 22 #[.pointer (some ⟨g, 0, none⟩), .int .u8 a] w fun e w' => e = .returned (.tuple #[.int .u8 (iI a), .bool true]) ∧ Drawn0 w w' := by
  obtain ⟨x, rfl⟩ := Int.eq_ofNat_of_zero_le ha.1
  have h := inv_calls g x w (by have := ha.2; omega) HF
  rw [if_neg (by omega), decide_eq_true (by omega)] at h
  exact h
theorem invI0 (g : Nat) (w : World) (HF : FieldAt w g) :
    Calls Try.prog 22 #[.pointer (some ⟨g, 0, none⟩), .int .u8 0] w fun e w' => e = .returned (.tuple #[.int .u8 0, .bool false]) ∧ Drawn0 w w' := by
  have h := inv_calls g 0 w (by omega) HF
  rw [if_pos rfl, decide_eq_false (by omega)] at h
  exact h
theorem logI (g : Nat) (a : Int) (w : World) (ha : By a) (h0 : a ≠ 0) (HF : FieldAt w g) :
    Calls Try.prog 24 #[.pointer (some ⟨g, 0, none⟩), .int .u8 a] w fun e w' => e = .returned (.tuple #[.int .i64 (lI a), .bool true]) ∧ Drawn0 w w' := by
  obtain ⟨x, rfl⟩ := Int.eq_ofNat_of_zero_le ha.1
  have h := log_calls g x w (by have := ha.2; omega) HF
  rw [decide_eq_true (by omega)] at h
  exact h
theorem logI0 (g : Nat) (w : World) (HF : FieldAt w g) :
    Calls Try.prog 24 #[.pointer (some ⟨g, 0, none⟩), .int .u8 0] w fun e w' => e = .returned (.tuple #[.int .i64 0, .bool false]) ∧ Drawn0 w w' := by
  have h := log_calls g 0 w (by omega) HF
  rw [decide_eq_false (by omega), L_zero] at h
  exact h
theorem divI (g : Nat) (a b : Int) (w : World) (ha : By a) (hb : By b) (h0 : b ≠ 0) (HF : FieldAt w g) :
    Calls Try.prog 23 #[.pointer (some ⟨g, 0, none⟩), .int .u8 a, .int .u8 b] w fun e w' => e = .returned (.tuple #[.int .u8 (qI a b), .bool true]) ∧ Drawn0 w w' := by
  obtain ⟨x, rfl⟩ := Int.eq_ofNat_of_zero_le ha.1
  obtain ⟨y, rfl⟩ := Int.eq_ofNat_of_zero_le hb.1
  have h := div_calls g x y w (by have := ha.2; omega) (by have := hb.2; omega) HF
  rw [decide_eq_true (by omega)] at h
  exact h
theorem divI0 (g : Nat) (a : Int) (w : World) (ha : By a) (HF : FieldAt w g) :
    Calls Try.prog 23 #[.pointer (some ⟨g, 0, none⟩), .int .u8 a, .int .u8 0] w fun e w' => e = .returned (.tuple #[.int .u8 0, .bool false]) ∧ Drawn0 w w' := by
  obtain ⟨x, rfl⟩ := Int.eq_ofNat_of_zero_le ha.1
  have h := div_calls g x 0 w (by have := ha.2; omega) (by omega) HF
  rw [decide_eq_false (by omega)] at h
  exact h
theorem gI_lit {a b c : Nat} (h : gm a b = c) : gI (a : Int) (b : Int) = (c : Int) := by unfold gI; rw [Int.toNat_natCast, Int.toNat_natCast, h]
theorem k1 : gI 128 2 = 29 := gI_lit (a := 128) (b := 2) (c := 29) (by decide +kernel)
theorem k2 : eI 8 = 29 := by decide +kernel
theorem k3 : xI 5 3 = 6 := by decide +kernel
set_option maxHeartbeats 4000000 in
set_option maxRecDepth 100000 in
theorem known_calls (w : World) : Calls Try.prog 19 #[] w fun e w' => e = .returned (.bool true) ∧ Below w.heap.size w w' := by
  go_enter Try.func19, Try.ntmps19
  go_wp2_with fail
  refine (new_calls w).mono ?_
  rintro e w1 ⟨g, rfl, hg, hf, hb⟩
  have HF := Aside0.mk (FieldAt.mk hf)
  have HB := Aside0.mk hb
  clear hf hb hg
  go_wp2_with fail
  refine (mulI g 128 2 _ (by unfold By; omega) (by unfold By; omega) (FieldAt.mk (by exact HF.out.out))).mono ?_
  rw [k1]
  rintro e w2 ⟨rfl, ⟨n2, rfl⟩⟩
  go_wp2_with fail
  refine (expI g 8 _ (FieldAt.mk (by exact HF.out.out))).mono ?_
  rw [k2]
  rintro e w2 ⟨rfl, ⟨n3, rfl⟩⟩
  go_wp2_with fail
  refine (addI _ 5 3 _ (by unfold By; omega) (by unfold By; omega)).mono ?_
  rw [k3]
  rintro e w2 ⟨rfl, ⟨n4, rfl⟩⟩
  go_wp2
  go_ret
  exact ⟨rfl, by repeat (first | exact HB.out | apply pw_below_drewN)⟩

/-! What holds of them. -/
theorem logIz (g : Nat) (a : Int) (w : World) (h0 : a = 0) (HF : FieldAt w g) :
    Calls Try.prog 24 #[.pointer (some ⟨g, 0, none⟩), .int .u8 a] w fun e w' => e = .returned (.tuple #[.int .i64 0, .bool false]) ∧ Drawn0 w w' := by
  subst h0
  exact logI0 g w HF
theorem divIz (g : Nat) (a b : Int) (w : World) (ha : By a) (h0 : b = 0) (HF : FieldAt w g) :
    Calls Try.prog 23 #[.pointer (some ⟨g, 0, none⟩), .int .u8 a, .int .u8 b] w fun e w' => e = .returned (.tuple #[.int .u8 0, .bool false]) ∧ Drawn0 w w' := by
  subst h0
  exact divI0 g a w ha HF
theorem invIz (g : Nat) (a : Int) (w : World) (h0 : a = 0) (HF : FieldAt w g) :
    Calls Try.prog 22 #[.pointer (some ⟨g, 0, none⟩), .int .u8 a] w fun e w' => e = .returned (.tuple #[.int .u8 0, .bool false]) ∧ Drawn0 w w' := by
  subst h0
  exact invI0 g w HF
theorem By.nat {a : Int} (h : By a) : ∃ x : Nat, a = (x : Int) ∧ x < 256 := ⟨a.toNat, by have := h.1; omega, by have := h.2; omega⟩
theorem gI_nat (x y : Nat) : gI (x : Int) (y : Int) = ((gm x y : Nat) : Int) := by unfold gI; rw [Int.toNat_natCast, Int.toNat_natCast]
theorem xI_nat (x y : Nat) : xI (x : Int) (y : Int) = ((x ^^^ y : Nat) : Int) := by unfold xI; rw [Int.toNat_natCast, Int.toNat_natCast]
theorem iI_nat (x : Nat) : iI (x : Int) = ((gi x : Nat) : Int) := by unfold iI; rw [Int.toNat_natCast]
theorem lI_nat (x : Nat) : lI (x : Int) = ((L x : Nat) : Int) := by unfold lI; rw [Int.toNat_natCast]
theorem qI_nat (x y : Nat) : qI (x : Int) (y : Int) = ((qd x y : Nat) : Int) := by unfold qI; rw [Int.toNat_natCast, Int.toNat_natCast]
theorem gI_comm (a b : Int) : gI a b = gI b a := by unfold gI; rw [gm_comm]
theorem gI_assoc {a b c : Int} (ha : By a) (hb : By b) (hc : By c) : gI a (gI b c) = gI (gI a b) c := by
  obtain ⟨x, rfl, hx⟩ := ha.nat
  obtain ⟨y, rfl, hy⟩ := hb.nat
  obtain ⟨z, rfl, hz⟩ := hc.nat
  rw [gI_nat, gI_nat, gI_nat, gI_nat, gm_assoc x y z hx hy hz]
theorem gI_add {a b c : Int} (ha : By a) (hb : By b) (hc : By c) : gI a (xI b c) = xI (gI a b) (gI a c) := by
  obtain ⟨x, rfl, hx⟩ := ha.nat
  obtain ⟨y, rfl, hy⟩ := hb.nat
  obtain ⟨z, rfl, hz⟩ := hc.nat
  rw [xI_nat, gI_nat, gI_nat, gI_nat, xI_nat, gm_add x y z hx hy hz]
theorem gI_one {a : Int} (ha : By a) : gI a 1 = a := by
  obtain ⟨x, rfl, hx⟩ := ha.nat
  rw [show (1 : Int) = ((1 : Nat) : Int) from rfl, gI_nat, gm_one x hx]
theorem xI_self (a : Int) : xI a a = 0 := by unfold xI; rw [Nat.xor_self]; rfl
theorem gI_z (a b : Int) (ha : By a) (hb : By b) : gI a b = 0 ↔ (a = 0 ∨ b = 0) := by
  obtain ⟨x, rfl, hx⟩ := ha.nat
  obtain ⟨y, rfl, hy⟩ := hb.nat
  rw [gI_nat]
  constructor
  · intro h
    by_cases h1 : x = 0
    · left; omega
    · by_cases h2 : y = 0
      · right; omega
      · have := gm_ne x y (by omega) (by omega)
        omega
  · rintro (h | h)
    · rw [show x = 0 by omega, gm_zero_l]; rfl
    · rw [show y = 0 by omega, gm_zero_r]; rfl
theorem iI_ne (a : Int) : iI a ≠ 0 := by unfold iI; have := gi_bd a.toNat; omega
theorem gI_iI {a : Int} (ha : By a) (h0 : a ≠ 0) : gI a (iI a) = 1 := by
  obtain ⟨x, rfl, hx⟩ := ha.nat
  rw [iI_nat, gI_nat, gm_gi x (by omega) hx]
  rfl
theorem iI_unique {a b : Int} (ha : By a) (hb : By b) (h0 : a ≠ 0) (h : gI a b = 1) : b = iI a := by
  obtain ⟨x, rfl, hx⟩ := ha.nat
  obtain ⟨y, rfl, hy⟩ := hb.nat
  rw [gI_nat] at h
  rw [iI_nat, ← gi_unique x y (by omega) hx hy (by omega)]
theorem iI_iI {a : Int} (ha : By a) (h0 : a ≠ 0) : iI (iI a) = a :=
  (iI_unique (iI_by a) ha (iI_ne a) (by rw [gI_comm, gI_iI ha h0])).symm
theorem gI_ne {a b : Int} (ha : By a) (hb : By b) (h0 : a ≠ 0) (h1 : b ≠ 0) : gI a b ≠ 0 := by
  intro h
  rcases (gI_z a b ha hb).1 h with h | h
  · exact h0 h
  · exact h1 h
theorem iI_gI {a b : Int} (ha : By a) (hb : By b) (h0 : a ≠ 0) (h1 : b ≠ 0) : iI (gI a b) = gI (iI a) (iI b) := by
  refine (iI_unique (gI_by a b) (gI_by _ _) (gI_ne ha hb h0 h1) ?_).symm
  rw [← gI_assoc ha hb (gI_by _ _), gI_comm (iI a) (iI b), gI_assoc hb (iI_by b) (iI_by a), gI_iI hb h1, gI_comm 1, gI_one (iI_by a), gI_iI ha h0]
theorem qI_eq {a b : Int} (hb : By b) (h : b ≠ 0) : qI a b = gI a (iI b) := by
  obtain ⟨y, rfl, hy⟩ := hb.nat
  unfold qI gI
  rw [iI_nat, Int.toNat_natCast, Int.toNat_natCast]
  unfold qd
  rw [if_neg (by omega)]
theorem qI_back {a b : Int} (ha : By a) (hb : By b) (h : b ≠ 0) : gI (qI a b) b = a := by
  rw [qI_eq hb h, ← gI_assoc ha (iI_by b) hb, gI_comm (iI b) b, gI_iI hb h, gI_one ha]
theorem qI_self {a : Int} (ha : By a) (h : a ≠ 0) : qI a a = 1 := by rw [qI_eq ha h, gI_iI ha h]
theorem tmod_emod (n : Int) : n.tmod 255 % 255 = n % 255 := by
  have h := Int.mul_tdiv_add_tmod n 255
  generalize n.tmod 255 = t at *
  generalize n.tdiv 255 = q at *
  omega
theorem ep_eq (n : Int) : ep n = X (n % 255).toNat := by unfold ep; rw [tmod_emod]
theorem gm_X (i j : Nat) (hi : i < 255) (hj : j < 255) : gm (X i) (X j) = X ((i + j) % 255) := by
  have h1 := X_bd i hi
  have h2 := X_bd j hj
  have h3 : gm (X i) (X j) = X ((L (X i) + L (X j)) % 255) := by
    show (if X i = 0 ∨ X j = 0 then 0 else _) = _
    rw [if_neg (by omega)]
  rw [h3, h1.2.2, h2.2.2]
theorem eI_add (n m : Int) : gI (eI n) (eI m) = eI (n + m) := by
  unfold eI
  rw [gI_nat, ep_eq, ep_eq, ep_eq, gm_X _ _ (by omega) (by omega)]
  rw [show ((n % 255).toNat + (m % 255).toNat) % 255 = ((n + m) % 255).toNat by omega]
theorem eI_lI {a : Int} (ha : By a) (h : a ≠ 0) : eI (lI a) = a := by
  obtain ⟨x, rfl, hx⟩ := ha.nat
  have h1 := L_bd x (by omega) hx
  unfold eI
  rw [lI_nat, ep_eq, show (((L x : Nat) : Int) % 255).toNat = L x by omega, h1.1]
theorem lI_bd {a : Int} (ha : By a) : 0 ≤ lI a ∧ lI a < 255 := by
  obtain ⟨x, rfl, hx⟩ := ha.nat
  have h1 := L_lt x hx
  rw [lI_nat]
  omega
theorem eI_ne (n : Int) : eI n ≠ 0 := by unfold eI; have := ep_bd n; omega
end Go.Proofs.Ytnjeafdbifcfhaa.Fld
