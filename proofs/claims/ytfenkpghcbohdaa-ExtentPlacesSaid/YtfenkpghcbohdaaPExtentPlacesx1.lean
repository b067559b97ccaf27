-- Written by fk.py (a program of this session) over the kit's print: functions with a contract of our own among them.
import Derived.Test.YtfenkpghcbohdaaPExtentPlacesx0
namespace Go.Proofs.Ytfenkpghcbohdaa.PExtentPlaces
open Go.RowKit Go.Proofs.YtfenkpghcbohdaaW.PrintWords Go.Proofs.YtfenkpghcbohdaaW.PrintLast Go.Proofs.YtfenkpghcbohdaaW.PrintMore
attribute [local go_sem] max2_int min2_int max_two min_two max_three min_three max_four min_four   -- for this text's walks alone
set_option linter.unusedVariables false
set_option linter.unusedSimpArgs false

/-! ### extent_Where: function 20 -/
def extent_Where.f (a0 : Int) (a1 : Int) : Option (Int × Int × Bool) := if a1 < 0 then (some (0, 0, false)) else (if a1 ≥ a0 then (some (0, 0, false)) else (some (wrap64 (Int.tdiv a1 8), Int.tmod a1 8, true)))
set_option maxHeartbeats 8000000 in
set_option maxRecDepth 100000 in
theorem extent_Where.calls (a0 : Int) (a1 : Int) (r1 : Int) (r2 : Int) (r3 : Bool) (w : World) (h : extent_Where.f a0 a1 = some (r1, r2, r3)) :
    Calls Try.prog 20 #[.int .i64 a0, .int .i64 a1] w fun e w' => e = .returned (.tuple #[.int .i64 r1, .int .i64 r2, .bool r3]) ∧ Drawn0 w w' := by
  have H : (if a1 < 0 then (some (0, 0, false)) else (if a1 ≥ a0 then (some (0, 0, false)) else (some (wrap64 (Int.tdiv a1 8), Int.tmod a1 8, true)))) = some (r1, r2, r3) := h
  clear h
  by_cases c3 : a1 < 0
  · rw [if_pos c3] at H
    have c3b0 : decide (a1 < 0) = true := decide_eq_true c3
    clear c3
    simp only [Option.some.injEq, Prod.mk.injEq] at H
    obtain ⟨rfl, rfl, rfl⟩ := H
    go_enter Try.func20, Try.ntmps20
    go_wp2
    go_ret3
    exact ⟨by first | rfl | (simp; done) | (simp [*]; done), by repeat (first | exact Drawn0.refl _ | apply Drawn0.step)⟩
  · rw [if_neg c3] at H
    have c3b0 : decide (a1 < 0) = false := decide_eq_false c3
    clear c3
    by_cases c4 : a1 ≥ a0
    · rw [if_pos c4] at H
      have c4b0 : decide (a0 ≤ a1) = true := decide_eq_true c4
      clear c4
      simp only [Option.some.injEq, Prod.mk.injEq] at H
      obtain ⟨rfl, rfl, rfl⟩ := H
      go_enter Try.func20, Try.ntmps20
      go_wp2
      go_ret3
      exact ⟨by first | rfl | (simp; done) | (simp [*]; done), by repeat (first | exact Drawn0.refl _ | apply Drawn0.step)⟩
    · rw [if_neg c4] at H
      have c4b0 : decide (a0 ≤ a1) = false := decide_eq_false c4
      clear c4
      simp only [Option.some.injEq, Prod.mk.injEq] at H
      obtain ⟨rfl, rfl, rfl⟩ := H
      go_enter Try.func20, Try.ntmps20
      go_wp2
      go_ret3
      exact ⟨by first | rfl | (simp; done) | (simp [*]; done), by repeat (first | exact Drawn0.refl _ | apply Drawn0.step)⟩

/-! ### extent_sized: function 69 -/
def extent_sized.f (a0 : Int) : Option (Bool) := if a0 ≥ 0 then (if a0 ≤ 256 then (some ((Int.tmod a0 8) == 0)) else (some false)) else (some false)
set_option maxHeartbeats 8000000 in
set_option maxRecDepth 100000 in
theorem extent_sized.calls (a0 : Int) (r : Bool) (w : World) (h : extent_sized.f a0 = some r) :
    Calls Try.prog 69 #[.int .i64 a0] w fun e w' => e = .returned (.bool r) ∧ Drawn0 w w' := by
  have H : (if a0 ≥ 0 then (if a0 ≤ 256 then (some ((Int.tmod a0 8) == 0)) else (some false)) else (some false)) = some r := h
  clear h
  by_cases c2 : a0 ≥ 0
  · rw [if_pos c2] at H
    have c2b0 : decide (0 ≤ a0) = true := decide_eq_true c2
    clear c2
    by_cases c3 : a0 ≤ 256
    · rw [if_pos c3] at H
      have c3b0 : decide (a0 ≤ 256) = true := decide_eq_true c3
      clear c3
      obtain rfl := Option.some.inj H
      go_enter Try.func69, Try.ntmps69
      go_wp2
      go_ret
      exact ⟨by first | rfl | (simp; done) | (simp [*]; done), by repeat (first | exact Drawn0.refl _ | apply Drawn0.step)⟩
    · rw [if_neg c3] at H
      have c3b0 : decide (a0 ≤ 256) = false := decide_eq_false c3
      clear c3
      obtain rfl := Option.some.inj H
      go_enter Try.func69, Try.ntmps69
      go_wp2
      go_ret
      exact ⟨by first | rfl | (simp; done) | (simp [*]; done), by repeat (first | exact Drawn0.refl _ | apply Drawn0.step)⟩
  · rw [if_neg c2] at H
    have c2b0 : decide (0 ≤ a0) = false := decide_eq_false c2
    clear c2
    obtain rfl := Option.some.inj H
    go_enter Try.func69, Try.ntmps69
    go_wp2
    go_ret
    exact ⟨by first | rfl | (simp; done) | (simp [*]; done), by repeat (first | exact Drawn0.refl _ | apply Drawn0.step)⟩

/-! ### extent_Right_1: function 72 -/
def extent_Right_1.f (a0 : Int) : Option (Bool) := if a0 = 0 then (some false) else (if a0 < 17 then (some true) else (some (decide (a0 ≥ 40))))
set_option maxHeartbeats 8000000 in
set_option maxRecDepth 100000 in
theorem extent_Right_1.calls (a0 : Int) (r : Bool) (w : World) (h : extent_Right_1.f a0 = some r) :
    Calls Try.prog 72 #[.int .i64 a0] w fun e w' => e = .returned (.bool r) ∧ Drawn0 w w' := by
  have H : (if a0 = 0 then (some false) else (if a0 < 17 then (some true) else (some (decide (a0 ≥ 40))))) = some r := h
  clear h
  by_cases c2 : a0 = 0
  · rw [if_pos c2] at H
    have c2b0 : (a0 == 0) = true := beq_iff_eq.mpr c2
    have c2b1 : (a0 != 0) = false := bne_eq_false_iff_eq.mpr c2
    clear c2
    obtain rfl := Option.some.inj H
    go_enter Try.func72, Try.ntmps72
    go_wp2
    go_ret
    exact ⟨by first | rfl | (simp; done) | (simp [*]; done), by repeat (first | exact Drawn0.refl _ | apply Drawn0.step)⟩
  · rw [if_neg c2] at H
    have c2b0 : (a0 == 0) = false := beq_eq_false_iff_ne.mpr c2
    have c2b1 : (a0 != 0) = true := bne_iff_ne.mpr c2
    by_cases c3 : a0 < 17
    · rw [if_pos c3] at H
      have c3b0 : decide (a0 < 17) = true := decide_eq_true c3
      clear c3
      obtain rfl := Option.some.inj H
      go_enter Try.func72, Try.ntmps72
      go_wp2
      go_ret
      exact ⟨by first | rfl | (simp; done) | (simp [*]; done), by repeat (first | exact Drawn0.refl _ | apply Drawn0.step)⟩
    · rw [if_neg c3] at H
      have c3b0 : decide (a0 < 17) = false := decide_eq_false c3
      clear c3
      obtain rfl := Option.some.inj H
      go_enter Try.func72, Try.ntmps72
      go_wp2
      go_ret
      exact ⟨by first | rfl | (simp; done) | (simp [*]; done), by repeat (first | exact Drawn0.refl _ | apply Drawn0.step)⟩

/-! ### slices_IndexFunc_int_int_extent_Right_1: function 142 -/
def slices_IndexFunc_int_int_extent_Right_1.l0 : Nat → List Int → Int → Int → Option (Int)
  | 0, _, _, _ => none
  | k + 1, x0, x7, x8 => if x8 < x7 then (if 0 ≤ x8 then (if x8 < (x0.length : Int) then ((extent_Right_1.f (rd x0 x8)).bind fun t102 => (if t102 = true then (some x8) else (slices_IndexFunc_int_int_extent_Right_1.l0 k x0 x7 (wrap64 (x8 + 1))))) else (none)) else (none)) else (some (-1))
def slices_IndexFunc_int_int_extent_Right_1.f (k : Nat) (l0 : List Int) : Option (Int) := slices_IndexFunc_int_int_extent_Right_1.l0 k l0 (l0.length : Int) 0
theorem slices_IndexFunc_int_int_extent_Right_1.mono_l : ∀ k, (∀ y0 y1 y2, LeO (slices_IndexFunc_int_int_extent_Right_1.l0 k y0 y1 y2) (slices_IndexFunc_int_int_extent_Right_1.l0 (k + 1) y0 y1 y2))
  | 0 => fun _ _ _ r h => by simp [slices_IndexFunc_int_int_extent_Right_1.l0] at h
  | k + 1 => by
    have ih0 := slices_IndexFunc_int_int_extent_Right_1.mono_l k
    · intro y0 y1 y2
      unfold slices_IndexFunc_int_int_extent_Right_1.l0
      repeat' first
      | (with_reducible exact ih0 _ _ _)
      | (with_reducible exact LeO.refl _)
      | (with_reducible exact LeO.none _)
      | (with_reducible refine LeO.ite ?_ ?_)
      | (with_reducible refine LeO.bind ?_ (fun _ => ?_))
      | exact ih0 _ _ _
      | exact LeO.none _
      | refine LeO.ite ?_ ?_
      | refine LeO.bind ?_ (fun _ => ?_)
theorem slices_IndexFunc_int_int_extent_Right_1.mono : ∀ a0 k, LeO (slices_IndexFunc_int_int_extent_Right_1.f k a0) (slices_IndexFunc_int_int_extent_Right_1.f (k + 1) a0) := by
  intro a0 k
  have ih0 := slices_IndexFunc_int_int_extent_Right_1.mono_l k
  unfold slices_IndexFunc_int_int_extent_Right_1.f
  repeat' first
      | (with_reducible exact ih0 _ _ _)
      | (with_reducible exact LeO.refl _)
      | (with_reducible exact LeO.none _)
      | (with_reducible refine LeO.ite ?_ ?_)
      | (with_reducible refine LeO.bind ?_ (fun _ => ?_))
      | exact ih0 _ _ _
      | exact LeO.none _
      | refine LeO.ite ?_ ?_
      | refine LeO.bind ?_ (fun _ => ?_)
set_option maxHeartbeats 8000000 in
set_option maxRecDepth 100000 in
theorem slices_IndexFunc_int_int_extent_Right_1.calls (k : Nat) (A0 : Option Addr) (c0 : Nat) (l0 : List Int) (r : Int) (w : World) (hr0 : Kd.C (Kd.int .i64) w A0 l0.length l0) (hc0 : l0.length ≤ c0) (h : slices_IndexFunc_int_int_extent_Right_1.f k l0 = some r) :
    Calls Try.prog 104 #[.slice A0 l0.length c0, .func (.func 72) #[] #[]] w fun e w' => e = .returned (.int .i64 r) ∧ Drawn0 w w' := by
  have HR0 := Aside0.mk hr0
  have HC0 := Aside0.mk hc0
  clear hr0 hc0
  have H : (slices_IndexFunc_int_int_extent_Right_1.l0 k l0 (l0.length : Int) 0) = some r := h
  clear h
  have H' := Aside0.mk H
  clear H
  go_enter Try.func104, Try.ntmps104
  go_wp2
  go_loopg [8] k (fun kq v8 w' => ∃ (x8_1 : Int), v8 = .int .i64 x8_1 ∧ Aside0 (slices_IndexFunc_int_int_extent_Right_1.l0 kq l0 (l0.length : Int) x8_1 = some r) ∧ Aside0 (kq ≤ k) ∧ Drawn0 w w')
  case atStart => exact ⟨(0), (by first | rfl | (simp; done) | (simp [*]; done)), H', ⟨Nat.le_refl _⟩, by repeat (first | exact Drawn0.refl _ | apply Drawn0.step)⟩
  case round =>
    clear H'
    try clear c1
    obtain ⟨x8_1, rfl, HA, HK1, ⟨m1, rfl⟩⟩ := hrel
    cases gk with
    | zero => exact absurd HA.out (by simp [slices_IndexFunc_int_int_extent_Right_1.l0])
    | succ k1 =>
      have H := HA.out
      clear HA
      simp only [slices_IndexFunc_int_int_extent_Right_1.l0] at H
      by_cases c2 : x8_1 < (l0.length : Int)
      · rw [if_pos c2] at H
        have c2b0 : decide (x8_1 < (l0.length : Int)) = true := decide_eq_true c2
        clear c2
        by_cases c3 : 0 ≤ x8_1
        · rw [if_pos c3] at H
          have c3b0 : decide (0 ≤ x8_1) = true := decide_eq_true c3
          clear c3
          by_cases c4 : x8_1 < (l0.length : Int)
          · rw [if_pos c4] at H
            have c4b0 : decide (x8_1 < (l0.length : Int)) = true := decide_eq_true c4
            clear c4
            replace H := Option.bind_eq_some_iff.mp H
            obtain ⟨t102, A50, H⟩ := H
            replace H : (if t102 = true then (some x8_1) else (slices_IndexFunc_int_int_extent_Right_1.l0 k1 l0 (l0.length : Int) (wrap64 (x8_1 + 1)))) = some r := H
            have A5 := Aside0.mk A50
            clear A50
            by_cases c6 : t102 = true
            · subst c6
              have H1 : (some x8_1) = some r := by rw [if_pos rfl] at H; exact H
              clear H
              have H := H1
              clear H1
              obtain rfl := Option.some.inj H
              have p101 : 0 ≤ (x8_1 : Int) := of_decide_eq_true (by first | (with_reducible assumption) | assumption)
              have q101 : x8_1 < (l0.length : Int) := of_decide_eq_true (by first | (with_reducible assumption) | assumption)
              obtain ⟨ad101, e101, hx101_0⟩ := Kd.at_int HR0.out x8_1 p101 q101
              cases e101
              replace p101 := eq_true p101
              replace q101 := eq_true q101
              go_wp2_with (first | (go_at_call 72; (with_reducible refine (extent_Right_1.calls (rd l0 x8_1) true _ A5.out).mono ?_); rintro e w' ⟨rfl, ⟨nd, rfl⟩⟩))
              go_ret
              exact ⟨by first | rfl | (simp; done) | (simp [*]; done), by repeat (first | exact Drawn0.refl _ | apply Drawn0.step)⟩
            · replace c6 := Bool.eq_false_iff.mpr c6
              subst c6
              have H1 : (slices_IndexFunc_int_int_extent_Right_1.l0 k1 l0 (l0.length : Int) (wrap64 (x8_1 + 1))) = some r := by rw [if_neg (show ¬ (false = true) by decide)] at H; exact H
              clear H
              have H := H1
              clear H1
              have H' := Aside0.mk H
              clear H
              have p101 : 0 ≤ (x8_1 : Int) := of_decide_eq_true (by first | (with_reducible assumption) | assumption)
              have q101 : x8_1 < (l0.length : Int) := of_decide_eq_true (by first | (with_reducible assumption) | assumption)
              obtain ⟨ad101, e101, hx101_0⟩ := Kd.at_int HR0.out x8_1 p101 q101
              cases e101
              replace p101 := eq_true p101
              replace q101 := eq_true q101
              go_wp2_with (first | (go_at_call 72; (with_reducible refine (extent_Right_1.calls (rd l0 x8_1) false _ A5.out).mono ?_); rintro e w' ⟨rfl, ⟨nd, rfl⟩⟩))
              go_roundg k1
              case measure => have := HK1.out; omega
              case rel => exact ⟨(wrap64 (x8_1 + 1)), (by first | rfl | (simp; done) | (simp [*]; done)), H', ⟨by have := HK1.out; omega⟩, by repeat (first | exact Drawn0.refl _ | apply Drawn0.step)⟩
          · rw [if_neg c4] at H
            exact absurd H (by simp)
        · rw [if_neg c3] at H
          exact absurd H (by simp)
      · rw [if_neg c2] at H
        have c2b0 : decide (x8_1 < (l0.length : Int)) = false := decide_eq_false c2
        clear c2
        obtain rfl := Option.some.inj H
        go_wp2
        go_ret
        exact ⟨by first | rfl | (simp; done) | (simp [*]; done), by repeat (first | exact Drawn0.refl _ | apply Drawn0.step)⟩

/-! ### slices_ContainsFunc_int_int_extent_Right_1: function 141 -/
def slices_ContainsFunc_int_int_extent_Right_1.f (k : Nat) (l0 : List Int) : Option (Bool) := (slices_IndexFunc_int_int_extent_Right_1.f k l0).bind fun t103 => (some (decide (t103 ≥ 0)))
theorem slices_ContainsFunc_int_int_extent_Right_1.mono : ∀ a0 k, LeO (slices_ContainsFunc_int_int_extent_Right_1.f k a0) (slices_ContainsFunc_int_int_extent_Right_1.f (k + 1) a0) := by
  intro a0 k
  unfold slices_ContainsFunc_int_int_extent_Right_1.f
  repeat' first
      | (with_reducible exact slices_IndexFunc_int_int_extent_Right_1.mono _ _)
      | (with_reducible exact LeO.refl _)
      | (with_reducible exact LeO.none _)
      | (with_reducible refine LeO.ite ?_ ?_)
      | (with_reducible refine LeO.bind ?_ (fun _ => ?_))
      | exact slices_IndexFunc_int_int_extent_Right_1.mono _ _
      | exact LeO.none _
      | refine LeO.ite ?_ ?_
      | refine LeO.bind ?_ (fun _ => ?_)
set_option maxHeartbeats 8000000 in
set_option maxRecDepth 100000 in
theorem slices_ContainsFunc_int_int_extent_Right_1.calls (k : Nat) (A0 : Option Addr) (c0 : Nat) (l0 : List Int) (r : Bool) (w : World) (hr0 : Kd.C (Kd.int .i64) w A0 l0.length l0) (hc0 : l0.length ≤ c0) (h : slices_ContainsFunc_int_int_extent_Right_1.f k l0 = some r) :
    Calls Try.prog 71 #[.slice A0 l0.length c0, .func (.func 72) #[] #[]] w fun e w' => e = .returned (.bool r) ∧ Drawn0 w w' := by
  have HR0 := Aside0.mk hr0
  have HC0 := Aside0.mk hc0
  clear hr0 hc0
  have H : ((slices_IndexFunc_int_int_extent_Right_1.f k l0).bind fun t103 => (some (decide (t103 ≥ 0)))) = some r := h
  clear h
  replace H := Option.bind_eq_some_iff.mp H
  obtain ⟨t103, A20, H⟩ := H
  replace H : (some (decide (t103 ≥ 0))) = some r := H
  have A2 := Aside0.mk A20
  clear A20
  obtain rfl := Option.some.inj H
  go_enter Try.func71, Try.ntmps71
  go_wp2_with (first | (go_at_call 104; (with_reducible refine (slices_IndexFunc_int_int_extent_Right_1.calls k _ _ l0 t103 _ ?side1 ?side2 A2.out).mono ?_); (case side1 => repeat (first | exact HR0.out | (with_reducible refine Kd.C_alloc ?_ _) | (with_reducible refine Kd.C_drewN ?_ _) | (with_reducible refine Kd.C_drew ?_))); (case side2 => exact HC0.out); rintro e w' ⟨rfl, ⟨nd, rfl⟩⟩))
  go_ret
  exact ⟨by first | rfl | (simp; done) | (simp [*]; done), by repeat (first | exact Drawn0.refl _ | apply Drawn0.step)⟩

/-! ### extent_Right: function 30 -/
def extent_Right.f (k : Nat) (a0 : Int) (l1 : List Int) : Option (Bool) := (slices_ContainsFunc_int_int_extent_Right_1.f k l1).bind fun t104 => ((extent_sized.f a0).bind fun t105 => (if t105 = true then (if (l1.length : Int) = (wrap64 (Int.tdiv a0 8)) then (some (!t104)) else (some false)) else (some false)))
theorem extent_Right.mono : ∀ a0 a1 k, LeO (extent_Right.f k a0 a1) (extent_Right.f (k + 1) a0 a1) := by
  intro a0 a1 k
  unfold extent_Right.f
  repeat' first
      | (with_reducible exact slices_ContainsFunc_int_int_extent_Right_1.mono _ _)
      | (with_reducible exact LeO.refl _)
      | (with_reducible exact LeO.none _)
      | (with_reducible refine LeO.ite ?_ ?_)
      | (with_reducible refine LeO.bind ?_ (fun _ => ?_))
      | exact slices_ContainsFunc_int_int_extent_Right_1.mono _ _
      | exact LeO.none _
      | refine LeO.ite ?_ ?_
      | refine LeO.bind ?_ (fun _ => ?_)
set_option maxHeartbeats 8000000 in
set_option maxRecDepth 100000 in
theorem extent_Right.calls (k : Nat) (a0 : Int) (A1 : Option Addr) (c1 : Nat) (l1 : List Int) (r : Bool) (w : World) (hr1 : Kd.C (Kd.int .i64) w A1 l1.length l1) (hc1 : l1.length ≤ c1) (h : extent_Right.f k a0 l1 = some r) :
    Calls Try.prog 30 #[.int .i64 a0, .slice A1 l1.length c1] w fun e w' => e = .returned (.bool r) ∧ Drawn0 w w' := by
  have HR1 := Aside0.mk hr1
  have HC1 := Aside0.mk hc1
  clear hr1 hc1
  have H : ((slices_ContainsFunc_int_int_extent_Right_1.f k l1).bind fun t104 => ((extent_sized.f a0).bind fun t105 => (if t105 = true then (if (l1.length : Int) = (wrap64 (Int.tdiv a0 8)) then (some (!t104)) else (some false)) else (some false)))) = some r := h
  clear h
  replace H := Option.bind_eq_some_iff.mp H
  obtain ⟨t104, A30, H⟩ := H
  replace H : ((extent_sized.f a0).bind fun t105 => (if t105 = true then (if (l1.length : Int) = (wrap64 (Int.tdiv a0 8)) then (some (!t104)) else (some false)) else (some false))) = some r := H
  have A3 := Aside0.mk A30
  clear A30
  replace H := Option.bind_eq_some_iff.mp H
  obtain ⟨t105, A40, H⟩ := H
  replace H : (if t105 = true then (if (l1.length : Int) = (wrap64 (Int.tdiv a0 8)) then (some (!t104)) else (some false)) else (some false)) = some r := H
  have A4 := Aside0.mk A40
  clear A40
  by_cases c5 : t105 = true
  · subst c5
    have H1 : (if (l1.length : Int) = (wrap64 (Int.tdiv a0 8)) then (some (!t104)) else (some false)) = some r := by rw [if_pos rfl] at H; exact H
    clear H
    have H := H1
    clear H1
    by_cases c6 : (l1.length : Int) = (wrap64 (Int.tdiv a0 8))
    · rw [if_pos c6] at H
      have c6b0 : ((l1.length : Int) == (wrap64 (Int.tdiv a0 8))) = true := beq_iff_eq.mpr c6
      have c6b1 : ((l1.length : Int) != (wrap64 (Int.tdiv a0 8))) = false := bne_eq_false_iff_eq.mpr c6
      clear c6
      obtain rfl := Option.some.inj H
      go_enter Try.func30, Try.ntmps30
      go_wp2_with (first | (go_at_call 71; (with_reducible refine (slices_ContainsFunc_int_int_extent_Right_1.calls k _ _ l1 t104 _ ?side1 ?side2 A3.out).mono ?_); (case side1 => repeat (first | exact HR1.out | (with_reducible refine Kd.C_alloc ?_ _) | (with_reducible refine Kd.C_drewN ?_ _) | (with_reducible refine Kd.C_drew ?_))); (case side2 => exact HC1.out); rintro e w' ⟨rfl, ⟨nd, rfl⟩⟩) | ((with_reducible refine gate_callee (f := 69) rfl ?_); refine goesL_ (some 9) rfl rfl Try.func69 (by kernel_rfl) rfl #[.int .i64 a0] rfl (by (try simp only [List.map_toArray, List.map_cons, List.map_nil]); first | done | rfl | (simp only [List.length_drop, List.length_take]; rfl)) ?_; (with_reducible refine (extent_sized.calls a0 true _ A4.out).mono ?_); rintro e w' ⟨rfl, ⟨nd, rfl⟩⟩; refine ⟨_, rfl, ?_⟩))
      go_ret
      exact ⟨by first | rfl | (simp; done) | (simp [*]; done), by repeat (first | exact Drawn0.refl _ | apply Drawn0.step)⟩
    · rw [if_neg c6] at H
      have c6b0 : ((l1.length : Int) == (wrap64 (Int.tdiv a0 8))) = false := beq_eq_false_iff_ne.mpr c6
      have c6b1 : ((l1.length : Int) != (wrap64 (Int.tdiv a0 8))) = true := bne_iff_ne.mpr c6
      obtain rfl := Option.some.inj H
      go_enter Try.func30, Try.ntmps30
      go_wp2_with (first | (go_at_call 71; (with_reducible refine (slices_ContainsFunc_int_int_extent_Right_1.calls k _ _ l1 t104 _ ?side1 ?side2 A3.out).mono ?_); (case side1 => repeat (first | exact HR1.out | (with_reducible refine Kd.C_alloc ?_ _) | (with_reducible refine Kd.C_drewN ?_ _) | (with_reducible refine Kd.C_drew ?_))); (case side2 => exact HC1.out); rintro e w' ⟨rfl, ⟨nd, rfl⟩⟩) | ((with_reducible refine gate_callee (f := 69) rfl ?_); refine goesL_ (some 9) rfl rfl Try.func69 (by kernel_rfl) rfl #[.int .i64 a0] rfl (by (try simp only [List.map_toArray, List.map_cons, List.map_nil]); first | done | rfl | (simp only [List.length_drop, List.length_take]; rfl)) ?_; (with_reducible refine (extent_sized.calls a0 true _ A4.out).mono ?_); rintro e w' ⟨rfl, ⟨nd, rfl⟩⟩; refine ⟨_, rfl, ?_⟩))
      go_ret
      exact ⟨by first | rfl | (simp; done) | (simp [*]; done), by repeat (first | exact Drawn0.refl _ | apply Drawn0.step)⟩
  · replace c5 := Bool.eq_false_iff.mpr c5
    subst c5
    have H1 : (some false) = some r := by rw [if_neg (show ¬ (false = true) by decide)] at H; exact H
    clear H
    have H := H1
    clear H1
    obtain rfl := Option.some.inj H
    go_enter Try.func30, Try.ntmps30
    go_wp2_with (first | (go_at_call 71; (with_reducible refine (slices_ContainsFunc_int_int_extent_Right_1.calls k _ _ l1 t104 _ ?side1 ?side2 A3.out).mono ?_); (case side1 => repeat (first | exact HR1.out | (with_reducible refine Kd.C_alloc ?_ _) | (with_reducible refine Kd.C_drewN ?_ _) | (with_reducible refine Kd.C_drew ?_))); (case side2 => exact HC1.out); rintro e w' ⟨rfl, ⟨nd, rfl⟩⟩) | ((with_reducible refine gate_callee (f := 69) rfl ?_); refine goesL_ (some 9) rfl rfl Try.func69 (by kernel_rfl) rfl #[.int .i64 a0] rfl (by (try simp only [List.map_toArray, List.map_cons, List.map_nil]); first | done | rfl | (simp only [List.length_drop, List.length_take]; rfl)) ?_; (with_reducible refine (extent_sized.calls a0 false _ A4.out).mono ?_); rintro e w' ⟨rfl, ⟨nd, rfl⟩⟩; refine ⟨_, rfl, ?_⟩))
    go_ret
    exact ⟨by first | rfl | (simp; done) | (simp [*]; done), by repeat (first | exact Drawn0.refl _ | apply Drawn0.step)⟩

/-! ### corbellaw17_known: function 18 -/
def corbellaw17_known.f (k : Nat)  : Option (Bool) := (extent_Where.f 16 9).bind fun bt106 => (if bt106.2.2 = true then (if bt106.1 = 1 then (if bt106.2.1 = 1 then ((extent_Right.f k 16 (([0, 17] : List Int))).bind fun t112 => (some t112)) else (some false)) else (some false)) else (some false))
theorem corbellaw17_known.mono : ∀ k, LeO (corbellaw17_known.f k ) (corbellaw17_known.f (k + 1) ) := by
  intro  k
  unfold corbellaw17_known.f
  repeat' first
      | (with_reducible exact extent_Right.mono _ _ _)
      | (with_reducible exact LeO.refl _)
      | (with_reducible exact LeO.none _)
      | (with_reducible refine LeO.ite ?_ ?_)
      | (with_reducible refine LeO.bind ?_ (fun _ => ?_))
      | exact extent_Right.mono _ _ _
      | exact LeO.none _
      | refine LeO.ite ?_ ?_
      | refine LeO.bind ?_ (fun _ => ?_)
set_option maxHeartbeats 8000000 in
set_option maxRecDepth 100000 in
theorem corbellaw17_known.calls (k : Nat)  (r : Bool) (w : World) (h : corbellaw17_known.f k  = some r) :
    Calls Try.prog 18 #[] w fun e w' => e = .returned (.bool r) ∧ Below w.heap.size w w' := by
  have HB := Aside0.mk (Below.refl w.heap.size w)
  have H : ((extent_Where.f 16 9).bind fun bt106 => (if bt106.2.2 = true then (if bt106.1 = 1 then (if bt106.2.1 = 1 then ((extent_Right.f k 16 (([0, 17] : List Int))).bind fun t112 => (some t112)) else (some false)) else (some false)) else (some false))) = some r := h
  clear h
  replace H := Option.bind_eq_some_iff.mp H
  obtain ⟨⟨t106, t107, t108⟩, A10, H⟩ := H
  replace H : (if t108 = true then (if t106 = 1 then (if t107 = 1 then ((extent_Right.f k 16 (([0, 17] : List Int))).bind fun t112 => (some t112)) else (some false)) else (some false)) else (some false)) = some r := H
  have A1 := Aside0.mk A10
  clear A10
  by_cases c2 : t108 = true
  · subst c2
    have H1 : (if t106 = 1 then (if t107 = 1 then ((extent_Right.f k 16 (([0, 17] : List Int))).bind fun t112 => (some t112)) else (some false)) else (some false)) = some r := by rw [if_pos rfl] at H; exact H
    clear H
    have H := H1
    clear H1
    by_cases c3 : t106 = 1
    · rw [if_pos c3] at H
      have c3b0 : (t106 == 1) = true := beq_iff_eq.mpr c3
      have c3b1 : (t106 != 1) = false := bne_eq_false_iff_eq.mpr c3
      clear c3
      by_cases c4 : t107 = 1
      · rw [if_pos c4] at H
        have c4b0 : (t107 == 1) = true := beq_iff_eq.mpr c4
        have c4b1 : (t107 != 1) = false := bne_eq_false_iff_eq.mpr c4
        clear c4
        obtain ⟨y109, hy109⟩ : ∃ y_ : List Int, y_ = (([0, 17] : List Int)) := ⟨_, rfl⟩
        replace H : ((extent_Right.f k 16 y109).bind fun t112 => (some t112)) = some r := by first | (rw [hy109]; with_reducible exact H) | (have H2_ := (Option.bind_some _ _).symm.trans H; rw [hy109]; with_reducible exact H2_) | (have H2_ := (Option.bind_some _ _).symm.trans H; with_reducible exact H2_) | with_reducible exact H | (rw [hy109]; exact H) | exact H
        have Ny109 := Aside0.mk hy109
        clear hy109
        replace H := Option.bind_eq_some_iff.mp H
        obtain ⟨t112, A50, H⟩ := H
        replace H : (some t112) = some r := H
        have A5 := Aside0.mk A50
        clear A50
        obtain rfl := Option.some.inj H
        go_enter Try.func18, Try.ntmps18
        go_wp2_with (first | ((with_reducible refine gate_callee (f := 20) rfl ?_); refine goesL_ (some 5) rfl rfl Try.func20 (by kernel_rfl) rfl #[.int .i64 16, .int .i64 9] rfl (by (try simp only [List.map_toArray, List.map_cons, List.map_nil]); first | done | rfl | (simp only [List.length_drop, List.length_take]; rfl)) ?_; (with_reducible refine (extent_Where.calls 16 9 t106 t107 true _ A1.out).mono ?_); rintro e w' ⟨rfl, ⟨nd, rfl⟩⟩; refine ⟨_, rfl, ?_⟩) | ((with_reducible refine gate_dst (N := 19) rfl ?_); (try (refine gate_guard (by rfl) ?_; dsimp only)); refine Kd.R_lit (Kd.int .i64) _ 3 ?hg (N := 19) ?hd (xs := ([0, 17] : List Int)) (inner := [.int .i64 0, .int .i64 17]) (ok := fun _ => True) (okp := fun _ => True) ?hr ?hp (fun _ hk => hk) trivial (Below.refl _ _) (Nat.le_refl _) (by simp) ?_; (case hd => rfl); (case hg => rfl); (case hr => first | (go_simp; done) | (go_simp; rfl)); (case hp => exact (Reps.one (show Kd.M (Kd.int .i64) _ _ _ 0 [.int .i64 0] from rfl) (Reps.one (show Kd.M (Kd.int .i64) _ _ _ 17 [.int .i64 17] from rfl) (Reps.none _ _)))); intro v110 w6 ho7 hb hg_ hnew_; clear hg_ hnew_; (first | rw [← Ny109.out] at ho7 | (simp only [Int.reduceToNat] at ho7; rw [← Ny109.out] at ho7)); have n0_ := Aside0.mk (Kd.R_lower ho7 (below_size (by repeat (first | (with_reducible first | exact HB.out | apply below_alloc | apply pw_below_drewN | apply below_drew1) | exact HB.out)))); have n1_ := Aside0.mk (below_step (by repeat (first | (with_reducible first | exact HB.out | apply below_alloc | apply pw_below_drewN | apply below_drew1) | exact HB.out)) hb); clear HB; have HO111 := n0_; have HB := n1_; clear n0_ n1_; clear hb ho7; obtain ⟨Ao8, co8, eo8⟩ := Kd.R_slice HO111.out; subst eo8) | (go_at_call 30; (with_reducible refine (extent_Right.calls k 16 _ _ y109 t112 _ ?side1 ?side2 A5.out).mono ?_); (case side1 => repeat (first | exact (Kd.R_reads' HO111.out).2.2 | (with_reducible refine Kd.C_alloc ?_ _) | (with_reducible refine Kd.C_drewN ?_ _) | (with_reducible refine Kd.C_drew ?_))); (case side2 => exact (Kd.R_reads' HO111.out).2.1); rintro e w' ⟨rfl, ⟨nd, rfl⟩⟩))
        go_ret
        exact ⟨by first | rfl | (simp [errW_none, errW_some] <;> rfl) | (simp [*, errW_none, errW_some] <;> rfl), by repeat (first | (with_reducible first | exact HB.out | apply below_alloc | apply pw_below_drewN | apply below_drew1) | exact HB.out)⟩
      · rw [if_neg c4] at H
        have c4b0 : (t107 == 1) = false := beq_eq_false_iff_ne.mpr c4
        have c4b1 : (t107 != 1) = true := bne_iff_ne.mpr c4
        obtain rfl := Option.some.inj H
        go_enter Try.func18, Try.ntmps18
        go_wp2_with (first | ((with_reducible refine gate_callee (f := 20) rfl ?_); refine goesL_ (some 5) rfl rfl Try.func20 (by kernel_rfl) rfl #[.int .i64 16, .int .i64 9] rfl (by (try simp only [List.map_toArray, List.map_cons, List.map_nil]); first | done | rfl | (simp only [List.length_drop, List.length_take]; rfl)) ?_; (with_reducible refine (extent_Where.calls 16 9 t106 t107 true _ A1.out).mono ?_); rintro e w' ⟨rfl, ⟨nd, rfl⟩⟩; refine ⟨_, rfl, ?_⟩))
        go_ret
        exact ⟨by first | rfl | (simp [errW_none, errW_some] <;> rfl) | (simp [*, errW_none, errW_some] <;> rfl), by repeat (first | (with_reducible first | exact HB.out | apply below_alloc | apply pw_below_drewN | apply below_drew1) | exact HB.out)⟩
    · rw [if_neg c3] at H
      have c3b0 : (t106 == 1) = false := beq_eq_false_iff_ne.mpr c3
      have c3b1 : (t106 != 1) = true := bne_iff_ne.mpr c3
      obtain rfl := Option.some.inj H
      go_enter Try.func18, Try.ntmps18
      go_wp2_with (first | ((with_reducible refine gate_callee (f := 20) rfl ?_); refine goesL_ (some 5) rfl rfl Try.func20 (by kernel_rfl) rfl #[.int .i64 16, .int .i64 9] rfl (by (try simp only [List.map_toArray, List.map_cons, List.map_nil]); first | done | rfl | (simp only [List.length_drop, List.length_take]; rfl)) ?_; (with_reducible refine (extent_Where.calls 16 9 t106 t107 true _ A1.out).mono ?_); rintro e w' ⟨rfl, ⟨nd, rfl⟩⟩; refine ⟨_, rfl, ?_⟩))
      go_ret
      exact ⟨by first | rfl | (simp [errW_none, errW_some] <;> rfl) | (simp [*, errW_none, errW_some] <;> rfl), by repeat (first | (with_reducible first | exact HB.out | apply below_alloc | apply pw_below_drewN | apply below_drew1) | exact HB.out)⟩
  · replace c2 := Bool.eq_false_iff.mpr c2
    subst c2
    have H1 : (some false) = some r := by rw [if_neg (show ¬ (false = true) by decide)] at H; exact H
    clear H
    have H := H1
    clear H1
    obtain rfl := Option.some.inj H
    go_enter Try.func18, Try.ntmps18
    go_wp2_with (first | ((with_reducible refine gate_callee (f := 20) rfl ?_); refine goesL_ (some 5) rfl rfl Try.func20 (by kernel_rfl) rfl #[.int .i64 16, .int .i64 9] rfl (by (try simp only [List.map_toArray, List.map_cons, List.map_nil]); first | done | rfl | (simp only [List.length_drop, List.length_take]; rfl)) ?_; (with_reducible refine (extent_Where.calls 16 9 t106 t107 false _ A1.out).mono ?_); rintro e w' ⟨rfl, ⟨nd, rfl⟩⟩; refine ⟨_, rfl, ?_⟩))
    go_ret
    exact ⟨by first | rfl | (simp [errW_none, errW_some] <;> rfl) | (simp [*, errW_none, errW_some] <;> rfl), by repeat (first | (with_reducible first | exact HB.out | apply below_alloc | apply pw_below_drewN | apply below_drew1) | exact HB.out)⟩

/-! ### corbelhand_Pick: function 19 -/
def corbelhand_Pick.f (a0 : Int) (a1 : Int) : Option (Int) := if a1 = 0 then (none) else (if (Int.tmod a0 a1) < 0 then (some (wrap64 ((Int.tmod a0 a1) + a1))) else (some (Int.tmod a0 a1)))
set_option maxHeartbeats 8000000 in
set_option maxRecDepth 100000 in
theorem corbelhand_Pick.calls (a0 : Int) (a1 : Int) (r : Int) (w : World) (h : corbelhand_Pick.f a0 a1 = some r) :
    Calls Try.prog 19 #[.int .i64 a0, .int .i64 a1] w fun e w' => e = .returned (.int .i64 r) ∧ Drawn0 w w' := by
  have H : (if a1 = 0 then (none) else (if (Int.tmod a0 a1) < 0 then (some (wrap64 ((Int.tmod a0 a1) + a1))) else (some (Int.tmod a0 a1)))) = some r := h
  clear h
  by_cases c3 : a1 = 0
  · rw [if_pos c3] at H
    exact absurd H (by simp)
  · rw [if_neg c3] at H
    have c3b0 : (a1 == 0) = false := beq_eq_false_iff_ne.mpr c3
    have c3b1 : (a1 != 0) = true := bne_iff_ne.mpr c3
    by_cases c4 : (Int.tmod a0 a1) < 0
    · rw [if_pos c4] at H
      have c4b0 : decide ((Int.tmod a0 a1) < 0) = true := decide_eq_true c4
      clear c4
      obtain rfl := Option.some.inj H
      go_enter Try.func19, Try.ntmps19
      go_wp2
      go_ret
      exact ⟨by first | rfl | (simp; done) | (simp [*]; done), by repeat (first | exact Drawn0.refl _ | apply Drawn0.step)⟩
    · rw [if_neg c4] at H
      have c4b0 : decide ((Int.tmod a0 a1) < 0) = false := decide_eq_false c4
      clear c4
      obtain rfl := Option.some.inj H
      go_enter Try.func19, Try.ntmps19
      go_wp2
      go_ret
      exact ⟨by first | rfl | (simp; done) | (simp [*]; done), by repeat (first | exact Drawn0.refl _ | apply Drawn0.step)⟩

/-! ### extent_Spans: function 21 -/
def extent_Spans.f (a0 : Int) (a1 : Int) (a2 : Int) : Option (Bool) := if a2 ≥ 1 then (if a1 ≥ 0 then (if a1 < a0 then (some (decide (a2 ≤ (wrap64 (a0 - a1))))) else (some false)) else (some false)) else (some false)
set_option maxHeartbeats 8000000 in
set_option maxRecDepth 100000 in
theorem extent_Spans.calls (a0 : Int) (a1 : Int) (a2 : Int) (r : Bool) (w : World) (h : extent_Spans.f a0 a1 a2 = some r) :
    Calls Try.prog 21 #[.int .i64 a0, .int .i64 a1, .int .i64 a2] w fun e w' => e = .returned (.bool r) ∧ Drawn0 w w' := by
  have H : (if a2 ≥ 1 then (if a1 ≥ 0 then (if a1 < a0 then (some (decide (a2 ≤ (wrap64 (a0 - a1))))) else (some false)) else (some false)) else (some false)) = some r := h
  clear h
  by_cases c4 : a2 ≥ 1
  · rw [if_pos c4] at H
    have c4b0 : decide (1 ≤ a2) = true := decide_eq_true c4
    clear c4
    by_cases c5 : a1 ≥ 0
    · rw [if_pos c5] at H
      have c5b0 : decide (0 ≤ a1) = true := decide_eq_true c5
      clear c5
      by_cases c6 : a1 < a0
      · rw [if_pos c6] at H
        have c6b0 : decide (a1 < a0) = true := decide_eq_true c6
        clear c6
        obtain rfl := Option.some.inj H
        go_enter Try.func21, Try.ntmps21
        go_wp2
        go_ret
        exact ⟨by first | rfl | (simp; done) | (simp [*]; done), by repeat (first | exact Drawn0.refl _ | apply Drawn0.step)⟩
      · rw [if_neg c6] at H
        have c6b0 : decide (a1 < a0) = false := decide_eq_false c6
        clear c6
        obtain rfl := Option.some.inj H
        go_enter Try.func21, Try.ntmps21
        go_wp2
        go_ret
        exact ⟨by first | rfl | (simp; done) | (simp [*]; done), by repeat (first | exact Drawn0.refl _ | apply Drawn0.step)⟩
    · rw [if_neg c5] at H
      have c5b0 : decide (0 ≤ a1) = false := decide_eq_false c5
      clear c5
      obtain rfl := Option.some.inj H
      go_enter Try.func21, Try.ntmps21
      go_wp2
      go_ret
      exact ⟨by first | rfl | (simp; done) | (simp [*]; done), by repeat (first | exact Drawn0.refl _ | apply Drawn0.step)⟩
  · rw [if_neg c4] at H
    have c4b0 : decide (1 ≤ a2) = false := decide_eq_false c4
    clear c4
    obtain rfl := Option.some.inj H
    go_enter Try.func21, Try.ntmps21
    go_wp2
    go_ret
    exact ⟨by first | rfl | (simp; done) | (simp [*]; done), by repeat (first | exact Drawn0.refl _ | apply Drawn0.step)⟩

/-! ### corbellaw17_ExtentPlaces: function 3 -/
namespace HandExtentPlaces
open Go.RowKit Go.Proofs.Ytfenkpghcbohdaa.PExtentPlaces Go.Proofs.YtfenkpghcbohdaaW.PrintWords Go.Proofs.YtfenkpghcbohdaaW.PrintLast Go.Proofs.YtfenkpghcbohdaaW.PrintMore

theorem wrap_in {n : Int} (h0 : -9223372036854775808 ≤ n) (h1 : n ≤ 9223372036854775807) : wrap64 n = n := by
  unfold wrap64
  omega
theorem pick_ok (a m : Int) (h0 : 0 < m) (h1 : m ≤ 4611686018427387904) : ∃ r, corbelhand_Pick.f a m = some r ∧ 0 ≤ r ∧ r < m := by
  have b1 := Int.tmod_lt_of_pos a h0
  have b2 : -m < Int.tmod a m := by have := Int.lt_tmod_of_pos a h0; omega
  unfold corbelhand_Pick.f
  rw [if_neg (by omega)]
  by_cases c : Int.tmod a m < 0
  · rw [if_pos c, wrap_in (by omega) (by omega)]
    exact ⟨_, rfl, by omega, by omega⟩
  · rw [if_neg c]
    exact ⟨_, rfl, by omega, by omega⟩
theorem where_in (sz s : Int) (e r : Nat) (hs : s = 8 * e + r) (he : e < 33) (hq : r < 8) (h1 : s < sz) : extent_Where.f sz s = some ((e : Int), (r : Int), true) := by
  unfold extent_Where.f
  rw [if_neg (by omega), if_neg (by omega), Int.tdiv_eq_ediv_of_nonneg (by omega), Int.tmod_eq_emod_of_nonneg (by omega), wrap_in (by omega) (by omega), show s / 8 = (e : Int) by omega, show s % 8 = (r : Int) by omega]
theorem where_out (sz s : Int) (h : ¬ (0 ≤ s ∧ s < sz)) : extent_Where.f sz s = some (0, 0, false) := by
  unfold extent_Where.f
  by_cases c : s < 0
  · rw [if_pos c]
  · rw [if_neg c, if_pos (by omega)]
theorem known_true : corbellaw17_known.f 20 = some true := by decide +kernel
def st (sz s : Int) : List Bool := (List.range 264).map fun i : Nat => decide ((i : Int) < s ∧ (i : Int) < sz)
theorem st_len (sz s : Int) : (st sz s).length = 264 := by simp [st]
theorem st_at (sz s : Int) (i : Nat) (h : i < 264) : (st sz s)[i]? = some (decide ((i : Int) < s ∧ (i : Int) < sz)) := by simp [st, h]
theorem st_step (sz s : Int) (i : Nat) (hi : i < 264) (hs : s = i) (h1 : s < sz) : (st sz s).set i true = st sz (s + 1) := by
  apply List.ext_getElem?
  intro k
  rw [List.getElem?_set, st_len]
  by_cases hk : k < 264
  · rw [st_at _ _ _ hk, st_at _ _ _ hk]
    by_cases e : i = k
    · subst e
      rw [if_pos rfl, if_pos hi]
      congr 1
      symm
      rw [decide_eq_true_eq]
      omega
    · rw [if_neg e]
      congr 1
      rw [decide_eq_decide]
      omega
  · rw [if_neg (by omega), List.getElem?_eq_none (by rw [st_len]; omega), List.getElem?_eq_none (by rw [st_len]; omega)]
theorem st_skip (sz s : Int) (h : ¬ (0 ≤ s ∧ s < sz)) : st sz (s + 1) = st sz s := by
  unfold st
  apply List.map_congr_left
  intro i _
  rw [decide_eq_decide]
  omega
theorem st_zero (sz s : Int) (h : s ≤ 0) : st sz s = List.replicate 264 false := by
  apply List.ext_getElem?
  intro k
  by_cases hk : k < 264
  · rw [st_at _ _ _ hk, List.getElem?_replicate, if_pos hk]
    congr 1
    rw [decide_eq_false_iff_not]
    omega
  · rw [List.getElem?_eq_none (by rw [st_len]; omega), List.getElem?_eq_none (by rw [List.length_replicate]; omega)]
def hc (l : List Bool) : Array Value := (l.map Value.bool).toArray
theorem hc_at {l : List Bool} {i : Nat} {b : Bool} (h : l[i]? = some b) : (hc l)[i]? = some (.bool b) := by simp [hc, h]
theorem hc_set (l : List Bool) (i : Nat) : (hc l).setIfInBounds i (.bool true) = hc (l.set i true) := by simp [hc, List.map_set]
set_option maxRecDepth 100000 in
theorem z25 : Try.zeroCells25 = hc (List.replicate 264 false) := by kernel_rfl

open Classical in
noncomputable def al (sz of n s : Int) : Bool := decide (0 < n ∧ ∀ t : Int, of ≤ t → t < s → 0 ≤ t ∧ t < sz)
open Classical in
theorem al_step (sz of n s : Int) (h : of ≤ s) : al sz of n (s + 1) = (al sz of n s && decide (0 ≤ s ∧ s < sz)) := by
  unfold al
  rw [← Bool.decide_and, decide_eq_decide]
  constructor
  · rintro ⟨h1, h2⟩
    exact ⟨⟨h1, fun t a b => h2 t a (by omega)⟩, h2 s h (by omega)⟩
  · rintro ⟨⟨h1, h2⟩, h3⟩
    refine ⟨h1, fun t a b => ?_⟩
    by_cases e : t = s
    · rw [e]; exact h3
    · exact h2 t a (by omega)
open Classical in
theorem spans_eq (sz of n : Int) (h0 : 0 ≤ sz) (h1 : sz < 257) (h2 : -10 ≤ of) (h3 : of < 266) (h4 : -10 ≤ n) (h5 : n < 266) (s : Int) (hs : s = of + n ∨ n ≤ 0 ∧ s = of) : extent_Spans.f sz of n = some (al sz of n s) := by
  unfold extent_Spans.f al
  by_cases c1 : n ≥ 1
  · obtain rfl : s = of + n := by omega
    rw [if_pos c1]
    by_cases c2 : of ≥ 0
    · rw [if_pos c2]
      by_cases c3 : of < sz
      · rw [if_pos c3, wrap_in (by omega) (by omega)]
        congr 1
        rw [decide_eq_decide]
        constructor
        · intro h; exact ⟨by omega, fun t a b => by omega⟩
        · rintro ⟨_, h⟩
          have := h (of + n - 1) (by omega) (by omega)
          omega
      · rw [if_neg c3]
        congr 1
        symm
        rw [decide_eq_false_iff_not]
        rintro ⟨_, h⟩
        have := h of (by omega) (by omega)
        omega
    · rw [if_neg c2]
      congr 1
      symm
      rw [decide_eq_false_iff_not]
      rintro ⟨_, h⟩
      have := h of (by omega) (by omega)
      omega
  · rw [if_neg c1]
    congr 1
    symm
    rw [decide_eq_false_iff_not]
    rintro ⟨h, _⟩
    omega

set_option maxHeartbeats 4000000 in
set_option maxRecDepth 100000 in
theorem walk (a0 a1 a2 : Int) (w : World) : Calls Try.prog 3 #[.int .i64 a0, .int .i64 a1, .int .i64 a2] w fun e w' => e = .returned (.bool true) ∧ Below w.heap.size w w' := by
  obtain ⟨sz, h0, hs0, hs1⟩ := pick_ok a0 257 (by omega) (by omega)
  obtain ⟨p1, h1, ho0, ho1⟩ := pick_ok a1 276 (by omega) (by omega)
  obtain ⟨p2, h2, hn0, hn1⟩ := pick_ok a2 276 (by omega) (by omega)
  have P0 := Aside0.mk h0
  have P1 := Aside0.mk h1
  have P2 := Aside0.mk h2
  clear h0 h1 h2
  go_enter Try.func3, Try.ntmps3
  go_wp2_with fail
  refine (corbellaw17_known.calls 20 true _ known_true).mono ?_
  rintro e w1 ⟨rfl, hb⟩
  have HB1 := Aside0.mk hb
  clear hb
  go_wp2_with fail
  refine (corbelhand_Pick.calls a0 257 sz _ P0.out).mono ?_
  rintro e w2 ⟨rfl, ⟨n0, rfl⟩⟩
  go_wp2_with fail
  refine (corbelhand_Pick.calls a1 276 p1 _ P1.out).mono ?_
  rintro e w2 ⟨rfl, ⟨n1, rfl⟩⟩
  go_wp2_with fail
  refine (corbelhand_Pick.calls a2 276 p2 _ P2.out).mono ?_
  rintro e w2 ⟨rfl, ⟨n2, rfl⟩⟩
  obtain ⟨q, hq⟩ : ∃ q, q = w1.heap.size := ⟨_, rfl⟩
  have Q := Aside0.mk hq
  clear hq
  go_wp2_with fail
  rw [← Q.out]
  go_loopw [8] (fun v wr => ∃ s : Int, v = .int .i64 s ∧ Aside0 (-3 ≤ s ∧ s ≤ sz + 3) ∧ Aside0 (wr.heap[q]? = some (.cells (hc (st sz s)) 25 (0, 0))) ∧ Aside0 (Below w1.heap.size w1 wr)) (fun v _ => (sz + 3 - intOf v).toNat)
  case atStart =>
    refine ⟨-3, rfl, ⟨by omega⟩, ⟨?_⟩, ⟨?_⟩⟩
    · rw [st_zero _ _ (by omega), ← z25, Q.out]
      exact blk_new _ _
    · refine Below.alloc ?_ ?_ _
      · repeat (first | exact Below.refl _ _ | apply pw_below_drewN)
      · exact Nat.le_refl _
  case round =>
    obtain ⟨s, rfl, HI, BK, HB⟩ := hrel
    have i0 := HI.out.1
    have i1 := HI.out.2
    by_cases hlt : s < sz + 3
    · have hlb : decide (s < sz + 3) = true := decide_eq_true hlt
      by_cases hin : 0 ≤ s ∧ s < sz
      · obtain ⟨e, r, hs, he, hr⟩ : ∃ e r : Nat, s = 8 * e + r ∧ e < 33 ∧ r < 8 := ⟨(s / 8).toNat, (s % 8).toNat, by omega, by omega, by omega⟩
        have HW := Aside0.mk (where_in sz s e r hs he hr hin.2)
        have g1 : decide (0 ≤ s) = true := decide_eq_true hin.1
        have g2 : decide (s < sz) = true := decide_eq_true hin.2
        have g3 : ((e : Int) * 8 + r != s) = false := by rw [bne_eq_false_iff_eq]; omega
        have he2 : (e : Int) < 33 := by omega
        have hr2 : (r : Int) < 8 := by omega
        have hcell := blk_cell BK.out (e * 8 + r)
        rw [hc_at (st_at sz s (e * 8 + r) (by omega)), show decide (((e * 8 + r : Nat) : Int) < s ∧ ((e * 8 + r : Nat) : Int) < sz) = false by rw [decide_eq_false_iff_not]; omega] at hcell
        have hfz := blk_frozen BK.out (e * 8 + r)
        have HS := Aside0.mk hs
        have HIN := Aside0.mk hin
        have HLT := Aside0.mk hlt
        clear hs hin
        go_wp2_with fail
        refine (extent_Where.calls sz s e r true _ HW.out).mono ?_
        rintro e1 w3 ⟨rfl, ⟨n3, rfl⟩⟩
        go_wp2
        go_roundw
        case rel =>
          refine ⟨s + 1, by go_num, ⟨by have := HLT.out; omega⟩, ⟨?_⟩, ⟨(pw_below_drewN HB.out _).setCell (by rw [Q.out]; exact Nat.le_refl _) _⟩⟩
          rw [← st_step sz s (e * 8 + r) (by omega) (by rw [HS.out]; omega) HIN.out.2, ← hc_set]
          exact blk_set (blk_drewN BK.out _) _ _
        case measure => have := HLT.out; simp [intOf]; omega
      · have HW := Aside0.mk (where_out sz s hin)
        have HIN := Aside0.mk hin
        have HLT := Aside0.mk hlt
        by_cases c1 : 0 ≤ s
        focus
          have g1 : decide (0 ≤ s) = true := decide_eq_true c1
          have g2 : decide (s < sz) = false := decide_eq_false (by omega)
          clear hin
          go_wp2_with fail
          refine (extent_Where.calls sz s 0 0 false _ HW.out).mono ?_
          rintro e1 w3 ⟨rfl, ⟨n3, rfl⟩⟩
          go_wp2
        rotate_left
        focus
          have g1 : decide (0 ≤ s) = false := decide_eq_false c1
          clear hin
          go_wp2_with fail
          refine (extent_Where.calls sz s 0 0 false _ HW.out).mono ?_
          rintro e1 w3 ⟨rfl, ⟨n3, rfl⟩⟩
          go_wp2
        all_goals
          go_roundw
          case rel =>
            refine ⟨s + 1, by go_num, ⟨by have := HLT.out; omega⟩, ⟨?_⟩, ⟨pw_below_drewN HB.out _⟩⟩
            rw [st_skip sz s HIN.out]
            exact blk_drewN BK.out _
          case measure => have := HLT.out; simp [intOf]; omega
    · have hlb : decide (s < sz + 3) = false := decide_eq_false hlt
      clear hlt i0 i1 HI
      go_wp2_with fail
      have hal0 : decide (10 < p2) = al sz (p1 - 10) (p2 - 10) (p1 - 10) := by
        unfold al
        rw [decide_eq_decide]
        exact ⟨fun h => ⟨by omega, fun t a b => by omega⟩, fun h => by have := h.1; omega⟩
      have HAL := Aside0.mk hal0
      have HW1 := Aside0.mk HB.out
      clear hal0
      go_loopw [12, 13] (fun v12 v13 wq => ∃ (b : Bool) (s : Int), v12 = .bool b ∧ v13 = .int .i64 s ∧ Aside0 (b = al sz (p1 - 10) (p2 - 10) s) ∧ Aside0 (p1 - 10 ≤ s ∧ (s ≤ p1 - 10 + (p2 - 10) ∨ s = p1 - 10)) ∧ Aside0 (Below w1.heap.size w1 wq)) (fun _ v _ => (p1 - 10 + (p2 - 10) - intOf v).toNat)
      case atStart =>
        exact ⟨_, _, rfl, rfl, HAL, ⟨by omega⟩, HW1⟩
      case round =>
        obtain ⟨b, s, rfl, rfl, HAB, HI, HB⟩ := hrel
        have i0 := HI.out.1
        have i1 := HI.out.2
        clear HAL HW1
        by_cases hlt : s < p1 - 10 + (p2 - 10)
        · have hlb : decide (s < p1 - 10 + (p2 - 10)) = true := decide_eq_true hlt
          have HLT := Aside0.mk hlt
          by_cases hin : 0 ≤ s ∧ s < sz
          focus
            obtain ⟨e, r, hs, he, hr⟩ : ∃ e r : Nat, s = 8 * e + r ∧ e < 33 ∧ r < 8 := ⟨(s / 8).toNat, (s % 8).toNat, by omega, by omega, by omega⟩
            have HW := Aside0.mk (where_in sz s e r hs he hr hin.2)
            have HN := Aside0.mk (show (b && true) = al sz (p1 - 10) (p2 - 10) (s + 1) by rw [al_step _ _ _ _ i0, HAB.out, decide_eq_true hin])
            clear hs hin
            go_wp2_with fail
            refine (extent_Where.calls sz s e r true _ HW.out).mono ?_
            rintro e1 w3 ⟨rfl, ⟨n3, rfl⟩⟩
          rotate_left
          focus
            have HW := Aside0.mk (where_out sz s hin)
            have HN := Aside0.mk (show (b && false) = al sz (p1 - 10) (p2 - 10) (s + 1) by rw [al_step _ _ _ _ i0, HAB.out, decide_eq_false hin])
            clear hin
            go_wp2_with fail
            refine (extent_Where.calls sz s 0 0 false _ HW.out).mono ?_
            rintro e1 w3 ⟨rfl, ⟨n3, rfl⟩⟩
          all_goals
            clear HAB
            cases b
            all_goals
              go_wp2
              go_roundw
              case rel => exact ⟨_, s + 1, rfl, by go_num, by first | exact HN | exact ⟨HN.out⟩, ⟨by have := HLT.out; omega⟩, ⟨pw_below_drewN HB.out _⟩⟩
              case measure => have := HLT.out; simp [intOf]; omega
        · have hlb : decide (s < p1 - 10 + (p2 - 10)) = false := decide_eq_false hlt
          have HS := Aside0.mk (show extent_Spans.f sz (p1 - 10) (p2 - 10) = some b by rw [HAB.out]; exact spans_eq sz _ _ hs0 hs1 (by omega) (by omega) (by omega) (by omega) s (by omega))
          clear HAB hlt i0 i1 HI
          go_wp2_with fail
          refine (extent_Spans.calls sz (p1 - 10) (p2 - 10) b _ HS.out).mono ?_
          rintro e1 w3 ⟨rfl, ⟨n4, rfl⟩⟩
          go_wp2
          go_ret
          exact ⟨by first | rfl | simp, below_step HB1.out (pw_below_drewN HB.out _)⟩
end HandExtentPlaces
def corbellaw17_ExtentPlaces.Pure : Prop := True
theorem corbellaw17_ExtentPlaces.walk (P : corbellaw17_ExtentPlaces.Pure) (a0 : Int) (a1 : Int) (a2 : Int) (w : World) (w0 : (Lit.int .i64 a0).wf = true) (w1 : (Lit.int .i64 a1).wf = true) (w2 : (Lit.int .i64 a2).wf = true) :
    Calls Try.prog 3 #[.int .i64 a0, .int .i64 a1, .int .i64 a2] w fun e w' => e = .returned (.bool true) ∧ Below w.heap.size w w' := HandExtentPlaces.walk a0 a1 a2 w

end Go.Proofs.Ytfenkpghcbohdaa.PExtentPlaces
