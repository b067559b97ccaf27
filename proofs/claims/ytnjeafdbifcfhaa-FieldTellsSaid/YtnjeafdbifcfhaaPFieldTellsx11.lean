-- Written by fk.py (a program of this session) over the kit's print: functions with a contract of our own among them.
import Derived.Test.YtnjeafdbifcfhaaPFieldTellsx0
import Derived.Test.YtnjeafdbifcfhaaPFieldTellsx9
namespace Go.Proofs.Ytnjeafdbifcfhaa.PFieldTells
open Go.RowKit Go.Proofs.YtnjeafdbifcfhaaW.PrintWords Go.Proofs.YtnjeafdbifcfhaaW.PrintLast Go.Proofs.YtnjeafdbifcfhaaW.PrintMore
attribute [local go_sem] max2_int min2_int max_two min_two max_three min_three max_four min_four   -- for this text's walks alone
set_option linter.unusedVariables false
set_option linter.unusedSimpArgs false

/-! ### corbelref3_Log: function 27 -/
def corbelref3_Log.l0 : Nat → Int → Int → Int → Option (Int × Bool)
  | 0, _, _, _ => none
  | k + 1, x0, x4, x5 => if x5 < 255 then (if x4 = x0 then (some (x5, true)) else ((corbelref3_Mul.f k x4 2).bind fun t102 => (corbelref3_Log.l0 k x0 t102 (wrap64 (x5 + 1))))) else (some (0, false))
def corbelref3_Log.f (k : Nat) (a0 : Int) : Option (Int × Bool) := corbelref3_Log.l0 k a0 1 0
theorem corbelref3_Log.mono_l : ∀ k, (∀ y0 y1 y2, LeO (corbelref3_Log.l0 k y0 y1 y2) (corbelref3_Log.l0 (k + 1) y0 y1 y2))
  | 0 => fun _ _ _ r h => by simp [corbelref3_Log.l0] at h
  | k + 1 => by
    have ih0 := corbelref3_Log.mono_l k
    · intro y0 y1 y2
      unfold corbelref3_Log.l0
      repeat' first
      | (with_reducible exact ih0 _ _ _)
      | (with_reducible exact corbelref3_Mul.mono _ _ _)
      | (with_reducible exact LeO.refl _)
      | (with_reducible exact LeO.none _)
      | (with_reducible refine LeO.ite ?_ ?_)
      | (with_reducible refine LeO.bind ?_ (fun _ => ?_))
      | exact ih0 _ _ _
      | exact corbelref3_Mul.mono _ _ _
      | exact LeO.none _
      | refine LeO.ite ?_ ?_
      | refine LeO.bind ?_ (fun _ => ?_)
theorem corbelref3_Log.mono : ∀ a0 k, LeO (corbelref3_Log.f k a0) (corbelref3_Log.f (k + 1) a0) := by
  intro a0 k
  have ih0 := corbelref3_Log.mono_l k
  unfold corbelref3_Log.f
  repeat' first
      | (with_reducible exact ih0 _ _ _)
      | (with_reducible exact corbelref3_Mul.mono _ _ _)
      | (with_reducible exact LeO.refl _)
      | (with_reducible exact LeO.none _)
      | (with_reducible refine LeO.ite ?_ ?_)
      | (with_reducible refine LeO.bind ?_ (fun _ => ?_))
      | exact ih0 _ _ _
      | exact corbelref3_Mul.mono _ _ _
      | exact LeO.none _
      | refine LeO.ite ?_ ?_
      | refine LeO.bind ?_ (fun _ => ?_)
set_option maxHeartbeats 8000000 in
set_option maxRecDepth 100000 in
theorem corbelref3_Log.calls (k : Nat) (a0 : Int) (r1 : Int) (r2 : Bool) (w : World) (h : corbelref3_Log.f k a0 = some (r1, r2)) :
    Calls Try.prog 27 #[.int .u8 a0] w fun e w' => e = .returned (.tuple #[.int .i64 r1, .bool r2]) ∧ Drawn0 w w' := by
  have H : (corbelref3_Log.l0 k a0 1 0) = some (r1, r2) := h
  clear h
  have H' := Aside0.mk H
  clear H
  go_enter Try.func27, Try.ntmps27
  go_wp2
  go_loopg [4, 5] k (fun kq v4 v5 w' => ∃ (x4_1 : Int) (x5_1 : Int), v4 = .int .u8 x4_1 ∧ v5 = .int .i64 x5_1 ∧ Aside0 (corbelref3_Log.l0 kq a0 x4_1 x5_1 = some (r1, r2)) ∧ Aside0 (kq ≤ k) ∧ Drawn0 w w')
  case atStart => exact ⟨(1), (0), (by first | rfl | (simp; done) | (simp [*]; done)), (by first | rfl | (simp; done) | (simp [*]; done)), H', ⟨Nat.le_refl _⟩, by repeat (first | exact Drawn0.refl _ | apply Drawn0.step)⟩
  case round =>
    clear H'
    obtain ⟨x4_1, x5_1, rfl, rfl, HA, HK1, ⟨m1, rfl⟩⟩ := hrel
    cases gk with
    | zero => exact absurd HA.out (by simp [corbelref3_Log.l0])
    | succ k1 =>
      have H := HA.out
      clear HA
      simp only [corbelref3_Log.l0] at H
      by_cases c2 : x5_1 < 255
      · rw [if_pos c2] at H
        have c2b0 : decide (x5_1 < 255) = true := decide_eq_true c2
        clear c2
        by_cases c3 : x4_1 = a0
        · rw [if_pos c3] at H
          have c3b0 : (x4_1 == a0) = true := beq_iff_eq.mpr c3
          have c3b1 : (x4_1 != a0) = false := bne_eq_false_iff_eq.mpr c3
          clear c3
          simp only [Option.some.injEq, Prod.mk.injEq] at H
          obtain ⟨rfl, rfl⟩ := H
          go_wp2
          go_ret2
          exact ⟨by first | rfl | (simp; done) | (simp [*]; done), by repeat (first | exact Drawn0.refl _ | apply Drawn0.step)⟩
        · rw [if_neg c3] at H
          have c3b0 : (x4_1 == a0) = false := beq_eq_false_iff_ne.mpr c3
          have c3b1 : (x4_1 != a0) = true := bne_iff_ne.mpr c3
          replace H := Option.bind_eq_some_iff.mp H
          obtain ⟨t102, A40, H⟩ := H
          replace H : (corbelref3_Log.l0 k1 a0 t102 (wrap64 (x5_1 + 1))) = some (r1, r2) := H
          have A4 := Aside0.mk A40
          clear A40
          have H' := Aside0.mk H
          clear H
          go_wp2_with (first | ((with_reducible refine gate_callee (f := 26) rfl ?_); refine goesL_ (some 15) rfl rfl Try.func26 (by kernel_rfl) rfl #[.int .u8 x4_1, .int .u8 2] rfl (by (try simp only [List.map_toArray, List.map_cons, List.map_nil]); first | done | rfl | (simp only [List.length_drop, List.length_take]; rfl)) ?_; (with_reducible refine (corbelref3_Mul.calls k1 x4_1 2 t102 _ A4.out).mono ?_); rintro e w' ⟨rfl, ⟨nd, rfl⟩⟩; refine ⟨_, rfl, ?_⟩))
          go_roundg k1
          case measure => have := HK1.out; omega
          case rel => exact ⟨(t102), (wrap64 (x5_1 + 1)), (by first | rfl | (simp; done) | (simp [*]; done)), (by first | rfl | (simp; done) | (simp [*]; done)), H', ⟨by have := HK1.out; omega⟩, by repeat (first | exact Drawn0.refl _ | apply Drawn0.step)⟩
      · rw [if_neg c2] at H
        have c2b0 : decide (x5_1 < 255) = false := decide_eq_false c2
        clear c2
        simp only [Option.some.injEq, Prod.mk.injEq] at H
        obtain ⟨rfl, rfl⟩ := H
        go_wp2
        go_ret2
        exact ⟨by first | rfl | (simp; done) | (simp [*]; done), by repeat (first | exact Drawn0.refl _ | apply Drawn0.step)⟩

end Go.Proofs.Ytnjeafdbifcfhaa.PFieldTells
