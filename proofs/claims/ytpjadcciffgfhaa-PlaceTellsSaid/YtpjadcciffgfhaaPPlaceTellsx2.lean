-- PRINTED BY print.sh 35421559b90ae4d0a3588c463048766b98c2df88dd9212a6774a882060cdf62d: not written by this session
import Derived.Test.YtpjadcciffgfhaaPPlaceTellsx0
import Derived.Test.YtpjadcciffgfhaaPPlaceTellsx1
namespace Go.Proofs.Ytpjadcciffgfhaa.PPlaceTells
open Go.RowKit Go.Proofs.YtpjadcciffgfhaaW.PrintWords Go.Proofs.YtpjadcciffgfhaaW.PrintLast Go.Proofs.YtpjadcciffgfhaaW.PrintMore
attribute [local go_sem] max2_int min2_int max_two min_two max_three min_three max_four min_four   -- for this text's walks alone
set_option linter.unusedVariables false
set_option linter.unusedSimpArgs false

/-! ### corbelref7_Logs: function 16 -/
mutual
def corbelref7_Logs.j0 : Nat → Int → Bool → Option (List Int)
  | 0, _, _ => none
  | k + 1, x0, x10 => if x10 = true then (some ([] : List Int)) else (corbelref7_Logs.l0 k x0 ([] : List Int) 0)
def corbelref7_Logs.l0 : Nat → Int → List Int → Int → Option (List Int)
  | 0, _, _, _ => none
  | k + 1, x0, x3, x4 => if x4 < 8 then (if x3.length < 17592186044416 then (corbelref7_Logs.l0 k x0 (x3 ++ [Int.tmod (wrap64 ((wrap64 (x0 + 5)) + x4)) 8]) (wrap64 (x4 + 1))) else (none)) else (some x3)
end
def corbelref7_Logs.f (k : Nat) (a0 : Int) : Option (List Int) := if a0 < 0 then (corbelref7_Logs.j0 k a0 true) else (corbelref7_Logs.j0 k a0 (decide (a0 ≥ 40)))
theorem corbelref7_Logs.mono_l : ∀ k, (∀ y0 y1, LeO (corbelref7_Logs.j0 k y0 y1) (corbelref7_Logs.j0 (k + 1) y0 y1)) ∧ (∀ y0 y1 y2, LeO (corbelref7_Logs.l0 k y0 y1 y2) (corbelref7_Logs.l0 (k + 1) y0 y1 y2))
  | 0 => ⟨fun _ _ r h => by simp [corbelref7_Logs.j0] at h, fun _ _ _ r h => by simp [corbelref7_Logs.l0] at h⟩
  | k + 1 => by
    obtain ⟨ih0, ih1⟩ := corbelref7_Logs.mono_l k
    refine ⟨?_, ?_⟩
    · intro y0 y1
      unfold corbelref7_Logs.j0
      repeat' first
      | (with_reducible exact ih0 _ _)
      | (with_reducible exact ih1 _ _ _)
      | (with_reducible exact LeO.refl _)
      | (with_reducible exact LeO.none _)
      | (with_reducible refine LeO.ite ?_ ?_)
      | (with_reducible refine LeO.bind ?_ (fun _ => ?_))
      | exact ih0 _ _
      | exact ih1 _ _ _
      | exact LeO.none _
      | refine LeO.ite ?_ ?_
      | refine LeO.bind ?_ (fun _ => ?_)
    · intro y0 y1 y2
      unfold corbelref7_Logs.l0
      repeat' first
      | (with_reducible exact ih0 _ _)
      | (with_reducible exact ih1 _ _ _)
      | (with_reducible exact LeO.refl _)
      | (with_reducible exact LeO.none _)
      | (with_reducible refine LeO.ite ?_ ?_)
      | (with_reducible refine LeO.bind ?_ (fun _ => ?_))
      | exact ih0 _ _
      | exact ih1 _ _ _
      | exact LeO.none _
      | refine LeO.ite ?_ ?_
      | refine LeO.bind ?_ (fun _ => ?_)
theorem corbelref7_Logs.mono : ∀ a0 k, LeO (corbelref7_Logs.f k a0) (corbelref7_Logs.f (k + 1) a0) := by
  intro a0 k
  obtain ⟨ih0, ih1⟩ := corbelref7_Logs.mono_l k
  unfold corbelref7_Logs.f
  repeat' first
      | (with_reducible exact ih0 _ _)
      | (with_reducible exact ih1 _ _ _)
      | (with_reducible exact LeO.refl _)
      | (with_reducible exact LeO.none _)
      | (with_reducible refine LeO.ite ?_ ?_)
      | (with_reducible refine LeO.bind ?_ (fun _ => ?_))
      | exact ih0 _ _
      | exact ih1 _ _ _
      | exact LeO.none _
      | refine LeO.ite ?_ ?_
      | refine LeO.bind ?_ (fun _ => ?_)
set_option maxHeartbeats 8000000 in
set_option maxRecDepth 100000 in
theorem corbelref7_Logs.calls (k : Nat) (a0 : Int) (r : List Int) (w : World) (h : corbelref7_Logs.f k a0 = some r) :
    Calls Try.prog 16 #[.int .i64 a0] w fun e w' => ∃ v0_ : Value, e = .returned (v0_) ∧ Kd.R (Kd.int .i64) 3 w' w.heap.size (fun _ => True) v0_ r ∧ Below w.heap.size w w' := by
  have HB := Aside0.mk (Below.refl w.heap.size w)
  have H : (if a0 < 0 then (corbelref7_Logs.j0 k a0 true) else (corbelref7_Logs.j0 k a0 (decide (a0 ≥ 40)))) = some r := h
  clear h
  have HC2 := Aside0.mk H
  clear H
  go_enter Try.func16, Try.ntmps16
  go_upto_region 1 with (fail)
  go_cut [10] (fun v10 wc => ∃ (kq : Nat) (x10_1 : Bool), v10 = .bool x10_1 ∧ Aside0 (corbelref7_Logs.j0 kq a0 x10_1 = some r) ∧ Aside0 (kq ≤ k) ∧ Aside0 (Below w.heap.size w wc))
  case first =>
    have H := HC2.out
    clear HC2
    by_cases c3 : a0 < 0
    · rw [if_pos c3] at H
      have c3b0 : decide (a0 < 0) = true := decide_eq_true c3
      clear c3
      (first | rw [c3b0] | (simp only [i64_w, i32_w]; rw [c3b0]) | skip)
      have H' := Aside0.mk H
      clear H
      go_wp2
      go_meet
      case rel => exact ⟨_, (true), (by first | rfl | (simp; done) | (simp [*]; done)), H', ⟨by first | omega | exact Nat.le_refl _⟩, ⟨by repeat (first | (with_reducible first | exact HB.out | apply below_alloc | apply pw_below_drewN | apply below_drew1) | exact HB.out)⟩⟩
    · rw [if_neg c3] at H
      have c3b0 : decide (a0 < 0) = false := decide_eq_false c3
      clear c3
      (first | rw [c3b0] | (simp only [i64_w, i32_w]; rw [c3b0]) | skip)
      have H' := Aside0.mk H
      clear H
      go_wp2
      go_meet
      case rel => exact ⟨_, (decide (a0 ≥ 40)), (by first | rfl | (simp; done) | (simp [*]; done)), H', ⟨by first | omega | exact Nat.le_refl _⟩, ⟨by repeat (first | (with_reducible first | exact HB.out | apply below_alloc | apply pw_below_drewN | apply below_drew1) | exact HB.out)⟩⟩
  case rest =>
    clear HC2
    try clear c1
    try clear p2
    try clear c3
    try clear c3b0
    obtain ⟨kq, x10_1, rfl, HA, HJ1, HB⟩ := hcut
    cases kq with
    | zero => exact absurd HA.out (by simp [corbelref7_Logs.j0])
    | succ kj1 =>
      have H := HA.out
      clear HA
      simp only [corbelref7_Logs.j0] at H
      by_cases c4 : x10_1 = true
      · subst c4
        have H1 : (some ([] : List Int)) = some r := by rw [if_pos rfl] at H; exact H
        clear H
        have H := H1
        clear H1
        obtain rfl := Option.some.inj H
        go_wp2
        go_ret
        exact ⟨_, by first | rfl | (simp [errW_none, errW_some] <;> rfl) | (simp [*, errW_none, errW_some] <;> rfl), by first | exact Kd.R_nil _ _ _ _ _ | exact Kd.N_nil _ _ _ _ _ | exact Kd.V_nil _ _ _ _ _ | exact Kd.Q_nil _ _ _ _ _ | exact Kd.S_nil _ _ _ _ _, by repeat (first | (with_reducible first | exact HB.out | apply below_alloc | apply pw_below_drewN | apply below_drew1) | exact HB.out)⟩
      · replace c4 := Bool.eq_false_iff.mpr c4
        subst c4
        have H1 : (corbelref7_Logs.l0 kj1 a0 ([] : List Int) 0) = some r := by rw [if_neg (show ¬ (false = true) by decide)] at H; exact H
        clear H
        have H := H1
        clear H1
        have H' := Aside0.mk H
        clear H
        go_wp2
        go_loopg [3, 4] kj1 (fun kq v3 v4 w' => ∃ (x3_2 : List Int) (x4_2 : Int), v4 = .int .i64 x4_2 ∧ Aside0 (corbelref7_Logs.l0 kq a0 x3_2 x4_2 = some r) ∧ Aside0 (kq ≤ kj1) ∧ Aside0 (Kd.R (Kd.int .i64) 3 w' w.heap.size (fun _ => True) v3 x3_2) ∧ Aside0 (Below w.heap.size w w'))
        case atStart => exact ⟨(([] : List Int)), (0), (by first | rfl | (simp; done) | (simp [*]; done)), H', ⟨Nat.le_refl _⟩, ⟨by first | exact Kd.R_nil _ _ _ _ _ | exact Kd.N_nil _ _ _ _ _ | exact Kd.V_nil _ _ _ _ _ | exact Kd.Q_nil _ _ _ _ _ | exact Kd.S_nil _ _ _ _ _⟩, ⟨by repeat (first | (with_reducible first | exact HB.out | apply below_alloc | apply pw_below_drewN | apply below_drew1) | exact HB.out)⟩⟩
        case round =>
          clear H'
          try clear c1
          try clear p2
          try clear c3
          try clear c3b0
          try clear c4
          try clear p2
          obtain ⟨x3_2, x4_2, rfl, HA, HK2, HO_3, HB⟩ := hrel
          cases gk with
          | zero => exact absurd HA.out (by simp [corbelref7_Logs.l0])
          | succ k2 =>
            have H := HA.out
            clear HA
            simp only [corbelref7_Logs.l0] at H
            by_cases c5 : x4_2 < 8
            · rw [if_pos c5] at H
              have c5b0 : decide (x4_2 < 8) = true := decide_eq_true c5
              clear c5
              by_cases c6 : x3_2.length < 17592186044416
              · rw [if_pos c6] at H
                have LMc6 := Aside0.mk c6
                clear c6
                obtain ⟨y119, hy119⟩ : ∃ y_ : List Int, y_ = (x3_2 ++ [Int.tmod (wrap64 ((wrap64 (a0 + 5)) + x4_2)) 8]) := ⟨_, rfl⟩
                replace H : (corbelref7_Logs.l0 k2 a0 y119 (wrap64 (x4_2 + 1))) = some r := by first | (rw [hy119]; with_reducible exact H) | (have H2_ := (Option.bind_some _ _).symm.trans H; rw [hy119]; with_reducible exact H2_) | (have H2_ := (Option.bind_some _ _).symm.trans H; with_reducible exact H2_) | with_reducible exact H | (rw [hy119]; exact H) | exact H
                have Ny119 := Aside0.mk hy119
                clear hy119
                have H' := Aside0.mk H
                clear H
                go_wp2_with (first | ((with_reducible refine gate_builtin (b := .append) (xs := #[.tmp 15, .tmp 21]) rfl ?_); at_builtin; refine Kd.R_append (Kd.int .i64) (w0 := w) w.heap.size rfl (.tmp 15) (.tmp 21) 24 3 (.int .i64 0) 8 rfl Try.underlying24 info3 rfl (by decide) (by omega) u3 x3_2 (Int.tmod (wrap64 ((wrap64 (a0 + 5)) + x4_2)) 8) [.int .i64 (Int.tmod (wrap64 ((wrap64 (a0 + 5)) + x4_2)) 8)] (fun _ => True) (fun _ => False) rfl rfl ?aP (fun _ hk => hk.elim) ?aF ?aO ?aB ?aS ?aL ?_; (case aP => exact rfl); (case aB => exact (by repeat (first | (with_reducible first | exact HB.out | apply below_alloc | apply pw_below_drewN | apply below_drew1) | exact HB.out))); (case aF => exact (fun _ _ => trivial)); (case aO => exact (by (with_reducible repeat (first | apply Kd.R_alloc | apply Kd.R_drewN | apply Kd.R_drew)); exact HO_3.out)); (case aS => exact (below_size (by repeat (first | (with_reducible first | exact HB.out | apply below_alloc | apply pw_below_drewN | apply below_drew1) | exact HB.out)))); (case aL => have := LMc6.out; omega); intro v120 w7 ho hb hg hat; rw [← Ny119.out] at ho; have n0_ := Aside0.mk (hb); have n1_ := Aside0.mk (ho); clear HB; clear HO_3; have HB := n0_; have HO121 := n1_; clear n0_ n1_; clear ho hb hg hat))
                go_roundg k2
                case measure => have := HJ1.out; have := HK2.out; omega
                case rel => exact ⟨(y119), (wrap64 (x4_2 + 1)), (by first | rfl | (simp; done) | (simp [*]; done)), H', ⟨by have := HJ1.out; have := HK2.out; omega⟩, ⟨by (with_reducible repeat (first | apply Kd.R_alloc | apply Kd.R_drewN | apply Kd.R_drew)); exact HO121.out⟩, ⟨by repeat (first | (with_reducible first | exact HB.out | apply below_alloc | apply pw_below_drewN | apply below_drew1) | exact HB.out)⟩⟩
              · rw [if_neg c6] at H
                exact absurd H (by simp)
            · rw [if_neg c5] at H
              have c5b0 : decide (x4_2 < 8) = false := decide_eq_false c5
              clear c5
              obtain rfl := Option.some.inj H
              go_wp2
              go_ret
              exact ⟨_, by first | rfl | (simp [errW_none, errW_some] <;> rfl) | (simp [*, errW_none, errW_some] <;> rfl), by (with_reducible repeat (first | apply Kd.R_alloc | apply Kd.R_drewN | apply Kd.R_drew)); exact HO_3.out, by repeat (first | (with_reducible first | exact HB.out | apply below_alloc | apply pw_below_drewN | apply below_drew1) | exact HB.out)⟩

/-! ### corbellaw13_PlaceTells: function 4 -/
def corbellaw13_PlaceTells.j0 : Nat → Int → Int → Int → Option (Bool)
  | 0, _, _, _ => none
  | k + 1, x0, x1, x2 => (corbellaw13_known.f k).bind fun t125 => (if t125 = true then ((place_Node.f x0 x1).bind fun t126 => ((corbelref7_On.f x0 x1).bind fun t127 => (if t126 = t127 then ((place_Index.f k x0 x2).bind fun t128 => ((corbelref7_Index.f k x0 x2).bind fun t129 => (if t128 = t129 then ((place_Logs.f k x0).bind fun t130 => ((corbelref7_Logs.f k x0).bind fun t133 => ((corbelref7_SameInts.f k t130 t133).bind fun t136 => (if t136 = true then ((place_Right.f x0).bind fun t137 => (if x0 ≥ 0 then (some (t137 == (decide (x0 < 40)))) else (some (t137 == false)))) else (some false))))) else (some false)))) else (some false)))) else (some false))
def corbellaw13_PlaceTells.f (k : Nat) (a0 : Int) (a1 : Int) (a2 : Int) (a3 : Bool) : Option (Bool) := if a3 = true then ((corbelhand_Pick.f a0 42).bind fun t122 => ((corbelhand_Pick.f a1 8).bind fun t123 => ((corbelhand_Pick.f a2 10).bind fun t124 => (corbellaw13_PlaceTells.j0 k (wrap64 (t122 - 1)) (wrap64 (t123 - 1)) (wrap64 (t124 - 1)))))) else (corbellaw13_PlaceTells.j0 k a0 a1 a2)
theorem corbellaw13_PlaceTells.mono_l : ∀ k, (∀ y0 y1 y2, LeO (corbellaw13_PlaceTells.j0 k y0 y1 y2) (corbellaw13_PlaceTells.j0 (k + 1) y0 y1 y2))
  | 0 => fun _ _ _ r h => by simp [corbellaw13_PlaceTells.j0] at h
  | k + 1 => by
    have ih0 := corbellaw13_PlaceTells.mono_l k
    · intro y0 y1 y2
      unfold corbellaw13_PlaceTells.j0
      repeat' first
      | (with_reducible exact ih0 _ _ _)
      | (with_reducible exact corbellaw13_known.mono _)
      | (with_reducible exact corbelref7_Index.mono _ _ _)
      | (with_reducible exact corbelref7_Logs.mono _ _)
      | (with_reducible exact corbelref7_SameInts.mono _ _ _)
      | (with_reducible exact place_Index.mono _ _ _)
      | (with_reducible exact place_Logs.mono _ _)
      | (with_reducible exact LeO.refl _)
      | (with_reducible exact LeO.none _)
      | (with_reducible refine LeO.ite ?_ ?_)
      | (with_reducible refine LeO.bind ?_ (fun _ => ?_))
      | exact ih0 _ _ _
      | exact corbellaw13_known.mono _
      | exact corbelref7_Index.mono _ _ _
      | exact corbelref7_Logs.mono _ _
      | exact corbelref7_SameInts.mono _ _ _
      | exact place_Index.mono _ _ _
      | exact place_Logs.mono _ _
      | exact LeO.none _
      | refine LeO.ite ?_ ?_
      | refine LeO.bind ?_ (fun _ => ?_)
theorem corbellaw13_PlaceTells.mono : ∀ a0 a1 a2 a3 k, LeO (corbellaw13_PlaceTells.f k a0 a1 a2 a3) (corbellaw13_PlaceTells.f (k + 1) a0 a1 a2 a3) := by
  intro a0 a1 a2 a3 k
  have ih0 := corbellaw13_PlaceTells.mono_l k
  unfold corbellaw13_PlaceTells.f
  repeat' first
      | (with_reducible exact ih0 _ _ _)
      | (with_reducible exact corbellaw13_known.mono _)
      | (with_reducible exact corbelref7_Index.mono _ _ _)
      | (with_reducible exact corbelref7_Logs.mono _ _)
      | (with_reducible exact corbelref7_SameInts.mono _ _ _)
      | (with_reducible exact place_Index.mono _ _ _)
      | (with_reducible exact place_Logs.mono _ _)
      | (with_reducible exact LeO.refl _)
      | (with_reducible exact LeO.none _)
      | (with_reducible refine LeO.ite ?_ ?_)
      | (with_reducible refine LeO.bind ?_ (fun _ => ?_))
      | exact ih0 _ _ _
      | exact corbellaw13_known.mono _
      | exact corbelref7_Index.mono _ _ _
      | exact corbelref7_Logs.mono _ _
      | exact corbelref7_SameInts.mono _ _ _
      | exact place_Index.mono _ _ _
      | exact place_Logs.mono _ _
      | exact LeO.none _
      | refine LeO.ite ?_ ?_
      | refine LeO.bind ?_ (fun _ => ?_)
set_option maxHeartbeats 8000000 in
set_option maxRecDepth 100000 in
theorem corbellaw13_PlaceTells.calls (k : Nat) (a0 : Int) (a1 : Int) (a2 : Int) (a3 : Bool) (r : Bool) (w : World) (h : corbellaw13_PlaceTells.f k a0 a1 a2 a3 = some r) :
    Calls Try.prog 4 #[.int .i64 a0, .int .i64 a1, .int .i64 a2, .bool a3] w fun e w' => e = .returned (.bool r) ∧ Below w.heap.size w w' := by
  have HB := Aside0.mk (Below.refl w.heap.size w)
  have H : (if a3 = true then ((corbelhand_Pick.f a0 42).bind fun t122 => ((corbelhand_Pick.f a1 8).bind fun t123 => ((corbelhand_Pick.f a2 10).bind fun t124 => (corbellaw13_PlaceTells.j0 k (wrap64 (t122 - 1)) (wrap64 (t123 - 1)) (wrap64 (t124 - 1)))))) else (corbellaw13_PlaceTells.j0 k a0 a1 a2)) = some r := h
  clear h
  have HC5 := Aside0.mk H
  clear H
  go_enter Try.func4, Try.ntmps4
  go_upto_if 9 with (fail)
  go_cut [0, 1, 2] (fun v0 v1 v2 wc => ∃ (kq : Nat) (x0_4 : Int) (x1_4 : Int) (x2_4 : Int), v0 = .int .i64 x0_4 ∧ v1 = .int .i64 x1_4 ∧ v2 = .int .i64 x2_4 ∧ Aside0 (corbellaw13_PlaceTells.j0 kq x0_4 x1_4 x2_4 = some r) ∧ Aside0 (kq ≤ k) ∧ Aside0 (Below w.heap.size w wc))
  case first =>
    have H := HC5.out
    clear HC5
    by_cases c6 : a3 = true
    · subst c6
      have H1 : ((corbelhand_Pick.f a0 42).bind fun t122 => ((corbelhand_Pick.f a1 8).bind fun t123 => ((corbelhand_Pick.f a2 10).bind fun t124 => (corbellaw13_PlaceTells.j0 k (wrap64 (t122 - 1)) (wrap64 (t123 - 1)) (wrap64 (t124 - 1)))))) = some r := by rw [if_pos rfl] at H; exact H
      clear H
      have H := H1
      clear H1
      replace H := Option.bind_eq_some_iff.mp H
      obtain ⟨t122, A70, H⟩ := H
      replace H : ((corbelhand_Pick.f a1 8).bind fun t123 => ((corbelhand_Pick.f a2 10).bind fun t124 => (corbellaw13_PlaceTells.j0 k (wrap64 (t122 - 1)) (wrap64 (t123 - 1)) (wrap64 (t124 - 1))))) = some r := H
      have A7 := Aside0.mk A70
      clear A70
      replace H := Option.bind_eq_some_iff.mp H
      obtain ⟨t123, A80, H⟩ := H
      replace H : ((corbelhand_Pick.f a2 10).bind fun t124 => (corbellaw13_PlaceTells.j0 k (wrap64 (t122 - 1)) (wrap64 (t123 - 1)) (wrap64 (t124 - 1)))) = some r := H
      have A8 := Aside0.mk A80
      clear A80
      replace H := Option.bind_eq_some_iff.mp H
      obtain ⟨t124, A90, H⟩ := H
      replace H : (corbellaw13_PlaceTells.j0 k (wrap64 (t122 - 1)) (wrap64 (t123 - 1)) (wrap64 (t124 - 1))) = some r := H
      have A9 := Aside0.mk A90
      clear A90
      have H' := Aside0.mk H
      clear H
      go_wp2_with (first | ((with_reducible refine gate_callee (f := 12) rfl ?_); refine goesL_ (some 11) rfl rfl Try.func12 (by kernel_rfl) rfl #[.int .i64 a0, .int .i64 42] rfl (by (try simp only [List.map_toArray, List.map_cons, List.map_nil]); first | done | rfl | (simp only [List.length_drop, List.length_take]; rfl)) ?_; (with_reducible refine (corbelhand_Pick.calls a0 42 t122 _ A7.out).mono ?_); rintro e w' ⟨rfl, ⟨nd, rfl⟩⟩; refine ⟨_, rfl, ?_⟩) | ((with_reducible refine gate_callee (f := 12) rfl ?_); refine goesL_ (some 14) rfl rfl Try.func12 (by kernel_rfl) rfl #[.int .i64 a1, .int .i64 8] rfl (by (try simp only [List.map_toArray, List.map_cons, List.map_nil]); first | done | rfl | (simp only [List.length_drop, List.length_take]; rfl)) ?_; (with_reducible refine (corbelhand_Pick.calls a1 8 t123 _ A8.out).mono ?_); rintro e w' ⟨rfl, ⟨nd, rfl⟩⟩; refine ⟨_, rfl, ?_⟩) | ((with_reducible refine gate_callee (f := 12) rfl ?_); refine goesL_ (some 17) rfl rfl Try.func12 (by kernel_rfl) rfl #[.int .i64 a2, .int .i64 10] rfl (by (try simp only [List.map_toArray, List.map_cons, List.map_nil]); first | done | rfl | (simp only [List.length_drop, List.length_take]; rfl)) ?_; (with_reducible refine (corbelhand_Pick.calls a2 10 t124 _ A9.out).mono ?_); rintro e w' ⟨rfl, ⟨nd, rfl⟩⟩; refine ⟨_, rfl, ?_⟩))
      go_meet
      case rel => exact ⟨_, (wrap64 (t122 - 1)), (wrap64 (t123 - 1)), (wrap64 (t124 - 1)), (by first | rfl | (simp; done) | (simp [*]; done)), (by first | rfl | (simp; done) | (simp [*]; done)), (by first | rfl | (simp; done) | (simp [*]; done)), H', ⟨by first | omega | exact Nat.le_refl _⟩, ⟨by repeat (first | (with_reducible first | exact HB.out | apply below_alloc | apply pw_below_drewN | apply below_drew1) | exact HB.out)⟩⟩
    · replace c6 := Bool.eq_false_iff.mpr c6
      subst c6
      have H1 : (corbellaw13_PlaceTells.j0 k a0 a1 a2) = some r := by rw [if_neg (show ¬ (false = true) by decide)] at H; exact H
      clear H
      have H := H1
      clear H1
      have H' := Aside0.mk H
      clear H
      go_wp2
      go_meet
      case rel => exact ⟨_, (a0), (a1), (a2), (by first | rfl | (simp; done) | (simp [*]; done)), (by first | rfl | (simp; done) | (simp [*]; done)), (by first | rfl | (simp; done) | (simp [*]; done)), H', ⟨by first | omega | exact Nat.le_refl _⟩, ⟨by repeat (first | (with_reducible first | exact HB.out | apply below_alloc | apply pw_below_drewN | apply below_drew1) | exact HB.out)⟩⟩
  case rest =>
    clear HC5
    try clear c1
    try clear p2
    try clear c4
    try clear c6
    try clear p6
    obtain ⟨kq, x0_4, x1_4, x2_4, rfl, rfl, rfl, HA, HJ4, HB⟩ := hcut
    cases kq with
    | zero => exact absurd HA.out (by simp [corbellaw13_PlaceTells.j0])
    | succ kj4 =>
      have H := HA.out
      clear HA
      simp only [corbellaw13_PlaceTells.j0] at H
      replace H := Option.bind_eq_some_iff.mp H
      obtain ⟨t125, A100, H⟩ := H
      replace H : (if t125 = true then ((place_Node.f x0_4 x1_4).bind fun t126 => ((corbelref7_On.f x0_4 x1_4).bind fun t127 => (if t126 = t127 then ((place_Index.f kj4 x0_4 x2_4).bind fun t128 => ((corbelref7_Index.f kj4 x0_4 x2_4).bind fun t129 => (if t128 = t129 then ((place_Logs.f kj4 x0_4).bind fun t130 => ((corbelref7_Logs.f kj4 x0_4).bind fun t133 => ((corbelref7_SameInts.f kj4 t130 t133).bind fun t136 => (if t136 = true then ((place_Right.f x0_4).bind fun t137 => (if x0_4 ≥ 0 then (some (t137 == (decide (x0_4 < 40)))) else (some (t137 == false)))) else (some false))))) else (some false)))) else (some false)))) else (some false)) = some r := H
      have A10 := Aside0.mk A100
      clear A100
      by_cases c11 : t125 = true
      · subst c11
        have H1 : ((place_Node.f x0_4 x1_4).bind fun t126 => ((corbelref7_On.f x0_4 x1_4).bind fun t127 => (if t126 = t127 then ((place_Index.f kj4 x0_4 x2_4).bind fun t128 => ((corbelref7_Index.f kj4 x0_4 x2_4).bind fun t129 => (if t128 = t129 then ((place_Logs.f kj4 x0_4).bind fun t130 => ((corbelref7_Logs.f kj4 x0_4).bind fun t133 => ((corbelref7_SameInts.f kj4 t130 t133).bind fun t136 => (if t136 = true then ((place_Right.f x0_4).bind fun t137 => (if x0_4 ≥ 0 then (some (t137 == (decide (x0_4 < 40)))) else (some (t137 == false)))) else (some false))))) else (some false)))) else (some false)))) = some r := by rw [if_pos rfl] at H; exact H
        clear H
        have H := H1
        clear H1
        replace H := Option.bind_eq_some_iff.mp H
        obtain ⟨t126, A120, H⟩ := H
        replace H : ((corbelref7_On.f x0_4 x1_4).bind fun t127 => (if t126 = t127 then ((place_Index.f kj4 x0_4 x2_4).bind fun t128 => ((corbelref7_Index.f kj4 x0_4 x2_4).bind fun t129 => (if t128 = t129 then ((place_Logs.f kj4 x0_4).bind fun t130 => ((corbelref7_Logs.f kj4 x0_4).bind fun t133 => ((corbelref7_SameInts.f kj4 t130 t133).bind fun t136 => (if t136 = true then ((place_Right.f x0_4).bind fun t137 => (if x0_4 ≥ 0 then (some (t137 == (decide (x0_4 < 40)))) else (some (t137 == false)))) else (some false))))) else (some false)))) else (some false))) = some r := H
        have A12 := Aside0.mk A120
        clear A120
        replace H := Option.bind_eq_some_iff.mp H
        obtain ⟨t127, A130, H⟩ := H
        replace H : (if t126 = t127 then ((place_Index.f kj4 x0_4 x2_4).bind fun t128 => ((corbelref7_Index.f kj4 x0_4 x2_4).bind fun t129 => (if t128 = t129 then ((place_Logs.f kj4 x0_4).bind fun t130 => ((corbelref7_Logs.f kj4 x0_4).bind fun t133 => ((corbelref7_SameInts.f kj4 t130 t133).bind fun t136 => (if t136 = true then ((place_Right.f x0_4).bind fun t137 => (if x0_4 ≥ 0 then (some (t137 == (decide (x0_4 < 40)))) else (some (t137 == false)))) else (some false))))) else (some false)))) else (some false)) = some r := H
        have A13 := Aside0.mk A130
        clear A130
        by_cases c14 : t126 = t127
        · rw [if_pos c14] at H
          have c14b0 : (t126 == t127) = true := beq_iff_eq.mpr c14
          have c14b1 : (t126 != t127) = false := bne_eq_false_iff_eq.mpr c14
          clear c14
          replace H := Option.bind_eq_some_iff.mp H
          obtain ⟨t128, A150, H⟩ := H
          replace H : ((corbelref7_Index.f kj4 x0_4 x2_4).bind fun t129 => (if t128 = t129 then ((place_Logs.f kj4 x0_4).bind fun t130 => ((corbelref7_Logs.f kj4 x0_4).bind fun t133 => ((corbelref7_SameInts.f kj4 t130 t133).bind fun t136 => (if t136 = true then ((place_Right.f x0_4).bind fun t137 => (if x0_4 ≥ 0 then (some (t137 == (decide (x0_4 < 40)))) else (some (t137 == false)))) else (some false))))) else (some false))) = some r := H
          have A15 := Aside0.mk A150
          clear A150
          replace H := Option.bind_eq_some_iff.mp H
          obtain ⟨t129, A160, H⟩ := H
          replace H : (if t128 = t129 then ((place_Logs.f kj4 x0_4).bind fun t130 => ((corbelref7_Logs.f kj4 x0_4).bind fun t133 => ((corbelref7_SameInts.f kj4 t130 t133).bind fun t136 => (if t136 = true then ((place_Right.f x0_4).bind fun t137 => (if x0_4 ≥ 0 then (some (t137 == (decide (x0_4 < 40)))) else (some (t137 == false)))) else (some false))))) else (some false)) = some r := H
          have A16 := Aside0.mk A160
          clear A160
          by_cases c17 : t128 = t129
          · rw [if_pos c17] at H
            have c17b0 : (t128 == t129) = true := beq_iff_eq.mpr c17
            have c17b1 : (t128 != t129) = false := bne_eq_false_iff_eq.mpr c17
            clear c17
            replace H := Option.bind_eq_some_iff.mp H
            obtain ⟨t130, A180, H⟩ := H
            replace H : ((corbelref7_Logs.f kj4 x0_4).bind fun t133 => ((corbelref7_SameInts.f kj4 t130 t133).bind fun t136 => (if t136 = true then ((place_Right.f x0_4).bind fun t137 => (if x0_4 ≥ 0 then (some (t137 == (decide (x0_4 < 40)))) else (some (t137 == false)))) else (some false)))) = some r := H
            have A18 := Aside0.mk A180
            clear A180
            replace H := Option.bind_eq_some_iff.mp H
            obtain ⟨t133, A190, H⟩ := H
            replace H : ((corbelref7_SameInts.f kj4 t130 t133).bind fun t136 => (if t136 = true then ((place_Right.f x0_4).bind fun t137 => (if x0_4 ≥ 0 then (some (t137 == (decide (x0_4 < 40)))) else (some (t137 == false)))) else (some false))) = some r := H
            have A19 := Aside0.mk A190
            clear A190
            replace H := Option.bind_eq_some_iff.mp H
            obtain ⟨t136, A200, H⟩ := H
            replace H : (if t136 = true then ((place_Right.f x0_4).bind fun t137 => (if x0_4 ≥ 0 then (some (t137 == (decide (x0_4 < 40)))) else (some (t137 == false)))) else (some false)) = some r := H
            have A20 := Aside0.mk A200
            clear A200
            by_cases c21 : t136 = true
            · subst c21
              have H1 : ((place_Right.f x0_4).bind fun t137 => (if x0_4 ≥ 0 then (some (t137 == (decide (x0_4 < 40)))) else (some (t137 == false)))) = some r := by rw [if_pos rfl] at H; exact H
              clear H
              have H := H1
              clear H1
              replace H := Option.bind_eq_some_iff.mp H
              obtain ⟨t137, A220, H⟩ := H
              replace H : (if x0_4 ≥ 0 then (some (t137 == (decide (x0_4 < 40)))) else (some (t137 == false))) = some r := H
              have A22 := Aside0.mk A220
              clear A220
              by_cases c23 : x0_4 ≥ 0
              · rw [if_pos c23] at H
                have c23b0 : decide (0 ≤ x0_4) = true := decide_eq_true c23
                clear c23
                obtain rfl := Option.some.inj H
                go_wp2_with (first | ((with_reducible refine gate_callee (f := 7) rfl ?_); refine goesL_ (some 19) rfl rfl Try.func7 (by kernel_rfl) rfl #[] rfl (by (try simp only [List.map_toArray, List.map_cons, List.map_nil]); first | done | rfl | (simp only [List.length_drop, List.length_take]; rfl)) ?_; (with_reducible refine (corbellaw13_known.calls kj4  true _ A10.out).mono ?_); rintro e w24 ⟨rfl, hb⟩; refine ⟨_, rfl, ?_⟩; have n0_ := Aside0.mk (below_step (by repeat (first | (with_reducible first | exact HB.out | apply below_alloc | apply pw_below_drewN | apply below_drew1) | exact HB.out)) hb); clear HB; have HB := n0_; clear n0_; (try clear hb); (try clear hb2); (try clear hk); (try clear hi)) | (go_at_call 9; (with_reducible refine (place_Node.calls x0_4 x1_4 t126 _ A12.out).mono ?_); rintro e w' ⟨rfl, ⟨nd, rfl⟩⟩) | (go_at_call 13; (with_reducible refine (corbelref7_On.calls x0_4 x1_4 t127 _ A13.out).mono ?_); rintro e w' ⟨rfl, ⟨nd, rfl⟩⟩) | (go_at_call 8; (with_reducible refine (place_Index.calls kj4 x0_4 x2_4 t128 _ A15.out).mono ?_); rintro e w' ⟨rfl, ⟨nd, rfl⟩⟩) | (go_at_call 14; (with_reducible refine (corbelref7_Index.calls kj4 x0_4 x2_4 t129 _ A16.out).mono ?_); rintro e w' ⟨rfl, ⟨nd, rfl⟩⟩) | (go_at_call 10; (with_reducible refine (place_Logs.calls kj4 x0_4 t130 _ A18.out).mono ?_); rintro e w25 ⟨v131, rfl, ho0, hb⟩; have n0_ := Aside0.mk (Kd.R_lower ho0 (below_size (by repeat (first | (with_reducible first | exact HB.out | apply below_alloc | apply pw_below_drewN | apply below_drew1) | exact HB.out)))); have n1_ := Aside0.mk (below_step (by repeat (first | (with_reducible first | exact HB.out | apply below_alloc | apply pw_below_drewN | apply below_drew1) | exact HB.out)) hb); clear HB; have HO132 := n0_; have HB := n1_; clear n0_ n1_; (try clear hb); (try clear hb2); (try clear hk); (try clear hi); (try clear ho0)) | (go_at_call 16; (with_reducible refine (corbelref7_Logs.calls kj4 x0_4 t133 _ A19.out).mono ?_); rintro e w26 ⟨v134, rfl, ho0, hb⟩; have n0_ := Aside0.mk (Kd.R_elder' (by (with_reducible repeat (first | apply Kd.R_alloc | apply Kd.R_drewN | apply Kd.R_drew)); exact HO132.out) (Kd.R_base ho0) hb); have n1_ := Aside0.mk (Kd.R_lower (Kd.R_new' ho0 (Kd.R_lt (by (with_reducible repeat (first | apply Kd.R_alloc | apply Kd.R_drewN | apply Kd.R_drew)); exact HO132.out))) (below_size (by repeat (first | (with_reducible first | exact HB.out | apply below_alloc | apply pw_below_drewN | apply below_drew1) | exact HB.out)))); have n2_ := Aside0.mk (below_step (by repeat (first | (with_reducible first | exact HB.out | apply below_alloc | apply pw_below_drewN | apply below_drew1) | exact HB.out)) hb); clear HO132; clear HB; have HO132 := n0_; have HO135 := n1_; have HB := n2_; clear n0_ n1_ n2_; (try clear hb); (try clear hb2); (try clear hk); (try clear hi); (try clear ho0); obtain ⟨Ao27, co27, eo27⟩ := Kd.R_slice HO132.out; subst eo27; obtain ⟨Ao28, co28, eo28⟩ := Kd.R_slice HO135.out; subst eo28) | (go_at_call 15; (with_reducible refine (corbelref7_SameInts.calls kj4 _ _ t130 _ _ t133 true _ ?side1 ?side2 ?side3 ?side4 A20.out).mono ?_); (case side1 => repeat (first | exact (Kd.R_reads' HO132.out).2.2 | (with_reducible refine Kd.C_alloc ?_ _) | (with_reducible refine Kd.C_drewN ?_ _) | (with_reducible refine Kd.C_drew ?_))); (case side2 => exact (Kd.R_reads' HO132.out).2.1); (case side3 => repeat (first | exact (Kd.R_reads' HO135.out).2.2 | (with_reducible refine Kd.C_alloc ?_ _) | (with_reducible refine Kd.C_drewN ?_ _) | (with_reducible refine Kd.C_drew ?_))); (case side4 => exact (Kd.R_reads' HO135.out).2.1); rintro e w' ⟨rfl, ⟨nd, rfl⟩⟩) | (go_at_call 11; (with_reducible refine (place_Right.calls x0_4 t137 _ A22.out).mono ?_); rintro e w' ⟨rfl, ⟨nd, rfl⟩⟩))
                go_ret
                exact ⟨by first | rfl | (simp [errW_none, errW_some] <;> rfl) | (simp [*, errW_none, errW_some] <;> rfl), by repeat (first | (with_reducible first | exact HB.out | apply below_alloc | apply pw_below_drewN | apply below_drew1) | exact HB.out)⟩
              · rw [if_neg c23] at H
                have c23b0 : decide (0 ≤ x0_4) = false := decide_eq_false c23
                clear c23
                obtain rfl := Option.some.inj H
                go_wp2_with (first | ((with_reducible refine gate_callee (f := 7) rfl ?_); refine goesL_ (some 19) rfl rfl Try.func7 (by kernel_rfl) rfl #[] rfl (by (try simp only [List.map_toArray, List.map_cons, List.map_nil]); first | done | rfl | (simp only [List.length_drop, List.length_take]; rfl)) ?_; (with_reducible refine (corbellaw13_known.calls kj4  true _ A10.out).mono ?_); rintro e w29 ⟨rfl, hb⟩; refine ⟨_, rfl, ?_⟩; have n0_ := Aside0.mk (below_step (by repeat (first | (with_reducible first | exact HB.out | apply below_alloc | apply pw_below_drewN | apply below_drew1) | exact HB.out)) hb); clear HB; have HB := n0_; clear n0_; (try clear hb); (try clear hb2); (try clear hk); (try clear hi)) | (go_at_call 9; (with_reducible refine (place_Node.calls x0_4 x1_4 t126 _ A12.out).mono ?_); rintro e w' ⟨rfl, ⟨nd, rfl⟩⟩) | (go_at_call 13; (with_reducible refine (corbelref7_On.calls x0_4 x1_4 t127 _ A13.out).mono ?_); rintro e w' ⟨rfl, ⟨nd, rfl⟩⟩) | (go_at_call 8; (with_reducible refine (place_Index.calls kj4 x0_4 x2_4 t128 _ A15.out).mono ?_); rintro e w' ⟨rfl, ⟨nd, rfl⟩⟩) | (go_at_call 14; (with_reducible refine (corbelref7_Index.calls kj4 x0_4 x2_4 t129 _ A16.out).mono ?_); rintro e w' ⟨rfl, ⟨nd, rfl⟩⟩) | (go_at_call 10; (with_reducible refine (place_Logs.calls kj4 x0_4 t130 _ A18.out).mono ?_); rintro e w30 ⟨v131, rfl, ho0, hb⟩; have n0_ := Aside0.mk (Kd.R_lower ho0 (below_size (by repeat (first | (with_reducible first | exact HB.out | apply below_alloc | apply pw_below_drewN | apply below_drew1) | exact HB.out)))); have n1_ := Aside0.mk (below_step (by repeat (first | (with_reducible first | exact HB.out | apply below_alloc | apply pw_below_drewN | apply below_drew1) | exact HB.out)) hb); clear HB; have HO132 := n0_; have HB := n1_; clear n0_ n1_; (try clear hb); (try clear hb2); (try clear hk); (try clear hi); (try clear ho0)) | (go_at_call 16; (with_reducible refine (corbelref7_Logs.calls kj4 x0_4 t133 _ A19.out).mono ?_); rintro e w31 ⟨v134, rfl, ho0, hb⟩; have n0_ := Aside0.mk (Kd.R_elder' (by (with_reducible repeat (first | apply Kd.R_alloc | apply Kd.R_drewN | apply Kd.R_drew)); exact HO132.out) (Kd.R_base ho0) hb); have n1_ := Aside0.mk (Kd.R_lower (Kd.R_new' ho0 (Kd.R_lt (by (with_reducible repeat (first | apply Kd.R_alloc | apply Kd.R_drewN | apply Kd.R_drew)); exact HO132.out))) (below_size (by repeat (first | (with_reducible first | exact HB.out | apply below_alloc | apply pw_below_drewN | apply below_drew1) | exact HB.out)))); have n2_ := Aside0.mk (below_step (by repeat (first | (with_reducible first | exact HB.out | apply below_alloc | apply pw_below_drewN | apply below_drew1) | exact HB.out)) hb); clear HO132; clear HB; have HO132 := n0_; have HO135 := n1_; have HB := n2_; clear n0_ n1_ n2_; (try clear hb); (try clear hb2); (try clear hk); (try clear hi); (try clear ho0); obtain ⟨Ao32, co32, eo32⟩ := Kd.R_slice HO132.out; subst eo32; obtain ⟨Ao33, co33, eo33⟩ := Kd.R_slice HO135.out; subst eo33) | (go_at_call 15; (with_reducible refine (corbelref7_SameInts.calls kj4 _ _ t130 _ _ t133 true _ ?side1 ?side2 ?side3 ?side4 A20.out).mono ?_); (case side1 => repeat (first | exact (Kd.R_reads' HO132.out).2.2 | (with_reducible refine Kd.C_alloc ?_ _) | (with_reducible refine Kd.C_drewN ?_ _) | (with_reducible refine Kd.C_drew ?_))); (case side2 => exact (Kd.R_reads' HO132.out).2.1); (case side3 => repeat (first | exact (Kd.R_reads' HO135.out).2.2 | (with_reducible refine Kd.C_alloc ?_ _) | (with_reducible refine Kd.C_drewN ?_ _) | (with_reducible refine Kd.C_drew ?_))); (case side4 => exact (Kd.R_reads' HO135.out).2.1); rintro e w' ⟨rfl, ⟨nd, rfl⟩⟩) | (go_at_call 11; (with_reducible refine (place_Right.calls x0_4 t137 _ A22.out).mono ?_); rintro e w' ⟨rfl, ⟨nd, rfl⟩⟩))
                go_ret
                exact ⟨by first | rfl | (simp [errW_none, errW_some] <;> rfl) | (simp [*, errW_none, errW_some] <;> rfl), by repeat (first | (with_reducible first | exact HB.out | apply below_alloc | apply pw_below_drewN | apply below_drew1) | exact HB.out)⟩
            · replace c21 := Bool.eq_false_iff.mpr c21
              subst c21
              have H1 : (some false) = some r := by rw [if_neg (show ¬ (false = true) by decide)] at H; exact H
              clear H
              have H := H1
              clear H1
              obtain rfl := Option.some.inj H
              go_wp2_with (first | ((with_reducible refine gate_callee (f := 7) rfl ?_); refine goesL_ (some 19) rfl rfl Try.func7 (by kernel_rfl) rfl #[] rfl (by (try simp only [List.map_toArray, List.map_cons, List.map_nil]); first | done | rfl | (simp only [List.length_drop, List.length_take]; rfl)) ?_; (with_reducible refine (corbellaw13_known.calls kj4  true _ A10.out).mono ?_); rintro e w34 ⟨rfl, hb⟩; refine ⟨_, rfl, ?_⟩; have n0_ := Aside0.mk (below_step (by repeat (first | (with_reducible first | exact HB.out | apply below_alloc | apply pw_below_drewN | apply below_drew1) | exact HB.out)) hb); clear HB; have HB := n0_; clear n0_; (try clear hb); (try clear hb2); (try clear hk); (try clear hi)) | (go_at_call 9; (with_reducible refine (place_Node.calls x0_4 x1_4 t126 _ A12.out).mono ?_); rintro e w' ⟨rfl, ⟨nd, rfl⟩⟩) | (go_at_call 13; (with_reducible refine (corbelref7_On.calls x0_4 x1_4 t127 _ A13.out).mono ?_); rintro e w' ⟨rfl, ⟨nd, rfl⟩⟩) | (go_at_call 8; (with_reducible refine (place_Index.calls kj4 x0_4 x2_4 t128 _ A15.out).mono ?_); rintro e w' ⟨rfl, ⟨nd, rfl⟩⟩) | (go_at_call 14; (with_reducible refine (corbelref7_Index.calls kj4 x0_4 x2_4 t129 _ A16.out).mono ?_); rintro e w' ⟨rfl, ⟨nd, rfl⟩⟩) | (go_at_call 10; (with_reducible refine (place_Logs.calls kj4 x0_4 t130 _ A18.out).mono ?_); rintro e w35 ⟨v131, rfl, ho0, hb⟩; have n0_ := Aside0.mk (Kd.R_lower ho0 (below_size (by repeat (first | (with_reducible first | exact HB.out | apply below_alloc | apply pw_below_drewN | apply below_drew1) | exact HB.out)))); have n1_ := Aside0.mk (below_step (by repeat (first | (with_reducible first | exact HB.out | apply below_alloc | apply pw_below_drewN | apply below_drew1) | exact HB.out)) hb); clear HB; have HO132 := n0_; have HB := n1_; clear n0_ n1_; (try clear hb); (try clear hb2); (try clear hk); (try clear hi); (try clear ho0)) | (go_at_call 16; (with_reducible refine (corbelref7_Logs.calls kj4 x0_4 t133 _ A19.out).mono ?_); rintro e w36 ⟨v134, rfl, ho0, hb⟩; have n0_ := Aside0.mk (Kd.R_elder' (by (with_reducible repeat (first | apply Kd.R_alloc | apply Kd.R_drewN | apply Kd.R_drew)); exact HO132.out) (Kd.R_base ho0) hb); have n1_ := Aside0.mk (Kd.R_lower (Kd.R_new' ho0 (Kd.R_lt (by (with_reducible repeat (first | apply Kd.R_alloc | apply Kd.R_drewN | apply Kd.R_drew)); exact HO132.out))) (below_size (by repeat (first | (with_reducible first | exact HB.out | apply below_alloc | apply pw_below_drewN | apply below_drew1) | exact HB.out)))); have n2_ := Aside0.mk (below_step (by repeat (first | (with_reducible first | exact HB.out | apply below_alloc | apply pw_below_drewN | apply below_drew1) | exact HB.out)) hb); clear HO132; clear HB; have HO132 := n0_; have HO135 := n1_; have HB := n2_; clear n0_ n1_ n2_; (try clear hb); (try clear hb2); (try clear hk); (try clear hi); (try clear ho0); obtain ⟨Ao37, co37, eo37⟩ := Kd.R_slice HO132.out; subst eo37; obtain ⟨Ao38, co38, eo38⟩ := Kd.R_slice HO135.out; subst eo38) | (go_at_call 15; (with_reducible refine (corbelref7_SameInts.calls kj4 _ _ t130 _ _ t133 false _ ?side1 ?side2 ?side3 ?side4 A20.out).mono ?_); (case side1 => repeat (first | exact (Kd.R_reads' HO132.out).2.2 | (with_reducible refine Kd.C_alloc ?_ _) | (with_reducible refine Kd.C_drewN ?_ _) | (with_reducible refine Kd.C_drew ?_))); (case side2 => exact (Kd.R_reads' HO132.out).2.1); (case side3 => repeat (first | exact (Kd.R_reads' HO135.out).2.2 | (with_reducible refine Kd.C_alloc ?_ _) | (with_reducible refine Kd.C_drewN ?_ _) | (with_reducible refine Kd.C_drew ?_))); (case side4 => exact (Kd.R_reads' HO135.out).2.1); rintro e w' ⟨rfl, ⟨nd, rfl⟩⟩))
              go_ret
              exact ⟨by first | rfl | (simp [errW_none, errW_some] <;> rfl) | (simp [*, errW_none, errW_some] <;> rfl), by repeat (first | (with_reducible first | exact HB.out | apply below_alloc | apply pw_below_drewN | apply below_drew1) | exact HB.out)⟩
          · rw [if_neg c17] at H
            have c17b0 : (t128 == t129) = false := beq_eq_false_iff_ne.mpr c17
            have c17b1 : (t128 != t129) = true := bne_iff_ne.mpr c17
            obtain rfl := Option.some.inj H
            go_wp2_with (first | ((with_reducible refine gate_callee (f := 7) rfl ?_); refine goesL_ (some 19) rfl rfl Try.func7 (by kernel_rfl) rfl #[] rfl (by (try simp only [List.map_toArray, List.map_cons, List.map_nil]); first | done | rfl | (simp only [List.length_drop, List.length_take]; rfl)) ?_; (with_reducible refine (corbellaw13_known.calls kj4  true _ A10.out).mono ?_); rintro e w39 ⟨rfl, hb⟩; refine ⟨_, rfl, ?_⟩; have n0_ := Aside0.mk (below_step (by repeat (first | (with_reducible first | exact HB.out | apply below_alloc | apply pw_below_drewN | apply below_drew1) | exact HB.out)) hb); clear HB; have HB := n0_; clear n0_; (try clear hb); (try clear hb2); (try clear hk); (try clear hi)) | (go_at_call 9; (with_reducible refine (place_Node.calls x0_4 x1_4 t126 _ A12.out).mono ?_); rintro e w' ⟨rfl, ⟨nd, rfl⟩⟩) | (go_at_call 13; (with_reducible refine (corbelref7_On.calls x0_4 x1_4 t127 _ A13.out).mono ?_); rintro e w' ⟨rfl, ⟨nd, rfl⟩⟩) | (go_at_call 8; (with_reducible refine (place_Index.calls kj4 x0_4 x2_4 t128 _ A15.out).mono ?_); rintro e w' ⟨rfl, ⟨nd, rfl⟩⟩) | (go_at_call 14; (with_reducible refine (corbelref7_Index.calls kj4 x0_4 x2_4 t129 _ A16.out).mono ?_); rintro e w' ⟨rfl, ⟨nd, rfl⟩⟩))
            go_ret
            exact ⟨by first | rfl | (simp [errW_none, errW_some] <;> rfl) | (simp [*, errW_none, errW_some] <;> rfl), by repeat (first | (with_reducible first | exact HB.out | apply below_alloc | apply pw_below_drewN | apply below_drew1) | exact HB.out)⟩
        · rw [if_neg c14] at H
          have c14b0 : (t126 == t127) = false := beq_eq_false_iff_ne.mpr c14
          have c14b1 : (t126 != t127) = true := bne_iff_ne.mpr c14
          obtain rfl := Option.some.inj H
          go_wp2_with (first | ((with_reducible refine gate_callee (f := 7) rfl ?_); refine goesL_ (some 19) rfl rfl Try.func7 (by kernel_rfl) rfl #[] rfl (by (try simp only [List.map_toArray, List.map_cons, List.map_nil]); first | done | rfl | (simp only [List.length_drop, List.length_take]; rfl)) ?_; (with_reducible refine (corbellaw13_known.calls kj4  true _ A10.out).mono ?_); rintro e w40 ⟨rfl, hb⟩; refine ⟨_, rfl, ?_⟩; have n0_ := Aside0.mk (below_step (by repeat (first | (with_reducible first | exact HB.out | apply below_alloc | apply pw_below_drewN | apply below_drew1) | exact HB.out)) hb); clear HB; have HB := n0_; clear n0_; (try clear hb); (try clear hb2); (try clear hk); (try clear hi)) | (go_at_call 9; (with_reducible refine (place_Node.calls x0_4 x1_4 t126 _ A12.out).mono ?_); rintro e w' ⟨rfl, ⟨nd, rfl⟩⟩) | (go_at_call 13; (with_reducible refine (corbelref7_On.calls x0_4 x1_4 t127 _ A13.out).mono ?_); rintro e w' ⟨rfl, ⟨nd, rfl⟩⟩))
          go_ret
          exact ⟨by first | rfl | (simp [errW_none, errW_some] <;> rfl) | (simp [*, errW_none, errW_some] <;> rfl), by repeat (first | (with_reducible first | exact HB.out | apply below_alloc | apply pw_below_drewN | apply below_drew1) | exact HB.out)⟩
      · replace c11 := Bool.eq_false_iff.mpr c11
        subst c11
        have H1 : (some false) = some r := by rw [if_neg (show ¬ (false = true) by decide)] at H; exact H
        clear H
        have H := H1
        clear H1
        obtain rfl := Option.some.inj H
        go_wp2_with (first | ((with_reducible refine gate_callee (f := 7) rfl ?_); refine goesL_ (some 19) rfl rfl Try.func7 (by kernel_rfl) rfl #[] rfl (by (try simp only [List.map_toArray, List.map_cons, List.map_nil]); first | done | rfl | (simp only [List.length_drop, List.length_take]; rfl)) ?_; (with_reducible refine (corbellaw13_known.calls kj4  false _ A10.out).mono ?_); rintro e w41 ⟨rfl, hb⟩; refine ⟨_, rfl, ?_⟩; have n0_ := Aside0.mk (below_step (by repeat (first | (with_reducible first | exact HB.out | apply below_alloc | apply pw_below_drewN | apply below_drew1) | exact HB.out)) hb); clear HB; have HB := n0_; clear n0_; (try clear hb); (try clear hb2); (try clear hk); (try clear hi)))
        go_ret
        exact ⟨by first | rfl | (simp [errW_none, errW_some] <;> rfl) | (simp [*, errW_none, errW_some] <;> rfl), by repeat (first | (with_reducible first | exact HB.out | apply below_alloc | apply pw_below_drewN | apply below_drew1) | exact HB.out)⟩

/-- THE ONE PURE STATEMENT of corbellaw13_PlaceTells: yours. -/
def corbellaw13_PlaceTells.Pure : Prop := ∀ (a0 : Int) (a1 : Int) (a2 : Int) (a3 : Bool), (Lit.int .i64 a0).wf = true → (Lit.int .i64 a1).wf = true → (Lit.int .i64 a2).wf = true → ∃ k, corbellaw13_PlaceTells.f k a0 a1 a2 a3 = some true
theorem corbellaw13_PlaceTells.walk (P : corbellaw13_PlaceTells.Pure) (a0 : Int) (a1 : Int) (a2 : Int) (a3 : Bool) (w : World) (w0 : (Lit.int .i64 a0).wf = true) (w1 : (Lit.int .i64 a1).wf = true) (w2 : (Lit.int .i64 a2).wf = true) :
    Calls Try.prog 4 #[.int .i64 a0, .int .i64 a1, .int .i64 a2, .bool a3] w fun e w' => e = .returned (.bool true) ∧ Below w.heap.size w w' := by
  obtain ⟨k, h⟩ := P a0 a1 a2 a3 w0 w1 w2
  refine (corbellaw13_PlaceTells.calls k a0 a1 a2 a3 true w h).mono ?_
  rintro e w' ⟨rfl, hd⟩
  exact ⟨rfl, hd⟩

end Go.Proofs.Ytpjadcciffgfhaa.PPlaceTells
