-- Written by fk.py (a program of this session) over the kit's print: functions with a contract of our own among them.
import Derived.Test.YthpkhegoamhgeaaPAskRepliesx0
import Derived.Test.YthpkhegoamhgeaaPAskRepliesx1
namespace Go.Proofs.Ythpkhegoamhgeaa.PAskReplies
open Go.RowKit Go.Proofs.YthpkhegoamhgeaaW.PrintWords Go.Proofs.YthpkhegoamhgeaaW.PrintLast Go.Proofs.YthpkhegoamhgeaaW.PrintMore
attribute [local go_sem] max2_int min2_int max_two min_two max_three min_three max_four min_four   -- for this text's walks alone
set_option linter.unusedVariables false
set_option linter.unusedSimpArgs false

set_option maxRecDepth 20000

/-! ### ask_Next: function 17 -/
def ask_Next.j0 : Nat → List Int → Bool → Option (Int × Int × Int × Int × Int × List Int × Int × Int)
  | 0, _, _ => none
  | k + 1, x0, x6 => if x6 = true then (some (0, 0, 0, 0, 0, ([] : List Int), 0, 2)) else (if (x0.length : Int) < 28 then (some (0, 0, 0, 0, 0, ([] : List Int), 0, 7)) else (if 4 ≤ 6 then (if 6 ≤ (x0.length : Int) then ((ask_number.f k ((x0.take 6).drop 4)).bind fun t144 => (if 6 ≤ 8 then (if 8 ≤ (x0.length : Int) then ((ask_number.f k ((x0.take 8).drop 6)).bind fun t146 => (if 8 ≤ 16 then (if 16 ≤ (x0.length : Int) then ((ask_number.f k ((x0.take 16).drop 8)).bind fun t148 => (if 16 ≤ 24 then (if 24 ≤ (x0.length : Int) then ((ask_number.f k ((x0.take 24).drop 16)).bind fun t150 => (if 24 ≤ 28 then (if 28 ≤ (x0.length : Int) then ((ask_number.f k ((x0.take 28).drop 24)).bind fun t152 => (if (wrap64 (t146)) = 1 then (if (wrap64 (t152)) > 32768 then (some (0, 0, 0, 0, 0, ([] : List Int), 0, 6)) else (if (x0.length : Int) < (wrap64 (28 + (wrap64 (t152)))) then (some (0, 0, 0, 0, 0, ([] : List Int), 0, 7)) else (if 28 ≤ (wrap64 (28 + (wrap64 (t152)))) then (if (wrap64 (28 + (wrap64 (t152)))) ≤ (x0.length : Int) then ((slices_Clone_byte_byte.f ((x0.take ((wrap64 (28 + (wrap64 (t152)))) : Int).toNat).drop 28)).bind fun t155 => (some (wrap64 (t144), wrap64 (t146), t148, t150, wrap64 (t152), t155, wrap64 (28 + (wrap64 (t152))), 0))) else (none)) else (none)))) else (some (wrap64 (t144), wrap64 (t146), t148, t150, wrap64 (t152), ([] : List Int), 28, 0)))) else (none)) else (none))) else (none)) else (none))) else (none)) else (none))) else (none)) else (none))) else (none)) else (none)))
def ask_Next.f (k : Nat) (l0 : List Int) : Option (Int × Int × Int × Int × Int × List Int × Int × Int) := if (l0.length : Int) ≥ 4 then (if 4 ≤ (l0.length : Int) then ((ask_number.f k (l0.take 4)).bind fun t142 => (ask_Next.j0 k l0 (t142 != 627086611))) else (none)) else (ask_Next.j0 k l0 false)
set_option maxRecDepth 100000 in
theorem ask_Next.mono_l : ∀ k, (∀ y0 y1, LeO (ask_Next.j0 k y0 y1) (ask_Next.j0 (k + 1) y0 y1))
  | 0 => fun _ _ r h => by simp [ask_Next.j0] at h
  | k + 1 => by
    have ih0 := ask_Next.mono_l k
    · intro y0 y1
      unfold ask_Next.j0
      repeat' first
      | (with_reducible exact ih0 _ _)
      | (with_reducible exact ask_number.mono _ _)
      | (with_reducible exact LeO.refl _)
      | (with_reducible exact LeO.none _)
      | (with_reducible refine LeO.ite ?_ ?_)
      | (with_reducible refine LeO.bind ?_ (fun _ => ?_))
      | exact ih0 _ _
      | exact ask_number.mono _ _
      | exact LeO.none _
      | refine LeO.ite ?_ ?_
      | refine LeO.bind ?_ (fun _ => ?_)
theorem ask_Next.mono : ∀ a0 k, LeO (ask_Next.f k a0) (ask_Next.f (k + 1) a0) := by
  intro a0 k
  have ih0 := ask_Next.mono_l k
  unfold ask_Next.f
  repeat' first
      | (with_reducible exact ih0 _ _)
      | (with_reducible exact ask_number.mono _ _)
      | (with_reducible exact LeO.refl _)
      | (with_reducible exact LeO.none _)
      | (with_reducible refine LeO.ite ?_ ?_)
      | (with_reducible refine LeO.bind ?_ (fun _ => ?_))
      | exact ih0 _ _
      | exact ask_number.mono _ _
      | exact LeO.none _
      | refine LeO.ite ?_ ?_
      | refine LeO.bind ?_ (fun _ => ?_)
def ask_Next.T5 : Bool × List (List Nat × List Nat) := (true, [([], []), ([0], [0]), ([1], [1]), ([2], [2]), ([], []), ([4], [4]), ([5, 2], [5]), ([6], [6]), ([], []), ([8], [8]), ([9, 6], [9]), ([], []), ([11], [11]), ([12, 10], [12]), ([], []), ([14], [14]), ([15, 13], [15]), ([16], [16]), ([3, 7, 10, 13, 17], [3, 7, 10, 13, 17]), ([], []), ([19, 18, 16, 0, 1, 2, 3, 4, 5, 6, 7, 8, 9, 10, 11, 12, 13, 14, 15, 16, 17, 18, 19], [18, 19])])
def ask_Next.B5 : List Nat := [0, 1, 3, 7, 0, 16, 55, 119, 0, 256, 887, 0, 2048, 8055, 0, 16384, 65399, 130935, 262143, 0, 1048575]
theorem ask_Next.tab5 : rtab .any (opsOf Try.f17 5) = ask_Next.T5 := by kernel_rfl
theorem ask_Next.bits5 : waitsOk ask_Next.T5.2 ask_Next.B5 = true := by kernel_rfl
set_option maxHeartbeats 8000000 in
set_option maxRecDepth 100000 in
theorem ask_Next.calls (k : Nat) (A0 : Option Addr) (c0 : Nat) (l0 : List Int) (r1 : Int) (r2 : Int) (r3 : Int) (r4 : Int) (r5 : Int) (r6 : List Int) (r7 : Int) (r8 : Int) (w : World) (hr0 : Kd.C (Kd.int .u8) w A0 l0.length l0) (hc0 : l0.length ≤ c0) (h : ask_Next.f k l0 = some (r1, r2, r3, r4, r5, r6, r7, r8)) :
    Calls Try.prog 17 #[.slice A0 l0.length c0] w fun e w' => ∃ v5_ : Value, e = .returned (.tuple #[.agg #[.int .i64 r1, .int .i64 r2, .int .u64 r3, .int .u64 r4, .int .i64 r5, v5_], .int .i64 r7, .int .i64 r8]) ∧ Kd.R (Kd.int .u8) 5 w' w.heap.size (fun _ => True) v5_ r6 ∧ Below w.heap.size w w' := by
  have hu29 := Try.underlying29
  have HR0 := Aside0.mk hr0
  have HC0 := Aside0.mk hc0
  clear hr0 hc0
  have HB := Aside0.mk (Below.refl w.heap.size w)
  have H : (if (l0.length : Int) ≥ 4 then (if 4 ≤ (l0.length : Int) then ((ask_number.f k (l0.take 4)).bind fun t142 => (ask_Next.j0 k l0 (t142 != 627086611))) else (none)) else (ask_Next.j0 k l0 false)) = some (r1, r2, r3, r4, r5, r6, r7, r8) := h
  clear h
  have HC2 := Aside0.mk H
  clear H
  go_enter Try.func17, Try.ntmps17
  go_upto_region 1 with (first | ((with_reducible refine gate_dst (N := 2) rfl ?_); refine box_event ?hg (N := 2) ?hd (cs := #[.int .i64 0, .int .i64 0, .int .u64 0, .int .u64 0, .int .i64 0, .slice none 0 0]) (t := 29) ?hr ?_; (case hd => rfl); (case hg => rfl); (case hr => first | (go_simp; done) | (go_simp; rfl)); intro gb140 hg w3 hbox hb; have n0_ := Aside0.mk (below_step (by repeat (first | (with_reducible first | exact HB.out | apply below_alloc | apply pw_below_drewN | apply below_drew1) | exact HB.out)) hb); have n1_ := Aside0.mk (hbox); have n2_ := Aside0.mk ((by rw [hg]; exact (below_size (by repeat (first | (with_reducible first | exact HB.out | apply below_alloc | apply pw_below_drewN | apply below_drew1) | exact HB.out))) : w.heap.size ≤ gb140)); have n3_ := Aside0.mk ((by rw [hg]; exact (below_size (by repeat (first | (with_reducible first | exact HB.out | apply below_alloc | apply pw_below_drewN | apply below_drew1) | exact HB.out))) : w.heap.size ≤ gb140)); clear HB; have HB := n0_; have BK140 := n1_; have GW140 := n2_; have GE140 := n3_; clear n0_ n1_ n2_ n3_; clear hb hbox hg))
  (try simp only [Act.put, List.setIfInBounds_toArray, List.set_cons_zero, List.set_cons_succ])
  go_cut [6] (fun v6 wc => ∃ (kq : Nat) (x6_1 : Bool), v6 = .bool x6_1 ∧ Aside0 (ask_Next.j0 kq l0 x6_1 = some (r1, r2, r3, r4, r5, r6, r7, r8)) ∧ Aside0 (kq ≤ k) ∧ Aside0 (wc.heap[gb140]? = some (.cells #[.int .i64 0, .int .i64 0, .int .u64 0, .int .u64 0, .int .i64 0, (.slice none 0 0)] 29 (0, 0))) ∧ Aside0 (Below w.heap.size w wc))
  case first =>
    have H := HC2.out
    clear HC2
    by_cases c4 : (l0.length : Int) ≥ 4
    · rw [if_pos c4] at H
      have c4b0 : decide (4 ≤ (l0.length : Int)) = true := decide_eq_true c4
      have c4b1 : decide (4 ≤ l0.length) = true := decide_eq_true (by omega)
      clear c4
      (first | rw [c4b0] | (simp only [i64_w, i32_w]; rw [c4b0]) | skip)
      by_cases c5 : 4 ≤ (l0.length : Int)
      · rw [if_pos c5] at H
        have c5b0 := eq_true c5
        have c5b1 : decide (4 ≤ (l0.length : Int)) = true := decide_eq_true c5
        clear c5
        replace H := Option.bind_eq_some_iff.mp H
        obtain ⟨t142, A60, H⟩ := H
        replace H : (ask_Next.j0 k l0 (t142 != 627086611)) = some (r1, r2, r3, r4, r5, r6, r7, r8) := H
        have A6 := Aside0.mk A60
        clear A60
        have H' := Aside0.mk H
        clear H
        obtain ⟨i07, hi07, _, hsz7, _⟩ := info_parts info5
        obtain ⟨hcut7, hA7, hC7⟩ := print_take_of (P := Try.prog) (Value.int .u8) 0 25 5 .i64 Try.underlying25 hi07 hsz7 A0 c0 l0 4 (by omega) (of_decide_eq_true (by first | (with_reducible assumption) | assumption)) HC0.out
        have HR141 := Aside0.mk (Kd.C_of_reads (h1 := fun _ => rfl) (hA7 _ (Kd.reads_of_C HR0.out)))
        have HC141 := Aside0.mk hC7
        clear hA7 hC7 hi07 hsz7
        obtain ⟨yc141, hyc141⟩ : ∃ y_, y_ = (l0.take 4) := ⟨_, rfl⟩
        first | rw [← hyc141] at hcut7 | rw [← (show yc141 = l0.take (Int.toNat 4) from hyc141)] at hcut7
        have n0_ := HR141.out
        first | rw [← hyc141] at n0_ | rw [← (show yc141 = l0.take (Int.toNat 4) from hyc141)] at n0_
        replace HR141 := Aside0.mk n0_
        clear n0_
        have n0_ := HC141.out
        first | rw [← hyc141] at n0_ | rw [← (show yc141 = l0.take (Int.toNat 4) from hyc141)] at n0_
        replace HC141 := Aside0.mk n0_
        clear n0_
        have n0_ := A6.out
        first | rw [← hyc141] at n0_ | rw [← (show yc141 = l0.take (Int.toNat 4) from hyc141)] at n0_
        replace A6 := Aside0.mk n0_
        clear n0_
        clear hyc141
        go_wp2_with (first | (go_at_call 42; (with_reducible refine (ask_number.calls k _ _ yc141 t142 _ ?side1 ?side2 A6.out).mono ?_); (case side1 => repeat (first | exact (Kd.C_below HR141.out HB.out) | (with_reducible refine Kd.C_alloc ?_ _) | (with_reducible refine Kd.C_drewN ?_ _) | (with_reducible refine Kd.C_drew ?_))); (case side2 => exact HC141.out); rintro e w' ⟨rfl, ⟨nd, rfl⟩⟩))
        go_meet
        case rel => exact ⟨_, ((t142 != 627086611)), (by first | rfl | (simp; done) | (simp [*]; done)), H', ⟨by first | omega | exact Nat.le_refl _⟩, ⟨by (with_reducible repeat (first | refine blk_drewN ?_ _ | refine blk_drew ?_ | refine blk_alloc ?_ _)); exact BK140.out⟩, ⟨by repeat (first | (with_reducible first | exact HB.out | apply below_alloc | apply pw_below_drewN | apply below_drew1 | refine below_set ?_ GE140.out) | exact HB.out)⟩⟩
      · rw [if_neg c5] at H
        exact absurd H (by simp)
    · rw [if_neg c4] at H
      have c4b0 : decide (4 ≤ (l0.length : Int)) = false := decide_eq_false c4
      have c4b1 : decide (4 ≤ l0.length) = false := decide_eq_false (by omega)
      clear c4
      (first | rw [c4b0] | (simp only [i64_w, i32_w]; rw [c4b0]) | skip)
      have H' := Aside0.mk H
      clear H
      go_wp2
      go_meet
      case rel => exact ⟨_, (false), (by first | rfl | (simp; done) | (simp [*]; done)), H', ⟨by first | omega | exact Nat.le_refl _⟩, ⟨by (with_reducible repeat (first | refine blk_drewN ?_ _ | refine blk_drew ?_ | refine blk_alloc ?_ _)); exact BK140.out⟩, ⟨by repeat (first | (with_reducible first | exact HB.out | apply below_alloc | apply pw_below_drewN | apply below_drew1 | refine below_set ?_ GE140.out) | exact HB.out)⟩⟩
  case rest =>
    clear HC2
    try clear c1
    try clear p2
    try clear c4
    try clear c4b0
    try clear c4b1
    try clear c5
    try clear c5b0
    try clear c5b1
    obtain ⟨kq, x6_1, rfl, HA, HJ1, BK140, HB⟩ := hcut
    cases kq with
    | zero => exact absurd HA.out (by simp [ask_Next.j0])
    | succ kj1 =>
      have H := HA.out
      clear HA
      simp only [ask_Next.j0] at H
      by_cases c8 : x6_1 = true
      · subst c8
        have H1 : (some (0, 0, 0, 0, 0, ([] : List Int), 0, 2)) = some (r1, r2, r3, r4, r5, r6, r7, r8) := by rw [if_pos rfl] at H; exact H
        clear H
        have H := H1
        clear H1
        simp only [Option.some.injEq, Prod.mk.injEq] at H
        obtain ⟨rfl, rfl, rfl, rfl, rfl, rfl, rfl, rfl⟩ := H
        have hcz9_0 : wc.cell? ⟨gb140, 0, none⟩ = some (.int .i64 0) := (blk_cell BK140.out 0).trans rfl
        have hcz9_1 : wc.cell? ⟨gb140, 1, none⟩ = some (.int .i64 0) := (blk_cell BK140.out 1).trans rfl
        have hcz9_2 : wc.cell? ⟨gb140, 2, none⟩ = some (.int .u64 0) := (blk_cell BK140.out 2).trans rfl
        have hcz9_3 : wc.cell? ⟨gb140, 3, none⟩ = some (.int .u64 0) := (blk_cell BK140.out 3).trans rfl
        have hcz9_4 : wc.cell? ⟨gb140, 4, none⟩ = some (.int .i64 0) := (blk_cell BK140.out 4).trans rfl
        have hcz9_5 : wc.cell? ⟨gb140, 5, none⟩ = some (.slice none 0 0) := (blk_cell BK140.out 5).trans rfl
        have hfz9_0 := blk_frozen BK140.out 0
        have hfz9_1 := blk_frozen BK140.out 1
        have hfz9_2 := blk_frozen BK140.out 2
        have hfz9_3 := blk_frozen BK140.out 3
        have hfz9_4 := blk_frozen BK140.out 4
        have hfz9_5 := blk_frozen BK140.out 5
        go_wp2
        refine bodyPost_ret (results_ctt rfl _ _ gb140 29 #[.int .i64 0, .int .i64 0, .int .u64 0, .int .u64 0, .int .i64 0, .slice none 0 0] (0, 0) _ rfl (by (with_reducible repeat (first | refine blk_drewN ?_ _ | refine blk_drew ?_ | refine blk_alloc ?_ _)); refine blk_put (cs := #[.int .i64 0, .int .i64 0, .int .u64 0, .int .u64 0, .int .i64 0, .slice none 0 0]) ?_ 5 _ rfl; (with_reducible repeat (first | refine blk_drewN ?_ _ | refine blk_drew ?_ | refine blk_alloc ?_ _)); refine blk_put (cs := #[.int .i64 0, .int .i64 0, .int .u64 0, .int .u64 0, .int .i64 0, .slice none 0 0]) ?_ 4 _ rfl; (with_reducible repeat (first | refine blk_drewN ?_ _ | refine blk_drew ?_ | refine blk_alloc ?_ _)); refine blk_put (cs := #[.int .i64 0, .int .i64 0, .int .u64 0, .int .u64 0, .int .i64 0, .slice none 0 0]) ?_ 3 _ rfl; (with_reducible repeat (first | refine blk_drewN ?_ _ | refine blk_drew ?_ | refine blk_alloc ?_ _)); refine blk_put (cs := #[.int .i64 0, .int .i64 0, .int .u64 0, .int .u64 0, .int .i64 0, .slice none 0 0]) ?_ 2 _ rfl; (with_reducible repeat (first | refine blk_drewN ?_ _ | refine blk_drew ?_ | refine blk_alloc ?_ _)); refine blk_put (cs := #[.int .i64 0, .int .i64 0, .int .u64 0, .int .u64 0, .int .i64 0, .slice none 0 0]) ?_ 1 _ rfl; (with_reducible repeat (first | refine blk_drewN ?_ _ | refine blk_drew ?_ | refine blk_alloc ?_ _)); refine blk_put (cs := #[.int .i64 0, .int .i64 0, .int .u64 0, .int .u64 0, .int .i64 0, .slice none 0 0]) ?_ 0 _ rfl; (with_reducible repeat (first | refine blk_drewN ?_ _ | refine blk_drew ?_ | refine blk_alloc ?_ _)); exact BK140.out) Try.underlying29 rfl (by kernel_rfl)) rfl ?_
        exact ⟨_, by first | rfl | (simp [errW_none, errW_some] <;> rfl) | (simp [*, errW_none, errW_some] <;> rfl), by first | exact Kd.R_nil _ _ _ _ _ | exact Kd.N_nil _ _ _ _ _ | exact Kd.V_nil _ _ _ _ _ | exact Kd.Q_nil _ _ _ _ _ | exact Kd.S_nil _ _ _ _ _, by repeat (first | (with_reducible first | exact HB.out | apply below_alloc | apply pw_below_drewN | apply below_drew1 | refine below_set ?_ GE140.out) | exact HB.out)⟩
      · replace c8 := Bool.eq_false_iff.mpr c8
        subst c8
        have H1 : (if (l0.length : Int) < 28 then (some (0, 0, 0, 0, 0, ([] : List Int), 0, 7)) else (if 4 ≤ 6 then (if 6 ≤ (l0.length : Int) then ((ask_number.f kj1 ((l0.take 6).drop 4)).bind fun t144 => (if 6 ≤ 8 then (if 8 ≤ (l0.length : Int) then ((ask_number.f kj1 ((l0.take 8).drop 6)).bind fun t146 => (if 8 ≤ 16 then (if 16 ≤ (l0.length : Int) then ((ask_number.f kj1 ((l0.take 16).drop 8)).bind fun t148 => (if 16 ≤ 24 then (if 24 ≤ (l0.length : Int) then ((ask_number.f kj1 ((l0.take 24).drop 16)).bind fun t150 => (if 24 ≤ 28 then (if 28 ≤ (l0.length : Int) then ((ask_number.f kj1 ((l0.take 28).drop 24)).bind fun t152 => (if (wrap64 (t146)) = 1 then (if (wrap64 (t152)) > 32768 then (some (0, 0, 0, 0, 0, ([] : List Int), 0, 6)) else (if (l0.length : Int) < (wrap64 (28 + (wrap64 (t152)))) then (some (0, 0, 0, 0, 0, ([] : List Int), 0, 7)) else (if 28 ≤ (wrap64 (28 + (wrap64 (t152)))) then (if (wrap64 (28 + (wrap64 (t152)))) ≤ (l0.length : Int) then ((slices_Clone_byte_byte.f ((l0.take ((wrap64 (28 + (wrap64 (t152)))) : Int).toNat).drop 28)).bind fun t155 => (some (wrap64 (t144), wrap64 (t146), t148, t150, wrap64 (t152), t155, wrap64 (28 + (wrap64 (t152))), 0))) else (none)) else (none)))) else (some (wrap64 (t144), wrap64 (t146), t148, t150, wrap64 (t152), ([] : List Int), 28, 0)))) else (none)) else (none))) else (none)) else (none))) else (none)) else (none))) else (none)) else (none))) else (none)) else (none))) = some (r1, r2, r3, r4, r5, r6, r7, r8) := by rw [if_neg (show ¬ (false = true) by decide)] at H; exact H
        clear H
        have H := H1
        clear H1
        by_cases c10 : (l0.length : Int) < 28
        · rw [if_pos c10] at H
          have c10b0 : decide ((l0.length : Int) < 28) = true := decide_eq_true c10
          have c10b1 : decide (l0.length < 28) = true := decide_eq_true (by omega)
          clear c10
          simp only [Option.some.injEq, Prod.mk.injEq] at H
          obtain ⟨rfl, rfl, rfl, rfl, rfl, rfl, rfl, rfl⟩ := H
          have hcz11_0 : wc.cell? ⟨gb140, 0, none⟩ = some (.int .i64 0) := (blk_cell BK140.out 0).trans rfl
          have hcz11_1 : wc.cell? ⟨gb140, 1, none⟩ = some (.int .i64 0) := (blk_cell BK140.out 1).trans rfl
          have hcz11_2 : wc.cell? ⟨gb140, 2, none⟩ = some (.int .u64 0) := (blk_cell BK140.out 2).trans rfl
          have hcz11_3 : wc.cell? ⟨gb140, 3, none⟩ = some (.int .u64 0) := (blk_cell BK140.out 3).trans rfl
          have hcz11_4 : wc.cell? ⟨gb140, 4, none⟩ = some (.int .i64 0) := (blk_cell BK140.out 4).trans rfl
          have hcz11_5 : wc.cell? ⟨gb140, 5, none⟩ = some (.slice none 0 0) := (blk_cell BK140.out 5).trans rfl
          have hfz11_0 := blk_frozen BK140.out 0
          have hfz11_1 := blk_frozen BK140.out 1
          have hfz11_2 := blk_frozen BK140.out 2
          have hfz11_3 := blk_frozen BK140.out 3
          have hfz11_4 := blk_frozen BK140.out 4
          have hfz11_5 := blk_frozen BK140.out 5
          go_wp2
          refine bodyPost_ret (results_ctt rfl _ _ gb140 29 #[.int .i64 0, .int .i64 0, .int .u64 0, .int .u64 0, .int .i64 0, .slice none 0 0] (0, 0) _ rfl (by (with_reducible repeat (first | refine blk_drewN ?_ _ | refine blk_drew ?_ | refine blk_alloc ?_ _)); refine blk_put (cs := #[.int .i64 0, .int .i64 0, .int .u64 0, .int .u64 0, .int .i64 0, .slice none 0 0]) ?_ 5 _ rfl; (with_reducible repeat (first | refine blk_drewN ?_ _ | refine blk_drew ?_ | refine blk_alloc ?_ _)); refine blk_put (cs := #[.int .i64 0, .int .i64 0, .int .u64 0, .int .u64 0, .int .i64 0, .slice none 0 0]) ?_ 4 _ rfl; (with_reducible repeat (first | refine blk_drewN ?_ _ | refine blk_drew ?_ | refine blk_alloc ?_ _)); refine blk_put (cs := #[.int .i64 0, .int .i64 0, .int .u64 0, .int .u64 0, .int .i64 0, .slice none 0 0]) ?_ 3 _ rfl; (with_reducible repeat (first | refine blk_drewN ?_ _ | refine blk_drew ?_ | refine blk_alloc ?_ _)); refine blk_put (cs := #[.int .i64 0, .int .i64 0, .int .u64 0, .int .u64 0, .int .i64 0, .slice none 0 0]) ?_ 2 _ rfl; (with_reducible repeat (first | refine blk_drewN ?_ _ | refine blk_drew ?_ | refine blk_alloc ?_ _)); refine blk_put (cs := #[.int .i64 0, .int .i64 0, .int .u64 0, .int .u64 0, .int .i64 0, .slice none 0 0]) ?_ 1 _ rfl; (with_reducible repeat (first | refine blk_drewN ?_ _ | refine blk_drew ?_ | refine blk_alloc ?_ _)); refine blk_put (cs := #[.int .i64 0, .int .i64 0, .int .u64 0, .int .u64 0, .int .i64 0, .slice none 0 0]) ?_ 0 _ rfl; (with_reducible repeat (first | refine blk_drewN ?_ _ | refine blk_drew ?_ | refine blk_alloc ?_ _)); exact BK140.out) Try.underlying29 rfl (by kernel_rfl)) rfl ?_
          exact ⟨_, by first | rfl | (simp [errW_none, errW_some] <;> rfl) | (simp [*, errW_none, errW_some] <;> rfl), by first | exact Kd.R_nil _ _ _ _ _ | exact Kd.N_nil _ _ _ _ _ | exact Kd.V_nil _ _ _ _ _ | exact Kd.Q_nil _ _ _ _ _ | exact Kd.S_nil _ _ _ _ _, by repeat (first | (with_reducible first | exact HB.out | apply below_alloc | apply pw_below_drewN | apply below_drew1 | refine below_set ?_ GE140.out) | exact HB.out)⟩
        · rw [if_neg c10] at H
          have c10b0 : decide ((l0.length : Int) < 28) = false := decide_eq_false c10
          have c10b1 : decide (l0.length < 28) = false := decide_eq_false (by omega)
          clear c10
          by_cases c12 : 4 ≤ 6
          · rw [if_pos c12] at H
            have c12b0 := eq_true c12
            have c12b1 : decide (4 ≤ 6) = true := decide_eq_true c12
            clear c12
            by_cases c13 : 6 ≤ (l0.length : Int)
            · rw [if_pos c13] at H
              have c13b0 := eq_true c13
              have c13b1 : decide (6 ≤ (l0.length : Int)) = true := decide_eq_true c13
              clear c13
              replace H := Option.bind_eq_some_iff.mp H
              obtain ⟨t144, A140, H⟩ := H
              replace H : (if 6 ≤ 8 then (if 8 ≤ (l0.length : Int) then ((ask_number.f kj1 ((l0.take 8).drop 6)).bind fun t146 => (if 8 ≤ 16 then (if 16 ≤ (l0.length : Int) then ((ask_number.f kj1 ((l0.take 16).drop 8)).bind fun t148 => (if 16 ≤ 24 then (if 24 ≤ (l0.length : Int) then ((ask_number.f kj1 ((l0.take 24).drop 16)).bind fun t150 => (if 24 ≤ 28 then (if 28 ≤ (l0.length : Int) then ((ask_number.f kj1 ((l0.take 28).drop 24)).bind fun t152 => (if (wrap64 (t146)) = 1 then (if (wrap64 (t152)) > 32768 then (some (0, 0, 0, 0, 0, ([] : List Int), 0, 6)) else (if (l0.length : Int) < (wrap64 (28 + (wrap64 (t152)))) then (some (0, 0, 0, 0, 0, ([] : List Int), 0, 7)) else (if 28 ≤ (wrap64 (28 + (wrap64 (t152)))) then (if (wrap64 (28 + (wrap64 (t152)))) ≤ (l0.length : Int) then ((slices_Clone_byte_byte.f ((l0.take ((wrap64 (28 + (wrap64 (t152)))) : Int).toNat).drop 28)).bind fun t155 => (some (wrap64 (t144), wrap64 (t146), t148, t150, wrap64 (t152), t155, wrap64 (28 + (wrap64 (t152))), 0))) else (none)) else (none)))) else (some (wrap64 (t144), wrap64 (t146), t148, t150, wrap64 (t152), ([] : List Int), 28, 0)))) else (none)) else (none))) else (none)) else (none))) else (none)) else (none))) else (none)) else (none)) = some (r1, r2, r3, r4, r5, r6, r7, r8) := H
              have A14 := Aside0.mk A140
              clear A140
              by_cases c15 : 6 ≤ 8
              · rw [if_pos c15] at H
                have c15b0 := eq_true c15
                have c15b1 : decide (6 ≤ 8) = true := decide_eq_true c15
                clear c15
                by_cases c16 : 8 ≤ (l0.length : Int)
                · rw [if_pos c16] at H
                  have c16b0 := eq_true c16
                  have c16b1 : decide (8 ≤ (l0.length : Int)) = true := decide_eq_true c16
                  clear c16
                  replace H := Option.bind_eq_some_iff.mp H
                  obtain ⟨t146, A170, H⟩ := H
                  replace H : (if 8 ≤ 16 then (if 16 ≤ (l0.length : Int) then ((ask_number.f kj1 ((l0.take 16).drop 8)).bind fun t148 => (if 16 ≤ 24 then (if 24 ≤ (l0.length : Int) then ((ask_number.f kj1 ((l0.take 24).drop 16)).bind fun t150 => (if 24 ≤ 28 then (if 28 ≤ (l0.length : Int) then ((ask_number.f kj1 ((l0.take 28).drop 24)).bind fun t152 => (if (wrap64 (t146)) = 1 then (if (wrap64 (t152)) > 32768 then (some (0, 0, 0, 0, 0, ([] : List Int), 0, 6)) else (if (l0.length : Int) < (wrap64 (28 + (wrap64 (t152)))) then (some (0, 0, 0, 0, 0, ([] : List Int), 0, 7)) else (if 28 ≤ (wrap64 (28 + (wrap64 (t152)))) then (if (wrap64 (28 + (wrap64 (t152)))) ≤ (l0.length : Int) then ((slices_Clone_byte_byte.f ((l0.take ((wrap64 (28 + (wrap64 (t152)))) : Int).toNat).drop 28)).bind fun t155 => (some (wrap64 (t144), wrap64 (t146), t148, t150, wrap64 (t152), t155, wrap64 (28 + (wrap64 (t152))), 0))) else (none)) else (none)))) else (some (wrap64 (t144), wrap64 (t146), t148, t150, wrap64 (t152), ([] : List Int), 28, 0)))) else (none)) else (none))) else (none)) else (none))) else (none)) else (none)) = some (r1, r2, r3, r4, r5, r6, r7, r8) := H
                  have A17 := Aside0.mk A170
                  clear A170
                  by_cases c18 : 8 ≤ 16
                  · rw [if_pos c18] at H
                    have c18b0 := eq_true c18
                    have c18b1 : decide (8 ≤ 16) = true := decide_eq_true c18
                    clear c18
                    by_cases c19 : 16 ≤ (l0.length : Int)
                    · rw [if_pos c19] at H
                      have c19b0 := eq_true c19
                      have c19b1 : decide (16 ≤ (l0.length : Int)) = true := decide_eq_true c19
                      clear c19
                      replace H := Option.bind_eq_some_iff.mp H
                      obtain ⟨t148, A200, H⟩ := H
                      replace H : (if 16 ≤ 24 then (if 24 ≤ (l0.length : Int) then ((ask_number.f kj1 ((l0.take 24).drop 16)).bind fun t150 => (if 24 ≤ 28 then (if 28 ≤ (l0.length : Int) then ((ask_number.f kj1 ((l0.take 28).drop 24)).bind fun t152 => (if (wrap64 (t146)) = 1 then (if (wrap64 (t152)) > 32768 then (some (0, 0, 0, 0, 0, ([] : List Int), 0, 6)) else (if (l0.length : Int) < (wrap64 (28 + (wrap64 (t152)))) then (some (0, 0, 0, 0, 0, ([] : List Int), 0, 7)) else (if 28 ≤ (wrap64 (28 + (wrap64 (t152)))) then (if (wrap64 (28 + (wrap64 (t152)))) ≤ (l0.length : Int) then ((slices_Clone_byte_byte.f ((l0.take ((wrap64 (28 + (wrap64 (t152)))) : Int).toNat).drop 28)).bind fun t155 => (some (wrap64 (t144), wrap64 (t146), t148, t150, wrap64 (t152), t155, wrap64 (28 + (wrap64 (t152))), 0))) else (none)) else (none)))) else (some (wrap64 (t144), wrap64 (t146), t148, t150, wrap64 (t152), ([] : List Int), 28, 0)))) else (none)) else (none))) else (none)) else (none)) = some (r1, r2, r3, r4, r5, r6, r7, r8) := H
                      have A20 := Aside0.mk A200
                      clear A200
                      by_cases c21 : 16 ≤ 24
                      · rw [if_pos c21] at H
                        have c21b0 := eq_true c21
                        have c21b1 : decide (16 ≤ 24) = true := decide_eq_true c21
                        clear c21
                        by_cases c22 : 24 ≤ (l0.length : Int)
                        · rw [if_pos c22] at H
                          have c22b0 := eq_true c22
                          have c22b1 : decide (24 ≤ (l0.length : Int)) = true := decide_eq_true c22
                          clear c22
                          replace H := Option.bind_eq_some_iff.mp H
                          obtain ⟨t150, A230, H⟩ := H
                          replace H : (if 24 ≤ 28 then (if 28 ≤ (l0.length : Int) then ((ask_number.f kj1 ((l0.take 28).drop 24)).bind fun t152 => (if (wrap64 (t146)) = 1 then (if (wrap64 (t152)) > 32768 then (some (0, 0, 0, 0, 0, ([] : List Int), 0, 6)) else (if (l0.length : Int) < (wrap64 (28 + (wrap64 (t152)))) then (some (0, 0, 0, 0, 0, ([] : List Int), 0, 7)) else (if 28 ≤ (wrap64 (28 + (wrap64 (t152)))) then (if (wrap64 (28 + (wrap64 (t152)))) ≤ (l0.length : Int) then ((slices_Clone_byte_byte.f ((l0.take ((wrap64 (28 + (wrap64 (t152)))) : Int).toNat).drop 28)).bind fun t155 => (some (wrap64 (t144), wrap64 (t146), t148, t150, wrap64 (t152), t155, wrap64 (28 + (wrap64 (t152))), 0))) else (none)) else (none)))) else (some (wrap64 (t144), wrap64 (t146), t148, t150, wrap64 (t152), ([] : List Int), 28, 0)))) else (none)) else (none)) = some (r1, r2, r3, r4, r5, r6, r7, r8) := H
                          have A23 := Aside0.mk A230
                          clear A230
                          by_cases c24 : 24 ≤ 28
                          · rw [if_pos c24] at H
                            have c24b0 := eq_true c24
                            have c24b1 : decide (24 ≤ 28) = true := decide_eq_true c24
                            clear c24
                            by_cases c25 : 28 ≤ (l0.length : Int)
                            · rw [if_pos c25] at H
                              have c25b0 := eq_true c25
                              have c25b1 : decide (28 ≤ (l0.length : Int)) = true := decide_eq_true c25
                              clear c25
                              replace H := Option.bind_eq_some_iff.mp H
                              obtain ⟨t152, A260, H⟩ := H
                              replace H : (if (wrap64 (t146)) = 1 then (if (wrap64 (t152)) > 32768 then (some (0, 0, 0, 0, 0, ([] : List Int), 0, 6)) else (if (l0.length : Int) < (wrap64 (28 + (wrap64 (t152)))) then (some (0, 0, 0, 0, 0, ([] : List Int), 0, 7)) else (if 28 ≤ (wrap64 (28 + (wrap64 (t152)))) then (if (wrap64 (28 + (wrap64 (t152)))) ≤ (l0.length : Int) then ((slices_Clone_byte_byte.f ((l0.take ((wrap64 (28 + (wrap64 (t152)))) : Int).toNat).drop 28)).bind fun t155 => (some (wrap64 (t144), wrap64 (t146), t148, t150, wrap64 (t152), t155, wrap64 (28 + (wrap64 (t152))), 0))) else (none)) else (none)))) else (some (wrap64 (t144), wrap64 (t146), t148, t150, wrap64 (t152), ([] : List Int), 28, 0))) = some (r1, r2, r3, r4, r5, r6, r7, r8) := H
                              have A26 := Aside0.mk A260
                              clear A260
                              try go_wp2
                              have n0_ := Aside0.mk (blk_drew BK140.out)
                              have n1_ := Aside0.mk (below_drew1 HB.out)
                              clear BK140
                              clear HB
                              have BK140 := n0_
                              have HB := n1_
                              clear n0_ n1_
                              obtain ⟨i030, hi030, _, hsz30, _⟩ := info_parts info5
                              obtain ⟨A30, hcut30, hA30, hC30⟩ := print_mid_of (P := Try.prog) (Value.int .u8) 0 25 5 .i64 .i64 Try.underlying25 hi030 hsz30 A0 c0 l0 4 6 (by omega) (by first | omega | exact of_decide_eq_true (by first | (with_reducible assumption) | assumption)) (of_decide_eq_true (by first | (with_reducible assumption) | assumption)) HC0.out
                              have HR143 := Aside0.mk (Kd.C_of_reads (h1 := fun _ => rfl) (hA30 _ (Kd.reads_of_C HR0.out)))
                              have HC143 := Aside0.mk hC30
                              clear hA30 hC30 hi030 hsz30
                              obtain ⟨i031, hi031, _, hsz31, _⟩ := info_parts info5
                              obtain ⟨A31, hcut31, hA31, hC31⟩ := print_mid_of (P := Try.prog) (Value.int .u8) 0 25 5 .i64 .i64 Try.underlying25 hi031 hsz31 A0 c0 l0 6 8 (by omega) (by first | omega | exact of_decide_eq_true (by first | (with_reducible assumption) | assumption)) (of_decide_eq_true (by first | (with_reducible assumption) | assumption)) HC0.out
                              have HR145 := Aside0.mk (Kd.C_of_reads (h1 := fun _ => rfl) (hA31 _ (Kd.reads_of_C HR0.out)))
                              have HC145 := Aside0.mk hC31
                              clear hA31 hC31 hi031 hsz31
                              obtain ⟨i032, hi032, _, hsz32, _⟩ := info_parts info5
                              obtain ⟨A32, hcut32, hA32, hC32⟩ := print_mid_of (P := Try.prog) (Value.int .u8) 0 25 5 .i64 .i64 Try.underlying25 hi032 hsz32 A0 c0 l0 8 16 (by omega) (by first | omega | exact of_decide_eq_true (by first | (with_reducible assumption) | assumption)) (of_decide_eq_true (by first | (with_reducible assumption) | assumption)) HC0.out
                              have HR147 := Aside0.mk (Kd.C_of_reads (h1 := fun _ => rfl) (hA32 _ (Kd.reads_of_C HR0.out)))
                              have HC147 := Aside0.mk hC32
                              clear hA32 hC32 hi032 hsz32
                              obtain ⟨i033, hi033, _, hsz33, _⟩ := info_parts info5
                              obtain ⟨A33, hcut33, hA33, hC33⟩ := print_mid_of (P := Try.prog) (Value.int .u8) 0 25 5 .i64 .i64 Try.underlying25 hi033 hsz33 A0 c0 l0 16 24 (by omega) (by first | omega | exact of_decide_eq_true (by first | (with_reducible assumption) | assumption)) (of_decide_eq_true (by first | (with_reducible assumption) | assumption)) HC0.out
                              have HR149 := Aside0.mk (Kd.C_of_reads (h1 := fun _ => rfl) (hA33 _ (Kd.reads_of_C HR0.out)))
                              have HC149 := Aside0.mk hC33
                              clear hA33 hC33 hi033 hsz33
                              obtain ⟨i034, hi034, _, hsz34, _⟩ := info_parts info5
                              obtain ⟨A34, hcut34, hA34, hC34⟩ := print_mid_of (P := Try.prog) (Value.int .u8) 0 25 5 .i64 .i64 Try.underlying25 hi034 hsz34 A0 c0 l0 24 28 (by omega) (by first | omega | exact of_decide_eq_true (by first | (with_reducible assumption) | assumption)) (of_decide_eq_true (by first | (with_reducible assumption) | assumption)) HC0.out
                              have HR151 := Aside0.mk (Kd.C_of_reads (h1 := fun _ => rfl) (hA34 _ (Kd.reads_of_C HR0.out)))
                              have HC151 := Aside0.mk hC34
                              clear hA34 hC34 hi034 hsz34
                              refine start_ (n := 21) (S := fun w' => True) (ds := []) #[false, false, false, false, false, false, false, false, false, false, false, false, false, false, false, false, false, false, false, false, false] (by kernel_rfl) rfl rfl trivial (fun hHeld => ?_); refine with_tabW ask_Next.tab5 ask_Next.bits5 (fun HT_ HW_ => ?_)
                              generalize wc.drew = w29 at BK140 HB HR143 HR145 HR147 HR149 HR151 hHeld ⊢
                              refine pure_ (i := 0) (N := some 22) (v := ?_) (a' := ?_) #[true, false, false, false, false, false, false, false, false, false, false, false, false, false, false, false, false, false, false, false, false] rfl rfl (any_of HT_.out (by kernel_rfl)) (fun _ _ _ h => h) (Or.inl ⟨by rfl, ?_⟩) ?_ ?_
                              rotate_left
                              · intro w'
                                go_simp
                                with_reducible rfl
                              rotate_left
                              · simp only [Act.put, List.setIfInBounds_toArray, List.set_cons_zero, List.set_cons_succ, i64_w, i32_w]
                                rfl
                              refine pure_ (i := 1) (N := some 23) (v := ?_) (a' := ?_) #[true, true, false, false, false, false, false, false, false, false, false, false, false, false, false, false, false, false, false, false, false] rfl rfl (any_of HT_.out (by kernel_rfl)) (fun _ _ _ h => h) (Or.inl ⟨by rfl, ?_⟩) ?_ ?_
                              rotate_left
                              · intro w'
                                go_simp
                                with_reducible rfl
                              rotate_left
                              · simp only [Act.put, List.setIfInBounds_toArray, List.set_cons_zero, List.set_cons_succ, i64_w, i32_w]
                                rfl
                              refine pure_ (i := 4) (N := some 26) (v := ?_) (a' := ?_) #[true, true, false, false, true, false, false, false, false, false, false, false, false, false, false, false, false, false, false, false, false] rfl rfl (any_of HT_.out (by kernel_rfl)) (fun _ _ _ h => h) (Or.inl ⟨by rfl, ?_⟩) ?_ ?_
                              rotate_left
                              · intro w'
                                go_simp
                                with_reducible rfl
                              rotate_left
                              · simp only [Act.put, List.setIfInBounds_toArray, List.set_cons_zero, List.set_cons_succ, i64_w, i32_w]
                                rfl
                              refine pure_ (i := 5) (N := some 27) (v := ?_) (a' := ?_) #[true, true, false, false, true, true, false, false, false, false, false, false, false, false, false, false, false, false, false, false, false] rfl rfl (any_of HT_.out (by kernel_rfl)) (fun _ _ _ h => h) (Or.inl ⟨by rfl, ?_⟩) ?_ ?_
                              rotate_left
                              · intro w'
                                go_simp
                                with_reducible rfl
                              rotate_left
                              · simp only [Act.put, List.setIfInBounds_toArray, List.set_cons_zero, List.set_cons_succ, i64_w, i32_w]
                                rfl
                              refine pure_ (i := 8) (N := some 30) (v := ?_) (a' := ?_) #[true, true, false, false, true, true, false, false, true, false, false, false, false, false, false, false, false, false, false, false, false] rfl rfl (any_of HT_.out (by kernel_rfl)) (fun _ _ _ h => h) (Or.inl ⟨by rfl, ?_⟩) ?_ ?_
                              rotate_left
                              · intro w'
                                go_simp
                                with_reducible rfl
                              rotate_left
                              · simp only [Act.put, List.setIfInBounds_toArray, List.set_cons_zero, List.set_cons_succ, i64_w, i32_w]
                                rfl
                              refine pure_ (i := 9) (N := some 31) (v := ?_) (a' := ?_) #[true, true, false, false, true, true, false, false, true, true, false, false, false, false, false, false, false, false, false, false, false] rfl rfl (any_of HT_.out (by kernel_rfl)) (fun _ _ _ h => h) (Or.inl ⟨by rfl, ?_⟩) ?_ ?_
                              rotate_left
                              · intro w'
                                go_simp
                                with_reducible rfl
                              rotate_left
                              · simp only [Act.put, List.setIfInBounds_toArray, List.set_cons_zero, List.set_cons_succ, i64_w, i32_w]
                                rfl
                              refine pure_ (i := 11) (N := some 33) (v := ?_) (a' := ?_) #[true, true, false, false, true, true, false, false, true, true, false, true, false, false, false, false, false, false, false, false, false] rfl rfl (any_of HT_.out (by kernel_rfl)) (fun _ _ _ h => h) (Or.inl ⟨by rfl, ?_⟩) ?_ ?_
                              rotate_left
                              · intro w'
                                go_simp
                                with_reducible rfl
                              rotate_left
                              · simp only [Act.put, List.setIfInBounds_toArray, List.set_cons_zero, List.set_cons_succ, i64_w, i32_w]
                                rfl
                              refine pure_ (i := 12) (N := some 34) (v := ?_) (a' := ?_) #[true, true, false, false, true, true, false, false, true, true, false, true, true, false, false, false, false, false, false, false, false] rfl rfl (any_of HT_.out (by kernel_rfl)) (fun _ _ _ h => h) (Or.inl ⟨by rfl, ?_⟩) ?_ ?_
                              rotate_left
                              · intro w'
                                go_simp
                                with_reducible rfl
                              rotate_left
                              · simp only [Act.put, List.setIfInBounds_toArray, List.set_cons_zero, List.set_cons_succ, i64_w, i32_w]
                                rfl
                              refine pure_ (i := 14) (N := some 36) (v := ?_) (a' := ?_) #[true, true, false, false, true, true, false, false, true, true, false, true, true, false, true, false, false, false, false, false, false] rfl rfl (any_of HT_.out (by kernel_rfl)) (fun _ _ _ h => h) (Or.inl ⟨by rfl, ?_⟩) ?_ ?_
                              rotate_left
                              · intro w'
                                go_simp
                                with_reducible rfl
                              rotate_left
                              · simp only [Act.put, List.setIfInBounds_toArray, List.set_cons_zero, List.set_cons_succ, i64_w, i32_w]
                                rfl
                              refine pure_ (i := 15) (N := some 37) (v := ?_) (a' := ?_) #[true, true, false, false, true, true, false, false, true, true, false, true, true, false, true, true, false, false, false, false, false] rfl rfl (any_of HT_.out (by kernel_rfl)) (fun _ _ _ h => h) (Or.inl ⟨by rfl, ?_⟩) ?_ ?_
                              rotate_left
                              · intro w'
                                go_simp
                                with_reducible rfl
                              rotate_left
                              · simp only [Act.put, List.setIfInBounds_toArray, List.set_cons_zero, List.set_cons_succ, i64_w, i32_w]
                                rfl
                              refine join_ (σ := Nat) 1 #[true, true, true, true, true, true, true, true, true, true, true, true, true, true, true, true, true, true, true, true, false] (fun s_ => [(24, .int .u64 t144), (28, .int .u64 t146), (32, .int .u64 t148), (35, .int .u64 t150), (38, .int .u64 t152), (5, .pointer (some ⟨s_, 0, none⟩)), (25, .int .i64 (wrap64 (t144))), (29, .int .i64 (wrap64 (t146))), (39, .int .i64 (wrap64 (t152))), (40, .agg #[.int .i64 (wrap64 (t144)), .int .i64 (wrap64 (t146)), .int .u64 t148, .int .u64 t150, .int .i64 (wrap64 (t152)), .slice none 0 0])]) (fun s_ w' => (w'.heap[gb140]? = some (.cells #[.int .i64 0, .int .i64 0, .int .u64 0, .int .u64 0, .int .i64 0, .slice none 0 0] 29 (0, 0))) ∧ (w'.heap[s_]? = some (.cells #[.int .i64 0, .int .i64 0, .int .u64 0, .int .u64 0, .int .i64 0, .slice none 0 0] 29 (0, 0))) ∧ (w.heap.size ≤ s_) ∧ (w.heap.size ≤ s_) ∧ (gb140 ≠ s_) ∧ (s_ ≠ gb140) ∧ (Below w.heap.size w w')) ?_ ?_
                              rotate_left
                              · intro hJ2_6_10_13_16_19
                                refine join_ (σ := Unit) 2 #[true, true, true, true, true, true, true, true, true, true, true, true, true, true, true, true, true, true, true, false, false] (fun s_ => [(24, .int .u64 t144), (28, .int .u64 t146), (32, .int .u64 t148), (35, .int .u64 t150), (38, .int .u64 t152), (25, .int .i64 (wrap64 (t144))), (29, .int .i64 (wrap64 (t146))), (39, .int .i64 (wrap64 (t152))), (40, .agg #[.int .i64 (wrap64 (t144)), .int .i64 (wrap64 (t146)), .int .u64 t148, .int .u64 t150, .int .i64 (wrap64 (t152)), .slice none 0 0])]) (fun s_ w' => (w'.heap[gb140]? = some (.cells #[.int .i64 0, .int .i64 0, .int .u64 0, .int .u64 0, .int .i64 0, .slice none 0 0] 29 (0, 0))) ∧ (Below w.heap.size w w')) ?_ ?_
                                rotate_left
                                · intro hJ2_6_10_13_16
                                  refine join_ (σ := Nat) 4 #[true, true, true, true, true, true, true, true, true, true, true, true, true, true, true, true, false, false, false, true, false] (fun s_ => [(24, .int .u64 t144), (28, .int .u64 t146), (32, .int .u64 t148), (35, .int .u64 t150), (5, .pointer (some ⟨s_, 0, none⟩)), (25, .int .i64 (wrap64 (t144))), (29, .int .i64 (wrap64 (t146)))]) (fun s_ w' => (w'.heap[gb140]? = some (.cells #[.int .i64 0, .int .i64 0, .int .u64 0, .int .u64 0, .int .i64 0, .slice none 0 0] 29 (0, 0))) ∧ (w'.heap[s_]? = some (.cells #[.int .i64 0, .int .i64 0, .int .u64 0, .int .u64 0, .int .i64 0, .slice none 0 0] 29 (0, 0))) ∧ (w.heap.size ≤ s_) ∧ (w.heap.size ≤ s_) ∧ (gb140 ≠ s_) ∧ (s_ ≠ gb140) ∧ (Below w.heap.size w w')) ?_ ?_
                                  rotate_left
                                  · intro hJ2_6_10_13_19
                                    refine join_ (σ := Unit) 5 #[true, true, true, true, true, true, true, true, true, true, true, true, true, true, true, true, false, false, false, false, false] (fun s_ => [(24, .int .u64 t144), (28, .int .u64 t146), (32, .int .u64 t148), (35, .int .u64 t150), (25, .int .i64 (wrap64 (t144))), (29, .int .i64 (wrap64 (t146)))]) (fun s_ w' => (w'.heap[gb140]? = some (.cells #[.int .i64 0, .int .i64 0, .int .u64 0, .int .u64 0, .int .i64 0, .slice none 0 0] 29 (0, 0))) ∧ (Below w.heap.size w w')) ?_ ?_
                                    rotate_left
                                    · intro hJ2_6_10_13
                                      refine join_ (σ := Nat) 5 #[true, true, true, true, true, true, true, true, true, true, true, true, true, false, true, true, false, false, false, true, false] (fun s_ => [(24, .int .u64 t144), (28, .int .u64 t146), (32, .int .u64 t148), (5, .pointer (some ⟨s_, 0, none⟩)), (25, .int .i64 (wrap64 (t144))), (29, .int .i64 (wrap64 (t146)))]) (fun s_ w' => (w'.heap[gb140]? = some (.cells #[.int .i64 0, .int .i64 0, .int .u64 0, .int .u64 0, .int .i64 0, .slice none 0 0] 29 (0, 0))) ∧ (w'.heap[s_]? = some (.cells #[.int .i64 0, .int .i64 0, .int .u64 0, .int .u64 0, .int .i64 0, .slice none 0 0] 29 (0, 0))) ∧ (w.heap.size ≤ s_) ∧ (w.heap.size ≤ s_) ∧ (gb140 ≠ s_) ∧ (s_ ≠ gb140) ∧ (Below w.heap.size w w')) ?_ ?_
                                      rotate_left
                                      · intro hJ2_6_10_19
                                        refine join_ (σ := Unit) 6 #[true, true, true, true, true, true, true, true, true, true, true, true, true, false, true, true, false, false, false, false, false] (fun s_ => [(24, .int .u64 t144), (28, .int .u64 t146), (32, .int .u64 t148), (25, .int .i64 (wrap64 (t144))), (29, .int .i64 (wrap64 (t146)))]) (fun s_ w' => (w'.heap[gb140]? = some (.cells #[.int .i64 0, .int .i64 0, .int .u64 0, .int .u64 0, .int .i64 0, .slice none 0 0] 29 (0, 0))) ∧ (Below w.heap.size w w')) ?_ ?_
                                        rotate_left
                                        · intro hJ2_6_10
                                          refine join_ (σ := Nat) 6 #[true, true, true, true, true, true, true, true, true, true, false, true, true, false, true, true, false, false, false, true, false] (fun s_ => [(24, .int .u64 t144), (28, .int .u64 t146), (5, .pointer (some ⟨s_, 0, none⟩)), (25, .int .i64 (wrap64 (t144))), (29, .int .i64 (wrap64 (t146)))]) (fun s_ w' => (w'.heap[gb140]? = some (.cells #[.int .i64 0, .int .i64 0, .int .u64 0, .int .u64 0, .int .i64 0, .slice none 0 0] 29 (0, 0))) ∧ (w'.heap[s_]? = some (.cells #[.int .i64 0, .int .i64 0, .int .u64 0, .int .u64 0, .int .i64 0, .slice none 0 0] 29 (0, 0))) ∧ (w.heap.size ≤ s_) ∧ (w.heap.size ≤ s_) ∧ (gb140 ≠ s_) ∧ (s_ ≠ gb140) ∧ (Below w.heap.size w w')) ?_ ?_
                                          rotate_left
                                          · intro hJ2_6_19
                                            refine join_ (σ := Unit) 7 #[true, true, true, true, true, true, true, true, true, true, false, true, true, false, true, true, false, false, false, false, false] (fun s_ => [(24, .int .u64 t144), (28, .int .u64 t146), (25, .int .i64 (wrap64 (t144))), (29, .int .i64 (wrap64 (t146)))]) (fun s_ w' => (w'.heap[gb140]? = some (.cells #[.int .i64 0, .int .i64 0, .int .u64 0, .int .u64 0, .int .i64 0, .slice none 0 0] 29 (0, 0))) ∧ (Below w.heap.size w w')) ?_ ?_
                                            rotate_left
                                            · intro hJ2_6
                                              refine join_ (σ := Nat) 8 #[true, true, true, true, true, true, false, false, true, true, false, true, true, false, true, true, false, false, false, true, false] (fun s_ => [(24, .int .u64 t144), (5, .pointer (some ⟨s_, 0, none⟩)), (25, .int .i64 (wrap64 (t144)))]) (fun s_ w' => (w'.heap[gb140]? = some (.cells #[.int .i64 0, .int .i64 0, .int .u64 0, .int .u64 0, .int .i64 0, .slice none 0 0] 29 (0, 0))) ∧ (w'.heap[s_]? = some (.cells #[.int .i64 0, .int .i64 0, .int .u64 0, .int .u64 0, .int .i64 0, .slice none 0 0] 29 (0, 0))) ∧ (w.heap.size ≤ s_) ∧ (w.heap.size ≤ s_) ∧ (gb140 ≠ s_) ∧ (s_ ≠ gb140) ∧ (Below w.heap.size w w')) ?_ ?_
                                              rotate_left
                                              · intro hJ2_19
                                                refine join_ (σ := Unit) 9 #[true, true, true, true, true, true, false, false, true, true, false, true, true, false, true, true, false, false, false, false, false] (fun s_ => [(24, .int .u64 t144), (25, .int .i64 (wrap64 (t144)))]) (fun s_ w' => (w'.heap[gb140]? = some (.cells #[.int .i64 0, .int .i64 0, .int .u64 0, .int .u64 0, .int .i64 0, .slice none 0 0] 29 (0, 0))) ∧ (Below w.heap.size w w')) ?_ ?_
                                                rotate_left
                                                · intro hJ2
                                                  refine join_ (σ := Nat) 10 #[true, true, false, false, true, true, false, false, true, true, false, true, true, false, true, true, false, false, false, true, false] (fun s_ => [(5, .pointer (some ⟨s_, 0, none⟩))]) (fun s_ w' => (w'.heap[gb140]? = some (.cells #[.int .i64 0, .int .i64 0, .int .u64 0, .int .u64 0, .int .i64 0, .slice none 0 0] 29 (0, 0))) ∧ (w'.heap[s_]? = some (.cells #[.int .i64 0, .int .i64 0, .int .u64 0, .int .u64 0, .int .i64 0, .slice none 0 0] 29 (0, 0))) ∧ (w.heap.size ≤ s_) ∧ (w.heap.size ≤ s_) ∧ (gb140 ≠ s_) ∧ (s_ ≠ gb140) ∧ (Below w.heap.size w w')) ?_ ?_
                                                  rotate_left
                                                  · intro hJ19
                                                    refine two_ (i := 2) (j := 19) (Ni := some 24) (Nj := some 5) #[true, true, true, false, true, true, false, false, true, true, false, true, true, false, true, true, false, false, false, false, false] #[true, true, false, false, true, true, false, false, true, true, false, true, true, false, true, true, false, false, false, true, false] rfl rfl rfl rfl (two_of HT_.out (by kernel_rfl)) (by decide) (by decide) (fun K hK => ?_) (fun K hK => ?_)
                                                    · skip
                                                      refine goes_ Try.func42 (by kernel_rfl) rfl #[.slice A30 ((l0.take 6).drop 4).length (c0 - 4)] (by rfl) rfl rfl (by (try simp only [List.map_toArray, List.map_cons, List.map_nil]); first | done | (rw [show ((l0.take 6).drop 4).length = (6 - 4) from (by rw [List.length_drop, List.length_take]; have h_ : (6 : Int) ≤ (l0.length : Int) := of_decide_eq_true (by first | (with_reducible assumption) | assumption); omega)] <;> rfl) | rfl | (simp only [List.length_drop, List.length_take]; rfl)) ?_
                                                      with_reducible refine (ask_number.calls kj1 _ _ ((l0.take 6).drop 4) t144 _ ?side1 ?side2 A14.out).mono ?_
                                                      (case side1 => repeat (first | exact (Kd.C_below HR143.out HB.out) | (with_reducible refine Kd.C_alloc ?_ _) | (with_reducible refine Kd.C_drewN ?_ _) | (with_reducible refine Kd.C_drew ?_)))
                                                      (case side2 => exact HC143.out)
                                                      rintro e w' ⟨rfl, ⟨nd, rfl⟩⟩
                                                      refine ⟨_, rfl, ?_⟩
                                                      refine hK.out _ _ trivial (fun hHeld => ?_)
                                                      clear hK K
                                                      refine norm_ (a' := ?_) ?_ ?_
                                                      rotate_left
                                                      · show Act.put _ (some 24) _ = _
                                                        simp only [Act.put, List.setIfInBounds_toArray, List.set_cons_zero, List.set_cons_succ, i64_w, i32_w]
                                                        rfl
                                                      refine pure_ (i := 3) (N := some 25) (v := ?_) (a' := ?_) #[true, true, true, true, true, true, false, false, true, true, false, true, true, false, true, true, false, false, false, false, false] rfl rfl (any_of HT_.out (by kernel_rfl)) (fun _ _ _ h => h) (Or.inl ⟨by rfl, ?_⟩) ?_ ?_
                                                      rotate_left
                                                      · intro w'
                                                        go_simp
                                                        with_reducible rfl
                                                      rotate_left
                                                      · simp only [Act.put, List.setIfInBounds_toArray, List.set_cons_zero, List.set_cons_succ, i64_w, i32_w]
                                                        rfl
                                                      exact norm_ (by first | (simp only [putAll, Act.put, List.setIfInBounds_toArray, List.set_cons_zero, List.set_cons_succ]; done) | (simp only [putAll, Act.put, List.setIfInBounds_toArray, List.set_cons_zero, List.set_cons_succ]; rfl)) (hJ2 () _ ⟨(by (with_reducible repeat (first | refine blk_drewN ?_ _ | refine blk_drew ?_ | refine blk_alloc ?_ _)); exact BK140.out), (by repeat (first | (with_reducible first | exact HB.out | apply below_alloc | apply pw_below_drewN | apply below_drew1 | refine below_set ?_ GE140.out) | exact HB.out))⟩)
                                                    · skip
                                                      refine box_step ?hg (N := 5) ?hd (cs := #[.int .i64 0, .int .i64 0, .int .u64 0, .int .u64 0, .int .i64 0, .slice none 0 0]) (t := 29) ?hr ?_; (case hd => rfl); (case hg => rfl); (case hr => first | (go_simp; done) | (go_simp; rfl))
                                                      intro gb153 hg w35 hbox hb
                                                      have n0_ := Aside0.mk (blk_below (g := gb140) (o := .cells #[.int .i64 0, .int .i64 0, .int .u64 0, .int .u64 0, .int .i64 0, .slice none 0 0] 29 (0, 0)) (by (with_reducible repeat (first | refine blk_drewN ?_ _ | refine blk_drew ?_ | refine blk_alloc ?_ _)); exact BK140.out) hb)
                                                      have n1_ := Aside0.mk (below_step (by repeat (first | (with_reducible first | exact HB.out | apply below_alloc | apply pw_below_drewN | apply below_drew1 | refine below_set ?_ GE140.out) | exact HB.out)) hb)
                                                      have n2_ := Aside0.mk (hbox)
                                                      have n3_ := Aside0.mk ((by rw [hg]; exact (below_size (by repeat (first | (with_reducible first | exact HB.out | apply below_alloc | apply pw_below_drewN | apply below_drew1 | refine below_set ?_ GE140.out) | exact HB.out))) : w.heap.size ≤ gb153))
                                                      have n4_ := Aside0.mk ((by rw [hg]; exact (below_size (by repeat (first | (with_reducible first | exact HB.out | apply below_alloc | apply pw_below_drewN | apply below_drew1 | refine below_set ?_ GE140.out) | exact HB.out))) : w.heap.size ≤ gb153))
                                                      have n5_ := Aside0.mk ((by rw [hg]; exact Nat.ne_of_lt (blk_lt (g := gb140) (o := .cells #[.int .i64 0, .int .i64 0, .int .u64 0, .int .u64 0, .int .i64 0, .slice none 0 0] 29 (0, 0)) (by (with_reducible repeat (first | refine blk_drewN ?_ _ | refine blk_drew ?_ | refine blk_alloc ?_ _)); exact BK140.out)) : gb140 ≠ gb153))
                                                      have n6_ := Aside0.mk ((by rw [hg]; exact Nat.ne_of_gt (blk_lt (g := gb140) (o := .cells #[.int .i64 0, .int .i64 0, .int .u64 0, .int .u64 0, .int .i64 0, .slice none 0 0] 29 (0, 0)) (by (with_reducible repeat (first | refine blk_drewN ?_ _ | refine blk_drew ?_ | refine blk_alloc ?_ _)); exact BK140.out)) : gb153 ≠ gb140))
                                                      clear BK140
                                                      clear HB
                                                      have BK140 := n0_
                                                      have HB := n1_
                                                      have BK153 := n2_
                                                      have GW153 := n3_
                                                      have GE153 := n4_
                                                      have NB140_153 := n5_
                                                      have NB153_140 := n6_
                                                      clear n0_ n1_ n2_ n3_ n4_ n5_ n6_
                                                      clear hb hbox hg
                                                      refine hK.out _ _ trivial (fun hHeld => ?_)
                                                      clear hK K
                                                      refine norm_ (a' := ?_) ?_ ?_
                                                      rotate_left
                                                      · show Act.put _ (some 5) _ = _
                                                        simp only [Act.put, List.setIfInBounds_toArray, List.set_cons_zero, List.set_cons_succ, i64_w, i32_w]
                                                        rfl
                                                      exact norm_ (by first | (simp only [putAll, Act.put, List.setIfInBounds_toArray, List.set_cons_zero, List.set_cons_succ]; done) | (simp only [putAll, Act.put, List.setIfInBounds_toArray, List.set_cons_zero, List.set_cons_succ]; rfl)) (hJ19 (gb153) _ ⟨(by (with_reducible repeat (first | refine blk_drewN ?_ _ | refine blk_drew ?_ | refine blk_alloc ?_ _)); exact BK140.out), (by (with_reducible repeat (first | refine blk_drewN ?_ _ | refine blk_drew ?_ | refine blk_alloc ?_ _)); exact BK153.out), GW153.out, GE153.out, NB140_153.out, NB153_140.out, (by repeat (first | (with_reducible first | exact HB.out | apply below_alloc | apply pw_below_drewN | apply below_drew1 | refine below_set ?_ GE140.out | refine below_set ?_ GE153.out) | exact HB.out))⟩)
                                                  · skip
                                                    rintro gb153 w36 ⟨h0_, h1_, h2_, h3_, h4_, h5_, h6_⟩
                                                    have n0_ : Aside0 (w36.heap[gb140]? = some (.cells #[.int .i64 0, .int .i64 0, .int .u64 0, .int .u64 0, .int .i64 0, .slice none 0 0] 29 (0, 0))) := ⟨h0_⟩
                                                    have n1_ : Aside0 (w36.heap[gb153]? = some (.cells #[.int .i64 0, .int .i64 0, .int .u64 0, .int .u64 0, .int .i64 0, .slice none 0 0] 29 (0, 0))) := ⟨h1_⟩
                                                    have n2_ : Aside0 (w.heap.size ≤ gb153) := ⟨h2_⟩
                                                    have n3_ : Aside0 (w.heap.size ≤ gb153) := ⟨h3_⟩
                                                    have n4_ : Aside0 (gb140 ≠ gb153) := ⟨h4_⟩
                                                    have n5_ : Aside0 (gb153 ≠ gb140) := ⟨h5_⟩
                                                    have n6_ : Aside0 (Below w.heap.size w w36) := ⟨h6_⟩
                                                    clear BK140
                                                    clear HB
                                                    clear h0_ h1_ h2_ h3_ h4_ h5_ h6_
                                                    have BK140 := n0_
                                                    have BK153 := n1_
                                                    have GW153 := n2_
                                                    have GE153 := n3_
                                                    have NB140_153 := n4_
                                                    have NB153_140 := n5_
                                                    have HB := n6_
                                                    clear n0_ n1_ n2_ n3_ n4_ n5_ n6_
                                                    have hHeld := trivial
                                                    refine norm_ (a' := ?_) ?_ ?_
                                                    rotate_left
                                                    · simp only [putAll, Act.put, List.setIfInBounds_toArray, List.set_cons_zero, List.set_cons_succ]
                                                      rfl
                                                    refine one_ (i := 2) (N := some 24) #[true, true, true, false, true, true, false, false, true, true, false, true, true, false, true, true, false, false, false, true, false] rfl rfl (one_of HT_.out (by kernel_rfl)) (by decide) (fun K hK => ?_)
                                                    refine goes_ Try.func42 (by kernel_rfl) rfl #[.slice A30 ((l0.take 6).drop 4).length (c0 - 4)] (by rfl) rfl rfl (by (try simp only [List.map_toArray, List.map_cons, List.map_nil]); first | done | (rw [show ((l0.take 6).drop 4).length = (6 - 4) from (by rw [List.length_drop, List.length_take]; have h_ : (6 : Int) ≤ (l0.length : Int) := of_decide_eq_true (by first | (with_reducible assumption) | assumption); omega)] <;> rfl) | rfl | (simp only [List.length_drop, List.length_take]; rfl)) ?_
                                                    with_reducible refine (ask_number.calls kj1 _ _ ((l0.take 6).drop 4) t144 _ ?side1 ?side2 A14.out).mono ?_
                                                    (case side1 => repeat (first | exact (Kd.C_below HR143.out HB.out) | (with_reducible refine Kd.C_alloc ?_ _) | (with_reducible refine Kd.C_drewN ?_ _) | (with_reducible refine Kd.C_drew ?_)))
                                                    (case side2 => exact HC143.out)
                                                    rintro e w' ⟨rfl, ⟨nd, rfl⟩⟩
                                                    refine ⟨_, rfl, ?_⟩
                                                    refine hK.out _ _ trivial (fun hHeld => ?_)
                                                    clear hK K
                                                    refine norm_ (a' := ?_) ?_ ?_
                                                    rotate_left
                                                    · show Act.put _ (some 24) _ = _
                                                      simp only [Act.put, List.setIfInBounds_toArray, List.set_cons_zero, List.set_cons_succ, i64_w, i32_w]
                                                      rfl
                                                    refine pure_ (i := 3) (N := some 25) (v := ?_) (a' := ?_) #[true, true, true, true, true, true, false, false, true, true, false, true, true, false, true, true, false, false, false, true, false] rfl rfl (any_of HT_.out (by kernel_rfl)) (fun _ _ _ h => h) (Or.inl ⟨by rfl, ?_⟩) ?_ ?_
                                                    rotate_left
                                                    · intro w'
                                                      go_simp
                                                      with_reducible rfl
                                                    rotate_left
                                                    · simp only [Act.put, List.setIfInBounds_toArray, List.set_cons_zero, List.set_cons_succ, i64_w, i32_w]
                                                      rfl
                                                    exact norm_ (by first | (simp only [putAll, Act.put, List.setIfInBounds_toArray, List.set_cons_zero, List.set_cons_succ]; done) | (simp only [putAll, Act.put, List.setIfInBounds_toArray, List.set_cons_zero, List.set_cons_succ]; rfl)) (hJ2_19 (gb153) _ ⟨(by (with_reducible repeat (first | refine blk_drewN ?_ _ | refine blk_drew ?_ | refine blk_alloc ?_ _)); exact BK140.out), (by (with_reducible repeat (first | refine blk_drewN ?_ _ | refine blk_drew ?_ | refine blk_alloc ?_ _)); exact BK153.out), GW153.out, GE153.out, NB140_153.out, NB153_140.out, (by repeat (first | (with_reducible first | exact HB.out | apply below_alloc | apply pw_below_drewN | apply below_drew1 | refine below_set ?_ GE140.out | refine below_set ?_ GE153.out) | exact HB.out))⟩)
                                                · skip
                                                  rintro _ w35 ⟨h0_, h1_⟩
                                                  have n0_ : Aside0 (w35.heap[gb140]? = some (.cells #[.int .i64 0, .int .i64 0, .int .u64 0, .int .u64 0, .int .i64 0, .slice none 0 0] 29 (0, 0))) := ⟨h0_⟩
                                                  have n1_ : Aside0 (Below w.heap.size w w35) := ⟨h1_⟩
                                                  clear BK140
                                                  clear HB
                                                  clear h0_ h1_
                                                  have BK140 := n0_
                                                  have HB := n1_
                                                  clear n0_ n1_
                                                  have hHeld := trivial
                                                  refine norm_ (a' := ?_) ?_ ?_
                                                  rotate_left
                                                  · simp only [putAll, Act.put, List.setIfInBounds_toArray, List.set_cons_zero, List.set_cons_succ]
                                                    rfl
                                                  refine two_ (i := 6) (j := 19) (Ni := some 28) (Nj := some 5) #[true, true, true, true, true, true, true, false, true, true, false, true, true, false, true, true, false, false, false, false, false] #[true, true, true, true, true, true, false, false, true, true, false, true, true, false, true, true, false, false, false, true, false] rfl rfl rfl rfl (two_of HT_.out (by kernel_rfl)) (by decide) (by decide) (fun K hK => ?_) (fun K hK => ?_)
                                                  · skip
                                                    refine goes_ Try.func42 (by kernel_rfl) rfl #[.slice A31 ((l0.take 8).drop 6).length (c0 - 6)] (by rfl) rfl rfl (by (try simp only [List.map_toArray, List.map_cons, List.map_nil]); first | done | (rw [show ((l0.take 8).drop 6).length = (8 - 6) from (by rw [List.length_drop, List.length_take]; have h_ : (8 : Int) ≤ (l0.length : Int) := of_decide_eq_true (by first | (with_reducible assumption) | assumption); omega)] <;> rfl) | rfl | (simp only [List.length_drop, List.length_take]; rfl)) ?_
                                                    with_reducible refine (ask_number.calls kj1 _ _ ((l0.take 8).drop 6) t146 _ ?side1 ?side2 A17.out).mono ?_
                                                    (case side1 => repeat (first | exact (Kd.C_below HR145.out HB.out) | (with_reducible refine Kd.C_alloc ?_ _) | (with_reducible refine Kd.C_drewN ?_ _) | (with_reducible refine Kd.C_drew ?_)))
                                                    (case side2 => exact HC145.out)
                                                    rintro e w' ⟨rfl, ⟨nd, rfl⟩⟩
                                                    refine ⟨_, rfl, ?_⟩
                                                    refine hK.out _ _ trivial (fun hHeld => ?_)
                                                    clear hK K
                                                    refine norm_ (a' := ?_) ?_ ?_
                                                    rotate_left
                                                    · show Act.put _ (some 28) _ = _
                                                      simp only [Act.put, List.setIfInBounds_toArray, List.set_cons_zero, List.set_cons_succ, i64_w, i32_w]
                                                      rfl
                                                    refine pure_ (i := 7) (N := some 29) (v := ?_) (a' := ?_) #[true, true, true, true, true, true, true, true, true, true, false, true, true, false, true, true, false, false, false, false, false] rfl rfl (any_of HT_.out (by kernel_rfl)) (fun _ _ _ h => h) (Or.inl ⟨by rfl, ?_⟩) ?_ ?_
                                                    rotate_left
                                                    · intro w'
                                                      go_simp
                                                      with_reducible rfl
                                                    rotate_left
                                                    · simp only [Act.put, List.setIfInBounds_toArray, List.set_cons_zero, List.set_cons_succ, i64_w, i32_w]
                                                      rfl
                                                    exact norm_ (by first | (simp only [putAll, Act.put, List.setIfInBounds_toArray, List.set_cons_zero, List.set_cons_succ]; done) | (simp only [putAll, Act.put, List.setIfInBounds_toArray, List.set_cons_zero, List.set_cons_succ]; rfl)) (hJ2_6 () _ ⟨(by (with_reducible repeat (first | refine blk_drewN ?_ _ | refine blk_drew ?_ | refine blk_alloc ?_ _)); exact BK140.out), (by repeat (first | (with_reducible first | exact HB.out | apply below_alloc | apply pw_below_drewN | apply below_drew1 | refine below_set ?_ GE140.out) | exact HB.out))⟩)
                                                  · skip
                                                    refine box_step ?hg (N := 5) ?hd (cs := #[.int .i64 0, .int .i64 0, .int .u64 0, .int .u64 0, .int .i64 0, .slice none 0 0]) (t := 29) ?hr ?_; (case hd => rfl); (case hg => rfl); (case hr => first | (go_simp; done) | (go_simp; rfl))
                                                    intro gb153 hg w36 hbox hb
                                                    have n0_ := Aside0.mk (blk_below (g := gb140) (o := .cells #[.int .i64 0, .int .i64 0, .int .u64 0, .int .u64 0, .int .i64 0, .slice none 0 0] 29 (0, 0)) (by (with_reducible repeat (first | refine blk_drewN ?_ _ | refine blk_drew ?_ | refine blk_alloc ?_ _)); exact BK140.out) hb)
                                                    have n1_ := Aside0.mk (below_step (by repeat (first | (with_reducible first | exact HB.out | apply below_alloc | apply pw_below_drewN | apply below_drew1 | refine below_set ?_ GE140.out) | exact HB.out)) hb)
                                                    have n2_ := Aside0.mk (hbox)
                                                    have n3_ := Aside0.mk ((by rw [hg]; exact (below_size (by repeat (first | (with_reducible first | exact HB.out | apply below_alloc | apply pw_below_drewN | apply below_drew1 | refine below_set ?_ GE140.out) | exact HB.out))) : w.heap.size ≤ gb153))
                                                    have n4_ := Aside0.mk ((by rw [hg]; exact (below_size (by repeat (first | (with_reducible first | exact HB.out | apply below_alloc | apply pw_below_drewN | apply below_drew1 | refine below_set ?_ GE140.out) | exact HB.out))) : w.heap.size ≤ gb153))
                                                    have n5_ := Aside0.mk ((by rw [hg]; exact Nat.ne_of_lt (blk_lt (g := gb140) (o := .cells #[.int .i64 0, .int .i64 0, .int .u64 0, .int .u64 0, .int .i64 0, .slice none 0 0] 29 (0, 0)) (by (with_reducible repeat (first | refine blk_drewN ?_ _ | refine blk_drew ?_ | refine blk_alloc ?_ _)); exact BK140.out)) : gb140 ≠ gb153))
                                                    have n6_ := Aside0.mk ((by rw [hg]; exact Nat.ne_of_gt (blk_lt (g := gb140) (o := .cells #[.int .i64 0, .int .i64 0, .int .u64 0, .int .u64 0, .int .i64 0, .slice none 0 0] 29 (0, 0)) (by (with_reducible repeat (first | refine blk_drewN ?_ _ | refine blk_drew ?_ | refine blk_alloc ?_ _)); exact BK140.out)) : gb153 ≠ gb140))
                                                    clear BK140
                                                    clear HB
                                                    have BK140 := n0_
                                                    have HB := n1_
                                                    have BK153 := n2_
                                                    have GW153 := n3_
                                                    have GE153 := n4_
                                                    have NB140_153 := n5_
                                                    have NB153_140 := n6_
                                                    clear n0_ n1_ n2_ n3_ n4_ n5_ n6_
                                                    clear hb hbox hg
                                                    refine hK.out _ _ trivial (fun hHeld => ?_)
                                                    clear hK K
                                                    refine norm_ (a' := ?_) ?_ ?_
                                                    rotate_left
                                                    · show Act.put _ (some 5) _ = _
                                                      simp only [Act.put, List.setIfInBounds_toArray, List.set_cons_zero, List.set_cons_succ, i64_w, i32_w]
                                                      rfl
                                                    exact norm_ (by first | (simp only [putAll, Act.put, List.setIfInBounds_toArray, List.set_cons_zero, List.set_cons_succ]; done) | (simp only [putAll, Act.put, List.setIfInBounds_toArray, List.set_cons_zero, List.set_cons_succ]; rfl)) (hJ2_19 (gb153) _ ⟨(by (with_reducible repeat (first | refine blk_drewN ?_ _ | refine blk_drew ?_ | refine blk_alloc ?_ _)); exact BK140.out), (by (with_reducible repeat (first | refine blk_drewN ?_ _ | refine blk_drew ?_ | refine blk_alloc ?_ _)); exact BK153.out), GW153.out, GE153.out, NB140_153.out, NB153_140.out, (by repeat (first | (with_reducible first | exact HB.out | apply below_alloc | apply pw_below_drewN | apply below_drew1 | refine below_set ?_ GE140.out | refine below_set ?_ GE153.out) | exact HB.out))⟩)
                                              · skip
                                                rintro gb153 w36 ⟨h0_, h1_, h2_, h3_, h4_, h5_, h6_⟩
                                                have n0_ : Aside0 (w36.heap[gb140]? = some (.cells #[.int .i64 0, .int .i64 0, .int .u64 0, .int .u64 0, .int .i64 0, .slice none 0 0] 29 (0, 0))) := ⟨h0_⟩
                                                have n1_ : Aside0 (w36.heap[gb153]? = some (.cells #[.int .i64 0, .int .i64 0, .int .u64 0, .int .u64 0, .int .i64 0, .slice none 0 0] 29 (0, 0))) := ⟨h1_⟩
                                                have n2_ : Aside0 (w.heap.size ≤ gb153) := ⟨h2_⟩
                                                have n3_ : Aside0 (w.heap.size ≤ gb153) := ⟨h3_⟩
                                                have n4_ : Aside0 (gb140 ≠ gb153) := ⟨h4_⟩
                                                have n5_ : Aside0 (gb153 ≠ gb140) := ⟨h5_⟩
                                                have n6_ : Aside0 (Below w.heap.size w w36) := ⟨h6_⟩
                                                clear BK140
                                                clear HB
                                                clear h0_ h1_ h2_ h3_ h4_ h5_ h6_
                                                have BK140 := n0_
                                                have BK153 := n1_
                                                have GW153 := n2_
                                                have GE153 := n3_
                                                have NB140_153 := n4_
                                                have NB153_140 := n5_
                                                have HB := n6_
                                                clear n0_ n1_ n2_ n3_ n4_ n5_ n6_
                                                have hHeld := trivial
                                                refine norm_ (a' := ?_) ?_ ?_
                                                rotate_left
                                                · simp only [putAll, Act.put, List.setIfInBounds_toArray, List.set_cons_zero, List.set_cons_succ]
                                                  rfl
                                                refine one_ (i := 6) (N := some 28) #[true, true, true, true, true, true, true, false, true, true, false, true, true, false, true, true, false, false, false, true, false] rfl rfl (one_of HT_.out (by kernel_rfl)) (by decide) (fun K hK => ?_)
                                                refine goes_ Try.func42 (by kernel_rfl) rfl #[.slice A31 ((l0.take 8).drop 6).length (c0 - 6)] (by rfl) rfl rfl (by (try simp only [List.map_toArray, List.map_cons, List.map_nil]); first | done | (rw [show ((l0.take 8).drop 6).length = (8 - 6) from (by rw [List.length_drop, List.length_take]; have h_ : (8 : Int) ≤ (l0.length : Int) := of_decide_eq_true (by first | (with_reducible assumption) | assumption); omega)] <;> rfl) | rfl | (simp only [List.length_drop, List.length_take]; rfl)) ?_
                                                with_reducible refine (ask_number.calls kj1 _ _ ((l0.take 8).drop 6) t146 _ ?side1 ?side2 A17.out).mono ?_
                                                (case side1 => repeat (first | exact (Kd.C_below HR145.out HB.out) | (with_reducible refine Kd.C_alloc ?_ _) | (with_reducible refine Kd.C_drewN ?_ _) | (with_reducible refine Kd.C_drew ?_)))
                                                (case side2 => exact HC145.out)
                                                rintro e w' ⟨rfl, ⟨nd, rfl⟩⟩
                                                refine ⟨_, rfl, ?_⟩
                                                refine hK.out _ _ trivial (fun hHeld => ?_)
                                                clear hK K
                                                refine norm_ (a' := ?_) ?_ ?_
                                                rotate_left
                                                · show Act.put _ (some 28) _ = _
                                                  simp only [Act.put, List.setIfInBounds_toArray, List.set_cons_zero, List.set_cons_succ, i64_w, i32_w]
                                                  rfl
                                                refine pure_ (i := 7) (N := some 29) (v := ?_) (a' := ?_) #[true, true, true, true, true, true, true, true, true, true, false, true, true, false, true, true, false, false, false, true, false] rfl rfl (any_of HT_.out (by kernel_rfl)) (fun _ _ _ h => h) (Or.inl ⟨by rfl, ?_⟩) ?_ ?_
                                                rotate_left
                                                · intro w'
                                                  go_simp
                                                  with_reducible rfl
                                                rotate_left
                                                · simp only [Act.put, List.setIfInBounds_toArray, List.set_cons_zero, List.set_cons_succ, i64_w, i32_w]
                                                  rfl
                                                exact norm_ (by first | (simp only [putAll, Act.put, List.setIfInBounds_toArray, List.set_cons_zero, List.set_cons_succ]; done) | (simp only [putAll, Act.put, List.setIfInBounds_toArray, List.set_cons_zero, List.set_cons_succ]; rfl)) (hJ2_6_19 (gb153) _ ⟨(by (with_reducible repeat (first | refine blk_drewN ?_ _ | refine blk_drew ?_ | refine blk_alloc ?_ _)); exact BK140.out), (by (with_reducible repeat (first | refine blk_drewN ?_ _ | refine blk_drew ?_ | refine blk_alloc ?_ _)); exact BK153.out), GW153.out, GE153.out, NB140_153.out, NB153_140.out, (by repeat (first | (with_reducible first | exact HB.out | apply below_alloc | apply pw_below_drewN | apply below_drew1 | refine below_set ?_ GE140.out | refine below_set ?_ GE153.out) | exact HB.out))⟩)
                                            · skip
                                              rintro _ w35 ⟨h0_, h1_⟩
                                              have n0_ : Aside0 (w35.heap[gb140]? = some (.cells #[.int .i64 0, .int .i64 0, .int .u64 0, .int .u64 0, .int .i64 0, .slice none 0 0] 29 (0, 0))) := ⟨h0_⟩
                                              have n1_ : Aside0 (Below w.heap.size w w35) := ⟨h1_⟩
                                              clear BK140
                                              clear HB
                                              clear h0_ h1_
                                              have BK140 := n0_
                                              have HB := n1_
                                              clear n0_ n1_
                                              have hHeld := trivial
                                              refine norm_ (a' := ?_) ?_ ?_
                                              rotate_left
                                              · simp only [putAll, Act.put, List.setIfInBounds_toArray, List.set_cons_zero, List.set_cons_succ]
                                                rfl
                                              refine two_ (i := 10) (j := 19) (Ni := some 32) (Nj := some 5) #[true, true, true, true, true, true, true, true, true, true, true, true, true, false, true, true, false, false, false, false, false] #[true, true, true, true, true, true, true, true, true, true, false, true, true, false, true, true, false, false, false, true, false] rfl rfl rfl rfl (two_of HT_.out (by kernel_rfl)) (by decide) (by decide) (fun K hK => ?_) (fun K hK => ?_)
                                              · skip
                                                refine goes_ Try.func42 (by kernel_rfl) rfl #[.slice A32 ((l0.take 16).drop 8).length (c0 - 8)] (by rfl) rfl rfl (by (try simp only [List.map_toArray, List.map_cons, List.map_nil]); first | done | (rw [show ((l0.take 16).drop 8).length = (16 - 8) from (by rw [List.length_drop, List.length_take]; have h_ : (16 : Int) ≤ (l0.length : Int) := of_decide_eq_true (by first | (with_reducible assumption) | assumption); omega)] <;> rfl) | rfl | (simp only [List.length_drop, List.length_take]; rfl)) ?_
                                                with_reducible refine (ask_number.calls kj1 _ _ ((l0.take 16).drop 8) t148 _ ?side1 ?side2 A20.out).mono ?_
                                                (case side1 => repeat (first | exact (Kd.C_below HR147.out HB.out) | (with_reducible refine Kd.C_alloc ?_ _) | (with_reducible refine Kd.C_drewN ?_ _) | (with_reducible refine Kd.C_drew ?_)))
                                                (case side2 => exact HC147.out)
                                                rintro e w' ⟨rfl, ⟨nd, rfl⟩⟩
                                                refine ⟨_, rfl, ?_⟩
                                                refine hK.out _ _ trivial (fun hHeld => ?_)
                                                clear hK K
                                                refine norm_ (a' := ?_) ?_ ?_
                                                rotate_left
                                                · show Act.put _ (some 32) _ = _
                                                  simp only [Act.put, List.setIfInBounds_toArray, List.set_cons_zero, List.set_cons_succ, i64_w, i32_w]
                                                  rfl
                                                exact norm_ (by first | (simp only [putAll, Act.put, List.setIfInBounds_toArray, List.set_cons_zero, List.set_cons_succ]; done) | (simp only [putAll, Act.put, List.setIfInBounds_toArray, List.set_cons_zero, List.set_cons_succ]; rfl)) (hJ2_6_10 () _ ⟨(by (with_reducible repeat (first | refine blk_drewN ?_ _ | refine blk_drew ?_ | refine blk_alloc ?_ _)); exact BK140.out), (by repeat (first | (with_reducible first | exact HB.out | apply below_alloc | apply pw_below_drewN | apply below_drew1 | refine below_set ?_ GE140.out) | exact HB.out))⟩)
                                              · skip
                                                refine box_step ?hg (N := 5) ?hd (cs := #[.int .i64 0, .int .i64 0, .int .u64 0, .int .u64 0, .int .i64 0, .slice none 0 0]) (t := 29) ?hr ?_; (case hd => rfl); (case hg => rfl); (case hr => first | (go_simp; done) | (go_simp; rfl))
                                                intro gb153 hg w36 hbox hb
                                                have n0_ := Aside0.mk (blk_below (g := gb140) (o := .cells #[.int .i64 0, .int .i64 0, .int .u64 0, .int .u64 0, .int .i64 0, .slice none 0 0] 29 (0, 0)) (by (with_reducible repeat (first | refine blk_drewN ?_ _ | refine blk_drew ?_ | refine blk_alloc ?_ _)); exact BK140.out) hb)
                                                have n1_ := Aside0.mk (below_step (by repeat (first | (with_reducible first | exact HB.out | apply below_alloc | apply pw_below_drewN | apply below_drew1 | refine below_set ?_ GE140.out) | exact HB.out)) hb)
                                                have n2_ := Aside0.mk (hbox)
                                                have n3_ := Aside0.mk ((by rw [hg]; exact (below_size (by repeat (first | (with_reducible first | exact HB.out | apply below_alloc | apply pw_below_drewN | apply below_drew1 | refine below_set ?_ GE140.out) | exact HB.out))) : w.heap.size ≤ gb153))
                                                have n4_ := Aside0.mk ((by rw [hg]; exact (below_size (by repeat (first | (with_reducible first | exact HB.out | apply below_alloc | apply pw_below_drewN | apply below_drew1 | refine below_set ?_ GE140.out) | exact HB.out))) : w.heap.size ≤ gb153))
                                                have n5_ := Aside0.mk ((by rw [hg]; exact Nat.ne_of_lt (blk_lt (g := gb140) (o := .cells #[.int .i64 0, .int .i64 0, .int .u64 0, .int .u64 0, .int .i64 0, .slice none 0 0] 29 (0, 0)) (by (with_reducible repeat (first | refine blk_drewN ?_ _ | refine blk_drew ?_ | refine blk_alloc ?_ _)); exact BK140.out)) : gb140 ≠ gb153))
                                                have n6_ := Aside0.mk ((by rw [hg]; exact Nat.ne_of_gt (blk_lt (g := gb140) (o := .cells #[.int .i64 0, .int .i64 0, .int .u64 0, .int .u64 0, .int .i64 0, .slice none 0 0] 29 (0, 0)) (by (with_reducible repeat (first | refine blk_drewN ?_ _ | refine blk_drew ?_ | refine blk_alloc ?_ _)); exact BK140.out)) : gb153 ≠ gb140))
                                                clear BK140
                                                clear HB
                                                have BK140 := n0_
                                                have HB := n1_
                                                have BK153 := n2_
                                                have GW153 := n3_
                                                have GE153 := n4_
                                                have NB140_153 := n5_
                                                have NB153_140 := n6_
                                                clear n0_ n1_ n2_ n3_ n4_ n5_ n6_
                                                clear hb hbox hg
                                                refine hK.out _ _ trivial (fun hHeld => ?_)
                                                clear hK K
                                                refine norm_ (a' := ?_) ?_ ?_
                                                rotate_left
                                                · show Act.put _ (some 5) _ = _
                                                  simp only [Act.put, List.setIfInBounds_toArray, List.set_cons_zero, List.set_cons_succ, i64_w, i32_w]
                                                  rfl
                                                exact norm_ (by first | (simp only [putAll, Act.put, List.setIfInBounds_toArray, List.set_cons_zero, List.set_cons_succ]; done) | (simp only [putAll, Act.put, List.setIfInBounds_toArray, List.set_cons_zero, List.set_cons_succ]; rfl)) (hJ2_6_19 (gb153) _ ⟨(by (with_reducible repeat (first | refine blk_drewN ?_ _ | refine blk_drew ?_ | refine blk_alloc ?_ _)); exact BK140.out), (by (with_reducible repeat (first | refine blk_drewN ?_ _ | refine blk_drew ?_ | refine blk_alloc ?_ _)); exact BK153.out), GW153.out, GE153.out, NB140_153.out, NB153_140.out, (by repeat (first | (with_reducible first | exact HB.out | apply below_alloc | apply pw_below_drewN | apply below_drew1 | refine below_set ?_ GE140.out | refine below_set ?_ GE153.out) | exact HB.out))⟩)
                                          · skip
                                            rintro gb153 w36 ⟨h0_, h1_, h2_, h3_, h4_, h5_, h6_⟩
                                            have n0_ : Aside0 (w36.heap[gb140]? = some (.cells #[.int .i64 0, .int .i64 0, .int .u64 0, .int .u64 0, .int .i64 0, .slice none 0 0] 29 (0, 0))) := ⟨h0_⟩
                                            have n1_ : Aside0 (w36.heap[gb153]? = some (.cells #[.int .i64 0, .int .i64 0, .int .u64 0, .int .u64 0, .int .i64 0, .slice none 0 0] 29 (0, 0))) := ⟨h1_⟩
                                            have n2_ : Aside0 (w.heap.size ≤ gb153) := ⟨h2_⟩
                                            have n3_ : Aside0 (w.heap.size ≤ gb153) := ⟨h3_⟩
                                            have n4_ : Aside0 (gb140 ≠ gb153) := ⟨h4_⟩
                                            have n5_ : Aside0 (gb153 ≠ gb140) := ⟨h5_⟩
                                            have n6_ : Aside0 (Below w.heap.size w w36) := ⟨h6_⟩
                                            clear BK140
                                            clear HB
                                            clear h0_ h1_ h2_ h3_ h4_ h5_ h6_
                                            have BK140 := n0_
                                            have BK153 := n1_
                                            have GW153 := n2_
                                            have GE153 := n3_
                                            have NB140_153 := n4_
                                            have NB153_140 := n5_
                                            have HB := n6_
                                            clear n0_ n1_ n2_ n3_ n4_ n5_ n6_
                                            have hHeld := trivial
                                            refine norm_ (a' := ?_) ?_ ?_
                                            rotate_left
                                            · simp only [putAll, Act.put, List.setIfInBounds_toArray, List.set_cons_zero, List.set_cons_succ]
                                              rfl
                                            refine one_ (i := 10) (N := some 32) #[true, true, true, true, true, true, true, true, true, true, true, true, true, false, true, true, false, false, false, true, false] rfl rfl (one_of HT_.out (by kernel_rfl)) (by decide) (fun K hK => ?_)
                                            refine goes_ Try.func42 (by kernel_rfl) rfl #[.slice A32 ((l0.take 16).drop 8).length (c0 - 8)] (by rfl) rfl rfl (by (try simp only [List.map_toArray, List.map_cons, List.map_nil]); first | done | (rw [show ((l0.take 16).drop 8).length = (16 - 8) from (by rw [List.length_drop, List.length_take]; have h_ : (16 : Int) ≤ (l0.length : Int) := of_decide_eq_true (by first | (with_reducible assumption) | assumption); omega)] <;> rfl) | rfl | (simp only [List.length_drop, List.length_take]; rfl)) ?_
                                            with_reducible refine (ask_number.calls kj1 _ _ ((l0.take 16).drop 8) t148 _ ?side1 ?side2 A20.out).mono ?_
                                            (case side1 => repeat (first | exact (Kd.C_below HR147.out HB.out) | (with_reducible refine Kd.C_alloc ?_ _) | (with_reducible refine Kd.C_drewN ?_ _) | (with_reducible refine Kd.C_drew ?_)))
                                            (case side2 => exact HC147.out)
                                            rintro e w' ⟨rfl, ⟨nd, rfl⟩⟩
                                            refine ⟨_, rfl, ?_⟩
                                            refine hK.out _ _ trivial (fun hHeld => ?_)
                                            clear hK K
                                            refine norm_ (a' := ?_) ?_ ?_
                                            rotate_left
                                            · show Act.put _ (some 32) _ = _
                                              simp only [Act.put, List.setIfInBounds_toArray, List.set_cons_zero, List.set_cons_succ, i64_w, i32_w]
                                              rfl
                                            exact norm_ (by first | (simp only [putAll, Act.put, List.setIfInBounds_toArray, List.set_cons_zero, List.set_cons_succ]; done) | (simp only [putAll, Act.put, List.setIfInBounds_toArray, List.set_cons_zero, List.set_cons_succ]; rfl)) (hJ2_6_10_19 (gb153) _ ⟨(by (with_reducible repeat (first | refine blk_drewN ?_ _ | refine blk_drew ?_ | refine blk_alloc ?_ _)); exact BK140.out), (by (with_reducible repeat (first | refine blk_drewN ?_ _ | refine blk_drew ?_ | refine blk_alloc ?_ _)); exact BK153.out), GW153.out, GE153.out, NB140_153.out, NB153_140.out, (by repeat (first | (with_reducible first | exact HB.out | apply below_alloc | apply pw_below_drewN | apply below_drew1 | refine below_set ?_ GE140.out | refine below_set ?_ GE153.out) | exact HB.out))⟩)
                                        · skip
                                          rintro _ w35 ⟨h0_, h1_⟩
                                          have n0_ : Aside0 (w35.heap[gb140]? = some (.cells #[.int .i64 0, .int .i64 0, .int .u64 0, .int .u64 0, .int .i64 0, .slice none 0 0] 29 (0, 0))) := ⟨h0_⟩
                                          have n1_ : Aside0 (Below w.heap.size w w35) := ⟨h1_⟩
                                          clear BK140
                                          clear HB
                                          clear h0_ h1_
                                          have BK140 := n0_
                                          have HB := n1_
                                          clear n0_ n1_
                                          have hHeld := trivial
                                          refine norm_ (a' := ?_) ?_ ?_
                                          rotate_left
                                          · simp only [putAll, Act.put, List.setIfInBounds_toArray, List.set_cons_zero, List.set_cons_succ]
                                            rfl
                                          refine two_ (i := 13) (j := 19) (Ni := some 35) (Nj := some 5) #[true, true, true, true, true, true, true, true, true, true, true, true, true, true, true, true, false, false, false, false, false] #[true, true, true, true, true, true, true, true, true, true, true, true, true, false, true, true, false, false, false, true, false] rfl rfl rfl rfl (two_of HT_.out (by kernel_rfl)) (by decide) (by decide) (fun K hK => ?_) (fun K hK => ?_)
                                          · skip
                                            refine goes_ Try.func42 (by kernel_rfl) rfl #[.slice A33 ((l0.take 24).drop 16).length (c0 - 16)] (by rfl) rfl rfl (by (try simp only [List.map_toArray, List.map_cons, List.map_nil]); first | done | (rw [show ((l0.take 24).drop 16).length = (24 - 16) from (by rw [List.length_drop, List.length_take]; have h_ : (24 : Int) ≤ (l0.length : Int) := of_decide_eq_true (by first | (with_reducible assumption) | assumption); omega)] <;> rfl) | rfl | (simp only [List.length_drop, List.length_take]; rfl)) ?_
                                            with_reducible refine (ask_number.calls kj1 _ _ ((l0.take 24).drop 16) t150 _ ?side1 ?side2 A23.out).mono ?_
                                            (case side1 => repeat (first | exact (Kd.C_below HR149.out HB.out) | (with_reducible refine Kd.C_alloc ?_ _) | (with_reducible refine Kd.C_drewN ?_ _) | (with_reducible refine Kd.C_drew ?_)))
                                            (case side2 => exact HC149.out)
                                            rintro e w' ⟨rfl, ⟨nd, rfl⟩⟩
                                            refine ⟨_, rfl, ?_⟩
                                            refine hK.out _ _ trivial (fun hHeld => ?_)
                                            clear hK K
                                            refine norm_ (a' := ?_) ?_ ?_
                                            rotate_left
                                            · show Act.put _ (some 35) _ = _
                                              simp only [Act.put, List.setIfInBounds_toArray, List.set_cons_zero, List.set_cons_succ, i64_w, i32_w]
                                              rfl
                                            exact norm_ (by first | (simp only [putAll, Act.put, List.setIfInBounds_toArray, List.set_cons_zero, List.set_cons_succ]; done) | (simp only [putAll, Act.put, List.setIfInBounds_toArray, List.set_cons_zero, List.set_cons_succ]; rfl)) (hJ2_6_10_13 () _ ⟨(by (with_reducible repeat (first | refine blk_drewN ?_ _ | refine blk_drew ?_ | refine blk_alloc ?_ _)); exact BK140.out), (by repeat (first | (with_reducible first | exact HB.out | apply below_alloc | apply pw_below_drewN | apply below_drew1 | refine below_set ?_ GE140.out) | exact HB.out))⟩)
                                          · skip
                                            refine box_step ?hg (N := 5) ?hd (cs := #[.int .i64 0, .int .i64 0, .int .u64 0, .int .u64 0, .int .i64 0, .slice none 0 0]) (t := 29) ?hr ?_; (case hd => rfl); (case hg => rfl); (case hr => first | (go_simp; done) | (go_simp; rfl))
                                            intro gb153 hg w36 hbox hb
                                            have n0_ := Aside0.mk (blk_below (g := gb140) (o := .cells #[.int .i64 0, .int .i64 0, .int .u64 0, .int .u64 0, .int .i64 0, .slice none 0 0] 29 (0, 0)) (by (with_reducible repeat (first | refine blk_drewN ?_ _ | refine blk_drew ?_ | refine blk_alloc ?_ _)); exact BK140.out) hb)
                                            have n1_ := Aside0.mk (below_step (by repeat (first | (with_reducible first | exact HB.out | apply below_alloc | apply pw_below_drewN | apply below_drew1 | refine below_set ?_ GE140.out) | exact HB.out)) hb)
                                            have n2_ := Aside0.mk (hbox)
                                            have n3_ := Aside0.mk ((by rw [hg]; exact (below_size (by repeat (first | (with_reducible first | exact HB.out | apply below_alloc | apply pw_below_drewN | apply below_drew1 | refine below_set ?_ GE140.out) | exact HB.out))) : w.heap.size ≤ gb153))
                                            have n4_ := Aside0.mk ((by rw [hg]; exact (below_size (by repeat (first | (with_reducible first | exact HB.out | apply below_alloc | apply pw_below_drewN | apply below_drew1 | refine below_set ?_ GE140.out) | exact HB.out))) : w.heap.size ≤ gb153))
                                            have n5_ := Aside0.mk ((by rw [hg]; exact Nat.ne_of_lt (blk_lt (g := gb140) (o := .cells #[.int .i64 0, .int .i64 0, .int .u64 0, .int .u64 0, .int .i64 0, .slice none 0 0] 29 (0, 0)) (by (with_reducible repeat (first | refine blk_drewN ?_ _ | refine blk_drew ?_ | refine blk_alloc ?_ _)); exact BK140.out)) : gb140 ≠ gb153))
                                            have n6_ := Aside0.mk ((by rw [hg]; exact Nat.ne_of_gt (blk_lt (g := gb140) (o := .cells #[.int .i64 0, .int .i64 0, .int .u64 0, .int .u64 0, .int .i64 0, .slice none 0 0] 29 (0, 0)) (by (with_reducible repeat (first | refine blk_drewN ?_ _ | refine blk_drew ?_ | refine blk_alloc ?_ _)); exact BK140.out)) : gb153 ≠ gb140))
                                            clear BK140
                                            clear HB
                                            have BK140 := n0_
                                            have HB := n1_
                                            have BK153 := n2_
                                            have GW153 := n3_
                                            have GE153 := n4_
                                            have NB140_153 := n5_
                                            have NB153_140 := n6_
                                            clear n0_ n1_ n2_ n3_ n4_ n5_ n6_
                                            clear hb hbox hg
                                            refine hK.out _ _ trivial (fun hHeld => ?_)
                                            clear hK K
                                            refine norm_ (a' := ?_) ?_ ?_
                                            rotate_left
                                            · show Act.put _ (some 5) _ = _
                                              simp only [Act.put, List.setIfInBounds_toArray, List.set_cons_zero, List.set_cons_succ, i64_w, i32_w]
                                              rfl
                                            exact norm_ (by first | (simp only [putAll, Act.put, List.setIfInBounds_toArray, List.set_cons_zero, List.set_cons_succ]; done) | (simp only [putAll, Act.put, List.setIfInBounds_toArray, List.set_cons_zero, List.set_cons_succ]; rfl)) (hJ2_6_10_19 (gb153) _ ⟨(by (with_reducible repeat (first | refine blk_drewN ?_ _ | refine blk_drew ?_ | refine blk_alloc ?_ _)); exact BK140.out), (by (with_reducible repeat (first | refine blk_drewN ?_ _ | refine blk_drew ?_ | refine blk_alloc ?_ _)); exact BK153.out), GW153.out, GE153.out, NB140_153.out, NB153_140.out, (by repeat (first | (with_reducible first | exact HB.out | apply below_alloc | apply pw_below_drewN | apply below_drew1 | refine below_set ?_ GE140.out | refine below_set ?_ GE153.out) | exact HB.out))⟩)
                                      · skip
                                        rintro gb153 w36 ⟨h0_, h1_, h2_, h3_, h4_, h5_, h6_⟩
                                        have n0_ : Aside0 (w36.heap[gb140]? = some (.cells #[.int .i64 0, .int .i64 0, .int .u64 0, .int .u64 0, .int .i64 0, .slice none 0 0] 29 (0, 0))) := ⟨h0_⟩
                                        have n1_ : Aside0 (w36.heap[gb153]? = some (.cells #[.int .i64 0, .int .i64 0, .int .u64 0, .int .u64 0, .int .i64 0, .slice none 0 0] 29 (0, 0))) := ⟨h1_⟩
                                        have n2_ : Aside0 (w.heap.size ≤ gb153) := ⟨h2_⟩
                                        have n3_ : Aside0 (w.heap.size ≤ gb153) := ⟨h3_⟩
                                        have n4_ : Aside0 (gb140 ≠ gb153) := ⟨h4_⟩
                                        have n5_ : Aside0 (gb153 ≠ gb140) := ⟨h5_⟩
                                        have n6_ : Aside0 (Below w.heap.size w w36) := ⟨h6_⟩
                                        clear BK140
                                        clear HB
                                        clear h0_ h1_ h2_ h3_ h4_ h5_ h6_
                                        have BK140 := n0_
                                        have BK153 := n1_
                                        have GW153 := n2_
                                        have GE153 := n3_
                                        have NB140_153 := n4_
                                        have NB153_140 := n5_
                                        have HB := n6_
                                        clear n0_ n1_ n2_ n3_ n4_ n5_ n6_
                                        have hHeld := trivial
                                        refine norm_ (a' := ?_) ?_ ?_
                                        rotate_left
                                        · simp only [putAll, Act.put, List.setIfInBounds_toArray, List.set_cons_zero, List.set_cons_succ]
                                          rfl
                                        refine one_ (i := 13) (N := some 35) #[true, true, true, true, true, true, true, true, true, true, true, true, true, true, true, true, false, false, false, true, false] rfl rfl (one_of HT_.out (by kernel_rfl)) (by decide) (fun K hK => ?_)
                                        refine goes_ Try.func42 (by kernel_rfl) rfl #[.slice A33 ((l0.take 24).drop 16).length (c0 - 16)] (by rfl) rfl rfl (by (try simp only [List.map_toArray, List.map_cons, List.map_nil]); first | done | (rw [show ((l0.take 24).drop 16).length = (24 - 16) from (by rw [List.length_drop, List.length_take]; have h_ : (24 : Int) ≤ (l0.length : Int) := of_decide_eq_true (by first | (with_reducible assumption) | assumption); omega)] <;> rfl) | rfl | (simp only [List.length_drop, List.length_take]; rfl)) ?_
                                        with_reducible refine (ask_number.calls kj1 _ _ ((l0.take 24).drop 16) t150 _ ?side1 ?side2 A23.out).mono ?_
                                        (case side1 => repeat (first | exact (Kd.C_below HR149.out HB.out) | (with_reducible refine Kd.C_alloc ?_ _) | (with_reducible refine Kd.C_drewN ?_ _) | (with_reducible refine Kd.C_drew ?_)))
                                        (case side2 => exact HC149.out)
                                        rintro e w' ⟨rfl, ⟨nd, rfl⟩⟩
                                        refine ⟨_, rfl, ?_⟩
                                        refine hK.out _ _ trivial (fun hHeld => ?_)
                                        clear hK K
                                        refine norm_ (a' := ?_) ?_ ?_
                                        rotate_left
                                        · show Act.put _ (some 35) _ = _
                                          simp only [Act.put, List.setIfInBounds_toArray, List.set_cons_zero, List.set_cons_succ, i64_w, i32_w]
                                          rfl
                                        exact norm_ (by first | (simp only [putAll, Act.put, List.setIfInBounds_toArray, List.set_cons_zero, List.set_cons_succ]; done) | (simp only [putAll, Act.put, List.setIfInBounds_toArray, List.set_cons_zero, List.set_cons_succ]; rfl)) (hJ2_6_10_13_19 (gb153) _ ⟨(by (with_reducible repeat (first | refine blk_drewN ?_ _ | refine blk_drew ?_ | refine blk_alloc ?_ _)); exact BK140.out), (by (with_reducible repeat (first | refine blk_drewN ?_ _ | refine blk_drew ?_ | refine blk_alloc ?_ _)); exact BK153.out), GW153.out, GE153.out, NB140_153.out, NB153_140.out, (by repeat (first | (with_reducible first | exact HB.out | apply below_alloc | apply pw_below_drewN | apply below_drew1 | refine below_set ?_ GE140.out | refine below_set ?_ GE153.out) | exact HB.out))⟩)
                                    · skip
                                      rintro _ w35 ⟨h0_, h1_⟩
                                      have n0_ : Aside0 (w35.heap[gb140]? = some (.cells #[.int .i64 0, .int .i64 0, .int .u64 0, .int .u64 0, .int .i64 0, .slice none 0 0] 29 (0, 0))) := ⟨h0_⟩
                                      have n1_ : Aside0 (Below w.heap.size w w35) := ⟨h1_⟩
                                      clear BK140
                                      clear HB
                                      clear h0_ h1_
                                      have BK140 := n0_
                                      have HB := n1_
                                      clear n0_ n1_
                                      have hHeld := trivial
                                      refine norm_ (a' := ?_) ?_ ?_
                                      rotate_left
                                      · simp only [putAll, Act.put, List.setIfInBounds_toArray, List.set_cons_zero, List.set_cons_succ]
                                        rfl
                                      refine two_ (i := 16) (j := 19) (Ni := some 38) (Nj := some 5) #[true, true, true, true, true, true, true, true, true, true, true, true, true, true, true, true, true, false, false, false, false] #[true, true, true, true, true, true, true, true, true, true, true, true, true, true, true, true, false, false, false, true, false] rfl rfl rfl rfl (two_of HT_.out (by kernel_rfl)) (by decide) (by decide) (fun K hK => ?_) (fun K hK => ?_)
                                      · skip
                                        refine goes_ Try.func42 (by kernel_rfl) rfl #[.slice A34 ((l0.take 28).drop 24).length (c0 - 24)] (by rfl) rfl rfl (by (try simp only [List.map_toArray, List.map_cons, List.map_nil]); first | done | (rw [show ((l0.take 28).drop 24).length = (28 - 24) from (by rw [List.length_drop, List.length_take]; have h_ : (28 : Int) ≤ (l0.length : Int) := of_decide_eq_true (by first | (with_reducible assumption) | assumption); omega)] <;> rfl) | rfl | (simp only [List.length_drop, List.length_take]; rfl)) ?_
                                        with_reducible refine (ask_number.calls kj1 _ _ ((l0.take 28).drop 24) t152 _ ?side1 ?side2 A26.out).mono ?_
                                        (case side1 => repeat (first | exact (Kd.C_below HR151.out HB.out) | (with_reducible refine Kd.C_alloc ?_ _) | (with_reducible refine Kd.C_drewN ?_ _) | (with_reducible refine Kd.C_drew ?_)))
                                        (case side2 => exact HC151.out)
                                        rintro e w' ⟨rfl, ⟨nd, rfl⟩⟩
                                        refine ⟨_, rfl, ?_⟩
                                        refine hK.out _ _ trivial (fun hHeld => ?_)
                                        clear hK K
                                        refine norm_ (a' := ?_) ?_ ?_
                                        rotate_left
                                        · show Act.put _ (some 38) _ = _
                                          simp only [Act.put, List.setIfInBounds_toArray, List.set_cons_zero, List.set_cons_succ, i64_w, i32_w]
                                          rfl
                                        refine pure_ (i := 17) (N := some 39) (v := ?_) (a' := ?_) #[true, true, true, true, true, true, true, true, true, true, true, true, true, true, true, true, true, true, false, false, false] rfl rfl (any_of HT_.out (by kernel_rfl)) (fun _ _ _ h => h) (Or.inl ⟨by rfl, ?_⟩) ?_ ?_
                                        rotate_left
                                        · intro w'
                                          go_simp
                                          with_reducible rfl
                                        rotate_left
                                        · simp only [Act.put, List.setIfInBounds_toArray, List.set_cons_zero, List.set_cons_succ, i64_w, i32_w]
                                          rfl
                                        refine pure_ (i := 18) (N := some 40) (v := ?_) (a' := ?_) #[true, true, true, true, true, true, true, true, true, true, true, true, true, true, true, true, true, true, true, false, false] rfl rfl (any_of HT_.out (by kernel_rfl)) (fun _ _ _ h => h) (Or.inl ⟨by rfl, ?_⟩) ?_ ?_
                                        rotate_left
                                        · intro w'
                                          go_simp
                                          with_reducible rfl
                                        rotate_left
                                        · simp only [Act.put, List.setIfInBounds_toArray, List.set_cons_zero, List.set_cons_succ, i64_w, i32_w]
                                          rfl
                                        exact norm_ (by first | (simp only [putAll, Act.put, List.setIfInBounds_toArray, List.set_cons_zero, List.set_cons_succ]; done) | (simp only [putAll, Act.put, List.setIfInBounds_toArray, List.set_cons_zero, List.set_cons_succ]; rfl)) (hJ2_6_10_13_16 () _ ⟨(by (with_reducible repeat (first | refine blk_drewN ?_ _ | refine blk_drew ?_ | refine blk_alloc ?_ _)); exact BK140.out), (by repeat (first | (with_reducible first | exact HB.out | apply below_alloc | apply pw_below_drewN | apply below_drew1 | refine below_set ?_ GE140.out) | exact HB.out))⟩)
                                      · skip
                                        refine box_step ?hg (N := 5) ?hd (cs := #[.int .i64 0, .int .i64 0, .int .u64 0, .int .u64 0, .int .i64 0, .slice none 0 0]) (t := 29) ?hr ?_; (case hd => rfl); (case hg => rfl); (case hr => first | (go_simp; done) | (go_simp; rfl))
                                        intro gb153 hg w36 hbox hb
                                        have n0_ := Aside0.mk (blk_below (g := gb140) (o := .cells #[.int .i64 0, .int .i64 0, .int .u64 0, .int .u64 0, .int .i64 0, .slice none 0 0] 29 (0, 0)) (by (with_reducible repeat (first | refine blk_drewN ?_ _ | refine blk_drew ?_ | refine blk_alloc ?_ _)); exact BK140.out) hb)
                                        have n1_ := Aside0.mk (below_step (by repeat (first | (with_reducible first | exact HB.out | apply below_alloc | apply pw_below_drewN | apply below_drew1 | refine below_set ?_ GE140.out) | exact HB.out)) hb)
                                        have n2_ := Aside0.mk (hbox)
                                        have n3_ := Aside0.mk ((by rw [hg]; exact (below_size (by repeat (first | (with_reducible first | exact HB.out | apply below_alloc | apply pw_below_drewN | apply below_drew1 | refine below_set ?_ GE140.out) | exact HB.out))) : w.heap.size ≤ gb153))
                                        have n4_ := Aside0.mk ((by rw [hg]; exact (below_size (by repeat (first | (with_reducible first | exact HB.out | apply below_alloc | apply pw_below_drewN | apply below_drew1 | refine below_set ?_ GE140.out) | exact HB.out))) : w.heap.size ≤ gb153))
                                        have n5_ := Aside0.mk ((by rw [hg]; exact Nat.ne_of_lt (blk_lt (g := gb140) (o := .cells #[.int .i64 0, .int .i64 0, .int .u64 0, .int .u64 0, .int .i64 0, .slice none 0 0] 29 (0, 0)) (by (with_reducible repeat (first | refine blk_drewN ?_ _ | refine blk_drew ?_ | refine blk_alloc ?_ _)); exact BK140.out)) : gb140 ≠ gb153))
                                        have n6_ := Aside0.mk ((by rw [hg]; exact Nat.ne_of_gt (blk_lt (g := gb140) (o := .cells #[.int .i64 0, .int .i64 0, .int .u64 0, .int .u64 0, .int .i64 0, .slice none 0 0] 29 (0, 0)) (by (with_reducible repeat (first | refine blk_drewN ?_ _ | refine blk_drew ?_ | refine blk_alloc ?_ _)); exact BK140.out)) : gb153 ≠ gb140))
                                        clear BK140
                                        clear HB
                                        have BK140 := n0_
                                        have HB := n1_
                                        have BK153 := n2_
                                        have GW153 := n3_
                                        have GE153 := n4_
                                        have NB140_153 := n5_
                                        have NB153_140 := n6_
                                        clear n0_ n1_ n2_ n3_ n4_ n5_ n6_
                                        clear hb hbox hg
                                        refine hK.out _ _ trivial (fun hHeld => ?_)
                                        clear hK K
                                        refine norm_ (a' := ?_) ?_ ?_
                                        rotate_left
                                        · show Act.put _ (some 5) _ = _
                                          simp only [Act.put, List.setIfInBounds_toArray, List.set_cons_zero, List.set_cons_succ, i64_w, i32_w]
                                          rfl
                                        exact norm_ (by first | (simp only [putAll, Act.put, List.setIfInBounds_toArray, List.set_cons_zero, List.set_cons_succ]; done) | (simp only [putAll, Act.put, List.setIfInBounds_toArray, List.set_cons_zero, List.set_cons_succ]; rfl)) (hJ2_6_10_13_19 (gb153) _ ⟨(by (with_reducible repeat (first | refine blk_drewN ?_ _ | refine blk_drew ?_ | refine blk_alloc ?_ _)); exact BK140.out), (by (with_reducible repeat (first | refine blk_drewN ?_ _ | refine blk_drew ?_ | refine blk_alloc ?_ _)); exact BK153.out), GW153.out, GE153.out, NB140_153.out, NB153_140.out, (by repeat (first | (with_reducible first | exact HB.out | apply below_alloc | apply pw_below_drewN | apply below_drew1 | refine below_set ?_ GE140.out | refine below_set ?_ GE153.out) | exact HB.out))⟩)
                                  · skip
                                    rintro gb153 w36 ⟨h0_, h1_, h2_, h3_, h4_, h5_, h6_⟩
                                    have n0_ : Aside0 (w36.heap[gb140]? = some (.cells #[.int .i64 0, .int .i64 0, .int .u64 0, .int .u64 0, .int .i64 0, .slice none 0 0] 29 (0, 0))) := ⟨h0_⟩
                                    have n1_ : Aside0 (w36.heap[gb153]? = some (.cells #[.int .i64 0, .int .i64 0, .int .u64 0, .int .u64 0, .int .i64 0, .slice none 0 0] 29 (0, 0))) := ⟨h1_⟩
                                    have n2_ : Aside0 (w.heap.size ≤ gb153) := ⟨h2_⟩
                                    have n3_ : Aside0 (w.heap.size ≤ gb153) := ⟨h3_⟩
                                    have n4_ : Aside0 (gb140 ≠ gb153) := ⟨h4_⟩
                                    have n5_ : Aside0 (gb153 ≠ gb140) := ⟨h5_⟩
                                    have n6_ : Aside0 (Below w.heap.size w w36) := ⟨h6_⟩
                                    clear BK140
                                    clear HB
                                    clear h0_ h1_ h2_ h3_ h4_ h5_ h6_
                                    have BK140 := n0_
                                    have BK153 := n1_
                                    have GW153 := n2_
                                    have GE153 := n3_
                                    have NB140_153 := n4_
                                    have NB153_140 := n5_
                                    have HB := n6_
                                    clear n0_ n1_ n2_ n3_ n4_ n5_ n6_
                                    have hHeld := trivial
                                    refine norm_ (a' := ?_) ?_ ?_
                                    rotate_left
                                    · simp only [putAll, Act.put, List.setIfInBounds_toArray, List.set_cons_zero, List.set_cons_succ]
                                      rfl
                                    refine one_ (i := 16) (N := some 38) #[true, true, true, true, true, true, true, true, true, true, true, true, true, true, true, true, true, false, false, true, false] rfl rfl (one_of HT_.out (by kernel_rfl)) (by decide) (fun K hK => ?_)
                                    refine goes_ Try.func42 (by kernel_rfl) rfl #[.slice A34 ((l0.take 28).drop 24).length (c0 - 24)] (by rfl) rfl rfl (by (try simp only [List.map_toArray, List.map_cons, List.map_nil]); first | done | (rw [show ((l0.take 28).drop 24).length = (28 - 24) from (by rw [List.length_drop, List.length_take]; have h_ : (28 : Int) ≤ (l0.length : Int) := of_decide_eq_true (by first | (with_reducible assumption) | assumption); omega)] <;> rfl) | rfl | (simp only [List.length_drop, List.length_take]; rfl)) ?_
                                    with_reducible refine (ask_number.calls kj1 _ _ ((l0.take 28).drop 24) t152 _ ?side1 ?side2 A26.out).mono ?_
                                    (case side1 => repeat (first | exact (Kd.C_below HR151.out HB.out) | (with_reducible refine Kd.C_alloc ?_ _) | (with_reducible refine Kd.C_drewN ?_ _) | (with_reducible refine Kd.C_drew ?_)))
                                    (case side2 => exact HC151.out)
                                    rintro e w' ⟨rfl, ⟨nd, rfl⟩⟩
                                    refine ⟨_, rfl, ?_⟩
                                    refine hK.out _ _ trivial (fun hHeld => ?_)
                                    clear hK K
                                    refine norm_ (a' := ?_) ?_ ?_
                                    rotate_left
                                    · show Act.put _ (some 38) _ = _
                                      simp only [Act.put, List.setIfInBounds_toArray, List.set_cons_zero, List.set_cons_succ, i64_w, i32_w]
                                      rfl
                                    refine pure_ (i := 17) (N := some 39) (v := ?_) (a' := ?_) #[true, true, true, true, true, true, true, true, true, true, true, true, true, true, true, true, true, true, false, true, false] rfl rfl (any_of HT_.out (by kernel_rfl)) (fun _ _ _ h => h) (Or.inl ⟨by rfl, ?_⟩) ?_ ?_
                                    rotate_left
                                    · intro w'
                                      go_simp
                                      with_reducible rfl
                                    rotate_left
                                    · simp only [Act.put, List.setIfInBounds_toArray, List.set_cons_zero, List.set_cons_succ, i64_w, i32_w]
                                      rfl
                                    refine pure_ (i := 18) (N := some 40) (v := ?_) (a' := ?_) #[true, true, true, true, true, true, true, true, true, true, true, true, true, true, true, true, true, true, true, true, false] rfl rfl (any_of HT_.out (by kernel_rfl)) (fun _ _ _ h => h) (Or.inl ⟨by rfl, ?_⟩) ?_ ?_
                                    rotate_left
                                    · intro w'
                                      go_simp
                                      with_reducible rfl
                                    rotate_left
                                    · simp only [Act.put, List.setIfInBounds_toArray, List.set_cons_zero, List.set_cons_succ, i64_w, i32_w]
                                      rfl
                                    exact norm_ (by first | (simp only [putAll, Act.put, List.setIfInBounds_toArray, List.set_cons_zero, List.set_cons_succ]; done) | (simp only [putAll, Act.put, List.setIfInBounds_toArray, List.set_cons_zero, List.set_cons_succ]; rfl)) (hJ2_6_10_13_16_19 (gb153) _ ⟨(by (with_reducible repeat (first | refine blk_drewN ?_ _ | refine blk_drew ?_ | refine blk_alloc ?_ _)); exact BK140.out), (by (with_reducible repeat (first | refine blk_drewN ?_ _ | refine blk_drew ?_ | refine blk_alloc ?_ _)); exact BK153.out), GW153.out, GE153.out, NB140_153.out, NB153_140.out, (by repeat (first | (with_reducible first | exact HB.out | apply below_alloc | apply pw_below_drewN | apply below_drew1 | refine below_set ?_ GE140.out | refine below_set ?_ GE153.out) | exact HB.out))⟩)
                                · skip
                                  rintro _ w35 ⟨h0_, h1_⟩
                                  have n0_ : Aside0 (w35.heap[gb140]? = some (.cells #[.int .i64 0, .int .i64 0, .int .u64 0, .int .u64 0, .int .i64 0, .slice none 0 0] 29 (0, 0))) := ⟨h0_⟩
                                  have n1_ : Aside0 (Below w.heap.size w w35) := ⟨h1_⟩
                                  clear BK140
                                  clear HB
                                  clear h0_ h1_
                                  have BK140 := n0_
                                  have HB := n1_
                                  clear n0_ n1_
                                  have hHeld := trivial
                                  refine norm_ (a' := ?_) ?_ ?_
                                  rotate_left
                                  · simp only [putAll, Act.put, List.setIfInBounds_toArray, List.set_cons_zero, List.set_cons_succ]
                                    rfl
                                  refine one_ (i := 19) (N := some 5) #[true, true, true, true, true, true, true, true, true, true, true, true, true, true, true, true, true, true, true, true, false] rfl rfl (one_of HT_.out (by kernel_rfl)) (by decide) (fun K hK => ?_)
                                  refine box_step ?hg (N := 5) ?hd (cs := #[.int .i64 0, .int .i64 0, .int .u64 0, .int .u64 0, .int .i64 0, .slice none 0 0]) (t := 29) ?hr ?_; (case hd => rfl); (case hg => rfl); (case hr => first | (go_simp; done) | (go_simp; rfl))
                                  intro gb153 hg w36 hbox hb
                                  have n0_ := Aside0.mk (blk_below (g := gb140) (o := .cells #[.int .i64 0, .int .i64 0, .int .u64 0, .int .u64 0, .int .i64 0, .slice none 0 0] 29 (0, 0)) (by (with_reducible repeat (first | refine blk_drewN ?_ _ | refine blk_drew ?_ | refine blk_alloc ?_ _)); exact BK140.out) hb)
                                  have n1_ := Aside0.mk (below_step (by repeat (first | (with_reducible first | exact HB.out | apply below_alloc | apply pw_below_drewN | apply below_drew1 | refine below_set ?_ GE140.out) | exact HB.out)) hb)
                                  have n2_ := Aside0.mk (hbox)
                                  have n3_ := Aside0.mk ((by rw [hg]; exact (below_size (by repeat (first | (with_reducible first | exact HB.out | apply below_alloc | apply pw_below_drewN | apply below_drew1 | refine below_set ?_ GE140.out) | exact HB.out))) : w.heap.size ≤ gb153))
                                  have n4_ := Aside0.mk ((by rw [hg]; exact (below_size (by repeat (first | (with_reducible first | exact HB.out | apply below_alloc | apply pw_below_drewN | apply below_drew1 | refine below_set ?_ GE140.out) | exact HB.out))) : w.heap.size ≤ gb153))
                                  have n5_ := Aside0.mk ((by rw [hg]; exact Nat.ne_of_lt (blk_lt (g := gb140) (o := .cells #[.int .i64 0, .int .i64 0, .int .u64 0, .int .u64 0, .int .i64 0, .slice none 0 0] 29 (0, 0)) (by (with_reducible repeat (first | refine blk_drewN ?_ _ | refine blk_drew ?_ | refine blk_alloc ?_ _)); exact BK140.out)) : gb140 ≠ gb153))
                                  have n6_ := Aside0.mk ((by rw [hg]; exact Nat.ne_of_gt (blk_lt (g := gb140) (o := .cells #[.int .i64 0, .int .i64 0, .int .u64 0, .int .u64 0, .int .i64 0, .slice none 0 0] 29 (0, 0)) (by (with_reducible repeat (first | refine blk_drewN ?_ _ | refine blk_drew ?_ | refine blk_alloc ?_ _)); exact BK140.out)) : gb153 ≠ gb140))
                                  clear BK140
                                  clear HB
                                  have BK140 := n0_
                                  have HB := n1_
                                  have BK153 := n2_
                                  have GW153 := n3_
                                  have GE153 := n4_
                                  have NB140_153 := n5_
                                  have NB153_140 := n6_
                                  clear n0_ n1_ n2_ n3_ n4_ n5_ n6_
                                  clear hb hbox hg
                                  refine hK.out _ _ trivial (fun hHeld => ?_)
                                  clear hK K
                                  refine norm_ (a' := ?_) ?_ ?_
                                  rotate_left
                                  · show Act.put _ (some 5) _ = _
                                    simp only [Act.put, List.setIfInBounds_toArray, List.set_cons_zero, List.set_cons_succ, i64_w, i32_w]
                                    rfl
                                  exact norm_ (by first | (simp only [putAll, Act.put, List.setIfInBounds_toArray, List.set_cons_zero, List.set_cons_succ]; done) | (simp only [putAll, Act.put, List.setIfInBounds_toArray, List.set_cons_zero, List.set_cons_succ]; rfl)) (hJ2_6_10_13_16_19 (gb153) _ ⟨(by (with_reducible repeat (first | refine blk_drewN ?_ _ | refine blk_drew ?_ | refine blk_alloc ?_ _)); exact BK140.out), (by (with_reducible repeat (first | refine blk_drewN ?_ _ | refine blk_drew ?_ | refine blk_alloc ?_ _)); exact BK153.out), GW153.out, GE153.out, NB140_153.out, NB153_140.out, (by repeat (first | (with_reducible first | exact HB.out | apply below_alloc | apply pw_below_drewN | apply below_drew1 | refine below_set ?_ GE140.out | refine below_set ?_ GE153.out) | exact HB.out))⟩)
                              rintro gb153 w36 ⟨h0_, h1_, h2_, h3_, h4_, h5_, h6_⟩
                              have n0_ : Aside0 (w36.heap[gb140]? = some (.cells #[.int .i64 0, .int .i64 0, .int .u64 0, .int .u64 0, .int .i64 0, .slice none 0 0] 29 (0, 0))) := ⟨h0_⟩
                              have n1_ : Aside0 (w36.heap[gb153]? = some (.cells #[.int .i64 0, .int .i64 0, .int .u64 0, .int .u64 0, .int .i64 0, .slice none 0 0] 29 (0, 0))) := ⟨h1_⟩
                              have n2_ : Aside0 (w.heap.size ≤ gb153) := ⟨h2_⟩
                              have n3_ : Aside0 (w.heap.size ≤ gb153) := ⟨h3_⟩
                              have n4_ : Aside0 (gb140 ≠ gb153) := ⟨h4_⟩
                              have n5_ : Aside0 (gb153 ≠ gb140) := ⟨h5_⟩
                              have n6_ : Aside0 (Below w.heap.size w w36) := ⟨h6_⟩
                              clear BK140
                              clear HB
                              clear h0_ h1_ h2_ h3_ h4_ h5_ h6_
                              have BK140 := n0_
                              have BK153 := n1_
                              have GW153 := n2_
                              have GE153 := n3_
                              have NB140_153 := n4_
                              have NB153_140 := n5_
                              have HB := n6_
                              clear n0_ n1_ n2_ n3_ n4_ n5_ n6_
                              have hHeld := trivial
                              refine norm_ (a' := ?_) ?_ ?_
                              rotate_left
                              · simp only [putAll, Act.put, List.setIfInBounds_toArray, List.set_cons_zero, List.set_cons_succ]
                                rfl
                              refine one_ (i := 20) (N := none) #[true, true, true, true, true, true, true, true, true, true, true, true, true, true, true, true, true, true, true, true, true] rfl rfl (one_of HT_.out (by kernel_rfl)) (by decide) (fun K hK => ?_)
                              have hs37 : w36.cell? ⟨gb153, 0, none⟩ = some (.int .i64 0) := (blk_cell BK153.out 0).trans rfl
                              have hfs37 := blk_frozen BK153.out 0
                              have hns37_0 := NB140_153.out
                              have hms37_0 := NB153_140.out
                              have hs38 : w36.cell? ⟨gb153, 1, none⟩ = some (.int .i64 0) := (blk_cell BK153.out 1).trans rfl
                              have hfs38 := blk_frozen BK153.out 1
                              have hns38_0 := NB140_153.out
                              have hms38_0 := NB153_140.out
                              have hs39 : w36.cell? ⟨gb153, 2, none⟩ = some (.int .u64 0) := (blk_cell BK153.out 2).trans rfl
                              have hfs39 := blk_frozen BK153.out 2
                              have hns39_0 := NB140_153.out
                              have hms39_0 := NB153_140.out
                              have hs40 : w36.cell? ⟨gb153, 3, none⟩ = some (.int .u64 0) := (blk_cell BK153.out 3).trans rfl
                              have hfs40 := blk_frozen BK153.out 3
                              have hns40_0 := NB140_153.out
                              have hms40_0 := NB153_140.out
                              have hs41 : w36.cell? ⟨gb153, 4, none⟩ = some (.int .i64 0) := (blk_cell BK153.out 4).trans rfl
                              have hfs41 := blk_frozen BK153.out 4
                              have hns41_0 := NB140_153.out
                              have hms41_0 := NB153_140.out
                              have hs42 : w36.cell? ⟨gb153, 5, none⟩ = some (.slice none 0 0) := (blk_cell BK153.out 5).trans rfl
                              have hfs42 := blk_frozen BK153.out 5
                              have hns42_0 := NB140_153.out
                              have hms42_0 := NB153_140.out
                              refine skip_ (w1 := ?_) (by rfl) rfl ?_ ?_
                              rotate_left
                              · go_simp
                                rfl
                              refine hK.out _ _ trivial (fun hHeld => ?_)
                              clear hK K
                              refine done_ (done_of HT_.out (by kernel_rfl)) ?_
                              have hnb43 := NB153_140.out
                              have hnc43 := NB140_153.out
                              have hcz44_0 : w36.cell? ⟨gb153, 0, none⟩ = some (.int .i64 0) := (blk_cell BK153.out 0).trans rfl
                              have hcz44_1 : w36.cell? ⟨gb153, 1, none⟩ = some (.int .i64 0) := (blk_cell BK153.out 1).trans rfl
                              have hcz44_2 : w36.cell? ⟨gb153, 2, none⟩ = some (.int .u64 0) := (blk_cell BK153.out 2).trans rfl
                              have hcz44_3 : w36.cell? ⟨gb153, 3, none⟩ = some (.int .u64 0) := (blk_cell BK153.out 3).trans rfl
                              have hcz44_4 : w36.cell? ⟨gb153, 4, none⟩ = some (.int .i64 0) := (blk_cell BK153.out 4).trans rfl
                              have hcz44_5 : w36.cell? ⟨gb153, 5, none⟩ = some (.slice none 0 0) := (blk_cell BK153.out 5).trans rfl
                              have hfz44_0 := blk_frozen BK153.out 0
                              have hfz44_1 := blk_frozen BK153.out 1
                              have hfz44_2 := blk_frozen BK153.out 2
                              have hfz44_3 := blk_frozen BK153.out 3
                              have hfz44_4 := blk_frozen BK153.out 4
                              have hfz44_5 := blk_frozen BK153.out 5
                              by_cases c27 : (wrap64 (t146)) = 1
                              · rw [if_pos c27] at H
                                have c27b0 : ((wrap64 (t146)) == 1) = true := beq_iff_eq.mpr c27
                                have c27b1 : ((wrap64 (t146)) != 1) = false := bne_eq_false_iff_eq.mpr c27
                                clear c27
                                by_cases c28 : (wrap64 (t152)) > 32768
                                · rw [if_pos c28] at H
                                  have c28b0 : decide (32768 < (wrap64 (t152))) = true := decide_eq_true c28
                                  clear c28
                                  simp only [Option.some.injEq, Prod.mk.injEq] at H
                                  obtain ⟨rfl, rfl, rfl, rfl, rfl, rfl, rfl, rfl⟩ := H
                                  have hcz45_0 : w36.cell? ⟨gb140, 0, none⟩ = some (.int .i64 0) := (blk_cell BK140.out 0).trans rfl
                                  have hcz45_1 : w36.cell? ⟨gb140, 1, none⟩ = some (.int .i64 0) := (blk_cell BK140.out 1).trans rfl
                                  have hcz45_2 : w36.cell? ⟨gb140, 2, none⟩ = some (.int .u64 0) := (blk_cell BK140.out 2).trans rfl
                                  have hcz45_3 : w36.cell? ⟨gb140, 3, none⟩ = some (.int .u64 0) := (blk_cell BK140.out 3).trans rfl
                                  have hcz45_4 : w36.cell? ⟨gb140, 4, none⟩ = some (.int .i64 0) := (blk_cell BK140.out 4).trans rfl
                                  have hcz45_5 : w36.cell? ⟨gb140, 5, none⟩ = some (.slice none 0 0) := (blk_cell BK140.out 5).trans rfl
                                  have hfz45_0 := blk_frozen BK140.out 0
                                  have hfz45_1 := blk_frozen BK140.out 1
                                  have hfz45_2 := blk_frozen BK140.out 2
                                  have hfz45_3 := blk_frozen BK140.out 3
                                  have hfz45_4 := blk_frozen BK140.out 4
                                  have hfz45_5 := blk_frozen BK140.out 5
                                  try go_wp2
                                  refine bodyPost_ret (results_ctt rfl _ _ gb140 29 #[.int .i64 0, .int .i64 0, .int .u64 0, .int .u64 0, .int .i64 0, .slice none 0 0] (0, 0) _ rfl (by (with_reducible repeat (first | refine blk_drewN ?_ _ | refine blk_drew ?_ | refine blk_alloc ?_ _)); refine blk_put (cs := #[.int .i64 0, .int .i64 0, .int .u64 0, .int .u64 0, .int .i64 0, .slice none 0 0]) ?_ 5 _ rfl; (with_reducible repeat (first | refine blk_drewN ?_ _ | refine blk_drew ?_ | refine blk_alloc ?_ _)); refine blk_put (cs := #[.int .i64 0, .int .i64 0, .int .u64 0, .int .u64 0, .int .i64 0, .slice none 0 0]) ?_ 4 _ rfl; (with_reducible repeat (first | refine blk_drewN ?_ _ | refine blk_drew ?_ | refine blk_alloc ?_ _)); refine blk_put (cs := #[.int .i64 0, .int .i64 0, .int .u64 0, .int .u64 0, .int .i64 0, .slice none 0 0]) ?_ 3 _ rfl; (with_reducible repeat (first | refine blk_drewN ?_ _ | refine blk_drew ?_ | refine blk_alloc ?_ _)); refine blk_put (cs := #[.int .i64 0, .int .i64 0, .int .u64 0, .int .u64 0, .int .i64 0, .slice none 0 0]) ?_ 2 _ rfl; (with_reducible repeat (first | refine blk_drewN ?_ _ | refine blk_drew ?_ | refine blk_alloc ?_ _)); refine blk_put (cs := #[.int .i64 0, .int .i64 0, .int .u64 0, .int .u64 0, .int .i64 0, .slice none 0 0]) ?_ 1 _ rfl; (with_reducible repeat (first | refine blk_drewN ?_ _ | refine blk_drew ?_ | refine blk_alloc ?_ _)); refine blk_put (cs := #[.int .i64 0, .int .i64 0, .int .u64 0, .int .u64 0, .int .i64 0, .slice none 0 0]) ?_ 0 _ rfl; (with_reducible repeat (first | refine blk_drewN ?_ _ | refine blk_drew ?_ | refine blk_alloc ?_ _)); refine blk_far ?_ NB140_153.out _; (with_reducible repeat (first | refine blk_drewN ?_ _ | refine blk_drew ?_ | refine blk_alloc ?_ _)); refine blk_far ?_ NB140_153.out _; (with_reducible repeat (first | refine blk_drewN ?_ _ | refine blk_drew ?_ | refine blk_alloc ?_ _)); refine blk_far ?_ NB140_153.out _; (with_reducible repeat (first | refine blk_drewN ?_ _ | refine blk_drew ?_ | refine blk_alloc ?_ _)); refine blk_far ?_ NB140_153.out _; (with_reducible repeat (first | refine blk_drewN ?_ _ | refine blk_drew ?_ | refine blk_alloc ?_ _)); refine blk_far ?_ NB140_153.out _; (with_reducible repeat (first | refine blk_drewN ?_ _ | refine blk_drew ?_ | refine blk_alloc ?_ _)); refine blk_far ?_ NB140_153.out _; (with_reducible repeat (first | refine blk_drewN ?_ _ | refine blk_drew ?_ | refine blk_alloc ?_ _)); exact BK140.out) Try.underlying29 rfl (by kernel_rfl)) rfl ?_
                                  exact ⟨_, by first | rfl | (simp [errW_none, errW_some] <;> rfl) | (simp [*, errW_none, errW_some] <;> rfl), by first | exact Kd.R_nil _ _ _ _ _ | exact Kd.N_nil _ _ _ _ _ | exact Kd.V_nil _ _ _ _ _ | exact Kd.Q_nil _ _ _ _ _ | exact Kd.S_nil _ _ _ _ _, by repeat (first | (with_reducible first | exact HB.out | apply below_alloc | apply pw_below_drewN | apply below_drew1 | refine below_set ?_ GE140.out | refine below_set ?_ GE153.out) | exact HB.out)⟩
                                · rw [if_neg c28] at H
                                  have c28b0 : decide (32768 < (wrap64 (t152))) = false := decide_eq_false c28
                                  clear c28
                                  by_cases c46 : (l0.length : Int) < (wrap64 (28 + (wrap64 (t152))))
                                  · rw [if_pos c46] at H
                                    have c46b0 : decide ((l0.length : Int) < (wrap64 (28 + (wrap64 (t152))))) = true := decide_eq_true c46
                                    clear c46
                                    simp only [Option.some.injEq, Prod.mk.injEq] at H
                                    obtain ⟨rfl, rfl, rfl, rfl, rfl, rfl, rfl, rfl⟩ := H
                                    have hcz45_0 : w36.cell? ⟨gb140, 0, none⟩ = some (.int .i64 0) := (blk_cell BK140.out 0).trans rfl
                                    have hcz63_1 : w36.cell? ⟨gb140, 1, none⟩ = some (.int .i64 0) := (blk_cell BK140.out 1).trans rfl
                                    have hcz63_2 : w36.cell? ⟨gb140, 2, none⟩ = some (.int .u64 0) := (blk_cell BK140.out 2).trans rfl
                                    have hcz63_3 : w36.cell? ⟨gb140, 3, none⟩ = some (.int .u64 0) := (blk_cell BK140.out 3).trans rfl
                                    have hcz63_4 : w36.cell? ⟨gb140, 4, none⟩ = some (.int .i64 0) := (blk_cell BK140.out 4).trans rfl
                                    have hcz63_5 : w36.cell? ⟨gb140, 5, none⟩ = some (.slice none 0 0) := (blk_cell BK140.out 5).trans rfl
                                    have hfz63_0 := blk_frozen BK140.out 0
                                    have hfz63_1 := blk_frozen BK140.out 1
                                    have hfz63_2 := blk_frozen BK140.out 2
                                    have hfz63_3 := blk_frozen BK140.out 3
                                    have hfz63_4 := blk_frozen BK140.out 4
                                    have hfz63_5 := blk_frozen BK140.out 5
                                    try go_wp2
                                    refine bodyPost_ret (results_ctt rfl _ _ gb140 29 #[.int .i64 0, .int .i64 0, .int .u64 0, .int .u64 0, .int .i64 0, .slice none 0 0] (0, 0) _ rfl (by (with_reducible repeat (first | refine blk_drewN ?_ _ | refine blk_drew ?_ | refine blk_alloc ?_ _)); refine blk_put (cs := #[.int .i64 0, .int .i64 0, .int .u64 0, .int .u64 0, .int .i64 0, .slice none 0 0]) ?_ 5 _ rfl; (with_reducible repeat (first | refine blk_drewN ?_ _ | refine blk_drew ?_ | refine blk_alloc ?_ _)); refine blk_put (cs := #[.int .i64 0, .int .i64 0, .int .u64 0, .int .u64 0, .int .i64 0, .slice none 0 0]) ?_ 4 _ rfl; (with_reducible repeat (first | refine blk_drewN ?_ _ | refine blk_drew ?_ | refine blk_alloc ?_ _)); refine blk_put (cs := #[.int .i64 0, .int .i64 0, .int .u64 0, .int .u64 0, .int .i64 0, .slice none 0 0]) ?_ 3 _ rfl; (with_reducible repeat (first | refine blk_drewN ?_ _ | refine blk_drew ?_ | refine blk_alloc ?_ _)); refine blk_put (cs := #[.int .i64 0, .int .i64 0, .int .u64 0, .int .u64 0, .int .i64 0, .slice none 0 0]) ?_ 2 _ rfl; (with_reducible repeat (first | refine blk_drewN ?_ _ | refine blk_drew ?_ | refine blk_alloc ?_ _)); refine blk_put (cs := #[.int .i64 0, .int .i64 0, .int .u64 0, .int .u64 0, .int .i64 0, .slice none 0 0]) ?_ 1 _ rfl; (with_reducible repeat (first | refine blk_drewN ?_ _ | refine blk_drew ?_ | refine blk_alloc ?_ _)); refine blk_put (cs := #[.int .i64 0, .int .i64 0, .int .u64 0, .int .u64 0, .int .i64 0, .slice none 0 0]) ?_ 0 _ rfl; (with_reducible repeat (first | refine blk_drewN ?_ _ | refine blk_drew ?_ | refine blk_alloc ?_ _)); refine blk_far ?_ NB140_153.out _; (with_reducible repeat (first | refine blk_drewN ?_ _ | refine blk_drew ?_ | refine blk_alloc ?_ _)); refine blk_far ?_ NB140_153.out _; (with_reducible repeat (first | refine blk_drewN ?_ _ | refine blk_drew ?_ | refine blk_alloc ?_ _)); refine blk_far ?_ NB140_153.out _; (with_reducible repeat (first | refine blk_drewN ?_ _ | refine blk_drew ?_ | refine blk_alloc ?_ _)); refine blk_far ?_ NB140_153.out _; (with_reducible repeat (first | refine blk_drewN ?_ _ | refine blk_drew ?_ | refine blk_alloc ?_ _)); refine blk_far ?_ NB140_153.out _; (with_reducible repeat (first | refine blk_drewN ?_ _ | refine blk_drew ?_ | refine blk_alloc ?_ _)); refine blk_far ?_ NB140_153.out _; (with_reducible repeat (first | refine blk_drewN ?_ _ | refine blk_drew ?_ | refine blk_alloc ?_ _)); exact BK140.out) Try.underlying29 rfl (by kernel_rfl)) rfl ?_
                                    exact ⟨_, by first | rfl | (simp [errW_none, errW_some] <;> rfl) | (simp [*, errW_none, errW_some] <;> rfl), by first | exact Kd.R_nil _ _ _ _ _ | exact Kd.N_nil _ _ _ _ _ | exact Kd.V_nil _ _ _ _ _ | exact Kd.Q_nil _ _ _ _ _ | exact Kd.S_nil _ _ _ _ _, by repeat (first | (with_reducible first | exact HB.out | apply below_alloc | apply pw_below_drewN | apply below_drew1 | refine below_set ?_ GE140.out | refine below_set ?_ GE153.out) | exact HB.out)⟩
                                  · rw [if_neg c46] at H
                                    have c46b0 : decide ((l0.length : Int) < (wrap64 (28 + (wrap64 (t152))))) = false := decide_eq_false c46
                                    clear c46
                                    by_cases c64 : 28 ≤ (wrap64 (28 + (wrap64 (t152))))
                                    · rw [if_pos c64] at H
                                      have c64b0 := eq_true c64
                                      have c64b1 : decide (28 ≤ (wrap64 (28 + (wrap64 (t152))))) = true := decide_eq_true c64
                                      by_cases c65 : (wrap64 (28 + (wrap64 (t152)))) ≤ (l0.length : Int)
                                      · rw [if_pos c65] at H
                                        have c65b0 := eq_true c65
                                        have c65b1 : decide ((wrap64 (28 + (wrap64 (t152)))) ≤ (l0.length : Int)) = true := decide_eq_true c65
                                        replace H := Option.bind_eq_some_iff.mp H
                                        obtain ⟨t155, A660, H⟩ := H
                                        replace H : (some (wrap64 (t144), wrap64 (t146), t148, t150, wrap64 (t152), t155, wrap64 (28 + (wrap64 (t152))), 0)) = some (r1, r2, r3, r4, r5, r6, r7, r8) := H
                                        have A66 := Aside0.mk A660
                                        clear A660
                                        simp only [Option.some.injEq, Prod.mk.injEq] at H
                                        obtain ⟨rfl, rfl, rfl, rfl, rfl, rfl, rfl, rfl⟩ := H
                                        obtain ⟨i083, hi083, _, hsz83, _⟩ := info_parts info5
                                        obtain ⟨A83, hcut83, hA83, hC83⟩ := print_mid_of (P := Try.prog) (Value.int .u8) 0 25 5 .i64 .i64 Try.underlying25 hi083 hsz83 A0 c0 l0 28 (wrap64 (28 + (wrap64 (t152)))) (by omega) (by first | omega | exact of_decide_eq_true (by first | (with_reducible assumption) | assumption)) (of_decide_eq_true (by first | (with_reducible assumption) | assumption)) HC0.out
                                        have HR154 := Aside0.mk (Kd.C_of_reads (h1 := fun _ => rfl) (hA83 _ (Kd.reads_of_C HR0.out)))
                                        have HC154 := Aside0.mk hC83
                                        clear hA83 hC83 hi083 hsz83
                                        try go_wp2_with (first | ((with_reducible refine gate_callee (f := 43) rfl ?_); refine goesL_ (some 63) rfl rfl Try.func43 (by kernel_rfl) rfl #[.slice A83 ((l0.take ((wrap64 (28 + (wrap64 (t152)))) : Int).toNat).drop 28).length (c0 - 28)] rfl (by (try simp only [List.map_toArray, List.map_cons, List.map_nil]); first | done | (rw [show ((l0.take ((wrap64 (28 + (wrap64 (t152)))) : Int).toNat).drop 28).length = ((wrap64 (28 + (wrap64 (t152)))).toNat - 28) from (by rw [List.length_drop, List.length_take]; have h_ : ((wrap64 (28 + (wrap64 (t152)))) : Int) ≤ (l0.length : Int) := of_decide_eq_true (by first | (with_reducible assumption) | assumption); omega)] <;> rfl) | rfl | (simp only [List.length_drop, List.length_take]; rfl)) ?_; (with_reducible refine (slices_Clone_byte_byte.calls _ _ ((l0.take ((wrap64 (28 + (wrap64 (t152)))) : Int).toNat).drop 28) t155 _ ?side1 ?side2 A66.out).mono ?_); (case side1 => exact Kd.C_below HR154.out (by repeat (first | (with_reducible first | exact HB.out | apply below_alloc | apply pw_below_drewN | apply below_drew1 | refine below_set ?_ GE140.out | refine below_set ?_ GE153.out) | exact HB.out))); (case side2 => exact HC154.out); rintro e w84 ⟨v156, rfl, ho0, hb⟩; refine ⟨_, rfl, ?_⟩; have n0_ := Aside0.mk (Kd.R_lower ho0 (below_size (by repeat (first | (with_reducible first | exact HB.out | apply below_alloc | apply pw_below_drewN | apply below_drew1 | refine below_set ?_ GE140.out | refine below_set ?_ GE153.out) | exact HB.out)))); have n1_ := Aside0.mk (blk_below (g := gb140) (o := .cells #[.int .i64 0, .int .i64 0, .int .u64 0, .int .u64 0, .int .i64 0, .slice none 0 0] 29 (0, 0)) (by (with_reducible repeat (first | refine blk_drewN ?_ _ | refine blk_drew ?_ | refine blk_alloc ?_ _)); refine blk_far ?_ NB140_153.out _; (with_reducible repeat (first | refine blk_drewN ?_ _ | refine blk_drew ?_ | refine blk_alloc ?_ _)); refine blk_far ?_ NB140_153.out _; (with_reducible repeat (first | refine blk_drewN ?_ _ | refine blk_drew ?_ | refine blk_alloc ?_ _)); refine blk_far ?_ NB140_153.out _; (with_reducible repeat (first | refine blk_drewN ?_ _ | refine blk_drew ?_ | refine blk_alloc ?_ _)); refine blk_far ?_ NB140_153.out _; (with_reducible repeat (first | refine blk_drewN ?_ _ | refine blk_drew ?_ | refine blk_alloc ?_ _)); refine blk_far ?_ NB140_153.out _; (with_reducible repeat (first | refine blk_drewN ?_ _ | refine blk_drew ?_ | refine blk_alloc ?_ _)); refine blk_far ?_ NB140_153.out _; (with_reducible repeat (first | refine blk_drewN ?_ _ | refine blk_drew ?_ | refine blk_alloc ?_ _)); exact BK140.out) hb); have n2_ := Aside0.mk (blk_below (g := gb153) (o := .cells #[.int .i64 (wrap64 (t144)), .int .i64 (wrap64 (t146)), .int .u64 t148, .int .u64 t150, .int .i64 (wrap64 (t152)), .slice none 0 0] 29 (0, 0)) (by (with_reducible repeat (first | refine blk_drewN ?_ _ | refine blk_drew ?_ | refine blk_alloc ?_ _)); refine blk_put (cs := #[.int .i64 (wrap64 (t144)), .int .i64 (wrap64 (t146)), .int .u64 t148, .int .u64 t150, .int .i64 (wrap64 (t152)), .slice none 0 0]) ?_ 5 _ rfl; (with_reducible repeat (first | refine blk_drewN ?_ _ | refine blk_drew ?_ | refine blk_alloc ?_ _)); refine blk_put (cs := #[.int .i64 (wrap64 (t144)), .int .i64 (wrap64 (t146)), .int .u64 t148, .int .u64 t150, .int .i64 0, .slice none 0 0]) ?_ 4 _ rfl; (with_reducible repeat (first | refine blk_drewN ?_ _ | refine blk_drew ?_ | refine blk_alloc ?_ _)); refine blk_put (cs := #[.int .i64 (wrap64 (t144)), .int .i64 (wrap64 (t146)), .int .u64 t148, .int .u64 0, .int .i64 0, .slice none 0 0]) ?_ 3 _ rfl; (with_reducible repeat (first | refine blk_drewN ?_ _ | refine blk_drew ?_ | refine blk_alloc ?_ _)); refine blk_put (cs := #[.int .i64 (wrap64 (t144)), .int .i64 (wrap64 (t146)), .int .u64 0, .int .u64 0, .int .i64 0, .slice none 0 0]) ?_ 2 _ rfl; (with_reducible repeat (first | refine blk_drewN ?_ _ | refine blk_drew ?_ | refine blk_alloc ?_ _)); refine blk_put (cs := #[.int .i64 (wrap64 (t144)), .int .i64 0, .int .u64 0, .int .u64 0, .int .i64 0, .slice none 0 0]) ?_ 1 _ rfl; (with_reducible repeat (first | refine blk_drewN ?_ _ | refine blk_drew ?_ | refine blk_alloc ?_ _)); refine blk_put (cs := #[.int .i64 0, .int .i64 0, .int .u64 0, .int .u64 0, .int .i64 0, .slice none 0 0]) ?_ 0 _ rfl; (with_reducible repeat (first | refine blk_drewN ?_ _ | refine blk_drew ?_ | refine blk_alloc ?_ _)); exact BK153.out) hb); have n3_ := Aside0.mk (below_step (by repeat (first | (with_reducible first | exact HB.out | apply below_alloc | apply pw_below_drewN | apply below_drew1 | refine below_set ?_ GE140.out | refine below_set ?_ GE153.out) | exact HB.out)) hb); clear BK140; clear BK153; clear HB; have HO157 := n0_; have BK140 := n1_; have BK153 := n2_; have HB := n3_; clear n0_ n1_ n2_ n3_; (try clear hb); (try clear hb2); (try clear hk); (try clear hi); (try clear ho0); obtain ⟨Ao85, co85, eo85⟩ := Kd.R_slice HO157.out; subst eo85; have hcz86_0 : w84.cell? ⟨gb153, 0, none⟩ = some (.int .i64 (wrap64 (t144))) := (blk_cell BK153.out 0).trans rfl; have hcz86_1 : w84.cell? ⟨gb153, 1, none⟩ = some (.int .i64 (wrap64 (t146))) := (blk_cell BK153.out 1).trans rfl; have hcz86_2 : w84.cell? ⟨gb153, 2, none⟩ = some (.int .u64 t148) := (blk_cell BK153.out 2).trans rfl; have hcz86_3 : w84.cell? ⟨gb153, 3, none⟩ = some (.int .u64 t150) := (blk_cell BK153.out 3).trans rfl; have hcz86_4 : w84.cell? ⟨gb153, 4, none⟩ = some (.int .i64 (wrap64 (t152))) := (blk_cell BK153.out 4).trans rfl; have hcz86_5 : w84.cell? ⟨gb153, 5, none⟩ = some (.slice none 0 0) := (blk_cell BK153.out 5).trans rfl; have hfz86_0 := blk_frozen BK153.out 0; have hfz86_1 := blk_frozen BK153.out 1; have hfz86_2 := blk_frozen BK153.out 2; have hfz86_3 := blk_frozen BK153.out 3; have hfz86_4 := blk_frozen BK153.out 4; have hfz86_5 := blk_frozen BK153.out 5))
                                        have n0_ : Aside0 (Kd.R (Kd.int .u8) 5 (w84.setCell ⟨gb153, 5, none⟩ (.slice Ao85 t155.length co85)) w.heap.size (fun _ => True) (.slice Ao85 t155.length co85) t155) := ⟨by (with_reducible repeat (first | apply Kd.R_alloc | apply Kd.R_drewN | apply Kd.R_drew)); exact Kd.R_mono (Kd.R_far (p := ⟨gb153, 5, none⟩) (Kd.R_types HO157.out BK153.out (by decide)) (fun _ hk => hk.2) (.slice Ao85 t155.length co85)) (fun _ hk => trivial)⟩
                                        have n1_ : Aside0 ((w84.setCell ⟨gb153, 5, none⟩ (.slice Ao85 t155.length co85)).heap[gb140]? = some (.cells #[.int .i64 0, .int .i64 0, .int .u64 0, .int .u64 0, .int .i64 0, .slice none 0 0] 29 (0, 0))) := ⟨by (with_reducible repeat (first | refine blk_drewN ?_ _ | refine blk_drew ?_ | refine blk_alloc ?_ _)); refine blk_far ?_ NB140_153.out _; (with_reducible repeat (first | refine blk_drewN ?_ _ | refine blk_drew ?_ | refine blk_alloc ?_ _)); exact BK140.out⟩
                                        have n2_ : Aside0 ((w84.setCell ⟨gb153, 5, none⟩ (.slice Ao85 t155.length co85)).heap[gb153]? = some (.cells #[.int .i64 (wrap64 (t144)), .int .i64 (wrap64 (t146)), .int .u64 t148, .int .u64 t150, .int .i64 (wrap64 (t152)), .slice Ao85 t155.length co85] 29 (0, 0))) := ⟨by (with_reducible repeat (first | refine blk_drewN ?_ _ | refine blk_drew ?_ | refine blk_alloc ?_ _)); refine blk_put (cs := #[.int .i64 (wrap64 (t144)), .int .i64 (wrap64 (t146)), .int .u64 t148, .int .u64 t150, .int .i64 (wrap64 (t152)), .slice none 0 0]) ?_ 5 _ rfl; (with_reducible repeat (first | refine blk_drewN ?_ _ | refine blk_drew ?_ | refine blk_alloc ?_ _)); exact BK153.out⟩
                                        have n3_ : Aside0 (Below w.heap.size w (w84.setCell ⟨gb153, 5, none⟩ (.slice Ao85 t155.length co85))) := ⟨by repeat (first | (with_reducible first | exact HB.out | apply below_alloc | apply pw_below_drewN | apply below_drew1 | refine below_set ?_ GE140.out | refine below_set ?_ GE153.out) | exact HB.out)⟩
                                        (try clear HO157)
                                        (try clear BK140)
                                        (try clear BK153)
                                        (try clear HB)
                                        generalize (w84.setCell ⟨gb153, 5, none⟩ (.slice Ao85 t155.length co85)) = w87 at n0_ n1_ n2_ n3_ ⊢
                                        have HO157 := n0_
                                        have BK140 := n1_
                                        have BK153 := n2_
                                        have HB := n3_
                                        clear n0_ n1_ n2_ n3_
                                        have n0_ := Aside0.mk (Kd.R_drew HO157.out)
                                        have n1_ := Aside0.mk (blk_drew BK140.out)
                                        have n2_ := Aside0.mk (blk_drew BK153.out)
                                        have n3_ := Aside0.mk (below_drew1 HB.out)
                                        clear HO157
                                        clear BK140
                                        clear BK153
                                        clear HB
                                        have HO157 := n0_
                                        have BK140 := n1_
                                        have BK153 := n2_
                                        have HB := n3_
                                        clear n0_ n1_ n2_ n3_
                                        refine start_ (n := 7) (S := fun w' => w'.cell? ⟨gb153, 0, none⟩ = some (.int .i64 (wrap64 (t144))) ∧ w'.cell? ⟨gb153, 1, none⟩ = some (.int .i64 (wrap64 (t146))) ∧ w'.cell? ⟨gb153, 2, none⟩ = some (.int .u64 t148) ∧ w'.cell? ⟨gb153, 3, none⟩ = some (.int .u64 t150) ∧ w'.cell? ⟨gb153, 4, none⟩ = some (.int .i64 (wrap64 (t152))) ∧ w'.cell? ⟨gb153, 5, none⟩ = some (.slice Ao85 t155.length co85)) (ds := []) #[false, false, false, false, false, false, false] (by kernel_rfl) rfl rfl ⟨(blk_cell BK153.out 0).trans rfl, (blk_cell BK153.out 1).trans rfl, (blk_cell BK153.out 2).trans rfl, (blk_cell BK153.out 3).trans rfl, (blk_cell BK153.out 4).trans rfl, (blk_cell BK153.out 5).trans rfl⟩ (fun hHeld => ?_)
                                        generalize w87.drew = w88 at HO157 BK140 BK153 HB hHeld ⊢
                                        refine pure_ (i := 1) (N := some 66) (v := ?_) (a' := ?_) #[false, true, false, false, false, false, false] rfl rfl (by kernel_rfl) (fun _ _ _ h => h) (Or.inl ⟨by rfl, ?_⟩) ?_ ?_
                                        rotate_left
                                        · intro w'
                                          go_simp
                                          with_reducible rfl
                                        rotate_left
                                        · simp only [Act.put, List.setIfInBounds_toArray, List.set_cons_zero, List.set_cons_succ, i64_w, i32_w]
                                          rfl
                                        refine take_ (i := 0) (N := some 65) (v := ?_) (a' := ?_) #[true, true, false, false, false, false, false] rfl rfl (by kernel_rfl) (fun _ _ _ h => h) (Or.inl ⟨by rfl, ?_⟩) hHeld ?_ ?_
                                        rotate_left
                                        · rintro w' ⟨s0, s1, s2, s3, s4, s5⟩
                                          go_simp
                                          with_reducible rfl
                                        rotate_left
                                        · simp only [Act.put, List.setIfInBounds_toArray, List.set_cons_zero, List.set_cons_succ, i64_w, i32_w]
                                          rfl
                                        refine take_ (i := 2) (N := some 67) (v := ?_) (a' := ?_) #[true, true, true, false, false, false, false] rfl rfl (by kernel_rfl) (fun _ _ _ h => h) (Or.inl ⟨by rfl, ?_⟩) hHeld ?_ ?_
                                        rotate_left
                                        · rintro w' ⟨s0, s1, s2, s3, s4, s5⟩
                                          go_simp
                                          with_reducible rfl
                                        rotate_left
                                        · simp only [Act.put, List.setIfInBounds_toArray, List.set_cons_zero, List.set_cons_succ, i64_w, i32_w]
                                          rfl
                                        refine pure_ (i := 3) (N := some 68) (v := ?_) (a' := ?_) #[true, true, true, true, false, false, false] rfl rfl (by kernel_rfl) (fun _ _ _ h => h) (Or.inl ⟨by rfl, ?_⟩) ?_ ?_
                                        rotate_left
                                        · intro w'
                                          go_simp
                                          with_reducible rfl
                                        rotate_left
                                        · simp only [Act.put, List.setIfInBounds_toArray, List.set_cons_zero, List.set_cons_succ, i64_w, i32_w]
                                          rfl
                                        refine one_ (i := 4) (N := none) #[true, true, true, true, true, false, false] rfl rfl (by kernel_rfl) (by decide) (fun K hK => ?_)
                                        have hs89 : w88.cell? ⟨gb140, 0, none⟩ = some (.int .i64 0) := (blk_cell BK140.out 0).trans rfl
                                        have hfs89 := blk_frozen BK140.out 0
                                        have hns89_1 := NB153_140.out
                                        have hms89_1 := NB140_153.out
                                        have hs90 : w88.cell? ⟨gb140, 1, none⟩ = some (.int .i64 0) := (blk_cell BK140.out 1).trans rfl
                                        have hfs90 := blk_frozen BK140.out 1
                                        have hns90_1 := NB153_140.out
                                        have hms90_1 := NB140_153.out
                                        have hs91 : w88.cell? ⟨gb140, 2, none⟩ = some (.int .u64 0) := (blk_cell BK140.out 2).trans rfl
                                        have hfs91 := blk_frozen BK140.out 2
                                        have hns91_1 := NB153_140.out
                                        have hms91_1 := NB140_153.out
                                        have hs92 : w88.cell? ⟨gb140, 3, none⟩ = some (.int .u64 0) := (blk_cell BK140.out 3).trans rfl
                                        have hfs92 := blk_frozen BK140.out 3
                                        have hns92_1 := NB153_140.out
                                        have hms92_1 := NB140_153.out
                                        have hs93 : w88.cell? ⟨gb140, 4, none⟩ = some (.int .i64 0) := (blk_cell BK140.out 4).trans rfl
                                        have hfs93 := blk_frozen BK140.out 4
                                        have hns93_1 := NB153_140.out
                                        have hms93_1 := NB140_153.out
                                        have hs94 : w88.cell? ⟨gb140, 5, none⟩ = some (.slice none 0 0) := (blk_cell BK140.out 5).trans rfl
                                        have hfs94 := blk_frozen BK140.out 5
                                        have hns94_1 := NB153_140.out
                                        have hms94_1 := NB140_153.out
                                        refine skip_ (w1 := ?_) (by rfl) rfl ?_ ?_
                                        rotate_left
                                        · go_simp
                                          rfl
                                        refine hK.out _ _ ⟨((cell_far (p := ⟨gb140, _, none⟩) NB153_140.out _).trans (((cell_far (p := ⟨gb140, _, none⟩) NB153_140.out _).trans (((cell_far (p := ⟨gb140, _, none⟩) NB153_140.out _).trans (((cell_far (p := ⟨gb140, _, none⟩) NB153_140.out _).trans (((cell_far (p := ⟨gb140, _, none⟩) NB153_140.out _).trans (((cell_far (p := ⟨gb140, _, none⟩) NB153_140.out _).trans (hHeld.1)))))))))))), ((cell_far (p := ⟨gb140, _, none⟩) NB153_140.out _).trans (((cell_far (p := ⟨gb140, _, none⟩) NB153_140.out _).trans (((cell_far (p := ⟨gb140, _, none⟩) NB153_140.out _).trans (((cell_far (p := ⟨gb140, _, none⟩) NB153_140.out _).trans (((cell_far (p := ⟨gb140, _, none⟩) NB153_140.out _).trans (((cell_far (p := ⟨gb140, _, none⟩) NB153_140.out _).trans (hHeld.2.1)))))))))))), ((cell_far (p := ⟨gb140, _, none⟩) NB153_140.out _).trans (((cell_far (p := ⟨gb140, _, none⟩) NB153_140.out _).trans (((cell_far (p := ⟨gb140, _, none⟩) NB153_140.out _).trans (((cell_far (p := ⟨gb140, _, none⟩) NB153_140.out _).trans (((cell_far (p := ⟨gb140, _, none⟩) NB153_140.out _).trans (((cell_far (p := ⟨gb140, _, none⟩) NB153_140.out _).trans (hHeld.2.2.1)))))))))))), ((cell_far (p := ⟨gb140, _, none⟩) NB153_140.out _).trans (((cell_far (p := ⟨gb140, _, none⟩) NB153_140.out _).trans (((cell_far (p := ⟨gb140, _, none⟩) NB153_140.out _).trans (((cell_far (p := ⟨gb140, _, none⟩) NB153_140.out _).trans (((cell_far (p := ⟨gb140, _, none⟩) NB153_140.out _).trans (((cell_far (p := ⟨gb140, _, none⟩) NB153_140.out _).trans (hHeld.2.2.2.1)))))))))))), ((cell_far (p := ⟨gb140, _, none⟩) NB153_140.out _).trans (((cell_far (p := ⟨gb140, _, none⟩) NB153_140.out _).trans (((cell_far (p := ⟨gb140, _, none⟩) NB153_140.out _).trans (((cell_far (p := ⟨gb140, _, none⟩) NB153_140.out _).trans (((cell_far (p := ⟨gb140, _, none⟩) NB153_140.out _).trans (((cell_far (p := ⟨gb140, _, none⟩) NB153_140.out _).trans (hHeld.2.2.2.2.1)))))))))))), ((cell_far (p := ⟨gb140, _, none⟩) NB153_140.out _).trans (((cell_far (p := ⟨gb140, _, none⟩) NB153_140.out _).trans (((cell_far (p := ⟨gb140, _, none⟩) NB153_140.out _).trans (((cell_far (p := ⟨gb140, _, none⟩) NB153_140.out _).trans (((cell_far (p := ⟨gb140, _, none⟩) NB153_140.out _).trans (((cell_far (p := ⟨gb140, _, none⟩) NB153_140.out _).trans (hHeld.2.2.2.2.2))))))))))))⟩ (fun hHeld => ?_)
                                        clear hK K
                                        refine pure_ (i := 5) (N := some 3) (v := ?_) (a' := ?_) #[true, true, true, true, true, true, false] rfl rfl (by kernel_rfl) (fun _ _ _ h => h) (Or.inl ⟨by rfl, ?_⟩) ?_ ?_
                                        rotate_left
                                        · intro w'
                                          go_simp
                                          with_reducible rfl
                                        rotate_left
                                        · simp only [Act.put, List.setIfInBounds_toArray, List.set_cons_zero, List.set_cons_succ, i64_w, i32_w]
                                          rfl
                                        refine pure_ (i := 6) (N := some 4) (v := ?_) (a' := ?_) #[true, true, true, true, true, true, true] rfl rfl (by kernel_rfl) (fun _ _ _ h => h) (Or.inl ⟨by rfl, ?_⟩) ?_ ?_
                                        rotate_left
                                        · intro w'
                                          go_simp
                                          with_reducible rfl
                                        rotate_left
                                        · simp only [Act.put, List.setIfInBounds_toArray, List.set_cons_zero, List.set_cons_succ, i64_w, i32_w]
                                          rfl
                                        refine done_ (by kernel_rfl) ?_
                                        try go_wp2
                                        refine bodyPost_ret (results_ctt rfl _ _ gb140 29 #[.int .i64 (wrap64 (t144)), .int .i64 (wrap64 (t146)), .int .u64 t148, .int .u64 t150, .int .i64 (wrap64 (t152)), .slice Ao85 t155.length co85] (0, 0) _ rfl (by (with_reducible repeat (first | refine blk_drewN ?_ _ | refine blk_drew ?_ | refine blk_alloc ?_ _)); refine blk_put (cs := #[.int .i64 (wrap64 (t144)), .int .i64 (wrap64 (t146)), .int .u64 t148, .int .u64 t150, .int .i64 (wrap64 (t152)), .slice none 0 0]) ?_ 5 _ rfl; (with_reducible repeat (first | refine blk_drewN ?_ _ | refine blk_drew ?_ | refine blk_alloc ?_ _)); refine blk_put (cs := #[.int .i64 (wrap64 (t144)), .int .i64 (wrap64 (t146)), .int .u64 t148, .int .u64 t150, .int .i64 0, .slice none 0 0]) ?_ 4 _ rfl; (with_reducible repeat (first | refine blk_drewN ?_ _ | refine blk_drew ?_ | refine blk_alloc ?_ _)); refine blk_put (cs := #[.int .i64 (wrap64 (t144)), .int .i64 (wrap64 (t146)), .int .u64 t148, .int .u64 0, .int .i64 0, .slice none 0 0]) ?_ 3 _ rfl; (with_reducible repeat (first | refine blk_drewN ?_ _ | refine blk_drew ?_ | refine blk_alloc ?_ _)); refine blk_put (cs := #[.int .i64 (wrap64 (t144)), .int .i64 (wrap64 (t146)), .int .u64 0, .int .u64 0, .int .i64 0, .slice none 0 0]) ?_ 2 _ rfl; (with_reducible repeat (first | refine blk_drewN ?_ _ | refine blk_drew ?_ | refine blk_alloc ?_ _)); refine blk_put (cs := #[.int .i64 (wrap64 (t144)), .int .i64 0, .int .u64 0, .int .u64 0, .int .i64 0, .slice none 0 0]) ?_ 1 _ rfl; (with_reducible repeat (first | refine blk_drewN ?_ _ | refine blk_drew ?_ | refine blk_alloc ?_ _)); refine blk_put (cs := #[.int .i64 0, .int .i64 0, .int .u64 0, .int .u64 0, .int .i64 0, .slice none 0 0]) ?_ 0 _ rfl; (with_reducible repeat (first | refine blk_drewN ?_ _ | refine blk_drew ?_ | refine blk_alloc ?_ _)); exact BK140.out) Try.underlying29 rfl (by kernel_rfl)) rfl ?_
                                        exact ⟨_, by first | rfl | (simp [errW_none, errW_some] <;> rfl) | (simp [*, errW_none, errW_some] <;> rfl), by (with_reducible repeat (first | apply Kd.R_alloc | apply Kd.R_drewN | apply Kd.R_drew)); exact Kd.R_mono (Kd.R_far (p := ⟨gb140, 5, none⟩) (Kd.R_far (p := ⟨gb140, 4, none⟩) (Kd.R_far (p := ⟨gb140, 3, none⟩) (Kd.R_far (p := ⟨gb140, 2, none⟩) (Kd.R_far (p := ⟨gb140, 1, none⟩) (Kd.R_far (p := ⟨gb140, 0, none⟩) (Kd.R_types HO157.out BK140.out (by decide)) (fun _ hk => hk.2) (.int .i64 (wrap64 (t144)))) (fun _ hk => hk.2) (.int .i64 (wrap64 (t146)))) (fun _ hk => hk.2) (.int .u64 t148)) (fun _ hk => hk.2) (.int .u64 t150)) (fun _ hk => hk.2) (.int .i64 (wrap64 (t152)))) (fun _ hk => hk.2) (.slice Ao85 t155.length co85)) (fun _ hk => trivial), by repeat (first | (with_reducible first | exact HB.out | apply below_alloc | apply pw_below_drewN | apply below_drew1 | refine below_set ?_ GE140.out | refine below_set ?_ GE153.out) | exact HB.out)⟩
                                      · rw [if_neg c65] at H
                                        exact absurd H (by simp)
                                    · rw [if_neg c64] at H
                                      exact absurd H (by simp)
                              · rw [if_neg c27] at H
                                have c27b0 : ((wrap64 (t146)) == 1) = false := beq_eq_false_iff_ne.mpr c27
                                have c27b1 : ((wrap64 (t146)) != 1) = true := bne_iff_ne.mpr c27
                                simp only [Option.some.injEq, Prod.mk.injEq] at H
                                obtain ⟨rfl, rfl, rfl, rfl, rfl, rfl, rfl, rfl⟩ := H
                                have hcz111_0 : w36.cell? ⟨gb140, 0, none⟩ = some (.int .i64 0) := (blk_cell BK140.out 0).trans rfl
                                have hcz111_1 : w36.cell? ⟨gb140, 1, none⟩ = some (.int .i64 0) := (blk_cell BK140.out 1).trans rfl
                                have hcz111_2 : w36.cell? ⟨gb140, 2, none⟩ = some (.int .u64 0) := (blk_cell BK140.out 2).trans rfl
                                have hcz111_3 : w36.cell? ⟨gb140, 3, none⟩ = some (.int .u64 0) := (blk_cell BK140.out 3).trans rfl
                                have hcz111_4 : w36.cell? ⟨gb140, 4, none⟩ = some (.int .i64 0) := (blk_cell BK140.out 4).trans rfl
                                have hcz111_5 : w36.cell? ⟨gb140, 5, none⟩ = some (.slice none 0 0) := (blk_cell BK140.out 5).trans rfl
                                have hfz111_0 := blk_frozen BK140.out 0
                                have hfz111_1 := blk_frozen BK140.out 1
                                have hfz111_2 := blk_frozen BK140.out 2
                                have hfz111_3 := blk_frozen BK140.out 3
                                have hfz111_4 := blk_frozen BK140.out 4
                                have hfz111_5 := blk_frozen BK140.out 5
                                try go_wp2
                                refine bodyPost_ret (results_ctt rfl _ _ gb140 29 #[.int .i64 (wrap64 (t144)), .int .i64 (wrap64 (t146)), .int .u64 t148, .int .u64 t150, .int .i64 (wrap64 (t152)), .slice none 0 0] (0, 0) _ rfl (by (with_reducible repeat (first | refine blk_drewN ?_ _ | refine blk_drew ?_ | refine blk_alloc ?_ _)); refine blk_put (cs := #[.int .i64 (wrap64 (t144)), .int .i64 (wrap64 (t146)), .int .u64 t148, .int .u64 t150, .int .i64 (wrap64 (t152)), .slice none 0 0]) ?_ 5 _ rfl; (with_reducible repeat (first | refine blk_drewN ?_ _ | refine blk_drew ?_ | refine blk_alloc ?_ _)); refine blk_put (cs := #[.int .i64 (wrap64 (t144)), .int .i64 (wrap64 (t146)), .int .u64 t148, .int .u64 t150, .int .i64 0, .slice none 0 0]) ?_ 4 _ rfl; (with_reducible repeat (first | refine blk_drewN ?_ _ | refine blk_drew ?_ | refine blk_alloc ?_ _)); refine blk_put (cs := #[.int .i64 (wrap64 (t144)), .int .i64 (wrap64 (t146)), .int .u64 t148, .int .u64 0, .int .i64 0, .slice none 0 0]) ?_ 3 _ rfl; (with_reducible repeat (first | refine blk_drewN ?_ _ | refine blk_drew ?_ | refine blk_alloc ?_ _)); refine blk_put (cs := #[.int .i64 (wrap64 (t144)), .int .i64 (wrap64 (t146)), .int .u64 0, .int .u64 0, .int .i64 0, .slice none 0 0]) ?_ 2 _ rfl; (with_reducible repeat (first | refine blk_drewN ?_ _ | refine blk_drew ?_ | refine blk_alloc ?_ _)); refine blk_put (cs := #[.int .i64 (wrap64 (t144)), .int .i64 0, .int .u64 0, .int .u64 0, .int .i64 0, .slice none 0 0]) ?_ 1 _ rfl; (with_reducible repeat (first | refine blk_drewN ?_ _ | refine blk_drew ?_ | refine blk_alloc ?_ _)); refine blk_put (cs := #[.int .i64 0, .int .i64 0, .int .u64 0, .int .u64 0, .int .i64 0, .slice none 0 0]) ?_ 0 _ rfl; (with_reducible repeat (first | refine blk_drewN ?_ _ | refine blk_drew ?_ | refine blk_alloc ?_ _)); refine blk_far ?_ NB140_153.out _; (with_reducible repeat (first | refine blk_drewN ?_ _ | refine blk_drew ?_ | refine blk_alloc ?_ _)); refine blk_far ?_ NB140_153.out _; (with_reducible repeat (first | refine blk_drewN ?_ _ | refine blk_drew ?_ | refine blk_alloc ?_ _)); refine blk_far ?_ NB140_153.out _; (with_reducible repeat (first | refine blk_drewN ?_ _ | refine blk_drew ?_ | refine blk_alloc ?_ _)); refine blk_far ?_ NB140_153.out _; (with_reducible repeat (first | refine blk_drewN ?_ _ | refine blk_drew ?_ | refine blk_alloc ?_ _)); refine blk_far ?_ NB140_153.out _; (with_reducible repeat (first | refine blk_drewN ?_ _ | refine blk_drew ?_ | refine blk_alloc ?_ _)); refine blk_far ?_ NB140_153.out _; (with_reducible repeat (first | refine blk_drewN ?_ _ | refine blk_drew ?_ | refine blk_alloc ?_ _)); exact BK140.out) Try.underlying29 rfl (by kernel_rfl)) rfl ?_
                                exact ⟨_, by first | rfl | (simp [errW_none, errW_some] <;> rfl) | (simp [*, errW_none, errW_some] <;> rfl), by first | exact Kd.R_nil _ _ _ _ _ | exact Kd.N_nil _ _ _ _ _ | exact Kd.V_nil _ _ _ _ _ | exact Kd.Q_nil _ _ _ _ _ | exact Kd.S_nil _ _ _ _ _, by repeat (first | (with_reducible first | exact HB.out | apply below_alloc | apply pw_below_drewN | apply below_drew1 | refine below_set ?_ GE140.out | refine below_set ?_ GE153.out) | exact HB.out)⟩
                            · rw [if_neg c25] at H
                              exact absurd H (by simp)
                          · rw [if_neg c24] at H
                            exact absurd H (by simp)
                        · rw [if_neg c22] at H
                          exact absurd H (by simp)
                      · rw [if_neg c21] at H
                        exact absurd H (by simp)
                    · rw [if_neg c19] at H
                      exact absurd H (by simp)
                  · rw [if_neg c18] at H
                    exact absurd H (by simp)
                · rw [if_neg c16] at H
                  exact absurd H (by simp)
              · rw [if_neg c15] at H
                exact absurd H (by simp)
            · rw [if_neg c13] at H
              exact absurd H (by simp)
          · rw [if_neg c12] at H
            exact absurd H (by simp)

end Go.Proofs.Ythpkhegoamhgeaa.PAskReplies
