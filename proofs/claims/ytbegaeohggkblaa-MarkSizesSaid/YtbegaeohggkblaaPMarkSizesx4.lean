-- Written by fk.py (a program of this session) over the kit's print: functions with a contract of our own among them.
import Derived.Test.YtbegaeohggkblaaPMarkSizesx0
import Derived.Test.YtbegaeohggkblaaPMarkSizesx1
import Derived.Test.YtbegaeohggkblaaPMarkSizesx3
namespace Go.Proofs.Ytbegaeohggkblaa.PMarkSizes
open Go.RowKit Go.Proofs.YtbegaeohggkblaaW.PrintWords Go.Proofs.YtbegaeohggkblaaW.PrintLast Go.Proofs.YtbegaeohggkblaaW.PrintMore
attribute [local go_sem] max2_int min2_int max_two min_two max_three min_three max_four min_four   -- for this text's walks alone
set_option linter.unusedVariables false
set_option linter.unusedSimpArgs false

set_option maxRecDepth 20000

/-! ### corbellaw6_MarkSizes: function 7 -/
mutual
def corbellaw6_MarkSizes.j0 : Nat → Int → Int → List Int → List Int → Int → Bool → Option (Bool)
  | 0, _, _, _, _, _, _ => none
  | k + 1, x0, x1, x7, x8, x9, x34 => if x34 = true then (some false) else (if x9 = 0 then (if (x8.length : Int) = 160 then (if 0 < (x8.length : Int) then (if (wrap64 (rd x8 0)) = x0 then (if 1 < (x8.length : Int) then (if 2 < (x8.length : Int) then (if (wrap64 ((wrap64 ((wrap64 (rd x8 1)) * 256)) + (wrap64 (rd x8 2)))) = x1 then (if 3 ≤ (wrap64 (3 + x1)) then (if (wrap64 (3 + x1)) ≤ (x8.length : Int) then (corbellaw6_MarkSizes.j1 k x1 x8 ((strOfNums ((x8.take ((wrap64 (3 + x1)) : Int).toNat).drop 3)).toList != (strOfNums x7).toList)) else (none)) else (none)) else (corbellaw6_MarkSizes.j1 k x1 x8 true)) else (none)) else (none)) else (corbellaw6_MarkSizes.j1 k x1 x8 true)) else (none)) else (corbellaw6_MarkSizes.j1 k x1 x8 true)) else (if x9 = 1 then (some ((x8.length : Int) == 0)) else (some false)))
def corbellaw6_MarkSizes.j1 : Nat → Int → List Int → Bool → Option (Bool)
  | 0, _, _, _ => none
  | k + 1, x1, x8, x78 => if x78 = true then (some false) else (if 0 ≤ (wrap64 (3 + x1)) then (if (wrap64 (3 + x1)) ≤ 156 then (if 156 ≤ (x8.length : Int) then ((some ((x8.take 156).drop ((wrap64 (3 + x1)) : Int).toNat : List Int)).bind fun y187 => (corbellaw6_MarkSizes.l0 k x8 y187 (y187.length : Int) 0)) else (none)) else (none)) else (none))
def corbellaw6_MarkSizes.l0 : Nat → List Int → List Int → Int → Int → Option (Bool)
  | 0, _, _, _, _ => none
  | k + 1, x8, x82, x83, x84 => if x84 < x83 then (if 0 ≤ x84 then (if x84 < (x82.length : Int) then (if (rd x82 x84) = 0 then (corbellaw6_MarkSizes.l0 k x8 x82 x83 (wrap64 (x84 + 1))) else (some false)) else (none)) else (none)) else (if 156 < (x8.length : Int) then (if 157 < (x8.length : Int) then (if 158 < (x8.length : Int) then (if 159 < (x8.length : Int) then (if 156 ≤ (x8.length : Int) then ((mark_Sum.f k (x8.take 156)).bind fun t200 => (some ((wrap64 ((wrap64 ((wrap64 ((wrap64 ((wrap64 (rd x8 156)) * 16777216)) + (wrap64 ((wrap64 (rd x8 157)) * 65536)))) + (wrap64 ((wrap64 (rd x8 158)) * 256)))) + (wrap64 (rd x8 159)))) == t200))) else (none)) else (none)) else (none)) else (none)) else (none))
end
def corbellaw6_MarkSizes.f (k : Nat) (a0 : Int) (a1 : Int) (a2 : Int) : Option (Bool) := (corbelhand_Pick.f a0 255).bind fun t170 => ((corbelhand_Pick.f a1 173).bind fun t171 => ((corbelhand_Bytes.f k a2 t171).bind fun t172 => ((mark_Seal.f k (wrap64 (1 + t170)) t172).bind fun bt175 => ((corbellaw6_known.f k).bind fun t179 => (if t179 = true then (corbellaw6_MarkSizes.j0 k (wrap64 (1 + t170)) t171 t172 bt175.1 bt175.2 ((bt175.2 == 0) != (decide (t171 ≤ 153)))) else (corbellaw6_MarkSizes.j0 k (wrap64 (1 + t170)) t171 t172 bt175.1 bt175.2 true))))))
set_option maxRecDepth 100000 in
theorem corbellaw6_MarkSizes.mono_l : ∀ k, (∀ y0 y1 y2 y3 y4 y5, LeO (corbellaw6_MarkSizes.j0 k y0 y1 y2 y3 y4 y5) (corbellaw6_MarkSizes.j0 (k + 1) y0 y1 y2 y3 y4 y5)) ∧ (∀ y0 y1 y2, LeO (corbellaw6_MarkSizes.j1 k y0 y1 y2) (corbellaw6_MarkSizes.j1 (k + 1) y0 y1 y2)) ∧ (∀ y0 y1 y2 y3, LeO (corbellaw6_MarkSizes.l0 k y0 y1 y2 y3) (corbellaw6_MarkSizes.l0 (k + 1) y0 y1 y2 y3))
  | 0 => ⟨fun _ _ _ _ _ _ r h => by simp [corbellaw6_MarkSizes.j0] at h, fun _ _ _ r h => by simp [corbellaw6_MarkSizes.j1] at h, fun _ _ _ _ r h => by simp [corbellaw6_MarkSizes.l0] at h⟩
  | k + 1 => by
    obtain ⟨ih0, ih1, ih2⟩ := corbellaw6_MarkSizes.mono_l k
    refine ⟨?_, ?_, ?_⟩
    · intro y0 y1 y2 y3 y4 y5
      unfold corbellaw6_MarkSizes.j0
      repeat' first
      | (with_reducible exact ih0 _ _ _ _ _ _)
      | (with_reducible exact ih1 _ _ _)
      | (with_reducible exact ih2 _ _ _ _)
      | (with_reducible exact corbelhand_Bytes.mono _ _ _)
      | (with_reducible exact corbellaw6_known.mono _)
      | (with_reducible exact mark_Seal.mono _ _ _)
      | (with_reducible exact mark_Sum.mono _ _)
      | (with_reducible exact LeO.refl _)
      | (with_reducible exact LeO.none _)
      | (with_reducible refine LeO.ite ?_ ?_)
      | (with_reducible refine LeO.bind ?_ (fun _ => ?_))
      | exact ih0 _ _ _ _ _ _
      | exact ih1 _ _ _
      | exact ih2 _ _ _ _
      | exact corbelhand_Bytes.mono _ _ _
      | exact corbellaw6_known.mono _
      | exact mark_Seal.mono _ _ _
      | exact mark_Sum.mono _ _
      | exact LeO.none _
      | refine LeO.ite ?_ ?_
      | refine LeO.bind ?_ (fun _ => ?_)
    · intro y0 y1 y2
      unfold corbellaw6_MarkSizes.j1
      repeat' first
      | (with_reducible exact ih0 _ _ _ _ _ _)
      | (with_reducible exact ih1 _ _ _)
      | (with_reducible exact ih2 _ _ _ _)
      | (with_reducible exact corbelhand_Bytes.mono _ _ _)
      | (with_reducible exact corbellaw6_known.mono _)
      | (with_reducible exact mark_Seal.mono _ _ _)
      | (with_reducible exact mark_Sum.mono _ _)
      | (with_reducible exact LeO.refl _)
      | (with_reducible exact LeO.none _)
      | (with_reducible refine LeO.ite ?_ ?_)
      | (with_reducible refine LeO.bind ?_ (fun _ => ?_))
      | exact ih0 _ _ _ _ _ _
      | exact ih1 _ _ _
      | exact ih2 _ _ _ _
      | exact corbelhand_Bytes.mono _ _ _
      | exact corbellaw6_known.mono _
      | exact mark_Seal.mono _ _ _
      | exact mark_Sum.mono _ _
      | exact LeO.none _
      | refine LeO.ite ?_ ?_
      | refine LeO.bind ?_ (fun _ => ?_)
    · intro y0 y1 y2 y3
      unfold corbellaw6_MarkSizes.l0
      repeat' first
      | (with_reducible exact ih0 _ _ _ _ _ _)
      | (with_reducible exact ih1 _ _ _)
      | (with_reducible exact ih2 _ _ _ _)
      | (with_reducible exact corbelhand_Bytes.mono _ _ _)
      | (with_reducible exact corbellaw6_known.mono _)
      | (with_reducible exact mark_Seal.mono _ _ _)
      | (with_reducible exact mark_Sum.mono _ _)
      | (with_reducible exact LeO.refl _)
      | (with_reducible exact LeO.none _)
      | (with_reducible refine LeO.ite ?_ ?_)
      | (with_reducible refine LeO.bind ?_ (fun _ => ?_))
      | exact ih0 _ _ _ _ _ _
      | exact ih1 _ _ _
      | exact ih2 _ _ _ _
      | exact corbelhand_Bytes.mono _ _ _
      | exact corbellaw6_known.mono _
      | exact mark_Seal.mono _ _ _
      | exact mark_Sum.mono _ _
      | exact LeO.none _
      | refine LeO.ite ?_ ?_
      | refine LeO.bind ?_ (fun _ => ?_)
theorem corbellaw6_MarkSizes.mono : ∀ a0 a1 a2 k, LeO (corbellaw6_MarkSizes.f k a0 a1 a2) (corbellaw6_MarkSizes.f (k + 1) a0 a1 a2) := by
  intro a0 a1 a2 k
  obtain ⟨ih0, ih1, ih2⟩ := corbellaw6_MarkSizes.mono_l k
  unfold corbellaw6_MarkSizes.f
  repeat' first
      | (with_reducible exact ih0 _ _ _ _ _ _)
      | (with_reducible exact ih1 _ _ _)
      | (with_reducible exact ih2 _ _ _ _)
      | (with_reducible exact corbelhand_Bytes.mono _ _ _)
      | (with_reducible exact corbellaw6_known.mono _)
      | (with_reducible exact mark_Seal.mono _ _ _)
      | (with_reducible exact mark_Sum.mono _ _)
      | (with_reducible exact LeO.refl _)
      | (with_reducible exact LeO.none _)
      | (with_reducible refine LeO.ite ?_ ?_)
      | (with_reducible refine LeO.bind ?_ (fun _ => ?_))
      | exact ih0 _ _ _ _ _ _
      | exact ih1 _ _ _
      | exact ih2 _ _ _ _
      | exact corbelhand_Bytes.mono _ _ _
      | exact corbellaw6_known.mono _
      | exact mark_Seal.mono _ _ _
      | exact mark_Sum.mono _ _
      | exact LeO.none _
      | refine LeO.ite ?_ ?_
      | refine LeO.bind ?_ (fun _ => ?_)
set_option maxHeartbeats 8000000 in
set_option maxRecDepth 100000 in
theorem corbellaw6_MarkSizes.calls (k : Nat) (a0 : Int) (a1 : Int) (a2 : Int) (r : Bool) (w : World) (hT_ : Aside0 (r = true)) (h : corbellaw6_MarkSizes.f k a0 a1 a2 = some r) :
    Calls Try.prog 7 #[.int .i64 a0, .int .i64 a1, .int .i64 a2] w fun e w' => e = .returned (.bool r) ∧ Below w.heap.size w w' := by
  have HB := Aside0.mk (Below.refl w.heap.size w)
  have H : ((corbelhand_Pick.f a0 255).bind fun t170 => ((corbelhand_Pick.f a1 173).bind fun t171 => ((corbelhand_Bytes.f k a2 t171).bind fun t172 => ((mark_Seal.f k (wrap64 (1 + t170)) t172).bind fun bt175 => ((corbellaw6_known.f k).bind fun t179 => (if t179 = true then (corbellaw6_MarkSizes.j0 k (wrap64 (1 + t170)) t171 t172 bt175.1 bt175.2 ((bt175.2 == 0) != (decide (t171 ≤ 153)))) else (corbellaw6_MarkSizes.j0 k (wrap64 (1 + t170)) t171 t172 bt175.1 bt175.2 true))))))) = some r := h
  clear h
  replace H := Option.bind_eq_some_iff.mp H
  obtain ⟨t170, A40, H⟩ := H
  replace H : ((corbelhand_Pick.f a1 173).bind fun t171 => ((corbelhand_Bytes.f k a2 t171).bind fun t172 => ((mark_Seal.f k (wrap64 (1 + t170)) t172).bind fun bt175 => ((corbellaw6_known.f k).bind fun t179 => (if t179 = true then (corbellaw6_MarkSizes.j0 k (wrap64 (1 + t170)) t171 t172 bt175.1 bt175.2 ((bt175.2 == 0) != (decide (t171 ≤ 153)))) else (corbellaw6_MarkSizes.j0 k (wrap64 (1 + t170)) t171 t172 bt175.1 bt175.2 true)))))) = some r := H
  have A4 := Aside0.mk A40
  clear A40
  replace H := Option.bind_eq_some_iff.mp H
  obtain ⟨t171, A50, H⟩ := H
  replace H : ((corbelhand_Bytes.f k a2 t171).bind fun t172 => ((mark_Seal.f k (wrap64 (1 + t170)) t172).bind fun bt175 => ((corbellaw6_known.f k).bind fun t179 => (if t179 = true then (corbellaw6_MarkSizes.j0 k (wrap64 (1 + t170)) t171 t172 bt175.1 bt175.2 ((bt175.2 == 0) != (decide (t171 ≤ 153)))) else (corbellaw6_MarkSizes.j0 k (wrap64 (1 + t170)) t171 t172 bt175.1 bt175.2 true))))) = some r := H
  have A5 := Aside0.mk A50
  clear A50
  replace H := Option.bind_eq_some_iff.mp H
  obtain ⟨t172, A60, H⟩ := H
  replace H : ((mark_Seal.f k (wrap64 (1 + t170)) t172).bind fun bt175 => ((corbellaw6_known.f k).bind fun t179 => (if t179 = true then (corbellaw6_MarkSizes.j0 k (wrap64 (1 + t170)) t171 t172 bt175.1 bt175.2 ((bt175.2 == 0) != (decide (t171 ≤ 153)))) else (corbellaw6_MarkSizes.j0 k (wrap64 (1 + t170)) t171 t172 bt175.1 bt175.2 true)))) = some r := H
  have A6 := Aside0.mk A60
  clear A60
  replace H := Option.bind_eq_some_iff.mp H
  obtain ⟨⟨t175, t176⟩, A70, H⟩ := H
  replace H : ((corbellaw6_known.f k).bind fun t179 => (if t179 = true then (corbellaw6_MarkSizes.j0 k (wrap64 (1 + t170)) t171 t172 t175 t176 ((t176 == 0) != (decide (t171 ≤ 153)))) else (corbellaw6_MarkSizes.j0 k (wrap64 (1 + t170)) t171 t172 t175 t176 true))) = some r := H
  have A7 := Aside0.mk A70
  clear A70
  have HC8 := Aside0.mk H
  clear H
  go_enter Try.func7, Try.ntmps7
  go_upto_region 5 with (first | (go_at_call 17; (with_reducible refine (corbelhand_Pick.calls a0 255 t170 _ A4.out).mono ?_); rintro e w' ⟨rfl, ⟨nd, rfl⟩⟩; (try first | exact ⟨rfl, _, World.drewN_drewN _ _ _⟩ | exact ⟨rfl, _, Eq.trans (World.drewN_drewN _ _ _) (congrArg (World.drewN _) (Nat.add_assoc _ _ _))⟩)) | (go_at_call 17; (with_reducible refine (corbelhand_Pick.calls a1 173 t171 _ A5.out).mono ?_); rintro e w' ⟨rfl, ⟨nd, rfl⟩⟩; (try first | exact ⟨rfl, _, World.drewN_drewN _ _ _⟩ | exact ⟨rfl, _, Eq.trans (World.drewN_drewN _ _ _) (congrArg (World.drewN _) (Nat.add_assoc _ _ _))⟩)) | (go_at_call 23; (with_reducible refine (corbelhand_Bytes.calls k a2 t171 t172 _ A6.out).mono ?_); rintro e w9 ⟨v173, rfl, ho0, hb⟩; have n0_ := Aside0.mk (Kd.R_lower ho0 (below_size (by repeat (first | (with_reducible first | exact HB.out | apply below_alloc | apply pw_below_drewN | apply below_drew1) | exact HB.out)))); have n1_ := Aside0.mk (below_step (by repeat (first | (with_reducible first | exact HB.out | apply below_alloc | apply pw_below_drewN | apply below_drew1) | exact HB.out)) hb); clear HB; have HO174 := n0_; have HB := n1_; clear n0_ n1_; (try clear hb); (try clear hb2); (try clear hk); (try clear hi); (try clear ho0); obtain ⟨Ao10, co10, eo10⟩ := Kd.R_slice HO174.out; subst eo10) | (go_at_call 14; (with_reducible refine (mark_Seal.calls k (wrap64 (1 + t170)) _ _ t172 t175 t176 _ ?side1 ?side2 A7.out).mono ?_); (case side1 => repeat (first | exact (Kd.R_reads' HO174.out).2.2 | (with_reducible refine Kd.C_alloc ?_ _) | (with_reducible refine Kd.C_drewN ?_ _) | (with_reducible refine Kd.C_drew ?_))); (case side2 => exact (Kd.R_reads' HO174.out).2.1); rintro e w11 ⟨v177, rfl, ho0, hb⟩; have n0_ := Aside0.mk (Kd.R_elder' (by (with_reducible repeat (first | apply Kd.R_alloc | apply Kd.R_drewN | apply Kd.R_drew)); exact HO174.out) (Kd.R_base ho0) hb); have n1_ := Aside0.mk (Kd.R_lower (Kd.R_new' ho0 (Kd.R_lt (by (with_reducible repeat (first | apply Kd.R_alloc | apply Kd.R_drewN | apply Kd.R_drew)); exact HO174.out))) (below_size (by repeat (first | (with_reducible first | exact HB.out | apply below_alloc | apply pw_below_drewN | apply below_drew1) | exact HB.out)))); have n2_ := Aside0.mk (below_step (by repeat (first | (with_reducible first | exact HB.out | apply below_alloc | apply pw_below_drewN | apply below_drew1) | exact HB.out)) hb); clear HO174; clear HB; have HO174 := n0_; have HO178 := n1_; have HB := n2_; clear n0_ n1_ n2_; (try clear hb); (try clear hb2); (try clear hk); (try clear hi); (try clear ho0)))
  repeat (go_quiet (first | (go_at_call 17; (with_reducible refine (corbelhand_Pick.calls a0 255 t170 _ A4.out).mono ?_); rintro e w' ⟨rfl, ⟨nd, rfl⟩⟩; (try first | exact ⟨rfl, _, World.drewN_drewN _ _ _⟩ | exact ⟨rfl, _, Eq.trans (World.drewN_drewN _ _ _) (congrArg (World.drewN _) (Nat.add_assoc _ _ _))⟩)) | (go_at_call 17; (with_reducible refine (corbelhand_Pick.calls a1 173 t171 _ A5.out).mono ?_); rintro e w' ⟨rfl, ⟨nd, rfl⟩⟩; (try first | exact ⟨rfl, _, World.drewN_drewN _ _ _⟩ | exact ⟨rfl, _, Eq.trans (World.drewN_drewN _ _ _) (congrArg (World.drewN _) (Nat.add_assoc _ _ _))⟩)) | (go_at_call 23; (with_reducible refine (corbelhand_Bytes.calls k a2 t171 t172 _ A6.out).mono ?_); rintro e w9 ⟨v173, rfl, ho0, hb⟩; have n0_ := Aside0.mk (Kd.R_lower ho0 (below_size (by repeat (first | (with_reducible first | exact HB.out | apply below_alloc | apply pw_below_drewN | apply below_drew1) | exact HB.out)))); have n1_ := Aside0.mk (below_step (by repeat (first | (with_reducible first | exact HB.out | apply below_alloc | apply pw_below_drewN | apply below_drew1) | exact HB.out)) hb); clear HB; have HO174 := n0_; have HB := n1_; clear n0_ n1_; (try clear hb); (try clear hb2); (try clear hk); (try clear hi); (try clear ho0); obtain ⟨Ao10, co10, eo10⟩ := Kd.R_slice HO174.out; subst eo10) | (go_at_call 14; (with_reducible refine (mark_Seal.calls k (wrap64 (1 + t170)) _ _ t172 t175 t176 _ ?side1 ?side2 A7.out).mono ?_); (case side1 => repeat (first | exact (Kd.R_reads' HO174.out).2.2 | (with_reducible refine Kd.C_alloc ?_ _) | (with_reducible refine Kd.C_drewN ?_ _) | (with_reducible refine Kd.C_drew ?_))); (case side2 => exact (Kd.R_reads' HO174.out).2.1); rintro e w11 ⟨v177, rfl, ho0, hb⟩; have n0_ := Aside0.mk (Kd.R_elder' (by (with_reducible repeat (first | apply Kd.R_alloc | apply Kd.R_drewN | apply Kd.R_drew)); exact HO174.out) (Kd.R_base ho0) hb); have n1_ := Aside0.mk (Kd.R_lower (Kd.R_new' ho0 (Kd.R_lt (by (with_reducible repeat (first | apply Kd.R_alloc | apply Kd.R_drewN | apply Kd.R_drew)); exact HO174.out))) (below_size (by repeat (first | (with_reducible first | exact HB.out | apply below_alloc | apply pw_below_drewN | apply below_drew1) | exact HB.out)))); have n2_ := Aside0.mk (below_step (by repeat (first | (with_reducible first | exact HB.out | apply below_alloc | apply pw_below_drewN | apply below_drew1) | exact HB.out)) hb); clear HO174; clear HB; have HO174 := n0_; have HO178 := n1_; have HB := n2_; clear n0_ n1_ n2_; (try clear hb); (try clear hb2); (try clear hk); (try clear hi); (try clear ho0))); go_upto_region 5 with (first | (go_at_call 17; (with_reducible refine (corbelhand_Pick.calls a0 255 t170 _ A4.out).mono ?_); rintro e w' ⟨rfl, ⟨nd, rfl⟩⟩; (try first | exact ⟨rfl, _, World.drewN_drewN _ _ _⟩ | exact ⟨rfl, _, Eq.trans (World.drewN_drewN _ _ _) (congrArg (World.drewN _) (Nat.add_assoc _ _ _))⟩)) | (go_at_call 17; (with_reducible refine (corbelhand_Pick.calls a1 173 t171 _ A5.out).mono ?_); rintro e w' ⟨rfl, ⟨nd, rfl⟩⟩; (try first | exact ⟨rfl, _, World.drewN_drewN _ _ _⟩ | exact ⟨rfl, _, Eq.trans (World.drewN_drewN _ _ _) (congrArg (World.drewN _) (Nat.add_assoc _ _ _))⟩)) | (go_at_call 23; (with_reducible refine (corbelhand_Bytes.calls k a2 t171 t172 _ A6.out).mono ?_); rintro e w9 ⟨v173, rfl, ho0, hb⟩; have n0_ := Aside0.mk (Kd.R_lower ho0 (below_size (by repeat (first | (with_reducible first | exact HB.out | apply below_alloc | apply pw_below_drewN | apply below_drew1) | exact HB.out)))); have n1_ := Aside0.mk (below_step (by repeat (first | (with_reducible first | exact HB.out | apply below_alloc | apply pw_below_drewN | apply below_drew1) | exact HB.out)) hb); clear HB; have HO174 := n0_; have HB := n1_; clear n0_ n1_; (try clear hb); (try clear hb2); (try clear hk); (try clear hi); (try clear ho0); obtain ⟨Ao10, co10, eo10⟩ := Kd.R_slice HO174.out; subst eo10) | (go_at_call 14; (with_reducible refine (mark_Seal.calls k (wrap64 (1 + t170)) _ _ t172 t175 t176 _ ?side1 ?side2 A7.out).mono ?_); (case side1 => repeat (first | exact (Kd.R_reads' HO174.out).2.2 | (with_reducible refine Kd.C_alloc ?_ _) | (with_reducible refine Kd.C_drewN ?_ _) | (with_reducible refine Kd.C_drew ?_))); (case side2 => exact (Kd.R_reads' HO174.out).2.1); rintro e w11 ⟨v177, rfl, ho0, hb⟩; have n0_ := Aside0.mk (Kd.R_elder' (by (with_reducible repeat (first | apply Kd.R_alloc | apply Kd.R_drewN | apply Kd.R_drew)); exact HO174.out) (Kd.R_base ho0) hb); have n1_ := Aside0.mk (Kd.R_lower (Kd.R_new' ho0 (Kd.R_lt (by (with_reducible repeat (first | apply Kd.R_alloc | apply Kd.R_drewN | apply Kd.R_drew)); exact HO174.out))) (below_size (by repeat (first | (with_reducible first | exact HB.out | apply below_alloc | apply pw_below_drewN | apply below_drew1) | exact HB.out)))); have n2_ := Aside0.mk (below_step (by repeat (first | (with_reducible first | exact HB.out | apply below_alloc | apply pw_below_drewN | apply below_drew1) | exact HB.out)) hb); clear HO174; clear HB; have HO174 := n0_; have HO178 := n1_; have HB := n2_; clear n0_ n1_ n2_; (try clear hb); (try clear hb2); (try clear hk); (try clear hi); (try clear ho0))))
  (try simp only [Act.put, List.setIfInBounds_toArray, List.set_cons_zero, List.set_cons_succ])
  go_cut [34] (fun v34 wc => ∃ (kq : Nat) (x34_7 : Bool), v34 = .bool x34_7 ∧ Aside0 (corbellaw6_MarkSizes.j0 kq (wrap64 (1 + t170)) t171 t172 t175 t176 x34_7 = some r) ∧ Aside0 (kq ≤ k) ∧ Aside0 (Kd.R (Kd.int .u8) 5 wc w.heap.size (fun k_ => some k_ ≠ (v177 : Value).ownBlock) (.slice Ao10 t172.length co10) t172) ∧ Aside0 (Kd.R (Kd.int .u8) 5 wc w.heap.size (fun k_ => some k_ ≠ ((.slice Ao10 t172.length co10) : Value).ownBlock) v177 t175) ∧ Aside0 (Below w.heap.size w wc))
  case first =>
    have H := HC8.out
    clear HC8
    replace H := Option.bind_eq_some_iff.mp H
    obtain ⟨t179, A120, H⟩ := H
    replace H : (if t179 = true then (corbellaw6_MarkSizes.j0 k (wrap64 (1 + t170)) t171 t172 t175 t176 ((t176 == 0) != (decide (t171 ≤ 153)))) else (corbellaw6_MarkSizes.j0 k (wrap64 (1 + t170)) t171 t172 t175 t176 true)) = some r := H
    have A12 := Aside0.mk A120
    clear A120
    by_cases c13 : t179 = true
    · subst c13
      have H1 : (corbellaw6_MarkSizes.j0 k (wrap64 (1 + t170)) t171 t172 t175 t176 ((t176 == 0) != (decide (t171 ≤ 153)))) = some r := by rw [if_pos rfl] at H; exact H
      clear H
      have H := H1
      clear H1
      have H' := Aside0.mk H
      clear H
      go_wp2_with (first | (go_at_call 15; (with_reducible refine (corbellaw6_known.calls k  true _ A12.out).mono ?_); rintro e w14 ⟨rfl, hb⟩; have n0_ := Aside0.mk (Kd.R_below (by (with_reducible repeat (first | apply Kd.R_alloc | apply Kd.R_drewN | apply Kd.R_drew)); exact HO174.out) hb); have n1_ := Aside0.mk (Kd.R_below (by (with_reducible repeat (first | apply Kd.R_alloc | apply Kd.R_drewN | apply Kd.R_drew)); exact HO178.out) hb); have n2_ := Aside0.mk (below_step (by repeat (first | (with_reducible first | exact HB.out | apply below_alloc | apply pw_below_drewN | apply below_drew1) | exact HB.out)) hb); clear HO174; clear HO178; clear HB; have HO174 := n0_; have HO178 := n1_; have HB := n2_; clear n0_ n1_ n2_; (try clear hb); (try clear hb2); (try clear hk); (try clear hi)))
      repeat (go_quiet (first | (go_at_call 15; (with_reducible refine (corbellaw6_known.calls k  true _ A12.out).mono ?_); rintro e w14 ⟨rfl, hb⟩; have n0_ := Aside0.mk (Kd.R_below (by (with_reducible repeat (first | apply Kd.R_alloc | apply Kd.R_drewN | apply Kd.R_drew)); exact HO174.out) hb); have n1_ := Aside0.mk (Kd.R_below (by (with_reducible repeat (first | apply Kd.R_alloc | apply Kd.R_drewN | apply Kd.R_drew)); exact HO178.out) hb); have n2_ := Aside0.mk (below_step (by repeat (first | (with_reducible first | exact HB.out | apply below_alloc | apply pw_below_drewN | apply below_drew1) | exact HB.out)) hb); clear HO174; clear HO178; clear HB; have HO174 := n0_; have HO178 := n1_; have HB := n2_; clear n0_ n1_ n2_; (try clear hb); (try clear hb2); (try clear hk); (try clear hi))); try go_wp2_with (first | (go_at_call 15; (with_reducible refine (corbellaw6_known.calls k  true _ A12.out).mono ?_); rintro e w14 ⟨rfl, hb⟩; have n0_ := Aside0.mk (Kd.R_below (by (with_reducible repeat (first | apply Kd.R_alloc | apply Kd.R_drewN | apply Kd.R_drew)); exact HO174.out) hb); have n1_ := Aside0.mk (Kd.R_below (by (with_reducible repeat (first | apply Kd.R_alloc | apply Kd.R_drewN | apply Kd.R_drew)); exact HO178.out) hb); have n2_ := Aside0.mk (below_step (by repeat (first | (with_reducible first | exact HB.out | apply below_alloc | apply pw_below_drewN | apply below_drew1) | exact HB.out)) hb); clear HO174; clear HO178; clear HB; have HO174 := n0_; have HO178 := n1_; have HB := n2_; clear n0_ n1_ n2_; (try clear hb); (try clear hb2); (try clear hk); (try clear hi))))
      go_meet
      case rel => exact ⟨_, (((t176 == 0) != (decide (t171 ≤ 153)))), (by first | rfl | (simp; done) | (simp [*]; done)), H', ⟨by first | omega | exact Nat.le_refl _⟩, ⟨by (with_reducible repeat (first | apply Kd.R_alloc | apply Kd.R_drewN | apply Kd.R_drew)); exact Kd.R_mono HO174.out (fun _ hk => hk.2)⟩, ⟨by (with_reducible repeat (first | apply Kd.R_alloc | apply Kd.R_drewN | apply Kd.R_drew)); exact Kd.R_mono HO178.out (fun _ hk => hk.2)⟩, ⟨by repeat (first | (with_reducible first | exact HB.out | apply below_alloc | apply pw_below_drewN | apply below_drew1) | exact HB.out)⟩⟩
    · replace c13 := Bool.eq_false_iff.mpr c13
      subst c13
      have H1 : (corbellaw6_MarkSizes.j0 k (wrap64 (1 + t170)) t171 t172 t175 t176 true) = some r := by rw [if_neg (show ¬ (false = true) by decide)] at H; exact H
      clear H
      have H := H1
      clear H1
      have H' := Aside0.mk H
      clear H
      go_wp2_with (first | (go_at_call 15; (with_reducible refine (corbellaw6_known.calls k  false _ A12.out).mono ?_); rintro e w15 ⟨rfl, hb⟩; have n0_ := Aside0.mk (Kd.R_below (by (with_reducible repeat (first | apply Kd.R_alloc | apply Kd.R_drewN | apply Kd.R_drew)); exact HO174.out) hb); have n1_ := Aside0.mk (Kd.R_below (by (with_reducible repeat (first | apply Kd.R_alloc | apply Kd.R_drewN | apply Kd.R_drew)); exact HO178.out) hb); have n2_ := Aside0.mk (below_step (by repeat (first | (with_reducible first | exact HB.out | apply below_alloc | apply pw_below_drewN | apply below_drew1) | exact HB.out)) hb); clear HO174; clear HO178; clear HB; have HO174 := n0_; have HO178 := n1_; have HB := n2_; clear n0_ n1_ n2_; (try clear hb); (try clear hb2); (try clear hk); (try clear hi)))
      repeat (go_quiet (first | (go_at_call 15; (with_reducible refine (corbellaw6_known.calls k  false _ A12.out).mono ?_); rintro e w15 ⟨rfl, hb⟩; have n0_ := Aside0.mk (Kd.R_below (by (with_reducible repeat (first | apply Kd.R_alloc | apply Kd.R_drewN | apply Kd.R_drew)); exact HO174.out) hb); have n1_ := Aside0.mk (Kd.R_below (by (with_reducible repeat (first | apply Kd.R_alloc | apply Kd.R_drewN | apply Kd.R_drew)); exact HO178.out) hb); have n2_ := Aside0.mk (below_step (by repeat (first | (with_reducible first | exact HB.out | apply below_alloc | apply pw_below_drewN | apply below_drew1) | exact HB.out)) hb); clear HO174; clear HO178; clear HB; have HO174 := n0_; have HO178 := n1_; have HB := n2_; clear n0_ n1_ n2_; (try clear hb); (try clear hb2); (try clear hk); (try clear hi))); try go_wp2_with (first | (go_at_call 15; (with_reducible refine (corbellaw6_known.calls k  false _ A12.out).mono ?_); rintro e w15 ⟨rfl, hb⟩; have n0_ := Aside0.mk (Kd.R_below (by (with_reducible repeat (first | apply Kd.R_alloc | apply Kd.R_drewN | apply Kd.R_drew)); exact HO174.out) hb); have n1_ := Aside0.mk (Kd.R_below (by (with_reducible repeat (first | apply Kd.R_alloc | apply Kd.R_drewN | apply Kd.R_drew)); exact HO178.out) hb); have n2_ := Aside0.mk (below_step (by repeat (first | (with_reducible first | exact HB.out | apply below_alloc | apply pw_below_drewN | apply below_drew1) | exact HB.out)) hb); clear HO174; clear HO178; clear HB; have HO174 := n0_; have HO178 := n1_; have HB := n2_; clear n0_ n1_ n2_; (try clear hb); (try clear hb2); (try clear hk); (try clear hi))))
      go_meet
      case rel => exact ⟨_, (true), (by first | rfl | (simp; done) | (simp [*]; done)), H', ⟨by first | omega | exact Nat.le_refl _⟩, ⟨by (with_reducible repeat (first | apply Kd.R_alloc | apply Kd.R_drewN | apply Kd.R_drew)); exact Kd.R_mono HO174.out (fun _ hk => hk.2)⟩, ⟨by (with_reducible repeat (first | apply Kd.R_alloc | apply Kd.R_drewN | apply Kd.R_drew)); exact Kd.R_mono HO178.out (fun _ hk => hk.2)⟩, ⟨by repeat (first | (with_reducible first | exact HB.out | apply below_alloc | apply pw_below_drewN | apply below_drew1) | exact HB.out)⟩⟩
  case rest =>
    clear HC8
    try clear c1
    try clear p2
    try clear p6
    try clear c7
    try clear c13
    obtain ⟨kq, x34_7, rfl, HA, HJ7, HO_7, HO_8, HB⟩ := hcut
    cases kq with
    | zero => exact absurd HA.out (by simp [corbellaw6_MarkSizes.j0])
    | succ kj7 =>
      have H := HA.out
      clear HA
      simp only [corbellaw6_MarkSizes.j0] at H
      by_cases c16 : x34_7 = true
      · subst c16
        have H1 : (some false) = some r := by rw [if_pos rfl] at H; exact H
        clear H
        have H := H1
        clear H1
        exact absurd (Option.some.inj H) (by rw [hT_.out]; decide)
      · replace c16 := Bool.eq_false_iff.mpr c16
        subst c16
        have H1 : (if t176 = 0 then (if (t175.length : Int) = 160 then (if 0 < (t175.length : Int) then (if (wrap64 (rd t175 0)) = (wrap64 (1 + t170)) then (if 1 < (t175.length : Int) then (if 2 < (t175.length : Int) then (if (wrap64 ((wrap64 ((wrap64 (rd t175 1)) * 256)) + (wrap64 (rd t175 2)))) = t171 then (if 3 ≤ (wrap64 (3 + t171)) then (if (wrap64 (3 + t171)) ≤ (t175.length : Int) then (corbellaw6_MarkSizes.j1 kj7 t171 t175 ((strOfNums ((t175.take ((wrap64 (3 + t171)) : Int).toNat).drop 3)).toList != (strOfNums t172).toList)) else (none)) else (none)) else (corbellaw6_MarkSizes.j1 kj7 t171 t175 true)) else (none)) else (none)) else (corbellaw6_MarkSizes.j1 kj7 t171 t175 true)) else (none)) else (corbellaw6_MarkSizes.j1 kj7 t171 t175 true)) else (if t176 = 1 then (some ((t175.length : Int) == 0)) else (some false))) = some r := by rw [if_neg (show ¬ (false = true) by decide)] at H; exact H
        clear H
        have H := H1
        clear H1
        by_cases c17 : t176 = 0
        · rw [if_pos c17] at H
          have c17b0 : (t176 == 0) = true := beq_iff_eq.mpr c17
          have c17b1 : (t176 != 0) = false := bne_eq_false_iff_eq.mpr c17
          clear c17
          have HC18 := Aside0.mk H
          clear H
          go_upto_region 9 with (fail)
          repeat (go_quiet (fail); go_upto_region 9 with (fail))
          go_cut [78] (fun v78 wc => ∃ (kq : Nat) (x78_17 : Bool), v78 = .bool x78_17 ∧ Aside0 (corbellaw6_MarkSizes.j1 kq t171 t175 x78_17 = some r) ∧ Aside0 (kq ≤ kj7) ∧ Aside0 (Kd.R (Kd.int .u8) 5 wc w.heap.size (fun _ => True) v177 t175) ∧ Aside0 (Below w.heap.size w wc))
          case first =>
            have H := HC18.out
            clear HC18
            by_cases c19 : (t175.length : Int) = 160
            · rw [if_pos c19] at H
              have c19b0 : ((t175.length : Int) == 160) = true := beq_iff_eq.mpr c19
              have c19b1 : ((t175.length : Int) != 160) = false := bne_eq_false_iff_eq.mpr c19
              clear c19
              (first | rw [c19b0] | (simp only [i64_w, i32_w]; rw [c19b0]) | skip)
              by_cases c20 : 0 < (t175.length : Int)
              · rw [if_pos c20] at H
                have c20b0 : decide (0 < (t175.length : Int)) = true := decide_eq_true c20
                have c20b1 : decide (0 < t175.length) = true := decide_eq_true (by omega)
                clear c20
                by_cases c21 : (wrap64 (rd t175 0)) = (wrap64 (1 + t170))
                · rw [if_pos c21] at H
                  have c21b0 : ((wrap64 (rd t175 0)) == (wrap64 (1 + t170))) = true := beq_iff_eq.mpr c21
                  (try (have c21b0w_ := c21b0; simp only [← i64_w] at c21b0w_))
                  have c21b1 : ((wrap64 (rd t175 0)) != (wrap64 (1 + t170))) = false := bne_eq_false_iff_eq.mpr c21
                  (try (have c21b1w_ := c21b1; simp only [← i64_w] at c21b1w_))
                  clear c21
                  by_cases c22 : 1 < (t175.length : Int)
                  · rw [if_pos c22] at H
                    have c22b0 : decide (1 < (t175.length : Int)) = true := decide_eq_true c22
                    have c22b1 : decide (1 < t175.length) = true := decide_eq_true (by omega)
                    clear c22
                    by_cases c23 : 2 < (t175.length : Int)
                    · rw [if_pos c23] at H
                      have c23b0 : decide (2 < (t175.length : Int)) = true := decide_eq_true c23
                      have c23b1 : decide (2 < t175.length) = true := decide_eq_true (by omega)
                      clear c23
                      by_cases c24 : (wrap64 ((wrap64 ((wrap64 (rd t175 1)) * 256)) + (wrap64 (rd t175 2)))) = t171
                      · rw [if_pos c24] at H
                        have c24b0 : ((wrap64 ((wrap64 ((wrap64 (rd t175 1)) * 256)) + (wrap64 (rd t175 2)))) == t171) = true := beq_iff_eq.mpr c24
                        (try (have c24b0w_ := c24b0; simp only [← i64_w] at c24b0w_))
                        have c24b1 : ((wrap64 ((wrap64 ((wrap64 (rd t175 1)) * 256)) + (wrap64 (rd t175 2)))) != t171) = false := bne_eq_false_iff_eq.mpr c24
                        (try (have c24b1w_ := c24b1; simp only [← i64_w] at c24b1w_))
                        clear c24
                        by_cases c25 : 3 ≤ (wrap64 (3 + t171))
                        · rw [if_pos c25] at H
                          have c25b0 := eq_true c25
                          have c25b1 : decide (3 ≤ (wrap64 (3 + t171))) = true := decide_eq_true c25
                          (try (have c25b1w_ := c25b1; simp only [← i64_w] at c25b1w_))
                          by_cases c26 : (wrap64 (3 + t171)) ≤ (t175.length : Int)
                          · rw [if_pos c26] at H
                            have c26b0 := eq_true c26
                            have c26b1 : decide ((wrap64 (3 + t171)) ≤ (t175.length : Int)) = true := decide_eq_true c26
                            (try (have c26b1w_ := c26b1; simp only [← i64_w] at c26b1w_))
                            obtain ⟨y183, hy183⟩ : ∃ y_ : List Int, y_ = ((t175.take ((wrap64 (3 + t171)) : Int).toNat).drop 3) := ⟨_, rfl⟩
                            replace H : (corbellaw6_MarkSizes.j1 kj7 t171 t175 ((strOfNums y183).toList != (strOfNums t172).toList)) = some r := by first | (rw [hy183]; with_reducible exact H) | (have H2_ := (Option.bind_some _ _).symm.trans H; rw [hy183]; with_reducible exact H2_) | (have H2_ := (Option.bind_some _ _).symm.trans H; with_reducible exact H2_) | with_reducible exact H | (rw [hy183]; exact H) | exact H
                            have Ny183 := Aside0.mk hy183
                            clear hy183
                            have H' := Aside0.mk H
                            clear H
                            obtain ⟨Ao27, co27, eo27⟩ := Kd.R_slice HO_8.out
                            subst eo27
                            have p180 : 0 ≤ (0 : Int) := (by omega)
                            have q180 : 0 < (t175.length : Int) := of_decide_eq_true (by first | (with_reducible assumption) | assumption)
                            obtain ⟨ad180, e180, hx180_0⟩ := Kd.at_int (Kd.R_reads' HO_8.out).2.2 0 p180 q180
                            cases e180
                            have qi180 : (0 < t175.length) = True := eq_true (by omega)
                            (try rw [show ((0 : Int)).toNat = 0 from rfl] at hx180_0)
                            (try rw [Addr.add_zero'] at hx180_0)
                            replace p180 := eq_true p180
                            replace q180 := eq_true q180
                            have p181 : 0 ≤ (1 : Int) := (by omega)
                            have q181 : 1 < (t175.length : Int) := of_decide_eq_true (by first | (with_reducible assumption) | assumption)
                            obtain ⟨ad181, e181, hx181_0⟩ := Kd.at_int (Kd.R_reads' HO_8.out).2.2 1 p181 q181
                            obtain rfl : ad180 = ad181 := (by injection e181)
                            (try simp only [show (1 : Int).toNat = 1 from rfl, Nat.reduceMul, Nat.reduceEqDiff, Go.Addr.add, ↓reduceIte] at hx181_0)
                            have qi181 : (1 < t175.length) = True := eq_true (by omega)
                            (try rw [show ((1 : Int)).toNat = 1 from rfl] at hx181_0)
                            replace p181 := eq_true p181
                            replace q181 := eq_true q181
                            have p182 : 0 ≤ (2 : Int) := (by omega)
                            have q182 : 2 < (t175.length : Int) := of_decide_eq_true (by first | (with_reducible assumption) | assumption)
                            obtain ⟨ad182, e182, hx182_0⟩ := Kd.at_int (Kd.R_reads' HO_8.out).2.2 2 p182 q182
                            obtain rfl : ad180 = ad182 := (by injection e182)
                            (try simp only [show (2 : Int).toNat = 2 from rfl, Nat.reduceMul, Nat.reduceEqDiff, Go.Addr.add, ↓reduceIte] at hx182_0)
                            have qi182 : (2 < t175.length) = True := eq_true (by omega)
                            (try rw [show ((2 : Int)).toNat = 2 from rfl] at hx182_0)
                            replace p182 := eq_true p182
                            replace q182 := eq_true q182
                            have q28 : ((wrap64 (3 + t171)) : Int) ≤ ((t175.length : Int) : Int) := of_decide_eq_true (by first | (with_reducible assumption) | assumption)
                            obtain ⟨i028, hi028, _, hsz28, _⟩ := info_parts info5
                            have hroom28 : t175.length ≤ co27 := (Kd.R_reads' HO_8.out).2.1
                            have hC28 : Kd.C (Kd.int .u8) _ (some ad180) t175.length t175 := (Kd.R_reads' HO_8.out).2.2
                            have ql28 : (3 : Int) ≤ ((wrap64 (3 + t171)) : Int) := of_decide_eq_true (by first | (with_reducible assumption) | assumption)
                            have hcut28 := cut_mid (P := Try.prog) 22 5 .i64 .i64 Try.underlying22 hi028 1 hsz28 (some ad180) t175.length co27 3 (wrap64 (3 + t171)) (by omega) ql28 q28 hroom28
                            have hr28 := Kd.C_mid (lo := (3 : Int).toNat) (hi := ((wrap64 (3 + t171)) : Int).toNat) (c := co27) hC28 (by omega) (by omega) hroom28
                            obtain ⟨A28, hA28⟩ : ∃ A1, A1 = (if co27 = (3 : Int).toNat then (some ad180) else ((some ad180) : Option Addr).map (·.add ((3 : Int).toNat * 1))) := ⟨_, rfl⟩
                            obtain ⟨c28, hc28⟩ : ∃ c1, c1 = co27 - (3 : Int).toNat := ⟨_, rfl⟩
                            have hy28 : y183.length = ((wrap64 (3 + t171)) : Int).toNat - (3 : Int).toNat := (by rw [Ny183.out, List.length_drop, List.length_take] <;> omega)
                            rw [show ((t175).take ((wrap64 (3 + t171)) : Int).toNat).drop (3 : Int).toNat = y183 from Ny183.out.symm] at hr28
                            replace hr28 : Kd.C (Kd.int .u8) _ A28 y183.length y183 := (by rw [hA28]; exact hr28)
                            rw [← hy28, ← hA28, ← hc28] at hcut28
                            (try (have hcut28w_ := hcut28; simp only [← i64_w] at hcut28w_))
                            have HR186 := Aside0.mk hr28
                            have HC186 := Aside0.mk (show y183.length ≤ c28 from by rw [hy28, hc28]; exact Nat.sub_le_sub_right (Nat.le_trans (by omega) hroom28) _)
                            clear hr28 hC28 hroom28 hi028 hsz28 hc28
                            have KY28 := Aside0.mk hy28
                            have KA28 := Aside0.mk hA28
                            clear hy28 hA28
                            have KL28 := Aside0.mk (show ((wrap64 (3 + t171)) : Int).toNat ≤ t175.length from by omega)
                            have KM28 := Aside0.mk (show 3 ≤ ((wrap64 (3 + t171)) : Int).toNat from by omega)
                            replace q28 := eq_true q28
                            (try (have q28w_ := q28; simp only [← i64_w] at q28w_))
                            have hcv29 := Kd.C_string (P := Try.prog) (A := A28) (c := c28) Try.underlying22 Try.underlying5 Try.underlying9 (by repeat (first | (with_reducible exact HR186.out) | (with_reducible refine Kd.C_alloc ?_ _) | (with_reducible refine Kd.C_drewN ?_ _) | (with_reducible refine Kd.C_drew ?_) | exact HR186.out))
                            (try (have hcvd30 := fun (nq_ : Nat) => Kd.C_string (P := Try.prog) (A := A28) (c := c28) Try.underlying22 Try.underlying5 Try.underlying9 (Kd.C_drewN (w := wc) (by repeat (first | (with_reducible exact HR186.out) | (with_reducible refine Kd.C_alloc ?_ _) | (with_reducible refine Kd.C_drewN ?_ _) | (with_reducible refine Kd.C_drew ?_) | exact HR186.out)) nq_)))
                            have hcv31 := own_string (P := Try.prog) Try.underlying22 Try.underlying5 Try.underlying9 (Kd.own_of_R HO_7.out)
                            have hcvd32 := fun (nq_ : Nat) => own_string (P := Try.prog) Try.underlying22 Try.underlying5 Try.underlying9 (Kd.own_of_R (Kd.R_drewN HO_7.out nq_))
                            go_wp2
                            repeat (first | (go_quiet (fail); try go_wp2) | (simp only [← i64_w]; go_quiet (fail); (try simp only [i64_w]); try go_wp2))
                            go_meet
                            case rel => exact ⟨_, (((strOfNums y183).toList != (strOfNums t172).toList)), (by first | rfl | (simp; done) | (simp [*]; done)), H', ⟨by have := HJ7.out; first | omega | exact Nat.le_refl _⟩, ⟨by (with_reducible repeat (first | apply Kd.R_alloc | apply Kd.R_drewN | apply Kd.R_drew)); exact Kd.R_mono HO_8.out (fun _ hk => trivial)⟩, ⟨by repeat (first | (with_reducible first | exact HB.out | apply below_alloc | apply pw_below_drewN | apply below_drew1) | exact HB.out)⟩⟩
                          · rw [if_neg c26] at H
                            exact absurd H (by simp)
                        · rw [if_neg c25] at H
                          exact absurd H (by simp)
                      · rw [if_neg c24] at H
                        have c24b0 : ((wrap64 ((wrap64 ((wrap64 (rd t175 1)) * 256)) + (wrap64 (rd t175 2)))) == t171) = false := beq_eq_false_iff_ne.mpr c24
                        (try (have c24b0w_ := c24b0; simp only [← i64_w] at c24b0w_))
                        have c24b1 : ((wrap64 ((wrap64 ((wrap64 (rd t175 1)) * 256)) + (wrap64 (rd t175 2)))) != t171) = true := bne_iff_ne.mpr c24
                        (try (have c24b1w_ := c24b1; simp only [← i64_w] at c24b1w_))
                        have H' := Aside0.mk H
                        clear H
                        obtain ⟨Ao33, co33, eo33⟩ := Kd.R_slice HO_8.out
                        subst eo33
                        have p180 : 0 ≤ (0 : Int) := (by omega)
                        have q180 : 0 < (t175.length : Int) := of_decide_eq_true (by first | (with_reducible assumption) | assumption)
                        obtain ⟨ad180, e180, hx180_0⟩ := Kd.at_int (Kd.R_reads' HO_8.out).2.2 0 p180 q180
                        cases e180
                        have qi180 : (0 < t175.length) = True := eq_true (by omega)
                        (try rw [show ((0 : Int)).toNat = 0 from rfl] at hx180_0)
                        (try rw [Addr.add_zero'] at hx180_0)
                        replace p180 := eq_true p180
                        replace q180 := eq_true q180
                        have p181 : 0 ≤ (1 : Int) := (by omega)
                        have q181 : 1 < (t175.length : Int) := of_decide_eq_true (by first | (with_reducible assumption) | assumption)
                        obtain ⟨ad181, e181, hx181_0⟩ := Kd.at_int (Kd.R_reads' HO_8.out).2.2 1 p181 q181
                        obtain rfl : ad180 = ad181 := (by injection e181)
                        (try simp only [show (1 : Int).toNat = 1 from rfl, Nat.reduceMul, Nat.reduceEqDiff, Go.Addr.add, ↓reduceIte] at hx181_0)
                        have qi181 : (1 < t175.length) = True := eq_true (by omega)
                        (try rw [show ((1 : Int)).toNat = 1 from rfl] at hx181_0)
                        replace p181 := eq_true p181
                        replace q181 := eq_true q181
                        have p182 : 0 ≤ (2 : Int) := (by omega)
                        have q182 : 2 < (t175.length : Int) := of_decide_eq_true (by first | (with_reducible assumption) | assumption)
                        obtain ⟨ad182, e182, hx182_0⟩ := Kd.at_int (Kd.R_reads' HO_8.out).2.2 2 p182 q182
                        obtain rfl : ad180 = ad182 := (by injection e182)
                        (try simp only [show (2 : Int).toNat = 2 from rfl, Nat.reduceMul, Nat.reduceEqDiff, Go.Addr.add, ↓reduceIte] at hx182_0)
                        have qi182 : (2 < t175.length) = True := eq_true (by omega)
                        (try rw [show ((2 : Int)).toNat = 2 from rfl] at hx182_0)
                        replace p182 := eq_true p182
                        replace q182 := eq_true q182
                        go_wp2
                        repeat (first | (go_quiet (fail); try go_wp2) | (simp only [← i64_w]; go_quiet (fail); (try simp only [i64_w]); try go_wp2))
                        go_meet
                        case rel => exact ⟨_, (true), (by first | rfl | (simp; done) | (simp [*]; done)), H', ⟨by have := HJ7.out; first | omega | exact Nat.le_refl _⟩, ⟨by (with_reducible repeat (first | apply Kd.R_alloc | apply Kd.R_drewN | apply Kd.R_drew)); exact Kd.R_mono HO_8.out (fun _ hk => trivial)⟩, ⟨by repeat (first | (with_reducible first | exact HB.out | apply below_alloc | apply pw_below_drewN | apply below_drew1) | exact HB.out)⟩⟩
                    · rw [if_neg c23] at H
                      exact absurd H (by simp)
                  · rw [if_neg c22] at H
                    exact absurd H (by simp)
                · rw [if_neg c21] at H
                  have c21b0 : ((wrap64 (rd t175 0)) == (wrap64 (1 + t170))) = false := beq_eq_false_iff_ne.mpr c21
                  (try (have c21b0w_ := c21b0; simp only [← i64_w] at c21b0w_))
                  have c21b1 : ((wrap64 (rd t175 0)) != (wrap64 (1 + t170))) = true := bne_iff_ne.mpr c21
                  (try (have c21b1w_ := c21b1; simp only [← i64_w] at c21b1w_))
                  have H' := Aside0.mk H
                  clear H
                  obtain ⟨Ao34, co34, eo34⟩ := Kd.R_slice HO_8.out
                  subst eo34
                  have p180 : 0 ≤ (0 : Int) := (by omega)
                  have q180 : 0 < (t175.length : Int) := of_decide_eq_true (by first | (with_reducible assumption) | assumption)
                  obtain ⟨ad180, e180, hx180_0⟩ := Kd.at_int (Kd.R_reads' HO_8.out).2.2 0 p180 q180
                  cases e180
                  have qi180 : (0 < t175.length) = True := eq_true (by omega)
                  (try rw [show ((0 : Int)).toNat = 0 from rfl] at hx180_0)
                  (try rw [Addr.add_zero'] at hx180_0)
                  replace p180 := eq_true p180
                  replace q180 := eq_true q180
                  go_wp2
                  repeat (first | (go_quiet (fail); try go_wp2) | (simp only [← i64_w]; go_quiet (fail); (try simp only [i64_w]); try go_wp2))
                  go_meet
                  case rel => exact ⟨_, (true), (by first | rfl | (simp; done) | (simp [*]; done)), H', ⟨by have := HJ7.out; first | omega | exact Nat.le_refl _⟩, ⟨by (with_reducible repeat (first | apply Kd.R_alloc | apply Kd.R_drewN | apply Kd.R_drew)); exact Kd.R_mono HO_8.out (fun _ hk => trivial)⟩, ⟨by repeat (first | (with_reducible first | exact HB.out | apply below_alloc | apply pw_below_drewN | apply below_drew1) | exact HB.out)⟩⟩
              · rw [if_neg c20] at H
                exact absurd H (by simp)
            · rw [if_neg c19] at H
              have c19b0 : ((t175.length : Int) == 160) = false := beq_eq_false_iff_ne.mpr c19
              have c19b1 : ((t175.length : Int) != 160) = true := bne_iff_ne.mpr c19
              (first | rw [c19b0] | (simp only [i64_w, i32_w]; rw [c19b0]) | skip)
              have H' := Aside0.mk H
              clear H
              obtain ⟨Ao35, co35, eo35⟩ := Kd.R_slice HO_8.out
              subst eo35
              go_wp2
              repeat (first | (go_quiet (fail); try go_wp2) | (simp only [← i64_w]; go_quiet (fail); (try simp only [i64_w]); try go_wp2))
              go_meet
              case rel => exact ⟨_, (true), (by first | rfl | (simp; done) | (simp [*]; done)), H', ⟨by have := HJ7.out; first | omega | exact Nat.le_refl _⟩, ⟨by (with_reducible repeat (first | apply Kd.R_alloc | apply Kd.R_drewN | apply Kd.R_drew)); exact Kd.R_mono HO_8.out (fun _ hk => trivial)⟩, ⟨by repeat (first | (with_reducible first | exact HB.out | apply below_alloc | apply pw_below_drewN | apply below_drew1) | exact HB.out)⟩⟩
          case rest =>
            clear HC18
            try clear c1
            try clear p1
            try clear q1
            try clear hx1
            try clear qi1
            try clear c2
            try clear p2
            try clear q2
            try clear hcv2
            try clear hcv3
            try clear p6
            try clear c7
            try clear c13
            try clear c16
            try clear c17
            try clear c17b0
            try clear c17b1
            try clear p18
            try clear q18
            try clear hx18
            try clear qi18
            try clear c19
            try clear c19b0
            try clear c19b1
            try clear c20
            try clear c20b0
            try clear c20b1
            try clear c21
            try clear c21b0
            try clear c21b1
            try clear c22
            try clear c22b0
            try clear c22b1
            try clear c23
            try clear c23b0
            try clear c23b1
            try clear c24
            try clear c24b0
            try clear c24b1
            try clear c25
            try clear c25b0
            try clear c25b1
            try clear c26
            try clear c26b0
            try clear c26b1
            try clear c28
            try clear q28
            try clear hcv29
            try clear hcv31
            try clear hx180_0
            try clear hx181_0
            try clear hx182_0
            try clear p180
            try clear p181
            try clear p182
            try clear p2
            try clear p6
            try clear q180
            try clear q181
            try clear q182
            try clear q28
            obtain ⟨kq, x78_17, rfl, HA, HJ17, HO_8, HB⟩ := hcut
            cases kq with
            | zero => exact absurd HA.out (by simp [corbellaw6_MarkSizes.j1])
            | succ kj17 =>
              have H := HA.out
              clear HA
              simp only [corbellaw6_MarkSizes.j1] at H
              by_cases c36 : x78_17 = true
              · subst c36
                have H1 : (some false) = some r := by rw [if_pos rfl] at H; exact H
                clear H
                have H := H1
                clear H1
                exact absurd (Option.some.inj H) (by rw [hT_.out]; decide)
              · replace c36 := Bool.eq_false_iff.mpr c36
                subst c36
                have H1 : (if 0 ≤ (wrap64 (3 + t171)) then (if (wrap64 (3 + t171)) ≤ 156 then (if 156 ≤ (t175.length : Int) then ((some ((t175.take 156).drop ((wrap64 (3 + t171)) : Int).toNat : List Int)).bind fun y187 => (corbellaw6_MarkSizes.l0 kj17 t175 y187 (y187.length : Int) 0)) else (none)) else (none)) else (none)) = some r := by rw [if_neg (show ¬ (false = true) by decide)] at H; exact H
                clear H
                have H := H1
                clear H1
                obtain ⟨ji37, hji37⟩ : ∃ j_ : Int, (wrap64 (3 + t171)) = j_ := ⟨_, rfl⟩
                replace H : (if 0 ≤ (ji37) then (if (ji37) ≤ 156 then (if 156 ≤ (t175.length : Int) then ((some ((t175.take 156).drop ((ji37) : Int).toNat : List Int)).bind fun y187 => (corbellaw6_MarkSizes.l0 kj17 t175 y187 (y187.length : Int) 0)) else (none)) else (none)) else (none)) = some r := by first | (rw [hji37] at H; exact H) | (simp only [hji37] at H ⊢; exact H)
                have hji37w : (IntKind.i64.wrap (3 + t171)) = ji37 := (i64_w _).trans hji37
                by_cases c38 : 0 ≤ (ji37)
                · rw [if_pos c38] at H
                  have c38b0 := eq_true c38
                  have c38b1 : decide (0 ≤ (ji37)) = true := decide_eq_true c38
                  clear c38
                  by_cases c39 : (ji37) ≤ 156
                  · rw [if_pos c39] at H
                    have c39b0 := eq_true c39
                    have c39b1 : decide ((ji37) ≤ 156) = true := decide_eq_true c39
                    clear c39
                    by_cases c40 : 156 ≤ (t175.length : Int)
                    · rw [if_pos c40] at H
                      have c40b0 := eq_true c40
                      have c40b1 : decide (156 ≤ (t175.length : Int)) = true := decide_eq_true c40
                      clear c40
                      obtain ⟨y187, hy187⟩ : ∃ y_ : List Int, y_ = ((t175.take 156).drop ((ji37) : Int).toNat) := ⟨_, rfl⟩
                      replace H : (corbellaw6_MarkSizes.l0 kj17 t175 y187 (y187.length : Int) 0) = some r := by first | (rw [hy187]; with_reducible exact H) | (have H2_ := (Option.bind_some _ _).symm.trans H; rw [hy187]; with_reducible exact H2_) | (have H2_ := (Option.bind_some _ _).symm.trans H; with_reducible exact H2_) | with_reducible exact H | (rw [hy187]; exact H) | exact H
                      have Ny187 := Aside0.mk hy187
                      clear hy187
                      have H' := Aside0.mk H
                      clear H
                      obtain ⟨Ao42, co42, eo42⟩ := Kd.R_slice HO_8.out
                      subst eo42
                      have q41 : (156 : Int) ≤ ((t175.length : Int) : Int) := of_decide_eq_true (by first | (with_reducible assumption) | assumption)
                      obtain ⟨i041, hi041, _, hsz41, _⟩ := info_parts info5
                      have hroom41 : t175.length ≤ co42 := (Kd.R_reads' HO_8.out).2.1
                      have hC41 : Kd.C (Kd.int .u8) _ Ao42 t175.length t175 := (Kd.R_reads' HO_8.out).2.2
                      have ql41 : ((ji37) : Int) ≤ (156 : Int) := of_decide_eq_true (by first | (with_reducible assumption) | assumption)
                      have q041 : (0 : Int) ≤ ((ji37) : Int) := of_decide_eq_true (by first | (with_reducible assumption) | assumption)
                      have hcut41 := cut_mid (P := Try.prog) 22 5 .i64 .i64 Try.underlying22 hi041 1 hsz41 Ao42 t175.length co42 (ji37) 156 q041 ql41 q41 hroom41
                      have hr41 := Kd.C_mid (lo := ((ji37) : Int).toNat) (hi := (156 : Int).toNat) (c := co42) hC41 (by omega) (by omega) hroom41
                      obtain ⟨A41, hA41⟩ : ∃ A1, A1 = (if co42 = ((ji37) : Int).toNat then Ao42 else (Ao42 : Option Addr).map (·.add (((ji37) : Int).toNat * 1))) := ⟨_, rfl⟩
                      obtain ⟨c41, hc41⟩ : ∃ c1, c1 = co42 - ((ji37) : Int).toNat := ⟨_, rfl⟩
                      have hy41 : y187.length = (156 : Int).toNat - ((ji37) : Int).toNat := (by rw [Ny187.out, List.length_drop, List.length_take] <;> omega)
                      rw [show ((t175).take (156 : Int).toNat).drop ((ji37) : Int).toNat = y187 from Ny187.out.symm] at hr41
                      replace hr41 : Kd.C (Kd.int .u8) _ A41 y187.length y187 := (by rw [hA41]; exact hr41)
                      rw [← hy41, ← hA41, ← hc41] at hcut41
                      (try (have hcut41w_ := hcut41; simp only [← i64_w] at hcut41w_))
                      have HR190 := Aside0.mk hr41
                      have HC190 := Aside0.mk (show y187.length ≤ c41 from by rw [hy41, hc41]; exact Nat.sub_le_sub_right (Nat.le_trans (by omega) hroom41) _)
                      clear hr41 hC41 hroom41 hi041 hsz41 hc41
                      have KY41 := Aside0.mk hy41
                      have KA41 := Aside0.mk hA41
                      clear hy41 hA41
                      have KL41 := Aside0.mk (show 156 ≤ t175.length from by omega)
                      have KM41 := Aside0.mk (show ((ji37) : Int).toNat ≤ 156 from by omega)
                      replace q41 := eq_true q41
                      go_wp2
                      repeat (first | (go_quiet (fail); try go_wp2) | (simp only [← i64_w]; go_quiet (fail); (try simp only [i64_w]); try go_wp2))
                      go_loopg [84] kj17 (fun kq v84 w' => ∃ (x84_3 : Int), v84 = .int .i64 x84_3 ∧ Aside0 (corbellaw6_MarkSizes.l0 kq t175 y187 (y187.length : Int) x84_3 = some r) ∧ Aside0 (kq ≤ kj17) ∧ Aside0 (Kd.R (Kd.int .u8) 5 w' w.heap.size (fun _ => True) (.slice Ao42 t175.length co42) t175) ∧ Aside0 (Kd.C (Kd.int .u8) w' A41 y187.length y187) ∧ Aside0 (Below w.heap.size w w'))
                      case atStart => exact ⟨(0), (by first | rfl | (simp; done) | (simp [*]; done)), H', ⟨Nat.le_refl _⟩, ⟨by (with_reducible repeat (first | apply Kd.R_alloc | apply Kd.R_drewN | apply Kd.R_drew)); exact HO_8.out⟩, ⟨by repeat (first | (with_reducible exact HR190.out) | (with_reducible refine Kd.C_alloc ?_ _) | (with_reducible refine Kd.C_drewN ?_ _) | (with_reducible refine Kd.C_drew ?_) | exact HR190.out)⟩, ⟨by repeat (first | (with_reducible first | exact HB.out | apply below_alloc | apply pw_below_drewN | apply below_drew1) | exact HB.out)⟩⟩
                      case round =>
                        clear H'
                        try clear c1
                        try clear p1
                        try clear q1
                        try clear hx1
                        try clear qi1
                        try clear c2
                        try clear p2
                        try clear q2
                        try clear hcv2
                        try clear c3
                        try clear hcv3
                        try clear c4
                        try clear q4
                        try clear p6
                        try clear c7
                        try clear c13
                        try clear c16
                        try clear c17
                        try clear c17b0
                        try clear c17b1
                        try clear p18
                        try clear q18
                        try clear hx18
                        try clear qi18
                        try clear c19
                        try clear c19b0
                        try clear c19b1
                        try clear c20
                        try clear c20b0
                        try clear c20b1
                        try clear c21
                        try clear c21b0
                        try clear c21b1
                        try clear c22
                        try clear c22b0
                        try clear c22b1
                        try clear c23
                        try clear c23b0
                        try clear c23b1
                        try clear c24
                        try clear c24b0
                        try clear c24b1
                        try clear c25
                        try clear c25b0
                        try clear c25b1
                        try clear c26
                        try clear c26b0
                        try clear c26b1
                        try clear c28
                        try clear q28
                        try clear hcv29
                        try clear hcv31
                        try clear c36
                        try clear c38
                        try clear c38b0
                        try clear c38b1
                        try clear c39
                        try clear c39b0
                        try clear c39b1
                        try clear c40
                        try clear c40b0
                        try clear c40b1
                        try clear c41
                        try clear q41
                        try clear hx180_0
                        try clear hx181_0
                        try clear hx182_0
                        try clear p1
                        try clear p18
                        try clear p180
                        try clear p181
                        try clear p182
                        try clear p2
                        try clear p6
                        try clear q041
                        try clear q1
                        try clear q18
                        try clear q180
                        try clear q181
                        try clear q182
                        try clear q2
                        try clear q28
                        try clear q41
                        obtain ⟨x84_3, rfl, HA, HK3, HO_8, HR190, HB⟩ := hrel
                        cases gk with
                        | zero => exact absurd HA.out (by simp [corbellaw6_MarkSizes.l0])
                        | succ k3 =>
                          have H := HA.out
                          clear HA
                          simp only [corbellaw6_MarkSizes.l0] at H
                          by_cases c43 : x84_3 < (y187.length : Int)
                          · rw [if_pos c43] at H
                            have c43b0 : decide (x84_3 < (y187.length : Int)) = true := decide_eq_true c43
                            clear c43
                            by_cases c44 : 0 ≤ x84_3
                            · rw [if_pos c44] at H
                              have c44b0 : decide (0 ≤ x84_3) = true := decide_eq_true c44
                              clear c44
                              by_cases c45 : x84_3 < (y187.length : Int)
                              · rw [if_pos c45] at H
                                have c45b0 : decide (x84_3 < (y187.length : Int)) = true := decide_eq_true c45
                                clear c45
                                by_cases c46 : (rd y187 x84_3) = 0
                                · rw [if_pos c46] at H
                                  have c46b0 : ((rd y187 x84_3) == 0) = true := beq_iff_eq.mpr c46
                                  have c46b1 : ((rd y187 x84_3) != 0) = false := bne_eq_false_iff_eq.mpr c46
                                  clear c46
                                  have H' := Aside0.mk H
                                  clear H
                                  have p191 : 0 ≤ (x84_3 : Int) := of_decide_eq_true (by first | (with_reducible assumption) | assumption)
                                  have q191 : x84_3 < (y187.length : Int) := of_decide_eq_true (by first | (with_reducible assumption) | assumption)
                                  obtain ⟨ad191, e191, hx191_0⟩ := Kd.at_int HR190.out x84_3 p191 q191
                                  cases e191
                                  (first | replace hx191_0 := (HB.out.cell (World.block_lt_of_cell? w _ hx191_0)).trans hx191_0 | skip)
                                  replace p191 := eq_true p191
                                  replace q191 := eq_true q191
                                  go_wp2
                                  repeat (first | (go_quiet (fail); try go_wp2) | (simp only [← i64_w]; go_quiet (fail); (try simp only [i64_w]); try go_wp2))
                                  go_roundg k3
                                  case measure => have := HJ7.out; have := HJ17.out; have := HK3.out; omega
                                  case rel => exact ⟨(wrap64 (x84_3 + 1)), (by first | rfl | (simp; done) | (simp [*]; done)), H', ⟨by have := HJ7.out; have := HJ17.out; have := HK3.out; omega⟩, ⟨by (with_reducible repeat (first | apply Kd.R_alloc | apply Kd.R_drewN | apply Kd.R_drew)); exact HO_8.out⟩, ⟨by repeat (first | (with_reducible exact HR190.out) | (with_reducible refine Kd.C_alloc ?_ _) | (with_reducible refine Kd.C_drewN ?_ _) | (with_reducible refine Kd.C_drew ?_) | exact HR190.out)⟩, ⟨by repeat (first | (with_reducible first | exact HB.out | apply below_alloc | apply pw_below_drewN | apply below_drew1) | exact HB.out)⟩⟩
                                · rw [if_neg c46] at H
                                  have c46b0 : ((rd y187 x84_3) == 0) = false := beq_eq_false_iff_ne.mpr c46
                                  have c46b1 : ((rd y187 x84_3) != 0) = true := bne_iff_ne.mpr c46
                                  exact absurd (Option.some.inj H) (by rw [hT_.out]; decide)
                              · rw [if_neg c45] at H
                                exact absurd H (by simp)
                            · rw [if_neg c44] at H
                              exact absurd H (by simp)
                          · rw [if_neg c43] at H
                            have c43b0 : decide (x84_3 < (y187.length : Int)) = false := decide_eq_false c43
                            clear c43
                            by_cases c47 : 156 < (t175.length : Int)
                            · rw [if_pos c47] at H
                              have c47b0 : decide (156 < (t175.length : Int)) = true := decide_eq_true c47
                              have c47b1 : decide (156 < t175.length) = true := decide_eq_true (by omega)
                              clear c47
                              by_cases c48 : 157 < (t175.length : Int)
                              · rw [if_pos c48] at H
                                have c48b0 : decide (157 < (t175.length : Int)) = true := decide_eq_true c48
                                have c48b1 : decide (157 < t175.length) = true := decide_eq_true (by omega)
                                clear c48
                                by_cases c49 : 158 < (t175.length : Int)
                                · rw [if_pos c49] at H
                                  have c49b0 : decide (158 < (t175.length : Int)) = true := decide_eq_true c49
                                  have c49b1 : decide (158 < t175.length) = true := decide_eq_true (by omega)
                                  clear c49
                                  by_cases c50 : 159 < (t175.length : Int)
                                  · rw [if_pos c50] at H
                                    have c50b0 : decide (159 < (t175.length : Int)) = true := decide_eq_true c50
                                    have c50b1 : decide (159 < t175.length) = true := decide_eq_true (by omega)
                                    clear c50
                                    by_cases c51 : 156 ≤ (t175.length : Int)
                                    · rw [if_pos c51] at H
                                      have c51b0 := eq_true c51
                                      have c51b1 : decide (156 ≤ (t175.length : Int)) = true := decide_eq_true c51
                                      clear c51
                                      obtain ⟨y196, hy196⟩ : ∃ y_ : List Int, y_ = (t175.take 156) := ⟨_, rfl⟩
                                      replace H : ((mark_Sum.f k3 y196).bind fun t200 => (some ((wrap64 ((wrap64 ((wrap64 ((wrap64 ((wrap64 (rd t175 156)) * 16777216)) + (wrap64 ((wrap64 (rd t175 157)) * 65536)))) + (wrap64 ((wrap64 (rd t175 158)) * 256)))) + (wrap64 (rd t175 159)))) == t200))) = some r := by first | (rw [hy196]; with_reducible exact H) | (have H2_ := (Option.bind_some _ _).symm.trans H; rw [hy196]; with_reducible exact H2_) | (have H2_ := (Option.bind_some _ _).symm.trans H; with_reducible exact H2_) | with_reducible exact H | (rw [hy196]; exact H) | exact H
                                      have Ny196 := Aside0.mk hy196
                                      clear hy196
                                      replace H := Option.bind_eq_some_iff.mp H
                                      obtain ⟨t200, A520, H⟩ := H
                                      replace H : (some ((wrap64 ((wrap64 ((wrap64 ((wrap64 ((wrap64 (rd t175 156)) * 16777216)) + (wrap64 ((wrap64 (rd t175 157)) * 65536)))) + (wrap64 ((wrap64 (rd t175 158)) * 256)))) + (wrap64 (rd t175 159)))) == t200)) = some r := H
                                      have A52 := Aside0.mk A520
                                      clear A520
                                      obtain rfl := Option.some.inj H
                                      have p192 : 0 ≤ (156 : Int) := (by omega)
                                      have q192 : 156 < (t175.length : Int) := of_decide_eq_true (by first | (with_reducible assumption) | assumption)
                                      obtain ⟨ad192, e192, hx192_0⟩ := Kd.at_int (Kd.R_reads' HO_8.out).2.2 156 p192 q192
                                      cases e192
                                      (try simp only [show (156 : Int).toNat = 156 from rfl, Nat.reduceMul, Nat.reduceEqDiff, Go.Addr.add, ↓reduceIte] at hx192_0)
                                      have qi192 : (156 < t175.length) = True := eq_true (by omega)
                                      (try rw [show ((156 : Int)).toNat = 156 from rfl] at hx192_0)
                                      replace p192 := eq_true p192
                                      replace q192 := eq_true q192
                                      have p193 : 0 ≤ (157 : Int) := (by omega)
                                      have q193 : 157 < (t175.length : Int) := of_decide_eq_true (by first | (with_reducible assumption) | assumption)
                                      obtain ⟨ad193, e193, hx193_0⟩ := Kd.at_int (Kd.R_reads' HO_8.out).2.2 157 p193 q193
                                      obtain rfl : ad192 = ad193 := (by injection e193)
                                      (try simp only [show (157 : Int).toNat = 157 from rfl, Nat.reduceMul, Nat.reduceEqDiff, Go.Addr.add, ↓reduceIte] at hx193_0)
                                      have qi193 : (157 < t175.length) = True := eq_true (by omega)
                                      (try rw [show ((157 : Int)).toNat = 157 from rfl] at hx193_0)
                                      replace p193 := eq_true p193
                                      replace q193 := eq_true q193
                                      have p194 : 0 ≤ (158 : Int) := (by omega)
                                      have q194 : 158 < (t175.length : Int) := of_decide_eq_true (by first | (with_reducible assumption) | assumption)
                                      obtain ⟨ad194, e194, hx194_0⟩ := Kd.at_int (Kd.R_reads' HO_8.out).2.2 158 p194 q194
                                      obtain rfl : ad192 = ad194 := (by injection e194)
                                      (try simp only [show (158 : Int).toNat = 158 from rfl, Nat.reduceMul, Nat.reduceEqDiff, Go.Addr.add, ↓reduceIte] at hx194_0)
                                      have qi194 : (158 < t175.length) = True := eq_true (by omega)
                                      (try rw [show ((158 : Int)).toNat = 158 from rfl] at hx194_0)
                                      replace p194 := eq_true p194
                                      replace q194 := eq_true q194
                                      have p195 : 0 ≤ (159 : Int) := (by omega)
                                      have q195 : 159 < (t175.length : Int) := of_decide_eq_true (by first | (with_reducible assumption) | assumption)
                                      obtain ⟨ad195, e195, hx195_0⟩ := Kd.at_int (Kd.R_reads' HO_8.out).2.2 159 p195 q195
                                      obtain rfl : ad192 = ad195 := (by injection e195)
                                      (try simp only [show (159 : Int).toNat = 159 from rfl, Nat.reduceMul, Nat.reduceEqDiff, Go.Addr.add, ↓reduceIte] at hx195_0)
                                      have qi195 : (159 < t175.length) = True := eq_true (by omega)
                                      (try rw [show ((159 : Int)).toNat = 159 from rfl] at hx195_0)
                                      replace p195 := eq_true p195
                                      replace q195 := eq_true q195
                                      have q53 : (156 : Int) ≤ ((t175.length : Int) : Int) := of_decide_eq_true (by first | (with_reducible assumption) | assumption)
                                      obtain ⟨i053, hi053, _, hsz53, _⟩ := info_parts info5
                                      have hroom53 : t175.length ≤ co42 := (Kd.R_reads' HO_8.out).2.1
                                      have hC53 : Kd.C (Kd.int .u8) _ (some ad192) t175.length t175 := (Kd.R_reads' HO_8.out).2.2
                                      have hcut53 := cut_to (P := Try.prog) 22 5 .i64 Try.underlying22 hi053 (some ad192) t175.length co42 156 (by omega) q53 hroom53
                                      have hr53 := Kd.C_take (m := 156) hC53 (by omega)
                                      have hy53 : y196.length = (156 : Int).toNat := (by rw [Ny196.out, List.length_take]; omega)
                                      rw [← Ny196.out] at hr53
                                      rw [← hy53] at hcut53
                                      have HR199 := Aside0.mk hr53
                                      have HC199 := Aside0.mk (show y196.length ≤ co42 from by omega)
                                      clear hr53 hC53 hroom53 hi053 hsz53
                                      have KY53 := Aside0.mk hy53
                                      clear hy53
                                      have KL53 := Aside0.mk (show 156 ≤ t175.length from by omega)
                                      replace q53 := eq_true q53
                                      go_wp2_with (first | (go_at_call 22; (with_reducible refine (mark_Sum.calls k3 _ _ y196 t200 _ ?side1 ?side2 A52.out).mono ?_); (case side1 => repeat (first | exact (by repeat (first | (with_reducible exact HR199.out) | (with_reducible refine Kd.C_alloc ?_ _) | (with_reducible refine Kd.C_drewN ?_ _) | (with_reducible refine Kd.C_drew ?_) | exact HR199.out)) | (with_reducible refine Kd.C_alloc ?_ _) | (with_reducible refine Kd.C_drewN ?_ _) | (with_reducible refine Kd.C_drew ?_))); (case side2 => exact HC199.out); rintro e w' ⟨rfl, ⟨nd, rfl⟩⟩; (try first | exact ⟨rfl, _, World.drewN_drewN _ _ _⟩ | exact ⟨rfl, _, Eq.trans (World.drewN_drewN _ _ _) (congrArg (World.drewN _) (Nat.add_assoc _ _ _))⟩)))
                                      repeat (go_quiet (first | (go_at_call 22; (with_reducible refine (mark_Sum.calls k3 _ _ y196 t200 _ ?side1 ?side2 A52.out).mono ?_); (case side1 => repeat (first | exact (by repeat (first | (with_reducible exact HR199.out) | (with_reducible refine Kd.C_alloc ?_ _) | (with_reducible refine Kd.C_drewN ?_ _) | (with_reducible refine Kd.C_drew ?_) | exact HR199.out)) | (with_reducible refine Kd.C_alloc ?_ _) | (with_reducible refine Kd.C_drewN ?_ _) | (with_reducible refine Kd.C_drew ?_))); (case side2 => exact HC199.out); rintro e w' ⟨rfl, ⟨nd, rfl⟩⟩; (try first | exact ⟨rfl, _, World.drewN_drewN _ _ _⟩ | exact ⟨rfl, _, Eq.trans (World.drewN_drewN _ _ _) (congrArg (World.drewN _) (Nat.add_assoc _ _ _))⟩))); try go_wp2_with (first | (go_at_call 22; (with_reducible refine (mark_Sum.calls k3 _ _ y196 t200 _ ?side1 ?side2 A52.out).mono ?_); (case side1 => repeat (first | exact (by repeat (first | (with_reducible exact HR199.out) | (with_reducible refine Kd.C_alloc ?_ _) | (with_reducible refine Kd.C_drewN ?_ _) | (with_reducible refine Kd.C_drew ?_) | exact HR199.out)) | (with_reducible refine Kd.C_alloc ?_ _) | (with_reducible refine Kd.C_drewN ?_ _) | (with_reducible refine Kd.C_drew ?_))); (case side2 => exact HC199.out); rintro e w' ⟨rfl, ⟨nd, rfl⟩⟩; (try first | exact ⟨rfl, _, World.drewN_drewN _ _ _⟩ | exact ⟨rfl, _, Eq.trans (World.drewN_drewN _ _ _) (congrArg (World.drewN _) (Nat.add_assoc _ _ _))⟩))))
                                      go_ret
                                      exact ⟨by first | rfl | (simp [errW_none, errW_some] <;> rfl) | (simp only [← hji37]; first | rfl | (simp [errW_none, errW_some] <;> rfl)) | (simp [*, errW_none, errW_some] <;> rfl), by repeat (first | (with_reducible first | exact HB.out | apply below_alloc | apply pw_below_drewN | apply below_drew1) | exact HB.out)⟩
                                    · rw [if_neg c51] at H
                                      exact absurd H (by simp)
                                  · rw [if_neg c50] at H
                                    exact absurd H (by simp)
                                · rw [if_neg c49] at H
                                  exact absurd H (by simp)
                              · rw [if_neg c48] at H
                                exact absurd H (by simp)
                            · rw [if_neg c47] at H
                              exact absurd H (by simp)
                    · rw [if_neg c40] at H
                      exact absurd H (by simp)
                  · rw [if_neg c39] at H
                    exact absurd H (by simp)
                · rw [if_neg c38] at H
                  exact absurd H (by simp)
        · rw [if_neg c17] at H
          have c17b0 : (t176 == 0) = false := beq_eq_false_iff_ne.mpr c17
          have c17b1 : (t176 != 0) = true := bne_iff_ne.mpr c17
          by_cases c54 : t176 = 1
          · rw [if_pos c54] at H
            have c54b0 : (t176 == 1) = true := beq_iff_eq.mpr c54
            have c54b1 : (t176 != 1) = false := bne_eq_false_iff_eq.mpr c54
            clear c54
            obtain rfl := Option.some.inj H
            obtain ⟨Ao55, co55, eo55⟩ := Kd.R_slice HO_8.out
            subst eo55
            go_wp2
            repeat (first | (go_quiet (fail); try go_wp2) | (simp only [← i64_w]; go_quiet (fail); (try simp only [i64_w]); try go_wp2))
            go_ret
            exact ⟨by first | rfl | (simp [errW_none, errW_some] <;> rfl) | (simp [*, errW_none, errW_some] <;> rfl), by repeat (first | (with_reducible first | exact HB.out | apply below_alloc | apply pw_below_drewN | apply below_drew1) | exact HB.out)⟩
          · rw [if_neg c54] at H
            have c54b0 : (t176 == 1) = false := beq_eq_false_iff_ne.mpr c54
            have c54b1 : (t176 != 1) = true := bne_iff_ne.mpr c54
            exact absurd (Option.some.inj H) (by rw [hT_.out]; decide)

/-- THE ONE PURE STATEMENT of corbellaw6_MarkSizes: yours. -/
def corbellaw6_MarkSizes.Pure : Prop := ∀ (a0 : Int) (a1 : Int) (a2 : Int), (Lit.int .i64 a0).wf = true → (Lit.int .i64 a1).wf = true → (Lit.int .i64 a2).wf = true → ∃ k, corbellaw6_MarkSizes.f k a0 a1 a2 = some true
theorem corbellaw6_MarkSizes.walk (P : corbellaw6_MarkSizes.Pure) (a0 : Int) (a1 : Int) (a2 : Int) (w : World) (w0 : (Lit.int .i64 a0).wf = true) (w1 : (Lit.int .i64 a1).wf = true) (w2 : (Lit.int .i64 a2).wf = true) :
    Calls Try.prog 7 #[.int .i64 a0, .int .i64 a1, .int .i64 a2] w fun e w' => e = .returned (.bool true) ∧ Below w.heap.size w w' := by
  obtain ⟨k, h⟩ := P a0 a1 a2 w0 w1 w2
  refine (corbellaw6_MarkSizes.calls k a0 a1 a2 true w ⟨rfl⟩ h).mono ?_
  rintro e w' ⟨rfl, hd⟩
  exact ⟨rfl, hd⟩

end Go.Proofs.Ytbegaeohggkblaa.PMarkSizes
