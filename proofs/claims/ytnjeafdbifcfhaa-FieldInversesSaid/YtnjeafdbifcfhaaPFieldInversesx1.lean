-- Written by fk.py (a program of this session) over the kit's print: functions with a contract of our own among them.
import Derived.Test.YtnjeafdbifcfhaaFld
import Derived.Test.YtnjeafdbifcfhaaPFieldInversesx0
namespace Go.Proofs.Ytnjeafdbifcfhaa.PFieldInverses
open Go.RowKit Go.Proofs.YtnjeafdbifcfhaaW.PrintWords Go.Proofs.YtnjeafdbifcfhaaW.PrintLast Go.Proofs.YtnjeafdbifcfhaaW.PrintMore
attribute [local go_sem] max2_int min2_int max_two min_two max_three min_three max_four min_four   -- for this text's walks alone
set_option linter.unusedVariables false
set_option linter.unusedSimpArgs false

-- NOT PRINTED: function 18 (field_New)

-- NOT PRINTED: function 20 (field_Field_Exp)

-- NOT PRINTED: function 21 (field_Field_Mul)

-- NOT PRINTED: function 28 (field_Field_Add)

-- NOT PRINTED: function 19 (corbellaw3_known)

-- NOT PRINTED: function 22 (field_Field_Inv)

-- NOT PRINTED: function 23 (field_Field_Div)

/-! ### corbellaw3_FieldInverses: function 4 -/
-- IMPORT Derived.Test.YtnjeafdbifcfhaaFld
namespace HandFieldInverses
open Go.RowKit Go.Proofs.Ytnjeafdbifcfhaa.Fld Go.Proofs.YtnjeafdbifcfhaaW.PrintWords Go.Proofs.YtnjeafdbifcfhaaW.PrintLast Go.Proofs.YtnjeafdbifcfhaaW.PrintMore
theorem by_wf {a : Int} (h : (Lit.int .u8 a).wf = true) : By a := by
  have hx : 0 ≤ a ∧ a ≤ 255 := by simpa [Lit.wf, IntKind.min, IntKind.max, IntKind.signed, IntKind.bits] using h
  exact ⟨hx.1, by omega⟩

set_option maxHeartbeats 4000000 in
set_option maxRecDepth 100000 in
theorem walk_ne (a b : Int) (w : World) (ha : By a) (hb : By b) (h0 : a ≠ 0) (h1 : b ≠ 0) : Calls Try.prog 4 #[.int .u8 a, .int .u8 b] w fun e w' => e = .returned (.bool true) ∧ Below w.heap.size w w' := by
  have g1 : (a == 0) = false := beq_eq_false_iff_ne.2 h0
  have k1 : (b == 0) = false := beq_eq_false_iff_ne.2 h1
  have f1 : (iI (iI a) == a) = true := beq_iff_eq.2 (iI_iI ha h0)
  have f2 : (iI (gI a b) == gI (iI a) (iI b)) = true := beq_iff_eq.2 (iI_gI ha hb h0 h1)
  have f3 : (qI a a == 1) = true := beq_iff_eq.2 (qI_self ha h0)
  have f4 : (gI a (iI a) == 1) = true := beq_iff_eq.2 (gI_iI ha h0)
  have HG := Aside0.mk (gI_ne ha hb h0 h1)
  have HA := Aside0.mk ha
  have HBy := Aside0.mk hb
  have H0 := Aside0.mk h0
  have H1 := Aside0.mk h1
  clear ha hb h0 h1
  go_enter Try.func4, Try.ntmps4
  go_wp2_with fail
  refine (new_calls w).mono ?_
  rintro e w1 ⟨g, rfl, hg, hf, hb⟩
  have HF0 := Aside0.mk (FieldAt.mk hf)
  have HB0 := Aside0.mk hb
  clear hf hb hg
  go_wp2_with fail
  refine (known_calls w1).mono ?_
  rintro e w2 ⟨rfl, hb⟩
  have HF := Aside0.mk (HF0.out.below hb)
  have HB := Aside0.mk (below_step HB0.out hb)
  clear hb HB0 HF0
  go_wp2_with (first | (go_at_call 22; refine (invI g _ _ (by first | exact HA.out | exact HBy.out | exact gI_by _ _ | exact eI_by _ | exact iI_by _ | exact qI_by _ _ | exact xI_by _ _ (gI_by _ _) (gI_by _ _) | (unfold By; omega)) (by first | exact H0.out | exact H1.out | exact HG.out | exact iI_ne _) (FieldAt.mk (by exact HF.out.out))).mono ?_; rintro e w' ⟨rfl, ⟨nx, rfl⟩⟩) | (go_at_call 21; refine (mulI g _ _ _ (by first | exact HA.out | exact HBy.out | exact gI_by _ _ | exact eI_by _ | exact iI_by _ | exact qI_by _ _ | exact xI_by _ _ (gI_by _ _) (gI_by _ _) | (unfold By; omega)) (by first | exact HA.out | exact HBy.out | exact gI_by _ _ | exact eI_by _ | exact iI_by _ | exact qI_by _ _ | exact xI_by _ _ (gI_by _ _) (gI_by _ _) | (unfold By; omega)) (FieldAt.mk (by exact HF.out.out))).mono ?_; rintro e w' ⟨rfl, ⟨nx, rfl⟩⟩) | (go_at_call 23; refine (divI g _ _ _ HA.out HA.out H0.out (FieldAt.mk (by exact HF.out.out))).mono ?_; rintro e w' ⟨rfl, ⟨nx, rfl⟩⟩))
  go_ret
  exact ⟨rfl, by repeat (first | exact HB.out | apply pw_below_drewN)⟩
set_option maxHeartbeats 4000000 in
set_option maxRecDepth 100000 in
theorem walk_z0 (a b : Int) (w : World) (h0 : a = 0) : Calls Try.prog 4 #[.int .u8 a, .int .u8 b] w fun e w' => e = .returned (.bool true) ∧ Below w.heap.size w w' := by
  have g1 : (a == 0) = true := beq_iff_eq.2 h0
  clear h0
  go_enter Try.func4, Try.ntmps4
  go_wp2_with fail
  refine (new_calls w).mono ?_
  rintro e w1 ⟨g, rfl, hg, hf, hb⟩
  have HF0 := Aside0.mk (FieldAt.mk hf)
  have HB0 := Aside0.mk hb
  clear hf hb hg
  go_wp2_with fail
  refine (known_calls w1).mono ?_
  rintro e w2 ⟨rfl, hb⟩
  have HF := Aside0.mk (HF0.out.below hb)
  have HB := Aside0.mk (below_step HB0.out hb)
  clear hb HB0 HF0
  go_wp2_with (go_at_call 22; refine (invI0 g _ (FieldAt.mk (by exact HF.out.out))).mono ?_; rintro e w' ⟨rfl, ⟨nx, rfl⟩⟩)
  go_ret
  exact ⟨rfl, by repeat (first | exact HB.out | apply pw_below_drewN)⟩
set_option maxHeartbeats 4000000 in
set_option maxRecDepth 100000 in
theorem walk_z1 (a b : Int) (w : World) (h0 : a ≠ 0) (h1 : b = 0) : Calls Try.prog 4 #[.int .u8 a, .int .u8 b] w fun e w' => e = .returned (.bool true) ∧ Below w.heap.size w w' := by
  have g1 : (a == 0) = false := beq_eq_false_iff_ne.2 h0
  have k1 : (b == 0) = true := beq_iff_eq.2 h1
  clear h0 h1
  go_enter Try.func4, Try.ntmps4
  go_wp2_with fail
  refine (new_calls w).mono ?_
  rintro e w1 ⟨g, rfl, hg, hf, hb⟩
  have HF0 := Aside0.mk (FieldAt.mk hf)
  have HB0 := Aside0.mk hb
  clear hf hb hg
  go_wp2_with fail
  refine (known_calls w1).mono ?_
  rintro e w2 ⟨rfl, hb⟩
  have HF := Aside0.mk (HF0.out.below hb)
  have HB := Aside0.mk (below_step HB0.out hb)
  clear hb HB0 HF0
  go_wp2_with (go_at_call 22; refine (invI0 g _ (FieldAt.mk (by exact HF.out.out))).mono ?_; rintro e w' ⟨rfl, ⟨nx, rfl⟩⟩)
  go_ret
  exact ⟨rfl, by repeat (first | exact HB.out | apply pw_below_drewN)⟩
theorem walk (a b : Int) (w : World) (w0 : (Lit.int .u8 a).wf = true) (w1 : (Lit.int .u8 b).wf = true) : Calls Try.prog 4 #[.int .u8 a, .int .u8 b] w fun e w' => e = .returned (.bool true) ∧ Below w.heap.size w w' := by
  by_cases h0 : a = 0
  · exact walk_z0 a b w h0
  · by_cases h1 : b = 0
    · exact walk_z1 a b w h0 h1
    · exact walk_ne a b w (by_wf w0) (by_wf w1) h0 h1
end HandFieldInverses
def corbellaw3_FieldInverses.Pure : Prop := True
theorem corbellaw3_FieldInverses.walk (P : corbellaw3_FieldInverses.Pure) (a0 : Int) (a1 : Int) (w : World) (w0 : (Lit.int .u8 a0).wf = true) (w1 : (Lit.int .u8 a1).wf = true) :
    Calls Try.prog 4 #[.int .u8 a0, .int .u8 a1] w fun e w' => e = .returned (.bool true) ∧ Below w.heap.size w w' := HandFieldInverses.walk a0 a1 w w0 w1

end Go.Proofs.Ytnjeafdbifcfhaa.PFieldInverses
