-- Written by fk.py (a program of this session) over the kit's print: functions with a contract of our own among them.
import Derived.Test.YtnjeafdbifcfhaaFld
import Derived.Test.YtnjeafdbifcfhaaPFieldKnownx0
namespace Go.Proofs.Ytnjeafdbifcfhaa.PFieldKnown
open Go.RowKit Go.Proofs.YtnjeafdbifcfhaaW.PrintWords Go.Proofs.YtnjeafdbifcfhaaW.PrintLast Go.Proofs.YtnjeafdbifcfhaaW.PrintMore
attribute [local go_sem] max2_int min2_int max_two min_two max_three min_three max_four min_four   -- for this text's walks alone
set_option linter.unusedVariables false
set_option linter.unusedSimpArgs false

-- NOT PRINTED: function 18 (field_New)

-- NOT PRINTED: function 20 (field_Field_Exp)

-- NOT PRINTED: function 21 (field_Field_Mul)

-- NOT PRINTED: function 28 (field_Field_Add)

-- NOT PRINTED: function 19 (corbellaw3_known)

-- NOT PRINTED: function 22 (field_Field_Inv)

-- NOT PRINTED: function 23 (field_Field_Div)

-- NOT PRINTED: function 24 (field_Field_Log)

/-! ### corbellaw3_FieldKnown: function 5 -/
-- IMPORT Derived.Test.YtnjeafdbifcfhaaFld
namespace HandFieldKnown
open Go.RowKit Go.Proofs.Ytnjeafdbifcfhaa.Fld Go.Proofs.YtnjeafdbifcfhaaW.PrintWords Go.Proofs.YtnjeafdbifcfhaaW.PrintLast Go.Proofs.YtnjeafdbifcfhaaW.PrintMore

theorem e2 : qI 0 7 = 0 := by decide +kernel
theorem e4 : lI 1 = 0 := by decide +kernel
theorem e5 : iI 1 = 1 := by decide +kernel
theorem e6 : eI 255 = 1 := by decide +kernel
theorem e7 : eI (-1) = 142 := by decide +kernel
theorem e8 : eI 254 = 142 := by decide +kernel
theorem e9 : gI 0 200 = 0 := by decide +kernel
theorem e10 : gI 1 200 = 200 := by decide +kernel
theorem e11 : eI (-255) = 1 := by decide +kernel
set_option maxHeartbeats 4000000 in
set_option maxRecDepth 100000 in
theorem walk (w : World) : Calls Try.prog 5 #[] w fun e w' => e = .returned (.bool true) ∧ Below w.heap.size w w' := by
  go_enter Try.func5, Try.ntmps5
  go_wp2_with fail
  refine (new_calls w).mono ?_
  rintro e w1 ⟨g, rfl, hg, hf, hb⟩
  have HF0 := Aside0.mk (FieldAt.mk hf)
  have HB0 := Aside0.mk hb
  clear hf hb hg
  go_wp2_with fail
  refine (known_calls w1).mono ?_
  rintro e w2 ⟨rfl, hb⟩
  have HF := Aside0.mk (HF0.out.below hb)
  have HB := Aside0.mk (below_step HB0.out hb)
  clear hb HB0 HF0
  go_wp2_with fail
  refine (invI0 g _ (FieldAt.mk (by exact HF.out.out))).mono ?_
  rintro e w3 ⟨rfl, ⟨n0, rfl⟩⟩
  go_wp2_with fail
  refine (divI0 g 7 _ (by unfold By; omega) (FieldAt.mk (by exact HF.out.out))).mono ?_
  rintro e w3 ⟨rfl, ⟨n1, rfl⟩⟩
  go_wp2_with fail
  refine (divI g 0 7 _ (by unfold By; omega) (by unfold By; omega) (by omega) (FieldAt.mk (by exact HF.out.out))).mono ?_
  rw [e2]
  rintro e w3 ⟨rfl, ⟨n2, rfl⟩⟩
  go_wp2_with fail
  refine (logI0 g _ (FieldAt.mk (by exact HF.out.out))).mono ?_
  rintro e w3 ⟨rfl, ⟨n3, rfl⟩⟩
  go_wp2_with fail
  refine (logI g 1 _ (by unfold By; omega) (by omega) (FieldAt.mk (by exact HF.out.out))).mono ?_
  rw [e4]
  rintro e w3 ⟨rfl, ⟨n4, rfl⟩⟩
  go_wp2_with fail
  refine (invI g 1 _ (by unfold By; omega) (by omega) (FieldAt.mk (by exact HF.out.out))).mono ?_
  rw [e5]
  rintro e w3 ⟨rfl, ⟨n5, rfl⟩⟩
  go_wp2_with fail
  refine (expI g 255 _ (FieldAt.mk (by exact HF.out.out))).mono ?_
  rw [e6]
  rintro e w3 ⟨rfl, ⟨n6, rfl⟩⟩
  go_wp2_with fail
  refine (expI g (-1) _ (FieldAt.mk (by exact HF.out.out))).mono ?_
  rw [e7]
  rintro e w3 ⟨rfl, ⟨n7, rfl⟩⟩
  go_wp2_with fail
  refine (expI g 254 _ (FieldAt.mk (by exact HF.out.out))).mono ?_
  rw [e8]
  rintro e w3 ⟨rfl, ⟨n8, rfl⟩⟩
  go_wp2_with fail
  refine (mulI g 0 200 _ (by unfold By; omega) (by unfold By; omega) (FieldAt.mk (by exact HF.out.out))).mono ?_
  rw [e9]
  rintro e w3 ⟨rfl, ⟨n9, rfl⟩⟩
  go_wp2_with fail
  refine (mulI g 1 200 _ (by unfold By; omega) (by unfold By; omega) (FieldAt.mk (by exact HF.out.out))).mono ?_
  rw [e10]
  rintro e w3 ⟨rfl, ⟨n10, rfl⟩⟩
  go_wp2_with fail
  refine (expI g (-255) _ (FieldAt.mk (by exact HF.out.out))).mono ?_
  rw [e11]
  rintro e w3 ⟨rfl, ⟨n11, rfl⟩⟩
  go_wp2
  go_ret
  exact ⟨rfl, by repeat (first | exact HB.out | apply pw_below_drewN)⟩
end HandFieldKnown
def corbellaw3_FieldKnown.Pure : Prop := True
theorem corbellaw3_FieldKnown.walk (P : corbellaw3_FieldKnown.Pure)  (w : World)  :
    Calls Try.prog 5 #[] w fun e w' => e = .returned (.bool true) ∧ Below w.heap.size w w' := HandFieldKnown.walk  w

end Go.Proofs.Ytnjeafdbifcfhaa.PFieldKnown
