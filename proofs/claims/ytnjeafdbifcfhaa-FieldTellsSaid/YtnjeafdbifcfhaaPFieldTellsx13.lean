-- Written by fk.py (a program of this session) over the kit's print: functions with a contract of our own among them.
import Derived.Test.YtnjeafdbifcfhaaRefTells
import Derived.Test.YtnjeafdbifcfhaaFld
import Derived.Test.YtnjeafdbifcfhaaPFieldTellsx0
namespace Go.Proofs.Ytnjeafdbifcfhaa.PFieldTells
open Go.RowKit Go.Proofs.YtnjeafdbifcfhaaW.PrintWords Go.Proofs.YtnjeafdbifcfhaaW.PrintLast Go.Proofs.YtnjeafdbifcfhaaW.PrintMore
attribute [local go_sem] max2_int min2_int max_two min_two max_three min_three max_four min_four   -- for this text's walks alone
set_option linter.unusedVariables false
set_option linter.unusedSimpArgs false

/-! ### corbellaw3_FieldTells: function 6 -/
-- IMPORT Derived.Test.YtnjeafdbifcfhaaFld
-- IMPORT Derived.Test.YtnjeafdbifcfhaaRefTells
namespace HandFieldTells
open Go.RowKit Go.Proofs.Ytnjeafdbifcfhaa.Fld Go.Proofs.Ytnjeafdbifcfhaa.RefTells Go.Proofs.YtnjeafdbifcfhaaW.PrintWords Go.Proofs.YtnjeafdbifcfhaaW.PrintLast Go.Proofs.YtnjeafdbifcfhaaW.PrintMore
theorem by_wf {a : Int} (h : (Lit.int .u8 a).wf = true) : By a := by
  have hx : 0 ≤ a ∧ a ≤ 255 := by simpa [Lit.wf, IntKind.min, IntKind.max, IntKind.signed, IntKind.bits] using h
  exact ⟨hx.1, by omega⟩

set_option maxHeartbeats 8000000 in
set_option maxRecDepth 100000 in
theorem walk_00 (a b n : Int) (w : World) (ha : By a) (h0 : a ≠ 0) (hb : By b) (h1 : b ≠ 0) : Calls Try.prog 6 #[.int .u8 a, .int .u8 b, .int .i64 n] w fun e w' => e = .returned (.bool true) ∧ Below w.heap.size w w' := by
  have f0 : (xI a b == Go.bits .xor .u8 a b) = true := beq_iff_eq.2 (xor_bits ha hb).symm
  have f1 : (qI a b == gI a (iI b)) = true := beq_iff_eq.2 (qI_eq hb h1)
  have HA := Aside0.mk ha
  have H0 := Aside0.mk h0
  have HBy := Aside0.mk hb
  have H1 := Aside0.mk h1
  clear ha hb h0 h1
  go_enter Try.func6, Try.ntmps6
  go_wp2_with fail
  refine (new_calls w).mono ?_
  rintro e w1 ⟨g, rfl, hg, hf, hb⟩
  have HF0 := Aside0.mk (FieldAt.mk hf)
  have HB0 := Aside0.mk hb
  clear hf hb hg
  go_wp2_with fail
  refine (known_calls w1).mono ?_
  rintro e w2 ⟨rfl, hb⟩
  have HF := Aside0.mk (HF0.out.below hb)
  have HB := Aside0.mk (below_step HB0.out hb)
  clear hb HB0 HF0
  go_wp2_with fail
  refine (invI g _ _ HA.out H0.out (FieldAt.mk (by exact HF.out.out))).mono ?_
  rintro e w3 ⟨rfl, ⟨n0x, rfl⟩⟩
  go_wp2_with fail
  refine (refInv _ _ HA.out H0.out).mono ?_
  rintro e w3 ⟨rfl, ⟨n1x, rfl⟩⟩
  go_wp2_with fail
  refine (divI g _ _ _ HA.out HBy.out H1.out (FieldAt.mk (by exact HF.out.out))).mono ?_
  rintro e w3 ⟨rfl, ⟨n2x, rfl⟩⟩
  go_wp2_with fail
  refine (refInv _ _ HBy.out H1.out).mono ?_
  rintro e w3 ⟨rfl, ⟨n3x, rfl⟩⟩
  go_wp2_with fail
  refine (refMul _ _ _ HA.out (iI_by _)).mono ?_
  rintro e w3 ⟨rfl, ⟨n4x, rfl⟩⟩
  go_wp2_with fail
  refine (logI g _ _ HA.out H0.out (FieldAt.mk (by exact HF.out.out))).mono ?_
  rintro e w3 ⟨rfl, ⟨n5x, rfl⟩⟩
  go_wp2_with fail
  refine (refLog _ _ HA.out H0.out).mono ?_
  rintro e w3 ⟨rfl, ⟨n6x, rfl⟩⟩
  go_wp2_with fail
  refine (addI _ _ _ _ HA.out HBy.out).mono ?_
  rintro e w3 ⟨rfl, ⟨n7x, rfl⟩⟩
  go_wp2_with fail
  refine (mulI g _ _ _ HA.out HBy.out (FieldAt.mk (by exact HF.out.out))).mono ?_
  rintro e w3 ⟨rfl, ⟨n8x, rfl⟩⟩
  go_wp2_with fail
  refine (refMul _ _ _ HA.out HBy.out).mono ?_
  rintro e w3 ⟨rfl, ⟨n9x, rfl⟩⟩
  go_wp2_with fail
  refine (expI g _ _ (FieldAt.mk (by exact HF.out.out))).mono ?_
  rintro e w3 ⟨rfl, ⟨n10x, rfl⟩⟩
  go_wp2_with fail
  refine (refExp _ _).mono ?_
  rintro e w3 ⟨rfl, ⟨n11x, rfl⟩⟩
  go_wp2
  go_ret
  exact ⟨rfl, by repeat (first | exact HB.out | apply pw_below_drewN)⟩
set_option maxHeartbeats 8000000 in
set_option maxRecDepth 100000 in
theorem walk_01 (a n : Int) (w : World) (ha : By a) (h0 : a ≠ 0) : Calls Try.prog 6 #[.int .u8 a, .int .u8 0, .int .i64 n] w fun e w' => e = .returned (.bool true) ∧ Below w.heap.size w w' := by
  have hb : By (0 : Int) := by unfold By; omega
  have f0 : (xI a (0 : Int) == Go.bits .xor .u8 a (0 : Int)) = true := beq_iff_eq.2 (xor_bits ha hb).symm
  have HA := Aside0.mk ha
  have H0 := Aside0.mk h0
  clear ha hb h0
  go_enter Try.func6, Try.ntmps6
  go_wp2_with fail
  refine (new_calls w).mono ?_
  rintro e w1 ⟨g, rfl, hg, hf, hb⟩
  have HF0 := Aside0.mk (FieldAt.mk hf)
  have HB0 := Aside0.mk hb
  clear hf hb hg
  go_wp2_with fail
  refine (known_calls w1).mono ?_
  rintro e w2 ⟨rfl, hb⟩
  have HF := Aside0.mk (HF0.out.below hb)
  have HB := Aside0.mk (below_step HB0.out hb)
  clear hb HB0 HF0
  go_wp2_with fail
  refine (invI g _ _ HA.out H0.out (FieldAt.mk (by exact HF.out.out))).mono ?_
  rintro e w3 ⟨rfl, ⟨n0x, rfl⟩⟩
  go_wp2_with fail
  refine (refInv _ _ HA.out H0.out).mono ?_
  rintro e w3 ⟨rfl, ⟨n1x, rfl⟩⟩
  go_wp2_with fail
  refine (divIz g _ _ _ HA.out rfl (FieldAt.mk (by exact HF.out.out))).mono ?_
  rintro e w3 ⟨rfl, ⟨n2x, rfl⟩⟩
  go_wp2_with fail
  refine (refInv0 _).mono ?_
  rintro e w3 ⟨rfl, ⟨n3x, rfl⟩⟩
  go_wp2_with fail
  refine (logI g _ _ HA.out H0.out (FieldAt.mk (by exact HF.out.out))).mono ?_
  rintro e w3 ⟨rfl, ⟨n4x, rfl⟩⟩
  go_wp2_with fail
  refine (refLog _ _ HA.out H0.out).mono ?_
  rintro e w3 ⟨rfl, ⟨n5x, rfl⟩⟩
  go_wp2_with fail
  refine (addI _ _ _ _ HA.out (by unfold By; omega)).mono ?_
  rintro e w3 ⟨rfl, ⟨n6x, rfl⟩⟩
  go_wp2_with fail
  refine (mulI g _ _ _ HA.out (by unfold By; omega) (FieldAt.mk (by exact HF.out.out))).mono ?_
  rintro e w3 ⟨rfl, ⟨n7x, rfl⟩⟩
  go_wp2_with fail
  refine (refMul _ _ _ HA.out (by unfold By; omega)).mono ?_
  rintro e w3 ⟨rfl, ⟨n8x, rfl⟩⟩
  go_wp2_with fail
  refine (expI g _ _ (FieldAt.mk (by exact HF.out.out))).mono ?_
  rintro e w3 ⟨rfl, ⟨n9x, rfl⟩⟩
  go_wp2_with fail
  refine (refExp _ _).mono ?_
  rintro e w3 ⟨rfl, ⟨n10x, rfl⟩⟩
  go_wp2
  go_ret
  exact ⟨rfl, by repeat (first | exact HB.out | apply pw_below_drewN)⟩
set_option maxHeartbeats 8000000 in
set_option maxRecDepth 100000 in
theorem walk_10 (b n : Int) (w : World) (hb : By b) (h1 : b ≠ 0) : Calls Try.prog 6 #[.int .u8 0, .int .u8 b, .int .i64 n] w fun e w' => e = .returned (.bool true) ∧ Below w.heap.size w w' := by
  have ha : By (0 : Int) := by unfold By; omega
  have f0 : (xI (0 : Int) b == Go.bits .xor .u8 (0 : Int) b) = true := beq_iff_eq.2 (xor_bits ha hb).symm
  have f1 : (qI (0 : Int) b == gI (0 : Int) (iI b)) = true := beq_iff_eq.2 (qI_eq hb h1)
  have HBy := Aside0.mk hb
  have H1 := Aside0.mk h1
  clear ha hb h1
  go_enter Try.func6, Try.ntmps6
  go_wp2_with fail
  refine (new_calls w).mono ?_
  rintro e w1 ⟨g, rfl, hg, hf, hb⟩
  have HF0 := Aside0.mk (FieldAt.mk hf)
  have HB0 := Aside0.mk hb
  clear hf hb hg
  go_wp2_with fail
  refine (known_calls w1).mono ?_
  rintro e w2 ⟨rfl, hb⟩
  have HF := Aside0.mk (HF0.out.below hb)
  have HB := Aside0.mk (below_step HB0.out hb)
  clear hb HB0 HF0
  go_wp2_with fail
  refine (invI0 g _ (FieldAt.mk (by exact HF.out.out))).mono ?_
  rintro e w3 ⟨rfl, ⟨n0x, rfl⟩⟩
  go_wp2_with fail
  refine (refInv0 _).mono ?_
  rintro e w3 ⟨rfl, ⟨n1x, rfl⟩⟩
  go_wp2_with fail
  refine (divI g _ _ _ (by unfold By; omega) HBy.out H1.out (FieldAt.mk (by exact HF.out.out))).mono ?_
  rintro e w3 ⟨rfl, ⟨n2x, rfl⟩⟩
  go_wp2_with fail
  refine (refInv _ _ HBy.out H1.out).mono ?_
  rintro e w3 ⟨rfl, ⟨n3x, rfl⟩⟩
  go_wp2_with fail
  refine (refMul _ _ _ (by unfold By; omega) (iI_by _)).mono ?_
  rintro e w3 ⟨rfl, ⟨n4x, rfl⟩⟩
  go_wp2_with fail
  refine (logI0 g _ (FieldAt.mk (by exact HF.out.out))).mono ?_
  rintro e w3 ⟨rfl, ⟨n5x, rfl⟩⟩
  go_wp2_with fail
  refine (refLog0 _).mono ?_
  rintro e w3 ⟨rfl, ⟨n6x, rfl⟩⟩
  go_wp2_with fail
  refine (addI _ _ _ _ (by unfold By; omega) HBy.out).mono ?_
  rintro e w3 ⟨rfl, ⟨n7x, rfl⟩⟩
  go_wp2_with fail
  refine (mulI g _ _ _ (by unfold By; omega) HBy.out (FieldAt.mk (by exact HF.out.out))).mono ?_
  rintro e w3 ⟨rfl, ⟨n8x, rfl⟩⟩
  go_wp2_with fail
  refine (refMul _ _ _ (by unfold By; omega) HBy.out).mono ?_
  rintro e w3 ⟨rfl, ⟨n9x, rfl⟩⟩
  go_wp2_with fail
  refine (expI g _ _ (FieldAt.mk (by exact HF.out.out))).mono ?_
  rintro e w3 ⟨rfl, ⟨n10x, rfl⟩⟩
  go_wp2_with fail
  refine (refExp _ _).mono ?_
  rintro e w3 ⟨rfl, ⟨n11x, rfl⟩⟩
  go_wp2
  go_ret
  exact ⟨rfl, by repeat (first | exact HB.out | apply pw_below_drewN)⟩
set_option maxHeartbeats 8000000 in
set_option maxRecDepth 100000 in
theorem walk_11 (n : Int) (w : World) : Calls Try.prog 6 #[.int .u8 0, .int .u8 0, .int .i64 n] w fun e w' => e = .returned (.bool true) ∧ Below w.heap.size w w' := by
  have ha : By (0 : Int) := by unfold By; omega
  have hb : By (0 : Int) := by unfold By; omega
  have f0 : (xI (0 : Int) (0 : Int) == Go.bits .xor .u8 (0 : Int) (0 : Int)) = true := beq_iff_eq.2 (xor_bits ha hb).symm
  clear ha hb
  go_enter Try.func6, Try.ntmps6
  go_wp2_with fail
  refine (new_calls w).mono ?_
  rintro e w1 ⟨g, rfl, hg, hf, hb⟩
  have HF0 := Aside0.mk (FieldAt.mk hf)
  have HB0 := Aside0.mk hb
  clear hf hb hg
  go_wp2_with fail
  refine (known_calls w1).mono ?_
  rintro e w2 ⟨rfl, hb⟩
  have HF := Aside0.mk (HF0.out.below hb)
  have HB := Aside0.mk (below_step HB0.out hb)
  clear hb HB0 HF0
  go_wp2_with fail
  refine (invI0 g _ (FieldAt.mk (by exact HF.out.out))).mono ?_
  rintro e w3 ⟨rfl, ⟨n0x, rfl⟩⟩
  go_wp2_with fail
  refine (refInv0 _).mono ?_
  rintro e w3 ⟨rfl, ⟨n1x, rfl⟩⟩
  go_wp2_with fail
  refine (divIz g _ _ _ (by unfold By; omega) rfl (FieldAt.mk (by exact HF.out.out))).mono ?_
  rintro e w3 ⟨rfl, ⟨n2x, rfl⟩⟩
  go_wp2_with fail
  refine (refInv0 _).mono ?_
  rintro e w3 ⟨rfl, ⟨n3x, rfl⟩⟩
  go_wp2_with fail
  refine (logI0 g _ (FieldAt.mk (by exact HF.out.out))).mono ?_
  rintro e w3 ⟨rfl, ⟨n4x, rfl⟩⟩
  go_wp2_with fail
  refine (refLog0 _).mono ?_
  rintro e w3 ⟨rfl, ⟨n5x, rfl⟩⟩
  go_wp2_with fail
  refine (addI _ _ _ _ (by unfold By; omega) (by unfold By; omega)).mono ?_
  rintro e w3 ⟨rfl, ⟨n6x, rfl⟩⟩
  go_wp2_with fail
  refine (mulI g _ _ _ (by unfold By; omega) (by unfold By; omega) (FieldAt.mk (by exact HF.out.out))).mono ?_
  rintro e w3 ⟨rfl, ⟨n7x, rfl⟩⟩
  go_wp2_with fail
  refine (refMul _ _ _ (by unfold By; omega) (by unfold By; omega)).mono ?_
  rintro e w3 ⟨rfl, ⟨n8x, rfl⟩⟩
  go_wp2_with fail
  refine (expI g _ _ (FieldAt.mk (by exact HF.out.out))).mono ?_
  rintro e w3 ⟨rfl, ⟨n9x, rfl⟩⟩
  go_wp2_with fail
  refine (refExp _ _).mono ?_
  rintro e w3 ⟨rfl, ⟨n10x, rfl⟩⟩
  go_wp2
  go_ret
  exact ⟨rfl, by repeat (first | exact HB.out | apply pw_below_drewN)⟩
theorem walk (a b n : Int) (w : World) (w0 : (Lit.int .u8 a).wf = true) (w1 : (Lit.int .u8 b).wf = true) (w2 : (Lit.int .i64 n).wf = true) : Calls Try.prog 6 #[.int .u8 a, .int .u8 b, .int .i64 n] w fun e w' => e = .returned (.bool true) ∧ Below w.heap.size w w' := by
  have ha := by_wf w0
  have hb := by_wf w1
  by_cases h0 : a = 0 <;> by_cases h1 : b = 0
  · subst h0 h1
    exact walk_11 n w
  · subst h0
    exact walk_10 b n w hb h1
  · subst h1
    exact walk_01 a n w ha h0
  · exact walk_00 a b n w ha h0 hb h1
end HandFieldTells
def corbellaw3_FieldTells.Pure : Prop := True
theorem corbellaw3_FieldTells.walk (P : corbellaw3_FieldTells.Pure) (a0 : Int) (a1 : Int) (a2 : Int) (w : World) (w0 : (Lit.int .u8 a0).wf = true) (w1 : (Lit.int .u8 a1).wf = true) (w2 : (Lit.int .i64 a2).wf = true) :
    Calls Try.prog 6 #[.int .u8 a0, .int .u8 a1, .int .i64 a2] w fun e w' => e = .returned (.bool true) ∧ Below w.heap.size w w' := HandFieldTells.walk a0 a1 a2 w w0 w1 w2

end Go.Proofs.Ytnjeafdbifcfhaa.PFieldTells
