/- The walk of FieldLaws: whatever the bytes and numbers, the law returns true; nothing that was there has turned. No condition. -/
import Derived.Test.YtnjeafdbifcfhaaFld
import Derived.Outline
namespace Go.Proofs.Ytnjeafdbifcfhaa.FL10
open Go.RowKit Go.Proofs.Ytnjeafdbifcfhaa.Fld Go.Proofs.YtnjeafdbifcfhaaW.PrintWords Go.Proofs.YtnjeafdbifcfhaaW.PrintLast Go.Proofs.YtnjeafdbifcfhaaW.PrintMore
set_option linter.unusedVariables false
set_option linter.unusedSimpArgs false
theorem by_wf {a : Int} (h : (Lit.int .u8 a).wf = true) : By a := by
  have hx : 0 ≤ a ∧ a ≤ 255 := by simpa [Lit.wf, IntKind.min, IntKind.max, IntKind.signed, IntKind.bits] using h
  exact ⟨hx.1, by omega⟩

set_option maxHeartbeats 8000000 in
set_option maxRecDepth 100000 in
theorem walk_10 (b c n m : Int) (w : World) (hc : By c) (hb : By b) (h1 : b ≠ 0) : Calls Try.prog 7 #[.int .u8 0, .int .u8 b, .int .u8 c, .int .i64 n, .int .i64 m] w fun e w' => e = .returned (.bool true) ∧ Below w.heap.size w w' := by
  have ha : By (0 : Int) := by unfold By; omega
  have f1 : (gI (0 : Int) b == gI b (0 : Int)) = true := beq_iff_eq.2 (gI_comm _ _)
  have f2 : (gI (0 : Int) (gI b c) == gI (gI (0 : Int) b) c) = true := beq_iff_eq.2 (gI_assoc ha hb hc)
  have f3 : (gI (0 : Int) (xI b c) == xI (gI (0 : Int) b) (gI (0 : Int) c)) = true := beq_iff_eq.2 (gI_add ha hb hc)
  have f4 : (gI (0 : Int) 1 == (0 : Int)) = true := beq_iff_eq.2 (gI_one ha)
  have f5 : (xI (0 : Int) (0 : Int) == 0) = true := beq_iff_eq.2 (xI_self _)
  have f8 : (gI (eI (n.tmod 100000)) (eI (m.tmod 100000)) == eI (n.tmod 100000 + m.tmod 100000)) = true := beq_iff_eq.2 (eI_add _ _)
  have n1 := Int.tmod_lt_of_pos n (show (0 : Int) < 100000 by omega)
  have n2 : -100000 < n.tmod 100000 := by have := Int.lt_tmod_of_pos n (show (0 : Int) < 100000 by omega); omega
  have m1 := Int.tmod_lt_of_pos m (show (0 : Int) < 100000 by omega)
  have m2 : -100000 < m.tmod 100000 := by have := Int.lt_tmod_of_pos m (show (0 : Int) < 100000 by omega); omega
  have g3 : (gI (0 : Int) b == 0) = true := beq_iff_eq.2 ((gI_z _ _ ha hb).2 (.inl rfl))
  have k1 : (b == 0) = false := beq_eq_false_iff_ne.2 h1
  have k2 : (b != 0) = true := by rw [bne_iff_ne]; exact h1
  have k3 : (gI (qI (0 : Int) b) b == (0 : Int)) = true := beq_iff_eq.2 (qI_back ha hb h1)
  have HBy := Aside0.mk hb
  have H1 := Aside0.mk h1
  have HC := Aside0.mk hc
  clear ha hb hc h1
  go_enter Try.func7, Try.ntmps7
  go_wp2_with fail
  refine (new_calls w).mono ?_
  rintro e w1 ⟨g, rfl, hg, hf, hb⟩
  have HF0 := Aside0.mk (FieldAt.mk hf)
  have HB0 := Aside0.mk hb
  clear hf hb hg
  go_wp2_with fail
  refine (known_calls w1).mono ?_
  rintro e w2 ⟨rfl, hb⟩
  have HF := Aside0.mk (HF0.out.below hb)
  have HB := Aside0.mk (below_step HB0.out hb)
  clear hb HB0 HF0
  go_wp2_with fail
  refine (divI g _ _ _ (by unfold By; omega) HBy.out H1.out (FieldAt.mk (by exact HF.out.out))).mono ?_
  rintro e w3 ⟨rfl, ⟨n0x, rfl⟩⟩
  go_wp2_with fail
  refine (logIz g _ _ rfl (FieldAt.mk (by exact HF.out.out))).mono ?_
  rintro e w3 ⟨rfl, ⟨n1x, rfl⟩⟩
  go_wp2_with fail
  refine (mulI g _ _ _ (by unfold By; omega) HBy.out (FieldAt.mk (by exact HF.out.out))).mono ?_
  rintro e w3 ⟨rfl, ⟨n2x, rfl⟩⟩
  go_wp2_with fail
  refine (mulI g _ _ _ HBy.out (by unfold By; omega) (FieldAt.mk (by exact HF.out.out))).mono ?_
  rintro e w3 ⟨rfl, ⟨n3x, rfl⟩⟩
  go_wp2_with fail
  refine (mulI g _ _ _ HBy.out HC.out (FieldAt.mk (by exact HF.out.out))).mono ?_
  rintro e w3 ⟨rfl, ⟨n4x, rfl⟩⟩
  go_wp2_with fail
  refine (mulI g _ _ _ (by unfold By; omega) (gI_by _ _) (FieldAt.mk (by exact HF.out.out))).mono ?_
  rintro e w3 ⟨rfl, ⟨n5x, rfl⟩⟩
  go_wp2_with fail
  refine (mulI g _ _ _ (by unfold By; omega) HBy.out (FieldAt.mk (by exact HF.out.out))).mono ?_
  rintro e w3 ⟨rfl, ⟨n6x, rfl⟩⟩
  go_wp2_with fail
  refine (mulI g _ _ _ (gI_by _ _) HC.out (FieldAt.mk (by exact HF.out.out))).mono ?_
  rintro e w3 ⟨rfl, ⟨n7x, rfl⟩⟩
  go_wp2_with fail
  refine (addI _ _ _ _ HBy.out HC.out).mono ?_
  rintro e w3 ⟨rfl, ⟨n8x, rfl⟩⟩
  go_wp2_with fail
  refine (mulI g _ _ _ (by unfold By; omega) (xI_by _ _ HBy.out HC.out) (FieldAt.mk (by exact HF.out.out))).mono ?_
  rintro e w3 ⟨rfl, ⟨n9x, rfl⟩⟩
  go_wp2_with fail
  refine (mulI g _ _ _ (by unfold By; omega) HBy.out (FieldAt.mk (by exact HF.out.out))).mono ?_
  rintro e w3 ⟨rfl, ⟨n10x, rfl⟩⟩
  go_wp2_with fail
  refine (mulI g _ _ _ (by unfold By; omega) HC.out (FieldAt.mk (by exact HF.out.out))).mono ?_
  rintro e w3 ⟨rfl, ⟨n11x, rfl⟩⟩
  go_wp2_with fail
  refine (addI _ _ _ _ (gI_by _ _) (gI_by _ _)).mono ?_
  rintro e w3 ⟨rfl, ⟨n12x, rfl⟩⟩
  go_wp2_with fail
  refine (mulI g _ _ _ (by unfold By; omega) (by unfold By; omega) (FieldAt.mk (by exact HF.out.out))).mono ?_
  rintro e w3 ⟨rfl, ⟨n13x, rfl⟩⟩
  go_wp2_with fail
  refine (addI _ _ _ _ (by unfold By; omega) (by unfold By; omega)).mono ?_
  rintro e w3 ⟨rfl, ⟨n14x, rfl⟩⟩
  go_wp2_with fail
  refine (mulI g _ _ _ (qI_by _ _) HBy.out (FieldAt.mk (by exact HF.out.out))).mono ?_
  rintro e w3 ⟨rfl, ⟨n15x, rfl⟩⟩
  go_wp2_with fail
  refine (expI g _ _ (FieldAt.mk (by exact HF.out.out))).mono ?_
  rintro e w3 ⟨rfl, ⟨n16x, rfl⟩⟩
  go_wp2_with fail
  refine (expI g _ _ (FieldAt.mk (by exact HF.out.out))).mono ?_
  rintro e w3 ⟨rfl, ⟨n17x, rfl⟩⟩
  go_wp2_with fail
  refine (mulI g _ _ _ (eI_by _) (eI_by _) (FieldAt.mk (by exact HF.out.out))).mono ?_
  rintro e w3 ⟨rfl, ⟨n18x, rfl⟩⟩
  go_wp2_with fail
  refine (expI g _ _ (FieldAt.mk (by exact HF.out.out))).mono ?_
  rintro e w3 ⟨rfl, ⟨n19x, rfl⟩⟩
  go_wp2_with fail
  all_goals first
    | (rename_i xx bb hh ht KK aa; cases hh; done)
    | skip
  refine (mulI g _ _ _ (by unfold By; omega) HBy.out (FieldAt.mk (by exact HF.out.out))).mono ?_
  rintro e w3 ⟨rfl, ⟨n20x, rfl⟩⟩
  go_wp2
  go_ret
  exact ⟨rfl, by repeat (first | exact HB.out | apply pw_below_drewN)⟩
end Go.Proofs.Ytnjeafdbifcfhaa.FL10
