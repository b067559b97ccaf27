/- An open law's row, by the law's forward run. -/
import Derived.Test.YtfenkpghcbohdaaRows
import Derived.Test.YtfenkpghcbohdaaDenOpen
import Derived.Test.YtfenkpghcbohdaaPdFTree
import Derived.Test.YtfenkpghcbohdaaPdDenTrue49
import Derived.Test.YtfenkpghcbohdaaPdPureTreeActs
import Derived.WalkKit
import Derived.ProofKit
import Derived.OpenShut
import Derived.ShutString
import Derived.ChangeOld
import Derived.Below
import Derived.SizedLaws
namespace Go.Proofs.Ytfenkpghcbohdaa.treeActs
open Go.ChangeShapes Go.WideShapes Go.ChangeAt Go.RowKit Den
set_option linter.unusedVariables false
theorem own : ownKnob Try.prog.godebug = none := by kernel_rfl
theorem laidOut : laidOutB Try.prog = true := by kernel_rfl
set_option maxRecDepth 100000 in
theorem opens0 : DOb Try.prog 76 (RSl 6 (RPair (RInt .i64) (RPair (RInt .i64) (RPair (RInt .i64) (RPair (RInt .i64) (RPair (RInt .i64) RStr)))))) (fun x => x.length * Try.prog.bytesOf 79 ≤ reachBytes ∧ x.length ≤ maxLen ∧ ∀ x0 ∈ x, ((Lit.int .i64 x0.1).wf = true) ∧ ((Lit.int .i64 x0.2.1).wf = true) ∧ ((Lit.int .i64 x0.2.2.1).wf = true) ∧ ((Lit.int .i64 x0.2.2.2.1).wf = true) ∧ ((Lit.int .i64 x0.2.2.2.2.1).wf = true) ∧ x0.2.2.2.2.2.size ≤ reachBytes) := (DOb.slice Try.underlying76 (by kernel_rfl) (by decide) (DOb.struct (sz := 6) Try.underlying79 (by kernel_rfl) (DFields.field (f := _) (DOb.int Try.underlying3) (by kernel_rfl) (DFields.field (f := _) (DOb.int Try.underlying3) (by kernel_rfl) (DFields.field (f := _) (DOb.int Try.underlying3) (by kernel_rfl) (DFields.field (f := _) (DOb.int Try.underlying3) (by kernel_rfl) (DFields.field (f := _) (DOb.int Try.underlying3) (by kernel_rfl) (DFields.last (f := _) (DOb.string Try.underlying9)))))))))
set_option maxRecDepth 100000 in
theorem opens1 : DOb Try.prog 3 (RInt .i64) (fun x => (Lit.int .i64 x).wf = true) := (DOb.int Try.underlying3)
theorem xb : Bodied Try.prog (seatX [49]) := seatX_bodied (by kernel_rfl)
theorem xs : Sound Try.prog (seatX [49]) := seatX_sound fun k hk => by
  rcases List.mem_cons.1 hk with rfl | hk
  · exact true49
  exact absurd hk List.not_mem_nil
set_option maxRecDepth 100000 in
theorem lifted (os : Os) (started : os.Started) (H : Type) (enc : TypeId × Value → H) :
    ReturnsInHanded {} Try.checked os 16 .any (Rows.treeActsSpec.pre6 enc Try.prog Try.f16 Rows.treeActsRow.domain false) (Rows.treeActsSpec.post enc Try.prog Try.f16 false true false false) := by
  refine returnsInHanded_of_change_sized (C := Try.checked) own started (by kernel_rfl) Try.func16
    (ChangeSpec.witness6 (enc := enc) (C := Try.checked) false ⟨#[], #[.slice none 0 0, .int .i64 0], []⟩ 8 (by kernel_rfl) (by kernel_rfl) (by kernel_rfl) (by kernel_rfl)) ?_
  intro W base args ds gs before hval0 hW hcnd hsz0 _
  have hsz : (DataW.weightsEach Try.prog (Try.f16.params.toList ++ Rows.treeActsSpec.plain.varTypes Try.prog) (ds ++ gs)).all (· ≤ reachBytes) = true := hsz0
  have hval : ∀ (j : Nat) t v, Try.f16.params[j]? = some t → args[j]? = some v → Value.okWide Try.prog W .any base t v := hval0
  have hW' := hW
  obtain ⟨p, q, hA0, hV, rfl, hfz, hnd⟩ := hW
  have hA : DataW.TrodAll enc Try.prog W 0 (fun _ => true) true Try.f16.params.toList args.toList ds p := hA0
  rw [Try.params16] at hA hval hsz
  obtain ⟨v0, vs0, d0, ds0, p0, q0, hargs, rfl, rfl, h0, r0⟩ := trodAll_cons hA
  obtain ⟨v1, vs1, d1, ds1, p1, q1, rfl, rfl, rfl, h1, r1⟩ := trodAll_cons r0
  obtain ⟨rfl, rfl, rfl⟩ := trodAll_nil r1
  obtain rfl : args = #[v0, v1] := by cases args; simp_all
  obtain ⟨rfl, rfl⟩ := trodVars_none hV
  have wt := wt_each _ _ hsz
  obtain ⟨a0, l0, c0, rfl⟩ := okWide_slice Try.underlying76 (hval 0 76 v0 rfl rfl)
  have k0 := h0
  have lt0 : ∀ x ∈ p0, x.block < W.heap.size := by obtain ⟨m, hm⟩ := k0; exact DataW.trod_lt m _ _ _ hm
  obtain ⟨fu0, hf0⟩ := h0
  have wt0 : Wt Try.prog 76 d0 := wt 0 _ _ rfl rfl
  obtain ⟨n1, rfl⟩ := okWide_int Try.underlying3 (hval 1 3 v1 rfl rfl)
  have k1 := h1
  have lt1 : ∀ x ∈ p1, x.block < W.heap.size := by obtain ⟨m, hm⟩ := k1; exact DataW.trod_lt m _ _ _ hm
  obtain ⟨fu1, hf1⟩ := h1
  have wt1 : Wt Try.prog 3 d1 := wt 1 _ _ rfl rfl
  clear hA0 hval0 hsz0 hsz
  refine (open_calls xb xs (Fwd.corbellaw18_TreeActs.told (xok (by decide)) (trueX_ok rfl) ins_ok cmp_ok 281474976710656) (R := Ar.TreeActs.R) (q := Ar.TreeActs.Q) (args' := [.slice a0 l0 c0, .int .i64 n1]) ?_ Pure.TreeActs).mono fun e W' ⟨he, bel⟩ => ?_
  · exact DArgs.cons opens0 hf0 wt0 (DArgs.cons opens1 hf1 wt1 (DArgs.nil))
  subst he
  exact ⟨_, rfl, _, _, _, [], _, [], hW', trodAll_mk1 (shut_bool Try.underlying4 _), (trodAll_cons_mk (Below.trod laidOut (by kernel_rfl) (of_decide_eq_true (by kernel_rfl)) k0 bel lt0) (trodAll_cons_mk (Below.trod laidOut (by kernel_rfl) (of_decide_eq_true (by kernel_rfl)) k1 bel lt1) trodAll_mk0)), rfl, bel.frame _, fun h => by cases h⟩
theorem over : Rows.treeActsRow.holds Try.pinned (OpenSpec.ofChange Rows.treeActsSpec) :=
  OpenClaim.holds_of_wide 16 Try.f16 rfl rfl rfl rfl rfl rfl rfl ⟨rfl, rfl, rfl, rfl, rfl⟩ rfl rfl rfl rfl rfl (by kernel_rfl) Try.func16 (by kernel_rfl)
    (of_decide_eq_true (by kernel_rfl)) (by unfold Func.isWrapper; first | (rw [if_pos (by decide +kernel)]; kernel_rfl) | (rw [if_neg (by decide +kernel)]; exact ⟨rfl, rfl⟩))
    (fun os started H enc _ => lifted os started H enc)
theorem proved : Rows.TreeActsSaid := over
end Go.Proofs.Ytfenkpghcbohdaa.treeActs
namespace Go.Proofs.Ytfenkpghcbohdaa
/-- The row, under a short name, for the claim. -/
theorem treeActs_holds : Rows.TreeActsSaid := treeActs.proved
end Go.Proofs.Ytfenkpghcbohdaa
