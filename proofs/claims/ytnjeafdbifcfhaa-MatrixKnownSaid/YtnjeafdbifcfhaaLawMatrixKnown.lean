/- A closed law's row, by the small machine: it reads nothing, and comes to true. -/
import Derived.Test.YtnjeafdbifcfhaaRows
import Derived.Test.YtnjeafdbifcfhaaDenS
import Derived.WalkKit
import Derived.ProofKit
import Derived.OpenShut
import Derived.ShutString
import Derived.ChangeOld
import Derived.Below
import Derived.SizedLaws
namespace Go.Proofs.Ytnjeafdbifcfhaa.matrixKnown
open Go.ChangeShapes Go.WideShapes Go.ChangeAt Go.RowKit
set_option linter.unusedVariables false
theorem own : ownKnob Try.prog.godebug = none := by kernel_rfl
def apart (P : Program) : Bool := P.funcs.toList.all fun fn => !(fn.name == "runtime.NumGoroutine")
theorem named : Den.Named Try.prog := by
  have h : apart Try.prog = true := by kernel_rfl
  intro k fn hk
  have hm : fn ∈ Try.prog.funcs.toList := by
    rw [← Array.getElem?_toList] at hk
    exact List.mem_of_getElem? hk
  have := List.all_eq_true.1 h fn hm
  cases hq : (fn.name == "runtime.NumGoroutine") with
  | false => rfl
  | true => rw [hq] at this; cases this
def told : Option (Value × Den.H) → Bool
  | some (.bool true, _) => true
  | _ => false
theorem told_true : ∀ {o : Option (Value × Den.H)}, told o = true → ∃ h, o = some (.bool true, h)
  | some (.bool true, h), _ => ⟨h, rfl⟩
set_option maxRecDepth 100000 in
theorem ran : told (Den.dcall Try.prog 3000 30 8 [] Den.H.empty) = true := by kernel_rfl
theorem walk (w : World) : Calls Try.prog 8 #[] w fun e w' => e = .returned (.bool true) ∧ Below w.heap.size w w' := by
  obtain ⟨h, e⟩ := told_true ran
  exact Den.run_calls (Checked.mixed Try.checked) named 3000 30 e rfl w
set_option maxRecDepth 100000 in
theorem lifted (os : Os) (started : os.Started) (H : Type) (enc : TypeId × Value → H) :
    ReturnsInHanded {} Try.checked os 8 .any (Rows.matrixKnownSpec.pre6 enc Try.prog Try.f8 Rows.matrixKnownRow.domain false) (Rows.matrixKnownSpec.post enc Try.prog Try.f8 false true false false) := by
  refine returnsInHanded_of_change_sized (C := Try.checked) own started (by kernel_rfl) Try.func8
    (ChangeSpec.witness6 (enc := enc) (C := Try.checked) false ⟨#[], #[], []⟩ 8 (by kernel_rfl) (by kernel_rfl) (by kernel_rfl) (by kernel_rfl)) ?_
  intro W base args ds gs before hval0 hW hcnd hsz0 _
  have hW' := hW
  obtain ⟨p, q, hA0, hV, rfl, hfz, hnd⟩ := hW
  have hA : DataW.TrodAll enc Try.prog W 0 (fun _ => true) true Try.f8.params.toList args.toList ds p := hA0
  rw [Try.params8] at hA
  obtain ⟨rfl, rfl, rfl⟩ := trodAll_none hA
  obtain ⟨rfl, rfl⟩ := trodVars_none hV
  clear hA0 hval0 hsz0
  refine (walk W).mono fun e W' ⟨he, bel⟩ => ?_
  subst he
  exact ⟨_, rfl, _, _, _, [], _, [], hW', trodAll_mk1 (shut_bool Try.underlying4 _), trodAll_mk0, rfl, bel.frame _, fun h => by cases h⟩
theorem over : Rows.matrixKnownRow.holds Try.pinned (OpenSpec.ofChange Rows.matrixKnownSpec) :=
  OpenClaim.holds_of_wide 8 Try.f8 rfl rfl rfl rfl rfl rfl rfl ⟨rfl, rfl, rfl, rfl, rfl⟩ rfl rfl rfl rfl rfl (by kernel_rfl) Try.func8 (by kernel_rfl)
    (of_decide_eq_true (by kernel_rfl)) (by unfold Func.isWrapper; first | (rw [if_pos (by decide +kernel)]; kernel_rfl) | (rw [if_neg (by decide +kernel)]; exact ⟨rfl, rfl⟩))
    (fun os started H enc _ => lifted os started H enc)
theorem proved : Rows.MatrixKnownSaid := over
end Go.Proofs.Ytnjeafdbifcfhaa.matrixKnown
namespace Go.Proofs.Ytnjeafdbifcfhaa
/-- The row, under a short name, for the claim. -/
theorem matrixKnown_holds : Rows.MatrixKnownSaid := matrixKnown.proved
end Go.Proofs.Ytnjeafdbifcfhaa
