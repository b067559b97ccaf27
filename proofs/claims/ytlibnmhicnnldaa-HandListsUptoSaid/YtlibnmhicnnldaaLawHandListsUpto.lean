/- An open law's row, by the law's forward run. -/
import Derived.Test.YtlibnmhicnnldaaRows
import Derived.Test.YtlibnmhicnnldaaDenOpen
import Derived.Test.YtlibnmhicnnldaaFHand
import Derived.Test.YtlibnmhicnnldaaDenTrue8
import Derived.Test.YtlibnmhicnnldaaPureHandLists
import Derived.WalkKit
import Derived.ProofKit
import Derived.OpenShut
import Derived.ShutString
import Derived.ChangeOld
import Derived.Below
import Derived.SizedLaws
import Derived.JoinedCond
import Derived.Deep.CondSized
import Derived.Test.YtlibnmhicnnldaaDenOpU
namespace Go.Proofs.Ytlibnmhicnnldaa.handLists
open Go.ChangeShapes Go.WideShapes Go.ChangeAt Go.RowKit Den
set_option linter.unusedVariables false
theorem own : ownKnob Try.prog.godebug = none := by kernel_rfl
theorem laidOut : laidOutB Try.prog = true := by kernel_rfl
set_option maxRecDepth 100000 in
theorem opens0 : U.DOb Try.prog 41 (RSl 5 (RPair (RInt .i64) (RPair (RInt .i64) (RPair (RInt .i64) (RPair (RSl 1 (RInt .u8)) RStr))))) (fun x => x.length * Try.prog.bytesOf 57 ≤ reachBytes ∧ x.length ≤ maxLen ∧ ∀ x0 ∈ x, ((Lit.int .i64 x0.1).wf = true) ∧ ((Lit.int .i64 x0.2.1).wf = true) ∧ ((Lit.int .i64 x0.2.2.1).wf = true) ∧ (x0.2.2.2.1.length * Try.prog.bytesOf 5 ≤ reachBytes ∧ x0.2.2.2.1.length ≤ maxLen ∧ ∀ x1 ∈ x0.2.2.2.1, (Lit.int .u8 x1).wf = true) ∧ x0.2.2.2.2.size ≤ 1048576) := (U.DOb.slice Try.underlying41 (by kernel_rfl) (by decide) (U.DOb.struct (sz := 5) Try.underlying57 (by kernel_rfl) (U.DFields.field (f := _) (U.DOb.int Try.underlying3) (by kernel_rfl) (U.DFields.field (f := _) (U.DOb.int Try.underlying3) (by kernel_rfl) (U.DFields.field (f := _) (U.DOb.int Try.underlying3) (by kernel_rfl) (U.DFields.field (f := _) (U.DOb.slice Try.underlying25 (by kernel_rfl) (by decide) (U.DOb.int Try.underlying5)) (by kernel_rfl) (U.DFields.last (f := _) (U.DOb.string Try.underlying9))))))))
set_option maxRecDepth 100000 in
theorem opens1 : U.DOb Try.prog 3 (RInt .i64) (fun x => (Lit.int .i64 x).wf = true) := (U.DOb.int Try.underlying3)
theorem xb : Bodied Try.prog (seatX [8]) := seatX_bodied (by kernel_rfl)
theorem xs : Sound Try.prog (seatX [8]) := seatX_sound fun k hk => by
  rcases List.mem_cons.1 hk with rfl | hk
  · exact true8
  exact absurd hk List.not_mem_nil
theorem contract (H : Type) (enc : TypeId × Value → H) (W : World) (base : Nat) (args : Array Value) (ds gs : List (DataW H)) (before : List MemPlace)
    (hval0 : ∀ (j : Nat) t v, Try.f5.params[j]? = some t → args[j]? = some v → Value.okWide Try.prog W .any base t v)
    (hW : DataW.Whole enc Try.prog Try.f5.params.toList Rows.handListsSpec.vars false W args.toList ds gs before) (hk : Rows.uptoSmall H (ds ++ gs) = true)
    (hsz0 : (DataW.weightsEach Try.prog (Try.f5.params.toList ++ Rows.handListsSpec.plain.varTypes Try.prog) (ds ++ gs)).all (· ≤ reachBytes) = true) :
    Calls Try.prog 5 args W fun e W' => ∃ v, e = .returned v ∧ Rows.handListsSpec.post enc Try.prog Try.f5 false true false false W args v W' := by
  have hsz : (DataW.weightsEach Try.prog (Try.f5.params.toList ++ Rows.handListsSpec.plain.varTypes Try.prog) (ds ++ gs)).all (· ≤ reachBytes) = true := hsz0
  have hval : ∀ (j : Nat) t v, Try.f5.params[j]? = some t → args[j]? = some v → Value.okWide Try.prog W .any base t v := hval0
  have hW' := hW
  obtain ⟨p, q, hA0, hV, rfl, hfz, hnd⟩ := hW
  have hA : DataW.TrodAll enc Try.prog W 0 (fun _ => true) true Try.f5.params.toList args.toList ds p := hA0
  rw [Try.params5] at hA hval hsz
  obtain ⟨v0, vs0, d0, ds0, p0, q0, hargs, rfl, rfl, h0, r0⟩ := trodAll_cons hA
  obtain ⟨v1, vs1, d1, ds1, p1, q1, rfl, rfl, rfl, h1, r1⟩ := trodAll_cons r0
  obtain ⟨rfl, rfl, rfl⟩ := trodAll_nil r1
  obtain rfl : args = #[v0, v1] := by cases args; simp_all
  obtain ⟨rfl, rfl⟩ := trodVars_none hV
  have wt := U.wt_each _ _ hsz (of_decide_eq_true hk)
  obtain ⟨a0, l0, c0, rfl⟩ := okWide_slice Try.underlying41 (hval 0 41 v0 rfl rfl)
  have k0 := h0
  have lt0 : ∀ x ∈ p0, x.block < W.heap.size := by obtain ⟨m, hm⟩ := k0; exact DataW.trod_lt m _ _ _ hm
  obtain ⟨fu0, hf0⟩ := h0
  have wt0 : U.Wt Try.prog 41 d0 := wt 0 _ _ rfl rfl
  obtain ⟨n1, rfl⟩ := okWide_int Try.underlying3 (hval 1 3 v1 rfl rfl)
  have k1 := h1
  have lt1 : ∀ x ∈ p1, x.block < W.heap.size := by obtain ⟨m, hm⟩ := k1; exact DataW.trod_lt m _ _ _ hm
  obtain ⟨fu1, hf1⟩ := h1
  have wt1 : U.Wt Try.prog 3 d1 := wt 1 _ _ rfl rfl
  clear hA0 hval0 hsz0 hsz
  refine (U.open_calls xb xs (Fwd.corbellaw23_HandLists.told (xok (by decide)) (trueX_ok rfl) 2000000) (R := Ar.HandLists.R) (q := Ar.HandLists.Q) (args' := [.slice a0 l0 c0, .int .i64 n1]) ?_ Pure.HandLists).mono fun e W' ⟨he, bel⟩ => ?_
  · exact U.DArgs.cons opens0 hf0 wt0 (U.DArgs.cons opens1 hf1 wt1 (U.DArgs.nil))
  subst he
  exact ⟨_, rfl, _, _, _, [], _, [], hW', trodAll_mk1 (shut_bool Try.underlying4 _), (trodAll_cons_mk (Below.trod laidOut (by kernel_rfl) (of_decide_eq_true (by kernel_rfl)) k0 bel lt0) (trodAll_cons_mk (Below.trod laidOut (by kernel_rfl) (of_decide_eq_true (by kernel_rfl)) k1 bel lt1) trodAll_mk0)), rfl, bel.frame _, fun h => by cases h⟩
set_option maxRecDepth 100000 in
theorem lifted (os : Os) (started : os.Started) (H : Type) (enc : TypeId × Value → H) (F : Stop.Interp) :
    ReturnsInHanded {} Try.checked os 5 .any ((Rows.OpenSpec.upto Rows.handListsSpec).pre6 enc Try.prog Try.f5 Rows.handListsUptoRow.domain false) (((Rows.OpenSpec.upto Rows.handListsSpec).at F).post enc Try.prog Try.f5 false true false false) := by
  refine returnsInHanded_of_cond_sized (C := Try.checked) (s := Rows.OpenSpec.upto Rows.handListsSpec) (k := Rows.uptoSmall) rfl own started (by kernel_rfl) Try.func5
    (OpenSpec.witness (enc := enc) (C := Try.checked) (s := Rows.OpenSpec.upto Rows.handListsSpec) (k := Rows.uptoSmall) rfl false ⟨#[], #[.slice none 0 0, .int .i64 0], []⟩ 8 (by kernel_rfl) (by kernel_rfl) (by kernel_rfl)
      (x := ([.nil, .lit (.int .i64 0)], [], [])) (by kernel_rfl) rfl (by kernel_rfl)) ?_
  intro W base args ds gs before hval hW _ hk hsz _
  exact contract H enc W base args ds gs before hval hW hk hsz
theorem over : Rows.handListsUptoRow.holds Try.pinned (Rows.OpenSpec.upto Rows.handListsSpec) :=
  OpenClaim.holds_of_cond 5 Try.f5 rfl rfl rfl rfl rfl rfl rfl ⟨rfl, rfl, rfl, rfl, rfl⟩ rfl rfl rfl rfl rfl (by kernel_rfl) Try.func5 (by kernel_rfl)
    (of_decide_eq_true (by kernel_rfl)) (by unfold Func.isWrapper; first | (rw [if_pos (by decide +kernel)]; kernel_rfl) | (rw [if_neg (by decide +kernel)]; exact ⟨rfl, rfl⟩))
    (fun os started H enc _ F => lifted os started H enc F)
theorem proved : Rows.HandListsUptoSaid := over
end Go.Proofs.Ytlibnmhicnnldaa.handLists
namespace Go.Proofs.Ytlibnmhicnnldaa
/-- The row, under a short name, for the claim. -/
theorem handListsUpto_holds : Rows.HandListsUptoSaid := handLists.proved
end Go.Proofs.Ytlibnmhicnnldaa
