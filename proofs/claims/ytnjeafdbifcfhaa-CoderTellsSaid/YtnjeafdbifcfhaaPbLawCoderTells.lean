/- An open law's row, by the law's forward run. -/
import Derived.Test.YtnjeafdbifcfhaaRows
import Derived.Test.YtnjeafdbifcfhaaDenOpen
import Derived.Test.YtnjeafdbifcfhaaPbFTel
import Derived.Test.YtnjeafdbifcfhaaPbDenTrue43
import Derived.Test.YtnjeafdbifcfhaaPbPureCoderTells
import Derived.WalkKit
import Derived.ProofKit
import Derived.OpenShut
import Derived.ShutString
import Derived.ChangeOld
import Derived.Below
import Derived.SizedLaws
namespace Go.Proofs.Ytnjeafdbifcfhaa.coderTells
open Go.ChangeShapes Go.WideShapes Go.ChangeAt Go.RowKit Den
set_option linter.unusedVariables false
theorem own : ownKnob Try.prog.godebug = none := by kernel_rfl
theorem laidOut : laidOutB Try.prog = true := by kernel_rfl
set_option maxRecDepth 100000 in
theorem opens0 : DOb Try.prog 3 (RInt .i64) (fun x => (Lit.int .i64 x).wf = true) := (DOb.int Try.underlying3)
set_option maxRecDepth 100000 in
theorem opens1 : DOb Try.prog 3 (RInt .i64) (fun x => (Lit.int .i64 x).wf = true) := (DOb.int Try.underlying3)
set_option maxRecDepth 100000 in
theorem opens2 : DOb Try.prog 62 (RSl 1 RBool) (fun x => x.length * Try.prog.bytesOf 4 ≤ reachBytes ∧ x.length ≤ maxLen ∧ ∀ x0 ∈ x, True) := (DOb.slice Try.underlying62 (by kernel_rfl) (by decide) (DOb.bool Try.underlying4))
set_option maxRecDepth 100000 in
theorem opens3 : DOb Try.prog 3 (RInt .i64) (fun x => (Lit.int .i64 x).wf = true) := (DOb.int Try.underlying3)
set_option maxRecDepth 100000 in
theorem opens4 : DOb Try.prog 3 (RInt .i64) (fun x => (Lit.int .i64 x).wf = true) := (DOb.int Try.underlying3)
set_option maxRecDepth 100000 in
theorem opens5 : DOb Try.prog 3 (RInt .i64) (fun x => (Lit.int .i64 x).wf = true) := (DOb.int Try.underlying3)
theorem xb : Bodied Try.prog (seatX [43]) := seatX_bodied (by kernel_rfl)
theorem xs : Sound Try.prog (seatX [43]) := seatX_sound fun k hk => by
  rcases List.mem_cons.1 hk with rfl | hk
  · exact true43
  exact absurd hk List.not_mem_nil
set_option maxRecDepth 100000 in
theorem lifted (os : Os) (started : os.Started) (H : Type) (enc : TypeId × Value → H) :
    ReturnsInHanded {} Try.checked os 14 .any (Rows.coderTellsSpec.pre6 enc Try.prog Try.f14 Rows.coderTellsRow.domain false) (Rows.coderTellsSpec.post enc Try.prog Try.f14 false true false false) := by
  refine returnsInHanded_of_change_sized (C := Try.checked) own started (by kernel_rfl) Try.func14
    (ChangeSpec.witness6 (enc := enc) (C := Try.checked) false ⟨#[], #[.int .i64 0, .int .i64 0, .slice none 0 0, .int .i64 0, .int .i64 0, .int .i64 0], []⟩ 8 (by kernel_rfl) (by kernel_rfl) (by kernel_rfl) (by kernel_rfl)) ?_
  intro W base args ds gs before hval0 hW hcnd hsz0 _
  have hsz : (DataW.weightsEach Try.prog (Try.f14.params.toList ++ Rows.coderTellsSpec.plain.varTypes Try.prog) (ds ++ gs)).all (· ≤ reachBytes) = true := hsz0
  have hval : ∀ (j : Nat) t v, Try.f14.params[j]? = some t → args[j]? = some v → Value.okWide Try.prog W .any base t v := hval0
  have hW' := hW
  obtain ⟨p, q, hA0, hV, rfl, hfz, hnd⟩ := hW
  have hA : DataW.TrodAll enc Try.prog W 0 (fun _ => true) true Try.f14.params.toList args.toList ds p := hA0
  rw [Try.params14] at hA hval hsz
  obtain ⟨v0, vs0, d0, ds0, p0, q0, hargs, rfl, rfl, h0, r0⟩ := trodAll_cons hA
  obtain ⟨v1, vs1, d1, ds1, p1, q1, rfl, rfl, rfl, h1, r1⟩ := trodAll_cons r0
  obtain ⟨v2, vs2, d2, ds2, p2, q2, rfl, rfl, rfl, h2, r2⟩ := trodAll_cons r1
  obtain ⟨v3, vs3, d3, ds3, p3, q3, rfl, rfl, rfl, h3, r3⟩ := trodAll_cons r2
  obtain ⟨v4, vs4, d4, ds4, p4, q4, rfl, rfl, rfl, h4, r4⟩ := trodAll_cons r3
  obtain ⟨v5, vs5, d5, ds5, p5, q5, rfl, rfl, rfl, h5, r5⟩ := trodAll_cons r4
  obtain ⟨rfl, rfl, rfl⟩ := trodAll_nil r5
  obtain rfl : args = #[v0, v1, v2, v3, v4, v5] := by cases args; simp_all
  obtain ⟨rfl, rfl⟩ := trodVars_none hV
  have wt := wt_each _ _ hsz
  obtain ⟨n0, rfl⟩ := okWide_int Try.underlying3 (hval 0 3 v0 rfl rfl)
  have k0 := h0
  have lt0 : ∀ x ∈ p0, x.block < W.heap.size := by obtain ⟨m, hm⟩ := k0; exact DataW.trod_lt m _ _ _ hm
  obtain ⟨fu0, hf0⟩ := h0
  have wt0 : Wt Try.prog 3 d0 := wt 0 _ _ rfl rfl
  obtain ⟨n1, rfl⟩ := okWide_int Try.underlying3 (hval 1 3 v1 rfl rfl)
  have k1 := h1
  have lt1 : ∀ x ∈ p1, x.block < W.heap.size := by obtain ⟨m, hm⟩ := k1; exact DataW.trod_lt m _ _ _ hm
  obtain ⟨fu1, hf1⟩ := h1
  have wt1 : Wt Try.prog 3 d1 := wt 1 _ _ rfl rfl
  obtain ⟨a2, l2, c2, rfl⟩ := okWide_slice Try.underlying62 (hval 2 62 v2 rfl rfl)
  have k2 := h2
  have lt2 : ∀ x ∈ p2, x.block < W.heap.size := by obtain ⟨m, hm⟩ := k2; exact DataW.trod_lt m _ _ _ hm
  obtain ⟨fu2, hf2⟩ := h2
  have wt2 : Wt Try.prog 62 d2 := wt 2 _ _ rfl rfl
  obtain ⟨n3, rfl⟩ := okWide_int Try.underlying3 (hval 3 3 v3 rfl rfl)
  have k3 := h3
  have lt3 : ∀ x ∈ p3, x.block < W.heap.size := by obtain ⟨m, hm⟩ := k3; exact DataW.trod_lt m _ _ _ hm
  obtain ⟨fu3, hf3⟩ := h3
  have wt3 : Wt Try.prog 3 d3 := wt 3 _ _ rfl rfl
  obtain ⟨n4, rfl⟩ := okWide_int Try.underlying3 (hval 4 3 v4 rfl rfl)
  have k4 := h4
  have lt4 : ∀ x ∈ p4, x.block < W.heap.size := by obtain ⟨m, hm⟩ := k4; exact DataW.trod_lt m _ _ _ hm
  obtain ⟨fu4, hf4⟩ := h4
  have wt4 : Wt Try.prog 3 d4 := wt 4 _ _ rfl rfl
  obtain ⟨n5, rfl⟩ := okWide_int Try.underlying3 (hval 5 3 v5 rfl rfl)
  have k5 := h5
  have lt5 : ∀ x ∈ p5, x.block < W.heap.size := by obtain ⟨m, hm⟩ := k5; exact DataW.trod_lt m _ _ _ hm
  obtain ⟨fu5, hf5⟩ := h5
  have wt5 : Wt Try.prog 3 d5 := wt 5 _ _ rfl rfl
  clear hA0 hval0 hsz0 hsz
  refine (open_calls xb xs (Fwd.corbellaw5_CoderTells.told (xok (by decide)) (trueX_ok rfl) 2000000) (R := Ar.CoderTells.R) (q := Ar.CoderTells.Q) (args' := [.int .i64 n0, .int .i64 n1, .slice a2 l2 c2, .int .i64 n3, .int .i64 n4, .int .i64 n5]) ?_ Pure.CoderTells).mono fun e W' ⟨he, bel⟩ => ?_
  · exact DArgs.cons opens0 hf0 wt0 (DArgs.cons opens1 hf1 wt1 (DArgs.cons opens2 hf2 wt2 (DArgs.cons opens3 hf3 wt3 (DArgs.cons opens4 hf4 wt4 (DArgs.cons opens5 hf5 wt5 (DArgs.nil))))))
  subst he
  exact ⟨_, rfl, _, _, _, [], _, [], hW', trodAll_mk1 (shut_bool Try.underlying4 _), (trodAll_cons_mk (Below.trod laidOut (by kernel_rfl) (of_decide_eq_true (by kernel_rfl)) k0 bel lt0) (trodAll_cons_mk (Below.trod laidOut (by kernel_rfl) (of_decide_eq_true (by kernel_rfl)) k1 bel lt1) (trodAll_cons_mk (Below.trod laidOut (by kernel_rfl) (of_decide_eq_true (by kernel_rfl)) k2 bel lt2) (trodAll_cons_mk (Below.trod laidOut (by kernel_rfl) (of_decide_eq_true (by kernel_rfl)) k3 bel lt3) (trodAll_cons_mk (Below.trod laidOut (by kernel_rfl) (of_decide_eq_true (by kernel_rfl)) k4 bel lt4) (trodAll_cons_mk (Below.trod laidOut (by kernel_rfl) (of_decide_eq_true (by kernel_rfl)) k5 bel lt5) trodAll_mk0)))))), rfl, bel.frame _, fun h => by cases h⟩
theorem over : Rows.coderTellsRow.holds Try.pinned (OpenSpec.ofChange Rows.coderTellsSpec) :=
  OpenClaim.holds_of_wide 14 Try.f14 rfl rfl rfl rfl rfl rfl rfl ⟨rfl, rfl, rfl, rfl, rfl⟩ rfl rfl rfl rfl rfl (by kernel_rfl) Try.func14 (by kernel_rfl)
    (of_decide_eq_true (by kernel_rfl)) (by unfold Func.isWrapper; first | (rw [if_pos (by decide +kernel)]; kernel_rfl) | (rw [if_neg (by decide +kernel)]; exact ⟨rfl, rfl⟩))
    (fun os started H enc _ => lifted os started H enc)
theorem proved : Rows.CoderTellsSaid := over
end Go.Proofs.Ytnjeafdbifcfhaa.coderTells
namespace Go.Proofs.Ytnjeafdbifcfhaa
/-- The row, under a short name, for the claim. -/
theorem coderTells_holds : Rows.CoderTellsSaid := coderTells.proved
end Go.Proofs.Ytnjeafdbifcfhaa
