/- An open law's row, by the law's forward run. -/
import Derived.Test.YtfenkpghcbohdaaRows
import Derived.Test.YtfenkpghcbohdaaDenOpen
import Derived.Test.YtfenkpghcbohdaaFMeta
import Derived.Test.YtfenkpghcbohdaaDenTrue38
import Derived.Test.YtfenkpghcbohdaaPureMetaLays
import Derived.WalkKit
import Derived.ProofKit
import Derived.OpenShut
import Derived.ShutString
import Derived.ChangeOld
import Derived.Below
import Derived.SizedLaws
namespace Go.Proofs.Ytfenkpghcbohdaa.metaLays
open Go.ChangeShapes Go.WideShapes Go.ChangeAt Go.RowKit Den
set_option linter.unusedVariables false
theorem own : ownKnob Try.prog.godebug = none := by kernel_rfl
theorem laidOut : laidOutB Try.prog = true := by kernel_rfl
set_option maxRecDepth 100000 in
theorem opens0 : DOb Try.prog 66 (RSl 5 (RPair (RInt .i64) (RPair (RInt .i64) (RPair (RInt .i64) (RPair (RInt .i64) (RInt .i64)))))) (fun x => x.length * Try.prog.bytesOf 113 ≤ reachBytes ∧ x.length ≤ maxLen ∧ ∀ x0 ∈ x, ((Lit.int .i64 x0.1).wf = true) ∧ ((Lit.int .i64 x0.2.1).wf = true) ∧ ((Lit.int .i64 x0.2.2.1).wf = true) ∧ ((Lit.int .i64 x0.2.2.2.1).wf = true) ∧ (Lit.int .i64 x0.2.2.2.2).wf = true) := (DOb.slice Try.underlying66 (by kernel_rfl) (by decide) (DOb.struct (sz := 5) Try.underlying113 (by kernel_rfl) (DFields.field (f := _) (DOb.int Try.underlying3) (by kernel_rfl) (DFields.field (f := _) (DOb.int Try.underlying3) (by kernel_rfl) (DFields.field (f := _) (DOb.int Try.underlying3) (by kernel_rfl) (DFields.field (f := _) (DOb.int Try.underlying3) (by kernel_rfl) (DFields.last (f := _) (DOb.int Try.underlying3))))))))
set_option maxRecDepth 100000 in
theorem opens1 : DOb Try.prog 3 (RInt .i64) (fun x => (Lit.int .i64 x).wf = true) := (DOb.int Try.underlying3)
set_option maxRecDepth 100000 in
theorem opens2 : DOb Try.prog 30 (RSl 1 (RInt .u8)) (fun x => x.length * Try.prog.bytesOf 5 ≤ reachBytes ∧ x.length ≤ maxLen ∧ ∀ x0 ∈ x, (Lit.int .u8 x0).wf = true) := (DOb.slice Try.underlying30 (by kernel_rfl) (by decide) (DOb.int Try.underlying5))
set_option maxRecDepth 100000 in
theorem opens3 : DOb Try.prog 3 (RInt .i64) (fun x => (Lit.int .i64 x).wf = true) := (DOb.int Try.underlying3)
set_option maxRecDepth 100000 in
theorem opens4 : DOb Try.prog 29 (RSl 1 (RInt .i64)) (fun x => x.length * Try.prog.bytesOf 3 ≤ reachBytes ∧ x.length ≤ maxLen ∧ ∀ x0 ∈ x, (Lit.int .i64 x0).wf = true) := (DOb.slice Try.underlying29 (by kernel_rfl) (by decide) (DOb.int Try.underlying3))
set_option maxRecDepth 100000 in
theorem opens5 : DOb Try.prog 5 (RInt .u8) (fun x => (Lit.int .u8 x).wf = true) := (DOb.int Try.underlying5)
theorem xb : Bodied Try.prog (seatX [38]) := seatX_bodied (by kernel_rfl)
theorem xs : Sound Try.prog (seatX [38]) := seatX_sound fun k hk => by
  rcases List.mem_cons.1 hk with rfl | hk
  · exact true38
  exact absurd hk List.not_mem_nil
set_option maxRecDepth 100000 in
theorem lifted (os : Os) (started : os.Started) (H : Type) (enc : TypeId × Value → H) :
    ReturnsInHanded {} Try.checked os 10 .any (Rows.metaLaysSpec.pre6 enc Try.prog Try.f10 Rows.metaLaysRow.domain false) (Rows.metaLaysSpec.post enc Try.prog Try.f10 false true false false) := by
  refine returnsInHanded_of_change_sized (C := Try.checked) own started (by kernel_rfl) Try.func10
    (ChangeSpec.witness6 (enc := enc) (C := Try.checked) false ⟨#[], #[.slice none 0 0, .int .i64 0, .slice none 0 0, .int .i64 0, .slice none 0 0, .int .u8 0], []⟩ 8 (by kernel_rfl) (by kernel_rfl) (by kernel_rfl) (by kernel_rfl)) ?_
  intro W base args ds gs before hval0 hW hcnd hsz0 _
  have hsz : (DataW.weightsEach Try.prog (Try.f10.params.toList ++ Rows.metaLaysSpec.plain.varTypes Try.prog) (ds ++ gs)).all (· ≤ reachBytes) = true := hsz0
  have hval : ∀ (j : Nat) t v, Try.f10.params[j]? = some t → args[j]? = some v → Value.okWide Try.prog W .any base t v := hval0
  have hW' := hW
  obtain ⟨p, q, hA0, hV, rfl, hfz, hnd⟩ := hW
  have hA : DataW.TrodAll enc Try.prog W 0 (fun _ => true) true Try.f10.params.toList args.toList ds p := hA0
  rw [Try.params10] at hA hval hsz
  obtain ⟨v0, vs0, d0, ds0, p0, q0, hargs, rfl, rfl, h0, r0⟩ := trodAll_cons hA
  obtain ⟨v1, vs1, d1, ds1, p1, q1, rfl, rfl, rfl, h1, r1⟩ := trodAll_cons r0
  obtain ⟨v2, vs2, d2, ds2, p2, q2, rfl, rfl, rfl, h2, r2⟩ := trodAll_cons r1
  obtain ⟨v3, vs3, d3, ds3, p3, q3, rfl, rfl, rfl, h3, r3⟩ := trodAll_cons r2
  obtain ⟨v4, vs4, d4, ds4, p4, q4, rfl, rfl, rfl, h4, r4⟩ := trodAll_cons r3
  obtain ⟨v5, vs5, d5, ds5, p5, q5, rfl, rfl, rfl, h5, r5⟩ := trodAll_cons r4
  obtain ⟨rfl, rfl, rfl⟩ := trodAll_nil r5
  obtain rfl : args = #[v0, v1, v2, v3, v4, v5] := by cases args; simp_all
  obtain ⟨rfl, rfl⟩ := trodVars_none hV
  have wt := wt_each _ _ hsz
  obtain ⟨a0, l0, c0, rfl⟩ := okWide_slice Try.underlying66 (hval 0 66 v0 rfl rfl)
  have k0 := h0
  have lt0 : ∀ x ∈ p0, x.block < W.heap.size := by obtain ⟨m, hm⟩ := k0; exact DataW.trod_lt m _ _ _ hm
  obtain ⟨fu0, hf0⟩ := h0
  have wt0 : Wt Try.prog 66 d0 := wt 0 _ _ rfl rfl
  obtain ⟨n1, rfl⟩ := okWide_int Try.underlying3 (hval 1 3 v1 rfl rfl)
  have k1 := h1
  have lt1 : ∀ x ∈ p1, x.block < W.heap.size := by obtain ⟨m, hm⟩ := k1; exact DataW.trod_lt m _ _ _ hm
  obtain ⟨fu1, hf1⟩ := h1
  have wt1 : Wt Try.prog 3 d1 := wt 1 _ _ rfl rfl
  obtain ⟨a2, l2, c2, rfl⟩ := okWide_slice Try.underlying30 (hval 2 30 v2 rfl rfl)
  have k2 := h2
  have lt2 : ∀ x ∈ p2, x.block < W.heap.size := by obtain ⟨m, hm⟩ := k2; exact DataW.trod_lt m _ _ _ hm
  obtain ⟨fu2, hf2⟩ := h2
  have wt2 : Wt Try.prog 30 d2 := wt 2 _ _ rfl rfl
  obtain ⟨n3, rfl⟩ := okWide_int Try.underlying3 (hval 3 3 v3 rfl rfl)
  have k3 := h3
  have lt3 : ∀ x ∈ p3, x.block < W.heap.size := by obtain ⟨m, hm⟩ := k3; exact DataW.trod_lt m _ _ _ hm
  obtain ⟨fu3, hf3⟩ := h3
  have wt3 : Wt Try.prog 3 d3 := wt 3 _ _ rfl rfl
  obtain ⟨a4, l4, c4, rfl⟩ := okWide_slice Try.underlying29 (hval 4 29 v4 rfl rfl)
  have k4 := h4
  have lt4 : ∀ x ∈ p4, x.block < W.heap.size := by obtain ⟨m, hm⟩ := k4; exact DataW.trod_lt m _ _ _ hm
  obtain ⟨fu4, hf4⟩ := h4
  have wt4 : Wt Try.prog 29 d4 := wt 4 _ _ rfl rfl
  obtain ⟨n5, rfl⟩ := okWide_int Try.underlying5 (hval 5 5 v5 rfl rfl)
  have k5 := h5
  have lt5 : ∀ x ∈ p5, x.block < W.heap.size := by obtain ⟨m, hm⟩ := k5; exact DataW.trod_lt m _ _ _ hm
  obtain ⟨fu5, hf5⟩ := h5
  have wt5 : Wt Try.prog 5 d5 := wt 5 _ _ rfl rfl
  clear hA0 hval0 hsz0 hsz
  refine (open_calls xb xs (Fwd.corbellaw19_MetaLays.told (xok (by decide)) (trueX_ok rfl) cmp_ok 281474976710656) (R := Ar.MetaLays.R) (q := Ar.MetaLays.Q) (args' := [.slice a0 l0 c0, .int .i64 n1, .slice a2 l2 c2, .int .i64 n3, .slice a4 l4 c4, .int .u8 n5]) ?_ Pure.MetaLays).mono fun e W' ⟨he, bel⟩ => ?_
  · exact DArgs.cons opens0 hf0 wt0 (DArgs.cons opens1 hf1 wt1 (DArgs.cons opens2 hf2 wt2 (DArgs.cons opens3 hf3 wt3 (DArgs.cons opens4 hf4 wt4 (DArgs.cons opens5 hf5 wt5 (DArgs.nil))))))
  subst he
  exact ⟨_, rfl, _, _, _, [], _, [], hW', trodAll_mk1 (shut_bool Try.underlying4 _), (trodAll_cons_mk (Below.trod laidOut (by kernel_rfl) (of_decide_eq_true (by kernel_rfl)) k0 bel lt0) (trodAll_cons_mk (Below.trod laidOut (by kernel_rfl) (of_decide_eq_true (by kernel_rfl)) k1 bel lt1) (trodAll_cons_mk (Below.trod laidOut (by kernel_rfl) (of_decide_eq_true (by kernel_rfl)) k2 bel lt2) (trodAll_cons_mk (Below.trod laidOut (by kernel_rfl) (of_decide_eq_true (by kernel_rfl)) k3 bel lt3) (trodAll_cons_mk (Below.trod laidOut (by kernel_rfl) (of_decide_eq_true (by kernel_rfl)) k4 bel lt4) (trodAll_cons_mk (Below.trod laidOut (by kernel_rfl) (of_decide_eq_true (by kernel_rfl)) k5 bel lt5) trodAll_mk0)))))), rfl, bel.frame _, fun h => by cases h⟩
theorem over : Rows.metaLaysRow.holds Try.pinned (OpenSpec.ofChange Rows.metaLaysSpec) :=
  OpenClaim.holds_of_wide 10 Try.f10 rfl rfl rfl rfl rfl rfl rfl ⟨rfl, rfl, rfl, rfl, rfl⟩ rfl rfl rfl rfl rfl (by kernel_rfl) Try.func10 (by kernel_rfl)
    (of_decide_eq_true (by kernel_rfl)) (by unfold Func.isWrapper; first | (rw [if_pos (by decide +kernel)]; kernel_rfl) | (rw [if_neg (by decide +kernel)]; exact ⟨rfl, rfl⟩))
    (fun os started H enc _ => lifted os started H enc)
theorem proved : Rows.MetaLaysSaid := over
end Go.Proofs.Ytfenkpghcbohdaa.metaLays
namespace Go.Proofs.Ytfenkpghcbohdaa
/-- The row, under a short name, for the claim. -/
theorem metaLays_holds : Rows.MetaLaysSaid := metaLays.proved
end Go.Proofs.Ytfenkpghcbohdaa
