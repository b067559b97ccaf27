-- Written by fk.py (a program of this session) over the kit's print: functions with a contract of our own among them.
import Derived.Test.YthpkhegoamhgeaaRows
import Derived.Test.YthpkhegoamhgeaaPAskRepliesx5
import Derived.Test.YthpkhegoamhgeaaPureAskReplies
import Derived.WalkKit
import Derived.ProofKit
import Derived.OpenShut
import Derived.ShutString
import Derived.ChangeOld
import Derived.Below
import Derived.SizedLaws
import Derived.Test.YthpkhegoamhgeaaWSized
import Derived.Test.YthpkhegoamhgeaaOpens
namespace Go.Proofs.Ythpkhegoamhgeaa.askReplies
open Go.ChangeShapes Go.WideShapes Go.ChangeAt Go.RowKit Go.Proofs.Ythpkhegoamhgeaa.PAskReplies Go.Proofs.YthpkhegoamhgeaaW.PrintWords Go.Proofs.YthpkhegoamhgeaaW.PrintLast Go.Proofs.YthpkhegoamhgeaaW.PrintMore
open Go.ChangeMaps (open_string shut_string)
set_option linter.unusedVariables false
theorem own : ownKnob Try.prog.godebug = none := by kernel_rfl
theorem laidOut : laidOutB Try.prog = true := by kernel_rfl
instance : Inhabited S32 := ⟨z32⟩
theorem opens2 : Go.Proofs.Ythpkhegoamhgeaa.Opens.Opens Try.prog 25 (Kd.slice 5 (Kd.int .u8)) (fun v => (v.length ≤ maxLen ∧ ∀ x ∈ v, (Lit.int .u8 x).wf = true)) := (Go.Proofs.Ythpkhegoamhgeaa.Opens.slice Try.underlying25 (by kernel_rfl) (Go.Proofs.Ythpkhegoamhgeaa.Opens.int Try.underlying5 (by kernel_rfl)))
theorem opens3 : Go.Proofs.Ythpkhegoamhgeaa.Opens.Opens Try.prog 32 k32 (fun v => ((Lit.int .i64 v.f0).wf = true ∧ ((Lit.int .i64 v.f1).wf = true ∧ ((Lit.int .i64 v.f2).wf = true ∧ ((Lit.int .i64 v.f3).wf = true ∧ ((Lit.int .u64 v.f4).wf = true ∧ ((Lit.int .u64 v.f5).wf = true ∧ (v.f6.length ≤ maxLen ∧ ∀ x ∈ v.f6, (Lit.int .u8 x).wf = true)))))))) := (Go.Proofs.Ythpkhegoamhgeaa.Opens.iso (Go.Proofs.Ythpkhegoamhgeaa.Opens.struct Try.underlying32 (by kernel_rfl) (Go.Proofs.Ythpkhegoamhgeaa.Opens.field (Go.Proofs.Ythpkhegoamhgeaa.Opens.int Try.underlying3 (by kernel_rfl)) (by kernel_rfl) (Go.Proofs.Ythpkhegoamhgeaa.Opens.field (Go.Proofs.Ythpkhegoamhgeaa.Opens.int Try.underlying3 (by kernel_rfl)) (by kernel_rfl) (Go.Proofs.Ythpkhegoamhgeaa.Opens.field (Go.Proofs.Ythpkhegoamhgeaa.Opens.int Try.underlying3 (by kernel_rfl)) (by kernel_rfl) (Go.Proofs.Ythpkhegoamhgeaa.Opens.field (Go.Proofs.Ythpkhegoamhgeaa.Opens.int Try.underlying3 (by kernel_rfl)) (by kernel_rfl) (Go.Proofs.Ythpkhegoamhgeaa.Opens.field (Go.Proofs.Ythpkhegoamhgeaa.Opens.int Try.underlying27 (by kernel_rfl)) (by kernel_rfl) (Go.Proofs.Ythpkhegoamhgeaa.Opens.field (Go.Proofs.Ythpkhegoamhgeaa.Opens.int Try.underlying27 (by kernel_rfl)) (by kernel_rfl) (Go.Proofs.Ythpkhegoamhgeaa.Opens.last (Go.Proofs.Ythpkhegoamhgeaa.Opens.slice Try.underlying25 (by kernel_rfl) (Go.Proofs.Ythpkhegoamhgeaa.Opens.int Try.underlying5 (by kernel_rfl))))))))))) (fun x : S32 => (x.f0, x.f1, x.f2, x.f3, x.f4, x.f5, x.f6)) (fun v => (⟨v.1, v.2.1, v.2.2.1, v.2.2.2.1, v.2.2.2.2.1, v.2.2.2.2.2.1, v.2.2.2.2.2.2⟩ : S32)) (fun _ => rfl))
set_option maxRecDepth 100000 in
theorem lifted (os : Os) (started : os.Started) (H : Type) (enc : TypeId × Value → H) :
    ReturnsInHanded {} Try.checked os 5 .any (Rows.askRepliesSpec.pre6 enc Try.prog Try.f5 Rows.askRepliesRow.domain false) (Rows.askRepliesSpec.post enc Try.prog Try.f5 false true false false) := by
  refine returnsInHanded_of_change_sized (C := Try.checked) own started (by kernel_rfl) Try.func5
    (ChangeSpec.witness6 (enc := enc) (C := Try.checked) false ⟨#[], #[.int .i64 0, .int .u64 0, .slice none 0 0, .agg #[.int .i64 0, .int .i64 0, .int .i64 0, .int .i64 0, .int .u64 0, .int .u64 0, .slice none 0 0]], []⟩ 8 (by kernel_rfl) (by kernel_rfl) (by kernel_rfl) (by kernel_rfl)) ?_
  intro W base args ds gs before hval0 hW hcnd hsz0 _
  have hsz : (DataW.weightsEach Try.prog (Try.f5.params.toList ++ Rows.askRepliesSpec.plain.varTypes Try.prog) (ds ++ gs)).all (· ≤ reachBytes) = true := hsz0
  have hval : ∀ (j : Nat) t v, Try.f5.params[j]? = some t → args[j]? = some v → Value.okWide Try.prog W .any base t v := hval0
  have hW' := hW
  obtain ⟨p, q, hA0, hV, rfl, hfz, hnd⟩ := hW
  have hA : DataW.TrodAll enc Try.prog W 0 (fun _ => true) true Try.f5.params.toList args.toList ds p := hA0
  rw [Try.params5] at hA hval hsz
  obtain ⟨v0, vs0, d0, ds0, p0, q0, hargs, rfl, rfl, h0, r0⟩ := trodAll_cons hA
  obtain ⟨v1, vs1, d1, ds1, p1, q1, rfl, rfl, rfl, h1, r1⟩ := trodAll_cons r0
  obtain ⟨v2, vs2, d2, ds2, p2, q2, rfl, rfl, rfl, h2, r2⟩ := trodAll_cons r1
  obtain ⟨v3, vs3, d3, ds3, p3, q3, rfl, rfl, rfl, h3, r3⟩ := trodAll_cons r2
  obtain ⟨rfl, rfl, rfl⟩ := trodAll_nil r3
  obtain rfl : args = #[v0, v1, v2, v3] := by cases args; simp_all
  obtain ⟨rfl, rfl⟩ := trodVars_none hV
  obtain ⟨a0, rfl, rfl, rfl, w0⟩ := open_int Try.underlying3 (hval 0 3 v0 rfl rfl) h0
  obtain ⟨a1, rfl, rfl, rfl, w1⟩ := open_int Try.underlying27 (hval 1 27 v1 rfl rfl) h1
  obtain ⟨A2, len2, c2, rfl⟩ := okWide_slice Try.underlying25 (hval 2 25 v2 rfl rfl)
  have k2 := h2
  have lt2 : ∀ x ∈ p2, x.block < W.heap.size := by obtain ⟨m, hm⟩ := k2; exact DataW.trod_lt m _ _ _ hm
  have y2 : len2 * 1 ≤ 140737488351232 := Go.Proofs.YthpkhegoamhgeaaW.PrintWords.sized_ints hsz (j := 2) (t := 25) rfl rfl Try.underlying25 Try.underlying5 (by kernel_rfl) (by kernel_rfl) h2
  obtain ⟨l2, n2, hl2, hC2, hq2⟩ : ∃ xs : List Int, len2 = xs.length ∧ xs.length ≤ c2 ∧ Kd.C (Kd.int .u8) W A2 xs.length xs ∧ (xs.length ≤ maxLen ∧ ∀ x ∈ xs, (Lit.int .u8 x).wf = true) := by
    obtain ⟨fuel, hf⟩ := h2
    obtain ⟨xs, ⟨A, c, hcs, hl, hC⟩, hq⟩ := opens2.2 H enc W fuel _ _ hf
    simp [Value.cells] at hcs
    obtain ⟨rfl, rfl, rfl⟩ := hcs
    exact ⟨xs, rfl, hl, hC, hq⟩
  subst n2
  obtain ⟨cs3, rfl, _⟩ := okWide_struct Try.underlying32 (hval 3 32 v3 rfl rfl)
  have k3 := h3
  have lt3 : ∀ x ∈ p3, x.block < W.heap.size := by obtain ⟨m, hm⟩ := k3; exact DataW.trod_lt m _ _ _ hm
  obtain ⟨x3, hK3, hq3⟩ : ∃ x : S32, k32.K W x cs3.toList ∧ ((Lit.int .i64 x.f0).wf = true ∧ ((Lit.int .i64 x.f1).wf = true ∧ ((Lit.int .i64 x.f2).wf = true ∧ ((Lit.int .i64 x.f3).wf = true ∧ ((Lit.int .u64 x.f4).wf = true ∧ ((Lit.int .u64 x.f5).wf = true ∧ (x.f6.length ≤ maxLen ∧ ∀ y_ ∈ x.f6, (Lit.int .u8 y_).wf = true))))))) := by
    obtain ⟨fuel, hf⟩ := h3
    exact opens3.2 H enc W fuel _ _ hf
  obtain ⟨A3_6, c3_6, e3, hl3_6, hC3_6⟩ := k32_open hK3
  obtain rfl : cs3 = #[.int .i64 x3.f0, .int .i64 x3.f1, .int .i64 x3.f2, .int .i64 x3.f3, .int .u64 x3.f4, .int .u64 x3.f5, .slice A3_6 x3.f6.length c3_6] := by rw [← Array.toArray_toList (xs := cs3), e3]
  clear hA0 hval0 hsz0 hsz
  obtain ⟨k, h⟩ := Pure.AskReplies a0 a1 l2 x3 w0 w1 hq2 y2 hq3
  refine (corbellaw24_AskReplies.calls k a0 a1 A2 c2 l2 x3.f0 x3.f1 x3.f2 x3.f3 x3.f4 x3.f5 A3_6 c3_6 x3.f6 true W hC2 hl2 hC3_6 hl3_6 ⟨rfl⟩ h).mono fun e W' ⟨he, bel0⟩ => ?_
  have bel := bel0
  subst he
  exact ⟨_, rfl, _, _, _, [], _, [], hW', trodAll_mk1 (shut_bool Try.underlying4 _), (trodAll_cons_mk (shut_int Try.underlying3 w0) (trodAll_cons_mk (shut_int Try.underlying27 w1) (trodAll_cons_mk (Below.trod laidOut (by kernel_rfl) (of_decide_eq_true (by kernel_rfl)) k2 bel lt2) (trodAll_cons_mk (Below.trod laidOut (by kernel_rfl) (of_decide_eq_true (by kernel_rfl)) k3 bel lt3) trodAll_mk0)))), rfl, bel.frame _, fun h => by cases h⟩
theorem over : Rows.askRepliesRow.holds Try.pinned (OpenSpec.ofChange Rows.askRepliesSpec) :=
  OpenClaim.holds_of_wide 5 Try.f5 rfl rfl rfl rfl rfl rfl rfl ⟨rfl, rfl, rfl, rfl, rfl⟩ rfl rfl rfl rfl rfl (by kernel_rfl) Try.func5 (by kernel_rfl)
    (of_decide_eq_true (by kernel_rfl)) (by unfold Func.isWrapper; first | (rw [if_pos (by decide +kernel)]; kernel_rfl) | (rw [if_neg (by decide +kernel)]; exact ⟨rfl, rfl⟩))
    (fun os started H enc _ => lifted os started H enc)
theorem proved : Rows.AskRepliesSaid := over
#print axioms proved
end Go.Proofs.Ythpkhegoamhgeaa.askReplies
namespace Go.Proofs.Ythpkhegoamhgeaa
/-- The row, under a short name, for the claim. -/
theorem askReplies_holds : Rows.AskRepliesSaid := askReplies.proved
end Go.Proofs.Ythpkhegoamhgeaa
