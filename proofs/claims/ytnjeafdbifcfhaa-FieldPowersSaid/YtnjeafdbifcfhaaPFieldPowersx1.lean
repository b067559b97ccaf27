-- Written by fk.py (a program of this session) over the kit's print: functions with a contract of our own among them.
import Derived.Test.YtnjeafdbifcfhaaFld
import Derived.Test.YtnjeafdbifcfhaaPFieldPowersx0
namespace Go.Proofs.Ytnjeafdbifcfhaa.PFieldPowers
open Go.RowKit Go.Proofs.YtnjeafdbifcfhaaW.PrintWords Go.Proofs.YtnjeafdbifcfhaaW.PrintLast Go.Proofs.YtnjeafdbifcfhaaW.PrintMore
attribute [local go_sem] max2_int min2_int max_two min_two max_three min_three max_four min_four   -- for this text's walks alone
set_option linter.unusedVariables false
set_option linter.unusedSimpArgs false

-- NOT PRINTED: function 18 (field_New)

-- NOT PRINTED: function 20 (field_Field_Exp)

-- NOT PRINTED: function 21 (field_Field_Mul)

-- NOT PRINTED: function 28 (field_Field_Add)

-- NOT PRINTED: function 19 (corbellaw3_known)

/-! ### corbellaw3_FieldPowers: function 3 -/
-- IMPORT Derived.Test.YtnjeafdbifcfhaaFld
namespace HandFieldPowers
open Go.RowKit Go.Proofs.Ytnjeafdbifcfhaa.GF Go.Proofs.Ytnjeafdbifcfhaa.Fld Go.Proofs.YtnjeafdbifcfhaaW.PrintWords Go.Proofs.YtnjeafdbifcfhaaW.PrintLast Go.Proofs.YtnjeafdbifcfhaaW.PrintMore

def hadL (f : Int) : Nat → List Bool
  | 0 => List.replicate 256 false
  | i + 1 => (hadL f i).set (ep (f + (i : Nat))) true
theorem hadL_len (f : Int) (n : Nat) : (hadL f n).length = 256 := by
  induction n with
  | zero => exact List.length_replicate
  | succ n ih => rw [hadL, List.length_set, ih]
theorem ep_inj (f : Int) (i j : Nat) (hi : i < 255) (hj : j < 255) (h : ep (f + i) = ep (f + j)) : i = j := by
  rw [ep_eq, ep_eq] at h
  have h1 := (X_bd ((f + i) % 255).toNat (by omega)).2.2
  have h2 := (X_bd ((f + j) % 255).toNat (by omega)).2.2
  rw [h, h2] at h1
  omega
theorem hadL_new (f : Int) (i : Nat) (hi : i < 255) : ∀ n, n ≤ i → (hadL f n)[ep (f + i)]? = some false := by
  have hb := (ep_bd (f + i)).2
  intro n
  induction n with
  | zero =>
    intro _
    simp only [hadL]
    rw [List.getElem?_replicate, if_pos hb]
  | succ n ih =>
    intro hn
    simp only [hadL]
    rw [List.getElem?_set_ne, ih (by omega)]
    intro he
    have := ep_inj f n i (by omega) hi he
    omega
def hc (l : List Bool) : Array Value := (l.map Value.bool).toArray
theorem hc_at {l : List Bool} {i : Nat} {b : Bool} (h : l[i]? = some b) : (hc l)[i]? = some (.bool b) := by simp [hc, h]
theorem hc_set (l : List Bool) (i : Nat) : (hc l).setIfInBounds i (.bool true) = hc (l.set i true) := by simp [hc, List.map_set]
theorem z25 : Try.zeroCells25 = hc (List.replicate 256 false) := by kernel_rfl
theorem gm_two (n : Int) : gm (ep n) 2 = ep (n + 1) := by
  have h : ep 1 = 2 := by decide +kernel
  have := eI_add n 1
  unfold eI at this
  rw [gI_nat, h] at this
  omega
theorem eI_nat (n : Int) : eI n = ((ep n : Nat) : Int) := rfl
theorem eI_two (n : Int) : gI (eI n) 2 = eI (n + 1) := by
  have h : eI 1 = 2 := by decide +kernel
  rw [← h, eI_add]
theorem eI_per (n : Int) : eI (n + 255) = eI n := by
  unfold eI
  rw [ep_eq, ep_eq, show (n + 255) % 255 = n % 255 by omega]

set_option maxHeartbeats 4000000 in
set_option maxRecDepth 100000 in
theorem walk (a0 : Int) (w : World) : Calls Try.prog 3 #[.int .i64 a0] w fun e w' => e = .returned (.bool true) ∧ Below w.heap.size w w' := by
  have n1 := Int.tmod_lt_of_pos a0 (show (0 : Int) < 100000 by omega)
  have n2 : -100000 < a0.tmod 100000 := by have := Int.lt_tmod_of_pos a0 (show (0 : Int) < 100000 by omega); omega
  obtain ⟨f, hf⟩ : ∃ f, f = a0.tmod 100000 := ⟨_, rfl⟩
  go_enter Try.func3, Try.ntmps3
  go_wp2_with fail
  refine (new_calls w).mono ?_
  rintro e w1 ⟨g, rfl, hg, hf1, hb⟩
  have HF0 := Aside0.mk (FieldAt.mk hf1)
  have HB0 := Aside0.mk hb
  clear hf1 hb hg
  go_wp2_with fail
  refine (known_calls w1).mono ?_
  rintro e w2 ⟨rfl, hb⟩
  have HF2 := Aside0.mk (HF0.out.below hb)
  have HB2 := Aside0.mk (below_step HB0.out hb)
  clear hb HB0 HF0
  obtain ⟨q, hq⟩ : ∃ q, q = w2.heap.size := ⟨_, rfl⟩
  have Q := Aside0.mk hq
  clear hq
  have HFF := Aside0.mk hf
  clear hf
  go_wp2_with fail
  rw [← HFF.out] at n1 n2 ⊢
  rw [← Q.out]
  go_loopw [5] (fun v wr => ∃ i : Nat, v = .int .i64 i ∧ Aside0 (i ≤ 255) ∧ Aside0 (wr.heap[q]? = some (.cells (hc (hadL f i)) 25 (0, 0))) ∧ Aside0 (Below w2.heap.size w2 wr)) (fun v _ => 255 - (intOf v).toNat)
  case atStart =>
    refine ⟨0, rfl, ⟨by omega⟩, ⟨?_⟩, ⟨(Below.refl _ _).alloc (Nat.le_refl _) _⟩⟩
    rw [hadL, ← z25, Q.out]
    exact blk_new _ _
  case round =>
    obtain ⟨i, rfl, HI, BK, HB⟩ := hrel
    have hi := HI.out
    have HF := Aside0.mk (HF2.out.below HB.out)
    by_cases hlt : i < 255
    · have hlb : decide ((i : Int) < 255) = true := by rw [decide_eq_true_eq]; omega
      obtain ⟨x, hx⟩ : ∃ x : Nat, x = ep (f + i) := ⟨_, rfl⟩
      have hxb := ep_bd (f + i)
      rw [← hx] at hxb
      have hx1 := hxb.2
      have hx2 : (x : Int) < 256 := by omega
      have hx0 : 0 < x := hxb.1
      have hz3 : (x == 0) = false := by rw [beq_eq_false_iff_ne]; omega
      have hz : ((x : Int) == 0) = false := by rw [beq_eq_false_iff_ne]; omega
      have hcell := blk_cell BK.out x
      rw [hc_at (by rw [hx]; exact hadL_new f i hlt i (Nat.le_refl _))] at hcell
      have hfz := blk_frozen BK.out x
      have hne : (((ep (f + i + 1) : Nat) : Int) != ((gm x 2 : Nat) : Int)) = false := by rw [bne_eq_false_iff_eq, hx, gm_two]
      have HX := Aside0.mk hx
      have E1 := Aside0.mk (exp_calls g (f + i) · )
      have HLT := Aside0.mk hlt
      clear hxb hx
      go_wp2_with fail
      refine (exp_calls g (f + i) _ (FieldAt.mk (by exact HF.out.out))).mono ?_
      rw [← HX.out]
      rintro e w3 ⟨rfl, ⟨n3, rfl⟩⟩
      go_wp2_with fail
      refine (exp_calls g (f + i + 1) _ (FieldAt.mk (by exact HF.out.out))).mono ?_
      rintro e w3 ⟨rfl, ⟨n4, rfl⟩⟩
      go_wp2_with fail
      refine (mul_calls g x 2 _ hx1 (by omega) (FieldAt.mk (by exact HF.out.out))).mono ?_
      rintro e w3 ⟨rfl, ⟨n5, rfl⟩⟩
      go_wp2
      go_roundw
      case rel =>
        refine ⟨i + 1, by go_num, ⟨by have := HLT.out; omega⟩, ⟨?_⟩, ⟨(pw_below_drewN HB.out _).setCell (by rw [Q.out]; exact Nat.le_refl _) _⟩⟩
        rw [hadL, ← HX.out, ← hc_set]
        exact blk_set (blk_drewN BK.out _) _ _
      case measure => have := HLT.out; simp [intOf]; omega
    · obtain rfl : i = 255 := by omega
      have hend : (eI (f + 255) == eI f) = true := by rw [beq_iff_eq, eI_per]
      clear hlt hi HI
      go_wp2_with fail
      refine (expI g (f + 255) _ (FieldAt.mk (by exact HF.out.out))).mono ?_
      rintro e w3 ⟨rfl, ⟨n3, rfl⟩⟩
      go_wp2_with fail
      refine (expI g f _ (FieldAt.mk (by exact HF.out.out))).mono ?_
      rintro e w3 ⟨rfl, ⟨n4, rfl⟩⟩
      go_wp2
      go_ret
      exact ⟨rfl, below_step HB2.out (pw_below_drewN HB.out _)⟩
end HandFieldPowers
def corbellaw3_FieldPowers.Pure : Prop := True
theorem corbellaw3_FieldPowers.walk (P : corbellaw3_FieldPowers.Pure) (a0 : Int) (w : World) (w0 : (Lit.int .i64 a0).wf = true) :
    Calls Try.prog 3 #[.int .i64 a0] w fun e w' => e = .returned (.bool true) ∧ Below w.heap.size w w' := HandFieldPowers.walk a0 w

end Go.Proofs.Ytnjeafdbifcfhaa.PFieldPowers
