/- Closed calls by forward runs. No condition. -/
import Derived.Test.YtfenkpghcbohdaaDenZ
import Derived.Test.YtfenkpghcbohdaaDenChunk
import Derived.Test.YtfenkpghcbohdaaDenCmp
import Derived.Test.YtfenkpghcbohdaaDenIns
namespace Go.Proofs.Ytfenkpghcbohdaa.Den
open Go Go.RowKit
set_option linter.unusedVariables false
def toldB (o : Option (Bool × H)) : Bool := match o with
  | some (true, _) => true
  | _ => false
theorem toldB_true {o : Option (Bool × H)} (h : toldB o = true) : ∃ h1, o = some (true, h1) := by
  unfold toldB at h
  split at h
  · exact ⟨_, rfl⟩
  · cases h
theorem trueX_no {ks : List FuncId} (hk : (ks.all fun k => knownFs.any fun j => Nat.beq j k) = true) {f : FuncId} (hf : notKnown f = true) (args : List Value) (h : H) : trueX ks f args h = none := by
  unfold trueX
  cases args with
  | cons a l => rfl
  | nil =>
    have : (ks.any fun k => Nat.beq k f) = false := by
      rw [List.any_eq_false]
      intro k hm hb
      have := List.all_eq_true.1 hk k hm
      have e := Nat.eq_of_beq_eq_true hb
      subst e
      unfold notKnown at hf
      rw [this] at hf
      cases hf
    simp only [this, cond_false]
def seatC : FuncId → Bool := chunkC
theorem seatC_law : ∀ k, seatC k = true → ChunkLaw Try.prog k := chunkC_law
noncomputable def seatX (ks : List FuncId) : CallF := orX insX (orX cmpX (trueX ks))
theorem seatX_bodied {ks : List FuncId} (hb : ks.all (bodied Try.prog) = true) : Bodied Try.prog (seatX ks) := orX_bodied insX_bodied (orX_bodied cmpX_bodied (trueX_bodied hb))
theorem seatX_sound {ks : List FuncId} (hk : ∀ k ∈ ks, ∀ w : World, Calls Try.prog k #[] w fun e w' => e = .returned (.bool true) ∧ Below w.heap.size w w') : Sound Try.prog (seatX ks) := orX_sound insX_sound (orX_sound cmpX_sound (trueX_sound hk))
theorem trueX_ok {ks : List FuncId} {f : FuncId} (hf : (ks.any fun k => Nat.beq k f) = true) : KOk (seatX ks) f := by
  intro h
  unfold seatX orX insX cmpX trueX
  simp only [hf, cond_true]
theorem cmp_ok {ks : List FuncId} : CmpOk (seatX ks) 114 := fun a b h => rfl
theorem xok {ks : List FuncId} (hk : (ks.all fun k => knownFs.any fun j => Nat.beq j k) = true) : XOk seatC (seatX ks) where
  chunk := fun f hf => by
    unfold seatC chunkC
    unfold chunkFs at hf
    simp only [List.any_cons, List.any_nil, Bool.or_false] at hf
    have e := Nat.eq_of_beq_eq_true hf
    subst e
    rfl
  no := fun f args h hf => by
    have h2 := trueX_no hk hf args h
    have h0 : insX f args h = none := by
      unfold insX
      split
      · have : Nat.beq f 110 = false := by
          cases hq : Nat.beq f 110 with
          | false => rfl
          | true =>
            have e := Nat.eq_of_beq_eq_true hq
            subst e
            exact absurd hf (by decide)
        rw [this]; rfl
      · rfl
    unfold seatX orX
    have h1 : cmpX f args h = none := by
      unfold cmpX
      split
      · have : Nat.beq f 114 = false := by
          cases hq : Nat.beq f 114 with
          | false => rfl
          | true =>
            have e := Nat.eq_of_beq_eq_true hq
            subst e
            exact absurd hf (by decide)
        rw [this]; rfl
      · rfl
    rw [h0]; simp only; rw [h1]; exact h2
theorem ins_ok {ks : List FuncId} : InsOk (seatX ks) 110 := fun a n cap i v h r hr => by
  have e : insX 110 [.slice a n cap, .int .i64 (.ofNat i), v] h = some r := hr
  unfold seatX orX
  rw [e]
theorem closed_calls {X : CallF} (hX : Bodied Try.prog X) (hXS : Sound Try.prog X) {f : FuncId} {g : RT [] → H → Option (RT [.bool] × H)} (ht : Den.Told Try.prog seatC X f [] [.bool] g) (hr : toldB (g () H.empty) = true) (w : World) :
    Calls Try.prog f #[] w fun e w' => e = .returned (.bool true) ∧ Below w.heap.size w w' := by
  obtain ⟨h, e⟩ := toldB_true hr
  obtain ⟨M, hM⟩ := ht () H.empty true h e
  exact run_calls seatC_law (Checked.mixed Try.checked) named hX hXS M M (hM M (Nat.le_refl _) M (Nat.le_refl _)) rfl w
end Go.Proofs.Ytfenkpghcbohdaa.Den
