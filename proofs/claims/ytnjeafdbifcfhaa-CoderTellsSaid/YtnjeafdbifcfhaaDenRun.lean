/- Closed calls by forward runs. No condition. -/
import Derived.Test.YtnjeafdbifcfhaaDenZ
import Derived.Test.YtnjeafdbifcfhaaDenChunk
namespace Go.Proofs.Ytnjeafdbifcfhaa.Den
open Go Go.RowKit
set_option linter.unusedVariables false
def toldB (o : Option (Bool × H)) : Bool := match o with
  | some (true, _) => true
  | _ => false
theorem toldB_true {o : Option (Bool × H)} (h : toldB o = true) : ∃ h1, o = some (true, h1) := by
  unfold toldB at h
  split at h
  · exact ⟨_, rfl⟩
  · cases h
theorem trueX_no {ks : List FuncId} (hk : (ks.all fun k => knownFs.any fun j => Nat.beq j k) = true) {f : FuncId} (hf : notKnown f = true) (args : List Value) (h : H) : trueX ks f args h = none := by
  unfold trueX
  cases args with
  | cons a l => rfl
  | nil =>
    have : (ks.any fun k => Nat.beq k f) = false := by
      rw [List.any_eq_false]
      intro k hm hb
      have := List.all_eq_true.1 hk k hm
      have e := Nat.eq_of_beq_eq_true hb
      subst e
      unfold notKnown at hf
      rw [this] at hf
      cases hf
    simp only [this, cond_false]
def seatC : FuncId → Bool := chunkC
theorem seatC_law : ∀ k, seatC k = true → ChunkLaw Try.prog k := chunkC_law
def seatX (ks : List FuncId) : CallF := trueX ks
theorem seatX_bodied {ks : List FuncId} (hb : ks.all (bodied Try.prog) = true) : Bodied Try.prog (seatX ks) := trueX_bodied hb
theorem seatX_sound {ks : List FuncId} (hk : ∀ k ∈ ks, ∀ w : World, Calls Try.prog k #[] w fun e w' => e = .returned (.bool true) ∧ Below w.heap.size w w') : Sound Try.prog (seatX ks) := trueX_sound hk
theorem trueX_ok {ks : List FuncId} {f : FuncId} (hf : (ks.any fun k => Nat.beq k f) = true) : KOk (seatX ks) f := by
  intro h
  unfold seatX trueX
  simp only [hf, cond_true]
theorem xok {ks : List FuncId} (hk : (ks.all fun k => knownFs.any fun j => Nat.beq j k) = true) : XOk seatC (seatX ks) where
  chunk := fun f hf => by
    unfold seatC chunkC
    unfold chunkFs at hf
    simp only [List.any_cons, List.any_nil, Bool.or_false] at hf
    have e := Nat.eq_of_beq_eq_true hf
    subst e
    rfl
  no := fun f args h hf => trueX_no hk hf args h
theorem closed_calls {X : CallF} (hX : Bodied Try.prog X) (hXS : Sound Try.prog X) {f : FuncId} {g : RT [] → H → Option (RT [.bool] × H)} (ht : Den.Told Try.prog seatC X f [] [.bool] g) (hr : toldB (g () H.empty) = true) (w : World) :
    Calls Try.prog f #[] w fun e w' => e = .returned (.bool true) ∧ Below w.heap.size w w' := by
  obtain ⟨h, e⟩ := toldB_true hr
  obtain ⟨M, hM⟩ := ht () H.empty true h e
  exact run_calls seatC_law (Checked.mixed Try.checked) named hX hXS M M (hM M (Nat.le_refl _) M (Nat.le_refl _)) rfl w
end Go.Proofs.Ytnjeafdbifcfhaa.Den
