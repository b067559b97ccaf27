/- Acts on trees: names, sizes, raw acts; the loops of TreeApart. No condition. -/
import Derived.Test.YtfenkpghcbohdaaPcFwActC
import Derived.Test.YtfenkpghcbohdaaPcFwApP
namespace Go.Proofs.Ytfenkpghcbohdaa.Fw
open Go Den Fwd
set_option linter.unusedVariables false
set_option linter.unusedSimpArgs false
theorem name2_f (k : Nat) (n : Int) : ∃ nm, (∀ h, corbelhand_Name.f k n h = some (ba nm, h)) ∧ isName nm = true := by
  obtain ⟨j, hj⟩ : ∃ j : Nat, n % 7 = Int.ofNat j := ⟨_, nn _ (Int.emod_nonneg n (by decide))⟩
  have hj2 : j < 7 := by have := Int.emod_lt_of_pos n (show (0 : Int) < 7 by decide); rw [hj] at this; simp only [Int.ofNat_eq_natCast] at this; omega
  have key : ∀ nm, (∀ h : H, (some (Int.ofNat j, h) : Option (Int × H)).bind (fun q1 => (asT (ixv 7 1 #[(Value.string (⟨#[97]⟩ : ByteArray)), (Value.string (⟨#[98]⟩ : ByteArray)), (Value.string (⟨#[99]⟩ : ByteArray)), (Value.string (⟨#[118, 111, 108, 49]⟩ : ByteArray)), (Value.string (⟨#[115, 110, 97, 112]⟩ : ByteArray)), (Value.string (⟨#[122, 122, 57]⟩ : ByteArray)), (Value.string (⟨#[120]⟩ : ByteArray))] q1.1)).bind fun s2 => some (s2, q1.2)) = some (ba nm, h)) → ∀ h, corbelhand_Name.f k n h = some (ba nm, h) := fun nm e h => by
    unfold corbelhand_Name.f
    rw [pick_f k n 7 h (by decide) (by decide), hj]
    exact e h
  rcases (show j = 0 ∨ j = 1 ∨ j = 2 ∨ j = 3 ∨ j = 4 ∨ j = 5 ∨ j = 6 by omega) with rfl | rfl | rfl | rfl | rfl | rfl | rfl
  · exact ⟨[97], key _ (fun h => rfl), by decide +kernel⟩
  · exact ⟨[98], key _ (fun h => rfl), by decide +kernel⟩
  · exact ⟨[99], key _ (fun h => rfl), by decide +kernel⟩
  · exact ⟨[118, 111, 108, 49], key _ (fun h => rfl), by decide +kernel⟩
  · exact ⟨[115, 110, 97, 112], key _ (fun h => rfl), by decide +kernel⟩
  · exact ⟨[122, 122, 57], key _ (fun h => rfl), by decide +kernel⟩
  · exact ⟨[120], key _ (fun h => rfl), by decide +kernel⟩
/-! ### raw acts -/
def actL (a b c d e : Int) (s : List UInt8) : List Value := [.int .i64 a, .int .i64 b, .int .i64 c, .int .i64 d, .int .i64 e, .string (ba s)]
def ActsR (M : Nat) (h : H) (s : Sl) : Prop := ∀ h', Ch0 h h' → ∀ i, i < s.n → ∃ b o x1 x2 x3 x4 x5 z, z.length ≤ M ∧ ixs 6 s.a s.n (Int.ofNat i) = some (.pointer (some ⟨b, o, none⟩)) ∧ lda 6 h' (some ⟨b, o, none⟩) = some (.agg (actL x1 x2 x3 x4 x5 z).toArray)
theorem ActsR.stay {M : Nat} {h h' : H} {s : Sl} (r : ActsR M h s) (c : Ch0 h h') : ActsR M h' s := fun g cg => r g (c.then cg)
/-! ### TreeApart -/
end Go.Proofs.Ytfenkpghcbohdaa.Fw
