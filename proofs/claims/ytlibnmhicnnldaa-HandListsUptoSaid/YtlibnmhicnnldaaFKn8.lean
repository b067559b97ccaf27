/- Forward runs of functions of the program, printed by a program of this session: each function on plain values and memory, and that the code comes to it. No condition. -/
import Derived.Test.YtlibnmhicnnldaaDenZ
import Derived.KernelRfl
import Derived.Test.YtlibnmhicnnldaaFHand
namespace Go.Proofs.Ytlibnmhicnnldaa.Fwd
open Go Den
set_option linter.unusedVariables false
/-! ### corbel/hand.Hello -/
noncomputable def hand_Hello.f (k : Nat) (h : H) : Option ((Sl) × H) :=
  (asS2 (cvs (newR h 5 1 [(Value.int .u8 (78 : Int)), (Value.int .u8 (66 : Int)), (Value.int .u8 (68 : Int)), (Value.int .u8 (77 : Int)), (Value.int .u8 (65 : Int)), (Value.int .u8 (71 : Int)), (Value.int .u8 (73 : Int)), (Value.int .u8 (67 : Int)), (Value.int .u8 (73 : Int)), (Value.int .u8 (72 : Int)), (Value.int .u8 (65 : Int)), (Value.int .u8 (86 : Int)), (Value.int .u8 (69 : Int)), (Value.int .u8 (79 : Int)), (Value.int .u8 (80 : Int)), (Value.int .u8 (84 : Int)), (Value.int .u8 (0 : Int)), (Value.int .u8 (3 : Int))]) (Value.slice (some ⟨h.next, 0, none⟩) 18 18))).bind fun q1 =>
    some (q1.1, q1.2)
noncomputable def hand_Hello.T (k : Nat) : Tbl := tblOf []
noncomputable def hand_Hello.an (k : Nat) (p : Nat) : Option Ann := none
noncomputable def hand_Hello.body : Code := (Try.f21.body).getD .skip
set_option maxRecDepth 100000 in
theorem hand_Hello.TS {C : FuncId → Bool} {X : CallF} (hX : XOk C X) (k : Nat) : TblS Try.prog C X (hand_Hello.T k) := by
  refine tblOf_sound ?_
  intro e he
  exact absurd he List.not_mem_nil
set_option maxRecDepth 100000 in
theorem hand_Hello.eq (k : Nat) (a : RT []) (h : H) : (fun a h => hand_Hello.f k h) a h = kfun Try.prog (hand_Hello.T k) (hand_Hello.an k) (RT [.sl] × H) Try.f21 (encL [] a) h (fun vs h' => (decL [.sl] vs).bind fun x => some (x, h')) := by kernel_rfl
set_option maxRecDepth 100000 in
theorem hand_Hello.told {C : FuncId → Bool} {X : CallF} (hX : XOk C X) (k : Nat) : Den.Told Try.prog C X 21 [] [.sl] (fun a h => hand_Hello.f k h) :=
  told_of fun a h q e => fn_of (c := hand_Hello.body) (hand_Hello.TS hX k) Try.func21 (by kernel_rfl) (hX.no 21 _ h (by decide))
    (by
      have e : need (hand_Hello.an k) hand_Hello.body 1 = [] := by kernel_rfl
      rw [e]; intro q hq; cases hq)
    ((hand_Hello.eq k a h).symm.trans e)
/-! ### corbel/corbellaw23.known -/
noncomputable def corbellaw23_known.f (k : Nat) (h : H) : Option ((Bool) × H) :=
  (hand_New.f k h).bind fun q1 =>
    (asB (binO1 Try.prog .eql 22 (Value.pointer q1.1) (Value.pointer none))).bind fun b2 =>
    (cond b2 (some (true, q1.2))
      ((hand_Hello.f k q1.2).bind fun q3 =>
    (asT (txt q3.2 (Value.slice q3.1.a q3.1.n q3.1.c))).bind fun s4 =>
    some (!(s4.toList == (⟨#[78, 66, 68, 77, 65, 71, 73, 67, 73, 72, 65, 86, 69, 79, 80, 84, 0, 3]⟩ : ByteArray).toList), q3.2))).bind fun g5 =>
    cond g5.1
      (some (false, g5.2))
      ((asS2 (cvs (newR g5.2 5 1 [(Value.int .u8 (0 : Int)), (Value.int .u8 (0 : Int)), (Value.int .u8 (0 : Int)), (Value.int .u8 (3 : Int)), (Value.int .u8 (73 : Int)), (Value.int .u8 (72 : Int)), (Value.int .u8 (65 : Int)), (Value.int .u8 (86 : Int)), (Value.int .u8 (69 : Int)), (Value.int .u8 (79 : Int)), (Value.int .u8 (80 : Int)), (Value.int .u8 (84 : Int)), (Value.int .u8 (0 : Int)), (Value.int .u8 (0 : Int)), (Value.int .u8 (0 : Int)), (Value.int .u8 (2 : Int)), (Value.int .u8 (0 : Int)), (Value.int .u8 (0 : Int)), (Value.int .u8 (0 : Int)), (Value.int .u8 (0 : Int))]) (Value.slice (some ⟨g5.2.next, 0, none⟩) 20 20))).bind fun q6 =>
    (corbellaw23_two.f k q6.2).bind fun q7 =>
    (hand_Hand_Feed.f k q1.1 q6.1 q7.1 q7.2).bind fun q8 =>
    (asT (txt q8.2 (Value.slice q8.1.1.a q8.1.1.n q8.1.1.c))).bind fun s9 =>
    (cond (s9.toList == (⟨#[0, 3, 232, 137, 4, 85, 101, 169, 0, 0, 0, 2, 0, 0, 0, 1, 0, 0, 0, 0]⟩ : ByteArray).toList) (some ((Int.ofNat q8.1.2.n) == (0 : Int), q8.2))
      (some (false, q8.2))).bind fun g10 =>
    (cond g10.1 ((hand_Hand_Ended.f k q1.1 g10.2).bind fun q11 =>
    some (q11.1, q11.2))
      (some (false, g10.2))).bind fun g12 =>
    some (g12.1, g12.2))
noncomputable def corbellaw23_known.T (k : Nat) : Tbl := tblOf [⟨7, anyArgs, wr [] [.ptr] (fun a h => hand_New.f k h)⟩,
  ⟨21, anyArgs, wr [] [.sl] (fun a h => hand_Hello.f k h)⟩,
  ⟨10, anyArgs, wr [] [.sl] (fun a h => corbellaw23_two.f k h)⟩,
  ⟨9, anyArgs, wr [.ptr, .sl, .sl] [.sl, .sl] (fun a h => hand_Hand_Feed.f k (a.1) (a.2.1) (a.2.2) h)⟩,
  ⟨13, anyArgs, wr [.ptr] [.bool] (fun a h => hand_Hand_Ended.f k a h)⟩]
noncomputable def corbellaw23_known.an (k : Nat) (p : Nat) : Option Ann := none
noncomputable def corbellaw23_known.body : Code := (Try.f8.body).getD .skip
set_option maxRecDepth 100000 in
theorem corbellaw23_known.TS {C : FuncId → Bool} {X : CallF} (hX : XOk C X) (k : Nat) : TblS Try.prog C X (corbellaw23_known.T k) := by
  refine tblOf_sound ?_
  intro e he
  rcases List.mem_cons.1 he with rfl | he
  · exact wr_told (hand_New.told hX k)
  rcases List.mem_cons.1 he with rfl | he
  · exact wr_told (hand_Hello.told hX k)
  rcases List.mem_cons.1 he with rfl | he
  · exact wr_told (corbellaw23_two.told hX k)
  rcases List.mem_cons.1 he with rfl | he
  · exact wr_told (hand_Hand_Feed.told hX k)
  rcases List.mem_cons.1 he with rfl | he
  · exact wr_told (hand_Hand_Ended.told hX k)
  exact absurd he List.not_mem_nil
set_option maxRecDepth 100000 in
theorem corbellaw23_known.eq (k : Nat) (a : RT []) (h : H) : (fun a h => corbellaw23_known.f k h) a h = kfun Try.prog (corbellaw23_known.T k) (corbellaw23_known.an k) (RT [.bool] × H) Try.f8 (encL [] a) h (fun vs h' => (decL [.bool] vs).bind fun x => some (x, h')) := by kernel_rfl
set_option maxRecDepth 100000 in
theorem corbellaw23_known.told {C : FuncId → Bool} {X : CallF} (hX : XOk C X) (h0 : ∀ args h, X 8 args h = none) (k : Nat) : Den.Told Try.prog C X 8 [] [.bool] (fun a h => corbellaw23_known.f k h) :=
  told_of fun a h q e => fn_of (c := corbellaw23_known.body) (corbellaw23_known.TS hX k) Try.func8 (by kernel_rfl) (h0 _ h)
    (by
      have e : need (corbellaw23_known.an k) corbellaw23_known.body 1 = [] := by kernel_rfl
      rw [e]; intro q hq; cases hq)
    ((corbellaw23_known.eq k a h).symm.trans e)
end Go.Proofs.Ytlibnmhicnnldaa.Fwd
