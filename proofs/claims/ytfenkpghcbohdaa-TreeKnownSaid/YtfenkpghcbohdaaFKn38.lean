/- Forward runs of functions of the program, printed by a program of this session: each function on plain values and memory, and that the code comes to it. No condition. -/
import Derived.Test.YtfenkpghcbohdaaDenCmp
import Derived.KernelRfl
import Derived.Test.YtfenkpghcbohdaaFMeta
import Derived.Test.YtfenkpghcbohdaaFRoot
namespace Go.Proofs.Ytfenkpghcbohdaa.Fwd
open Go Den
set_option linter.unusedVariables false
/-! ### corbel/corbellaw19.known -/
noncomputable def corbellaw19_known.f (k : Nat) (h : H) : Option ((Bool) × H) :=
  (meta_Lay.f k (⟨none, 0, 0⟩ : Sl) h).bind fun q1 =>
    (meta_Read.f k q1.1.1 q1.2).bind fun q2 =>
    (meta_LayRoot.f k ((3 : Int), (1 : Int), (9 : Int), (5 : Int)) q2.2).bind fun q3 =>
    (meta_ReadRoot.f k q3.1.1 q3.2).bind fun q4 =>
    (stv 4 (newR q4.2 46 4 [(Value.int .i64 (0 : Int)), (Value.int .i64 (0 : Int)), (Value.int .i64 (0 : Int)), (Value.int .i64 (0 : Int))]) (some ⟨q4.2.next, 0, none⟩) [(Value.int .i64 q4.1.1.1), (Value.int .i64 q4.1.1.2.1), (Value.int .i64 q4.1.1.2.2.1), (Value.int .i64 q4.1.1.2.2.2)]).bind fun q5 =>
    (cond (q1.1.2 == (0 : Int)) ((asT (txt q5.2 (Value.slice q1.1.1.a q1.1.1.n q1.1.1.c))).bind fun s6 =>
    some (s6.toList == (⟨#[0]⟩ : ByteArray).toList, q5.2))
      (some (false, q5.2))).bind fun g7 =>
    (cond g7.1 (some (q2.1.2 == (0 : Int), g7.2))
      (some (false, g7.2))).bind fun g8 =>
    (cond g8.1 (some ((Int.ofNat q2.1.1.n) == (0 : Int), g8.2))
      (some (false, g8.2))).bind fun g9 =>
    (cond g9.1 (some (q3.1.2 == (0 : Int), g9.2))
      (some (false, g9.2))).bind fun g10 =>
    (cond g10.1 (some ((Int.ofNat q3.1.1.n) == (128 : Int), g10.2))
      (some (false, g10.2))).bind fun g11 =>
    (cond g11.1 (some (q4.1.2 == (0 : Int), g11.2))
      (some (false, g11.2))).bind fun g12 =>
    (cond g12.1 ((asSt [(.int .i64), (.int .i64), (.int .i64), (.int .i64)] (lda 4 g12.2 (some ⟨q4.2.next, 0, none⟩))).bind fun s13 =>
    (asB (binO1 Try.prog .eql 46 (Value.agg #[(Value.int .i64 s13.1), (Value.int .i64 s13.2.1), (Value.int .i64 s13.2.2.1), (Value.int .i64 s13.2.2.2)]) (Value.agg #[(Value.int .i64 (3 : Int)), (Value.int .i64 (1 : Int)), (Value.int .i64 (9 : Int)), (Value.int .i64 (5 : Int))]))).bind fun b14 =>
    some (b14, g12.2))
      (some (false, g12.2))).bind fun g15 =>
    some (g15.1, g15.2)
noncomputable def corbellaw19_known.T (k : Nat) : Tbl := tblOf [⟨39, anyArgs, wr [.sl] [.sl, (.int .i64)] (fun a h => meta_Lay.f k a h)⟩,
  ⟨40, anyArgs, wr [.sl] [.sl, (.int .i64)] (fun a h => meta_Read.f k a h)⟩,
  ⟨33, anyArgs, wr [(.st [(.int .i64), (.int .i64), (.int .i64), (.int .i64)])] [.sl, (.int .i64)] (fun a h => meta_LayRoot.f k a h)⟩,
  ⟨36, anyArgs, wr [.sl] [(.st [(.int .i64), (.int .i64), (.int .i64), (.int .i64)]), (.int .i64)] (fun a h => meta_ReadRoot.f k a h)⟩]
noncomputable def corbellaw19_known.an (k : Nat) (p : Nat) : Option Ann := none
noncomputable def corbellaw19_known.body : Code := (Try.f38.body).getD .skip
set_option maxRecDepth 100000 in
theorem corbellaw19_known.TS {C : FuncId → Bool} {X : CallF} (hX : XOk C X) (hK114 : CmpOk X 114) (k : Nat) : TblS Try.prog C X (corbellaw19_known.T k) := by
  refine tblOf_sound ?_
  intro e he
  rcases List.mem_cons.1 he with rfl | he
  · exact wr_told (meta_Lay.told hX hK114 k)
  rcases List.mem_cons.1 he with rfl | he
  · exact wr_told (meta_Read.told hX hK114 k)
  rcases List.mem_cons.1 he with rfl | he
  · exact wr_told (meta_LayRoot.told hX k)
  rcases List.mem_cons.1 he with rfl | he
  · exact wr_told (meta_ReadRoot.told hX k)
  exact absurd he List.not_mem_nil
set_option maxRecDepth 100000 in
theorem corbellaw19_known.eq (k : Nat) (a : RT []) (h : H) : (fun a h => corbellaw19_known.f k h) a h = kfun Try.prog (corbellaw19_known.T k) (corbellaw19_known.an k) (RT [.bool] × H) Try.f38 (encL [] a) h (fun vs h' => (decL [.bool] vs).bind fun x => some (x, h')) := by kernel_rfl
set_option maxRecDepth 100000 in
theorem corbellaw19_known.told {C : FuncId → Bool} {X : CallF} (hX : XOk C X) (hK114 : CmpOk X 114) (h0 : ∀ args h, X 38 args h = none) (k : Nat) : Den.Told Try.prog C X 38 [] [.bool] (fun a h => corbellaw19_known.f k h) :=
  told_of fun a h q e => fn_of (c := corbellaw19_known.body) (corbellaw19_known.TS hX hK114 k) Try.func38 (by kernel_rfl) (h0 _ h)
    (by
      have e : need (corbellaw19_known.an k) corbellaw19_known.body 1 = [] := by kernel_rfl
      rw [e]; intro q hq; cases hq)
    ((corbellaw19_known.eq k a h).symm.trans e)
end Go.Proofs.Ytfenkpghcbohdaa.Fwd
