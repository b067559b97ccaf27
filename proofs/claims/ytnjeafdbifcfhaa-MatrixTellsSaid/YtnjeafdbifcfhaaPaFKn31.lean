/- Forward runs of functions of the program, printed by a program of this session: each function on plain values and memory, and that the code comes to it. No condition. -/
import Derived.Test.YtnjeafdbifcfhaaDenZ
import Derived.KernelRfl
import Derived.Test.YtnjeafdbifcfhaaPaFCod
import Derived.Test.YtnjeafdbifcfhaaPaFF
import Derived.Test.YtnjeafdbifcfhaaPaFKn43
import Derived.Test.YtnjeafdbifcfhaaPaFMat
namespace Go.Proofs.Ytnjeafdbifcfhaa.Fwd
open Go Den
set_option linter.unusedVariables false
/-! ### corbel/corbellaw4.known -/
noncomputable def corbellaw4_known.f (k : Nat) (h : H) : Option ((Bool) × H) :=
  (field_New.f k h).bind fun q1 =>
    (matrix_Inverse.f k q1.1 (⟨(some ⟨(newR (newR q1.2 5 1 [(Value.int .u8 (1 : Int)), (Value.int .u8 (1 : Int))]) 5 1 [(Value.int .u8 (0 : Int)), (Value.int .u8 (1 : Int))]).next, 0, none⟩), 2, 2⟩ : Sl) (newR (newR (newR q1.2 5 1 [(Value.int .u8 (1 : Int)), (Value.int .u8 (1 : Int))]) 5 1 [(Value.int .u8 (0 : Int)), (Value.int .u8 (1 : Int))]) 40 1 [(Value.slice (some ⟨q1.2.next, 0, none⟩) 2 2), (Value.slice (some ⟨(newR q1.2 5 1 [(Value.int .u8 (1 : Int)), (Value.int .u8 (1 : Int))]).next, 0, none⟩) 2 2)])).bind fun q2 =>
    (cond q2.1.2 ((matrix_Same.f k (⟨(some ⟨(newR (newR q1.2 5 1 [(Value.int .u8 (1 : Int)), (Value.int .u8 (1 : Int))]) 5 1 [(Value.int .u8 (0 : Int)), (Value.int .u8 (1 : Int))]).next, 0, none⟩), 2, 2⟩ : Sl) q2.1.1 q2.2).bind fun q3 =>
    some (q3.1, q3.2))
      (some (false, q2.2))).bind fun g4 =>
    (cond g4.1 ((matrix_Mul.f k q1.1 (⟨(some ⟨(newR (newR q1.2 5 1 [(Value.int .u8 (1 : Int)), (Value.int .u8 (1 : Int))]) 5 1 [(Value.int .u8 (0 : Int)), (Value.int .u8 (1 : Int))]).next, 0, none⟩), 2, 2⟩ : Sl) q2.1.1 g4.2).bind fun q5 =>
    (matrix_Same.f k q5.1 (⟨(some ⟨(newR (newR q5.2 5 1 [(Value.int .u8 (1 : Int)), (Value.int .u8 (0 : Int))]) 5 1 [(Value.int .u8 (0 : Int)), (Value.int .u8 (1 : Int))]).next, 0, none⟩), 2, 2⟩ : Sl) (newR (newR (newR q5.2 5 1 [(Value.int .u8 (1 : Int)), (Value.int .u8 (0 : Int))]) 5 1 [(Value.int .u8 (0 : Int)), (Value.int .u8 (1 : Int))]) 40 1 [(Value.slice (some ⟨q5.2.next, 0, none⟩) 2 2), (Value.slice (some ⟨(newR q5.2 5 1 [(Value.int .u8 (1 : Int)), (Value.int .u8 (0 : Int))]).next, 0, none⟩) 2 2)])).bind fun q6 =>
    some (q6.1, q6.2))
      (some (false, g4.2))).bind fun g7 =>
    some (g7.1, g7.2)
noncomputable def corbellaw4_known.T (k : Nat) : Tbl := tblOf [⟨18, anyArgs, wr [] [.ptr] (fun a h => field_New.f k h)⟩,
  ⟨30, anyArgs, wr [.ptr, .sl] [.sl, .bool] (fun a h => matrix_Inverse.f k (a.1) (a.2) h)⟩,
  ⟨32, anyArgs, wr [.sl, .sl] [.bool] (fun a h => matrix_Same.f k (a.1) (a.2) h)⟩,
  ⟨35, anyArgs, wr [.ptr, .sl, .sl] [.sl] (fun a h => matrix_Mul.f k (a.1) (a.2.1) (a.2.2) h)⟩]
noncomputable def corbellaw4_known.an (k : Nat) (p : Nat) : Option Ann := none
noncomputable def corbellaw4_known.body : Code := (Try.f31.body).getD .skip
set_option maxRecDepth 100000 in
theorem corbellaw4_known.TS {C : FuncId → Bool} {X : CallF} (hX : XOk C X) (k : Nat) : TblS Try.prog C X (corbellaw4_known.T k) := by
  refine tblOf_sound ?_
  intro e he
  rcases List.mem_cons.1 he with rfl | he
  · exact wr_told (field_New.told hX k)
  rcases List.mem_cons.1 he with rfl | he
  · exact wr_told (matrix_Inverse.told hX k)
  rcases List.mem_cons.1 he with rfl | he
  · exact wr_told (matrix_Same.told hX k)
  rcases List.mem_cons.1 he with rfl | he
  · exact wr_told (matrix_Mul.told hX k)
  exact absurd he List.not_mem_nil
set_option maxRecDepth 100000 in
theorem corbellaw4_known.eq (k : Nat) (a : RT []) (h : H) : (fun a h => corbellaw4_known.f k h) a h = kfun Try.prog (corbellaw4_known.T k) (corbellaw4_known.an k) (RT [.bool] × H) Try.f31 (encL [] a) h (fun vs h' => (decL [.bool] vs).bind fun x => some (x, h')) := by kernel_rfl
set_option maxRecDepth 100000 in
theorem corbellaw4_known.told {C : FuncId → Bool} {X : CallF} (hX : XOk C X) (h0 : ∀ args h, X 31 args h = none) (k : Nat) : Den.Told Try.prog C X 31 [] [.bool] (fun a h => corbellaw4_known.f k h) :=
  told_of fun a h q e => fn_of (c := corbellaw4_known.body) (corbellaw4_known.TS hX k) Try.func31 (by kernel_rfl) (h0 _ h)
    (by
      have e : need (corbellaw4_known.an k) corbellaw4_known.body 1 = [] := by kernel_rfl
      rw [e]; intro q hq; cases hq)
    ((corbellaw4_known.eq k a h).symm.trans e)
end Go.Proofs.Ytnjeafdbifcfhaa.Fwd
