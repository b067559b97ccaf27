/- Forward runs of functions of the program, printed by a program of this session: each function on plain values and memory, and that the code comes to it. No condition. -/
import Derived.Test.YthpkhegoamhgeaaDenZ
import Derived.KernelRfl
import Derived.Test.YthpkhegoamhgeaaFAsk
import Derived.Test.YthpkhegoamhgeaaFCall
import Derived.Test.YthpkhegoamhgeaaFKn12
namespace Go.Proofs.Ythpkhegoamhgeaa.Fwd
open Go Den
set_option linter.unusedVariables false
/-! ### corbel/corbellaw11.known -/
noncomputable def corbellaw11_known.f (k : Nat) (h : H) : Option ((Bool) × H) :=
  (call_LayReq.f k ((4 : Int), (0 : Int), (0 : Int), (0 : Int), (⟨none, 0, 0⟩ : Sl)) h).bind fun q1 =>
    (call_ReadReq.f k q1.1.1 q1.2).bind fun q2 =>
    (stv 5 (newR q2.2 48 5 [(Value.int .i64 (0 : Int)), (Value.int .i64 (0 : Int)), (Value.int .i64 (0 : Int)), (Value.int .i64 (0 : Int)), (Value.slice none 0 0)]) (some ⟨q2.2.next, 0, none⟩) [(Value.int .i64 q2.1.1.1), (Value.int .i64 q2.1.1.2.1), (Value.int .i64 q2.1.1.2.2.1), (Value.int .i64 q2.1.1.2.2.2.1), (Value.slice q2.1.1.2.2.2.2.a q2.1.1.2.2.2.2.n q2.1.1.2.2.2.2.c)]).bind fun q3 =>
    (cond (q1.1.2 == (0 : Int)) ((asT (txt q3.2 (Value.slice q1.1.1.a q1.1.1.n q1.1.1.c))).bind fun s4 =>
    some (s4.toList == (⟨#[4, 0, 0, 0, 0, 0, 0, 0, 0, 0, 0, 0]⟩ : ByteArray).toList, q3.2))
      (some (false, q3.2))).bind fun g5 =>
    (cond g5.1 (some (q2.1.2 == (0 : Int), g5.2))
      (some (false, g5.2))).bind fun g6 =>
    (cond g6.1 ((asI .i64 (ldc g6.2 (some ⟨q2.2.next, 0, none⟩))).bind fun n7 =>
    some (n7 == (4 : Int), g6.2))
      (some (false, g6.2))).bind fun g8 =>
    some (g8.1, g8.2)
noncomputable def corbellaw11_known.T (k : Nat) : Tbl := tblOf [⟨22, anyArgs, wr [(.st [(.int .i64), (.int .i64), (.int .i64), (.int .i64), .sl])] [.sl, (.int .i64)] (fun a h => call_LayReq.f k a h)⟩,
  ⟨25, anyArgs, wr [.sl] [(.st [(.int .i64), (.int .i64), (.int .i64), (.int .i64), .sl]), (.int .i64)] (fun a h => call_ReadReq.f k a h)⟩]
noncomputable def corbellaw11_known.an (k : Nat) (p : Nat) : Option Ann := none
noncomputable def corbellaw11_known.body : Code := (Try.f27.body).getD .skip
set_option maxRecDepth 100000 in
theorem corbellaw11_known.TS {C : FuncId → Bool} {X : CallF} (hX : XOk C X) (k : Nat) : TblS Try.prog C X (corbellaw11_known.T k) := by
  refine tblOf_sound ?_
  intro e he
  rcases List.mem_cons.1 he with rfl | he
  · exact wr_told (call_LayReq.told hX k)
  rcases List.mem_cons.1 he with rfl | he
  · exact wr_told (call_ReadReq.told hX k)
  exact absurd he List.not_mem_nil
set_option maxRecDepth 100000 in
theorem corbellaw11_known.eq (k : Nat) (a : RT []) (h : H) : (fun a h => corbellaw11_known.f k h) a h = kfun Try.prog (corbellaw11_known.T k) (corbellaw11_known.an k) (RT [.bool] × H) Try.f27 (encL [] a) h (fun vs h' => (decL [.bool] vs).bind fun x => some (x, h')) := by kernel_rfl
set_option maxRecDepth 100000 in
theorem corbellaw11_known.told {C : FuncId → Bool} {X : CallF} (hX : XOk C X) (h0 : ∀ args h, X 27 args h = none) (k : Nat) : Den.Told Try.prog C X 27 [] [.bool] (fun a h => corbellaw11_known.f k h) :=
  told_of fun a h q e => fn_of (c := corbellaw11_known.body) (corbellaw11_known.TS hX k) Try.func27 (by kernel_rfl) (h0 _ h)
    (by
      have e : need (corbellaw11_known.an k) corbellaw11_known.body 1 = [] := by kernel_rfl
      rw [e]; intro q hq; cases hq)
    ((corbellaw11_known.eq k a h).symm.trans e)
end Go.Proofs.Ythpkhegoamhgeaa.Fwd
