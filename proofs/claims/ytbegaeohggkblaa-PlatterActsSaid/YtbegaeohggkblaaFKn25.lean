/- Forward runs of functions of the program, printed by a program of this session: each function on plain values and memory, and that the code comes to it. No condition. -/
import Derived.Test.YtbegaeohggkblaaDenZ
import Derived.KernelRfl
import Derived.Test.YtbegaeohggkblaaFInt
import Derived.Test.YtbegaeohggkblaaFLaw7
import Derived.Test.YtbegaeohggkblaaFPlat
import Derived.Test.YtbegaeohggkblaaFRefP
namespace Go.Proofs.Ytbegaeohggkblaa.Fwd
open Go Den
set_option linter.unusedVariables false
/-! ### corbel/corbellaw7.known -/
noncomputable def corbellaw7_known.f (k : Nat) (h : H) : Option ((Bool) × H) :=
  (platter_New.f k (4 : Int) h).bind fun q1 =>
    (asB (binO1 Try.prog .eql 42 (Value.pointer q1.1) (Value.pointer none))).bind fun b2 =>
    (cond b2 (some (true, q1.2))
      ((corbellaw7_all.f k (1 : Int) q1.2).bind fun q3 =>
    (platter_Platter_Write.f k q1.1 (0 : Int) q3.1 q3.2).bind fun q4 =>
    some (!q4.1, q4.2))).bind fun g5 =>
    (cond g5.1 (some (true, g5.2))
      ((corbellaw7_all.f k (2 : Int) g5.2).bind fun q6 =>
    (platter_Platter_Write.f k q1.1 (0 : Int) q6.1 q6.2).bind fun q7 =>
    some (!q7.1, q7.2))).bind fun g8 =>
    cond g8.1
      (some (false, g8.2))
      ((platter_Platter_Crash.f k q1.1 (⟨(some ⟨g8.2.next, 0, none⟩), 1, 1⟩ : Sl) (newR g8.2 3 1 [(Value.int .i64 (0 : Int))])).bind fun q9 =>
    (platter_Platter_Read.f k q1.1 (0 : Int) q9.2).bind fun q10 =>
    (cond q10.1.2 ((asT (txt q10.2 (Value.slice q10.1.1.a q10.1.1.n q10.1.1.c))).bind fun s11 =>
    (corbellaw7_all.f k (1 : Int) q10.2).bind fun q12 =>
    (asT (txt q12.2 (Value.slice q12.1.a q12.1.n q12.1.c))).bind fun s13 =>
    some (s11.toList == s13.toList, q12.2, ([(2, none)] ++ [(3, (blkOf (some (Value.slice q10.1.1.a q10.1.1.n q10.1.1.c))))]), [(4, q10.2, q12.2)]))
      (some (false, q10.2, [], [])) : Option (Bool × H × LEs × EFs)).bind fun g14 =>
    (cond g14.1 ((platter_Platter_Blocks.f k q1.1 g14.2.1).bind fun q15 =>
    some (q15.1 == (4 : Int), q15.2, [], []))
      (some (false, g14.2.1, [], [])) : Option (Bool × H × LEs × EFs)).bind fun g16 =>
    (cond g16.1 ((platter_Platter_Pending.f k q1.1 g16.2.1).bind fun q17 =>
    some ((Int.ofNat q17.1.n) == (0 : Int), q17.2, [], []))
      (some (false, g16.2.1, [], [])) : Option (Bool × H × LEs × EFs)).bind fun g18 =>
    cond (dynL [(2, 4), (3, 4)] ((g14.2.2.1 ++ g16.2.2.1) ++ g18.2.2.1) ((g14.2.2.2 ++ g16.2.2.2) ++ g18.2.2.2)) (some (g18.1, g18.2.1)) none)
noncomputable def corbellaw7_known.T (k : Nat) : Tbl := tblOf [⟨24, anyArgs, wr [(.int .i64)] [.ptr] (fun a h => platter_New.f k a h)⟩,
  ⟨27, anyArgs, wr [(.int .i64)] [.sl] (fun a h => corbellaw7_all.f k a h)⟩,
  ⟨26, anyArgs, wr [.ptr, (.int .i64), .sl] [.bool] (fun a h => platter_Platter_Write.f k (a.1) (a.2.1) (a.2.2) h)⟩,
  ⟨29, anyArgs, wr [.ptr, .sl] [] (fun a h => platter_Platter_Crash.f k (a.1) (a.2) h)⟩,
  ⟨30, anyArgs, wr [.ptr, (.int .i64)] [.sl, .bool] (fun a h => platter_Platter_Read.f k (a.1) (a.2) h)⟩,
  ⟨35, anyArgs, wr [.ptr] [(.int .i64)] (fun a h => platter_Platter_Blocks.f k a h)⟩,
  ⟨31, anyArgs, wr [.ptr] [.sl] (fun a h => platter_Platter_Pending.f k a h)⟩]
noncomputable def corbellaw7_known.an (k : Nat) (p : Nat) : Option Ann := none
noncomputable def corbellaw7_known.body : Code := (Try.f25.body).getD .skip
set_option maxRecDepth 100000 in
theorem corbellaw7_known.TS {C : FuncId → Bool} {X : CallF} (hX : XOk C X) (k : Nat) : TblS Try.prog C X (corbellaw7_known.T k) := by
  refine tblOf_sound ?_
  intro e he
  rcases List.mem_cons.1 he with rfl | he
  · exact wr_told (platter_New.told hX k)
  rcases List.mem_cons.1 he with rfl | he
  · exact wr_told (corbellaw7_all.told hX k)
  rcases List.mem_cons.1 he with rfl | he
  · exact wr_told (platter_Platter_Write.told hX k)
  rcases List.mem_cons.1 he with rfl | he
  · exact wr_told (platter_Platter_Crash.told hX k)
  rcases List.mem_cons.1 he with rfl | he
  · exact wr_told (platter_Platter_Read.told hX k)
  rcases List.mem_cons.1 he with rfl | he
  · exact wr_told (platter_Platter_Blocks.told hX k)
  rcases List.mem_cons.1 he with rfl | he
  · exact wr_told (platter_Platter_Pending.told hX k)
  exact absurd he List.not_mem_nil
set_option maxRecDepth 100000 in
theorem corbellaw7_known.eq (k : Nat) (a : RT []) (h : H) : (fun a h => corbellaw7_known.f k h) a h = kfun Try.prog (corbellaw7_known.T k) (corbellaw7_known.an k) (RT [.bool] × H) Try.f25 (encL [] a) h (fun vs h' => (decL [.bool] vs).bind fun x => some (x, h')) := by kernel_rfl
set_option maxRecDepth 100000 in
theorem corbellaw7_known.told {C : FuncId → Bool} {X : CallF} (hX : XOk C X) (h0 : ∀ args h, X 25 args h = none) (k : Nat) : Den.Told Try.prog C X 25 [] [.bool] (fun a h => corbellaw7_known.f k h) :=
  told_of fun a h q e => fn_of (c := corbellaw7_known.body) (corbellaw7_known.TS hX k) Try.func25 (by kernel_rfl) (h0 _ h)
    (by
      have e : need (corbellaw7_known.an k) corbellaw7_known.body 1 = [] := by kernel_rfl
      rw [e]; intro q hq; cases hq)
    ((corbellaw7_known.eq k a h).symm.trans e)
end Go.Proofs.Ytbegaeohggkblaa.Fwd
