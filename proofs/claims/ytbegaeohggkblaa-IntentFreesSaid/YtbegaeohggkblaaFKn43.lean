/- Forward runs of functions of the program, printed by a program of this session: each function on plain values and memory, and that the code comes to it. No condition. -/
import Derived.Test.YtbegaeohggkblaaDenZ
import Derived.KernelRfl
import Derived.Test.YtbegaeohggkblaaFInt
import Derived.Test.YtbegaeohggkblaaFLaw7
import Derived.Test.YtbegaeohggkblaaFPlat
import Derived.Test.YtbegaeohggkblaaFRefP
namespace Go.Proofs.Ytbegaeohggkblaa.Fwd
open Go Den
set_option linter.unusedVariables false
/-! ### corbel/corbellaw9.known -/
noncomputable def corbellaw9_known.l0 (k : Nat) (n : Nat) : (Option Addr) → Int → H → Option (((Bool) ⊕ (Unit)) × H) :=
  Nat.rec (motive := fun _ => (Option Addr) → Int → H → Option (((Bool) ⊕ (Unit)) × H)) (fun _ _ _ => none) (fun _ ih x7 x8 h9 => cond (decide (x8 < (16 : Int)))
      ((corbellaw9_one.f k x8 (1 : Int) x8 h9).bind fun q10 =>
    (intent_Ring_Log.f k x7 (q10.1.1, q10.1.2.1, q10.1.2.2) q10.2).bind fun q11 =>
    cond (q11.1 != (0 : Int))
      (some (Sum.inl false, q11.2))
      (ih x7 (wrapA .i64 (x8 + (1 : Int))) q11.2))
      (some (Sum.inr (), h9))) n
theorem corbellaw9_known.l0_zero (k : Nat) (x7 : Option Addr) (x8 : Int) (h9 : H) : corbellaw9_known.l0 k 0 x7 x8 h9 = none := rfl
theorem corbellaw9_known.l0_succ (k n : Nat) (x7 : Option Addr) (x8 : Int) (h9 : H) : corbellaw9_known.l0 k (n + 1) x7 x8 h9 = (cond (decide (x8 < (16 : Int)))
      ((corbellaw9_one.f k x8 (1 : Int) x8 h9).bind fun q10 =>
    (intent_Ring_Log.f k x7 (q10.1.1, q10.1.2.1, q10.1.2.2) q10.2).bind fun q11 =>
    cond (q11.1 != (0 : Int))
      (some (Sum.inl false, q11.2))
      (corbellaw9_known.l0 k n x7 (wrapA .i64 (x8 + (1 : Int))) q11.2))
      (some (Sum.inr (), h9))) := rfl
noncomputable def corbellaw9_known.f (k : Nat) (h : H) : Option ((Bool) × H) :=
  (platter_New.f k (96 : Int) h).bind fun q1 =>
    (intent_Open.f k q1.1 q1.2).bind fun q2 =>
    (cond (q2.1.2 != (0 : Int)) (some (true, q2.2))
      ((asB (binO1 Try.prog .eql 70 (Value.pointer q2.1.1) (Value.pointer none))).bind fun b3 =>
    some (b3, q2.2))).bind fun g4 =>
    (cond g4.1 (some (true, g4.2))
      ((intent_Ring_Free.f k q2.1.1 g4.2).bind fun q5 =>
    some (q5.1 != (16 : Int), q5.2))).bind fun g6 =>
    cond g6.1
      (some (false, g6.2))
      ((corbellaw9_known.l0 k k q2.1.1 (0 : Int) g6.2).bind fun w12 =>
    match w12.1 with
    | .inl r13 => some (r13, w12.2)
    | .inr o14 => (corbellaw9_one.f k (30 : Int) (1 : Int) (1 : Int) w12.2).bind fun q15 =>
    (intent_Ring_Log.f k q2.1.1 (q15.1.1, q15.1.2.1, q15.1.2.2) q15.2).bind fun q16 =>
    (cond (q16.1 == (6 : Int)) ((intent_Ring_Live.f k q2.1.1 q16.2).bind fun q17 =>
    some ((Int.ofNat q17.1.n) == (16 : Int), q17.2))
      (some (false, q16.2))).bind fun g18 =>
    (cond g18.1 ((intent_Ring_Release.f k q2.1.1 (3 : Int) (1 : Int) g18.2).bind fun q19 =>
    some (q19.1 == (1 : Int), q19.2))
      (some (false, g18.2))).bind fun g20 =>
    (cond g20.1 ((corbellaw9_one.f k (30 : Int) (1 : Int) (1 : Int) g20.2).bind fun q21 =>
    (intent_Ring_Log.f k q2.1.1 (q21.1.1, q21.1.2.1, q21.1.2.2) q21.2).bind fun q22 =>
    some (q22.1 == (0 : Int), q22.2))
      (some (false, g20.2))).bind fun g23 =>
    some (g23.1, g23.2))
noncomputable def corbellaw9_known.T (k : Nat) : Tbl := tblOf [⟨24, anyArgs, wr [(.int .i64)] [.ptr] (fun a h => platter_New.f k a h)⟩,
  ⟨42, anyArgs, wr [.ptr] [.ptr, (.int .i64)] (fun a h => intent_Open.f k a h)⟩,
  ⟨49, anyArgs, wr [.ptr] [(.int .i64)] (fun a h => intent_Ring_Free.f k a h)⟩,
  ⟨44, anyArgs, wr [(.int .i64), (.int .i64), (.int .i64)] [(.st [(.int .i64), (.int .i64), .sl])] (fun a h => corbellaw9_one.f k (a.1) (a.2.1) (a.2.2) h)⟩,
  ⟨45, anyArgs, wr [.ptr, (.st [(.int .i64), (.int .i64), .sl])] [(.int .i64)] (fun a h => intent_Ring_Log.f k (a.1) (a.2) h)⟩,
  ⟨47, anyArgs, wr [.ptr] [.sl] (fun a h => intent_Ring_Live.f k a h)⟩,
  ⟨46, anyArgs, wr [.ptr, (.int .i64), (.int .i64)] [(.int .i64)] (fun a h => intent_Ring_Release.f k (a.1) (a.2.1) (a.2.2) h)⟩]
noncomputable def corbellaw9_known.an (k : Nat) (p : Nat) : Option Ann := cond (Nat.beq p 250) (some (.pass [2] (lrun [(2, .ptr), (4, (.int .i64))] (some [(0, .bool)]) [] 0 (fun a h => corbellaw9_known.l0 k k (a.1) (a.2) h))))
  (none)
noncomputable def corbellaw9_known.body : Code := (Try.f43.body).getD .skip
noncomputable def corbellaw9_known.c250 : Code := cat corbellaw9_known.body [1, 1, 1, 1, 0, 1, 0, 0]
set_option maxRecDepth 100000 in
theorem corbellaw9_known.TS {C : FuncId → Bool} {X : CallF} (hX : XOk C X) (k : Nat) : TblS Try.prog C X (corbellaw9_known.T k) := by
  refine tblOf_sound ?_
  intro e he
  rcases List.mem_cons.1 he with rfl | he
  · exact wr_told (platter_New.told hX k)
  rcases List.mem_cons.1 he with rfl | he
  · exact wr_told (intent_Open.told hX k)
  rcases List.mem_cons.1 he with rfl | he
  · exact wr_told (intent_Ring_Free.told hX k)
  rcases List.mem_cons.1 he with rfl | he
  · exact wr_told (corbellaw9_one.told hX k)
  rcases List.mem_cons.1 he with rfl | he
  · exact wr_told (intent_Ring_Log.told hX k)
  rcases List.mem_cons.1 he with rfl | he
  · exact wr_told (intent_Ring_Live.told hX k)
  rcases List.mem_cons.1 he with rfl | he
  · exact wr_told (intent_Ring_Release.told hX k)
  exact absurd he List.not_mem_nil
set_option maxRecDepth 100000 in
theorem corbellaw9_known.l0_pass {C : FuncId → Bool} {X : CallF} (hX : XOk C X) (k n : Nat) : PassS Try.prog C X 53 (.loop corbellaw9_known.c250) (lrun [(2, .ptr), (4, (.int .i64))] (some [(0, .bool)]) [] 0 (fun a h => corbellaw9_known.l0 k n (a.1) (a.2) h)) :=
  loop_pass (ins := [(2, .ptr), (4, (.int .i64))]) (rets := (some [(0, .bool)])) (outs := []) (id := 0) (tbl := corbellaw9_known.T k) (an := corbellaw9_known.an k) (pb := 500) (corbellaw9_known.TS hX k) (fun n => (fun a h => corbellaw9_known.l0 k n (a.1) (a.2) h)) (fun a h => rfl) (fun n a h => by kernel_rfl)
    (by
      have e : need (corbellaw9_known.an k) corbellaw9_known.c250 500 = [] := by kernel_rfl
      rw [e]; intro q hq; cases hq) n
set_option maxRecDepth 100000 in
theorem corbellaw9_known.eq (k : Nat) (a : RT []) (h : H) : (fun a h => corbellaw9_known.f k h) a h = kfun Try.prog (corbellaw9_known.T k) (corbellaw9_known.an k) (RT [.bool] × H) Try.f43 (encL [] a) h (fun vs h' => (decL [.bool] vs).bind fun x => some (x, h')) := by kernel_rfl
set_option maxRecDepth 100000 in
theorem corbellaw9_known.told {C : FuncId → Bool} {X : CallF} (hX : XOk C X) (h0 : ∀ args h, X 43 args h = none) (k : Nat) : Den.Told Try.prog C X 43 [] [.bool] (fun a h => corbellaw9_known.f k h) :=
  told_of fun a h q e => fn_of (c := corbellaw9_known.body) (corbellaw9_known.TS hX k) Try.func43 (by kernel_rfl) (h0 _ h)
    (by
      have e : need (corbellaw9_known.an k) corbellaw9_known.body 1 = [(Code.loop corbellaw9_known.c250, lrun [(2, .ptr), (4, (.int .i64))] (some [(0, .bool)]) [] 0 (fun a h => corbellaw9_known.l0 k k (a.1) (a.2) h))] := by kernel_rfl
      rw [e]; intro q hq
      rcases List.mem_cons.1 hq with rfl | hq
      · exact corbellaw9_known.l0_pass hX k k
      cases hq)
    ((corbellaw9_known.eq k a h).symm.trans e)
end Go.Proofs.Ytbegaeohggkblaa.Fwd
