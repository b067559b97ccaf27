/- Forward runs of functions of the program, printed by a program of this session: each function on plain values and memory, and that the code comes to it. No condition. -/
import Derived.Test.YtbegaeohggkblaaDenZ
import Derived.KernelRfl
import Derived.Test.YtbegaeohggkblaaFInt
import Derived.Test.YtbegaeohggkblaaFKn9
import Derived.Test.YtbegaeohggkblaaFLaw7
import Derived.Test.YtbegaeohggkblaaFPlat
import Derived.Test.YtbegaeohggkblaaFRefP
namespace Go.Proofs.Ytbegaeohggkblaa.Fwd
open Go Den
set_option linter.unusedVariables false
/-! ### corbel/corbellaw9.IntentKnown -/
noncomputable def corbellaw9_IntentKnown.f (k : Nat) (h : H) : Option ((Bool) × H) :=
  (platter_New.f k (96 : Int) h).bind fun q1 =>
    (intent_Open.f k q1.1 q1.2).bind fun q2 =>
    (cond (!true) (some (true, q2.2))
      ((asB (binO1 Try.prog .eql 42 (Value.pointer q1.1) (Value.pointer none))).bind fun b3 =>
    some (b3, q2.2))).bind fun g4 =>
    (cond g4.1 (some (true, g4.2))
      ((asB (binO1 Try.prog .eql 70 (Value.pointer q2.1.1) (Value.pointer none))).bind fun b5 =>
    some (b5, g4.2))).bind fun g6 =>
    cond g6.1
      (some (false, g6.2))
      ((intent_Open.f k none g6.2).bind fun q7 =>
    (platter_New.f k (95 : Int) q7.2).bind fun q8 =>
    (intent_Open.f k q8.1 q8.2).bind fun q9 =>
    (corbellaw9_one.f k (0 : Int) (0 : Int) (1 : Int) q9.2).bind fun q10 =>
    (intent_Ring_Log.f k q2.1.1 (q10.1.1, q10.1.2.1, q10.1.2.2) q10.2).bind fun q11 =>
    (corbellaw9_one.f k (2 : Int) (5 : Int) (1 : Int) q11.2).bind fun q12 =>
    (intent_Ring_Log.f k q2.1.1 (q12.1.1, q12.1.2.1, q12.1.2.2) q12.2).bind fun q13 =>
    (platter_Platter_Flush.f k q1.1 q13.2).bind fun q14 =>
    (corbellaw9_one.f k (2 : Int) (6 : Int) (2 : Int) q14.2).bind fun q15 =>
    (intent_Ring_Log.f k q2.1.1 (q15.1.1, q15.1.2.1, q15.1.2.2) q15.2).bind fun q16 =>
    (corbellaw9_one.f k (2 : Int) (5 : Int) (1 : Int) q16.2).bind fun q17 =>
    (intent_Ring_Log.f k q2.1.1 (q17.1.1, q17.1.2.1, q17.1.2.2) q17.2).bind fun q18 =>
    (corbellaw9_one.f k (2 : Int) (5 : Int) (3 : Int) q18.2).bind fun q19 =>
    (intent_Ring_Log.f k q2.1.1 (q19.1.1, q19.1.2.1, q19.1.2.2) q19.2).bind fun q20 =>
    (intent_Ring_Free.f k q2.1.1 q20.2).bind fun q21 =>
    (intent_Ring_Release.f k q2.1.1 (2 : Int) (6 : Int) q21.2).bind fun q22 =>
    (intent_Ring_Release.f k q2.1.1 (2 : Int) (6 : Int) q22.2).bind fun q23 =>
    (intent_Ring_Live.f k q2.1.1 q23.2).bind fun q24 =>
    (intent_Open.f k q1.1 q24.2).bind fun q25 =>
    (platter_Platter_Crash.f k q1.1 (⟨none, 0, 0⟩ : Sl) q25.2).bind fun q26 =>
    (intent_Open.f k q1.1 q26.2).bind fun q27 =>
    (asB (binO1 Try.prog .eql 70 (Value.pointer q25.1.1) (Value.pointer none))).bind fun b28 =>
    (cond b28 (some (true, q27.2))
      ((asB (binO1 Try.prog .eql 70 (Value.pointer q27.1.1) (Value.pointer none))).bind fun b29 =>
    some (b29, q27.2))).bind fun g30 =>
    (cond g30.1 (some (true, g30.2))
      (some ((Int.ofNat q24.1.n) != (2 : Int), g30.2))).bind fun g31 =>
    (cond g31.1 (some (true, g31.2))
      ((intent_Ring_Live.f k q25.1.1 g31.2).bind fun q32 =>
    some ((Int.ofNat q32.1.n) != (3 : Int), q32.2))).bind fun g33 =>
    (cond g33.1 (some (true, g33.2))
      ((intent_Ring_Live.f k q27.1.1 g33.2).bind fun q34 =>
    some ((Int.ofNat q34.1.n) != (1 : Int), q34.2))).bind fun g35 =>
    cond g35.1
      (some (false, g35.2))
      ((cond (q7.1.2 == (1 : Int)) (some (q9.1.2 == (1 : Int), g35.2, [], []))
      (some (false, g35.2, [], [])) : Option (Bool × H × LEs × EFs)).bind fun g36 =>
    (cond g36.1 (some (q11.1 == (1 : Int), g36.2.1, [], []))
      (some (false, g36.2.1, [], [])) : Option (Bool × H × LEs × EFs)).bind fun g37 =>
    (cond g37.1 (some (q18.1 == (0 : Int), g37.2.1, [], []))
      (some (false, g37.2.1, [], [])) : Option (Bool × H × LEs × EFs)).bind fun g38 =>
    (cond g38.1 (some (q20.1 == (0 : Int), g38.2.1, [], []))
      (some (false, g38.2.1, [], [])) : Option (Bool × H × LEs × EFs)).bind fun g39 =>
    (cond g39.1 (some (q21.1 == (13 : Int), g39.2.1, [], []))
      (some (false, g39.2.1, [], [])) : Option (Bool × H × LEs × EFs)).bind fun g40 =>
    (cond g40.1 (some (q22.1 == (1 : Int), g40.2.1, [], []))
      (some (false, g40.2.1, [], [])) : Option (Bool × H × LEs × EFs)).bind fun g41 =>
    (cond g41.1 (some (q23.1 == (0 : Int), g41.2.1, [], []))
      (some (false, g41.2.1, [], [])) : Option (Bool × H × LEs × EFs)).bind fun g42 =>
    (cond g42.1 ((asP (ixs 3 q24.1.a q24.1.n (0 : Int))).bind fun p43 =>
    (asSt [(.int .i64), (.int .i64), .sl] (lda 3 g42.2.1 p43)).bind fun s44 =>
    (corbellaw9_one.f k (2 : Int) (5 : Int) (1 : Int) g42.2.1).bind fun q45 =>
    (intent_Same.f k (s44.1, s44.2.1, s44.2.2) (q45.1.1, q45.1.2.1, q45.1.2.2) q45.2).bind fun q46 =>
    some (q46.1, q46.2, (([(31, none)] ++ [(32, none)]) ++ [(33, (blkOf (some (Value.pointer p43))))]), [(34, g42.2.1, q45.2)]))
      (some (false, g42.2.1, [], [])) : Option (Bool × H × LEs × EFs)).bind fun g47 =>
    (cond g47.1 ((asP (ixs 3 q24.1.a q24.1.n (1 : Int))).bind fun p48 =>
    (asSt [(.int .i64), (.int .i64), .sl] (lda 3 g47.2.1 p48)).bind fun s49 =>
    (corbellaw9_one.f k (2 : Int) (5 : Int) (3 : Int) g47.2.1).bind fun q50 =>
    (intent_Same.f k (s49.1, s49.2.1, s49.2.2) (q50.1.1, q50.1.2.1, q50.1.2.2) q50.2).bind fun q51 =>
    some (q51.1, q51.2, (([(38, none)] ++ [(39, none)]) ++ [(40, (blkOf (some (Value.pointer p48))))]), [(41, g47.2.1, q50.2)]))
      (some (false, g47.2.1, [], [])) : Option (Bool × H × LEs × EFs)).bind fun g52 =>
    (cond g52.1 ((intent_Ring_Live.f k q27.1.1 g52.2.1).bind fun q53 =>
    (asP (ixs 3 q53.1.a q53.1.n (0 : Int))).bind fun p54 =>
    (asSt [(.int .i64), (.int .i64), .sl] (lda 3 q53.2 p54)).bind fun s55 =>
    (corbellaw9_one.f k (2 : Int) (5 : Int) (1 : Int) q53.2).bind fun q56 =>
    (intent_Same.f k (s55.1, s55.2.1, s55.2.2) (q56.1.1, q56.1.2.1, q56.1.2.2) q56.2).bind fun q57 =>
    some (q57.1, q57.2, ([(47, none)] ++ [(48, (blkOf (some (Value.pointer p54))))]), [(49, q53.2, q56.2)]))
      (some (false, g52.2.1, [], [])) : Option (Bool × H × LEs × EFs)).bind fun g58 =>
    (cond g58.1 ((intent_Right.f k ((0 : Int), (0 : Int), (⟨none, 0, 0⟩ : Sl)) g58.2.1).bind fun q59 =>
    some (!q59.1, q59.2, [], []))
      (some (false, g58.2.1, [], [])) : Option (Bool × H × LEs × EFs)).bind fun g60 =>
    (cond g60.1 ((corbellaw9_one.f k (1 : Int) (1 : Int) (1 : Int) g60.2.1).bind fun q61 =>
    (corbellaw9_one.f k (1 : Int) (1 : Int) (2 : Int) q61.2).bind fun q62 =>
    (intent_Same.f k (q61.1.1, q61.1.2.1, q61.1.2.2) (q62.1.1, q62.1.2.1, q62.1.2.2) q62.2).bind fun q63 =>
    some (!q63.1, q63.2, [], []))
      (some (false, g60.2.1, [], [])) : Option (Bool × H × LEs × EFs)).bind fun g64 =>
    cond (dynL [(31, 34), (32, 34), (33, 34), (38, 41), (39, 41), (40, 41), (47, 49), (48, 49)] (((((((((((g36.2.2.1 ++ g37.2.2.1) ++ g38.2.2.1) ++ g39.2.2.1) ++ g40.2.2.1) ++ g41.2.2.1) ++ g42.2.2.1) ++ g47.2.2.1) ++ g52.2.2.1) ++ g58.2.2.1) ++ g60.2.2.1) ++ g64.2.2.1) (((((((((((g36.2.2.2 ++ g37.2.2.2) ++ g38.2.2.2) ++ g39.2.2.2) ++ g40.2.2.2) ++ g41.2.2.2) ++ g42.2.2.2) ++ g47.2.2.2) ++ g52.2.2.2) ++ g58.2.2.2) ++ g60.2.2.2) ++ g64.2.2.2)) (some (g64.1, g64.2.1)) none))
noncomputable def corbellaw9_IntentKnown.T (k : Nat) : Tbl := tblOf [⟨24, anyArgs, wr [(.int .i64)] [.ptr] (fun a h => platter_New.f k a h)⟩,
  ⟨42, anyArgs, wr [.ptr] [.ptr, (.int .i64)] (fun a h => intent_Open.f k a h)⟩,
  ⟨43, anyArgs, knownW⟩,
  ⟨44, anyArgs, wr [(.int .i64), (.int .i64), (.int .i64)] [(.st [(.int .i64), (.int .i64), .sl])] (fun a h => corbellaw9_one.f k (a.1) (a.2.1) (a.2.2) h)⟩,
  ⟨45, anyArgs, wr [.ptr, (.st [(.int .i64), (.int .i64), .sl])] [(.int .i64)] (fun a h => intent_Ring_Log.f k (a.1) (a.2) h)⟩,
  ⟨28, anyArgs, wr [.ptr] [] (fun a h => platter_Platter_Flush.f k a h)⟩,
  ⟨49, anyArgs, wr [.ptr] [(.int .i64)] (fun a h => intent_Ring_Free.f k a h)⟩,
  ⟨46, anyArgs, wr [.ptr, (.int .i64), (.int .i64)] [(.int .i64)] (fun a h => intent_Ring_Release.f k (a.1) (a.2.1) (a.2.2) h)⟩,
  ⟨47, anyArgs, wr [.ptr] [.sl] (fun a h => intent_Ring_Live.f k a h)⟩,
  ⟨29, anyArgs, wr [.ptr, .sl] [] (fun a h => platter_Platter_Crash.f k (a.1) (a.2) h)⟩,
  ⟨48, anyArgs, wr [(.st [(.int .i64), (.int .i64), .sl]), (.st [(.int .i64), (.int .i64), .sl])] [.bool] (fun a h => intent_Same.f k (a.1) (a.2) h)⟩,
  ⟨50, anyArgs, wr [(.st [(.int .i64), (.int .i64), .sl])] [.bool] (fun a h => intent_Right.f k a h)⟩]
noncomputable def corbellaw9_IntentKnown.an (k : Nat) (p : Nat) : Option Ann := none
noncomputable def corbellaw9_IntentKnown.body : Code := (Try.f13.body).getD .skip
set_option maxRecDepth 100000 in
theorem corbellaw9_IntentKnown.TS {C : FuncId → Bool} {X : CallF} (hX : XOk C X) (hK43 : KOk X 43) (k : Nat) : TblS Try.prog C X (corbellaw9_IntentKnown.T k) := by
  refine tblOf_sound ?_
  intro e he
  rcases List.mem_cons.1 he with rfl | he
  · exact wr_told (platter_New.told hX k)
  rcases List.mem_cons.1 he with rfl | he
  · exact wr_told (intent_Open.told hX k)
  rcases List.mem_cons.1 he with rfl | he
  · exact knownW_told hK43
  rcases List.mem_cons.1 he with rfl | he
  · exact wr_told (corbellaw9_one.told hX k)
  rcases List.mem_cons.1 he with rfl | he
  · exact wr_told (intent_Ring_Log.told hX k)
  rcases List.mem_cons.1 he with rfl | he
  · exact wr_told (platter_Platter_Flush.told hX k)
  rcases List.mem_cons.1 he with rfl | he
  · exact wr_told (intent_Ring_Free.told hX k)
  rcases List.mem_cons.1 he with rfl | he
  · exact wr_told (intent_Ring_Release.told hX k)
  rcases List.mem_cons.1 he with rfl | he
  · exact wr_told (intent_Ring_Live.told hX k)
  rcases List.mem_cons.1 he with rfl | he
  · exact wr_told (platter_Platter_Crash.told hX k)
  rcases List.mem_cons.1 he with rfl | he
  · exact wr_told (intent_Same.told hX k)
  rcases List.mem_cons.1 he with rfl | he
  · exact wr_told (intent_Right.told hX k)
  exact absurd he List.not_mem_nil
set_option maxRecDepth 100000 in
theorem corbellaw9_IntentKnown.eq (k : Nat) (a : RT []) (h : H) : (fun a h => corbellaw9_IntentKnown.f k h) a h = kfun Try.prog (corbellaw9_IntentKnown.T k) (corbellaw9_IntentKnown.an k) (RT [.bool] × H) Try.f13 (encL [] a) h (fun vs h' => (decL [.bool] vs).bind fun x => some (x, h')) := by kernel_rfl
set_option maxRecDepth 100000 in
theorem corbellaw9_IntentKnown.told {C : FuncId → Bool} {X : CallF} (hX : XOk C X) (hK43 : KOk X 43) (k : Nat) : Den.Told Try.prog C X 13 [] [.bool] (fun a h => corbellaw9_IntentKnown.f k h) :=
  told_of fun a h q e => fn_of (c := corbellaw9_IntentKnown.body) (corbellaw9_IntentKnown.TS hX hK43 k) Try.func13 (by kernel_rfl) (hX.no 13 _ h (by decide))
    (by
      have e : need (corbellaw9_IntentKnown.an k) corbellaw9_IntentKnown.body 1 = [] := by kernel_rfl
      rw [e]; intro q hq; cases hq)
    ((corbellaw9_IntentKnown.eq k a h).symm.trans e)
end Go.Proofs.Ytbegaeohggkblaa.Fwd
