/- Forward runs of functions of the program, printed by a program of this session: each function on plain values and memory, and that the code comes to it. No condition. -/
import Derived.Test.YtnjeafdbifcfhaaDenZ
import Derived.KernelRfl
import Derived.Test.YtnjeafdbifcfhaaFCod
import Derived.Test.YtnjeafdbifcfhaaFF
namespace Go.Proofs.Ytnjeafdbifcfhaa.Fwd
open Go Den
set_option linter.unusedVariables false
/-! ### corbel/corbellaw4.of -/
noncomputable def corbellaw4_of.l1 (k : Nat) (n : Nat) : Int → Int → Sl → Sl → Int → Sl → Int → H → Option ((Unit) × H) :=
  Nat.rec (motive := fun _ => Int → Int → Sl → Sl → Int → Sl → Int → H → Option ((Unit) × H)) (fun _ _ _ _ _ _ _ _ => none) (fun _ ih x8 x9 x10 x11 x12 x13 x14 h15 => cond (decide (x14 < x9))
      ((cond (decide ((wrapA .i64 ((wrapA .i64 (x12 * x9)) + x14)) < (Int.ofNat x10.n)))
      ((asP (ixs 1 x10.a x10.n (wrapA .i64 ((wrapA .i64 (x12 * x9)) + x14)))).bind fun p16 =>
    (asI .i64 (ldc h15 p16)).bind fun n17 =>
    (asP (ixs 1 x13.a x13.n x14)).bind fun p18 =>
    (stv 1 h15 p18 [(Value.int .u8 (wrapA .u8 n17))]).bind fun q19 =>
    (asP (ixs 1 x10.a x10.n (wrapA .i64 ((wrapA .i64 (x12 * x9)) + x14)))).bind fun p20 =>
    (asI .i64 (ldc q19.2 p20)).bind fun n21 =>
    (cond ((n21.tmod (5 : Int)) == (0 : Int))
      ((asP (ixs 1 x10.a x10.n (wrapA .i64 ((wrapA .i64 (x12 * x9)) + x14)))).bind fun p22 =>
    (asI .i64 (ldc q19.2 p22)).bind fun n23 =>
    (corbelhand_Pick.f k n23 (2 : Int) q19.2).bind fun q24 =>
    (asP (ixs 1 x13.a x13.n x14)).bind fun p25 =>
    (stv 1 q24.2 p25 [(Value.int .u8 (wrapA .u8 q24.1))]).bind fun q26 =>
    some ((), q26.2))
      (some ((), q19.2)) : Option ((Unit) × H)).bind fun j27 =>
    some ((), j27.2))
      (some ((), h15)) : Option ((Unit) × H)).bind fun j28 =>
    ih x8 x9 x10 x11 x12 x13 (wrapA .i64 (x14 + (1 : Int))) j28.2)
      (some ((), h15))) n
theorem corbellaw4_of.l1_zero (k : Nat) (x8 : Int) (x9 : Int) (x10 : Sl) (x11 : Sl) (x12 : Int) (x13 : Sl) (x14 : Int) (h15 : H) : corbellaw4_of.l1 k 0 x8 x9 x10 x11 x12 x13 x14 h15 = none := rfl
theorem corbellaw4_of.l1_succ (k n : Nat) (x8 : Int) (x9 : Int) (x10 : Sl) (x11 : Sl) (x12 : Int) (x13 : Sl) (x14 : Int) (h15 : H) : corbellaw4_of.l1 k (n + 1) x8 x9 x10 x11 x12 x13 x14 h15 = (cond (decide (x14 < x9))
      ((cond (decide ((wrapA .i64 ((wrapA .i64 (x12 * x9)) + x14)) < (Int.ofNat x10.n)))
      ((asP (ixs 1 x10.a x10.n (wrapA .i64 ((wrapA .i64 (x12 * x9)) + x14)))).bind fun p16 =>
    (asI .i64 (ldc h15 p16)).bind fun n17 =>
    (asP (ixs 1 x13.a x13.n x14)).bind fun p18 =>
    (stv 1 h15 p18 [(Value.int .u8 (wrapA .u8 n17))]).bind fun q19 =>
    (asP (ixs 1 x10.a x10.n (wrapA .i64 ((wrapA .i64 (x12 * x9)) + x14)))).bind fun p20 =>
    (asI .i64 (ldc q19.2 p20)).bind fun n21 =>
    (cond ((n21.tmod (5 : Int)) == (0 : Int))
      ((asP (ixs 1 x10.a x10.n (wrapA .i64 ((wrapA .i64 (x12 * x9)) + x14)))).bind fun p22 =>
    (asI .i64 (ldc q19.2 p22)).bind fun n23 =>
    (corbelhand_Pick.f k n23 (2 : Int) q19.2).bind fun q24 =>
    (asP (ixs 1 x13.a x13.n x14)).bind fun p25 =>
    (stv 1 q24.2 p25 [(Value.int .u8 (wrapA .u8 q24.1))]).bind fun q26 =>
    some ((), q26.2))
      (some ((), q19.2)) : Option ((Unit) × H)).bind fun j27 =>
    some ((), j27.2))
      (some ((), h15)) : Option ((Unit) × H)).bind fun j28 =>
    corbellaw4_of.l1 k n x8 x9 x10 x11 x12 x13 (wrapA .i64 (x14 + (1 : Int))) j28.2)
      (some ((), h15))) := rfl
noncomputable def corbellaw4_of.l0 (k : Nat) (n : Nat) : Int → Int → Sl → Sl → Int → H → Option ((Sl) × H) :=
  Nat.rec (motive := fun _ => Int → Int → Sl → Sl → Int → H → Option ((Sl) × H)) (fun _ _ _ _ _ _ => none) (fun _ ih x1 x2 x3 x4 x5 h6 => cond (decide (x5 < x1))
      ((asS2 (mkz 5 1 1 [(Value.int .u8 (0 : Int))] x2 x2 h6)).bind fun q7 =>
    (corbellaw4_of.l1 k k x1 x2 x3 x4 x5 q7.1 (0 : Int) q7.2).bind fun w29 =>
    (asS2 (apv 40 1 24 (Value.slice x4.a x4.n x4.c) (Value.slice (some ⟨w29.2.next, 0, none⟩) 1 1) (newR w29.2 40 1 [(Value.slice q7.1.a q7.1.n q7.1.c)]))).bind fun q30 =>
    ih x1 x2 x3 q30.1 (wrapA .i64 (x5 + (1 : Int))) q30.2)
      (some (x4, h6))) n
theorem corbellaw4_of.l0_zero (k : Nat) (x1 : Int) (x2 : Int) (x3 : Sl) (x4 : Sl) (x5 : Int) (h6 : H) : corbellaw4_of.l0 k 0 x1 x2 x3 x4 x5 h6 = none := rfl
theorem corbellaw4_of.l0_succ (k n : Nat) (x1 : Int) (x2 : Int) (x3 : Sl) (x4 : Sl) (x5 : Int) (h6 : H) : corbellaw4_of.l0 k (n + 1) x1 x2 x3 x4 x5 h6 = (cond (decide (x5 < x1))
      ((asS2 (mkz 5 1 1 [(Value.int .u8 (0 : Int))] x2 x2 h6)).bind fun q7 =>
    (corbellaw4_of.l1 k k x1 x2 x3 x4 x5 q7.1 (0 : Int) q7.2).bind fun w29 =>
    (asS2 (apv 40 1 24 (Value.slice x4.a x4.n x4.c) (Value.slice (some ⟨w29.2.next, 0, none⟩) 1 1) (newR w29.2 40 1 [(Value.slice q7.1.a q7.1.n q7.1.c)]))).bind fun q30 =>
    corbellaw4_of.l0 k n x1 x2 x3 q30.1 (wrapA .i64 (x5 + (1 : Int))) q30.2)
      (some (x4, h6))) := rfl
noncomputable def corbellaw4_of.f (k : Nat) (a0 : Int) (a1 : Int) (a2 : Sl) (h : H) : Option ((Sl) × H) :=
  (corbellaw4_of.l0 k k a0 a1 a2 (⟨none, 0, 0⟩ : Sl) (0 : Int) h).bind fun w31 =>
    some (w31.1, w31.2)
noncomputable def corbellaw4_of.T (k : Nat) : Tbl := tblOf [⟨36, anyArgs, wr [(.int .i64), (.int .i64)] [(.int .i64)] (fun a h => corbelhand_Pick.f k (a.1) (a.2) h)⟩]
noncomputable def corbellaw4_of.an (k : Nat) (p : Nat) : Option Ann := cond (Nat.beq p 58) (some (.pass [] (lrun [(0, (.int .i64)), (1, (.int .i64)), (2, .sl), (7, .sl), (8, (.int .i64))] none [(7, .sl)] 0 (fun a h => corbellaw4_of.l0 k k (a.1) (a.2.1) (a.2.2.1) (a.2.2.2.1) (a.2.2.2.2) h))))
  (cond (Nat.beq p 14922) (some (.pass [0, 1, 2, 7, 8, 9] (lrun [(0, (.int .i64)), (1, (.int .i64)), (2, .sl), (7, .sl), (8, (.int .i64)), (9, .sl), (10, (.int .i64))] none [] 2 (fun a h => corbellaw4_of.l1 k k (a.1) (a.2.1) (a.2.2.1) (a.2.2.2.1) (a.2.2.2.2.1) (a.2.2.2.2.2.1) (a.2.2.2.2.2.2) h))))
  (cond (Nat.beq p 955027) (some (.join [0, 1, 2, 7, 8, 9, 10] none []))
  (cond (Nat.beq p 7640219) (some (.join [0, 1, 2, 7, 8, 9, 10] none []))
  (none))))
noncomputable def corbellaw4_of.body : Code := (Try.f37.body).getD .skip
noncomputable def corbellaw4_of.c58 : Code := cat corbellaw4_of.body [1, 1, 0, 1, 0, 0]
noncomputable def corbellaw4_of.c14922 : Code := cat corbellaw4_of.body [1, 1, 0, 1, 0, 0, 1, 0, 0, 1, 0, 1, 0, 0]
set_option maxRecDepth 100000 in
theorem corbellaw4_of.TS {C : FuncId → Bool} {X : CallF} (hX : XOk C X) (k : Nat) : TblS Try.prog C X (corbellaw4_of.T k) := by
  refine tblOf_sound ?_
  intro e he
  rcases List.mem_cons.1 he with rfl | he
  · exact wr_told (corbelhand_Pick.told hX k)
  exact absurd he List.not_mem_nil
set_option maxRecDepth 100000 in
theorem corbellaw4_of.l1_pass {C : FuncId → Bool} {X : CallF} (hX : XOk C X) (k n : Nat) : PassS Try.prog C X 61 (.loop corbellaw4_of.c14922) (lrun [(0, (.int .i64)), (1, (.int .i64)), (2, .sl), (7, .sl), (8, (.int .i64)), (9, .sl), (10, (.int .i64))] none [] 2 (fun a h => corbellaw4_of.l1 k n (a.1) (a.2.1) (a.2.2.1) (a.2.2.2.1) (a.2.2.2.2.1) (a.2.2.2.2.2.1) (a.2.2.2.2.2.2) h)) :=
  loop_pass (ins := [(0, (.int .i64)), (1, (.int .i64)), (2, .sl), (7, .sl), (8, (.int .i64)), (9, .sl), (10, (.int .i64))]) (rets := none) (outs := []) (id := 2) (tbl := corbellaw4_of.T k) (an := corbellaw4_of.an k) (pb := 29844) (corbellaw4_of.TS hX k) (fun n => (fun a h => corbellaw4_of.l1 k n (a.1) (a.2.1) (a.2.2.1) (a.2.2.2.1) (a.2.2.2.2.1) (a.2.2.2.2.2.1) (a.2.2.2.2.2.2) h)) (fun a h => rfl) (fun n a h => by kernel_rfl)
    (by
      have e : need (corbellaw4_of.an k) corbellaw4_of.c14922 29844 = [] := by kernel_rfl
      rw [e]; intro q hq; cases hq) n
set_option maxRecDepth 100000 in
theorem corbellaw4_of.l0_pass {C : FuncId → Bool} {X : CallF} (hX : XOk C X) (k n : Nat) : PassS Try.prog C X 61 (.loop corbellaw4_of.c58) (lrun [(0, (.int .i64)), (1, (.int .i64)), (2, .sl), (7, .sl), (8, (.int .i64))] none [(7, .sl)] 0 (fun a h => corbellaw4_of.l0 k n (a.1) (a.2.1) (a.2.2.1) (a.2.2.2.1) (a.2.2.2.2) h)) :=
  loop_pass (ins := [(0, (.int .i64)), (1, (.int .i64)), (2, .sl), (7, .sl), (8, (.int .i64))]) (rets := none) (outs := [(7, .sl)]) (id := 0) (tbl := corbellaw4_of.T k) (an := corbellaw4_of.an k) (pb := 116) (corbellaw4_of.TS hX k) (fun n => (fun a h => corbellaw4_of.l0 k n (a.1) (a.2.1) (a.2.2.1) (a.2.2.2.1) (a.2.2.2.2) h)) (fun a h => rfl) (fun n a h => by kernel_rfl)
    (by
      have e : need (corbellaw4_of.an k) corbellaw4_of.c58 116 = [(Code.loop corbellaw4_of.c14922, lrun [(0, (.int .i64)), (1, (.int .i64)), (2, .sl), (7, .sl), (8, (.int .i64)), (9, .sl), (10, (.int .i64))] none [] 2 (fun a h => corbellaw4_of.l1 k k (a.1) (a.2.1) (a.2.2.1) (a.2.2.2.1) (a.2.2.2.2.1) (a.2.2.2.2.2.1) (a.2.2.2.2.2.2) h))] := by kernel_rfl
      rw [e]; intro q hq
      rcases List.mem_cons.1 hq with rfl | hq
      · exact corbellaw4_of.l1_pass hX k k
      cases hq) n
set_option maxRecDepth 100000 in
theorem corbellaw4_of.eq (k : Nat) (a : RT [(.int .i64), (.int .i64), .sl]) (h : H) : (fun a h => corbellaw4_of.f k (a.1) (a.2.1) (a.2.2) h) a h = kfun Try.prog (corbellaw4_of.T k) (corbellaw4_of.an k) (RT [.sl] × H) Try.f37 (encL [(.int .i64), (.int .i64), .sl] a) h (fun vs h' => (decL [.sl] vs).bind fun x => some (x, h')) := by kernel_rfl
set_option maxRecDepth 100000 in
theorem corbellaw4_of.told {C : FuncId → Bool} {X : CallF} (hX : XOk C X) (k : Nat) : Den.Told Try.prog C X 37 [(.int .i64), (.int .i64), .sl] [.sl] (fun a h => corbellaw4_of.f k (a.1) (a.2.1) (a.2.2) h) :=
  told_of fun a h q e => fn_of (c := corbellaw4_of.body) (corbellaw4_of.TS hX k) Try.func37 (by kernel_rfl) (hX.no 37 _ h (by decide))
    (by
      have e : need (corbellaw4_of.an k) corbellaw4_of.body 1 = [(Code.loop corbellaw4_of.c58, lrun [(0, (.int .i64)), (1, (.int .i64)), (2, .sl), (7, .sl), (8, (.int .i64))] none [(7, .sl)] 0 (fun a h => corbellaw4_of.l0 k k (a.1) (a.2.1) (a.2.2.1) (a.2.2.2.1) (a.2.2.2.2) h))] := by kernel_rfl
      rw [e]; intro q hq
      rcases List.mem_cons.1 hq with rfl | hq
      · exact corbellaw4_of.l0_pass hX k k
      cases hq)
    ((corbellaw4_of.eq k a h).symm.trans e)
/-! ### corbel/corbellaw4.MatrixBack -/
noncomputable def corbellaw4_MatrixBack.f (k : Nat) (a0 : Int) (a1 : Sl) (a2 : Sl) (h : H) : Option ((Bool) × H) :=
  (field_New.f k h).bind fun q1 =>
    (corbelhand_Pick.f k a0 (6 : Int) q1.2).bind fun q2 =>
    (corbellaw4_of.f k (wrapA .i64 ((1 : Int) + q2.1)) (wrapA .i64 ((1 : Int) + q2.1)) a1 q2.2).bind fun q3 =>
    (corbellaw4_of.f k (wrapA .i64 ((1 : Int) + q2.1)) (wrapA .i64 ((1 : Int) + q2.1)) a2 q3.2).bind fun q4 =>
    (matrix_Inverse.f k q1.1 q3.1 q4.2).bind fun q5 =>
    (matrix_Identity.f k (wrapA .i64 ((1 : Int) + q2.1)) q5.2).bind fun q6 =>
    (cond (!true) (some (true, q6.2))
      (some ((Int.ofNat q6.1.n) != (wrapA .i64 ((1 : Int) + q2.1)), q6.2))).bind fun g7 =>
    cond g7.1
      (some (false, g7.2))
      ((cond q5.1.2 ((matrix_Mul.f k q1.1 q3.1 q5.1.1 g7.2).bind fun q8 =>
    (matrix_Same.f k q8.1 q6.1 q8.2).bind fun q9 =>
    (cond (!q9.1) (some (true, q9.2))
      ((matrix_Mul.f k q1.1 q5.1.1 q3.1 q9.2).bind fun q10 =>
    (matrix_Same.f k q10.1 q6.1 q10.2).bind fun q11 =>
    some (!q11.1, q11.2))).bind fun g12 =>
    some (g12.1, g12.2))
      (some (false, g7.2))).bind fun g13 =>
    cond g13.1
      (some (false, g13.2))
      ((matrix_Inverse.f k q1.1 q4.1 g13.2).bind fun q14 =>
    (matrix_Mul.f k q1.1 q3.1 q4.1 q14.2).bind fun q15 =>
    (matrix_Inverse.f k q1.1 q15.1 q15.2).bind fun q16 =>
    (cond q5.1.2 (some (q14.1.2, q16.2))
      (some (false, q16.2))).bind fun g17 =>
    (cond (!(q16.1.2 == g17.1)) (some (true, g17.2))
      ((cond q16.1.2 ((matrix_Mul.f k q1.1 q14.1.1 q5.1.1 g17.2).bind fun q18 =>
    (matrix_Same.f k q16.1.1 q18.1 q18.2).bind fun q19 =>
    some (!q19.1, q19.2))
      (some (false, g17.2))).bind fun g20 =>
    some (g20.1, g20.2))).bind fun g21 =>
    cond g21.1
      (some (false, g21.2))
      ((corbellaw4_of.f k (wrapA .i64 ((1 : Int) + q2.1)) (3 : Int) a2 g21.2).bind fun q22 =>
    (matrix_Mul.f k q1.1 q3.1 q4.1 q22.2).bind fun q23 =>
    (matrix_Mul.f k q1.1 q23.1 q22.1 q23.2).bind fun q24 =>
    (matrix_Mul.f k q1.1 q4.1 q22.1 q24.2).bind fun q25 =>
    (matrix_Mul.f k q1.1 q3.1 q25.1 q25.2).bind fun q26 =>
    (matrix_Same.f k q24.1 q26.1 q26.2).bind fun q27 =>
    (cond q27.1 ((matrix_Mul.f k q1.1 q6.1 q22.1 q27.2).bind fun q28 =>
    (matrix_Same.f k q28.1 q22.1 q28.2).bind fun q29 =>
    some (q29.1, q29.2))
      (some (false, q27.2))).bind fun g30 =>
    some (g30.1, g30.2))))
noncomputable def corbellaw4_MatrixBack.T (k : Nat) : Tbl := tblOf [⟨18, anyArgs, wr [] [.ptr] (fun a h => field_New.f k h)⟩,
  ⟨36, anyArgs, wr [(.int .i64), (.int .i64)] [(.int .i64)] (fun a h => corbelhand_Pick.f k (a.1) (a.2) h)⟩,
  ⟨37, anyArgs, wr [(.int .i64), (.int .i64), .sl] [.sl] (fun a h => corbellaw4_of.f k (a.1) (a.2.1) (a.2.2) h)⟩,
  ⟨30, anyArgs, wr [.ptr, .sl] [.sl, .bool] (fun a h => matrix_Inverse.f k (a.1) (a.2) h)⟩,
  ⟨33, anyArgs, wr [(.int .i64)] [.sl] (fun a h => matrix_Identity.f k a h)⟩,
  ⟨31, anyArgs, knownW⟩,
  ⟨35, anyArgs, wr [.ptr, .sl, .sl] [.sl] (fun a h => matrix_Mul.f k (a.1) (a.2.1) (a.2.2) h)⟩,
  ⟨32, anyArgs, wr [.sl, .sl] [.bool] (fun a h => matrix_Same.f k (a.1) (a.2) h)⟩]
noncomputable def corbellaw4_MatrixBack.an (k : Nat) (p : Nat) : Option Ann := none
noncomputable def corbellaw4_MatrixBack.body : Code := (Try.f10.body).getD .skip
set_option maxRecDepth 100000 in
theorem corbellaw4_MatrixBack.TS {C : FuncId → Bool} {X : CallF} (hX : XOk C X) (hK31 : KOk X 31) (k : Nat) : TblS Try.prog C X (corbellaw4_MatrixBack.T k) := by
  refine tblOf_sound ?_
  intro e he
  rcases List.mem_cons.1 he with rfl | he
  · exact wr_told (field_New.told hX k)
  rcases List.mem_cons.1 he with rfl | he
  · exact wr_told (corbelhand_Pick.told hX k)
  rcases List.mem_cons.1 he with rfl | he
  · exact wr_told (corbellaw4_of.told hX k)
  rcases List.mem_cons.1 he with rfl | he
  · exact wr_told (matrix_Inverse.told hX k)
  rcases List.mem_cons.1 he with rfl | he
  · exact wr_told (matrix_Identity.told hX k)
  rcases List.mem_cons.1 he with rfl | he
  · exact knownW_told hK31
  rcases List.mem_cons.1 he with rfl | he
  · exact wr_told (matrix_Mul.told hX k)
  rcases List.mem_cons.1 he with rfl | he
  · exact wr_told (matrix_Same.told hX k)
  exact absurd he List.not_mem_nil
set_option maxRecDepth 100000 in
theorem corbellaw4_MatrixBack.eq (k : Nat) (a : RT [(.int .i64), .sl, .sl]) (h : H) : (fun a h => corbellaw4_MatrixBack.f k (a.1) (a.2.1) (a.2.2) h) a h = kfun Try.prog (corbellaw4_MatrixBack.T k) (corbellaw4_MatrixBack.an k) (RT [.bool] × H) Try.f10 (encL [(.int .i64), .sl, .sl] a) h (fun vs h' => (decL [.bool] vs).bind fun x => some (x, h')) := by kernel_rfl
set_option maxRecDepth 100000 in
theorem corbellaw4_MatrixBack.told {C : FuncId → Bool} {X : CallF} (hX : XOk C X) (hK31 : KOk X 31) (k : Nat) : Den.Told Try.prog C X 10 [(.int .i64), .sl, .sl] [.bool] (fun a h => corbellaw4_MatrixBack.f k (a.1) (a.2.1) (a.2.2) h) :=
  told_of fun a h q e => fn_of (c := corbellaw4_MatrixBack.body) (corbellaw4_MatrixBack.TS hX hK31 k) Try.func10 (by kernel_rfl) (hX.no 10 _ h (by decide))
    (by
      have e : need (corbellaw4_MatrixBack.an k) corbellaw4_MatrixBack.body 1 = [] := by kernel_rfl
      rw [e]; intro q hq; cases hq)
    ((corbellaw4_MatrixBack.eq k a h).symm.trans e)
/-! ### corbel/corbellaw4.MatrixRows -/
noncomputable def corbellaw4_MatrixRows.l0 (k : Nat) (n : Nat) : Int → Int → Int → Sl → Bool → Sl → Int → H → Option (((Bool) ⊕ (Unit)) × H) :=
  Nat.rec (motive := fun _ => Int → Int → Int → Sl → Bool → Sl → Int → H → Option (((Bool) ⊕ (Unit)) × H)) (fun _ _ _ _ _ _ _ _ => none) (fun _ ih x33 x34 x35 x36 x37 x38 x39 h40 => (cond (decide (x39 < x33)) (some (x37, h40))
      (some (false, h40))).bind fun g41 =>
    cond g41.1
      ((asP (ixs 1 x36.a x36.n x39)).bind fun p42 =>
    (asS (ldc g41.2 p42)).bind fun s43 =>
    (cond ((Int.ofNat s43.n) != x33) (some (true, g41.2, [], []))
      ((asP (ixs 1 x38.a x38.n x39)).bind fun p44 =>
    (asS (ldc g41.2 p44)).bind fun s45 =>
    some ((Int.ofNat s45.n) != x33, g41.2, [], [])) : Option (Bool × H × LEs × EFs)).bind fun g46 =>
    (cond g46.1 (some (true, g46.2.1, [], []))
      ((asP (ixs 1 x36.a x36.n x39)).bind fun p47 =>
    (asS (ldc g46.2.1 p47)).bind fun s48 =>
    (asP (ixs 1 s48.a s48.n x34)).bind fun p49 =>
    (asI .u8 (ldc g46.2.1 p49)).bind fun n50 =>
    (asP (ixs 1 x38.a x38.n x39)).bind fun p51 =>
    (asS (ldc g46.2.1 p51)).bind fun s52 =>
    (asP (ixs 1 s52.a s52.n x35)).bind fun p53 =>
    (asI .u8 (ldc g46.2.1 p53)).bind fun n54 =>
    some (n50 != n54, g46.2.1, [], [])) : Option (Bool × H × LEs × EFs)).bind fun g55 =>
    (cond g55.1 (some (true, g55.2.1, [], []))
      ((asP (ixs 1 x36.a x36.n x39)).bind fun p56 =>
    (asS (ldc g55.2.1 p56)).bind fun s57 =>
    (asP (ixs 1 s57.a s57.n x35)).bind fun p58 =>
    (asI .u8 (ldc g55.2.1 p58)).bind fun n59 =>
    (asP (ixs 1 x38.a x38.n x39)).bind fun p60 =>
    (asS (ldc g55.2.1 p60)).bind fun s61 =>
    (asP (ixs 1 s61.a s61.n x34)).bind fun p62 =>
    (asI .u8 (ldc g55.2.1 p62)).bind fun n63 =>
    some (n59 != n63, g55.2.1, [], [])) : Option (Bool × H × LEs × EFs)).bind fun g64 =>
    cond g64.1
      (some (Sum.inl false, g64.2.1))
      (ih x33 x34 x35 x36 x37 x38 (wrapA .i64 (x39 + (1 : Int))) g64.2.1))
      (some (Sum.inr (), g41.2))) n
theorem corbellaw4_MatrixRows.l0_zero (k : Nat) (x33 : Int) (x34 : Int) (x35 : Int) (x36 : Sl) (x37 : Bool) (x38 : Sl) (x39 : Int) (h40 : H) : corbellaw4_MatrixRows.l0 k 0 x33 x34 x35 x36 x37 x38 x39 h40 = none := rfl
theorem corbellaw4_MatrixRows.l0_succ (k n : Nat) (x33 : Int) (x34 : Int) (x35 : Int) (x36 : Sl) (x37 : Bool) (x38 : Sl) (x39 : Int) (h40 : H) : corbellaw4_MatrixRows.l0 k (n + 1) x33 x34 x35 x36 x37 x38 x39 h40 = ((cond (decide (x39 < x33)) (some (x37, h40))
      (some (false, h40))).bind fun g41 =>
    cond g41.1
      ((asP (ixs 1 x36.a x36.n x39)).bind fun p42 =>
    (asS (ldc g41.2 p42)).bind fun s43 =>
    (cond ((Int.ofNat s43.n) != x33) (some (true, g41.2, [], []))
      ((asP (ixs 1 x38.a x38.n x39)).bind fun p44 =>
    (asS (ldc g41.2 p44)).bind fun s45 =>
    some ((Int.ofNat s45.n) != x33, g41.2, [], [])) : Option (Bool × H × LEs × EFs)).bind fun g46 =>
    (cond g46.1 (some (true, g46.2.1, [], []))
      ((asP (ixs 1 x36.a x36.n x39)).bind fun p47 =>
    (asS (ldc g46.2.1 p47)).bind fun s48 =>
    (asP (ixs 1 s48.a s48.n x34)).bind fun p49 =>
    (asI .u8 (ldc g46.2.1 p49)).bind fun n50 =>
    (asP (ixs 1 x38.a x38.n x39)).bind fun p51 =>
    (asS (ldc g46.2.1 p51)).bind fun s52 =>
    (asP (ixs 1 s52.a s52.n x35)).bind fun p53 =>
    (asI .u8 (ldc g46.2.1 p53)).bind fun n54 =>
    some (n50 != n54, g46.2.1, [], [])) : Option (Bool × H × LEs × EFs)).bind fun g55 =>
    (cond g55.1 (some (true, g55.2.1, [], []))
      ((asP (ixs 1 x36.a x36.n x39)).bind fun p56 =>
    (asS (ldc g55.2.1 p56)).bind fun s57 =>
    (asP (ixs 1 s57.a s57.n x35)).bind fun p58 =>
    (asI .u8 (ldc g55.2.1 p58)).bind fun n59 =>
    (asP (ixs 1 x38.a x38.n x39)).bind fun p60 =>
    (asS (ldc g55.2.1 p60)).bind fun s61 =>
    (asP (ixs 1 s61.a s61.n x34)).bind fun p62 =>
    (asI .u8 (ldc g55.2.1 p62)).bind fun n63 =>
    some (n59 != n63, g55.2.1, [], [])) : Option (Bool × H × LEs × EFs)).bind fun g64 =>
    cond g64.1
      (some (Sum.inl false, g64.2.1))
      (corbellaw4_MatrixRows.l0 k n x33 x34 x35 x36 x37 x38 (wrapA .i64 (x39 + (1 : Int))) g64.2.1))
      (some (Sum.inr (), g41.2))) := rfl
noncomputable def corbellaw4_MatrixRows.f (k : Nat) (a0 : Int) (a1 : Sl) (a2 : Int) (a3 : Int) (h : H) : Option ((Bool) × H) :=
  (field_New.f k h).bind fun q1 =>
    (corbelhand_Pick.f k a0 (5 : Int) q1.2).bind fun q2 =>
    (corbellaw4_of.f k (wrapA .i64 ((2 : Int) + q2.1)) (wrapA .i64 ((2 : Int) + q2.1)) a1 q2.2).bind fun q3 =>
    (corbelhand_Pick.f k a2 (wrapA .i64 ((2 : Int) + q2.1)) q3.2).bind fun q4 =>
    (corbelhand_Pick.f k a3 (wrapA .i64 ((2 : Int) + q2.1)) q4.2).bind fun q5 =>
    (cond (!true) (some (true, q5.2))
      (some (q4.1 == q5.1, q5.2))).bind fun g6 =>
    cond g6.1
      (some (true, g6.2))
      ((asS2 (apv 40 1 24 (Value.slice (some ⟨g6.2.next, 0, none⟩) 0 0) (Value.slice q3.1.a q3.1.n q3.1.c) (newR g6.2 40 1 []))).bind fun q7 =>
    (asP (ixs 1 q3.1.a q3.1.n q4.1)).bind fun p8 =>
    (asS (ldc q7.2 p8)).bind fun s9 =>
    (asP (ixs 1 q7.1.a q7.1.n q5.1)).bind fun p10 =>
    (stv 1 q7.2 p10 [(Value.slice s9.a s9.n s9.c)]).bind fun q11 =>
    (matrix_Inverse.f k q1.1 q7.1 q11.2).bind fun q12 =>
    (asS2 (apv 40 1 24 (Value.slice (some ⟨q12.2.next, 0, none⟩) 0 0) (Value.slice q3.1.a q3.1.n q3.1.c) (newR q12.2 40 1 []))).bind fun q13 =>
    (asS2 (mkz 5 1 1 [(Value.int .u8 (0 : Int))] (wrapA .i64 ((2 : Int) + q2.1)) (wrapA .i64 ((2 : Int) + q2.1)) q13.2)).bind fun q14 =>
    (asP (ixs 1 q13.1.a q13.1.n q5.1)).bind fun p15 =>
    (stv 1 q14.2 p15 [(Value.slice q14.1.a q14.1.n q14.1.c)]).bind fun q16 =>
    (matrix_Inverse.f k q1.1 q13.1 q16.2).bind fun q17 =>
    (cond q12.1.2 (some (true, q17.2))
      (some (q17.1.2, q17.2))).bind fun g18 =>
    cond g18.1
      (some (false, g18.2))
      ((asS2 (apv 40 1 24 (Value.slice (some ⟨g18.2.next, 0, none⟩) 0 0) (Value.slice q3.1.a q3.1.n q3.1.c) (newR g18.2 40 1 []))).bind fun q19 =>
    (asP (ixs 1 q3.1.a q3.1.n q5.1)).bind fun p20 =>
    (asS (ldc q19.2 p20)).bind fun s21 =>
    (asP (ixs 1 q3.1.a q3.1.n q4.1)).bind fun p22 =>
    (asS (ldc q19.2 p22)).bind fun s23 =>
    (asP (ixs 1 q19.1.a q19.1.n q4.1)).bind fun p24 =>
    (stv 1 q19.2 p24 [(Value.slice s21.a s21.n s21.c)]).bind fun q25 =>
    (asP (ixs 1 q19.1.a q19.1.n q5.1)).bind fun p26 =>
    (stv 1 q25.2 p26 [(Value.slice s23.a s23.n s23.c)]).bind fun q27 =>
    (matrix_Inverse.f k q1.1 q3.1 q27.2).bind fun q28 =>
    (matrix_Inverse.f k q1.1 q19.1 q28.2).bind fun q29 =>
    (cond (!(q28.1.2 == q29.1.2)) (some (true, q29.2))
      ((cond q28.1.2 ((cond ((Int.ofNat q28.1.1.n) != (wrapA .i64 ((2 : Int) + q2.1))) (some (true, q29.2))
      (some ((Int.ofNat q29.1.1.n) != (wrapA .i64 ((2 : Int) + q2.1)), q29.2))).bind fun g30 =>
    some (g30.1, g30.2))
      (some (false, q29.2))).bind fun g31 =>
    some (g31.1, g31.2))).bind fun g32 =>
    cond g32.1
      (some (false, g32.2))
      ((corbellaw4_MatrixRows.l0 k k (wrapA .i64 ((2 : Int) + q2.1)) q4.1 q5.1 q28.1.1 q28.1.2 q29.1.1 (0 : Int) g32.2).bind fun w65 =>
    match w65.1 with
    | .inl r66 => some (r66, w65.2)
    | .inr o67 => some (true, w65.2))))
noncomputable def corbellaw4_MatrixRows.T (k : Nat) : Tbl := tblOf [⟨18, anyArgs, wr [] [.ptr] (fun a h => field_New.f k h)⟩,
  ⟨36, anyArgs, wr [(.int .i64), (.int .i64)] [(.int .i64)] (fun a h => corbelhand_Pick.f k (a.1) (a.2) h)⟩,
  ⟨37, anyArgs, wr [(.int .i64), (.int .i64), .sl] [.sl] (fun a h => corbellaw4_of.f k (a.1) (a.2.1) (a.2.2) h)⟩,
  ⟨31, anyArgs, knownW⟩,
  ⟨30, anyArgs, wr [.ptr, .sl] [.sl, .bool] (fun a h => matrix_Inverse.f k (a.1) (a.2) h)⟩]
noncomputable def corbellaw4_MatrixRows.an (k : Nat) (p : Nat) : Option Ann := cond (Nat.beq p 8388602) (some (.pass [] (lrun [(0, (.int .i64)), (2, (.int .i64)), (3, (.int .i64)), (18, .sl), (19, .bool), (20, .sl), (22, (.int .i64))] (some [(8, .bool)]) [] 0 (fun a h => corbellaw4_MatrixRows.l0 k k (a.1) (a.2.1) (a.2.2.1) (a.2.2.2.1) (a.2.2.2.2.1) (a.2.2.2.2.2.1) (a.2.2.2.2.2.2) h))))
  (none)
noncomputable def corbellaw4_MatrixRows.body : Code := (Try.f11.body).getD .skip
noncomputable def corbellaw4_MatrixRows.c8388602 : Code := cat corbellaw4_MatrixRows.body [1, 1, 1, 1, 1, 1, 1, 1, 1, 1, 1, 1, 1, 1, 1, 1, 1, 1, 1, 0, 1, 0, 0]
set_option maxRecDepth 100000 in
theorem corbellaw4_MatrixRows.TS {C : FuncId → Bool} {X : CallF} (hX : XOk C X) (hK31 : KOk X 31) (k : Nat) : TblS Try.prog C X (corbellaw4_MatrixRows.T k) := by
  refine tblOf_sound ?_
  intro e he
  rcases List.mem_cons.1 he with rfl | he
  · exact wr_told (field_New.told hX k)
  rcases List.mem_cons.1 he with rfl | he
  · exact wr_told (corbelhand_Pick.told hX k)
  rcases List.mem_cons.1 he with rfl | he
  · exact wr_told (corbellaw4_of.told hX k)
  rcases List.mem_cons.1 he with rfl | he
  · exact knownW_told hK31
  rcases List.mem_cons.1 he with rfl | he
  · exact wr_told (matrix_Inverse.told hX k)
  exact absurd he List.not_mem_nil
set_option maxRecDepth 100000 in
theorem corbellaw4_MatrixRows.l0_pass {C : FuncId → Bool} {X : CallF} (hX : XOk C X) (hK31 : KOk X 31) (k n : Nat) : PassS Try.prog C X 184 (.loop corbellaw4_MatrixRows.c8388602) (lrun [(0, (.int .i64)), (2, (.int .i64)), (3, (.int .i64)), (18, .sl), (19, .bool), (20, .sl), (22, (.int .i64))] (some [(8, .bool)]) [] 0 (fun a h => corbellaw4_MatrixRows.l0 k n (a.1) (a.2.1) (a.2.2.1) (a.2.2.2.1) (a.2.2.2.2.1) (a.2.2.2.2.2.1) (a.2.2.2.2.2.2) h)) :=
  loop_pass (ins := [(0, (.int .i64)), (2, (.int .i64)), (3, (.int .i64)), (18, .sl), (19, .bool), (20, .sl), (22, (.int .i64))]) (rets := (some [(8, .bool)])) (outs := []) (id := 0) (tbl := corbellaw4_MatrixRows.T k) (an := corbellaw4_MatrixRows.an k) (pb := 16777204) (corbellaw4_MatrixRows.TS hX hK31 k) (fun n => (fun a h => corbellaw4_MatrixRows.l0 k n (a.1) (a.2.1) (a.2.2.1) (a.2.2.2.1) (a.2.2.2.2.1) (a.2.2.2.2.2.1) (a.2.2.2.2.2.2) h)) (fun a h => rfl) (fun n a h => by kernel_rfl)
    (by
      have e : need (corbellaw4_MatrixRows.an k) corbellaw4_MatrixRows.c8388602 16777204 = [] := by kernel_rfl
      rw [e]; intro q hq; cases hq) n
set_option maxRecDepth 100000 in
theorem corbellaw4_MatrixRows.eq (k : Nat) (a : RT [(.int .i64), .sl, (.int .i64), (.int .i64)]) (h : H) : (fun a h => corbellaw4_MatrixRows.f k (a.1) (a.2.1) (a.2.2.1) (a.2.2.2) h) a h = kfun Try.prog (corbellaw4_MatrixRows.T k) (corbellaw4_MatrixRows.an k) (RT [.bool] × H) Try.f11 (encL [(.int .i64), .sl, (.int .i64), (.int .i64)] a) h (fun vs h' => (decL [.bool] vs).bind fun x => some (x, h')) := by kernel_rfl
set_option maxRecDepth 100000 in
theorem corbellaw4_MatrixRows.told {C : FuncId → Bool} {X : CallF} (hX : XOk C X) (hK31 : KOk X 31) (k : Nat) : Den.Told Try.prog C X 11 [(.int .i64), .sl, (.int .i64), (.int .i64)] [.bool] (fun a h => corbellaw4_MatrixRows.f k (a.1) (a.2.1) (a.2.2.1) (a.2.2.2) h) :=
  told_of fun a h q e => fn_of (c := corbellaw4_MatrixRows.body) (corbellaw4_MatrixRows.TS hX hK31 k) Try.func11 (by kernel_rfl) (hX.no 11 _ h (by decide))
    (by
      have e : need (corbellaw4_MatrixRows.an k) corbellaw4_MatrixRows.body 1 = [(Code.loop corbellaw4_MatrixRows.c8388602, lrun [(0, (.int .i64)), (2, (.int .i64)), (3, (.int .i64)), (18, .sl), (19, .bool), (20, .sl), (22, (.int .i64))] (some [(8, .bool)]) [] 0 (fun a h => corbellaw4_MatrixRows.l0 k k (a.1) (a.2.1) (a.2.2.1) (a.2.2.2.1) (a.2.2.2.2.1) (a.2.2.2.2.2.1) (a.2.2.2.2.2.2) h))] := by kernel_rfl
      rw [e]; intro q hq
      rcases List.mem_cons.1 hq with rfl | hq
      · exact corbellaw4_MatrixRows.l0_pass hX hK31 k k
      cases hq)
    ((corbellaw4_MatrixRows.eq k a h).symm.trans e)
end Go.Proofs.Ytnjeafdbifcfhaa.Fwd
