/- Forward runs of functions of the program, printed by a program of this session: each function on plain values and memory, and that the code comes to it. No condition. -/
import Derived.Test.YthpkhegoamhgeaaDenZ
import Derived.KernelRfl
import Derived.Test.YthpkhegoamhgeaaFAsk
import Derived.Test.YthpkhegoamhgeaaFCall
import Derived.Test.YthpkhegoamhgeaaFKn12
import Derived.Test.YthpkhegoamhgeaaFKn27
namespace Go.Proofs.Ythpkhegoamhgeaa.Fwd
open Go Den
set_option linter.unusedVariables false
/-! ### corbel/corbelhand.Piece -/
noncomputable def corbelhand_Piece.f (k : Nat) (a0 : Int) (a1 : Int) (a2 : Int) (a3 : Int) (a4 : Int) (h : H) : Option (((Int × Int × Int × Sl)) × H) :=
  (corbelhand_Pick.f k a0 (40 : Int) (newR h 69 4 [(Value.int .i64 (0 : Int)), (Value.int .i64 (0 : Int)), (Value.int .i64 (0 : Int)), (Value.slice none 0 0)])).bind fun q1 =>
    (corbelhand_Pick.f k a1 (9 : Int) q1.2).bind fun q2 =>
    (corbelhand_Pick.f k a2 (6 : Int) q2.2).bind fun q3 =>
    (corbelhand_Bytes.f k a3 (32 : Int) q3.2).bind fun q4 =>
    (stv 4 (newR q4.2 69 4 [(Value.int .i64 (0 : Int)), (Value.int .i64 (0 : Int)), (Value.int .i64 (0 : Int)), (Value.slice none 0 0)]) (some ⟨q4.2.next, 0, none⟩) [(Value.int .i64 q1.1), (Value.int .i64 (wrapA .i64 ((1 : Int) + q2.1))), (Value.int .i64 q3.1), (Value.slice q4.1.a q4.1.n q4.1.c)]).bind fun q5 =>
    (corbelhand_Pick.f k a4 (24 : Int) q5.2).bind fun q6 =>
    (cond (q6.1 == (19 : Int))
      ((stv 1 q6.2 (some ⟨q4.2.next, 0, none⟩) [(Value.int .i64 a0)]).bind fun q7 =>
    some ((), q7.2))
      ((cond (q6.1 == (20 : Int))
      ((stv 1 q6.2 (some ⟨q4.2.next, 1, none⟩) [(Value.int .i64 a1)]).bind fun q8 =>
    some ((), q8.2))
      ((cond (q6.1 == (21 : Int))
      ((stv 1 q6.2 (some ⟨q4.2.next, 2, none⟩) [(Value.int .i64 a2)]).bind fun q9 =>
    some ((), q9.2))
      ((cond (q6.1 == (22 : Int))
      ((corbelhand_Pick.f k (wrapA .i64 (a4.tdiv (24 : Int))) (40 : Int) q6.2).bind fun q10 =>
    (corbelhand_Bytes.f k a3 q10.1 q10.2).bind fun q11 =>
    (stv 1 q11.2 (some ⟨q4.2.next, 3, none⟩) [(Value.slice q11.1.a q11.1.n q11.1.c)]).bind fun q12 =>
    some ((), q12.2))
      ((cond (q6.1 == (23 : Int))
      ((corbelhand_Pick.f k a1 (1099511627776 : Int) q6.2).bind fun q13 =>
    (stv 1 q13.2 (some ⟨q4.2.next, 1, none⟩) [(Value.int .i64 (wrapA .i64 ((1 : Int) + q13.1)))]).bind fun q14 =>
    some ((), q14.2))
      (some ((), q6.2)) : Option ((Unit) × H)).bind fun j15 =>
    some ((), j15.2)) : Option ((Unit) × H)).bind fun j16 =>
    some ((), j16.2)) : Option ((Unit) × H)).bind fun j17 =>
    some ((), j17.2)) : Option ((Unit) × H)).bind fun j18 =>
    some ((), j18.2)) : Option ((Unit) × H)).bind fun j19 =>
    (asSt [(.int .i64), (.int .i64), (.int .i64), .sl] (lda 4 j19.2 (some ⟨q4.2.next, 0, none⟩))).bind fun s20 =>
    (stv 4 j19.2 (some ⟨h.next, 0, none⟩) [(Value.int .i64 s20.1), (Value.int .i64 s20.2.1), (Value.int .i64 s20.2.2.1), (Value.slice s20.2.2.2.a s20.2.2.2.n s20.2.2.2.c)]).bind fun q21 =>
    (asSt [(.int .i64), (.int .i64), (.int .i64), .sl] (lda 4 q21.2 (some ⟨h.next, 0, none⟩))).bind fun s22 =>
    some ((s22.1, s22.2.1, s22.2.2.1, s22.2.2.2), q21.2)
noncomputable def corbelhand_Piece.T (k : Nat) : Tbl := tblOf [⟨14, anyArgs, wr [(.int .i64), (.int .i64)] [(.int .i64)] (fun a h => corbelhand_Pick.f k (a.1) (a.2) h)⟩,
  ⟨15, anyArgs, wr [(.int .i64), (.int .i64)] [.sl] (fun a h => corbelhand_Bytes.f k (a.1) (a.2) h)⟩]
noncomputable def corbelhand_Piece.an (k : Nat) (p : Nat) : Option Ann := cond (Nat.beq p 117) (some (.join [10, 11] none []))
  (cond (Nat.beq p 471) (some (.join [10, 11] none []))
  (cond (Nat.beq p 1887) (some (.join [10, 11] none []))
  (cond (Nat.beq p 7551) (some (.join [10, 11] none []))
  (cond (Nat.beq p 30207) (some (.join [10, 11] none []))
  (none)))))
noncomputable def corbelhand_Piece.body : Code := (Try.f31.body).getD .skip
set_option maxRecDepth 100000 in
theorem corbelhand_Piece.TS {C : FuncId → Bool} {X : CallF} (hX : XOk C X) (k : Nat) : TblS Try.prog C X (corbelhand_Piece.T k) := by
  refine tblOf_sound ?_
  intro e he
  rcases List.mem_cons.1 he with rfl | he
  · exact wr_told (corbelhand_Pick.told hX k)
  rcases List.mem_cons.1 he with rfl | he
  · exact wr_told (corbelhand_Bytes.told hX k)
  exact absurd he List.not_mem_nil
set_option maxRecDepth 100000 in
theorem corbelhand_Piece.eq (k : Nat) (a : RT [(.int .i64), (.int .i64), (.int .i64), (.int .i64), (.int .i64)]) (h : H) : (fun a h => corbelhand_Piece.f k (a.1) (a.2.1) (a.2.2.1) (a.2.2.2.1) (a.2.2.2.2) h) a h = kfun Try.prog (corbelhand_Piece.T k) (corbelhand_Piece.an k) (RT [(.st [(.int .i64), (.int .i64), (.int .i64), .sl])] × H) Try.f31 (encL [(.int .i64), (.int .i64), (.int .i64), (.int .i64), (.int .i64)] a) h (fun vs h' => (decL [(.st [(.int .i64), (.int .i64), (.int .i64), .sl])] vs).bind fun x => some (x, h')) := by kernel_rfl
set_option maxRecDepth 100000 in
theorem corbelhand_Piece.told {C : FuncId → Bool} {X : CallF} (hX : XOk C X) (k : Nat) : Den.Told Try.prog C X 31 [(.int .i64), (.int .i64), (.int .i64), (.int .i64), (.int .i64)] [(.st [(.int .i64), (.int .i64), (.int .i64), .sl])] (fun a h => corbelhand_Piece.f k (a.1) (a.2.1) (a.2.2.1) (a.2.2.2.1) (a.2.2.2.2) h) :=
  told_of fun a h q e => fn_of (c := corbelhand_Piece.body) (corbelhand_Piece.TS hX k) Try.func31 (by kernel_rfl) (hX.no 31 _ h (by decide))
    (by
      have e : need (corbelhand_Piece.an k) corbelhand_Piece.body 1 = [] := by kernel_rfl
      rw [e]; intro q hq; cases hq)
    ((corbelhand_Piece.eq k a h).symm.trans e)
/-! ### corbel/corbelhand.Intent -/
noncomputable def corbelhand_Intent.f (k : Nat) (a0 : Int) (a1 : Int) (a2 : Int) (a3 : Int) (h : H) : Option (((Int × Int × Sl)) × H) :=
  (corbelhand_Pick.f k a0 (40 : Int) (newR h 72 3 [(Value.int .i64 (0 : Int)), (Value.int .i64 (0 : Int)), (Value.slice none 0 0)])).bind fun q1 =>
    (corbelhand_Pick.f k a1 (9 : Int) q1.2).bind fun q2 =>
    (corbelhand_Bytes.f k a2 (128 : Int) q2.2).bind fun q3 =>
    (stv 3 (newR q3.2 72 3 [(Value.int .i64 (0 : Int)), (Value.int .i64 (0 : Int)), (Value.slice none 0 0)]) (some ⟨q3.2.next, 0, none⟩) [(Value.int .i64 q1.1), (Value.int .i64 (wrapA .i64 ((1 : Int) + q2.1))), (Value.slice q3.1.a q3.1.n q3.1.c)]).bind fun q4 =>
    (corbelhand_Pick.f k a3 (24 : Int) q4.2).bind fun q5 =>
    (cond (q5.1 == (20 : Int))
      ((stv 1 q5.2 (some ⟨q3.2.next, 0, none⟩) [(Value.int .i64 a0)]).bind fun q6 =>
    some ((), q6.2))
      ((cond (q5.1 == (21 : Int))
      ((stv 1 q5.2 (some ⟨q3.2.next, 1, none⟩) [(Value.int .i64 a1)]).bind fun q7 =>
    some ((), q7.2))
      ((cond (q5.1 == (22 : Int))
      ((corbelhand_Pick.f k (wrapA .i64 (a3.tdiv (24 : Int))) (140 : Int) q5.2).bind fun q8 =>
    (corbelhand_Bytes.f k a2 q8.1 q8.2).bind fun q9 =>
    (stv 1 q9.2 (some ⟨q3.2.next, 2, none⟩) [(Value.slice q9.1.a q9.1.n q9.1.c)]).bind fun q10 =>
    some ((), q10.2))
      ((cond (q5.1 == (23 : Int))
      ((corbelhand_Pick.f k a1 (1099511627776 : Int) q5.2).bind fun q11 =>
    (stv 1 q11.2 (some ⟨q3.2.next, 1, none⟩) [(Value.int .i64 (wrapA .i64 ((1 : Int) + q11.1)))]).bind fun q12 =>
    some ((), q12.2))
      (some ((), q5.2)) : Option ((Unit) × H)).bind fun j13 =>
    some ((), j13.2)) : Option ((Unit) × H)).bind fun j14 =>
    some ((), j14.2)) : Option ((Unit) × H)).bind fun j15 =>
    some ((), j15.2)) : Option ((Unit) × H)).bind fun j16 =>
    (asSt [(.int .i64), (.int .i64), .sl] (lda 3 j16.2 (some ⟨q3.2.next, 0, none⟩))).bind fun s17 =>
    (stv 3 j16.2 (some ⟨h.next, 0, none⟩) [(Value.int .i64 s17.1), (Value.int .i64 s17.2.1), (Value.slice s17.2.2.a s17.2.2.n s17.2.2.c)]).bind fun q18 =>
    (asSt [(.int .i64), (.int .i64), .sl] (lda 3 q18.2 (some ⟨h.next, 0, none⟩))).bind fun s19 =>
    some ((s19.1, s19.2.1, s19.2.2), q18.2)
noncomputable def corbelhand_Intent.T (k : Nat) : Tbl := tblOf [⟨14, anyArgs, wr [(.int .i64), (.int .i64)] [(.int .i64)] (fun a h => corbelhand_Pick.f k (a.1) (a.2) h)⟩,
  ⟨15, anyArgs, wr [(.int .i64), (.int .i64)] [.sl] (fun a h => corbelhand_Bytes.f k (a.1) (a.2) h)⟩]
noncomputable def corbelhand_Intent.an (k : Nat) (p : Nat) : Option Ann := cond (Nat.beq p 117) (some (.join [8, 9] none []))
  (cond (Nat.beq p 471) (some (.join [8, 9] none []))
  (cond (Nat.beq p 1887) (some (.join [8, 9] none []))
  (cond (Nat.beq p 7551) (some (.join [8, 9] none []))
  (none))))
noncomputable def corbelhand_Intent.body : Code := (Try.f32.body).getD .skip
set_option maxRecDepth 100000 in
theorem corbelhand_Intent.TS {C : FuncId → Bool} {X : CallF} (hX : XOk C X) (k : Nat) : TblS Try.prog C X (corbelhand_Intent.T k) := by
  refine tblOf_sound ?_
  intro e he
  rcases List.mem_cons.1 he with rfl | he
  · exact wr_told (corbelhand_Pick.told hX k)
  rcases List.mem_cons.1 he with rfl | he
  · exact wr_told (corbelhand_Bytes.told hX k)
  exact absurd he List.not_mem_nil
set_option maxRecDepth 100000 in
theorem corbelhand_Intent.eq (k : Nat) (a : RT [(.int .i64), (.int .i64), (.int .i64), (.int .i64)]) (h : H) : (fun a h => corbelhand_Intent.f k (a.1) (a.2.1) (a.2.2.1) (a.2.2.2) h) a h = kfun Try.prog (corbelhand_Intent.T k) (corbelhand_Intent.an k) (RT [(.st [(.int .i64), (.int .i64), .sl])] × H) Try.f32 (encL [(.int .i64), (.int .i64), (.int .i64), (.int .i64)] a) h (fun vs h' => (decL [(.st [(.int .i64), (.int .i64), .sl])] vs).bind fun x => some (x, h')) := by kernel_rfl
set_option maxRecDepth 100000 in
theorem corbelhand_Intent.told {C : FuncId → Bool} {X : CallF} (hX : XOk C X) (k : Nat) : Den.Told Try.prog C X 32 [(.int .i64), (.int .i64), (.int .i64), (.int .i64)] [(.st [(.int .i64), (.int .i64), .sl])] (fun a h => corbelhand_Intent.f k (a.1) (a.2.1) (a.2.2.1) (a.2.2.2) h) :=
  told_of fun a h q e => fn_of (c := corbelhand_Intent.body) (corbelhand_Intent.TS hX k) Try.func32 (by kernel_rfl) (hX.no 32 _ h (by decide))
    (by
      have e : need (corbelhand_Intent.an k) corbelhand_Intent.body 1 = [] := by kernel_rfl
      rw [e]; intro q hq; cases hq)
    ((corbelhand_Intent.eq k a h).symm.trans e)
/-! ### corbel/chunk.Right -/
noncomputable def chunk_Right.f (k : Nat) (a0 : (Int × Int × Int × Sl)) (h : H) : Option ((Bool) × H) :=
  (asI .i64 (ldc (newR h 69 4 [(Value.int .i64 a0.1), (Value.int .i64 a0.2.1), (Value.int .i64 a0.2.2.1), (Value.slice a0.2.2.2.a a0.2.2.2.n a0.2.2.2.c)]) (some ⟨h.next, 0, none⟩))).bind fun n1 =>
    (cond (decide (n1 ≥ (0 : Int))) ((asI .i64 (ldc (newR h 69 4 [(Value.int .i64 a0.1), (Value.int .i64 a0.2.1), (Value.int .i64 a0.2.2.1), (Value.slice a0.2.2.2.a a0.2.2.2.n a0.2.2.2.c)]) (some ⟨h.next, 0, none⟩))).bind fun n2 =>
    some (decide (n2 < (40 : Int)), (newR h 69 4 [(Value.int .i64 a0.1), (Value.int .i64 a0.2.1), (Value.int .i64 a0.2.2.1), (Value.slice a0.2.2.2.a a0.2.2.2.n a0.2.2.2.c)])))
      (some (false, (newR h 69 4 [(Value.int .i64 a0.1), (Value.int .i64 a0.2.1), (Value.int .i64 a0.2.2.1), (Value.slice a0.2.2.2.a a0.2.2.2.n a0.2.2.2.c)])))).bind fun g3 =>
    (cond g3.1 ((asI .i64 (ldc g3.2 (some ⟨h.next, 1, none⟩))).bind fun n4 =>
    some (decide (n4 ≥ (1 : Int)), g3.2))
      (some (false, g3.2))).bind fun g5 =>
    (cond g5.1 ((asI .i64 (ldc g5.2 (some ⟨h.next, 1, none⟩))).bind fun n6 =>
    some (decide (n6 ≤ (1099511627776 : Int)), g5.2))
      (some (false, g5.2))).bind fun g7 =>
    (cond g7.1 ((asI .i64 (ldc g7.2 (some ⟨h.next, 2, none⟩))).bind fun n8 =>
    some (decide (n8 ≥ (0 : Int)), g7.2))
      (some (false, g7.2))).bind fun g9 =>
    (cond g9.1 ((asI .i64 (ldc g9.2 (some ⟨h.next, 2, none⟩))).bind fun n10 =>
    some (decide (n10 < (6 : Int)), g9.2))
      (some (false, g9.2))).bind fun g11 =>
    (cond g11.1 ((asS (ldc g11.2 (some ⟨h.next, 3, none⟩))).bind fun s12 =>
    some ((Int.ofNat s12.n) == (32 : Int), g11.2))
      (some (false, g11.2))).bind fun g13 =>
    some (g13.1, g13.2)
noncomputable def chunk_Right.T (k : Nat) : Tbl := tblOf []
noncomputable def chunk_Right.an (k : Nat) (p : Nat) : Option Ann := none
noncomputable def chunk_Right.body : Code := (Try.f66.body).getD .skip
set_option maxRecDepth 100000 in
theorem chunk_Right.TS {C : FuncId → Bool} {X : CallF} (hX : XOk C X) (k : Nat) : TblS Try.prog C X (chunk_Right.T k) := by
  refine tblOf_sound ?_
  intro e he
  exact absurd he List.not_mem_nil
set_option maxRecDepth 100000 in
theorem chunk_Right.eq (k : Nat) (a : RT [(.st [(.int .i64), (.int .i64), (.int .i64), .sl])]) (h : H) : (fun a h => chunk_Right.f k a h) a h = kfun Try.prog (chunk_Right.T k) (chunk_Right.an k) (RT [.bool] × H) Try.f66 (encL [(.st [(.int .i64), (.int .i64), (.int .i64), .sl])] a) h (fun vs h' => (decL [.bool] vs).bind fun x => some (x, h')) := by kernel_rfl
set_option maxRecDepth 100000 in
theorem chunk_Right.told {C : FuncId → Bool} {X : CallF} (hX : XOk C X) (k : Nat) : Den.Told Try.prog C X 66 [(.st [(.int .i64), (.int .i64), (.int .i64), .sl])] [.bool] (fun a h => chunk_Right.f k a h) :=
  told_of fun a h q e => fn_of (c := chunk_Right.body) (chunk_Right.TS hX k) Try.func66 (by kernel_rfl) (hX.no 66 _ h (by decide))
    (by
      have e : need (chunk_Right.an k) chunk_Right.body 1 = [] := by kernel_rfl
      rw [e]; intro q hq; cases hq)
    ((chunk_Right.eq k a h).symm.trans e)
/-! ### corbel/call.right$1 -/
noncomputable def call_right_1.f (k : Nat) (a0 : (Int × Int × Int × Sl)) (h : H) : Option ((Bool) × H) :=
  (asSt [(.int .i64), (.int .i64), (.int .i64), .sl] (lda 4 (newR h 69 4 [(Value.int .i64 a0.1), (Value.int .i64 a0.2.1), (Value.int .i64 a0.2.2.1), (Value.slice a0.2.2.2.a a0.2.2.2.n a0.2.2.2.c)]) (some ⟨h.next, 0, none⟩))).bind fun s1 =>
    (chunk_Right.f k (s1.1, s1.2.1, s1.2.2.1, s1.2.2.2) (newR h 69 4 [(Value.int .i64 a0.1), (Value.int .i64 a0.2.1), (Value.int .i64 a0.2.2.1), (Value.slice a0.2.2.2.a a0.2.2.2.n a0.2.2.2.c)])).bind fun q2 =>
    some (!q2.1, q2.2)
noncomputable def call_right_1.T (k : Nat) : Tbl := tblOf [⟨66, anyArgs, wr [(.st [(.int .i64), (.int .i64), (.int .i64), .sl])] [.bool] (fun a h => chunk_Right.f k a h)⟩]
noncomputable def call_right_1.an (k : Nat) (p : Nat) : Option Ann := none
noncomputable def call_right_1.body : Code := (Try.f65.body).getD .skip
set_option maxRecDepth 100000 in
theorem call_right_1.TS {C : FuncId → Bool} {X : CallF} (hX : XOk C X) (k : Nat) : TblS Try.prog C X (call_right_1.T k) := by
  refine tblOf_sound ?_
  intro e he
  rcases List.mem_cons.1 he with rfl | he
  · exact wr_told (chunk_Right.told hX k)
  exact absurd he List.not_mem_nil
set_option maxRecDepth 100000 in
theorem call_right_1.eq (k : Nat) (a : RT [(.st [(.int .i64), (.int .i64), (.int .i64), .sl])]) (h : H) : (fun a h => call_right_1.f k a h) a h = kfun Try.prog (call_right_1.T k) (call_right_1.an k) (RT [.bool] × H) Try.f65 (encL [(.st [(.int .i64), (.int .i64), (.int .i64), .sl])] a) h (fun vs h' => (decL [.bool] vs).bind fun x => some (x, h')) := by kernel_rfl
set_option maxRecDepth 100000 in
theorem call_right_1.told {C : FuncId → Bool} {X : CallF} (hX : XOk C X) (k : Nat) : Den.Told Try.prog C X 65 [(.st [(.int .i64), (.int .i64), (.int .i64), .sl])] [.bool] (fun a h => call_right_1.f k a h) :=
  told_of fun a h q e => fn_of (c := call_right_1.body) (call_right_1.TS hX k) Try.func65 (by kernel_rfl) (hX.no 65 _ h (by decide))
    (by
      have e : need (call_right_1.an k) call_right_1.body 1 = [] := by kernel_rfl
      rw [e]; intro q hq; cases hq)
    ((call_right_1.eq k a h).symm.trans e)
/-! ### slices.IndexFunc[[]corbel/api.Piece,corbel/api.Piece] -/
noncomputable def slices_IndexFunc_api_Piece_api_Piece_call_right_1.l0 (k : Nat) (n : Nat) : Sl → Unit → Int → Int → H → Option (((Int) ⊕ (Unit)) × H) :=
  Nat.rec (motive := fun _ => Sl → Unit → Int → Int → H → Option (((Int) ⊕ (Unit)) × H)) (fun _ _ _ _ _ => none) (fun _ ih x1 x2 x3 x4 h5 => cond (decide (x4 < x3))
      ((asP (ixs 4 x1.a x1.n x4)).bind fun p6 =>
    (asSt [(.int .i64), (.int .i64), (.int .i64), .sl] (lda 4 h5 p6)).bind fun s7 =>
    (call_right_1.f k (s7.1, s7.2.1, s7.2.2.1, s7.2.2.2) h5).bind fun q8 =>
    cond q8.1
      (some (Sum.inl x4, q8.2))
      (ih x1 () x3 (wrapA .i64 (x4 + (1 : Int))) q8.2))
      (some (Sum.inr (), h5))) n
theorem slices_IndexFunc_api_Piece_api_Piece_call_right_1.l0_zero (k : Nat) (x1 : Sl) (x2 : Unit) (x3 : Int) (x4 : Int) (h5 : H) : slices_IndexFunc_api_Piece_api_Piece_call_right_1.l0 k 0 x1 x2 x3 x4 h5 = none := rfl
theorem slices_IndexFunc_api_Piece_api_Piece_call_right_1.l0_succ (k n : Nat) (x1 : Sl) (x2 : Unit) (x3 : Int) (x4 : Int) (h5 : H) : slices_IndexFunc_api_Piece_api_Piece_call_right_1.l0 k (n + 1) x1 x2 x3 x4 h5 = (cond (decide (x4 < x3))
      ((asP (ixs 4 x1.a x1.n x4)).bind fun p6 =>
    (asSt [(.int .i64), (.int .i64), (.int .i64), .sl] (lda 4 h5 p6)).bind fun s7 =>
    (call_right_1.f k (s7.1, s7.2.1, s7.2.2.1, s7.2.2.2) h5).bind fun q8 =>
    cond q8.1
      (some (Sum.inl x4, q8.2))
      (slices_IndexFunc_api_Piece_api_Piece_call_right_1.l0 k n x1 () x3 (wrapA .i64 (x4 + (1 : Int))) q8.2))
      (some (Sum.inr (), h5))) := rfl
noncomputable def slices_IndexFunc_api_Piece_api_Piece_call_right_1.f (k : Nat) (a0 : Sl) (a1 : Unit) (h : H) : Option ((Int) × H) :=
  (slices_IndexFunc_api_Piece_api_Piece_call_right_1.l0 k k a0 () (Int.ofNat a0.n) (0 : Int) h).bind fun w9 =>
    match w9.1 with
    | .inl r10 => some (r10, w9.2)
    | .inr o11 => some ((-1 : Int), w9.2)
noncomputable def slices_IndexFunc_api_Piece_api_Piece_call_right_1.T (k : Nat) : Tbl := tblOf [⟨65, anyArgs, wr [(.st [(.int .i64), (.int .i64), (.int .i64), .sl])] [.bool] (fun a h => call_right_1.f k a h)⟩]
noncomputable def slices_IndexFunc_api_Piece_api_Piece_call_right_1.an (k : Nat) (p : Nat) : Option Ann := cond (Nat.beq p 26) (some (.pass [] (lrun [(0, .sl), (1, (.fn 65 0)), (7, (.int .i64)), (8, (.int .i64))] (some [(4, (.int .i64))]) [] 0 (fun a h => slices_IndexFunc_api_Piece_api_Piece_call_right_1.l0 k k (a.1) (a.2.1) (a.2.2.1) (a.2.2.2) h))))
  (none)
noncomputable def slices_IndexFunc_api_Piece_api_Piece_call_right_1.body : Code := (Try.f72.body).getD .skip
noncomputable def slices_IndexFunc_api_Piece_api_Piece_call_right_1.c26 : Code := cat slices_IndexFunc_api_Piece_api_Piece_call_right_1.body [1, 0, 1, 0, 0]
set_option maxRecDepth 100000 in
theorem slices_IndexFunc_api_Piece_api_Piece_call_right_1.TS {C : FuncId → Bool} {X : CallF} (hX : XOk C X) (k : Nat) : TblS Try.prog C X (slices_IndexFunc_api_Piece_api_Piece_call_right_1.T k) := by
  refine tblOf_sound ?_
  intro e he
  rcases List.mem_cons.1 he with rfl | he
  · exact wr_told (call_right_1.told hX k)
  exact absurd he List.not_mem_nil
set_option maxRecDepth 100000 in
theorem slices_IndexFunc_api_Piece_api_Piece_call_right_1.l0_pass {C : FuncId → Bool} {X : CallF} (hX : XOk C X) (k n : Nat) : PassS Try.prog C X 19 (.loop slices_IndexFunc_api_Piece_api_Piece_call_right_1.c26) (lrun [(0, .sl), (1, (.fn 65 0)), (7, (.int .i64)), (8, (.int .i64))] (some [(4, (.int .i64))]) [] 0 (fun a h => slices_IndexFunc_api_Piece_api_Piece_call_right_1.l0 k n (a.1) (a.2.1) (a.2.2.1) (a.2.2.2) h)) :=
  loop_pass (ins := [(0, .sl), (1, (.fn 65 0)), (7, (.int .i64)), (8, (.int .i64))]) (rets := (some [(4, (.int .i64))])) (outs := []) (id := 0) (tbl := slices_IndexFunc_api_Piece_api_Piece_call_right_1.T k) (an := slices_IndexFunc_api_Piece_api_Piece_call_right_1.an k) (pb := 52) (slices_IndexFunc_api_Piece_api_Piece_call_right_1.TS hX k) (fun n => (fun a h => slices_IndexFunc_api_Piece_api_Piece_call_right_1.l0 k n (a.1) (a.2.1) (a.2.2.1) (a.2.2.2) h)) (fun a h => rfl) (fun n a h => by kernel_rfl)
    (by
      have e : need (slices_IndexFunc_api_Piece_api_Piece_call_right_1.an k) slices_IndexFunc_api_Piece_api_Piece_call_right_1.c26 52 = [] := by kernel_rfl
      rw [e]; intro q hq; cases hq) n
set_option maxRecDepth 100000 in
theorem slices_IndexFunc_api_Piece_api_Piece_call_right_1.eq (k : Nat) (a : RT [.sl, (.fn 65 0)]) (h : H) : (fun a h => slices_IndexFunc_api_Piece_api_Piece_call_right_1.f k (a.1) (a.2) h) a h = kfun Try.prog (slices_IndexFunc_api_Piece_api_Piece_call_right_1.T k) (slices_IndexFunc_api_Piece_api_Piece_call_right_1.an k) (RT [(.int .i64)] × H) Try.f72 (encL [.sl, (.fn 65 0)] a) h (fun vs h' => (decL [(.int .i64)] vs).bind fun x => some (x, h')) := by kernel_rfl
set_option maxRecDepth 100000 in
theorem slices_IndexFunc_api_Piece_api_Piece_call_right_1.told {C : FuncId → Bool} {X : CallF} (hX : XOk C X) (k : Nat) : Den.Told Try.prog C X 72 [.sl, (.fn 65 0)] [(.int .i64)] (fun a h => slices_IndexFunc_api_Piece_api_Piece_call_right_1.f k (a.1) (a.2) h) :=
  told_of fun a h q e => fn_of (c := slices_IndexFunc_api_Piece_api_Piece_call_right_1.body) (slices_IndexFunc_api_Piece_api_Piece_call_right_1.TS hX k) Try.func72 (by kernel_rfl) (hX.no 72 _ h (by decide))
    (by
      have e : need (slices_IndexFunc_api_Piece_api_Piece_call_right_1.an k) slices_IndexFunc_api_Piece_api_Piece_call_right_1.body 1 = [(Code.loop slices_IndexFunc_api_Piece_api_Piece_call_right_1.c26, lrun [(0, .sl), (1, (.fn 65 0)), (7, (.int .i64)), (8, (.int .i64))] (some [(4, (.int .i64))]) [] 0 (fun a h => slices_IndexFunc_api_Piece_api_Piece_call_right_1.l0 k k (a.1) (a.2.1) (a.2.2.1) (a.2.2.2) h))] := by kernel_rfl
      rw [e]; intro q hq
      rcases List.mem_cons.1 hq with rfl | hq
      · exact slices_IndexFunc_api_Piece_api_Piece_call_right_1.l0_pass hX k k
      cases hq)
    ((slices_IndexFunc_api_Piece_api_Piece_call_right_1.eq k a h).symm.trans e)
/-! ### slices.ContainsFunc[[]corbel/api.Piece,corbel/api.Piece] -/
noncomputable def slices_ContainsFunc_api_Piece_api_Piece_call_right_1.f (k : Nat) (a0 : Sl) (a1 : Unit) (h : H) : Option ((Bool) × H) :=
  (slices_IndexFunc_api_Piece_api_Piece_call_right_1.f k a0 () h).bind fun q1 =>
    some (decide (q1.1 ≥ (0 : Int)), q1.2)
noncomputable def slices_ContainsFunc_api_Piece_api_Piece_call_right_1.T (k : Nat) : Tbl := tblOf [⟨72, chkF [(1, 65)], wr [.sl, (.fn 65 0)] [(.int .i64)] (fun a h => slices_IndexFunc_api_Piece_api_Piece_call_right_1.f k (a.1) (a.2) h)⟩]
noncomputable def slices_ContainsFunc_api_Piece_api_Piece_call_right_1.an (k : Nat) (p : Nat) : Option Ann := none
noncomputable def slices_ContainsFunc_api_Piece_api_Piece_call_right_1.body : Code := (Try.f64.body).getD .skip
set_option maxRecDepth 100000 in
theorem slices_ContainsFunc_api_Piece_api_Piece_call_right_1.TS {C : FuncId → Bool} {X : CallF} (hX : XOk C X) (k : Nat) : TblS Try.prog C X (slices_ContainsFunc_api_Piece_api_Piece_call_right_1.T k) := by
  refine tblOf_sound ?_
  intro e he
  rcases List.mem_cons.1 he with rfl | he
  · exact wr_told (slices_IndexFunc_api_Piece_api_Piece_call_right_1.told hX k)
  exact absurd he List.not_mem_nil
set_option maxRecDepth 100000 in
theorem slices_ContainsFunc_api_Piece_api_Piece_call_right_1.eq (k : Nat) (a : RT [.sl, (.fn 65 0)]) (h : H) : (fun a h => slices_ContainsFunc_api_Piece_api_Piece_call_right_1.f k (a.1) (a.2) h) a h = kfun Try.prog (slices_ContainsFunc_api_Piece_api_Piece_call_right_1.T k) (slices_ContainsFunc_api_Piece_api_Piece_call_right_1.an k) (RT [.bool] × H) Try.f64 (encL [.sl, (.fn 65 0)] a) h (fun vs h' => (decL [.bool] vs).bind fun x => some (x, h')) := by kernel_rfl
set_option maxRecDepth 100000 in
theorem slices_ContainsFunc_api_Piece_api_Piece_call_right_1.told {C : FuncId → Bool} {X : CallF} (hX : XOk C X) (k : Nat) : Den.Told Try.prog C X 64 [.sl, (.fn 65 0)] [.bool] (fun a h => slices_ContainsFunc_api_Piece_api_Piece_call_right_1.f k (a.1) (a.2) h) :=
  told_of fun a h q e => fn_of (c := slices_ContainsFunc_api_Piece_api_Piece_call_right_1.body) (slices_ContainsFunc_api_Piece_api_Piece_call_right_1.TS hX k) Try.func64 (by kernel_rfl) (hX.no 64 _ h (by decide))
    (by
      have e : need (slices_ContainsFunc_api_Piece_api_Piece_call_right_1.an k) slices_ContainsFunc_api_Piece_api_Piece_call_right_1.body 1 = [] := by kernel_rfl
      rw [e]; intro q hq; cases hq)
    ((slices_ContainsFunc_api_Piece_api_Piece_call_right_1.eq k a h).symm.trans e)
/-! ### corbel/intent.Right -/
noncomputable def intent_Right.f (k : Nat) (a0 : (Int × Int × Sl)) (h : H) : Option ((Bool) × H) :=
  (asI .i64 (ldc (newR h 72 3 [(Value.int .i64 a0.1), (Value.int .i64 a0.2.1), (Value.slice a0.2.2.a a0.2.2.n a0.2.2.c)]) (some ⟨h.next, 0, none⟩))).bind fun n1 =>
    (cond (decide (n1 ≥ (0 : Int))) ((asI .i64 (ldc (newR h 72 3 [(Value.int .i64 a0.1), (Value.int .i64 a0.2.1), (Value.slice a0.2.2.a a0.2.2.n a0.2.2.c)]) (some ⟨h.next, 0, none⟩))).bind fun n2 =>
    some (decide (n2 < (40 : Int)), (newR h 72 3 [(Value.int .i64 a0.1), (Value.int .i64 a0.2.1), (Value.slice a0.2.2.a a0.2.2.n a0.2.2.c)])))
      (some (false, (newR h 72 3 [(Value.int .i64 a0.1), (Value.int .i64 a0.2.1), (Value.slice a0.2.2.a a0.2.2.n a0.2.2.c)])))).bind fun g3 =>
    (cond g3.1 ((asI .i64 (ldc g3.2 (some ⟨h.next, 1, none⟩))).bind fun n4 =>
    some (decide (n4 ≥ (1 : Int)), g3.2))
      (some (false, g3.2))).bind fun g5 =>
    (cond g5.1 ((asI .i64 (ldc g5.2 (some ⟨h.next, 1, none⟩))).bind fun n6 =>
    some (decide (n6 ≤ (1099511627776 : Int)), g5.2))
      (some (false, g5.2))).bind fun g7 =>
    (cond g7.1 ((asS (ldc g7.2 (some ⟨h.next, 2, none⟩))).bind fun s8 =>
    some ((Int.ofNat s8.n) == (128 : Int), g7.2))
      (some (false, g7.2))).bind fun g9 =>
    some (g9.1, g9.2)
noncomputable def intent_Right.T (k : Nat) : Tbl := tblOf []
noncomputable def intent_Right.an (k : Nat) (p : Nat) : Option Ann := none
noncomputable def intent_Right.body : Code := (Try.f69.body).getD .skip
set_option maxRecDepth 100000 in
theorem intent_Right.TS {C : FuncId → Bool} {X : CallF} (hX : XOk C X) (k : Nat) : TblS Try.prog C X (intent_Right.T k) := by
  refine tblOf_sound ?_
  intro e he
  exact absurd he List.not_mem_nil
set_option maxRecDepth 100000 in
theorem intent_Right.eq (k : Nat) (a : RT [(.st [(.int .i64), (.int .i64), .sl])]) (h : H) : (fun a h => intent_Right.f k a h) a h = kfun Try.prog (intent_Right.T k) (intent_Right.an k) (RT [.bool] × H) Try.f69 (encL [(.st [(.int .i64), (.int .i64), .sl])] a) h (fun vs h' => (decL [.bool] vs).bind fun x => some (x, h')) := by kernel_rfl
set_option maxRecDepth 100000 in
theorem intent_Right.told {C : FuncId → Bool} {X : CallF} (hX : XOk C X) (k : Nat) : Den.Told Try.prog C X 69 [(.st [(.int .i64), (.int .i64), .sl])] [.bool] (fun a h => intent_Right.f k a h) :=
  told_of fun a h q e => fn_of (c := intent_Right.body) (intent_Right.TS hX k) Try.func69 (by kernel_rfl) (hX.no 69 _ h (by decide))
    (by
      have e : need (intent_Right.an k) intent_Right.body 1 = [] := by kernel_rfl
      rw [e]; intro q hq; cases hq)
    ((intent_Right.eq k a h).symm.trans e)
/-! ### corbel/call.right$2 -/
noncomputable def call_right_2.f (k : Nat) (a0 : (Int × Int × Sl)) (h : H) : Option ((Bool) × H) :=
  (asSt [(.int .i64), (.int .i64), .sl] (lda 3 (newR h 72 3 [(Value.int .i64 a0.1), (Value.int .i64 a0.2.1), (Value.slice a0.2.2.a a0.2.2.n a0.2.2.c)]) (some ⟨h.next, 0, none⟩))).bind fun s1 =>
    (intent_Right.f k (s1.1, s1.2.1, s1.2.2) (newR h 72 3 [(Value.int .i64 a0.1), (Value.int .i64 a0.2.1), (Value.slice a0.2.2.a a0.2.2.n a0.2.2.c)])).bind fun q2 =>
    some (!q2.1, q2.2)
noncomputable def call_right_2.T (k : Nat) : Tbl := tblOf [⟨69, anyArgs, wr [(.st [(.int .i64), (.int .i64), .sl])] [.bool] (fun a h => intent_Right.f k a h)⟩]
noncomputable def call_right_2.an (k : Nat) (p : Nat) : Option Ann := none
noncomputable def call_right_2.body : Code := (Try.f68.body).getD .skip
set_option maxRecDepth 100000 in
theorem call_right_2.TS {C : FuncId → Bool} {X : CallF} (hX : XOk C X) (k : Nat) : TblS Try.prog C X (call_right_2.T k) := by
  refine tblOf_sound ?_
  intro e he
  rcases List.mem_cons.1 he with rfl | he
  · exact wr_told (intent_Right.told hX k)
  exact absurd he List.not_mem_nil
set_option maxRecDepth 100000 in
theorem call_right_2.eq (k : Nat) (a : RT [(.st [(.int .i64), (.int .i64), .sl])]) (h : H) : (fun a h => call_right_2.f k a h) a h = kfun Try.prog (call_right_2.T k) (call_right_2.an k) (RT [.bool] × H) Try.f68 (encL [(.st [(.int .i64), (.int .i64), .sl])] a) h (fun vs h' => (decL [.bool] vs).bind fun x => some (x, h')) := by kernel_rfl
set_option maxRecDepth 100000 in
theorem call_right_2.told {C : FuncId → Bool} {X : CallF} (hX : XOk C X) (k : Nat) : Den.Told Try.prog C X 68 [(.st [(.int .i64), (.int .i64), .sl])] [.bool] (fun a h => call_right_2.f k a h) :=
  told_of fun a h q e => fn_of (c := call_right_2.body) (call_right_2.TS hX k) Try.func68 (by kernel_rfl) (hX.no 68 _ h (by decide))
    (by
      have e : need (call_right_2.an k) call_right_2.body 1 = [] := by kernel_rfl
      rw [e]; intro q hq; cases hq)
    ((call_right_2.eq k a h).symm.trans e)
/-! ### slices.IndexFunc[[]corbel/api.Intent,corbel/api.Intent] -/
noncomputable def slices_IndexFunc_api_Intent_api_Intent_call_right_2.l0 (k : Nat) (n : Nat) : Sl → Unit → Int → Int → H → Option (((Int) ⊕ (Unit)) × H) :=
  Nat.rec (motive := fun _ => Sl → Unit → Int → Int → H → Option (((Int) ⊕ (Unit)) × H)) (fun _ _ _ _ _ => none) (fun _ ih x1 x2 x3 x4 h5 => cond (decide (x4 < x3))
      ((asP (ixs 3 x1.a x1.n x4)).bind fun p6 =>
    (asSt [(.int .i64), (.int .i64), .sl] (lda 3 h5 p6)).bind fun s7 =>
    (call_right_2.f k (s7.1, s7.2.1, s7.2.2) h5).bind fun q8 =>
    cond q8.1
      (some (Sum.inl x4, q8.2))
      (ih x1 () x3 (wrapA .i64 (x4 + (1 : Int))) q8.2))
      (some (Sum.inr (), h5))) n
theorem slices_IndexFunc_api_Intent_api_Intent_call_right_2.l0_zero (k : Nat) (x1 : Sl) (x2 : Unit) (x3 : Int) (x4 : Int) (h5 : H) : slices_IndexFunc_api_Intent_api_Intent_call_right_2.l0 k 0 x1 x2 x3 x4 h5 = none := rfl
theorem slices_IndexFunc_api_Intent_api_Intent_call_right_2.l0_succ (k n : Nat) (x1 : Sl) (x2 : Unit) (x3 : Int) (x4 : Int) (h5 : H) : slices_IndexFunc_api_Intent_api_Intent_call_right_2.l0 k (n + 1) x1 x2 x3 x4 h5 = (cond (decide (x4 < x3))
      ((asP (ixs 3 x1.a x1.n x4)).bind fun p6 =>
    (asSt [(.int .i64), (.int .i64), .sl] (lda 3 h5 p6)).bind fun s7 =>
    (call_right_2.f k (s7.1, s7.2.1, s7.2.2) h5).bind fun q8 =>
    cond q8.1
      (some (Sum.inl x4, q8.2))
      (slices_IndexFunc_api_Intent_api_Intent_call_right_2.l0 k n x1 () x3 (wrapA .i64 (x4 + (1 : Int))) q8.2))
      (some (Sum.inr (), h5))) := rfl
noncomputable def slices_IndexFunc_api_Intent_api_Intent_call_right_2.f (k : Nat) (a0 : Sl) (a1 : Unit) (h : H) : Option ((Int) × H) :=
  (slices_IndexFunc_api_Intent_api_Intent_call_right_2.l0 k k a0 () (Int.ofNat a0.n) (0 : Int) h).bind fun w9 =>
    match w9.1 with
    | .inl r10 => some (r10, w9.2)
    | .inr o11 => some ((-1 : Int), w9.2)
noncomputable def slices_IndexFunc_api_Intent_api_Intent_call_right_2.T (k : Nat) : Tbl := tblOf [⟨68, anyArgs, wr [(.st [(.int .i64), (.int .i64), .sl])] [.bool] (fun a h => call_right_2.f k a h)⟩]
noncomputable def slices_IndexFunc_api_Intent_api_Intent_call_right_2.an (k : Nat) (p : Nat) : Option Ann := cond (Nat.beq p 26) (some (.pass [] (lrun [(0, .sl), (1, (.fn 68 0)), (7, (.int .i64)), (8, (.int .i64))] (some [(4, (.int .i64))]) [] 0 (fun a h => slices_IndexFunc_api_Intent_api_Intent_call_right_2.l0 k k (a.1) (a.2.1) (a.2.2.1) (a.2.2.2) h))))
  (none)
noncomputable def slices_IndexFunc_api_Intent_api_Intent_call_right_2.body : Code := (Try.f73.body).getD .skip
noncomputable def slices_IndexFunc_api_Intent_api_Intent_call_right_2.c26 : Code := cat slices_IndexFunc_api_Intent_api_Intent_call_right_2.body [1, 0, 1, 0, 0]
set_option maxRecDepth 100000 in
theorem slices_IndexFunc_api_Intent_api_Intent_call_right_2.TS {C : FuncId → Bool} {X : CallF} (hX : XOk C X) (k : Nat) : TblS Try.prog C X (slices_IndexFunc_api_Intent_api_Intent_call_right_2.T k) := by
  refine tblOf_sound ?_
  intro e he
  rcases List.mem_cons.1 he with rfl | he
  · exact wr_told (call_right_2.told hX k)
  exact absurd he List.not_mem_nil
set_option maxRecDepth 100000 in
theorem slices_IndexFunc_api_Intent_api_Intent_call_right_2.l0_pass {C : FuncId → Bool} {X : CallF} (hX : XOk C X) (k n : Nat) : PassS Try.prog C X 19 (.loop slices_IndexFunc_api_Intent_api_Intent_call_right_2.c26) (lrun [(0, .sl), (1, (.fn 68 0)), (7, (.int .i64)), (8, (.int .i64))] (some [(4, (.int .i64))]) [] 0 (fun a h => slices_IndexFunc_api_Intent_api_Intent_call_right_2.l0 k n (a.1) (a.2.1) (a.2.2.1) (a.2.2.2) h)) :=
  loop_pass (ins := [(0, .sl), (1, (.fn 68 0)), (7, (.int .i64)), (8, (.int .i64))]) (rets := (some [(4, (.int .i64))])) (outs := []) (id := 0) (tbl := slices_IndexFunc_api_Intent_api_Intent_call_right_2.T k) (an := slices_IndexFunc_api_Intent_api_Intent_call_right_2.an k) (pb := 52) (slices_IndexFunc_api_Intent_api_Intent_call_right_2.TS hX k) (fun n => (fun a h => slices_IndexFunc_api_Intent_api_Intent_call_right_2.l0 k n (a.1) (a.2.1) (a.2.2.1) (a.2.2.2) h)) (fun a h => rfl) (fun n a h => by kernel_rfl)
    (by
      have e : need (slices_IndexFunc_api_Intent_api_Intent_call_right_2.an k) slices_IndexFunc_api_Intent_api_Intent_call_right_2.c26 52 = [] := by kernel_rfl
      rw [e]; intro q hq; cases hq) n
set_option maxRecDepth 100000 in
theorem slices_IndexFunc_api_Intent_api_Intent_call_right_2.eq (k : Nat) (a : RT [.sl, (.fn 68 0)]) (h : H) : (fun a h => slices_IndexFunc_api_Intent_api_Intent_call_right_2.f k (a.1) (a.2) h) a h = kfun Try.prog (slices_IndexFunc_api_Intent_api_Intent_call_right_2.T k) (slices_IndexFunc_api_Intent_api_Intent_call_right_2.an k) (RT [(.int .i64)] × H) Try.f73 (encL [.sl, (.fn 68 0)] a) h (fun vs h' => (decL [(.int .i64)] vs).bind fun x => some (x, h')) := by kernel_rfl
set_option maxRecDepth 100000 in
theorem slices_IndexFunc_api_Intent_api_Intent_call_right_2.told {C : FuncId → Bool} {X : CallF} (hX : XOk C X) (k : Nat) : Den.Told Try.prog C X 73 [.sl, (.fn 68 0)] [(.int .i64)] (fun a h => slices_IndexFunc_api_Intent_api_Intent_call_right_2.f k (a.1) (a.2) h) :=
  told_of fun a h q e => fn_of (c := slices_IndexFunc_api_Intent_api_Intent_call_right_2.body) (slices_IndexFunc_api_Intent_api_Intent_call_right_2.TS hX k) Try.func73 (by kernel_rfl) (hX.no 73 _ h (by decide))
    (by
      have e : need (slices_IndexFunc_api_Intent_api_Intent_call_right_2.an k) slices_IndexFunc_api_Intent_api_Intent_call_right_2.body 1 = [(Code.loop slices_IndexFunc_api_Intent_api_Intent_call_right_2.c26, lrun [(0, .sl), (1, (.fn 68 0)), (7, (.int .i64)), (8, (.int .i64))] (some [(4, (.int .i64))]) [] 0 (fun a h => slices_IndexFunc_api_Intent_api_Intent_call_right_2.l0 k k (a.1) (a.2.1) (a.2.2.1) (a.2.2.2) h))] := by kernel_rfl
      rw [e]; intro q hq
      rcases List.mem_cons.1 hq with rfl | hq
      · exact slices_IndexFunc_api_Intent_api_Intent_call_right_2.l0_pass hX k k
      cases hq)
    ((slices_IndexFunc_api_Intent_api_Intent_call_right_2.eq k a h).symm.trans e)
/-! ### slices.ContainsFunc[[]corbel/api.Intent,corbel/api.Intent] -/
noncomputable def slices_ContainsFunc_api_Intent_api_Intent_call_right_2.f (k : Nat) (a0 : Sl) (a1 : Unit) (h : H) : Option ((Bool) × H) :=
  (slices_IndexFunc_api_Intent_api_Intent_call_right_2.f k a0 () h).bind fun q1 =>
    some (decide (q1.1 ≥ (0 : Int)), q1.2)
noncomputable def slices_ContainsFunc_api_Intent_api_Intent_call_right_2.T (k : Nat) : Tbl := tblOf [⟨73, chkF [(1, 68)], wr [.sl, (.fn 68 0)] [(.int .i64)] (fun a h => slices_IndexFunc_api_Intent_api_Intent_call_right_2.f k (a.1) (a.2) h)⟩]
noncomputable def slices_ContainsFunc_api_Intent_api_Intent_call_right_2.an (k : Nat) (p : Nat) : Option Ann := none
noncomputable def slices_ContainsFunc_api_Intent_api_Intent_call_right_2.body : Code := (Try.f67.body).getD .skip
set_option maxRecDepth 100000 in
theorem slices_ContainsFunc_api_Intent_api_Intent_call_right_2.TS {C : FuncId → Bool} {X : CallF} (hX : XOk C X) (k : Nat) : TblS Try.prog C X (slices_ContainsFunc_api_Intent_api_Intent_call_right_2.T k) := by
  refine tblOf_sound ?_
  intro e he
  rcases List.mem_cons.1 he with rfl | he
  · exact wr_told (slices_IndexFunc_api_Intent_api_Intent_call_right_2.told hX k)
  exact absurd he List.not_mem_nil
set_option maxRecDepth 100000 in
theorem slices_ContainsFunc_api_Intent_api_Intent_call_right_2.eq (k : Nat) (a : RT [.sl, (.fn 68 0)]) (h : H) : (fun a h => slices_ContainsFunc_api_Intent_api_Intent_call_right_2.f k (a.1) (a.2) h) a h = kfun Try.prog (slices_ContainsFunc_api_Intent_api_Intent_call_right_2.T k) (slices_ContainsFunc_api_Intent_api_Intent_call_right_2.an k) (RT [.bool] × H) Try.f67 (encL [.sl, (.fn 68 0)] a) h (fun vs h' => (decL [.bool] vs).bind fun x => some (x, h')) := by kernel_rfl
set_option maxRecDepth 100000 in
theorem slices_ContainsFunc_api_Intent_api_Intent_call_right_2.told {C : FuncId → Bool} {X : CallF} (hX : XOk C X) (k : Nat) : Den.Told Try.prog C X 67 [.sl, (.fn 68 0)] [.bool] (fun a h => slices_ContainsFunc_api_Intent_api_Intent_call_right_2.f k (a.1) (a.2) h) :=
  told_of fun a h q e => fn_of (c := slices_ContainsFunc_api_Intent_api_Intent_call_right_2.body) (slices_ContainsFunc_api_Intent_api_Intent_call_right_2.TS hX k) Try.func67 (by kernel_rfl) (hX.no 67 _ h (by decide))
    (by
      have e : need (slices_ContainsFunc_api_Intent_api_Intent_call_right_2.an k) slices_ContainsFunc_api_Intent_api_Intent_call_right_2.body 1 = [] := by kernel_rfl
      rw [e]; intro q hq; cases hq)
    ((slices_ContainsFunc_api_Intent_api_Intent_call_right_2.eq k a h).symm.trans e)
/-! ### corbel/call.right -/
noncomputable def call_right.f (k : Nat) (a0 : (Int × Int × Sl × Sl)) (h : H) : Option ((Bool) × H) :=
  (asS (ldc (newR h 67 4 [(Value.int .i64 a0.1), (Value.int .i64 a0.2.1), (Value.slice a0.2.2.1.a a0.2.2.1.n a0.2.2.1.c), (Value.slice a0.2.2.2.a a0.2.2.2.n a0.2.2.2.c)]) (some ⟨h.next, 2, none⟩))).bind fun s1 =>
    (slices_ContainsFunc_api_Piece_api_Piece_call_right_1.f k s1 () (newR h 67 4 [(Value.int .i64 a0.1), (Value.int .i64 a0.2.1), (Value.slice a0.2.2.1.a a0.2.2.1.n a0.2.2.1.c), (Value.slice a0.2.2.2.a a0.2.2.2.n a0.2.2.2.c)])).bind fun q2 =>
    (cond q2.1 (some (true, q2.2))
      ((asS (ldc q2.2 (some ⟨h.next, 3, none⟩))).bind fun s3 =>
    (slices_ContainsFunc_api_Intent_api_Intent_call_right_2.f k s3 () q2.2).bind fun q4 =>
    some (q4.1, q4.2))).bind fun g5 =>
    (asI .i64 (ldc g5.2 (some ⟨h.next, 0, none⟩))).bind fun n6 =>
    (call_within.f k n6 (0 : Int) (255 : Int) g5.2).bind fun q7 =>
    (cond q7.1 ((asI .i64 (ldc q7.2 (some ⟨h.next, 1, none⟩))).bind fun n8 =>
    (call_within.f k n8 (0 : Int) (2147483647 : Int) q7.2).bind fun q9 =>
    some (q9.1, q9.2))
      (some (false, q7.2))).bind fun g10 =>
    (cond g10.1 ((asS (ldc g10.2 (some ⟨h.next, 2, none⟩))).bind fun s11 =>
    some (decide ((Int.ofNat s11.n) ≤ (2 : Int)), g10.2))
      (some (false, g10.2))).bind fun g12 =>
    (cond g12.1 ((asS (ldc g12.2 (some ⟨h.next, 3, none⟩))).bind fun s13 =>
    some (decide ((Int.ofNat s13.n) ≤ (16 : Int)), g12.2))
      (some (false, g12.2))).bind fun g14 =>
    (cond g14.1 (some (!g5.1, g14.2))
      (some (false, g14.2))).bind fun g15 =>
    some (g15.1, g15.2)
noncomputable def call_right.T (k : Nat) : Tbl := tblOf [⟨64, chkF [(1, 65)], wr [.sl, (.fn 65 0)] [.bool] (fun a h => slices_ContainsFunc_api_Piece_api_Piece_call_right_1.f k (a.1) (a.2) h)⟩,
  ⟨67, chkF [(1, 68)], wr [.sl, (.fn 68 0)] [.bool] (fun a h => slices_ContainsFunc_api_Intent_api_Intent_call_right_2.f k (a.1) (a.2) h)⟩,
  ⟨44, anyArgs, wr [(.int .i64), (.int .i64), (.int .i64)] [.bool] (fun a h => call_within.f k (a.1) (a.2.1) (a.2.2) h)⟩]
noncomputable def call_right.an (k : Nat) (p : Nat) : Option Ann := none
noncomputable def call_right.body : Code := (Try.f52.body).getD .skip
set_option maxRecDepth 100000 in
theorem call_right.TS {C : FuncId → Bool} {X : CallF} (hX : XOk C X) (k : Nat) : TblS Try.prog C X (call_right.T k) := by
  refine tblOf_sound ?_
  intro e he
  rcases List.mem_cons.1 he with rfl | he
  · exact wr_told (slices_ContainsFunc_api_Piece_api_Piece_call_right_1.told hX k)
  rcases List.mem_cons.1 he with rfl | he
  · exact wr_told (slices_ContainsFunc_api_Intent_api_Intent_call_right_2.told hX k)
  rcases List.mem_cons.1 he with rfl | he
  · exact wr_told (call_within.told hX k)
  exact absurd he List.not_mem_nil
set_option maxRecDepth 100000 in
theorem call_right.eq (k : Nat) (a : RT [(.st [(.int .i64), (.int .i64), .sl, .sl])]) (h : H) : (fun a h => call_right.f k a h) a h = kfun Try.prog (call_right.T k) (call_right.an k) (RT [.bool] × H) Try.f52 (encL [(.st [(.int .i64), (.int .i64), .sl, .sl])] a) h (fun vs h' => (decL [.bool] vs).bind fun x => some (x, h')) := by kernel_rfl
set_option maxRecDepth 100000 in
theorem call_right.told {C : FuncId → Bool} {X : CallF} (hX : XOk C X) (k : Nat) : Den.Told Try.prog C X 52 [(.st [(.int .i64), (.int .i64), .sl, .sl])] [.bool] (fun a h => call_right.f k a h) :=
  told_of fun a h q e => fn_of (c := call_right.body) (call_right.TS hX k) Try.func52 (by kernel_rfl) (hX.no 52 _ h (by decide))
    (by
      have e : need (call_right.an k) call_right.body 1 = [] := by kernel_rfl
      rw [e]; intro q hq; cases hq)
    ((call_right.eq k a h).symm.trans e)
/-! ### corbel/call.LayRep -/
noncomputable def call_LayRep.l1 (k : Nat) (n : Nat) : Sl → Int → Sl → Int → H → Option ((Sl) × H) :=
  Nat.rec (motive := fun _ => Sl → Int → Sl → Int → H → Option ((Sl) × H)) (fun _ _ _ _ _ => none) (fun _ ih x32 x33 x34 x35 h36 => cond (decide (x35 < x33))
      ((asP (ixs 3 x32.a x32.n x35)).bind fun p37 =>
    (asSt [(.int .i64), (.int .i64), .sl] (lda 3 h36 p37)).bind fun s38 =>
    (stv 3 (newR h36 72 3 [(Value.int .i64 (0 : Int)), (Value.int .i64 (0 : Int)), (Value.slice none 0 0)]) (some ⟨h36.next, 0, none⟩) [(Value.int .i64 s38.1), (Value.int .i64 s38.2.1), (Value.slice s38.2.2.a s38.2.2.n s38.2.2.c)]).bind fun q39 =>
    (asI .i64 (ldc q39.2 (some ⟨h36.next, 0, none⟩))).bind fun n40 =>
    (call_bytes.f k n40 (1 : Int) q39.2).bind fun q41 =>
    (asI .i64 (ldc q41.2 (some ⟨h36.next, 1, none⟩))).bind fun n42 =>
    (call_bytes.f k n42 (6 : Int) q41.2).bind fun q43 =>
    (asS (ldc q43.2 (some ⟨h36.next, 2, none⟩))).bind fun s44 =>
    (slices_Concat_byte_byte.f k (⟨(some ⟨q43.2.next, 0, none⟩), 4, 4⟩ : Sl) (newR q43.2 25 1 [(Value.slice x34.a x34.n x34.c), (Value.slice q41.1.a q41.1.n q41.1.c), (Value.slice q43.1.a q43.1.n q43.1.c), (Value.slice s44.a s44.n s44.c)])).bind fun q45 =>
    cond (same1 q39.2 q41.2 (some (Value.pointer (some ⟨h36.next, 1, none⟩))) && (same1 q39.2 q41.2 (some (Value.pointer (some ⟨h36.next, 2, none⟩))) && (same1 q41.2 q43.2 (some (Value.pointer (some ⟨h36.next, 2, none⟩))) && (true)))) (ih x32 x33 q45.1 (wrapA .i64 (x35 + (1 : Int))) q45.2) none)
      (some (x34, h36))) n
theorem call_LayRep.l1_zero (k : Nat) (x32 : Sl) (x33 : Int) (x34 : Sl) (x35 : Int) (h36 : H) : call_LayRep.l1 k 0 x32 x33 x34 x35 h36 = none := rfl
theorem call_LayRep.l1_succ (k n : Nat) (x32 : Sl) (x33 : Int) (x34 : Sl) (x35 : Int) (h36 : H) : call_LayRep.l1 k (n + 1) x32 x33 x34 x35 h36 = (cond (decide (x35 < x33))
      ((asP (ixs 3 x32.a x32.n x35)).bind fun p37 =>
    (asSt [(.int .i64), (.int .i64), .sl] (lda 3 h36 p37)).bind fun s38 =>
    (stv 3 (newR h36 72 3 [(Value.int .i64 (0 : Int)), (Value.int .i64 (0 : Int)), (Value.slice none 0 0)]) (some ⟨h36.next, 0, none⟩) [(Value.int .i64 s38.1), (Value.int .i64 s38.2.1), (Value.slice s38.2.2.a s38.2.2.n s38.2.2.c)]).bind fun q39 =>
    (asI .i64 (ldc q39.2 (some ⟨h36.next, 0, none⟩))).bind fun n40 =>
    (call_bytes.f k n40 (1 : Int) q39.2).bind fun q41 =>
    (asI .i64 (ldc q41.2 (some ⟨h36.next, 1, none⟩))).bind fun n42 =>
    (call_bytes.f k n42 (6 : Int) q41.2).bind fun q43 =>
    (asS (ldc q43.2 (some ⟨h36.next, 2, none⟩))).bind fun s44 =>
    (slices_Concat_byte_byte.f k (⟨(some ⟨q43.2.next, 0, none⟩), 4, 4⟩ : Sl) (newR q43.2 25 1 [(Value.slice x34.a x34.n x34.c), (Value.slice q41.1.a q41.1.n q41.1.c), (Value.slice q43.1.a q43.1.n q43.1.c), (Value.slice s44.a s44.n s44.c)])).bind fun q45 =>
    cond (same1 q39.2 q41.2 (some (Value.pointer (some ⟨h36.next, 1, none⟩))) && (same1 q39.2 q41.2 (some (Value.pointer (some ⟨h36.next, 2, none⟩))) && (same1 q41.2 q43.2 (some (Value.pointer (some ⟨h36.next, 2, none⟩))) && (true)))) (call_LayRep.l1 k n x32 x33 q45.1 (wrapA .i64 (x35 + (1 : Int))) q45.2) none)
      (some (x34, h36))) := rfl
noncomputable def call_LayRep.l0 (k : Nat) (n : Nat) : (Option Addr) → Sl → Int → Sl → Int → H → Option ((Sl) × H) :=
  Nat.rec (motive := fun _ => (Option Addr) → Sl → Int → Sl → Int → H → Option ((Sl) × H)) (fun _ _ _ _ _ _ => none) (fun _ ih x11 x12 x13 x14 x15 h16 => cond (decide (x15 < x13))
      ((asP (ixs 4 x12.a x12.n x15)).bind fun p17 =>
    (asSt [(.int .i64), (.int .i64), (.int .i64), .sl] (lda 4 h16 p17)).bind fun s18 =>
    (stv 4 (newR h16 69 4 [(Value.int .i64 (0 : Int)), (Value.int .i64 (0 : Int)), (Value.int .i64 (0 : Int)), (Value.slice none 0 0)]) (some ⟨h16.next, 0, none⟩) [(Value.int .i64 s18.1), (Value.int .i64 s18.2.1), (Value.int .i64 s18.2.2.1), (Value.slice s18.2.2.2.a s18.2.2.2.n s18.2.2.2.c)]).bind fun q19 =>
    (asI .i64 (ldc q19.2 (some ⟨h16.next, 0, none⟩))).bind fun n20 =>
    (call_bytes.f k n20 (1 : Int) q19.2).bind fun q21 =>
    (asI .i64 (ldc q21.2 (some ⟨h16.next, 1, none⟩))).bind fun n22 =>
    (call_bytes.f k n22 (6 : Int) q21.2).bind fun q23 =>
    (asI .i64 (ldc q23.2 (some ⟨h16.next, 2, none⟩))).bind fun n24 =>
    (call_bytes.f k n24 (1 : Int) q23.2).bind fun q25 =>
    (asS (ldc q25.2 (some ⟨h16.next, 3, none⟩))).bind fun s26 =>
    (slices_Concat_byte_byte.f k (⟨(some ⟨q25.2.next, 0, none⟩), 5, 5⟩ : Sl) (newR q25.2 25 1 [(Value.slice x14.a x14.n x14.c), (Value.slice q21.1.a q21.1.n q21.1.c), (Value.slice q23.1.a q23.1.n q23.1.c), (Value.slice q25.1.a q25.1.n q25.1.c), (Value.slice s26.a s26.n s26.c)])).bind fun q27 =>
    cond (same1 q19.2 q21.2 (some (Value.pointer (some ⟨h16.next, 1, none⟩))) && (same1 q19.2 q21.2 (some (Value.pointer (some ⟨h16.next, 2, none⟩))) && (same1 q21.2 q23.2 (some (Value.pointer (some ⟨h16.next, 2, none⟩))) && (same1 q19.2 q21.2 (some (Value.pointer (some ⟨h16.next, 3, none⟩))) && (same1 q21.2 q23.2 (some (Value.pointer (some ⟨h16.next, 3, none⟩))) && (same1 q23.2 q25.2 (some (Value.pointer (some ⟨h16.next, 3, none⟩))) && (true))))))) (ih x11 x12 x13 q27.1 (wrapA .i64 (x15 + (1 : Int))) q27.2) none)
      (some (x14, h16))) n
theorem call_LayRep.l0_zero (k : Nat) (x11 : Option Addr) (x12 : Sl) (x13 : Int) (x14 : Sl) (x15 : Int) (h16 : H) : call_LayRep.l0 k 0 x11 x12 x13 x14 x15 h16 = none := rfl
theorem call_LayRep.l0_succ (k n : Nat) (x11 : Option Addr) (x12 : Sl) (x13 : Int) (x14 : Sl) (x15 : Int) (h16 : H) : call_LayRep.l0 k (n + 1) x11 x12 x13 x14 x15 h16 = (cond (decide (x15 < x13))
      ((asP (ixs 4 x12.a x12.n x15)).bind fun p17 =>
    (asSt [(.int .i64), (.int .i64), (.int .i64), .sl] (lda 4 h16 p17)).bind fun s18 =>
    (stv 4 (newR h16 69 4 [(Value.int .i64 (0 : Int)), (Value.int .i64 (0 : Int)), (Value.int .i64 (0 : Int)), (Value.slice none 0 0)]) (some ⟨h16.next, 0, none⟩) [(Value.int .i64 s18.1), (Value.int .i64 s18.2.1), (Value.int .i64 s18.2.2.1), (Value.slice s18.2.2.2.a s18.2.2.2.n s18.2.2.2.c)]).bind fun q19 =>
    (asI .i64 (ldc q19.2 (some ⟨h16.next, 0, none⟩))).bind fun n20 =>
    (call_bytes.f k n20 (1 : Int) q19.2).bind fun q21 =>
    (asI .i64 (ldc q21.2 (some ⟨h16.next, 1, none⟩))).bind fun n22 =>
    (call_bytes.f k n22 (6 : Int) q21.2).bind fun q23 =>
    (asI .i64 (ldc q23.2 (some ⟨h16.next, 2, none⟩))).bind fun n24 =>
    (call_bytes.f k n24 (1 : Int) q23.2).bind fun q25 =>
    (asS (ldc q25.2 (some ⟨h16.next, 3, none⟩))).bind fun s26 =>
    (slices_Concat_byte_byte.f k (⟨(some ⟨q25.2.next, 0, none⟩), 5, 5⟩ : Sl) (newR q25.2 25 1 [(Value.slice x14.a x14.n x14.c), (Value.slice q21.1.a q21.1.n q21.1.c), (Value.slice q23.1.a q23.1.n q23.1.c), (Value.slice q25.1.a q25.1.n q25.1.c), (Value.slice s26.a s26.n s26.c)])).bind fun q27 =>
    cond (same1 q19.2 q21.2 (some (Value.pointer (some ⟨h16.next, 1, none⟩))) && (same1 q19.2 q21.2 (some (Value.pointer (some ⟨h16.next, 2, none⟩))) && (same1 q21.2 q23.2 (some (Value.pointer (some ⟨h16.next, 2, none⟩))) && (same1 q19.2 q21.2 (some (Value.pointer (some ⟨h16.next, 3, none⟩))) && (same1 q21.2 q23.2 (some (Value.pointer (some ⟨h16.next, 3, none⟩))) && (same1 q23.2 q25.2 (some (Value.pointer (some ⟨h16.next, 3, none⟩))) && (true))))))) (call_LayRep.l0 k n x11 x12 x13 q27.1 (wrapA .i64 (x15 + (1 : Int))) q27.2) none)
      (some (x14, h16))) := rfl
noncomputable def call_LayRep.f (k : Nat) (a0 : (Int × Int × Sl × Sl)) (h : H) : Option ((Sl × Int) × H) :=
  (asSt [(.int .i64), (.int .i64), .sl, .sl] (lda 4 (newR h 67 4 [(Value.int .i64 a0.1), (Value.int .i64 a0.2.1), (Value.slice a0.2.2.1.a a0.2.2.1.n a0.2.2.1.c), (Value.slice a0.2.2.2.a a0.2.2.2.n a0.2.2.2.c)]) (some ⟨h.next, 0, none⟩))).bind fun s1 =>
    (call_right.f k (s1.1, s1.2.1, s1.2.2.1, s1.2.2.2) (newR h 67 4 [(Value.int .i64 a0.1), (Value.int .i64 a0.2.1), (Value.slice a0.2.2.1.a a0.2.2.1.n a0.2.2.1.c), (Value.slice a0.2.2.2.a a0.2.2.2.n a0.2.2.2.c)])).bind fun q2 =>
    cond (!q2.1)
      (some (((⟨none, 0, 0⟩ : Sl), (1 : Int)), q2.2))
      ((asI .i64 (ldc q2.2 (some ⟨h.next, 0, none⟩))).bind fun n3 =>
    (call_bytes.f k n3 (1 : Int) q2.2).bind fun q4 =>
    (asI .i64 (ldc q4.2 (some ⟨h.next, 1, none⟩))).bind fun n5 =>
    (call_bytes.f k n5 (4 : Int) q4.2).bind fun q6 =>
    (asS (ldc q6.2 (some ⟨h.next, 2, none⟩))).bind fun s7 =>
    (call_bytes.f k (Int.ofNat s7.n) (1 : Int) q6.2).bind fun q8 =>
    (slices_Concat_byte_byte.f k (⟨(some ⟨q8.2.next, 0, none⟩), 3, 3⟩ : Sl) (newR q8.2 25 1 [(Value.slice q4.1.a q4.1.n q4.1.c), (Value.slice q6.1.a q6.1.n q6.1.c), (Value.slice q8.1.a q8.1.n q8.1.c)])).bind fun q9 =>
    cond (same1 q2.2 q4.2 (some (Value.pointer (some ⟨h.next, 1, none⟩))) && (same1 q2.2 q4.2 (some (Value.pointer (some ⟨h.next, 2, none⟩))) && (same1 q4.2 q6.2 (some (Value.pointer (some ⟨h.next, 2, none⟩))) && (same1 q2.2 q4.2 (some (Value.slice s7.a s7.n s7.c)) && (same1 q4.2 q6.2 (some (Value.slice s7.a s7.n s7.c)) && (true)))))) ((asS (ldc q9.2 (some ⟨h.next, 2, none⟩))).bind fun s10 =>
    (call_LayRep.l0 k k (some ⟨h.next, 0, none⟩) s10 (Int.ofNat s10.n) q9.1 (0 : Int) q9.2).bind fun w28 =>
    (asS (ldc w28.2 (some ⟨h.next, 3, none⟩))).bind fun s29 =>
    (asS2 (apv 5 1 1 (Value.slice w28.1.a w28.1.n w28.1.c) (Value.slice (some ⟨w28.2.next, 0, none⟩) 1 1) (newR w28.2 5 1 [(Value.int .u8 (wrapA .u8 (Int.ofNat s29.n)))]))).bind fun q30 =>
    (asS (ldc q30.2 (some ⟨h.next, 3, none⟩))).bind fun s31 =>
    (call_LayRep.l1 k k s31 (Int.ofNat s31.n) q30.1 (0 : Int) q30.2).bind fun w46 =>
    some ((w46.1, (0 : Int)), w46.2)) none)
noncomputable def call_LayRep.T (k : Nat) : Tbl := tblOf [⟨52, anyArgs, wr [(.st [(.int .i64), (.int .i64), .sl, .sl])] [.bool] (fun a h => call_right.f k a h)⟩,
  ⟨45, anyArgs, wr [(.int .i64), (.int .i64)] [.sl] (fun a h => call_bytes.f k (a.1) (a.2) h)⟩,
  ⟨40, anyArgs, wr [.sl] [.sl] (fun a h => slices_Concat_byte_byte.f k a h)⟩]
noncomputable def call_LayRep.an (k : Nat) (p : Nat) : Option Ann := cond (Nat.beq p 506) (some (.pass [] (lrun [(54, .sl), (55, (.int .i64)), (4, .sl), (56, (.int .i64))] none [(4, .sl)] 2 (fun a h => call_LayRep.l1 k k (a.1) (a.2.1) (a.2.2.1) (a.2.2.2) h))))
  (cond (Nat.beq p 122) (some (.pass [1] (lrun [(1, .ptr), (25, .sl), (26, (.int .i64)), (4, .sl), (27, (.int .i64))] none [(4, .sl)] 0 (fun a h => call_LayRep.l0 k k (a.1) (a.2.1) (a.2.2.1) (a.2.2.2.1) (a.2.2.2.2) h))))
  (none))
noncomputable def call_LayRep.body : Code := (Try.f33.body).getD .skip
noncomputable def call_LayRep.c122 : Code := cat call_LayRep.body [1, 1, 1, 0, 1, 0, 0]
noncomputable def call_LayRep.c506 : Code := cat call_LayRep.body [1, 1, 1, 1, 1, 0, 1, 0, 0]
set_option maxRecDepth 100000 in
theorem call_LayRep.TS {C : FuncId → Bool} {X : CallF} (hX : XOk C X) (k : Nat) : TblS Try.prog C X (call_LayRep.T k) := by
  refine tblOf_sound ?_
  intro e he
  rcases List.mem_cons.1 he with rfl | he
  · exact wr_told (call_right.told hX k)
  rcases List.mem_cons.1 he with rfl | he
  · exact wr_told (call_bytes.told hX k)
  rcases List.mem_cons.1 he with rfl | he
  · exact wr_told (slices_Concat_byte_byte.told hX k)
  exact absurd he List.not_mem_nil
set_option maxRecDepth 100000 in
theorem call_LayRep.l1_pass {C : FuncId → Bool} {X : CallF} (hX : XOk C X) (k n : Nat) : PassS Try.prog C X 73 (.loop call_LayRep.c506) (lrun [(54, .sl), (55, (.int .i64)), (4, .sl), (56, (.int .i64))] none [(4, .sl)] 2 (fun a h => call_LayRep.l1 k n (a.1) (a.2.1) (a.2.2.1) (a.2.2.2) h)) :=
  loop_pass (ins := [(54, .sl), (55, (.int .i64)), (4, .sl), (56, (.int .i64))]) (rets := none) (outs := [(4, .sl)]) (id := 2) (tbl := call_LayRep.T k) (an := call_LayRep.an k) (pb := 1012) (call_LayRep.TS hX k) (fun n => (fun a h => call_LayRep.l1 k n (a.1) (a.2.1) (a.2.2.1) (a.2.2.2) h)) (fun a h => rfl) (fun n a h => by kernel_rfl)
    (by
      have e : need (call_LayRep.an k) call_LayRep.c506 1012 = [] := by kernel_rfl
      rw [e]; intro q hq; cases hq) n
set_option maxRecDepth 100000 in
theorem call_LayRep.l0_pass {C : FuncId → Bool} {X : CallF} (hX : XOk C X) (k n : Nat) : PassS Try.prog C X 73 (.loop call_LayRep.c122) (lrun [(1, .ptr), (25, .sl), (26, (.int .i64)), (4, .sl), (27, (.int .i64))] none [(4, .sl)] 0 (fun a h => call_LayRep.l0 k n (a.1) (a.2.1) (a.2.2.1) (a.2.2.2.1) (a.2.2.2.2) h)) :=
  loop_pass (ins := [(1, .ptr), (25, .sl), (26, (.int .i64)), (4, .sl), (27, (.int .i64))]) (rets := none) (outs := [(4, .sl)]) (id := 0) (tbl := call_LayRep.T k) (an := call_LayRep.an k) (pb := 244) (call_LayRep.TS hX k) (fun n => (fun a h => call_LayRep.l0 k n (a.1) (a.2.1) (a.2.2.1) (a.2.2.2.1) (a.2.2.2.2) h)) (fun a h => rfl) (fun n a h => by kernel_rfl)
    (by
      have e : need (call_LayRep.an k) call_LayRep.c122 244 = [] := by kernel_rfl
      rw [e]; intro q hq; cases hq) n
set_option maxRecDepth 100000 in
theorem call_LayRep.eq (k : Nat) (a : RT [(.st [(.int .i64), (.int .i64), .sl, .sl])]) (h : H) : (fun a h => call_LayRep.f k a h) a h = kfun Try.prog (call_LayRep.T k) (call_LayRep.an k) (RT [.sl, (.int .i64)] × H) Try.f33 (encL [(.st [(.int .i64), (.int .i64), .sl, .sl])] a) h (fun vs h' => (decL [.sl, (.int .i64)] vs).bind fun x => some (x, h')) := by kernel_rfl
set_option maxRecDepth 100000 in
theorem call_LayRep.told {C : FuncId → Bool} {X : CallF} (hX : XOk C X) (k : Nat) : Den.Told Try.prog C X 33 [(.st [(.int .i64), (.int .i64), .sl, .sl])] [.sl, (.int .i64)] (fun a h => call_LayRep.f k a h) :=
  told_of fun a h q e => fn_of (c := call_LayRep.body) (call_LayRep.TS hX k) Try.func33 (by kernel_rfl) (hX.no 33 _ h (by decide))
    (by
      have e : need (call_LayRep.an k) call_LayRep.body 1 = [(Code.loop call_LayRep.c122, lrun [(1, .ptr), (25, .sl), (26, (.int .i64)), (4, .sl), (27, (.int .i64))] none [(4, .sl)] 0 (fun a h => call_LayRep.l0 k k (a.1) (a.2.1) (a.2.2.1) (a.2.2.2.1) (a.2.2.2.2) h)), (Code.loop call_LayRep.c506, lrun [(54, .sl), (55, (.int .i64)), (4, .sl), (56, (.int .i64))] none [(4, .sl)] 2 (fun a h => call_LayRep.l1 k k (a.1) (a.2.1) (a.2.2.1) (a.2.2.2) h))] := by kernel_rfl
      rw [e]; intro q hq
      rcases List.mem_cons.1 hq with rfl | hq
      · exact call_LayRep.l0_pass hX k k
      rcases List.mem_cons.1 hq with rfl | hq
      · exact call_LayRep.l1_pass hX k k
      cases hq)
    ((call_LayRep.eq k a h).symm.trans e)
/-! ### corbel/call.ReadRep -/
noncomputable def call_ReadRep.l1 (k : Nat) (n : Nat) : Sl → (Option Addr) → (Option Addr) → (Option Addr) → Int → Int → H → Option ((Unit) × H) :=
  Nat.rec (motive := fun _ => Sl → (Option Addr) → (Option Addr) → (Option Addr) → Int → Int → H → Option ((Unit) × H)) (fun _ _ _ _ _ _ _ => none) (fun _ ih x24 x25 x26 x27 x28 x29 h30 => cond (decide (x29 < x28))
      ((asP (fadd 3 x27)).bind fun p31 =>
    (asS (ldc h30 p31)).bind fun s32 =>
    (call_reader_number.f k x26 (1 : Int) h30).bind fun q33 =>
    (call_reader_number.f k x26 (6 : Int) q33.2).bind fun q34 =>
    (call_reader_take.f k x26 (128 : Int) q34.2).bind fun q35 =>
    (asS2 (apv 72 3 40 (Value.slice s32.a s32.n s32.c) (Value.slice (some ⟨q35.2.next, 0, none⟩) 1 1) (newR q35.2 72 3 [(Value.int .i64 q33.1), (Value.int .i64 q34.1), (Value.slice q35.1.a q35.1.n q35.1.c)]))).bind fun q36 =>
    (asP (fadd 3 x27)).bind fun p37 =>
    (stv 1 q36.2 p37 [(Value.slice q36.1.a q36.1.n q36.1.c)]).bind fun q38 =>
    cond (same1 h30 q33.2 (some (Value.pointer p31)) && (same1 q33.2 q34.2 (some (Value.pointer p31)) && (same1 q34.2 q35.2 (some (Value.pointer p31)) && (true)))) (ih x24 x25 x26 x27 x28 (wrapA .i64 (x29 + (1 : Int))) q38.2) none)
      (some ((), h30))) n
theorem call_ReadRep.l1_zero (k : Nat) (x24 : Sl) (x25 : Option Addr) (x26 : Option Addr) (x27 : Option Addr) (x28 : Int) (x29 : Int) (h30 : H) : call_ReadRep.l1 k 0 x24 x25 x26 x27 x28 x29 h30 = none := rfl
theorem call_ReadRep.l1_succ (k n : Nat) (x24 : Sl) (x25 : Option Addr) (x26 : Option Addr) (x27 : Option Addr) (x28 : Int) (x29 : Int) (h30 : H) : call_ReadRep.l1 k (n + 1) x24 x25 x26 x27 x28 x29 h30 = (cond (decide (x29 < x28))
      ((asP (fadd 3 x27)).bind fun p31 =>
    (asS (ldc h30 p31)).bind fun s32 =>
    (call_reader_number.f k x26 (1 : Int) h30).bind fun q33 =>
    (call_reader_number.f k x26 (6 : Int) q33.2).bind fun q34 =>
    (call_reader_take.f k x26 (128 : Int) q34.2).bind fun q35 =>
    (asS2 (apv 72 3 40 (Value.slice s32.a s32.n s32.c) (Value.slice (some ⟨q35.2.next, 0, none⟩) 1 1) (newR q35.2 72 3 [(Value.int .i64 q33.1), (Value.int .i64 q34.1), (Value.slice q35.1.a q35.1.n q35.1.c)]))).bind fun q36 =>
    (asP (fadd 3 x27)).bind fun p37 =>
    (stv 1 q36.2 p37 [(Value.slice q36.1.a q36.1.n q36.1.c)]).bind fun q38 =>
    cond (same1 h30 q33.2 (some (Value.pointer p31)) && (same1 q33.2 q34.2 (some (Value.pointer p31)) && (same1 q34.2 q35.2 (some (Value.pointer p31)) && (true)))) (call_ReadRep.l1 k n x24 x25 x26 x27 x28 (wrapA .i64 (x29 + (1 : Int))) q38.2) none)
      (some ((), h30))) := rfl
noncomputable def call_ReadRep.l0 (k : Nat) (n : Nat) : Sl → (Option Addr) → (Option Addr) → (Option Addr) → Int → Int → H → Option ((Unit) × H) :=
  Nat.rec (motive := fun _ => Sl → (Option Addr) → (Option Addr) → (Option Addr) → Int → Int → H → Option ((Unit) × H)) (fun _ _ _ _ _ _ _ => none) (fun _ ih x6 x7 x8 x9 x10 x11 h12 => cond (decide (x11 < x10))
      ((asP (fadd 2 x9)).bind fun p13 =>
    (asS (ldc h12 p13)).bind fun s14 =>
    (call_reader_number.f k x8 (1 : Int) h12).bind fun q15 =>
    (call_reader_number.f k x8 (6 : Int) q15.2).bind fun q16 =>
    (call_reader_number.f k x8 (1 : Int) q16.2).bind fun q17 =>
    (call_reader_take.f k x8 (32 : Int) q17.2).bind fun q18 =>
    (asS2 (apv 69 4 48 (Value.slice s14.a s14.n s14.c) (Value.slice (some ⟨q18.2.next, 0, none⟩) 1 1) (newR q18.2 69 4 [(Value.int .i64 q15.1), (Value.int .i64 q16.1), (Value.int .i64 q17.1), (Value.slice q18.1.a q18.1.n q18.1.c)]))).bind fun q19 =>
    (asP (fadd 2 x9)).bind fun p20 =>
    (stv 1 q19.2 p20 [(Value.slice q19.1.a q19.1.n q19.1.c)]).bind fun q21 =>
    cond (same1 h12 q15.2 (some (Value.pointer p13)) && (same1 q15.2 q16.2 (some (Value.pointer p13)) && (same1 q16.2 q17.2 (some (Value.pointer p13)) && (same1 q17.2 q18.2 (some (Value.pointer p13)) && (true))))) (ih x6 x7 x8 x9 x10 (wrapA .i64 (x11 + (1 : Int))) q21.2) none)
      (some ((), h12))) n
theorem call_ReadRep.l0_zero (k : Nat) (x6 : Sl) (x7 : Option Addr) (x8 : Option Addr) (x9 : Option Addr) (x10 : Int) (x11 : Int) (h12 : H) : call_ReadRep.l0 k 0 x6 x7 x8 x9 x10 x11 h12 = none := rfl
theorem call_ReadRep.l0_succ (k n : Nat) (x6 : Sl) (x7 : Option Addr) (x8 : Option Addr) (x9 : Option Addr) (x10 : Int) (x11 : Int) (h12 : H) : call_ReadRep.l0 k (n + 1) x6 x7 x8 x9 x10 x11 h12 = (cond (decide (x11 < x10))
      ((asP (fadd 2 x9)).bind fun p13 =>
    (asS (ldc h12 p13)).bind fun s14 =>
    (call_reader_number.f k x8 (1 : Int) h12).bind fun q15 =>
    (call_reader_number.f k x8 (6 : Int) q15.2).bind fun q16 =>
    (call_reader_number.f k x8 (1 : Int) q16.2).bind fun q17 =>
    (call_reader_take.f k x8 (32 : Int) q17.2).bind fun q18 =>
    (asS2 (apv 69 4 48 (Value.slice s14.a s14.n s14.c) (Value.slice (some ⟨q18.2.next, 0, none⟩) 1 1) (newR q18.2 69 4 [(Value.int .i64 q15.1), (Value.int .i64 q16.1), (Value.int .i64 q17.1), (Value.slice q18.1.a q18.1.n q18.1.c)]))).bind fun q19 =>
    (asP (fadd 2 x9)).bind fun p20 =>
    (stv 1 q19.2 p20 [(Value.slice q19.1.a q19.1.n q19.1.c)]).bind fun q21 =>
    cond (same1 h12 q15.2 (some (Value.pointer p13)) && (same1 q15.2 q16.2 (some (Value.pointer p13)) && (same1 q16.2 q17.2 (some (Value.pointer p13)) && (same1 q17.2 q18.2 (some (Value.pointer p13)) && (true))))) (call_ReadRep.l0 k n x6 x7 x8 x9 x10 (wrapA .i64 (x11 + (1 : Int))) q21.2) none)
      (some ((), h12))) := rfl
noncomputable def call_ReadRep.f (k : Nat) (a0 : Sl) (h : H) : Option (((Int × Int × Sl × Sl) × Int) × H) :=
  (slices_Clone_byte_byte.f k a0 (newR h 67 4 [(Value.int .i64 (0 : Int)), (Value.int .i64 (0 : Int)), (Value.slice none 0 0), (Value.slice none 0 0)])).bind fun q1 =>
    (call_reader_number.f k (some ⟨q1.2.next, 0, none⟩) (1 : Int) (newR q1.2 92 2 [(Value.slice q1.1.a q1.1.n q1.1.c), (Value.bool false)])).bind fun q2 =>
    (call_reader_number.f k (some ⟨q1.2.next, 0, none⟩) (4 : Int) q2.2).bind fun q3 =>
    (stv 4 (newR q3.2 67 4 [(Value.int .i64 (0 : Int)), (Value.int .i64 (0 : Int)), (Value.slice none 0 0), (Value.slice none 0 0)]) (some ⟨q3.2.next, 0, none⟩) [(Value.int .i64 q2.1), (Value.int .i64 q3.1), (Value.slice none 0 0), (Value.slice none 0 0)]).bind fun q4 =>
    (call_reader_number.f k (some ⟨q1.2.next, 0, none⟩) (1 : Int) q4.2).bind fun q5 =>
    (call_ReadRep.l0 k k a0 (some ⟨h.next, 0, none⟩) (some ⟨q1.2.next, 0, none⟩) (some ⟨q3.2.next, 0, none⟩) q5.1 (0 : Int) q5.2).bind fun w22 =>
    (call_reader_number.f k (some ⟨q1.2.next, 0, none⟩) (1 : Int) w22.2).bind fun q23 =>
    (call_ReadRep.l1 k k a0 (some ⟨h.next, 0, none⟩) (some ⟨q1.2.next, 0, none⟩) (some ⟨q3.2.next, 0, none⟩) q23.1 (0 : Int) q23.2).bind fun w39 =>
    (asSt [(.int .i64), (.int .i64), .sl, .sl] (lda 4 w39.2 (some ⟨q3.2.next, 0, none⟩))).bind fun s40 =>
    (call_LayRep.f k (s40.1, s40.2.1, s40.2.2.1, s40.2.2.2) w39.2).bind fun q41 =>
    (asB (ldc q41.2 (some ⟨q1.2.next, 1, none⟩))).bind fun b42 =>
    (cond b42 (some (true, q41.2))
      (some (q41.1.2 != (0 : Int), q41.2))).bind fun g43 =>
    (cond g43.1 (some (true, g43.2))
      ((slices_Equal_byte_byte.f k q41.1.1 a0 g43.2).bind fun q44 =>
    some (!q44.1, q44.2))).bind fun g45 =>
    cond g45.1
      ((stv 4 g45.2 (some ⟨h.next, 0, none⟩) [(Value.int .i64 (0 : Int)), (Value.int .i64 (0 : Int)), (Value.slice none 0 0), (Value.slice none 0 0)]).bind fun q46 =>
    (asSt [(.int .i64), (.int .i64), .sl, .sl] (lda 4 q46.2 (some ⟨h.next, 0, none⟩))).bind fun s47 =>
    some (((s47.1, s47.2.1, s47.2.2.1, s47.2.2.2), (2 : Int)), q46.2))
      ((asSt [(.int .i64), (.int .i64), .sl, .sl] (lda 4 g45.2 (some ⟨q3.2.next, 0, none⟩))).bind fun s48 =>
    (stv 4 g45.2 (some ⟨h.next, 0, none⟩) [(Value.int .i64 s48.1), (Value.int .i64 s48.2.1), (Value.slice s48.2.2.1.a s48.2.2.1.n s48.2.2.1.c), (Value.slice s48.2.2.2.a s48.2.2.2.n s48.2.2.2.c)]).bind fun q49 =>
    (asSt [(.int .i64), (.int .i64), .sl, .sl] (lda 4 q49.2 (some ⟨h.next, 0, none⟩))).bind fun s50 =>
    some (((s50.1, s50.2.1, s50.2.2.1, s50.2.2.2), (0 : Int)), q49.2))
noncomputable def call_ReadRep.T (k : Nat) : Tbl := tblOf [⟨43, anyArgs, wr [.sl] [.sl] (fun a h => slices_Clone_byte_byte.f k a h)⟩,
  ⟨47, anyArgs, wr [.ptr, (.int .i64)] [(.int .i64)] (fun a h => call_reader_number.f k (a.1) (a.2) h)⟩,
  ⟨48, anyArgs, wr [.ptr, (.int .i64)] [.sl] (fun a h => call_reader_take.f k (a.1) (a.2) h)⟩,
  ⟨33, anyArgs, wr [(.st [(.int .i64), (.int .i64), .sl, .sl])] [.sl, (.int .i64)] (fun a h => call_LayRep.f k a h)⟩,
  ⟨49, anyArgs, wr [.sl, .sl] [.bool] (fun a h => slices_Equal_byte_byte.f k (a.1) (a.2) h)⟩]
noncomputable def call_ReadRep.an (k : Nat) (p : Nat) : Option Ann := cond (Nat.beq p 250) (some (.pass [0, 2, 4, 5] (lrun [(0, .sl), (2, .ptr), (4, .ptr), (5, .ptr), (37, (.int .i64)), (38, (.int .i64))] none [] 2 (fun a h => call_ReadRep.l1 k k (a.1) (a.2.1) (a.2.2.1) (a.2.2.2.1) (a.2.2.2.2.1) (a.2.2.2.2.2) h))))
  (cond (Nat.beq p 122) (some (.pass [0, 2, 4, 5] (lrun [(0, .sl), (2, .ptr), (4, .ptr), (5, .ptr), (18, (.int .i64)), (19, (.int .i64))] none [] 0 (fun a h => call_ReadRep.l0 k k (a.1) (a.2.1) (a.2.2.1) (a.2.2.2.1) (a.2.2.2.2.1) (a.2.2.2.2.2) h))))
  (none))
noncomputable def call_ReadRep.body : Code := (Try.f34.body).getD .skip
noncomputable def call_ReadRep.c122 : Code := cat call_ReadRep.body [1, 1, 1, 0, 1, 0, 0]
noncomputable def call_ReadRep.c250 : Code := cat call_ReadRep.body [1, 1, 1, 1, 0, 1, 0, 0]
set_option maxRecDepth 100000 in
theorem call_ReadRep.TS {C : FuncId → Bool} {X : CallF} (hX : XOk C X) (k : Nat) : TblS Try.prog C X (call_ReadRep.T k) := by
  refine tblOf_sound ?_
  intro e he
  rcases List.mem_cons.1 he with rfl | he
  · exact wr_told (slices_Clone_byte_byte.told hX k)
  rcases List.mem_cons.1 he with rfl | he
  · exact wr_told (call_reader_number.told hX k)
  rcases List.mem_cons.1 he with rfl | he
  · exact wr_told (call_reader_take.told hX k)
  rcases List.mem_cons.1 he with rfl | he
  · exact wr_told (call_LayRep.told hX k)
  rcases List.mem_cons.1 he with rfl | he
  · exact wr_told (slices_Equal_byte_byte.told hX k)
  exact absurd he List.not_mem_nil
set_option maxRecDepth 100000 in
theorem call_ReadRep.l1_pass {C : FuncId → Bool} {X : CallF} (hX : XOk C X) (k n : Nat) : PassS Try.prog C X 74 (.loop call_ReadRep.c250) (lrun [(0, .sl), (2, .ptr), (4, .ptr), (5, .ptr), (37, (.int .i64)), (38, (.int .i64))] none [] 2 (fun a h => call_ReadRep.l1 k n (a.1) (a.2.1) (a.2.2.1) (a.2.2.2.1) (a.2.2.2.2.1) (a.2.2.2.2.2) h)) :=
  loop_pass (ins := [(0, .sl), (2, .ptr), (4, .ptr), (5, .ptr), (37, (.int .i64)), (38, (.int .i64))]) (rets := none) (outs := []) (id := 2) (tbl := call_ReadRep.T k) (an := call_ReadRep.an k) (pb := 500) (call_ReadRep.TS hX k) (fun n => (fun a h => call_ReadRep.l1 k n (a.1) (a.2.1) (a.2.2.1) (a.2.2.2.1) (a.2.2.2.2.1) (a.2.2.2.2.2) h)) (fun a h => rfl) (fun n a h => by kernel_rfl)
    (by
      have e : need (call_ReadRep.an k) call_ReadRep.c250 500 = [] := by kernel_rfl
      rw [e]; intro q hq; cases hq) n
set_option maxRecDepth 100000 in
theorem call_ReadRep.l0_pass {C : FuncId → Bool} {X : CallF} (hX : XOk C X) (k n : Nat) : PassS Try.prog C X 74 (.loop call_ReadRep.c122) (lrun [(0, .sl), (2, .ptr), (4, .ptr), (5, .ptr), (18, (.int .i64)), (19, (.int .i64))] none [] 0 (fun a h => call_ReadRep.l0 k n (a.1) (a.2.1) (a.2.2.1) (a.2.2.2.1) (a.2.2.2.2.1) (a.2.2.2.2.2) h)) :=
  loop_pass (ins := [(0, .sl), (2, .ptr), (4, .ptr), (5, .ptr), (18, (.int .i64)), (19, (.int .i64))]) (rets := none) (outs := []) (id := 0) (tbl := call_ReadRep.T k) (an := call_ReadRep.an k) (pb := 244) (call_ReadRep.TS hX k) (fun n => (fun a h => call_ReadRep.l0 k n (a.1) (a.2.1) (a.2.2.1) (a.2.2.2.1) (a.2.2.2.2.1) (a.2.2.2.2.2) h)) (fun a h => rfl) (fun n a h => by kernel_rfl)
    (by
      have e : need (call_ReadRep.an k) call_ReadRep.c122 244 = [] := by kernel_rfl
      rw [e]; intro q hq; cases hq) n
set_option maxRecDepth 100000 in
theorem call_ReadRep.eq (k : Nat) (a : RT [.sl]) (h : H) : (fun a h => call_ReadRep.f k a h) a h = kfun Try.prog (call_ReadRep.T k) (call_ReadRep.an k) (RT [(.st [(.int .i64), (.int .i64), .sl, .sl]), (.int .i64)] × H) Try.f34 (encL [.sl] a) h (fun vs h' => (decL [(.st [(.int .i64), (.int .i64), .sl, .sl]), (.int .i64)] vs).bind fun x => some (x, h')) := by kernel_rfl
set_option maxRecDepth 100000 in
theorem call_ReadRep.told {C : FuncId → Bool} {X : CallF} (hX : XOk C X) (k : Nat) : Den.Told Try.prog C X 34 [.sl] [(.st [(.int .i64), (.int .i64), .sl, .sl]), (.int .i64)] (fun a h => call_ReadRep.f k a h) :=
  told_of fun a h q e => fn_of (c := call_ReadRep.body) (call_ReadRep.TS hX k) Try.func34 (by kernel_rfl) (hX.no 34 _ h (by decide))
    (by
      have e : need (call_ReadRep.an k) call_ReadRep.body 1 = [(Code.loop call_ReadRep.c122, lrun [(0, .sl), (2, .ptr), (4, .ptr), (5, .ptr), (18, (.int .i64)), (19, (.int .i64))] none [] 0 (fun a h => call_ReadRep.l0 k k (a.1) (a.2.1) (a.2.2.1) (a.2.2.2.1) (a.2.2.2.2.1) (a.2.2.2.2.2) h)), (Code.loop call_ReadRep.c250, lrun [(0, .sl), (2, .ptr), (4, .ptr), (5, .ptr), (37, (.int .i64)), (38, (.int .i64))] none [] 2 (fun a h => call_ReadRep.l1 k k (a.1) (a.2.1) (a.2.2.1) (a.2.2.2.1) (a.2.2.2.2.1) (a.2.2.2.2.2) h))] := by kernel_rfl
      rw [e]; intro q hq
      rcases List.mem_cons.1 hq with rfl | hq
      · exact call_ReadRep.l0_pass hX k k
      rcases List.mem_cons.1 hq with rfl | hq
      · exact call_ReadRep.l1_pass hX k k
      cases hq)
    ((call_ReadRep.eq k a h).symm.trans e)
/-! ### corbel/corbelref7.SamePiece -/
noncomputable def corbelref7_SamePiece.f (k : Nat) (a0 : (Int × Int × Int × Sl)) (a1 : (Int × Int × Int × Sl)) (h : H) : Option ((Bool) × H) :=
  (asI .i64 (ldc (newR (newR h 69 4 [(Value.int .i64 a0.1), (Value.int .i64 a0.2.1), (Value.int .i64 a0.2.2.1), (Value.slice a0.2.2.2.a a0.2.2.2.n a0.2.2.2.c)]) 69 4 [(Value.int .i64 a1.1), (Value.int .i64 a1.2.1), (Value.int .i64 a1.2.2.1), (Value.slice a1.2.2.2.a a1.2.2.2.n a1.2.2.2.c)]) (some ⟨h.next, 0, none⟩))).bind fun n1 =>
    (asI .i64 (ldc (newR (newR h 69 4 [(Value.int .i64 a0.1), (Value.int .i64 a0.2.1), (Value.int .i64 a0.2.2.1), (Value.slice a0.2.2.2.a a0.2.2.2.n a0.2.2.2.c)]) 69 4 [(Value.int .i64 a1.1), (Value.int .i64 a1.2.1), (Value.int .i64 a1.2.2.1), (Value.slice a1.2.2.2.a a1.2.2.2.n a1.2.2.2.c)]) (some ⟨(newR h 69 4 [(Value.int .i64 a0.1), (Value.int .i64 a0.2.1), (Value.int .i64 a0.2.2.1), (Value.slice a0.2.2.2.a a0.2.2.2.n a0.2.2.2.c)]).next, 0, none⟩))).bind fun n2 =>
    (cond (n1 == n2) ((asI .i64 (ldc (newR (newR h 69 4 [(Value.int .i64 a0.1), (Value.int .i64 a0.2.1), (Value.int .i64 a0.2.2.1), (Value.slice a0.2.2.2.a a0.2.2.2.n a0.2.2.2.c)]) 69 4 [(Value.int .i64 a1.1), (Value.int .i64 a1.2.1), (Value.int .i64 a1.2.2.1), (Value.slice a1.2.2.2.a a1.2.2.2.n a1.2.2.2.c)]) (some ⟨h.next, 1, none⟩))).bind fun n3 =>
    (asI .i64 (ldc (newR (newR h 69 4 [(Value.int .i64 a0.1), (Value.int .i64 a0.2.1), (Value.int .i64 a0.2.2.1), (Value.slice a0.2.2.2.a a0.2.2.2.n a0.2.2.2.c)]) 69 4 [(Value.int .i64 a1.1), (Value.int .i64 a1.2.1), (Value.int .i64 a1.2.2.1), (Value.slice a1.2.2.2.a a1.2.2.2.n a1.2.2.2.c)]) (some ⟨(newR h 69 4 [(Value.int .i64 a0.1), (Value.int .i64 a0.2.1), (Value.int .i64 a0.2.2.1), (Value.slice a0.2.2.2.a a0.2.2.2.n a0.2.2.2.c)]).next, 1, none⟩))).bind fun n4 =>
    some (n3 == n4, (newR (newR h 69 4 [(Value.int .i64 a0.1), (Value.int .i64 a0.2.1), (Value.int .i64 a0.2.2.1), (Value.slice a0.2.2.2.a a0.2.2.2.n a0.2.2.2.c)]) 69 4 [(Value.int .i64 a1.1), (Value.int .i64 a1.2.1), (Value.int .i64 a1.2.2.1), (Value.slice a1.2.2.2.a a1.2.2.2.n a1.2.2.2.c)])))
      (some (false, (newR (newR h 69 4 [(Value.int .i64 a0.1), (Value.int .i64 a0.2.1), (Value.int .i64 a0.2.2.1), (Value.slice a0.2.2.2.a a0.2.2.2.n a0.2.2.2.c)]) 69 4 [(Value.int .i64 a1.1), (Value.int .i64 a1.2.1), (Value.int .i64 a1.2.2.1), (Value.slice a1.2.2.2.a a1.2.2.2.n a1.2.2.2.c)])))).bind fun g5 =>
    (cond g5.1 ((asI .i64 (ldc g5.2 (some ⟨h.next, 2, none⟩))).bind fun n6 =>
    (asI .i64 (ldc g5.2 (some ⟨(newR h 69 4 [(Value.int .i64 a0.1), (Value.int .i64 a0.2.1), (Value.int .i64 a0.2.2.1), (Value.slice a0.2.2.2.a a0.2.2.2.n a0.2.2.2.c)]).next, 2, none⟩))).bind fun n7 =>
    some (n6 == n7, g5.2))
      (some (false, g5.2))).bind fun g8 =>
    (cond g8.1 ((asS (ldc g8.2 (some ⟨h.next, 3, none⟩))).bind fun s9 =>
    (asT (txt g8.2 (Value.slice s9.a s9.n s9.c))).bind fun s10 =>
    (asS (ldc g8.2 (some ⟨(newR h 69 4 [(Value.int .i64 a0.1), (Value.int .i64 a0.2.1), (Value.int .i64 a0.2.2.1), (Value.slice a0.2.2.2.a a0.2.2.2.n a0.2.2.2.c)]).next, 3, none⟩))).bind fun s11 =>
    (asT (txt g8.2 (Value.slice s11.a s11.n s11.c))).bind fun s12 =>
    some (s10.toList == s12.toList, g8.2))
      (some (false, g8.2))).bind fun g13 =>
    some (g13.1, g13.2)
noncomputable def corbelref7_SamePiece.T (k : Nat) : Tbl := tblOf []
noncomputable def corbelref7_SamePiece.an (k : Nat) (p : Nat) : Option Ann := none
noncomputable def corbelref7_SamePiece.body : Code := (Try.f70.body).getD .skip
set_option maxRecDepth 100000 in
theorem corbelref7_SamePiece.TS {C : FuncId → Bool} {X : CallF} (hX : XOk C X) (k : Nat) : TblS Try.prog C X (corbelref7_SamePiece.T k) := by
  refine tblOf_sound ?_
  intro e he
  exact absurd he List.not_mem_nil
set_option maxRecDepth 100000 in
theorem corbelref7_SamePiece.eq (k : Nat) (a : RT [(.st [(.int .i64), (.int .i64), (.int .i64), .sl]), (.st [(.int .i64), (.int .i64), (.int .i64), .sl])]) (h : H) : (fun a h => corbelref7_SamePiece.f k (a.1) (a.2) h) a h = kfun Try.prog (corbelref7_SamePiece.T k) (corbelref7_SamePiece.an k) (RT [.bool] × H) Try.f70 (encL [(.st [(.int .i64), (.int .i64), (.int .i64), .sl]), (.st [(.int .i64), (.int .i64), (.int .i64), .sl])] a) h (fun vs h' => (decL [.bool] vs).bind fun x => some (x, h')) := by kernel_rfl
set_option maxRecDepth 100000 in
theorem corbelref7_SamePiece.told {C : FuncId → Bool} {X : CallF} (hX : XOk C X) (k : Nat) : Den.Told Try.prog C X 70 [(.st [(.int .i64), (.int .i64), (.int .i64), .sl]), (.st [(.int .i64), (.int .i64), (.int .i64), .sl])] [.bool] (fun a h => corbelref7_SamePiece.f k (a.1) (a.2) h) :=
  told_of fun a h q e => fn_of (c := corbelref7_SamePiece.body) (corbelref7_SamePiece.TS hX k) Try.func70 (by kernel_rfl) (hX.no 70 _ h (by decide))
    (by
      have e : need (corbelref7_SamePiece.an k) corbelref7_SamePiece.body 1 = [] := by kernel_rfl
      rw [e]; intro q hq; cases hq)
    ((corbelref7_SamePiece.eq k a h).symm.trans e)
/-! ### corbel/corbelref7.SamePieces -/
noncomputable def corbelref7_SamePieces.l0 (k : Nat) (n : Nat) : Sl → Sl → Int → H → Option (((Bool) ⊕ (Unit)) × H) :=
  Nat.rec (motive := fun _ => Sl → Sl → Int → H → Option (((Bool) ⊕ (Unit)) × H)) (fun _ _ _ _ => none) (fun _ ih x1 x2 x3 h4 => cond (decide (x3 < (Int.ofNat x1.n)))
      ((asP (ixs 4 x1.a x1.n x3)).bind fun p5 =>
    (asSt [(.int .i64), (.int .i64), (.int .i64), .sl] (lda 4 h4 p5)).bind fun s6 =>
    (asP (ixs 4 x2.a x2.n x3)).bind fun p7 =>
    (asSt [(.int .i64), (.int .i64), (.int .i64), .sl] (lda 4 h4 p7)).bind fun s8 =>
    (corbelref7_SamePiece.f k (s6.1, s6.2.1, s6.2.2.1, s6.2.2.2) (s8.1, s8.2.1, s8.2.2.1, s8.2.2.2) h4).bind fun q9 =>
    cond (!q9.1)
      (some (Sum.inl false, q9.2))
      (ih x1 x2 (wrapA .i64 (x3 + (1 : Int))) q9.2))
      (some (Sum.inr (), h4))) n
theorem corbelref7_SamePieces.l0_zero (k : Nat) (x1 : Sl) (x2 : Sl) (x3 : Int) (h4 : H) : corbelref7_SamePieces.l0 k 0 x1 x2 x3 h4 = none := rfl
theorem corbelref7_SamePieces.l0_succ (k n : Nat) (x1 : Sl) (x2 : Sl) (x3 : Int) (h4 : H) : corbelref7_SamePieces.l0 k (n + 1) x1 x2 x3 h4 = (cond (decide (x3 < (Int.ofNat x1.n)))
      ((asP (ixs 4 x1.a x1.n x3)).bind fun p5 =>
    (asSt [(.int .i64), (.int .i64), (.int .i64), .sl] (lda 4 h4 p5)).bind fun s6 =>
    (asP (ixs 4 x2.a x2.n x3)).bind fun p7 =>
    (asSt [(.int .i64), (.int .i64), (.int .i64), .sl] (lda 4 h4 p7)).bind fun s8 =>
    (corbelref7_SamePiece.f k (s6.1, s6.2.1, s6.2.2.1, s6.2.2.2) (s8.1, s8.2.1, s8.2.2.1, s8.2.2.2) h4).bind fun q9 =>
    cond (!q9.1)
      (some (Sum.inl false, q9.2))
      (corbelref7_SamePieces.l0 k n x1 x2 (wrapA .i64 (x3 + (1 : Int))) q9.2))
      (some (Sum.inr (), h4))) := rfl
noncomputable def corbelref7_SamePieces.f (k : Nat) (a0 : Sl) (a1 : Sl) (h : H) : Option ((Bool) × H) :=
  cond ((Int.ofNat a0.n) != (Int.ofNat a1.n))
      (some (false, h))
      ((corbelref7_SamePieces.l0 k k a0 a1 (0 : Int) h).bind fun w10 =>
    match w10.1 with
    | .inl r11 => some (r11, w10.2)
    | .inr o12 => some (true, w10.2))
noncomputable def corbelref7_SamePieces.T (k : Nat) : Tbl := tblOf [⟨70, anyArgs, wr [(.st [(.int .i64), (.int .i64), (.int .i64), .sl]), (.st [(.int .i64), (.int .i64), (.int .i64), .sl])] [.bool] (fun a h => corbelref7_SamePiece.f k (a.1) (a.2) h)⟩]
noncomputable def corbelref7_SamePieces.an (k : Nat) (p : Nat) : Option Ann := cond (Nat.beq p 58) (some (.pass [] (lrun [(0, .sl), (1, .sl), (5, (.int .i64))] (some [(4, .bool)]) [] 0 (fun a h => corbelref7_SamePieces.l0 k k (a.1) (a.2.1) (a.2.2) h))))
  (none)
noncomputable def corbelref7_SamePieces.body : Code := (Try.f53.body).getD .skip
noncomputable def corbelref7_SamePieces.c58 : Code := cat corbelref7_SamePieces.body [1, 1, 0, 1, 0, 0]
set_option maxRecDepth 100000 in
theorem corbelref7_SamePieces.TS {C : FuncId → Bool} {X : CallF} (hX : XOk C X) (k : Nat) : TblS Try.prog C X (corbelref7_SamePieces.T k) := by
  refine tblOf_sound ?_
  intro e he
  rcases List.mem_cons.1 he with rfl | he
  · exact wr_told (corbelref7_SamePiece.told hX k)
  exact absurd he List.not_mem_nil
set_option maxRecDepth 100000 in
theorem corbelref7_SamePieces.l0_pass {C : FuncId → Bool} {X : CallF} (hX : XOk C X) (k n : Nat) : PassS Try.prog C X 27 (.loop corbelref7_SamePieces.c58) (lrun [(0, .sl), (1, .sl), (5, (.int .i64))] (some [(4, .bool)]) [] 0 (fun a h => corbelref7_SamePieces.l0 k n (a.1) (a.2.1) (a.2.2) h)) :=
  loop_pass (ins := [(0, .sl), (1, .sl), (5, (.int .i64))]) (rets := (some [(4, .bool)])) (outs := []) (id := 0) (tbl := corbelref7_SamePieces.T k) (an := corbelref7_SamePieces.an k) (pb := 116) (corbelref7_SamePieces.TS hX k) (fun n => (fun a h => corbelref7_SamePieces.l0 k n (a.1) (a.2.1) (a.2.2) h)) (fun a h => rfl) (fun n a h => by kernel_rfl)
    (by
      have e : need (corbelref7_SamePieces.an k) corbelref7_SamePieces.c58 116 = [] := by kernel_rfl
      rw [e]; intro q hq; cases hq) n
set_option maxRecDepth 100000 in
theorem corbelref7_SamePieces.eq (k : Nat) (a : RT [.sl, .sl]) (h : H) : (fun a h => corbelref7_SamePieces.f k (a.1) (a.2) h) a h = kfun Try.prog (corbelref7_SamePieces.T k) (corbelref7_SamePieces.an k) (RT [.bool] × H) Try.f53 (encL [.sl, .sl] a) h (fun vs h' => (decL [.bool] vs).bind fun x => some (x, h')) := by kernel_rfl
set_option maxRecDepth 100000 in
theorem corbelref7_SamePieces.told {C : FuncId → Bool} {X : CallF} (hX : XOk C X) (k : Nat) : Den.Told Try.prog C X 53 [.sl, .sl] [.bool] (fun a h => corbelref7_SamePieces.f k (a.1) (a.2) h) :=
  told_of fun a h q e => fn_of (c := corbelref7_SamePieces.body) (corbelref7_SamePieces.TS hX k) Try.func53 (by kernel_rfl) (hX.no 53 _ h (by decide))
    (by
      have e : need (corbelref7_SamePieces.an k) corbelref7_SamePieces.body 1 = [(Code.loop corbelref7_SamePieces.c58, lrun [(0, .sl), (1, .sl), (5, (.int .i64))] (some [(4, .bool)]) [] 0 (fun a h => corbelref7_SamePieces.l0 k k (a.1) (a.2.1) (a.2.2) h))] := by kernel_rfl
      rw [e]; intro q hq
      rcases List.mem_cons.1 hq with rfl | hq
      · exact corbelref7_SamePieces.l0_pass hX k k
      cases hq)
    ((corbelref7_SamePieces.eq k a h).symm.trans e)
/-! ### corbel/corbelref7.SameIntent -/
noncomputable def corbelref7_SameIntent.f (k : Nat) (a0 : (Int × Int × Sl)) (a1 : (Int × Int × Sl)) (h : H) : Option ((Bool) × H) :=
  (asI .i64 (ldc (newR (newR h 72 3 [(Value.int .i64 a0.1), (Value.int .i64 a0.2.1), (Value.slice a0.2.2.a a0.2.2.n a0.2.2.c)]) 72 3 [(Value.int .i64 a1.1), (Value.int .i64 a1.2.1), (Value.slice a1.2.2.a a1.2.2.n a1.2.2.c)]) (some ⟨h.next, 0, none⟩))).bind fun n1 =>
    (asI .i64 (ldc (newR (newR h 72 3 [(Value.int .i64 a0.1), (Value.int .i64 a0.2.1), (Value.slice a0.2.2.a a0.2.2.n a0.2.2.c)]) 72 3 [(Value.int .i64 a1.1), (Value.int .i64 a1.2.1), (Value.slice a1.2.2.a a1.2.2.n a1.2.2.c)]) (some ⟨(newR h 72 3 [(Value.int .i64 a0.1), (Value.int .i64 a0.2.1), (Value.slice a0.2.2.a a0.2.2.n a0.2.2.c)]).next, 0, none⟩))).bind fun n2 =>
    (cond (n1 == n2) ((asI .i64 (ldc (newR (newR h 72 3 [(Value.int .i64 a0.1), (Value.int .i64 a0.2.1), (Value.slice a0.2.2.a a0.2.2.n a0.2.2.c)]) 72 3 [(Value.int .i64 a1.1), (Value.int .i64 a1.2.1), (Value.slice a1.2.2.a a1.2.2.n a1.2.2.c)]) (some ⟨h.next, 1, none⟩))).bind fun n3 =>
    (asI .i64 (ldc (newR (newR h 72 3 [(Value.int .i64 a0.1), (Value.int .i64 a0.2.1), (Value.slice a0.2.2.a a0.2.2.n a0.2.2.c)]) 72 3 [(Value.int .i64 a1.1), (Value.int .i64 a1.2.1), (Value.slice a1.2.2.a a1.2.2.n a1.2.2.c)]) (some ⟨(newR h 72 3 [(Value.int .i64 a0.1), (Value.int .i64 a0.2.1), (Value.slice a0.2.2.a a0.2.2.n a0.2.2.c)]).next, 1, none⟩))).bind fun n4 =>
    some (n3 == n4, (newR (newR h 72 3 [(Value.int .i64 a0.1), (Value.int .i64 a0.2.1), (Value.slice a0.2.2.a a0.2.2.n a0.2.2.c)]) 72 3 [(Value.int .i64 a1.1), (Value.int .i64 a1.2.1), (Value.slice a1.2.2.a a1.2.2.n a1.2.2.c)])))
      (some (false, (newR (newR h 72 3 [(Value.int .i64 a0.1), (Value.int .i64 a0.2.1), (Value.slice a0.2.2.a a0.2.2.n a0.2.2.c)]) 72 3 [(Value.int .i64 a1.1), (Value.int .i64 a1.2.1), (Value.slice a1.2.2.a a1.2.2.n a1.2.2.c)])))).bind fun g5 =>
    (cond g5.1 ((asS (ldc g5.2 (some ⟨h.next, 2, none⟩))).bind fun s6 =>
    (asT (txt g5.2 (Value.slice s6.a s6.n s6.c))).bind fun s7 =>
    (asS (ldc g5.2 (some ⟨(newR h 72 3 [(Value.int .i64 a0.1), (Value.int .i64 a0.2.1), (Value.slice a0.2.2.a a0.2.2.n a0.2.2.c)]).next, 2, none⟩))).bind fun s8 =>
    (asT (txt g5.2 (Value.slice s8.a s8.n s8.c))).bind fun s9 =>
    some (s7.toList == s9.toList, g5.2))
      (some (false, g5.2))).bind fun g10 =>
    some (g10.1, g10.2)
noncomputable def corbelref7_SameIntent.T (k : Nat) : Tbl := tblOf []
noncomputable def corbelref7_SameIntent.an (k : Nat) (p : Nat) : Option Ann := none
noncomputable def corbelref7_SameIntent.body : Code := (Try.f71.body).getD .skip
set_option maxRecDepth 100000 in
theorem corbelref7_SameIntent.TS {C : FuncId → Bool} {X : CallF} (hX : XOk C X) (k : Nat) : TblS Try.prog C X (corbelref7_SameIntent.T k) := by
  refine tblOf_sound ?_
  intro e he
  exact absurd he List.not_mem_nil
set_option maxRecDepth 100000 in
theorem corbelref7_SameIntent.eq (k : Nat) (a : RT [(.st [(.int .i64), (.int .i64), .sl]), (.st [(.int .i64), (.int .i64), .sl])]) (h : H) : (fun a h => corbelref7_SameIntent.f k (a.1) (a.2) h) a h = kfun Try.prog (corbelref7_SameIntent.T k) (corbelref7_SameIntent.an k) (RT [.bool] × H) Try.f71 (encL [(.st [(.int .i64), (.int .i64), .sl]), (.st [(.int .i64), (.int .i64), .sl])] a) h (fun vs h' => (decL [.bool] vs).bind fun x => some (x, h')) := by kernel_rfl
set_option maxRecDepth 100000 in
theorem corbelref7_SameIntent.told {C : FuncId → Bool} {X : CallF} (hX : XOk C X) (k : Nat) : Den.Told Try.prog C X 71 [(.st [(.int .i64), (.int .i64), .sl]), (.st [(.int .i64), (.int .i64), .sl])] [.bool] (fun a h => corbelref7_SameIntent.f k (a.1) (a.2) h) :=
  told_of fun a h q e => fn_of (c := corbelref7_SameIntent.body) (corbelref7_SameIntent.TS hX k) Try.func71 (by kernel_rfl) (hX.no 71 _ h (by decide))
    (by
      have e : need (corbelref7_SameIntent.an k) corbelref7_SameIntent.body 1 = [] := by kernel_rfl
      rw [e]; intro q hq; cases hq)
    ((corbelref7_SameIntent.eq k a h).symm.trans e)
/-! ### corbel/corbelref7.SameIntents -/
noncomputable def corbelref7_SameIntents.l0 (k : Nat) (n : Nat) : Sl → Sl → Int → H → Option (((Bool) ⊕ (Unit)) × H) :=
  Nat.rec (motive := fun _ => Sl → Sl → Int → H → Option (((Bool) ⊕ (Unit)) × H)) (fun _ _ _ _ => none) (fun _ ih x1 x2 x3 h4 => cond (decide (x3 < (Int.ofNat x1.n)))
      ((asP (ixs 3 x1.a x1.n x3)).bind fun p5 =>
    (asSt [(.int .i64), (.int .i64), .sl] (lda 3 h4 p5)).bind fun s6 =>
    (asP (ixs 3 x2.a x2.n x3)).bind fun p7 =>
    (asSt [(.int .i64), (.int .i64), .sl] (lda 3 h4 p7)).bind fun s8 =>
    (corbelref7_SameIntent.f k (s6.1, s6.2.1, s6.2.2) (s8.1, s8.2.1, s8.2.2) h4).bind fun q9 =>
    cond (!q9.1)
      (some (Sum.inl false, q9.2))
      (ih x1 x2 (wrapA .i64 (x3 + (1 : Int))) q9.2))
      (some (Sum.inr (), h4))) n
theorem corbelref7_SameIntents.l0_zero (k : Nat) (x1 : Sl) (x2 : Sl) (x3 : Int) (h4 : H) : corbelref7_SameIntents.l0 k 0 x1 x2 x3 h4 = none := rfl
theorem corbelref7_SameIntents.l0_succ (k n : Nat) (x1 : Sl) (x2 : Sl) (x3 : Int) (h4 : H) : corbelref7_SameIntents.l0 k (n + 1) x1 x2 x3 h4 = (cond (decide (x3 < (Int.ofNat x1.n)))
      ((asP (ixs 3 x1.a x1.n x3)).bind fun p5 =>
    (asSt [(.int .i64), (.int .i64), .sl] (lda 3 h4 p5)).bind fun s6 =>
    (asP (ixs 3 x2.a x2.n x3)).bind fun p7 =>
    (asSt [(.int .i64), (.int .i64), .sl] (lda 3 h4 p7)).bind fun s8 =>
    (corbelref7_SameIntent.f k (s6.1, s6.2.1, s6.2.2) (s8.1, s8.2.1, s8.2.2) h4).bind fun q9 =>
    cond (!q9.1)
      (some (Sum.inl false, q9.2))
      (corbelref7_SameIntents.l0 k n x1 x2 (wrapA .i64 (x3 + (1 : Int))) q9.2))
      (some (Sum.inr (), h4))) := rfl
noncomputable def corbelref7_SameIntents.f (k : Nat) (a0 : Sl) (a1 : Sl) (h : H) : Option ((Bool) × H) :=
  cond ((Int.ofNat a0.n) != (Int.ofNat a1.n))
      (some (false, h))
      ((corbelref7_SameIntents.l0 k k a0 a1 (0 : Int) h).bind fun w10 =>
    match w10.1 with
    | .inl r11 => some (r11, w10.2)
    | .inr o12 => some (true, w10.2))
noncomputable def corbelref7_SameIntents.T (k : Nat) : Tbl := tblOf [⟨71, anyArgs, wr [(.st [(.int .i64), (.int .i64), .sl]), (.st [(.int .i64), (.int .i64), .sl])] [.bool] (fun a h => corbelref7_SameIntent.f k (a.1) (a.2) h)⟩]
noncomputable def corbelref7_SameIntents.an (k : Nat) (p : Nat) : Option Ann := cond (Nat.beq p 58) (some (.pass [] (lrun [(0, .sl), (1, .sl), (5, (.int .i64))] (some [(4, .bool)]) [] 0 (fun a h => corbelref7_SameIntents.l0 k k (a.1) (a.2.1) (a.2.2) h))))
  (none)
noncomputable def corbelref7_SameIntents.body : Code := (Try.f54.body).getD .skip
noncomputable def corbelref7_SameIntents.c58 : Code := cat corbelref7_SameIntents.body [1, 1, 0, 1, 0, 0]
set_option maxRecDepth 100000 in
theorem corbelref7_SameIntents.TS {C : FuncId → Bool} {X : CallF} (hX : XOk C X) (k : Nat) : TblS Try.prog C X (corbelref7_SameIntents.T k) := by
  refine tblOf_sound ?_
  intro e he
  rcases List.mem_cons.1 he with rfl | he
  · exact wr_told (corbelref7_SameIntent.told hX k)
  exact absurd he List.not_mem_nil
set_option maxRecDepth 100000 in
theorem corbelref7_SameIntents.l0_pass {C : FuncId → Bool} {X : CallF} (hX : XOk C X) (k n : Nat) : PassS Try.prog C X 27 (.loop corbelref7_SameIntents.c58) (lrun [(0, .sl), (1, .sl), (5, (.int .i64))] (some [(4, .bool)]) [] 0 (fun a h => corbelref7_SameIntents.l0 k n (a.1) (a.2.1) (a.2.2) h)) :=
  loop_pass (ins := [(0, .sl), (1, .sl), (5, (.int .i64))]) (rets := (some [(4, .bool)])) (outs := []) (id := 0) (tbl := corbelref7_SameIntents.T k) (an := corbelref7_SameIntents.an k) (pb := 116) (corbelref7_SameIntents.TS hX k) (fun n => (fun a h => corbelref7_SameIntents.l0 k n (a.1) (a.2.1) (a.2.2) h)) (fun a h => rfl) (fun n a h => by kernel_rfl)
    (by
      have e : need (corbelref7_SameIntents.an k) corbelref7_SameIntents.c58 116 = [] := by kernel_rfl
      rw [e]; intro q hq; cases hq) n
set_option maxRecDepth 100000 in
theorem corbelref7_SameIntents.eq (k : Nat) (a : RT [.sl, .sl]) (h : H) : (fun a h => corbelref7_SameIntents.f k (a.1) (a.2) h) a h = kfun Try.prog (corbelref7_SameIntents.T k) (corbelref7_SameIntents.an k) (RT [.bool] × H) Try.f54 (encL [.sl, .sl] a) h (fun vs h' => (decL [.bool] vs).bind fun x => some (x, h')) := by kernel_rfl
set_option maxRecDepth 100000 in
theorem corbelref7_SameIntents.told {C : FuncId → Bool} {X : CallF} (hX : XOk C X) (k : Nat) : Den.Told Try.prog C X 54 [.sl, .sl] [.bool] (fun a h => corbelref7_SameIntents.f k (a.1) (a.2) h) :=
  told_of fun a h q e => fn_of (c := corbelref7_SameIntents.body) (corbelref7_SameIntents.TS hX k) Try.func54 (by kernel_rfl) (hX.no 54 _ h (by decide))
    (by
      have e : need (corbelref7_SameIntents.an k) corbelref7_SameIntents.body 1 = [(Code.loop corbelref7_SameIntents.c58, lrun [(0, .sl), (1, .sl), (5, (.int .i64))] (some [(4, .bool)]) [] 0 (fun a h => corbelref7_SameIntents.l0 k k (a.1) (a.2.1) (a.2.2) h))] := by kernel_rfl
      rw [e]; intro q hq
      rcases List.mem_cons.1 hq with rfl | hq
      · exact corbelref7_SameIntents.l0_pass hX k k
      cases hq)
    ((corbelref7_SameIntents.eq k a h).symm.trans e)
/-! ### corbel/corbelref7.SameRep -/
noncomputable def corbelref7_SameRep.f (k : Nat) (a0 : (Int × Int × Sl × Sl)) (a1 : (Int × Int × Sl × Sl)) (h : H) : Option ((Bool) × H) :=
  (asI .i64 (ldc (newR (newR h 67 4 [(Value.int .i64 a0.1), (Value.int .i64 a0.2.1), (Value.slice a0.2.2.1.a a0.2.2.1.n a0.2.2.1.c), (Value.slice a0.2.2.2.a a0.2.2.2.n a0.2.2.2.c)]) 67 4 [(Value.int .i64 a1.1), (Value.int .i64 a1.2.1), (Value.slice a1.2.2.1.a a1.2.2.1.n a1.2.2.1.c), (Value.slice a1.2.2.2.a a1.2.2.2.n a1.2.2.2.c)]) (some ⟨h.next, 0, none⟩))).bind fun n1 =>
    (asI .i64 (ldc (newR (newR h 67 4 [(Value.int .i64 a0.1), (Value.int .i64 a0.2.1), (Value.slice a0.2.2.1.a a0.2.2.1.n a0.2.2.1.c), (Value.slice a0.2.2.2.a a0.2.2.2.n a0.2.2.2.c)]) 67 4 [(Value.int .i64 a1.1), (Value.int .i64 a1.2.1), (Value.slice a1.2.2.1.a a1.2.2.1.n a1.2.2.1.c), (Value.slice a1.2.2.2.a a1.2.2.2.n a1.2.2.2.c)]) (some ⟨(newR h 67 4 [(Value.int .i64 a0.1), (Value.int .i64 a0.2.1), (Value.slice a0.2.2.1.a a0.2.2.1.n a0.2.2.1.c), (Value.slice a0.2.2.2.a a0.2.2.2.n a0.2.2.2.c)]).next, 0, none⟩))).bind fun n2 =>
    (cond (n1 == n2) ((asI .i64 (ldc (newR (newR h 67 4 [(Value.int .i64 a0.1), (Value.int .i64 a0.2.1), (Value.slice a0.2.2.1.a a0.2.2.1.n a0.2.2.1.c), (Value.slice a0.2.2.2.a a0.2.2.2.n a0.2.2.2.c)]) 67 4 [(Value.int .i64 a1.1), (Value.int .i64 a1.2.1), (Value.slice a1.2.2.1.a a1.2.2.1.n a1.2.2.1.c), (Value.slice a1.2.2.2.a a1.2.2.2.n a1.2.2.2.c)]) (some ⟨h.next, 1, none⟩))).bind fun n3 =>
    (asI .i64 (ldc (newR (newR h 67 4 [(Value.int .i64 a0.1), (Value.int .i64 a0.2.1), (Value.slice a0.2.2.1.a a0.2.2.1.n a0.2.2.1.c), (Value.slice a0.2.2.2.a a0.2.2.2.n a0.2.2.2.c)]) 67 4 [(Value.int .i64 a1.1), (Value.int .i64 a1.2.1), (Value.slice a1.2.2.1.a a1.2.2.1.n a1.2.2.1.c), (Value.slice a1.2.2.2.a a1.2.2.2.n a1.2.2.2.c)]) (some ⟨(newR h 67 4 [(Value.int .i64 a0.1), (Value.int .i64 a0.2.1), (Value.slice a0.2.2.1.a a0.2.2.1.n a0.2.2.1.c), (Value.slice a0.2.2.2.a a0.2.2.2.n a0.2.2.2.c)]).next, 1, none⟩))).bind fun n4 =>
    some (n3 == n4, (newR (newR h 67 4 [(Value.int .i64 a0.1), (Value.int .i64 a0.2.1), (Value.slice a0.2.2.1.a a0.2.2.1.n a0.2.2.1.c), (Value.slice a0.2.2.2.a a0.2.2.2.n a0.2.2.2.c)]) 67 4 [(Value.int .i64 a1.1), (Value.int .i64 a1.2.1), (Value.slice a1.2.2.1.a a1.2.2.1.n a1.2.2.1.c), (Value.slice a1.2.2.2.a a1.2.2.2.n a1.2.2.2.c)])))
      (some (false, (newR (newR h 67 4 [(Value.int .i64 a0.1), (Value.int .i64 a0.2.1), (Value.slice a0.2.2.1.a a0.2.2.1.n a0.2.2.1.c), (Value.slice a0.2.2.2.a a0.2.2.2.n a0.2.2.2.c)]) 67 4 [(Value.int .i64 a1.1), (Value.int .i64 a1.2.1), (Value.slice a1.2.2.1.a a1.2.2.1.n a1.2.2.1.c), (Value.slice a1.2.2.2.a a1.2.2.2.n a1.2.2.2.c)])))).bind fun g5 =>
    (cond g5.1 ((asS (ldc g5.2 (some ⟨h.next, 2, none⟩))).bind fun s6 =>
    (asS (ldc g5.2 (some ⟨(newR h 67 4 [(Value.int .i64 a0.1), (Value.int .i64 a0.2.1), (Value.slice a0.2.2.1.a a0.2.2.1.n a0.2.2.1.c), (Value.slice a0.2.2.2.a a0.2.2.2.n a0.2.2.2.c)]).next, 2, none⟩))).bind fun s7 =>
    (corbelref7_SamePieces.f k s6 s7 g5.2).bind fun q8 =>
    some (q8.1, q8.2))
      (some (false, g5.2))).bind fun g9 =>
    (cond g9.1 ((asS (ldc g9.2 (some ⟨h.next, 3, none⟩))).bind fun s10 =>
    (asS (ldc g9.2 (some ⟨(newR h 67 4 [(Value.int .i64 a0.1), (Value.int .i64 a0.2.1), (Value.slice a0.2.2.1.a a0.2.2.1.n a0.2.2.1.c), (Value.slice a0.2.2.2.a a0.2.2.2.n a0.2.2.2.c)]).next, 3, none⟩))).bind fun s11 =>
    (corbelref7_SameIntents.f k s10 s11 g9.2).bind fun q12 =>
    some (q12.1, q12.2))
      (some (false, g9.2))).bind fun g13 =>
    some (g13.1, g13.2)
noncomputable def corbelref7_SameRep.T (k : Nat) : Tbl := tblOf [⟨53, anyArgs, wr [.sl, .sl] [.bool] (fun a h => corbelref7_SamePieces.f k (a.1) (a.2) h)⟩,
  ⟨54, anyArgs, wr [.sl, .sl] [.bool] (fun a h => corbelref7_SameIntents.f k (a.1) (a.2) h)⟩]
noncomputable def corbelref7_SameRep.an (k : Nat) (p : Nat) : Option Ann := none
noncomputable def corbelref7_SameRep.body : Code := (Try.f35.body).getD .skip
set_option maxRecDepth 100000 in
theorem corbelref7_SameRep.TS {C : FuncId → Bool} {X : CallF} (hX : XOk C X) (k : Nat) : TblS Try.prog C X (corbelref7_SameRep.T k) := by
  refine tblOf_sound ?_
  intro e he
  rcases List.mem_cons.1 he with rfl | he
  · exact wr_told (corbelref7_SamePieces.told hX k)
  rcases List.mem_cons.1 he with rfl | he
  · exact wr_told (corbelref7_SameIntents.told hX k)
  exact absurd he List.not_mem_nil
set_option maxRecDepth 100000 in
theorem corbelref7_SameRep.eq (k : Nat) (a : RT [(.st [(.int .i64), (.int .i64), .sl, .sl]), (.st [(.int .i64), (.int .i64), .sl, .sl])]) (h : H) : (fun a h => corbelref7_SameRep.f k (a.1) (a.2) h) a h = kfun Try.prog (corbelref7_SameRep.T k) (corbelref7_SameRep.an k) (RT [.bool] × H) Try.f35 (encL [(.st [(.int .i64), (.int .i64), .sl, .sl]), (.st [(.int .i64), (.int .i64), .sl, .sl])] a) h (fun vs h' => (decL [.bool] vs).bind fun x => some (x, h')) := by kernel_rfl
set_option maxRecDepth 100000 in
theorem corbelref7_SameRep.told {C : FuncId → Bool} {X : CallF} (hX : XOk C X) (k : Nat) : Den.Told Try.prog C X 35 [(.st [(.int .i64), (.int .i64), .sl, .sl]), (.st [(.int .i64), (.int .i64), .sl, .sl])] [.bool] (fun a h => corbelref7_SameRep.f k (a.1) (a.2) h) :=
  told_of fun a h q e => fn_of (c := corbelref7_SameRep.body) (corbelref7_SameRep.TS hX k) Try.func35 (by kernel_rfl) (hX.no 35 _ h (by decide))
    (by
      have e : need (corbelref7_SameRep.an k) corbelref7_SameRep.body 1 = [] := by kernel_rfl
      rw [e]; intro q hq; cases hq)
    ((corbelref7_SameRep.eq k a h).symm.trans e)
/-! ### corbel/corbellaw11.CallSizes -/
noncomputable def corbellaw11_CallSizes.l1 (k : Nat) (n : Nat) : Int → Int → Int → (Option Addr) → Int → H → Option ((Unit) × H) :=
  Nat.rec (motive := fun _ => Int → Int → Int → (Option Addr) → Int → H → Option ((Unit) × H)) (fun _ _ _ _ _ _ => none) (fun _ ih x34 x35 x36 x37 x38 h39 => (corbelhand_Pick.f k x34 (17 : Int) h39).bind fun q40 =>
    cond (decide (x38 < q40.1))
      ((asP (fadd 3 x37)).bind fun p41 =>
    (asS (ldc q40.2 p41)).bind fun s42 =>
    (corbelhand_Intent.f k x38 x38 (wrapA .i64 (x35 + x38)) (0 : Int) q40.2).bind fun q43 =>
    (asS2 (apv 72 3 40 (Value.slice s42.a s42.n s42.c) (Value.slice (some ⟨q43.2.next, 0, none⟩) 1 1) (newR q43.2 72 3 [(Value.int .i64 q43.1.1), (Value.int .i64 q43.1.2.1), (Value.slice q43.1.2.2.a q43.1.2.2.n q43.1.2.2.c)]))).bind fun q44 =>
    (asP (fadd 3 x37)).bind fun p45 =>
    (stv 1 q44.2 p45 [(Value.slice q44.1.a q44.1.n q44.1.c)]).bind fun q46 =>
    cond (same1 q40.2 q43.2 (some (Value.pointer p41)) && (true)) (ih x34 x35 x36 x37 (wrapA .i64 (x38 + (1 : Int))) q46.2) none)
      (some ((), q40.2))) n
theorem corbellaw11_CallSizes.l1_zero (k : Nat) (x34 : Int) (x35 : Int) (x36 : Int) (x37 : Option Addr) (x38 : Int) (h39 : H) : corbellaw11_CallSizes.l1 k 0 x34 x35 x36 x37 x38 h39 = none := rfl
theorem corbellaw11_CallSizes.l1_succ (k n : Nat) (x34 : Int) (x35 : Int) (x36 : Int) (x37 : Option Addr) (x38 : Int) (h39 : H) : corbellaw11_CallSizes.l1 k (n + 1) x34 x35 x36 x37 x38 h39 = ((corbelhand_Pick.f k x34 (17 : Int) h39).bind fun q40 =>
    cond (decide (x38 < q40.1))
      ((asP (fadd 3 x37)).bind fun p41 =>
    (asS (ldc q40.2 p41)).bind fun s42 =>
    (corbelhand_Intent.f k x38 x38 (wrapA .i64 (x35 + x38)) (0 : Int) q40.2).bind fun q43 =>
    (asS2 (apv 72 3 40 (Value.slice s42.a s42.n s42.c) (Value.slice (some ⟨q43.2.next, 0, none⟩) 1 1) (newR q43.2 72 3 [(Value.int .i64 q43.1.1), (Value.int .i64 q43.1.2.1), (Value.slice q43.1.2.2.a q43.1.2.2.n q43.1.2.2.c)]))).bind fun q44 =>
    (asP (fadd 3 x37)).bind fun p45 =>
    (stv 1 q44.2 p45 [(Value.slice q44.1.a q44.1.n q44.1.c)]).bind fun q46 =>
    cond (same1 q40.2 q43.2 (some (Value.pointer p41)) && (true)) (corbellaw11_CallSizes.l1 k n x34 x35 x36 x37 (wrapA .i64 (x38 + (1 : Int))) q46.2) none)
      (some ((), q40.2))) := rfl
noncomputable def corbellaw11_CallSizes.l0 (k : Nat) (n : Nat) : Int → Int → Int → Int → (Option Addr) → Int → H → Option ((Unit) × H) :=
  Nat.rec (motive := fun _ => Int → Int → Int → Int → (Option Addr) → Int → H → Option ((Unit) × H)) (fun _ _ _ _ _ _ _ => none) (fun _ ih x19 x20 x21 x22 x23 x24 h25 => (corbelhand_Pick.f k x19 (3 : Int) h25).bind fun q26 =>
    cond (decide (x24 < q26.1))
      ((asP (fadd 2 x23)).bind fun p27 =>
    (asS (ldc q26.2 p27)).bind fun s28 =>
    (corbelhand_Piece.f k x21 x24 x24 x21 (0 : Int) q26.2).bind fun q29 =>
    (asS2 (apv 69 4 48 (Value.slice s28.a s28.n s28.c) (Value.slice (some ⟨q29.2.next, 0, none⟩) 1 1) (newR q29.2 69 4 [(Value.int .i64 q29.1.1), (Value.int .i64 q29.1.2.1), (Value.int .i64 q29.1.2.2.1), (Value.slice q29.1.2.2.2.a q29.1.2.2.2.n q29.1.2.2.2.c)]))).bind fun q30 =>
    (asP (fadd 2 x23)).bind fun p31 =>
    (stv 1 q30.2 p31 [(Value.slice q30.1.a q30.1.n q30.1.c)]).bind fun q32 =>
    cond (same1 q26.2 q29.2 (some (Value.pointer p27)) && (true)) (ih x19 x20 x21 x22 x23 (wrapA .i64 (x24 + (1 : Int))) q32.2) none)
      (some ((), q26.2))) n
theorem corbellaw11_CallSizes.l0_zero (k : Nat) (x19 : Int) (x20 : Int) (x21 : Int) (x22 : Int) (x23 : Option Addr) (x24 : Int) (h25 : H) : corbellaw11_CallSizes.l0 k 0 x19 x20 x21 x22 x23 x24 h25 = none := rfl
theorem corbellaw11_CallSizes.l0_succ (k n : Nat) (x19 : Int) (x20 : Int) (x21 : Int) (x22 : Int) (x23 : Option Addr) (x24 : Int) (h25 : H) : corbellaw11_CallSizes.l0 k (n + 1) x19 x20 x21 x22 x23 x24 h25 = ((corbelhand_Pick.f k x19 (3 : Int) h25).bind fun q26 =>
    cond (decide (x24 < q26.1))
      ((asP (fadd 2 x23)).bind fun p27 =>
    (asS (ldc q26.2 p27)).bind fun s28 =>
    (corbelhand_Piece.f k x21 x24 x24 x21 (0 : Int) q26.2).bind fun q29 =>
    (asS2 (apv 69 4 48 (Value.slice s28.a s28.n s28.c) (Value.slice (some ⟨q29.2.next, 0, none⟩) 1 1) (newR q29.2 69 4 [(Value.int .i64 q29.1.1), (Value.int .i64 q29.1.2.1), (Value.int .i64 q29.1.2.2.1), (Value.slice q29.1.2.2.2.a q29.1.2.2.2.n q29.1.2.2.2.c)]))).bind fun q30 =>
    (asP (fadd 2 x23)).bind fun p31 =>
    (stv 1 q30.2 p31 [(Value.slice q30.1.a q30.1.n q30.1.c)]).bind fun q32 =>
    cond (same1 q26.2 q29.2 (some (Value.pointer p27)) && (true)) (corbellaw11_CallSizes.l0 k n x19 x20 x21 x22 x23 (wrapA .i64 (x24 + (1 : Int))) q32.2) none)
      (some ((), q26.2))) := rfl
noncomputable def corbellaw11_CallSizes.f (k : Nat) (a0 : (Int × Int × Int × Int × Int × Int)) (a1 : Int) (a2 : Int) (a3 : Int) (a4 : Int) (h : H) : Option ((Bool) × H) :=
  cond (!true)
      (some (false, (newR h 46 6 [(Value.int .i64 a0.1), (Value.int .i64 a0.2.1), (Value.int .i64 a0.2.2.1), (Value.int .i64 a0.2.2.2.1), (Value.int .i64 a0.2.2.2.2.1), (Value.int .i64 a0.2.2.2.2.2)])))
      ((asSt [(.int .i64), (.int .i64), (.int .i64), (.int .i64), (.int .i64), (.int .i64)] (lda 6 (newR h 46 6 [(Value.int .i64 a0.1), (Value.int .i64 a0.2.1), (Value.int .i64 a0.2.2.1), (Value.int .i64 a0.2.2.2.1), (Value.int .i64 a0.2.2.2.2.1), (Value.int .i64 a0.2.2.2.2.2)]) (some ⟨h.next, 0, none⟩))).bind fun s1 =>
    (corbelhand_Req.f k (s1.1, s1.2.1, s1.2.2.1, s1.2.2.2.1, s1.2.2.2.2.1, s1.2.2.2.2.2) (newR h 46 6 [(Value.int .i64 a0.1), (Value.int .i64 a0.2.1), (Value.int .i64 a0.2.2.1), (Value.int .i64 a0.2.2.2.1), (Value.int .i64 a0.2.2.2.2.1), (Value.int .i64 a0.2.2.2.2.2)])).bind fun q2 =>
    (stv 5 (newR q2.2 48 5 [(Value.int .i64 (0 : Int)), (Value.int .i64 (0 : Int)), (Value.int .i64 (0 : Int)), (Value.int .i64 (0 : Int)), (Value.slice none 0 0)]) (some ⟨q2.2.next, 0, none⟩) [(Value.int .i64 q2.1.1), (Value.int .i64 q2.1.2.1), (Value.int .i64 q2.1.2.2.1), (Value.int .i64 q2.1.2.2.2.1), (Value.slice q2.1.2.2.2.2.a q2.1.2.2.2.2.n q2.1.2.2.2.2.c)]).bind fun q3 =>
    (asSt [(.int .i64), (.int .i64), (.int .i64), (.int .i64), .sl] (lda 5 q3.2 (some ⟨q2.2.next, 0, none⟩))).bind fun s4 =>
    (call_LayReq.f k (s4.1, s4.2.1, s4.2.2.1, s4.2.2.2.1, s4.2.2.2.2) q3.2).bind fun q5 =>
    (cond (q5.1.2 == (0 : Int))
      ((asS (subs 1 (Value.slice q5.1.1.a q5.1.1.n q5.1.1.c) none (some (cond (decide ((wrapA .i64 ((Int.ofNat q5.1.1.n) - (1 : Int))) > (0 : Int))) (wrapA .i64 ((Int.ofNat q5.1.1.n) - (1 : Int))) (0 : Int))))).bind fun s6 =>
    (call_ReadReq.f k s6 q5.2).bind fun q7 =>
    (stv 5 (newR q7.2 48 5 [(Value.int .i64 (0 : Int)), (Value.int .i64 (0 : Int)), (Value.int .i64 (0 : Int)), (Value.int .i64 (0 : Int)), (Value.slice none 0 0)]) (some ⟨q7.2.next, 0, none⟩) [(Value.int .i64 q7.1.1.1), (Value.int .i64 q7.1.1.2.1), (Value.int .i64 q7.1.1.2.2.1), (Value.int .i64 q7.1.1.2.2.2.1), (Value.slice q7.1.1.2.2.2.2.a q7.1.1.2.2.2.2.n q7.1.1.2.2.2.2.c)]).bind fun q8 =>
    (asS2 (apv 5 1 1 (Value.slice (some ⟨q8.2.next, 0, none⟩) 0 0) (Value.slice q5.1.1.a q5.1.1.n q5.1.1.c) (newR q8.2 5 1 []))).bind fun q9 =>
    (asS2 (apv 5 1 1 (Value.slice q9.1.a q9.1.n q9.1.c) (Value.slice (some ⟨q9.2.next, 0, none⟩) 1 1) (newR q9.2 5 1 [(Value.int .u8 a4)]))).bind fun q10 =>
    (call_ReadReq.f k q10.1 q10.2).bind fun q11 =>
    (stv 5 (newR q11.2 48 5 [(Value.int .i64 (0 : Int)), (Value.int .i64 (0 : Int)), (Value.int .i64 (0 : Int)), (Value.int .i64 (0 : Int)), (Value.slice none 0 0)]) (some ⟨q11.2.next, 0, none⟩) [(Value.int .i64 q11.1.1.1), (Value.int .i64 q11.1.1.2.1), (Value.int .i64 q11.1.1.2.2.1), (Value.int .i64 q11.1.1.2.2.2.1), (Value.slice q11.1.1.2.2.2.2.a q11.1.1.2.2.2.2.n q11.1.1.2.2.2.2.c)]).bind fun q12 =>
    (asS (ldc q12.2 (some ⟨q2.2.next, 4, none⟩))).bind fun s13 =>
    (cond ((Int.ofNat q5.1.1.n) != (wrapA .i64 ((12 : Int) + (Int.ofNat s13.n)))) (some (true, q12.2))
      (some (q7.1.2 != (2 : Int), q12.2))).bind fun g14 =>
    (cond g14.1 (some (true, g14.2))
      (some (q11.1.2 != (2 : Int), g14.2))).bind fun g15 =>
    cond g15.1
      (some (Sum.inl false, g15.2))
      (some (Sum.inr (), g15.2)))
      (some (Sum.inr (), q5.2)) : Option (((Bool) ⊕ (Unit)) × H)).bind fun j16 =>
    match j16.1 with
    | .inl r17 => some (r17, j16.2)
    | .inr o18 => (corbellaw11_CallSizes.l0 k k a1 a2 a3 a4 (some ⟨j16.2.next, 0, none⟩) (0 : Int) (newR j16.2 67 4 [(Value.int .i64 (0 : Int)), (Value.int .i64 (0 : Int)), (Value.slice none 0 0), (Value.slice none 0 0)])).bind fun w33 =>
    (corbellaw11_CallSizes.l1 k k a2 a3 a4 (some ⟨j16.2.next, 0, none⟩) (0 : Int) w33.2).bind fun w47 =>
    (asSt [(.int .i64), (.int .i64), .sl, .sl] (lda 4 w47.2 (some ⟨j16.2.next, 0, none⟩))).bind fun s48 =>
    (call_LayRep.f k (s48.1, s48.2.1, s48.2.2.1, s48.2.2.2) w47.2).bind fun q49 =>
    (cond (q49.1.2 != (0 : Int)) (some (true, q49.2))
      ((asS (ldc q49.2 (some ⟨j16.2.next, 2, none⟩))).bind fun s50 =>
    (asS (ldc q49.2 (some ⟨j16.2.next, 3, none⟩))).bind fun s51 =>
    some ((Int.ofNat q49.1.1.n) != (wrapA .i64 ((wrapA .i64 ((7 : Int) + (wrapA .i64 ((40 : Int) * (Int.ofNat s50.n))))) + (wrapA .i64 ((135 : Int) * (Int.ofNat s51.n))))), q49.2))).bind fun g52 =>
    cond g52.1
      (some (false, g52.2))
      ((asS (subs 1 (Value.slice q49.1.1.a q49.1.1.n q49.1.1.c) none (some (wrapA .i64 ((Int.ofNat q49.1.1.n) - (1 : Int)))))).bind fun s53 =>
    (call_ReadRep.f k s53 g52.2).bind fun q54 =>
    (stv 4 (newR q54.2 67 4 [(Value.int .i64 (0 : Int)), (Value.int .i64 (0 : Int)), (Value.slice none 0 0), (Value.slice none 0 0)]) (some ⟨q54.2.next, 0, none⟩) [(Value.int .i64 q54.1.1.1), (Value.int .i64 q54.1.1.2.1), (Value.slice q54.1.1.2.2.1.a q54.1.1.2.2.1.n q54.1.1.2.2.1.c), (Value.slice q54.1.1.2.2.2.a q54.1.1.2.2.2.n q54.1.1.2.2.2.c)]).bind fun q55 =>
    (asS2 (apv 5 1 1 (Value.slice (some ⟨q55.2.next, 0, none⟩) 0 0) (Value.slice q49.1.1.a q49.1.1.n q49.1.1.c) (newR q55.2 5 1 []))).bind fun q56 =>
    (asS2 (apv 5 1 1 (Value.slice q56.1.a q56.1.n q56.1.c) (Value.slice (some ⟨q56.2.next, 0, none⟩) 1 1) (newR q56.2 5 1 [(Value.int .u8 a4)]))).bind fun q57 =>
    (call_ReadRep.f k q57.1 q57.2).bind fun q58 =>
    (stv 4 (newR q58.2 67 4 [(Value.int .i64 (0 : Int)), (Value.int .i64 (0 : Int)), (Value.slice none 0 0), (Value.slice none 0 0)]) (some ⟨q58.2.next, 0, none⟩) [(Value.int .i64 q58.1.1.1), (Value.int .i64 q58.1.1.2.1), (Value.slice q58.1.1.2.2.1.a q58.1.1.2.2.1.n q58.1.1.2.2.1.c), (Value.slice q58.1.1.2.2.2.a q58.1.1.2.2.2.n q58.1.1.2.2.2.c)]).bind fun q59 =>
    (call_ReadRep.f k q49.1.1 q59.2).bind fun q60 =>
    (stv 4 (newR q60.2 67 4 [(Value.int .i64 (0 : Int)), (Value.int .i64 (0 : Int)), (Value.slice none 0 0), (Value.slice none 0 0)]) (some ⟨q60.2.next, 0, none⟩) [(Value.int .i64 q60.1.1.1), (Value.int .i64 q60.1.1.2.1), (Value.slice q60.1.1.2.2.1.a q60.1.1.2.2.1.n q60.1.1.2.2.1.c), (Value.slice q60.1.1.2.2.2.a q60.1.1.2.2.2.n q60.1.1.2.2.2.c)]).bind fun q61 =>
    (cond (q54.1.2 == (2 : Int)) (some (q58.1.2 == (2 : Int), q61.2))
      (some (false, q61.2))).bind fun g62 =>
    (cond g62.1 (some (q60.1.2 == (0 : Int), g62.2))
      (some (false, g62.2))).bind fun g63 =>
    (cond g63.1 ((asSt [(.int .i64), (.int .i64), .sl, .sl] (lda 4 g63.2 (some ⟨j16.2.next, 0, none⟩))).bind fun s64 =>
    (asSt [(.int .i64), (.int .i64), .sl, .sl] (lda 4 g63.2 (some ⟨q60.2.next, 0, none⟩))).bind fun s65 =>
    (corbelref7_SameRep.f k (s64.1, s64.2.1, s64.2.2.1, s64.2.2.2) (s65.1, s65.2.1, s65.2.2.1, s65.2.2.2) g63.2).bind fun q66 =>
    some (q66.1, q66.2))
      (some (false, g63.2))).bind fun g67 =>
    some (g67.1, g67.2)))
noncomputable def corbellaw11_CallSizes.T (k : Nat) : Tbl := tblOf [⟨27, anyArgs, knownW⟩,
  ⟨20, anyArgs, wr [(.st [(.int .i64), (.int .i64), (.int .i64), (.int .i64), (.int .i64), (.int .i64)])] [(.st [(.int .i64), (.int .i64), (.int .i64), (.int .i64), .sl])] (fun a h => corbelhand_Req.f k a h)⟩,
  ⟨22, anyArgs, wr [(.st [(.int .i64), (.int .i64), (.int .i64), (.int .i64), .sl])] [.sl, (.int .i64)] (fun a h => call_LayReq.f k a h)⟩,
  ⟨25, anyArgs, wr [.sl] [(.st [(.int .i64), (.int .i64), (.int .i64), (.int .i64), .sl]), (.int .i64)] (fun a h => call_ReadReq.f k a h)⟩,
  ⟨14, anyArgs, wr [(.int .i64), (.int .i64)] [(.int .i64)] (fun a h => corbelhand_Pick.f k (a.1) (a.2) h)⟩,
  ⟨31, anyArgs, wr [(.int .i64), (.int .i64), (.int .i64), (.int .i64), (.int .i64)] [(.st [(.int .i64), (.int .i64), (.int .i64), .sl])] (fun a h => corbelhand_Piece.f k (a.1) (a.2.1) (a.2.2.1) (a.2.2.2.1) (a.2.2.2.2) h)⟩,
  ⟨32, anyArgs, wr [(.int .i64), (.int .i64), (.int .i64), (.int .i64)] [(.st [(.int .i64), (.int .i64), .sl])] (fun a h => corbelhand_Intent.f k (a.1) (a.2.1) (a.2.2.1) (a.2.2.2) h)⟩,
  ⟨33, anyArgs, wr [(.st [(.int .i64), (.int .i64), .sl, .sl])] [.sl, (.int .i64)] (fun a h => call_LayRep.f k a h)⟩,
  ⟨34, anyArgs, wr [.sl] [(.st [(.int .i64), (.int .i64), .sl, .sl]), (.int .i64)] (fun a h => call_ReadRep.f k a h)⟩,
  ⟨35, anyArgs, wr [(.st [(.int .i64), (.int .i64), .sl, .sl]), (.st [(.int .i64), (.int .i64), .sl, .sl])] [.bool] (fun a h => corbelref7_SameRep.f k (a.1) (a.2) h)⟩]
noncomputable def corbellaw11_CallSizes.an (k : Nat) (p : Nat) : Option Ann := cond (Nat.beq p 2042) (some (.pass [4, 18] (lrun [(2, (.int .i64)), (3, (.int .i64)), (4, (.int .u8)), (18, .ptr), (20, (.int .i64))] none [] 2 (fun a h => corbellaw11_CallSizes.l1 k k (a.1) (a.2.1) (a.2.2.1) (a.2.2.2.1) (a.2.2.2.2) h))))
  (cond (Nat.beq p 1018) (some (.pass [2, 3, 4, 18] (lrun [(1, (.int .i64)), (2, (.int .i64)), (3, (.int .i64)), (4, (.int .u8)), (18, .ptr), (19, (.int .i64))] none [] 0 (fun a h => corbellaw11_CallSizes.l0 k k (a.1) (a.2.1) (a.2.2.1) (a.2.2.2.1) (a.2.2.2.2.1) (a.2.2.2.2.2) h))))
  (cond (Nat.beq p 125) (some (.join [1, 2, 3, 4] (some [(10, .bool)]) []))
  (none)))
noncomputable def corbellaw11_CallSizes.body : Code := (Try.f9.body).getD .skip
noncomputable def corbellaw11_CallSizes.c1018 : Code := cat corbellaw11_CallSizes.body [1, 1, 1, 1, 1, 1, 0, 1, 0, 0]
noncomputable def corbellaw11_CallSizes.c2042 : Code := cat corbellaw11_CallSizes.body [1, 1, 1, 1, 1, 1, 1, 0, 1, 0, 0]
set_option maxRecDepth 100000 in
theorem corbellaw11_CallSizes.TS {C : FuncId → Bool} {X : CallF} (hX : XOk C X) (hK27 : KOk X 27) (k : Nat) : TblS Try.prog C X (corbellaw11_CallSizes.T k) := by
  refine tblOf_sound ?_
  intro e he
  rcases List.mem_cons.1 he with rfl | he
  · exact knownW_told hK27
  rcases List.mem_cons.1 he with rfl | he
  · exact wr_told (corbelhand_Req.told hX k)
  rcases List.mem_cons.1 he with rfl | he
  · exact wr_told (call_LayReq.told hX k)
  rcases List.mem_cons.1 he with rfl | he
  · exact wr_told (call_ReadReq.told hX k)
  rcases List.mem_cons.1 he with rfl | he
  · exact wr_told (corbelhand_Pick.told hX k)
  rcases List.mem_cons.1 he with rfl | he
  · exact wr_told (corbelhand_Piece.told hX k)
  rcases List.mem_cons.1 he with rfl | he
  · exact wr_told (corbelhand_Intent.told hX k)
  rcases List.mem_cons.1 he with rfl | he
  · exact wr_told (call_LayRep.told hX k)
  rcases List.mem_cons.1 he with rfl | he
  · exact wr_told (call_ReadRep.told hX k)
  rcases List.mem_cons.1 he with rfl | he
  · exact wr_told (corbelref7_SameRep.told hX k)
  exact absurd he List.not_mem_nil
set_option maxRecDepth 100000 in
theorem corbellaw11_CallSizes.l1_pass {C : FuncId → Bool} {X : CallF} (hX : XOk C X) (hK27 : KOk X 27) (k n : Nat) : PassS Try.prog C X 169 (.loop corbellaw11_CallSizes.c2042) (lrun [(2, (.int .i64)), (3, (.int .i64)), (4, (.int .u8)), (18, .ptr), (20, (.int .i64))] none [] 2 (fun a h => corbellaw11_CallSizes.l1 k n (a.1) (a.2.1) (a.2.2.1) (a.2.2.2.1) (a.2.2.2.2) h)) :=
  loop_pass (ins := [(2, (.int .i64)), (3, (.int .i64)), (4, (.int .u8)), (18, .ptr), (20, (.int .i64))]) (rets := none) (outs := []) (id := 2) (tbl := corbellaw11_CallSizes.T k) (an := corbellaw11_CallSizes.an k) (pb := 4084) (corbellaw11_CallSizes.TS hX hK27 k) (fun n => (fun a h => corbellaw11_CallSizes.l1 k n (a.1) (a.2.1) (a.2.2.1) (a.2.2.2.1) (a.2.2.2.2) h)) (fun a h => rfl) (fun n a h => by kernel_rfl)
    (by
      have e : need (corbellaw11_CallSizes.an k) corbellaw11_CallSizes.c2042 4084 = [] := by kernel_rfl
      rw [e]; intro q hq; cases hq) n
set_option maxRecDepth 100000 in
theorem corbellaw11_CallSizes.l0_pass {C : FuncId → Bool} {X : CallF} (hX : XOk C X) (hK27 : KOk X 27) (k n : Nat) : PassS Try.prog C X 169 (.loop corbellaw11_CallSizes.c1018) (lrun [(1, (.int .i64)), (2, (.int .i64)), (3, (.int .i64)), (4, (.int .u8)), (18, .ptr), (19, (.int .i64))] none [] 0 (fun a h => corbellaw11_CallSizes.l0 k n (a.1) (a.2.1) (a.2.2.1) (a.2.2.2.1) (a.2.2.2.2.1) (a.2.2.2.2.2) h)) :=
  loop_pass (ins := [(1, (.int .i64)), (2, (.int .i64)), (3, (.int .i64)), (4, (.int .u8)), (18, .ptr), (19, (.int .i64))]) (rets := none) (outs := []) (id := 0) (tbl := corbellaw11_CallSizes.T k) (an := corbellaw11_CallSizes.an k) (pb := 2036) (corbellaw11_CallSizes.TS hX hK27 k) (fun n => (fun a h => corbellaw11_CallSizes.l0 k n (a.1) (a.2.1) (a.2.2.1) (a.2.2.2.1) (a.2.2.2.2.1) (a.2.2.2.2.2) h)) (fun a h => rfl) (fun n a h => by kernel_rfl)
    (by
      have e : need (corbellaw11_CallSizes.an k) corbellaw11_CallSizes.c1018 2036 = [] := by kernel_rfl
      rw [e]; intro q hq; cases hq) n
set_option maxRecDepth 100000 in
theorem corbellaw11_CallSizes.eq (k : Nat) (a : RT [(.st [(.int .i64), (.int .i64), (.int .i64), (.int .i64), (.int .i64), (.int .i64)]), (.int .i64), (.int .i64), (.int .i64), (.int .u8)]) (h : H) : (fun a h => corbellaw11_CallSizes.f k (a.1) (a.2.1) (a.2.2.1) (a.2.2.2.1) (a.2.2.2.2) h) a h = kfun Try.prog (corbellaw11_CallSizes.T k) (corbellaw11_CallSizes.an k) (RT [.bool] × H) Try.f9 (encL [(.st [(.int .i64), (.int .i64), (.int .i64), (.int .i64), (.int .i64), (.int .i64)]), (.int .i64), (.int .i64), (.int .i64), (.int .u8)] a) h (fun vs h' => (decL [.bool] vs).bind fun x => some (x, h')) := by kernel_rfl
set_option maxRecDepth 100000 in
theorem corbellaw11_CallSizes.told {C : FuncId → Bool} {X : CallF} (hX : XOk C X) (hK27 : KOk X 27) (k : Nat) : Den.Told Try.prog C X 9 [(.st [(.int .i64), (.int .i64), (.int .i64), (.int .i64), (.int .i64), (.int .i64)]), (.int .i64), (.int .i64), (.int .i64), (.int .u8)] [.bool] (fun a h => corbellaw11_CallSizes.f k (a.1) (a.2.1) (a.2.2.1) (a.2.2.2.1) (a.2.2.2.2) h) :=
  told_of fun a h q e => fn_of (c := corbellaw11_CallSizes.body) (corbellaw11_CallSizes.TS hX hK27 k) Try.func9 (by kernel_rfl) (hX.no 9 _ h (by decide))
    (by
      have e : need (corbellaw11_CallSizes.an k) corbellaw11_CallSizes.body 1 = [(Code.loop corbellaw11_CallSizes.c1018, lrun [(1, (.int .i64)), (2, (.int .i64)), (3, (.int .i64)), (4, (.int .u8)), (18, .ptr), (19, (.int .i64))] none [] 0 (fun a h => corbellaw11_CallSizes.l0 k k (a.1) (a.2.1) (a.2.2.1) (a.2.2.2.1) (a.2.2.2.2.1) (a.2.2.2.2.2) h)), (Code.loop corbellaw11_CallSizes.c2042, lrun [(2, (.int .i64)), (3, (.int .i64)), (4, (.int .u8)), (18, .ptr), (20, (.int .i64))] none [] 2 (fun a h => corbellaw11_CallSizes.l1 k k (a.1) (a.2.1) (a.2.2.1) (a.2.2.2.1) (a.2.2.2.2) h))] := by kernel_rfl
      rw [e]; intro q hq
      rcases List.mem_cons.1 hq with rfl | hq
      · exact corbellaw11_CallSizes.l0_pass hX hK27 k k
      rcases List.mem_cons.1 hq with rfl | hq
      · exact corbellaw11_CallSizes.l1_pass hX hK27 k k
      cases hq)
    ((corbellaw11_CallSizes.eq k a h).symm.trans e)
/-! ### corbel/corbelref7.RightPiece -/
noncomputable def corbelref7_RightPiece.f (k : Nat) (a0 : (Int × Int × Int × Sl)) (h : H) : Option ((Bool) × H) :=
  (asI .i64 (ldc (newR h 69 4 [(Value.int .i64 a0.1), (Value.int .i64 a0.2.1), (Value.int .i64 a0.2.2.1), (Value.slice a0.2.2.2.a a0.2.2.2.n a0.2.2.2.c)]) (some ⟨h.next, 0, none⟩))).bind fun n1 =>
    (cond (decide (n1 ≥ (0 : Int))) ((asI .i64 (ldc (newR h 69 4 [(Value.int .i64 a0.1), (Value.int .i64 a0.2.1), (Value.int .i64 a0.2.2.1), (Value.slice a0.2.2.2.a a0.2.2.2.n a0.2.2.2.c)]) (some ⟨h.next, 0, none⟩))).bind fun n2 =>
    some (decide (n2 < (40 : Int)), (newR h 69 4 [(Value.int .i64 a0.1), (Value.int .i64 a0.2.1), (Value.int .i64 a0.2.2.1), (Value.slice a0.2.2.2.a a0.2.2.2.n a0.2.2.2.c)])))
      (some (false, (newR h 69 4 [(Value.int .i64 a0.1), (Value.int .i64 a0.2.1), (Value.int .i64 a0.2.2.1), (Value.slice a0.2.2.2.a a0.2.2.2.n a0.2.2.2.c)])))).bind fun g3 =>
    (cond g3.1 ((asI .i64 (ldc g3.2 (some ⟨h.next, 1, none⟩))).bind fun n4 =>
    some (decide (n4 ≥ (1 : Int)), g3.2))
      (some (false, g3.2))).bind fun g5 =>
    (cond g5.1 ((asI .i64 (ldc g5.2 (some ⟨h.next, 1, none⟩))).bind fun n6 =>
    some (decide (n6 ≤ (1099511627776 : Int)), g5.2))
      (some (false, g5.2))).bind fun g7 =>
    (cond g7.1 ((asI .i64 (ldc g7.2 (some ⟨h.next, 2, none⟩))).bind fun n8 =>
    some (decide (n8 ≥ (0 : Int)), g7.2))
      (some (false, g7.2))).bind fun g9 =>
    (cond g9.1 ((asI .i64 (ldc g9.2 (some ⟨h.next, 2, none⟩))).bind fun n10 =>
    some (decide (n10 < (6 : Int)), g9.2))
      (some (false, g9.2))).bind fun g11 =>
    (cond g11.1 ((asS (ldc g11.2 (some ⟨h.next, 3, none⟩))).bind fun s12 =>
    some ((Int.ofNat s12.n) == (32 : Int), g11.2))
      (some (false, g11.2))).bind fun g13 =>
    some (g13.1, g13.2)
noncomputable def corbelref7_RightPiece.T (k : Nat) : Tbl := tblOf []
noncomputable def corbelref7_RightPiece.an (k : Nat) (p : Nat) : Option Ann := none
noncomputable def corbelref7_RightPiece.body : Code := (Try.f59.body).getD .skip
set_option maxRecDepth 100000 in
theorem corbelref7_RightPiece.TS {C : FuncId → Bool} {X : CallF} (hX : XOk C X) (k : Nat) : TblS Try.prog C X (corbelref7_RightPiece.T k) := by
  refine tblOf_sound ?_
  intro e he
  exact absurd he List.not_mem_nil
set_option maxRecDepth 100000 in
theorem corbelref7_RightPiece.eq (k : Nat) (a : RT [(.st [(.int .i64), (.int .i64), (.int .i64), .sl])]) (h : H) : (fun a h => corbelref7_RightPiece.f k a h) a h = kfun Try.prog (corbelref7_RightPiece.T k) (corbelref7_RightPiece.an k) (RT [.bool] × H) Try.f59 (encL [(.st [(.int .i64), (.int .i64), (.int .i64), .sl])] a) h (fun vs h' => (decL [.bool] vs).bind fun x => some (x, h')) := by kernel_rfl
set_option maxRecDepth 100000 in
theorem corbelref7_RightPiece.told {C : FuncId → Bool} {X : CallF} (hX : XOk C X) (k : Nat) : Den.Told Try.prog C X 59 [(.st [(.int .i64), (.int .i64), (.int .i64), .sl])] [.bool] (fun a h => corbelref7_RightPiece.f k a h) :=
  told_of fun a h q e => fn_of (c := corbelref7_RightPiece.body) (corbelref7_RightPiece.TS hX k) Try.func59 (by kernel_rfl) (hX.no 59 _ h (by decide))
    (by
      have e : need (corbelref7_RightPiece.an k) corbelref7_RightPiece.body 1 = [] := by kernel_rfl
      rw [e]; intro q hq; cases hq)
    ((corbelref7_RightPiece.eq k a h).symm.trans e)
/-! ### corbel/corbelref7.RightIntent -/
noncomputable def corbelref7_RightIntent.f (k : Nat) (a0 : (Int × Int × Sl)) (h : H) : Option ((Bool) × H) :=
  (asI .i64 (ldc (newR h 72 3 [(Value.int .i64 a0.1), (Value.int .i64 a0.2.1), (Value.slice a0.2.2.a a0.2.2.n a0.2.2.c)]) (some ⟨h.next, 0, none⟩))).bind fun n1 =>
    (cond (decide (n1 ≥ (0 : Int))) ((asI .i64 (ldc (newR h 72 3 [(Value.int .i64 a0.1), (Value.int .i64 a0.2.1), (Value.slice a0.2.2.a a0.2.2.n a0.2.2.c)]) (some ⟨h.next, 0, none⟩))).bind fun n2 =>
    some (decide (n2 < (40 : Int)), (newR h 72 3 [(Value.int .i64 a0.1), (Value.int .i64 a0.2.1), (Value.slice a0.2.2.a a0.2.2.n a0.2.2.c)])))
      (some (false, (newR h 72 3 [(Value.int .i64 a0.1), (Value.int .i64 a0.2.1), (Value.slice a0.2.2.a a0.2.2.n a0.2.2.c)])))).bind fun g3 =>
    (cond g3.1 ((asI .i64 (ldc g3.2 (some ⟨h.next, 1, none⟩))).bind fun n4 =>
    some (decide (n4 ≥ (1 : Int)), g3.2))
      (some (false, g3.2))).bind fun g5 =>
    (cond g5.1 ((asI .i64 (ldc g5.2 (some ⟨h.next, 1, none⟩))).bind fun n6 =>
    some (decide (n6 ≤ (1099511627776 : Int)), g5.2))
      (some (false, g5.2))).bind fun g7 =>
    (cond g7.1 ((asS (ldc g7.2 (some ⟨h.next, 2, none⟩))).bind fun s8 =>
    some ((Int.ofNat s8.n) == (128 : Int), g7.2))
      (some (false, g7.2))).bind fun g9 =>
    some (g9.1, g9.2)
noncomputable def corbelref7_RightIntent.T (k : Nat) : Tbl := tblOf []
noncomputable def corbelref7_RightIntent.an (k : Nat) (p : Nat) : Option Ann := none
noncomputable def corbelref7_RightIntent.body : Code := (Try.f60.body).getD .skip
set_option maxRecDepth 100000 in
theorem corbelref7_RightIntent.TS {C : FuncId → Bool} {X : CallF} (hX : XOk C X) (k : Nat) : TblS Try.prog C X (corbelref7_RightIntent.T k) := by
  refine tblOf_sound ?_
  intro e he
  exact absurd he List.not_mem_nil
set_option maxRecDepth 100000 in
theorem corbelref7_RightIntent.eq (k : Nat) (a : RT [(.st [(.int .i64), (.int .i64), .sl])]) (h : H) : (fun a h => corbelref7_RightIntent.f k a h) a h = kfun Try.prog (corbelref7_RightIntent.T k) (corbelref7_RightIntent.an k) (RT [.bool] × H) Try.f60 (encL [(.st [(.int .i64), (.int .i64), .sl])] a) h (fun vs h' => (decL [.bool] vs).bind fun x => some (x, h')) := by kernel_rfl
set_option maxRecDepth 100000 in
theorem corbelref7_RightIntent.told {C : FuncId → Bool} {X : CallF} (hX : XOk C X) (k : Nat) : Den.Told Try.prog C X 60 [(.st [(.int .i64), (.int .i64), .sl])] [.bool] (fun a h => corbelref7_RightIntent.f k a h) :=
  told_of fun a h q e => fn_of (c := corbelref7_RightIntent.body) (corbelref7_RightIntent.TS hX k) Try.func60 (by kernel_rfl) (hX.no 60 _ h (by decide))
    (by
      have e : need (corbelref7_RightIntent.an k) corbelref7_RightIntent.body 1 = [] := by kernel_rfl
      rw [e]; intro q hq; cases hq)
    ((corbelref7_RightIntent.eq k a h).symm.trans e)
/-! ### corbel/corbelref7.RightRep -/
noncomputable def corbelref7_RightRep.l1 (k : Nat) (n : Nat) : (Option Addr) → Int → H → Option (((Bool) ⊕ (Unit)) × H) :=
  Nat.rec (motive := fun _ => (Option Addr) → Int → H → Option (((Bool) ⊕ (Unit)) × H)) (fun _ _ _ => none) (fun _ ih x14 x15 h16 => (asP (fadd 3 x14)).bind fun p17 =>
    (asS (ldc h16 p17)).bind fun s18 =>
    cond (decide (x15 < (Int.ofNat s18.n)))
      ((asP (fadd 3 x14)).bind fun p19 =>
    (asS (ldc h16 p19)).bind fun s20 =>
    (asP (ixs 3 s20.a s20.n x15)).bind fun p21 =>
    (asSt [(.int .i64), (.int .i64), .sl] (lda 3 h16 p21)).bind fun s22 =>
    (corbelref7_RightIntent.f k (s22.1, s22.2.1, s22.2.2) h16).bind fun q23 =>
    cond (!q23.1)
      (some (Sum.inl false, q23.2))
      (ih x14 (wrapA .i64 (x15 + (1 : Int))) q23.2))
      (some (Sum.inr (), h16))) n
theorem corbelref7_RightRep.l1_zero (k : Nat) (x14 : Option Addr) (x15 : Int) (h16 : H) : corbelref7_RightRep.l1 k 0 x14 x15 h16 = none := rfl
theorem corbelref7_RightRep.l1_succ (k n : Nat) (x14 : Option Addr) (x15 : Int) (h16 : H) : corbelref7_RightRep.l1 k (n + 1) x14 x15 h16 = ((asP (fadd 3 x14)).bind fun p17 =>
    (asS (ldc h16 p17)).bind fun s18 =>
    cond (decide (x15 < (Int.ofNat s18.n)))
      ((asP (fadd 3 x14)).bind fun p19 =>
    (asS (ldc h16 p19)).bind fun s20 =>
    (asP (ixs 3 s20.a s20.n x15)).bind fun p21 =>
    (asSt [(.int .i64), (.int .i64), .sl] (lda 3 h16 p21)).bind fun s22 =>
    (corbelref7_RightIntent.f k (s22.1, s22.2.1, s22.2.2) h16).bind fun q23 =>
    cond (!q23.1)
      (some (Sum.inl false, q23.2))
      (corbelref7_RightRep.l1 k n x14 (wrapA .i64 (x15 + (1 : Int))) q23.2))
      (some (Sum.inr (), h16))) := rfl
noncomputable def corbelref7_RightRep.l0 (k : Nat) (n : Nat) : (Option Addr) → Int → H → Option (((Bool) ⊕ (Unit)) × H) :=
  Nat.rec (motive := fun _ => (Option Addr) → Int → H → Option (((Bool) ⊕ (Unit)) × H)) (fun _ _ _ => none) (fun _ ih x1 x2 h3 => (asP (fadd 2 x1)).bind fun p4 =>
    (asS (ldc h3 p4)).bind fun s5 =>
    cond (decide (x2 < (Int.ofNat s5.n)))
      ((asP (fadd 2 x1)).bind fun p6 =>
    (asS (ldc h3 p6)).bind fun s7 =>
    (asP (ixs 4 s7.a s7.n x2)).bind fun p8 =>
    (asSt [(.int .i64), (.int .i64), (.int .i64), .sl] (lda 4 h3 p8)).bind fun s9 =>
    (corbelref7_RightPiece.f k (s9.1, s9.2.1, s9.2.2.1, s9.2.2.2) h3).bind fun q10 =>
    cond (!q10.1)
      (some (Sum.inl false, q10.2))
      (ih x1 (wrapA .i64 (x2 + (1 : Int))) q10.2))
      (some (Sum.inr (), h3))) n
theorem corbelref7_RightRep.l0_zero (k : Nat) (x1 : Option Addr) (x2 : Int) (h3 : H) : corbelref7_RightRep.l0 k 0 x1 x2 h3 = none := rfl
theorem corbelref7_RightRep.l0_succ (k n : Nat) (x1 : Option Addr) (x2 : Int) (h3 : H) : corbelref7_RightRep.l0 k (n + 1) x1 x2 h3 = ((asP (fadd 2 x1)).bind fun p4 =>
    (asS (ldc h3 p4)).bind fun s5 =>
    cond (decide (x2 < (Int.ofNat s5.n)))
      ((asP (fadd 2 x1)).bind fun p6 =>
    (asS (ldc h3 p6)).bind fun s7 =>
    (asP (ixs 4 s7.a s7.n x2)).bind fun p8 =>
    (asSt [(.int .i64), (.int .i64), (.int .i64), .sl] (lda 4 h3 p8)).bind fun s9 =>
    (corbelref7_RightPiece.f k (s9.1, s9.2.1, s9.2.2.1, s9.2.2.2) h3).bind fun q10 =>
    cond (!q10.1)
      (some (Sum.inl false, q10.2))
      (corbelref7_RightRep.l0 k n x1 (wrapA .i64 (x2 + (1 : Int))) q10.2))
      (some (Sum.inr (), h3))) := rfl
noncomputable def corbelref7_RightRep.f (k : Nat) (a0 : (Int × Int × Sl × Sl)) (h : H) : Option ((Bool) × H) :=
  (corbelref7_RightRep.l0 k k (some ⟨h.next, 0, none⟩) (0 : Int) (newR h 67 4 [(Value.int .i64 a0.1), (Value.int .i64 a0.2.1), (Value.slice a0.2.2.1.a a0.2.2.1.n a0.2.2.1.c), (Value.slice a0.2.2.2.a a0.2.2.2.n a0.2.2.2.c)])).bind fun w11 =>
    match w11.1 with
    | .inl r12 => some (r12, w11.2)
    | .inr o13 => (corbelref7_RightRep.l1 k k (some ⟨h.next, 0, none⟩) (0 : Int) w11.2).bind fun w24 =>
    match w24.1 with
    | .inl r25 => some (r25, w24.2)
    | .inr o26 => (asI .i64 (ldc w24.2 (some ⟨h.next, 0, none⟩))).bind fun n27 =>
    (cond (decide (n27 ≥ (0 : Int))) ((asI .i64 (ldc w24.2 (some ⟨h.next, 0, none⟩))).bind fun n28 =>
    some (decide (n28 ≤ (255 : Int)), w24.2))
      (some (false, w24.2))).bind fun g29 =>
    (cond g29.1 ((asI .i64 (ldc g29.2 (some ⟨h.next, 1, none⟩))).bind fun n30 =>
    some (decide (n30 ≥ (0 : Int)), g29.2))
      (some (false, g29.2))).bind fun g31 =>
    (cond g31.1 ((asI .i64 (ldc g31.2 (some ⟨h.next, 1, none⟩))).bind fun n32 =>
    some (decide (n32 ≤ (2147483647 : Int)), g31.2))
      (some (false, g31.2))).bind fun g33 =>
    (cond g33.1 ((asS (ldc g33.2 (some ⟨h.next, 2, none⟩))).bind fun s34 =>
    some (decide ((Int.ofNat s34.n) ≤ (2 : Int)), g33.2))
      (some (false, g33.2))).bind fun g35 =>
    (cond g35.1 ((asS (ldc g35.2 (some ⟨h.next, 3, none⟩))).bind fun s36 =>
    some (decide ((Int.ofNat s36.n) ≤ (16 : Int)), g35.2))
      (some (false, g35.2))).bind fun g37 =>
    some (g37.1, g37.2)
noncomputable def corbelref7_RightRep.T (k : Nat) : Tbl := tblOf [⟨59, anyArgs, wr [(.st [(.int .i64), (.int .i64), (.int .i64), .sl])] [.bool] (fun a h => corbelref7_RightPiece.f k a h)⟩,
  ⟨60, anyArgs, wr [(.st [(.int .i64), (.int .i64), .sl])] [.bool] (fun a h => corbelref7_RightIntent.f k a h)⟩]
noncomputable def corbelref7_RightRep.an (k : Nat) (p : Nat) : Option Ann := cond (Nat.beq p 58) (some (.pass [1] (lrun [(1, .ptr), (4, (.int .i64))] (some [(2, .bool)]) [] 2 (fun a h => corbelref7_RightRep.l1 k k (a.1) (a.2) h))))
  (cond (Nat.beq p 26) (some (.pass [1] (lrun [(1, .ptr), (3, (.int .i64))] (some [(2, .bool)]) [] 0 (fun a h => corbelref7_RightRep.l0 k k (a.1) (a.2) h))))
  (none))
noncomputable def corbelref7_RightRep.body : Code := (Try.f37.body).getD .skip
noncomputable def corbelref7_RightRep.c26 : Code := cat corbelref7_RightRep.body [1, 0, 1, 0, 0]
noncomputable def corbelref7_RightRep.c58 : Code := cat corbelref7_RightRep.body [1, 1, 0, 1, 0, 0]
set_option maxRecDepth 100000 in
theorem corbelref7_RightRep.TS {C : FuncId → Bool} {X : CallF} (hX : XOk C X) (k : Nat) : TblS Try.prog C X (corbelref7_RightRep.T k) := by
  refine tblOf_sound ?_
  intro e he
  rcases List.mem_cons.1 he with rfl | he
  · exact wr_told (corbelref7_RightPiece.told hX k)
  rcases List.mem_cons.1 he with rfl | he
  · exact wr_told (corbelref7_RightIntent.told hX k)
  exact absurd he List.not_mem_nil
set_option maxRecDepth 100000 in
theorem corbelref7_RightRep.l1_pass {C : FuncId → Bool} {X : CallF} (hX : XOk C X) (k n : Nat) : PassS Try.prog C X 63 (.loop corbelref7_RightRep.c58) (lrun [(1, .ptr), (4, (.int .i64))] (some [(2, .bool)]) [] 2 (fun a h => corbelref7_RightRep.l1 k n (a.1) (a.2) h)) :=
  loop_pass (ins := [(1, .ptr), (4, (.int .i64))]) (rets := (some [(2, .bool)])) (outs := []) (id := 2) (tbl := corbelref7_RightRep.T k) (an := corbelref7_RightRep.an k) (pb := 116) (corbelref7_RightRep.TS hX k) (fun n => (fun a h => corbelref7_RightRep.l1 k n (a.1) (a.2) h)) (fun a h => rfl) (fun n a h => by kernel_rfl)
    (by
      have e : need (corbelref7_RightRep.an k) corbelref7_RightRep.c58 116 = [] := by kernel_rfl
      rw [e]; intro q hq; cases hq) n
set_option maxRecDepth 100000 in
theorem corbelref7_RightRep.l0_pass {C : FuncId → Bool} {X : CallF} (hX : XOk C X) (k n : Nat) : PassS Try.prog C X 63 (.loop corbelref7_RightRep.c26) (lrun [(1, .ptr), (3, (.int .i64))] (some [(2, .bool)]) [] 0 (fun a h => corbelref7_RightRep.l0 k n (a.1) (a.2) h)) :=
  loop_pass (ins := [(1, .ptr), (3, (.int .i64))]) (rets := (some [(2, .bool)])) (outs := []) (id := 0) (tbl := corbelref7_RightRep.T k) (an := corbelref7_RightRep.an k) (pb := 52) (corbelref7_RightRep.TS hX k) (fun n => (fun a h => corbelref7_RightRep.l0 k n (a.1) (a.2) h)) (fun a h => rfl) (fun n a h => by kernel_rfl)
    (by
      have e : need (corbelref7_RightRep.an k) corbelref7_RightRep.c26 52 = [] := by kernel_rfl
      rw [e]; intro q hq; cases hq) n
set_option maxRecDepth 100000 in
theorem corbelref7_RightRep.eq (k : Nat) (a : RT [(.st [(.int .i64), (.int .i64), .sl, .sl])]) (h : H) : (fun a h => corbelref7_RightRep.f k a h) a h = kfun Try.prog (corbelref7_RightRep.T k) (corbelref7_RightRep.an k) (RT [.bool] × H) Try.f37 (encL [(.st [(.int .i64), (.int .i64), .sl, .sl])] a) h (fun vs h' => (decL [.bool] vs).bind fun x => some (x, h')) := by kernel_rfl
set_option maxRecDepth 100000 in
theorem corbelref7_RightRep.told {C : FuncId → Bool} {X : CallF} (hX : XOk C X) (k : Nat) : Den.Told Try.prog C X 37 [(.st [(.int .i64), (.int .i64), .sl, .sl])] [.bool] (fun a h => corbelref7_RightRep.f k a h) :=
  told_of fun a h q e => fn_of (c := corbelref7_RightRep.body) (corbelref7_RightRep.TS hX k) Try.func37 (by kernel_rfl) (hX.no 37 _ h (by decide))
    (by
      have e : need (corbelref7_RightRep.an k) corbelref7_RightRep.body 1 = [(Code.loop corbelref7_RightRep.c26, lrun [(1, .ptr), (3, (.int .i64))] (some [(2, .bool)]) [] 0 (fun a h => corbelref7_RightRep.l0 k k (a.1) (a.2) h)), (Code.loop corbelref7_RightRep.c58, lrun [(1, .ptr), (4, (.int .i64))] (some [(2, .bool)]) [] 2 (fun a h => corbelref7_RightRep.l1 k k (a.1) (a.2) h))] := by kernel_rfl
      rw [e]; intro q hq
      rcases List.mem_cons.1 hq with rfl | hq
      · exact corbelref7_RightRep.l0_pass hX k k
      rcases List.mem_cons.1 hq with rfl | hq
      · exact corbelref7_RightRep.l1_pass hX k k
      cases hq)
    ((corbelref7_RightRep.eq k a h).symm.trans e)
/-! ### corbel/corbelref7.pieceBytes -/
noncomputable def corbelref7_pieceBytes.f (k : Nat) (a0 : (Int × Int × Int × Sl)) (h : H) : Option ((Sl) × H) :=
  (asI .i64 (ldc (newR h 69 4 [(Value.int .i64 a0.1), (Value.int .i64 a0.2.1), (Value.int .i64 a0.2.2.1), (Value.slice a0.2.2.2.a a0.2.2.2.n a0.2.2.2.c)]) (some ⟨h.next, 0, none⟩))).bind fun n1 =>
    (corbelref7_Big.f k n1 (1 : Int) (newR h 69 4 [(Value.int .i64 a0.1), (Value.int .i64 a0.2.1), (Value.int .i64 a0.2.2.1), (Value.slice a0.2.2.2.a a0.2.2.2.n a0.2.2.2.c)])).bind fun q2 =>
    (asI .i64 (ldc q2.2 (some ⟨h.next, 1, none⟩))).bind fun n3 =>
    (corbelref7_Big.f k n3 (6 : Int) q2.2).bind fun q4 =>
    (asS2 (apv 5 1 1 (Value.slice q2.1.a q2.1.n q2.1.c) (Value.slice q4.1.a q4.1.n q4.1.c) q4.2)).bind fun q5 =>
    cond (same1 (newR h 69 4 [(Value.int .i64 a0.1), (Value.int .i64 a0.2.1), (Value.int .i64 a0.2.2.1), (Value.slice a0.2.2.2.a a0.2.2.2.n a0.2.2.2.c)]) q2.2 (some (Value.pointer (some ⟨h.next, 1, none⟩))) && (true)) ((asI .i64 (ldc q5.2 (some ⟨h.next, 2, none⟩))).bind fun n6 =>
    (asS2 (apv 5 1 1 (Value.slice q5.1.a q5.1.n q5.1.c) (Value.slice (some ⟨q5.2.next, 0, none⟩) 1 1) (newR q5.2 5 1 [(Value.int .u8 (wrapA .u8 n6))]))).bind fun q7 =>
    (asS (ldc q7.2 (some ⟨h.next, 3, none⟩))).bind fun s8 =>
    (asS2 (apv 5 1 1 (Value.slice q7.1.a q7.1.n q7.1.c) (Value.slice s8.a s8.n s8.c) q7.2)).bind fun q9 =>
    some (q9.1, q9.2)) none
noncomputable def corbelref7_pieceBytes.T (k : Nat) : Tbl := tblOf [⟨46, anyArgs, wr [(.int .i64), (.int .i64)] [.sl] (fun a h => corbelref7_Big.f k (a.1) (a.2) h)⟩]
noncomputable def corbelref7_pieceBytes.an (k : Nat) (p : Nat) : Option Ann := none
noncomputable def corbelref7_pieceBytes.body : Code := (Try.f61.body).getD .skip
set_option maxRecDepth 100000 in
theorem corbelref7_pieceBytes.TS {C : FuncId → Bool} {X : CallF} (hX : XOk C X) (k : Nat) : TblS Try.prog C X (corbelref7_pieceBytes.T k) := by
  refine tblOf_sound ?_
  intro e he
  rcases List.mem_cons.1 he with rfl | he
  · exact wr_told (corbelref7_Big.told hX k)
  exact absurd he List.not_mem_nil
set_option maxRecDepth 100000 in
theorem corbelref7_pieceBytes.eq (k : Nat) (a : RT [(.st [(.int .i64), (.int .i64), (.int .i64), .sl])]) (h : H) : (fun a h => corbelref7_pieceBytes.f k a h) a h = kfun Try.prog (corbelref7_pieceBytes.T k) (corbelref7_pieceBytes.an k) (RT [.sl] × H) Try.f61 (encL [(.st [(.int .i64), (.int .i64), (.int .i64), .sl])] a) h (fun vs h' => (decL [.sl] vs).bind fun x => some (x, h')) := by kernel_rfl
set_option maxRecDepth 100000 in
theorem corbelref7_pieceBytes.told {C : FuncId → Bool} {X : CallF} (hX : XOk C X) (k : Nat) : Den.Told Try.prog C X 61 [(.st [(.int .i64), (.int .i64), (.int .i64), .sl])] [.sl] (fun a h => corbelref7_pieceBytes.f k a h) :=
  told_of fun a h q e => fn_of (c := corbelref7_pieceBytes.body) (corbelref7_pieceBytes.TS hX k) Try.func61 (by kernel_rfl) (hX.no 61 _ h (by decide))
    (by
      have e : need (corbelref7_pieceBytes.an k) corbelref7_pieceBytes.body 1 = [] := by kernel_rfl
      rw [e]; intro q hq; cases hq)
    ((corbelref7_pieceBytes.eq k a h).symm.trans e)
/-! ### corbel/corbelref7.LayRep -/
noncomputable def corbelref7_LayRep.l1 (k : Nat) (n : Nat) : (Option Addr) → Sl → Int → H → Option ((Sl) × H) :=
  Nat.rec (motive := fun _ => (Option Addr) → Sl → Int → H → Option ((Sl) × H)) (fun _ _ _ _ => none) (fun _ ih x23 x24 x25 h26 => (asP (fadd 3 x23)).bind fun p27 =>
    (asS (ldc h26 p27)).bind fun s28 =>
    cond (decide (x25 < (Int.ofNat s28.n)))
      ((asP (fadd 3 x23)).bind fun p29 =>
    (asS (ldc h26 p29)).bind fun s30 =>
    (asP (ixs 3 s30.a s30.n x25)).bind fun p31 =>
    (asP (fadd 0 p31)).bind fun p32 =>
    (asI .i64 (ldc h26 p32)).bind fun n33 =>
    (corbelref7_Big.f k n33 (1 : Int) h26).bind fun q34 =>
    (asS2 (apv 5 1 1 (Value.slice x24.a x24.n x24.c) (Value.slice q34.1.a q34.1.n q34.1.c) q34.2)).bind fun q35 =>
    (asP (fadd 3 x23)).bind fun p36 =>
    (asS (ldc q35.2 p36)).bind fun s37 =>
    (asP (ixs 3 s37.a s37.n x25)).bind fun p38 =>
    (asP (fadd 1 p38)).bind fun p39 =>
    (asI .i64 (ldc q35.2 p39)).bind fun n40 =>
    (corbelref7_Big.f k n40 (6 : Int) q35.2).bind fun q41 =>
    (asS2 (apv 5 1 1 (Value.slice q35.1.a q35.1.n q35.1.c) (Value.slice q41.1.a q41.1.n q41.1.c) q41.2)).bind fun q42 =>
    (asP (fadd 3 x23)).bind fun p43 =>
    (asS (ldc q42.2 p43)).bind fun s44 =>
    (asP (ixs 3 s44.a s44.n x25)).bind fun p45 =>
    (asP (fadd 2 p45)).bind fun p46 =>
    (asS (ldc q42.2 p46)).bind fun s47 =>
    (asS2 (apv 5 1 1 (Value.slice q42.1.a q42.1.n q42.1.c) (Value.slice s47.a s47.n s47.c) q42.2)).bind fun q48 =>
    ih x23 q48.1 (wrapA .i64 (x25 + (1 : Int))) q48.2)
      (some (x24, h26))) n
theorem corbelref7_LayRep.l1_zero (k : Nat) (x23 : Option Addr) (x24 : Sl) (x25 : Int) (h26 : H) : corbelref7_LayRep.l1 k 0 x23 x24 x25 h26 = none := rfl
theorem corbelref7_LayRep.l1_succ (k n : Nat) (x23 : Option Addr) (x24 : Sl) (x25 : Int) (h26 : H) : corbelref7_LayRep.l1 k (n + 1) x23 x24 x25 h26 = ((asP (fadd 3 x23)).bind fun p27 =>
    (asS (ldc h26 p27)).bind fun s28 =>
    cond (decide (x25 < (Int.ofNat s28.n)))
      ((asP (fadd 3 x23)).bind fun p29 =>
    (asS (ldc h26 p29)).bind fun s30 =>
    (asP (ixs 3 s30.a s30.n x25)).bind fun p31 =>
    (asP (fadd 0 p31)).bind fun p32 =>
    (asI .i64 (ldc h26 p32)).bind fun n33 =>
    (corbelref7_Big.f k n33 (1 : Int) h26).bind fun q34 =>
    (asS2 (apv 5 1 1 (Value.slice x24.a x24.n x24.c) (Value.slice q34.1.a q34.1.n q34.1.c) q34.2)).bind fun q35 =>
    (asP (fadd 3 x23)).bind fun p36 =>
    (asS (ldc q35.2 p36)).bind fun s37 =>
    (asP (ixs 3 s37.a s37.n x25)).bind fun p38 =>
    (asP (fadd 1 p38)).bind fun p39 =>
    (asI .i64 (ldc q35.2 p39)).bind fun n40 =>
    (corbelref7_Big.f k n40 (6 : Int) q35.2).bind fun q41 =>
    (asS2 (apv 5 1 1 (Value.slice q35.1.a q35.1.n q35.1.c) (Value.slice q41.1.a q41.1.n q41.1.c) q41.2)).bind fun q42 =>
    (asP (fadd 3 x23)).bind fun p43 =>
    (asS (ldc q42.2 p43)).bind fun s44 =>
    (asP (ixs 3 s44.a s44.n x25)).bind fun p45 =>
    (asP (fadd 2 p45)).bind fun p46 =>
    (asS (ldc q42.2 p46)).bind fun s47 =>
    (asS2 (apv 5 1 1 (Value.slice q42.1.a q42.1.n q42.1.c) (Value.slice s47.a s47.n s47.c) q42.2)).bind fun q48 =>
    corbelref7_LayRep.l1 k n x23 q48.1 (wrapA .i64 (x25 + (1 : Int))) q48.2)
      (some (x24, h26))) := rfl
noncomputable def corbelref7_LayRep.l0 (k : Nat) (n : Nat) : (Option Addr) → Sl → Int → H → Option ((Sl) × H) :=
  Nat.rec (motive := fun _ => (Option Addr) → Sl → Int → H → Option ((Sl) × H)) (fun _ _ _ _ => none) (fun _ ih x8 x9 x10 h11 => (asP (fadd 2 x8)).bind fun p12 =>
    (asS (ldc h11 p12)).bind fun s13 =>
    cond (decide (x10 < (Int.ofNat s13.n)))
      ((asP (fadd 2 x8)).bind fun p14 =>
    (asS (ldc h11 p14)).bind fun s15 =>
    (asP (ixs 4 s15.a s15.n x10)).bind fun p16 =>
    (asSt [(.int .i64), (.int .i64), (.int .i64), .sl] (lda 4 h11 p16)).bind fun s17 =>
    (corbelref7_pieceBytes.f k (s17.1, s17.2.1, s17.2.2.1, s17.2.2.2) h11).bind fun q18 =>
    (asS2 (apv 5 1 1 (Value.slice x9.a x9.n x9.c) (Value.slice q18.1.a q18.1.n q18.1.c) q18.2)).bind fun q19 =>
    ih x8 q19.1 (wrapA .i64 (x10 + (1 : Int))) q19.2)
      (some (x9, h11))) n
theorem corbelref7_LayRep.l0_zero (k : Nat) (x8 : Option Addr) (x9 : Sl) (x10 : Int) (h11 : H) : corbelref7_LayRep.l0 k 0 x8 x9 x10 h11 = none := rfl
theorem corbelref7_LayRep.l0_succ (k n : Nat) (x8 : Option Addr) (x9 : Sl) (x10 : Int) (h11 : H) : corbelref7_LayRep.l0 k (n + 1) x8 x9 x10 h11 = ((asP (fadd 2 x8)).bind fun p12 =>
    (asS (ldc h11 p12)).bind fun s13 =>
    cond (decide (x10 < (Int.ofNat s13.n)))
      ((asP (fadd 2 x8)).bind fun p14 =>
    (asS (ldc h11 p14)).bind fun s15 =>
    (asP (ixs 4 s15.a s15.n x10)).bind fun p16 =>
    (asSt [(.int .i64), (.int .i64), (.int .i64), .sl] (lda 4 h11 p16)).bind fun s17 =>
    (corbelref7_pieceBytes.f k (s17.1, s17.2.1, s17.2.2.1, s17.2.2.2) h11).bind fun q18 =>
    (asS2 (apv 5 1 1 (Value.slice x9.a x9.n x9.c) (Value.slice q18.1.a q18.1.n q18.1.c) q18.2)).bind fun q19 =>
    corbelref7_LayRep.l0 k n x8 q19.1 (wrapA .i64 (x10 + (1 : Int))) q19.2)
      (some (x9, h11))) := rfl
noncomputable def corbelref7_LayRep.f (k : Nat) (a0 : (Int × Int × Sl × Sl)) (h : H) : Option ((Sl) × H) :=
  (asI .i64 (ldc (newR h 67 4 [(Value.int .i64 a0.1), (Value.int .i64 a0.2.1), (Value.slice a0.2.2.1.a a0.2.2.1.n a0.2.2.1.c), (Value.slice a0.2.2.2.a a0.2.2.2.n a0.2.2.2.c)]) (some ⟨h.next, 0, none⟩))).bind fun n1 =>
    (corbelref7_Big.f k n1 (1 : Int) (newR h 67 4 [(Value.int .i64 a0.1), (Value.int .i64 a0.2.1), (Value.slice a0.2.2.1.a a0.2.2.1.n a0.2.2.1.c), (Value.slice a0.2.2.2.a a0.2.2.2.n a0.2.2.2.c)])).bind fun q2 =>
    (asI .i64 (ldc q2.2 (some ⟨h.next, 1, none⟩))).bind fun n3 =>
    (corbelref7_Big.f k n3 (4 : Int) q2.2).bind fun q4 =>
    (asS2 (apv 5 1 1 (Value.slice q2.1.a q2.1.n q2.1.c) (Value.slice q4.1.a q4.1.n q4.1.c) q4.2)).bind fun q5 =>
    cond (same1 (newR h 67 4 [(Value.int .i64 a0.1), (Value.int .i64 a0.2.1), (Value.slice a0.2.2.1.a a0.2.2.1.n a0.2.2.1.c), (Value.slice a0.2.2.2.a a0.2.2.2.n a0.2.2.2.c)]) q2.2 (some (Value.pointer (some ⟨h.next, 1, none⟩))) && (true)) ((asS (ldc q5.2 (some ⟨h.next, 2, none⟩))).bind fun s6 =>
    (asS2 (apv 5 1 1 (Value.slice q5.1.a q5.1.n q5.1.c) (Value.slice (some ⟨q5.2.next, 0, none⟩) 1 1) (newR q5.2 5 1 [(Value.int .u8 (wrapA .u8 (Int.ofNat s6.n)))]))).bind fun q7 =>
    (corbelref7_LayRep.l0 k k (some ⟨h.next, 0, none⟩) q7.1 (0 : Int) q7.2).bind fun w20 =>
    (asS (ldc w20.2 (some ⟨h.next, 3, none⟩))).bind fun s21 =>
    (asS2 (apv 5 1 1 (Value.slice w20.1.a w20.1.n w20.1.c) (Value.slice (some ⟨w20.2.next, 0, none⟩) 1 1) (newR w20.2 5 1 [(Value.int .u8 (wrapA .u8 (Int.ofNat s21.n)))]))).bind fun q22 =>
    (corbelref7_LayRep.l1 k k (some ⟨h.next, 0, none⟩) q22.1 (0 : Int) q22.2).bind fun w49 =>
    some (w49.1, w49.2)) none
noncomputable def corbelref7_LayRep.T (k : Nat) : Tbl := tblOf [⟨46, anyArgs, wr [(.int .i64), (.int .i64)] [.sl] (fun a h => corbelref7_Big.f k (a.1) (a.2) h)⟩,
  ⟨61, anyArgs, wr [(.st [(.int .i64), (.int .i64), (.int .i64), .sl])] [.sl] (fun a h => corbelref7_pieceBytes.f k a h)⟩]
noncomputable def corbelref7_LayRep.an (k : Nat) (p : Nat) : Option Ann := cond (Nat.beq p 506) (some (.pass [] (lrun [(1, .ptr), (3, .sl), (5, (.int .i64))] none [(3, .sl)] 2 (fun a h => corbelref7_LayRep.l1 k k (a.1) (a.2.1) (a.2.2) h))))
  (cond (Nat.beq p 122) (some (.pass [1] (lrun [(1, .ptr), (3, .sl), (4, (.int .i64))] none [(3, .sl)] 0 (fun a h => corbelref7_LayRep.l0 k k (a.1) (a.2.1) (a.2.2) h))))
  (none))
noncomputable def corbelref7_LayRep.body : Code := (Try.f38.body).getD .skip
noncomputable def corbelref7_LayRep.c122 : Code := cat corbelref7_LayRep.body [1, 1, 1, 0, 1, 0, 0]
noncomputable def corbelref7_LayRep.c506 : Code := cat corbelref7_LayRep.body [1, 1, 1, 1, 1, 0, 1, 0, 0]
set_option maxRecDepth 100000 in
theorem corbelref7_LayRep.TS {C : FuncId → Bool} {X : CallF} (hX : XOk C X) (k : Nat) : TblS Try.prog C X (corbelref7_LayRep.T k) := by
  refine tblOf_sound ?_
  intro e he
  rcases List.mem_cons.1 he with rfl | he
  · exact wr_told (corbelref7_Big.told hX k)
  rcases List.mem_cons.1 he with rfl | he
  · exact wr_told (corbelref7_pieceBytes.told hX k)
  exact absurd he List.not_mem_nil
set_option maxRecDepth 100000 in
theorem corbelref7_LayRep.l1_pass {C : FuncId → Bool} {X : CallF} (hX : XOk C X) (k n : Nat) : PassS Try.prog C X 76 (.loop corbelref7_LayRep.c506) (lrun [(1, .ptr), (3, .sl), (5, (.int .i64))] none [(3, .sl)] 2 (fun a h => corbelref7_LayRep.l1 k n (a.1) (a.2.1) (a.2.2) h)) :=
  loop_pass (ins := [(1, .ptr), (3, .sl), (5, (.int .i64))]) (rets := none) (outs := [(3, .sl)]) (id := 2) (tbl := corbelref7_LayRep.T k) (an := corbelref7_LayRep.an k) (pb := 1012) (corbelref7_LayRep.TS hX k) (fun n => (fun a h => corbelref7_LayRep.l1 k n (a.1) (a.2.1) (a.2.2) h)) (fun a h => rfl) (fun n a h => by kernel_rfl)
    (by
      have e : need (corbelref7_LayRep.an k) corbelref7_LayRep.c506 1012 = [] := by kernel_rfl
      rw [e]; intro q hq; cases hq) n
set_option maxRecDepth 100000 in
theorem corbelref7_LayRep.l0_pass {C : FuncId → Bool} {X : CallF} (hX : XOk C X) (k n : Nat) : PassS Try.prog C X 76 (.loop corbelref7_LayRep.c122) (lrun [(1, .ptr), (3, .sl), (4, (.int .i64))] none [(3, .sl)] 0 (fun a h => corbelref7_LayRep.l0 k n (a.1) (a.2.1) (a.2.2) h)) :=
  loop_pass (ins := [(1, .ptr), (3, .sl), (4, (.int .i64))]) (rets := none) (outs := [(3, .sl)]) (id := 0) (tbl := corbelref7_LayRep.T k) (an := corbelref7_LayRep.an k) (pb := 244) (corbelref7_LayRep.TS hX k) (fun n => (fun a h => corbelref7_LayRep.l0 k n (a.1) (a.2.1) (a.2.2) h)) (fun a h => rfl) (fun n a h => by kernel_rfl)
    (by
      have e : need (corbelref7_LayRep.an k) corbelref7_LayRep.c122 244 = [] := by kernel_rfl
      rw [e]; intro q hq; cases hq) n
set_option maxRecDepth 100000 in
theorem corbelref7_LayRep.eq (k : Nat) (a : RT [(.st [(.int .i64), (.int .i64), .sl, .sl])]) (h : H) : (fun a h => corbelref7_LayRep.f k a h) a h = kfun Try.prog (corbelref7_LayRep.T k) (corbelref7_LayRep.an k) (RT [.sl] × H) Try.f38 (encL [(.st [(.int .i64), (.int .i64), .sl, .sl])] a) h (fun vs h' => (decL [.sl] vs).bind fun x => some (x, h')) := by kernel_rfl
set_option maxRecDepth 100000 in
theorem corbelref7_LayRep.told {C : FuncId → Bool} {X : CallF} (hX : XOk C X) (k : Nat) : Den.Told Try.prog C X 38 [(.st [(.int .i64), (.int .i64), .sl, .sl])] [.sl] (fun a h => corbelref7_LayRep.f k a h) :=
  told_of fun a h q e => fn_of (c := corbelref7_LayRep.body) (corbelref7_LayRep.TS hX k) Try.func38 (by kernel_rfl) (hX.no 38 _ h (by decide))
    (by
      have e : need (corbelref7_LayRep.an k) corbelref7_LayRep.body 1 = [(Code.loop corbelref7_LayRep.c122, lrun [(1, .ptr), (3, .sl), (4, (.int .i64))] none [(3, .sl)] 0 (fun a h => corbelref7_LayRep.l0 k k (a.1) (a.2.1) (a.2.2) h)), (Code.loop corbelref7_LayRep.c506, lrun [(1, .ptr), (3, .sl), (5, (.int .i64))] none [(3, .sl)] 2 (fun a h => corbelref7_LayRep.l1 k k (a.1) (a.2.1) (a.2.2) h))] := by kernel_rfl
      rw [e]; intro q hq
      rcases List.mem_cons.1 hq with rfl | hq
      · exact corbelref7_LayRep.l0_pass hX k k
      rcases List.mem_cons.1 hq with rfl | hq
      · exact corbelref7_LayRep.l1_pass hX k k
      cases hq)
    ((corbelref7_LayRep.eq k a h).symm.trans e)
/-! ### corbel/corbelref7.piece -/
noncomputable def corbelref7_piece.f (k : Nat) (a0 : Sl) (h : H) : Option (((Int × Int × Int × Sl)) × H) :=
  (asP (ixs 1 a0.a a0.n (0 : Int))).bind fun p1 =>
    (asI .u8 (ldc (newR h 69 4 [(Value.int .i64 (0 : Int)), (Value.int .i64 (0 : Int)), (Value.int .i64 (0 : Int)), (Value.slice none 0 0)]) p1)).bind fun n2 =>
    (asS (subs 1 (Value.slice a0.a a0.n a0.c) (some (1 : Int)) (some (7 : Int)))).bind fun s3 =>
    (corbelref7_From.f k s3 (newR h 69 4 [(Value.int .i64 (0 : Int)), (Value.int .i64 (0 : Int)), (Value.int .i64 (0 : Int)), (Value.slice none 0 0)])).bind fun q4 =>
    (asP (ixs 1 a0.a a0.n (7 : Int))).bind fun p5 =>
    (asI .u8 (ldc q4.2 p5)).bind fun n6 =>
    (asS (subs 1 (Value.slice a0.a a0.n a0.c) (some (8 : Int)) none)).bind fun s7 =>
    (asS2 (apv 5 1 1 (Value.slice (some ⟨q4.2.next, 0, none⟩) 0 0) (Value.slice s7.a s7.n s7.c) (newR q4.2 5 1 []))).bind fun q8 =>
    (stv 4 q8.2 (some ⟨h.next, 0, none⟩) [(Value.int .i64 (wrapA .i64 n2)), (Value.int .i64 q4.1), (Value.int .i64 (wrapA .i64 n6)), (Value.slice q8.1.a q8.1.n q8.1.c)]).bind fun q9 =>
    cond (same1 (newR h 69 4 [(Value.int .i64 (0 : Int)), (Value.int .i64 (0 : Int)), (Value.int .i64 (0 : Int)), (Value.slice none 0 0)]) q4.2 (some (Value.pointer p1)) && (same1 (newR q4.2 5 1 []) q8.2 (some (Value.pointer p1)) && (same1 (newR h 69 4 [(Value.int .i64 (0 : Int)), (Value.int .i64 (0 : Int)), (Value.int .i64 (0 : Int)), (Value.slice none 0 0)]) q4.2 (some (Value.pointer p5)) && (same1 (newR q4.2 5 1 []) q8.2 (some (Value.pointer p5)) && (true))))) ((asSt [(.int .i64), (.int .i64), (.int .i64), .sl] (lda 4 q9.2 (some ⟨h.next, 0, none⟩))).bind fun s10 =>
    some ((s10.1, s10.2.1, s10.2.2.1, s10.2.2.2), q9.2)) none
noncomputable def corbelref7_piece.T (k : Nat) : Tbl := tblOf [⟨50, anyArgs, wr [.sl] [(.int .i64)] (fun a h => corbelref7_From.f k a h)⟩]
noncomputable def corbelref7_piece.an (k : Nat) (p : Nat) : Option Ann := none
noncomputable def corbelref7_piece.body : Code := (Try.f62.body).getD .skip
set_option maxRecDepth 100000 in
theorem corbelref7_piece.TS {C : FuncId → Bool} {X : CallF} (hX : XOk C X) (k : Nat) : TblS Try.prog C X (corbelref7_piece.T k) := by
  refine tblOf_sound ?_
  intro e he
  rcases List.mem_cons.1 he with rfl | he
  · exact wr_told (corbelref7_From.told hX k)
  exact absurd he List.not_mem_nil
set_option maxRecDepth 100000 in
theorem corbelref7_piece.eq (k : Nat) (a : RT [.sl]) (h : H) : (fun a h => corbelref7_piece.f k a h) a h = kfun Try.prog (corbelref7_piece.T k) (corbelref7_piece.an k) (RT [(.st [(.int .i64), (.int .i64), (.int .i64), .sl])] × H) Try.f62 (encL [.sl] a) h (fun vs h' => (decL [(.st [(.int .i64), (.int .i64), (.int .i64), .sl])] vs).bind fun x => some (x, h')) := by kernel_rfl
set_option maxRecDepth 100000 in
theorem corbelref7_piece.told {C : FuncId → Bool} {X : CallF} (hX : XOk C X) (k : Nat) : Den.Told Try.prog C X 62 [.sl] [(.st [(.int .i64), (.int .i64), (.int .i64), .sl])] (fun a h => corbelref7_piece.f k a h) :=
  told_of fun a h q e => fn_of (c := corbelref7_piece.body) (corbelref7_piece.TS hX k) Try.func62 (by kernel_rfl) (hX.no 62 _ h (by decide))
    (by
      have e : need (corbelref7_piece.an k) corbelref7_piece.body 1 = [] := by kernel_rfl
      rw [e]; intro q hq; cases hq)
    ((corbelref7_piece.eq k a h).symm.trans e)
/-! ### corbel/corbelref7.ReadRep -/
noncomputable def corbelref7_ReadRep.l1 (k : Nat) (n : Nat) : (Option Addr) → Sl → (Option Addr) → Sl → Int → H → Option (((Bool) ⊕ (Unit)) × H) :=
  Nat.rec (motive := fun _ => (Option Addr) → Sl → (Option Addr) → Sl → Int → H → Option (((Bool) ⊕ (Unit)) × H)) (fun _ _ _ _ _ _ => none) (fun _ ih x35 x36 x37 x38 x39 h40 => cond (decide (x39 > (0 : Int)))
      (cond (decide ((Int.ofNat x38.n) < (135 : Int)))
      ((stv 4 h40 x35 [(Value.int .i64 (0 : Int)), (Value.int .i64 (0 : Int)), (Value.slice none 0 0), (Value.slice none 0 0)]).bind fun q41 =>
    some (Sum.inl false, q41.2))
      ((asP (fadd 3 x37)).bind fun p42 =>
    (asS (ldc h40 p42)).bind fun s43 =>
    (asP (ixs 1 x38.a x38.n (0 : Int))).bind fun p44 =>
    (asI .u8 (ldc h40 p44)).bind fun n45 =>
    (asS (subs 1 (Value.slice x38.a x38.n x38.c) (some (1 : Int)) (some (7 : Int)))).bind fun s46 =>
    (corbelref7_From.f k s46 h40).bind fun q47 =>
    (asS (subs 1 (Value.slice x38.a x38.n x38.c) (some (7 : Int)) (some (135 : Int)))).bind fun s48 =>
    (asS2 (apv 5 1 1 (Value.slice (some ⟨q47.2.next, 0, none⟩) 0 0) (Value.slice s48.a s48.n s48.c) (newR q47.2 5 1 []))).bind fun q49 =>
    (asS2 (apv 72 3 40 (Value.slice s43.a s43.n s43.c) (Value.slice (some ⟨q49.2.next, 0, none⟩) 1 1) (newR q49.2 72 3 [(Value.int .i64 (wrapA .i64 n45)), (Value.int .i64 q47.1), (Value.slice q49.1.a q49.1.n q49.1.c)]))).bind fun q50 =>
    (asP (fadd 3 x37)).bind fun p51 =>
    (stv 1 q50.2 p51 [(Value.slice q50.1.a q50.1.n q50.1.c)]).bind fun q52 =>
    cond (same1 h40 q47.2 (some (Value.pointer p42)) && (same1 (newR q47.2 5 1 []) q49.2 (some (Value.pointer p42)) && (same1 h40 q47.2 (some (Value.pointer p44)) && (same1 (newR q47.2 5 1 []) q49.2 (some (Value.pointer p44)) && (true))))) ((asS (subs 1 (Value.slice x38.a x38.n x38.c) (some (135 : Int)) none)).bind fun s53 =>
    ih x35 x36 x37 s53 (wrapA .i64 (x39 - (1 : Int))) q52.2) none))
      (some (Sum.inr (), h40))) n
theorem corbelref7_ReadRep.l1_zero (k : Nat) (x35 : Option Addr) (x36 : Sl) (x37 : Option Addr) (x38 : Sl) (x39 : Int) (h40 : H) : corbelref7_ReadRep.l1 k 0 x35 x36 x37 x38 x39 h40 = none := rfl
theorem corbelref7_ReadRep.l1_succ (k n : Nat) (x35 : Option Addr) (x36 : Sl) (x37 : Option Addr) (x38 : Sl) (x39 : Int) (h40 : H) : corbelref7_ReadRep.l1 k (n + 1) x35 x36 x37 x38 x39 h40 = (cond (decide (x39 > (0 : Int)))
      (cond (decide ((Int.ofNat x38.n) < (135 : Int)))
      ((stv 4 h40 x35 [(Value.int .i64 (0 : Int)), (Value.int .i64 (0 : Int)), (Value.slice none 0 0), (Value.slice none 0 0)]).bind fun q41 =>
    some (Sum.inl false, q41.2))
      ((asP (fadd 3 x37)).bind fun p42 =>
    (asS (ldc h40 p42)).bind fun s43 =>
    (asP (ixs 1 x38.a x38.n (0 : Int))).bind fun p44 =>
    (asI .u8 (ldc h40 p44)).bind fun n45 =>
    (asS (subs 1 (Value.slice x38.a x38.n x38.c) (some (1 : Int)) (some (7 : Int)))).bind fun s46 =>
    (corbelref7_From.f k s46 h40).bind fun q47 =>
    (asS (subs 1 (Value.slice x38.a x38.n x38.c) (some (7 : Int)) (some (135 : Int)))).bind fun s48 =>
    (asS2 (apv 5 1 1 (Value.slice (some ⟨q47.2.next, 0, none⟩) 0 0) (Value.slice s48.a s48.n s48.c) (newR q47.2 5 1 []))).bind fun q49 =>
    (asS2 (apv 72 3 40 (Value.slice s43.a s43.n s43.c) (Value.slice (some ⟨q49.2.next, 0, none⟩) 1 1) (newR q49.2 72 3 [(Value.int .i64 (wrapA .i64 n45)), (Value.int .i64 q47.1), (Value.slice q49.1.a q49.1.n q49.1.c)]))).bind fun q50 =>
    (asP (fadd 3 x37)).bind fun p51 =>
    (stv 1 q50.2 p51 [(Value.slice q50.1.a q50.1.n q50.1.c)]).bind fun q52 =>
    cond (same1 h40 q47.2 (some (Value.pointer p42)) && (same1 (newR q47.2 5 1 []) q49.2 (some (Value.pointer p42)) && (same1 h40 q47.2 (some (Value.pointer p44)) && (same1 (newR q47.2 5 1 []) q49.2 (some (Value.pointer p44)) && (true))))) ((asS (subs 1 (Value.slice x38.a x38.n x38.c) (some (135 : Int)) none)).bind fun s53 =>
    corbelref7_ReadRep.l1 k n x35 x36 x37 s53 (wrapA .i64 (x39 - (1 : Int))) q52.2) none))
      (some (Sum.inr (), h40))) := rfl
noncomputable def corbelref7_ReadRep.l0 (k : Nat) (n : Nat) : (Option Addr) → Sl → (Option Addr) → Sl → Int → H → Option (((Bool) ⊕ (Sl)) × H) :=
  Nat.rec (motive := fun _ => (Option Addr) → Sl → (Option Addr) → Sl → Int → H → Option (((Bool) ⊕ (Sl)) × H)) (fun _ _ _ _ _ _ => none) (fun _ ih x11 x12 x13 x14 x15 h16 => cond (decide (x15 > (0 : Int)))
      (cond (decide ((Int.ofNat x14.n) < (40 : Int)))
      ((stv 4 h16 x11 [(Value.int .i64 (0 : Int)), (Value.int .i64 (0 : Int)), (Value.slice none 0 0), (Value.slice none 0 0)]).bind fun q17 =>
    some (Sum.inl false, q17.2))
      ((asP (fadd 2 x13)).bind fun p18 =>
    (asS (ldc h16 p18)).bind fun s19 =>
    (asS (subs 1 (Value.slice x14.a x14.n x14.c) none (some (40 : Int)))).bind fun s20 =>
    (corbelref7_piece.f k s20 h16).bind fun q21 =>
    (asS2 (apv 69 4 48 (Value.slice s19.a s19.n s19.c) (Value.slice (some ⟨q21.2.next, 0, none⟩) 1 1) (newR q21.2 69 4 [(Value.int .i64 q21.1.1), (Value.int .i64 q21.1.2.1), (Value.int .i64 q21.1.2.2.1), (Value.slice q21.1.2.2.2.a q21.1.2.2.2.n q21.1.2.2.2.c)]))).bind fun q22 =>
    (asP (fadd 2 x13)).bind fun p23 =>
    (stv 1 q22.2 p23 [(Value.slice q22.1.a q22.1.n q22.1.c)]).bind fun q24 =>
    cond (same1 h16 q21.2 (some (Value.pointer p18)) && (true)) ((asS (subs 1 (Value.slice x14.a x14.n x14.c) (some (40 : Int)) none)).bind fun s25 =>
    ih x11 x12 x13 s25 (wrapA .i64 (x15 - (1 : Int))) q24.2) none))
      (some (Sum.inr x14, h16))) n
theorem corbelref7_ReadRep.l0_zero (k : Nat) (x11 : Option Addr) (x12 : Sl) (x13 : Option Addr) (x14 : Sl) (x15 : Int) (h16 : H) : corbelref7_ReadRep.l0 k 0 x11 x12 x13 x14 x15 h16 = none := rfl
theorem corbelref7_ReadRep.l0_succ (k n : Nat) (x11 : Option Addr) (x12 : Sl) (x13 : Option Addr) (x14 : Sl) (x15 : Int) (h16 : H) : corbelref7_ReadRep.l0 k (n + 1) x11 x12 x13 x14 x15 h16 = (cond (decide (x15 > (0 : Int)))
      (cond (decide ((Int.ofNat x14.n) < (40 : Int)))
      ((stv 4 h16 x11 [(Value.int .i64 (0 : Int)), (Value.int .i64 (0 : Int)), (Value.slice none 0 0), (Value.slice none 0 0)]).bind fun q17 =>
    some (Sum.inl false, q17.2))
      ((asP (fadd 2 x13)).bind fun p18 =>
    (asS (ldc h16 p18)).bind fun s19 =>
    (asS (subs 1 (Value.slice x14.a x14.n x14.c) none (some (40 : Int)))).bind fun s20 =>
    (corbelref7_piece.f k s20 h16).bind fun q21 =>
    (asS2 (apv 69 4 48 (Value.slice s19.a s19.n s19.c) (Value.slice (some ⟨q21.2.next, 0, none⟩) 1 1) (newR q21.2 69 4 [(Value.int .i64 q21.1.1), (Value.int .i64 q21.1.2.1), (Value.int .i64 q21.1.2.2.1), (Value.slice q21.1.2.2.2.a q21.1.2.2.2.n q21.1.2.2.2.c)]))).bind fun q22 =>
    (asP (fadd 2 x13)).bind fun p23 =>
    (stv 1 q22.2 p23 [(Value.slice q22.1.a q22.1.n q22.1.c)]).bind fun q24 =>
    cond (same1 h16 q21.2 (some (Value.pointer p18)) && (true)) ((asS (subs 1 (Value.slice x14.a x14.n x14.c) (some (40 : Int)) none)).bind fun s25 =>
    corbelref7_ReadRep.l0 k n x11 x12 x13 s25 (wrapA .i64 (x15 - (1 : Int))) q24.2) none))
      (some (Sum.inr x14, h16))) := rfl
noncomputable def corbelref7_ReadRep.f (k : Nat) (a0 : Sl) (h : H) : Option (((Int × Int × Sl × Sl) × Bool) × H) :=
  cond (decide ((Int.ofNat a0.n) < (6 : Int)))
      ((stv 4 (newR h 67 4 [(Value.int .i64 (0 : Int)), (Value.int .i64 (0 : Int)), (Value.slice none 0 0), (Value.slice none 0 0)]) (some ⟨h.next, 0, none⟩) [(Value.int .i64 (0 : Int)), (Value.int .i64 (0 : Int)), (Value.slice none 0 0), (Value.slice none 0 0)]).bind fun q1 =>
    (asSt [(.int .i64), (.int .i64), .sl, .sl] (lda 4 q1.2 (some ⟨h.next, 0, none⟩))).bind fun s2 =>
    some (((s2.1, s2.2.1, s2.2.2.1, s2.2.2.2), false), q1.2))
      ((asP (ixs 1 a0.a a0.n (0 : Int))).bind fun p3 =>
    (asI .u8 (ldc (newR h 67 4 [(Value.int .i64 (0 : Int)), (Value.int .i64 (0 : Int)), (Value.slice none 0 0), (Value.slice none 0 0)]) p3)).bind fun n4 =>
    (asS (subs 1 (Value.slice a0.a a0.n a0.c) (some (1 : Int)) (some (5 : Int)))).bind fun s5 =>
    (corbelref7_From.f k s5 (newR h 67 4 [(Value.int .i64 (0 : Int)), (Value.int .i64 (0 : Int)), (Value.slice none 0 0), (Value.slice none 0 0)])).bind fun q6 =>
    (stv 4 (newR q6.2 67 4 [(Value.int .i64 (0 : Int)), (Value.int .i64 (0 : Int)), (Value.slice none 0 0), (Value.slice none 0 0)]) (some ⟨q6.2.next, 0, none⟩) [(Value.int .i64 (wrapA .i64 n4)), (Value.int .i64 q6.1), (Value.slice none 0 0), (Value.slice none 0 0)]).bind fun q7 =>
    cond (same1 (newR h 67 4 [(Value.int .i64 (0 : Int)), (Value.int .i64 (0 : Int)), (Value.slice none 0 0), (Value.slice none 0 0)]) q6.2 (some (Value.pointer p3)) && (true)) ((asP (ixs 1 a0.a a0.n (5 : Int))).bind fun p8 =>
    (asI .u8 (ldc q7.2 p8)).bind fun n9 =>
    (asS (subs 1 (Value.slice a0.a a0.n a0.c) (some (6 : Int)) none)).bind fun s10 =>
    (corbelref7_ReadRep.l0 k k (some ⟨h.next, 0, none⟩) a0 (some ⟨q6.2.next, 0, none⟩) s10 (wrapA .i64 n9) q7.2).bind fun w26 =>
    match w26.1 with
    | .inl r27 => (asSt [(.int .i64), (.int .i64), .sl, .sl] (lda 4 w26.2 (some ⟨h.next, 0, none⟩))).bind fun s29 =>
    some (((s29.1, s29.2.1, s29.2.2.1, s29.2.2.2), r27), w26.2)
    | .inr o28 => cond (decide ((Int.ofNat o28.n) < (1 : Int)))
      ((stv 4 w26.2 (some ⟨h.next, 0, none⟩) [(Value.int .i64 (0 : Int)), (Value.int .i64 (0 : Int)), (Value.slice none 0 0), (Value.slice none 0 0)]).bind fun q30 =>
    (asSt [(.int .i64), (.int .i64), .sl, .sl] (lda 4 q30.2 (some ⟨h.next, 0, none⟩))).bind fun s31 =>
    some (((s31.1, s31.2.1, s31.2.2.1, s31.2.2.2), false), q30.2))
      ((asP (ixs 1 o28.a o28.n (0 : Int))).bind fun p32 =>
    (asI .u8 (ldc w26.2 p32)).bind fun n33 =>
    (asS (subs 1 (Value.slice o28.a o28.n o28.c) (some (1 : Int)) none)).bind fun s34 =>
    (corbelref7_ReadRep.l1 k k (some ⟨h.next, 0, none⟩) a0 (some ⟨q6.2.next, 0, none⟩) s34 (wrapA .i64 n33) w26.2).bind fun w54 =>
    match w54.1 with
    | .inl r55 => (asSt [(.int .i64), (.int .i64), .sl, .sl] (lda 4 w54.2 (some ⟨h.next, 0, none⟩))).bind fun s57 =>
    some (((s57.1, s57.2.1, s57.2.2.1, s57.2.2.2), r55), w54.2)
    | .inr o56 => (asSt [(.int .i64), (.int .i64), .sl, .sl] (lda 4 w54.2 (some ⟨q6.2.next, 0, none⟩))).bind fun s58 =>
    (corbelref7_RightRep.f k (s58.1, s58.2.1, s58.2.2.1, s58.2.2.2) w54.2).bind fun q59 =>
    (cond (!q59.1) (some (true, q59.2, [], []))
      ((asSt [(.int .i64), (.int .i64), .sl, .sl] (lda 4 q59.2 (some ⟨q6.2.next, 0, none⟩))).bind fun s60 =>
    (corbelref7_LayRep.f k (s60.1, s60.2.1, s60.2.2.1, s60.2.2.2) q59.2).bind fun q61 =>
    (asT (txt q61.2 (Value.slice q61.1.a q61.1.n q61.1.c))).bind fun s62 =>
    (asT (txt q61.2 (Value.slice a0.a a0.n a0.c))).bind fun s63 =>
    some (!(s62.toList == s63.toList), q61.2, ([(7, none)] ++ [(8, (blkOf (some (Value.slice a0.a a0.n a0.c))))]), [(5, q59.2, q61.2)])) : Option (Bool × H × LEs × EFs)).bind fun g64 =>
    cond (dynL [(7, 5), (8, 5)] g64.2.2.1 g64.2.2.2) (cond g64.1
      ((stv 4 g64.2.1 (some ⟨h.next, 0, none⟩) [(Value.int .i64 (0 : Int)), (Value.int .i64 (0 : Int)), (Value.slice none 0 0), (Value.slice none 0 0)]).bind fun q65 =>
    (asSt [(.int .i64), (.int .i64), .sl, .sl] (lda 4 q65.2 (some ⟨h.next, 0, none⟩))).bind fun s66 =>
    some (((s66.1, s66.2.1, s66.2.2.1, s66.2.2.2), false), q65.2))
      ((asSt [(.int .i64), (.int .i64), .sl, .sl] (lda 4 g64.2.1 (some ⟨q6.2.next, 0, none⟩))).bind fun s67 =>
    (stv 4 g64.2.1 (some ⟨h.next, 0, none⟩) [(Value.int .i64 s67.1), (Value.int .i64 s67.2.1), (Value.slice s67.2.2.1.a s67.2.2.1.n s67.2.2.1.c), (Value.slice s67.2.2.2.a s67.2.2.2.n s67.2.2.2.c)]).bind fun q68 =>
    (asSt [(.int .i64), (.int .i64), .sl, .sl] (lda 4 q68.2 (some ⟨h.next, 0, none⟩))).bind fun s69 =>
    some (((s69.1, s69.2.1, s69.2.2.1, s69.2.2.2), true), q68.2))) none)) none)
noncomputable def corbelref7_ReadRep.T (k : Nat) : Tbl := tblOf [⟨50, anyArgs, wr [.sl] [(.int .i64)] (fun a h => corbelref7_From.f k a h)⟩,
  ⟨62, anyArgs, wr [.sl] [(.st [(.int .i64), (.int .i64), (.int .i64), .sl])] (fun a h => corbelref7_piece.f k a h)⟩,
  ⟨37, anyArgs, wr [(.st [(.int .i64), (.int .i64), .sl, .sl])] [.bool] (fun a h => corbelref7_RightRep.f k a h)⟩,
  ⟨38, anyArgs, wr [(.st [(.int .i64), (.int .i64), .sl, .sl])] [.sl] (fun a h => corbelref7_LayRep.f k a h)⟩]
noncomputable def corbelref7_ReadRep.an (k : Nat) (p : Nat) : Option Ann := cond (Nat.beq p 8188) (some (.pass [2, 4, 5] (lrun [(2, .ptr), (4, .sl), (5, .ptr), (0, .sl), (6, (.int .i64))] (some [(3, .bool)]) [] 2 (fun a h => corbelref7_ReadRep.l1 k k (a.1) (a.2.1) (a.2.2.1) (a.2.2.2.1) (a.2.2.2.2) h))))
  (cond (Nat.beq p 508) (some (.pass [2, 4, 5] (lrun [(2, .ptr), (4, .sl), (5, .ptr), (0, .sl), (6, (.int .i64))] (some [(3, .bool)]) [(0, .sl)] 0 (fun a h => corbelref7_ReadRep.l0 k k (a.1) (a.2.1) (a.2.2.1) (a.2.2.2.1) (a.2.2.2.2) h))))
  (none))
noncomputable def corbelref7_ReadRep.body : Code := (Try.f39.body).getD .skip
noncomputable def corbelref7_ReadRep.c508 : Code := cat corbelref7_ReadRep.body [1, 1, 1, 1, 1, 1, 0, 0, 0]
noncomputable def corbelref7_ReadRep.c8188 : Code := cat corbelref7_ReadRep.body [1, 1, 1, 1, 1, 1, 1, 1, 1, 1, 0, 0, 0]
set_option maxRecDepth 100000 in
theorem corbelref7_ReadRep.TS {C : FuncId → Bool} {X : CallF} (hX : XOk C X) (k : Nat) : TblS Try.prog C X (corbelref7_ReadRep.T k) := by
  refine tblOf_sound ?_
  intro e he
  rcases List.mem_cons.1 he with rfl | he
  · exact wr_told (corbelref7_From.told hX k)
  rcases List.mem_cons.1 he with rfl | he
  · exact wr_told (corbelref7_piece.told hX k)
  rcases List.mem_cons.1 he with rfl | he
  · exact wr_told (corbelref7_RightRep.told hX k)
  rcases List.mem_cons.1 he with rfl | he
  · exact wr_told (corbelref7_LayRep.told hX k)
  exact absurd he List.not_mem_nil
set_option maxRecDepth 100000 in
theorem corbelref7_ReadRep.l1_pass {C : FuncId → Bool} {X : CallF} (hX : XOk C X) (k n : Nat) : PassS Try.prog C X 94 (.loop corbelref7_ReadRep.c8188) (lrun [(2, .ptr), (4, .sl), (5, .ptr), (0, .sl), (6, (.int .i64))] (some [(3, .bool)]) [] 2 (fun a h => corbelref7_ReadRep.l1 k n (a.1) (a.2.1) (a.2.2.1) (a.2.2.2.1) (a.2.2.2.2) h)) :=
  loop_pass (ins := [(2, .ptr), (4, .sl), (5, .ptr), (0, .sl), (6, (.int .i64))]) (rets := (some [(3, .bool)])) (outs := []) (id := 2) (tbl := corbelref7_ReadRep.T k) (an := corbelref7_ReadRep.an k) (pb := 16376) (corbelref7_ReadRep.TS hX k) (fun n => (fun a h => corbelref7_ReadRep.l1 k n (a.1) (a.2.1) (a.2.2.1) (a.2.2.2.1) (a.2.2.2.2) h)) (fun a h => rfl) (fun n a h => by kernel_rfl)
    (by
      have e : need (corbelref7_ReadRep.an k) corbelref7_ReadRep.c8188 16376 = [] := by kernel_rfl
      rw [e]; intro q hq; cases hq) n
set_option maxRecDepth 100000 in
theorem corbelref7_ReadRep.l0_pass {C : FuncId → Bool} {X : CallF} (hX : XOk C X) (k n : Nat) : PassS Try.prog C X 94 (.loop corbelref7_ReadRep.c508) (lrun [(2, .ptr), (4, .sl), (5, .ptr), (0, .sl), (6, (.int .i64))] (some [(3, .bool)]) [(0, .sl)] 0 (fun a h => corbelref7_ReadRep.l0 k n (a.1) (a.2.1) (a.2.2.1) (a.2.2.2.1) (a.2.2.2.2) h)) :=
  loop_pass (ins := [(2, .ptr), (4, .sl), (5, .ptr), (0, .sl), (6, (.int .i64))]) (rets := (some [(3, .bool)])) (outs := [(0, .sl)]) (id := 0) (tbl := corbelref7_ReadRep.T k) (an := corbelref7_ReadRep.an k) (pb := 1016) (corbelref7_ReadRep.TS hX k) (fun n => (fun a h => corbelref7_ReadRep.l0 k n (a.1) (a.2.1) (a.2.2.1) (a.2.2.2.1) (a.2.2.2.2) h)) (fun a h => rfl) (fun n a h => by kernel_rfl)
    (by
      have e : need (corbelref7_ReadRep.an k) corbelref7_ReadRep.c508 1016 = [] := by kernel_rfl
      rw [e]; intro q hq; cases hq) n
set_option maxRecDepth 100000 in
theorem corbelref7_ReadRep.eq (k : Nat) (a : RT [.sl]) (h : H) : (fun a h => corbelref7_ReadRep.f k a h) a h = kfun Try.prog (corbelref7_ReadRep.T k) (corbelref7_ReadRep.an k) (RT [(.st [(.int .i64), (.int .i64), .sl, .sl]), .bool] × H) Try.f39 (encL [.sl] a) h (fun vs h' => (decL [(.st [(.int .i64), (.int .i64), .sl, .sl]), .bool] vs).bind fun x => some (x, h')) := by kernel_rfl
set_option maxRecDepth 100000 in
theorem corbelref7_ReadRep.told {C : FuncId → Bool} {X : CallF} (hX : XOk C X) (k : Nat) : Den.Told Try.prog C X 39 [.sl] [(.st [(.int .i64), (.int .i64), .sl, .sl]), .bool] (fun a h => corbelref7_ReadRep.f k a h) :=
  told_of fun a h q e => fn_of (c := corbelref7_ReadRep.body) (corbelref7_ReadRep.TS hX k) Try.func39 (by kernel_rfl) (hX.no 39 _ h (by decide))
    (by
      have e : need (corbelref7_ReadRep.an k) corbelref7_ReadRep.body 1 = [(Code.loop corbelref7_ReadRep.c508, lrun [(2, .ptr), (4, .sl), (5, .ptr), (0, .sl), (6, (.int .i64))] (some [(3, .bool)]) [(0, .sl)] 0 (fun a h => corbelref7_ReadRep.l0 k k (a.1) (a.2.1) (a.2.2.1) (a.2.2.2.1) (a.2.2.2.2) h)), (Code.loop corbelref7_ReadRep.c8188, lrun [(2, .ptr), (4, .sl), (5, .ptr), (0, .sl), (6, (.int .i64))] (some [(3, .bool)]) [] 2 (fun a h => corbelref7_ReadRep.l1 k k (a.1) (a.2.1) (a.2.2.1) (a.2.2.2.1) (a.2.2.2.2) h))] := by kernel_rfl
      rw [e]; intro q hq
      rcases List.mem_cons.1 hq with rfl | hq
      · exact corbelref7_ReadRep.l0_pass hX k k
      rcases List.mem_cons.1 hq with rfl | hq
      · exact corbelref7_ReadRep.l1_pass hX k k
      cases hq)
    ((corbelref7_ReadRep.eq k a h).symm.trans e)
/-! ### corbel/chunk.Same -/
noncomputable def chunk_Same.f (k : Nat) (a0 : (Int × Int × Int × Sl)) (a1 : (Int × Int × Int × Sl)) (h : H) : Option ((Bool) × H) :=
  (asI .i64 (ldc (newR (newR h 69 4 [(Value.int .i64 a0.1), (Value.int .i64 a0.2.1), (Value.int .i64 a0.2.2.1), (Value.slice a0.2.2.2.a a0.2.2.2.n a0.2.2.2.c)]) 69 4 [(Value.int .i64 a1.1), (Value.int .i64 a1.2.1), (Value.int .i64 a1.2.2.1), (Value.slice a1.2.2.2.a a1.2.2.2.n a1.2.2.2.c)]) (some ⟨h.next, 0, none⟩))).bind fun n1 =>
    (asI .i64 (ldc (newR (newR h 69 4 [(Value.int .i64 a0.1), (Value.int .i64 a0.2.1), (Value.int .i64 a0.2.2.1), (Value.slice a0.2.2.2.a a0.2.2.2.n a0.2.2.2.c)]) 69 4 [(Value.int .i64 a1.1), (Value.int .i64 a1.2.1), (Value.int .i64 a1.2.2.1), (Value.slice a1.2.2.2.a a1.2.2.2.n a1.2.2.2.c)]) (some ⟨(newR h 69 4 [(Value.int .i64 a0.1), (Value.int .i64 a0.2.1), (Value.int .i64 a0.2.2.1), (Value.slice a0.2.2.2.a a0.2.2.2.n a0.2.2.2.c)]).next, 0, none⟩))).bind fun n2 =>
    (cond (n1 == n2) ((asI .i64 (ldc (newR (newR h 69 4 [(Value.int .i64 a0.1), (Value.int .i64 a0.2.1), (Value.int .i64 a0.2.2.1), (Value.slice a0.2.2.2.a a0.2.2.2.n a0.2.2.2.c)]) 69 4 [(Value.int .i64 a1.1), (Value.int .i64 a1.2.1), (Value.int .i64 a1.2.2.1), (Value.slice a1.2.2.2.a a1.2.2.2.n a1.2.2.2.c)]) (some ⟨h.next, 1, none⟩))).bind fun n3 =>
    (asI .i64 (ldc (newR (newR h 69 4 [(Value.int .i64 a0.1), (Value.int .i64 a0.2.1), (Value.int .i64 a0.2.2.1), (Value.slice a0.2.2.2.a a0.2.2.2.n a0.2.2.2.c)]) 69 4 [(Value.int .i64 a1.1), (Value.int .i64 a1.2.1), (Value.int .i64 a1.2.2.1), (Value.slice a1.2.2.2.a a1.2.2.2.n a1.2.2.2.c)]) (some ⟨(newR h 69 4 [(Value.int .i64 a0.1), (Value.int .i64 a0.2.1), (Value.int .i64 a0.2.2.1), (Value.slice a0.2.2.2.a a0.2.2.2.n a0.2.2.2.c)]).next, 1, none⟩))).bind fun n4 =>
    some (n3 == n4, (newR (newR h 69 4 [(Value.int .i64 a0.1), (Value.int .i64 a0.2.1), (Value.int .i64 a0.2.2.1), (Value.slice a0.2.2.2.a a0.2.2.2.n a0.2.2.2.c)]) 69 4 [(Value.int .i64 a1.1), (Value.int .i64 a1.2.1), (Value.int .i64 a1.2.2.1), (Value.slice a1.2.2.2.a a1.2.2.2.n a1.2.2.2.c)])))
      (some (false, (newR (newR h 69 4 [(Value.int .i64 a0.1), (Value.int .i64 a0.2.1), (Value.int .i64 a0.2.2.1), (Value.slice a0.2.2.2.a a0.2.2.2.n a0.2.2.2.c)]) 69 4 [(Value.int .i64 a1.1), (Value.int .i64 a1.2.1), (Value.int .i64 a1.2.2.1), (Value.slice a1.2.2.2.a a1.2.2.2.n a1.2.2.2.c)])))).bind fun g5 =>
    (cond g5.1 ((asI .i64 (ldc g5.2 (some ⟨h.next, 2, none⟩))).bind fun n6 =>
    (asI .i64 (ldc g5.2 (some ⟨(newR h 69 4 [(Value.int .i64 a0.1), (Value.int .i64 a0.2.1), (Value.int .i64 a0.2.2.1), (Value.slice a0.2.2.2.a a0.2.2.2.n a0.2.2.2.c)]).next, 2, none⟩))).bind fun n7 =>
    some (n6 == n7, g5.2))
      (some (false, g5.2))).bind fun g8 =>
    (cond g8.1 ((asS (ldc g8.2 (some ⟨h.next, 3, none⟩))).bind fun s9 =>
    (asS (ldc g8.2 (some ⟨(newR h 69 4 [(Value.int .i64 a0.1), (Value.int .i64 a0.2.1), (Value.int .i64 a0.2.2.1), (Value.slice a0.2.2.2.a a0.2.2.2.n a0.2.2.2.c)]).next, 3, none⟩))).bind fun s10 =>
    (slices_Equal_byte_byte.f k s9 s10 g8.2).bind fun q11 =>
    some (q11.1, q11.2))
      (some (false, g8.2))).bind fun g12 =>
    some (g12.1, g12.2)
noncomputable def chunk_Same.T (k : Nat) : Tbl := tblOf [⟨49, anyArgs, wr [.sl, .sl] [.bool] (fun a h => slices_Equal_byte_byte.f k (a.1) (a.2) h)⟩]
noncomputable def chunk_Same.an (k : Nat) (p : Nat) : Option Ann := none
noncomputable def chunk_Same.body : Code := (Try.f56.body).getD .skip
set_option maxRecDepth 100000 in
theorem chunk_Same.TS {C : FuncId → Bool} {X : CallF} (hX : XOk C X) (k : Nat) : TblS Try.prog C X (chunk_Same.T k) := by
  refine tblOf_sound ?_
  intro e he
  rcases List.mem_cons.1 he with rfl | he
  · exact wr_told (slices_Equal_byte_byte.told hX k)
  exact absurd he List.not_mem_nil
set_option maxRecDepth 100000 in
theorem chunk_Same.eq (k : Nat) (a : RT [(.st [(.int .i64), (.int .i64), (.int .i64), .sl]), (.st [(.int .i64), (.int .i64), (.int .i64), .sl])]) (h : H) : (fun a h => chunk_Same.f k (a.1) (a.2) h) a h = kfun Try.prog (chunk_Same.T k) (chunk_Same.an k) (RT [.bool] × H) Try.f56 (encL [(.st [(.int .i64), (.int .i64), (.int .i64), .sl]), (.st [(.int .i64), (.int .i64), (.int .i64), .sl])] a) h (fun vs h' => (decL [.bool] vs).bind fun x => some (x, h')) := by kernel_rfl
set_option maxRecDepth 100000 in
theorem chunk_Same.told {C : FuncId → Bool} {X : CallF} (hX : XOk C X) (k : Nat) : Den.Told Try.prog C X 56 [(.st [(.int .i64), (.int .i64), (.int .i64), .sl]), (.st [(.int .i64), (.int .i64), (.int .i64), .sl])] [.bool] (fun a h => chunk_Same.f k (a.1) (a.2) h) :=
  told_of fun a h q e => fn_of (c := chunk_Same.body) (chunk_Same.TS hX k) Try.func56 (by kernel_rfl) (hX.no 56 _ h (by decide))
    (by
      have e : need (chunk_Same.an k) chunk_Same.body 1 = [] := by kernel_rfl
      rw [e]; intro q hq; cases hq)
    ((chunk_Same.eq k a h).symm.trans e)
/-! ### slices.EqualFunc[[]corbel/api.Piece,[]corbel/api.Piece,corbel/api.Piece,corbel/api.Piece] -/
noncomputable def slices_EqualFunc_api_Piece_api_Piece_api_Piece_api_Piece_chunk_Same.l0 (k : Nat) (n : Nat) : Sl → Unit → Sl → Int → Int → H → Option (((Bool) ⊕ (Unit)) × H) :=
  Nat.rec (motive := fun _ => Sl → Unit → Sl → Int → Int → H → Option (((Bool) ⊕ (Unit)) × H)) (fun _ _ _ _ _ _ => none) (fun _ ih x1 x2 x3 x4 x5 h6 => cond (decide (x5 < x4))
      ((asP (ixs 4 x3.a x3.n x5)).bind fun p7 =>
    (asSt [(.int .i64), (.int .i64), (.int .i64), .sl] (lda 4 h6 p7)).bind fun s8 =>
    (stv 4 (newR h6 69 4 [(Value.int .i64 (0 : Int)), (Value.int .i64 (0 : Int)), (Value.int .i64 (0 : Int)), (Value.slice none 0 0)]) (some ⟨h6.next, 0, none⟩) [(Value.int .i64 s8.1), (Value.int .i64 s8.2.1), (Value.int .i64 s8.2.2.1), (Value.slice s8.2.2.2.a s8.2.2.2.n s8.2.2.2.c)]).bind fun q9 =>
    (asP (ixs 4 x1.a x1.n x5)).bind fun p10 =>
    (asSt [(.int .i64), (.int .i64), (.int .i64), .sl] (lda 4 q9.2 p10)).bind fun s11 =>
    (stv 4 (newR q9.2 69 4 [(Value.int .i64 (0 : Int)), (Value.int .i64 (0 : Int)), (Value.int .i64 (0 : Int)), (Value.slice none 0 0)]) (some ⟨q9.2.next, 0, none⟩) [(Value.int .i64 s11.1), (Value.int .i64 s11.2.1), (Value.int .i64 s11.2.2.1), (Value.slice s11.2.2.2.a s11.2.2.2.n s11.2.2.2.c)]).bind fun q12 =>
    (asSt [(.int .i64), (.int .i64), (.int .i64), .sl] (lda 4 q12.2 (some ⟨h6.next, 0, none⟩))).bind fun s13 =>
    (asSt [(.int .i64), (.int .i64), (.int .i64), .sl] (lda 4 q12.2 (some ⟨q9.2.next, 0, none⟩))).bind fun s14 =>
    (chunk_Same.f k (s13.1, s13.2.1, s13.2.2.1, s13.2.2.2) (s14.1, s14.2.1, s14.2.2.1, s14.2.2.2) q12.2).bind fun q15 =>
    cond (!q15.1)
      (some (Sum.inl false, q15.2))
      (ih x1 () x3 x4 (wrapA .i64 (x5 + (1 : Int))) q15.2))
      (some (Sum.inr (), h6))) n
theorem slices_EqualFunc_api_Piece_api_Piece_api_Piece_api_Piece_chunk_Same.l0_zero (k : Nat) (x1 : Sl) (x2 : Unit) (x3 : Sl) (x4 : Int) (x5 : Int) (h6 : H) : slices_EqualFunc_api_Piece_api_Piece_api_Piece_api_Piece_chunk_Same.l0 k 0 x1 x2 x3 x4 x5 h6 = none := rfl
theorem slices_EqualFunc_api_Piece_api_Piece_api_Piece_api_Piece_chunk_Same.l0_succ (k n : Nat) (x1 : Sl) (x2 : Unit) (x3 : Sl) (x4 : Int) (x5 : Int) (h6 : H) : slices_EqualFunc_api_Piece_api_Piece_api_Piece_api_Piece_chunk_Same.l0 k (n + 1) x1 x2 x3 x4 x5 h6 = (cond (decide (x5 < x4))
      ((asP (ixs 4 x3.a x3.n x5)).bind fun p7 =>
    (asSt [(.int .i64), (.int .i64), (.int .i64), .sl] (lda 4 h6 p7)).bind fun s8 =>
    (stv 4 (newR h6 69 4 [(Value.int .i64 (0 : Int)), (Value.int .i64 (0 : Int)), (Value.int .i64 (0 : Int)), (Value.slice none 0 0)]) (some ⟨h6.next, 0, none⟩) [(Value.int .i64 s8.1), (Value.int .i64 s8.2.1), (Value.int .i64 s8.2.2.1), (Value.slice s8.2.2.2.a s8.2.2.2.n s8.2.2.2.c)]).bind fun q9 =>
    (asP (ixs 4 x1.a x1.n x5)).bind fun p10 =>
    (asSt [(.int .i64), (.int .i64), (.int .i64), .sl] (lda 4 q9.2 p10)).bind fun s11 =>
    (stv 4 (newR q9.2 69 4 [(Value.int .i64 (0 : Int)), (Value.int .i64 (0 : Int)), (Value.int .i64 (0 : Int)), (Value.slice none 0 0)]) (some ⟨q9.2.next, 0, none⟩) [(Value.int .i64 s11.1), (Value.int .i64 s11.2.1), (Value.int .i64 s11.2.2.1), (Value.slice s11.2.2.2.a s11.2.2.2.n s11.2.2.2.c)]).bind fun q12 =>
    (asSt [(.int .i64), (.int .i64), (.int .i64), .sl] (lda 4 q12.2 (some ⟨h6.next, 0, none⟩))).bind fun s13 =>
    (asSt [(.int .i64), (.int .i64), (.int .i64), .sl] (lda 4 q12.2 (some ⟨q9.2.next, 0, none⟩))).bind fun s14 =>
    (chunk_Same.f k (s13.1, s13.2.1, s13.2.2.1, s13.2.2.2) (s14.1, s14.2.1, s14.2.2.1, s14.2.2.2) q12.2).bind fun q15 =>
    cond (!q15.1)
      (some (Sum.inl false, q15.2))
      (slices_EqualFunc_api_Piece_api_Piece_api_Piece_api_Piece_chunk_Same.l0 k n x1 () x3 x4 (wrapA .i64 (x5 + (1 : Int))) q15.2))
      (some (Sum.inr (), h6))) := rfl
noncomputable def slices_EqualFunc_api_Piece_api_Piece_api_Piece_api_Piece_chunk_Same.f (k : Nat) (a0 : Sl) (a1 : Sl) (a2 : Unit) (h : H) : Option ((Bool) × H) :=
  cond ((Int.ofNat a0.n) != (Int.ofNat a1.n))
      (some (false, h))
      ((slices_EqualFunc_api_Piece_api_Piece_api_Piece_api_Piece_chunk_Same.l0 k k a1 () a0 (Int.ofNat a0.n) (0 : Int) h).bind fun w16 =>
    match w16.1 with
    | .inl r17 => some (r17, w16.2)
    | .inr o18 => some (true, w16.2))
noncomputable def slices_EqualFunc_api_Piece_api_Piece_api_Piece_api_Piece_chunk_Same.T (k : Nat) : Tbl := tblOf [⟨56, anyArgs, wr [(.st [(.int .i64), (.int .i64), (.int .i64), .sl]), (.st [(.int .i64), (.int .i64), (.int .i64), .sl])] [.bool] (fun a h => chunk_Same.f k (a.1) (a.2) h)⟩]
noncomputable def slices_EqualFunc_api_Piece_api_Piece_api_Piece_api_Piece_chunk_Same.an (k : Nat) (p : Nat) : Option Ann := cond (Nat.beq p 58) (some (.pass [] (lrun [(1, .sl), (2, (.fn 56 0)), (15, .sl), (16, (.int .i64)), (17, (.int .i64))] (some [(6, .bool)]) [] 0 (fun a h => slices_EqualFunc_api_Piece_api_Piece_api_Piece_api_Piece_chunk_Same.l0 k k (a.1) (a.2.1) (a.2.2.1) (a.2.2.2.1) (a.2.2.2.2) h))))
  (none)
noncomputable def slices_EqualFunc_api_Piece_api_Piece_api_Piece_api_Piece_chunk_Same.body : Code := (Try.f55.body).getD .skip
noncomputable def slices_EqualFunc_api_Piece_api_Piece_api_Piece_api_Piece_chunk_Same.c58 : Code := cat slices_EqualFunc_api_Piece_api_Piece_api_Piece_api_Piece_chunk_Same.body [1, 1, 0, 1, 0, 0]
set_option maxRecDepth 100000 in
theorem slices_EqualFunc_api_Piece_api_Piece_api_Piece_api_Piece_chunk_Same.TS {C : FuncId → Bool} {X : CallF} (hX : XOk C X) (k : Nat) : TblS Try.prog C X (slices_EqualFunc_api_Piece_api_Piece_api_Piece_api_Piece_chunk_Same.T k) := by
  refine tblOf_sound ?_
  intro e he
  rcases List.mem_cons.1 he with rfl | he
  · exact wr_told (chunk_Same.told hX k)
  exact absurd he List.not_mem_nil
set_option maxRecDepth 100000 in
theorem slices_EqualFunc_api_Piece_api_Piece_api_Piece_api_Piece_chunk_Same.l0_pass {C : FuncId → Bool} {X : CallF} (hX : XOk C X) (k n : Nat) : PassS Try.prog C X 32 (.loop slices_EqualFunc_api_Piece_api_Piece_api_Piece_api_Piece_chunk_Same.c58) (lrun [(1, .sl), (2, (.fn 56 0)), (15, .sl), (16, (.int .i64)), (17, (.int .i64))] (some [(6, .bool)]) [] 0 (fun a h => slices_EqualFunc_api_Piece_api_Piece_api_Piece_api_Piece_chunk_Same.l0 k n (a.1) (a.2.1) (a.2.2.1) (a.2.2.2.1) (a.2.2.2.2) h)) :=
  loop_pass (ins := [(1, .sl), (2, (.fn 56 0)), (15, .sl), (16, (.int .i64)), (17, (.int .i64))]) (rets := (some [(6, .bool)])) (outs := []) (id := 0) (tbl := slices_EqualFunc_api_Piece_api_Piece_api_Piece_api_Piece_chunk_Same.T k) (an := slices_EqualFunc_api_Piece_api_Piece_api_Piece_api_Piece_chunk_Same.an k) (pb := 116) (slices_EqualFunc_api_Piece_api_Piece_api_Piece_api_Piece_chunk_Same.TS hX k) (fun n => (fun a h => slices_EqualFunc_api_Piece_api_Piece_api_Piece_api_Piece_chunk_Same.l0 k n (a.1) (a.2.1) (a.2.2.1) (a.2.2.2.1) (a.2.2.2.2) h)) (fun a h => rfl) (fun n a h => by kernel_rfl)
    (by
      have e : need (slices_EqualFunc_api_Piece_api_Piece_api_Piece_api_Piece_chunk_Same.an k) slices_EqualFunc_api_Piece_api_Piece_api_Piece_api_Piece_chunk_Same.c58 116 = [] := by kernel_rfl
      rw [e]; intro q hq; cases hq) n
set_option maxRecDepth 100000 in
theorem slices_EqualFunc_api_Piece_api_Piece_api_Piece_api_Piece_chunk_Same.eq (k : Nat) (a : RT [.sl, .sl, (.fn 56 0)]) (h : H) : (fun a h => slices_EqualFunc_api_Piece_api_Piece_api_Piece_api_Piece_chunk_Same.f k (a.1) (a.2.1) (a.2.2) h) a h = kfun Try.prog (slices_EqualFunc_api_Piece_api_Piece_api_Piece_api_Piece_chunk_Same.T k) (slices_EqualFunc_api_Piece_api_Piece_api_Piece_api_Piece_chunk_Same.an k) (RT [.bool] × H) Try.f55 (encL [.sl, .sl, (.fn 56 0)] a) h (fun vs h' => (decL [.bool] vs).bind fun x => some (x, h')) := by kernel_rfl
set_option maxRecDepth 100000 in
theorem slices_EqualFunc_api_Piece_api_Piece_api_Piece_api_Piece_chunk_Same.told {C : FuncId → Bool} {X : CallF} (hX : XOk C X) (k : Nat) : Den.Told Try.prog C X 55 [.sl, .sl, (.fn 56 0)] [.bool] (fun a h => slices_EqualFunc_api_Piece_api_Piece_api_Piece_api_Piece_chunk_Same.f k (a.1) (a.2.1) (a.2.2) h) :=
  told_of fun a h q e => fn_of (c := slices_EqualFunc_api_Piece_api_Piece_api_Piece_api_Piece_chunk_Same.body) (slices_EqualFunc_api_Piece_api_Piece_api_Piece_api_Piece_chunk_Same.TS hX k) Try.func55 (by kernel_rfl) (hX.no 55 _ h (by decide))
    (by
      have e : need (slices_EqualFunc_api_Piece_api_Piece_api_Piece_api_Piece_chunk_Same.an k) slices_EqualFunc_api_Piece_api_Piece_api_Piece_api_Piece_chunk_Same.body 1 = [(Code.loop slices_EqualFunc_api_Piece_api_Piece_api_Piece_api_Piece_chunk_Same.c58, lrun [(1, .sl), (2, (.fn 56 0)), (15, .sl), (16, (.int .i64)), (17, (.int .i64))] (some [(6, .bool)]) [] 0 (fun a h => slices_EqualFunc_api_Piece_api_Piece_api_Piece_api_Piece_chunk_Same.l0 k k (a.1) (a.2.1) (a.2.2.1) (a.2.2.2.1) (a.2.2.2.2) h))] := by kernel_rfl
      rw [e]; intro q hq
      rcases List.mem_cons.1 hq with rfl | hq
      · exact slices_EqualFunc_api_Piece_api_Piece_api_Piece_api_Piece_chunk_Same.l0_pass hX k k
      cases hq)
    ((slices_EqualFunc_api_Piece_api_Piece_api_Piece_api_Piece_chunk_Same.eq k a h).symm.trans e)
/-! ### corbel/intent.Same -/
noncomputable def intent_Same.f (k : Nat) (a0 : (Int × Int × Sl)) (a1 : (Int × Int × Sl)) (h : H) : Option ((Bool) × H) :=
  (asI .i64 (ldc (newR (newR h 72 3 [(Value.int .i64 a0.1), (Value.int .i64 a0.2.1), (Value.slice a0.2.2.a a0.2.2.n a0.2.2.c)]) 72 3 [(Value.int .i64 a1.1), (Value.int .i64 a1.2.1), (Value.slice a1.2.2.a a1.2.2.n a1.2.2.c)]) (some ⟨h.next, 0, none⟩))).bind fun n1 =>
    (asI .i64 (ldc (newR (newR h 72 3 [(Value.int .i64 a0.1), (Value.int .i64 a0.2.1), (Value.slice a0.2.2.a a0.2.2.n a0.2.2.c)]) 72 3 [(Value.int .i64 a1.1), (Value.int .i64 a1.2.1), (Value.slice a1.2.2.a a1.2.2.n a1.2.2.c)]) (some ⟨(newR h 72 3 [(Value.int .i64 a0.1), (Value.int .i64 a0.2.1), (Value.slice a0.2.2.a a0.2.2.n a0.2.2.c)]).next, 0, none⟩))).bind fun n2 =>
    (cond (n1 == n2) ((asI .i64 (ldc (newR (newR h 72 3 [(Value.int .i64 a0.1), (Value.int .i64 a0.2.1), (Value.slice a0.2.2.a a0.2.2.n a0.2.2.c)]) 72 3 [(Value.int .i64 a1.1), (Value.int .i64 a1.2.1), (Value.slice a1.2.2.a a1.2.2.n a1.2.2.c)]) (some ⟨h.next, 1, none⟩))).bind fun n3 =>
    (asI .i64 (ldc (newR (newR h 72 3 [(Value.int .i64 a0.1), (Value.int .i64 a0.2.1), (Value.slice a0.2.2.a a0.2.2.n a0.2.2.c)]) 72 3 [(Value.int .i64 a1.1), (Value.int .i64 a1.2.1), (Value.slice a1.2.2.a a1.2.2.n a1.2.2.c)]) (some ⟨(newR h 72 3 [(Value.int .i64 a0.1), (Value.int .i64 a0.2.1), (Value.slice a0.2.2.a a0.2.2.n a0.2.2.c)]).next, 1, none⟩))).bind fun n4 =>
    some (n3 == n4, (newR (newR h 72 3 [(Value.int .i64 a0.1), (Value.int .i64 a0.2.1), (Value.slice a0.2.2.a a0.2.2.n a0.2.2.c)]) 72 3 [(Value.int .i64 a1.1), (Value.int .i64 a1.2.1), (Value.slice a1.2.2.a a1.2.2.n a1.2.2.c)])))
      (some (false, (newR (newR h 72 3 [(Value.int .i64 a0.1), (Value.int .i64 a0.2.1), (Value.slice a0.2.2.a a0.2.2.n a0.2.2.c)]) 72 3 [(Value.int .i64 a1.1), (Value.int .i64 a1.2.1), (Value.slice a1.2.2.a a1.2.2.n a1.2.2.c)])))).bind fun g5 =>
    (cond g5.1 ((asS (ldc g5.2 (some ⟨h.next, 2, none⟩))).bind fun s6 =>
    (asS (ldc g5.2 (some ⟨(newR h 72 3 [(Value.int .i64 a0.1), (Value.int .i64 a0.2.1), (Value.slice a0.2.2.a a0.2.2.n a0.2.2.c)]).next, 2, none⟩))).bind fun s7 =>
    (slices_Equal_byte_byte.f k s6 s7 g5.2).bind fun q8 =>
    some (q8.1, q8.2))
      (some (false, g5.2))).bind fun g9 =>
    some (g9.1, g9.2)
noncomputable def intent_Same.T (k : Nat) : Tbl := tblOf [⟨49, anyArgs, wr [.sl, .sl] [.bool] (fun a h => slices_Equal_byte_byte.f k (a.1) (a.2) h)⟩]
noncomputable def intent_Same.an (k : Nat) (p : Nat) : Option Ann := none
noncomputable def intent_Same.body : Code := (Try.f58.body).getD .skip
set_option maxRecDepth 100000 in
theorem intent_Same.TS {C : FuncId → Bool} {X : CallF} (hX : XOk C X) (k : Nat) : TblS Try.prog C X (intent_Same.T k) := by
  refine tblOf_sound ?_
  intro e he
  rcases List.mem_cons.1 he with rfl | he
  · exact wr_told (slices_Equal_byte_byte.told hX k)
  exact absurd he List.not_mem_nil
set_option maxRecDepth 100000 in
theorem intent_Same.eq (k : Nat) (a : RT [(.st [(.int .i64), (.int .i64), .sl]), (.st [(.int .i64), (.int .i64), .sl])]) (h : H) : (fun a h => intent_Same.f k (a.1) (a.2) h) a h = kfun Try.prog (intent_Same.T k) (intent_Same.an k) (RT [.bool] × H) Try.f58 (encL [(.st [(.int .i64), (.int .i64), .sl]), (.st [(.int .i64), (.int .i64), .sl])] a) h (fun vs h' => (decL [.bool] vs).bind fun x => some (x, h')) := by kernel_rfl
set_option maxRecDepth 100000 in
theorem intent_Same.told {C : FuncId → Bool} {X : CallF} (hX : XOk C X) (k : Nat) : Den.Told Try.prog C X 58 [(.st [(.int .i64), (.int .i64), .sl]), (.st [(.int .i64), (.int .i64), .sl])] [.bool] (fun a h => intent_Same.f k (a.1) (a.2) h) :=
  told_of fun a h q e => fn_of (c := intent_Same.body) (intent_Same.TS hX k) Try.func58 (by kernel_rfl) (hX.no 58 _ h (by decide))
    (by
      have e : need (intent_Same.an k) intent_Same.body 1 = [] := by kernel_rfl
      rw [e]; intro q hq; cases hq)
    ((intent_Same.eq k a h).symm.trans e)
/-! ### slices.EqualFunc[[]corbel/api.Intent,[]corbel/api.Intent,corbel/api.Intent,corbel/api.Intent] -/
noncomputable def slices_EqualFunc_api_Intent_api_Intent_api_Intent_api_Intent_intent_Same.l0 (k : Nat) (n : Nat) : Sl → Unit → Sl → Int → Int → H → Option (((Bool) ⊕ (Unit)) × H) :=
  Nat.rec (motive := fun _ => Sl → Unit → Sl → Int → Int → H → Option (((Bool) ⊕ (Unit)) × H)) (fun _ _ _ _ _ _ => none) (fun _ ih x1 x2 x3 x4 x5 h6 => cond (decide (x5 < x4))
      ((asP (ixs 3 x3.a x3.n x5)).bind fun p7 =>
    (asSt [(.int .i64), (.int .i64), .sl] (lda 3 h6 p7)).bind fun s8 =>
    (stv 3 (newR h6 72 3 [(Value.int .i64 (0 : Int)), (Value.int .i64 (0 : Int)), (Value.slice none 0 0)]) (some ⟨h6.next, 0, none⟩) [(Value.int .i64 s8.1), (Value.int .i64 s8.2.1), (Value.slice s8.2.2.a s8.2.2.n s8.2.2.c)]).bind fun q9 =>
    (asP (ixs 3 x1.a x1.n x5)).bind fun p10 =>
    (asSt [(.int .i64), (.int .i64), .sl] (lda 3 q9.2 p10)).bind fun s11 =>
    (stv 3 (newR q9.2 72 3 [(Value.int .i64 (0 : Int)), (Value.int .i64 (0 : Int)), (Value.slice none 0 0)]) (some ⟨q9.2.next, 0, none⟩) [(Value.int .i64 s11.1), (Value.int .i64 s11.2.1), (Value.slice s11.2.2.a s11.2.2.n s11.2.2.c)]).bind fun q12 =>
    (asSt [(.int .i64), (.int .i64), .sl] (lda 3 q12.2 (some ⟨h6.next, 0, none⟩))).bind fun s13 =>
    (asSt [(.int .i64), (.int .i64), .sl] (lda 3 q12.2 (some ⟨q9.2.next, 0, none⟩))).bind fun s14 =>
    (intent_Same.f k (s13.1, s13.2.1, s13.2.2) (s14.1, s14.2.1, s14.2.2) q12.2).bind fun q15 =>
    cond (!q15.1)
      (some (Sum.inl false, q15.2))
      (ih x1 () x3 x4 (wrapA .i64 (x5 + (1 : Int))) q15.2))
      (some (Sum.inr (), h6))) n
theorem slices_EqualFunc_api_Intent_api_Intent_api_Intent_api_Intent_intent_Same.l0_zero (k : Nat) (x1 : Sl) (x2 : Unit) (x3 : Sl) (x4 : Int) (x5 : Int) (h6 : H) : slices_EqualFunc_api_Intent_api_Intent_api_Intent_api_Intent_intent_Same.l0 k 0 x1 x2 x3 x4 x5 h6 = none := rfl
theorem slices_EqualFunc_api_Intent_api_Intent_api_Intent_api_Intent_intent_Same.l0_succ (k n : Nat) (x1 : Sl) (x2 : Unit) (x3 : Sl) (x4 : Int) (x5 : Int) (h6 : H) : slices_EqualFunc_api_Intent_api_Intent_api_Intent_api_Intent_intent_Same.l0 k (n + 1) x1 x2 x3 x4 x5 h6 = (cond (decide (x5 < x4))
      ((asP (ixs 3 x3.a x3.n x5)).bind fun p7 =>
    (asSt [(.int .i64), (.int .i64), .sl] (lda 3 h6 p7)).bind fun s8 =>
    (stv 3 (newR h6 72 3 [(Value.int .i64 (0 : Int)), (Value.int .i64 (0 : Int)), (Value.slice none 0 0)]) (some ⟨h6.next, 0, none⟩) [(Value.int .i64 s8.1), (Value.int .i64 s8.2.1), (Value.slice s8.2.2.a s8.2.2.n s8.2.2.c)]).bind fun q9 =>
    (asP (ixs 3 x1.a x1.n x5)).bind fun p10 =>
    (asSt [(.int .i64), (.int .i64), .sl] (lda 3 q9.2 p10)).bind fun s11 =>
    (stv 3 (newR q9.2 72 3 [(Value.int .i64 (0 : Int)), (Value.int .i64 (0 : Int)), (Value.slice none 0 0)]) (some ⟨q9.2.next, 0, none⟩) [(Value.int .i64 s11.1), (Value.int .i64 s11.2.1), (Value.slice s11.2.2.a s11.2.2.n s11.2.2.c)]).bind fun q12 =>
    (asSt [(.int .i64), (.int .i64), .sl] (lda 3 q12.2 (some ⟨h6.next, 0, none⟩))).bind fun s13 =>
    (asSt [(.int .i64), (.int .i64), .sl] (lda 3 q12.2 (some ⟨q9.2.next, 0, none⟩))).bind fun s14 =>
    (intent_Same.f k (s13.1, s13.2.1, s13.2.2) (s14.1, s14.2.1, s14.2.2) q12.2).bind fun q15 =>
    cond (!q15.1)
      (some (Sum.inl false, q15.2))
      (slices_EqualFunc_api_Intent_api_Intent_api_Intent_api_Intent_intent_Same.l0 k n x1 () x3 x4 (wrapA .i64 (x5 + (1 : Int))) q15.2))
      (some (Sum.inr (), h6))) := rfl
noncomputable def slices_EqualFunc_api_Intent_api_Intent_api_Intent_api_Intent_intent_Same.f (k : Nat) (a0 : Sl) (a1 : Sl) (a2 : Unit) (h : H) : Option ((Bool) × H) :=
  cond ((Int.ofNat a0.n) != (Int.ofNat a1.n))
      (some (false, h))
      ((slices_EqualFunc_api_Intent_api_Intent_api_Intent_api_Intent_intent_Same.l0 k k a1 () a0 (Int.ofNat a0.n) (0 : Int) h).bind fun w16 =>
    match w16.1 with
    | .inl r17 => some (r17, w16.2)
    | .inr o18 => some (true, w16.2))
noncomputable def slices_EqualFunc_api_Intent_api_Intent_api_Intent_api_Intent_intent_Same.T (k : Nat) : Tbl := tblOf [⟨58, anyArgs, wr [(.st [(.int .i64), (.int .i64), .sl]), (.st [(.int .i64), (.int .i64), .sl])] [.bool] (fun a h => intent_Same.f k (a.1) (a.2) h)⟩]
noncomputable def slices_EqualFunc_api_Intent_api_Intent_api_Intent_api_Intent_intent_Same.an (k : Nat) (p : Nat) : Option Ann := cond (Nat.beq p 58) (some (.pass [] (lrun [(1, .sl), (2, (.fn 58 0)), (15, .sl), (16, (.int .i64)), (17, (.int .i64))] (some [(6, .bool)]) [] 0 (fun a h => slices_EqualFunc_api_Intent_api_Intent_api_Intent_api_Intent_intent_Same.l0 k k (a.1) (a.2.1) (a.2.2.1) (a.2.2.2.1) (a.2.2.2.2) h))))
  (none)
noncomputable def slices_EqualFunc_api_Intent_api_Intent_api_Intent_api_Intent_intent_Same.body : Code := (Try.f57.body).getD .skip
noncomputable def slices_EqualFunc_api_Intent_api_Intent_api_Intent_api_Intent_intent_Same.c58 : Code := cat slices_EqualFunc_api_Intent_api_Intent_api_Intent_api_Intent_intent_Same.body [1, 1, 0, 1, 0, 0]
set_option maxRecDepth 100000 in
theorem slices_EqualFunc_api_Intent_api_Intent_api_Intent_api_Intent_intent_Same.TS {C : FuncId → Bool} {X : CallF} (hX : XOk C X) (k : Nat) : TblS Try.prog C X (slices_EqualFunc_api_Intent_api_Intent_api_Intent_api_Intent_intent_Same.T k) := by
  refine tblOf_sound ?_
  intro e he
  rcases List.mem_cons.1 he with rfl | he
  · exact wr_told (intent_Same.told hX k)
  exact absurd he List.not_mem_nil
set_option maxRecDepth 100000 in
theorem slices_EqualFunc_api_Intent_api_Intent_api_Intent_api_Intent_intent_Same.l0_pass {C : FuncId → Bool} {X : CallF} (hX : XOk C X) (k n : Nat) : PassS Try.prog C X 32 (.loop slices_EqualFunc_api_Intent_api_Intent_api_Intent_api_Intent_intent_Same.c58) (lrun [(1, .sl), (2, (.fn 58 0)), (15, .sl), (16, (.int .i64)), (17, (.int .i64))] (some [(6, .bool)]) [] 0 (fun a h => slices_EqualFunc_api_Intent_api_Intent_api_Intent_api_Intent_intent_Same.l0 k n (a.1) (a.2.1) (a.2.2.1) (a.2.2.2.1) (a.2.2.2.2) h)) :=
  loop_pass (ins := [(1, .sl), (2, (.fn 58 0)), (15, .sl), (16, (.int .i64)), (17, (.int .i64))]) (rets := (some [(6, .bool)])) (outs := []) (id := 0) (tbl := slices_EqualFunc_api_Intent_api_Intent_api_Intent_api_Intent_intent_Same.T k) (an := slices_EqualFunc_api_Intent_api_Intent_api_Intent_api_Intent_intent_Same.an k) (pb := 116) (slices_EqualFunc_api_Intent_api_Intent_api_Intent_api_Intent_intent_Same.TS hX k) (fun n => (fun a h => slices_EqualFunc_api_Intent_api_Intent_api_Intent_api_Intent_intent_Same.l0 k n (a.1) (a.2.1) (a.2.2.1) (a.2.2.2.1) (a.2.2.2.2) h)) (fun a h => rfl) (fun n a h => by kernel_rfl)
    (by
      have e : need (slices_EqualFunc_api_Intent_api_Intent_api_Intent_api_Intent_intent_Same.an k) slices_EqualFunc_api_Intent_api_Intent_api_Intent_api_Intent_intent_Same.c58 116 = [] := by kernel_rfl
      rw [e]; intro q hq; cases hq) n
set_option maxRecDepth 100000 in
theorem slices_EqualFunc_api_Intent_api_Intent_api_Intent_api_Intent_intent_Same.eq (k : Nat) (a : RT [.sl, .sl, (.fn 58 0)]) (h : H) : (fun a h => slices_EqualFunc_api_Intent_api_Intent_api_Intent_api_Intent_intent_Same.f k (a.1) (a.2.1) (a.2.2) h) a h = kfun Try.prog (slices_EqualFunc_api_Intent_api_Intent_api_Intent_api_Intent_intent_Same.T k) (slices_EqualFunc_api_Intent_api_Intent_api_Intent_api_Intent_intent_Same.an k) (RT [.bool] × H) Try.f57 (encL [.sl, .sl, (.fn 58 0)] a) h (fun vs h' => (decL [.bool] vs).bind fun x => some (x, h')) := by kernel_rfl
set_option maxRecDepth 100000 in
theorem slices_EqualFunc_api_Intent_api_Intent_api_Intent_api_Intent_intent_Same.told {C : FuncId → Bool} {X : CallF} (hX : XOk C X) (k : Nat) : Den.Told Try.prog C X 57 [.sl, .sl, (.fn 58 0)] [.bool] (fun a h => slices_EqualFunc_api_Intent_api_Intent_api_Intent_api_Intent_intent_Same.f k (a.1) (a.2.1) (a.2.2) h) :=
  told_of fun a h q e => fn_of (c := slices_EqualFunc_api_Intent_api_Intent_api_Intent_api_Intent_intent_Same.body) (slices_EqualFunc_api_Intent_api_Intent_api_Intent_api_Intent_intent_Same.TS hX k) Try.func57 (by kernel_rfl) (hX.no 57 _ h (by decide))
    (by
      have e : need (slices_EqualFunc_api_Intent_api_Intent_api_Intent_api_Intent_intent_Same.an k) slices_EqualFunc_api_Intent_api_Intent_api_Intent_api_Intent_intent_Same.body 1 = [(Code.loop slices_EqualFunc_api_Intent_api_Intent_api_Intent_api_Intent_intent_Same.c58, lrun [(1, .sl), (2, (.fn 58 0)), (15, .sl), (16, (.int .i64)), (17, (.int .i64))] (some [(6, .bool)]) [] 0 (fun a h => slices_EqualFunc_api_Intent_api_Intent_api_Intent_api_Intent_intent_Same.l0 k k (a.1) (a.2.1) (a.2.2.1) (a.2.2.2.1) (a.2.2.2.2) h))] := by kernel_rfl
      rw [e]; intro q hq
      rcases List.mem_cons.1 hq with rfl | hq
      · exact slices_EqualFunc_api_Intent_api_Intent_api_Intent_api_Intent_intent_Same.l0_pass hX k k
      cases hq)
    ((slices_EqualFunc_api_Intent_api_Intent_api_Intent_api_Intent_intent_Same.eq k a h).symm.trans e)
/-! ### corbel/call.SameRep -/
noncomputable def call_SameRep.f (k : Nat) (a0 : (Int × Int × Sl × Sl)) (a1 : (Int × Int × Sl × Sl)) (h : H) : Option ((Bool) × H) :=
  (asI .i64 (ldc (newR (newR h 67 4 [(Value.int .i64 a0.1), (Value.int .i64 a0.2.1), (Value.slice a0.2.2.1.a a0.2.2.1.n a0.2.2.1.c), (Value.slice a0.2.2.2.a a0.2.2.2.n a0.2.2.2.c)]) 67 4 [(Value.int .i64 a1.1), (Value.int .i64 a1.2.1), (Value.slice a1.2.2.1.a a1.2.2.1.n a1.2.2.1.c), (Value.slice a1.2.2.2.a a1.2.2.2.n a1.2.2.2.c)]) (some ⟨h.next, 0, none⟩))).bind fun n1 =>
    (asI .i64 (ldc (newR (newR h 67 4 [(Value.int .i64 a0.1), (Value.int .i64 a0.2.1), (Value.slice a0.2.2.1.a a0.2.2.1.n a0.2.2.1.c), (Value.slice a0.2.2.2.a a0.2.2.2.n a0.2.2.2.c)]) 67 4 [(Value.int .i64 a1.1), (Value.int .i64 a1.2.1), (Value.slice a1.2.2.1.a a1.2.2.1.n a1.2.2.1.c), (Value.slice a1.2.2.2.a a1.2.2.2.n a1.2.2.2.c)]) (some ⟨(newR h 67 4 [(Value.int .i64 a0.1), (Value.int .i64 a0.2.1), (Value.slice a0.2.2.1.a a0.2.2.1.n a0.2.2.1.c), (Value.slice a0.2.2.2.a a0.2.2.2.n a0.2.2.2.c)]).next, 0, none⟩))).bind fun n2 =>
    (cond (n1 == n2) ((asI .i64 (ldc (newR (newR h 67 4 [(Value.int .i64 a0.1), (Value.int .i64 a0.2.1), (Value.slice a0.2.2.1.a a0.2.2.1.n a0.2.2.1.c), (Value.slice a0.2.2.2.a a0.2.2.2.n a0.2.2.2.c)]) 67 4 [(Value.int .i64 a1.1), (Value.int .i64 a1.2.1), (Value.slice a1.2.2.1.a a1.2.2.1.n a1.2.2.1.c), (Value.slice a1.2.2.2.a a1.2.2.2.n a1.2.2.2.c)]) (some ⟨h.next, 1, none⟩))).bind fun n3 =>
    (asI .i64 (ldc (newR (newR h 67 4 [(Value.int .i64 a0.1), (Value.int .i64 a0.2.1), (Value.slice a0.2.2.1.a a0.2.2.1.n a0.2.2.1.c), (Value.slice a0.2.2.2.a a0.2.2.2.n a0.2.2.2.c)]) 67 4 [(Value.int .i64 a1.1), (Value.int .i64 a1.2.1), (Value.slice a1.2.2.1.a a1.2.2.1.n a1.2.2.1.c), (Value.slice a1.2.2.2.a a1.2.2.2.n a1.2.2.2.c)]) (some ⟨(newR h 67 4 [(Value.int .i64 a0.1), (Value.int .i64 a0.2.1), (Value.slice a0.2.2.1.a a0.2.2.1.n a0.2.2.1.c), (Value.slice a0.2.2.2.a a0.2.2.2.n a0.2.2.2.c)]).next, 1, none⟩))).bind fun n4 =>
    some (n3 == n4, (newR (newR h 67 4 [(Value.int .i64 a0.1), (Value.int .i64 a0.2.1), (Value.slice a0.2.2.1.a a0.2.2.1.n a0.2.2.1.c), (Value.slice a0.2.2.2.a a0.2.2.2.n a0.2.2.2.c)]) 67 4 [(Value.int .i64 a1.1), (Value.int .i64 a1.2.1), (Value.slice a1.2.2.1.a a1.2.2.1.n a1.2.2.1.c), (Value.slice a1.2.2.2.a a1.2.2.2.n a1.2.2.2.c)])))
      (some (false, (newR (newR h 67 4 [(Value.int .i64 a0.1), (Value.int .i64 a0.2.1), (Value.slice a0.2.2.1.a a0.2.2.1.n a0.2.2.1.c), (Value.slice a0.2.2.2.a a0.2.2.2.n a0.2.2.2.c)]) 67 4 [(Value.int .i64 a1.1), (Value.int .i64 a1.2.1), (Value.slice a1.2.2.1.a a1.2.2.1.n a1.2.2.1.c), (Value.slice a1.2.2.2.a a1.2.2.2.n a1.2.2.2.c)])))).bind fun g5 =>
    (cond g5.1 ((asS (ldc g5.2 (some ⟨h.next, 2, none⟩))).bind fun s6 =>
    (asS (ldc g5.2 (some ⟨(newR h 67 4 [(Value.int .i64 a0.1), (Value.int .i64 a0.2.1), (Value.slice a0.2.2.1.a a0.2.2.1.n a0.2.2.1.c), (Value.slice a0.2.2.2.a a0.2.2.2.n a0.2.2.2.c)]).next, 2, none⟩))).bind fun s7 =>
    (slices_EqualFunc_api_Piece_api_Piece_api_Piece_api_Piece_chunk_Same.f k s6 s7 () g5.2).bind fun q8 =>
    some (q8.1, q8.2))
      (some (false, g5.2))).bind fun g9 =>
    (cond g9.1 ((asS (ldc g9.2 (some ⟨h.next, 3, none⟩))).bind fun s10 =>
    (asS (ldc g9.2 (some ⟨(newR h 67 4 [(Value.int .i64 a0.1), (Value.int .i64 a0.2.1), (Value.slice a0.2.2.1.a a0.2.2.1.n a0.2.2.1.c), (Value.slice a0.2.2.2.a a0.2.2.2.n a0.2.2.2.c)]).next, 3, none⟩))).bind fun s11 =>
    (slices_EqualFunc_api_Intent_api_Intent_api_Intent_api_Intent_intent_Same.f k s10 s11 () g9.2).bind fun q12 =>
    some (q12.1, q12.2))
      (some (false, g9.2))).bind fun g13 =>
    some (g13.1, g13.2)
noncomputable def call_SameRep.T (k : Nat) : Tbl := tblOf [⟨55, chkF [(2, 56)], wr [.sl, .sl, (.fn 56 0)] [.bool] (fun a h => slices_EqualFunc_api_Piece_api_Piece_api_Piece_api_Piece_chunk_Same.f k (a.1) (a.2.1) (a.2.2) h)⟩,
  ⟨57, chkF [(2, 58)], wr [.sl, .sl, (.fn 58 0)] [.bool] (fun a h => slices_EqualFunc_api_Intent_api_Intent_api_Intent_api_Intent_intent_Same.f k (a.1) (a.2.1) (a.2.2) h)⟩]
noncomputable def call_SameRep.an (k : Nat) (p : Nat) : Option Ann := none
noncomputable def call_SameRep.body : Code := (Try.f36.body).getD .skip
set_option maxRecDepth 100000 in
theorem call_SameRep.TS {C : FuncId → Bool} {X : CallF} (hX : XOk C X) (k : Nat) : TblS Try.prog C X (call_SameRep.T k) := by
  refine tblOf_sound ?_
  intro e he
  rcases List.mem_cons.1 he with rfl | he
  · exact wr_told (slices_EqualFunc_api_Piece_api_Piece_api_Piece_api_Piece_chunk_Same.told hX k)
  rcases List.mem_cons.1 he with rfl | he
  · exact wr_told (slices_EqualFunc_api_Intent_api_Intent_api_Intent_api_Intent_intent_Same.told hX k)
  exact absurd he List.not_mem_nil
set_option maxRecDepth 100000 in
theorem call_SameRep.eq (k : Nat) (a : RT [(.st [(.int .i64), (.int .i64), .sl, .sl]), (.st [(.int .i64), (.int .i64), .sl, .sl])]) (h : H) : (fun a h => call_SameRep.f k (a.1) (a.2) h) a h = kfun Try.prog (call_SameRep.T k) (call_SameRep.an k) (RT [.bool] × H) Try.f36 (encL [(.st [(.int .i64), (.int .i64), .sl, .sl]), (.st [(.int .i64), (.int .i64), .sl, .sl])] a) h (fun vs h' => (decL [.bool] vs).bind fun x => some (x, h')) := by kernel_rfl
set_option maxRecDepth 100000 in
theorem call_SameRep.told {C : FuncId → Bool} {X : CallF} (hX : XOk C X) (k : Nat) : Den.Told Try.prog C X 36 [(.st [(.int .i64), (.int .i64), .sl, .sl]), (.st [(.int .i64), (.int .i64), .sl, .sl])] [.bool] (fun a h => call_SameRep.f k (a.1) (a.2) h) :=
  told_of fun a h q e => fn_of (c := call_SameRep.body) (call_SameRep.TS hX k) Try.func36 (by kernel_rfl) (hX.no 36 _ h (by decide))
    (by
      have e : need (call_SameRep.an k) call_SameRep.body 1 = [] := by kernel_rfl
      rw [e]; intro q hq; cases hq)
    ((call_SameRep.eq k a h).symm.trans e)
/-! ### corbel/corbellaw11.CallReps -/
noncomputable def corbellaw11_CallReps.l1 (k : Nat) (n : Nat) : Int → Sl → Int → (Option Addr) → Sl → Int → H → Option ((Unit) × H) :=
  Nat.rec (motive := fun _ => Int → Sl → Int → (Option Addr) → Sl → Int → H → Option ((Unit) × H)) (fun _ _ _ _ _ _ _ => none) (fun _ ih x74 x75 x76 x77 x78 x79 h80 => (cond (decide (x79 < (Int.ofNat x75.n))) (some (decide (x79 < (2 : Int)), h80))
      (some (false, h80))).bind fun g81 =>
    cond g81.1
      ((asP (ixs 1 x75.a x75.n x79)).bind fun p82 =>
    (asI .i64 (ldc g81.2 p82)).bind fun n83 =>
    (corbelhand_Pick.f k n83 (Int.ofNat x78.n) g81.2).bind fun q84 =>
    (asP (ixs 1 x78.a x78.n q84.1)).bind fun p85 =>
    (asI .u8 (ldc q84.2 p85)).bind fun n86 =>
    (asI .u8 (intA .xor .u8 n86 x76)).bind fun n87 =>
    (asP (ixs 1 x78.a x78.n q84.1)).bind fun p88 =>
    (stv 1 q84.2 p88 [(Value.int .u8 n87)]).bind fun q89 =>
    ih x74 x75 x76 x77 x78 (wrapA .i64 (x79 + (1 : Int))) q89.2)
      (some ((), g81.2))) n
theorem corbellaw11_CallReps.l1_zero (k : Nat) (x74 : Int) (x75 : Sl) (x76 : Int) (x77 : Option Addr) (x78 : Sl) (x79 : Int) (h80 : H) : corbellaw11_CallReps.l1 k 0 x74 x75 x76 x77 x78 x79 h80 = none := rfl
theorem corbellaw11_CallReps.l1_succ (k n : Nat) (x74 : Int) (x75 : Sl) (x76 : Int) (x77 : Option Addr) (x78 : Sl) (x79 : Int) (h80 : H) : corbellaw11_CallReps.l1 k (n + 1) x74 x75 x76 x77 x78 x79 h80 = ((cond (decide (x79 < (Int.ofNat x75.n))) (some (decide (x79 < (2 : Int)), h80))
      (some (false, h80))).bind fun g81 =>
    cond g81.1
      ((asP (ixs 1 x75.a x75.n x79)).bind fun p82 =>
    (asI .i64 (ldc g81.2 p82)).bind fun n83 =>
    (corbelhand_Pick.f k n83 (Int.ofNat x78.n) g81.2).bind fun q84 =>
    (asP (ixs 1 x78.a x78.n q84.1)).bind fun p85 =>
    (asI .u8 (ldc q84.2 p85)).bind fun n86 =>
    (asI .u8 (intA .xor .u8 n86 x76)).bind fun n87 =>
    (asP (ixs 1 x78.a x78.n q84.1)).bind fun p88 =>
    (stv 1 q84.2 p88 [(Value.int .u8 n87)]).bind fun q89 =>
    corbellaw11_CallReps.l1 k n x74 x75 x76 x77 x78 (wrapA .i64 (x79 + (1 : Int))) q89.2)
      (some ((), g81.2))) := rfl
noncomputable def corbellaw11_CallReps.l0 (k : Nat) (n : Nat) : Sl → Int → Sl → Int → Sl → Int → (Option Addr) → Int → H → Option ((Unit) × H) :=
  Nat.rec (motive := fun _ => Sl → Int → Sl → Int → Sl → Int → (Option Addr) → Int → H → Option ((Unit) × H)) (fun _ _ _ _ _ _ _ _ _ => none) (fun _ ih x8 x9 x10 x11 x12 x13 x14 x15 h16 => (cond (decide (x15 < (Int.ofNat x8.n))) (some (decide (x15 < (6 : Int)), h16))
      (some (false, h16))).bind fun g17 =>
    cond g17.1
      ((cond (decide (x15 < x9))
      ((asP (fadd 2 x14)).bind fun p18 =>
    (asS (ldc g17.2 p18)).bind fun s19 =>
    (asP (ixs 6 x8.a x8.n x15)).bind fun p20 =>
    (asP (fadd 1 p20)).bind fun p21 =>
    (asI .i64 (ldc g17.2 p21)).bind fun n22 =>
    (asP (ixs 6 x8.a x8.n x15)).bind fun p23 =>
    (asP (fadd 2 p23)).bind fun p24 =>
    (asI .i64 (ldc g17.2 p24)).bind fun n25 =>
    (asP (ixs 6 x8.a x8.n x15)).bind fun p26 =>
    (asP (fadd 3 p26)).bind fun p27 =>
    (asI .i64 (ldc g17.2 p27)).bind fun n28 =>
    (asP (ixs 6 x8.a x8.n x15)).bind fun p29 =>
    (asP (fadd 4 p29)).bind fun p30 =>
    (asI .i64 (ldc g17.2 p30)).bind fun n31 =>
    (asP (ixs 6 x8.a x8.n x15)).bind fun p32 =>
    (asP (fadd 5 p32)).bind fun p33 =>
    (asI .i64 (ldc g17.2 p33)).bind fun n34 =>
    (corbelhand_Piece.f k n22 n25 n28 n31 n34 g17.2).bind fun q35 =>
    (asS2 (apv 69 4 48 (Value.slice s19.a s19.n s19.c) (Value.slice (some ⟨q35.2.next, 0, none⟩) 1 1) (newR q35.2 69 4 [(Value.int .i64 q35.1.1), (Value.int .i64 q35.1.2.1), (Value.int .i64 q35.1.2.2.1), (Value.slice q35.1.2.2.2.a q35.1.2.2.2.n q35.1.2.2.2.c)]))).bind fun q36 =>
    (asP (fadd 2 x14)).bind fun p37 =>
    (stv 1 q36.2 p37 [(Value.slice q36.1.a q36.1.n q36.1.c)]).bind fun q38 =>
    cond (same1 g17.2 q35.2 (some (Value.pointer p18)) && (true)) (some ((), q38.2)) none)
      ((asP (fadd 3 x14)).bind fun p39 =>
    (asS (ldc g17.2 p39)).bind fun s40 =>
    (asP (ixs 6 x8.a x8.n x15)).bind fun p41 =>
    (asP (fadd 1 p41)).bind fun p42 =>
    (asI .i64 (ldc g17.2 p42)).bind fun n43 =>
    (asP (ixs 6 x8.a x8.n x15)).bind fun p44 =>
    (asP (fadd 2 p44)).bind fun p45 =>
    (asI .i64 (ldc g17.2 p45)).bind fun n46 =>
    (asP (ixs 6 x8.a x8.n x15)).bind fun p47 =>
    (asP (fadd 4 p47)).bind fun p48 =>
    (asI .i64 (ldc g17.2 p48)).bind fun n49 =>
    (asP (ixs 6 x8.a x8.n x15)).bind fun p50 =>
    (asP (fadd 5 p50)).bind fun p51 =>
    (asI .i64 (ldc g17.2 p51)).bind fun n52 =>
    (corbelhand_Intent.f k n43 n46 n49 n52 g17.2).bind fun q53 =>
    (asS2 (apv 72 3 40 (Value.slice s40.a s40.n s40.c) (Value.slice (some ⟨q53.2.next, 0, none⟩) 1 1) (newR q53.2 72 3 [(Value.int .i64 q53.1.1), (Value.int .i64 q53.1.2.1), (Value.slice q53.1.2.2.a q53.1.2.2.n q53.1.2.2.c)]))).bind fun q54 =>
    (asP (fadd 3 x14)).bind fun p55 =>
    (stv 1 q54.2 p55 [(Value.slice q54.1.a q54.1.n q54.1.c)]).bind fun q56 =>
    cond (same1 g17.2 q53.2 (some (Value.pointer p39)) && (true)) (some ((), q56.2)) none) : Option ((Unit) × H)).bind fun j57 =>
    ih x8 x9 x10 x11 x12 x13 x14 (wrapA .i64 (x15 + (1 : Int))) j57.2)
      (some ((), g17.2))) n
theorem corbellaw11_CallReps.l0_zero (k : Nat) (x8 : Sl) (x9 : Int) (x10 : Sl) (x11 : Int) (x12 : Sl) (x13 : Int) (x14 : Option Addr) (x15 : Int) (h16 : H) : corbellaw11_CallReps.l0 k 0 x8 x9 x10 x11 x12 x13 x14 x15 h16 = none := rfl
theorem corbellaw11_CallReps.l0_succ (k n : Nat) (x8 : Sl) (x9 : Int) (x10 : Sl) (x11 : Int) (x12 : Sl) (x13 : Int) (x14 : Option Addr) (x15 : Int) (h16 : H) : corbellaw11_CallReps.l0 k (n + 1) x8 x9 x10 x11 x12 x13 x14 x15 h16 = ((cond (decide (x15 < (Int.ofNat x8.n))) (some (decide (x15 < (6 : Int)), h16))
      (some (false, h16))).bind fun g17 =>
    cond g17.1
      ((cond (decide (x15 < x9))
      ((asP (fadd 2 x14)).bind fun p18 =>
    (asS (ldc g17.2 p18)).bind fun s19 =>
    (asP (ixs 6 x8.a x8.n x15)).bind fun p20 =>
    (asP (fadd 1 p20)).bind fun p21 =>
    (asI .i64 (ldc g17.2 p21)).bind fun n22 =>
    (asP (ixs 6 x8.a x8.n x15)).bind fun p23 =>
    (asP (fadd 2 p23)).bind fun p24 =>
    (asI .i64 (ldc g17.2 p24)).bind fun n25 =>
    (asP (ixs 6 x8.a x8.n x15)).bind fun p26 =>
    (asP (fadd 3 p26)).bind fun p27 =>
    (asI .i64 (ldc g17.2 p27)).bind fun n28 =>
    (asP (ixs 6 x8.a x8.n x15)).bind fun p29 =>
    (asP (fadd 4 p29)).bind fun p30 =>
    (asI .i64 (ldc g17.2 p30)).bind fun n31 =>
    (asP (ixs 6 x8.a x8.n x15)).bind fun p32 =>
    (asP (fadd 5 p32)).bind fun p33 =>
    (asI .i64 (ldc g17.2 p33)).bind fun n34 =>
    (corbelhand_Piece.f k n22 n25 n28 n31 n34 g17.2).bind fun q35 =>
    (asS2 (apv 69 4 48 (Value.slice s19.a s19.n s19.c) (Value.slice (some ⟨q35.2.next, 0, none⟩) 1 1) (newR q35.2 69 4 [(Value.int .i64 q35.1.1), (Value.int .i64 q35.1.2.1), (Value.int .i64 q35.1.2.2.1), (Value.slice q35.1.2.2.2.a q35.1.2.2.2.n q35.1.2.2.2.c)]))).bind fun q36 =>
    (asP (fadd 2 x14)).bind fun p37 =>
    (stv 1 q36.2 p37 [(Value.slice q36.1.a q36.1.n q36.1.c)]).bind fun q38 =>
    cond (same1 g17.2 q35.2 (some (Value.pointer p18)) && (true)) (some ((), q38.2)) none)
      ((asP (fadd 3 x14)).bind fun p39 =>
    (asS (ldc g17.2 p39)).bind fun s40 =>
    (asP (ixs 6 x8.a x8.n x15)).bind fun p41 =>
    (asP (fadd 1 p41)).bind fun p42 =>
    (asI .i64 (ldc g17.2 p42)).bind fun n43 =>
    (asP (ixs 6 x8.a x8.n x15)).bind fun p44 =>
    (asP (fadd 2 p44)).bind fun p45 =>
    (asI .i64 (ldc g17.2 p45)).bind fun n46 =>
    (asP (ixs 6 x8.a x8.n x15)).bind fun p47 =>
    (asP (fadd 4 p47)).bind fun p48 =>
    (asI .i64 (ldc g17.2 p48)).bind fun n49 =>
    (asP (ixs 6 x8.a x8.n x15)).bind fun p50 =>
    (asP (fadd 5 p50)).bind fun p51 =>
    (asI .i64 (ldc g17.2 p51)).bind fun n52 =>
    (corbelhand_Intent.f k n43 n46 n49 n52 g17.2).bind fun q53 =>
    (asS2 (apv 72 3 40 (Value.slice s40.a s40.n s40.c) (Value.slice (some ⟨q53.2.next, 0, none⟩) 1 1) (newR q53.2 72 3 [(Value.int .i64 q53.1.1), (Value.int .i64 q53.1.2.1), (Value.slice q53.1.2.2.a q53.1.2.2.n q53.1.2.2.c)]))).bind fun q54 =>
    (asP (fadd 3 x14)).bind fun p55 =>
    (stv 1 q54.2 p55 [(Value.slice q54.1.a q54.1.n q54.1.c)]).bind fun q56 =>
    cond (same1 g17.2 q53.2 (some (Value.pointer p39)) && (true)) (some ((), q56.2)) none) : Option ((Unit) × H)).bind fun j57 =>
    corbellaw11_CallReps.l0 k n x8 x9 x10 x11 x12 x13 x14 (wrapA .i64 (x15 + (1 : Int))) j57.2)
      (some ((), g17.2))) := rfl
noncomputable def corbellaw11_CallReps.f (k : Nat) (a0 : Int) (a1 : Int) (a2 : Sl) (a3 : Int) (a4 : Sl) (a5 : Int) (a6 : Sl) (a7 : Int) (h : H) : Option ((Bool) × H) :=
  (corbelhand_Pick.f k a0 (14 : Int) h).bind fun q1 =>
    (corbelhand_Pick.f k a1 (2147483648 : Int) q1.2).bind fun q2 =>
    (stv 4 (newR q2.2 67 4 [(Value.int .i64 (0 : Int)), (Value.int .i64 (0 : Int)), (Value.slice none 0 0), (Value.slice none 0 0)]) (some ⟨q2.2.next, 0, none⟩) [(Value.int .i64 q1.1), (Value.int .i64 q2.1), (Value.slice none 0 0), (Value.slice none 0 0)]).bind fun q3 =>
    (cond ((a5.tmod (19 : Int)) == (18 : Int))
      ((stv 1 q3.2 (some ⟨q2.2.next, 0, none⟩) [(Value.int .i64 a0)]).bind fun q4 =>
    (stv 1 q4.2 (some ⟨q2.2.next, 1, none⟩) [(Value.int .i64 a1)]).bind fun q5 =>
    some ((), q5.2))
      (some ((), q3.2)) : Option ((Unit) × H)).bind fun j6 =>
    (corbelhand_Pick.f k a3 (4 : Int) j6.2).bind fun q7 =>
    (corbellaw11_CallReps.l0 k k a2 q7.1 a4 a5 a6 a7 (some ⟨q2.2.next, 0, none⟩) (0 : Int) q7.2).bind fun w58 =>
    (asSt [(.int .i64), (.int .i64), .sl, .sl] (lda 4 w58.2 (some ⟨q2.2.next, 0, none⟩))).bind fun s59 =>
    (corbelref7_RightRep.f k (s59.1, s59.2.1, s59.2.2.1, s59.2.2.2) w58.2).bind fun q60 =>
    (asSt [(.int .i64), (.int .i64), .sl, .sl] (lda 4 q60.2 (some ⟨q2.2.next, 0, none⟩))).bind fun s61 =>
    (call_LayRep.f k (s61.1, s61.2.1, s61.2.2.1, s61.2.2.2) q60.2).bind fun q62 =>
    (cond q60.1
      ((asSt [(.int .i64), (.int .i64), .sl, .sl] (lda 4 q62.2 (some ⟨q2.2.next, 0, none⟩))).bind fun s63 =>
    (corbelref7_LayRep.f k (s63.1, s63.2.1, s63.2.2.1, s63.2.2.2) q62.2).bind fun q64 =>
    some (q64.1, q64.2))
      (some ((⟨none, 0, 0⟩ : Sl), q62.2)) : Option ((Sl) × H)).bind fun j65 =>
    (asT (txt j65.2 (Value.slice q62.1.1.a q62.1.1.n q62.1.1.c))).bind fun s66 =>
    (asT (txt j65.2 (Value.slice j65.1.a j65.1.n j65.1.c))).bind fun s67 =>
    (cond (!(s66.toList == s67.toList)) (some (true, j65.2))
      (some (!((q62.1.2 == (0 : Int)) == q60.1), j65.2))).bind fun g68 =>
    (cond g68.1 (some (true, g68.2))
      ((cond (!q60.1) (some (q62.1.2 != (1 : Int), g68.2))
      (some (false, g68.2))).bind fun g69 =>
    some (g69.1, g69.2))).bind fun g70 =>
    cond g70.1
      (some (false, g70.2))
      ((corbelhand_Few.f k a4 (Int.ofNat a4.n) g70.2).bind fun q71 =>
    (cond q60.1 (some (decide ((a5.tmod (4 : Int)) > (0 : Int)), q71.2))
      (some (false, q71.2))).bind fun g72 =>
    (cond g72.1
      ((corbelhand_Few.f k j65.1 (Int.ofNat j65.1.n) g72.2).bind fun q73 =>
    (corbellaw11_CallReps.l1 k k a5 a6 a7 (some ⟨q2.2.next, 0, none⟩) q73.1 (0 : Int) q73.2).bind fun w90 =>
    (corbelhand_Pick.f k (wrapA .i64 (a5.tdiv (4 : Int))) (30 : Int) w90.2).bind fun q91 =>
    (asS (subs 1 (Value.slice q73.1.a q73.1.n q73.1.c) none (some (wrapA .i64 ((Int.ofNat q73.1.n) - (wrapA .i64 (q91.1.tdiv (28 : Int)))))))).bind fun s92 =>
    some (s92, q91.2))
      (some (q71.1, g72.2)) : Option ((Sl) × H)).bind fun j93 =>
    (call_ReadRep.f k j93.1 j93.2).bind fun q94 =>
    (stv 4 (newR q94.2 67 4 [(Value.int .i64 (0 : Int)), (Value.int .i64 (0 : Int)), (Value.slice none 0 0), (Value.slice none 0 0)]) (some ⟨q94.2.next, 0, none⟩) [(Value.int .i64 q94.1.1.1), (Value.int .i64 q94.1.1.2.1), (Value.slice q94.1.1.2.2.1.a q94.1.1.2.2.1.n q94.1.1.2.2.1.c), (Value.slice q94.1.1.2.2.2.a q94.1.1.2.2.2.n q94.1.1.2.2.2.c)]).bind fun q95 =>
    (corbelref7_ReadRep.f k j93.1 q95.2).bind fun q96 =>
    (stv 4 (newR q96.2 67 4 [(Value.int .i64 (0 : Int)), (Value.int .i64 (0 : Int)), (Value.slice none 0 0), (Value.slice none 0 0)]) (some ⟨q96.2.next, 0, none⟩) [(Value.int .i64 q96.1.1.1), (Value.int .i64 q96.1.1.2.1), (Value.slice q96.1.1.2.2.1.a q96.1.1.2.2.1.n q96.1.1.2.2.1.c), (Value.slice q96.1.1.2.2.2.a q96.1.1.2.2.2.n q96.1.1.2.2.2.c)]).bind fun q97 =>
    (cond true ((asSt [(.int .i64), (.int .i64), .sl, .sl] (lda 4 q97.2 (some ⟨q94.2.next, 0, none⟩))).bind fun s98 =>
    (asSt [(.int .i64), (.int .i64), .sl, .sl] (lda 4 q97.2 (some ⟨q96.2.next, 0, none⟩))).bind fun s99 =>
    (corbelref7_SameRep.f k (s98.1, s98.2.1, s98.2.2.1, s98.2.2.2) (s99.1, s99.2.1, s99.2.2.1, s99.2.2.2) q97.2).bind fun q100 =>
    some (q100.1, q100.2, [], []))
      (some (false, q97.2, [], [])) : Option (Bool × H × LEs × EFs)).bind fun g101 =>
    (cond g101.1 (some ((q94.1.2 == (0 : Int)) == q96.1.2, g101.2.1, [], []))
      (some (false, g101.2.1, [], [])) : Option (Bool × H × LEs × EFs)).bind fun g102 =>
    (cond g102.1 ((cond q96.1.2 (some (true, g102.2.1, [], []))
      (some (q94.1.2 == (2 : Int), g102.2.1, [], [])) : Option (Bool × H × LEs × EFs)).bind fun g103 =>
    some (g103.1, g103.2.1, g103.2.2.1, g103.2.2.2))
      (some (false, g102.2.1, [], [])) : Option (Bool × H × LEs × EFs)).bind fun g104 =>
    (cond g104.1 ((asSt [(.int .i64), (.int .i64), .sl, .sl] (lda 4 g104.2.1 (some ⟨q2.2.next, 0, none⟩))).bind fun s105 =>
    (asSt [(.int .i64), (.int .i64), .sl, .sl] (lda 4 g104.2.1 (some ⟨q94.2.next, 0, none⟩))).bind fun s106 =>
    (call_SameRep.f k (s105.1, s105.2.1, s105.2.2.1, s105.2.2.2) (s106.1, s106.2.1, s106.2.2.1, s106.2.2.2) g104.2.1).bind fun q107 =>
    (asSt [(.int .i64), (.int .i64), .sl, .sl] (lda 4 q107.2 (some ⟨q2.2.next, 0, none⟩))).bind fun s108 =>
    (asSt [(.int .i64), (.int .i64), .sl, .sl] (lda 4 q107.2 (some ⟨q96.2.next, 0, none⟩))).bind fun s109 =>
    (corbelref7_SameRep.f k (s108.1, s108.2.1, s108.2.2.1, s108.2.2.2) (s109.1, s109.2.1, s109.2.2.1, s109.2.2.2) q107.2).bind fun q110 =>
    some (q107.1 == q110.1, q110.2, ([(23, (blkOf (some (Value.pointer (some ⟨q2.2.next, 0, none⟩)))))] ++ [(24, (blkOf (some (Value.pointer (some ⟨q96.2.next, 0, none⟩)))))]), [(22, g104.2.1, q107.2)]))
      (some (false, g104.2.1, [(23, (blkOf (some (Value.pointer (some ⟨q2.2.next, 0, none⟩))))), (24, (blkOf (some (Value.pointer (some ⟨q96.2.next, 0, none⟩)))))], [])) : Option (Bool × H × LEs × EFs)).bind fun g111 =>
    cond (dynL [(23, 22), (24, 22)] (((g101.2.2.1 ++ g102.2.2.1) ++ g104.2.2.1) ++ g111.2.2.1) (((g101.2.2.2 ++ g102.2.2.2) ++ g104.2.2.2) ++ g111.2.2.2)) (some (g111.1, g111.2.1)) none)
noncomputable def corbellaw11_CallReps.T (k : Nat) : Tbl := tblOf [⟨14, anyArgs, wr [(.int .i64), (.int .i64)] [(.int .i64)] (fun a h => corbelhand_Pick.f k (a.1) (a.2) h)⟩,
  ⟨31, anyArgs, wr [(.int .i64), (.int .i64), (.int .i64), (.int .i64), (.int .i64)] [(.st [(.int .i64), (.int .i64), (.int .i64), .sl])] (fun a h => corbelhand_Piece.f k (a.1) (a.2.1) (a.2.2.1) (a.2.2.2.1) (a.2.2.2.2) h)⟩,
  ⟨32, anyArgs, wr [(.int .i64), (.int .i64), (.int .i64), (.int .i64)] [(.st [(.int .i64), (.int .i64), .sl])] (fun a h => corbelhand_Intent.f k (a.1) (a.2.1) (a.2.2.1) (a.2.2.2) h)⟩,
  ⟨37, anyArgs, wr [(.st [(.int .i64), (.int .i64), .sl, .sl])] [.bool] (fun a h => corbelref7_RightRep.f k a h)⟩,
  ⟨33, anyArgs, wr [(.st [(.int .i64), (.int .i64), .sl, .sl])] [.sl, (.int .i64)] (fun a h => call_LayRep.f k a h)⟩,
  ⟨38, anyArgs, wr [(.st [(.int .i64), (.int .i64), .sl, .sl])] [.sl] (fun a h => corbelref7_LayRep.f k a h)⟩,
  ⟨24, anyArgs, wr [.sl, (.int .i64)] [.sl] (fun a h => corbelhand_Few.f k (a.1) (a.2) h)⟩,
  ⟨34, anyArgs, wr [.sl] [(.st [(.int .i64), (.int .i64), .sl, .sl]), (.int .i64)] (fun a h => call_ReadRep.f k a h)⟩,
  ⟨39, anyArgs, wr [.sl] [(.st [(.int .i64), (.int .i64), .sl, .sl]), .bool] (fun a h => corbelref7_ReadRep.f k a h)⟩,
  ⟨27, anyArgs, knownW⟩,
  ⟨35, anyArgs, wr [(.st [(.int .i64), (.int .i64), .sl, .sl]), (.st [(.int .i64), (.int .i64), .sl, .sl])] [.bool] (fun a h => corbelref7_SameRep.f k (a.1) (a.2) h)⟩,
  ⟨36, anyArgs, wr [(.st [(.int .i64), (.int .i64), .sl, .sl]), (.st [(.int .i64), (.int .i64), .sl, .sl])] [.bool] (fun a h => call_SameRep.f k (a.1) (a.2) h)⟩]
noncomputable def corbellaw11_CallReps.an (k : Nat) (p : Nat) : Option Ann := cond (Nat.beq p 16381) (some (.join [17] none [(23, .sl)]))
  (cond (Nat.beq p 524202) (some (.pass [5, 17, 23] (lrun [(5, (.int .i64)), (6, .sl), (7, (.int .u8)), (17, .ptr), (23, .sl), (24, (.int .i64))] none [] 2 (fun a h => corbellaw11_CallReps.l1 k k (a.1) (a.2.1) (a.2.2.1) (a.2.2.2.1) (a.2.2.2.2.1) (a.2.2.2.2.2) h))))
  (cond (Nat.beq p 2045) (some (.join [4, 5, 6, 7, 17, 19, 20, 21] none [(22, .sl)]))
  (cond (Nat.beq p 250) (some (.pass [4, 5, 6, 7, 17] (lrun [(2, .sl), (3, (.int .i64)), (4, .sl), (5, (.int .i64)), (6, .sl), (7, (.int .u8)), (17, .ptr), (18, (.int .i64))] none [] 0 (fun a h => corbellaw11_CallReps.l0 k k (a.1) (a.2.1) (a.2.2.1) (a.2.2.2.1) (a.2.2.2.2.1) (a.2.2.2.2.2.1) (a.2.2.2.2.2.2.1) (a.2.2.2.2.2.2.2) h))))
  (cond (Nat.beq p 8009) (some (.join [2, 3, 4, 5, 6, 7, 17, 18] none []))
  (cond (Nat.beq p 29) (some (.join [2, 3, 4, 5, 6, 7, 17] none []))
  (none))))))
noncomputable def corbellaw11_CallReps.body : Code := (Try.f11.body).getD .skip
noncomputable def corbellaw11_CallReps.c250 : Code := cat corbellaw11_CallReps.body [1, 1, 1, 1, 0, 1, 0, 0]
noncomputable def corbellaw11_CallReps.c524202 : Code := cat corbellaw11_CallReps.body [1, 1, 1, 1, 1, 1, 1, 1, 1, 1, 1, 0, 1, 0, 1, 0, 1, 0, 0]
set_option maxRecDepth 100000 in
theorem corbellaw11_CallReps.TS {C : FuncId → Bool} {X : CallF} (hX : XOk C X) (hK27 : KOk X 27) (k : Nat) : TblS Try.prog C X (corbellaw11_CallReps.T k) := by
  refine tblOf_sound ?_
  intro e he
  rcases List.mem_cons.1 he with rfl | he
  · exact wr_told (corbelhand_Pick.told hX k)
  rcases List.mem_cons.1 he with rfl | he
  · exact wr_told (corbelhand_Piece.told hX k)
  rcases List.mem_cons.1 he with rfl | he
  · exact wr_told (corbelhand_Intent.told hX k)
  rcases List.mem_cons.1 he with rfl | he
  · exact wr_told (corbelref7_RightRep.told hX k)
  rcases List.mem_cons.1 he with rfl | he
  · exact wr_told (call_LayRep.told hX k)
  rcases List.mem_cons.1 he with rfl | he
  · exact wr_told (corbelref7_LayRep.told hX k)
  rcases List.mem_cons.1 he with rfl | he
  · exact wr_told (corbelhand_Few.told hX k)
  rcases List.mem_cons.1 he with rfl | he
  · exact wr_told (call_ReadRep.told hX k)
  rcases List.mem_cons.1 he with rfl | he
  · exact wr_told (corbelref7_ReadRep.told hX k)
  rcases List.mem_cons.1 he with rfl | he
  · exact knownW_told hK27
  rcases List.mem_cons.1 he with rfl | he
  · exact wr_told (corbelref7_SameRep.told hX k)
  rcases List.mem_cons.1 he with rfl | he
  · exact wr_told (call_SameRep.told hX k)
  exact absurd he List.not_mem_nil
set_option maxRecDepth 100000 in
theorem corbellaw11_CallReps.l1_pass {C : FuncId → Bool} {X : CallF} (hX : XOk C X) (hK27 : KOk X 27) (k n : Nat) : PassS Try.prog C X 226 (.loop corbellaw11_CallReps.c524202) (lrun [(5, (.int .i64)), (6, .sl), (7, (.int .u8)), (17, .ptr), (23, .sl), (24, (.int .i64))] none [] 2 (fun a h => corbellaw11_CallReps.l1 k n (a.1) (a.2.1) (a.2.2.1) (a.2.2.2.1) (a.2.2.2.2.1) (a.2.2.2.2.2) h)) :=
  loop_pass (ins := [(5, (.int .i64)), (6, .sl), (7, (.int .u8)), (17, .ptr), (23, .sl), (24, (.int .i64))]) (rets := none) (outs := []) (id := 2) (tbl := corbellaw11_CallReps.T k) (an := corbellaw11_CallReps.an k) (pb := 1048404) (corbellaw11_CallReps.TS hX hK27 k) (fun n => (fun a h => corbellaw11_CallReps.l1 k n (a.1) (a.2.1) (a.2.2.1) (a.2.2.2.1) (a.2.2.2.2.1) (a.2.2.2.2.2) h)) (fun a h => rfl) (fun n a h => by kernel_rfl)
    (by
      have e : need (corbellaw11_CallReps.an k) corbellaw11_CallReps.c524202 1048404 = [] := by kernel_rfl
      rw [e]; intro q hq; cases hq) n
set_option maxRecDepth 100000 in
theorem corbellaw11_CallReps.l0_pass {C : FuncId → Bool} {X : CallF} (hX : XOk C X) (hK27 : KOk X 27) (k n : Nat) : PassS Try.prog C X 226 (.loop corbellaw11_CallReps.c250) (lrun [(2, .sl), (3, (.int .i64)), (4, .sl), (5, (.int .i64)), (6, .sl), (7, (.int .u8)), (17, .ptr), (18, (.int .i64))] none [] 0 (fun a h => corbellaw11_CallReps.l0 k n (a.1) (a.2.1) (a.2.2.1) (a.2.2.2.1) (a.2.2.2.2.1) (a.2.2.2.2.2.1) (a.2.2.2.2.2.2.1) (a.2.2.2.2.2.2.2) h)) :=
  loop_pass (ins := [(2, .sl), (3, (.int .i64)), (4, .sl), (5, (.int .i64)), (6, .sl), (7, (.int .u8)), (17, .ptr), (18, (.int .i64))]) (rets := none) (outs := []) (id := 0) (tbl := corbellaw11_CallReps.T k) (an := corbellaw11_CallReps.an k) (pb := 500) (corbellaw11_CallReps.TS hX hK27 k) (fun n => (fun a h => corbellaw11_CallReps.l0 k n (a.1) (a.2.1) (a.2.2.1) (a.2.2.2.1) (a.2.2.2.2.1) (a.2.2.2.2.2.1) (a.2.2.2.2.2.2.1) (a.2.2.2.2.2.2.2) h)) (fun a h => rfl) (fun n a h => by kernel_rfl)
    (by
      have e : need (corbellaw11_CallReps.an k) corbellaw11_CallReps.c250 500 = [] := by kernel_rfl
      rw [e]; intro q hq; cases hq) n
set_option maxRecDepth 100000 in
theorem corbellaw11_CallReps.eq (k : Nat) (a : RT [(.int .i64), (.int .i64), .sl, (.int .i64), .sl, (.int .i64), .sl, (.int .u8)]) (h : H) : (fun a h => corbellaw11_CallReps.f k (a.1) (a.2.1) (a.2.2.1) (a.2.2.2.1) (a.2.2.2.2.1) (a.2.2.2.2.2.1) (a.2.2.2.2.2.2.1) (a.2.2.2.2.2.2.2) h) a h = kfun Try.prog (corbellaw11_CallReps.T k) (corbellaw11_CallReps.an k) (RT [.bool] × H) Try.f11 (encL [(.int .i64), (.int .i64), .sl, (.int .i64), .sl, (.int .i64), .sl, (.int .u8)] a) h (fun vs h' => (decL [.bool] vs).bind fun x => some (x, h')) := by kernel_rfl
set_option maxRecDepth 100000 in
theorem corbellaw11_CallReps.told {C : FuncId → Bool} {X : CallF} (hX : XOk C X) (hK27 : KOk X 27) (k : Nat) : Den.Told Try.prog C X 11 [(.int .i64), (.int .i64), .sl, (.int .i64), .sl, (.int .i64), .sl, (.int .u8)] [.bool] (fun a h => corbellaw11_CallReps.f k (a.1) (a.2.1) (a.2.2.1) (a.2.2.2.1) (a.2.2.2.2.1) (a.2.2.2.2.2.1) (a.2.2.2.2.2.2.1) (a.2.2.2.2.2.2.2) h) :=
  told_of fun a h q e => fn_of (c := corbellaw11_CallReps.body) (corbellaw11_CallReps.TS hX hK27 k) Try.func11 (by kernel_rfl) (hX.no 11 _ h (by decide))
    (by
      have e : need (corbellaw11_CallReps.an k) corbellaw11_CallReps.body 1 = [(Code.loop corbellaw11_CallReps.c250, lrun [(2, .sl), (3, (.int .i64)), (4, .sl), (5, (.int .i64)), (6, .sl), (7, (.int .u8)), (17, .ptr), (18, (.int .i64))] none [] 0 (fun a h => corbellaw11_CallReps.l0 k k (a.1) (a.2.1) (a.2.2.1) (a.2.2.2.1) (a.2.2.2.2.1) (a.2.2.2.2.2.1) (a.2.2.2.2.2.2.1) (a.2.2.2.2.2.2.2) h)), (Code.loop corbellaw11_CallReps.c524202, lrun [(5, (.int .i64)), (6, .sl), (7, (.int .u8)), (17, .ptr), (23, .sl), (24, (.int .i64))] none [] 2 (fun a h => corbellaw11_CallReps.l1 k k (a.1) (a.2.1) (a.2.2.1) (a.2.2.2.1) (a.2.2.2.2.1) (a.2.2.2.2.2) h))] := by kernel_rfl
      rw [e]; intro q hq
      rcases List.mem_cons.1 hq with rfl | hq
      · exact corbellaw11_CallReps.l0_pass hX hK27 k k
      rcases List.mem_cons.1 hq with rfl | hq
      · exact corbellaw11_CallReps.l1_pass hX hK27 k k
      cases hq)
    ((corbellaw11_CallReps.eq k a h).symm.trans e)
end Go.Proofs.Ythpkhegoamhgeaa.Fwd
