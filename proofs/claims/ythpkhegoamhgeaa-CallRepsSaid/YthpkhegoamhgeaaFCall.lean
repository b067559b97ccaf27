/- Forward runs of functions of the program, printed by a program of this session: each function on plain values and memory, and that the code comes to it. No condition. -/
import Derived.Test.YthpkhegoamhgeaaDenZ
import Derived.KernelRfl
import Derived.Test.YthpkhegoamhgeaaFAsk
import Derived.Test.YthpkhegoamhgeaaFKn12
namespace Go.Proofs.Ythpkhegoamhgeaa.Fwd
open Go Den
set_option linter.unusedVariables false
/-! ### corbel/corbelhand.Req -/
noncomputable def corbelhand_Req.f (k : Nat) (a0 : (Int × Int × Int × Int × Int × Int)) (h : H) : Option (((Int × Int × Int × Int × Sl)) × H) :=
  (asI .i64 (ldc (newR (newR h 46 6 [(Value.int .i64 a0.1), (Value.int .i64 a0.2.1), (Value.int .i64 a0.2.2.1), (Value.int .i64 a0.2.2.2.1), (Value.int .i64 a0.2.2.2.2.1), (Value.int .i64 a0.2.2.2.2.2)]) 48 5 [(Value.int .i64 (0 : Int)), (Value.int .i64 (0 : Int)), (Value.int .i64 (0 : Int)), (Value.int .i64 (0 : Int)), (Value.slice none 0 0)]) (some ⟨h.next, 0, none⟩))).bind fun n1 =>
    (corbelhand_Pick.f k n1 (6 : Int) (newR (newR h 46 6 [(Value.int .i64 a0.1), (Value.int .i64 a0.2.1), (Value.int .i64 a0.2.2.1), (Value.int .i64 a0.2.2.2.1), (Value.int .i64 a0.2.2.2.2.1), (Value.int .i64 a0.2.2.2.2.2)]) 48 5 [(Value.int .i64 (0 : Int)), (Value.int .i64 (0 : Int)), (Value.int .i64 (0 : Int)), (Value.int .i64 (0 : Int)), (Value.slice none 0 0)])).bind fun q2 =>
    (asI .i64 (ldc q2.2 (some ⟨h.next, 1, none⟩))).bind fun n3 =>
    (corbelhand_Pick.f k n3 (5 : Int) q2.2).bind fun q4 =>
    (asI .i64 (ldc q4.2 (some ⟨h.next, 2, none⟩))).bind fun n5 =>
    (corbelhand_Pick.f k n5 (6 : Int) q4.2).bind fun q6 =>
    (asI .i64 (ldc q6.2 (some ⟨h.next, 3, none⟩))).bind fun n7 =>
    (corbelhand_Pick.f k n7 (6 : Int) q6.2).bind fun q8 =>
    (stv 5 (newR q8.2 48 5 [(Value.int .i64 (0 : Int)), (Value.int .i64 (0 : Int)), (Value.int .i64 (0 : Int)), (Value.int .i64 (0 : Int)), (Value.slice none 0 0)]) (some ⟨q8.2.next, 0, none⟩) [(Value.int .i64 (wrapA .i64 ((1 : Int) + q2.1))), (Value.int .i64 q4.1), (Value.int .i64 (wrapA .i64 ((1 : Int) + q6.1))), (Value.int .i64 q8.1), (Value.slice none 0 0)]).bind fun q9 =>
    cond (same1 (newR (newR h 46 6 [(Value.int .i64 a0.1), (Value.int .i64 a0.2.1), (Value.int .i64 a0.2.2.1), (Value.int .i64 a0.2.2.2.1), (Value.int .i64 a0.2.2.2.2.1), (Value.int .i64 a0.2.2.2.2.2)]) 48 5 [(Value.int .i64 (0 : Int)), (Value.int .i64 (0 : Int)), (Value.int .i64 (0 : Int)), (Value.int .i64 (0 : Int)), (Value.slice none 0 0)]) q2.2 (some (Value.pointer (some ⟨h.next, 1, none⟩))) && (same1 (newR (newR h 46 6 [(Value.int .i64 a0.1), (Value.int .i64 a0.2.1), (Value.int .i64 a0.2.2.1), (Value.int .i64 a0.2.2.2.1), (Value.int .i64 a0.2.2.2.2.1), (Value.int .i64 a0.2.2.2.2.2)]) 48 5 [(Value.int .i64 (0 : Int)), (Value.int .i64 (0 : Int)), (Value.int .i64 (0 : Int)), (Value.int .i64 (0 : Int)), (Value.slice none 0 0)]) q2.2 (some (Value.pointer (some ⟨h.next, 2, none⟩))) && (same1 q2.2 q4.2 (some (Value.pointer (some ⟨h.next, 2, none⟩))) && (same1 (newR (newR h 46 6 [(Value.int .i64 a0.1), (Value.int .i64 a0.2.1), (Value.int .i64 a0.2.2.1), (Value.int .i64 a0.2.2.2.1), (Value.int .i64 a0.2.2.2.2.1), (Value.int .i64 a0.2.2.2.2.2)]) 48 5 [(Value.int .i64 (0 : Int)), (Value.int .i64 (0 : Int)), (Value.int .i64 (0 : Int)), (Value.int .i64 (0 : Int)), (Value.slice none 0 0)]) q2.2 (some (Value.pointer (some ⟨h.next, 3, none⟩))) && (same1 q2.2 q4.2 (some (Value.pointer (some ⟨h.next, 3, none⟩))) && (same1 q4.2 q6.2 (some (Value.pointer (some ⟨h.next, 3, none⟩))) && (true))))))) ((asI .i64 (ldc q9.2 (some ⟨q8.2.next, 0, none⟩))).bind fun n10 =>
    (cond (n10 == (2 : Int))
      ((asI .i64 (ldc q9.2 (some ⟨h.next, 4, none⟩))).bind fun n11 =>
    (corbelhand_Bytes.f k n11 (32 : Int) q9.2).bind fun q12 =>
    (stv 1 q12.2 (some ⟨q8.2.next, 4, none⟩) [(Value.slice q12.1.a q12.1.n q12.1.c)]).bind fun q13 =>
    some ((), q13.2))
      ((cond (n10 == (3 : Int))
      ((asI .i64 (ldc q9.2 (some ⟨h.next, 4, none⟩))).bind fun n14 =>
    (corbelhand_Bytes.f k n14 (128 : Int) q9.2).bind fun q15 =>
    (stv 1 q15.2 (some ⟨q8.2.next, 4, none⟩) [(Value.slice q15.1.a q15.1.n q15.1.c)]).bind fun q16 =>
    (asI .i64 (ldc q16.2 (some ⟨h.next, 2, none⟩))).bind fun n17 =>
    (corbelhand_Pick.f k n17 (30 : Int) q16.2).bind fun q18 =>
    (stv 1 q18.2 (some ⟨q8.2.next, 2, none⟩) [(Value.int .i64 (wrapA .i64 ((1 : Int) + q18.1)))]).bind fun q19 =>
    some ((), q19.2))
      (some ((), q9.2)) : Option ((Unit) × H)).bind fun j20 =>
    some ((), j20.2)) : Option ((Unit) × H)).bind fun j21 =>
    (asI .i64 (ldc j21.2 (some ⟨h.next, 5, none⟩))).bind fun n22 =>
    (corbelhand_Pick.f k n22 (30 : Int) j21.2).bind fun q23 =>
    (cond (q23.1 == (24 : Int))
      ((asI .i64 (ldc q23.2 (some ⟨h.next, 5, none⟩))).bind fun n24 =>
    (corbelhand_Pick.f k (wrapA .i64 (n24.tdiv (30 : Int))) (9 : Int) q23.2).bind fun q25 =>
    (stv 1 q25.2 (some ⟨q8.2.next, 0, none⟩) [(Value.int .i64 (wrapA .i64 (q25.1 - (1 : Int))))]).bind fun q26 =>
    some ((), q26.2))
      ((cond (q23.1 == (25 : Int))
      ((asI .i64 (ldc q23.2 (some ⟨h.next, 1, none⟩))).bind fun n27 =>
    (stv 1 q23.2 (some ⟨q8.2.next, 1, none⟩) [(Value.int .i64 n27)]).bind fun q28 =>
    some ((), q28.2))
      ((cond (q23.1 == (26 : Int))
      ((asI .i64 (ldc q23.2 (some ⟨h.next, 2, none⟩))).bind fun n29 =>
    (stv 1 q23.2 (some ⟨q8.2.next, 2, none⟩) [(Value.int .i64 n29)]).bind fun q30 =>
    some ((), q30.2))
      ((cond (q23.1 == (27 : Int))
      ((asI .i64 (ldc q23.2 (some ⟨h.next, 3, none⟩))).bind fun n31 =>
    (stv 1 q23.2 (some ⟨q8.2.next, 3, none⟩) [(Value.int .i64 n31)]).bind fun q32 =>
    some ((), q32.2))
      ((cond (q23.1 == (28 : Int))
      ((asI .i64 (ldc q23.2 (some ⟨h.next, 4, none⟩))).bind fun n33 =>
    (asI .i64 (ldc q23.2 (some ⟨h.next, 5, none⟩))).bind fun n34 =>
    (corbelhand_Pick.f k (wrapA .i64 (n34.tdiv (30 : Int))) (140 : Int) q23.2).bind fun q35 =>
    (corbelhand_Bytes.f k n33 q35.1 q35.2).bind fun q36 =>
    (stv 1 q36.2 (some ⟨q8.2.next, 4, none⟩) [(Value.slice q36.1.a q36.1.n q36.1.c)]).bind fun q37 =>
    cond (same1 q23.2 q35.2 (some (Value.pointer (some ⟨h.next, 4, none⟩))) && (true)) (some ((), q37.2)) none)
      ((cond (q23.1 == (29 : Int))
      ((asI .i64 (ldc q23.2 (some ⟨h.next, 1, none⟩))).bind fun n38 =>
    (corbelhand_Pick.f k n38 (43 : Int) q23.2).bind fun q39 =>
    (stv 1 q39.2 (some ⟨q8.2.next, 1, none⟩) [(Value.int .i64 q39.1)]).bind fun q40 =>
    some ((), q40.2))
      (some ((), q23.2)) : Option ((Unit) × H)).bind fun j41 =>
    some ((), j41.2)) : Option ((Unit) × H)).bind fun j42 =>
    some ((), j42.2)) : Option ((Unit) × H)).bind fun j43 =>
    some ((), j43.2)) : Option ((Unit) × H)).bind fun j44 =>
    some ((), j44.2)) : Option ((Unit) × H)).bind fun j45 =>
    some ((), j45.2)) : Option ((Unit) × H)).bind fun j46 =>
    (asSt [(.int .i64), (.int .i64), (.int .i64), (.int .i64), .sl] (lda 5 j46.2 (some ⟨q8.2.next, 0, none⟩))).bind fun s47 =>
    (stv 5 j46.2 (some ⟨(newR h 46 6 [(Value.int .i64 a0.1), (Value.int .i64 a0.2.1), (Value.int .i64 a0.2.2.1), (Value.int .i64 a0.2.2.2.1), (Value.int .i64 a0.2.2.2.2.1), (Value.int .i64 a0.2.2.2.2.2)]).next, 0, none⟩) [(Value.int .i64 s47.1), (Value.int .i64 s47.2.1), (Value.int .i64 s47.2.2.1), (Value.int .i64 s47.2.2.2.1), (Value.slice s47.2.2.2.2.a s47.2.2.2.2.n s47.2.2.2.2.c)]).bind fun q48 =>
    (asSt [(.int .i64), (.int .i64), (.int .i64), (.int .i64), .sl] (lda 5 q48.2 (some ⟨(newR h 46 6 [(Value.int .i64 a0.1), (Value.int .i64 a0.2.1), (Value.int .i64 a0.2.2.1), (Value.int .i64 a0.2.2.2.1), (Value.int .i64 a0.2.2.2.2.1), (Value.int .i64 a0.2.2.2.2.2)]).next, 0, none⟩))).bind fun s49 =>
    some ((s49.1, s49.2.1, s49.2.2.1, s49.2.2.2.1, s49.2.2.2.2), q48.2)) none
noncomputable def corbelhand_Req.T (k : Nat) : Tbl := tblOf [⟨14, anyArgs, wr [(.int .i64), (.int .i64)] [(.int .i64)] (fun a h => corbelhand_Pick.f k (a.1) (a.2) h)⟩,
  ⟨15, anyArgs, wr [(.int .i64), (.int .i64)] [.sl] (fun a h => corbelhand_Bytes.f k (a.1) (a.2) h)⟩]
noncomputable def corbelhand_Req.an (k : Nat) (p : Nat) : Option Ann := cond (Nat.beq p 245) (some (.join [2, 3] none []))
  (cond (Nat.beq p 983) (some (.join [2, 3] none []))
  (cond (Nat.beq p 3935) (some (.join [2, 3] none []))
  (cond (Nat.beq p 15743) (some (.join [2, 3] none []))
  (cond (Nat.beq p 62975) (some (.join [2, 3] none []))
  (cond (Nat.beq p 251903) (some (.join [2, 3] none []))
  (cond (Nat.beq p 117) (some (.join [1, 2, 3] none []))
  (cond (Nat.beq p 471) (some (.join [1, 2, 3] none []))
  (none))))))))
noncomputable def corbelhand_Req.body : Code := (Try.f20.body).getD .skip
set_option maxRecDepth 100000 in
theorem corbelhand_Req.TS {C : FuncId → Bool} {X : CallF} (hX : XOk C X) (k : Nat) : TblS Try.prog C X (corbelhand_Req.T k) := by
  refine tblOf_sound ?_
  intro e he
  rcases List.mem_cons.1 he with rfl | he
  · exact wr_told (corbelhand_Pick.told hX k)
  rcases List.mem_cons.1 he with rfl | he
  · exact wr_told (corbelhand_Bytes.told hX k)
  exact absurd he List.not_mem_nil
set_option maxRecDepth 100000 in
theorem corbelhand_Req.eq (k : Nat) (a : RT [(.st [(.int .i64), (.int .i64), (.int .i64), (.int .i64), (.int .i64), (.int .i64)])]) (h : H) : (fun a h => corbelhand_Req.f k a h) a h = kfun Try.prog (corbelhand_Req.T k) (corbelhand_Req.an k) (RT [(.st [(.int .i64), (.int .i64), (.int .i64), (.int .i64), .sl])] × H) Try.f20 (encL [(.st [(.int .i64), (.int .i64), (.int .i64), (.int .i64), (.int .i64), (.int .i64)])] a) h (fun vs h' => (decL [(.st [(.int .i64), (.int .i64), (.int .i64), (.int .i64), .sl])] vs).bind fun x => some (x, h')) := by kernel_rfl
set_option maxRecDepth 100000 in
theorem corbelhand_Req.told {C : FuncId → Bool} {X : CallF} (hX : XOk C X) (k : Nat) : Den.Told Try.prog C X 20 [(.st [(.int .i64), (.int .i64), (.int .i64), (.int .i64), (.int .i64), (.int .i64)])] [(.st [(.int .i64), (.int .i64), (.int .i64), (.int .i64), .sl])] (fun a h => corbelhand_Req.f k a h) :=
  told_of fun a h q e => fn_of (c := corbelhand_Req.body) (corbelhand_Req.TS hX k) Try.func20 (by kernel_rfl) (hX.no 20 _ h (by decide))
    (by
      have e : need (corbelhand_Req.an k) corbelhand_Req.body 1 = [] := by kernel_rfl
      rw [e]; intro q hq; cases hq)
    ((corbelhand_Req.eq k a h).symm.trans e)
/-! ### corbel/corbelref7.RightReq -/
noncomputable def corbelref7_RightReq.f (k : Nat) (a0 : (Int × Int × Int × Int × Sl)) (h : H) : Option ((Bool) × H) :=
  (asI .i64 (ldc (newR h 48 5 [(Value.int .i64 a0.1), (Value.int .i64 a0.2.1), (Value.int .i64 a0.2.2.1), (Value.int .i64 a0.2.2.2.1), (Value.slice a0.2.2.2.2.a a0.2.2.2.2.n a0.2.2.2.2.c)]) (some ⟨h.next, 0, none⟩))).bind fun n1 =>
    (cond (decide (n1 ≥ (1 : Int))) ((asI .i64 (ldc (newR h 48 5 [(Value.int .i64 a0.1), (Value.int .i64 a0.2.1), (Value.int .i64 a0.2.2.1), (Value.int .i64 a0.2.2.2.1), (Value.slice a0.2.2.2.2.a a0.2.2.2.2.n a0.2.2.2.2.c)]) (some ⟨h.next, 0, none⟩))).bind fun n2 =>
    some (decide (n2 ≤ (6 : Int)), (newR h 48 5 [(Value.int .i64 a0.1), (Value.int .i64 a0.2.1), (Value.int .i64 a0.2.2.1), (Value.int .i64 a0.2.2.2.1), (Value.slice a0.2.2.2.2.a a0.2.2.2.2.n a0.2.2.2.2.c)])))
      (some (false, (newR h 48 5 [(Value.int .i64 a0.1), (Value.int .i64 a0.2.1), (Value.int .i64 a0.2.2.1), (Value.int .i64 a0.2.2.2.1), (Value.slice a0.2.2.2.2.a a0.2.2.2.2.n a0.2.2.2.2.c)])))).bind fun g3 =>
    (cond g3.1 ((asI .i64 (ldc g3.2 (some ⟨h.next, 1, none⟩))).bind fun n4 =>
    some (decide (n4 ≥ (0 : Int)), g3.2))
      (some (false, g3.2))).bind fun g5 =>
    (cond g5.1 ((asI .i64 (ldc g5.2 (some ⟨h.next, 1, none⟩))).bind fun n6 =>
    some (decide (n6 ≤ (65535 : Int)), g5.2))
      (some (false, g5.2))).bind fun g7 =>
    (cond g7.1 ((asI .i64 (ldc g7.2 (some ⟨h.next, 2, none⟩))).bind fun n8 =>
    some (decide (n8 ≥ (0 : Int)), g7.2))
      (some (false, g7.2))).bind fun g9 =>
    (cond g9.1 ((asI .i64 (ldc g9.2 (some ⟨h.next, 2, none⟩))).bind fun n10 =>
    some (decide (n10 ≤ (1099511627776 : Int)), g9.2))
      (some (false, g9.2))).bind fun g11 =>
    (cond g11.1 ((asI .i64 (ldc g11.2 (some ⟨h.next, 3, none⟩))).bind fun n12 =>
    some (decide (n12 ≥ (0 : Int)), g11.2))
      (some (false, g11.2))).bind fun g13 =>
    (cond g13.1 ((asI .i64 (ldc g13.2 (some ⟨h.next, 3, none⟩))).bind fun n14 =>
    some (decide (n14 ≤ (255 : Int)), g13.2))
      (some (false, g13.2))).bind fun g15 =>
    (cond g15.1 ((asS (ldc g15.2 (some ⟨h.next, 4, none⟩))).bind fun s16 =>
    some (decide ((Int.ofNat s16.n) ≤ (128 : Int)), g15.2))
      (some (false, g15.2))).bind fun g17 =>
    some (g17.1, g17.2)
noncomputable def corbelref7_RightReq.T (k : Nat) : Tbl := tblOf []
noncomputable def corbelref7_RightReq.an (k : Nat) (p : Nat) : Option Ann := none
noncomputable def corbelref7_RightReq.body : Code := (Try.f21.body).getD .skip
set_option maxRecDepth 100000 in
theorem corbelref7_RightReq.TS {C : FuncId → Bool} {X : CallF} (hX : XOk C X) (k : Nat) : TblS Try.prog C X (corbelref7_RightReq.T k) := by
  refine tblOf_sound ?_
  intro e he
  exact absurd he List.not_mem_nil
set_option maxRecDepth 100000 in
theorem corbelref7_RightReq.eq (k : Nat) (a : RT [(.st [(.int .i64), (.int .i64), (.int .i64), (.int .i64), .sl])]) (h : H) : (fun a h => corbelref7_RightReq.f k a h) a h = kfun Try.prog (corbelref7_RightReq.T k) (corbelref7_RightReq.an k) (RT [.bool] × H) Try.f21 (encL [(.st [(.int .i64), (.int .i64), (.int .i64), (.int .i64), .sl])] a) h (fun vs h' => (decL [.bool] vs).bind fun x => some (x, h')) := by kernel_rfl
set_option maxRecDepth 100000 in
theorem corbelref7_RightReq.told {C : FuncId → Bool} {X : CallF} (hX : XOk C X) (k : Nat) : Den.Told Try.prog C X 21 [(.st [(.int .i64), (.int .i64), (.int .i64), (.int .i64), .sl])] [.bool] (fun a h => corbelref7_RightReq.f k a h) :=
  told_of fun a h q e => fn_of (c := corbelref7_RightReq.body) (corbelref7_RightReq.TS hX k) Try.func21 (by kernel_rfl) (hX.no 21 _ h (by decide))
    (by
      have e : need (corbelref7_RightReq.an k) corbelref7_RightReq.body 1 = [] := by kernel_rfl
      rw [e]; intro q hq; cases hq)
    ((corbelref7_RightReq.eq k a h).symm.trans e)
/-! ### corbel/call.within -/
noncomputable def call_within.f (k : Nat) (a0 : Int) (a1 : Int) (a2 : Int) (h : H) : Option ((Bool) × H) :=
  (cond (decide (a0 ≥ a1)) (some (decide (a0 ≤ a2), h))
      (some (false, h))).bind fun g1 =>
    some (g1.1, g1.2)
noncomputable def call_within.T (k : Nat) : Tbl := tblOf []
noncomputable def call_within.an (k : Nat) (p : Nat) : Option Ann := none
noncomputable def call_within.body : Code := (Try.f44.body).getD .skip
set_option maxRecDepth 100000 in
theorem call_within.TS {C : FuncId → Bool} {X : CallF} (hX : XOk C X) (k : Nat) : TblS Try.prog C X (call_within.T k) := by
  refine tblOf_sound ?_
  intro e he
  exact absurd he List.not_mem_nil
set_option maxRecDepth 100000 in
theorem call_within.eq (k : Nat) (a : RT [(.int .i64), (.int .i64), (.int .i64)]) (h : H) : (fun a h => call_within.f k (a.1) (a.2.1) (a.2.2) h) a h = kfun Try.prog (call_within.T k) (call_within.an k) (RT [.bool] × H) Try.f44 (encL [(.int .i64), (.int .i64), (.int .i64)] a) h (fun vs h' => (decL [.bool] vs).bind fun x => some (x, h')) := by kernel_rfl
set_option maxRecDepth 100000 in
theorem call_within.told {C : FuncId → Bool} {X : CallF} (hX : XOk C X) (k : Nat) : Den.Told Try.prog C X 44 [(.int .i64), (.int .i64), (.int .i64)] [.bool] (fun a h => call_within.f k (a.1) (a.2.1) (a.2.2) h) :=
  told_of fun a h q e => fn_of (c := call_within.body) (call_within.TS hX k) Try.func44 (by kernel_rfl) (hX.no 44 _ h (by decide))
    (by
      have e : need (call_within.an k) call_within.body 1 = [] := by kernel_rfl
      rw [e]; intro q hq; cases hq)
    ((call_within.eq k a h).symm.trans e)
/-! ### corbel/call.bytes -/
noncomputable def call_bytes.l0 (k : Nat) (n : Nat) : Int → Sl → Int → H → Option ((Sl) × H) :=
  Nat.rec (motive := fun _ => Int → Sl → Int → H → Option ((Sl) × H)) (fun _ _ _ _ => none) (fun _ ih x1 x2 x3 h4 => cond (decide (x3 ≥ (0 : Int)))
      ((asI .i64 (binA Try.prog .shr 3 (Value.int .i64 x1) (Value.int .i64 (wrapA .i64 ((8 : Int) * x3))))).bind fun n5 =>
    (asS2 (apv 5 1 1 (Value.slice x2.a x2.n x2.c) (Value.slice (some ⟨h4.next, 0, none⟩) 1 1) (newR h4 5 1 [(Value.int .u8 (wrapA .u8 n5))]))).bind fun q6 =>
    ih x1 q6.1 (wrapA .i64 (x3 - (1 : Int))) q6.2)
      (some (x2, h4))) n
theorem call_bytes.l0_zero (k : Nat) (x1 : Int) (x2 : Sl) (x3 : Int) (h4 : H) : call_bytes.l0 k 0 x1 x2 x3 h4 = none := rfl
theorem call_bytes.l0_succ (k n : Nat) (x1 : Int) (x2 : Sl) (x3 : Int) (h4 : H) : call_bytes.l0 k (n + 1) x1 x2 x3 h4 = (cond (decide (x3 ≥ (0 : Int)))
      ((asI .i64 (binA Try.prog .shr 3 (Value.int .i64 x1) (Value.int .i64 (wrapA .i64 ((8 : Int) * x3))))).bind fun n5 =>
    (asS2 (apv 5 1 1 (Value.slice x2.a x2.n x2.c) (Value.slice (some ⟨h4.next, 0, none⟩) 1 1) (newR h4 5 1 [(Value.int .u8 (wrapA .u8 n5))]))).bind fun q6 =>
    call_bytes.l0 k n x1 q6.1 (wrapA .i64 (x3 - (1 : Int))) q6.2)
      (some (x2, h4))) := rfl
noncomputable def call_bytes.f (k : Nat) (a0 : Int) (a1 : Int) (h : H) : Option ((Sl) × H) :=
  (call_bytes.l0 k k a0 (⟨none, 0, 0⟩ : Sl) (wrapA .i64 (a1 - (1 : Int))) h).bind fun w7 =>
    some (w7.1, w7.2)
noncomputable def call_bytes.T (k : Nat) : Tbl := tblOf []
noncomputable def call_bytes.an (k : Nat) (p : Nat) : Option Ann := cond (Nat.beq p 58) (some (.pass [] (lrun [(0, (.int .i64)), (5, .sl), (6, (.int .i64))] none [(5, .sl)] 0 (fun a h => call_bytes.l0 k k (a.1) (a.2.1) (a.2.2) h))))
  (none)
noncomputable def call_bytes.body : Code := (Try.f45.body).getD .skip
noncomputable def call_bytes.c58 : Code := cat call_bytes.body [1, 1, 0, 1, 0, 0]
set_option maxRecDepth 100000 in
theorem call_bytes.TS {C : FuncId → Bool} {X : CallF} (hX : XOk C X) (k : Nat) : TblS Try.prog C X (call_bytes.T k) := by
  refine tblOf_sound ?_
  intro e he
  exact absurd he List.not_mem_nil
set_option maxRecDepth 100000 in
theorem call_bytes.l0_pass {C : FuncId → Bool} {X : CallF} (hX : XOk C X) (k n : Nat) : PassS Try.prog C X 22 (.loop call_bytes.c58) (lrun [(0, (.int .i64)), (5, .sl), (6, (.int .i64))] none [(5, .sl)] 0 (fun a h => call_bytes.l0 k n (a.1) (a.2.1) (a.2.2) h)) :=
  loop_pass (ins := [(0, (.int .i64)), (5, .sl), (6, (.int .i64))]) (rets := none) (outs := [(5, .sl)]) (id := 0) (tbl := call_bytes.T k) (an := call_bytes.an k) (pb := 116) (call_bytes.TS hX k) (fun n => (fun a h => call_bytes.l0 k n (a.1) (a.2.1) (a.2.2) h)) (fun a h => rfl) (fun n a h => by kernel_rfl)
    (by
      have e : need (call_bytes.an k) call_bytes.c58 116 = [] := by kernel_rfl
      rw [e]; intro q hq; cases hq) n
set_option maxRecDepth 100000 in
theorem call_bytes.eq (k : Nat) (a : RT [(.int .i64), (.int .i64)]) (h : H) : (fun a h => call_bytes.f k (a.1) (a.2) h) a h = kfun Try.prog (call_bytes.T k) (call_bytes.an k) (RT [.sl] × H) Try.f45 (encL [(.int .i64), (.int .i64)] a) h (fun vs h' => (decL [.sl] vs).bind fun x => some (x, h')) := by kernel_rfl
set_option maxRecDepth 100000 in
theorem call_bytes.told {C : FuncId → Bool} {X : CallF} (hX : XOk C X) (k : Nat) : Den.Told Try.prog C X 45 [(.int .i64), (.int .i64)] [.sl] (fun a h => call_bytes.f k (a.1) (a.2) h) :=
  told_of fun a h q e => fn_of (c := call_bytes.body) (call_bytes.TS hX k) Try.func45 (by kernel_rfl) (hX.no 45 _ h (by decide))
    (by
      have e : need (call_bytes.an k) call_bytes.body 1 = [(Code.loop call_bytes.c58, lrun [(0, (.int .i64)), (5, .sl), (6, (.int .i64))] none [(5, .sl)] 0 (fun a h => call_bytes.l0 k k (a.1) (a.2.1) (a.2.2) h))] := by kernel_rfl
      rw [e]; intro q hq
      rcases List.mem_cons.1 hq with rfl | hq
      · exact call_bytes.l0_pass hX k k
      cases hq)
    ((call_bytes.eq k a h).symm.trans e)
/-! ### corbel/call.LayReq -/
noncomputable def call_LayReq.f (k : Nat) (a0 : (Int × Int × Int × Int × Sl)) (h : H) : Option ((Sl × Int) × H) :=
  (asI .i64 (ldc (newR h 48 5 [(Value.int .i64 a0.1), (Value.int .i64 a0.2.1), (Value.int .i64 a0.2.2.1), (Value.int .i64 a0.2.2.2.1), (Value.slice a0.2.2.2.2.a a0.2.2.2.2.n a0.2.2.2.2.c)]) (some ⟨h.next, 0, none⟩))).bind fun n1 =>
    (call_within.f k n1 (1 : Int) (6 : Int) (newR h 48 5 [(Value.int .i64 a0.1), (Value.int .i64 a0.2.1), (Value.int .i64 a0.2.2.1), (Value.int .i64 a0.2.2.2.1), (Value.slice a0.2.2.2.2.a a0.2.2.2.2.n a0.2.2.2.2.c)])).bind fun q2 =>
    (cond (!q2.1) (some (true, q2.2))
      ((asI .i64 (ldc q2.2 (some ⟨h.next, 1, none⟩))).bind fun n3 =>
    (call_within.f k n3 (0 : Int) (65535 : Int) q2.2).bind fun q4 =>
    some (!q4.1, q4.2))).bind fun g5 =>
    (cond g5.1 (some (true, g5.2))
      ((asI .i64 (ldc g5.2 (some ⟨h.next, 2, none⟩))).bind fun n6 =>
    (call_within.f k n6 (0 : Int) (1099511627776 : Int) g5.2).bind fun q7 =>
    some (!q7.1, q7.2))).bind fun g8 =>
    (cond g8.1 (some (true, g8.2))
      ((asI .i64 (ldc g8.2 (some ⟨h.next, 3, none⟩))).bind fun n9 =>
    (call_within.f k n9 (0 : Int) (255 : Int) g8.2).bind fun q10 =>
    some (!q10.1, q10.2))).bind fun g11 =>
    (cond g11.1 (some (true, g11.2))
      ((asS (ldc g11.2 (some ⟨h.next, 4, none⟩))).bind fun s12 =>
    some (decide ((Int.ofNat s12.n) > (128 : Int)), g11.2))).bind fun g13 =>
    cond g13.1
      (some (((⟨none, 0, 0⟩ : Sl), (1 : Int)), g13.2))
      ((asI .i64 (ldc g13.2 (some ⟨h.next, 0, none⟩))).bind fun n14 =>
    (call_bytes.f k n14 (1 : Int) g13.2).bind fun q15 =>
    (asI .i64 (ldc q15.2 (some ⟨h.next, 1, none⟩))).bind fun n16 =>
    (call_bytes.f k n16 (2 : Int) q15.2).bind fun q17 =>
    (asI .i64 (ldc q17.2 (some ⟨h.next, 2, none⟩))).bind fun n18 =>
    (call_bytes.f k n18 (6 : Int) q17.2).bind fun q19 =>
    (asI .i64 (ldc q19.2 (some ⟨h.next, 3, none⟩))).bind fun n20 =>
    (call_bytes.f k n20 (1 : Int) q19.2).bind fun q21 =>
    (asS (ldc q21.2 (some ⟨h.next, 4, none⟩))).bind fun s22 =>
    (call_bytes.f k (Int.ofNat s22.n) (2 : Int) q21.2).bind fun q23 =>
    (asS (ldc q23.2 (some ⟨h.next, 4, none⟩))).bind fun s24 =>
    (slices_Concat_byte_byte.f k (⟨(some ⟨q23.2.next, 0, none⟩), 6, 6⟩ : Sl) (newR q23.2 25 1 [(Value.slice q15.1.a q15.1.n q15.1.c), (Value.slice q17.1.a q17.1.n q17.1.c), (Value.slice q19.1.a q19.1.n q19.1.c), (Value.slice q21.1.a q21.1.n q21.1.c), (Value.slice q23.1.a q23.1.n q23.1.c), (Value.slice s24.a s24.n s24.c)])).bind fun q25 =>
    cond (same1 g13.2 q15.2 (some (Value.pointer (some ⟨h.next, 1, none⟩))) && (same1 g13.2 q15.2 (some (Value.pointer (some ⟨h.next, 2, none⟩))) && (same1 q15.2 q17.2 (some (Value.pointer (some ⟨h.next, 2, none⟩))) && (same1 g13.2 q15.2 (some (Value.pointer (some ⟨h.next, 3, none⟩))) && (same1 q15.2 q17.2 (some (Value.pointer (some ⟨h.next, 3, none⟩))) && (same1 q17.2 q19.2 (some (Value.pointer (some ⟨h.next, 3, none⟩))) && (same1 g13.2 q15.2 (some (Value.pointer (some ⟨h.next, 4, none⟩))) && (same1 q15.2 q17.2 (some (Value.pointer (some ⟨h.next, 4, none⟩))) && (same1 q17.2 q19.2 (some (Value.pointer (some ⟨h.next, 4, none⟩))) && (same1 q19.2 q21.2 (some (Value.pointer (some ⟨h.next, 4, none⟩))) && (same1 g13.2 q15.2 (some (Value.slice s22.a s22.n s22.c)) && (same1 q15.2 q17.2 (some (Value.slice s22.a s22.n s22.c)) && (same1 q17.2 q19.2 (some (Value.slice s22.a s22.n s22.c)) && (same1 q19.2 q21.2 (some (Value.slice s22.a s22.n s22.c)) && (same1 g13.2 q15.2 (some (Value.pointer (some ⟨h.next, 4, none⟩))) && (same1 q15.2 q17.2 (some (Value.pointer (some ⟨h.next, 4, none⟩))) && (same1 q17.2 q19.2 (some (Value.pointer (some ⟨h.next, 4, none⟩))) && (same1 q19.2 q21.2 (some (Value.pointer (some ⟨h.next, 4, none⟩))) && (same1 q21.2 q23.2 (some (Value.pointer (some ⟨h.next, 4, none⟩))) && (true)))))))))))))))))))) (some ((q25.1, (0 : Int)), q25.2)) none)
noncomputable def call_LayReq.T (k : Nat) : Tbl := tblOf [⟨44, anyArgs, wr [(.int .i64), (.int .i64), (.int .i64)] [.bool] (fun a h => call_within.f k (a.1) (a.2.1) (a.2.2) h)⟩,
  ⟨45, anyArgs, wr [(.int .i64), (.int .i64)] [.sl] (fun a h => call_bytes.f k (a.1) (a.2) h)⟩,
  ⟨40, anyArgs, wr [.sl] [.sl] (fun a h => slices_Concat_byte_byte.f k a h)⟩]
noncomputable def call_LayReq.an (k : Nat) (p : Nat) : Option Ann := none
noncomputable def call_LayReq.body : Code := (Try.f22.body).getD .skip
set_option maxRecDepth 100000 in
theorem call_LayReq.TS {C : FuncId → Bool} {X : CallF} (hX : XOk C X) (k : Nat) : TblS Try.prog C X (call_LayReq.T k) := by
  refine tblOf_sound ?_
  intro e he
  rcases List.mem_cons.1 he with rfl | he
  · exact wr_told (call_within.told hX k)
  rcases List.mem_cons.1 he with rfl | he
  · exact wr_told (call_bytes.told hX k)
  rcases List.mem_cons.1 he with rfl | he
  · exact wr_told (slices_Concat_byte_byte.told hX k)
  exact absurd he List.not_mem_nil
set_option maxRecDepth 100000 in
theorem call_LayReq.eq (k : Nat) (a : RT [(.st [(.int .i64), (.int .i64), (.int .i64), (.int .i64), .sl])]) (h : H) : (fun a h => call_LayReq.f k a h) a h = kfun Try.prog (call_LayReq.T k) (call_LayReq.an k) (RT [.sl, (.int .i64)] × H) Try.f22 (encL [(.st [(.int .i64), (.int .i64), (.int .i64), (.int .i64), .sl])] a) h (fun vs h' => (decL [.sl, (.int .i64)] vs).bind fun x => some (x, h')) := by kernel_rfl
set_option maxRecDepth 100000 in
theorem call_LayReq.told {C : FuncId → Bool} {X : CallF} (hX : XOk C X) (k : Nat) : Den.Told Try.prog C X 22 [(.st [(.int .i64), (.int .i64), (.int .i64), (.int .i64), .sl])] [.sl, (.int .i64)] (fun a h => call_LayReq.f k a h) :=
  told_of fun a h q e => fn_of (c := call_LayReq.body) (call_LayReq.TS hX k) Try.func22 (by kernel_rfl) (hX.no 22 _ h (by decide))
    (by
      have e : need (call_LayReq.an k) call_LayReq.body 1 = [] := by kernel_rfl
      rw [e]; intro q hq; cases hq)
    ((call_LayReq.eq k a h).symm.trans e)
/-! ### corbel/corbelref7.Big -/
noncomputable def corbelref7_Big.l0 (k : Nat) (n : Nat) : Int → Sl → Int → H → Option ((Sl) × H) :=
  Nat.rec (motive := fun _ => Int → Sl → Int → H → Option ((Sl) × H)) (fun _ _ _ _ => none) (fun _ ih x1 x2 x3 h4 => cond (decide (x3 ≥ (0 : Int)))
      ((asI .i64 (binA Try.prog .shr 3 (Value.int .i64 x1) (Value.int .u64 (wrapA .u64 (wrapA .i64 ((8 : Int) * x3)))))).bind fun n5 =>
    (asS2 (apv 5 1 1 (Value.slice x2.a x2.n x2.c) (Value.slice (some ⟨h4.next, 0, none⟩) 1 1) (newR h4 5 1 [(Value.int .u8 (wrapA .u8 n5))]))).bind fun q6 =>
    ih x1 q6.1 (wrapA .i64 (x3 - (1 : Int))) q6.2)
      (some (x2, h4))) n
theorem corbelref7_Big.l0_zero (k : Nat) (x1 : Int) (x2 : Sl) (x3 : Int) (h4 : H) : corbelref7_Big.l0 k 0 x1 x2 x3 h4 = none := rfl
theorem corbelref7_Big.l0_succ (k n : Nat) (x1 : Int) (x2 : Sl) (x3 : Int) (h4 : H) : corbelref7_Big.l0 k (n + 1) x1 x2 x3 h4 = (cond (decide (x3 ≥ (0 : Int)))
      ((asI .i64 (binA Try.prog .shr 3 (Value.int .i64 x1) (Value.int .u64 (wrapA .u64 (wrapA .i64 ((8 : Int) * x3)))))).bind fun n5 =>
    (asS2 (apv 5 1 1 (Value.slice x2.a x2.n x2.c) (Value.slice (some ⟨h4.next, 0, none⟩) 1 1) (newR h4 5 1 [(Value.int .u8 (wrapA .u8 n5))]))).bind fun q6 =>
    corbelref7_Big.l0 k n x1 q6.1 (wrapA .i64 (x3 - (1 : Int))) q6.2)
      (some (x2, h4))) := rfl
noncomputable def corbelref7_Big.f (k : Nat) (a0 : Int) (a1 : Int) (h : H) : Option ((Sl) × H) :=
  (corbelref7_Big.l0 k k a0 (⟨none, 0, 0⟩ : Sl) (wrapA .i64 (a1 - (1 : Int))) h).bind fun w7 =>
    some (w7.1, w7.2)
noncomputable def corbelref7_Big.T (k : Nat) : Tbl := tblOf []
noncomputable def corbelref7_Big.an (k : Nat) (p : Nat) : Option Ann := cond (Nat.beq p 58) (some (.pass [] (lrun [(0, (.int .i64)), (5, .sl), (6, (.int .i64))] none [(5, .sl)] 0 (fun a h => corbelref7_Big.l0 k k (a.1) (a.2.1) (a.2.2) h))))
  (none)
noncomputable def corbelref7_Big.body : Code := (Try.f46.body).getD .skip
noncomputable def corbelref7_Big.c58 : Code := cat corbelref7_Big.body [1, 1, 0, 1, 0, 0]
set_option maxRecDepth 100000 in
theorem corbelref7_Big.TS {C : FuncId → Bool} {X : CallF} (hX : XOk C X) (k : Nat) : TblS Try.prog C X (corbelref7_Big.T k) := by
  refine tblOf_sound ?_
  intro e he
  exact absurd he List.not_mem_nil
set_option maxRecDepth 100000 in
theorem corbelref7_Big.l0_pass {C : FuncId → Bool} {X : CallF} (hX : XOk C X) (k n : Nat) : PassS Try.prog C X 23 (.loop corbelref7_Big.c58) (lrun [(0, (.int .i64)), (5, .sl), (6, (.int .i64))] none [(5, .sl)] 0 (fun a h => corbelref7_Big.l0 k n (a.1) (a.2.1) (a.2.2) h)) :=
  loop_pass (ins := [(0, (.int .i64)), (5, .sl), (6, (.int .i64))]) (rets := none) (outs := [(5, .sl)]) (id := 0) (tbl := corbelref7_Big.T k) (an := corbelref7_Big.an k) (pb := 116) (corbelref7_Big.TS hX k) (fun n => (fun a h => corbelref7_Big.l0 k n (a.1) (a.2.1) (a.2.2) h)) (fun a h => rfl) (fun n a h => by kernel_rfl)
    (by
      have e : need (corbelref7_Big.an k) corbelref7_Big.c58 116 = [] := by kernel_rfl
      rw [e]; intro q hq; cases hq) n
set_option maxRecDepth 100000 in
theorem corbelref7_Big.eq (k : Nat) (a : RT [(.int .i64), (.int .i64)]) (h : H) : (fun a h => corbelref7_Big.f k (a.1) (a.2) h) a h = kfun Try.prog (corbelref7_Big.T k) (corbelref7_Big.an k) (RT [.sl] × H) Try.f46 (encL [(.int .i64), (.int .i64)] a) h (fun vs h' => (decL [.sl] vs).bind fun x => some (x, h')) := by kernel_rfl
set_option maxRecDepth 100000 in
theorem corbelref7_Big.told {C : FuncId → Bool} {X : CallF} (hX : XOk C X) (k : Nat) : Den.Told Try.prog C X 46 [(.int .i64), (.int .i64)] [.sl] (fun a h => corbelref7_Big.f k (a.1) (a.2) h) :=
  told_of fun a h q e => fn_of (c := corbelref7_Big.body) (corbelref7_Big.TS hX k) Try.func46 (by kernel_rfl) (hX.no 46 _ h (by decide))
    (by
      have e : need (corbelref7_Big.an k) corbelref7_Big.body 1 = [(Code.loop corbelref7_Big.c58, lrun [(0, (.int .i64)), (5, .sl), (6, (.int .i64))] none [(5, .sl)] 0 (fun a h => corbelref7_Big.l0 k k (a.1) (a.2.1) (a.2.2) h))] := by kernel_rfl
      rw [e]; intro q hq
      rcases List.mem_cons.1 hq with rfl | hq
      · exact corbelref7_Big.l0_pass hX k k
      cases hq)
    ((corbelref7_Big.eq k a h).symm.trans e)
/-! ### corbel/corbelref7.LayReq -/
noncomputable def corbelref7_LayReq.f (k : Nat) (a0 : (Int × Int × Int × Int × Sl)) (h : H) : Option ((Sl) × H) :=
  (asI .i64 (ldc (newR h 48 5 [(Value.int .i64 a0.1), (Value.int .i64 a0.2.1), (Value.int .i64 a0.2.2.1), (Value.int .i64 a0.2.2.2.1), (Value.slice a0.2.2.2.2.a a0.2.2.2.2.n a0.2.2.2.2.c)]) (some ⟨h.next, 0, none⟩))).bind fun n1 =>
    (corbelref7_Big.f k n1 (1 : Int) (newR h 48 5 [(Value.int .i64 a0.1), (Value.int .i64 a0.2.1), (Value.int .i64 a0.2.2.1), (Value.int .i64 a0.2.2.2.1), (Value.slice a0.2.2.2.2.a a0.2.2.2.2.n a0.2.2.2.2.c)])).bind fun q2 =>
    (asI .i64 (ldc q2.2 (some ⟨h.next, 1, none⟩))).bind fun n3 =>
    (corbelref7_Big.f k n3 (2 : Int) q2.2).bind fun q4 =>
    (asS2 (apv 5 1 1 (Value.slice q2.1.a q2.1.n q2.1.c) (Value.slice q4.1.a q4.1.n q4.1.c) q4.2)).bind fun q5 =>
    cond (same1 (newR h 48 5 [(Value.int .i64 a0.1), (Value.int .i64 a0.2.1), (Value.int .i64 a0.2.2.1), (Value.int .i64 a0.2.2.2.1), (Value.slice a0.2.2.2.2.a a0.2.2.2.2.n a0.2.2.2.2.c)]) q2.2 (some (Value.pointer (some ⟨h.next, 1, none⟩))) && (true)) ((asI .i64 (ldc q5.2 (some ⟨h.next, 2, none⟩))).bind fun n6 =>
    (corbelref7_Big.f k n6 (6 : Int) q5.2).bind fun q7 =>
    (asS2 (apv 5 1 1 (Value.slice q5.1.a q5.1.n q5.1.c) (Value.slice q7.1.a q7.1.n q7.1.c) q7.2)).bind fun q8 =>
    (asI .i64 (ldc q8.2 (some ⟨h.next, 3, none⟩))).bind fun n9 =>
    (corbelref7_Big.f k n9 (1 : Int) q8.2).bind fun q10 =>
    (asS2 (apv 5 1 1 (Value.slice q8.1.a q8.1.n q8.1.c) (Value.slice q10.1.a q10.1.n q10.1.c) q10.2)).bind fun q11 =>
    (asS (ldc q11.2 (some ⟨h.next, 4, none⟩))).bind fun s12 =>
    (corbelref7_Big.f k (Int.ofNat s12.n) (2 : Int) q11.2).bind fun q13 =>
    (asS2 (apv 5 1 1 (Value.slice q11.1.a q11.1.n q11.1.c) (Value.slice q13.1.a q13.1.n q13.1.c) q13.2)).bind fun q14 =>
    (asS (ldc q14.2 (some ⟨h.next, 4, none⟩))).bind fun s15 =>
    (asS2 (apv 5 1 1 (Value.slice q14.1.a q14.1.n q14.1.c) (Value.slice s15.a s15.n s15.c) q14.2)).bind fun q16 =>
    some (q16.1, q16.2)) none
noncomputable def corbelref7_LayReq.T (k : Nat) : Tbl := tblOf [⟨46, anyArgs, wr [(.int .i64), (.int .i64)] [.sl] (fun a h => corbelref7_Big.f k (a.1) (a.2) h)⟩]
noncomputable def corbelref7_LayReq.an (k : Nat) (p : Nat) : Option Ann := none
noncomputable def corbelref7_LayReq.body : Code := (Try.f23.body).getD .skip
set_option maxRecDepth 100000 in
theorem corbelref7_LayReq.TS {C : FuncId → Bool} {X : CallF} (hX : XOk C X) (k : Nat) : TblS Try.prog C X (corbelref7_LayReq.T k) := by
  refine tblOf_sound ?_
  intro e he
  rcases List.mem_cons.1 he with rfl | he
  · exact wr_told (corbelref7_Big.told hX k)
  exact absurd he List.not_mem_nil
set_option maxRecDepth 100000 in
theorem corbelref7_LayReq.eq (k : Nat) (a : RT [(.st [(.int .i64), (.int .i64), (.int .i64), (.int .i64), .sl])]) (h : H) : (fun a h => corbelref7_LayReq.f k a h) a h = kfun Try.prog (corbelref7_LayReq.T k) (corbelref7_LayReq.an k) (RT [.sl] × H) Try.f23 (encL [(.st [(.int .i64), (.int .i64), (.int .i64), (.int .i64), .sl])] a) h (fun vs h' => (decL [.sl] vs).bind fun x => some (x, h')) := by kernel_rfl
set_option maxRecDepth 100000 in
theorem corbelref7_LayReq.told {C : FuncId → Bool} {X : CallF} (hX : XOk C X) (k : Nat) : Den.Told Try.prog C X 23 [(.st [(.int .i64), (.int .i64), (.int .i64), (.int .i64), .sl])] [.sl] (fun a h => corbelref7_LayReq.f k a h) :=
  told_of fun a h q e => fn_of (c := corbelref7_LayReq.body) (corbelref7_LayReq.TS hX k) Try.func23 (by kernel_rfl) (hX.no 23 _ h (by decide))
    (by
      have e : need (corbelref7_LayReq.an k) corbelref7_LayReq.body 1 = [] := by kernel_rfl
      rw [e]; intro q hq; cases hq)
    ((corbelref7_LayReq.eq k a h).symm.trans e)
/-! ### corbel/corbelhand.Few -/
noncomputable def corbelhand_Few.f (k : Nat) (a0 : Sl) (a1 : Int) (h : H) : Option ((Sl) × H) :=
  (asS (subs 1 (Value.slice a0.a a0.n a0.c) none (some (cond (decide (a1 < (Int.ofNat a0.n))) a1 (Int.ofNat a0.n))))).bind fun s1 =>
    (asS2 (apv 5 1 1 (Value.slice (some ⟨h.next, 0, none⟩) 0 0) (Value.slice s1.a s1.n s1.c) (newR h 5 1 []))).bind fun q2 =>
    some (q2.1, q2.2)
noncomputable def corbelhand_Few.T (k : Nat) : Tbl := tblOf []
noncomputable def corbelhand_Few.an (k : Nat) (p : Nat) : Option Ann := none
noncomputable def corbelhand_Few.body : Code := (Try.f24.body).getD .skip
set_option maxRecDepth 100000 in
theorem corbelhand_Few.TS {C : FuncId → Bool} {X : CallF} (hX : XOk C X) (k : Nat) : TblS Try.prog C X (corbelhand_Few.T k) := by
  refine tblOf_sound ?_
  intro e he
  exact absurd he List.not_mem_nil
set_option maxRecDepth 100000 in
theorem corbelhand_Few.eq (k : Nat) (a : RT [.sl, (.int .i64)]) (h : H) : (fun a h => corbelhand_Few.f k (a.1) (a.2) h) a h = kfun Try.prog (corbelhand_Few.T k) (corbelhand_Few.an k) (RT [.sl] × H) Try.f24 (encL [.sl, (.int .i64)] a) h (fun vs h' => (decL [.sl] vs).bind fun x => some (x, h')) := by kernel_rfl
set_option maxRecDepth 100000 in
theorem corbelhand_Few.told {C : FuncId → Bool} {X : CallF} (hX : XOk C X) (k : Nat) : Den.Told Try.prog C X 24 [.sl, (.int .i64)] [.sl] (fun a h => corbelhand_Few.f k (a.1) (a.2) h) :=
  told_of fun a h q e => fn_of (c := corbelhand_Few.body) (corbelhand_Few.TS hX k) Try.func24 (by kernel_rfl) (hX.no 24 _ h (by decide))
    (by
      have e : need (corbelhand_Few.an k) corbelhand_Few.body 1 = [] := by kernel_rfl
      rw [e]; intro q hq; cases hq)
    ((corbelhand_Few.eq k a h).symm.trans e)
/-! ### (*corbel/call.reader).take -/
noncomputable def call_reader_take.f (k : Nat) (a0 : Option Addr) (a1 : Int) (h : H) : Option ((Sl) × H) :=
  (asP (nilA (Value.pointer a0))).bind fun p1 =>
    (asP (fadd 0 p1)).bind fun p2 =>
    (asS (ldc h p2)).bind fun s3 =>
    cond (decide (a1 > (Int.ofNat s3.n)))
      ((asP (nilA (Value.pointer a0))).bind fun p4 =>
    (asP (fadd 0 p4)).bind fun p5 =>
    (stv 1 h p5 [(Value.slice none 0 0)]).bind fun q6 =>
    (asP (nilA (Value.pointer a0))).bind fun p7 =>
    (asP (fadd 1 p7)).bind fun p8 =>
    (stv 1 q6.2 p8 [(Value.bool true)]).bind fun q9 =>
    some ((⟨none, 0, 0⟩ : Sl), q9.2))
      ((asP (nilA (Value.pointer a0))).bind fun p10 =>
    (asP (fadd 0 p10)).bind fun p11 =>
    (asS (ldc h p11)).bind fun s12 =>
    (asS (subs 1 (Value.slice s12.a s12.n s12.c) none (some a1))).bind fun s13 =>
    (slices_Clone_byte_byte.f k s13 h).bind fun q14 =>
    (asP (nilA (Value.pointer a0))).bind fun p15 =>
    (asP (fadd 0 p15)).bind fun p16 =>
    (asS (ldc q14.2 p16)).bind fun s17 =>
    (asS (subs 1 (Value.slice s17.a s17.n s17.c) (some a1) none)).bind fun s18 =>
    (asP (nilA (Value.pointer a0))).bind fun p19 =>
    (asP (fadd 0 p19)).bind fun p20 =>
    (stv 1 q14.2 p20 [(Value.slice s18.a s18.n s18.c)]).bind fun q21 =>
    some (q14.1, q21.2))
noncomputable def call_reader_take.T (k : Nat) : Tbl := tblOf [⟨43, anyArgs, wr [.sl] [.sl] (fun a h => slices_Clone_byte_byte.f k a h)⟩]
noncomputable def call_reader_take.an (k : Nat) (p : Nat) : Option Ann := none
noncomputable def call_reader_take.body : Code := (Try.f48.body).getD .skip
set_option maxRecDepth 100000 in
theorem call_reader_take.TS {C : FuncId → Bool} {X : CallF} (hX : XOk C X) (k : Nat) : TblS Try.prog C X (call_reader_take.T k) := by
  refine tblOf_sound ?_
  intro e he
  rcases List.mem_cons.1 he with rfl | he
  · exact wr_told (slices_Clone_byte_byte.told hX k)
  exact absurd he List.not_mem_nil
set_option maxRecDepth 100000 in
theorem call_reader_take.eq (k : Nat) (a : RT [.ptr, (.int .i64)]) (h : H) : (fun a h => call_reader_take.f k (a.1) (a.2) h) a h = kfun Try.prog (call_reader_take.T k) (call_reader_take.an k) (RT [.sl] × H) Try.f48 (encL [.ptr, (.int .i64)] a) h (fun vs h' => (decL [.sl] vs).bind fun x => some (x, h')) := by kernel_rfl
set_option maxRecDepth 100000 in
theorem call_reader_take.told {C : FuncId → Bool} {X : CallF} (hX : XOk C X) (k : Nat) : Den.Told Try.prog C X 48 [.ptr, (.int .i64)] [.sl] (fun a h => call_reader_take.f k (a.1) (a.2) h) :=
  told_of fun a h q e => fn_of (c := call_reader_take.body) (call_reader_take.TS hX k) Try.func48 (by kernel_rfl) (hX.no 48 _ h (by decide))
    (by
      have e : need (call_reader_take.an k) call_reader_take.body 1 = [] := by kernel_rfl
      rw [e]; intro q hq; cases hq)
    ((call_reader_take.eq k a h).symm.trans e)
/-! ### (*corbel/call.reader).number -/
noncomputable def call_reader_number.l0 (k : Nat) (n : Nat) : Sl → Int → Int → Int → H → Option ((Int) × H) :=
  Nat.rec (motive := fun _ => Sl → Int → Int → Int → H → Option ((Int) × H)) (fun _ _ _ _ _ => none) (fun _ ih x2 x3 x4 x5 h6 => cond (decide (x5 < x3))
      ((asP (ixs 1 x2.a x2.n x5)).bind fun p7 =>
    (asI .u8 (ldc h6 p7)).bind fun n8 =>
    (asI .i64 (intA .or .i64 (wrapA .i64 (x4 * 2 ^ 8)) (wrapA .i64 n8))).bind fun n9 =>
    ih x2 x3 n9 (wrapA .i64 (x5 + (1 : Int))) h6)
      (some (x4, h6))) n
theorem call_reader_number.l0_zero (k : Nat) (x2 : Sl) (x3 : Int) (x4 : Int) (x5 : Int) (h6 : H) : call_reader_number.l0 k 0 x2 x3 x4 x5 h6 = none := rfl
theorem call_reader_number.l0_succ (k n : Nat) (x2 : Sl) (x3 : Int) (x4 : Int) (x5 : Int) (h6 : H) : call_reader_number.l0 k (n + 1) x2 x3 x4 x5 h6 = (cond (decide (x5 < x3))
      ((asP (ixs 1 x2.a x2.n x5)).bind fun p7 =>
    (asI .u8 (ldc h6 p7)).bind fun n8 =>
    (asI .i64 (intA .or .i64 (wrapA .i64 (x4 * 2 ^ 8)) (wrapA .i64 n8))).bind fun n9 =>
    call_reader_number.l0 k n x2 x3 n9 (wrapA .i64 (x5 + (1 : Int))) h6)
      (some (x4, h6))) := rfl
noncomputable def call_reader_number.f (k : Nat) (a0 : Option Addr) (a1 : Int) (h : H) : Option ((Int) × H) :=
  (call_reader_take.f k a0 a1 h).bind fun q1 =>
    (call_reader_number.l0 k k q1.1 (Int.ofNat q1.1.n) (0 : Int) (0 : Int) q1.2).bind fun w10 =>
    some (w10.1, w10.2)
noncomputable def call_reader_number.T (k : Nat) : Tbl := tblOf [⟨48, anyArgs, wr [.ptr, (.int .i64)] [.sl] (fun a h => call_reader_take.f k (a.1) (a.2) h)⟩]
noncomputable def call_reader_number.an (k : Nat) (p : Nat) : Option Ann := cond (Nat.beq p 58) (some (.pass [] (lrun [(10, .sl), (11, (.int .i64)), (5, (.int .i64)), (12, (.int .i64))] none [(5, (.int .i64))] 0 (fun a h => call_reader_number.l0 k k (a.1) (a.2.1) (a.2.2.1) (a.2.2.2) h))))
  (none)
noncomputable def call_reader_number.body : Code := (Try.f47.body).getD .skip
noncomputable def call_reader_number.c58 : Code := cat call_reader_number.body [1, 1, 0, 1, 0, 0]
set_option maxRecDepth 100000 in
theorem call_reader_number.TS {C : FuncId → Bool} {X : CallF} (hX : XOk C X) (k : Nat) : TblS Try.prog C X (call_reader_number.T k) := by
  refine tblOf_sound ?_
  intro e he
  rcases List.mem_cons.1 he with rfl | he
  · exact wr_told (call_reader_take.told hX k)
  exact absurd he List.not_mem_nil
set_option maxRecDepth 100000 in
theorem call_reader_number.l0_pass {C : FuncId → Bool} {X : CallF} (hX : XOk C X) (k n : Nat) : PassS Try.prog C X 23 (.loop call_reader_number.c58) (lrun [(10, .sl), (11, (.int .i64)), (5, (.int .i64)), (12, (.int .i64))] none [(5, (.int .i64))] 0 (fun a h => call_reader_number.l0 k n (a.1) (a.2.1) (a.2.2.1) (a.2.2.2) h)) :=
  loop_pass (ins := [(10, .sl), (11, (.int .i64)), (5, (.int .i64)), (12, (.int .i64))]) (rets := none) (outs := [(5, (.int .i64))]) (id := 0) (tbl := call_reader_number.T k) (an := call_reader_number.an k) (pb := 116) (call_reader_number.TS hX k) (fun n => (fun a h => call_reader_number.l0 k n (a.1) (a.2.1) (a.2.2.1) (a.2.2.2) h)) (fun a h => rfl) (fun n a h => by kernel_rfl)
    (by
      have e : need (call_reader_number.an k) call_reader_number.c58 116 = [] := by kernel_rfl
      rw [e]; intro q hq; cases hq) n
set_option maxRecDepth 100000 in
theorem call_reader_number.eq (k : Nat) (a : RT [.ptr, (.int .i64)]) (h : H) : (fun a h => call_reader_number.f k (a.1) (a.2) h) a h = kfun Try.prog (call_reader_number.T k) (call_reader_number.an k) (RT [(.int .i64)] × H) Try.f47 (encL [.ptr, (.int .i64)] a) h (fun vs h' => (decL [(.int .i64)] vs).bind fun x => some (x, h')) := by kernel_rfl
set_option maxRecDepth 100000 in
theorem call_reader_number.told {C : FuncId → Bool} {X : CallF} (hX : XOk C X) (k : Nat) : Den.Told Try.prog C X 47 [.ptr, (.int .i64)] [(.int .i64)] (fun a h => call_reader_number.f k (a.1) (a.2) h) :=
  told_of fun a h q e => fn_of (c := call_reader_number.body) (call_reader_number.TS hX k) Try.func47 (by kernel_rfl) (hX.no 47 _ h (by decide))
    (by
      have e : need (call_reader_number.an k) call_reader_number.body 1 = [(Code.loop call_reader_number.c58, lrun [(10, .sl), (11, (.int .i64)), (5, (.int .i64)), (12, (.int .i64))] none [(5, (.int .i64))] 0 (fun a h => call_reader_number.l0 k k (a.1) (a.2.1) (a.2.2.1) (a.2.2.2) h))] := by kernel_rfl
      rw [e]; intro q hq
      rcases List.mem_cons.1 hq with rfl | hq
      · exact call_reader_number.l0_pass hX k k
      cases hq)
    ((call_reader_number.eq k a h).symm.trans e)
/-! ### slices.Equal[[]byte,byte] -/
noncomputable def slices_Equal_byte_byte.l0 (k : Nat) (n : Nat) : Sl → Sl → Int → Int → H → Option (((Bool) ⊕ (Unit)) × H) :=
  Nat.rec (motive := fun _ => Sl → Sl → Int → Int → H → Option (((Bool) ⊕ (Unit)) × H)) (fun _ _ _ _ _ => none) (fun _ ih x1 x2 x3 x4 h5 => cond (decide (x4 < x3))
      ((asP (ixs 1 x1.a x1.n x4)).bind fun p6 =>
    (asI .u8 (ldc h5 p6)).bind fun n7 =>
    (asP (ixs 1 x2.a x2.n x4)).bind fun p8 =>
    (asI .u8 (ldc h5 p8)).bind fun n9 =>
    cond (n7 != n9)
      (some (Sum.inl false, h5))
      (ih x1 x2 x3 (wrapA .i64 (x4 + (1 : Int))) h5))
      (some (Sum.inr (), h5))) n
theorem slices_Equal_byte_byte.l0_zero (k : Nat) (x1 : Sl) (x2 : Sl) (x3 : Int) (x4 : Int) (h5 : H) : slices_Equal_byte_byte.l0 k 0 x1 x2 x3 x4 h5 = none := rfl
theorem slices_Equal_byte_byte.l0_succ (k n : Nat) (x1 : Sl) (x2 : Sl) (x3 : Int) (x4 : Int) (h5 : H) : slices_Equal_byte_byte.l0 k (n + 1) x1 x2 x3 x4 h5 = (cond (decide (x4 < x3))
      ((asP (ixs 1 x1.a x1.n x4)).bind fun p6 =>
    (asI .u8 (ldc h5 p6)).bind fun n7 =>
    (asP (ixs 1 x2.a x2.n x4)).bind fun p8 =>
    (asI .u8 (ldc h5 p8)).bind fun n9 =>
    cond (n7 != n9)
      (some (Sum.inl false, h5))
      (slices_Equal_byte_byte.l0 k n x1 x2 x3 (wrapA .i64 (x4 + (1 : Int))) h5))
      (some (Sum.inr (), h5))) := rfl
noncomputable def slices_Equal_byte_byte.f (k : Nat) (a0 : Sl) (a1 : Sl) (h : H) : Option ((Bool) × H) :=
  cond ((Int.ofNat a0.n) != (Int.ofNat a1.n))
      (some (false, h))
      ((slices_Equal_byte_byte.l0 k k a0 a1 (Int.ofNat a0.n) (0 : Int) h).bind fun w10 =>
    match w10.1 with
    | .inl r11 => some (r11, w10.2)
    | .inr o12 => some (true, w10.2))
noncomputable def slices_Equal_byte_byte.T (k : Nat) : Tbl := tblOf []
noncomputable def slices_Equal_byte_byte.an (k : Nat) (p : Nat) : Option Ann := cond (Nat.beq p 58) (some (.pass [] (lrun [(0, .sl), (1, .sl), (12, (.int .i64)), (13, (.int .i64))] (some [(4, .bool)]) [] 0 (fun a h => slices_Equal_byte_byte.l0 k k (a.1) (a.2.1) (a.2.2.1) (a.2.2.2) h))))
  (none)
noncomputable def slices_Equal_byte_byte.body : Code := (Try.f49.body).getD .skip
noncomputable def slices_Equal_byte_byte.c58 : Code := cat slices_Equal_byte_byte.body [1, 1, 0, 1, 0, 0]
set_option maxRecDepth 100000 in
theorem slices_Equal_byte_byte.TS {C : FuncId → Bool} {X : CallF} (hX : XOk C X) (k : Nat) : TblS Try.prog C X (slices_Equal_byte_byte.T k) := by
  refine tblOf_sound ?_
  intro e he
  exact absurd he List.not_mem_nil
set_option maxRecDepth 100000 in
theorem slices_Equal_byte_byte.l0_pass {C : FuncId → Bool} {X : CallF} (hX : XOk C X) (k n : Nat) : PassS Try.prog C X 26 (.loop slices_Equal_byte_byte.c58) (lrun [(0, .sl), (1, .sl), (12, (.int .i64)), (13, (.int .i64))] (some [(4, .bool)]) [] 0 (fun a h => slices_Equal_byte_byte.l0 k n (a.1) (a.2.1) (a.2.2.1) (a.2.2.2) h)) :=
  loop_pass (ins := [(0, .sl), (1, .sl), (12, (.int .i64)), (13, (.int .i64))]) (rets := (some [(4, .bool)])) (outs := []) (id := 0) (tbl := slices_Equal_byte_byte.T k) (an := slices_Equal_byte_byte.an k) (pb := 116) (slices_Equal_byte_byte.TS hX k) (fun n => (fun a h => slices_Equal_byte_byte.l0 k n (a.1) (a.2.1) (a.2.2.1) (a.2.2.2) h)) (fun a h => rfl) (fun n a h => by kernel_rfl)
    (by
      have e : need (slices_Equal_byte_byte.an k) slices_Equal_byte_byte.c58 116 = [] := by kernel_rfl
      rw [e]; intro q hq; cases hq) n
set_option maxRecDepth 100000 in
theorem slices_Equal_byte_byte.eq (k : Nat) (a : RT [.sl, .sl]) (h : H) : (fun a h => slices_Equal_byte_byte.f k (a.1) (a.2) h) a h = kfun Try.prog (slices_Equal_byte_byte.T k) (slices_Equal_byte_byte.an k) (RT [.bool] × H) Try.f49 (encL [.sl, .sl] a) h (fun vs h' => (decL [.bool] vs).bind fun x => some (x, h')) := by kernel_rfl
set_option maxRecDepth 100000 in
theorem slices_Equal_byte_byte.told {C : FuncId → Bool} {X : CallF} (hX : XOk C X) (k : Nat) : Den.Told Try.prog C X 49 [.sl, .sl] [.bool] (fun a h => slices_Equal_byte_byte.f k (a.1) (a.2) h) :=
  told_of fun a h q e => fn_of (c := slices_Equal_byte_byte.body) (slices_Equal_byte_byte.TS hX k) Try.func49 (by kernel_rfl) (hX.no 49 _ h (by decide))
    (by
      have e : need (slices_Equal_byte_byte.an k) slices_Equal_byte_byte.body 1 = [(Code.loop slices_Equal_byte_byte.c58, lrun [(0, .sl), (1, .sl), (12, (.int .i64)), (13, (.int .i64))] (some [(4, .bool)]) [] 0 (fun a h => slices_Equal_byte_byte.l0 k k (a.1) (a.2.1) (a.2.2.1) (a.2.2.2) h))] := by kernel_rfl
      rw [e]; intro q hq
      rcases List.mem_cons.1 hq with rfl | hq
      · exact slices_Equal_byte_byte.l0_pass hX k k
      cases hq)
    ((slices_Equal_byte_byte.eq k a h).symm.trans e)
/-! ### corbel/call.ReadReq -/
noncomputable def call_ReadReq.f (k : Nat) (a0 : Sl) (h : H) : Option (((Int × Int × Int × Int × Sl) × Int) × H) :=
  (slices_Clone_byte_byte.f k a0 (newR h 48 5 [(Value.int .i64 (0 : Int)), (Value.int .i64 (0 : Int)), (Value.int .i64 (0 : Int)), (Value.int .i64 (0 : Int)), (Value.slice none 0 0)])).bind fun q1 =>
    (call_reader_number.f k (some ⟨q1.2.next, 0, none⟩) (1 : Int) (newR q1.2 92 2 [(Value.slice q1.1.a q1.1.n q1.1.c), (Value.bool false)])).bind fun q2 =>
    (call_reader_number.f k (some ⟨q1.2.next, 0, none⟩) (2 : Int) q2.2).bind fun q3 =>
    (call_reader_number.f k (some ⟨q1.2.next, 0, none⟩) (6 : Int) q3.2).bind fun q4 =>
    (call_reader_number.f k (some ⟨q1.2.next, 0, none⟩) (1 : Int) q4.2).bind fun q5 =>
    (stv 5 (newR q5.2 48 5 [(Value.int .i64 (0 : Int)), (Value.int .i64 (0 : Int)), (Value.int .i64 (0 : Int)), (Value.int .i64 (0 : Int)), (Value.slice none 0 0)]) (some ⟨q5.2.next, 0, none⟩) [(Value.int .i64 q2.1), (Value.int .i64 q3.1), (Value.int .i64 q4.1), (Value.int .i64 q5.1), (Value.slice none 0 0)]).bind fun q6 =>
    (call_reader_number.f k (some ⟨q1.2.next, 0, none⟩) (2 : Int) q6.2).bind fun q7 =>
    (call_reader_take.f k (some ⟨q1.2.next, 0, none⟩) q7.1 q7.2).bind fun q8 =>
    (stv 1 q8.2 (some ⟨q5.2.next, 4, none⟩) [(Value.slice q8.1.a q8.1.n q8.1.c)]).bind fun q9 =>
    (asSt [(.int .i64), (.int .i64), (.int .i64), (.int .i64), .sl] (lda 5 q9.2 (some ⟨q5.2.next, 0, none⟩))).bind fun s10 =>
    (call_LayReq.f k (s10.1, s10.2.1, s10.2.2.1, s10.2.2.2.1, s10.2.2.2.2) q9.2).bind fun q11 =>
    (cond (q11.1.2 != (0 : Int)) (some (true, q11.2))
      ((slices_Equal_byte_byte.f k q11.1.1 a0 q11.2).bind fun q12 =>
    some (!q12.1, q12.2))).bind fun g13 =>
    cond g13.1
      ((stv 5 g13.2 (some ⟨h.next, 0, none⟩) [(Value.int .i64 (0 : Int)), (Value.int .i64 (0 : Int)), (Value.int .i64 (0 : Int)), (Value.int .i64 (0 : Int)), (Value.slice none 0 0)]).bind fun q14 =>
    (asSt [(.int .i64), (.int .i64), (.int .i64), (.int .i64), .sl] (lda 5 q14.2 (some ⟨h.next, 0, none⟩))).bind fun s15 =>
    some (((s15.1, s15.2.1, s15.2.2.1, s15.2.2.2.1, s15.2.2.2.2), (2 : Int)), q14.2))
      ((asSt [(.int .i64), (.int .i64), (.int .i64), (.int .i64), .sl] (lda 5 g13.2 (some ⟨q5.2.next, 0, none⟩))).bind fun s16 =>
    (stv 5 g13.2 (some ⟨h.next, 0, none⟩) [(Value.int .i64 s16.1), (Value.int .i64 s16.2.1), (Value.int .i64 s16.2.2.1), (Value.int .i64 s16.2.2.2.1), (Value.slice s16.2.2.2.2.a s16.2.2.2.2.n s16.2.2.2.2.c)]).bind fun q17 =>
    (asSt [(.int .i64), (.int .i64), (.int .i64), (.int .i64), .sl] (lda 5 q17.2 (some ⟨h.next, 0, none⟩))).bind fun s18 =>
    some (((s18.1, s18.2.1, s18.2.2.1, s18.2.2.2.1, s18.2.2.2.2), (0 : Int)), q17.2))
noncomputable def call_ReadReq.T (k : Nat) : Tbl := tblOf [⟨43, anyArgs, wr [.sl] [.sl] (fun a h => slices_Clone_byte_byte.f k a h)⟩,
  ⟨47, anyArgs, wr [.ptr, (.int .i64)] [(.int .i64)] (fun a h => call_reader_number.f k (a.1) (a.2) h)⟩,
  ⟨48, anyArgs, wr [.ptr, (.int .i64)] [.sl] (fun a h => call_reader_take.f k (a.1) (a.2) h)⟩,
  ⟨22, anyArgs, wr [(.st [(.int .i64), (.int .i64), (.int .i64), (.int .i64), .sl])] [.sl, (.int .i64)] (fun a h => call_LayReq.f k a h)⟩,
  ⟨49, anyArgs, wr [.sl, .sl] [.bool] (fun a h => slices_Equal_byte_byte.f k (a.1) (a.2) h)⟩]
noncomputable def call_ReadReq.an (k : Nat) (p : Nat) : Option Ann := none
noncomputable def call_ReadReq.body : Code := (Try.f25.body).getD .skip
set_option maxRecDepth 100000 in
theorem call_ReadReq.TS {C : FuncId → Bool} {X : CallF} (hX : XOk C X) (k : Nat) : TblS Try.prog C X (call_ReadReq.T k) := by
  refine tblOf_sound ?_
  intro e he
  rcases List.mem_cons.1 he with rfl | he
  · exact wr_told (slices_Clone_byte_byte.told hX k)
  rcases List.mem_cons.1 he with rfl | he
  · exact wr_told (call_reader_number.told hX k)
  rcases List.mem_cons.1 he with rfl | he
  · exact wr_told (call_reader_take.told hX k)
  rcases List.mem_cons.1 he with rfl | he
  · exact wr_told (call_LayReq.told hX k)
  rcases List.mem_cons.1 he with rfl | he
  · exact wr_told (slices_Equal_byte_byte.told hX k)
  exact absurd he List.not_mem_nil
set_option maxRecDepth 100000 in
theorem call_ReadReq.eq (k : Nat) (a : RT [.sl]) (h : H) : (fun a h => call_ReadReq.f k a h) a h = kfun Try.prog (call_ReadReq.T k) (call_ReadReq.an k) (RT [(.st [(.int .i64), (.int .i64), (.int .i64), (.int .i64), .sl]), (.int .i64)] × H) Try.f25 (encL [.sl] a) h (fun vs h' => (decL [(.st [(.int .i64), (.int .i64), (.int .i64), (.int .i64), .sl]), (.int .i64)] vs).bind fun x => some (x, h')) := by kernel_rfl
set_option maxRecDepth 100000 in
theorem call_ReadReq.told {C : FuncId → Bool} {X : CallF} (hX : XOk C X) (k : Nat) : Den.Told Try.prog C X 25 [.sl] [(.st [(.int .i64), (.int .i64), (.int .i64), (.int .i64), .sl]), (.int .i64)] (fun a h => call_ReadReq.f k a h) :=
  told_of fun a h q e => fn_of (c := call_ReadReq.body) (call_ReadReq.TS hX k) Try.func25 (by kernel_rfl) (hX.no 25 _ h (by decide))
    (by
      have e : need (call_ReadReq.an k) call_ReadReq.body 1 = [] := by kernel_rfl
      rw [e]; intro q hq; cases hq)
    ((call_ReadReq.eq k a h).symm.trans e)
/-! ### corbel/corbelref7.From -/
noncomputable def corbelref7_From.l0 (k : Nat) (n : Nat) : Sl → Int → Int → H → Option ((Int) × H) :=
  Nat.rec (motive := fun _ => Sl → Int → Int → H → Option ((Int) × H)) (fun _ _ _ _ => none) (fun _ ih x1 x2 x3 h4 => cond (decide (x3 < (Int.ofNat x1.n)))
      ((asP (ixs 1 x1.a x1.n x3)).bind fun p5 =>
    (asI .u8 (ldc h4 p5)).bind fun n6 =>
    (asI .i64 (intA .or .i64 (wrapA .i64 (x2 * 2 ^ 8)) (wrapA .i64 n6))).bind fun n7 =>
    ih x1 n7 (wrapA .i64 (x3 + (1 : Int))) h4)
      (some (x2, h4))) n
theorem corbelref7_From.l0_zero (k : Nat) (x1 : Sl) (x2 : Int) (x3 : Int) (h4 : H) : corbelref7_From.l0 k 0 x1 x2 x3 h4 = none := rfl
theorem corbelref7_From.l0_succ (k n : Nat) (x1 : Sl) (x2 : Int) (x3 : Int) (h4 : H) : corbelref7_From.l0 k (n + 1) x1 x2 x3 h4 = (cond (decide (x3 < (Int.ofNat x1.n)))
      ((asP (ixs 1 x1.a x1.n x3)).bind fun p5 =>
    (asI .u8 (ldc h4 p5)).bind fun n6 =>
    (asI .i64 (intA .or .i64 (wrapA .i64 (x2 * 2 ^ 8)) (wrapA .i64 n6))).bind fun n7 =>
    corbelref7_From.l0 k n x1 n7 (wrapA .i64 (x3 + (1 : Int))) h4)
      (some (x2, h4))) := rfl
noncomputable def corbelref7_From.f (k : Nat) (a0 : Sl) (h : H) : Option ((Int) × H) :=
  (corbelref7_From.l0 k k a0 (0 : Int) (0 : Int) h).bind fun w8 =>
    some (w8.1, w8.2)
noncomputable def corbelref7_From.T (k : Nat) : Tbl := tblOf []
noncomputable def corbelref7_From.an (k : Nat) (p : Nat) : Option Ann := cond (Nat.beq p 58) (some (.pass [] (lrun [(0, .sl), (3, (.int .i64)), (4, (.int .i64))] none [(3, (.int .i64))] 0 (fun a h => corbelref7_From.l0 k k (a.1) (a.2.1) (a.2.2) h))))
  (none)
noncomputable def corbelref7_From.body : Code := (Try.f50.body).getD .skip
noncomputable def corbelref7_From.c58 : Code := cat corbelref7_From.body [1, 1, 0, 1, 0, 0]
set_option maxRecDepth 100000 in
theorem corbelref7_From.TS {C : FuncId → Bool} {X : CallF} (hX : XOk C X) (k : Nat) : TblS Try.prog C X (corbelref7_From.T k) := by
  refine tblOf_sound ?_
  intro e he
  exact absurd he List.not_mem_nil
set_option maxRecDepth 100000 in
theorem corbelref7_From.l0_pass {C : FuncId → Bool} {X : CallF} (hX : XOk C X) (k n : Nat) : PassS Try.prog C X 20 (.loop corbelref7_From.c58) (lrun [(0, .sl), (3, (.int .i64)), (4, (.int .i64))] none [(3, (.int .i64))] 0 (fun a h => corbelref7_From.l0 k n (a.1) (a.2.1) (a.2.2) h)) :=
  loop_pass (ins := [(0, .sl), (3, (.int .i64)), (4, (.int .i64))]) (rets := none) (outs := [(3, (.int .i64))]) (id := 0) (tbl := corbelref7_From.T k) (an := corbelref7_From.an k) (pb := 116) (corbelref7_From.TS hX k) (fun n => (fun a h => corbelref7_From.l0 k n (a.1) (a.2.1) (a.2.2) h)) (fun a h => rfl) (fun n a h => by kernel_rfl)
    (by
      have e : need (corbelref7_From.an k) corbelref7_From.c58 116 = [] := by kernel_rfl
      rw [e]; intro q hq; cases hq) n
set_option maxRecDepth 100000 in
theorem corbelref7_From.eq (k : Nat) (a : RT [.sl]) (h : H) : (fun a h => corbelref7_From.f k a h) a h = kfun Try.prog (corbelref7_From.T k) (corbelref7_From.an k) (RT [(.int .i64)] × H) Try.f50 (encL [.sl] a) h (fun vs h' => (decL [(.int .i64)] vs).bind fun x => some (x, h')) := by kernel_rfl
set_option maxRecDepth 100000 in
theorem corbelref7_From.told {C : FuncId → Bool} {X : CallF} (hX : XOk C X) (k : Nat) : Den.Told Try.prog C X 50 [.sl] [(.int .i64)] (fun a h => corbelref7_From.f k a h) :=
  told_of fun a h q e => fn_of (c := corbelref7_From.body) (corbelref7_From.TS hX k) Try.func50 (by kernel_rfl) (hX.no 50 _ h (by decide))
    (by
      have e : need (corbelref7_From.an k) corbelref7_From.body 1 = [(Code.loop corbelref7_From.c58, lrun [(0, .sl), (3, (.int .i64)), (4, (.int .i64))] none [(3, (.int .i64))] 0 (fun a h => corbelref7_From.l0 k k (a.1) (a.2.1) (a.2.2) h))] := by kernel_rfl
      rw [e]; intro q hq
      rcases List.mem_cons.1 hq with rfl | hq
      · exact corbelref7_From.l0_pass hX k k
      cases hq)
    ((corbelref7_From.eq k a h).symm.trans e)
/-! ### corbel/corbelref7.ReadReq -/
noncomputable def corbelref7_ReadReq.f (k : Nat) (a0 : Sl) (h : H) : Option (((Int × Int × Int × Int × Sl) × Bool) × H) :=
  cond (decide ((Int.ofNat a0.n) < (12 : Int)))
      ((stv 5 (newR h 48 5 [(Value.int .i64 (0 : Int)), (Value.int .i64 (0 : Int)), (Value.int .i64 (0 : Int)), (Value.int .i64 (0 : Int)), (Value.slice none 0 0)]) (some ⟨h.next, 0, none⟩) [(Value.int .i64 (0 : Int)), (Value.int .i64 (0 : Int)), (Value.int .i64 (0 : Int)), (Value.int .i64 (0 : Int)), (Value.slice none 0 0)]).bind fun q1 =>
    (asSt [(.int .i64), (.int .i64), (.int .i64), (.int .i64), .sl] (lda 5 q1.2 (some ⟨h.next, 0, none⟩))).bind fun s2 =>
    some (((s2.1, s2.2.1, s2.2.2.1, s2.2.2.2.1, s2.2.2.2.2), false), q1.2))
      ((asP (ixs 1 a0.a a0.n (0 : Int))).bind fun p3 =>
    (asI .u8 (ldc (newR h 48 5 [(Value.int .i64 (0 : Int)), (Value.int .i64 (0 : Int)), (Value.int .i64 (0 : Int)), (Value.int .i64 (0 : Int)), (Value.slice none 0 0)]) p3)).bind fun n4 =>
    (asS (subs 1 (Value.slice a0.a a0.n a0.c) (some (1 : Int)) (some (3 : Int)))).bind fun s5 =>
    (corbelref7_From.f k s5 (newR h 48 5 [(Value.int .i64 (0 : Int)), (Value.int .i64 (0 : Int)), (Value.int .i64 (0 : Int)), (Value.int .i64 (0 : Int)), (Value.slice none 0 0)])).bind fun q6 =>
    (asS (subs 1 (Value.slice a0.a a0.n a0.c) (some (3 : Int)) (some (9 : Int)))).bind fun s7 =>
    (corbelref7_From.f k s7 q6.2).bind fun q8 =>
    (asP (ixs 1 a0.a a0.n (9 : Int))).bind fun p9 =>
    (asI .u8 (ldc q8.2 p9)).bind fun n10 =>
    (asS (subs 1 (Value.slice a0.a a0.n a0.c) (some (12 : Int)) none)).bind fun s11 =>
    (asS2 (apv 5 1 1 (Value.slice (some ⟨q8.2.next, 0, none⟩) 0 0) (Value.slice s11.a s11.n s11.c) (newR q8.2 5 1 []))).bind fun q12 =>
    (stv 5 (newR q12.2 48 5 [(Value.int .i64 (0 : Int)), (Value.int .i64 (0 : Int)), (Value.int .i64 (0 : Int)), (Value.int .i64 (0 : Int)), (Value.slice none 0 0)]) (some ⟨q12.2.next, 0, none⟩) [(Value.int .i64 (wrapA .i64 n4)), (Value.int .i64 q6.1), (Value.int .i64 q8.1), (Value.int .i64 (wrapA .i64 n10)), (Value.slice q12.1.a q12.1.n q12.1.c)]).bind fun q13 =>
    cond (same1 (newR h 48 5 [(Value.int .i64 (0 : Int)), (Value.int .i64 (0 : Int)), (Value.int .i64 (0 : Int)), (Value.int .i64 (0 : Int)), (Value.slice none 0 0)]) q6.2 (some (Value.pointer p3)) && (same1 q6.2 q8.2 (some (Value.pointer p3)) && (same1 (newR q8.2 5 1 []) q12.2 (some (Value.pointer p3)) && (same1 (newR h 48 5 [(Value.int .i64 (0 : Int)), (Value.int .i64 (0 : Int)), (Value.int .i64 (0 : Int)), (Value.int .i64 (0 : Int)), (Value.slice none 0 0)]) q6.2 (some (Value.pointer p9)) && (same1 q6.2 q8.2 (some (Value.pointer p9)) && (same1 (newR q8.2 5 1 []) q12.2 (some (Value.pointer p9)) && (true))))))) ((asSt [(.int .i64), (.int .i64), (.int .i64), (.int .i64), .sl] (lda 5 q13.2 (some ⟨q12.2.next, 0, none⟩))).bind fun s14 =>
    (corbelref7_RightReq.f k (s14.1, s14.2.1, s14.2.2.1, s14.2.2.2.1, s14.2.2.2.2) q13.2).bind fun q15 =>
    (cond (!q15.1) (some (true, q15.2, [], []))
      ((asSt [(.int .i64), (.int .i64), (.int .i64), (.int .i64), .sl] (lda 5 q15.2 (some ⟨q12.2.next, 0, none⟩))).bind fun s16 =>
    (corbelref7_LayReq.f k (s16.1, s16.2.1, s16.2.2.1, s16.2.2.2.1, s16.2.2.2.2) q15.2).bind fun q17 =>
    (asT (txt q17.2 (Value.slice q17.1.a q17.1.n q17.1.c))).bind fun s18 =>
    (asT (txt q17.2 (Value.slice a0.a a0.n a0.c))).bind fun s19 =>
    some (!(s18.toList == s19.toList), q17.2, ([(7, none)] ++ [(8, (blkOf (some (Value.slice a0.a a0.n a0.c))))]), [(5, q15.2, q17.2)])) : Option (Bool × H × LEs × EFs)).bind fun g20 =>
    cond (dynL [(7, 5), (8, 5)] g20.2.2.1 g20.2.2.2) (cond g20.1
      ((stv 5 g20.2.1 (some ⟨h.next, 0, none⟩) [(Value.int .i64 (0 : Int)), (Value.int .i64 (0 : Int)), (Value.int .i64 (0 : Int)), (Value.int .i64 (0 : Int)), (Value.slice none 0 0)]).bind fun q21 =>
    (asSt [(.int .i64), (.int .i64), (.int .i64), (.int .i64), .sl] (lda 5 q21.2 (some ⟨h.next, 0, none⟩))).bind fun s22 =>
    some (((s22.1, s22.2.1, s22.2.2.1, s22.2.2.2.1, s22.2.2.2.2), false), q21.2))
      ((asSt [(.int .i64), (.int .i64), (.int .i64), (.int .i64), .sl] (lda 5 g20.2.1 (some ⟨q12.2.next, 0, none⟩))).bind fun s23 =>
    (stv 5 g20.2.1 (some ⟨h.next, 0, none⟩) [(Value.int .i64 s23.1), (Value.int .i64 s23.2.1), (Value.int .i64 s23.2.2.1), (Value.int .i64 s23.2.2.2.1), (Value.slice s23.2.2.2.2.a s23.2.2.2.2.n s23.2.2.2.2.c)]).bind fun q24 =>
    (asSt [(.int .i64), (.int .i64), (.int .i64), (.int .i64), .sl] (lda 5 q24.2 (some ⟨h.next, 0, none⟩))).bind fun s25 =>
    some (((s25.1, s25.2.1, s25.2.2.1, s25.2.2.2.1, s25.2.2.2.2), true), q24.2))) none) none)
noncomputable def corbelref7_ReadReq.T (k : Nat) : Tbl := tblOf [⟨50, anyArgs, wr [.sl] [(.int .i64)] (fun a h => corbelref7_From.f k a h)⟩,
  ⟨21, anyArgs, wr [(.st [(.int .i64), (.int .i64), (.int .i64), (.int .i64), .sl])] [.bool] (fun a h => corbelref7_RightReq.f k a h)⟩,
  ⟨23, anyArgs, wr [(.st [(.int .i64), (.int .i64), (.int .i64), (.int .i64), .sl])] [.sl] (fun a h => corbelref7_LayReq.f k a h)⟩]
noncomputable def corbelref7_ReadReq.an (k : Nat) (p : Nat) : Option Ann := none
noncomputable def corbelref7_ReadReq.body : Code := (Try.f26.body).getD .skip
set_option maxRecDepth 100000 in
theorem corbelref7_ReadReq.TS {C : FuncId → Bool} {X : CallF} (hX : XOk C X) (k : Nat) : TblS Try.prog C X (corbelref7_ReadReq.T k) := by
  refine tblOf_sound ?_
  intro e he
  rcases List.mem_cons.1 he with rfl | he
  · exact wr_told (corbelref7_From.told hX k)
  rcases List.mem_cons.1 he with rfl | he
  · exact wr_told (corbelref7_RightReq.told hX k)
  rcases List.mem_cons.1 he with rfl | he
  · exact wr_told (corbelref7_LayReq.told hX k)
  exact absurd he List.not_mem_nil
set_option maxRecDepth 100000 in
theorem corbelref7_ReadReq.eq (k : Nat) (a : RT [.sl]) (h : H) : (fun a h => corbelref7_ReadReq.f k a h) a h = kfun Try.prog (corbelref7_ReadReq.T k) (corbelref7_ReadReq.an k) (RT [(.st [(.int .i64), (.int .i64), (.int .i64), (.int .i64), .sl]), .bool] × H) Try.f26 (encL [.sl] a) h (fun vs h' => (decL [(.st [(.int .i64), (.int .i64), (.int .i64), (.int .i64), .sl]), .bool] vs).bind fun x => some (x, h')) := by kernel_rfl
set_option maxRecDepth 100000 in
theorem corbelref7_ReadReq.told {C : FuncId → Bool} {X : CallF} (hX : XOk C X) (k : Nat) : Den.Told Try.prog C X 26 [.sl] [(.st [(.int .i64), (.int .i64), (.int .i64), (.int .i64), .sl]), .bool] (fun a h => corbelref7_ReadReq.f k a h) :=
  told_of fun a h q e => fn_of (c := corbelref7_ReadReq.body) (corbelref7_ReadReq.TS hX k) Try.func26 (by kernel_rfl) (hX.no 26 _ h (by decide))
    (by
      have e : need (corbelref7_ReadReq.an k) corbelref7_ReadReq.body 1 = [] := by kernel_rfl
      rw [e]; intro q hq; cases hq)
    ((corbelref7_ReadReq.eq k a h).symm.trans e)
/-! ### corbel/corbelref7.SameReq -/
noncomputable def corbelref7_SameReq.f (k : Nat) (a0 : (Int × Int × Int × Int × Sl)) (a1 : (Int × Int × Int × Int × Sl)) (h : H) : Option ((Bool) × H) :=
  (asI .i64 (ldc (newR (newR h 48 5 [(Value.int .i64 a0.1), (Value.int .i64 a0.2.1), (Value.int .i64 a0.2.2.1), (Value.int .i64 a0.2.2.2.1), (Value.slice a0.2.2.2.2.a a0.2.2.2.2.n a0.2.2.2.2.c)]) 48 5 [(Value.int .i64 a1.1), (Value.int .i64 a1.2.1), (Value.int .i64 a1.2.2.1), (Value.int .i64 a1.2.2.2.1), (Value.slice a1.2.2.2.2.a a1.2.2.2.2.n a1.2.2.2.2.c)]) (some ⟨h.next, 0, none⟩))).bind fun n1 =>
    (asI .i64 (ldc (newR (newR h 48 5 [(Value.int .i64 a0.1), (Value.int .i64 a0.2.1), (Value.int .i64 a0.2.2.1), (Value.int .i64 a0.2.2.2.1), (Value.slice a0.2.2.2.2.a a0.2.2.2.2.n a0.2.2.2.2.c)]) 48 5 [(Value.int .i64 a1.1), (Value.int .i64 a1.2.1), (Value.int .i64 a1.2.2.1), (Value.int .i64 a1.2.2.2.1), (Value.slice a1.2.2.2.2.a a1.2.2.2.2.n a1.2.2.2.2.c)]) (some ⟨(newR h 48 5 [(Value.int .i64 a0.1), (Value.int .i64 a0.2.1), (Value.int .i64 a0.2.2.1), (Value.int .i64 a0.2.2.2.1), (Value.slice a0.2.2.2.2.a a0.2.2.2.2.n a0.2.2.2.2.c)]).next, 0, none⟩))).bind fun n2 =>
    (cond (n1 == n2) ((asI .i64 (ldc (newR (newR h 48 5 [(Value.int .i64 a0.1), (Value.int .i64 a0.2.1), (Value.int .i64 a0.2.2.1), (Value.int .i64 a0.2.2.2.1), (Value.slice a0.2.2.2.2.a a0.2.2.2.2.n a0.2.2.2.2.c)]) 48 5 [(Value.int .i64 a1.1), (Value.int .i64 a1.2.1), (Value.int .i64 a1.2.2.1), (Value.int .i64 a1.2.2.2.1), (Value.slice a1.2.2.2.2.a a1.2.2.2.2.n a1.2.2.2.2.c)]) (some ⟨h.next, 1, none⟩))).bind fun n3 =>
    (asI .i64 (ldc (newR (newR h 48 5 [(Value.int .i64 a0.1), (Value.int .i64 a0.2.1), (Value.int .i64 a0.2.2.1), (Value.int .i64 a0.2.2.2.1), (Value.slice a0.2.2.2.2.a a0.2.2.2.2.n a0.2.2.2.2.c)]) 48 5 [(Value.int .i64 a1.1), (Value.int .i64 a1.2.1), (Value.int .i64 a1.2.2.1), (Value.int .i64 a1.2.2.2.1), (Value.slice a1.2.2.2.2.a a1.2.2.2.2.n a1.2.2.2.2.c)]) (some ⟨(newR h 48 5 [(Value.int .i64 a0.1), (Value.int .i64 a0.2.1), (Value.int .i64 a0.2.2.1), (Value.int .i64 a0.2.2.2.1), (Value.slice a0.2.2.2.2.a a0.2.2.2.2.n a0.2.2.2.2.c)]).next, 1, none⟩))).bind fun n4 =>
    some (n3 == n4, (newR (newR h 48 5 [(Value.int .i64 a0.1), (Value.int .i64 a0.2.1), (Value.int .i64 a0.2.2.1), (Value.int .i64 a0.2.2.2.1), (Value.slice a0.2.2.2.2.a a0.2.2.2.2.n a0.2.2.2.2.c)]) 48 5 [(Value.int .i64 a1.1), (Value.int .i64 a1.2.1), (Value.int .i64 a1.2.2.1), (Value.int .i64 a1.2.2.2.1), (Value.slice a1.2.2.2.2.a a1.2.2.2.2.n a1.2.2.2.2.c)])))
      (some (false, (newR (newR h 48 5 [(Value.int .i64 a0.1), (Value.int .i64 a0.2.1), (Value.int .i64 a0.2.2.1), (Value.int .i64 a0.2.2.2.1), (Value.slice a0.2.2.2.2.a a0.2.2.2.2.n a0.2.2.2.2.c)]) 48 5 [(Value.int .i64 a1.1), (Value.int .i64 a1.2.1), (Value.int .i64 a1.2.2.1), (Value.int .i64 a1.2.2.2.1), (Value.slice a1.2.2.2.2.a a1.2.2.2.2.n a1.2.2.2.2.c)])))).bind fun g5 =>
    (cond g5.1 ((asI .i64 (ldc g5.2 (some ⟨h.next, 2, none⟩))).bind fun n6 =>
    (asI .i64 (ldc g5.2 (some ⟨(newR h 48 5 [(Value.int .i64 a0.1), (Value.int .i64 a0.2.1), (Value.int .i64 a0.2.2.1), (Value.int .i64 a0.2.2.2.1), (Value.slice a0.2.2.2.2.a a0.2.2.2.2.n a0.2.2.2.2.c)]).next, 2, none⟩))).bind fun n7 =>
    some (n6 == n7, g5.2))
      (some (false, g5.2))).bind fun g8 =>
    (cond g8.1 ((asI .i64 (ldc g8.2 (some ⟨h.next, 3, none⟩))).bind fun n9 =>
    (asI .i64 (ldc g8.2 (some ⟨(newR h 48 5 [(Value.int .i64 a0.1), (Value.int .i64 a0.2.1), (Value.int .i64 a0.2.2.1), (Value.int .i64 a0.2.2.2.1), (Value.slice a0.2.2.2.2.a a0.2.2.2.2.n a0.2.2.2.2.c)]).next, 3, none⟩))).bind fun n10 =>
    some (n9 == n10, g8.2))
      (some (false, g8.2))).bind fun g11 =>
    (cond g11.1 ((asS (ldc g11.2 (some ⟨h.next, 4, none⟩))).bind fun s12 =>
    (asT (txt g11.2 (Value.slice s12.a s12.n s12.c))).bind fun s13 =>
    (asS (ldc g11.2 (some ⟨(newR h 48 5 [(Value.int .i64 a0.1), (Value.int .i64 a0.2.1), (Value.int .i64 a0.2.2.1), (Value.int .i64 a0.2.2.2.1), (Value.slice a0.2.2.2.2.a a0.2.2.2.2.n a0.2.2.2.2.c)]).next, 4, none⟩))).bind fun s14 =>
    (asT (txt g11.2 (Value.slice s14.a s14.n s14.c))).bind fun s15 =>
    some (s13.toList == s15.toList, g11.2))
      (some (false, g11.2))).bind fun g16 =>
    some (g16.1, g16.2)
noncomputable def corbelref7_SameReq.T (k : Nat) : Tbl := tblOf []
noncomputable def corbelref7_SameReq.an (k : Nat) (p : Nat) : Option Ann := none
noncomputable def corbelref7_SameReq.body : Code := (Try.f28.body).getD .skip
set_option maxRecDepth 100000 in
theorem corbelref7_SameReq.TS {C : FuncId → Bool} {X : CallF} (hX : XOk C X) (k : Nat) : TblS Try.prog C X (corbelref7_SameReq.T k) := by
  refine tblOf_sound ?_
  intro e he
  exact absurd he List.not_mem_nil
set_option maxRecDepth 100000 in
theorem corbelref7_SameReq.eq (k : Nat) (a : RT [(.st [(.int .i64), (.int .i64), (.int .i64), (.int .i64), .sl]), (.st [(.int .i64), (.int .i64), (.int .i64), (.int .i64), .sl])]) (h : H) : (fun a h => corbelref7_SameReq.f k (a.1) (a.2) h) a h = kfun Try.prog (corbelref7_SameReq.T k) (corbelref7_SameReq.an k) (RT [.bool] × H) Try.f28 (encL [(.st [(.int .i64), (.int .i64), (.int .i64), (.int .i64), .sl]), (.st [(.int .i64), (.int .i64), (.int .i64), (.int .i64), .sl])] a) h (fun vs h' => (decL [.bool] vs).bind fun x => some (x, h')) := by kernel_rfl
set_option maxRecDepth 100000 in
theorem corbelref7_SameReq.told {C : FuncId → Bool} {X : CallF} (hX : XOk C X) (k : Nat) : Den.Told Try.prog C X 28 [(.st [(.int .i64), (.int .i64), (.int .i64), (.int .i64), .sl]), (.st [(.int .i64), (.int .i64), (.int .i64), (.int .i64), .sl])] [.bool] (fun a h => corbelref7_SameReq.f k (a.1) (a.2) h) :=
  told_of fun a h q e => fn_of (c := corbelref7_SameReq.body) (corbelref7_SameReq.TS hX k) Try.func28 (by kernel_rfl) (hX.no 28 _ h (by decide))
    (by
      have e : need (corbelref7_SameReq.an k) corbelref7_SameReq.body 1 = [] := by kernel_rfl
      rw [e]; intro q hq; cases hq)
    ((corbelref7_SameReq.eq k a h).symm.trans e)
/-! ### corbel/corbellaw11.CallReqs -/
noncomputable def corbellaw11_CallReqs.l0 (k : Nat) (n : Nat) : Sl → Int → Sl → Int → H → Option ((Unit) × H) :=
  Nat.rec (motive := fun _ => Sl → Int → Sl → Int → H → Option ((Unit) × H)) (fun _ _ _ _ _ => none) (fun _ ih x19 x20 x21 x22 h23 => (cond (decide (x22 < (Int.ofNat x19.n))) (some (decide (x22 < (2 : Int)), h23))
      (some (false, h23))).bind fun g24 =>
    cond g24.1
      ((asP (ixs 1 x19.a x19.n x22)).bind fun p25 =>
    (asI .i64 (ldc g24.2 p25)).bind fun n26 =>
    (corbelhand_Pick.f k n26 (Int.ofNat x21.n) g24.2).bind fun q27 =>
    (asP (ixs 1 x21.a x21.n q27.1)).bind fun p28 =>
    (asI .u8 (ldc q27.2 p28)).bind fun n29 =>
    (asI .u8 (intA .xor .u8 n29 x20)).bind fun n30 =>
    (asP (ixs 1 x21.a x21.n q27.1)).bind fun p31 =>
    (stv 1 q27.2 p31 [(Value.int .u8 n30)]).bind fun q32 =>
    ih x19 x20 x21 (wrapA .i64 (x22 + (1 : Int))) q32.2)
      (some ((), g24.2))) n
theorem corbellaw11_CallReqs.l0_zero (k : Nat) (x19 : Sl) (x20 : Int) (x21 : Sl) (x22 : Int) (h23 : H) : corbellaw11_CallReqs.l0 k 0 x19 x20 x21 x22 h23 = none := rfl
theorem corbellaw11_CallReqs.l0_succ (k n : Nat) (x19 : Sl) (x20 : Int) (x21 : Sl) (x22 : Int) (h23 : H) : corbellaw11_CallReqs.l0 k (n + 1) x19 x20 x21 x22 h23 = ((cond (decide (x22 < (Int.ofNat x19.n))) (some (decide (x22 < (2 : Int)), h23))
      (some (false, h23))).bind fun g24 =>
    cond g24.1
      ((asP (ixs 1 x19.a x19.n x22)).bind fun p25 =>
    (asI .i64 (ldc g24.2 p25)).bind fun n26 =>
    (corbelhand_Pick.f k n26 (Int.ofNat x21.n) g24.2).bind fun q27 =>
    (asP (ixs 1 x21.a x21.n q27.1)).bind fun p28 =>
    (asI .u8 (ldc q27.2 p28)).bind fun n29 =>
    (asI .u8 (intA .xor .u8 n29 x20)).bind fun n30 =>
    (asP (ixs 1 x21.a x21.n q27.1)).bind fun p31 =>
    (stv 1 q27.2 p31 [(Value.int .u8 n30)]).bind fun q32 =>
    corbellaw11_CallReqs.l0 k n x19 x20 x21 (wrapA .i64 (x22 + (1 : Int))) q32.2)
      (some ((), g24.2))) := rfl
noncomputable def corbellaw11_CallReqs.f (k : Nat) (a0 : (Int × Int × Int × Int × Int × Int)) (a1 : Sl) (a2 : Int) (a3 : Sl) (a4 : Int) (h : H) : Option ((Bool) × H) :=
  (asSt [(.int .i64), (.int .i64), (.int .i64), (.int .i64), (.int .i64), (.int .i64)] (lda 6 (newR h 46 6 [(Value.int .i64 a0.1), (Value.int .i64 a0.2.1), (Value.int .i64 a0.2.2.1), (Value.int .i64 a0.2.2.2.1), (Value.int .i64 a0.2.2.2.2.1), (Value.int .i64 a0.2.2.2.2.2)]) (some ⟨h.next, 0, none⟩))).bind fun s1 =>
    (corbelhand_Req.f k (s1.1, s1.2.1, s1.2.2.1, s1.2.2.2.1, s1.2.2.2.2.1, s1.2.2.2.2.2) (newR h 46 6 [(Value.int .i64 a0.1), (Value.int .i64 a0.2.1), (Value.int .i64 a0.2.2.1), (Value.int .i64 a0.2.2.2.1), (Value.int .i64 a0.2.2.2.2.1), (Value.int .i64 a0.2.2.2.2.2)])).bind fun q2 =>
    (stv 5 (newR q2.2 48 5 [(Value.int .i64 (0 : Int)), (Value.int .i64 (0 : Int)), (Value.int .i64 (0 : Int)), (Value.int .i64 (0 : Int)), (Value.slice none 0 0)]) (some ⟨q2.2.next, 0, none⟩) [(Value.int .i64 q2.1.1), (Value.int .i64 q2.1.2.1), (Value.int .i64 q2.1.2.2.1), (Value.int .i64 q2.1.2.2.2.1), (Value.slice q2.1.2.2.2.2.a q2.1.2.2.2.2.n q2.1.2.2.2.2.c)]).bind fun q3 =>
    (asSt [(.int .i64), (.int .i64), (.int .i64), (.int .i64), .sl] (lda 5 q3.2 (some ⟨q2.2.next, 0, none⟩))).bind fun s4 =>
    (corbelref7_RightReq.f k (s4.1, s4.2.1, s4.2.2.1, s4.2.2.2.1, s4.2.2.2.2) q3.2).bind fun q5 =>
    (asSt [(.int .i64), (.int .i64), (.int .i64), (.int .i64), .sl] (lda 5 q5.2 (some ⟨q2.2.next, 0, none⟩))).bind fun s6 =>
    (call_LayReq.f k (s6.1, s6.2.1, s6.2.2.1, s6.2.2.2.1, s6.2.2.2.2) q5.2).bind fun q7 =>
    (cond q5.1
      ((asSt [(.int .i64), (.int .i64), (.int .i64), (.int .i64), .sl] (lda 5 q7.2 (some ⟨q2.2.next, 0, none⟩))).bind fun s8 =>
    (corbelref7_LayReq.f k (s8.1, s8.2.1, s8.2.2.1, s8.2.2.2.1, s8.2.2.2.2) q7.2).bind fun q9 =>
    some (q9.1, q9.2))
      (some ((⟨none, 0, 0⟩ : Sl), q7.2)) : Option ((Sl) × H)).bind fun j10 =>
    (asT (txt j10.2 (Value.slice q7.1.1.a q7.1.1.n q7.1.1.c))).bind fun s11 =>
    (asT (txt j10.2 (Value.slice j10.1.a j10.1.n j10.1.c))).bind fun s12 =>
    (cond (!(s11.toList == s12.toList)) (some (true, j10.2))
      (some (!((q7.1.2 == (0 : Int)) == q5.1), j10.2))).bind fun g13 =>
    (cond g13.1 (some (true, g13.2))
      ((cond (!q5.1) (some (q7.1.2 != (1 : Int), g13.2))
      (some (false, g13.2))).bind fun g14 =>
    some (g14.1, g14.2))).bind fun g15 =>
    cond g15.1
      (some (false, g15.2))
      ((corbelhand_Few.f k a1 (Int.ofNat a1.n) g15.2).bind fun q16 =>
    (cond q5.1 (some (decide ((a2.tmod (4 : Int)) > (0 : Int)), q16.2))
      (some (false, q16.2))).bind fun g17 =>
    (cond g17.1
      ((corbelhand_Few.f k j10.1 (Int.ofNat j10.1.n) g17.2).bind fun q18 =>
    (corbellaw11_CallReqs.l0 k k a3 a4 q18.1 (0 : Int) q18.2).bind fun w33 =>
    some (q18.1, w33.2))
      (some (q16.1, g17.2)) : Option ((Sl) × H)).bind fun j34 =>
    (call_ReadReq.f k j34.1 j34.2).bind fun q35 =>
    (stv 5 (newR q35.2 48 5 [(Value.int .i64 (0 : Int)), (Value.int .i64 (0 : Int)), (Value.int .i64 (0 : Int)), (Value.int .i64 (0 : Int)), (Value.slice none 0 0)]) (some ⟨q35.2.next, 0, none⟩) [(Value.int .i64 q35.1.1.1), (Value.int .i64 q35.1.1.2.1), (Value.int .i64 q35.1.1.2.2.1), (Value.int .i64 q35.1.1.2.2.2.1), (Value.slice q35.1.1.2.2.2.2.a q35.1.1.2.2.2.2.n q35.1.1.2.2.2.2.c)]).bind fun q36 =>
    (corbelref7_ReadReq.f k j34.1 q36.2).bind fun q37 =>
    (stv 5 (newR q37.2 48 5 [(Value.int .i64 (0 : Int)), (Value.int .i64 (0 : Int)), (Value.int .i64 (0 : Int)), (Value.int .i64 (0 : Int)), (Value.slice none 0 0)]) (some ⟨q37.2.next, 0, none⟩) [(Value.int .i64 q37.1.1.1), (Value.int .i64 q37.1.1.2.1), (Value.int .i64 q37.1.1.2.2.1), (Value.int .i64 q37.1.1.2.2.2.1), (Value.slice q37.1.1.2.2.2.2.a q37.1.1.2.2.2.2.n q37.1.1.2.2.2.2.c)]).bind fun q38 =>
    (cond true ((asSt [(.int .i64), (.int .i64), (.int .i64), (.int .i64), .sl] (lda 5 q38.2 (some ⟨q35.2.next, 0, none⟩))).bind fun s39 =>
    (asSt [(.int .i64), (.int .i64), (.int .i64), (.int .i64), .sl] (lda 5 q38.2 (some ⟨q37.2.next, 0, none⟩))).bind fun s40 =>
    (corbelref7_SameReq.f k (s39.1, s39.2.1, s39.2.2.1, s39.2.2.2.1, s39.2.2.2.2) (s40.1, s40.2.1, s40.2.2.1, s40.2.2.2.1, s40.2.2.2.2) q38.2).bind fun q41 =>
    some (q41.1, q41.2))
      (some (false, q38.2))).bind fun g42 =>
    (cond g42.1 (some ((q35.1.2 == (0 : Int)) == q37.1.2, g42.2))
      (some (false, g42.2))).bind fun g43 =>
    (cond g43.1 ((cond q37.1.2 (some (true, g43.2))
      (some (q35.1.2 == (2 : Int), g43.2))).bind fun g44 =>
    some (g44.1, g44.2))
      (some (false, g43.2))).bind fun g45 =>
    some (g45.1, g45.2))
noncomputable def corbellaw11_CallReqs.T (k : Nat) : Tbl := tblOf [⟨20, anyArgs, wr [(.st [(.int .i64), (.int .i64), (.int .i64), (.int .i64), (.int .i64), (.int .i64)])] [(.st [(.int .i64), (.int .i64), (.int .i64), (.int .i64), .sl])] (fun a h => corbelhand_Req.f k a h)⟩,
  ⟨21, anyArgs, wr [(.st [(.int .i64), (.int .i64), (.int .i64), (.int .i64), .sl])] [.bool] (fun a h => corbelref7_RightReq.f k a h)⟩,
  ⟨22, anyArgs, wr [(.st [(.int .i64), (.int .i64), (.int .i64), (.int .i64), .sl])] [.sl, (.int .i64)] (fun a h => call_LayReq.f k a h)⟩,
  ⟨23, anyArgs, wr [(.st [(.int .i64), (.int .i64), (.int .i64), (.int .i64), .sl])] [.sl] (fun a h => corbelref7_LayReq.f k a h)⟩,
  ⟨24, anyArgs, wr [.sl, (.int .i64)] [.sl] (fun a h => corbelhand_Few.f k (a.1) (a.2) h)⟩,
  ⟨14, anyArgs, wr [(.int .i64), (.int .i64)] [(.int .i64)] (fun a h => corbelhand_Pick.f k (a.1) (a.2) h)⟩,
  ⟨25, anyArgs, wr [.sl] [(.st [(.int .i64), (.int .i64), (.int .i64), (.int .i64), .sl]), (.int .i64)] (fun a h => call_ReadReq.f k a h)⟩,
  ⟨26, anyArgs, wr [.sl] [(.st [(.int .i64), (.int .i64), (.int .i64), (.int .i64), .sl]), .bool] (fun a h => corbelref7_ReadReq.f k a h)⟩,
  ⟨27, anyArgs, knownW⟩,
  ⟨28, anyArgs, wr [(.st [(.int .i64), (.int .i64), (.int .i64), (.int .i64), .sl]), (.st [(.int .i64), (.int .i64), (.int .i64), (.int .i64), .sl])] [.bool] (fun a h => corbelref7_SameReq.f k (a.1) (a.2) h)⟩]
noncomputable def corbellaw11_CallReqs.an (k : Nat) (p : Nat) : Option Ann := cond (Nat.beq p 2045) (some (.join [] none [(16, .sl)]))
  (cond (Nat.beq p 32726) (some (.pass [16] (lrun [(3, .sl), (4, (.int .u8)), (16, .sl), (17, (.int .i64))] none [] 0 (fun a h => corbellaw11_CallReqs.l0 k k (a.1) (a.2.1) (a.2.2.1) (a.2.2.2) h))))
  (cond (Nat.beq p 253) (some (.join [1, 2, 3, 4, 12, 13, 14] none [(15, .sl)]))
  (none)))
noncomputable def corbellaw11_CallReqs.body : Code := (Try.f6.body).getD .skip
noncomputable def corbellaw11_CallReqs.c32726 : Code := cat corbellaw11_CallReqs.body [1, 1, 1, 1, 1, 1, 1, 1, 0, 1, 0, 1, 1, 0, 0]
set_option maxRecDepth 100000 in
theorem corbellaw11_CallReqs.TS {C : FuncId → Bool} {X : CallF} (hX : XOk C X) (hK27 : KOk X 27) (k : Nat) : TblS Try.prog C X (corbellaw11_CallReqs.T k) := by
  refine tblOf_sound ?_
  intro e he
  rcases List.mem_cons.1 he with rfl | he
  · exact wr_told (corbelhand_Req.told hX k)
  rcases List.mem_cons.1 he with rfl | he
  · exact wr_told (corbelref7_RightReq.told hX k)
  rcases List.mem_cons.1 he with rfl | he
  · exact wr_told (call_LayReq.told hX k)
  rcases List.mem_cons.1 he with rfl | he
  · exact wr_told (corbelref7_LayReq.told hX k)
  rcases List.mem_cons.1 he with rfl | he
  · exact wr_told (corbelhand_Few.told hX k)
  rcases List.mem_cons.1 he with rfl | he
  · exact wr_told (corbelhand_Pick.told hX k)
  rcases List.mem_cons.1 he with rfl | he
  · exact wr_told (call_ReadReq.told hX k)
  rcases List.mem_cons.1 he with rfl | he
  · exact wr_told (corbelref7_ReadReq.told hX k)
  rcases List.mem_cons.1 he with rfl | he
  · exact knownW_told hK27
  rcases List.mem_cons.1 he with rfl | he
  · exact wr_told (corbelref7_SameReq.told hX k)
  exact absurd he List.not_mem_nil
set_option maxRecDepth 100000 in
theorem corbellaw11_CallReqs.l0_pass {C : FuncId → Bool} {X : CallF} (hX : XOk C X) (hK27 : KOk X 27) (k n : Nat) : PassS Try.prog C X 119 (.loop corbellaw11_CallReqs.c32726) (lrun [(3, .sl), (4, (.int .u8)), (16, .sl), (17, (.int .i64))] none [] 0 (fun a h => corbellaw11_CallReqs.l0 k n (a.1) (a.2.1) (a.2.2.1) (a.2.2.2) h)) :=
  loop_pass (ins := [(3, .sl), (4, (.int .u8)), (16, .sl), (17, (.int .i64))]) (rets := none) (outs := []) (id := 0) (tbl := corbellaw11_CallReqs.T k) (an := corbellaw11_CallReqs.an k) (pb := 65452) (corbellaw11_CallReqs.TS hX hK27 k) (fun n => (fun a h => corbellaw11_CallReqs.l0 k n (a.1) (a.2.1) (a.2.2.1) (a.2.2.2) h)) (fun a h => rfl) (fun n a h => by kernel_rfl)
    (by
      have e : need (corbellaw11_CallReqs.an k) corbellaw11_CallReqs.c32726 65452 = [] := by kernel_rfl
      rw [e]; intro q hq; cases hq) n
set_option maxRecDepth 100000 in
theorem corbellaw11_CallReqs.eq (k : Nat) (a : RT [(.st [(.int .i64), (.int .i64), (.int .i64), (.int .i64), (.int .i64), (.int .i64)]), .sl, (.int .i64), .sl, (.int .u8)]) (h : H) : (fun a h => corbellaw11_CallReqs.f k (a.1) (a.2.1) (a.2.2.1) (a.2.2.2.1) (a.2.2.2.2) h) a h = kfun Try.prog (corbellaw11_CallReqs.T k) (corbellaw11_CallReqs.an k) (RT [.bool] × H) Try.f6 (encL [(.st [(.int .i64), (.int .i64), (.int .i64), (.int .i64), (.int .i64), (.int .i64)]), .sl, (.int .i64), .sl, (.int .u8)] a) h (fun vs h' => (decL [.bool] vs).bind fun x => some (x, h')) := by kernel_rfl
set_option maxRecDepth 100000 in
theorem corbellaw11_CallReqs.told {C : FuncId → Bool} {X : CallF} (hX : XOk C X) (hK27 : KOk X 27) (k : Nat) : Den.Told Try.prog C X 6 [(.st [(.int .i64), (.int .i64), (.int .i64), (.int .i64), (.int .i64), (.int .i64)]), .sl, (.int .i64), .sl, (.int .u8)] [.bool] (fun a h => corbellaw11_CallReqs.f k (a.1) (a.2.1) (a.2.2.1) (a.2.2.2.1) (a.2.2.2.2) h) :=
  told_of fun a h q e => fn_of (c := corbellaw11_CallReqs.body) (corbellaw11_CallReqs.TS hX hK27 k) Try.func6 (by kernel_rfl) (hX.no 6 _ h (by decide))
    (by
      have e : need (corbellaw11_CallReqs.an k) corbellaw11_CallReqs.body 1 = [(Code.loop corbellaw11_CallReqs.c32726, lrun [(3, .sl), (4, (.int .u8)), (16, .sl), (17, (.int .i64))] none [] 0 (fun a h => corbellaw11_CallReqs.l0 k k (a.1) (a.2.1) (a.2.2.1) (a.2.2.2) h))] := by kernel_rfl
      rw [e]; intro q hq
      rcases List.mem_cons.1 hq with rfl | hq
      · exact corbellaw11_CallReqs.l0_pass hX hK27 k k
      cases hq)
    ((corbellaw11_CallReqs.eq k a h).symm.trans e)
/-! ### corbel/corbellaw11.CallBack -/
noncomputable def corbellaw11_CallBack.f (k : Nat) (a0 : (Int × Int × Int × Int × Int × Int)) (a1 : (Int × Int × Int × Int × Int × Int)) (h : H) : Option ((Bool) × H) :=
  (asSt [(.int .i64), (.int .i64), (.int .i64), (.int .i64), (.int .i64), (.int .i64)] (lda 6 (newR (newR h 46 6 [(Value.int .i64 a0.1), (Value.int .i64 a0.2.1), (Value.int .i64 a0.2.2.1), (Value.int .i64 a0.2.2.2.1), (Value.int .i64 a0.2.2.2.2.1), (Value.int .i64 a0.2.2.2.2.2)]) 46 6 [(Value.int .i64 a1.1), (Value.int .i64 a1.2.1), (Value.int .i64 a1.2.2.1), (Value.int .i64 a1.2.2.2.1), (Value.int .i64 a1.2.2.2.2.1), (Value.int .i64 a1.2.2.2.2.2)]) (some ⟨h.next, 0, none⟩))).bind fun s1 =>
    (corbelhand_Req.f k (s1.1, s1.2.1, s1.2.2.1, s1.2.2.2.1, s1.2.2.2.2.1, s1.2.2.2.2.2) (newR (newR h 46 6 [(Value.int .i64 a0.1), (Value.int .i64 a0.2.1), (Value.int .i64 a0.2.2.1), (Value.int .i64 a0.2.2.2.1), (Value.int .i64 a0.2.2.2.2.1), (Value.int .i64 a0.2.2.2.2.2)]) 46 6 [(Value.int .i64 a1.1), (Value.int .i64 a1.2.1), (Value.int .i64 a1.2.2.1), (Value.int .i64 a1.2.2.2.1), (Value.int .i64 a1.2.2.2.2.1), (Value.int .i64 a1.2.2.2.2.2)])).bind fun q2 =>
    (stv 5 (newR q2.2 48 5 [(Value.int .i64 (0 : Int)), (Value.int .i64 (0 : Int)), (Value.int .i64 (0 : Int)), (Value.int .i64 (0 : Int)), (Value.slice none 0 0)]) (some ⟨q2.2.next, 0, none⟩) [(Value.int .i64 q2.1.1), (Value.int .i64 q2.1.2.1), (Value.int .i64 q2.1.2.2.1), (Value.int .i64 q2.1.2.2.2.1), (Value.slice q2.1.2.2.2.2.a q2.1.2.2.2.2.n q2.1.2.2.2.2.c)]).bind fun q3 =>
    (asSt [(.int .i64), (.int .i64), (.int .i64), (.int .i64), (.int .i64), (.int .i64)] (lda 6 q3.2 (some ⟨(newR h 46 6 [(Value.int .i64 a0.1), (Value.int .i64 a0.2.1), (Value.int .i64 a0.2.2.1), (Value.int .i64 a0.2.2.2.1), (Value.int .i64 a0.2.2.2.2.1), (Value.int .i64 a0.2.2.2.2.2)]).next, 0, none⟩))).bind fun s4 =>
    (corbelhand_Req.f k (s4.1, s4.2.1, s4.2.2.1, s4.2.2.2.1, s4.2.2.2.2.1, s4.2.2.2.2.2) q3.2).bind fun q5 =>
    (stv 5 (newR q5.2 48 5 [(Value.int .i64 (0 : Int)), (Value.int .i64 (0 : Int)), (Value.int .i64 (0 : Int)), (Value.int .i64 (0 : Int)), (Value.slice none 0 0)]) (some ⟨q5.2.next, 0, none⟩) [(Value.int .i64 q5.1.1), (Value.int .i64 q5.1.2.1), (Value.int .i64 q5.1.2.2.1), (Value.int .i64 q5.1.2.2.2.1), (Value.slice q5.1.2.2.2.2.a q5.1.2.2.2.2.n q5.1.2.2.2.2.c)]).bind fun q6 =>
    (asSt [(.int .i64), (.int .i64), (.int .i64), (.int .i64), .sl] (lda 5 q6.2 (some ⟨q2.2.next, 0, none⟩))).bind fun s7 =>
    (call_LayReq.f k (s7.1, s7.2.1, s7.2.2.1, s7.2.2.2.1, s7.2.2.2.2) q6.2).bind fun q8 =>
    (asSt [(.int .i64), (.int .i64), (.int .i64), (.int .i64), .sl] (lda 5 q8.2 (some ⟨q5.2.next, 0, none⟩))).bind fun s9 =>
    (call_LayReq.f k (s9.1, s9.2.1, s9.2.2.1, s9.2.2.2.1, s9.2.2.2.2) q8.2).bind fun q10 =>
    (cond (!true) (some (true, q10.2))
      (some (q8.1.2 != (0 : Int), q10.2))).bind fun g11 =>
    (cond g11.1 (some (true, g11.2))
      (some (q10.1.2 != (0 : Int), g11.2))).bind fun g12 =>
    cond g12.1
      (some (true, g12.2))
      ((call_ReadReq.f k q8.1.1 g12.2).bind fun q13 =>
    (stv 5 (newR q13.2 48 5 [(Value.int .i64 (0 : Int)), (Value.int .i64 (0 : Int)), (Value.int .i64 (0 : Int)), (Value.int .i64 (0 : Int)), (Value.slice none 0 0)]) (some ⟨q13.2.next, 0, none⟩) [(Value.int .i64 q13.1.1.1), (Value.int .i64 q13.1.1.2.1), (Value.int .i64 q13.1.1.2.2.1), (Value.int .i64 q13.1.1.2.2.2.1), (Value.slice q13.1.1.2.2.2.2.a q13.1.1.2.2.2.2.n q13.1.1.2.2.2.2.c)]).bind fun q14 =>
    (cond (q13.1.2 == (0 : Int)) ((asSt [(.int .i64), (.int .i64), (.int .i64), (.int .i64), .sl] (lda 5 q14.2 (some ⟨q2.2.next, 0, none⟩))).bind fun s15 =>
    (asSt [(.int .i64), (.int .i64), (.int .i64), (.int .i64), .sl] (lda 5 q14.2 (some ⟨q13.2.next, 0, none⟩))).bind fun s16 =>
    (corbelref7_SameReq.f k (s15.1, s15.2.1, s15.2.2.1, s15.2.2.2.1, s15.2.2.2.2) (s16.1, s16.2.1, s16.2.2.1, s16.2.2.2.1, s16.2.2.2.2) q14.2).bind fun q17 =>
    some (q17.1, q17.2, [], []))
      (some (false, q14.2, [], [])) : Option (Bool × H × LEs × EFs)).bind fun g18 =>
    (cond g18.1 ((asT (txt g18.2.1 (Value.slice q8.1.1.a q8.1.1.n q8.1.1.c))).bind fun s19 =>
    (asT (txt g18.2.1 (Value.slice q10.1.1.a q10.1.1.n q10.1.1.c))).bind fun s20 =>
    (asSt [(.int .i64), (.int .i64), (.int .i64), (.int .i64), .sl] (lda 5 g18.2.1 (some ⟨q2.2.next, 0, none⟩))).bind fun s21 =>
    (asSt [(.int .i64), (.int .i64), (.int .i64), (.int .i64), .sl] (lda 5 g18.2.1 (some ⟨q5.2.next, 0, none⟩))).bind fun s22 =>
    (corbelref7_SameReq.f k (s21.1, s21.2.1, s21.2.2.1, s21.2.2.2.1, s21.2.2.2.2) (s22.1, s22.2.1, s22.2.2.1, s22.2.2.2.1, s22.2.2.2.2) g18.2.1).bind fun q23 =>
    some ((s19.toList == s20.toList) == q23.1, q23.2, (((([(8, none)] ++ [(9, (blkOf (some (Value.slice q8.1.1.a q8.1.1.n q8.1.1.c))))]) ++ [(10, none)]) ++ [(11, (blkOf (some (Value.slice q10.1.1.a q10.1.1.n q10.1.1.c))))]) ++ [(12, none)]), [(15, g18.2.1, q23.2)]))
      (some (false, g18.2.1, [], [])) : Option (Bool × H × LEs × EFs)).bind fun g24 =>
    cond (dynL [(8, 15), (9, 15), (10, 15), (11, 15), (12, 15)] (g18.2.2.1 ++ g24.2.2.1) (g18.2.2.2 ++ g24.2.2.2)) (some (g24.1, g24.2.1)) none)
noncomputable def corbellaw11_CallBack.T (k : Nat) : Tbl := tblOf [⟨20, anyArgs, wr [(.st [(.int .i64), (.int .i64), (.int .i64), (.int .i64), (.int .i64), (.int .i64)])] [(.st [(.int .i64), (.int .i64), (.int .i64), (.int .i64), .sl])] (fun a h => corbelhand_Req.f k a h)⟩,
  ⟨22, anyArgs, wr [(.st [(.int .i64), (.int .i64), (.int .i64), (.int .i64), .sl])] [.sl, (.int .i64)] (fun a h => call_LayReq.f k a h)⟩,
  ⟨27, anyArgs, knownW⟩,
  ⟨25, anyArgs, wr [.sl] [(.st [(.int .i64), (.int .i64), (.int .i64), (.int .i64), .sl]), (.int .i64)] (fun a h => call_ReadReq.f k a h)⟩,
  ⟨28, anyArgs, wr [(.st [(.int .i64), (.int .i64), (.int .i64), (.int .i64), .sl]), (.st [(.int .i64), (.int .i64), (.int .i64), (.int .i64), .sl])] [.bool] (fun a h => corbelref7_SameReq.f k (a.1) (a.2) h)⟩]
noncomputable def corbellaw11_CallBack.an (k : Nat) (p : Nat) : Option Ann := none
noncomputable def corbellaw11_CallBack.body : Code := (Try.f7.body).getD .skip
set_option maxRecDepth 100000 in
theorem corbellaw11_CallBack.TS {C : FuncId → Bool} {X : CallF} (hX : XOk C X) (hK27 : KOk X 27) (k : Nat) : TblS Try.prog C X (corbellaw11_CallBack.T k) := by
  refine tblOf_sound ?_
  intro e he
  rcases List.mem_cons.1 he with rfl | he
  · exact wr_told (corbelhand_Req.told hX k)
  rcases List.mem_cons.1 he with rfl | he
  · exact wr_told (call_LayReq.told hX k)
  rcases List.mem_cons.1 he with rfl | he
  · exact knownW_told hK27
  rcases List.mem_cons.1 he with rfl | he
  · exact wr_told (call_ReadReq.told hX k)
  rcases List.mem_cons.1 he with rfl | he
  · exact wr_told (corbelref7_SameReq.told hX k)
  exact absurd he List.not_mem_nil
set_option maxRecDepth 100000 in
theorem corbellaw11_CallBack.eq (k : Nat) (a : RT [(.st [(.int .i64), (.int .i64), (.int .i64), (.int .i64), (.int .i64), (.int .i64)]), (.st [(.int .i64), (.int .i64), (.int .i64), (.int .i64), (.int .i64), (.int .i64)])]) (h : H) : (fun a h => corbellaw11_CallBack.f k (a.1) (a.2) h) a h = kfun Try.prog (corbellaw11_CallBack.T k) (corbellaw11_CallBack.an k) (RT [.bool] × H) Try.f7 (encL [(.st [(.int .i64), (.int .i64), (.int .i64), (.int .i64), (.int .i64), (.int .i64)]), (.st [(.int .i64), (.int .i64), (.int .i64), (.int .i64), (.int .i64), (.int .i64)])] a) h (fun vs h' => (decL [.bool] vs).bind fun x => some (x, h')) := by kernel_rfl
set_option maxRecDepth 100000 in
theorem corbellaw11_CallBack.told {C : FuncId → Bool} {X : CallF} (hX : XOk C X) (hK27 : KOk X 27) (k : Nat) : Den.Told Try.prog C X 7 [(.st [(.int .i64), (.int .i64), (.int .i64), (.int .i64), (.int .i64), (.int .i64)]), (.st [(.int .i64), (.int .i64), (.int .i64), (.int .i64), (.int .i64), (.int .i64)])] [.bool] (fun a h => corbellaw11_CallBack.f k (a.1) (a.2) h) :=
  told_of fun a h q e => fn_of (c := corbellaw11_CallBack.body) (corbellaw11_CallBack.TS hX hK27 k) Try.func7 (by kernel_rfl) (hX.no 7 _ h (by decide))
    (by
      have e : need (corbellaw11_CallBack.an k) corbellaw11_CallBack.body 1 = [] := by kernel_rfl
      rw [e]; intro q hq; cases hq)
    ((corbellaw11_CallBack.eq k a h).symm.trans e)
end Go.Proofs.Ythpkhegoamhgeaa.Fwd
