/- Forward runs of functions of the program, printed by a program of this session: each function on plain values and memory, and that the code comes to it. No condition. -/
import Derived.Test.YtfenkpghcbohdaaDenCmp
import Derived.KernelRfl
import Derived.Test.YtfenkpghcbohdaaPdFIns
import Derived.Test.YtfenkpghcbohdaaPdFKn38
import Derived.Test.YtfenkpghcbohdaaPdFMeta
import Derived.Test.YtfenkpghcbohdaaPdFRoot
namespace Go.Proofs.Ytfenkpghcbohdaa.Fwd
open Go Den
set_option linter.unusedVariables false
/-! ### corbel/extent.Sized -/
noncomputable def extent_Sized.l0 (k : Nat) (n : Nat) : Sl → Sl → Int → Sl → Int → H → Option ((Sl) × H) :=
  Nat.rec (motive := fun _ => Sl → Sl → Int → Sl → Int → H → Option ((Sl) × H)) (fun _ _ _ _ _ _ => none) (fun _ ih x5 x6 x7 x8 x9 h10 => cond (decide (x9 < x7))
      ((asP (ixs 1 x6.a x6.n x9)).bind fun p11 =>
    (asI .i64 (ldc h10 p11)).bind fun n12 =>
    (cond (n12 != (0 : Int))
      ((asS2 (apv 3 1 8 (Value.slice x8.a x8.n x8.c) (Value.slice (some ⟨h10.next, 0, none⟩) 1 1) (newR h10 3 1 [(Value.int .i64 n12)]))).bind fun q13 =>
    some (q13.1, q13.2))
      (some (x8, h10)) : Option ((Sl) × H)).bind fun j14 =>
    ih x5 x6 x7 j14.1 (wrapA .i64 (x9 + (1 : Int))) j14.2)
      (some (x8, h10))) n
theorem extent_Sized.l0_zero (k : Nat) (x5 : Sl) (x6 : Sl) (x7 : Int) (x8 : Sl) (x9 : Int) (h10 : H) : extent_Sized.l0 k 0 x5 x6 x7 x8 x9 h10 = none := rfl
theorem extent_Sized.l0_succ (k n : Nat) (x5 : Sl) (x6 : Sl) (x7 : Int) (x8 : Sl) (x9 : Int) (h10 : H) : extent_Sized.l0 k (n + 1) x5 x6 x7 x8 x9 h10 = (cond (decide (x9 < x7))
      ((asP (ixs 1 x6.a x6.n x9)).bind fun p11 =>
    (asI .i64 (ldc h10 p11)).bind fun n12 =>
    (cond (n12 != (0 : Int))
      ((asS2 (apv 3 1 8 (Value.slice x8.a x8.n x8.c) (Value.slice (some ⟨h10.next, 0, none⟩) 1 1) (newR h10 3 1 [(Value.int .i64 n12)]))).bind fun q13 =>
    some (q13.1, q13.2))
      (some (x8, h10)) : Option ((Sl) × H)).bind fun j14 =>
    extent_Sized.l0 k n x5 x6 x7 j14.1 (wrapA .i64 (x9 + (1 : Int))) j14.2)
      (some (x8, h10))) := rfl
noncomputable def extent_Sized.f (k : Nat) (a0 : Sl) (a1 : Int) (h : H) : Option ((Sl × Sl) × H) :=
  (extent_sized.f k a1 h).bind fun q1 =>
    cond (!q1.1)
      (some (((⟨none, 0, 0⟩ : Sl), (⟨none, 0, 0⟩ : Sl)), q1.2))
      ((asS2 (mkz 3 1 8 [(Value.int .i64 (0 : Int))] (wrapA .i64 (a1.tdiv (8 : Int))) (wrapA .i64 (a1.tdiv (8 : Int))) q1.2)).bind fun q2 =>
    (asI2 .i64 (cpy 1 (Value.slice q2.1.a q2.1.n q2.1.c) (Value.slice a0.a a0.n a0.c) q2.2)).bind fun q3 =>
    (asS (subs 1 (Value.slice a0.a a0.n a0.c) (some (cond (decide ((Int.ofNat a0.n) < (wrapA .i64 (a1.tdiv (8 : Int))))) (Int.ofNat a0.n) (wrapA .i64 (a1.tdiv (8 : Int))))) none)).bind fun s4 =>
    (extent_Sized.l0 k k q2.1 s4 (Int.ofNat s4.n) (⟨none, 0, 0⟩ : Sl) (0 : Int) q3.2).bind fun w15 =>
    some ((q2.1, w15.1), w15.2))
noncomputable def extent_Sized.T (k : Nat) : Tbl := tblOf [⟨69, anyArgs, wr [(.int .i64)] [.bool] (fun a h => extent_sized.f k a h)⟩]
noncomputable def extent_Sized.an (k : Nat) (p : Nat) : Option Ann := cond (Nat.beq p 1018) (some (.pass [7] (lrun [(7, .sl), (26, .sl), (27, (.int .i64)), (8, .sl), (28, (.int .i64))] none [(8, .sl)] 0 (fun a h => extent_Sized.l0 k k (a.1) (a.2.1) (a.2.2.1) (a.2.2.2.1) (a.2.2.2.2) h))))
  (cond (Nat.beq p 130355) (some (.join [7, 26, 27, 28] none [(8, .sl)]))
  (none))
noncomputable def extent_Sized.body : Code := (Try.f26.body).getD .skip
noncomputable def extent_Sized.c1018 : Code := cat extent_Sized.body [1, 1, 1, 1, 1, 1, 0, 1, 0, 0]
set_option maxRecDepth 100000 in
theorem extent_Sized.TS {C : FuncId → Bool} {X : CallF} (hX : XOk C X) (k : Nat) : TblS Try.prog C X (extent_Sized.T k) := by
  refine tblOf_sound ?_
  intro e he
  rcases List.mem_cons.1 he with rfl | he
  · exact wr_told (extent_sized.told hX k)
  exact absurd he List.not_mem_nil
set_option maxRecDepth 100000 in
theorem extent_Sized.l0_pass {C : FuncId → Bool} {X : CallF} (hX : XOk C X) (k n : Nat) : PassS Try.prog C X 41 (.loop extent_Sized.c1018) (lrun [(7, .sl), (26, .sl), (27, (.int .i64)), (8, .sl), (28, (.int .i64))] none [(8, .sl)] 0 (fun a h => extent_Sized.l0 k n (a.1) (a.2.1) (a.2.2.1) (a.2.2.2.1) (a.2.2.2.2) h)) :=
  loop_pass (ins := [(7, .sl), (26, .sl), (27, (.int .i64)), (8, .sl), (28, (.int .i64))]) (rets := none) (outs := [(8, .sl)]) (id := 0) (tbl := extent_Sized.T k) (an := extent_Sized.an k) (pb := 2036) (extent_Sized.TS hX k) (fun n => (fun a h => extent_Sized.l0 k n (a.1) (a.2.1) (a.2.2.1) (a.2.2.2.1) (a.2.2.2.2) h)) (fun a h => rfl) (fun n a h => by kernel_rfl)
    (by
      have e : need (extent_Sized.an k) extent_Sized.c1018 2036 = [] := by kernel_rfl
      rw [e]; intro q hq; cases hq) n
set_option maxRecDepth 100000 in
theorem extent_Sized.eq (k : Nat) (a : RT [.sl, (.int .i64)]) (h : H) : (fun a h => extent_Sized.f k (a.1) (a.2) h) a h = kfun Try.prog (extent_Sized.T k) (extent_Sized.an k) (RT [.sl, .sl] × H) Try.f26 (encL [.sl, (.int .i64)] a) h (fun vs h' => (decL [.sl, .sl] vs).bind fun x => some (x, h')) := by kernel_rfl
set_option maxRecDepth 100000 in
theorem extent_Sized.told {C : FuncId → Bool} {X : CallF} (hX : XOk C X) (k : Nat) : Den.Told Try.prog C X 26 [.sl, (.int .i64)] [.sl, .sl] (fun a h => extent_Sized.f k (a.1) (a.2) h) :=
  told_of fun a h q e => fn_of (c := extent_Sized.body) (extent_Sized.TS hX k) Try.func26 (by kernel_rfl) (hX.no 26 _ h (by decide))
    (by
      have e : need (extent_Sized.an k) extent_Sized.body 1 = [(Code.loop extent_Sized.c1018, lrun [(7, .sl), (26, .sl), (27, (.int .i64)), (8, .sl), (28, (.int .i64))] none [(8, .sl)] 0 (fun a h => extent_Sized.l0 k k (a.1) (a.2.1) (a.2.2.1) (a.2.2.2.1) (a.2.2.2.2) h))] := by kernel_rfl
      rw [e]; intro q hq
      rcases List.mem_cons.1 hq with rfl | hq
      · exact extent_Sized.l0_pass hX k k
      cases hq)
    ((extent_Sized.eq k a h).symm.trans e)
/-! ### slices.Clone[[]int,int] -/
noncomputable def slices_Clone_int_int.f (k : Nat) (a0 : Sl) (h : H) : Option ((Sl) × H) :=
  (asB (binO1 Try.prog .eql 29 (Value.slice a0.a a0.n a0.c) (Value.slice none 0 0))).bind fun b1 =>
    cond b1
      (some ((⟨none, 0, 0⟩ : Sl), h))
      ((asS2 (apv 3 1 8 (Value.slice (some ⟨h.next, 0, none⟩) 0 0) (Value.slice a0.a a0.n a0.c) (newR h 3 1 []))).bind fun q2 =>
    some (q2.1, q2.2))
noncomputable def slices_Clone_int_int.T (k : Nat) : Tbl := tblOf []
noncomputable def slices_Clone_int_int.an (k : Nat) (p : Nat) : Option Ann := none
noncomputable def slices_Clone_int_int.body : Code := (Try.f115.body).getD .skip
set_option maxRecDepth 100000 in
theorem slices_Clone_int_int.TS {C : FuncId → Bool} {X : CallF} (hX : XOk C X) (k : Nat) : TblS Try.prog C X (slices_Clone_int_int.T k) := by
  refine tblOf_sound ?_
  intro e he
  exact absurd he List.not_mem_nil
set_option maxRecDepth 100000 in
theorem slices_Clone_int_int.eq (k : Nat) (a : RT [.sl]) (h : H) : (fun a h => slices_Clone_int_int.f k a h) a h = kfun Try.prog (slices_Clone_int_int.T k) (slices_Clone_int_int.an k) (RT [.sl] × H) Try.f115 (encL [.sl] a) h (fun vs h' => (decL [.sl] vs).bind fun x => some (x, h')) := by kernel_rfl
set_option maxRecDepth 100000 in
theorem slices_Clone_int_int.told {C : FuncId → Bool} {X : CallF} (hX : XOk C X) (k : Nat) : Den.Told Try.prog C X 115 [.sl] [.sl] (fun a h => slices_Clone_int_int.f k a h) :=
  told_of fun a h q e => fn_of (c := slices_Clone_int_int.body) (slices_Clone_int_int.TS hX k) Try.func115 (by kernel_rfl) (hX.no 115 _ h (by decide))
    (by
      have e : need (slices_Clone_int_int.an k) slices_Clone_int_int.body 1 = [] := by kernel_rfl
      rw [e]; intro q hq; cases hq)
    ((slices_Clone_int_int.eq k a h).symm.trans e)
/-! ### corbel/tree.copied -/
noncomputable def tree_copied.f (k : Nat) (a0 : (ByteArray × ByteArray × Bool × Int × Sl)) (h : H) : Option (((ByteArray × ByteArray × Bool × Int × Sl)) × H) :=
  (asS (ldc (newR (newR h 58 5 [(Value.string a0.1), (Value.string a0.2.1), (Value.bool a0.2.2.1), (Value.int .i64 a0.2.2.2.1), (Value.slice a0.2.2.2.2.a a0.2.2.2.2.n a0.2.2.2.2.c)]) 58 5 [(Value.string (⟨#[]⟩ : ByteArray)), (Value.string (⟨#[]⟩ : ByteArray)), (Value.bool false), (Value.int .i64 (0 : Int)), (Value.slice none 0 0)]) (some ⟨h.next, 4, none⟩))).bind fun s1 =>
    (slices_Clone_int_int.f k s1 (newR (newR h 58 5 [(Value.string a0.1), (Value.string a0.2.1), (Value.bool a0.2.2.1), (Value.int .i64 a0.2.2.2.1), (Value.slice a0.2.2.2.2.a a0.2.2.2.2.n a0.2.2.2.2.c)]) 58 5 [(Value.string (⟨#[]⟩ : ByteArray)), (Value.string (⟨#[]⟩ : ByteArray)), (Value.bool false), (Value.int .i64 (0 : Int)), (Value.slice none 0 0)])).bind fun q2 =>
    (stv 1 q2.2 (some ⟨h.next, 4, none⟩) [(Value.slice q2.1.a q2.1.n q2.1.c)]).bind fun q3 =>
    (asSt [.str, .str, .bool, (.int .i64), .sl] (lda 5 q3.2 (some ⟨h.next, 0, none⟩))).bind fun s4 =>
    (stv 5 q3.2 (some ⟨(newR h 58 5 [(Value.string a0.1), (Value.string a0.2.1), (Value.bool a0.2.2.1), (Value.int .i64 a0.2.2.2.1), (Value.slice a0.2.2.2.2.a a0.2.2.2.2.n a0.2.2.2.2.c)]).next, 0, none⟩) [(Value.string s4.1), (Value.string s4.2.1), (Value.bool s4.2.2.1), (Value.int .i64 s4.2.2.2.1), (Value.slice s4.2.2.2.2.a s4.2.2.2.2.n s4.2.2.2.2.c)]).bind fun q5 =>
    (asSt [.str, .str, .bool, (.int .i64), .sl] (lda 5 q5.2 (some ⟨(newR h 58 5 [(Value.string a0.1), (Value.string a0.2.1), (Value.bool a0.2.2.1), (Value.int .i64 a0.2.2.2.1), (Value.slice a0.2.2.2.2.a a0.2.2.2.2.n a0.2.2.2.2.c)]).next, 0, none⟩))).bind fun s6 =>
    some ((s6.1, s6.2.1, s6.2.2.1, s6.2.2.2.1, s6.2.2.2.2), q5.2)
noncomputable def tree_copied.T (k : Nat) : Tbl := tblOf [⟨115, anyArgs, wr [.sl] [.sl] (fun a h => slices_Clone_int_int.f k a h)⟩]
noncomputable def tree_copied.an (k : Nat) (p : Nat) : Option Ann := none
noncomputable def tree_copied.body : Code := (Try.f100.body).getD .skip
set_option maxRecDepth 100000 in
theorem tree_copied.TS {C : FuncId → Bool} {X : CallF} (hX : XOk C X) (k : Nat) : TblS Try.prog C X (tree_copied.T k) := by
  refine tblOf_sound ?_
  intro e he
  rcases List.mem_cons.1 he with rfl | he
  · exact wr_told (slices_Clone_int_int.told hX k)
  exact absurd he List.not_mem_nil
set_option maxRecDepth 100000 in
theorem tree_copied.eq (k : Nat) (a : RT [(.st [.str, .str, .bool, (.int .i64), .sl])]) (h : H) : (fun a h => tree_copied.f k a h) a h = kfun Try.prog (tree_copied.T k) (tree_copied.an k) (RT [(.st [.str, .str, .bool, (.int .i64), .sl])] × H) Try.f100 (encL [(.st [.str, .str, .bool, (.int .i64), .sl])] a) h (fun vs h' => (decL [(.st [.str, .str, .bool, (.int .i64), .sl])] vs).bind fun x => some (x, h')) := by kernel_rfl
set_option maxRecDepth 100000 in
theorem tree_copied.told {C : FuncId → Bool} {X : CallF} (hX : XOk C X) (k : Nat) : Den.Told Try.prog C X 100 [(.st [.str, .str, .bool, (.int .i64), .sl])] [(.st [.str, .str, .bool, (.int .i64), .sl])] (fun a h => tree_copied.f k a h) :=
  told_of fun a h q e => fn_of (c := tree_copied.body) (tree_copied.TS hX k) Try.func100 (by kernel_rfl) (hX.no 100 _ h (by decide))
    (by
      have e : need (tree_copied.an k) tree_copied.body 1 = [] := by kernel_rfl
      rw [e]; intro q hq; cases hq)
    ((tree_copied.eq k a h).symm.trans e)
/-! ### corbel/tree.all -/
noncomputable def tree_all.l0 (k : Nat) (n : Nat) : Sl → Int → Sl → Int → H → Option ((Sl) × H) :=
  Nat.rec (motive := fun _ => Sl → Int → Sl → Int → H → Option ((Sl) × H)) (fun _ _ _ _ _ => none) (fun _ ih x1 x2 x3 x4 h5 => cond (decide (x4 < x2))
      ((asP (ixs 5 x1.a x1.n x4)).bind fun p6 =>
    (asSt [.str, .str, .bool, (.int .i64), .sl] (lda 5 h5 p6)).bind fun s7 =>
    (stv 5 (newR h5 58 5 [(Value.string (⟨#[]⟩ : ByteArray)), (Value.string (⟨#[]⟩ : ByteArray)), (Value.bool false), (Value.int .i64 (0 : Int)), (Value.slice none 0 0)]) (some ⟨h5.next, 0, none⟩) [(Value.string s7.1), (Value.string s7.2.1), (Value.bool s7.2.2.1), (Value.int .i64 s7.2.2.2.1), (Value.slice s7.2.2.2.2.a s7.2.2.2.2.n s7.2.2.2.2.c)]).bind fun q8 =>
    (asSt [.str, .str, .bool, (.int .i64), .sl] (lda 5 q8.2 (some ⟨h5.next, 0, none⟩))).bind fun s9 =>
    (tree_copied.f k (s9.1, s9.2.1, s9.2.2.1, s9.2.2.2.1, s9.2.2.2.2) q8.2).bind fun q10 =>
    (asS2 (apv 58 5 72 (Value.slice x3.a x3.n x3.c) (Value.slice (some ⟨q10.2.next, 0, none⟩) 1 1) (newR q10.2 58 5 [(Value.string q10.1.1), (Value.string q10.1.2.1), (Value.bool q10.1.2.2.1), (Value.int .i64 q10.1.2.2.2.1), (Value.slice q10.1.2.2.2.2.a q10.1.2.2.2.2.n q10.1.2.2.2.2.c)]))).bind fun q11 =>
    ih x1 x2 q11.1 (wrapA .i64 (x4 + (1 : Int))) q11.2)
      (some (x3, h5))) n
theorem tree_all.l0_zero (k : Nat) (x1 : Sl) (x2 : Int) (x3 : Sl) (x4 : Int) (h5 : H) : tree_all.l0 k 0 x1 x2 x3 x4 h5 = none := rfl
theorem tree_all.l0_succ (k n : Nat) (x1 : Sl) (x2 : Int) (x3 : Sl) (x4 : Int) (h5 : H) : tree_all.l0 k (n + 1) x1 x2 x3 x4 h5 = (cond (decide (x4 < x2))
      ((asP (ixs 5 x1.a x1.n x4)).bind fun p6 =>
    (asSt [.str, .str, .bool, (.int .i64), .sl] (lda 5 h5 p6)).bind fun s7 =>
    (stv 5 (newR h5 58 5 [(Value.string (⟨#[]⟩ : ByteArray)), (Value.string (⟨#[]⟩ : ByteArray)), (Value.bool false), (Value.int .i64 (0 : Int)), (Value.slice none 0 0)]) (some ⟨h5.next, 0, none⟩) [(Value.string s7.1), (Value.string s7.2.1), (Value.bool s7.2.2.1), (Value.int .i64 s7.2.2.2.1), (Value.slice s7.2.2.2.2.a s7.2.2.2.2.n s7.2.2.2.2.c)]).bind fun q8 =>
    (asSt [.str, .str, .bool, (.int .i64), .sl] (lda 5 q8.2 (some ⟨h5.next, 0, none⟩))).bind fun s9 =>
    (tree_copied.f k (s9.1, s9.2.1, s9.2.2.1, s9.2.2.2.1, s9.2.2.2.2) q8.2).bind fun q10 =>
    (asS2 (apv 58 5 72 (Value.slice x3.a x3.n x3.c) (Value.slice (some ⟨q10.2.next, 0, none⟩) 1 1) (newR q10.2 58 5 [(Value.string q10.1.1), (Value.string q10.1.2.1), (Value.bool q10.1.2.2.1), (Value.int .i64 q10.1.2.2.2.1), (Value.slice q10.1.2.2.2.2.a q10.1.2.2.2.2.n q10.1.2.2.2.2.c)]))).bind fun q11 =>
    tree_all.l0 k n x1 x2 q11.1 (wrapA .i64 (x4 + (1 : Int))) q11.2)
      (some (x3, h5))) := rfl
noncomputable def tree_all.f (k : Nat) (a0 : Sl) (h : H) : Option ((Sl) × H) :=
  (tree_all.l0 k k a0 (Int.ofNat a0.n) (⟨none, 0, 0⟩ : Sl) (0 : Int) h).bind fun w12 =>
    some (w12.1, w12.2)
noncomputable def tree_all.T (k : Nat) : Tbl := tblOf [⟨100, anyArgs, wr [(.st [.str, .str, .bool, (.int .i64), .sl])] [(.st [.str, .str, .bool, (.int .i64), .sl])] (fun a h => tree_copied.f k a h)⟩]
noncomputable def tree_all.an (k : Nat) (p : Nat) : Option Ann := cond (Nat.beq p 58) (some (.pass [] (lrun [(6, .sl), (7, (.int .i64)), (3, .sl), (8, (.int .i64))] none [(3, .sl)] 0 (fun a h => tree_all.l0 k k (a.1) (a.2.1) (a.2.2.1) (a.2.2.2) h))))
  (none)
noncomputable def tree_all.body : Code := (Try.f91.body).getD .skip
noncomputable def tree_all.c58 : Code := cat tree_all.body [1, 1, 0, 1, 0, 0]
set_option maxRecDepth 100000 in
theorem tree_all.TS {C : FuncId → Bool} {X : CallF} (hX : XOk C X) (k : Nat) : TblS Try.prog C X (tree_all.T k) := by
  refine tblOf_sound ?_
  intro e he
  rcases List.mem_cons.1 he with rfl | he
  · exact wr_told (tree_copied.told hX k)
  exact absurd he List.not_mem_nil
set_option maxRecDepth 100000 in
theorem tree_all.l0_pass {C : FuncId → Bool} {X : CallF} (hX : XOk C X) (k n : Nat) : PassS Try.prog C X 19 (.loop tree_all.c58) (lrun [(6, .sl), (7, (.int .i64)), (3, .sl), (8, (.int .i64))] none [(3, .sl)] 0 (fun a h => tree_all.l0 k n (a.1) (a.2.1) (a.2.2.1) (a.2.2.2) h)) :=
  loop_pass (ins := [(6, .sl), (7, (.int .i64)), (3, .sl), (8, (.int .i64))]) (rets := none) (outs := [(3, .sl)]) (id := 0) (tbl := tree_all.T k) (an := tree_all.an k) (pb := 116) (tree_all.TS hX k) (fun n => (fun a h => tree_all.l0 k n (a.1) (a.2.1) (a.2.2.1) (a.2.2.2) h)) (fun a h => rfl) (fun n a h => by kernel_rfl)
    (by
      have e : need (tree_all.an k) tree_all.c58 116 = [] := by kernel_rfl
      rw [e]; intro q hq; cases hq) n
set_option maxRecDepth 100000 in
theorem tree_all.eq (k : Nat) (a : RT [.sl]) (h : H) : (fun a h => tree_all.f k a h) a h = kfun Try.prog (tree_all.T k) (tree_all.an k) (RT [.sl] × H) Try.f91 (encL [.sl] a) h (fun vs h' => (decL [.sl] vs).bind fun x => some (x, h')) := by kernel_rfl
set_option maxRecDepth 100000 in
theorem tree_all.told {C : FuncId → Bool} {X : CallF} (hX : XOk C X) (k : Nat) : Den.Told Try.prog C X 91 [.sl] [.sl] (fun a h => tree_all.f k a h) :=
  told_of fun a h q e => fn_of (c := tree_all.body) (tree_all.TS hX k) Try.func91 (by kernel_rfl) (hX.no 91 _ h (by decide))
    (by
      have e : need (tree_all.an k) tree_all.body 1 = [(Code.loop tree_all.c58, lrun [(6, .sl), (7, (.int .i64)), (3, .sl), (8, (.int .i64))] none [(3, .sl)] 0 (fun a h => tree_all.l0 k k (a.1) (a.2.1) (a.2.2.1) (a.2.2.2) h))] := by kernel_rfl
      rw [e]; intro q hq
      rcases List.mem_cons.1 hq with rfl | hq
      · exact tree_all.l0_pass hX k k
      cases hq)
    ((tree_all.eq k a h).symm.trans e)
/-! ### corbel/tree.with -/
noncomputable def tree_with.f (k : Nat) (a0 : Sl) (a1 : (ByteArray × ByteArray × Bool × Int × Sl)) (h : H) : Option ((Sl × Int) × H) :=
  (asT (ldc (newR h 58 5 [(Value.string a1.1), (Value.string a1.2.1), (Value.bool a1.2.2.1), (Value.int .i64 a1.2.2.2.1), (Value.slice a1.2.2.2.2.a a1.2.2.2.2.n a1.2.2.2.2.c)]) (some ⟨h.next, 0, none⟩))).bind fun s1 =>
    (tree_at.f k a0 s1 (newR h 58 5 [(Value.string a1.1), (Value.string a1.2.1), (Value.bool a1.2.2.1), (Value.int .i64 a1.2.2.2.1), (Value.slice a1.2.2.2.2.a a1.2.2.2.2.n a1.2.2.2.2.c)])).bind fun q2 =>
    cond q2.1.2
      (some (((⟨none, 0, 0⟩ : Sl), (11 : Int)), q2.2))
      (cond (decide ((Int.ofNat a0.n) ≥ (12 : Int)))
      (some (((⟨none, 0, 0⟩ : Sl), (6 : Int)), q2.2))
      ((tree_all.f k a0 q2.2).bind fun q3 =>
    (asSt [.str, .str, .bool, (.int .i64), .sl] (lda 5 q3.2 (some ⟨h.next, 0, none⟩))).bind fun s4 =>
    (tree_copied.f k (s4.1, s4.2.1, s4.2.2.1, s4.2.2.2.1, s4.2.2.2.2) q3.2).bind fun q5 =>
    (slices_Insert_vol.f k q3.1 q2.1.1 (⟨(some ⟨q5.2.next, 0, none⟩), 1, 1⟩ : Sl) (newR q5.2 58 5 [(Value.string q5.1.1), (Value.string q5.1.2.1), (Value.bool q5.1.2.2.1), (Value.int .i64 q5.1.2.2.2.1), (Value.slice q5.1.2.2.2.2.a q5.1.2.2.2.2.n q5.1.2.2.2.2.c)])).bind fun q6 =>
    cond (same1 q2.2 q3.2 (some (Value.pointer (some ⟨h.next, 0, none⟩))) && (true)) (some ((q6.1, (0 : Int)), q6.2)) none))
noncomputable def tree_with.T (k : Nat) : Tbl := tblOf [⟨92, anyArgs, wr [.sl, .str] [(.int .i64), .bool] (fun a h => tree_at.f k (a.1) (a.2) h)⟩,
  ⟨91, anyArgs, wr [.sl] [.sl] (fun a h => tree_all.f k a h)⟩,
  ⟨100, anyArgs, wr [(.st [.str, .str, .bool, (.int .i64), .sl])] [(.st [.str, .str, .bool, (.int .i64), .sl])] (fun a h => tree_copied.f k a h)⟩,
  ⟨110, anyArgs, wr [.sl, (.int .i64), .sl] [.sl] (fun a h => slices_Insert_vol.f k (a.1) (a.2.1) (a.2.2) h)⟩]
noncomputable def tree_with.an (k : Nat) (p : Nat) : Option Ann := none
noncomputable def tree_with.body : Code := (Try.f87.body).getD .skip
set_option maxRecDepth 100000 in
theorem tree_with.TS {C : FuncId → Bool} {X : CallF} (hX : XOk C X) (hK110 : InsOk X 110) (hK114 : CmpOk X 114) (k : Nat) : TblS Try.prog C X (tree_with.T k) := by
  refine tblOf_sound ?_
  intro e he
  rcases List.mem_cons.1 he with rfl | he
  · exact wr_told (tree_at.told hX hK114 k)
  rcases List.mem_cons.1 he with rfl | he
  · exact wr_told (tree_all.told hX k)
  rcases List.mem_cons.1 he with rfl | he
  · exact wr_told (tree_copied.told hX k)
  rcases List.mem_cons.1 he with rfl | he
  · exact wr_told (slices_Insert_vol.told hX hK110 k)
  exact absurd he List.not_mem_nil
set_option maxRecDepth 100000 in
theorem tree_with.eq (k : Nat) (a : RT [.sl, (.st [.str, .str, .bool, (.int .i64), .sl])]) (h : H) : (fun a h => tree_with.f k (a.1) (a.2) h) a h = kfun Try.prog (tree_with.T k) (tree_with.an k) (RT [.sl, (.int .i64)] × H) Try.f87 (encL [.sl, (.st [.str, .str, .bool, (.int .i64), .sl])] a) h (fun vs h' => (decL [.sl, (.int .i64)] vs).bind fun x => some (x, h')) := by kernel_rfl
set_option maxRecDepth 100000 in
theorem tree_with.told {C : FuncId → Bool} {X : CallF} (hX : XOk C X) (hK110 : InsOk X 110) (hK114 : CmpOk X 114) (k : Nat) : Den.Told Try.prog C X 87 [.sl, (.st [.str, .str, .bool, (.int .i64), .sl])] [.sl, (.int .i64)] (fun a h => tree_with.f k (a.1) (a.2) h) :=
  told_of fun a h q e => fn_of (c := tree_with.body) (tree_with.TS hX hK110 hK114 k) Try.func87 (by kernel_rfl) (hX.no 87 _ h (by decide))
    (by
      have e : need (tree_with.an k) tree_with.body 1 = [] := by kernel_rfl
      rw [e]; intro q hq; cases hq)
    ((tree_with.eq k a h).symm.trans e)
/-! ### corbel/tree.Create -/
noncomputable def tree_Create.f (k : Nat) (a0 : Sl) (a1 : ByteArray) (a2 : Int) (h : H) : Option ((Sl × Int) × H) :=
  (extent_Sized.f k (⟨none, 0, 0⟩ : Sl) a2 h).bind fun q1 =>
    (tree_Right.f k a0 q1.2).bind fun q2 =>
    (cond (!q2.1) (some (true, q2.2))
      ((tree_IsName.f k a1 q2.2).bind fun q3 =>
    some (!q3.1, q3.2))).bind fun g4 =>
    (cond g4.1 (some (true, g4.2))
      ((extent_Right.f k a2 q1.1.1 g4.2).bind fun q5 =>
    some (!q5.1, q5.2))).bind fun g6 =>
    cond g6.1
      (some (((⟨none, 0, 0⟩ : Sl), (1 : Int)), g6.2))
      ((tree_with.f k a0 (a1, (⟨#[]⟩ : ByteArray), false, a2, q1.1.1) g6.2).bind fun q7 =>
    some ((q7.1.1, q7.1.2), q7.2))
noncomputable def tree_Create.T (k : Nat) : Tbl := tblOf [⟨26, anyArgs, wr [.sl, (.int .i64)] [.sl, .sl] (fun a h => extent_Sized.f k (a.1) (a.2) h)⟩,
  ⟨56, anyArgs, wr [.sl] [.bool] (fun a h => tree_Right.f k a h)⟩,
  ⟨65, anyArgs, wr [.str] [.bool] (fun a h => tree_IsName.f k a h)⟩,
  ⟨30, anyArgs, wr [(.int .i64), .sl] [.bool] (fun a h => extent_Right.f k (a.1) (a.2) h)⟩,
  ⟨87, anyArgs, wr [.sl, (.st [.str, .str, .bool, (.int .i64), .sl])] [.sl, (.int .i64)] (fun a h => tree_with.f k (a.1) (a.2) h)⟩]
noncomputable def tree_Create.an (k : Nat) (p : Nat) : Option Ann := none
noncomputable def tree_Create.body : Code := (Try.f51.body).getD .skip
set_option maxRecDepth 100000 in
theorem tree_Create.TS {C : FuncId → Bool} {X : CallF} (hX : XOk C X) (hK110 : InsOk X 110) (hK114 : CmpOk X 114) (k : Nat) : TblS Try.prog C X (tree_Create.T k) := by
  refine tblOf_sound ?_
  intro e he
  rcases List.mem_cons.1 he with rfl | he
  · exact wr_told (extent_Sized.told hX k)
  rcases List.mem_cons.1 he with rfl | he
  · exact wr_told (tree_Right.told hX hK114 k)
  rcases List.mem_cons.1 he with rfl | he
  · exact wr_told (tree_IsName.told hX k)
  rcases List.mem_cons.1 he with rfl | he
  · exact wr_told (extent_Right.told hX k)
  rcases List.mem_cons.1 he with rfl | he
  · exact wr_told (tree_with.told hX hK110 hK114 k)
  exact absurd he List.not_mem_nil
set_option maxRecDepth 100000 in
theorem tree_Create.eq (k : Nat) (a : RT [.sl, .str, (.int .i64)]) (h : H) : (fun a h => tree_Create.f k (a.1) (a.2.1) (a.2.2) h) a h = kfun Try.prog (tree_Create.T k) (tree_Create.an k) (RT [.sl, (.int .i64)] × H) Try.f51 (encL [.sl, .str, (.int .i64)] a) h (fun vs h' => (decL [.sl, (.int .i64)] vs).bind fun x => some (x, h')) := by kernel_rfl
set_option maxRecDepth 100000 in
theorem tree_Create.told {C : FuncId → Bool} {X : CallF} (hX : XOk C X) (hK110 : InsOk X 110) (hK114 : CmpOk X 114) (k : Nat) : Den.Told Try.prog C X 51 [.sl, .str, (.int .i64)] [.sl, (.int .i64)] (fun a h => tree_Create.f k (a.1) (a.2.1) (a.2.2) h) :=
  told_of fun a h q e => fn_of (c := tree_Create.body) (tree_Create.TS hX hK110 hK114 k) Try.func51 (by kernel_rfl) (hX.no 51 _ h (by decide))
    (by
      have e : need (tree_Create.an k) tree_Create.body 1 = [] := by kernel_rfl
      rw [e]; intro q hq; cases hq)
    ((tree_Create.eq k a h).symm.trans e)
/-! ### corbel/tree.Find -/
noncomputable def tree_Find.l0 (k : Nat) (n : Nat) : ByteArray → (Option Addr) → Sl → Int → Int → H → Option (((Bool) ⊕ (Unit)) × H) :=
  Nat.rec (motive := fun _ => ByteArray → (Option Addr) → Sl → Int → Int → H → Option (((Bool) ⊕ (Unit)) × H)) (fun _ _ _ _ _ _ => none) (fun _ ih x1 x2 x3 x4 x5 h6 => cond (decide (x5 < x4))
      ((asP (ixs 5 x3.a x3.n x5)).bind fun p7 =>
    (asSt [.str, .str, .bool, (.int .i64), .sl] (lda 5 h6 p7)).bind fun s8 =>
    (stv 5 (newR h6 58 5 [(Value.string (⟨#[]⟩ : ByteArray)), (Value.string (⟨#[]⟩ : ByteArray)), (Value.bool false), (Value.int .i64 (0 : Int)), (Value.slice none 0 0)]) (some ⟨h6.next, 0, none⟩) [(Value.string s8.1), (Value.string s8.2.1), (Value.bool s8.2.2.1), (Value.int .i64 s8.2.2.2.1), (Value.slice s8.2.2.2.2.a s8.2.2.2.2.n s8.2.2.2.2.c)]).bind fun q9 =>
    (asT (ldc q9.2 (some ⟨h6.next, 0, none⟩))).bind fun s10 =>
    cond (s10.toList == x1.toList)
      ((asSt [.str, .str, .bool, (.int .i64), .sl] (lda 5 q9.2 (some ⟨h6.next, 0, none⟩))).bind fun s11 =>
    (tree_copied.f k (s11.1, s11.2.1, s11.2.2.1, s11.2.2.2.1, s11.2.2.2.2) q9.2).bind fun q12 =>
    (stv 5 q12.2 x2 [(Value.string q12.1.1), (Value.string q12.1.2.1), (Value.bool q12.1.2.2.1), (Value.int .i64 q12.1.2.2.2.1), (Value.slice q12.1.2.2.2.2.a q12.1.2.2.2.2.n q12.1.2.2.2.2.c)]).bind fun q13 =>
    some (Sum.inl true, q13.2))
      (ih x1 x2 x3 x4 (wrapA .i64 (x5 + (1 : Int))) q9.2))
      (some (Sum.inr (), h6))) n
theorem tree_Find.l0_zero (k : Nat) (x1 : ByteArray) (x2 : Option Addr) (x3 : Sl) (x4 : Int) (x5 : Int) (h6 : H) : tree_Find.l0 k 0 x1 x2 x3 x4 x5 h6 = none := rfl
theorem tree_Find.l0_succ (k n : Nat) (x1 : ByteArray) (x2 : Option Addr) (x3 : Sl) (x4 : Int) (x5 : Int) (h6 : H) : tree_Find.l0 k (n + 1) x1 x2 x3 x4 x5 h6 = (cond (decide (x5 < x4))
      ((asP (ixs 5 x3.a x3.n x5)).bind fun p7 =>
    (asSt [.str, .str, .bool, (.int .i64), .sl] (lda 5 h6 p7)).bind fun s8 =>
    (stv 5 (newR h6 58 5 [(Value.string (⟨#[]⟩ : ByteArray)), (Value.string (⟨#[]⟩ : ByteArray)), (Value.bool false), (Value.int .i64 (0 : Int)), (Value.slice none 0 0)]) (some ⟨h6.next, 0, none⟩) [(Value.string s8.1), (Value.string s8.2.1), (Value.bool s8.2.2.1), (Value.int .i64 s8.2.2.2.1), (Value.slice s8.2.2.2.2.a s8.2.2.2.2.n s8.2.2.2.2.c)]).bind fun q9 =>
    (asT (ldc q9.2 (some ⟨h6.next, 0, none⟩))).bind fun s10 =>
    cond (s10.toList == x1.toList)
      ((asSt [.str, .str, .bool, (.int .i64), .sl] (lda 5 q9.2 (some ⟨h6.next, 0, none⟩))).bind fun s11 =>
    (tree_copied.f k (s11.1, s11.2.1, s11.2.2.1, s11.2.2.2.1, s11.2.2.2.2) q9.2).bind fun q12 =>
    (stv 5 q12.2 x2 [(Value.string q12.1.1), (Value.string q12.1.2.1), (Value.bool q12.1.2.2.1), (Value.int .i64 q12.1.2.2.2.1), (Value.slice q12.1.2.2.2.2.a q12.1.2.2.2.2.n q12.1.2.2.2.2.c)]).bind fun q13 =>
    some (Sum.inl true, q13.2))
      (tree_Find.l0 k n x1 x2 x3 x4 (wrapA .i64 (x5 + (1 : Int))) q9.2))
      (some (Sum.inr (), h6))) := rfl
noncomputable def tree_Find.f (k : Nat) (a0 : Sl) (a1 : ByteArray) (h : H) : Option (((ByteArray × ByteArray × Bool × Int × Sl) × Bool) × H) :=
  (tree_Find.l0 k k a1 (some ⟨h.next, 0, none⟩) a0 (Int.ofNat a0.n) (0 : Int) (newR h 58 5 [(Value.string (⟨#[]⟩ : ByteArray)), (Value.string (⟨#[]⟩ : ByteArray)), (Value.bool false), (Value.int .i64 (0 : Int)), (Value.slice none 0 0)])).bind fun w14 =>
    match w14.1 with
    | .inl r15 => (asSt [.str, .str, .bool, (.int .i64), .sl] (lda 5 w14.2 (some ⟨h.next, 0, none⟩))).bind fun s17 =>
    some (((s17.1, s17.2.1, s17.2.2.1, s17.2.2.2.1, s17.2.2.2.2), r15), w14.2)
    | .inr o16 => (stv 5 w14.2 (some ⟨h.next, 0, none⟩) [(Value.string (⟨#[]⟩ : ByteArray)), (Value.string (⟨#[]⟩ : ByteArray)), (Value.bool false), (Value.int .i64 (0 : Int)), (Value.slice none 0 0)]).bind fun q18 =>
    (asSt [.str, .str, .bool, (.int .i64), .sl] (lda 5 q18.2 (some ⟨h.next, 0, none⟩))).bind fun s19 =>
    some (((s19.1, s19.2.1, s19.2.2.1, s19.2.2.2.1, s19.2.2.2.2), false), q18.2)
noncomputable def tree_Find.T (k : Nat) : Tbl := tblOf [⟨100, anyArgs, wr [(.st [.str, .str, .bool, (.int .i64), .sl])] [(.st [.str, .str, .bool, (.int .i64), .sl])] (fun a h => tree_copied.f k a h)⟩]
noncomputable def tree_Find.an (k : Nat) (p : Nat) : Option Ann := cond (Nat.beq p 26) (some (.pass [4] (lrun [(1, .str), (4, .ptr), (8, .sl), (9, (.int .i64)), (10, (.int .i64))] (some [(5, .bool)]) [] 0 (fun a h => tree_Find.l0 k k (a.1) (a.2.1) (a.2.2.1) (a.2.2.2.1) (a.2.2.2.2) h))))
  (none)
noncomputable def tree_Find.body : Code := (Try.f64.body).getD .skip
noncomputable def tree_Find.c26 : Code := cat tree_Find.body [1, 0, 1, 0, 0]
set_option maxRecDepth 100000 in
theorem tree_Find.TS {C : FuncId → Bool} {X : CallF} (hX : XOk C X) (k : Nat) : TblS Try.prog C X (tree_Find.T k) := by
  refine tblOf_sound ?_
  intro e he
  rcases List.mem_cons.1 he with rfl | he
  · exact wr_told (tree_copied.told hX k)
  exact absurd he List.not_mem_nil
set_option maxRecDepth 100000 in
theorem tree_Find.l0_pass {C : FuncId → Bool} {X : CallF} (hX : XOk C X) (k n : Nat) : PassS Try.prog C X 22 (.loop tree_Find.c26) (lrun [(1, .str), (4, .ptr), (8, .sl), (9, (.int .i64)), (10, (.int .i64))] (some [(5, .bool)]) [] 0 (fun a h => tree_Find.l0 k n (a.1) (a.2.1) (a.2.2.1) (a.2.2.2.1) (a.2.2.2.2) h)) :=
  loop_pass (ins := [(1, .str), (4, .ptr), (8, .sl), (9, (.int .i64)), (10, (.int .i64))]) (rets := (some [(5, .bool)])) (outs := []) (id := 0) (tbl := tree_Find.T k) (an := tree_Find.an k) (pb := 52) (tree_Find.TS hX k) (fun n => (fun a h => tree_Find.l0 k n (a.1) (a.2.1) (a.2.2.1) (a.2.2.2.1) (a.2.2.2.2) h)) (fun a h => rfl) (fun n a h => by kernel_rfl)
    (by
      have e : need (tree_Find.an k) tree_Find.c26 52 = [] := by kernel_rfl
      rw [e]; intro q hq; cases hq) n
set_option maxRecDepth 100000 in
theorem tree_Find.eq (k : Nat) (a : RT [.sl, .str]) (h : H) : (fun a h => tree_Find.f k (a.1) (a.2) h) a h = kfun Try.prog (tree_Find.T k) (tree_Find.an k) (RT [(.st [.str, .str, .bool, (.int .i64), .sl]), .bool] × H) Try.f64 (encL [.sl, .str] a) h (fun vs h' => (decL [(.st [.str, .str, .bool, (.int .i64), .sl]), .bool] vs).bind fun x => some (x, h')) := by kernel_rfl
set_option maxRecDepth 100000 in
theorem tree_Find.told {C : FuncId → Bool} {X : CallF} (hX : XOk C X) (k : Nat) : Den.Told Try.prog C X 64 [.sl, .str] [(.st [.str, .str, .bool, (.int .i64), .sl]), .bool] (fun a h => tree_Find.f k (a.1) (a.2) h) :=
  told_of fun a h q e => fn_of (c := tree_Find.body) (tree_Find.TS hX k) Try.func64 (by kernel_rfl) (hX.no 64 _ h (by decide))
    (by
      have e : need (tree_Find.an k) tree_Find.body 1 = [(Code.loop tree_Find.c26, lrun [(1, .str), (4, .ptr), (8, .sl), (9, (.int .i64)), (10, (.int .i64))] (some [(5, .bool)]) [] 0 (fun a h => tree_Find.l0 k k (a.1) (a.2.1) (a.2.2.1) (a.2.2.2.1) (a.2.2.2.2) h))] := by kernel_rfl
      rw [e]; intro q hq
      rcases List.mem_cons.1 hq with rfl | hq
      · exact tree_Find.l0_pass hX k k
      cases hq)
    ((tree_Find.eq k a h).symm.trans e)
/-! ### corbel/tree.derived -/
noncomputable def tree_derived.f (k : Nat) (a0 : Sl) (a1 : ByteArray) (a2 : ByteArray) (a3 : Bool) (h : H) : Option ((Sl × Int) × H) :=
  (tree_Right.f k a0 h).bind fun q1 =>
    (cond (!q1.1) (some (true, q1.2))
      ((tree_IsName.f k a2 q1.2).bind fun q2 =>
    some (!q2.1, q2.2))).bind fun g3 =>
    cond g3.1
      (some (((⟨none, 0, 0⟩ : Sl), (1 : Int)), g3.2))
      ((tree_Find.f k a0 a1 g3.2).bind fun q4 =>
    (stv 5 (newR q4.2 58 5 [(Value.string (⟨#[]⟩ : ByteArray)), (Value.string (⟨#[]⟩ : ByteArray)), (Value.bool false), (Value.int .i64 (0 : Int)), (Value.slice none 0 0)]) (some ⟨q4.2.next, 0, none⟩) [(Value.string q4.1.1.1), (Value.string q4.1.1.2.1), (Value.bool q4.1.1.2.2.1), (Value.int .i64 q4.1.1.2.2.2.1), (Value.slice q4.1.1.2.2.2.2.a q4.1.1.2.2.2.2.n q4.1.1.2.2.2.2.c)]).bind fun q5 =>
    cond (!q4.1.2)
      (some (((⟨none, 0, 0⟩ : Sl), (7 : Int)), q5.2))
      ((asB (ldc q5.2 (some ⟨q4.2.next, 2, none⟩))).bind fun b6 =>
    cond (b6 == a3)
      (some (((⟨none, 0, 0⟩ : Sl), (10 : Int)), q5.2))
      ((asI .i64 (ldc q5.2 (some ⟨q4.2.next, 3, none⟩))).bind fun n7 =>
    (asS (ldc q5.2 (some ⟨q4.2.next, 4, none⟩))).bind fun s8 =>
    (tree_with.f k a0 (a2, a1, a3, n7, s8) q5.2).bind fun q9 =>
    some ((q9.1.1, q9.1.2), q9.2))))
noncomputable def tree_derived.T (k : Nat) : Tbl := tblOf [⟨56, anyArgs, wr [.sl] [.bool] (fun a h => tree_Right.f k a h)⟩,
  ⟨65, anyArgs, wr [.str] [.bool] (fun a h => tree_IsName.f k a h)⟩,
  ⟨64, anyArgs, wr [.sl, .str] [(.st [.str, .str, .bool, (.int .i64), .sl]), .bool] (fun a h => tree_Find.f k (a.1) (a.2) h)⟩,
  ⟨87, anyArgs, wr [.sl, (.st [.str, .str, .bool, (.int .i64), .sl])] [.sl, (.int .i64)] (fun a h => tree_with.f k (a.1) (a.2) h)⟩]
noncomputable def tree_derived.an (k : Nat) (p : Nat) : Option Ann := none
noncomputable def tree_derived.body : Code := (Try.f88.body).getD .skip
set_option maxRecDepth 100000 in
theorem tree_derived.TS {C : FuncId → Bool} {X : CallF} (hX : XOk C X) (hK110 : InsOk X 110) (hK114 : CmpOk X 114) (k : Nat) : TblS Try.prog C X (tree_derived.T k) := by
  refine tblOf_sound ?_
  intro e he
  rcases List.mem_cons.1 he with rfl | he
  · exact wr_told (tree_Right.told hX hK114 k)
  rcases List.mem_cons.1 he with rfl | he
  · exact wr_told (tree_IsName.told hX k)
  rcases List.mem_cons.1 he with rfl | he
  · exact wr_told (tree_Find.told hX k)
  rcases List.mem_cons.1 he with rfl | he
  · exact wr_told (tree_with.told hX hK110 hK114 k)
  exact absurd he List.not_mem_nil
set_option maxRecDepth 100000 in
theorem tree_derived.eq (k : Nat) (a : RT [.sl, .str, .str, .bool]) (h : H) : (fun a h => tree_derived.f k (a.1) (a.2.1) (a.2.2.1) (a.2.2.2) h) a h = kfun Try.prog (tree_derived.T k) (tree_derived.an k) (RT [.sl, (.int .i64)] × H) Try.f88 (encL [.sl, .str, .str, .bool] a) h (fun vs h' => (decL [.sl, (.int .i64)] vs).bind fun x => some (x, h')) := by kernel_rfl
set_option maxRecDepth 100000 in
theorem tree_derived.told {C : FuncId → Bool} {X : CallF} (hX : XOk C X) (hK110 : InsOk X 110) (hK114 : CmpOk X 114) (k : Nat) : Den.Told Try.prog C X 88 [.sl, .str, .str, .bool] [.sl, (.int .i64)] (fun a h => tree_derived.f k (a.1) (a.2.1) (a.2.2.1) (a.2.2.2) h) :=
  told_of fun a h q e => fn_of (c := tree_derived.body) (tree_derived.TS hX hK110 hK114 k) Try.func88 (by kernel_rfl) (hX.no 88 _ h (by decide))
    (by
      have e : need (tree_derived.an k) tree_derived.body 1 = [] := by kernel_rfl
      rw [e]; intro q hq; cases hq)
    ((tree_derived.eq k a h).symm.trans e)
/-! ### corbel/tree.Snapshot -/
noncomputable def tree_Snapshot.f (k : Nat) (a0 : Sl) (a1 : ByteArray) (a2 : ByteArray) (h : H) : Option ((Sl × Int) × H) :=
  (tree_derived.f k a0 a1 a2 true h).bind fun q1 =>
    some ((q1.1.1, q1.1.2), q1.2)
noncomputable def tree_Snapshot.T (k : Nat) : Tbl := tblOf [⟨88, anyArgs, wr [.sl, .str, .str, .bool] [.sl, (.int .i64)] (fun a h => tree_derived.f k (a.1) (a.2.1) (a.2.2.1) (a.2.2.2) h)⟩]
noncomputable def tree_Snapshot.an (k : Nat) (p : Nat) : Option Ann := none
noncomputable def tree_Snapshot.body : Code := (Try.f52.body).getD .skip
set_option maxRecDepth 100000 in
theorem tree_Snapshot.TS {C : FuncId → Bool} {X : CallF} (hX : XOk C X) (hK110 : InsOk X 110) (hK114 : CmpOk X 114) (k : Nat) : TblS Try.prog C X (tree_Snapshot.T k) := by
  refine tblOf_sound ?_
  intro e he
  rcases List.mem_cons.1 he with rfl | he
  · exact wr_told (tree_derived.told hX hK110 hK114 k)
  exact absurd he List.not_mem_nil
set_option maxRecDepth 100000 in
theorem tree_Snapshot.eq (k : Nat) (a : RT [.sl, .str, .str]) (h : H) : (fun a h => tree_Snapshot.f k (a.1) (a.2.1) (a.2.2) h) a h = kfun Try.prog (tree_Snapshot.T k) (tree_Snapshot.an k) (RT [.sl, (.int .i64)] × H) Try.f52 (encL [.sl, .str, .str] a) h (fun vs h' => (decL [.sl, (.int .i64)] vs).bind fun x => some (x, h')) := by kernel_rfl
set_option maxRecDepth 100000 in
theorem tree_Snapshot.told {C : FuncId → Bool} {X : CallF} (hX : XOk C X) (hK110 : InsOk X 110) (hK114 : CmpOk X 114) (k : Nat) : Den.Told Try.prog C X 52 [.sl, .str, .str] [.sl, (.int .i64)] (fun a h => tree_Snapshot.f k (a.1) (a.2.1) (a.2.2) h) :=
  told_of fun a h q e => fn_of (c := tree_Snapshot.body) (tree_Snapshot.TS hX hK110 hK114 k) Try.func52 (by kernel_rfl) (hX.no 52 _ h (by decide))
    (by
      have e : need (tree_Snapshot.an k) tree_Snapshot.body 1 = [] := by kernel_rfl
      rw [e]; intro q hq; cases hq)
    ((tree_Snapshot.eq k a h).symm.trans e)
/-! ### corbel/tree.Clone -/
noncomputable def tree_Clone.f (k : Nat) (a0 : Sl) (a1 : ByteArray) (a2 : ByteArray) (h : H) : Option ((Sl × Int) × H) :=
  (tree_derived.f k a0 a1 a2 false h).bind fun q1 =>
    some ((q1.1.1, q1.1.2), q1.2)
noncomputable def tree_Clone.T (k : Nat) : Tbl := tblOf [⟨88, anyArgs, wr [.sl, .str, .str, .bool] [.sl, (.int .i64)] (fun a h => tree_derived.f k (a.1) (a.2.1) (a.2.2.1) (a.2.2.2) h)⟩]
noncomputable def tree_Clone.an (k : Nat) (p : Nat) : Option Ann := none
noncomputable def tree_Clone.body : Code := (Try.f53.body).getD .skip
set_option maxRecDepth 100000 in
theorem tree_Clone.TS {C : FuncId → Bool} {X : CallF} (hX : XOk C X) (hK110 : InsOk X 110) (hK114 : CmpOk X 114) (k : Nat) : TblS Try.prog C X (tree_Clone.T k) := by
  refine tblOf_sound ?_
  intro e he
  rcases List.mem_cons.1 he with rfl | he
  · exact wr_told (tree_derived.told hX hK110 hK114 k)
  exact absurd he List.not_mem_nil
set_option maxRecDepth 100000 in
theorem tree_Clone.eq (k : Nat) (a : RT [.sl, .str, .str]) (h : H) : (fun a h => tree_Clone.f k (a.1) (a.2.1) (a.2.2) h) a h = kfun Try.prog (tree_Clone.T k) (tree_Clone.an k) (RT [.sl, (.int .i64)] × H) Try.f53 (encL [.sl, .str, .str] a) h (fun vs h' => (decL [.sl, (.int .i64)] vs).bind fun x => some (x, h')) := by kernel_rfl
set_option maxRecDepth 100000 in
theorem tree_Clone.told {C : FuncId → Bool} {X : CallF} (hX : XOk C X) (hK110 : InsOk X 110) (hK114 : CmpOk X 114) (k : Nat) : Den.Told Try.prog C X 53 [.sl, .str, .str] [.sl, (.int .i64)] (fun a h => tree_Clone.f k (a.1) (a.2.1) (a.2.2) h) :=
  told_of fun a h q e => fn_of (c := tree_Clone.body) (tree_Clone.TS hX hK110 hK114 k) Try.func53 (by kernel_rfl) (hX.no 53 _ h (by decide))
    (by
      have e : need (tree_Clone.an k) tree_Clone.body 1 = [] := by kernel_rfl
      rw [e]; intro q hq; cases hq)
    ((tree_Clone.eq k a h).symm.trans e)
/-! ### corbel/tree.Delete$1 -/
noncomputable def tree_Delete_1.f (k : Nat) (a0 : (ByteArray × ByteArray × Bool × Int × Sl)) (a1 : Option Addr) (h : H) : Option ((Bool) × H) :=
  (asT (ldc (newR h 58 5 [(Value.string a0.1), (Value.string a0.2.1), (Value.bool a0.2.2.1), (Value.int .i64 a0.2.2.2.1), (Value.slice a0.2.2.2.2.a a0.2.2.2.2.n a0.2.2.2.2.c)]) (some ⟨h.next, 1, none⟩))).bind fun s1 =>
    (asT (ldc (newR h 58 5 [(Value.string a0.1), (Value.string a0.2.1), (Value.bool a0.2.2.1), (Value.int .i64 a0.2.2.2.1), (Value.slice a0.2.2.2.2.a a0.2.2.2.2.n a0.2.2.2.2.c)]) a1)).bind fun s2 =>
    some (s1.toList == s2.toList, (newR h 58 5 [(Value.string a0.1), (Value.string a0.2.1), (Value.bool a0.2.2.1), (Value.int .i64 a0.2.2.2.1), (Value.slice a0.2.2.2.2.a a0.2.2.2.2.n a0.2.2.2.2.c)]))
noncomputable def tree_Delete_1.T (k : Nat) : Tbl := tblOf []
noncomputable def tree_Delete_1.an (k : Nat) (p : Nat) : Option Ann := none
noncomputable def tree_Delete_1.body : Code := (Try.f90.body).getD .skip
set_option maxRecDepth 100000 in
theorem tree_Delete_1.TS {C : FuncId → Bool} {X : CallF} (hX : XOk C X) (k : Nat) : TblS Try.prog C X (tree_Delete_1.T k) := by
  refine tblOf_sound ?_
  intro e he
  exact absurd he List.not_mem_nil
set_option maxRecDepth 100000 in
theorem tree_Delete_1.eq (k : Nat) (a : RT [(.st [.str, .str, .bool, (.int .i64), .sl]), .ptr]) (h : H) : (fun a h => tree_Delete_1.f k (a.1) (a.2) h) a h = kfun Try.prog (tree_Delete_1.T k) (tree_Delete_1.an k) (RT [.bool] × H) Try.f90 (encL [(.st [.str, .str, .bool, (.int .i64), .sl]), .ptr] a) h (fun vs h' => (decL [.bool] vs).bind fun x => some (x, h')) := by kernel_rfl
set_option maxRecDepth 100000 in
theorem tree_Delete_1.told {C : FuncId → Bool} {X : CallF} (hX : XOk C X) (k : Nat) : Den.Told Try.prog C X 90 [(.st [.str, .str, .bool, (.int .i64), .sl]), .ptr] [.bool] (fun a h => tree_Delete_1.f k (a.1) (a.2) h) :=
  told_of fun a h q e => fn_of (c := tree_Delete_1.body) (tree_Delete_1.TS hX k) Try.func90 (by kernel_rfl) (hX.no 90 _ h (by decide))
    (by
      have e : need (tree_Delete_1.an k) tree_Delete_1.body 1 = [] := by kernel_rfl
      rw [e]; intro q hq; cases hq)
    ((tree_Delete_1.eq k a h).symm.trans e)
/-! ### slices.IndexFunc[[]corbel/api.Volume,corbel/api.Volume] -/
noncomputable def slices_IndexFunc_api_Volume_api_Volume_tree_Delete_1.l0 (k : Nat) (n : Nat) : Sl → (Option Addr) → Int → Int → H → Option (((Int) ⊕ (Unit)) × H) :=
  Nat.rec (motive := fun _ => Sl → (Option Addr) → Int → Int → H → Option (((Int) ⊕ (Unit)) × H)) (fun _ _ _ _ _ => none) (fun _ ih x1 x2 x3 x4 h5 => cond (decide (x4 < x3))
      ((asP (ixs 5 x1.a x1.n x4)).bind fun p6 =>
    (asSt [.str, .str, .bool, (.int .i64), .sl] (lda 5 h5 p6)).bind fun s7 =>
    (tree_Delete_1.f k (s7.1, s7.2.1, s7.2.2.1, s7.2.2.2.1, s7.2.2.2.2) x2 h5).bind fun q8 =>
    cond q8.1
      (some (Sum.inl x4, q8.2))
      (ih x1 (x2) x3 (wrapA .i64 (x4 + (1 : Int))) q8.2))
      (some (Sum.inr (), h5))) n
theorem slices_IndexFunc_api_Volume_api_Volume_tree_Delete_1.l0_zero (k : Nat) (x1 : Sl) (x2 : Option Addr) (x3 : Int) (x4 : Int) (h5 : H) : slices_IndexFunc_api_Volume_api_Volume_tree_Delete_1.l0 k 0 x1 x2 x3 x4 h5 = none := rfl
theorem slices_IndexFunc_api_Volume_api_Volume_tree_Delete_1.l0_succ (k n : Nat) (x1 : Sl) (x2 : Option Addr) (x3 : Int) (x4 : Int) (h5 : H) : slices_IndexFunc_api_Volume_api_Volume_tree_Delete_1.l0 k (n + 1) x1 x2 x3 x4 h5 = (cond (decide (x4 < x3))
      ((asP (ixs 5 x1.a x1.n x4)).bind fun p6 =>
    (asSt [.str, .str, .bool, (.int .i64), .sl] (lda 5 h5 p6)).bind fun s7 =>
    (tree_Delete_1.f k (s7.1, s7.2.1, s7.2.2.1, s7.2.2.2.1, s7.2.2.2.2) x2 h5).bind fun q8 =>
    cond q8.1
      (some (Sum.inl x4, q8.2))
      (slices_IndexFunc_api_Volume_api_Volume_tree_Delete_1.l0 k n x1 (x2) x3 (wrapA .i64 (x4 + (1 : Int))) q8.2))
      (some (Sum.inr (), h5))) := rfl
noncomputable def slices_IndexFunc_api_Volume_api_Volume_tree_Delete_1.f (k : Nat) (a0 : Sl) (a1 : Option Addr) (h : H) : Option ((Int) × H) :=
  (slices_IndexFunc_api_Volume_api_Volume_tree_Delete_1.l0 k k a0 (a1) (Int.ofNat a0.n) (0 : Int) h).bind fun w9 =>
    match w9.1 with
    | .inl r10 => some (r10, w9.2)
    | .inr o11 => some ((-1 : Int), w9.2)
noncomputable def slices_IndexFunc_api_Volume_api_Volume_tree_Delete_1.T (k : Nat) : Tbl := tblOf [⟨90, anyArgs, wr [(.st [.str, .str, .bool, (.int .i64), .sl]), .ptr] [.bool] (fun a h => tree_Delete_1.f k (a.1) (a.2) h)⟩]
noncomputable def slices_IndexFunc_api_Volume_api_Volume_tree_Delete_1.an (k : Nat) (p : Nat) : Option Ann := cond (Nat.beq p 26) (some (.pass [] (lrun [(0, .sl), (1, (.fn 90 1)), (7, (.int .i64)), (8, (.int .i64))] (some [(4, (.int .i64))]) [] 0 (fun a h => slices_IndexFunc_api_Volume_api_Volume_tree_Delete_1.l0 k k (a.1) (a.2.1) (a.2.2.1) (a.2.2.2) h))))
  (none)
noncomputable def slices_IndexFunc_api_Volume_api_Volume_tree_Delete_1.body : Code := (Try.f111.body).getD .skip
noncomputable def slices_IndexFunc_api_Volume_api_Volume_tree_Delete_1.c26 : Code := cat slices_IndexFunc_api_Volume_api_Volume_tree_Delete_1.body [1, 0, 1, 0, 0]
set_option maxRecDepth 100000 in
theorem slices_IndexFunc_api_Volume_api_Volume_tree_Delete_1.TS {C : FuncId → Bool} {X : CallF} (hX : XOk C X) (k : Nat) : TblS Try.prog C X (slices_IndexFunc_api_Volume_api_Volume_tree_Delete_1.T k) := by
  refine tblOf_sound ?_
  intro e he
  rcases List.mem_cons.1 he with rfl | he
  · exact wr_told (tree_Delete_1.told hX k)
  exact absurd he List.not_mem_nil
set_option maxRecDepth 100000 in
theorem slices_IndexFunc_api_Volume_api_Volume_tree_Delete_1.l0_pass {C : FuncId → Bool} {X : CallF} (hX : XOk C X) (k n : Nat) : PassS Try.prog C X 19 (.loop slices_IndexFunc_api_Volume_api_Volume_tree_Delete_1.c26) (lrun [(0, .sl), (1, (.fn 90 1)), (7, (.int .i64)), (8, (.int .i64))] (some [(4, (.int .i64))]) [] 0 (fun a h => slices_IndexFunc_api_Volume_api_Volume_tree_Delete_1.l0 k n (a.1) (a.2.1) (a.2.2.1) (a.2.2.2) h)) :=
  loop_pass (ins := [(0, .sl), (1, (.fn 90 1)), (7, (.int .i64)), (8, (.int .i64))]) (rets := (some [(4, (.int .i64))])) (outs := []) (id := 0) (tbl := slices_IndexFunc_api_Volume_api_Volume_tree_Delete_1.T k) (an := slices_IndexFunc_api_Volume_api_Volume_tree_Delete_1.an k) (pb := 52) (slices_IndexFunc_api_Volume_api_Volume_tree_Delete_1.TS hX k) (fun n => (fun a h => slices_IndexFunc_api_Volume_api_Volume_tree_Delete_1.l0 k n (a.1) (a.2.1) (a.2.2.1) (a.2.2.2) h)) (fun a h => rfl) (fun n a h => by kernel_rfl)
    (by
      have e : need (slices_IndexFunc_api_Volume_api_Volume_tree_Delete_1.an k) slices_IndexFunc_api_Volume_api_Volume_tree_Delete_1.c26 52 = [] := by kernel_rfl
      rw [e]; intro q hq; cases hq) n
set_option maxRecDepth 100000 in
theorem slices_IndexFunc_api_Volume_api_Volume_tree_Delete_1.eq (k : Nat) (a : RT [.sl, (.fn 90 1)]) (h : H) : (fun a h => slices_IndexFunc_api_Volume_api_Volume_tree_Delete_1.f k (a.1) (a.2) h) a h = kfun Try.prog (slices_IndexFunc_api_Volume_api_Volume_tree_Delete_1.T k) (slices_IndexFunc_api_Volume_api_Volume_tree_Delete_1.an k) (RT [(.int .i64)] × H) Try.f111 (encL [.sl, (.fn 90 1)] a) h (fun vs h' => (decL [(.int .i64)] vs).bind fun x => some (x, h')) := by kernel_rfl
set_option maxRecDepth 100000 in
theorem slices_IndexFunc_api_Volume_api_Volume_tree_Delete_1.told {C : FuncId → Bool} {X : CallF} (hX : XOk C X) (k : Nat) : Den.Told Try.prog C X 111 [.sl, (.fn 90 1)] [(.int .i64)] (fun a h => slices_IndexFunc_api_Volume_api_Volume_tree_Delete_1.f k (a.1) (a.2) h) :=
  told_of fun a h q e => fn_of (c := slices_IndexFunc_api_Volume_api_Volume_tree_Delete_1.body) (slices_IndexFunc_api_Volume_api_Volume_tree_Delete_1.TS hX k) Try.func111 (by kernel_rfl) (hX.no 111 _ h (by decide))
    (by
      have e : need (slices_IndexFunc_api_Volume_api_Volume_tree_Delete_1.an k) slices_IndexFunc_api_Volume_api_Volume_tree_Delete_1.body 1 = [(Code.loop slices_IndexFunc_api_Volume_api_Volume_tree_Delete_1.c26, lrun [(0, .sl), (1, (.fn 90 1)), (7, (.int .i64)), (8, (.int .i64))] (some [(4, (.int .i64))]) [] 0 (fun a h => slices_IndexFunc_api_Volume_api_Volume_tree_Delete_1.l0 k k (a.1) (a.2.1) (a.2.2.1) (a.2.2.2) h))] := by kernel_rfl
      rw [e]; intro q hq
      rcases List.mem_cons.1 hq with rfl | hq
      · exact slices_IndexFunc_api_Volume_api_Volume_tree_Delete_1.l0_pass hX k k
      cases hq)
    ((slices_IndexFunc_api_Volume_api_Volume_tree_Delete_1.eq k a h).symm.trans e)
/-! ### slices.ContainsFunc[[]corbel/api.Volume,corbel/api.Volume] -/
noncomputable def slices_ContainsFunc_api_Volume_api_Volume_tree_Delete_1.f (k : Nat) (a0 : Sl) (a1 : Option Addr) (h : H) : Option ((Bool) × H) :=
  (slices_IndexFunc_api_Volume_api_Volume_tree_Delete_1.f k a0 (a1) h).bind fun q1 =>
    some (decide (q1.1 ≥ (0 : Int)), q1.2)
noncomputable def slices_ContainsFunc_api_Volume_api_Volume_tree_Delete_1.T (k : Nat) : Tbl := tblOf [⟨111, chkF [(1, 90)], wr [.sl, (.fn 90 1)] [(.int .i64)] (fun a h => slices_IndexFunc_api_Volume_api_Volume_tree_Delete_1.f k (a.1) (a.2) h)⟩]
noncomputable def slices_ContainsFunc_api_Volume_api_Volume_tree_Delete_1.an (k : Nat) (p : Nat) : Option Ann := none
noncomputable def slices_ContainsFunc_api_Volume_api_Volume_tree_Delete_1.body : Code := (Try.f89.body).getD .skip
set_option maxRecDepth 100000 in
theorem slices_ContainsFunc_api_Volume_api_Volume_tree_Delete_1.TS {C : FuncId → Bool} {X : CallF} (hX : XOk C X) (k : Nat) : TblS Try.prog C X (slices_ContainsFunc_api_Volume_api_Volume_tree_Delete_1.T k) := by
  refine tblOf_sound ?_
  intro e he
  rcases List.mem_cons.1 he with rfl | he
  · exact wr_told (slices_IndexFunc_api_Volume_api_Volume_tree_Delete_1.told hX k)
  exact absurd he List.not_mem_nil
set_option maxRecDepth 100000 in
theorem slices_ContainsFunc_api_Volume_api_Volume_tree_Delete_1.eq (k : Nat) (a : RT [.sl, (.fn 90 1)]) (h : H) : (fun a h => slices_ContainsFunc_api_Volume_api_Volume_tree_Delete_1.f k (a.1) (a.2) h) a h = kfun Try.prog (slices_ContainsFunc_api_Volume_api_Volume_tree_Delete_1.T k) (slices_ContainsFunc_api_Volume_api_Volume_tree_Delete_1.an k) (RT [.bool] × H) Try.f89 (encL [.sl, (.fn 90 1)] a) h (fun vs h' => (decL [.bool] vs).bind fun x => some (x, h')) := by kernel_rfl
set_option maxRecDepth 100000 in
theorem slices_ContainsFunc_api_Volume_api_Volume_tree_Delete_1.told {C : FuncId → Bool} {X : CallF} (hX : XOk C X) (k : Nat) : Den.Told Try.prog C X 89 [.sl, (.fn 90 1)] [.bool] (fun a h => slices_ContainsFunc_api_Volume_api_Volume_tree_Delete_1.f k (a.1) (a.2) h) :=
  told_of fun a h q e => fn_of (c := slices_ContainsFunc_api_Volume_api_Volume_tree_Delete_1.body) (slices_ContainsFunc_api_Volume_api_Volume_tree_Delete_1.TS hX k) Try.func89 (by kernel_rfl) (hX.no 89 _ h (by decide))
    (by
      have e : need (slices_ContainsFunc_api_Volume_api_Volume_tree_Delete_1.an k) slices_ContainsFunc_api_Volume_api_Volume_tree_Delete_1.body 1 = [] := by kernel_rfl
      rw [e]; intro q hq; cases hq)
    ((slices_ContainsFunc_api_Volume_api_Volume_tree_Delete_1.eq k a h).symm.trans e)
/-! ### corbel/tree.Delete -/
noncomputable def tree_Delete.l0 (k : Nat) (n : Nat) : (Option Addr) → Sl → Int → Sl → Int → H → Option ((Sl) × H) :=
  Nat.rec (motive := fun _ => (Option Addr) → Sl → Int → Sl → Int → H → Option ((Sl) × H)) (fun _ _ _ _ _ _ => none) (fun _ ih x9 x10 x11 x12 x13 h14 => cond (decide (x13 < x11))
      ((asP (ixs 5 x10.a x10.n x13)).bind fun p15 =>
    (asSt [.str, .str, .bool, (.int .i64), .sl] (lda 5 h14 p15)).bind fun s16 =>
    (stv 5 (newR h14 58 5 [(Value.string (⟨#[]⟩ : ByteArray)), (Value.string (⟨#[]⟩ : ByteArray)), (Value.bool false), (Value.int .i64 (0 : Int)), (Value.slice none 0 0)]) (some ⟨h14.next, 0, none⟩) [(Value.string s16.1), (Value.string s16.2.1), (Value.bool s16.2.2.1), (Value.int .i64 s16.2.2.2.1), (Value.slice s16.2.2.2.2.a s16.2.2.2.2.n s16.2.2.2.2.c)]).bind fun q17 =>
    (asT (ldc q17.2 (some ⟨h14.next, 1, none⟩))).bind fun s18 =>
    (asT (ldc q17.2 x9)).bind fun s19 =>
    (cond (s18.toList == s19.toList)
      ((stv 1 q17.2 (some ⟨h14.next, 1, none⟩) [(Value.string (⟨#[]⟩ : ByteArray))]).bind fun q20 =>
    some ((), q20.2))
      (some ((), q17.2)) : Option ((Unit) × H)).bind fun j21 =>
    (asT (ldc j21.2 (some ⟨h14.next, 0, none⟩))).bind fun s22 =>
    (asT (ldc j21.2 x9)).bind fun s23 =>
    (cond (!(s22.toList == s23.toList))
      ((asSt [.str, .str, .bool, (.int .i64), .sl] (lda 5 j21.2 (some ⟨h14.next, 0, none⟩))).bind fun s24 =>
    (asS2 (apv 58 5 72 (Value.slice x12.a x12.n x12.c) (Value.slice (some ⟨j21.2.next, 0, none⟩) 1 1) (newR j21.2 58 5 [(Value.string s24.1), (Value.string s24.2.1), (Value.bool s24.2.2.1), (Value.int .i64 s24.2.2.2.1), (Value.slice s24.2.2.2.2.a s24.2.2.2.2.n s24.2.2.2.2.c)]))).bind fun q25 =>
    some (q25.1, q25.2))
      (some (x12, j21.2)) : Option ((Sl) × H)).bind fun j26 =>
    ih x9 x10 x11 j26.1 (wrapA .i64 (x13 + (1 : Int))) j26.2)
      (some (x12, h14))) n
theorem tree_Delete.l0_zero (k : Nat) (x9 : Option Addr) (x10 : Sl) (x11 : Int) (x12 : Sl) (x13 : Int) (h14 : H) : tree_Delete.l0 k 0 x9 x10 x11 x12 x13 h14 = none := rfl
theorem tree_Delete.l0_succ (k n : Nat) (x9 : Option Addr) (x10 : Sl) (x11 : Int) (x12 : Sl) (x13 : Int) (h14 : H) : tree_Delete.l0 k (n + 1) x9 x10 x11 x12 x13 h14 = (cond (decide (x13 < x11))
      ((asP (ixs 5 x10.a x10.n x13)).bind fun p15 =>
    (asSt [.str, .str, .bool, (.int .i64), .sl] (lda 5 h14 p15)).bind fun s16 =>
    (stv 5 (newR h14 58 5 [(Value.string (⟨#[]⟩ : ByteArray)), (Value.string (⟨#[]⟩ : ByteArray)), (Value.bool false), (Value.int .i64 (0 : Int)), (Value.slice none 0 0)]) (some ⟨h14.next, 0, none⟩) [(Value.string s16.1), (Value.string s16.2.1), (Value.bool s16.2.2.1), (Value.int .i64 s16.2.2.2.1), (Value.slice s16.2.2.2.2.a s16.2.2.2.2.n s16.2.2.2.2.c)]).bind fun q17 =>
    (asT (ldc q17.2 (some ⟨h14.next, 1, none⟩))).bind fun s18 =>
    (asT (ldc q17.2 x9)).bind fun s19 =>
    (cond (s18.toList == s19.toList)
      ((stv 1 q17.2 (some ⟨h14.next, 1, none⟩) [(Value.string (⟨#[]⟩ : ByteArray))]).bind fun q20 =>
    some ((), q20.2))
      (some ((), q17.2)) : Option ((Unit) × H)).bind fun j21 =>
    (asT (ldc j21.2 (some ⟨h14.next, 0, none⟩))).bind fun s22 =>
    (asT (ldc j21.2 x9)).bind fun s23 =>
    (cond (!(s22.toList == s23.toList))
      ((asSt [.str, .str, .bool, (.int .i64), .sl] (lda 5 j21.2 (some ⟨h14.next, 0, none⟩))).bind fun s24 =>
    (asS2 (apv 58 5 72 (Value.slice x12.a x12.n x12.c) (Value.slice (some ⟨j21.2.next, 0, none⟩) 1 1) (newR j21.2 58 5 [(Value.string s24.1), (Value.string s24.2.1), (Value.bool s24.2.2.1), (Value.int .i64 s24.2.2.2.1), (Value.slice s24.2.2.2.2.a s24.2.2.2.2.n s24.2.2.2.2.c)]))).bind fun q25 =>
    some (q25.1, q25.2))
      (some (x12, j21.2)) : Option ((Sl) × H)).bind fun j26 =>
    tree_Delete.l0 k n x9 x10 x11 j26.1 (wrapA .i64 (x13 + (1 : Int))) j26.2)
      (some (x12, h14))) := rfl
noncomputable def tree_Delete.f (k : Nat) (a0 : Sl) (a1 : ByteArray) (h : H) : Option ((Sl × Int) × H) :=
  (tree_Right.f k a0 (newR h 9 1 [(Value.string a1)])).bind fun q1 =>
    cond (!q1.1)
      (some (((⟨none, 0, 0⟩ : Sl), (1 : Int)), q1.2))
      ((asT (ldc q1.2 (some ⟨h.next, 0, none⟩))).bind fun s2 =>
    (tree_Find.f k a0 s2 q1.2).bind fun q3 =>
    (stv 5 (newR q3.2 58 5 [(Value.string (⟨#[]⟩ : ByteArray)), (Value.string (⟨#[]⟩ : ByteArray)), (Value.bool false), (Value.int .i64 (0 : Int)), (Value.slice none 0 0)]) (some ⟨q3.2.next, 0, none⟩) [(Value.string q3.1.1.1), (Value.string q3.1.1.2.1), (Value.bool q3.1.1.2.2.1), (Value.int .i64 q3.1.1.2.2.2.1), (Value.slice q3.1.1.2.2.2.2.a q3.1.1.2.2.2.2.n q3.1.1.2.2.2.2.c)]).bind fun q4 =>
    cond (!q3.1.2)
      (some (((⟨none, 0, 0⟩ : Sl), (7 : Int)), q4.2))
      ((asB (ldc q4.2 (some ⟨q3.2.next, 2, none⟩))).bind fun b5 =>
    (cond b5 ((slices_ContainsFunc_api_Volume_api_Volume_tree_Delete_1.f k a0 ((some ⟨h.next, 0, none⟩)) q4.2).bind fun q6 =>
    some (q6.1, q6.2))
      (some (false, q4.2))).bind fun g7 =>
    cond g7.1
      (some (((⟨none, 0, 0⟩ : Sl), (12 : Int)), g7.2))
      ((tree_all.f k a0 g7.2).bind fun q8 =>
    (tree_Delete.l0 k k (some ⟨h.next, 0, none⟩) q8.1 (Int.ofNat q8.1.n) (⟨none, 0, 0⟩ : Sl) (0 : Int) q8.2).bind fun w27 =>
    some ((w27.1, (0 : Int)), w27.2))))
noncomputable def tree_Delete.T (k : Nat) : Tbl := tblOf [⟨56, anyArgs, wr [.sl] [.bool] (fun a h => tree_Right.f k a h)⟩,
  ⟨64, anyArgs, wr [.sl, .str] [(.st [.str, .str, .bool, (.int .i64), .sl]), .bool] (fun a h => tree_Find.f k (a.1) (a.2) h)⟩,
  ⟨89, chkF [(1, 90)], wr [.sl, (.fn 90 1)] [.bool] (fun a h => slices_ContainsFunc_api_Volume_api_Volume_tree_Delete_1.f k (a.1) (a.2) h)⟩,
  ⟨91, anyArgs, wr [.sl] [.sl] (fun a h => tree_all.f k a h)⟩]
noncomputable def tree_Delete.an (k : Nat) (p : Nat) : Option Ann := cond (Nat.beq p 506) (some (.pass [] (lrun [(3, .ptr), (32, .sl), (33, (.int .i64)), (8, .sl), (34, (.int .i64))] none [(8, .sl)] 1 (fun a h => tree_Delete.l0 k k (a.1) (a.2.1) (a.2.2.1) (a.2.2.2.1) (a.2.2.2.2) h))))
  (cond (Nat.beq p 129639) (some (.join [3, 32, 33, 34] none [(8, .sl)]))
  (cond (Nat.beq p 129637) (some (.join [3, 8, 10, 32, 33, 34] none []))
  (none)))
noncomputable def tree_Delete.body : Code := (Try.f54.body).getD .skip
noncomputable def tree_Delete.c506 : Code := cat tree_Delete.body [1, 1, 1, 1, 1, 0, 1, 0, 0]
set_option maxRecDepth 100000 in
theorem tree_Delete.TS {C : FuncId → Bool} {X : CallF} (hX : XOk C X) (hK114 : CmpOk X 114) (k : Nat) : TblS Try.prog C X (tree_Delete.T k) := by
  refine tblOf_sound ?_
  intro e he
  rcases List.mem_cons.1 he with rfl | he
  · exact wr_told (tree_Right.told hX hK114 k)
  rcases List.mem_cons.1 he with rfl | he
  · exact wr_told (tree_Find.told hX k)
  rcases List.mem_cons.1 he with rfl | he
  · exact wr_told (slices_ContainsFunc_api_Volume_api_Volume_tree_Delete_1.told hX k)
  rcases List.mem_cons.1 he with rfl | he
  · exact wr_told (tree_all.told hX k)
  exact absurd he List.not_mem_nil
set_option maxRecDepth 100000 in
theorem tree_Delete.l0_pass {C : FuncId → Bool} {X : CallF} (hX : XOk C X) (hK114 : CmpOk X 114) (k n : Nat) : PassS Try.prog C X 53 (.loop tree_Delete.c506) (lrun [(3, .ptr), (32, .sl), (33, (.int .i64)), (8, .sl), (34, (.int .i64))] none [(8, .sl)] 1 (fun a h => tree_Delete.l0 k n (a.1) (a.2.1) (a.2.2.1) (a.2.2.2.1) (a.2.2.2.2) h)) :=
  loop_pass (ins := [(3, .ptr), (32, .sl), (33, (.int .i64)), (8, .sl), (34, (.int .i64))]) (rets := none) (outs := [(8, .sl)]) (id := 1) (tbl := tree_Delete.T k) (an := tree_Delete.an k) (pb := 1012) (tree_Delete.TS hX hK114 k) (fun n => (fun a h => tree_Delete.l0 k n (a.1) (a.2.1) (a.2.2.1) (a.2.2.2.1) (a.2.2.2.2) h)) (fun a h => rfl) (fun n a h => by kernel_rfl)
    (by
      have e : need (tree_Delete.an k) tree_Delete.c506 1012 = [] := by kernel_rfl
      rw [e]; intro q hq; cases hq) n
set_option maxRecDepth 100000 in
theorem tree_Delete.eq (k : Nat) (a : RT [.sl, .str]) (h : H) : (fun a h => tree_Delete.f k (a.1) (a.2) h) a h = kfun Try.prog (tree_Delete.T k) (tree_Delete.an k) (RT [.sl, (.int .i64)] × H) Try.f54 (encL [.sl, .str] a) h (fun vs h' => (decL [.sl, (.int .i64)] vs).bind fun x => some (x, h')) := by kernel_rfl
set_option maxRecDepth 100000 in
theorem tree_Delete.told {C : FuncId → Bool} {X : CallF} (hX : XOk C X) (hK114 : CmpOk X 114) (k : Nat) : Den.Told Try.prog C X 54 [.sl, .str] [.sl, (.int .i64)] (fun a h => tree_Delete.f k (a.1) (a.2) h) :=
  told_of fun a h q e => fn_of (c := tree_Delete.body) (tree_Delete.TS hX hK114 k) Try.func54 (by kernel_rfl) (hX.no 54 _ h (by decide))
    (by
      have e : need (tree_Delete.an k) tree_Delete.body 1 = [(Code.loop tree_Delete.c506, lrun [(3, .ptr), (32, .sl), (33, (.int .i64)), (8, .sl), (34, (.int .i64))] none [(8, .sl)] 1 (fun a h => tree_Delete.l0 k k (a.1) (a.2.1) (a.2.2.1) (a.2.2.2.1) (a.2.2.2.2) h))] := by kernel_rfl
      rw [e]; intro q hq
      rcases List.mem_cons.1 hq with rfl | hq
      · exact tree_Delete.l0_pass hX hK114 k k
      cases hq)
    ((tree_Delete.eq k a h).symm.trans e)
/-! ### corbel/corbellaw18.known -/
noncomputable def corbellaw18_known.f (k : Nat) (h : H) : Option ((Bool) × H) :=
  (tree_Create.f k (⟨none, 0, 0⟩ : Sl) (⟨#[97]⟩ : ByteArray) (8 : Int) h).bind fun q1 =>
    (tree_Snapshot.f k q1.1.1 (⟨#[97]⟩ : ByteArray) (⟨#[98]⟩ : ByteArray) q1.2).bind fun q2 =>
    (tree_Clone.f k q2.1.1 (⟨#[98]⟩ : ByteArray) (⟨#[99]⟩ : ByteArray) q2.2).bind fun q3 =>
    (tree_Delete.f k q3.1.1 (⟨#[98]⟩ : ByteArray) q3.2).bind fun q4 =>
    (cond (q1.1.2 == (0 : Int)) (some (q2.1.2 == (0 : Int), q4.2))
      (some (false, q4.2))).bind fun g5 =>
    (cond g5.1 (some (q3.1.2 == (0 : Int), g5.2))
      (some (false, g5.2))).bind fun g6 =>
    (cond g6.1 (some (q4.1.2 == (12 : Int), g6.2))
      (some (false, g6.2))).bind fun g7 =>
    (cond g7.1 (some ((Int.ofNat q3.1.1.n) == (3 : Int), g7.2))
      (some (false, g7.2))).bind fun g8 =>
    (cond g8.1 ((asP (ixs 5 q3.1.1.a q3.1.1.n (2 : Int))).bind fun p9 =>
    (asP (fadd 1 p9)).bind fun p10 =>
    (asT (ldc g8.2 p10)).bind fun s11 =>
    some (s11.toList == (⟨#[98]⟩ : ByteArray).toList, g8.2))
      (some (false, g8.2))).bind fun g12 =>
    (cond g12.1 ((asP (ixs 5 q3.1.1.a q3.1.1.n (1 : Int))).bind fun p13 =>
    (asP (fadd 2 p13)).bind fun p14 =>
    (asB (ldc g12.2 p14)).bind fun b15 =>
    some (b15, g12.2))
      (some (false, g12.2))).bind fun g16 =>
    (cond g16.1 ((tree_Right.f k q3.1.1 g16.2).bind fun q17 =>
    some (q17.1, q17.2))
      (some (false, g16.2))).bind fun g18 =>
    some (g18.1, g18.2)
noncomputable def corbellaw18_known.T (k : Nat) : Tbl := tblOf [⟨51, anyArgs, wr [.sl, .str, (.int .i64)] [.sl, (.int .i64)] (fun a h => tree_Create.f k (a.1) (a.2.1) (a.2.2) h)⟩,
  ⟨52, anyArgs, wr [.sl, .str, .str] [.sl, (.int .i64)] (fun a h => tree_Snapshot.f k (a.1) (a.2.1) (a.2.2) h)⟩,
  ⟨53, anyArgs, wr [.sl, .str, .str] [.sl, (.int .i64)] (fun a h => tree_Clone.f k (a.1) (a.2.1) (a.2.2) h)⟩,
  ⟨54, anyArgs, wr [.sl, .str] [.sl, (.int .i64)] (fun a h => tree_Delete.f k (a.1) (a.2) h)⟩,
  ⟨56, anyArgs, wr [.sl] [.bool] (fun a h => tree_Right.f k a h)⟩]
noncomputable def corbellaw18_known.an (k : Nat) (p : Nat) : Option Ann := none
noncomputable def corbellaw18_known.body : Code := (Try.f49.body).getD .skip
set_option maxRecDepth 100000 in
theorem corbellaw18_known.TS {C : FuncId → Bool} {X : CallF} (hX : XOk C X) (hK110 : InsOk X 110) (hK114 : CmpOk X 114) (k : Nat) : TblS Try.prog C X (corbellaw18_known.T k) := by
  refine tblOf_sound ?_
  intro e he
  rcases List.mem_cons.1 he with rfl | he
  · exact wr_told (tree_Create.told hX hK110 hK114 k)
  rcases List.mem_cons.1 he with rfl | he
  · exact wr_told (tree_Snapshot.told hX hK110 hK114 k)
  rcases List.mem_cons.1 he with rfl | he
  · exact wr_told (tree_Clone.told hX hK110 hK114 k)
  rcases List.mem_cons.1 he with rfl | he
  · exact wr_told (tree_Delete.told hX hK114 k)
  rcases List.mem_cons.1 he with rfl | he
  · exact wr_told (tree_Right.told hX hK114 k)
  exact absurd he List.not_mem_nil
set_option maxRecDepth 100000 in
theorem corbellaw18_known.eq (k : Nat) (a : RT []) (h : H) : (fun a h => corbellaw18_known.f k h) a h = kfun Try.prog (corbellaw18_known.T k) (corbellaw18_known.an k) (RT [.bool] × H) Try.f49 (encL [] a) h (fun vs h' => (decL [.bool] vs).bind fun x => some (x, h')) := by kernel_rfl
set_option maxRecDepth 100000 in
theorem corbellaw18_known.told {C : FuncId → Bool} {X : CallF} (hX : XOk C X) (hK110 : InsOk X 110) (hK114 : CmpOk X 114) (h0 : ∀ args h, X 49 args h = none) (k : Nat) : Den.Told Try.prog C X 49 [] [.bool] (fun a h => corbellaw18_known.f k h) :=
  told_of fun a h q e => fn_of (c := corbellaw18_known.body) (corbellaw18_known.TS hX hK110 hK114 k) Try.func49 (by kernel_rfl) (h0 _ h)
    (by
      have e : need (corbellaw18_known.an k) corbellaw18_known.body 1 = [] := by kernel_rfl
      rw [e]; intro q hq; cases hq)
    ((corbellaw18_known.eq k a h).symm.trans e)
end Go.Proofs.Ytfenkpghcbohdaa.Fwd
