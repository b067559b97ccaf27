/- Forward runs of functions of the program, printed by a program of this session: each function on plain values and memory, and that the code comes to it. No condition. -/
import Derived.Test.YtfenkpghcbohdaaDenCmp
import Derived.KernelRfl
import Derived.Test.YtfenkpghcbohdaaPdFIns
import Derived.Test.YtfenkpghcbohdaaPdFKn38
import Derived.Test.YtfenkpghcbohdaaPdFKn49
import Derived.Test.YtfenkpghcbohdaaPdFMeta
import Derived.Test.YtfenkpghcbohdaaPdFRoot
namespace Go.Proofs.Ytfenkpghcbohdaa.Fwd
open Go Den
set_option linter.unusedVariables false
/-! ### corbel/corbelref16.Copied -/
/-! ### corbel/corbelhand.Size -/
noncomputable def corbelhand_Size.f (k : Nat) (a0 : Int) (h : H) : Option ((Int) × H) :=
  (corbelhand_Pick.f k a0 (17 : Int) h).bind fun q1 =>
    cond (q1.1 == (16 : Int))
      (some (wrapA .i64 (a0.tdiv (17 : Int)), q1.2))
      ((corbelhand_Pick.f k a0 (5 : Int) q1.2).bind fun q2 =>
    some (wrapA .i64 ((8 : Int) * q2.1), q2.2))
noncomputable def corbelhand_Size.T (k : Nat) : Tbl := tblOf [⟨19, anyArgs, wr [(.int .i64), (.int .i64)] [(.int .i64)] (fun a h => corbelhand_Pick.f k (a.1) (a.2) h)⟩]
noncomputable def corbelhand_Size.an (k : Nat) (p : Nat) : Option Ann := none
noncomputable def corbelhand_Size.body : Code := (Try.f28.body).getD .skip
set_option maxRecDepth 100000 in
theorem corbelhand_Size.TS {C : FuncId → Bool} {X : CallF} (hX : XOk C X) (k : Nat) : TblS Try.prog C X (corbelhand_Size.T k) := by
  refine tblOf_sound ?_
  intro e he
  rcases List.mem_cons.1 he with rfl | he
  · exact wr_told (corbelhand_Pick.told hX k)
  exact absurd he List.not_mem_nil
set_option maxRecDepth 100000 in
theorem corbelhand_Size.eq (k : Nat) (a : RT [(.int .i64)]) (h : H) : (fun a h => corbelhand_Size.f k a h) a h = kfun Try.prog (corbelhand_Size.T k) (corbelhand_Size.an k) (RT [(.int .i64)] × H) Try.f28 (encL [(.int .i64)] a) h (fun vs h' => (decL [(.int .i64)] vs).bind fun x => some (x, h')) := by kernel_rfl
set_option maxRecDepth 100000 in
theorem corbelhand_Size.told {C : FuncId → Bool} {X : CallF} (hX : XOk C X) (k : Nat) : Den.Told Try.prog C X 28 [(.int .i64)] [(.int .i64)] (fun a h => corbelhand_Size.f k a h) :=
  told_of fun a h q e => fn_of (c := corbelhand_Size.body) (corbelhand_Size.TS hX k) Try.func28 (by kernel_rfl) (hX.no 28 _ h (by decide))
    (by
      have e : need (corbelhand_Size.an k) corbelhand_Size.body 1 = [] := by kernel_rfl
      rw [e]; intro q hq; cases hq)
    ((corbelhand_Size.eq k a h).symm.trans e)
/-! ### corbel/tree.Resize -/
noncomputable def tree_Resize.f (k : Nat) (a0 : Sl) (a1 : ByteArray) (a2 : Int) (h : H) : Option ((Sl × Int) × H) :=
  (tree_Right.f k a0 h).bind fun q1 =>
    cond (!q1.1)
      (some (((⟨none, 0, 0⟩ : Sl), (1 : Int)), q1.2))
      ((tree_Find.f k a0 a1 q1.2).bind fun q2 =>
    (stv 5 (newR q2.2 58 5 [(Value.string (⟨#[]⟩ : ByteArray)), (Value.string (⟨#[]⟩ : ByteArray)), (Value.bool false), (Value.int .i64 (0 : Int)), (Value.slice none 0 0)]) (some ⟨q2.2.next, 0, none⟩) [(Value.string q2.1.1.1), (Value.string q2.1.1.2.1), (Value.bool q2.1.1.2.2.1), (Value.int .i64 q2.1.1.2.2.2.1), (Value.slice q2.1.1.2.2.2.2.a q2.1.1.2.2.2.2.n q2.1.1.2.2.2.2.c)]).bind fun q3 =>
    (asS (ldc q3.2 (some ⟨q2.2.next, 4, none⟩))).bind fun s4 =>
    (extent_Sized.f k s4 a2 q3.2).bind fun q5 =>
    cond (!q2.1.2)
      (some (((⟨none, 0, 0⟩ : Sl), (7 : Int)), q5.2))
      ((asB (ldc q5.2 (some ⟨q2.2.next, 2, none⟩))).bind fun b6 =>
    cond b6
      (some (((⟨none, 0, 0⟩ : Sl), (10 : Int)), q5.2))
      ((extent_Right.f k a2 q5.1.1 q5.2).bind fun q7 =>
    cond (!q7.1)
      (some (((⟨none, 0, 0⟩ : Sl), (1 : Int)), q7.2))
      ((tree_all.f k a0 q7.2).bind fun q8 =>
    (tree_at.f k a0 a1 q8.2).bind fun q9 =>
    (asP (ixs 5 q8.1.a q8.1.n q9.1.1)).bind fun p10 =>
    (asP (fadd 3 p10)).bind fun p11 =>
    (stv 1 q9.2 p11 [(Value.int .i64 a2)]).bind fun q12 =>
    (asP (ixs 5 q8.1.a q8.1.n q9.1.1)).bind fun p13 =>
    (asP (fadd 4 p13)).bind fun p14 =>
    (stv 1 q12.2 p14 [(Value.slice q5.1.1.a q5.1.1.n q5.1.1.c)]).bind fun q15 =>
    some ((q8.1, (0 : Int)), q15.2)))))
noncomputable def tree_Resize.T (k : Nat) : Tbl := tblOf [⟨56, anyArgs, wr [.sl] [.bool] (fun a h => tree_Right.f k a h)⟩,
  ⟨64, anyArgs, wr [.sl, .str] [(.st [.str, .str, .bool, (.int .i64), .sl]), .bool] (fun a h => tree_Find.f k (a.1) (a.2) h)⟩,
  ⟨26, anyArgs, wr [.sl, (.int .i64)] [.sl, .sl] (fun a h => extent_Sized.f k (a.1) (a.2) h)⟩,
  ⟨30, anyArgs, wr [(.int .i64), .sl] [.bool] (fun a h => extent_Right.f k (a.1) (a.2) h)⟩,
  ⟨91, anyArgs, wr [.sl] [.sl] (fun a h => tree_all.f k a h)⟩,
  ⟨92, anyArgs, wr [.sl, .str] [(.int .i64), .bool] (fun a h => tree_at.f k (a.1) (a.2) h)⟩]
noncomputable def tree_Resize.an (k : Nat) (p : Nat) : Option Ann := none
noncomputable def tree_Resize.body : Code := (Try.f55.body).getD .skip
set_option maxRecDepth 100000 in
theorem tree_Resize.TS {C : FuncId → Bool} {X : CallF} (hX : XOk C X) (hK114 : CmpOk X 114) (k : Nat) : TblS Try.prog C X (tree_Resize.T k) := by
  refine tblOf_sound ?_
  intro e he
  rcases List.mem_cons.1 he with rfl | he
  · exact wr_told (tree_Right.told hX hK114 k)
  rcases List.mem_cons.1 he with rfl | he
  · exact wr_told (tree_Find.told hX k)
  rcases List.mem_cons.1 he with rfl | he
  · exact wr_told (extent_Sized.told hX k)
  rcases List.mem_cons.1 he with rfl | he
  · exact wr_told (extent_Right.told hX k)
  rcases List.mem_cons.1 he with rfl | he
  · exact wr_told (tree_all.told hX k)
  rcases List.mem_cons.1 he with rfl | he
  · exact wr_told (tree_at.told hX hK114 k)
  exact absurd he List.not_mem_nil
set_option maxRecDepth 100000 in
theorem tree_Resize.eq (k : Nat) (a : RT [.sl, .str, (.int .i64)]) (h : H) : (fun a h => tree_Resize.f k (a.1) (a.2.1) (a.2.2) h) a h = kfun Try.prog (tree_Resize.T k) (tree_Resize.an k) (RT [.sl, (.int .i64)] × H) Try.f55 (encL [.sl, .str, (.int .i64)] a) h (fun vs h' => (decL [.sl, (.int .i64)] vs).bind fun x => some (x, h')) := by kernel_rfl
set_option maxRecDepth 100000 in
theorem tree_Resize.told {C : FuncId → Bool} {X : CallF} (hX : XOk C X) (hK114 : CmpOk X 114) (k : Nat) : Den.Told Try.prog C X 55 [.sl, .str, (.int .i64)] [.sl, (.int .i64)] (fun a h => tree_Resize.f k (a.1) (a.2.1) (a.2.2) h) :=
  told_of fun a h q e => fn_of (c := tree_Resize.body) (tree_Resize.TS hX hK114 k) Try.func55 (by kernel_rfl) (hX.no 55 _ h (by decide))
    (by
      have e : need (tree_Resize.an k) tree_Resize.body 1 = [] := by kernel_rfl
      rw [e]; intro q hq; cases hq)
    ((tree_Resize.eq k a h).symm.trans e)
/-! ### corbel/corbellaw18.TreeApart -/
/-! ### corbel/corbellaw18.TreeSizes -/
/-! ### slices.Equal[[]int,int] -/
/-! ### corbel/tree.Same$1 -/
/-! ### slices.EqualFunc[[]corbel/api.Volume,[]corbel/api.Volume,corbel/api.Volume,corbel/api.Volume] -/
/-! ### corbel/tree.Same -/
/-! ### corbel/corbellaw18.TreeOrders -/
/-! ### corbel/corbelref16.Delete -/
noncomputable def corbelref16_Delete.l0 (k : Nat) (n : Nat) : Sl → ByteArray → Int → Sl → Int → H → Option (((Sl × Int) ⊕ (Sl)) × H) :=
  Nat.rec (motive := fun _ => Sl → ByteArray → Int → Sl → Int → H → Option (((Sl × Int) ⊕ (Sl)) × H)) (fun _ _ _ _ _ _ => none) (fun _ ih x3 x4 x5 x6 x7 h8 => cond (decide (x7 < (Int.ofNat x3.n)))
      ((asP (ixs 5 x3.a x3.n x7)).bind fun p9 =>
    (asP (fadd 1 p9)).bind fun p10 =>
    (asT (ldc h8 p10)).bind fun s11 =>
    (cond (s11.toList == x4.toList) ((asP (ixs 5 x3.a x3.n x5)).bind fun p12 =>
    (asP (fadd 2 p12)).bind fun p13 =>
    (asB (ldc h8 p13)).bind fun b14 =>
    some (b14, h8))
      (some (false, h8))).bind fun g15 =>
    cond g15.1
      (some (Sum.inl ((⟨none, 0, 0⟩ : Sl), (12 : Int)), g15.2))
      (cond (x7 == x5)
      (ih x3 x4 x5 x6 (wrapA .i64 (x7 + (1 : Int))) g15.2)
      ((asP (ixs 5 x3.a x3.n x7)).bind fun p16 =>
    (asSt [.str, .str, .bool, (.int .i64), .sl] (lda 5 g15.2 p16)).bind fun s17 =>
    (stv 5 (newR g15.2 58 5 [(Value.string (⟨#[]⟩ : ByteArray)), (Value.string (⟨#[]⟩ : ByteArray)), (Value.bool false), (Value.int .i64 (0 : Int)), (Value.slice none 0 0)]) (some ⟨g15.2.next, 0, none⟩) [(Value.string s17.1), (Value.string s17.2.1), (Value.bool s17.2.2.1), (Value.int .i64 s17.2.2.2.1), (Value.slice s17.2.2.2.2.a s17.2.2.2.2.n s17.2.2.2.2.c)]).bind fun q18 =>
    (asT (ldc q18.2 (some ⟨g15.2.next, 1, none⟩))).bind fun s19 =>
    (cond (s19.toList == x4.toList)
      ((stv 1 q18.2 (some ⟨g15.2.next, 1, none⟩) [(Value.string (⟨#[]⟩ : ByteArray))]).bind fun q20 =>
    some ((), q20.2))
      (some ((), q18.2)) : Option ((Unit) × H)).bind fun j21 =>
    (asSt [.str, .str, .bool, (.int .i64), .sl] (lda 5 j21.2 (some ⟨g15.2.next, 0, none⟩))).bind fun s22 =>
    (asS2 (apv 58 5 72 (Value.slice x6.a x6.n x6.c) (Value.slice (some ⟨j21.2.next, 0, none⟩) 1 1) (newR j21.2 58 5 [(Value.string s22.1), (Value.string s22.2.1), (Value.bool s22.2.2.1), (Value.int .i64 s22.2.2.2.1), (Value.slice s22.2.2.2.2.a s22.2.2.2.2.n s22.2.2.2.2.c)]))).bind fun q23 =>
    ih x3 x4 x5 q23.1 (wrapA .i64 (x7 + (1 : Int))) q23.2)))
      (some (Sum.inr x6, h8))) n
theorem corbelref16_Delete.l0_zero (k : Nat) (x3 : Sl) (x4 : ByteArray) (x5 : Int) (x6 : Sl) (x7 : Int) (h8 : H) : corbelref16_Delete.l0 k 0 x3 x4 x5 x6 x7 h8 = none := rfl
theorem corbelref16_Delete.l0_succ (k n : Nat) (x3 : Sl) (x4 : ByteArray) (x5 : Int) (x6 : Sl) (x7 : Int) (h8 : H) : corbelref16_Delete.l0 k (n + 1) x3 x4 x5 x6 x7 h8 = (cond (decide (x7 < (Int.ofNat x3.n)))
      ((asP (ixs 5 x3.a x3.n x7)).bind fun p9 =>
    (asP (fadd 1 p9)).bind fun p10 =>
    (asT (ldc h8 p10)).bind fun s11 =>
    (cond (s11.toList == x4.toList) ((asP (ixs 5 x3.a x3.n x5)).bind fun p12 =>
    (asP (fadd 2 p12)).bind fun p13 =>
    (asB (ldc h8 p13)).bind fun b14 =>
    some (b14, h8))
      (some (false, h8))).bind fun g15 =>
    cond g15.1
      (some (Sum.inl ((⟨none, 0, 0⟩ : Sl), (12 : Int)), g15.2))
      (cond (x7 == x5)
      (corbelref16_Delete.l0 k n x3 x4 x5 x6 (wrapA .i64 (x7 + (1 : Int))) g15.2)
      ((asP (ixs 5 x3.a x3.n x7)).bind fun p16 =>
    (asSt [.str, .str, .bool, (.int .i64), .sl] (lda 5 g15.2 p16)).bind fun s17 =>
    (stv 5 (newR g15.2 58 5 [(Value.string (⟨#[]⟩ : ByteArray)), (Value.string (⟨#[]⟩ : ByteArray)), (Value.bool false), (Value.int .i64 (0 : Int)), (Value.slice none 0 0)]) (some ⟨g15.2.next, 0, none⟩) [(Value.string s17.1), (Value.string s17.2.1), (Value.bool s17.2.2.1), (Value.int .i64 s17.2.2.2.1), (Value.slice s17.2.2.2.2.a s17.2.2.2.2.n s17.2.2.2.2.c)]).bind fun q18 =>
    (asT (ldc q18.2 (some ⟨g15.2.next, 1, none⟩))).bind fun s19 =>
    (cond (s19.toList == x4.toList)
      ((stv 1 q18.2 (some ⟨g15.2.next, 1, none⟩) [(Value.string (⟨#[]⟩ : ByteArray))]).bind fun q20 =>
    some ((), q20.2))
      (some ((), q18.2)) : Option ((Unit) × H)).bind fun j21 =>
    (asSt [.str, .str, .bool, (.int .i64), .sl] (lda 5 j21.2 (some ⟨g15.2.next, 0, none⟩))).bind fun s22 =>
    (asS2 (apv 58 5 72 (Value.slice x6.a x6.n x6.c) (Value.slice (some ⟨j21.2.next, 0, none⟩) 1 1) (newR j21.2 58 5 [(Value.string s22.1), (Value.string s22.2.1), (Value.bool s22.2.2.1), (Value.int .i64 s22.2.2.2.1), (Value.slice s22.2.2.2.2.a s22.2.2.2.2.n s22.2.2.2.2.c)]))).bind fun q23 =>
    corbelref16_Delete.l0 k n x3 x4 x5 q23.1 (wrapA .i64 (x7 + (1 : Int))) q23.2)))
      (some (Sum.inr x6, h8))) := rfl
noncomputable def corbelref16_Delete.f (k : Nat) (a0 : Sl) (a1 : ByteArray) (h : H) : Option ((Sl × Int) × H) :=
  (corbelref16_At.f k a0 a1 h).bind fun q1 =>
    (corbelref16_RightTree.f k a0 q1.2).bind fun q2 =>
    cond (!q2.1)
      (some (((⟨none, 0, 0⟩ : Sl), (1 : Int)), q2.2))
      (cond (decide (q1.1 < (0 : Int)))
      (some (((⟨none, 0, 0⟩ : Sl), (7 : Int)), q2.2))
      ((corbelref16_Delete.l0 k k a0 a1 q1.1 (⟨none, 0, 0⟩ : Sl) (0 : Int) q2.2).bind fun w24 =>
    match w24.1 with
    | .inl r25 => some ((r25.1, r25.2), w24.2)
    | .inr o26 => (corbelref16_copied.f k o26 w24.2).bind fun q27 =>
    some ((q27.1, (0 : Int)), q27.2)))
noncomputable def corbelref16_Delete.T (k : Nat) : Tbl := tblOf [⟨57, anyArgs, wr [.sl, .str] [(.int .i64)] (fun a h => corbelref16_At.f k (a.1) (a.2) h)⟩,
  ⟨48, anyArgs, wr [.sl] [.bool] (fun a h => corbelref16_RightTree.f k a h)⟩,
  ⟨86, anyArgs, wr [.sl] [.sl] (fun a h => corbelref16_copied.f k a h)⟩]
noncomputable def corbelref16_Delete.an (k : Nat) (p : Nat) : Option Ann := cond (Nat.beq p 506) (some (.pass [] (lrun [(0, .sl), (1, .str), (6, (.int .i64)), (7, .sl), (8, (.int .i64))] (some [(4, .sl), (5, (.int .i64))]) [(7, .sl)] 0 (fun a h => corbelref16_Delete.l0 k k (a.1) (a.2.1) (a.2.2.1) (a.2.2.2.1) (a.2.2.2.2) h))))
  (cond (Nat.beq p 259229) (some (.join [0, 1, 6, 7, 8, 9] none []))
  (none))
noncomputable def corbelref16_Delete.body : Code := (Try.f98.body).getD .skip
noncomputable def corbelref16_Delete.c506 : Code := cat corbelref16_Delete.body [1, 1, 1, 1, 1, 0, 1, 0, 0]
set_option maxRecDepth 100000 in
theorem corbelref16_Delete.TS {C : FuncId → Bool} {X : CallF} (hX : XOk C X) (k : Nat) : TblS Try.prog C X (corbelref16_Delete.T k) := by
  refine tblOf_sound ?_
  intro e he
  rcases List.mem_cons.1 he with rfl | he
  · exact wr_told (corbelref16_At.told hX k)
  rcases List.mem_cons.1 he with rfl | he
  · exact wr_told (corbelref16_RightTree.told hX k)
  rcases List.mem_cons.1 he with rfl | he
  · exact wr_told (corbelref16_copied.told hX k)
  exact absurd he List.not_mem_nil
set_option maxRecDepth 100000 in
theorem corbelref16_Delete.l0_pass {C : FuncId → Bool} {X : CallF} (hX : XOk C X) (k n : Nat) : PassS Try.prog C X 56 (.loop corbelref16_Delete.c506) (lrun [(0, .sl), (1, .str), (6, (.int .i64)), (7, .sl), (8, (.int .i64))] (some [(4, .sl), (5, (.int .i64))]) [(7, .sl)] 0 (fun a h => corbelref16_Delete.l0 k n (a.1) (a.2.1) (a.2.2.1) (a.2.2.2.1) (a.2.2.2.2) h)) :=
  loop_pass (ins := [(0, .sl), (1, .str), (6, (.int .i64)), (7, .sl), (8, (.int .i64))]) (rets := (some [(4, .sl), (5, (.int .i64))])) (outs := [(7, .sl)]) (id := 0) (tbl := corbelref16_Delete.T k) (an := corbelref16_Delete.an k) (pb := 1012) (corbelref16_Delete.TS hX k) (fun n => (fun a h => corbelref16_Delete.l0 k n (a.1) (a.2.1) (a.2.2.1) (a.2.2.2.1) (a.2.2.2.2) h)) (fun a h => rfl) (fun n a h => by kernel_rfl)
    (by
      have e : need (corbelref16_Delete.an k) corbelref16_Delete.c506 1012 = [] := by kernel_rfl
      rw [e]; intro q hq; cases hq) n
set_option maxRecDepth 100000 in
theorem corbelref16_Delete.eq (k : Nat) (a : RT [.sl, .str]) (h : H) : (fun a h => corbelref16_Delete.f k (a.1) (a.2) h) a h = kfun Try.prog (corbelref16_Delete.T k) (corbelref16_Delete.an k) (RT [.sl, (.int .i64)] × H) Try.f98 (encL [.sl, .str] a) h (fun vs h' => (decL [.sl, (.int .i64)] vs).bind fun x => some (x, h')) := by kernel_rfl
set_option maxRecDepth 100000 in
theorem corbelref16_Delete.told {C : FuncId → Bool} {X : CallF} (hX : XOk C X) (k : Nat) : Den.Told Try.prog C X 98 [.sl, .str] [.sl, (.int .i64)] (fun a h => corbelref16_Delete.f k (a.1) (a.2) h) :=
  told_of fun a h q e => fn_of (c := corbelref16_Delete.body) (corbelref16_Delete.TS hX k) Try.func98 (by kernel_rfl) (hX.no 98 _ h (by decide))
    (by
      have e : need (corbelref16_Delete.an k) corbelref16_Delete.body 1 = [(Code.loop corbelref16_Delete.c506, lrun [(0, .sl), (1, .str), (6, (.int .i64)), (7, .sl), (8, (.int .i64))] (some [(4, .sl), (5, (.int .i64))]) [(7, .sl)] 0 (fun a h => corbelref16_Delete.l0 k k (a.1) (a.2.1) (a.2.2.1) (a.2.2.2.1) (a.2.2.2.2) h))] := by kernel_rfl
      rw [e]; intro q hq
      rcases List.mem_cons.1 hq with rfl | hq
      · exact corbelref16_Delete.l0_pass hX k k
      cases hq)
    ((corbelref16_Delete.eq k a h).symm.trans e)
/-! ### corbel/corbelref16.Resize -/
noncomputable def corbelref16_Resize.f (k : Nat) (a0 : Sl) (a1 : ByteArray) (a2 : Int) (h : H) : Option ((Sl × Int) × H) :=
  (corbelref16_At.f k a0 a1 h).bind fun q1 =>
    (corbelref16_RightTree.f k a0 q1.2).bind fun q2 =>
    cond (!q2.1)
      (some (((⟨none, 0, 0⟩ : Sl), (1 : Int)), q2.2))
      (cond (decide (q1.1 < (0 : Int)))
      (some (((⟨none, 0, 0⟩ : Sl), (7 : Int)), q2.2))
      ((asP (ixs 5 a0.a a0.n q1.1)).bind fun p3 =>
    (asP (fadd 2 p3)).bind fun p4 =>
    (asB (ldc q2.2 p4)).bind fun b5 =>
    cond b5
      (some (((⟨none, 0, 0⟩ : Sl), (10 : Int)), q2.2))
      ((corbelref16_RightSize.f k a2 q2.2).bind fun q6 =>
    cond (!q6.1)
      (some (((⟨none, 0, 0⟩ : Sl), (1 : Int)), q6.2))
      ((corbelref16_copied.f k a0 q6.2).bind fun q7 =>
    (asP (ixs 5 q7.1.a q7.1.n q1.1)).bind fun p8 =>
    (asP (fadd 3 p8)).bind fun p9 =>
    (stv 1 q7.2 p9 [(Value.int .i64 a2)]).bind fun q10 =>
    (asP (ixs 5 a0.a a0.n q1.1)).bind fun p11 =>
    (asP (fadd 4 p11)).bind fun p12 =>
    (asS (ldc q10.2 p12)).bind fun s13 =>
    (corbelref16_Sized.f k s13 a2 q10.2).bind fun q14 =>
    (asP (ixs 5 q7.1.a q7.1.n q1.1)).bind fun p15 =>
    (asP (fadd 4 p15)).bind fun p16 =>
    (stv 1 q14.2 p16 [(Value.slice q14.1.1.a q14.1.1.n q14.1.1.c)]).bind fun q17 =>
    some ((q7.1, (0 : Int)), q17.2)))))
noncomputable def corbelref16_Resize.T (k : Nat) : Tbl := tblOf [⟨57, anyArgs, wr [.sl, .str] [(.int .i64)] (fun a h => corbelref16_At.f k (a.1) (a.2) h)⟩,
  ⟨48, anyArgs, wr [.sl] [.bool] (fun a h => corbelref16_RightTree.f k a h)⟩,
  ⟨70, anyArgs, wr [(.int .i64)] [.bool] (fun a h => corbelref16_RightSize.f k a h)⟩,
  ⟨86, anyArgs, wr [.sl] [.sl] (fun a h => corbelref16_copied.f k a h)⟩,
  ⟨29, anyArgs, wr [.sl, (.int .i64)] [.sl, .sl] (fun a h => corbelref16_Sized.f k (a.1) (a.2) h)⟩]
noncomputable def corbelref16_Resize.an (k : Nat) (p : Nat) : Option Ann := none
noncomputable def corbelref16_Resize.body : Code := (Try.f99.body).getD .skip
set_option maxRecDepth 100000 in
theorem corbelref16_Resize.TS {C : FuncId → Bool} {X : CallF} (hX : XOk C X) (k : Nat) : TblS Try.prog C X (corbelref16_Resize.T k) := by
  refine tblOf_sound ?_
  intro e he
  rcases List.mem_cons.1 he with rfl | he
  · exact wr_told (corbelref16_At.told hX k)
  rcases List.mem_cons.1 he with rfl | he
  · exact wr_told (corbelref16_RightTree.told hX k)
  rcases List.mem_cons.1 he with rfl | he
  · exact wr_told (corbelref16_RightSize.told hX k)
  rcases List.mem_cons.1 he with rfl | he
  · exact wr_told (corbelref16_copied.told hX k)
  rcases List.mem_cons.1 he with rfl | he
  · exact wr_told (corbelref16_Sized.told hX k)
  exact absurd he List.not_mem_nil
set_option maxRecDepth 100000 in
theorem corbelref16_Resize.eq (k : Nat) (a : RT [.sl, .str, (.int .i64)]) (h : H) : (fun a h => corbelref16_Resize.f k (a.1) (a.2.1) (a.2.2) h) a h = kfun Try.prog (corbelref16_Resize.T k) (corbelref16_Resize.an k) (RT [.sl, (.int .i64)] × H) Try.f99 (encL [.sl, .str, (.int .i64)] a) h (fun vs h' => (decL [.sl, (.int .i64)] vs).bind fun x => some (x, h')) := by kernel_rfl
set_option maxRecDepth 100000 in
theorem corbelref16_Resize.told {C : FuncId → Bool} {X : CallF} (hX : XOk C X) (k : Nat) : Den.Told Try.prog C X 99 [.sl, .str, (.int .i64)] [.sl, (.int .i64)] (fun a h => corbelref16_Resize.f k (a.1) (a.2.1) (a.2.2) h) :=
  told_of fun a h q e => fn_of (c := corbelref16_Resize.body) (corbelref16_Resize.TS hX k) Try.func99 (by kernel_rfl) (hX.no 99 _ h (by decide))
    (by
      have e : need (corbelref16_Resize.an k) corbelref16_Resize.body 1 = [] := by kernel_rfl
      rw [e]; intro q hq; cases hq)
    ((corbelref16_Resize.eq k a h).symm.trans e)
/-! ### corbel/corbellaw18.do -/
noncomputable def corbellaw18_do.f (k : Nat) (a0 : Sl) (a1 : (Int × Int × Int × Int × Int × ByteArray)) (h : H) : Option ((Sl × Int × Sl × Int) × H) :=
  (asI .i64 (ldc (newR h 79 6 [(Value.int .i64 a1.1), (Value.int .i64 a1.2.1), (Value.int .i64 a1.2.2.1), (Value.int .i64 a1.2.2.2.1), (Value.int .i64 a1.2.2.2.2.1), (Value.string a1.2.2.2.2.2)]) (some ⟨h.next, 2, none⟩))).bind fun n1 =>
    (asT (ldc (newR h 79 6 [(Value.int .i64 a1.1), (Value.int .i64 a1.2.1), (Value.int .i64 a1.2.2.1), (Value.int .i64 a1.2.2.2.1), (Value.int .i64 a1.2.2.2.2.1), (Value.string a1.2.2.2.2.2)]) (some ⟨h.next, 5, none⟩))).bind fun s2 =>
    (corbelhand_Odd.f k n1 s2 (newR h 79 6 [(Value.int .i64 a1.1), (Value.int .i64 a1.2.1), (Value.int .i64 a1.2.2.1), (Value.int .i64 a1.2.2.2.1), (Value.int .i64 a1.2.2.2.2.1), (Value.string a1.2.2.2.2.2)])).bind fun q3 =>
    (asI .i64 (ldc q3.2 (some ⟨h.next, 1, none⟩))).bind fun n4 =>
    (asT (ldc q3.2 (some ⟨h.next, 5, none⟩))).bind fun s5 =>
    (corbelhand_Odd.f k n4 s5 q3.2).bind fun q6 =>
    (asI .i64 (ldc q6.2 (some ⟨h.next, 3, none⟩))).bind fun n7 =>
    (corbelhand_Size.f k n7 q6.2).bind fun q8 =>
    (asI .i64 (ldc q8.2 (some ⟨h.next, 0, none⟩))).bind fun n9 =>
    (corbelhand_Pick.f k n9 (10 : Int) q8.2).bind fun q10 =>
    (cond (q10.1 == (0 : Int))
      (some (q10.1 == (0 : Int), q10.2))
      ((cond (q10.1 == (1 : Int))
      (some (q10.1 == (1 : Int), q10.2))
      (some (q10.1 == (2 : Int), q10.2)) : Option ((Bool) × H)).bind fun j11 =>
    some (j11.1, j11.2)) : Option ((Bool) × H)).bind fun j12 =>
    cond j12.1
      ((tree_Create.f k a0 q3.1 q8.1 j12.2).bind fun q13 =>
    (corbelref16_Create.f k a0 q3.1 q8.1 q13.2).bind fun q14 =>
    some ((q13.1.1, q13.1.2, q14.1.1, q14.1.2), q14.2))
      ((cond (q10.1 == (3 : Int))
      (some (q10.1 == (3 : Int), j12.2))
      (some (q10.1 == (4 : Int), j12.2)) : Option ((Bool) × H)).bind fun j15 =>
    cond j15.1
      ((tree_Snapshot.f k a0 q6.1 q3.1 j15.2).bind fun q16 =>
    (corbelref16_Snapshot.f k a0 q6.1 q3.1 q16.2).bind fun q17 =>
    some ((q16.1.1, q16.1.2, q17.1.1, q17.1.2), q17.2))
      ((cond (q10.1 == (5 : Int))
      (some (q10.1 == (5 : Int), j15.2))
      (some (q10.1 == (6 : Int), j15.2)) : Option ((Bool) × H)).bind fun j18 =>
    cond j18.1
      ((tree_Clone.f k a0 q6.1 q3.1 j18.2).bind fun q19 =>
    (corbelref16_Clone.f k a0 q6.1 q3.1 q19.2).bind fun q20 =>
    some ((q19.1.1, q19.1.2, q20.1.1, q20.1.2), q20.2))
      (cond (q10.1 == (7 : Int))
      ((tree_Delete.f k a0 q3.1 j18.2).bind fun q21 =>
    (corbelref16_Delete.f k a0 q3.1 q21.2).bind fun q22 =>
    some ((q21.1.1, q21.1.2, q22.1.1, q22.1.2), q22.2))
      ((tree_Resize.f k a0 q3.1 q8.1 j18.2).bind fun q23 =>
    (corbelref16_Resize.f k a0 q3.1 q8.1 q23.2).bind fun q24 =>
    some ((q23.1.1, q23.1.2, q24.1.1, q24.1.2), q24.2)))))
noncomputable def corbellaw18_do.T (k : Nat) : Tbl := tblOf [⟨44, anyArgs, wr [(.int .i64), .str] [.str] (fun a h => corbelhand_Odd.f k (a.1) (a.2) h)⟩,
  ⟨28, anyArgs, wr [(.int .i64)] [(.int .i64)] (fun a h => corbelhand_Size.f k a h)⟩,
  ⟨19, anyArgs, wr [(.int .i64), (.int .i64)] [(.int .i64)] (fun a h => corbelhand_Pick.f k (a.1) (a.2) h)⟩,
  ⟨51, anyArgs, wr [.sl, .str, (.int .i64)] [.sl, (.int .i64)] (fun a h => tree_Create.f k (a.1) (a.2.1) (a.2.2) h)⟩,
  ⟨82, anyArgs, wr [.sl, .str, (.int .i64)] [.sl, (.int .i64)] (fun a h => corbelref16_Create.f k (a.1) (a.2.1) (a.2.2) h)⟩,
  ⟨52, anyArgs, wr [.sl, .str, .str] [.sl, (.int .i64)] (fun a h => tree_Snapshot.f k (a.1) (a.2.1) (a.2.2) h)⟩,
  ⟨83, anyArgs, wr [.sl, .str, .str] [.sl, (.int .i64)] (fun a h => corbelref16_Snapshot.f k (a.1) (a.2.1) (a.2.2) h)⟩,
  ⟨53, anyArgs, wr [.sl, .str, .str] [.sl, (.int .i64)] (fun a h => tree_Clone.f k (a.1) (a.2.1) (a.2.2) h)⟩,
  ⟨84, anyArgs, wr [.sl, .str, .str] [.sl, (.int .i64)] (fun a h => corbelref16_Clone.f k (a.1) (a.2.1) (a.2.2) h)⟩,
  ⟨54, anyArgs, wr [.sl, .str] [.sl, (.int .i64)] (fun a h => tree_Delete.f k (a.1) (a.2) h)⟩,
  ⟨98, anyArgs, wr [.sl, .str] [.sl, (.int .i64)] (fun a h => corbelref16_Delete.f k (a.1) (a.2) h)⟩,
  ⟨55, anyArgs, wr [.sl, .str, (.int .i64)] [.sl, (.int .i64)] (fun a h => tree_Resize.f k (a.1) (a.2.1) (a.2.2) h)⟩,
  ⟨99, anyArgs, wr [.sl, .str, (.int .i64)] [.sl, (.int .i64)] (fun a h => corbelref16_Resize.f k (a.1) (a.2.1) (a.2.2) h)⟩]
noncomputable def corbellaw18_do.an (k : Nat) (p : Nat) : Option Ann := cond (Nat.beq p 16061) (some (.join [0, 8, 9, 10, 46] none [(90, .bool)]))
  (cond (Nat.beq p 4013) (some (.join [0, 8, 9, 10, 46] none [(69, .bool)]))
  (cond (Nat.beq p 1001) (some (.join [0, 8, 9, 10, 46] none [(47, .bool)]))
  (cond (Nat.beq p 4007) (some (.join [0, 8, 9, 10, 46] none [(47, .bool)]))
  (none))))
noncomputable def corbellaw18_do.body : Code := (Try.f61.body).getD .skip
set_option maxRecDepth 100000 in
theorem corbellaw18_do.TS {C : FuncId → Bool} {X : CallF} (hX : XOk C X) (hK110 : InsOk X 110) (hK114 : CmpOk X 114) (k : Nat) : TblS Try.prog C X (corbellaw18_do.T k) := by
  refine tblOf_sound ?_
  intro e he
  rcases List.mem_cons.1 he with rfl | he
  · exact wr_told (corbelhand_Odd.told hX k)
  rcases List.mem_cons.1 he with rfl | he
  · exact wr_told (corbelhand_Size.told hX k)
  rcases List.mem_cons.1 he with rfl | he
  · exact wr_told (corbelhand_Pick.told hX k)
  rcases List.mem_cons.1 he with rfl | he
  · exact wr_told (tree_Create.told hX hK110 hK114 k)
  rcases List.mem_cons.1 he with rfl | he
  · exact wr_told (corbelref16_Create.told hX k)
  rcases List.mem_cons.1 he with rfl | he
  · exact wr_told (tree_Snapshot.told hX hK110 hK114 k)
  rcases List.mem_cons.1 he with rfl | he
  · exact wr_told (corbelref16_Snapshot.told hX k)
  rcases List.mem_cons.1 he with rfl | he
  · exact wr_told (tree_Clone.told hX hK110 hK114 k)
  rcases List.mem_cons.1 he with rfl | he
  · exact wr_told (corbelref16_Clone.told hX k)
  rcases List.mem_cons.1 he with rfl | he
  · exact wr_told (tree_Delete.told hX hK114 k)
  rcases List.mem_cons.1 he with rfl | he
  · exact wr_told (corbelref16_Delete.told hX k)
  rcases List.mem_cons.1 he with rfl | he
  · exact wr_told (tree_Resize.told hX hK114 k)
  rcases List.mem_cons.1 he with rfl | he
  · exact wr_told (corbelref16_Resize.told hX k)
  exact absurd he List.not_mem_nil
set_option maxRecDepth 100000 in
theorem corbellaw18_do.eq (k : Nat) (a : RT [.sl, (.st [(.int .i64), (.int .i64), (.int .i64), (.int .i64), (.int .i64), .str])]) (h : H) : (fun a h => corbellaw18_do.f k (a.1) (a.2) h) a h = kfun Try.prog (corbellaw18_do.T k) (corbellaw18_do.an k) (RT [.sl, (.int .i64), .sl, (.int .i64)] × H) Try.f61 (encL [.sl, (.st [(.int .i64), (.int .i64), (.int .i64), (.int .i64), (.int .i64), .str])] a) h (fun vs h' => (decL [.sl, (.int .i64), .sl, (.int .i64)] vs).bind fun x => some (x, h')) := by kernel_rfl
set_option maxRecDepth 100000 in
theorem corbellaw18_do.told {C : FuncId → Bool} {X : CallF} (hX : XOk C X) (hK110 : InsOk X 110) (hK114 : CmpOk X 114) (k : Nat) : Den.Told Try.prog C X 61 [.sl, (.st [(.int .i64), (.int .i64), (.int .i64), (.int .i64), (.int .i64), .str])] [.sl, (.int .i64), .sl, (.int .i64)] (fun a h => corbellaw18_do.f k (a.1) (a.2) h) :=
  told_of fun a h q e => fn_of (c := corbellaw18_do.body) (corbellaw18_do.TS hX hK110 hK114 k) Try.func61 (by kernel_rfl) (hX.no 61 _ h (by decide))
    (by
      have e : need (corbellaw18_do.an k) corbellaw18_do.body 1 = [] := by kernel_rfl
      rw [e]; intro q hq; cases hq)
    ((corbellaw18_do.eq k a h).symm.trans e)
/-! ### corbel/tree.Counts -/
noncomputable def tree_Counts.l1 (k : Nat) (n : Nat) : (Option Nat) → Sl → Int → Int → Sl → Int → Int → H → Option ((Unit) × H) :=
  Nat.rec (motive := fun _ => (Option Nat) → Sl → Int → Int → Sl → Int → Int → H → Option ((Unit) × H)) (fun _ _ _ _ _ _ _ _ => none) (fun _ ih x10 x11 x12 x13 x14 x15 x16 h17 => cond (decide (x16 < x15))
      ((asP (ixs 1 x14.a x14.n x16)).bind fun p18 =>
    (asI .i64 (ldc h17 p18)).bind fun n19 =>
    (cond (n19 != (0 : Int))
      ((asI .i64 (mlook (Value.int .i64 (0 : Int)) h17 x10 (Value.int .i64 n19))).bind fun n20 =>
    (mput x10 (Value.int .i64 n19) (Value.int .i64 (wrapA .i64 (n20 + (1 : Int)))) h17).bind fun q21 =>
    some ((), q21.2))
      (some ((), h17)) : Option ((Unit) × H)).bind fun j22 =>
    ih x10 x11 x12 x13 x14 x15 (wrapA .i64 (x16 + (1 : Int))) j22.2)
      (some ((), h17))) n
theorem tree_Counts.l1_zero (k : Nat) (x10 : Option Nat) (x11 : Sl) (x12 : Int) (x13 : Int) (x14 : Sl) (x15 : Int) (x16 : Int) (h17 : H) : tree_Counts.l1 k 0 x10 x11 x12 x13 x14 x15 x16 h17 = none := rfl
theorem tree_Counts.l1_succ (k n : Nat) (x10 : Option Nat) (x11 : Sl) (x12 : Int) (x13 : Int) (x14 : Sl) (x15 : Int) (x16 : Int) (h17 : H) : tree_Counts.l1 k (n + 1) x10 x11 x12 x13 x14 x15 x16 h17 = (cond (decide (x16 < x15))
      ((asP (ixs 1 x14.a x14.n x16)).bind fun p18 =>
    (asI .i64 (ldc h17 p18)).bind fun n19 =>
    (cond (n19 != (0 : Int))
      ((asI .i64 (mlook (Value.int .i64 (0 : Int)) h17 x10 (Value.int .i64 n19))).bind fun n20 =>
    (mput x10 (Value.int .i64 n19) (Value.int .i64 (wrapA .i64 (n20 + (1 : Int)))) h17).bind fun q21 =>
    some ((), q21.2))
      (some ((), h17)) : Option ((Unit) × H)).bind fun j22 =>
    tree_Counts.l1 k n x10 x11 x12 x13 x14 x15 (wrapA .i64 (x16 + (1 : Int))) j22.2)
      (some ((), h17))) := rfl
noncomputable def tree_Counts.l0 (k : Nat) (n : Nat) : (Option Nat) → Sl → Int → Int → H → Option ((Unit) × H) :=
  Nat.rec (motive := fun _ => (Option Nat) → Sl → Int → Int → H → Option ((Unit) × H)) (fun _ _ _ _ _ => none) (fun _ ih x1 x2 x3 x4 h5 => cond (decide (x4 < x3))
      ((asP (ixs 5 x2.a x2.n x4)).bind fun p6 =>
    (asSt [.str, .str, .bool, (.int .i64), .sl] (lda 5 h5 p6)).bind fun s7 =>
    (stv 5 (newR h5 58 5 [(Value.string (⟨#[]⟩ : ByteArray)), (Value.string (⟨#[]⟩ : ByteArray)), (Value.bool false), (Value.int .i64 (0 : Int)), (Value.slice none 0 0)]) (some ⟨h5.next, 0, none⟩) [(Value.string s7.1), (Value.string s7.2.1), (Value.bool s7.2.2.1), (Value.int .i64 s7.2.2.2.1), (Value.slice s7.2.2.2.2.a s7.2.2.2.2.n s7.2.2.2.2.c)]).bind fun q8 =>
    (asS (ldc q8.2 (some ⟨h5.next, 4, none⟩))).bind fun s9 =>
    (tree_Counts.l1 k k x1 x2 x3 x4 s9 (Int.ofNat s9.n) (0 : Int) q8.2).bind fun w23 =>
    ih x1 x2 x3 (wrapA .i64 (x4 + (1 : Int))) w23.2)
      (some ((), h5))) n
theorem tree_Counts.l0_zero (k : Nat) (x1 : Option Nat) (x2 : Sl) (x3 : Int) (x4 : Int) (h5 : H) : tree_Counts.l0 k 0 x1 x2 x3 x4 h5 = none := rfl
theorem tree_Counts.l0_succ (k n : Nat) (x1 : Option Nat) (x2 : Sl) (x3 : Int) (x4 : Int) (h5 : H) : tree_Counts.l0 k (n + 1) x1 x2 x3 x4 h5 = (cond (decide (x4 < x3))
      ((asP (ixs 5 x2.a x2.n x4)).bind fun p6 =>
    (asSt [.str, .str, .bool, (.int .i64), .sl] (lda 5 h5 p6)).bind fun s7 =>
    (stv 5 (newR h5 58 5 [(Value.string (⟨#[]⟩ : ByteArray)), (Value.string (⟨#[]⟩ : ByteArray)), (Value.bool false), (Value.int .i64 (0 : Int)), (Value.slice none 0 0)]) (some ⟨h5.next, 0, none⟩) [(Value.string s7.1), (Value.string s7.2.1), (Value.bool s7.2.2.1), (Value.int .i64 s7.2.2.2.1), (Value.slice s7.2.2.2.2.a s7.2.2.2.2.n s7.2.2.2.2.c)]).bind fun q8 =>
    (asS (ldc q8.2 (some ⟨h5.next, 4, none⟩))).bind fun s9 =>
    (tree_Counts.l1 k k x1 x2 x3 x4 s9 (Int.ofNat s9.n) (0 : Int) q8.2).bind fun w23 =>
    tree_Counts.l0 k n x1 x2 x3 (wrapA .i64 (x4 + (1 : Int))) w23.2)
      (some ((), h5))) := rfl
noncomputable def tree_Counts.f (k : Nat) (a0 : Sl) (h : H) : Option ((Option Nat) × H) :=
  (tree_Counts.l0 k k (some h.next) a0 (Int.ofNat a0.n) (0 : Int) (h.new (.map [] 0 h.clock))).bind fun w24 =>
    some ((some h.next), w24.2)
noncomputable def tree_Counts.T (k : Nat) : Tbl := tblOf []
noncomputable def tree_Counts.an (k : Nat) (p : Nat) : Option Ann := cond (Nat.beq p 58) (some (.pass [3] (lrun [(3, .map), (9, .sl), (10, (.int .i64)), (11, (.int .i64))] none [] 0 (fun a h => tree_Counts.l0 k k (a.1) (a.2.1) (a.2.2.1) (a.2.2.2) h))))
  (cond (Nat.beq p 14950) (some (.pass [3, 9, 10, 11] (lrun [(3, .map), (9, .sl), (10, (.int .i64)), (11, (.int .i64)), (16, .sl), (17, (.int .i64)), (18, (.int .i64))] none [] 2 (fun a h => tree_Counts.l1 k k (a.1) (a.2.1) (a.2.2.1) (a.2.2.2.1) (a.2.2.2.2.1) (a.2.2.2.2.2.1) (a.2.2.2.2.2.2) h))))
  (cond (Nat.beq p 1913651) (some (.join [3, 9, 10, 11, 16, 17, 18] none []))
  (none)))
noncomputable def tree_Counts.body : Code := (Try.f62.body).getD .skip
noncomputable def tree_Counts.c58 : Code := cat tree_Counts.body [1, 1, 0, 1, 0, 0]
noncomputable def tree_Counts.c14950 : Code := cat tree_Counts.body [1, 1, 0, 1, 0, 0, 1, 1, 0, 0, 1, 1, 0, 0]
set_option maxRecDepth 100000 in
theorem tree_Counts.TS {C : FuncId → Bool} {X : CallF} (hX : XOk C X) (k : Nat) : TblS Try.prog C X (tree_Counts.T k) := by
  refine tblOf_sound ?_
  intro e he
  exact absurd he List.not_mem_nil
set_option maxRecDepth 100000 in
theorem tree_Counts.l1_pass {C : FuncId → Bool} {X : CallF} (hX : XOk C X) (k n : Nat) : PassS Try.prog C X 31 (.loop tree_Counts.c14950) (lrun [(3, .map), (9, .sl), (10, (.int .i64)), (11, (.int .i64)), (16, .sl), (17, (.int .i64)), (18, (.int .i64))] none [] 2 (fun a h => tree_Counts.l1 k n (a.1) (a.2.1) (a.2.2.1) (a.2.2.2.1) (a.2.2.2.2.1) (a.2.2.2.2.2.1) (a.2.2.2.2.2.2) h)) :=
  loop_pass (ins := [(3, .map), (9, .sl), (10, (.int .i64)), (11, (.int .i64)), (16, .sl), (17, (.int .i64)), (18, (.int .i64))]) (rets := none) (outs := []) (id := 2) (tbl := tree_Counts.T k) (an := tree_Counts.an k) (pb := 29900) (tree_Counts.TS hX k) (fun n => (fun a h => tree_Counts.l1 k n (a.1) (a.2.1) (a.2.2.1) (a.2.2.2.1) (a.2.2.2.2.1) (a.2.2.2.2.2.1) (a.2.2.2.2.2.2) h)) (fun a h => rfl) (fun n a h => by kernel_rfl)
    (by
      have e : need (tree_Counts.an k) tree_Counts.c14950 29900 = [] := by kernel_rfl
      rw [e]; intro q hq; cases hq) n
set_option maxRecDepth 100000 in
theorem tree_Counts.l0_pass {C : FuncId → Bool} {X : CallF} (hX : XOk C X) (k n : Nat) : PassS Try.prog C X 31 (.loop tree_Counts.c58) (lrun [(3, .map), (9, .sl), (10, (.int .i64)), (11, (.int .i64))] none [] 0 (fun a h => tree_Counts.l0 k n (a.1) (a.2.1) (a.2.2.1) (a.2.2.2) h)) :=
  loop_pass (ins := [(3, .map), (9, .sl), (10, (.int .i64)), (11, (.int .i64))]) (rets := none) (outs := []) (id := 0) (tbl := tree_Counts.T k) (an := tree_Counts.an k) (pb := 116) (tree_Counts.TS hX k) (fun n => (fun a h => tree_Counts.l0 k n (a.1) (a.2.1) (a.2.2.1) (a.2.2.2) h)) (fun a h => rfl) (fun n a h => by kernel_rfl)
    (by
      have e : need (tree_Counts.an k) tree_Counts.c58 116 = [(Code.loop tree_Counts.c14950, lrun [(3, .map), (9, .sl), (10, (.int .i64)), (11, (.int .i64)), (16, .sl), (17, (.int .i64)), (18, (.int .i64))] none [] 2 (fun a h => tree_Counts.l1 k k (a.1) (a.2.1) (a.2.2.1) (a.2.2.2.1) (a.2.2.2.2.1) (a.2.2.2.2.2.1) (a.2.2.2.2.2.2) h))] := by kernel_rfl
      rw [e]; intro q hq
      rcases List.mem_cons.1 hq with rfl | hq
      · exact tree_Counts.l1_pass hX k k
      cases hq) n
set_option maxRecDepth 100000 in
theorem tree_Counts.eq (k : Nat) (a : RT [.sl]) (h : H) : (fun a h => tree_Counts.f k a h) a h = kfun Try.prog (tree_Counts.T k) (tree_Counts.an k) (RT [.map] × H) Try.f62 (encL [.sl] a) h (fun vs h' => (decL [.map] vs).bind fun x => some (x, h')) := by kernel_rfl
set_option maxRecDepth 100000 in
theorem tree_Counts.told {C : FuncId → Bool} {X : CallF} (hX : XOk C X) (k : Nat) : Den.Told Try.prog C X 62 [.sl] [.map] (fun a h => tree_Counts.f k a h) :=
  told_of fun a h q e => fn_of (c := tree_Counts.body) (tree_Counts.TS hX k) Try.func62 (by kernel_rfl) (hX.no 62 _ h (by decide))
    (by
      have e : need (tree_Counts.an k) tree_Counts.body 1 = [(Code.loop tree_Counts.c58, lrun [(3, .map), (9, .sl), (10, (.int .i64)), (11, (.int .i64))] none [] 0 (fun a h => tree_Counts.l0 k k (a.1) (a.2.1) (a.2.2.1) (a.2.2.2) h))] := by kernel_rfl
      rw [e]; intro q hq
      rcases List.mem_cons.1 hq with rfl | hq
      · exact tree_Counts.l0_pass hX k k
      cases hq)
    ((tree_Counts.eq k a h).symm.trans e)
/-! ### corbel/corbelref16.Counts -/
noncomputable def corbelref16_Counts.l1 (k : Nat) (n : Nat) : Sl → (Option Nat) → Int → Int → H → Option ((Unit) × H) :=
  Nat.rec (motive := fun _ => Sl → (Option Nat) → Int → Int → H → Option ((Unit) × H)) (fun _ _ _ _ _ => none) (fun _ ih x5 x6 x7 x8 h9 => (asP (ixs 5 x5.a x5.n x7)).bind fun p10 =>
    (asP (fadd 4 p10)).bind fun p11 =>
    (asS (ldc h9 p11)).bind fun s12 =>
    cond (decide (x8 < (Int.ofNat s12.n)))
      ((asP (ixs 5 x5.a x5.n x7)).bind fun p13 =>
    (asP (fadd 4 p13)).bind fun p14 =>
    (asS (ldc h9 p14)).bind fun s15 =>
    (asP (ixs 1 s15.a s15.n x8)).bind fun p16 =>
    (asI .i64 (ldc h9 p16)).bind fun n17 =>
    (cond (n17 != (0 : Int))
      ((asP (ixs 5 x5.a x5.n x7)).bind fun p18 =>
    (asP (fadd 4 p18)).bind fun p19 =>
    (asS (ldc h9 p19)).bind fun s20 =>
    (asP (ixs 1 s20.a s20.n x8)).bind fun p21 =>
    (asI .i64 (ldc h9 p21)).bind fun n22 =>
    (asI .i64 (mlook (Value.int .i64 (0 : Int)) h9 x6 (Value.int .i64 n22))).bind fun n23 =>
    (mput x6 (Value.int .i64 n22) (Value.int .i64 (wrapA .i64 (n23 + (1 : Int)))) h9).bind fun q24 =>
    some ((), q24.2))
      (some ((), h9)) : Option ((Unit) × H)).bind fun j25 =>
    ih x5 x6 x7 (wrapA .i64 (x8 + (1 : Int))) j25.2)
      (some ((), h9))) n
theorem corbelref16_Counts.l1_zero (k : Nat) (x5 : Sl) (x6 : Option Nat) (x7 : Int) (x8 : Int) (h9 : H) : corbelref16_Counts.l1 k 0 x5 x6 x7 x8 h9 = none := rfl
theorem corbelref16_Counts.l1_succ (k n : Nat) (x5 : Sl) (x6 : Option Nat) (x7 : Int) (x8 : Int) (h9 : H) : corbelref16_Counts.l1 k (n + 1) x5 x6 x7 x8 h9 = ((asP (ixs 5 x5.a x5.n x7)).bind fun p10 =>
    (asP (fadd 4 p10)).bind fun p11 =>
    (asS (ldc h9 p11)).bind fun s12 =>
    cond (decide (x8 < (Int.ofNat s12.n)))
      ((asP (ixs 5 x5.a x5.n x7)).bind fun p13 =>
    (asP (fadd 4 p13)).bind fun p14 =>
    (asS (ldc h9 p14)).bind fun s15 =>
    (asP (ixs 1 s15.a s15.n x8)).bind fun p16 =>
    (asI .i64 (ldc h9 p16)).bind fun n17 =>
    (cond (n17 != (0 : Int))
      ((asP (ixs 5 x5.a x5.n x7)).bind fun p18 =>
    (asP (fadd 4 p18)).bind fun p19 =>
    (asS (ldc h9 p19)).bind fun s20 =>
    (asP (ixs 1 s20.a s20.n x8)).bind fun p21 =>
    (asI .i64 (ldc h9 p21)).bind fun n22 =>
    (asI .i64 (mlook (Value.int .i64 (0 : Int)) h9 x6 (Value.int .i64 n22))).bind fun n23 =>
    (mput x6 (Value.int .i64 n22) (Value.int .i64 (wrapA .i64 (n23 + (1 : Int)))) h9).bind fun q24 =>
    some ((), q24.2))
      (some ((), h9)) : Option ((Unit) × H)).bind fun j25 =>
    corbelref16_Counts.l1 k n x5 x6 x7 (wrapA .i64 (x8 + (1 : Int))) j25.2)
      (some ((), h9))) := rfl
noncomputable def corbelref16_Counts.l0 (k : Nat) (n : Nat) : Sl → (Option Nat) → Int → H → Option ((Unit) × H) :=
  Nat.rec (motive := fun _ => Sl → (Option Nat) → Int → H → Option ((Unit) × H)) (fun _ _ _ _ => none) (fun _ ih x1 x2 x3 h4 => cond (decide (x3 < (Int.ofNat x1.n)))
      ((corbelref16_Counts.l1 k k x1 x2 x3 (0 : Int) h4).bind fun w26 =>
    ih x1 x2 (wrapA .i64 (x3 + (1 : Int))) w26.2)
      (some ((), h4))) n
theorem corbelref16_Counts.l0_zero (k : Nat) (x1 : Sl) (x2 : Option Nat) (x3 : Int) (h4 : H) : corbelref16_Counts.l0 k 0 x1 x2 x3 h4 = none := rfl
theorem corbelref16_Counts.l0_succ (k n : Nat) (x1 : Sl) (x2 : Option Nat) (x3 : Int) (h4 : H) : corbelref16_Counts.l0 k (n + 1) x1 x2 x3 h4 = (cond (decide (x3 < (Int.ofNat x1.n)))
      ((corbelref16_Counts.l1 k k x1 x2 x3 (0 : Int) h4).bind fun w26 =>
    corbelref16_Counts.l0 k n x1 x2 (wrapA .i64 (x3 + (1 : Int))) w26.2)
      (some ((), h4))) := rfl
noncomputable def corbelref16_Counts.f (k : Nat) (a0 : Sl) (h : H) : Option ((Option Nat) × H) :=
  (corbelref16_Counts.l0 k k a0 (some h.next) (0 : Int) (h.new (.map [] 0 h.clock))).bind fun w27 =>
    some ((some h.next), w27.2)
noncomputable def corbelref16_Counts.T (k : Nat) : Tbl := tblOf []
noncomputable def corbelref16_Counts.an (k : Nat) (p : Nat) : Option Ann := cond (Nat.beq p 58) (some (.pass [3] (lrun [(0, .sl), (3, .map), (4, (.int .i64))] none [] 0 (fun a h => corbelref16_Counts.l0 k k (a.1) (a.2.1) (a.2.2) h))))
  (cond (Nat.beq p 3730) (some (.pass [0, 3, 4] (lrun [(0, .sl), (3, .map), (4, (.int .i64)), (5, (.int .i64))] none [] 2 (fun a h => corbelref16_Counts.l1 k k (a.1) (a.2.1) (a.2.2.1) (a.2.2.2) h))))
  (cond (Nat.beq p 119369) (some (.join [0, 3, 4, 5] none []))
  (none)))
noncomputable def corbelref16_Counts.body : Code := (Try.f63.body).getD .skip
noncomputable def corbelref16_Counts.c58 : Code := cat corbelref16_Counts.body [1, 1, 0, 1, 0, 0]
noncomputable def corbelref16_Counts.c3730 : Code := cat corbelref16_Counts.body [1, 1, 0, 1, 0, 0, 1, 0, 0, 1, 0, 0]
set_option maxRecDepth 100000 in
theorem corbelref16_Counts.TS {C : FuncId → Bool} {X : CallF} (hX : XOk C X) (k : Nat) : TblS Try.prog C X (corbelref16_Counts.T k) := by
  refine tblOf_sound ?_
  intro e he
  exact absurd he List.not_mem_nil
set_option maxRecDepth 100000 in
theorem corbelref16_Counts.l1_pass {C : FuncId → Bool} {X : CallF} (hX : XOk C X) (k n : Nat) : PassS Try.prog C X 44 (.loop corbelref16_Counts.c3730) (lrun [(0, .sl), (3, .map), (4, (.int .i64)), (5, (.int .i64))] none [] 2 (fun a h => corbelref16_Counts.l1 k n (a.1) (a.2.1) (a.2.2.1) (a.2.2.2) h)) :=
  loop_pass (ins := [(0, .sl), (3, .map), (4, (.int .i64)), (5, (.int .i64))]) (rets := none) (outs := []) (id := 2) (tbl := corbelref16_Counts.T k) (an := corbelref16_Counts.an k) (pb := 7460) (corbelref16_Counts.TS hX k) (fun n => (fun a h => corbelref16_Counts.l1 k n (a.1) (a.2.1) (a.2.2.1) (a.2.2.2) h)) (fun a h => rfl) (fun n a h => by kernel_rfl)
    (by
      have e : need (corbelref16_Counts.an k) corbelref16_Counts.c3730 7460 = [] := by kernel_rfl
      rw [e]; intro q hq; cases hq) n
set_option maxRecDepth 100000 in
theorem corbelref16_Counts.l0_pass {C : FuncId → Bool} {X : CallF} (hX : XOk C X) (k n : Nat) : PassS Try.prog C X 44 (.loop corbelref16_Counts.c58) (lrun [(0, .sl), (3, .map), (4, (.int .i64))] none [] 0 (fun a h => corbelref16_Counts.l0 k n (a.1) (a.2.1) (a.2.2) h)) :=
  loop_pass (ins := [(0, .sl), (3, .map), (4, (.int .i64))]) (rets := none) (outs := []) (id := 0) (tbl := corbelref16_Counts.T k) (an := corbelref16_Counts.an k) (pb := 116) (corbelref16_Counts.TS hX k) (fun n => (fun a h => corbelref16_Counts.l0 k n (a.1) (a.2.1) (a.2.2) h)) (fun a h => rfl) (fun n a h => by kernel_rfl)
    (by
      have e : need (corbelref16_Counts.an k) corbelref16_Counts.c58 116 = [(Code.loop corbelref16_Counts.c3730, lrun [(0, .sl), (3, .map), (4, (.int .i64)), (5, (.int .i64))] none [] 2 (fun a h => corbelref16_Counts.l1 k k (a.1) (a.2.1) (a.2.2.1) (a.2.2.2) h))] := by kernel_rfl
      rw [e]; intro q hq
      rcases List.mem_cons.1 hq with rfl | hq
      · exact corbelref16_Counts.l1_pass hX k k
      cases hq) n
set_option maxRecDepth 100000 in
theorem corbelref16_Counts.eq (k : Nat) (a : RT [.sl]) (h : H) : (fun a h => corbelref16_Counts.f k a h) a h = kfun Try.prog (corbelref16_Counts.T k) (corbelref16_Counts.an k) (RT [.map] × H) Try.f63 (encL [.sl] a) h (fun vs h' => (decL [.map] vs).bind fun x => some (x, h')) := by kernel_rfl
set_option maxRecDepth 100000 in
theorem corbelref16_Counts.told {C : FuncId → Bool} {X : CallF} (hX : XOk C X) (k : Nat) : Den.Told Try.prog C X 63 [.sl] [.map] (fun a h => corbelref16_Counts.f k a h) :=
  told_of fun a h q e => fn_of (c := corbelref16_Counts.body) (corbelref16_Counts.TS hX k) Try.func63 (by kernel_rfl) (hX.no 63 _ h (by decide))
    (by
      have e : need (corbelref16_Counts.an k) corbelref16_Counts.body 1 = [(Code.loop corbelref16_Counts.c58, lrun [(0, .sl), (3, .map), (4, (.int .i64))] none [] 0 (fun a h => corbelref16_Counts.l0 k k (a.1) (a.2.1) (a.2.2) h))] := by kernel_rfl
      rw [e]; intro q hq
      rcases List.mem_cons.1 hq with rfl | hq
      · exact corbelref16_Counts.l0_pass hX k k
      cases hq)
    ((corbelref16_Counts.eq k a h).symm.trans e)
/-! ### corbel/corbellaw18.TreeActs -/
noncomputable def corbellaw18_TreeActs.l1 (k : Nat) (n : Nat) : Sl → Int → Sl → Int → (Option Nat) → (Option Nat) → Int → H → Option (((Bool) ⊕ (Unit)) × H) :=
  Nat.rec (motive := fun _ => Sl → Int → Sl → Int → (Option Nat) → (Option Nat) → Int → H → Option (((Bool) ⊕ (Unit)) × H)) (fun _ _ _ _ _ _ _ _ => none) (fun _ ih x47 x48 x49 x50 x51 x52 x53 h54 => cond (decide (x53 < (40 : Int)))
      ((asI .i64 (mlook (Value.int .i64 (0 : Int)) h54 x51 (Value.int .i64 x53))).bind fun n55 =>
    (asI .i64 (mlook (Value.int .i64 (0 : Int)) h54 x52 (Value.int .i64 x53))).bind fun n56 =>
    cond (n55 != n56)
      (some (Sum.inl false, h54))
      (ih x47 x48 x49 x50 x51 x52 (wrapA .i64 (x53 + (1 : Int))) h54))
      (some (Sum.inr (), h54))) n
theorem corbellaw18_TreeActs.l1_zero (k : Nat) (x47 : Sl) (x48 : Int) (x49 : Sl) (x50 : Int) (x51 : Option Nat) (x52 : Option Nat) (x53 : Int) (h54 : H) : corbellaw18_TreeActs.l1 k 0 x47 x48 x49 x50 x51 x52 x53 h54 = none := rfl
theorem corbellaw18_TreeActs.l1_succ (k n : Nat) (x47 : Sl) (x48 : Int) (x49 : Sl) (x50 : Int) (x51 : Option Nat) (x52 : Option Nat) (x53 : Int) (h54 : H) : corbellaw18_TreeActs.l1 k (n + 1) x47 x48 x49 x50 x51 x52 x53 h54 = (cond (decide (x53 < (40 : Int)))
      ((asI .i64 (mlook (Value.int .i64 (0 : Int)) h54 x51 (Value.int .i64 x53))).bind fun n55 =>
    (asI .i64 (mlook (Value.int .i64 (0 : Int)) h54 x52 (Value.int .i64 x53))).bind fun n56 =>
    cond (n55 != n56)
      (some (Sum.inl false, h54))
      (corbellaw18_TreeActs.l1 k n x47 x48 x49 x50 x51 x52 (wrapA .i64 (x53 + (1 : Int))) h54))
      (some (Sum.inr (), h54))) := rfl
noncomputable def corbellaw18_TreeActs.l0 (k : Nat) (n : Nat) : Sl → Int → Sl → Int → H → Option (((Bool) ⊕ (Sl)) × H) :=
  Nat.rec (motive := fun _ => Sl → Int → Sl → Int → H → Option (((Bool) ⊕ (Sl)) × H)) (fun _ _ _ _ _ => none) (fun _ ih x1 x2 x3 x4 h5 => (cond (decide (x4 < (Int.ofNat x1.n))) (some (decide (x4 < (40 : Int)), h5))
      (some (false, h5))).bind fun g6 =>
    cond g6.1
      ((asP (ixs 6 x1.a x1.n x4)).bind fun p7 =>
    (asSt [(.int .i64), (.int .i64), (.int .i64), (.int .i64), (.int .i64), .str] (lda 6 g6.2 p7)).bind fun s8 =>
    (corbellaw18_do.f k x3 (s8.1, s8.2.1, s8.2.2.1, s8.2.2.2.1, s8.2.2.2.2.1, s8.2.2.2.2.2) g6.2).bind fun q9 =>
    (cond (q9.1.2.1 != q9.1.2.2.2) (some (true, q9.2))
      ((corbelref16_SameTree.f k q9.1.1 q9.1.2.2.1 q9.2).bind fun q10 =>
    some (!q10.1, q10.2))).bind fun g11 =>
    cond g11.1
      (some (Sum.inl false, g11.2))
      (cond (q9.1.2.2.2 != (0 : Int))
      (ih x1 x2 x3 (wrapA .i64 (x4 + (1 : Int))) g11.2)
      ((asP (ixs 6 x1.a x1.n x4)).bind fun p12 =>
    (asP (fadd 4 p12)).bind fun p13 =>
    (asI .i64 (ldc g11.2 p13)).bind fun n14 =>
    (corbelhand_Pick.f k n14 (wrapA .i64 ((Int.ofNat q9.1.2.2.1.n) + (1 : Int))) g11.2).bind fun q15 =>
    (cond (decide (q15.1 < (Int.ofNat q9.1.2.2.1.n))) ((asP (ixs 5 q9.1.2.2.1.a q9.1.2.2.1.n q15.1)).bind fun p16 =>
    (asP (fadd 2 p16)).bind fun p17 =>
    (asB (ldc q15.2 p17)).bind fun b18 =>
    some (!b18, q15.2))
      (some (false, q15.2))).bind fun g19 =>
    (cond g19.1 ((asP (ixs 5 q9.1.2.2.1.a q9.1.2.2.1.n q15.1)).bind fun p20 =>
    (asP (fadd 4 p20)).bind fun p21 =>
    (asS (ldc g19.2 p21)).bind fun s22 =>
    some (decide ((Int.ofNat s22.n) > (0 : Int)), g19.2))
      (some (false, g19.2))).bind fun g23 =>
    (cond g23.1
      ((asP (ixs 5 q9.1.2.2.1.a q9.1.2.2.1.n q15.1)).bind fun p24 =>
    (asP (fadd 4 p24)).bind fun p25 =>
    (asS (ldc g23.2 p25)).bind fun s26 =>
    (asP (ixs 6 x1.a x1.n x4)).bind fun p27 =>
    (asP (fadd 4 p27)).bind fun p28 =>
    (asI .i64 (ldc g23.2 p28)).bind fun n29 =>
    (asP (ixs 5 q9.1.2.2.1.a q9.1.2.2.1.n q15.1)).bind fun p30 =>
    (asP (fadd 4 p30)).bind fun p31 =>
    (asS (ldc g23.2 p31)).bind fun s32 =>
    (corbelhand_Pick.f k n29 (Int.ofNat s32.n) g23.2).bind fun q33 =>
    (asP (ixs 6 x1.a x1.n x4)).bind fun p34 =>
    (asP (fadd 4 p34)).bind fun p35 =>
    (asI .i64 (ldc q33.2 p35)).bind fun n36 =>
    (corbelhand_Pick.f k n36 (20 : Int) q33.2).bind fun q37 =>
    (asP (ixs 1 s26.a s26.n q33.1)).bind fun p38 =>
    (stv 1 q37.2 p38 [(Value.int .i64 (wrapA .i64 ((17 : Int) + q37.1)))]).bind fun q39 =>
    cond (same1 g23.2 q33.2 (some (Value.pointer p25)) && (same1 q33.2 q37.2 (some (Value.pointer p25)) && (same1 g23.2 q33.2 (some (Value.pointer p35)) && (true)))) (some ((), q39.2)) none)
      (some ((), g23.2)) : Option ((Unit) × H)).bind fun j40 =>
    (tree_Counts.f k q9.1.2.2.1 j40.2).bind fun q41 =>
    (corbelref16_Counts.f k q9.1.2.2.1 q41.2).bind fun q42 =>
    (asI2 .i64 (mlenP q42.2 q41.1)).bind fun q43 =>
    (asI2 .i64 (mlenP q43.2 q42.1)).bind fun q44 =>
    (cond (q43.1 != q44.1) (some (true, q44.2))
      ((tree_Right.f k q9.1.2.2.1 q44.2).bind fun q45 =>
    some (!q45.1, q45.2))).bind fun g46 =>
    cond g46.1
      (some (Sum.inl false, g46.2))
      ((corbellaw18_TreeActs.l1 k k x1 x2 q9.1.2.2.1 x4 q41.1 q42.1 (0 : Int) g46.2).bind fun w57 =>
    match w57.1 with
    | .inl r58 => some (Sum.inl r58, w57.2)
    | .inr o59 => (asP (ixs 6 x1.a x1.n x4)).bind fun p60 =>
    (asP (fadd 3 p60)).bind fun p61 =>
    (asI .i64 (ldc w57.2 p61)).bind fun n62 =>
    (corbelhand_Name.f k n62 w57.2).bind fun q63 =>
    (tree_Find.f k q9.1.2.2.1 q63.1 q63.2).bind fun q64 =>
    (stv 5 (newR q64.2 58 5 [(Value.string (⟨#[]⟩ : ByteArray)), (Value.string (⟨#[]⟩ : ByteArray)), (Value.bool false), (Value.int .i64 (0 : Int)), (Value.slice none 0 0)]) (some ⟨q64.2.next, 0, none⟩) [(Value.string q64.1.1.1), (Value.string q64.1.1.2.1), (Value.bool q64.1.1.2.2.1), (Value.int .i64 q64.1.1.2.2.2.1), (Value.slice q64.1.1.2.2.2.2.a q64.1.1.2.2.2.2.n q64.1.1.2.2.2.2.c)]).bind fun q65 =>
    (asP (ixs 6 x1.a x1.n x4)).bind fun p66 =>
    (asP (fadd 3 p66)).bind fun p67 =>
    (asI .i64 (ldc q65.2 p67)).bind fun n68 =>
    (corbelhand_Name.f k n68 q65.2).bind fun q69 =>
    (corbelref16_At.f k q9.1.2.2.1 q69.1 q69.2).bind fun q70 =>
    (cond (!(q64.1.2 == (decide (q70.1 ≥ (0 : Int))))) (some (true, q70.2, [], []))
      ((cond q64.1.2 ((asSt [.str, .str, .bool, (.int .i64), .sl] (lda 5 q70.2 (some ⟨q64.2.next, 0, none⟩))).bind fun s71 =>
    (asP (ixs 5 q9.1.2.2.1.a q9.1.2.2.1.n q70.1)).bind fun p72 =>
    (asSt [.str, .str, .bool, (.int .i64), .sl] (lda 5 q70.2 p72)).bind fun s73 =>
    (corbelref16_SameVolume.f k (s71.1, s71.2.1, s71.2.2.1, s71.2.2.2.1, s71.2.2.2.2) (s73.1, s73.2.1, s73.2.2.1, s73.2.2.2.1, s73.2.2.2.2) q70.2).bind fun q74 =>
    some (!q74.1, q74.2, [], []))
      (some (false, q70.2, [], [])) : Option (Bool × H × LEs × EFs)).bind fun g75 =>
    some (g75.1, g75.2.1, g75.2.2.1, g75.2.2.2)) : Option (Bool × H × LEs × EFs)).bind fun g76 =>
    cond g76.1
      (some (Sum.inl false, g76.2.1))
      (ih x1 x2 q9.1.2.2.1 (wrapA .i64 (x4 + (1 : Int))) g76.2.1)))))
      (some (Sum.inr x3, g6.2))) n
theorem corbellaw18_TreeActs.l0_zero (k : Nat) (x1 : Sl) (x2 : Int) (x3 : Sl) (x4 : Int) (h5 : H) : corbellaw18_TreeActs.l0 k 0 x1 x2 x3 x4 h5 = none := rfl
theorem corbellaw18_TreeActs.l0_succ (k n : Nat) (x1 : Sl) (x2 : Int) (x3 : Sl) (x4 : Int) (h5 : H) : corbellaw18_TreeActs.l0 k (n + 1) x1 x2 x3 x4 h5 = ((cond (decide (x4 < (Int.ofNat x1.n))) (some (decide (x4 < (40 : Int)), h5))
      (some (false, h5))).bind fun g6 =>
    cond g6.1
      ((asP (ixs 6 x1.a x1.n x4)).bind fun p7 =>
    (asSt [(.int .i64), (.int .i64), (.int .i64), (.int .i64), (.int .i64), .str] (lda 6 g6.2 p7)).bind fun s8 =>
    (corbellaw18_do.f k x3 (s8.1, s8.2.1, s8.2.2.1, s8.2.2.2.1, s8.2.2.2.2.1, s8.2.2.2.2.2) g6.2).bind fun q9 =>
    (cond (q9.1.2.1 != q9.1.2.2.2) (some (true, q9.2))
      ((corbelref16_SameTree.f k q9.1.1 q9.1.2.2.1 q9.2).bind fun q10 =>
    some (!q10.1, q10.2))).bind fun g11 =>
    cond g11.1
      (some (Sum.inl false, g11.2))
      (cond (q9.1.2.2.2 != (0 : Int))
      (corbellaw18_TreeActs.l0 k n x1 x2 x3 (wrapA .i64 (x4 + (1 : Int))) g11.2)
      ((asP (ixs 6 x1.a x1.n x4)).bind fun p12 =>
    (asP (fadd 4 p12)).bind fun p13 =>
    (asI .i64 (ldc g11.2 p13)).bind fun n14 =>
    (corbelhand_Pick.f k n14 (wrapA .i64 ((Int.ofNat q9.1.2.2.1.n) + (1 : Int))) g11.2).bind fun q15 =>
    (cond (decide (q15.1 < (Int.ofNat q9.1.2.2.1.n))) ((asP (ixs 5 q9.1.2.2.1.a q9.1.2.2.1.n q15.1)).bind fun p16 =>
    (asP (fadd 2 p16)).bind fun p17 =>
    (asB (ldc q15.2 p17)).bind fun b18 =>
    some (!b18, q15.2))
      (some (false, q15.2))).bind fun g19 =>
    (cond g19.1 ((asP (ixs 5 q9.1.2.2.1.a q9.1.2.2.1.n q15.1)).bind fun p20 =>
    (asP (fadd 4 p20)).bind fun p21 =>
    (asS (ldc g19.2 p21)).bind fun s22 =>
    some (decide ((Int.ofNat s22.n) > (0 : Int)), g19.2))
      (some (false, g19.2))).bind fun g23 =>
    (cond g23.1
      ((asP (ixs 5 q9.1.2.2.1.a q9.1.2.2.1.n q15.1)).bind fun p24 =>
    (asP (fadd 4 p24)).bind fun p25 =>
    (asS (ldc g23.2 p25)).bind fun s26 =>
    (asP (ixs 6 x1.a x1.n x4)).bind fun p27 =>
    (asP (fadd 4 p27)).bind fun p28 =>
    (asI .i64 (ldc g23.2 p28)).bind fun n29 =>
    (asP (ixs 5 q9.1.2.2.1.a q9.1.2.2.1.n q15.1)).bind fun p30 =>
    (asP (fadd 4 p30)).bind fun p31 =>
    (asS (ldc g23.2 p31)).bind fun s32 =>
    (corbelhand_Pick.f k n29 (Int.ofNat s32.n) g23.2).bind fun q33 =>
    (asP (ixs 6 x1.a x1.n x4)).bind fun p34 =>
    (asP (fadd 4 p34)).bind fun p35 =>
    (asI .i64 (ldc q33.2 p35)).bind fun n36 =>
    (corbelhand_Pick.f k n36 (20 : Int) q33.2).bind fun q37 =>
    (asP (ixs 1 s26.a s26.n q33.1)).bind fun p38 =>
    (stv 1 q37.2 p38 [(Value.int .i64 (wrapA .i64 ((17 : Int) + q37.1)))]).bind fun q39 =>
    cond (same1 g23.2 q33.2 (some (Value.pointer p25)) && (same1 q33.2 q37.2 (some (Value.pointer p25)) && (same1 g23.2 q33.2 (some (Value.pointer p35)) && (true)))) (some ((), q39.2)) none)
      (some ((), g23.2)) : Option ((Unit) × H)).bind fun j40 =>
    (tree_Counts.f k q9.1.2.2.1 j40.2).bind fun q41 =>
    (corbelref16_Counts.f k q9.1.2.2.1 q41.2).bind fun q42 =>
    (asI2 .i64 (mlenP q42.2 q41.1)).bind fun q43 =>
    (asI2 .i64 (mlenP q43.2 q42.1)).bind fun q44 =>
    (cond (q43.1 != q44.1) (some (true, q44.2))
      ((tree_Right.f k q9.1.2.2.1 q44.2).bind fun q45 =>
    some (!q45.1, q45.2))).bind fun g46 =>
    cond g46.1
      (some (Sum.inl false, g46.2))
      ((corbellaw18_TreeActs.l1 k k x1 x2 q9.1.2.2.1 x4 q41.1 q42.1 (0 : Int) g46.2).bind fun w57 =>
    match w57.1 with
    | .inl r58 => some (Sum.inl r58, w57.2)
    | .inr o59 => (asP (ixs 6 x1.a x1.n x4)).bind fun p60 =>
    (asP (fadd 3 p60)).bind fun p61 =>
    (asI .i64 (ldc w57.2 p61)).bind fun n62 =>
    (corbelhand_Name.f k n62 w57.2).bind fun q63 =>
    (tree_Find.f k q9.1.2.2.1 q63.1 q63.2).bind fun q64 =>
    (stv 5 (newR q64.2 58 5 [(Value.string (⟨#[]⟩ : ByteArray)), (Value.string (⟨#[]⟩ : ByteArray)), (Value.bool false), (Value.int .i64 (0 : Int)), (Value.slice none 0 0)]) (some ⟨q64.2.next, 0, none⟩) [(Value.string q64.1.1.1), (Value.string q64.1.1.2.1), (Value.bool q64.1.1.2.2.1), (Value.int .i64 q64.1.1.2.2.2.1), (Value.slice q64.1.1.2.2.2.2.a q64.1.1.2.2.2.2.n q64.1.1.2.2.2.2.c)]).bind fun q65 =>
    (asP (ixs 6 x1.a x1.n x4)).bind fun p66 =>
    (asP (fadd 3 p66)).bind fun p67 =>
    (asI .i64 (ldc q65.2 p67)).bind fun n68 =>
    (corbelhand_Name.f k n68 q65.2).bind fun q69 =>
    (corbelref16_At.f k q9.1.2.2.1 q69.1 q69.2).bind fun q70 =>
    (cond (!(q64.1.2 == (decide (q70.1 ≥ (0 : Int))))) (some (true, q70.2, [], []))
      ((cond q64.1.2 ((asSt [.str, .str, .bool, (.int .i64), .sl] (lda 5 q70.2 (some ⟨q64.2.next, 0, none⟩))).bind fun s71 =>
    (asP (ixs 5 q9.1.2.2.1.a q9.1.2.2.1.n q70.1)).bind fun p72 =>
    (asSt [.str, .str, .bool, (.int .i64), .sl] (lda 5 q70.2 p72)).bind fun s73 =>
    (corbelref16_SameVolume.f k (s71.1, s71.2.1, s71.2.2.1, s71.2.2.2.1, s71.2.2.2.2) (s73.1, s73.2.1, s73.2.2.1, s73.2.2.2.1, s73.2.2.2.2) q70.2).bind fun q74 =>
    some (!q74.1, q74.2, [], []))
      (some (false, q70.2, [], [])) : Option (Bool × H × LEs × EFs)).bind fun g75 =>
    some (g75.1, g75.2.1, g75.2.2.1, g75.2.2.2)) : Option (Bool × H × LEs × EFs)).bind fun g76 =>
    cond g76.1
      (some (Sum.inl false, g76.2.1))
      (corbellaw18_TreeActs.l0 k n x1 x2 q9.1.2.2.1 (wrapA .i64 (x4 + (1 : Int))) g76.2.1)))))
      (some (Sum.inr x3, g6.2))) := rfl
noncomputable def corbellaw18_TreeActs.f (k : Nat) (a0 : Sl) (a1 : Int) (h : H) : Option ((Bool) × H) :=
  (corbellaw18_TreeActs.l0 k k a0 a1 (⟨none, 0, 0⟩ : Sl) (0 : Int) h).bind fun w77 =>
    match w77.1 with
    | .inl r78 => some (r78, w77.2)
    | .inr o79 => (cond (decide ((a1.tmod (3 : Int)) > (0 : Int))) (some (decide ((Int.ofNat o79.n) > (0 : Int)), w77.2))
      (some (false, w77.2))).bind fun g80 =>
    (cond g80.1
      ((corbelhand_Pick.f k a1 (Int.ofNat o79.n) g80.2).bind fun q81 =>
    (corbelhand_Pick.f k a1 (6 : Int) q81.2).bind fun q82 =>
    (cond (q82.1 == (0 : Int))
      ((corbelhand_Name.f k a1 q82.2).bind fun q83 =>
    (asP (ixs 5 o79.a o79.n q81.1)).bind fun p84 =>
    (asP (fadd 1 p84)).bind fun p85 =>
    (stv 1 q83.2 p85 [(Value.string q83.1)]).bind fun q86 =>
    some ((), q86.2))
      ((cond (q82.1 == (1 : Int))
      ((asP (ixs 5 o79.a o79.n q81.1)).bind fun p87 =>
    (asP (fadd 2 p87)).bind fun p88 =>
    (asB (ldc q82.2 p88)).bind fun b89 =>
    (asP (ixs 5 o79.a o79.n q81.1)).bind fun p90 =>
    (asP (fadd 2 p90)).bind fun p91 =>
    (stv 1 q82.2 p91 [(Value.bool (!b89))]).bind fun q92 =>
    some ((), q92.2))
      ((cond (q82.1 == (2 : Int))
      ((asP (ixs 5 o79.a o79.n q81.1)).bind fun p93 =>
    (asP (fadd 3 p93)).bind fun p94 =>
    (stv 1 q82.2 p94 [(Value.int .i64 a1)]).bind fun q95 =>
    some ((), q95.2))
      ((cond (q82.1 == (3 : Int))
      ((corbelhand_Odd.f k a1 (⟨#[113]⟩ : ByteArray) q82.2).bind fun q96 =>
    (asP (ixs 5 o79.a o79.n q81.1)).bind fun p97 =>
    (asP (fadd 0 p97)).bind fun p98 =>
    (stv 1 q96.2 p98 [(Value.string q96.1)]).bind fun q99 =>
    some ((), q99.2))
      ((cond (q82.1 == (4 : Int))
      ((asP (ixs 5 o79.a o79.n q81.1)).bind fun p100 =>
    (asP (fadd 4 p100)).bind fun p101 =>
    (asS (ldc q82.2 p101)).bind fun s102 =>
    (asS2 (apv 3 1 8 (Value.slice s102.a s102.n s102.c) (Value.slice (some ⟨q82.2.next, 0, none⟩) 1 1) (newR q82.2 3 1 [(Value.int .i64 a1)]))).bind fun q103 =>
    (asP (ixs 5 o79.a o79.n q81.1)).bind fun p104 =>
    (asP (fadd 4 p104)).bind fun p105 =>
    (stv 1 q103.2 p105 [(Value.slice q103.1.a q103.1.n q103.1.c)]).bind fun q106 =>
    some ((), q106.2))
      (some ((), q82.2)) : Option ((Unit) × H)).bind fun j107 =>
    some ((), j107.2)) : Option ((Unit) × H)).bind fun j108 =>
    some ((), j108.2)) : Option ((Unit) × H)).bind fun j109 =>
    some ((), j109.2)) : Option ((Unit) × H)).bind fun j110 =>
    some ((), j110.2)) : Option ((Unit) × H)).bind fun j111 =>
    some ((), j111.2))
      (some ((), g80.2)) : Option ((Unit) × H)).bind fun j112 =>
    (cond true ((tree_Right.f k o79 j112.2).bind fun q113 =>
    (corbelref16_RightTree.f k o79 q113.2).bind fun q114 =>
    some (q113.1 == q114.1, q114.2))
      (some (false, j112.2))).bind fun g115 =>
    (cond g115.1 ((corbelhand_Odd.f k a1 (⟨#[122, 122]⟩ : ByteArray) g115.2).bind fun q116 =>
    (tree_IsName.f k q116.1 q116.2).bind fun q117 =>
    (corbelhand_Odd.f k a1 (⟨#[122, 122]⟩ : ByteArray) q117.2).bind fun q118 =>
    (corbelref16_IsName.f k q118.1 q118.2).bind fun q119 =>
    some (q117.1 == q119.1, q119.2))
      (some (false, g115.2))).bind fun g120 =>
    some (g120.1, g120.2)
noncomputable def corbellaw18_TreeActs.T (k : Nat) : Tbl := tblOf [⟨61, anyArgs, wr [.sl, (.st [(.int .i64), (.int .i64), (.int .i64), (.int .i64), (.int .i64), .str])] [.sl, (.int .i64), .sl, (.int .i64)] (fun a h => corbellaw18_do.f k (a.1) (a.2) h)⟩,
  ⟨42, anyArgs, wr [.sl, .sl] [.bool] (fun a h => corbelref16_SameTree.f k (a.1) (a.2) h)⟩,
  ⟨19, anyArgs, wr [(.int .i64), (.int .i64)] [(.int .i64)] (fun a h => corbelhand_Pick.f k (a.1) (a.2) h)⟩,
  ⟨62, anyArgs, wr [.sl] [.map] (fun a h => tree_Counts.f k a h)⟩,
  ⟨63, anyArgs, wr [.sl] [.map] (fun a h => corbelref16_Counts.f k a h)⟩,
  ⟨56, anyArgs, wr [.sl] [.bool] (fun a h => tree_Right.f k a h)⟩,
  ⟨59, anyArgs, wr [(.int .i64)] [.str] (fun a h => corbelhand_Name.f k a h)⟩,
  ⟨64, anyArgs, wr [.sl, .str] [(.st [.str, .str, .bool, (.int .i64), .sl]), .bool] (fun a h => tree_Find.f k (a.1) (a.2) h)⟩,
  ⟨57, anyArgs, wr [.sl, .str] [(.int .i64)] (fun a h => corbelref16_At.f k (a.1) (a.2) h)⟩,
  ⟨58, anyArgs, wr [(.st [.str, .str, .bool, (.int .i64), .sl]), (.st [.str, .str, .bool, (.int .i64), .sl])] [.bool] (fun a h => corbelref16_SameVolume.f k (a.1) (a.2) h)⟩,
  ⟨44, anyArgs, wr [(.int .i64), .str] [.str] (fun a h => corbelhand_Odd.f k (a.1) (a.2) h)⟩,
  ⟨49, anyArgs, knownW⟩,
  ⟨48, anyArgs, wr [.sl] [.bool] (fun a h => corbelref16_RightTree.f k a h)⟩,
  ⟨65, anyArgs, wr [.str] [.bool] (fun a h => tree_IsName.f k a h)⟩,
  ⟨66, anyArgs, wr [.str] [.bool] (fun a h => corbelref16_IsName.f k a h)⟩]
noncomputable def corbellaw18_TreeActs.an (k : Nat) (p : Nat) : Option Ann := cond (Nat.beq p 61) (some (.join [1, 5] none []))
  (cond (Nat.beq p 1965) (some (.join [1, 5] none []))
  (cond (Nat.beq p 7863) (some (.join [1, 5] none []))
  (cond (Nat.beq p 31455) (some (.join [1, 5] none []))
  (cond (Nat.beq p 125823) (some (.join [1, 5] none []))
  (cond (Nat.beq p 503295) (some (.join [1, 5] none []))
  (cond (Nat.beq p 58) (some (.pass [1] (lrun [(0, .sl), (1, (.int .i64)), (5, .sl), (6, (.int .i64))] (some [(4, .bool)]) [(5, .sl)] 0 (fun a h => corbellaw18_TreeActs.l0 k k (a.1) (a.2.1) (a.2.2.1) (a.2.2.2) h))))
  (cond (Nat.beq p 3821562) (some (.pass [0, 1, 5, 6] (lrun [(0, .sl), (1, (.int .i64)), (5, .sl), (6, (.int .i64)), (12, .map), (13, .map), (14, (.int .i64))] (some [(4, .bool)]) [] 2 (fun a h => corbellaw18_TreeActs.l1 k k (a.1) (a.2.1) (a.2.2.1) (a.2.2.2.1) (a.2.2.2.2.1) (a.2.2.2.2.2.1) (a.2.2.2.2.2.2) h))))
  (cond (Nat.beq p 119421) (some (.join [0, 1, 5, 6] none []))
  (none)))))))))
noncomputable def corbellaw18_TreeActs.body : Code := (Try.f16.body).getD .skip
noncomputable def corbellaw18_TreeActs.c58 : Code := cat corbellaw18_TreeActs.body [1, 1, 0, 1, 0, 0]
noncomputable def corbellaw18_TreeActs.c3821562 : Code := cat corbellaw18_TreeActs.body [1, 1, 0, 1, 0, 0, 1, 0, 0, 1, 1, 1, 1, 1, 1, 1, 1, 1, 0, 1, 0, 0]
set_option maxRecDepth 100000 in
theorem corbellaw18_TreeActs.TS {C : FuncId → Bool} {X : CallF} (hX : XOk C X) (hK49 : KOk X 49) (hK110 : InsOk X 110) (hK114 : CmpOk X 114) (k : Nat) : TblS Try.prog C X (corbellaw18_TreeActs.T k) := by
  refine tblOf_sound ?_
  intro e he
  rcases List.mem_cons.1 he with rfl | he
  · exact wr_told (corbellaw18_do.told hX hK110 hK114 k)
  rcases List.mem_cons.1 he with rfl | he
  · exact wr_told (corbelref16_SameTree.told hX k)
  rcases List.mem_cons.1 he with rfl | he
  · exact wr_told (corbelhand_Pick.told hX k)
  rcases List.mem_cons.1 he with rfl | he
  · exact wr_told (tree_Counts.told hX k)
  rcases List.mem_cons.1 he with rfl | he
  · exact wr_told (corbelref16_Counts.told hX k)
  rcases List.mem_cons.1 he with rfl | he
  · exact wr_told (tree_Right.told hX hK114 k)
  rcases List.mem_cons.1 he with rfl | he
  · exact wr_told (corbelhand_Name.told hX k)
  rcases List.mem_cons.1 he with rfl | he
  · exact wr_told (tree_Find.told hX k)
  rcases List.mem_cons.1 he with rfl | he
  · exact wr_told (corbelref16_At.told hX k)
  rcases List.mem_cons.1 he with rfl | he
  · exact wr_told (corbelref16_SameVolume.told hX k)
  rcases List.mem_cons.1 he with rfl | he
  · exact wr_told (corbelhand_Odd.told hX k)
  rcases List.mem_cons.1 he with rfl | he
  · exact knownW_told hK49
  rcases List.mem_cons.1 he with rfl | he
  · exact wr_told (corbelref16_RightTree.told hX k)
  rcases List.mem_cons.1 he with rfl | he
  · exact wr_told (tree_IsName.told hX k)
  rcases List.mem_cons.1 he with rfl | he
  · exact wr_told (corbelref16_IsName.told hX k)
  exact absurd he List.not_mem_nil
set_option maxRecDepth 100000 in
theorem corbellaw18_TreeActs.l1_pass {C : FuncId → Bool} {X : CallF} (hX : XOk C X) (hK49 : KOk X 49) (hK110 : InsOk X 110) (hK114 : CmpOk X 114) (k n : Nat) : PassS Try.prog C X 247 (.loop corbellaw18_TreeActs.c3821562) (lrun [(0, .sl), (1, (.int .i64)), (5, .sl), (6, (.int .i64)), (12, .map), (13, .map), (14, (.int .i64))] (some [(4, .bool)]) [] 2 (fun a h => corbellaw18_TreeActs.l1 k n (a.1) (a.2.1) (a.2.2.1) (a.2.2.2.1) (a.2.2.2.2.1) (a.2.2.2.2.2.1) (a.2.2.2.2.2.2) h)) :=
  loop_pass (ins := [(0, .sl), (1, (.int .i64)), (5, .sl), (6, (.int .i64)), (12, .map), (13, .map), (14, (.int .i64))]) (rets := (some [(4, .bool)])) (outs := []) (id := 2) (tbl := corbellaw18_TreeActs.T k) (an := corbellaw18_TreeActs.an k) (pb := 7643124) (corbellaw18_TreeActs.TS hX hK49 hK110 hK114 k) (fun n => (fun a h => corbellaw18_TreeActs.l1 k n (a.1) (a.2.1) (a.2.2.1) (a.2.2.2.1) (a.2.2.2.2.1) (a.2.2.2.2.2.1) (a.2.2.2.2.2.2) h)) (fun a h => rfl) (fun n a h => by kernel_rfl)
    (by
      have e : need (corbellaw18_TreeActs.an k) corbellaw18_TreeActs.c3821562 7643124 = [] := by kernel_rfl
      rw [e]; intro q hq; cases hq) n
set_option maxRecDepth 100000 in
theorem corbellaw18_TreeActs.l0_pass {C : FuncId → Bool} {X : CallF} (hX : XOk C X) (hK49 : KOk X 49) (hK110 : InsOk X 110) (hK114 : CmpOk X 114) (k n : Nat) : PassS Try.prog C X 247 (.loop corbellaw18_TreeActs.c58) (lrun [(0, .sl), (1, (.int .i64)), (5, .sl), (6, (.int .i64))] (some [(4, .bool)]) [(5, .sl)] 0 (fun a h => corbellaw18_TreeActs.l0 k n (a.1) (a.2.1) (a.2.2.1) (a.2.2.2) h)) :=
  loop_pass (ins := [(0, .sl), (1, (.int .i64)), (5, .sl), (6, (.int .i64))]) (rets := (some [(4, .bool)])) (outs := [(5, .sl)]) (id := 0) (tbl := corbellaw18_TreeActs.T k) (an := corbellaw18_TreeActs.an k) (pb := 116) (corbellaw18_TreeActs.TS hX hK49 hK110 hK114 k) (fun n => (fun a h => corbellaw18_TreeActs.l0 k n (a.1) (a.2.1) (a.2.2.1) (a.2.2.2) h)) (fun a h => rfl) (fun n a h => by kernel_rfl)
    (by
      have e : need (corbellaw18_TreeActs.an k) corbellaw18_TreeActs.c58 116 = [(Code.loop corbellaw18_TreeActs.c3821562, lrun [(0, .sl), (1, (.int .i64)), (5, .sl), (6, (.int .i64)), (12, .map), (13, .map), (14, (.int .i64))] (some [(4, .bool)]) [] 2 (fun a h => corbellaw18_TreeActs.l1 k k (a.1) (a.2.1) (a.2.2.1) (a.2.2.2.1) (a.2.2.2.2.1) (a.2.2.2.2.2.1) (a.2.2.2.2.2.2) h))] := by kernel_rfl
      rw [e]; intro q hq
      rcases List.mem_cons.1 hq with rfl | hq
      · exact corbellaw18_TreeActs.l1_pass hX hK49 hK110 hK114 k k
      cases hq) n
set_option maxRecDepth 100000 in
theorem corbellaw18_TreeActs.eq (k : Nat) (a : RT [.sl, (.int .i64)]) (h : H) : (fun a h => corbellaw18_TreeActs.f k (a.1) (a.2) h) a h = kfun Try.prog (corbellaw18_TreeActs.T k) (corbellaw18_TreeActs.an k) (RT [.bool] × H) Try.f16 (encL [.sl, (.int .i64)] a) h (fun vs h' => (decL [.bool] vs).bind fun x => some (x, h')) := by kernel_rfl
set_option maxRecDepth 100000 in
theorem corbellaw18_TreeActs.told {C : FuncId → Bool} {X : CallF} (hX : XOk C X) (hK49 : KOk X 49) (hK110 : InsOk X 110) (hK114 : CmpOk X 114) (k : Nat) : Den.Told Try.prog C X 16 [.sl, (.int .i64)] [.bool] (fun a h => corbellaw18_TreeActs.f k (a.1) (a.2) h) :=
  told_of fun a h q e => fn_of (c := corbellaw18_TreeActs.body) (corbellaw18_TreeActs.TS hX hK49 hK110 hK114 k) Try.func16 (by kernel_rfl) (hX.no 16 _ h (by decide))
    (by
      have e : need (corbellaw18_TreeActs.an k) corbellaw18_TreeActs.body 1 = [(Code.loop corbellaw18_TreeActs.c58, lrun [(0, .sl), (1, (.int .i64)), (5, .sl), (6, (.int .i64))] (some [(4, .bool)]) [(5, .sl)] 0 (fun a h => corbellaw18_TreeActs.l0 k k (a.1) (a.2.1) (a.2.2.1) (a.2.2.2) h))] := by kernel_rfl
      rw [e]; intro q hq
      rcases List.mem_cons.1 hq with rfl | hq
      · exact corbellaw18_TreeActs.l0_pass hX hK49 hK110 hK114 k k
      cases hq)
    ((corbellaw18_TreeActs.eq k a h).symm.trans e)
end Go.Proofs.Ytfenkpghcbohdaa.Fwd
