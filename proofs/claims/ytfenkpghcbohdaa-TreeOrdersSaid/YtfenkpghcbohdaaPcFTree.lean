/- Forward runs of functions of the program, printed by a program of this session: each function on plain values and memory, and that the code comes to it. No condition. -/
import Derived.Test.YtfenkpghcbohdaaDenCmp
import Derived.KernelRfl
import Derived.Test.YtfenkpghcbohdaaPcFIns
import Derived.Test.YtfenkpghcbohdaaPcFKn38
import Derived.Test.YtfenkpghcbohdaaPcFKn49
import Derived.Test.YtfenkpghcbohdaaPcFMeta
import Derived.Test.YtfenkpghcbohdaaPcFRoot
namespace Go.Proofs.Ytfenkpghcbohdaa.Fwd
open Go Den
set_option linter.unusedVariables false
/-! ### corbel/corbelref16.Copied -/
/-! ### corbel/corbelhand.Size -/
/-! ### corbel/tree.Resize -/
/-! ### corbel/corbellaw18.TreeApart -/
/-! ### corbel/corbellaw18.TreeSizes -/
/-! ### slices.Equal[[]int,int] -/
noncomputable def slices_Equal_int_int.l0 (k : Nat) (n : Nat) : Sl → Sl → Int → Int → H → Option (((Bool) ⊕ (Unit)) × H) :=
  Nat.rec (motive := fun _ => Sl → Sl → Int → Int → H → Option (((Bool) ⊕ (Unit)) × H)) (fun _ _ _ _ _ => none) (fun _ ih x1 x2 x3 x4 h5 => cond (decide (x4 < x3))
      ((asP (ixs 1 x1.a x1.n x4)).bind fun p6 =>
    (asI .i64 (ldc h5 p6)).bind fun n7 =>
    (asP (ixs 1 x2.a x2.n x4)).bind fun p8 =>
    (asI .i64 (ldc h5 p8)).bind fun n9 =>
    cond (n7 != n9)
      (some (Sum.inl false, h5))
      (ih x1 x2 x3 (wrapA .i64 (x4 + (1 : Int))) h5))
      (some (Sum.inr (), h5))) n
theorem slices_Equal_int_int.l0_zero (k : Nat) (x1 : Sl) (x2 : Sl) (x3 : Int) (x4 : Int) (h5 : H) : slices_Equal_int_int.l0 k 0 x1 x2 x3 x4 h5 = none := rfl
theorem slices_Equal_int_int.l0_succ (k n : Nat) (x1 : Sl) (x2 : Sl) (x3 : Int) (x4 : Int) (h5 : H) : slices_Equal_int_int.l0 k (n + 1) x1 x2 x3 x4 h5 = (cond (decide (x4 < x3))
      ((asP (ixs 1 x1.a x1.n x4)).bind fun p6 =>
    (asI .i64 (ldc h5 p6)).bind fun n7 =>
    (asP (ixs 1 x2.a x2.n x4)).bind fun p8 =>
    (asI .i64 (ldc h5 p8)).bind fun n9 =>
    cond (n7 != n9)
      (some (Sum.inl false, h5))
      (slices_Equal_int_int.l0 k n x1 x2 x3 (wrapA .i64 (x4 + (1 : Int))) h5))
      (some (Sum.inr (), h5))) := rfl
noncomputable def slices_Equal_int_int.f (k : Nat) (a0 : Sl) (a1 : Sl) (h : H) : Option ((Bool) × H) :=
  cond ((Int.ofNat a0.n) != (Int.ofNat a1.n))
      (some (false, h))
      ((slices_Equal_int_int.l0 k k a0 a1 (Int.ofNat a0.n) (0 : Int) h).bind fun w10 =>
    match w10.1 with
    | .inl r11 => some (r11, w10.2)
    | .inr o12 => some (true, w10.2))
noncomputable def slices_Equal_int_int.T (k : Nat) : Tbl := tblOf []
noncomputable def slices_Equal_int_int.an (k : Nat) (p : Nat) : Option Ann := cond (Nat.beq p 58) (some (.pass [] (lrun [(0, .sl), (1, .sl), (12, (.int .i64)), (13, (.int .i64))] (some [(4, .bool)]) [] 0 (fun a h => slices_Equal_int_int.l0 k k (a.1) (a.2.1) (a.2.2.1) (a.2.2.2) h))))
  (none)
noncomputable def slices_Equal_int_int.body : Code := (Try.f97.body).getD .skip
noncomputable def slices_Equal_int_int.c58 : Code := cat slices_Equal_int_int.body [1, 1, 0, 1, 0, 0]
set_option maxRecDepth 100000 in
theorem slices_Equal_int_int.TS {C : FuncId → Bool} {X : CallF} (hX : XOk C X) (k : Nat) : TblS Try.prog C X (slices_Equal_int_int.T k) := by
  refine tblOf_sound ?_
  intro e he
  exact absurd he List.not_mem_nil
set_option maxRecDepth 100000 in
theorem slices_Equal_int_int.l0_pass {C : FuncId → Bool} {X : CallF} (hX : XOk C X) (k n : Nat) : PassS Try.prog C X 26 (.loop slices_Equal_int_int.c58) (lrun [(0, .sl), (1, .sl), (12, (.int .i64)), (13, (.int .i64))] (some [(4, .bool)]) [] 0 (fun a h => slices_Equal_int_int.l0 k n (a.1) (a.2.1) (a.2.2.1) (a.2.2.2) h)) :=
  loop_pass (ins := [(0, .sl), (1, .sl), (12, (.int .i64)), (13, (.int .i64))]) (rets := (some [(4, .bool)])) (outs := []) (id := 0) (tbl := slices_Equal_int_int.T k) (an := slices_Equal_int_int.an k) (pb := 116) (slices_Equal_int_int.TS hX k) (fun n => (fun a h => slices_Equal_int_int.l0 k n (a.1) (a.2.1) (a.2.2.1) (a.2.2.2) h)) (fun a h => rfl) (fun n a h => by kernel_rfl)
    (by
      have e : need (slices_Equal_int_int.an k) slices_Equal_int_int.c58 116 = [] := by kernel_rfl
      rw [e]; intro q hq; cases hq) n
set_option maxRecDepth 100000 in
theorem slices_Equal_int_int.eq (k : Nat) (a : RT [.sl, .sl]) (h : H) : (fun a h => slices_Equal_int_int.f k (a.1) (a.2) h) a h = kfun Try.prog (slices_Equal_int_int.T k) (slices_Equal_int_int.an k) (RT [.bool] × H) Try.f97 (encL [.sl, .sl] a) h (fun vs h' => (decL [.bool] vs).bind fun x => some (x, h')) := by kernel_rfl
set_option maxRecDepth 100000 in
theorem slices_Equal_int_int.told {C : FuncId → Bool} {X : CallF} (hX : XOk C X) (k : Nat) : Den.Told Try.prog C X 97 [.sl, .sl] [.bool] (fun a h => slices_Equal_int_int.f k (a.1) (a.2) h) :=
  told_of fun a h q e => fn_of (c := slices_Equal_int_int.body) (slices_Equal_int_int.TS hX k) Try.func97 (by kernel_rfl) (hX.no 97 _ h (by decide))
    (by
      have e : need (slices_Equal_int_int.an k) slices_Equal_int_int.body 1 = [(Code.loop slices_Equal_int_int.c58, lrun [(0, .sl), (1, .sl), (12, (.int .i64)), (13, (.int .i64))] (some [(4, .bool)]) [] 0 (fun a h => slices_Equal_int_int.l0 k k (a.1) (a.2.1) (a.2.2.1) (a.2.2.2) h))] := by kernel_rfl
      rw [e]; intro q hq
      rcases List.mem_cons.1 hq with rfl | hq
      · exact slices_Equal_int_int.l0_pass hX k k
      cases hq)
    ((slices_Equal_int_int.eq k a h).symm.trans e)
/-! ### corbel/tree.Same$1 -/
noncomputable def tree_Same_1.f (k : Nat) (a0 : (ByteArray × ByteArray × Bool × Int × Sl)) (a1 : (ByteArray × ByteArray × Bool × Int × Sl)) (h : H) : Option ((Bool) × H) :=
  (asT (ldc (newR (newR h 58 5 [(Value.string a0.1), (Value.string a0.2.1), (Value.bool a0.2.2.1), (Value.int .i64 a0.2.2.2.1), (Value.slice a0.2.2.2.2.a a0.2.2.2.2.n a0.2.2.2.2.c)]) 58 5 [(Value.string a1.1), (Value.string a1.2.1), (Value.bool a1.2.2.1), (Value.int .i64 a1.2.2.2.1), (Value.slice a1.2.2.2.2.a a1.2.2.2.2.n a1.2.2.2.2.c)]) (some ⟨h.next, 0, none⟩))).bind fun s1 =>
    (asT (ldc (newR (newR h 58 5 [(Value.string a0.1), (Value.string a0.2.1), (Value.bool a0.2.2.1), (Value.int .i64 a0.2.2.2.1), (Value.slice a0.2.2.2.2.a a0.2.2.2.2.n a0.2.2.2.2.c)]) 58 5 [(Value.string a1.1), (Value.string a1.2.1), (Value.bool a1.2.2.1), (Value.int .i64 a1.2.2.2.1), (Value.slice a1.2.2.2.2.a a1.2.2.2.2.n a1.2.2.2.2.c)]) (some ⟨(newR h 58 5 [(Value.string a0.1), (Value.string a0.2.1), (Value.bool a0.2.2.1), (Value.int .i64 a0.2.2.2.1), (Value.slice a0.2.2.2.2.a a0.2.2.2.2.n a0.2.2.2.2.c)]).next, 0, none⟩))).bind fun s2 =>
    (cond (s1.toList == s2.toList) ((asT (ldc (newR (newR h 58 5 [(Value.string a0.1), (Value.string a0.2.1), (Value.bool a0.2.2.1), (Value.int .i64 a0.2.2.2.1), (Value.slice a0.2.2.2.2.a a0.2.2.2.2.n a0.2.2.2.2.c)]) 58 5 [(Value.string a1.1), (Value.string a1.2.1), (Value.bool a1.2.2.1), (Value.int .i64 a1.2.2.2.1), (Value.slice a1.2.2.2.2.a a1.2.2.2.2.n a1.2.2.2.2.c)]) (some ⟨h.next, 1, none⟩))).bind fun s3 =>
    (asT (ldc (newR (newR h 58 5 [(Value.string a0.1), (Value.string a0.2.1), (Value.bool a0.2.2.1), (Value.int .i64 a0.2.2.2.1), (Value.slice a0.2.2.2.2.a a0.2.2.2.2.n a0.2.2.2.2.c)]) 58 5 [(Value.string a1.1), (Value.string a1.2.1), (Value.bool a1.2.2.1), (Value.int .i64 a1.2.2.2.1), (Value.slice a1.2.2.2.2.a a1.2.2.2.2.n a1.2.2.2.2.c)]) (some ⟨(newR h 58 5 [(Value.string a0.1), (Value.string a0.2.1), (Value.bool a0.2.2.1), (Value.int .i64 a0.2.2.2.1), (Value.slice a0.2.2.2.2.a a0.2.2.2.2.n a0.2.2.2.2.c)]).next, 1, none⟩))).bind fun s4 =>
    some (s3.toList == s4.toList, (newR (newR h 58 5 [(Value.string a0.1), (Value.string a0.2.1), (Value.bool a0.2.2.1), (Value.int .i64 a0.2.2.2.1), (Value.slice a0.2.2.2.2.a a0.2.2.2.2.n a0.2.2.2.2.c)]) 58 5 [(Value.string a1.1), (Value.string a1.2.1), (Value.bool a1.2.2.1), (Value.int .i64 a1.2.2.2.1), (Value.slice a1.2.2.2.2.a a1.2.2.2.2.n a1.2.2.2.2.c)])))
      (some (false, (newR (newR h 58 5 [(Value.string a0.1), (Value.string a0.2.1), (Value.bool a0.2.2.1), (Value.int .i64 a0.2.2.2.1), (Value.slice a0.2.2.2.2.a a0.2.2.2.2.n a0.2.2.2.2.c)]) 58 5 [(Value.string a1.1), (Value.string a1.2.1), (Value.bool a1.2.2.1), (Value.int .i64 a1.2.2.2.1), (Value.slice a1.2.2.2.2.a a1.2.2.2.2.n a1.2.2.2.2.c)])))).bind fun g5 =>
    (cond g5.1 ((asB (ldc g5.2 (some ⟨h.next, 2, none⟩))).bind fun b6 =>
    (asB (ldc g5.2 (some ⟨(newR h 58 5 [(Value.string a0.1), (Value.string a0.2.1), (Value.bool a0.2.2.1), (Value.int .i64 a0.2.2.2.1), (Value.slice a0.2.2.2.2.a a0.2.2.2.2.n a0.2.2.2.2.c)]).next, 2, none⟩))).bind fun b7 =>
    some (b6 == b7, g5.2))
      (some (false, g5.2))).bind fun g8 =>
    (cond g8.1 ((asI .i64 (ldc g8.2 (some ⟨h.next, 3, none⟩))).bind fun n9 =>
    (asI .i64 (ldc g8.2 (some ⟨(newR h 58 5 [(Value.string a0.1), (Value.string a0.2.1), (Value.bool a0.2.2.1), (Value.int .i64 a0.2.2.2.1), (Value.slice a0.2.2.2.2.a a0.2.2.2.2.n a0.2.2.2.2.c)]).next, 3, none⟩))).bind fun n10 =>
    some (n9 == n10, g8.2))
      (some (false, g8.2))).bind fun g11 =>
    (cond g11.1 ((asS (ldc g11.2 (some ⟨h.next, 4, none⟩))).bind fun s12 =>
    (asS (ldc g11.2 (some ⟨(newR h 58 5 [(Value.string a0.1), (Value.string a0.2.1), (Value.bool a0.2.2.1), (Value.int .i64 a0.2.2.2.1), (Value.slice a0.2.2.2.2.a a0.2.2.2.2.n a0.2.2.2.2.c)]).next, 4, none⟩))).bind fun s13 =>
    (slices_Equal_int_int.f k s12 s13 g11.2).bind fun q14 =>
    some (q14.1, q14.2))
      (some (false, g11.2))).bind fun g15 =>
    some (g15.1, g15.2)
noncomputable def tree_Same_1.T (k : Nat) : Tbl := tblOf [⟨97, anyArgs, wr [.sl, .sl] [.bool] (fun a h => slices_Equal_int_int.f k (a.1) (a.2) h)⟩]
noncomputable def tree_Same_1.an (k : Nat) (p : Nat) : Option Ann := none
noncomputable def tree_Same_1.body : Code := (Try.f96.body).getD .skip
set_option maxRecDepth 100000 in
theorem tree_Same_1.TS {C : FuncId → Bool} {X : CallF} (hX : XOk C X) (k : Nat) : TblS Try.prog C X (tree_Same_1.T k) := by
  refine tblOf_sound ?_
  intro e he
  rcases List.mem_cons.1 he with rfl | he
  · exact wr_told (slices_Equal_int_int.told hX k)
  exact absurd he List.not_mem_nil
set_option maxRecDepth 100000 in
theorem tree_Same_1.eq (k : Nat) (a : RT [(.st [.str, .str, .bool, (.int .i64), .sl]), (.st [.str, .str, .bool, (.int .i64), .sl])]) (h : H) : (fun a h => tree_Same_1.f k (a.1) (a.2) h) a h = kfun Try.prog (tree_Same_1.T k) (tree_Same_1.an k) (RT [.bool] × H) Try.f96 (encL [(.st [.str, .str, .bool, (.int .i64), .sl]), (.st [.str, .str, .bool, (.int .i64), .sl])] a) h (fun vs h' => (decL [.bool] vs).bind fun x => some (x, h')) := by kernel_rfl
set_option maxRecDepth 100000 in
theorem tree_Same_1.told {C : FuncId → Bool} {X : CallF} (hX : XOk C X) (k : Nat) : Den.Told Try.prog C X 96 [(.st [.str, .str, .bool, (.int .i64), .sl]), (.st [.str, .str, .bool, (.int .i64), .sl])] [.bool] (fun a h => tree_Same_1.f k (a.1) (a.2) h) :=
  told_of fun a h q e => fn_of (c := tree_Same_1.body) (tree_Same_1.TS hX k) Try.func96 (by kernel_rfl) (hX.no 96 _ h (by decide))
    (by
      have e : need (tree_Same_1.an k) tree_Same_1.body 1 = [] := by kernel_rfl
      rw [e]; intro q hq; cases hq)
    ((tree_Same_1.eq k a h).symm.trans e)
/-! ### slices.EqualFunc[[]corbel/api.Volume,[]corbel/api.Volume,corbel/api.Volume,corbel/api.Volume] -/
noncomputable def slices_EqualFunc_api_Volume_api_Volume_api_Volume_api_Volume_tree_Same_1.l0 (k : Nat) (n : Nat) : Sl → Unit → Sl → Int → Int → H → Option (((Bool) ⊕ (Unit)) × H) :=
  Nat.rec (motive := fun _ => Sl → Unit → Sl → Int → Int → H → Option (((Bool) ⊕ (Unit)) × H)) (fun _ _ _ _ _ _ => none) (fun _ ih x1 x2 x3 x4 x5 h6 => cond (decide (x5 < x4))
      ((asP (ixs 5 x3.a x3.n x5)).bind fun p7 =>
    (asSt [.str, .str, .bool, (.int .i64), .sl] (lda 5 h6 p7)).bind fun s8 =>
    (stv 5 (newR h6 58 5 [(Value.string (⟨#[]⟩ : ByteArray)), (Value.string (⟨#[]⟩ : ByteArray)), (Value.bool false), (Value.int .i64 (0 : Int)), (Value.slice none 0 0)]) (some ⟨h6.next, 0, none⟩) [(Value.string s8.1), (Value.string s8.2.1), (Value.bool s8.2.2.1), (Value.int .i64 s8.2.2.2.1), (Value.slice s8.2.2.2.2.a s8.2.2.2.2.n s8.2.2.2.2.c)]).bind fun q9 =>
    (asP (ixs 5 x1.a x1.n x5)).bind fun p10 =>
    (asSt [.str, .str, .bool, (.int .i64), .sl] (lda 5 q9.2 p10)).bind fun s11 =>
    (stv 5 (newR q9.2 58 5 [(Value.string (⟨#[]⟩ : ByteArray)), (Value.string (⟨#[]⟩ : ByteArray)), (Value.bool false), (Value.int .i64 (0 : Int)), (Value.slice none 0 0)]) (some ⟨q9.2.next, 0, none⟩) [(Value.string s11.1), (Value.string s11.2.1), (Value.bool s11.2.2.1), (Value.int .i64 s11.2.2.2.1), (Value.slice s11.2.2.2.2.a s11.2.2.2.2.n s11.2.2.2.2.c)]).bind fun q12 =>
    (asSt [.str, .str, .bool, (.int .i64), .sl] (lda 5 q12.2 (some ⟨h6.next, 0, none⟩))).bind fun s13 =>
    (asSt [.str, .str, .bool, (.int .i64), .sl] (lda 5 q12.2 (some ⟨q9.2.next, 0, none⟩))).bind fun s14 =>
    (tree_Same_1.f k (s13.1, s13.2.1, s13.2.2.1, s13.2.2.2.1, s13.2.2.2.2) (s14.1, s14.2.1, s14.2.2.1, s14.2.2.2.1, s14.2.2.2.2) q12.2).bind fun q15 =>
    cond (!q15.1)
      (some (Sum.inl false, q15.2))
      (ih x1 () x3 x4 (wrapA .i64 (x5 + (1 : Int))) q15.2))
      (some (Sum.inr (), h6))) n
theorem slices_EqualFunc_api_Volume_api_Volume_api_Volume_api_Volume_tree_Same_1.l0_zero (k : Nat) (x1 : Sl) (x2 : Unit) (x3 : Sl) (x4 : Int) (x5 : Int) (h6 : H) : slices_EqualFunc_api_Volume_api_Volume_api_Volume_api_Volume_tree_Same_1.l0 k 0 x1 x2 x3 x4 x5 h6 = none := rfl
theorem slices_EqualFunc_api_Volume_api_Volume_api_Volume_api_Volume_tree_Same_1.l0_succ (k n : Nat) (x1 : Sl) (x2 : Unit) (x3 : Sl) (x4 : Int) (x5 : Int) (h6 : H) : slices_EqualFunc_api_Volume_api_Volume_api_Volume_api_Volume_tree_Same_1.l0 k (n + 1) x1 x2 x3 x4 x5 h6 = (cond (decide (x5 < x4))
      ((asP (ixs 5 x3.a x3.n x5)).bind fun p7 =>
    (asSt [.str, .str, .bool, (.int .i64), .sl] (lda 5 h6 p7)).bind fun s8 =>
    (stv 5 (newR h6 58 5 [(Value.string (⟨#[]⟩ : ByteArray)), (Value.string (⟨#[]⟩ : ByteArray)), (Value.bool false), (Value.int .i64 (0 : Int)), (Value.slice none 0 0)]) (some ⟨h6.next, 0, none⟩) [(Value.string s8.1), (Value.string s8.2.1), (Value.bool s8.2.2.1), (Value.int .i64 s8.2.2.2.1), (Value.slice s8.2.2.2.2.a s8.2.2.2.2.n s8.2.2.2.2.c)]).bind fun q9 =>
    (asP (ixs 5 x1.a x1.n x5)).bind fun p10 =>
    (asSt [.str, .str, .bool, (.int .i64), .sl] (lda 5 q9.2 p10)).bind fun s11 =>
    (stv 5 (newR q9.2 58 5 [(Value.string (⟨#[]⟩ : ByteArray)), (Value.string (⟨#[]⟩ : ByteArray)), (Value.bool false), (Value.int .i64 (0 : Int)), (Value.slice none 0 0)]) (some ⟨q9.2.next, 0, none⟩) [(Value.string s11.1), (Value.string s11.2.1), (Value.bool s11.2.2.1), (Value.int .i64 s11.2.2.2.1), (Value.slice s11.2.2.2.2.a s11.2.2.2.2.n s11.2.2.2.2.c)]).bind fun q12 =>
    (asSt [.str, .str, .bool, (.int .i64), .sl] (lda 5 q12.2 (some ⟨h6.next, 0, none⟩))).bind fun s13 =>
    (asSt [.str, .str, .bool, (.int .i64), .sl] (lda 5 q12.2 (some ⟨q9.2.next, 0, none⟩))).bind fun s14 =>
    (tree_Same_1.f k (s13.1, s13.2.1, s13.2.2.1, s13.2.2.2.1, s13.2.2.2.2) (s14.1, s14.2.1, s14.2.2.1, s14.2.2.2.1, s14.2.2.2.2) q12.2).bind fun q15 =>
    cond (!q15.1)
      (some (Sum.inl false, q15.2))
      (slices_EqualFunc_api_Volume_api_Volume_api_Volume_api_Volume_tree_Same_1.l0 k n x1 () x3 x4 (wrapA .i64 (x5 + (1 : Int))) q15.2))
      (some (Sum.inr (), h6))) := rfl
noncomputable def slices_EqualFunc_api_Volume_api_Volume_api_Volume_api_Volume_tree_Same_1.f (k : Nat) (a0 : Sl) (a1 : Sl) (a2 : Unit) (h : H) : Option ((Bool) × H) :=
  cond ((Int.ofNat a0.n) != (Int.ofNat a1.n))
      (some (false, h))
      ((slices_EqualFunc_api_Volume_api_Volume_api_Volume_api_Volume_tree_Same_1.l0 k k a1 () a0 (Int.ofNat a0.n) (0 : Int) h).bind fun w16 =>
    match w16.1 with
    | .inl r17 => some (r17, w16.2)
    | .inr o18 => some (true, w16.2))
noncomputable def slices_EqualFunc_api_Volume_api_Volume_api_Volume_api_Volume_tree_Same_1.T (k : Nat) : Tbl := tblOf [⟨96, anyArgs, wr [(.st [.str, .str, .bool, (.int .i64), .sl]), (.st [.str, .str, .bool, (.int .i64), .sl])] [.bool] (fun a h => tree_Same_1.f k (a.1) (a.2) h)⟩]
noncomputable def slices_EqualFunc_api_Volume_api_Volume_api_Volume_api_Volume_tree_Same_1.an (k : Nat) (p : Nat) : Option Ann := cond (Nat.beq p 58) (some (.pass [] (lrun [(1, .sl), (2, (.fn 96 0)), (15, .sl), (16, (.int .i64)), (17, (.int .i64))] (some [(6, .bool)]) [] 0 (fun a h => slices_EqualFunc_api_Volume_api_Volume_api_Volume_api_Volume_tree_Same_1.l0 k k (a.1) (a.2.1) (a.2.2.1) (a.2.2.2.1) (a.2.2.2.2) h))))
  (none)
noncomputable def slices_EqualFunc_api_Volume_api_Volume_api_Volume_api_Volume_tree_Same_1.body : Code := (Try.f95.body).getD .skip
noncomputable def slices_EqualFunc_api_Volume_api_Volume_api_Volume_api_Volume_tree_Same_1.c58 : Code := cat slices_EqualFunc_api_Volume_api_Volume_api_Volume_api_Volume_tree_Same_1.body [1, 1, 0, 1, 0, 0]
set_option maxRecDepth 100000 in
theorem slices_EqualFunc_api_Volume_api_Volume_api_Volume_api_Volume_tree_Same_1.TS {C : FuncId → Bool} {X : CallF} (hX : XOk C X) (k : Nat) : TblS Try.prog C X (slices_EqualFunc_api_Volume_api_Volume_api_Volume_api_Volume_tree_Same_1.T k) := by
  refine tblOf_sound ?_
  intro e he
  rcases List.mem_cons.1 he with rfl | he
  · exact wr_told (tree_Same_1.told hX k)
  exact absurd he List.not_mem_nil
set_option maxRecDepth 100000 in
theorem slices_EqualFunc_api_Volume_api_Volume_api_Volume_api_Volume_tree_Same_1.l0_pass {C : FuncId → Bool} {X : CallF} (hX : XOk C X) (k n : Nat) : PassS Try.prog C X 32 (.loop slices_EqualFunc_api_Volume_api_Volume_api_Volume_api_Volume_tree_Same_1.c58) (lrun [(1, .sl), (2, (.fn 96 0)), (15, .sl), (16, (.int .i64)), (17, (.int .i64))] (some [(6, .bool)]) [] 0 (fun a h => slices_EqualFunc_api_Volume_api_Volume_api_Volume_api_Volume_tree_Same_1.l0 k n (a.1) (a.2.1) (a.2.2.1) (a.2.2.2.1) (a.2.2.2.2) h)) :=
  loop_pass (ins := [(1, .sl), (2, (.fn 96 0)), (15, .sl), (16, (.int .i64)), (17, (.int .i64))]) (rets := (some [(6, .bool)])) (outs := []) (id := 0) (tbl := slices_EqualFunc_api_Volume_api_Volume_api_Volume_api_Volume_tree_Same_1.T k) (an := slices_EqualFunc_api_Volume_api_Volume_api_Volume_api_Volume_tree_Same_1.an k) (pb := 116) (slices_EqualFunc_api_Volume_api_Volume_api_Volume_api_Volume_tree_Same_1.TS hX k) (fun n => (fun a h => slices_EqualFunc_api_Volume_api_Volume_api_Volume_api_Volume_tree_Same_1.l0 k n (a.1) (a.2.1) (a.2.2.1) (a.2.2.2.1) (a.2.2.2.2) h)) (fun a h => rfl) (fun n a h => by kernel_rfl)
    (by
      have e : need (slices_EqualFunc_api_Volume_api_Volume_api_Volume_api_Volume_tree_Same_1.an k) slices_EqualFunc_api_Volume_api_Volume_api_Volume_api_Volume_tree_Same_1.c58 116 = [] := by kernel_rfl
      rw [e]; intro q hq; cases hq) n
set_option maxRecDepth 100000 in
theorem slices_EqualFunc_api_Volume_api_Volume_api_Volume_api_Volume_tree_Same_1.eq (k : Nat) (a : RT [.sl, .sl, (.fn 96 0)]) (h : H) : (fun a h => slices_EqualFunc_api_Volume_api_Volume_api_Volume_api_Volume_tree_Same_1.f k (a.1) (a.2.1) (a.2.2) h) a h = kfun Try.prog (slices_EqualFunc_api_Volume_api_Volume_api_Volume_api_Volume_tree_Same_1.T k) (slices_EqualFunc_api_Volume_api_Volume_api_Volume_api_Volume_tree_Same_1.an k) (RT [.bool] × H) Try.f95 (encL [.sl, .sl, (.fn 96 0)] a) h (fun vs h' => (decL [.bool] vs).bind fun x => some (x, h')) := by kernel_rfl
set_option maxRecDepth 100000 in
theorem slices_EqualFunc_api_Volume_api_Volume_api_Volume_api_Volume_tree_Same_1.told {C : FuncId → Bool} {X : CallF} (hX : XOk C X) (k : Nat) : Den.Told Try.prog C X 95 [.sl, .sl, (.fn 96 0)] [.bool] (fun a h => slices_EqualFunc_api_Volume_api_Volume_api_Volume_api_Volume_tree_Same_1.f k (a.1) (a.2.1) (a.2.2) h) :=
  told_of fun a h q e => fn_of (c := slices_EqualFunc_api_Volume_api_Volume_api_Volume_api_Volume_tree_Same_1.body) (slices_EqualFunc_api_Volume_api_Volume_api_Volume_api_Volume_tree_Same_1.TS hX k) Try.func95 (by kernel_rfl) (hX.no 95 _ h (by decide))
    (by
      have e : need (slices_EqualFunc_api_Volume_api_Volume_api_Volume_api_Volume_tree_Same_1.an k) slices_EqualFunc_api_Volume_api_Volume_api_Volume_api_Volume_tree_Same_1.body 1 = [(Code.loop slices_EqualFunc_api_Volume_api_Volume_api_Volume_api_Volume_tree_Same_1.c58, lrun [(1, .sl), (2, (.fn 96 0)), (15, .sl), (16, (.int .i64)), (17, (.int .i64))] (some [(6, .bool)]) [] 0 (fun a h => slices_EqualFunc_api_Volume_api_Volume_api_Volume_api_Volume_tree_Same_1.l0 k k (a.1) (a.2.1) (a.2.2.1) (a.2.2.2.1) (a.2.2.2.2) h))] := by kernel_rfl
      rw [e]; intro q hq
      rcases List.mem_cons.1 hq with rfl | hq
      · exact slices_EqualFunc_api_Volume_api_Volume_api_Volume_api_Volume_tree_Same_1.l0_pass hX k k
      cases hq)
    ((slices_EqualFunc_api_Volume_api_Volume_api_Volume_api_Volume_tree_Same_1.eq k a h).symm.trans e)
/-! ### corbel/tree.Same -/
noncomputable def tree_Same.f (k : Nat) (a0 : Sl) (a1 : Sl) (h : H) : Option ((Bool) × H) :=
  (slices_EqualFunc_api_Volume_api_Volume_api_Volume_api_Volume_tree_Same_1.f k a0 a1 () h).bind fun q1 =>
    some (q1.1, q1.2)
noncomputable def tree_Same.T (k : Nat) : Tbl := tblOf [⟨95, chkF [(2, 96)], wr [.sl, .sl, (.fn 96 0)] [.bool] (fun a h => slices_EqualFunc_api_Volume_api_Volume_api_Volume_api_Volume_tree_Same_1.f k (a.1) (a.2.1) (a.2.2) h)⟩]
noncomputable def tree_Same.an (k : Nat) (p : Nat) : Option Ann := none
noncomputable def tree_Same.body : Code := (Try.f60.body).getD .skip
set_option maxRecDepth 100000 in
theorem tree_Same.TS {C : FuncId → Bool} {X : CallF} (hX : XOk C X) (k : Nat) : TblS Try.prog C X (tree_Same.T k) := by
  refine tblOf_sound ?_
  intro e he
  rcases List.mem_cons.1 he with rfl | he
  · exact wr_told (slices_EqualFunc_api_Volume_api_Volume_api_Volume_api_Volume_tree_Same_1.told hX k)
  exact absurd he List.not_mem_nil
set_option maxRecDepth 100000 in
theorem tree_Same.eq (k : Nat) (a : RT [.sl, .sl]) (h : H) : (fun a h => tree_Same.f k (a.1) (a.2) h) a h = kfun Try.prog (tree_Same.T k) (tree_Same.an k) (RT [.bool] × H) Try.f60 (encL [.sl, .sl] a) h (fun vs h' => (decL [.bool] vs).bind fun x => some (x, h')) := by kernel_rfl
set_option maxRecDepth 100000 in
theorem tree_Same.told {C : FuncId → Bool} {X : CallF} (hX : XOk C X) (k : Nat) : Den.Told Try.prog C X 60 [.sl, .sl] [.bool] (fun a h => tree_Same.f k (a.1) (a.2) h) :=
  told_of fun a h q e => fn_of (c := tree_Same.body) (tree_Same.TS hX k) Try.func60 (by kernel_rfl) (hX.no 60 _ h (by decide))
    (by
      have e : need (tree_Same.an k) tree_Same.body 1 = [] := by kernel_rfl
      rw [e]; intro q hq; cases hq)
    ((tree_Same.eq k a h).symm.trans e)
/-! ### corbel/corbellaw18.TreeOrders -/
noncomputable def corbellaw18_TreeOrders.l2 (k : Nat) (n : Nat) : Sl → Sl → Int → H → Option (((Bool) ⊕ (Unit)) × H) :=
  Nat.rec (motive := fun _ => Sl → Sl → Int → H → Option (((Bool) ⊕ (Unit)) × H)) (fun _ _ _ _ => none) (fun _ ih x39 x40 x41 h42 => cond (decide (x41 < (Int.ofNat x39.n)))
      ((asP (ixs 5 x39.a x39.n (wrapA .i64 (x41 - (1 : Int))))).bind fun p43 =>
    (asP (fadd 0 p43)).bind fun p44 =>
    (asT (ldc h42 p44)).bind fun s45 =>
    (asP (ixs 5 x39.a x39.n x41)).bind fun p46 =>
    (asP (fadd 0 p46)).bind fun p47 =>
    (asT (ldc h42 p47)).bind fun s48 =>
    cond (!(Op.bytesLess s45.toList s48.toList))
      (some (Sum.inl false, h42))
      (ih x39 x40 (wrapA .i64 (x41 + (1 : Int))) h42))
      (some (Sum.inr (), h42))) n
theorem corbellaw18_TreeOrders.l2_zero (k : Nat) (x39 : Sl) (x40 : Sl) (x41 : Int) (h42 : H) : corbellaw18_TreeOrders.l2 k 0 x39 x40 x41 h42 = none := rfl
theorem corbellaw18_TreeOrders.l2_succ (k n : Nat) (x39 : Sl) (x40 : Sl) (x41 : Int) (h42 : H) : corbellaw18_TreeOrders.l2 k (n + 1) x39 x40 x41 h42 = (cond (decide (x41 < (Int.ofNat x39.n)))
      ((asP (ixs 5 x39.a x39.n (wrapA .i64 (x41 - (1 : Int))))).bind fun p43 =>
    (asP (fadd 0 p43)).bind fun p44 =>
    (asT (ldc h42 p44)).bind fun s45 =>
    (asP (ixs 5 x39.a x39.n x41)).bind fun p46 =>
    (asP (fadd 0 p46)).bind fun p47 =>
    (asT (ldc h42 p47)).bind fun s48 =>
    cond (!(Op.bytesLess s45.toList s48.toList))
      (some (Sum.inl false, h42))
      (corbellaw18_TreeOrders.l2 k n x39 x40 (wrapA .i64 (x41 + (1 : Int))) h42))
      (some (Sum.inr (), h42))) := rfl
noncomputable def corbellaw18_TreeOrders.l1 (k : Nat) (n : Nat) : Sl → Sl → Sl → Sl → Int → H → Option (((Bool) ⊕ (Sl)) × H) :=
  Nat.rec (motive := fun _ => Sl → Sl → Sl → Sl → Int → H → Option (((Bool) ⊕ (Sl)) × H)) (fun _ _ _ _ _ _ => none) (fun _ ih x19 x20 x21 x22 x23 h24 => cond (decide ((Int.ofNat x22.n) > (0 : Int)))
      ((cond (decide (x23 < (Int.ofNat x19.n)))
      ((asP (ixs 1 x19.a x19.n x23)).bind fun p25 =>
    (asI .i64 (ldc h24 p25)).bind fun n26 =>
    (corbelhand_Pick.f k n26 (Int.ofNat x22.n) h24).bind fun q27 =>
    some (q27.1, q27.2))
      (some ((0 : Int), h24)) : Option ((Int) × H)).bind fun j28 =>
    (asP (ixs 1 x22.a x22.n j28.1)).bind fun p29 =>
    (asT (ldc j28.2 p29)).bind fun s30 =>
    (tree_Create.f k x21 s30 (8 : Int) j28.2).bind fun q31 =>
    cond (q31.1.2 != (0 : Int))
      (some (Sum.inl false, q31.2))
      ((asS (subs 1 (Value.slice x22.a x22.n x22.c) none (some j28.1))).bind fun s32 =>
    (asS2 (apv 9 1 16 (Value.slice (some ⟨q31.2.next, 0, none⟩) 0 0) (Value.slice s32.a s32.n s32.c) (newR q31.2 9 1 []))).bind fun q33 =>
    (asS (subs 1 (Value.slice x22.a x22.n x22.c) (some (wrapA .i64 (j28.1 + (1 : Int)))) none)).bind fun s34 =>
    (asS2 (apv 9 1 16 (Value.slice q33.1.a q33.1.n q33.1.c) (Value.slice s34.a s34.n s34.c) q33.2)).bind fun q35 =>
    ih x19 x20 q31.1.1 q35.1 (wrapA .i64 (x23 + (1 : Int))) q35.2))
      (some (Sum.inr x21, h24))) n
theorem corbellaw18_TreeOrders.l1_zero (k : Nat) (x19 : Sl) (x20 : Sl) (x21 : Sl) (x22 : Sl) (x23 : Int) (h24 : H) : corbellaw18_TreeOrders.l1 k 0 x19 x20 x21 x22 x23 h24 = none := rfl
theorem corbellaw18_TreeOrders.l1_succ (k n : Nat) (x19 : Sl) (x20 : Sl) (x21 : Sl) (x22 : Sl) (x23 : Int) (h24 : H) : corbellaw18_TreeOrders.l1 k (n + 1) x19 x20 x21 x22 x23 h24 = (cond (decide ((Int.ofNat x22.n) > (0 : Int)))
      ((cond (decide (x23 < (Int.ofNat x19.n)))
      ((asP (ixs 1 x19.a x19.n x23)).bind fun p25 =>
    (asI .i64 (ldc h24 p25)).bind fun n26 =>
    (corbelhand_Pick.f k n26 (Int.ofNat x22.n) h24).bind fun q27 =>
    some (q27.1, q27.2))
      (some ((0 : Int), h24)) : Option ((Int) × H)).bind fun j28 =>
    (asP (ixs 1 x22.a x22.n j28.1)).bind fun p29 =>
    (asT (ldc j28.2 p29)).bind fun s30 =>
    (tree_Create.f k x21 s30 (8 : Int) j28.2).bind fun q31 =>
    cond (q31.1.2 != (0 : Int))
      (some (Sum.inl false, q31.2))
      ((asS (subs 1 (Value.slice x22.a x22.n x22.c) none (some j28.1))).bind fun s32 =>
    (asS2 (apv 9 1 16 (Value.slice (some ⟨q31.2.next, 0, none⟩) 0 0) (Value.slice s32.a s32.n s32.c) (newR q31.2 9 1 []))).bind fun q33 =>
    (asS (subs 1 (Value.slice x22.a x22.n x22.c) (some (wrapA .i64 (j28.1 + (1 : Int)))) none)).bind fun s34 =>
    (asS2 (apv 9 1 16 (Value.slice q33.1.a q33.1.n q33.1.c) (Value.slice s34.a s34.n s34.c) q33.2)).bind fun q35 =>
    corbellaw18_TreeOrders.l1 k n x19 x20 q31.1.1 q35.1 (wrapA .i64 (x23 + (1 : Int))) q35.2))
      (some (Sum.inr x21, h24))) := rfl
noncomputable def corbellaw18_TreeOrders.l0 (k : Nat) (n : Nat) : Sl → Sl → Sl → Sl → Sl → Int → H → Option (((Bool) ⊕ (Sl × Sl)) × H) :=
  Nat.rec (motive := fun _ => Sl → Sl → Sl → Sl → Sl → Int → H → Option (((Bool) ⊕ (Sl × Sl)) × H)) (fun _ _ _ _ _ _ _ => none) (fun _ ih x1 x2 x3 x4 x5 x6 h7 => (cond (decide (x6 < (Int.ofNat x1.n))) (some (decide (x6 < (12 : Int)), h7))
      (some (false, h7))).bind fun g8 =>
    cond g8.1
      ((asP (ixs 1 x1.a x1.n x6)).bind fun p9 =>
    (asI .i64 (ldc g8.2 p9)).bind fun n10 =>
    (corbelhand_Name.f k n10 g8.2).bind fun q11 =>
    (tree_Create.f k x4 q11.1 (8 : Int) q11.2).bind fun q12 =>
    (corbelref16_At.f k x4 q11.1 q12.2).bind fun q13 =>
    cond (!((q12.1.2 == (11 : Int)) == (decide (q13.1 ≥ (0 : Int)))))
      (some (Sum.inl false, q13.2))
      ((cond (q12.1.2 == (0 : Int))
      ((asS2 (apv 9 1 16 (Value.slice x5.a x5.n x5.c) (Value.slice (some ⟨q13.2.next, 0, none⟩) 1 1) (newR q13.2 9 1 [(Value.string q11.1)]))).bind fun q14 =>
    some ((q12.1.1, q14.1), q14.2))
      (some ((x4, x5), q13.2)) : Option ((Sl × Sl) × H)).bind fun j15 =>
    ih x1 x2 x3 j15.1.1 j15.1.2 (wrapA .i64 (x6 + (1 : Int))) j15.2))
      (some (Sum.inr (x4, x5), g8.2))) n
theorem corbellaw18_TreeOrders.l0_zero (k : Nat) (x1 : Sl) (x2 : Sl) (x3 : Sl) (x4 : Sl) (x5 : Sl) (x6 : Int) (h7 : H) : corbellaw18_TreeOrders.l0 k 0 x1 x2 x3 x4 x5 x6 h7 = none := rfl
theorem corbellaw18_TreeOrders.l0_succ (k n : Nat) (x1 : Sl) (x2 : Sl) (x3 : Sl) (x4 : Sl) (x5 : Sl) (x6 : Int) (h7 : H) : corbellaw18_TreeOrders.l0 k (n + 1) x1 x2 x3 x4 x5 x6 h7 = ((cond (decide (x6 < (Int.ofNat x1.n))) (some (decide (x6 < (12 : Int)), h7))
      (some (false, h7))).bind fun g8 =>
    cond g8.1
      ((asP (ixs 1 x1.a x1.n x6)).bind fun p9 =>
    (asI .i64 (ldc g8.2 p9)).bind fun n10 =>
    (corbelhand_Name.f k n10 g8.2).bind fun q11 =>
    (tree_Create.f k x4 q11.1 (8 : Int) q11.2).bind fun q12 =>
    (corbelref16_At.f k x4 q11.1 q12.2).bind fun q13 =>
    cond (!((q12.1.2 == (11 : Int)) == (decide (q13.1 ≥ (0 : Int)))))
      (some (Sum.inl false, q13.2))
      ((cond (q12.1.2 == (0 : Int))
      ((asS2 (apv 9 1 16 (Value.slice x5.a x5.n x5.c) (Value.slice (some ⟨q13.2.next, 0, none⟩) 1 1) (newR q13.2 9 1 [(Value.string q11.1)]))).bind fun q14 =>
    some ((q12.1.1, q14.1), q14.2))
      (some ((x4, x5), q13.2)) : Option ((Sl × Sl) × H)).bind fun j15 =>
    corbellaw18_TreeOrders.l0 k n x1 x2 x3 j15.1.1 j15.1.2 (wrapA .i64 (x6 + (1 : Int))) j15.2))
      (some (Sum.inr (x4, x5), g8.2))) := rfl
noncomputable def corbellaw18_TreeOrders.f (k : Nat) (a0 : Sl) (a1 : Sl) (h : H) : Option ((Bool) × H) :=
  cond (!true)
      (some (false, h))
      ((corbellaw18_TreeOrders.l0 k k a0 a1 (⟨none, 0, 0⟩ : Sl) (⟨none, 0, 0⟩ : Sl) (⟨none, 0, 0⟩ : Sl) (0 : Int) h).bind fun w16 =>
    match w16.1 with
    | .inl r17 => some (r17, w16.2)
    | .inr o18 => (corbellaw18_TreeOrders.l1 k k a1 o18.1 (⟨none, 0, 0⟩ : Sl) o18.2 (0 : Int) w16.2).bind fun w36 =>
    match w36.1 with
    | .inl r37 => some (r37, w36.2)
    | .inr o38 => (corbellaw18_TreeOrders.l2 k k o18.1 o38 (1 : Int) w36.2).bind fun w49 =>
    match w49.1 with
    | .inl r50 => some (r50, w49.2)
    | .inr o51 => (tree_Same.f k o18.1 o38 w49.2).bind fun q52 =>
    (cond q52.1 ((tree_Right.f k o18.1 q52.2).bind fun q53 =>
    some (q53.1, q53.2))
      (some (false, q52.2))).bind fun g54 =>
    some (g54.1, g54.2))
noncomputable def corbellaw18_TreeOrders.T (k : Nat) : Tbl := tblOf [⟨49, anyArgs, knownW⟩,
  ⟨59, anyArgs, wr [(.int .i64)] [.str] (fun a h => corbelhand_Name.f k a h)⟩,
  ⟨51, anyArgs, wr [.sl, .str, (.int .i64)] [.sl, (.int .i64)] (fun a h => tree_Create.f k (a.1) (a.2.1) (a.2.2) h)⟩,
  ⟨57, anyArgs, wr [.sl, .str] [(.int .i64)] (fun a h => corbelref16_At.f k (a.1) (a.2) h)⟩,
  ⟨19, anyArgs, wr [(.int .i64), (.int .i64)] [(.int .i64)] (fun a h => corbelhand_Pick.f k (a.1) (a.2) h)⟩,
  ⟨60, anyArgs, wr [.sl, .sl] [.bool] (fun a h => tree_Same.f k (a.1) (a.2) h)⟩,
  ⟨56, anyArgs, wr [.sl] [.bool] (fun a h => tree_Right.f k a h)⟩]
noncomputable def corbellaw18_TreeOrders.an (k : Nat) (p : Nat) : Option Ann := cond (Nat.beq p 1018) (some (.pass [5, 6] (lrun [(5, .sl), (6, .sl), (16, (.int .i64))] (some [(4, .bool)]) [] 4 (fun a h => corbellaw18_TreeOrders.l2 k k (a.1) (a.2.1) (a.2.2) h))))
  (cond (Nat.beq p 506) (some (.pass [5] (lrun [(1, .sl), (5, .sl), (6, .sl), (7, .sl), (12, (.int .i64))] (some [(4, .bool)]) [(6, .sl)] 2 (fun a h => corbellaw18_TreeOrders.l1 k k (a.1) (a.2.1) (a.2.2.1) (a.2.2.2.1) (a.2.2.2.2) h))))
  (cond (Nat.beq p 64805) (some (.join [1, 5, 6, 7, 12] none [(13, (.int .i64))]))
  (cond (Nat.beq p 250) (some (.pass [1, 6] (lrun [(0, .sl), (1, .sl), (6, .sl), (5, .sl), (7, .sl), (8, (.int .i64))] (some [(4, .bool)]) [(5, .sl), (7, .sl)] 0 (fun a h => corbellaw18_TreeOrders.l0 k k (a.1) (a.2.1) (a.2.2.1) (a.2.2.2.1) (a.2.2.2.2.1) (a.2.2.2.2.2) h))))
  (cond (Nat.beq p 64079) (some (.join [0, 1, 6, 8] none [(5, .sl), (7, .sl)]))
  (none)))))
noncomputable def corbellaw18_TreeOrders.body : Code := (Try.f15.body).getD .skip
noncomputable def corbellaw18_TreeOrders.c250 : Code := cat corbellaw18_TreeOrders.body [1, 1, 1, 1, 0, 1, 0, 0]
noncomputable def corbellaw18_TreeOrders.c506 : Code := cat corbellaw18_TreeOrders.body [1, 1, 1, 1, 1, 0, 1, 0, 0]
noncomputable def corbellaw18_TreeOrders.c1018 : Code := cat corbellaw18_TreeOrders.body [1, 1, 1, 1, 1, 1, 0, 1, 0, 0]
set_option maxRecDepth 100000 in
theorem corbellaw18_TreeOrders.TS {C : FuncId → Bool} {X : CallF} (hX : XOk C X) (hK49 : KOk X 49) (hK110 : InsOk X 110) (hK114 : CmpOk X 114) (k : Nat) : TblS Try.prog C X (corbellaw18_TreeOrders.T k) := by
  refine tblOf_sound ?_
  intro e he
  rcases List.mem_cons.1 he with rfl | he
  · exact knownW_told hK49
  rcases List.mem_cons.1 he with rfl | he
  · exact wr_told (corbelhand_Name.told hX k)
  rcases List.mem_cons.1 he with rfl | he
  · exact wr_told (tree_Create.told hX hK110 hK114 k)
  rcases List.mem_cons.1 he with rfl | he
  · exact wr_told (corbelref16_At.told hX k)
  rcases List.mem_cons.1 he with rfl | he
  · exact wr_told (corbelhand_Pick.told hX k)
  rcases List.mem_cons.1 he with rfl | he
  · exact wr_told (tree_Same.told hX k)
  rcases List.mem_cons.1 he with rfl | he
  · exact wr_told (tree_Right.told hX hK114 k)
  exact absurd he List.not_mem_nil
set_option maxRecDepth 100000 in
theorem corbellaw18_TreeOrders.l2_pass {C : FuncId → Bool} {X : CallF} (hX : XOk C X) (hK49 : KOk X 49) (hK110 : InsOk X 110) (hK114 : CmpOk X 114) (k n : Nat) : PassS Try.prog C X 117 (.loop corbellaw18_TreeOrders.c1018) (lrun [(5, .sl), (6, .sl), (16, (.int .i64))] (some [(4, .bool)]) [] 4 (fun a h => corbellaw18_TreeOrders.l2 k n (a.1) (a.2.1) (a.2.2) h)) :=
  loop_pass (ins := [(5, .sl), (6, .sl), (16, (.int .i64))]) (rets := (some [(4, .bool)])) (outs := []) (id := 4) (tbl := corbellaw18_TreeOrders.T k) (an := corbellaw18_TreeOrders.an k) (pb := 2036) (corbellaw18_TreeOrders.TS hX hK49 hK110 hK114 k) (fun n => (fun a h => corbellaw18_TreeOrders.l2 k n (a.1) (a.2.1) (a.2.2) h)) (fun a h => rfl) (fun n a h => by kernel_rfl)
    (by
      have e : need (corbellaw18_TreeOrders.an k) corbellaw18_TreeOrders.c1018 2036 = [] := by kernel_rfl
      rw [e]; intro q hq; cases hq) n
set_option maxRecDepth 100000 in
theorem corbellaw18_TreeOrders.l1_pass {C : FuncId → Bool} {X : CallF} (hX : XOk C X) (hK49 : KOk X 49) (hK110 : InsOk X 110) (hK114 : CmpOk X 114) (k n : Nat) : PassS Try.prog C X 117 (.loop corbellaw18_TreeOrders.c506) (lrun [(1, .sl), (5, .sl), (6, .sl), (7, .sl), (12, (.int .i64))] (some [(4, .bool)]) [(6, .sl)] 2 (fun a h => corbellaw18_TreeOrders.l1 k n (a.1) (a.2.1) (a.2.2.1) (a.2.2.2.1) (a.2.2.2.2) h)) :=
  loop_pass (ins := [(1, .sl), (5, .sl), (6, .sl), (7, .sl), (12, (.int .i64))]) (rets := (some [(4, .bool)])) (outs := [(6, .sl)]) (id := 2) (tbl := corbellaw18_TreeOrders.T k) (an := corbellaw18_TreeOrders.an k) (pb := 1012) (corbellaw18_TreeOrders.TS hX hK49 hK110 hK114 k) (fun n => (fun a h => corbellaw18_TreeOrders.l1 k n (a.1) (a.2.1) (a.2.2.1) (a.2.2.2.1) (a.2.2.2.2) h)) (fun a h => rfl) (fun n a h => by kernel_rfl)
    (by
      have e : need (corbellaw18_TreeOrders.an k) corbellaw18_TreeOrders.c506 1012 = [] := by kernel_rfl
      rw [e]; intro q hq; cases hq) n
set_option maxRecDepth 100000 in
theorem corbellaw18_TreeOrders.l0_pass {C : FuncId → Bool} {X : CallF} (hX : XOk C X) (hK49 : KOk X 49) (hK110 : InsOk X 110) (hK114 : CmpOk X 114) (k n : Nat) : PassS Try.prog C X 117 (.loop corbellaw18_TreeOrders.c250) (lrun [(0, .sl), (1, .sl), (6, .sl), (5, .sl), (7, .sl), (8, (.int .i64))] (some [(4, .bool)]) [(5, .sl), (7, .sl)] 0 (fun a h => corbellaw18_TreeOrders.l0 k n (a.1) (a.2.1) (a.2.2.1) (a.2.2.2.1) (a.2.2.2.2.1) (a.2.2.2.2.2) h)) :=
  loop_pass (ins := [(0, .sl), (1, .sl), (6, .sl), (5, .sl), (7, .sl), (8, (.int .i64))]) (rets := (some [(4, .bool)])) (outs := [(5, .sl), (7, .sl)]) (id := 0) (tbl := corbellaw18_TreeOrders.T k) (an := corbellaw18_TreeOrders.an k) (pb := 500) (corbellaw18_TreeOrders.TS hX hK49 hK110 hK114 k) (fun n => (fun a h => corbellaw18_TreeOrders.l0 k n (a.1) (a.2.1) (a.2.2.1) (a.2.2.2.1) (a.2.2.2.2.1) (a.2.2.2.2.2) h)) (fun a h => rfl) (fun n a h => by kernel_rfl)
    (by
      have e : need (corbellaw18_TreeOrders.an k) corbellaw18_TreeOrders.c250 500 = [] := by kernel_rfl
      rw [e]; intro q hq; cases hq) n
set_option maxRecDepth 100000 in
theorem corbellaw18_TreeOrders.eq (k : Nat) (a : RT [.sl, .sl]) (h : H) : (fun a h => corbellaw18_TreeOrders.f k (a.1) (a.2) h) a h = kfun Try.prog (corbellaw18_TreeOrders.T k) (corbellaw18_TreeOrders.an k) (RT [.bool] × H) Try.f15 (encL [.sl, .sl] a) h (fun vs h' => (decL [.bool] vs).bind fun x => some (x, h')) := by kernel_rfl
set_option maxRecDepth 100000 in
theorem corbellaw18_TreeOrders.told {C : FuncId → Bool} {X : CallF} (hX : XOk C X) (hK49 : KOk X 49) (hK110 : InsOk X 110) (hK114 : CmpOk X 114) (k : Nat) : Den.Told Try.prog C X 15 [.sl, .sl] [.bool] (fun a h => corbellaw18_TreeOrders.f k (a.1) (a.2) h) :=
  told_of fun a h q e => fn_of (c := corbellaw18_TreeOrders.body) (corbellaw18_TreeOrders.TS hX hK49 hK110 hK114 k) Try.func15 (by kernel_rfl) (hX.no 15 _ h (by decide))
    (by
      have e : need (corbellaw18_TreeOrders.an k) corbellaw18_TreeOrders.body 1 = [(Code.loop corbellaw18_TreeOrders.c250, lrun [(0, .sl), (1, .sl), (6, .sl), (5, .sl), (7, .sl), (8, (.int .i64))] (some [(4, .bool)]) [(5, .sl), (7, .sl)] 0 (fun a h => corbellaw18_TreeOrders.l0 k k (a.1) (a.2.1) (a.2.2.1) (a.2.2.2.1) (a.2.2.2.2.1) (a.2.2.2.2.2) h)), (Code.loop corbellaw18_TreeOrders.c506, lrun [(1, .sl), (5, .sl), (6, .sl), (7, .sl), (12, (.int .i64))] (some [(4, .bool)]) [(6, .sl)] 2 (fun a h => corbellaw18_TreeOrders.l1 k k (a.1) (a.2.1) (a.2.2.1) (a.2.2.2.1) (a.2.2.2.2) h)), (Code.loop corbellaw18_TreeOrders.c1018, lrun [(5, .sl), (6, .sl), (16, (.int .i64))] (some [(4, .bool)]) [] 4 (fun a h => corbellaw18_TreeOrders.l2 k k (a.1) (a.2.1) (a.2.2) h))] := by kernel_rfl
      rw [e]; intro q hq
      rcases List.mem_cons.1 hq with rfl | hq
      · exact corbellaw18_TreeOrders.l0_pass hX hK49 hK110 hK114 k k
      rcases List.mem_cons.1 hq with rfl | hq
      · exact corbellaw18_TreeOrders.l1_pass hX hK49 hK110 hK114 k k
      rcases List.mem_cons.1 hq with rfl | hq
      · exact corbellaw18_TreeOrders.l2_pass hX hK49 hK110 hK114 k k
      cases hq)
    ((corbellaw18_TreeOrders.eq k a h).symm.trans e)
/-! ### corbel/corbelref16.Delete -/
/-! ### corbel/corbelref16.Resize -/
/-! ### corbel/corbellaw18.do -/
/-! ### corbel/tree.Counts -/
/-! ### corbel/corbelref16.Counts -/
/-! ### corbel/corbellaw18.TreeActs -/
end Go.Proofs.Ytfenkpghcbohdaa.Fwd
