/- Forward runs of functions of the program, printed by a program of this session: each function on plain values and memory, and that the code comes to it. No condition. -/
import Derived.Test.YtfenkpghcbohdaaDenCmp
import Derived.KernelRfl
import Derived.Test.YtfenkpghcbohdaaFExt
namespace Go.Proofs.Ytfenkpghcbohdaa.Fwd
open Go Den
set_option linter.unusedVariables false
/-! ### corbel/extent.Where -/
noncomputable def extent_Where.f (k : Nat) (a0 : Int) (a1 : Int) (h : H) : Option ((Int × Int × Bool) × H) :=
  (cond (decide (a1 < (0 : Int))) (some (true, h))
      (some (decide (a1 ≥ a0), h))).bind fun g1 =>
    cond g1.1
      (some (((0 : Int), (0 : Int), false), g1.2))
      (some ((wrapA .i64 (a1.tdiv (8 : Int)), a1.tmod (8 : Int), true), g1.2))
noncomputable def extent_Where.T (k : Nat) : Tbl := tblOf []
noncomputable def extent_Where.an (k : Nat) (p : Nat) : Option Ann := none
noncomputable def extent_Where.body : Code := (Try.f20.body).getD .skip
set_option maxRecDepth 100000 in
theorem extent_Where.TS {C : FuncId → Bool} {X : CallF} (hX : XOk C X) (k : Nat) : TblS Try.prog C X (extent_Where.T k) := by
  refine tblOf_sound ?_
  intro e he
  exact absurd he List.not_mem_nil
set_option maxRecDepth 100000 in
theorem extent_Where.eq (k : Nat) (a : RT [(.int .i64), (.int .i64)]) (h : H) : (fun a h => extent_Where.f k (a.1) (a.2) h) a h = kfun Try.prog (extent_Where.T k) (extent_Where.an k) (RT [(.int .i64), (.int .i64), .bool] × H) Try.f20 (encL [(.int .i64), (.int .i64)] a) h (fun vs h' => (decL [(.int .i64), (.int .i64), .bool] vs).bind fun x => some (x, h')) := by kernel_rfl
set_option maxRecDepth 100000 in
theorem extent_Where.told {C : FuncId → Bool} {X : CallF} (hX : XOk C X) (k : Nat) : Den.Told Try.prog C X 20 [(.int .i64), (.int .i64)] [(.int .i64), (.int .i64), .bool] (fun a h => extent_Where.f k (a.1) (a.2) h) :=
  told_of fun a h q e => fn_of (c := extent_Where.body) (extent_Where.TS hX k) Try.func20 (by kernel_rfl) (hX.no 20 _ h (by decide))
    (by
      have e : need (extent_Where.an k) extent_Where.body 1 = [] := by kernel_rfl
      rw [e]; intro q hq; cases hq)
    ((extent_Where.eq k a h).symm.trans e)
/-! ### corbel/extent.Right$1 -/
noncomputable def extent_Right_1.f (k : Nat) (a0 : Int) (h : H) : Option ((Bool) × H) :=
  (cond (a0 != (0 : Int)) ((cond (decide (a0 < (17 : Int))) (some (true, h))
      (some (decide (a0 ≥ (40 : Int)), h))).bind fun g1 =>
    some (g1.1, g1.2))
      (some (false, h))).bind fun g2 =>
    some (g2.1, g2.2)
noncomputable def extent_Right_1.T (k : Nat) : Tbl := tblOf []
noncomputable def extent_Right_1.an (k : Nat) (p : Nat) : Option Ann := none
noncomputable def extent_Right_1.body : Code := (Try.f72.body).getD .skip
set_option maxRecDepth 100000 in
theorem extent_Right_1.TS {C : FuncId → Bool} {X : CallF} (hX : XOk C X) (k : Nat) : TblS Try.prog C X (extent_Right_1.T k) := by
  refine tblOf_sound ?_
  intro e he
  exact absurd he List.not_mem_nil
set_option maxRecDepth 100000 in
theorem extent_Right_1.eq (k : Nat) (a : RT [(.int .i64)]) (h : H) : (fun a h => extent_Right_1.f k a h) a h = kfun Try.prog (extent_Right_1.T k) (extent_Right_1.an k) (RT [.bool] × H) Try.f72 (encL [(.int .i64)] a) h (fun vs h' => (decL [.bool] vs).bind fun x => some (x, h')) := by kernel_rfl
set_option maxRecDepth 100000 in
theorem extent_Right_1.told {C : FuncId → Bool} {X : CallF} (hX : XOk C X) (k : Nat) : Den.Told Try.prog C X 72 [(.int .i64)] [.bool] (fun a h => extent_Right_1.f k a h) :=
  told_of fun a h q e => fn_of (c := extent_Right_1.body) (extent_Right_1.TS hX k) Try.func72 (by kernel_rfl) (hX.no 72 _ h (by decide))
    (by
      have e : need (extent_Right_1.an k) extent_Right_1.body 1 = [] := by kernel_rfl
      rw [e]; intro q hq; cases hq)
    ((extent_Right_1.eq k a h).symm.trans e)
/-! ### slices.IndexFunc[[]int,int] -/
noncomputable def slices_IndexFunc_int_int_extent_Right_1.l0 (k : Nat) (n : Nat) : Sl → Unit → Int → Int → H → Option (((Int) ⊕ (Unit)) × H) :=
  Nat.rec (motive := fun _ => Sl → Unit → Int → Int → H → Option (((Int) ⊕ (Unit)) × H)) (fun _ _ _ _ _ => none) (fun _ ih x1 x2 x3 x4 h5 => cond (decide (x4 < x3))
      ((asP (ixs 1 x1.a x1.n x4)).bind fun p6 =>
    (asI .i64 (ldc h5 p6)).bind fun n7 =>
    (extent_Right_1.f k n7 h5).bind fun q8 =>
    cond q8.1
      (some (Sum.inl x4, q8.2))
      (ih x1 () x3 (wrapA .i64 (x4 + (1 : Int))) q8.2))
      (some (Sum.inr (), h5))) n
theorem slices_IndexFunc_int_int_extent_Right_1.l0_zero (k : Nat) (x1 : Sl) (x2 : Unit) (x3 : Int) (x4 : Int) (h5 : H) : slices_IndexFunc_int_int_extent_Right_1.l0 k 0 x1 x2 x3 x4 h5 = none := rfl
theorem slices_IndexFunc_int_int_extent_Right_1.l0_succ (k n : Nat) (x1 : Sl) (x2 : Unit) (x3 : Int) (x4 : Int) (h5 : H) : slices_IndexFunc_int_int_extent_Right_1.l0 k (n + 1) x1 x2 x3 x4 h5 = (cond (decide (x4 < x3))
      ((asP (ixs 1 x1.a x1.n x4)).bind fun p6 =>
    (asI .i64 (ldc h5 p6)).bind fun n7 =>
    (extent_Right_1.f k n7 h5).bind fun q8 =>
    cond q8.1
      (some (Sum.inl x4, q8.2))
      (slices_IndexFunc_int_int_extent_Right_1.l0 k n x1 () x3 (wrapA .i64 (x4 + (1 : Int))) q8.2))
      (some (Sum.inr (), h5))) := rfl
noncomputable def slices_IndexFunc_int_int_extent_Right_1.f (k : Nat) (a0 : Sl) (a1 : Unit) (h : H) : Option ((Int) × H) :=
  (slices_IndexFunc_int_int_extent_Right_1.l0 k k a0 () (Int.ofNat a0.n) (0 : Int) h).bind fun w9 =>
    match w9.1 with
    | .inl r10 => some (r10, w9.2)
    | .inr o11 => some ((-1 : Int), w9.2)
noncomputable def slices_IndexFunc_int_int_extent_Right_1.T (k : Nat) : Tbl := tblOf [⟨72, anyArgs, wr [(.int .i64)] [.bool] (fun a h => extent_Right_1.f k a h)⟩]
noncomputable def slices_IndexFunc_int_int_extent_Right_1.an (k : Nat) (p : Nat) : Option Ann := cond (Nat.beq p 26) (some (.pass [] (lrun [(0, .sl), (1, (.fn 72 0)), (7, (.int .i64)), (8, (.int .i64))] (some [(4, (.int .i64))]) [] 0 (fun a h => slices_IndexFunc_int_int_extent_Right_1.l0 k k (a.1) (a.2.1) (a.2.2.1) (a.2.2.2) h))))
  (none)
noncomputable def slices_IndexFunc_int_int_extent_Right_1.body : Code := (Try.f104.body).getD .skip
noncomputable def slices_IndexFunc_int_int_extent_Right_1.c26 : Code := cat slices_IndexFunc_int_int_extent_Right_1.body [1, 0, 1, 0, 0]
set_option maxRecDepth 100000 in
theorem slices_IndexFunc_int_int_extent_Right_1.TS {C : FuncId → Bool} {X : CallF} (hX : XOk C X) (k : Nat) : TblS Try.prog C X (slices_IndexFunc_int_int_extent_Right_1.T k) := by
  refine tblOf_sound ?_
  intro e he
  rcases List.mem_cons.1 he with rfl | he
  · exact wr_told (extent_Right_1.told hX k)
  exact absurd he List.not_mem_nil
set_option maxRecDepth 100000 in
theorem slices_IndexFunc_int_int_extent_Right_1.l0_pass {C : FuncId → Bool} {X : CallF} (hX : XOk C X) (k n : Nat) : PassS Try.prog C X 19 (.loop slices_IndexFunc_int_int_extent_Right_1.c26) (lrun [(0, .sl), (1, (.fn 72 0)), (7, (.int .i64)), (8, (.int .i64))] (some [(4, (.int .i64))]) [] 0 (fun a h => slices_IndexFunc_int_int_extent_Right_1.l0 k n (a.1) (a.2.1) (a.2.2.1) (a.2.2.2) h)) :=
  loop_pass (ins := [(0, .sl), (1, (.fn 72 0)), (7, (.int .i64)), (8, (.int .i64))]) (rets := (some [(4, (.int .i64))])) (outs := []) (id := 0) (tbl := slices_IndexFunc_int_int_extent_Right_1.T k) (an := slices_IndexFunc_int_int_extent_Right_1.an k) (pb := 52) (slices_IndexFunc_int_int_extent_Right_1.TS hX k) (fun n => (fun a h => slices_IndexFunc_int_int_extent_Right_1.l0 k n (a.1) (a.2.1) (a.2.2.1) (a.2.2.2) h)) (fun a h => rfl) (fun n a h => by kernel_rfl)
    (by
      have e : need (slices_IndexFunc_int_int_extent_Right_1.an k) slices_IndexFunc_int_int_extent_Right_1.c26 52 = [] := by kernel_rfl
      rw [e]; intro q hq; cases hq) n
set_option maxRecDepth 100000 in
theorem slices_IndexFunc_int_int_extent_Right_1.eq (k : Nat) (a : RT [.sl, (.fn 72 0)]) (h : H) : (fun a h => slices_IndexFunc_int_int_extent_Right_1.f k (a.1) (a.2) h) a h = kfun Try.prog (slices_IndexFunc_int_int_extent_Right_1.T k) (slices_IndexFunc_int_int_extent_Right_1.an k) (RT [(.int .i64)] × H) Try.f104 (encL [.sl, (.fn 72 0)] a) h (fun vs h' => (decL [(.int .i64)] vs).bind fun x => some (x, h')) := by kernel_rfl
set_option maxRecDepth 100000 in
theorem slices_IndexFunc_int_int_extent_Right_1.told {C : FuncId → Bool} {X : CallF} (hX : XOk C X) (k : Nat) : Den.Told Try.prog C X 104 [.sl, (.fn 72 0)] [(.int .i64)] (fun a h => slices_IndexFunc_int_int_extent_Right_1.f k (a.1) (a.2) h) :=
  told_of fun a h q e => fn_of (c := slices_IndexFunc_int_int_extent_Right_1.body) (slices_IndexFunc_int_int_extent_Right_1.TS hX k) Try.func104 (by kernel_rfl) (hX.no 104 _ h (by decide))
    (by
      have e : need (slices_IndexFunc_int_int_extent_Right_1.an k) slices_IndexFunc_int_int_extent_Right_1.body 1 = [(Code.loop slices_IndexFunc_int_int_extent_Right_1.c26, lrun [(0, .sl), (1, (.fn 72 0)), (7, (.int .i64)), (8, (.int .i64))] (some [(4, (.int .i64))]) [] 0 (fun a h => slices_IndexFunc_int_int_extent_Right_1.l0 k k (a.1) (a.2.1) (a.2.2.1) (a.2.2.2) h))] := by kernel_rfl
      rw [e]; intro q hq
      rcases List.mem_cons.1 hq with rfl | hq
      · exact slices_IndexFunc_int_int_extent_Right_1.l0_pass hX k k
      cases hq)
    ((slices_IndexFunc_int_int_extent_Right_1.eq k a h).symm.trans e)
/-! ### slices.ContainsFunc[[]int,int] -/
noncomputable def slices_ContainsFunc_int_int_extent_Right_1.f (k : Nat) (a0 : Sl) (a1 : Unit) (h : H) : Option ((Bool) × H) :=
  (slices_IndexFunc_int_int_extent_Right_1.f k a0 () h).bind fun q1 =>
    some (decide (q1.1 ≥ (0 : Int)), q1.2)
noncomputable def slices_ContainsFunc_int_int_extent_Right_1.T (k : Nat) : Tbl := tblOf [⟨104, chkF [(1, 72)], wr [.sl, (.fn 72 0)] [(.int .i64)] (fun a h => slices_IndexFunc_int_int_extent_Right_1.f k (a.1) (a.2) h)⟩]
noncomputable def slices_ContainsFunc_int_int_extent_Right_1.an (k : Nat) (p : Nat) : Option Ann := none
noncomputable def slices_ContainsFunc_int_int_extent_Right_1.body : Code := (Try.f71.body).getD .skip
set_option maxRecDepth 100000 in
theorem slices_ContainsFunc_int_int_extent_Right_1.TS {C : FuncId → Bool} {X : CallF} (hX : XOk C X) (k : Nat) : TblS Try.prog C X (slices_ContainsFunc_int_int_extent_Right_1.T k) := by
  refine tblOf_sound ?_
  intro e he
  rcases List.mem_cons.1 he with rfl | he
  · exact wr_told (slices_IndexFunc_int_int_extent_Right_1.told hX k)
  exact absurd he List.not_mem_nil
set_option maxRecDepth 100000 in
theorem slices_ContainsFunc_int_int_extent_Right_1.eq (k : Nat) (a : RT [.sl, (.fn 72 0)]) (h : H) : (fun a h => slices_ContainsFunc_int_int_extent_Right_1.f k (a.1) (a.2) h) a h = kfun Try.prog (slices_ContainsFunc_int_int_extent_Right_1.T k) (slices_ContainsFunc_int_int_extent_Right_1.an k) (RT [.bool] × H) Try.f71 (encL [.sl, (.fn 72 0)] a) h (fun vs h' => (decL [.bool] vs).bind fun x => some (x, h')) := by kernel_rfl
set_option maxRecDepth 100000 in
theorem slices_ContainsFunc_int_int_extent_Right_1.told {C : FuncId → Bool} {X : CallF} (hX : XOk C X) (k : Nat) : Den.Told Try.prog C X 71 [.sl, (.fn 72 0)] [.bool] (fun a h => slices_ContainsFunc_int_int_extent_Right_1.f k (a.1) (a.2) h) :=
  told_of fun a h q e => fn_of (c := slices_ContainsFunc_int_int_extent_Right_1.body) (slices_ContainsFunc_int_int_extent_Right_1.TS hX k) Try.func71 (by kernel_rfl) (hX.no 71 _ h (by decide))
    (by
      have e : need (slices_ContainsFunc_int_int_extent_Right_1.an k) slices_ContainsFunc_int_int_extent_Right_1.body 1 = [] := by kernel_rfl
      rw [e]; intro q hq; cases hq)
    ((slices_ContainsFunc_int_int_extent_Right_1.eq k a h).symm.trans e)
/-! ### corbel/extent.sized -/
noncomputable def extent_sized.f (k : Nat) (a0 : Int) (h : H) : Option ((Bool) × H) :=
  (cond (decide (a0 ≥ (0 : Int))) (some (decide (a0 ≤ (256 : Int)), h))
      (some (false, h))).bind fun g1 =>
    (cond g1.1 (some ((a0.tmod (8 : Int)) == (0 : Int), g1.2))
      (some (false, g1.2))).bind fun g2 =>
    some (g2.1, g2.2)
noncomputable def extent_sized.T (k : Nat) : Tbl := tblOf []
noncomputable def extent_sized.an (k : Nat) (p : Nat) : Option Ann := none
noncomputable def extent_sized.body : Code := (Try.f69.body).getD .skip
set_option maxRecDepth 100000 in
theorem extent_sized.TS {C : FuncId → Bool} {X : CallF} (hX : XOk C X) (k : Nat) : TblS Try.prog C X (extent_sized.T k) := by
  refine tblOf_sound ?_
  intro e he
  exact absurd he List.not_mem_nil
set_option maxRecDepth 100000 in
theorem extent_sized.eq (k : Nat) (a : RT [(.int .i64)]) (h : H) : (fun a h => extent_sized.f k a h) a h = kfun Try.prog (extent_sized.T k) (extent_sized.an k) (RT [.bool] × H) Try.f69 (encL [(.int .i64)] a) h (fun vs h' => (decL [.bool] vs).bind fun x => some (x, h')) := by kernel_rfl
set_option maxRecDepth 100000 in
theorem extent_sized.told {C : FuncId → Bool} {X : CallF} (hX : XOk C X) (k : Nat) : Den.Told Try.prog C X 69 [(.int .i64)] [.bool] (fun a h => extent_sized.f k a h) :=
  told_of fun a h q e => fn_of (c := extent_sized.body) (extent_sized.TS hX k) Try.func69 (by kernel_rfl) (hX.no 69 _ h (by decide))
    (by
      have e : need (extent_sized.an k) extent_sized.body 1 = [] := by kernel_rfl
      rw [e]; intro q hq; cases hq)
    ((extent_sized.eq k a h).symm.trans e)
/-! ### corbel/extent.Right -/
noncomputable def extent_Right.f (k : Nat) (a0 : Int) (a1 : Sl) (h : H) : Option ((Bool) × H) :=
  (slices_ContainsFunc_int_int_extent_Right_1.f k a1 () h).bind fun q1 =>
    (extent_sized.f k a0 q1.2).bind fun q2 =>
    (cond q2.1 (some ((Int.ofNat a1.n) == (wrapA .i64 (a0.tdiv (8 : Int))), q2.2))
      (some (false, q2.2))).bind fun g3 =>
    (cond g3.1 (some (!q1.1, g3.2))
      (some (false, g3.2))).bind fun g4 =>
    some (g4.1, g4.2)
noncomputable def extent_Right.T (k : Nat) : Tbl := tblOf [⟨71, chkF [(1, 72)], wr [.sl, (.fn 72 0)] [.bool] (fun a h => slices_ContainsFunc_int_int_extent_Right_1.f k (a.1) (a.2) h)⟩,
  ⟨69, anyArgs, wr [(.int .i64)] [.bool] (fun a h => extent_sized.f k a h)⟩]
noncomputable def extent_Right.an (k : Nat) (p : Nat) : Option Ann := none
noncomputable def extent_Right.body : Code := (Try.f30.body).getD .skip
set_option maxRecDepth 100000 in
theorem extent_Right.TS {C : FuncId → Bool} {X : CallF} (hX : XOk C X) (k : Nat) : TblS Try.prog C X (extent_Right.T k) := by
  refine tblOf_sound ?_
  intro e he
  rcases List.mem_cons.1 he with rfl | he
  · exact wr_told (slices_ContainsFunc_int_int_extent_Right_1.told hX k)
  rcases List.mem_cons.1 he with rfl | he
  · exact wr_told (extent_sized.told hX k)
  exact absurd he List.not_mem_nil
set_option maxRecDepth 100000 in
theorem extent_Right.eq (k : Nat) (a : RT [(.int .i64), .sl]) (h : H) : (fun a h => extent_Right.f k (a.1) (a.2) h) a h = kfun Try.prog (extent_Right.T k) (extent_Right.an k) (RT [.bool] × H) Try.f30 (encL [(.int .i64), .sl] a) h (fun vs h' => (decL [.bool] vs).bind fun x => some (x, h')) := by kernel_rfl
set_option maxRecDepth 100000 in
theorem extent_Right.told {C : FuncId → Bool} {X : CallF} (hX : XOk C X) (k : Nat) : Den.Told Try.prog C X 30 [(.int .i64), .sl] [.bool] (fun a h => extent_Right.f k (a.1) (a.2) h) :=
  told_of fun a h q e => fn_of (c := extent_Right.body) (extent_Right.TS hX k) Try.func30 (by kernel_rfl) (hX.no 30 _ h (by decide))
    (by
      have e : need (extent_Right.an k) extent_Right.body 1 = [] := by kernel_rfl
      rw [e]; intro q hq; cases hq)
    ((extent_Right.eq k a h).symm.trans e)
/-! ### corbel/corbellaw17.known -/
noncomputable def corbellaw17_known.f (k : Nat) (h : H) : Option ((Bool) × H) :=
  (extent_Where.f k (16 : Int) (9 : Int) h).bind fun q1 =>
    (cond q1.1.2.2 (some (q1.1.1 == (1 : Int), q1.2))
      (some (false, q1.2))).bind fun g2 =>
    (cond g2.1 (some (q1.1.2.1 == (1 : Int), g2.2))
      (some (false, g2.2))).bind fun g3 =>
    (cond g3.1 ((extent_Right.f k (16 : Int) (⟨(some ⟨g3.2.next, 0, none⟩), 2, 2⟩ : Sl) (newR g3.2 3 1 [(Value.int .i64 (0 : Int)), (Value.int .i64 (17 : Int))])).bind fun q4 =>
    some (q4.1, q4.2))
      (some (false, g3.2))).bind fun g5 =>
    some (g5.1, g5.2)
noncomputable def corbellaw17_known.T (k : Nat) : Tbl := tblOf [⟨20, anyArgs, wr [(.int .i64), (.int .i64)] [(.int .i64), (.int .i64), .bool] (fun a h => extent_Where.f k (a.1) (a.2) h)⟩,
  ⟨30, anyArgs, wr [(.int .i64), .sl] [.bool] (fun a h => extent_Right.f k (a.1) (a.2) h)⟩]
noncomputable def corbellaw17_known.an (k : Nat) (p : Nat) : Option Ann := none
noncomputable def corbellaw17_known.body : Code := (Try.f18.body).getD .skip
set_option maxRecDepth 100000 in
theorem corbellaw17_known.TS {C : FuncId → Bool} {X : CallF} (hX : XOk C X) (k : Nat) : TblS Try.prog C X (corbellaw17_known.T k) := by
  refine tblOf_sound ?_
  intro e he
  rcases List.mem_cons.1 he with rfl | he
  · exact wr_told (extent_Where.told hX k)
  rcases List.mem_cons.1 he with rfl | he
  · exact wr_told (extent_Right.told hX k)
  exact absurd he List.not_mem_nil
set_option maxRecDepth 100000 in
theorem corbellaw17_known.eq (k : Nat) (a : RT []) (h : H) : (fun a h => corbellaw17_known.f k h) a h = kfun Try.prog (corbellaw17_known.T k) (corbellaw17_known.an k) (RT [.bool] × H) Try.f18 (encL [] a) h (fun vs h' => (decL [.bool] vs).bind fun x => some (x, h')) := by kernel_rfl
set_option maxRecDepth 100000 in
theorem corbellaw17_known.told {C : FuncId → Bool} {X : CallF} (hX : XOk C X) (h0 : ∀ args h, X 18 args h = none) (k : Nat) : Den.Told Try.prog C X 18 [] [.bool] (fun a h => corbellaw17_known.f k h) :=
  told_of fun a h q e => fn_of (c := corbellaw17_known.body) (corbellaw17_known.TS hX k) Try.func18 (by kernel_rfl) (h0 _ h)
    (by
      have e : need (corbellaw17_known.an k) corbellaw17_known.body 1 = [] := by kernel_rfl
      rw [e]; intro q hq; cases hq)
    ((corbellaw17_known.eq k a h).symm.trans e)
end Go.Proofs.Ytfenkpghcbohdaa.Fwd
