/- Forward runs of functions of the program, printed by a program of this session: each function on plain values and memory, and that the code comes to it. No condition. -/
import Derived.Test.YtfenkpghcbohdaaDenCmp
import Derived.KernelRfl
import Derived.Test.YtfenkpghcbohdaaPcFRoot
namespace Go.Proofs.Ytfenkpghcbohdaa.Fwd
open Go Den
set_option linter.unusedVariables false
/-! ### corbel/corbelhand.Name -/
noncomputable def corbelhand_Name.f (k : Nat) (a0 : Int) (h : H) : Option ((ByteArray) × H) :=
  (corbelhand_Pick.f k a0 (7 : Int) h).bind fun q1 =>
    (asT (ixv 7 1 #[(Value.string (⟨#[97]⟩ : ByteArray)), (Value.string (⟨#[98]⟩ : ByteArray)), (Value.string (⟨#[99]⟩ : ByteArray)), (Value.string (⟨#[118, 111, 108, 49]⟩ : ByteArray)), (Value.string (⟨#[115, 110, 97, 112]⟩ : ByteArray)), (Value.string (⟨#[122, 122, 57]⟩ : ByteArray)), (Value.string (⟨#[120]⟩ : ByteArray))] q1.1)).bind fun s2 =>
    some (s2, q1.2)
noncomputable def corbelhand_Name.T (k : Nat) : Tbl := tblOf [⟨19, anyArgs, wr [(.int .i64), (.int .i64)] [(.int .i64)] (fun a h => corbelhand_Pick.f k (a.1) (a.2) h)⟩]
noncomputable def corbelhand_Name.an (k : Nat) (p : Nat) : Option Ann := none
noncomputable def corbelhand_Name.body : Code := (Try.f59.body).getD .skip
set_option maxRecDepth 100000 in
theorem corbelhand_Name.TS {C : FuncId → Bool} {X : CallF} (hX : XOk C X) (k : Nat) : TblS Try.prog C X (corbelhand_Name.T k) := by
  refine tblOf_sound ?_
  intro e he
  rcases List.mem_cons.1 he with rfl | he
  · exact wr_told (corbelhand_Pick.told hX k)
  exact absurd he List.not_mem_nil
set_option maxRecDepth 100000 in
theorem corbelhand_Name.eq (k : Nat) (a : RT [(.int .i64)]) (h : H) : (fun a h => corbelhand_Name.f k a h) a h = kfun Try.prog (corbelhand_Name.T k) (corbelhand_Name.an k) (RT [.str] × H) Try.f59 (encL [(.int .i64)] a) h (fun vs h' => (decL [.str] vs).bind fun x => some (x, h')) := by kernel_rfl
set_option maxRecDepth 100000 in
theorem corbelhand_Name.told {C : FuncId → Bool} {X : CallF} (hX : XOk C X) (k : Nat) : Den.Told Try.prog C X 59 [(.int .i64)] [.str] (fun a h => corbelhand_Name.f k a h) :=
  told_of fun a h q e => fn_of (c := corbelhand_Name.body) (corbelhand_Name.TS hX k) Try.func59 (by kernel_rfl) (hX.no 59 _ h (by decide))
    (by
      have e : need (corbelhand_Name.an k) corbelhand_Name.body 1 = [] := by kernel_rfl
      rw [e]; intro q hq; cases hq)
    ((corbelhand_Name.eq k a h).symm.trans e)
/-! ### corbel/corbelref16.IsName -/
/-! ### corbel/corbelref16.RightMap -/
/-! ### corbel/corbelref16.At -/
noncomputable def corbelref16_At.l0 (k : Nat) (n : Nat) : Sl → ByteArray → Int → H → Option (((Int) ⊕ (Unit)) × H) :=
  Nat.rec (motive := fun _ => Sl → ByteArray → Int → H → Option (((Int) ⊕ (Unit)) × H)) (fun _ _ _ _ => none) (fun _ ih x1 x2 x3 h4 => cond (decide (x3 < (Int.ofNat x1.n)))
      ((asP (ixs 5 x1.a x1.n x3)).bind fun p5 =>
    (asP (fadd 0 p5)).bind fun p6 =>
    (asT (ldc h4 p6)).bind fun s7 =>
    cond (s7.toList == x2.toList)
      (some (Sum.inl x3, h4))
      (ih x1 x2 (wrapA .i64 (x3 + (1 : Int))) h4))
      (some (Sum.inr (), h4))) n
theorem corbelref16_At.l0_zero (k : Nat) (x1 : Sl) (x2 : ByteArray) (x3 : Int) (h4 : H) : corbelref16_At.l0 k 0 x1 x2 x3 h4 = none := rfl
theorem corbelref16_At.l0_succ (k n : Nat) (x1 : Sl) (x2 : ByteArray) (x3 : Int) (h4 : H) : corbelref16_At.l0 k (n + 1) x1 x2 x3 h4 = (cond (decide (x3 < (Int.ofNat x1.n)))
      ((asP (ixs 5 x1.a x1.n x3)).bind fun p5 =>
    (asP (fadd 0 p5)).bind fun p6 =>
    (asT (ldc h4 p6)).bind fun s7 =>
    cond (s7.toList == x2.toList)
      (some (Sum.inl x3, h4))
      (corbelref16_At.l0 k n x1 x2 (wrapA .i64 (x3 + (1 : Int))) h4))
      (some (Sum.inr (), h4))) := rfl
noncomputable def corbelref16_At.f (k : Nat) (a0 : Sl) (a1 : ByteArray) (h : H) : Option ((Int) × H) :=
  (corbelref16_At.l0 k k a0 a1 (0 : Int) h).bind fun w8 =>
    match w8.1 with
    | .inl r9 => some (r9, w8.2)
    | .inr o10 => some ((-1 : Int), w8.2)
noncomputable def corbelref16_At.T (k : Nat) : Tbl := tblOf []
noncomputable def corbelref16_At.an (k : Nat) (p : Nat) : Option Ann := cond (Nat.beq p 26) (some (.pass [] (lrun [(0, .sl), (1, .str), (5, (.int .i64))] (some [(4, (.int .i64))]) [] 0 (fun a h => corbelref16_At.l0 k k (a.1) (a.2.1) (a.2.2) h))))
  (none)
noncomputable def corbelref16_At.body : Code := (Try.f57.body).getD .skip
noncomputable def corbelref16_At.c26 : Code := cat corbelref16_At.body [1, 0, 1, 0, 0]
set_option maxRecDepth 100000 in
theorem corbelref16_At.TS {C : FuncId → Bool} {X : CallF} (hX : XOk C X) (k : Nat) : TblS Try.prog C X (corbelref16_At.T k) := by
  refine tblOf_sound ?_
  intro e he
  exact absurd he List.not_mem_nil
set_option maxRecDepth 100000 in
theorem corbelref16_At.l0_pass {C : FuncId → Bool} {X : CallF} (hX : XOk C X) (k n : Nat) : PassS Try.prog C X 20 (.loop corbelref16_At.c26) (lrun [(0, .sl), (1, .str), (5, (.int .i64))] (some [(4, (.int .i64))]) [] 0 (fun a h => corbelref16_At.l0 k n (a.1) (a.2.1) (a.2.2) h)) :=
  loop_pass (ins := [(0, .sl), (1, .str), (5, (.int .i64))]) (rets := (some [(4, (.int .i64))])) (outs := []) (id := 0) (tbl := corbelref16_At.T k) (an := corbelref16_At.an k) (pb := 52) (corbelref16_At.TS hX k) (fun n => (fun a h => corbelref16_At.l0 k n (a.1) (a.2.1) (a.2.2) h)) (fun a h => rfl) (fun n a h => by kernel_rfl)
    (by
      have e : need (corbelref16_At.an k) corbelref16_At.c26 52 = [] := by kernel_rfl
      rw [e]; intro q hq; cases hq) n
set_option maxRecDepth 100000 in
theorem corbelref16_At.eq (k : Nat) (a : RT [.sl, .str]) (h : H) : (fun a h => corbelref16_At.f k (a.1) (a.2) h) a h = kfun Try.prog (corbelref16_At.T k) (corbelref16_At.an k) (RT [(.int .i64)] × H) Try.f57 (encL [.sl, .str] a) h (fun vs h' => (decL [(.int .i64)] vs).bind fun x => some (x, h')) := by kernel_rfl
set_option maxRecDepth 100000 in
theorem corbelref16_At.told {C : FuncId → Bool} {X : CallF} (hX : XOk C X) (k : Nat) : Den.Told Try.prog C X 57 [.sl, .str] [(.int .i64)] (fun a h => corbelref16_At.f k (a.1) (a.2) h) :=
  told_of fun a h q e => fn_of (c := corbelref16_At.body) (corbelref16_At.TS hX k) Try.func57 (by kernel_rfl) (hX.no 57 _ h (by decide))
    (by
      have e : need (corbelref16_At.an k) corbelref16_At.body 1 = [(Code.loop corbelref16_At.c26, lrun [(0, .sl), (1, .str), (5, (.int .i64))] (some [(4, (.int .i64))]) [] 0 (fun a h => corbelref16_At.l0 k k (a.1) (a.2.1) (a.2.2) h))] := by kernel_rfl
      rw [e]; intro q hq
      rcases List.mem_cons.1 hq with rfl | hq
      · exact corbelref16_At.l0_pass hX k k
      cases hq)
    ((corbelref16_At.eq k a h).symm.trans e)
/-! ### corbel/corbelref16.RightTree -/
/-! ### corbel/corbelref16.RightSize -/
/-! ### corbel/corbelref16.Sized -/
/-! ### corbel/corbelref16.copied -/
/-! ### corbel/corbelref16.put -/
/-! ### corbel/corbelref16.Create -/
/-! ### corbel/corbelref16.branch -/
/-! ### corbel/corbelref16.Snapshot -/
/-! ### corbel/corbelref16.Clone -/
/-! ### corbel/corbellaw19.of -/
/-! ### corbel/tree.IsName$1 -/
noncomputable def tree_IsName_1.f (k : Nat) (a0 : Int) (h : H) : Option ((Bool) × H) :=
  (cond (decide (a0 < (97 : Int))) (some (true, h))
      (some (decide (a0 > (122 : Int)), h))).bind fun g1 =>
    (cond g1.1 ((cond (decide (a0 < (48 : Int))) (some (true, g1.2))
      (some (decide (a0 > (57 : Int)), g1.2))).bind fun g2 =>
    some (g2.1, g2.2))
      (some (false, g1.2))).bind fun g3 =>
    some (g3.1, g3.2)
noncomputable def tree_IsName_1.T (k : Nat) : Tbl := tblOf []
noncomputable def tree_IsName_1.an (k : Nat) (p : Nat) : Option Ann := none
noncomputable def tree_IsName_1.body : Code := (Try.f102.body).getD .skip
set_option maxRecDepth 100000 in
theorem tree_IsName_1.TS {C : FuncId → Bool} {X : CallF} (hX : XOk C X) (k : Nat) : TblS Try.prog C X (tree_IsName_1.T k) := by
  refine tblOf_sound ?_
  intro e he
  exact absurd he List.not_mem_nil
set_option maxRecDepth 100000 in
theorem tree_IsName_1.eq (k : Nat) (a : RT [(.int .i32)]) (h : H) : (fun a h => tree_IsName_1.f k a h) a h = kfun Try.prog (tree_IsName_1.T k) (tree_IsName_1.an k) (RT [.bool] × H) Try.f102 (encL [(.int .i32)] a) h (fun vs h' => (decL [.bool] vs).bind fun x => some (x, h')) := by kernel_rfl
set_option maxRecDepth 100000 in
theorem tree_IsName_1.told {C : FuncId → Bool} {X : CallF} (hX : XOk C X) (k : Nat) : Den.Told Try.prog C X 102 [(.int .i32)] [.bool] (fun a h => tree_IsName_1.f k a h) :=
  told_of fun a h q e => fn_of (c := tree_IsName_1.body) (tree_IsName_1.TS hX k) Try.func102 (by kernel_rfl) (hX.no 102 _ h (by decide))
    (by
      have e : need (tree_IsName_1.an k) tree_IsName_1.body 1 = [] := by kernel_rfl
      rw [e]; intro q hq; cases hq)
    ((tree_IsName_1.eq k a h).symm.trans e)
/-! ### strings.indexFunc -/
noncomputable def strings_indexFunc_tree_IsName_1.l0 (k : Nat) (n : Nat) : Unit → Bool → (Option Addr) → H → Option (((Int) ⊕ (Unit)) × H) :=
  Nat.rec (motive := fun _ => Unit → Bool → (Option Addr) → H → Option (((Int) ⊕ (Unit)) × H)) (fun _ _ _ _ => none) (fun _ ih x1 x2 x3 h4 => (nxt h4 (some (Value.pointer x3))).bind fun q5 =>
    match q5 with
    | none => some (Sum.inr (), h4)
    | some r6 => (tree_IsName_1.f k r6.2.1 r6.2.2).bind fun q7 =>
    cond (q7.1 == x2)
      (some (Sum.inl (Int.ofNat r6.1), q7.2))
      (ih () x2 x3 q7.2)) n
theorem strings_indexFunc_tree_IsName_1.l0_zero (k : Nat) (x1 : Unit) (x2 : Bool) (x3 : Option Addr) (h4 : H) : strings_indexFunc_tree_IsName_1.l0 k 0 x1 x2 x3 h4 = none := rfl
theorem strings_indexFunc_tree_IsName_1.l0_succ (k n : Nat) (x1 : Unit) (x2 : Bool) (x3 : Option Addr) (h4 : H) : strings_indexFunc_tree_IsName_1.l0 k (n + 1) x1 x2 x3 h4 = ((nxt h4 (some (Value.pointer x3))).bind fun q5 =>
    match q5 with
    | none => some (Sum.inr (), h4)
    | some r6 => (tree_IsName_1.f k r6.2.1 r6.2.2).bind fun q7 =>
    cond (q7.1 == x2)
      (some (Sum.inl (Int.ofNat r6.1), q7.2))
      (strings_indexFunc_tree_IsName_1.l0 k n () x2 x3 q7.2)) := rfl
noncomputable def strings_indexFunc_tree_IsName_1.f (k : Nat) (a0 : ByteArray) (a1 : Unit) (a2 : Bool) (h : H) : Option ((Int) × H) :=
  (strings_indexFunc_tree_IsName_1.l0 k k () a2 (some ⟨h.next, 0, none⟩) (h.new (.iter a0 0 h.clock))).bind fun w8 =>
    match w8.1 with
    | .inl r9 => some (r9, w8.2)
    | .inr o10 => some ((-1 : Int), w8.2)
noncomputable def strings_indexFunc_tree_IsName_1.T (k : Nat) : Tbl := tblOf [⟨102, anyArgs, wr [(.int .i32)] [.bool] (fun a h => tree_IsName_1.f k a h)⟩]
noncomputable def strings_indexFunc_tree_IsName_1.an (k : Nat) (p : Nat) : Option Ann := cond (Nat.beq p 26) (some (.pass [] (lrun [(1, (.fn 102 0)), (2, .bool), (10, .ptr)] (some [(6, (.int .i64))]) [] 0 (fun a h => strings_indexFunc_tree_IsName_1.l0 k k (a.1) (a.2.1) (a.2.2) h))))
  (none)
noncomputable def strings_indexFunc_tree_IsName_1.body : Code := (Try.f120.body).getD .skip
noncomputable def strings_indexFunc_tree_IsName_1.c26 : Code := cat strings_indexFunc_tree_IsName_1.body [1, 0, 1, 0, 0]
set_option maxRecDepth 100000 in
theorem strings_indexFunc_tree_IsName_1.TS {C : FuncId → Bool} {X : CallF} (hX : XOk C X) (k : Nat) : TblS Try.prog C X (strings_indexFunc_tree_IsName_1.T k) := by
  refine tblOf_sound ?_
  intro e he
  rcases List.mem_cons.1 he with rfl | he
  · exact wr_told (tree_IsName_1.told hX k)
  exact absurd he List.not_mem_nil
set_option maxRecDepth 100000 in
theorem strings_indexFunc_tree_IsName_1.l0_pass {C : FuncId → Bool} {X : CallF} (hX : XOk C X) (k n : Nat) : PassS Try.prog C X 21 (.loop strings_indexFunc_tree_IsName_1.c26) (lrun [(1, (.fn 102 0)), (2, .bool), (10, .ptr)] (some [(6, (.int .i64))]) [] 0 (fun a h => strings_indexFunc_tree_IsName_1.l0 k n (a.1) (a.2.1) (a.2.2) h)) :=
  loop_pass (ins := [(1, (.fn 102 0)), (2, .bool), (10, .ptr)]) (rets := (some [(6, (.int .i64))])) (outs := []) (id := 0) (tbl := strings_indexFunc_tree_IsName_1.T k) (an := strings_indexFunc_tree_IsName_1.an k) (pb := 52) (strings_indexFunc_tree_IsName_1.TS hX k) (fun n => (fun a h => strings_indexFunc_tree_IsName_1.l0 k n (a.1) (a.2.1) (a.2.2) h)) (fun a h => rfl) (fun n a h => by kernel_rfl)
    (by
      have e : need (strings_indexFunc_tree_IsName_1.an k) strings_indexFunc_tree_IsName_1.c26 52 = [] := by kernel_rfl
      rw [e]; intro q hq; cases hq) n
set_option maxRecDepth 100000 in
theorem strings_indexFunc_tree_IsName_1.eq (k : Nat) (a : RT [.str, (.fn 102 0), .bool]) (h : H) : (fun a h => strings_indexFunc_tree_IsName_1.f k (a.1) (a.2.1) (a.2.2) h) a h = kfun Try.prog (strings_indexFunc_tree_IsName_1.T k) (strings_indexFunc_tree_IsName_1.an k) (RT [(.int .i64)] × H) Try.f120 (encL [.str, (.fn 102 0), .bool] a) h (fun vs h' => (decL [(.int .i64)] vs).bind fun x => some (x, h')) := by kernel_rfl
set_option maxRecDepth 100000 in
theorem strings_indexFunc_tree_IsName_1.told {C : FuncId → Bool} {X : CallF} (hX : XOk C X) (k : Nat) : Den.Told Try.prog C X 120 [.str, (.fn 102 0), .bool] [(.int .i64)] (fun a h => strings_indexFunc_tree_IsName_1.f k (a.1) (a.2.1) (a.2.2) h) :=
  told_of fun a h q e => fn_of (c := strings_indexFunc_tree_IsName_1.body) (strings_indexFunc_tree_IsName_1.TS hX k) Try.func120 (by kernel_rfl) (hX.no 120 _ h (by decide))
    (by
      have e : need (strings_indexFunc_tree_IsName_1.an k) strings_indexFunc_tree_IsName_1.body 1 = [(Code.loop strings_indexFunc_tree_IsName_1.c26, lrun [(1, (.fn 102 0)), (2, .bool), (10, .ptr)] (some [(6, (.int .i64))]) [] 0 (fun a h => strings_indexFunc_tree_IsName_1.l0 k k (a.1) (a.2.1) (a.2.2) h))] := by kernel_rfl
      rw [e]; intro q hq
      rcases List.mem_cons.1 hq with rfl | hq
      · exact strings_indexFunc_tree_IsName_1.l0_pass hX k k
      cases hq)
    ((strings_indexFunc_tree_IsName_1.eq k a h).symm.trans e)
/-! ### strings.IndexFunc -/
noncomputable def strings_IndexFunc_tree_IsName_1.f (k : Nat) (a0 : ByteArray) (a1 : Unit) (h : H) : Option ((Int) × H) :=
  (strings_indexFunc_tree_IsName_1.f k a0 () true h).bind fun q1 =>
    some (q1.1, q1.2)
noncomputable def strings_IndexFunc_tree_IsName_1.T (k : Nat) : Tbl := tblOf [⟨120, chkF [(1, 102)], wr [.str, (.fn 102 0), .bool] [(.int .i64)] (fun a h => strings_indexFunc_tree_IsName_1.f k (a.1) (a.2.1) (a.2.2) h)⟩]
noncomputable def strings_IndexFunc_tree_IsName_1.an (k : Nat) (p : Nat) : Option Ann := none
noncomputable def strings_IndexFunc_tree_IsName_1.body : Code := (Try.f116.body).getD .skip
set_option maxRecDepth 100000 in
theorem strings_IndexFunc_tree_IsName_1.TS {C : FuncId → Bool} {X : CallF} (hX : XOk C X) (k : Nat) : TblS Try.prog C X (strings_IndexFunc_tree_IsName_1.T k) := by
  refine tblOf_sound ?_
  intro e he
  rcases List.mem_cons.1 he with rfl | he
  · exact wr_told (strings_indexFunc_tree_IsName_1.told hX k)
  exact absurd he List.not_mem_nil
set_option maxRecDepth 100000 in
theorem strings_IndexFunc_tree_IsName_1.eq (k : Nat) (a : RT [.str, (.fn 102 0)]) (h : H) : (fun a h => strings_IndexFunc_tree_IsName_1.f k (a.1) (a.2) h) a h = kfun Try.prog (strings_IndexFunc_tree_IsName_1.T k) (strings_IndexFunc_tree_IsName_1.an k) (RT [(.int .i64)] × H) Try.f116 (encL [.str, (.fn 102 0)] a) h (fun vs h' => (decL [(.int .i64)] vs).bind fun x => some (x, h')) := by kernel_rfl
set_option maxRecDepth 100000 in
theorem strings_IndexFunc_tree_IsName_1.told {C : FuncId → Bool} {X : CallF} (hX : XOk C X) (k : Nat) : Den.Told Try.prog C X 116 [.str, (.fn 102 0)] [(.int .i64)] (fun a h => strings_IndexFunc_tree_IsName_1.f k (a.1) (a.2) h) :=
  told_of fun a h q e => fn_of (c := strings_IndexFunc_tree_IsName_1.body) (strings_IndexFunc_tree_IsName_1.TS hX k) Try.func116 (by kernel_rfl) (hX.no 116 _ h (by decide))
    (by
      have e : need (strings_IndexFunc_tree_IsName_1.an k) strings_IndexFunc_tree_IsName_1.body 1 = [] := by kernel_rfl
      rw [e]; intro q hq; cases hq)
    ((strings_IndexFunc_tree_IsName_1.eq k a h).symm.trans e)
/-! ### strings.ContainsFunc -/
noncomputable def strings_ContainsFunc_tree_IsName_1.f (k : Nat) (a0 : ByteArray) (a1 : Unit) (h : H) : Option ((Bool) × H) :=
  (strings_IndexFunc_tree_IsName_1.f k a0 () h).bind fun q1 =>
    some (decide (q1.1 ≥ (0 : Int)), q1.2)
noncomputable def strings_ContainsFunc_tree_IsName_1.T (k : Nat) : Tbl := tblOf [⟨116, chkF [(1, 102)], wr [.str, (.fn 102 0)] [(.int .i64)] (fun a h => strings_IndexFunc_tree_IsName_1.f k (a.1) (a.2) h)⟩]
noncomputable def strings_ContainsFunc_tree_IsName_1.an (k : Nat) (p : Nat) : Option Ann := none
noncomputable def strings_ContainsFunc_tree_IsName_1.body : Code := (Try.f101.body).getD .skip
set_option maxRecDepth 100000 in
theorem strings_ContainsFunc_tree_IsName_1.TS {C : FuncId → Bool} {X : CallF} (hX : XOk C X) (k : Nat) : TblS Try.prog C X (strings_ContainsFunc_tree_IsName_1.T k) := by
  refine tblOf_sound ?_
  intro e he
  rcases List.mem_cons.1 he with rfl | he
  · exact wr_told (strings_IndexFunc_tree_IsName_1.told hX k)
  exact absurd he List.not_mem_nil
set_option maxRecDepth 100000 in
theorem strings_ContainsFunc_tree_IsName_1.eq (k : Nat) (a : RT [.str, (.fn 102 0)]) (h : H) : (fun a h => strings_ContainsFunc_tree_IsName_1.f k (a.1) (a.2) h) a h = kfun Try.prog (strings_ContainsFunc_tree_IsName_1.T k) (strings_ContainsFunc_tree_IsName_1.an k) (RT [.bool] × H) Try.f101 (encL [.str, (.fn 102 0)] a) h (fun vs h' => (decL [.bool] vs).bind fun x => some (x, h')) := by kernel_rfl
set_option maxRecDepth 100000 in
theorem strings_ContainsFunc_tree_IsName_1.told {C : FuncId → Bool} {X : CallF} (hX : XOk C X) (k : Nat) : Den.Told Try.prog C X 101 [.str, (.fn 102 0)] [.bool] (fun a h => strings_ContainsFunc_tree_IsName_1.f k (a.1) (a.2) h) :=
  told_of fun a h q e => fn_of (c := strings_ContainsFunc_tree_IsName_1.body) (strings_ContainsFunc_tree_IsName_1.TS hX k) Try.func101 (by kernel_rfl) (hX.no 101 _ h (by decide))
    (by
      have e : need (strings_ContainsFunc_tree_IsName_1.an k) strings_ContainsFunc_tree_IsName_1.body 1 = [] := by kernel_rfl
      rw [e]; intro q hq; cases hq)
    ((strings_ContainsFunc_tree_IsName_1.eq k a h).symm.trans e)
/-! ### corbel/tree.IsName -/
noncomputable def tree_IsName.f (k : Nat) (a0 : ByteArray) (h : H) : Option ((Bool) × H) :=
  (strings_ContainsFunc_tree_IsName_1.f k a0 () h).bind fun q1 =>
    (cond (decide ((Int.ofNat a0.data.toList.length) ≥ (1 : Int))) (some (decide ((Int.ofNat a0.data.toList.length) ≤ (8 : Int)), q1.2))
      (some (false, q1.2))).bind fun g2 =>
    (cond g2.1 (some (!q1.1, g2.2))
      (some (false, g2.2))).bind fun g3 =>
    some (g3.1, g3.2)
noncomputable def tree_IsName.T (k : Nat) : Tbl := tblOf [⟨101, chkF [(1, 102)], wr [.str, (.fn 102 0)] [.bool] (fun a h => strings_ContainsFunc_tree_IsName_1.f k (a.1) (a.2) h)⟩]
noncomputable def tree_IsName.an (k : Nat) (p : Nat) : Option Ann := none
noncomputable def tree_IsName.body : Code := (Try.f65.body).getD .skip
set_option maxRecDepth 100000 in
theorem tree_IsName.TS {C : FuncId → Bool} {X : CallF} (hX : XOk C X) (k : Nat) : TblS Try.prog C X (tree_IsName.T k) := by
  refine tblOf_sound ?_
  intro e he
  rcases List.mem_cons.1 he with rfl | he
  · exact wr_told (strings_ContainsFunc_tree_IsName_1.told hX k)
  exact absurd he List.not_mem_nil
set_option maxRecDepth 100000 in
theorem tree_IsName.eq (k : Nat) (a : RT [.str]) (h : H) : (fun a h => tree_IsName.f k a h) a h = kfun Try.prog (tree_IsName.T k) (tree_IsName.an k) (RT [.bool] × H) Try.f65 (encL [.str] a) h (fun vs h' => (decL [.bool] vs).bind fun x => some (x, h')) := by kernel_rfl
set_option maxRecDepth 100000 in
theorem tree_IsName.told {C : FuncId → Bool} {X : CallF} (hX : XOk C X) (k : Nat) : Den.Told Try.prog C X 65 [.str] [.bool] (fun a h => tree_IsName.f k a h) :=
  told_of fun a h q e => fn_of (c := tree_IsName.body) (tree_IsName.TS hX k) Try.func65 (by kernel_rfl) (hX.no 65 _ h (by decide))
    (by
      have e : need (tree_IsName.an k) tree_IsName.body 1 = [] := by kernel_rfl
      rw [e]; intro q hq; cases hq)
    ((tree_IsName.eq k a h).symm.trans e)
/-! ### corbel/extent.Right$1 -/
noncomputable def extent_Right_1.f (k : Nat) (a0 : Int) (h : H) : Option ((Bool) × H) :=
  (cond (a0 != (0 : Int)) ((cond (decide (a0 < (17 : Int))) (some (true, h))
      (some (decide (a0 ≥ (40 : Int)), h))).bind fun g1 =>
    some (g1.1, g1.2))
      (some (false, h))).bind fun g2 =>
    some (g2.1, g2.2)
noncomputable def extent_Right_1.T (k : Nat) : Tbl := tblOf []
noncomputable def extent_Right_1.an (k : Nat) (p : Nat) : Option Ann := none
noncomputable def extent_Right_1.body : Code := (Try.f72.body).getD .skip
set_option maxRecDepth 100000 in
theorem extent_Right_1.TS {C : FuncId → Bool} {X : CallF} (hX : XOk C X) (k : Nat) : TblS Try.prog C X (extent_Right_1.T k) := by
  refine tblOf_sound ?_
  intro e he
  exact absurd he List.not_mem_nil
set_option maxRecDepth 100000 in
theorem extent_Right_1.eq (k : Nat) (a : RT [(.int .i64)]) (h : H) : (fun a h => extent_Right_1.f k a h) a h = kfun Try.prog (extent_Right_1.T k) (extent_Right_1.an k) (RT [.bool] × H) Try.f72 (encL [(.int .i64)] a) h (fun vs h' => (decL [.bool] vs).bind fun x => some (x, h')) := by kernel_rfl
set_option maxRecDepth 100000 in
theorem extent_Right_1.told {C : FuncId → Bool} {X : CallF} (hX : XOk C X) (k : Nat) : Den.Told Try.prog C X 72 [(.int .i64)] [.bool] (fun a h => extent_Right_1.f k a h) :=
  told_of fun a h q e => fn_of (c := extent_Right_1.body) (extent_Right_1.TS hX k) Try.func72 (by kernel_rfl) (hX.no 72 _ h (by decide))
    (by
      have e : need (extent_Right_1.an k) extent_Right_1.body 1 = [] := by kernel_rfl
      rw [e]; intro q hq; cases hq)
    ((extent_Right_1.eq k a h).symm.trans e)
/-! ### slices.IndexFunc[[]int,int] -/
noncomputable def slices_IndexFunc_int_int_extent_Right_1.l0 (k : Nat) (n : Nat) : Sl → Unit → Int → Int → H → Option (((Int) ⊕ (Unit)) × H) :=
  Nat.rec (motive := fun _ => Sl → Unit → Int → Int → H → Option (((Int) ⊕ (Unit)) × H)) (fun _ _ _ _ _ => none) (fun _ ih x1 x2 x3 x4 h5 => cond (decide (x4 < x3))
      ((asP (ixs 1 x1.a x1.n x4)).bind fun p6 =>
    (asI .i64 (ldc h5 p6)).bind fun n7 =>
    (extent_Right_1.f k n7 h5).bind fun q8 =>
    cond q8.1
      (some (Sum.inl x4, q8.2))
      (ih x1 () x3 (wrapA .i64 (x4 + (1 : Int))) q8.2))
      (some (Sum.inr (), h5))) n
theorem slices_IndexFunc_int_int_extent_Right_1.l0_zero (k : Nat) (x1 : Sl) (x2 : Unit) (x3 : Int) (x4 : Int) (h5 : H) : slices_IndexFunc_int_int_extent_Right_1.l0 k 0 x1 x2 x3 x4 h5 = none := rfl
theorem slices_IndexFunc_int_int_extent_Right_1.l0_succ (k n : Nat) (x1 : Sl) (x2 : Unit) (x3 : Int) (x4 : Int) (h5 : H) : slices_IndexFunc_int_int_extent_Right_1.l0 k (n + 1) x1 x2 x3 x4 h5 = (cond (decide (x4 < x3))
      ((asP (ixs 1 x1.a x1.n x4)).bind fun p6 =>
    (asI .i64 (ldc h5 p6)).bind fun n7 =>
    (extent_Right_1.f k n7 h5).bind fun q8 =>
    cond q8.1
      (some (Sum.inl x4, q8.2))
      (slices_IndexFunc_int_int_extent_Right_1.l0 k n x1 () x3 (wrapA .i64 (x4 + (1 : Int))) q8.2))
      (some (Sum.inr (), h5))) := rfl
noncomputable def slices_IndexFunc_int_int_extent_Right_1.f (k : Nat) (a0 : Sl) (a1 : Unit) (h : H) : Option ((Int) × H) :=
  (slices_IndexFunc_int_int_extent_Right_1.l0 k k a0 () (Int.ofNat a0.n) (0 : Int) h).bind fun w9 =>
    match w9.1 with
    | .inl r10 => some (r10, w9.2)
    | .inr o11 => some ((-1 : Int), w9.2)
noncomputable def slices_IndexFunc_int_int_extent_Right_1.T (k : Nat) : Tbl := tblOf [⟨72, anyArgs, wr [(.int .i64)] [.bool] (fun a h => extent_Right_1.f k a h)⟩]
noncomputable def slices_IndexFunc_int_int_extent_Right_1.an (k : Nat) (p : Nat) : Option Ann := cond (Nat.beq p 26) (some (.pass [] (lrun [(0, .sl), (1, (.fn 72 0)), (7, (.int .i64)), (8, (.int .i64))] (some [(4, (.int .i64))]) [] 0 (fun a h => slices_IndexFunc_int_int_extent_Right_1.l0 k k (a.1) (a.2.1) (a.2.2.1) (a.2.2.2) h))))
  (none)
noncomputable def slices_IndexFunc_int_int_extent_Right_1.body : Code := (Try.f104.body).getD .skip
noncomputable def slices_IndexFunc_int_int_extent_Right_1.c26 : Code := cat slices_IndexFunc_int_int_extent_Right_1.body [1, 0, 1, 0, 0]
set_option maxRecDepth 100000 in
theorem slices_IndexFunc_int_int_extent_Right_1.TS {C : FuncId → Bool} {X : CallF} (hX : XOk C X) (k : Nat) : TblS Try.prog C X (slices_IndexFunc_int_int_extent_Right_1.T k) := by
  refine tblOf_sound ?_
  intro e he
  rcases List.mem_cons.1 he with rfl | he
  · exact wr_told (extent_Right_1.told hX k)
  exact absurd he List.not_mem_nil
set_option maxRecDepth 100000 in
theorem slices_IndexFunc_int_int_extent_Right_1.l0_pass {C : FuncId → Bool} {X : CallF} (hX : XOk C X) (k n : Nat) : PassS Try.prog C X 19 (.loop slices_IndexFunc_int_int_extent_Right_1.c26) (lrun [(0, .sl), (1, (.fn 72 0)), (7, (.int .i64)), (8, (.int .i64))] (some [(4, (.int .i64))]) [] 0 (fun a h => slices_IndexFunc_int_int_extent_Right_1.l0 k n (a.1) (a.2.1) (a.2.2.1) (a.2.2.2) h)) :=
  loop_pass (ins := [(0, .sl), (1, (.fn 72 0)), (7, (.int .i64)), (8, (.int .i64))]) (rets := (some [(4, (.int .i64))])) (outs := []) (id := 0) (tbl := slices_IndexFunc_int_int_extent_Right_1.T k) (an := slices_IndexFunc_int_int_extent_Right_1.an k) (pb := 52) (slices_IndexFunc_int_int_extent_Right_1.TS hX k) (fun n => (fun a h => slices_IndexFunc_int_int_extent_Right_1.l0 k n (a.1) (a.2.1) (a.2.2.1) (a.2.2.2) h)) (fun a h => rfl) (fun n a h => by kernel_rfl)
    (by
      have e : need (slices_IndexFunc_int_int_extent_Right_1.an k) slices_IndexFunc_int_int_extent_Right_1.c26 52 = [] := by kernel_rfl
      rw [e]; intro q hq; cases hq) n
set_option maxRecDepth 100000 in
theorem slices_IndexFunc_int_int_extent_Right_1.eq (k : Nat) (a : RT [.sl, (.fn 72 0)]) (h : H) : (fun a h => slices_IndexFunc_int_int_extent_Right_1.f k (a.1) (a.2) h) a h = kfun Try.prog (slices_IndexFunc_int_int_extent_Right_1.T k) (slices_IndexFunc_int_int_extent_Right_1.an k) (RT [(.int .i64)] × H) Try.f104 (encL [.sl, (.fn 72 0)] a) h (fun vs h' => (decL [(.int .i64)] vs).bind fun x => some (x, h')) := by kernel_rfl
set_option maxRecDepth 100000 in
theorem slices_IndexFunc_int_int_extent_Right_1.told {C : FuncId → Bool} {X : CallF} (hX : XOk C X) (k : Nat) : Den.Told Try.prog C X 104 [.sl, (.fn 72 0)] [(.int .i64)] (fun a h => slices_IndexFunc_int_int_extent_Right_1.f k (a.1) (a.2) h) :=
  told_of fun a h q e => fn_of (c := slices_IndexFunc_int_int_extent_Right_1.body) (slices_IndexFunc_int_int_extent_Right_1.TS hX k) Try.func104 (by kernel_rfl) (hX.no 104 _ h (by decide))
    (by
      have e : need (slices_IndexFunc_int_int_extent_Right_1.an k) slices_IndexFunc_int_int_extent_Right_1.body 1 = [(Code.loop slices_IndexFunc_int_int_extent_Right_1.c26, lrun [(0, .sl), (1, (.fn 72 0)), (7, (.int .i64)), (8, (.int .i64))] (some [(4, (.int .i64))]) [] 0 (fun a h => slices_IndexFunc_int_int_extent_Right_1.l0 k k (a.1) (a.2.1) (a.2.2.1) (a.2.2.2) h))] := by kernel_rfl
      rw [e]; intro q hq
      rcases List.mem_cons.1 hq with rfl | hq
      · exact slices_IndexFunc_int_int_extent_Right_1.l0_pass hX k k
      cases hq)
    ((slices_IndexFunc_int_int_extent_Right_1.eq k a h).symm.trans e)
/-! ### slices.ContainsFunc[[]int,int] -/
noncomputable def slices_ContainsFunc_int_int_extent_Right_1.f (k : Nat) (a0 : Sl) (a1 : Unit) (h : H) : Option ((Bool) × H) :=
  (slices_IndexFunc_int_int_extent_Right_1.f k a0 () h).bind fun q1 =>
    some (decide (q1.1 ≥ (0 : Int)), q1.2)
noncomputable def slices_ContainsFunc_int_int_extent_Right_1.T (k : Nat) : Tbl := tblOf [⟨104, chkF [(1, 72)], wr [.sl, (.fn 72 0)] [(.int .i64)] (fun a h => slices_IndexFunc_int_int_extent_Right_1.f k (a.1) (a.2) h)⟩]
noncomputable def slices_ContainsFunc_int_int_extent_Right_1.an (k : Nat) (p : Nat) : Option Ann := none
noncomputable def slices_ContainsFunc_int_int_extent_Right_1.body : Code := (Try.f71.body).getD .skip
set_option maxRecDepth 100000 in
theorem slices_ContainsFunc_int_int_extent_Right_1.TS {C : FuncId → Bool} {X : CallF} (hX : XOk C X) (k : Nat) : TblS Try.prog C X (slices_ContainsFunc_int_int_extent_Right_1.T k) := by
  refine tblOf_sound ?_
  intro e he
  rcases List.mem_cons.1 he with rfl | he
  · exact wr_told (slices_IndexFunc_int_int_extent_Right_1.told hX k)
  exact absurd he List.not_mem_nil
set_option maxRecDepth 100000 in
theorem slices_ContainsFunc_int_int_extent_Right_1.eq (k : Nat) (a : RT [.sl, (.fn 72 0)]) (h : H) : (fun a h => slices_ContainsFunc_int_int_extent_Right_1.f k (a.1) (a.2) h) a h = kfun Try.prog (slices_ContainsFunc_int_int_extent_Right_1.T k) (slices_ContainsFunc_int_int_extent_Right_1.an k) (RT [.bool] × H) Try.f71 (encL [.sl, (.fn 72 0)] a) h (fun vs h' => (decL [.bool] vs).bind fun x => some (x, h')) := by kernel_rfl
set_option maxRecDepth 100000 in
theorem slices_ContainsFunc_int_int_extent_Right_1.told {C : FuncId → Bool} {X : CallF} (hX : XOk C X) (k : Nat) : Den.Told Try.prog C X 71 [.sl, (.fn 72 0)] [.bool] (fun a h => slices_ContainsFunc_int_int_extent_Right_1.f k (a.1) (a.2) h) :=
  told_of fun a h q e => fn_of (c := slices_ContainsFunc_int_int_extent_Right_1.body) (slices_ContainsFunc_int_int_extent_Right_1.TS hX k) Try.func71 (by kernel_rfl) (hX.no 71 _ h (by decide))
    (by
      have e : need (slices_ContainsFunc_int_int_extent_Right_1.an k) slices_ContainsFunc_int_int_extent_Right_1.body 1 = [] := by kernel_rfl
      rw [e]; intro q hq; cases hq)
    ((slices_ContainsFunc_int_int_extent_Right_1.eq k a h).symm.trans e)
/-! ### corbel/extent.sized -/
noncomputable def extent_sized.f (k : Nat) (a0 : Int) (h : H) : Option ((Bool) × H) :=
  (cond (decide (a0 ≥ (0 : Int))) (some (decide (a0 ≤ (256 : Int)), h))
      (some (false, h))).bind fun g1 =>
    (cond g1.1 (some ((a0.tmod (8 : Int)) == (0 : Int), g1.2))
      (some (false, g1.2))).bind fun g2 =>
    some (g2.1, g2.2)
noncomputable def extent_sized.T (k : Nat) : Tbl := tblOf []
noncomputable def extent_sized.an (k : Nat) (p : Nat) : Option Ann := none
noncomputable def extent_sized.body : Code := (Try.f69.body).getD .skip
set_option maxRecDepth 100000 in
theorem extent_sized.TS {C : FuncId → Bool} {X : CallF} (hX : XOk C X) (k : Nat) : TblS Try.prog C X (extent_sized.T k) := by
  refine tblOf_sound ?_
  intro e he
  exact absurd he List.not_mem_nil
set_option maxRecDepth 100000 in
theorem extent_sized.eq (k : Nat) (a : RT [(.int .i64)]) (h : H) : (fun a h => extent_sized.f k a h) a h = kfun Try.prog (extent_sized.T k) (extent_sized.an k) (RT [.bool] × H) Try.f69 (encL [(.int .i64)] a) h (fun vs h' => (decL [.bool] vs).bind fun x => some (x, h')) := by kernel_rfl
set_option maxRecDepth 100000 in
theorem extent_sized.told {C : FuncId → Bool} {X : CallF} (hX : XOk C X) (k : Nat) : Den.Told Try.prog C X 69 [(.int .i64)] [.bool] (fun a h => extent_sized.f k a h) :=
  told_of fun a h q e => fn_of (c := extent_sized.body) (extent_sized.TS hX k) Try.func69 (by kernel_rfl) (hX.no 69 _ h (by decide))
    (by
      have e : need (extent_sized.an k) extent_sized.body 1 = [] := by kernel_rfl
      rw [e]; intro q hq; cases hq)
    ((extent_sized.eq k a h).symm.trans e)
/-! ### corbel/extent.Right -/
noncomputable def extent_Right.f (k : Nat) (a0 : Int) (a1 : Sl) (h : H) : Option ((Bool) × H) :=
  (slices_ContainsFunc_int_int_extent_Right_1.f k a1 () h).bind fun q1 =>
    (extent_sized.f k a0 q1.2).bind fun q2 =>
    (cond q2.1 (some ((Int.ofNat a1.n) == (wrapA .i64 (a0.tdiv (8 : Int))), q2.2))
      (some (false, q2.2))).bind fun g3 =>
    (cond g3.1 (some (!q1.1, g3.2))
      (some (false, g3.2))).bind fun g4 =>
    some (g4.1, g4.2)
noncomputable def extent_Right.T (k : Nat) : Tbl := tblOf [⟨71, chkF [(1, 72)], wr [.sl, (.fn 72 0)] [.bool] (fun a h => slices_ContainsFunc_int_int_extent_Right_1.f k (a.1) (a.2) h)⟩,
  ⟨69, anyArgs, wr [(.int .i64)] [.bool] (fun a h => extent_sized.f k a h)⟩]
noncomputable def extent_Right.an (k : Nat) (p : Nat) : Option Ann := none
noncomputable def extent_Right.body : Code := (Try.f30.body).getD .skip
set_option maxRecDepth 100000 in
theorem extent_Right.TS {C : FuncId → Bool} {X : CallF} (hX : XOk C X) (k : Nat) : TblS Try.prog C X (extent_Right.T k) := by
  refine tblOf_sound ?_
  intro e he
  rcases List.mem_cons.1 he with rfl | he
  · exact wr_told (slices_ContainsFunc_int_int_extent_Right_1.told hX k)
  rcases List.mem_cons.1 he with rfl | he
  · exact wr_told (extent_sized.told hX k)
  exact absurd he List.not_mem_nil
set_option maxRecDepth 100000 in
theorem extent_Right.eq (k : Nat) (a : RT [(.int .i64), .sl]) (h : H) : (fun a h => extent_Right.f k (a.1) (a.2) h) a h = kfun Try.prog (extent_Right.T k) (extent_Right.an k) (RT [.bool] × H) Try.f30 (encL [(.int .i64), .sl] a) h (fun vs h' => (decL [.bool] vs).bind fun x => some (x, h')) := by kernel_rfl
set_option maxRecDepth 100000 in
theorem extent_Right.told {C : FuncId → Bool} {X : CallF} (hX : XOk C X) (k : Nat) : Den.Told Try.prog C X 30 [(.int .i64), .sl] [.bool] (fun a h => extent_Right.f k (a.1) (a.2) h) :=
  told_of fun a h q e => fn_of (c := extent_Right.body) (extent_Right.TS hX k) Try.func30 (by kernel_rfl) (hX.no 30 _ h (by decide))
    (by
      have e : need (extent_Right.an k) extent_Right.body 1 = [] := by kernel_rfl
      rw [e]; intro q hq; cases hq)
    ((extent_Right.eq k a h).symm.trans e)
/-! ### corbel/tree.at$1 -/
noncomputable def tree_at_1.f (k : Nat) (a0 : (ByteArray × ByteArray × Bool × Int × Sl)) (a1 : ByteArray) (h : H) : Option ((Int) × H) :=
  (asT (ldc (newR h 58 5 [(Value.string a0.1), (Value.string a0.2.1), (Value.bool a0.2.2.1), (Value.int .i64 a0.2.2.2.1), (Value.slice a0.2.2.2.2.a a0.2.2.2.2.n a0.2.2.2.2.c)]) (some ⟨h.next, 0, none⟩))).bind fun s1 =>
    some ((cmpB s1 a1), (newR h 58 5 [(Value.string a0.1), (Value.string a0.2.1), (Value.bool a0.2.2.1), (Value.int .i64 a0.2.2.2.1), (Value.slice a0.2.2.2.2.a a0.2.2.2.2.n a0.2.2.2.2.c)]))
noncomputable def tree_at_1.T (k : Nat) : Tbl := tblOf [⟨114, anyArgs, cmpW⟩]
noncomputable def tree_at_1.an (k : Nat) (p : Nat) : Option Ann := none
noncomputable def tree_at_1.body : Code := (Try.f113.body).getD .skip
set_option maxRecDepth 100000 in
theorem tree_at_1.TS {C : FuncId → Bool} {X : CallF} (hX : XOk C X) (hK114 : CmpOk X 114) (k : Nat) : TblS Try.prog C X (tree_at_1.T k) := by
  refine tblOf_sound ?_
  intro e he
  rcases List.mem_cons.1 he with rfl | he
  · exact cmpW_told hK114
  exact absurd he List.not_mem_nil
set_option maxRecDepth 100000 in
theorem tree_at_1.eq (k : Nat) (a : RT [(.st [.str, .str, .bool, (.int .i64), .sl]), .str]) (h : H) : (fun a h => tree_at_1.f k (a.1) (a.2) h) a h = kfun Try.prog (tree_at_1.T k) (tree_at_1.an k) (RT [(.int .i64)] × H) Try.f113 (encL [(.st [.str, .str, .bool, (.int .i64), .sl]), .str] a) h (fun vs h' => (decL [(.int .i64)] vs).bind fun x => some (x, h')) := by kernel_rfl
set_option maxRecDepth 100000 in
theorem tree_at_1.told {C : FuncId → Bool} {X : CallF} (hX : XOk C X) (hK114 : CmpOk X 114) (k : Nat) : Den.Told Try.prog C X 113 [(.st [.str, .str, .bool, (.int .i64), .sl]), .str] [(.int .i64)] (fun a h => tree_at_1.f k (a.1) (a.2) h) :=
  told_of fun a h q e => fn_of (c := tree_at_1.body) (tree_at_1.TS hX hK114 k) Try.func113 (by kernel_rfl) (hX.no 113 _ h (by decide))
    (by
      have e : need (tree_at_1.an k) tree_at_1.body 1 = [] := by kernel_rfl
      rw [e]; intro q hq; cases hq)
    ((tree_at_1.eq k a h).symm.trans e)
/-! ### slices.BinarySearchFunc[[]corbel/api.Volume,corbel/api.Volume,string] -/
noncomputable def slices_BinarySearchFunc_api_Volume_api_Volume_string_tree_at_1.l0 (k : Nat) (n : Nat) : Sl → ByteArray → Unit → Int → Int → Int → H → Option ((Int) × H) :=
  Nat.rec (motive := fun _ => Sl → ByteArray → Unit → Int → Int → Int → H → Option ((Int) × H)) (fun _ _ _ _ _ _ _ => none) (fun _ ih x1 x2 x3 x4 x5 x6 h7 => cond (decide (x5 < x6))
      ((asP (ixs 5 x1.a x1.n (wrapA .i64 ((wrapA .u64 (wrapA .i64 (x5 + x6))).fdiv (2 ^ 1))))).bind fun p8 =>
    (asSt [.str, .str, .bool, (.int .i64), .sl] (lda 5 h7 p8)).bind fun s9 =>
    (tree_at_1.f k (s9.1, s9.2.1, s9.2.2.1, s9.2.2.2.1, s9.2.2.2.2) x2 h7).bind fun q10 =>
    (cond (decide (q10.1 < (0 : Int)))
      (some ((wrapA .i64 ((wrapA .i64 ((wrapA .u64 (wrapA .i64 (x5 + x6))).fdiv (2 ^ 1))) + (1 : Int)), x6), q10.2))
      (some ((x5, wrapA .i64 ((wrapA .u64 (wrapA .i64 (x5 + x6))).fdiv (2 ^ 1))), q10.2)) : Option ((Int × Int) × H)).bind fun j11 =>
    ih x1 x2 () x4 j11.1.1 j11.1.2 j11.2)
      (some (x5, h7))) n
theorem slices_BinarySearchFunc_api_Volume_api_Volume_string_tree_at_1.l0_zero (k : Nat) (x1 : Sl) (x2 : ByteArray) (x3 : Unit) (x4 : Int) (x5 : Int) (x6 : Int) (h7 : H) : slices_BinarySearchFunc_api_Volume_api_Volume_string_tree_at_1.l0 k 0 x1 x2 x3 x4 x5 x6 h7 = none := rfl
theorem slices_BinarySearchFunc_api_Volume_api_Volume_string_tree_at_1.l0_succ (k n : Nat) (x1 : Sl) (x2 : ByteArray) (x3 : Unit) (x4 : Int) (x5 : Int) (x6 : Int) (h7 : H) : slices_BinarySearchFunc_api_Volume_api_Volume_string_tree_at_1.l0 k (n + 1) x1 x2 x3 x4 x5 x6 h7 = (cond (decide (x5 < x6))
      ((asP (ixs 5 x1.a x1.n (wrapA .i64 ((wrapA .u64 (wrapA .i64 (x5 + x6))).fdiv (2 ^ 1))))).bind fun p8 =>
    (asSt [.str, .str, .bool, (.int .i64), .sl] (lda 5 h7 p8)).bind fun s9 =>
    (tree_at_1.f k (s9.1, s9.2.1, s9.2.2.1, s9.2.2.2.1, s9.2.2.2.2) x2 h7).bind fun q10 =>
    (cond (decide (q10.1 < (0 : Int)))
      (some ((wrapA .i64 ((wrapA .i64 ((wrapA .u64 (wrapA .i64 (x5 + x6))).fdiv (2 ^ 1))) + (1 : Int)), x6), q10.2))
      (some ((x5, wrapA .i64 ((wrapA .u64 (wrapA .i64 (x5 + x6))).fdiv (2 ^ 1))), q10.2)) : Option ((Int × Int) × H)).bind fun j11 =>
    slices_BinarySearchFunc_api_Volume_api_Volume_string_tree_at_1.l0 k n x1 x2 () x4 j11.1.1 j11.1.2 j11.2)
      (some (x5, h7))) := rfl
noncomputable def slices_BinarySearchFunc_api_Volume_api_Volume_string_tree_at_1.f (k : Nat) (a0 : Sl) (a1 : ByteArray) (a2 : Unit) (h : H) : Option ((Int × Bool) × H) :=
  (slices_BinarySearchFunc_api_Volume_api_Volume_string_tree_at_1.l0 k k a0 a1 () (Int.ofNat a0.n) (0 : Int) (Int.ofNat a0.n) h).bind fun w12 =>
    (cond (decide (w12.1 < (Int.ofNat a0.n))) ((asP (ixs 5 a0.a a0.n w12.1)).bind fun p13 =>
    (asSt [.str, .str, .bool, (.int .i64), .sl] (lda 5 w12.2 p13)).bind fun s14 =>
    (tree_at_1.f k (s14.1, s14.2.1, s14.2.2.1, s14.2.2.2.1, s14.2.2.2.2) a1 w12.2).bind fun q15 =>
    some (q15.1 == (0 : Int), q15.2))
      (some (false, w12.2))).bind fun g16 =>
    some ((w12.1, g16.1), g16.2)
noncomputable def slices_BinarySearchFunc_api_Volume_api_Volume_string_tree_at_1.T (k : Nat) : Tbl := tblOf [⟨113, anyArgs, wr [(.st [.str, .str, .bool, (.int .i64), .sl]), .str] [(.int .i64)] (fun a h => tree_at_1.f k (a.1) (a.2) h)⟩]
noncomputable def slices_BinarySearchFunc_api_Volume_api_Volume_string_tree_at_1.an (k : Nat) (p : Nat) : Option Ann := cond (Nat.beq p 60) (some (.pass [0, 1, 2, 8] (lrun [(0, .sl), (1, .str), (2, (.fn 113 0)), (8, (.int .i64)), (9, (.int .i64)), (10, (.int .i64))] none [(9, (.int .i64))] 0 (fun a h => slices_BinarySearchFunc_api_Volume_api_Volume_string_tree_at_1.l0 k k (a.1) (a.2.1) (a.2.2.1) (a.2.2.2.1) (a.2.2.2.2.1) (a.2.2.2.2.2) h))))
  (cond (Nat.beq p 1931) (some (.join [0, 1, 2, 8] none [(9, (.int .i64)), (10, (.int .i64))]))
  (none))
noncomputable def slices_BinarySearchFunc_api_Volume_api_Volume_string_tree_at_1.body : Code := (Try.f112.body).getD .skip
noncomputable def slices_BinarySearchFunc_api_Volume_api_Volume_string_tree_at_1.c60 : Code := cat slices_BinarySearchFunc_api_Volume_api_Volume_string_tree_at_1.body [1, 1, 1, 0, 0, 0]
set_option maxRecDepth 100000 in
theorem slices_BinarySearchFunc_api_Volume_api_Volume_string_tree_at_1.TS {C : FuncId → Bool} {X : CallF} (hX : XOk C X) (hK114 : CmpOk X 114) (k : Nat) : TblS Try.prog C X (slices_BinarySearchFunc_api_Volume_api_Volume_string_tree_at_1.T k) := by
  refine tblOf_sound ?_
  intro e he
  rcases List.mem_cons.1 he with rfl | he
  · exact wr_told (tree_at_1.told hX hK114 k)
  exact absurd he List.not_mem_nil
set_option maxRecDepth 100000 in
theorem slices_BinarySearchFunc_api_Volume_api_Volume_string_tree_at_1.l0_pass {C : FuncId → Bool} {X : CallF} (hX : XOk C X) (hK114 : CmpOk X 114) (k n : Nat) : PassS Try.prog C X 49 (.loop slices_BinarySearchFunc_api_Volume_api_Volume_string_tree_at_1.c60) (lrun [(0, .sl), (1, .str), (2, (.fn 113 0)), (8, (.int .i64)), (9, (.int .i64)), (10, (.int .i64))] none [(9, (.int .i64))] 0 (fun a h => slices_BinarySearchFunc_api_Volume_api_Volume_string_tree_at_1.l0 k n (a.1) (a.2.1) (a.2.2.1) (a.2.2.2.1) (a.2.2.2.2.1) (a.2.2.2.2.2) h)) :=
  loop_pass (ins := [(0, .sl), (1, .str), (2, (.fn 113 0)), (8, (.int .i64)), (9, (.int .i64)), (10, (.int .i64))]) (rets := none) (outs := [(9, (.int .i64))]) (id := 0) (tbl := slices_BinarySearchFunc_api_Volume_api_Volume_string_tree_at_1.T k) (an := slices_BinarySearchFunc_api_Volume_api_Volume_string_tree_at_1.an k) (pb := 120) (slices_BinarySearchFunc_api_Volume_api_Volume_string_tree_at_1.TS hX hK114 k) (fun n => (fun a h => slices_BinarySearchFunc_api_Volume_api_Volume_string_tree_at_1.l0 k n (a.1) (a.2.1) (a.2.2.1) (a.2.2.2.1) (a.2.2.2.2.1) (a.2.2.2.2.2) h)) (fun a h => rfl) (fun n a h => by kernel_rfl)
    (by
      have e : need (slices_BinarySearchFunc_api_Volume_api_Volume_string_tree_at_1.an k) slices_BinarySearchFunc_api_Volume_api_Volume_string_tree_at_1.c60 120 = [] := by kernel_rfl
      rw [e]; intro q hq; cases hq) n
set_option maxRecDepth 100000 in
theorem slices_BinarySearchFunc_api_Volume_api_Volume_string_tree_at_1.eq (k : Nat) (a : RT [.sl, .str, (.fn 113 0)]) (h : H) : (fun a h => slices_BinarySearchFunc_api_Volume_api_Volume_string_tree_at_1.f k (a.1) (a.2.1) (a.2.2) h) a h = kfun Try.prog (slices_BinarySearchFunc_api_Volume_api_Volume_string_tree_at_1.T k) (slices_BinarySearchFunc_api_Volume_api_Volume_string_tree_at_1.an k) (RT [(.int .i64), .bool] × H) Try.f112 (encL [.sl, .str, (.fn 113 0)] a) h (fun vs h' => (decL [(.int .i64), .bool] vs).bind fun x => some (x, h')) := by kernel_rfl
set_option maxRecDepth 100000 in
theorem slices_BinarySearchFunc_api_Volume_api_Volume_string_tree_at_1.told {C : FuncId → Bool} {X : CallF} (hX : XOk C X) (hK114 : CmpOk X 114) (k : Nat) : Den.Told Try.prog C X 112 [.sl, .str, (.fn 113 0)] [(.int .i64), .bool] (fun a h => slices_BinarySearchFunc_api_Volume_api_Volume_string_tree_at_1.f k (a.1) (a.2.1) (a.2.2) h) :=
  told_of fun a h q e => fn_of (c := slices_BinarySearchFunc_api_Volume_api_Volume_string_tree_at_1.body) (slices_BinarySearchFunc_api_Volume_api_Volume_string_tree_at_1.TS hX hK114 k) Try.func112 (by kernel_rfl) (hX.no 112 _ h (by decide))
    (by
      have e : need (slices_BinarySearchFunc_api_Volume_api_Volume_string_tree_at_1.an k) slices_BinarySearchFunc_api_Volume_api_Volume_string_tree_at_1.body 1 = [(Code.loop slices_BinarySearchFunc_api_Volume_api_Volume_string_tree_at_1.c60, lrun [(0, .sl), (1, .str), (2, (.fn 113 0)), (8, (.int .i64)), (9, (.int .i64)), (10, (.int .i64))] none [(9, (.int .i64))] 0 (fun a h => slices_BinarySearchFunc_api_Volume_api_Volume_string_tree_at_1.l0 k k (a.1) (a.2.1) (a.2.2.1) (a.2.2.2.1) (a.2.2.2.2.1) (a.2.2.2.2.2) h))] := by kernel_rfl
      rw [e]; intro q hq
      rcases List.mem_cons.1 hq with rfl | hq
      · exact slices_BinarySearchFunc_api_Volume_api_Volume_string_tree_at_1.l0_pass hX hK114 k k
      cases hq)
    ((slices_BinarySearchFunc_api_Volume_api_Volume_string_tree_at_1.eq k a h).symm.trans e)
/-! ### corbel/tree.at -/
noncomputable def tree_at.f (k : Nat) (a0 : Sl) (a1 : ByteArray) (h : H) : Option ((Int × Bool) × H) :=
  (slices_BinarySearchFunc_api_Volume_api_Volume_string_tree_at_1.f k a0 a1 () h).bind fun q1 =>
    some ((q1.1.1, q1.1.2), q1.2)
noncomputable def tree_at.T (k : Nat) : Tbl := tblOf [⟨112, chkF [(2, 113)], wr [.sl, .str, (.fn 113 0)] [(.int .i64), .bool] (fun a h => slices_BinarySearchFunc_api_Volume_api_Volume_string_tree_at_1.f k (a.1) (a.2.1) (a.2.2) h)⟩]
noncomputable def tree_at.an (k : Nat) (p : Nat) : Option Ann := none
noncomputable def tree_at.body : Code := (Try.f92.body).getD .skip
set_option maxRecDepth 100000 in
theorem tree_at.TS {C : FuncId → Bool} {X : CallF} (hX : XOk C X) (hK114 : CmpOk X 114) (k : Nat) : TblS Try.prog C X (tree_at.T k) := by
  refine tblOf_sound ?_
  intro e he
  rcases List.mem_cons.1 he with rfl | he
  · exact wr_told (slices_BinarySearchFunc_api_Volume_api_Volume_string_tree_at_1.told hX hK114 k)
  exact absurd he List.not_mem_nil
set_option maxRecDepth 100000 in
theorem tree_at.eq (k : Nat) (a : RT [.sl, .str]) (h : H) : (fun a h => tree_at.f k (a.1) (a.2) h) a h = kfun Try.prog (tree_at.T k) (tree_at.an k) (RT [(.int .i64), .bool] × H) Try.f92 (encL [.sl, .str] a) h (fun vs h' => (decL [(.int .i64), .bool] vs).bind fun x => some (x, h')) := by kernel_rfl
set_option maxRecDepth 100000 in
theorem tree_at.told {C : FuncId → Bool} {X : CallF} (hX : XOk C X) (hK114 : CmpOk X 114) (k : Nat) : Den.Told Try.prog C X 92 [.sl, .str] [(.int .i64), .bool] (fun a h => tree_at.f k (a.1) (a.2) h) :=
  told_of fun a h q e => fn_of (c := tree_at.body) (tree_at.TS hX hK114 k) Try.func92 (by kernel_rfl) (hX.no 92 _ h (by decide))
    (by
      have e : need (tree_at.an k) tree_at.body 1 = [] := by kernel_rfl
      rw [e]; intro q hq; cases hq)
    ((tree_at.eq k a h).symm.trans e)
/-! ### corbel/tree.parented -/
noncomputable def tree_parented.f (k : Nat) (a0 : Sl) (a1 : (ByteArray × ByteArray × Bool × Int × Sl)) (h : H) : Option ((Bool) × H) :=
  (asT (ldc (newR h 58 5 [(Value.string a1.1), (Value.string a1.2.1), (Value.bool a1.2.2.1), (Value.int .i64 a1.2.2.2.1), (Value.slice a1.2.2.2.2.a a1.2.2.2.2.n a1.2.2.2.2.c)]) (some ⟨h.next, 1, none⟩))).bind fun s1 =>
    cond (s1.toList == (⟨#[]⟩ : ByteArray).toList)
      (some (true, (newR h 58 5 [(Value.string a1.1), (Value.string a1.2.1), (Value.bool a1.2.2.1), (Value.int .i64 a1.2.2.2.1), (Value.slice a1.2.2.2.2.a a1.2.2.2.2.n a1.2.2.2.2.c)])))
      ((asT (ldc (newR h 58 5 [(Value.string a1.1), (Value.string a1.2.1), (Value.bool a1.2.2.1), (Value.int .i64 a1.2.2.2.1), (Value.slice a1.2.2.2.2.a a1.2.2.2.2.n a1.2.2.2.2.c)]) (some ⟨h.next, 1, none⟩))).bind fun s2 =>
    (tree_at.f k a0 s2 (newR h 58 5 [(Value.string a1.1), (Value.string a1.2.1), (Value.bool a1.2.2.1), (Value.int .i64 a1.2.2.2.1), (Value.slice a1.2.2.2.2.a a1.2.2.2.2.n a1.2.2.2.2.c)])).bind fun q3 =>
    (cond q3.1.2 ((asT (ldc q3.2 (some ⟨h.next, 1, none⟩))).bind fun s4 =>
    (asT (ldc q3.2 (some ⟨h.next, 0, none⟩))).bind fun s5 =>
    some (!(s4.toList == s5.toList), q3.2, [], []))
      (some (false, q3.2, [], [])) : Option (Bool × H × LEs × EFs)).bind fun g6 =>
    (cond g6.1 ((asP (ixs 5 a0.a a0.n q3.1.1)).bind fun p7 =>
    (asP (fadd 2 p7)).bind fun p8 =>
    (asB (ldc g6.2.1 p8)).bind fun b9 =>
    (asB (ldc g6.2.1 (some ⟨h.next, 2, none⟩))).bind fun b10 =>
    some (!(b9 == b10), g6.2.1, [], []))
      (some (false, g6.2.1, [], [])) : Option (Bool × H × LEs × EFs)).bind fun g11 =>
    some (g11.1, g11.2.1))
noncomputable def tree_parented.T (k : Nat) : Tbl := tblOf [⟨92, anyArgs, wr [.sl, .str] [(.int .i64), .bool] (fun a h => tree_at.f k (a.1) (a.2) h)⟩]
noncomputable def tree_parented.an (k : Nat) (p : Nat) : Option Ann := none
noncomputable def tree_parented.body : Code := (Try.f94.body).getD .skip
set_option maxRecDepth 100000 in
theorem tree_parented.TS {C : FuncId → Bool} {X : CallF} (hX : XOk C X) (hK114 : CmpOk X 114) (k : Nat) : TblS Try.prog C X (tree_parented.T k) := by
  refine tblOf_sound ?_
  intro e he
  rcases List.mem_cons.1 he with rfl | he
  · exact wr_told (tree_at.told hX hK114 k)
  exact absurd he List.not_mem_nil
set_option maxRecDepth 100000 in
theorem tree_parented.eq (k : Nat) (a : RT [.sl, (.st [.str, .str, .bool, (.int .i64), .sl])]) (h : H) : (fun a h => tree_parented.f k (a.1) (a.2) h) a h = kfun Try.prog (tree_parented.T k) (tree_parented.an k) (RT [.bool] × H) Try.f94 (encL [.sl, (.st [.str, .str, .bool, (.int .i64), .sl])] a) h (fun vs h' => (decL [.bool] vs).bind fun x => some (x, h')) := by kernel_rfl
set_option maxRecDepth 100000 in
theorem tree_parented.told {C : FuncId → Bool} {X : CallF} (hX : XOk C X) (hK114 : CmpOk X 114) (k : Nat) : Den.Told Try.prog C X 94 [.sl, (.st [.str, .str, .bool, (.int .i64), .sl])] [.bool] (fun a h => tree_parented.f k (a.1) (a.2) h) :=
  told_of fun a h q e => fn_of (c := tree_parented.body) (tree_parented.TS hX hK114 k) Try.func94 (by kernel_rfl) (hX.no 94 _ h (by decide))
    (by
      have e : need (tree_parented.an k) tree_parented.body 1 = [] := by kernel_rfl
      rw [e]; intro q hq; cases hq)
    ((tree_parented.eq k a h).symm.trans e)
/-! ### corbel/tree.Right$1 -/
noncomputable def tree_Right_1.f (k : Nat) (a0 : (ByteArray × ByteArray × Bool × Int × Sl)) (a1 : Option Addr) (h : H) : Option ((Bool) × H) :=
  (asS (ldc (newR h 58 5 [(Value.string a0.1), (Value.string a0.2.1), (Value.bool a0.2.2.1), (Value.int .i64 a0.2.2.2.1), (Value.slice a0.2.2.2.2.a a0.2.2.2.2.n a0.2.2.2.2.c)]) a1)).bind fun s1 =>
    (asSt [.str, .str, .bool, (.int .i64), .sl] (lda 5 (newR h 58 5 [(Value.string a0.1), (Value.string a0.2.1), (Value.bool a0.2.2.1), (Value.int .i64 a0.2.2.2.1), (Value.slice a0.2.2.2.2.a a0.2.2.2.2.n a0.2.2.2.2.c)]) (some ⟨h.next, 0, none⟩))).bind fun s2 =>
    (tree_parented.f k s1 (s2.1, s2.2.1, s2.2.2.1, s2.2.2.2.1, s2.2.2.2.2) (newR h 58 5 [(Value.string a0.1), (Value.string a0.2.1), (Value.bool a0.2.2.1), (Value.int .i64 a0.2.2.2.1), (Value.slice a0.2.2.2.2.a a0.2.2.2.2.n a0.2.2.2.2.c)])).bind fun q3 =>
    some (!q3.1, q3.2)
noncomputable def tree_Right_1.T (k : Nat) : Tbl := tblOf [⟨94, anyArgs, wr [.sl, (.st [.str, .str, .bool, (.int .i64), .sl])] [.bool] (fun a h => tree_parented.f k (a.1) (a.2) h)⟩]
noncomputable def tree_Right_1.an (k : Nat) (p : Nat) : Option Ann := none
noncomputable def tree_Right_1.body : Code := (Try.f93.body).getD .skip
set_option maxRecDepth 100000 in
theorem tree_Right_1.TS {C : FuncId → Bool} {X : CallF} (hX : XOk C X) (hK114 : CmpOk X 114) (k : Nat) : TblS Try.prog C X (tree_Right_1.T k) := by
  refine tblOf_sound ?_
  intro e he
  rcases List.mem_cons.1 he with rfl | he
  · exact wr_told (tree_parented.told hX hK114 k)
  exact absurd he List.not_mem_nil
set_option maxRecDepth 100000 in
theorem tree_Right_1.eq (k : Nat) (a : RT [(.st [.str, .str, .bool, (.int .i64), .sl]), .ptr]) (h : H) : (fun a h => tree_Right_1.f k (a.1) (a.2) h) a h = kfun Try.prog (tree_Right_1.T k) (tree_Right_1.an k) (RT [.bool] × H) Try.f93 (encL [(.st [.str, .str, .bool, (.int .i64), .sl]), .ptr] a) h (fun vs h' => (decL [.bool] vs).bind fun x => some (x, h')) := by kernel_rfl
set_option maxRecDepth 100000 in
theorem tree_Right_1.told {C : FuncId → Bool} {X : CallF} (hX : XOk C X) (hK114 : CmpOk X 114) (k : Nat) : Den.Told Try.prog C X 93 [(.st [.str, .str, .bool, (.int .i64), .sl]), .ptr] [.bool] (fun a h => tree_Right_1.f k (a.1) (a.2) h) :=
  told_of fun a h q e => fn_of (c := tree_Right_1.body) (tree_Right_1.TS hX hK114 k) Try.func93 (by kernel_rfl) (hX.no 93 _ h (by decide))
    (by
      have e : need (tree_Right_1.an k) tree_Right_1.body 1 = [] := by kernel_rfl
      rw [e]; intro q hq; cases hq)
    ((tree_Right_1.eq k a h).symm.trans e)
/-! ### slices.IndexFunc[[]corbel/api.Volume,corbel/api.Volume] -/
noncomputable def slices_IndexFunc_api_Volume_api_Volume_tree_Right_1.l0 (k : Nat) (n : Nat) : Sl → (Option Addr) → Int → Int → H → Option (((Int) ⊕ (Unit)) × H) :=
  Nat.rec (motive := fun _ => Sl → (Option Addr) → Int → Int → H → Option (((Int) ⊕ (Unit)) × H)) (fun _ _ _ _ _ => none) (fun _ ih x1 x2 x3 x4 h5 => cond (decide (x4 < x3))
      ((asP (ixs 5 x1.a x1.n x4)).bind fun p6 =>
    (asSt [.str, .str, .bool, (.int .i64), .sl] (lda 5 h5 p6)).bind fun s7 =>
    (tree_Right_1.f k (s7.1, s7.2.1, s7.2.2.1, s7.2.2.2.1, s7.2.2.2.2) x2 h5).bind fun q8 =>
    cond q8.1
      (some (Sum.inl x4, q8.2))
      (ih x1 (x2) x3 (wrapA .i64 (x4 + (1 : Int))) q8.2))
      (some (Sum.inr (), h5))) n
theorem slices_IndexFunc_api_Volume_api_Volume_tree_Right_1.l0_zero (k : Nat) (x1 : Sl) (x2 : Option Addr) (x3 : Int) (x4 : Int) (h5 : H) : slices_IndexFunc_api_Volume_api_Volume_tree_Right_1.l0 k 0 x1 x2 x3 x4 h5 = none := rfl
theorem slices_IndexFunc_api_Volume_api_Volume_tree_Right_1.l0_succ (k n : Nat) (x1 : Sl) (x2 : Option Addr) (x3 : Int) (x4 : Int) (h5 : H) : slices_IndexFunc_api_Volume_api_Volume_tree_Right_1.l0 k (n + 1) x1 x2 x3 x4 h5 = (cond (decide (x4 < x3))
      ((asP (ixs 5 x1.a x1.n x4)).bind fun p6 =>
    (asSt [.str, .str, .bool, (.int .i64), .sl] (lda 5 h5 p6)).bind fun s7 =>
    (tree_Right_1.f k (s7.1, s7.2.1, s7.2.2.1, s7.2.2.2.1, s7.2.2.2.2) x2 h5).bind fun q8 =>
    cond q8.1
      (some (Sum.inl x4, q8.2))
      (slices_IndexFunc_api_Volume_api_Volume_tree_Right_1.l0 k n x1 (x2) x3 (wrapA .i64 (x4 + (1 : Int))) q8.2))
      (some (Sum.inr (), h5))) := rfl
noncomputable def slices_IndexFunc_api_Volume_api_Volume_tree_Right_1.f (k : Nat) (a0 : Sl) (a1 : Option Addr) (h : H) : Option ((Int) × H) :=
  (slices_IndexFunc_api_Volume_api_Volume_tree_Right_1.l0 k k a0 (a1) (Int.ofNat a0.n) (0 : Int) h).bind fun w9 =>
    match w9.1 with
    | .inl r10 => some (r10, w9.2)
    | .inr o11 => some ((-1 : Int), w9.2)
noncomputable def slices_IndexFunc_api_Volume_api_Volume_tree_Right_1.T (k : Nat) : Tbl := tblOf [⟨93, anyArgs, wr [(.st [.str, .str, .bool, (.int .i64), .sl]), .ptr] [.bool] (fun a h => tree_Right_1.f k (a.1) (a.2) h)⟩]
noncomputable def slices_IndexFunc_api_Volume_api_Volume_tree_Right_1.an (k : Nat) (p : Nat) : Option Ann := cond (Nat.beq p 26) (some (.pass [] (lrun [(0, .sl), (1, (.fn 93 1)), (7, (.int .i64)), (8, (.int .i64))] (some [(4, (.int .i64))]) [] 0 (fun a h => slices_IndexFunc_api_Volume_api_Volume_tree_Right_1.l0 k k (a.1) (a.2.1) (a.2.2.1) (a.2.2.2) h))))
  (none)
noncomputable def slices_IndexFunc_api_Volume_api_Volume_tree_Right_1.body : Code := (Try.f111.body).getD .skip
noncomputable def slices_IndexFunc_api_Volume_api_Volume_tree_Right_1.c26 : Code := cat slices_IndexFunc_api_Volume_api_Volume_tree_Right_1.body [1, 0, 1, 0, 0]
set_option maxRecDepth 100000 in
theorem slices_IndexFunc_api_Volume_api_Volume_tree_Right_1.TS {C : FuncId → Bool} {X : CallF} (hX : XOk C X) (hK114 : CmpOk X 114) (k : Nat) : TblS Try.prog C X (slices_IndexFunc_api_Volume_api_Volume_tree_Right_1.T k) := by
  refine tblOf_sound ?_
  intro e he
  rcases List.mem_cons.1 he with rfl | he
  · exact wr_told (tree_Right_1.told hX hK114 k)
  exact absurd he List.not_mem_nil
set_option maxRecDepth 100000 in
theorem slices_IndexFunc_api_Volume_api_Volume_tree_Right_1.l0_pass {C : FuncId → Bool} {X : CallF} (hX : XOk C X) (hK114 : CmpOk X 114) (k n : Nat) : PassS Try.prog C X 19 (.loop slices_IndexFunc_api_Volume_api_Volume_tree_Right_1.c26) (lrun [(0, .sl), (1, (.fn 93 1)), (7, (.int .i64)), (8, (.int .i64))] (some [(4, (.int .i64))]) [] 0 (fun a h => slices_IndexFunc_api_Volume_api_Volume_tree_Right_1.l0 k n (a.1) (a.2.1) (a.2.2.1) (a.2.2.2) h)) :=
  loop_pass (ins := [(0, .sl), (1, (.fn 93 1)), (7, (.int .i64)), (8, (.int .i64))]) (rets := (some [(4, (.int .i64))])) (outs := []) (id := 0) (tbl := slices_IndexFunc_api_Volume_api_Volume_tree_Right_1.T k) (an := slices_IndexFunc_api_Volume_api_Volume_tree_Right_1.an k) (pb := 52) (slices_IndexFunc_api_Volume_api_Volume_tree_Right_1.TS hX hK114 k) (fun n => (fun a h => slices_IndexFunc_api_Volume_api_Volume_tree_Right_1.l0 k n (a.1) (a.2.1) (a.2.2.1) (a.2.2.2) h)) (fun a h => rfl) (fun n a h => by kernel_rfl)
    (by
      have e : need (slices_IndexFunc_api_Volume_api_Volume_tree_Right_1.an k) slices_IndexFunc_api_Volume_api_Volume_tree_Right_1.c26 52 = [] := by kernel_rfl
      rw [e]; intro q hq; cases hq) n
set_option maxRecDepth 100000 in
theorem slices_IndexFunc_api_Volume_api_Volume_tree_Right_1.eq (k : Nat) (a : RT [.sl, (.fn 93 1)]) (h : H) : (fun a h => slices_IndexFunc_api_Volume_api_Volume_tree_Right_1.f k (a.1) (a.2) h) a h = kfun Try.prog (slices_IndexFunc_api_Volume_api_Volume_tree_Right_1.T k) (slices_IndexFunc_api_Volume_api_Volume_tree_Right_1.an k) (RT [(.int .i64)] × H) Try.f111 (encL [.sl, (.fn 93 1)] a) h (fun vs h' => (decL [(.int .i64)] vs).bind fun x => some (x, h')) := by kernel_rfl
set_option maxRecDepth 100000 in
theorem slices_IndexFunc_api_Volume_api_Volume_tree_Right_1.told {C : FuncId → Bool} {X : CallF} (hX : XOk C X) (hK114 : CmpOk X 114) (k : Nat) : Den.Told Try.prog C X 111 [.sl, (.fn 93 1)] [(.int .i64)] (fun a h => slices_IndexFunc_api_Volume_api_Volume_tree_Right_1.f k (a.1) (a.2) h) :=
  told_of fun a h q e => fn_of (c := slices_IndexFunc_api_Volume_api_Volume_tree_Right_1.body) (slices_IndexFunc_api_Volume_api_Volume_tree_Right_1.TS hX hK114 k) Try.func111 (by kernel_rfl) (hX.no 111 _ h (by decide))
    (by
      have e : need (slices_IndexFunc_api_Volume_api_Volume_tree_Right_1.an k) slices_IndexFunc_api_Volume_api_Volume_tree_Right_1.body 1 = [(Code.loop slices_IndexFunc_api_Volume_api_Volume_tree_Right_1.c26, lrun [(0, .sl), (1, (.fn 93 1)), (7, (.int .i64)), (8, (.int .i64))] (some [(4, (.int .i64))]) [] 0 (fun a h => slices_IndexFunc_api_Volume_api_Volume_tree_Right_1.l0 k k (a.1) (a.2.1) (a.2.2.1) (a.2.2.2) h))] := by kernel_rfl
      rw [e]; intro q hq
      rcases List.mem_cons.1 hq with rfl | hq
      · exact slices_IndexFunc_api_Volume_api_Volume_tree_Right_1.l0_pass hX hK114 k k
      cases hq)
    ((slices_IndexFunc_api_Volume_api_Volume_tree_Right_1.eq k a h).symm.trans e)
/-! ### slices.ContainsFunc[[]corbel/api.Volume,corbel/api.Volume] -/
noncomputable def slices_ContainsFunc_api_Volume_api_Volume_tree_Right_1.f (k : Nat) (a0 : Sl) (a1 : Option Addr) (h : H) : Option ((Bool) × H) :=
  (slices_IndexFunc_api_Volume_api_Volume_tree_Right_1.f k a0 (a1) h).bind fun q1 =>
    some (decide (q1.1 ≥ (0 : Int)), q1.2)
noncomputable def slices_ContainsFunc_api_Volume_api_Volume_tree_Right_1.T (k : Nat) : Tbl := tblOf [⟨111, chkF [(1, 93)], wr [.sl, (.fn 93 1)] [(.int .i64)] (fun a h => slices_IndexFunc_api_Volume_api_Volume_tree_Right_1.f k (a.1) (a.2) h)⟩]
noncomputable def slices_ContainsFunc_api_Volume_api_Volume_tree_Right_1.an (k : Nat) (p : Nat) : Option Ann := none
noncomputable def slices_ContainsFunc_api_Volume_api_Volume_tree_Right_1.body : Code := (Try.f89.body).getD .skip
set_option maxRecDepth 100000 in
theorem slices_ContainsFunc_api_Volume_api_Volume_tree_Right_1.TS {C : FuncId → Bool} {X : CallF} (hX : XOk C X) (hK114 : CmpOk X 114) (k : Nat) : TblS Try.prog C X (slices_ContainsFunc_api_Volume_api_Volume_tree_Right_1.T k) := by
  refine tblOf_sound ?_
  intro e he
  rcases List.mem_cons.1 he with rfl | he
  · exact wr_told (slices_IndexFunc_api_Volume_api_Volume_tree_Right_1.told hX hK114 k)
  exact absurd he List.not_mem_nil
set_option maxRecDepth 100000 in
theorem slices_ContainsFunc_api_Volume_api_Volume_tree_Right_1.eq (k : Nat) (a : RT [.sl, (.fn 93 1)]) (h : H) : (fun a h => slices_ContainsFunc_api_Volume_api_Volume_tree_Right_1.f k (a.1) (a.2) h) a h = kfun Try.prog (slices_ContainsFunc_api_Volume_api_Volume_tree_Right_1.T k) (slices_ContainsFunc_api_Volume_api_Volume_tree_Right_1.an k) (RT [.bool] × H) Try.f89 (encL [.sl, (.fn 93 1)] a) h (fun vs h' => (decL [.bool] vs).bind fun x => some (x, h')) := by kernel_rfl
set_option maxRecDepth 100000 in
theorem slices_ContainsFunc_api_Volume_api_Volume_tree_Right_1.told {C : FuncId → Bool} {X : CallF} (hX : XOk C X) (hK114 : CmpOk X 114) (k : Nat) : Den.Told Try.prog C X 89 [.sl, (.fn 93 1)] [.bool] (fun a h => slices_ContainsFunc_api_Volume_api_Volume_tree_Right_1.f k (a.1) (a.2) h) :=
  told_of fun a h q e => fn_of (c := slices_ContainsFunc_api_Volume_api_Volume_tree_Right_1.body) (slices_ContainsFunc_api_Volume_api_Volume_tree_Right_1.TS hX hK114 k) Try.func89 (by kernel_rfl) (hX.no 89 _ h (by decide))
    (by
      have e : need (slices_ContainsFunc_api_Volume_api_Volume_tree_Right_1.an k) slices_ContainsFunc_api_Volume_api_Volume_tree_Right_1.body 1 = [] := by kernel_rfl
      rw [e]; intro q hq; cases hq)
    ((slices_ContainsFunc_api_Volume_api_Volume_tree_Right_1.eq k a h).symm.trans e)
/-! ### corbel/tree.Right -/
noncomputable def tree_Right.l0 (k : Nat) (n : Nat) : (Option Addr) → Sl → Int → Int → H → Option (((Bool) ⊕ (Unit)) × H) :=
  Nat.rec (motive := fun _ => (Option Addr) → Sl → Int → Int → H → Option (((Bool) ⊕ (Unit)) × H)) (fun _ _ _ _ _ => none) (fun _ ih x2 x3 x4 x5 h6 => cond (decide (x5 < x4))
      ((asP (ixs 5 x3.a x3.n x5)).bind fun p7 =>
    (asSt [.str, .str, .bool, (.int .i64), .sl] (lda 5 h6 p7)).bind fun s8 =>
    (stv 5 (newR h6 58 5 [(Value.string (⟨#[]⟩ : ByteArray)), (Value.string (⟨#[]⟩ : ByteArray)), (Value.bool false), (Value.int .i64 (0 : Int)), (Value.slice none 0 0)]) (some ⟨h6.next, 0, none⟩) [(Value.string s8.1), (Value.string s8.2.1), (Value.bool s8.2.2.1), (Value.int .i64 s8.2.2.2.1), (Value.slice s8.2.2.2.2.a s8.2.2.2.2.n s8.2.2.2.2.c)]).bind fun q9 =>
    (cond (decide (x5 > (0 : Int))) ((asS (ldc q9.2 x2)).bind fun s10 =>
    (asP (ixs 5 s10.a s10.n (wrapA .i64 (x5 - (1 : Int))))).bind fun p11 =>
    (asP (fadd 0 p11)).bind fun p12 =>
    (asT (ldc q9.2 p12)).bind fun s13 =>
    (asT (ldc q9.2 (some ⟨h6.next, 0, none⟩))).bind fun s14 =>
    some (!(Op.bytesLess s13.toList s14.toList), q9.2, [], []))
      (some (false, q9.2, [], [])) : Option (Bool × H × LEs × EFs)).bind fun g15 =>
    (cond g15.1 (some (true, g15.2.1, [], []))
      ((asT (ldc g15.2.1 (some ⟨h6.next, 0, none⟩))).bind fun s16 =>
    (tree_IsName.f k s16 g15.2.1).bind fun q17 =>
    some (!q17.1, q17.2, [], [])) : Option (Bool × H × LEs × EFs)).bind fun g18 =>
    (cond g18.1 (some (true, g18.2.1, [], []))
      ((asI .i64 (ldc g18.2.1 (some ⟨h6.next, 3, none⟩))).bind fun n19 =>
    (asS (ldc g18.2.1 (some ⟨h6.next, 4, none⟩))).bind fun s20 =>
    (extent_Right.f k n19 s20 g18.2.1).bind fun q21 =>
    some (!q21.1, q21.2, [], [])) : Option (Bool × H × LEs × EFs)).bind fun g22 =>
    cond g22.1
      (some (Sum.inl false, g22.2.1))
      (ih x2 x3 x4 (wrapA .i64 (x5 + (1 : Int))) g22.2.1))
      (some (Sum.inr (), h6))) n
theorem tree_Right.l0_zero (k : Nat) (x2 : Option Addr) (x3 : Sl) (x4 : Int) (x5 : Int) (h6 : H) : tree_Right.l0 k 0 x2 x3 x4 x5 h6 = none := rfl
theorem tree_Right.l0_succ (k n : Nat) (x2 : Option Addr) (x3 : Sl) (x4 : Int) (x5 : Int) (h6 : H) : tree_Right.l0 k (n + 1) x2 x3 x4 x5 h6 = (cond (decide (x5 < x4))
      ((asP (ixs 5 x3.a x3.n x5)).bind fun p7 =>
    (asSt [.str, .str, .bool, (.int .i64), .sl] (lda 5 h6 p7)).bind fun s8 =>
    (stv 5 (newR h6 58 5 [(Value.string (⟨#[]⟩ : ByteArray)), (Value.string (⟨#[]⟩ : ByteArray)), (Value.bool false), (Value.int .i64 (0 : Int)), (Value.slice none 0 0)]) (some ⟨h6.next, 0, none⟩) [(Value.string s8.1), (Value.string s8.2.1), (Value.bool s8.2.2.1), (Value.int .i64 s8.2.2.2.1), (Value.slice s8.2.2.2.2.a s8.2.2.2.2.n s8.2.2.2.2.c)]).bind fun q9 =>
    (cond (decide (x5 > (0 : Int))) ((asS (ldc q9.2 x2)).bind fun s10 =>
    (asP (ixs 5 s10.a s10.n (wrapA .i64 (x5 - (1 : Int))))).bind fun p11 =>
    (asP (fadd 0 p11)).bind fun p12 =>
    (asT (ldc q9.2 p12)).bind fun s13 =>
    (asT (ldc q9.2 (some ⟨h6.next, 0, none⟩))).bind fun s14 =>
    some (!(Op.bytesLess s13.toList s14.toList), q9.2, [], []))
      (some (false, q9.2, [], [])) : Option (Bool × H × LEs × EFs)).bind fun g15 =>
    (cond g15.1 (some (true, g15.2.1, [], []))
      ((asT (ldc g15.2.1 (some ⟨h6.next, 0, none⟩))).bind fun s16 =>
    (tree_IsName.f k s16 g15.2.1).bind fun q17 =>
    some (!q17.1, q17.2, [], [])) : Option (Bool × H × LEs × EFs)).bind fun g18 =>
    (cond g18.1 (some (true, g18.2.1, [], []))
      ((asI .i64 (ldc g18.2.1 (some ⟨h6.next, 3, none⟩))).bind fun n19 =>
    (asS (ldc g18.2.1 (some ⟨h6.next, 4, none⟩))).bind fun s20 =>
    (extent_Right.f k n19 s20 g18.2.1).bind fun q21 =>
    some (!q21.1, q21.2, [], [])) : Option (Bool × H × LEs × EFs)).bind fun g22 =>
    cond g22.1
      (some (Sum.inl false, g22.2.1))
      (tree_Right.l0 k n x2 x3 x4 (wrapA .i64 (x5 + (1 : Int))) g22.2.1))
      (some (Sum.inr (), h6))) := rfl
noncomputable def tree_Right.f (k : Nat) (a0 : Sl) (h : H) : Option ((Bool) × H) :=
  (asS (ldc (newR h 59 1 [(Value.slice a0.a a0.n a0.c)]) (some ⟨h.next, 0, none⟩))).bind fun s1 =>
    (tree_Right.l0 k k (some ⟨h.next, 0, none⟩) s1 (Int.ofNat s1.n) (0 : Int) (newR h 59 1 [(Value.slice a0.a a0.n a0.c)])).bind fun w23 =>
    match w23.1 with
    | .inl r24 => some (r24, w23.2)
    | .inr o25 => (asS (ldc w23.2 (some ⟨h.next, 0, none⟩))).bind fun s26 =>
    (cond (decide ((Int.ofNat s26.n) ≤ (12 : Int))) ((asS (ldc w23.2 (some ⟨h.next, 0, none⟩))).bind fun s27 =>
    (slices_ContainsFunc_api_Volume_api_Volume_tree_Right_1.f k s27 ((some ⟨h.next, 0, none⟩)) w23.2).bind fun q28 =>
    some (!q28.1, q28.2))
      (some (false, w23.2))).bind fun g29 =>
    some (g29.1, g29.2)
noncomputable def tree_Right.T (k : Nat) : Tbl := tblOf [⟨65, anyArgs, wr [.str] [.bool] (fun a h => tree_IsName.f k a h)⟩,
  ⟨30, anyArgs, wr [(.int .i64), .sl] [.bool] (fun a h => extent_Right.f k (a.1) (a.2) h)⟩,
  ⟨89, chkF [(1, 93)], wr [.sl, (.fn 93 1)] [.bool] (fun a h => slices_ContainsFunc_api_Volume_api_Volume_tree_Right_1.f k (a.1) (a.2) h)⟩]
noncomputable def tree_Right.an (k : Nat) (p : Nat) : Option Ann := cond (Nat.beq p 26) (some (.pass [1] (lrun [(1, .ptr), (5, .sl), (6, (.int .i64)), (7, (.int .i64))] (some [(2, .bool)]) [] 0 (fun a h => tree_Right.l0 k k (a.1) (a.2.1) (a.2.2.1) (a.2.2.2) h))))
  (none)
noncomputable def tree_Right.body : Code := (Try.f56.body).getD .skip
noncomputable def tree_Right.c26 : Code := cat tree_Right.body [1, 0, 1, 0, 0]
set_option maxRecDepth 100000 in
theorem tree_Right.TS {C : FuncId → Bool} {X : CallF} (hX : XOk C X) (hK114 : CmpOk X 114) (k : Nat) : TblS Try.prog C X (tree_Right.T k) := by
  refine tblOf_sound ?_
  intro e he
  rcases List.mem_cons.1 he with rfl | he
  · exact wr_told (tree_IsName.told hX k)
  rcases List.mem_cons.1 he with rfl | he
  · exact wr_told (extent_Right.told hX k)
  rcases List.mem_cons.1 he with rfl | he
  · exact wr_told (slices_ContainsFunc_api_Volume_api_Volume_tree_Right_1.told hX hK114 k)
  exact absurd he List.not_mem_nil
set_option maxRecDepth 100000 in
theorem tree_Right.l0_pass {C : FuncId → Bool} {X : CallF} (hX : XOk C X) (hK114 : CmpOk X 114) (k n : Nat) : PassS Try.prog C X 49 (.loop tree_Right.c26) (lrun [(1, .ptr), (5, .sl), (6, (.int .i64)), (7, (.int .i64))] (some [(2, .bool)]) [] 0 (fun a h => tree_Right.l0 k n (a.1) (a.2.1) (a.2.2.1) (a.2.2.2) h)) :=
  loop_pass (ins := [(1, .ptr), (5, .sl), (6, (.int .i64)), (7, (.int .i64))]) (rets := (some [(2, .bool)])) (outs := []) (id := 0) (tbl := tree_Right.T k) (an := tree_Right.an k) (pb := 52) (tree_Right.TS hX hK114 k) (fun n => (fun a h => tree_Right.l0 k n (a.1) (a.2.1) (a.2.2.1) (a.2.2.2) h)) (fun a h => rfl) (fun n a h => by kernel_rfl)
    (by
      have e : need (tree_Right.an k) tree_Right.c26 52 = [] := by kernel_rfl
      rw [e]; intro q hq; cases hq) n
set_option maxRecDepth 100000 in
theorem tree_Right.eq (k : Nat) (a : RT [.sl]) (h : H) : (fun a h => tree_Right.f k a h) a h = kfun Try.prog (tree_Right.T k) (tree_Right.an k) (RT [.bool] × H) Try.f56 (encL [.sl] a) h (fun vs h' => (decL [.bool] vs).bind fun x => some (x, h')) := by kernel_rfl
set_option maxRecDepth 100000 in
theorem tree_Right.told {C : FuncId → Bool} {X : CallF} (hX : XOk C X) (hK114 : CmpOk X 114) (k : Nat) : Den.Told Try.prog C X 56 [.sl] [.bool] (fun a h => tree_Right.f k a h) :=
  told_of fun a h q e => fn_of (c := tree_Right.body) (tree_Right.TS hX hK114 k) Try.func56 (by kernel_rfl) (hX.no 56 _ h (by decide))
    (by
      have e : need (tree_Right.an k) tree_Right.body 1 = [(Code.loop tree_Right.c26, lrun [(1, .ptr), (5, .sl), (6, (.int .i64)), (7, (.int .i64))] (some [(2, .bool)]) [] 0 (fun a h => tree_Right.l0 k k (a.1) (a.2.1) (a.2.2.1) (a.2.2.2) h))] := by kernel_rfl
      rw [e]; intro q hq
      rcases List.mem_cons.1 hq with rfl | hq
      · exact tree_Right.l0_pass hX hK114 k k
      cases hq)
    ((tree_Right.eq k a h).symm.trans e)
/-! ### corbel/meta.Lay -/
/-! ### (*corbel/meta.reader).volume -/
/-! ### corbel/meta.Read -/
/-! ### corbel/corbelref7.SameInts -/
/-! ### corbel/corbelref16.SameVolume -/
/-! ### corbel/corbelref16.SameTree -/
/-! ### slices.Chunk[[]byte,byte] -/
/-! ### corbel/meta.Cut -/
/-! ### corbel/corbellaw19.MetaBack -/
/-! ### corbel/corbellaw19.MetaSizes -/
/-! ### corbel/corbelhand.Odd -/
/-! ### corbel/corbelref16.Lay -/
/-! ### corbel/corbelref16.take -/
/-! ### corbel/corbelref16.Read -/
/-! ### corbel/corbelref16.Cut -/
/-! ### corbel/corbellaw19.MetaLays -/
end Go.Proofs.Ytfenkpghcbohdaa.Fwd
